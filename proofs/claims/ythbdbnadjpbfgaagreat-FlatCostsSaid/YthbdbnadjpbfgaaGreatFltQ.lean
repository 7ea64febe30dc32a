/- What the proof stands on: FltO, FltP, FltQ. -/
import Derived.Test.YthbdbnadjpbfgaaGreatFltN
/- Loads and stores where they may be. -/
namespace Go.Dn

variable {A : AH} {l R L : List SP} {P P' : SP} {i k : Nat}
def gbU (gb : Int → Nat) (x : Int) (g : Nat) : Int → Nat := fun i => if i = x then g else gb i
def bbU (bb : Nat → Nat) (n b : Nat) : Nat → Nat := fun i => if i = n then b else bb i
def resC (pid x e fa fc : Int) (up : Bool) : List Value := [.int .i64 pid, .int .u64 x, .int .i64 e, .int .u64 fa, .int .i64 fc, .bool up]
set_option maxRecDepth 100000 in
theorem mem_ok {pb rb bi m t : Nat} {gb : Int → Nat} {bb : Nat → Nat} {p : FPr} {bytes : List (List Int)} {mc : List Value} {ns : List Nd} {nd : Nd} {y : Reg} {q1 q2 q3 q4 q5 q6 pid addr size op x : Int} {z1 z2 z3 : Bool} {Q : AP}
    (h : Own (PrS pb gb bb p :: TreeS t ns :: Own (byL bb 0 bytes) :: At m mc :: At rb (resC pid 0 0 0 0 false) :: R) A)
    (hm : mc[0]? = some (.pointer (some ⟨t, 0, none⟩))) (hbox : p.box = bi) (hn : ns[bi]? = some nd) (hlv : nd.live = true) (hrl : p.regs.length ≤ 100000) (hreg : findR p.regs (addr / 4096) = some y) (hu : y.u = true) (hw : op = 5 → y.w = true)
    (hwf : ∀ q ∈ p.pages, q.2.1 < bytes.length) (hbl : ∀ b ∈ bytes, b.length = 4096 ∧ ∀ v ∈ b, 0 ≤ v ∧ v < 256) (h0 : 0 ≤ addr ∧ addr < 140737488355328) (hx : 0 ≤ x) (hs : 0 ≤ size ∧ size ≤ 8) (hoff : addr % 4096 + size ≤ 4096)
    (hold : ∀ yi lent bs, p.pages.lookup (addr / 4096) = some (yi, lent) → bytes[yi]? = some bs → ∀ A', Own (PrS pb gb bb p :: TreeS t ns :: Own (byL bb 0 (if op = 5 then bytes.set yi (wrB bs (addr % 4096).toNat x size.toNat) else bytes)) :: At m mc ::
      At rb (resC pid (if op = 5 then 0 else rdB bs (addr % 4096).toNat size.toNat) 0 0 0 false) :: R) A' → Q A')
    (hfull : p.pages.lookup (addr / 4096) = none → nd.quo - nd.use - nd.lent < 3 - sharedZ (keysP p.pages) (addr / 4096) + 1 → ∀ A', Own (PrS pb gb bb p :: TreeS t ns :: Own (byL bb 0 bytes) :: At m mc :: At rb (resC pid 0 8 0 0 false) :: R) A' → Q A')
    (hnew : p.pages.lookup (addr / 4096) = none → 3 - sharedZ (keysP p.pages) (addr / 4096) + 1 ≤ nd.quo - nd.use - nd.lent → ∀ g b A', Own (PrS pb (gbU gb (addr / 4096) g) (bbU bb bytes.length b) { p with pages := p.pages ++ [(addr / 4096, (bytes.length, 0))] } ::
      TreeS t (ns.set bi { nd with use := nd.use + (3 - sharedZ (keysP p.pages) (addr / 4096) + 1) }) :: Own (byL (bbU bb bytes.length b) 0 (bytes ++ [if op = 5 then wrB zeroP (addr % 4096).toNat x size.toNat else zeroP])) :: At m mc ::
      At rb (resC pid (if op = 5 then 0 else rdB zeroP (addr % 4096).toNat size.toNat) 0 0 0 false) :: R) A' → Q A') :
    flat_Model_memory_A (some ⟨m, 0, none⟩) (some ⟨pb, 0, none⟩) op q1 q2 z1 z2 z3 addr size x q3 q4 q5 q6 (some ⟨rb, 0, none⟩) Q A := by
  have hat : IntKind.wrap .i64 (IntKind.wrap .u64 (Int.tdiv addr 4096)) = addr / 4096 := by
    rw [Int.tdiv_eq_ediv_of_nonneg h0.1, wu64 (by omega) (by omega), w64 (by omega) (by omega)]
  unfold flat_Model_memory_A flat_Model_memory_G
  rw [hat]
  generalize hpg : addr / 4096 = at' at *
  obtain ⟨rs, mb, hrs, h1⟩ := PrS.openH h
  simp only [onSome, add_at, Nat.zero_add]
  refine ld_S (i := 0) h1 rfl rfl (Find_spec (k := 1) h1 rfl reads_slo hrl (fun z => by rw [hreg] at z; cases z) fun y' hy' _ _ _ => ?_)
  rw [hreg] at hy'
  cases hy'
  refine ld_M (i := 0) h1 rfl rfl (lk_M (i := 2) h1 rfl ?_)
  rw [lookup_pgM]
  refine ⟨(p.pages.lookup at').map fun _ => ⟨gb at', 0, none⟩, by cases p.pages.lookup at' <;> rfl, ?_⟩
  refine ⟨fun A' => A' = A, fun A' e => ?_, fun b A' => b = false ∧ A' = A, fun b A' ⟨e1, e2⟩ => by subst e1 e2; exact bsel_f rfl rfl, bsel_f rfl (may_spec ⟨?_, rfl⟩)⟩
  · subst e
    cases hlk : p.pages.lookup at' with
    | some v =>
      obtain ⟨yi, lent⟩ := v
      obtain ⟨j, hj⟩ := lookup_at hlk
      have hyl := hwf _ (List.mem_of_getElem? hj)
      obtain ⟨bs, hbs⟩ : ∃ bs, bytes[yi]? = some bs := ⟨bytes[yi]'hyl, by simp⟩
      obtain ⟨hb1, hb2⟩ := hbl bs (List.mem_of_getElem? hbs)
      refine ⟨fun pt A2 => pt = some ⟨gb at', 0, none⟩ ∧ A2 = A', fun pt A2 ⟨e1, e2⟩ => ?_, bsel_f rfl ⟨rfl, rfl⟩⟩
      subst e1 e2
      obtain ⟨X, h2, back⟩ := page_open h1 hj hbs
      have hh := hold yi lent bs hlk hbs
      refine mem_loop h2 rfl hb1 hb2 h0.1 hx hs hoff (fun hop A3 h3 => hh A3 ?_) fun hop A3 h3 => hh A3 ?_
      · have := back _ _ A3 h3
        rw [if_pos hop, if_pos hop]
        exact PrS.closeH hrs this
      · have := back bs _ A3 h3
        rw [set_self hbs] at this
        rw [if_neg hop, if_neg hop]
        exact PrS.closeH hrs this
    | none =>
      have hbeq : ∀ b j, j < bytes.length → bbU bb bytes.length b j = bb j := fun b j hj => if_neg (by omega)
      refine ⟨fun pt A2 => ∃ g b, pt = some ⟨g, 0, none⟩ ∧ 3 - sharedZ (keysP p.pages) at' + 1 ≤ nd.quo - nd.use - nd.lent ∧ Own (PrS pb (gbU gb at' g) (bbU bb bytes.length b) { p with pages := p.pages ++ [(at', (bytes.length, 0))] } ::
        TreeS t (ns.set bi { nd with use := nd.use + (3 - sharedZ (keysP p.pages) at' + 1) }) :: Own (byL (bbU bb bytes.length b) 0 (bytes ++ [zeroP])) :: At m mc :: At rb (resC pid 0 0 0 0 false) :: R) A2, fun pt A2 ⟨g, b, e1, e2, h2⟩ => ?_, ?_⟩
      · subst e1
        obtain ⟨rs, mb, hrs, h3⟩ := PrS.openH h2
        have hj : (p.pages ++ [(at', (bytes.length, (0 : Int)))])[p.pages.length]? = some (at', (bytes.length, 0)) := by simp
        have hbs : (bytes ++ [zeroP])[bytes.length]? = some zeroP := by simp
        obtain ⟨X, h4, back⟩ := page_open h3 hj hbs
        have hg : gbU gb at' g at' = g := if_pos rfl
        rw [hg] at h4 back
        have hh := hnew hlk e2 g b
        refine mem_loop h4 rfl (by unfold zeroP; rw [List.length_replicate]) (fun v hv => by have := List.eq_of_mem_replicate hv; omega) h0.1 hx hs hoff (fun hop A3 h5 => hh A3 ?_) fun hop A3 h5 => hh A3 ?_
        · have := back _ _ A3 h5
          have e5 : (bytes ++ [zeroP]).set bytes.length (wrB zeroP (addr % 4096).toNat x size.toNat) = bytes ++ [wrB zeroP (addr % 4096).toNat x size.toNat] := by
            rw [List.set_append_right _ _ (Nat.le_refl _), Nat.sub_self]; rfl
          rw [e5] at this
          rw [if_pos hop, if_pos hop]
          exact PrS.closeH (p := { p with pages := p.pages ++ [(at', (bytes.length, 0))] }) hrs this
        · have := back zeroP _ A3 h5
          rw [set_self hbs] at this
          rw [if_neg hop, if_neg hop]
          exact PrS.closeH (p := { p with pages := p.pages ++ [(at', (bytes.length, 0))] }) hrs this
      · refine bsel_t rfl ?_
        rw [zeroP_cells]
        refine new_C (cs := u8C zeroP) h fun b A2 h2 => new_C (cs := [.pointer (some ⟨b, 0, none⟩), .int .i64 0]) h2 fun g A3 h3 => ?_
        have hbn : bbU bb bytes.length b bytes.length = b := if_pos rfl
        have h4 : Own (PrS pb gb (bbU bb bytes.length b) p :: TreeS t ns :: At g [.pointer (some ⟨bbU bb bytes.length b bytes.length, 0, none⟩), .int .i64 0] :: At m mc :: At b (u8C zeroP) :: Own (byL bb 0 bytes) :: At rb (resC pid 0 0 0 0 false) :: R) A3 := by
          rw [PrS_congr (hbeq b) hwf, hbn]
          have h3 : Own (At g [.pointer (some ⟨b, 0, none⟩), .int .i64 0] :: At b (u8C zeroP) :: PrS pb gb bb p :: TreeS t ns :: Own (byL bb 0 bytes) :: At m mc :: At rb (resC pid 0 0 0 0 false) :: R) A3 := h3
          exact ((((((h3.pick 6 rfl).pick 5 rfl).pick 3 rfl).pick 6 rfl).pick 4 rfl).pick 6 rfl).pick 6 rfl
        refine add_spec (y := bytes.length) (lent := 0) (own := true) h4 hm hbox hn hlv hlk (fun q A4 h5 => ?_) fun q A4 h5 => ?_
        · have h5 : Own (PrS pb gb bb p :: TreeS t ns :: At g [.pointer (some ⟨b, 0, none⟩), .int .i64 0] :: At m mc :: At b (u8C zeroP) :: Own (byL bb 0 bytes) :: At rb (resC pid 0 0 0 0 false) :: R) A4 := by
            rw [PrS_congr (hbeq b) hwf, hbn] at h5; exact h5
          refine st_C (i := 6) h5 rfl rfl rfl fun A5 h6 => ?_
          have h6 : Own (PrS pb gb bb p :: TreeS t ns :: At g [.pointer (some ⟨b, 0, none⟩), .int .i64 0] :: At m mc :: At b (u8C zeroP) :: Own (byL bb 0 bytes) :: At rb (resC pid 0 8 0 0 false) :: R) A5 := h6
          refine ld_I (i := 6) h6 rfl rfl (bsel_t rfl (hfull hlk (by simpa using q) A5 ?_))
          have h7 : Own (PrS pb gb bb p :: TreeS t ns :: At m mc :: Own (byL bb 0 bytes) :: At rb (resC pid 0 8 0 0 false) :: R) A5 := h6.cons fun C hC => hC.cons fun D hD => hD.tail.cons fun E hE => hE.tail
          exact h7.cons fun C hC => hC.cons fun D hD => hD.swap
        · have h5 : Own (PrS pb (gbU gb at' g) (bbU bb bytes.length b) { p with pages := p.pages ++ [(at', (bytes.length, 0))] } :: TreeS t (ns.set bi { nd with use := nd.use + (3 - sharedZ (keysP p.pages) at' + 1) }) :: At m mc :: At b (u8C zeroP) :: Own (byL bb 0 bytes) :: At rb (resC pid 0 0 0 0 false) :: R) A4 := h5
          refine st_C (i := 5) h5 rfl rfl rfl fun A5 h6 => ?_
          have h6 : Own (PrS pb (gbU gb at' g) (bbU bb bytes.length b) { p with pages := p.pages ++ [(at', (bytes.length, 0))] } :: TreeS t (ns.set bi { nd with use := nd.use + (3 - sharedZ (keysP p.pages) at' + 1) }) :: At m mc :: At b (u8C zeroP) :: Own (byL bb 0 bytes) :: At rb (resC pid 0 0 0 0 false) :: R) A5 := h6
          refine ld_I (i := 5) h6 rfl rfl (bsel_f rfl ⟨g, b, rfl, by simpa using q, ?_⟩)
          have e6 : byL (bbU bb bytes.length b) 0 (bytes ++ [zeroP]) = byL bb 0 bytes ++ [At b (u8C zeroP)] := by
            rw [byL_app, byL_congr (bb := bb) fun j hj => by rw [Nat.zero_add]; exact hbeq b j hj, Nat.zero_add, hbn]
          rw [e6]
          have h7 := (h6.pick 4 rfl).flat
          have h7 : Own (byL bb 0 bytes ++ ([PrS pb (gbU gb at' g) (bbU bb bytes.length b) { p with pages := p.pages ++ [(at', (bytes.length, 0))] }, TreeS t (ns.set bi { nd with use := nd.use + (3 - sharedZ (keysP p.pages) at' + 1) }), At m mc, At b (u8C zeroP), At rb (resC pid 0 0 0 0 false)] ++ R)) A5 := h7
          have h8 : Own ((byL bb 0 bytes ++ [At b (u8C zeroP)]) ++ ([PrS pb (gbU gb at' g) (bbU bb bytes.length b) { p with pages := p.pages ++ [(at', (bytes.length, 0))] }, TreeS t (ns.set bi { nd with use := nd.use + (3 - sharedZ (keysP p.pages) at' + 1) }), At m mc, At rb (resC pid 0 0 0 0 false)] ++ R)) A5 := by
            refine h7.perm ?_
            rw [List.append_assoc]
            refine List.Perm.append_left _ ?_
            exact List.perm_middle (l₁ := [PrS pb (gbU gb at' g) (bbU bb bytes.length b) { p with pages := p.pages ++ [(at', (bytes.length, 0))] }, TreeS t (ns.set bi { nd with use := nd.use + (3 - sharedZ (keysP p.pages) at' + 1) }), At m mc])
          have h9 := Own.app h8
          exact (h9.pick 2 rfl).pick 2 rfl
  · by_cases hop : op = 5
    · rw [hu, hw hop]; simp
    · rw [hu]; simp [hop]
end Go.Dn
/- One process: pages more, what it asks. -/
namespace Go.Dn

variable {A : AH} {l R L : List SP} {P P' : SP} {i k : Nat}
theorem map_spec {pb : Nat} {gb : Int → Nat} {bb : Nat → Nat} {p : FPr} {m : Option Addr} {y : Reg} {q1 q2 q3 q4 q5 q6 q7 : Int} {Q : Int → AP} (hy : y.k = 0) (h : Own (PrS pb gb bb p :: R) A)
    (hk0 : addE p.regs y ≠ 0 → ∀ A', Own (PrS pb gb bb p :: R) A' → Q (addE p.regs y) A') (hk : addE p.regs y = 0 → ∀ A', Own (PrS pb gb bb { p with regs := addL p.regs y } :: R) A' → Q 0 A') :
    flat_Model_change_A m (some ⟨pb, 0, none⟩) 1 y.a y.b y.w y.u y.x q1 q2 q3 q4 q5 q6 q7 Q A := by
  obtain ⟨rs, mb, hrs, h1⟩ := PrS.openH h
  unfold flat_Model_change_A flat_Model_change_G
  simp only [onSome, add_at, Nat.zero_add]
  refine ⟨fun s e A' => (e ≠ 0 ∧ e = addE p.regs y ∧ Own (PrS pb gb bb p :: R) A') ∨ (e = 0 ∧ addE p.regs y = 0 ∧ s.a ≠ none ∧ Own (SlO s 6 (regC (addL p.regs y)) :: At pb (p.cells rs mb) :: SlO rs 6 (regC p.regs) :: MapI mb .i64 (pgM gb p.pages) :: Own (pgL gb bb p.pages) :: R) A'), fun s e A' he => ?_, ?_⟩
  · rcases he with ⟨e1, e2, h2⟩ | ⟨e1, e2, e3, h2⟩
    · exact ⟨fun _ => False, fun _ z => z.elim, bsel_t (by simp [e1]) (by rw [e2]; exact hk0 (by rw [← e2]; exact e1) A' h2)⟩
    · subst e1
      refine ⟨fun A2 => A2 = A', fun A2 e => ?_, bsel_f rfl (bsel_f rfl rfl)⟩
      subst e
      refine ⟨fun A3 => A3 = A2, fun A3 e => ?_, bsel_f rfl rfl⟩
      subst e
      refine st_C (i := 1) h2 rfl rfl rfl fun A4 h3 => hk e2 A4 ?_
      have h3 : Own (SlO s 6 (regC (addL p.regs y)) :: At pb (FPr.cells { p with regs := addL p.regs y } s mb) :: SlO rs 6 (regC p.regs) :: MapI mb .i64 (pgM gb p.pages) :: Own (pgL gb bb p.pages) :: R) A4 := h3
      exact PrS.closeH (p := { p with regs := addL p.regs y }) (fun z => absurd z e3) (h3.swap.cons fun C hC => hC.cons fun D hD => hD.tail)
  · refine bsel_t rfl (ld_S (i := 0) h1 rfl rfl ?_)
    have := Add_spec (y := y) (s := rs) (k := 1) (Q := fun s4 n5 h6 => (n5 ≠ 0 ∧ n5 = addE p.regs y ∧ Own (PrS pb gb bb p :: R) h6) ∨ (n5 = 0 ∧ addE p.regs y = 0 ∧ s4.a ≠ none ∧ Own (SlO s4 6 (regC (addL p.regs y)) :: At pb (p.cells rs mb) :: SlO rs 6 (regC p.regs) :: MapI mb .i64 (pgM gb p.pages) :: Own (pgL gb bb p.pages) :: R) h6)) h1 rfl reads_slo hrs
      (fun A' h2 e => .inl ⟨e, rfl, PrS.closeH hrs h2⟩) (fun s' A' e e2 h2 => .inr ⟨rfl, e, e2, h2⟩)
    rw [hy] at this
    exact this
/-- A model with one process: its parts. -/
def f1L (m t q pm pb : Nat) (gb : Int → Nat) (bb : Nat → Nat) (ns : List Nd) (qn tk : Int) (p : FPr) (bytes : List (List Int)) (l : List SP) : List SP :=
  At m [.pointer (some ⟨t, 0, none⟩), .pointer (some ⟨q, 0, none⟩), .map none, .map (some pm)] :: TreeS t ns :: QueS q qn tk [0] :: MapI pm .i64 [(0, .pointer (some ⟨pb, 0, none⟩))] :: PrS pb gb bb p :: Own (byL bb 0 bytes) :: l
theorem f1_word {x : Int} (hx : 0 ≤ x ∧ x < 18446744073709551616) : 0 ≤ x ∧ x < 18446744073709551616 := hx
/-- A call that maps pages. -/
theorem Do_map {m t q pm pb : Nat} {gb : Int → Nat} {bb : Nat → Nat} {ns : List Nd} {qn tk : Int} {p : FPr} {bytes : List (List Int)} {w0 w1 w2 w3 w4 w5 : Int} {c : CallR} {Q : Int → Int → Int → Int → Int → Bool → AP} (hb : ∀ x ∈ [w0, w1, w2, w3, w4, w5], 0 ≤ x ∧ x < 18446744073709551616)
    (hc : callZ6 w0 w1 w2 w3 w4 w5 = some c) (hop : c.op = 1) (h : Own (f1L m t q pm pb gb bb ns qn tk p bytes l) A)
    (hk0 : addE p.regs ⟨c.a, c.b, c.pw, c.pu, c.px, 0⟩ ≠ 0 → ∀ A', Own (f1L m t q pm pb gb bb ns qn tk p bytes l) A' → Q 0 0 (addE p.regs ⟨c.a, c.b, c.pw, c.pu, c.px, 0⟩) 0 0 false A')
    (hk : addE p.regs ⟨c.a, c.b, c.pw, c.pu, c.px, 0⟩ = 0 → ∀ A', Own (f1L m t q pm pb gb bb ns qn tk { p with regs := addL p.regs ⟨c.a, c.b, c.pw, c.pu, c.px, 0⟩ } bytes l) A' → Q 0 0 0 0 0 false A') :
    flat_Model_Do_A (some ⟨m, 0, none⟩) w0 w1 w2 w3 w4 w5 Q A := by
  unfold flat_Model_Do_A flat_Model_Do_G
  simp only [onSome, add_at, Nat.zero_add]
  refine ld_P (i := 0) h rfl rfl (bsel_f rfl (ld_P (i := 0) h rfl rfl ?_))
  have h1 : Own (QueS q qn tk [0] :: At m [.pointer (some ⟨t, 0, none⟩), .pointer (some ⟨q, 0, none⟩), .map none, .map (some pm)] :: TreeS t ns :: MapI pm .i64 [(0, .pointer (some ⟨pb, 0, none⟩))] :: PrS pb gb bb p :: Own (byL bb 0 bytes) :: l) A := h.pick 2 rfl
  refine sNow_spec h1 (fun z => by cases z) fun x r e => ?_
  cases e
  refine new_C (cs := resC 0 0 0 0 0 false) h fun rb A1 h2 => ?_
  refine st_C (i := 0) h2 rfl rfl rfl fun _ h2 => st_C (i := 0) h2 rfl rfl rfl fun _ h2 => st_C (i := 0) h2 rfl rfl rfl fun _ h2 => st_C (i := 0) h2 rfl rfl rfl fun _ h2 => st_C (i := 0) h2 rfl rfl rfl fun _ h2 => st_C (i := 0) h2 rfl rfl rfl fun A2 h3 => ?_
  have h3 : Own (At rb (resC 0 0 0 0 0 false) :: f1L m t q pm pb gb bb ns qn tk p bytes l) A2 := h3
  refine Read_spec hb h3 (fun c' hc' A3 h4 => ?_) fun hc' => by rw [hc] at hc'; cases hc'
  rw [hc] at hc'
  cases hc'
  refine st_C (i := 0) h4 rfl rfl rfl fun A4 h5 => bsel_f rfl ?_
  have h5 : Own (At rb (resC 0 0 0 0 0 false) :: f1L m t q pm pb gb bb ns qn tk p bytes l) A4 := h5
  rw [hop]
  refine bsel_f rfl (bsel_f rfl (ld_M (i := 1) h5 rfl rfl (lk_M (i := 4) h5 rfl ⟨some ⟨pb, 0, none⟩, rfl, ?_⟩)))
  have fin : ∀ (e : Int) (p' : FPr) (A' : AH), Own (At rb (resC 0 0 0 0 0 false) :: f1L m t q pm pb gb bb ns qn tk p' bytes l) A' → (∀ A'', Own (f1L m t q pm pb gb bb ns qn tk p' bytes l) A'' → Q 0 0 e 0 0 false A'') →
      aC ⟨rb, 1, none⟩ (.int .u64 0) A' fun h67 => aC ⟨rb, 2, none⟩ (.int .i64 e) h67 fun h68 => aI .i64 ⟨rb, 0, none⟩ h68 fun n69 => aI .u64 ⟨rb, 1, none⟩ h68 fun n70 => aI .i64 ⟨rb, 2, none⟩ h68 fun n71 => aI .u64 ⟨rb, 3, none⟩ h68 fun n72 => aI .i64 ⟨rb, 4, none⟩ h68 fun n73 => aB ⟨rb, 5, none⟩ h68 fun b74 => Q n69 n70 n71 n72 n73 b74 h68 := by
    intro e p' A' h6 hq
    refine st_C (i := 0) h6 rfl rfl rfl fun _ h6 => st_C (i := 0) h6 rfl rfl rfl fun A7 h7 => ?_
    have h7 : Own (At rb (resC 0 0 e 0 0 false) :: f1L m t q pm pb gb bb ns qn tk p' bytes l) A7 := h7
    exact ld_I (i := 0) h7 rfl rfl (ld_I (i := 0) h7 rfl rfl (ld_I (i := 0) h7 rfl rfl (ld_I (i := 0) h7 rfl rfl (ld_I (i := 0) h7 rfl rfl (ld_B (i := 0) h7 rfl rfl (hq A7 h7.tail))))))
  unfold flat_Model_ask_A flat_Model_ask_G
  refine ⟨fun x e A' => x = 0 ∧ ∃ p', (∀ A'', Own (f1L m t q pm pb gb bb ns qn tk p' bytes l) A'' → Q 0 0 e 0 0 false A'') ∧ Own (At rb (resC 0 0 0 0 0 false) :: f1L m t q pm pb gb bb ns qn tk p' bytes l) A', fun x e A' ⟨e1, p', hq, h6⟩ => by subst e1; exact fin e p' A' h6 hq, ?_⟩
  refine ⟨fun b A' => b = true ∧ A' = A4, fun b A' ⟨e1, e2⟩ => ?_, bsel_t rfl ⟨rfl, rfl⟩⟩
  subst e1 e2
  have h6 : Own (PrS pb gb bb p :: At rb (resC 0 0 0 0 0 false) :: At m [.pointer (some ⟨t, 0, none⟩), .pointer (some ⟨q, 0, none⟩), .map none, .map (some pm)] :: TreeS t ns :: QueS q qn tk [0] :: MapI pm .i64 [(0, .pointer (some ⟨pb, 0, none⟩))] :: Own (byL bb 0 bytes) :: l) A' := h5.pick 5 rfl
  have bk : ∀ p' A', Own (PrS pb gb bb p' :: At rb (resC 0 0 0 0 0 false) :: At m [.pointer (some ⟨t, 0, none⟩), .pointer (some ⟨q, 0, none⟩), .map none, .map (some pm)] :: TreeS t ns :: QueS q qn tk [0] :: MapI pm .i64 [(0, .pointer (some ⟨pb, 0, none⟩))] :: Own (byL bb 0 bytes) :: l) A' → Own (At rb (resC 0 0 0 0 0 false) :: f1L m t q pm pb gb bb ns qn tk p' bytes l) A' := fun p' A' h' => by
    exact Own.unpick (l := At rb (resC 0 0 0 0 0 false) :: f1L m t q pm pb gb bb ns qn tk p' bytes l) 5 rfl h'
  refine bsel_t rfl (map_spec (y := ⟨c.a, c.b, c.pw, c.pu, c.px, 0⟩) rfl h6 (fun e A5 h7 => ⟨rfl, p, fun A'' h'' => hk0 e A'' h'', bk p A5 h7⟩) fun e A5 h7 => ⟨rfl, _, fun A'' h'' => hk e A'' h'', bk _ A5 h7⟩)
/-- A load or a store where it may be. -/
theorem Do_mem {m t q pm pb bi : Nat} {gb : Int → Nat} {bb : Nat → Nat} {ns : List Nd} {nd : Nd} {qn tk : Int} {p : FPr} {y : Reg} {bytes : List (List Int)} {w0 w1 w2 w3 w4 w5 : Int} {c : CallR} {Q : Int → Int → Int → Int → Int → Bool → AP} (hb : ∀ x ∈ [w0, w1, w2, w3, w4, w5], 0 ≤ x ∧ x < 18446744073709551616)
    (hc : callZ6 w0 w1 w2 w3 w4 w5 = some c) (hop : c.op = 4 ∨ c.op = 5) (hbox : p.box = bi) (hn : ns[bi]? = some nd) (hlv : nd.live = true) (hrl : p.regs.length ≤ 100000) (hreg : findR p.regs (c.addr / 4096) = some y) (hu : y.u = true) (hw : c.op = 5 → y.w = true)
    (hwf : ∀ q ∈ p.pages, q.2.1 < bytes.length) (hbl : ∀ b ∈ bytes, b.length = 4096 ∧ ∀ v ∈ b, 0 ≤ v ∧ v < 256) (h0 : 0 ≤ c.addr ∧ c.addr < 140737488355328) (hx : 0 ≤ c.x) (hs : 0 ≤ c.size ∧ c.size ≤ 8) (hoff : c.addr % 4096 + c.size ≤ 4096) (h : Own (f1L m t q pm pb gb bb ns qn tk p bytes l) A)
    (hold : ∀ yi lent bs, p.pages.lookup (c.addr / 4096) = some (yi, lent) → bytes[yi]? = some bs → ∀ A', Own (f1L m t q pm pb gb bb ns qn tk p (if c.op = 5 then bytes.set yi (wrB bs (c.addr % 4096).toNat c.x c.size.toNat) else bytes) l) A' →
      Q 0 (if c.op = 5 then 0 else rdB bs (c.addr % 4096).toNat c.size.toNat) 0 0 0 false A')
    (hfull : p.pages.lookup (c.addr / 4096) = none → nd.quo - nd.use - nd.lent < 3 - sharedZ (keysP p.pages) (c.addr / 4096) + 1 → ∀ A', Own (f1L m t q pm pb gb bb ns qn tk p bytes l) A' → Q 0 0 8 0 0 false A')
    (hnew : p.pages.lookup (c.addr / 4096) = none → 3 - sharedZ (keysP p.pages) (c.addr / 4096) + 1 ≤ nd.quo - nd.use - nd.lent → ∀ gb' bb' A', Own (f1L m t q pm pb gb' bb' (ns.set bi { nd with use := nd.use + (3 - sharedZ (keysP p.pages) (c.addr / 4096) + 1) }) qn tk
      { p with pages := p.pages ++ [(c.addr / 4096, (bytes.length, 0))] } (bytes ++ [if c.op = 5 then wrB zeroP (c.addr % 4096).toNat c.x c.size.toNat else zeroP]) l) A' → Q 0 (if c.op = 5 then 0 else rdB zeroP (c.addr % 4096).toNat c.size.toNat) 0 0 0 false A') :
    flat_Model_Do_A (some ⟨m, 0, none⟩) w0 w1 w2 w3 w4 w5 Q A := by
  unfold flat_Model_Do_A flat_Model_Do_G
  simp only [onSome, add_at, Nat.zero_add]
  refine ld_P (i := 0) h rfl rfl (bsel_f rfl (ld_P (i := 0) h rfl rfl ?_))
  have h1 : Own (QueS q qn tk [0] :: At m [.pointer (some ⟨t, 0, none⟩), .pointer (some ⟨q, 0, none⟩), .map none, .map (some pm)] :: TreeS t ns :: MapI pm .i64 [(0, .pointer (some ⟨pb, 0, none⟩))] :: PrS pb gb bb p :: Own (byL bb 0 bytes) :: l) A := h.pick 2 rfl
  refine sNow_spec h1 (fun z => by cases z) fun x r e => ?_
  cases e
  refine new_C (cs := resC 0 0 0 0 0 false) h fun rb A1 h2 => ?_
  refine st_C (i := 0) h2 rfl rfl rfl fun _ h2 => st_C (i := 0) h2 rfl rfl rfl fun _ h2 => st_C (i := 0) h2 rfl rfl rfl fun _ h2 => st_C (i := 0) h2 rfl rfl rfl fun _ h2 => st_C (i := 0) h2 rfl rfl rfl fun _ h2 => st_C (i := 0) h2 rfl rfl rfl fun A2 h3 => ?_
  have h3 : Own (At rb (resC 0 0 0 0 0 false) :: f1L m t q pm pb gb bb ns qn tk p bytes l) A2 := h3
  refine Read_spec hb h3 (fun c' hc' A3 h4 => ?_) fun hc' => by rw [hc] at hc'; cases hc'
  rw [hc] at hc'
  cases hc'
  refine st_C (i := 0) h4 rfl rfl rfl fun A4 h5 => bsel_f rfl ?_
  have h5 : Own (At rb (resC 0 0 0 0 0 false) :: f1L m t q pm pb gb bb ns qn tk p bytes l) A4 := h5
  have fin : ∀ (x e : Int) (A' : AH) (l' : List SP), Own (At rb (resC 0 x e 0 0 false) :: l') A' → (∀ A'', Own l' A'' → Q 0 x e 0 0 false A'') →
      aI .i64 ⟨rb, 0, none⟩ A' fun n69 => aI .u64 ⟨rb, 1, none⟩ A' fun n70 => aI .i64 ⟨rb, 2, none⟩ A' fun n71 => aI .u64 ⟨rb, 3, none⟩ A' fun n72 => aI .i64 ⟨rb, 4, none⟩ A' fun n73 => aB ⟨rb, 5, none⟩ A' fun b74 => Q n69 n70 n71 n72 n73 b74 A' := by
    intro x e A' l' h7 hq
    exact ld_I (i := 0) h7 rfl rfl (ld_I (i := 0) h7 rfl rfl (ld_I (i := 0) h7 rfl rfl (ld_I (i := 0) h7 rfl rfl (ld_I (i := 0) h7 rfl rfl (ld_B (i := 0) h7 rfl rfl (hq A' h7.tail))))))
  have go : flat_Model_memory_A (some ⟨m, 0, none⟩) (some ⟨pb, 0, none⟩) c.op c.a c.b c.pw c.pu c.px c.addr c.size c.x c.id c.ra c.rb c.rd (some ⟨rb, 0, none⟩) (fun h42 => aI .i64 ⟨rb, 0, none⟩ h42 fun n69 => aI .u64 ⟨rb, 1, none⟩ h42 fun n70 => aI .i64 ⟨rb, 2, none⟩ h42 fun n71 => aI .u64 ⟨rb, 3, none⟩ h42 fun n72 => aI .i64 ⟨rb, 4, none⟩ h42 fun n73 => aB ⟨rb, 5, none⟩ h42 fun b74 => Q n69 n70 n71 n72 n73 b74 h42) A4 := by
    have h6 : Own (PrS pb gb bb p :: TreeS t ns :: Own (byL bb 0 bytes) :: At m [.pointer (some ⟨t, 0, none⟩), .pointer (some ⟨q, 0, none⟩), .map none, .map (some pm)] :: At rb (resC 0 0 0 0 0 false) :: QueS q qn tk [0] :: MapI pm .i64 [(0, .pointer (some ⟨pb, 0, none⟩))] :: l) A4 := by
      have h5 : Own (At rb (resC 0 0 0 0 0 false) :: At m [.pointer (some ⟨t, 0, none⟩), .pointer (some ⟨q, 0, none⟩), .map none, .map (some pm)] :: TreeS t ns :: QueS q qn tk [0] :: MapI pm .i64 [(0, .pointer (some ⟨pb, 0, none⟩))] :: PrS pb gb bb p :: Own (byL bb 0 bytes) :: l) A4 := h5
      exact (((h5.pick 1 rfl).pick 6 rfl).pick 3 rfl).pick 6 rfl
    have bk : ∀ (x e : Int) (gb' : Int → Nat) (bb' : Nat → Nat) (ns' : List Nd) (p' : FPr) (bytes' : List (List Int)) (A' : AH), Own (PrS pb gb' bb' p' :: TreeS t ns' :: Own (byL bb' 0 bytes') :: At m [.pointer (some ⟨t, 0, none⟩), .pointer (some ⟨q, 0, none⟩), .map none, .map (some pm)] :: At rb (resC 0 x e 0 0 false) :: QueS q qn tk [0] :: MapI pm .i64 [(0, .pointer (some ⟨pb, 0, none⟩))] :: l) A' →
        Own (At rb (resC 0 x e 0 0 false) :: f1L m t q pm pb gb' bb' ns' qn tk p' bytes' l) A' := fun x e gb' bb' ns' p' bytes' A' h' => by
      have := ((((((h'.pick 2 rfl).pick 1 rfl).pick 6 rfl).pick 6 rfl).pick 4 rfl).pick 5 rfl).pick 6 rfl
      exact this
    exact mem_ok h6 rfl hbox hn hlv hrl hreg hu hw hwf hbl h0 hx hs hoff
      (fun yi lent bs e1 e2 A' h' => fin _ _ A' _ (bk _ _ _ _ _ _ _ A' h') fun A'' h'' => hold yi lent bs e1 e2 A'' h'')
      (fun e1 e2 A' h' => fin _ _ A' _ (bk _ _ _ _ _ _ _ A' h') fun A'' h'' => hfull e1 e2 A'' h'')
      (fun e1 e2 g b A' h' => fin _ _ A' _ (bk _ _ _ _ _ _ _ A' h') fun A'' h'' => hnew e1 e2 _ _ A'' h'')
  refine bsel_in (fun g => ld_M (i := 1) h5 rfl rfl (lk_M (i := 4) h5 rfl ⟨some ⟨pb, 0, none⟩, rfl, go⟩)) fun g => ?_
  refine bsel_t (by rcases hop with e | e <;> simp [e] at g ⊢) (ld_M (i := 1) h5 rfl rfl (lk_M (i := 4) h5 rfl ⟨some ⟨pb, 0, none⟩, rfl, go⟩))
end Go.Dn
/- A model begins. -/
namespace Go.Dn

variable {A : AH} {l R L : List SP} {P P' : SP} {i k : Nat}
def ns0 (u : Int) : List Nd := [⟨-1, u, 2, u - 2, true⟩, ⟨0, u - 2, 1, 0, true⟩]
def p0 : FPr := { box := 1, parent := 0 }
theorem fBoot_spec {u qn : Int} {Q : Option Addr → Int → AP} (hu : 3 ≤ u ∧ u ≤ 1048576) (hq : 1 ≤ qn ∧ qn ≤ 1000) (h : Own l A) (hk : ∀ m t q pm pb gb bb A', Own (f1L m t q pm pb gb bb (ns0 u) qn 0 p0 [] l) A' → Q (some ⟨m, 0, none⟩) 0 A') : flat_Boot_A u 2 qn Q A := by
  unfold flat_Boot_A flat_Boot_G
  refine ⟨fun A' => A' = A, fun A' e => ?_, bsel_f rfl (bsel_f (by simp; omega) rfl)⟩
  subst e
  refine qNew_spec h (fun z => by omega) fun _ t A1 h1 => bsel_f rfl (sNew_spec h1 (fun z => by omega) fun _ _ q A2 h2 => bsel_f rfl ?_)
  have h3 := h2.swap
  refine Charge_head (i := 0) (nd := ⟨-1, u, 0, 0, true⟩) (k := 2) h3 rfl rfl (by omega) (fun z => by simp at z; omega) fun _ A3 h4 => ?_
  refine new_M (k := .i64) h4 fun pm A4 h5 => new_C (cs := [.pointer (some ⟨t, 0, none⟩), .pointer (some ⟨q, 0, none⟩), .map none, .map (some pm)]) h5 fun m A5 h6 => ?_
  have w : IntKind.wrap .i64 (u - 2) = u - 2 := by rw [w64] <;> omega
  rw [w]
  unfold flat_Model_start_A flat_Model_start_G
  have h6 : Own (At m [.pointer (some ⟨t, 0, none⟩), .pointer (some ⟨q, 0, none⟩), .map none, .map (some pm)] :: MapI pm .i64 [] :: TreeS t [⟨-1, u, 2, 0, true⟩] :: QueS q qn 0 [] :: l) A5 := h6
  refine ⟨fun x _ A' => x = 0 ∧ A' = A5, ⟨0, rfl, rfl⟩, fun x _ A' ⟨e1, e2⟩ => ?_⟩
  subst e1 e2
  simp only [onSome, add_at, Nat.zero_add]
  refine ld_M (i := 0) h6 rfl rfl (lk_M (i := 1) h6 rfl ⟨none, rfl, bsel_f rfl (bsel_f rfl ?_)⟩)
  refine ld_P (i := 0) h6 rfl rfl ?_
  have h7 : Own (TreeS t [⟨-1, u, 2, 0, true⟩] :: At m [.pointer (some ⟨t, 0, none⟩), .pointer (some ⟨q, 0, none⟩), .map none, .map (some pm)] :: MapI pm .i64 [] :: QueS q qn 0 [] :: l) A' := h6.pick 2 rfl
  refine Child_spec (i := 0) (nd := ⟨-1, u, 2, 0, true⟩) h7 rfl rfl (fun z => by omega) (fun _ z => by simp at z) (fun _ _ _ z => by simp at z) (fun _ _ _ _ A6 h8 => ?_) fun _ _ j z => by simp [firstDead] at z
  refine bsel_f rfl ?_
  have h8 : Own (TreeS t [⟨-1, u, 2, 0 + (u - 2), true⟩, ⟨0, u - 2, 0, 0, true⟩] :: At m [.pointer (some ⟨t, 0, none⟩), .pointer (some ⟨q, 0, none⟩), .map none, .map (some pm)] :: MapI pm .i64 [] :: QueS q qn 0 [] :: l) A6 := h8
  rw [Int.zero_add] at h8
  refine ld_P (i := 1) h8 rfl rfl (Charge_head (i := 1) (nd := ⟨0, u - 2, 0, 0, true⟩) (k := 1) h8 rfl rfl (by omega) (fun z => by simp at z; omega) fun _ A7 h9 => bsel_f rfl ?_)
  have h9 : Own (TreeS t (ns0 u) :: At m [.pointer (some ⟨t, 0, none⟩), .pointer (some ⟨q, 0, none⟩), .map none, .map (some pm)] :: MapI pm .i64 [] :: QueS q qn 0 [] :: l) A7 := h9
  refine ld_M (i := 1) h9 rfl rfl (new_M (k := .i64) h9 fun mb A8 h10 => new_C (cs := p0.cells Sl.nil mb) h10 fun pb A9 h11 => ?_)
  refine st_M (i := 4) (key := 0) h11 rfl fun A10 h12 => ?_
  have h12 : Own (At pb (p0.cells Sl.nil mb) :: MapI mb .i64 [] :: TreeS t (ns0 u) :: At m [.pointer (some ⟨t, 0, none⟩), .pointer (some ⟨q, 0, none⟩), .map none, .map (some pm)] :: MapI pm .i64 [(0, .pointer (some ⟨pb, 0, none⟩))] :: QueS q qn 0 [] :: l) A10 := h12
  refine ld_P (i := 3) h12 rfl rfl ?_
  have h13 : Own (QueS q qn 0 [] :: At pb (p0.cells Sl.nil mb) :: MapI mb .i64 [] :: TreeS t (ns0 u) :: At m [.pointer (some ⟨t, 0, none⟩), .pointer (some ⟨q, 0, none⟩), .map none, .map (some pm)] :: MapI pm .i64 [(0, .pointer (some ⟨pb, 0, none⟩))] :: l) A10 := h12.pick 5 rfl
  refine sAdd_spec h13 (by simp) (fun z => by omega) (fun _ _ z => by simp at z) fun _ _ _ A11 h14 => bsel_f rfl (hk m t q pm pb (fun _ => 0) (fun _ => 0) A11 ?_)
  have h14 : Own (QueS q qn 0 [0] :: At pb (p0.cells Sl.nil mb) :: MapI mb .i64 [] :: TreeS t (ns0 u) :: At m [.pointer (some ⟨t, 0, none⟩), .pointer (some ⟨q, 0, none⟩), .map none, .map (some pm)] :: MapI pm .i64 [(0, .pointer (some ⟨pb, 0, none⟩))] :: l) A11 := h14
  -- the process
  have h15 : Own (At pb (p0.cells Sl.nil mb) :: MapI mb .i64 [] :: QueS q qn 0 [0] :: TreeS t (ns0 u) :: At m [.pointer (some ⟨t, 0, none⟩), .pointer (some ⟨q, 0, none⟩), .map none, .map (some pm)] :: MapI pm .i64 [(0, .pointer (some ⟨pb, 0, none⟩))] :: l) A11 := (h14.pick 2 rfl).pick 2 rfl
  have h16 : Own (Own (pgL (fun _ => 0) (fun _ => 0) p0.pages) :: At pb (p0.cells Sl.nil mb) :: SlO Sl.nil 6 (regC p0.regs) :: MapI mb .i64 (pgM (fun _ => 0) p0.pages) :: QueS q qn 0 [0] :: TreeS t (ns0 u) :: At m [.pointer (some ⟨t, 0, none⟩), .pointer (some ⟨q, 0, none⟩), .map none, .map (some pm)] :: MapI pm .i64 [(0, .pointer (some ⟨pb, 0, none⟩))] :: l) A11 :=
    Own.nest0 ((Own.nil6 h15).swap)
  have h17 := PrS.closeH (p := p0) (rs := Sl.nil) (gb := fun _ => 0) (bb := fun _ => 0) (mb := mb) (pb := pb) (fun _ => rfl) (((h16.pick 3 rfl).pick 3 rfl).pick 3 rfl |>.cons fun C hC => hC)
  have h18 := Own.nest0 h17
  have h19 : Own (Own (byL (fun _ => 0) 0 []) :: PrS pb (fun _ => 0) (fun _ => 0) p0 :: QueS q qn 0 [0] :: TreeS t (ns0 u) :: At m [.pointer (some ⟨t, 0, none⟩), .pointer (some ⟨q, 0, none⟩), .map none, .map (some pm)] :: MapI pm .i64 [(0, .pointer (some ⟨pb, 0, none⟩))] :: l) A11 := h18
  exact ((((h19.pick 1 rfl).pick 5 rfl).pick 3 rfl).pick 4 rfl).pick 5 rfl
theorem Used_spec {m t q pm pb bi : Nat} {gb : Int → Nat} {bb : Nat → Nat} {ns : List Nd} {nd : Nd} {qn tk : Int} {p : FPr} {bytes : List (List Int)} {Q : Int → AP} (hbox : p.box = bi) (hn : ns[bi]? = some nd) (hlv : nd.live = true) (h : Own (f1L m t q pm pb gb bb ns qn tk p bytes l) A) (hk : Q nd.use A) : flat_Model_Used_A (some ⟨m, 0, none⟩) 0 Q A := by
  unfold flat_Model_Used_A flat_Model_Used_G
  simp only [onSome, add_at, Nat.zero_add]
  refine ld_M (i := 0) h rfl rfl (lk_M (i := 3) h rfl ⟨some ⟨pb, 0, none⟩, rfl, bsel_f rfl (ld_P (i := 0) h rfl rfl ?_)⟩)
  have h1 : Own (PrS pb gb bb p :: At m [.pointer (some ⟨t, 0, none⟩), .pointer (some ⟨q, 0, none⟩), .map none, .map (some pm)] :: TreeS t ns :: QueS q qn tk [0] :: MapI pm .i64 [(0, .pointer (some ⟨pb, 0, none⟩))] :: Own (byL bb 0 bytes) :: l) A := h.pick 4 rfl
  obtain ⟨rs, mb, hrs, h2⟩ := PrS.openH h1
  refine ld_I (i := 0) (n := bi) h2 rfl (by rw [← hbox]; rfl) ?_
  have h3 : Own (TreeS t ns :: At m [.pointer (some ⟨t, 0, none⟩), .pointer (some ⟨q, 0, none⟩), .map none, .map (some pm)] :: QueS q qn tk [0] :: MapI pm .i64 [(0, .pointer (some ⟨pb, 0, none⟩))] :: PrS pb gb bb p :: Own (byL bb 0 bytes) :: l) A := h.pick 1 rfl
  obtain ⟨blk, cap, rest, ⟨o1, o2⟩, hh⟩ := TreeS.openH h3
  unfold quota_Tree_Get_A quota_Tree_Get_G
  refine at_raw hh hn hlv (bsel_t rfl ?_)
  have hz : ∀ {K : Int → Prop}, K nd.par → aI .i64 ⟨blk, bi * 5, none⟩ A K := fun {K} hK => by
    have := ld_nd (f := 0) (K := K) hh hn (by omega) rfl hK
    simpa [add_at] using this
  refine hz (ld_nd (f := 1) hh hn (by omega) rfl (ld_nd (f := 2) hh hn (by omega) rfl (ld_nd (f := 3) hh hn (by omega) rfl ?_)))
  refine ld_B (i := 1) hh rfl (by rw [cell_ix hn (f := 4) (by omega) rfl]) hk
end Go.Dn
