/- What the proof stands on: Flt, FltA, FltM, FltN. -/
import Derived.Test.YthbdbnadjpbfgaaGreatRnd
import Derived.Test.YthbdbnadjpbfgaaGreatRegA
import Derived.Test.YthbdbnadjpbfgaaGreatRead2
import Derived.Test.YthbdbnadjpbfgaaGreatSched
import Derived.Test.YthbdbnadjpbfgaaGreatChild
/- A model without a machine: what it holds. -/
namespace Go.Dn

variable {A : AH} {l R L : List SP} {P P' : SP} {i k : Nat}
theorem Own.focus (e : L[i]? = some P) (h : Own (Own L :: R) A) : Own (P :: Own (L.eraseIdx i) :: R) A := by
  have h1 : Own (L ++ R) A := h.flat
  have h2 : Own ((P :: L.eraseIdx i) ++ R) A := h1.perm ((perm_pick e).append_right R)
  exact Own.cons (fun C hC => Own.app hC) h2
theorem Own.unfocus (e : L[i]? = some P) (h : Own (P' :: Own (L.eraseIdx i) :: R) A) : Own (Own (L.set i P') :: R) A := by
  have h1 : Own ((P' :: L.eraseIdx i) ++ R) A := Own.cons (fun C hC => Own.flat hC) h
  have hi := (List.getElem?_eq_some_iff.1 e).1
  have e2 : (L.set i P')[i]? = some P' := by rw [List.getElem?_set_self hi]
  have h2 : Own (L.set i P' ++ R) A := h1.perm (by
    refine List.Perm.append_right R ?_
    have := perm_pick e2
    rw [List.eraseIdx_set_eq] at this
    exact this.symm)
  exact Own.app h2
theorem Own.nest0 (h : Own R A) : Own (Own [] :: R) A := Own.app (l := []) h
structure TSt where
  r0 : Int := 0
  r1 : Int := 0
  r2 : Int := 0
  r3 : Int := 0
  told : Int := 0
  entry : Int := 0
  inn : Bool := false
  fa : Int := 0
  fc : Int := 0
  s0 : Int := 0
  s1 : Int := 0
  s2 : Int := 0
  s3 : Int := 0
def TSt.cells (t : TSt) : List Value := [.int .u64 t.r0, .int .u64 t.r1, .int .u64 t.r2, .int .u64 t.r3, .int .i64 t.told, .int .u64 t.entry, .bool t.inn, .int .u64 t.fa, .int .i64 t.fc, .int .u64 t.s0, .int .u64 t.s1, .int .u64 t.s2, .int .u64 t.s3]
/-- A process: its pages lead to bytes, by number, and are lent so often. -/
structure FPr where
  box : Int
  parent : Int
  st : TSt := {}
  regs : List Reg := []
  pages : List (Int × (Nat × Int)) := []
def FPr.cells (p : FPr) (rs : Sl) (mb : Nat) : List Value := .int .i64 p.box :: .int .i64 p.parent :: p.st.cells ++ [.slice rs.a rs.len rs.cap, .map (some mb)]
def pgM (gb : Int → Nat) (pages : List (Int × (Nat × Int))) : List (Int × Value) := pages.map fun x => (x.1, .pointer (some ⟨gb x.1, 0, none⟩))
def pgL (gb : Int → Nat) (bb : Nat → Nat) (pages : List (Int × (Nat × Int))) : List SP := pages.map fun x => At (gb x.1) [.pointer (some ⟨bb x.2.1, 0, none⟩), .int .i64 x.2.2]
def PrS (pb : Nat) (gb : Int → Nat) (bb : Nat → Nat) (p : FPr) : SP := fun B => ∃ (rs : Sl) (mb : Nat), (rs.a = none → p.regs = []) ∧
  Own [At pb (p.cells rs mb), SlO rs 6 (regC p.regs), MapI mb .i64 (pgM gb p.pages), Own (pgL gb bb p.pages)] B
theorem PrS.openH {pb : Nat} {gb : Int → Nat} {bb : Nat → Nat} {p : FPr} (h : Own (PrS pb gb bb p :: R) A) : ∃ (rs : Sl) (mb : Nat), (rs.a = none → p.regs = []) ∧
    Own (At pb (p.cells rs mb) :: SlO rs 6 (regC p.regs) :: MapI mb .i64 (pgM gb p.pages) :: Own (pgL gb bb p.pages) :: R) A := by
  obtain ⟨rs, h⟩ := h.ex
  obtain ⟨mb, h⟩ := h.ex
  obtain ⟨hs, h⟩ := h.pure
  exact ⟨rs, mb, hs, h.flat⟩
theorem PrS.closeH {pb mb : Nat} {rs : Sl} {gb : Int → Nat} {bb : Nat → Nat} {p : FPr} (hs : rs.a = none → p.regs = []) (h : Own (At pb (p.cells rs mb) :: SlO rs 6 (regC p.regs) :: MapI mb .i64 (pgM gb p.pages) :: Own (pgL gb bb p.pages) :: R) A) : Own (PrS pb gb bb p :: R) A :=
  (Own.app (l := [_, _, _, _]) h).imp fun _ hB => ⟨rs, mb, hs, hB⟩
def nearB (keys : List Int) (x : Int) (j : Nat) : Bool := keys.any fun o => o != x && Int.fdiv o (2 ^ (9 * j)) == Int.fdiv x (2 ^ (9 * j))
def nearZ (keys : List Int) (x : Int) : Nat → Int
  | 0 => 0
  | j + 1 => nearZ keys x j + if nearB keys x (j + 1) then 1 else 0
theorem nearZ_le (keys : List Int) (x : Int) : ∀ j : Nat, 0 ≤ nearZ keys x j ∧ nearZ keys x j ≤ j
  | 0 => by simp [nearZ]
  | j + 1 => by have := nearZ_le keys x j; unfold nearZ; split <;> omega
/-- Of the tables that a page needs: how many others need. -/
def sharedZ (keys : List Int) (x : Int) : Int := nearZ keys x 3
def keysP (pages : List (Int × (Nat × Int))) : List Int := pages.map (·.1)
theorem pgM_keys (gb : Int → Nat) (pages : List (Int × (Nat × Int))) : (pgM gb pages).map (·.1) = keysP pages := by simp [pgM, keysP]
theorem shared_spec {pb : Nat} {gb : Int → Nat} {bb : Nat → Nat} {p : FPr} {x : Int} {Q : Int → AP} (h : Own (PrS pb gb bb p :: R) A) (hk : ∀ A', Own (PrS pb gb bb p :: R) A' → Q (sharedZ (keysP p.pages) x) A') : flat_proc_shared_A (some ⟨pb, 0, none⟩) x Q A := by
  obtain ⟨rs, mb, hrs, h1⟩ := PrS.openH h
  have h1 : Own (MapI mb .i64 (pgM gb p.pages) :: At pb (p.cells rs mb) :: SlO rs 6 (regC p.regs) :: Own (pgL gb bb p.pages) :: R) A := h1.pick 2 rfl
  have bk : ∀ A', Own (MapI mb .i64 (pgM gb p.pages) :: At pb (p.cells rs mb) :: SlO rs 6 (regC p.regs) :: Own (pgL gb bb p.pages) :: R) A' → Own (PrS pb gb bb p :: R) A' := fun A' h' => PrS.closeH hrs (h'.swap.cons fun C hC => hC.swap)
  have hkey := pgM_keys gb p.pages
  generalize hX : At pb (p.cells rs mb) :: SlO rs 6 (regC p.regs) :: Own (pgL gb bb p.pages) :: R = X at h1 bk
  have hX0 : X[0]? = some (At pb (p.cells rs mb)) := by rw [← hX]; rfl
  generalize pgM gb p.pages = M at h1 bk hkey
  rw [← hkey] at hk
  unfold flat_proc_shared_A
  refine ⟨fun n by_ m A' => ∃ j : Nat, j ≤ 3 ∧ by_ = ((9 * (j + 1) : Nat) : Int) ∧ m + j = 3 ∧ n = nearZ (M.map (·.1)) x j ∧ Own (MapI mb .i64 M :: X) A', ⟨3, 0, by omega, rfl, rfl, rfl, h1⟩, ?_⟩
  intro n by_ m A1 ⟨j, e1, e2, e3, e4, h2⟩
  subst e2
  refine bsel_in (fun g => ?_) fun g => ?_
  · have g : ((9 * (j + 1) : Nat) : Int) ≤ 27 := of_decide_eq_true g
    have hj := nearZ_le (M.map (·.1)) x j
    refine ⟨fun n' A' => n' = nearZ (M.map (·.1)) x (j + 1) ∧ Own (MapI mb .i64 M :: X) A', fun n' A2 ⟨f1, f2⟩ => ⟨m - 1, by omega, j + 1, by omega, by rw [w64] <;> omega, by omega, f1, f2⟩, ?_⟩
    simp only [onSome, add_at]
    refine ld_M (i := 1) h2 hX0 rfl (rg_S h2 fun it A2 h3 => ?_)
    refine ⟨fun n' m' A' => ∃ todo cur, m' = todo.length ∧ n' = n ∧ (nearB (M.map (·.1)) x (j + 1) = nearB (todo.map (·.1)) x (j + 1)) ∧ Own (RndS it mb M todo cur :: X) A', ⟨_, M, none, rfl, rfl, rfl, h3⟩, ?_⟩
    intro n' m' A3 ⟨todo, cur, f1, f2, f3, h4⟩
    subst f2
    refine ⟨fun b A' => (b = false ∧ todo = [] ∧ Own (RndS it mb M todo cur :: X) A') ∨ (b = true ∧ ∃ z todo', todo.Perm (z :: todo') ∧ Own (RndS it mb M todo' (some z) :: X) A'), fun b A4 hb => ?_, ?_⟩
    · rcases hb with ⟨g1, g2, h5⟩ | ⟨g1, z, todo', g2, h5⟩
      · subst g1 g2
        refine ⟨?_, h5.rnd⟩
        rw [e4, nearZ, f3]
        simp [nearB]
      · subst g1
        have hn : nearB (todo.map (·.1)) x (j + 1) = ((z.1 != x && Int.fdiv z.1 (2 ^ (9 * (j + 1))) == Int.fdiv x (2 ^ (9 * (j + 1)))) || nearB (todo'.map (·.1)) x (j + 1)) := by
          unfold nearB
          rw [List.Perm.any_eq (g2.map (·.1))]; rfl
        have hlen := g2.length_eq
        rw [List.length_cons] at hlen
        have next : (z.1 != x && Int.fdiv z.1 (2 ^ (9 * (j + 1))) == Int.fdiv x (2 ^ (9 * (j + 1)))) = false → ∃ m9, m9 < m' ∧ ∃ todo cur, m9 = todo.length ∧ n' = n' ∧ (nearB (M.map (·.1)) x (j + 1) = nearB (todo.map (·.1)) x (j + 1)) ∧ Own (RndS it mb M todo cur :: X) A4 := fun q =>
          ⟨todo'.length, by omega, todo', some z, rfl, rfl, by rw [f3, hn, q]; rfl, h5⟩
        refine bsel_t rfl (ey_S h5 (bsel_in (fun q1 => ?_) fun q1 => next (by rw [q1]; rfl)))
        refine bsel_f (by simp; omega) (bsel_f (by simp; omega) ?_)
        have hmin : min (Int.toNat ((9 * (j + 1) : Nat) : Int)) 64 = 9 * (j + 1) := by rw [Int.toNat_natCast]; omega
        rw [hmin]
        refine bsel_in (fun q2 => ?_) fun q2 => next (by rw [q1, q2]; rfl)
        refine ⟨?_, h5.rnd⟩
        rw [e4, nearZ, f3, hn, q1, q2, w64 (by omega) (by omega)]
        rfl
    · exact nx_S h4 (fun q => .inl ⟨rfl, q, h4⟩) fun z todo' A' q1 q2 => ⟨z.1, rfl, .inr ⟨rfl, z, todo', q1, q2⟩⟩
  · have g : ¬ ((9 * (j + 1) : Nat) : Int) ≤ 27 := of_decide_eq_false g
    have : j = 3 := by omega
    subst this
    rw [e4]
    exact hk A1 (bk A1 h2)
end Go.Dn
/- A model without a machine: a page more. -/
namespace Go.Dn

variable {A : AH} {l R L : List SP} {P P' : SP} {i k : Nat}
theorem putM_new {key : Int} {v : Value} : ∀ {m : List (Int × Value)}, m.lookup key = none → putM m key v = m ++ [(key, v)]
  | [], _ => rfl
  | p :: m, h => by
    simp only [List.lookup] at h
    split at h
    · cases h
    · rename_i g
      have g : ¬ p.1 = key := fun e => by rw [e] at g; simp at g
      unfold putM
      rw [if_neg g, putM_new h]; rfl
theorem lookup_pgM {gb : Int → Nat} {x : Int} : ∀ {pages : List (Int × (Nat × Int))}, (pgM gb pages).lookup x = (pages.lookup x).map fun _ => (.pointer (some ⟨gb x, 0, none⟩) : Value)
  | [] => rfl
  | p :: r => by
    have := lookup_pgM (gb := gb) (x := x) (pages := r)
    unfold pgM at this ⊢
    simp only [List.map_cons, List.lookup]
    cases h : x == p.1 with
    | true => rw [eq_of_beq h]; rfl
    | false => exact this
theorem lookup_no2 {β : Type} {x : Int} : ∀ {m : List (Int × β)}, m.lookup x = none → ∀ y ∈ m, y.1 ≠ x
  | [], _, _, h => by cases h
  | p :: m, h, y, hy => by
    simp only [List.lookup] at h
    split at h
    · cases h
    · rename_i g
      rcases List.mem_cons.1 hy with e | hy
      · subst e
        exact fun e => by rw [e] at g; simp at g
      · exact lookup_no2 h y hy
theorem add_spec {pb t m g bi y : Nat} {gb : Int → Nat} {bb : Nat → Nat} {p : FPr} {ns : List Nd} {nd : Nd} {mc : List Value} {x lent : Int} {own : Bool} {Q : Int → AP} (h : Own (PrS pb gb bb p :: TreeS t ns :: At g [.pointer (some ⟨bb y, 0, none⟩), .int .i64 lent] :: At m mc :: R) A)
    (hm : mc[0]? = some (.pointer (some ⟨t, 0, none⟩))) (hbox : p.box = bi) (hn : ns[bi]? = some nd) (hlv : nd.live = true) (hx : p.pages.lookup x = none)
    (hno : nd.quo - nd.use - nd.lent < 3 - sharedZ (keysP p.pages) x + (if own then 1 else 0) → ∀ A', Own (PrS pb gb bb p :: TreeS t ns :: At g [.pointer (some ⟨bb y, 0, none⟩), .int .i64 lent] :: At m mc :: R) A' → Q 8 A')
    (hk : 3 - sharedZ (keysP p.pages) x + (if own then 1 else 0) ≤ nd.quo - nd.use - nd.lent → ∀ A', Own (PrS pb (fun i => if i = x then g else gb i) bb { p with pages := p.pages ++ [(x, (y, lent))] } :: TreeS t (ns.set bi { nd with use := nd.use + (3 - sharedZ (keysP p.pages) x + (if own then 1 else 0)) }) :: At m mc :: R) A' → Q 0 A') :
    flat_Model_add_A (some ⟨m, 0, none⟩) (some ⟨pb, 0, none⟩) x (some ⟨g, 0, none⟩) own Q A := by
  have hz : 0 ≤ sharedZ (keysP p.pages) x ∧ sharedZ (keysP p.pages) x ≤ 3 := nearZ_le _ _ 3
  unfold flat_Model_add_A flat_Model_add_G
  refine shared_spec h fun A1 h1 => ?_
  generalize sharedZ (keysP p.pages) x = z at *
  refine ⟨fun n A' => n = 3 - z + (if own then 1 else 0) ∧ Own (PrS pb gb bb p :: TreeS t ns :: At g [.pointer (some ⟨bb y, 0, none⟩), .int .i64 lent] :: At m mc :: R) A', fun n A2 ⟨e1, h2⟩ => ?_, ?_⟩
  · obtain ⟨rs, mb, hrs, h3⟩ := PrS.openH h2
    simp only [onSome, add_at, Nat.zero_add]
    refine ld_P (i := 6) h3 rfl hm (ld_I (i := 0) (n := bi) h3 rfl (by rw [← hbox]; rfl) ?_)
    have h4 : Own (TreeS t ns :: At pb (p.cells rs mb) :: SlO rs 6 (regC p.regs) :: MapI mb .i64 (pgM gb p.pages) :: Own (pgL gb bb p.pages) :: At g [.pointer (some ⟨bb y, 0, none⟩), .int .i64 lent] :: At m mc :: R) A2 := h3.pick 4 rfl
    have hn0 : 0 ≤ n := by rw [e1]; split <;> omega
    refine Charge_head h4 hn hlv hn0 (fun q => ?_) fun q A3 h5 => ?_
    · exact ⟨fun A' => A' = A2, fun A' e => by subst e; exact hno (by rw [← e1]; exact q) A' h2, bsel_f rfl rfl⟩
    · refine ⟨fun A' => Own (PrS pb (fun i => if i = x then g else gb i) bb { p with pages := p.pages ++ [(x, (y, lent))] } :: TreeS t (ns.set bi { nd with use := nd.use + n }) :: At m mc :: R) A', fun A' h6 => by rw [e1] at h6; exact hk (by rw [← e1]; exact q) A' h6, bsel_t rfl ?_⟩
      refine ld_M (i := 1) h5 rfl rfl (st_M (i := 3) (key := x) h5 rfl fun A4 h6 => ?_)
      have hl : (pgM gb p.pages).lookup x = none := by rw [lookup_pgM, hx]; rfl
      rw [putM_new hl] at h6
      let gb' : Int → Nat := fun i => if i = x then g else gb i
      have hgb : ∀ q ∈ p.pages, gb' q.1 = gb q.1 := fun q hq => if_neg (lookup_no2 hx q hq)
      have e2 : pgM gb p.pages ++ [(x, (.pointer (some ⟨g, 0, none⟩) : Value))] = pgM gb' (p.pages ++ [(x, (y, lent))]) := by
        unfold pgM
        rw [List.map_append]
        congr 1
        · exact List.map_congr_left fun q hq => by rw [hgb q hq]
        · simp [gb']
      have e3 : pgL gb' bb (p.pages ++ [(x, (y, lent))]) = pgL gb bb p.pages ++ [At g [.pointer (some ⟨bb y, 0, none⟩), .int .i64 lent]] := by
        unfold pgL
        rw [List.map_append]
        congr 1
        · exact List.map_congr_left fun q hq => by rw [hgb q hq]
        · simp [gb']
      rw [e2] at h6
      have h6 : Own (TreeS t (ns.set bi { nd with use := nd.use + n }) :: At pb (p.cells rs mb) :: SlO rs 6 (regC p.regs) :: MapI mb .i64 (pgM gb' (p.pages ++ [(x, (y, lent))])) :: Own (pgL gb bb p.pages) :: At g [.pointer (some ⟨bb y, 0, none⟩), .int .i64 lent] :: At m mc :: R) A4 := h6
      -- the page's own block goes to the others
      have h7 : Own (Own (pgL gb' bb (p.pages ++ [(x, (y, lent))])) :: TreeS t (ns.set bi { nd with use := nd.use + n }) :: At pb (p.cells rs mb) :: SlO rs 6 (regC p.regs) :: MapI mb .i64 (pgM gb' (p.pages ++ [(x, (y, lent))])) :: At m mc :: R) A4 := by
        rw [e3]
        have h8 : Own (At g [.pointer (some ⟨bb y, 0, none⟩), .int .i64 lent] :: Own (pgL gb bb p.pages) :: TreeS t (ns.set bi { nd with use := nd.use + n }) :: At pb (p.cells rs mb) :: SlO rs 6 (regC p.regs) :: MapI mb .i64 (pgM gb' (p.pages ++ [(x, (y, lent))])) :: At m mc :: R) A4 := by
          have := h6.pick 5 rfl
          exact this.cons fun C hC => Own.pick (l := [TreeS t (ns.set bi { nd with use := nd.use + n }), At pb (p.cells rs mb), SlO rs 6 (regC p.regs), MapI mb .i64 (pgM gb' (p.pages ++ [(x, (y, lent))])), Own (pgL gb bb p.pages)] ++ (At m mc :: R)) 4 rfl hC
        have h9 := h8.swap.flat
        refine Own.app (h9.perm ?_)
        rw [List.append_assoc]
        exact List.Perm.append_left _ (List.Perm.refl _)
      have h8 : Own (At pb (p.cells rs mb) :: SlO rs 6 (regC p.regs) :: MapI mb .i64 (pgM gb' (p.pages ++ [(x, (y, lent))])) :: Own (pgL gb' bb (p.pages ++ [(x, (y, lent))])) :: TreeS t (ns.set bi { nd with use := nd.use + n }) :: At m mc :: R) A4 := by
        refine h7.perm ?_
        refine List.Perm.trans (List.Perm.swap _ _ _) ?_
        refine List.Perm.trans ?_ (List.perm_middle (l₁ := [At pb (p.cells rs mb), SlO rs 6 (regC p.regs), MapI mb .i64 (pgM gb' (p.pages ++ [(x, (y, lent))])), Own (pgL gb' bb (p.pages ++ [(x, (y, lent))]))])).symm
        refine List.Perm.cons _ ?_
        exact (List.perm_middle (l₁ := [At pb (p.cells rs mb), SlO rs 6 (regC p.regs), MapI mb .i64 (pgM gb' (p.pages ++ [(x, (y, lent))]))])).symm
      exact PrS.closeH (p := { p with pages := p.pages ++ [(x, (y, lent))] }) (gb := gb') hrs h8
  · have w1 : IntKind.wrap .i64 (3 - z) = 3 - z := by rw [w64] <;> omega
    rw [w1]
    refine bsel_in (fun q => ?_) fun q => ?_
    · rw [w64 (by omega) (by omega)]
      exact ⟨by rw [if_pos q], h1⟩
    · exact ⟨by rw [if_neg (by rw [q]; simp)]; omega, h1⟩
end Go.Dn
/- Bytes that are stored and loaded. -/
namespace Go.Dn

variable {A : AH} {l R L : List SP} {P P' : SP} {i k : Nat}
def u8C (bs : List Int) : List Value := bs.map (.int .u8)
def wrB (bs : List Int) (off : Nat) (x : Int) : Nat → List Int
  | 0 => bs
  | j + 1 => (wrB bs off x j).set (off + j) (x / 2 ^ (8 * j) % 256)
def rdB (bs : List Int) (off : Nat) : Nat → Int
  | 0 => 0
  | j + 1 => rdB bs off j + bs.getD (off + j) 0 * 2 ^ (8 * j)
theorem wrB_len {bs : List Int} {off : Nat} {x : Int} : ∀ j : Nat, (wrB bs off x j).length = bs.length
  | 0 => rfl
  | j + 1 => by rw [wrB, List.length_set, wrB_len j]
theorem wrB_byte {bs : List Int} {off : Nat} {x : Int} (hb : ∀ v ∈ bs, 0 ≤ v ∧ v < 256) : ∀ j : Nat, ∀ v ∈ wrB bs off x j, 0 ≤ v ∧ v < 256
  | 0, v, hv => hb v hv
  | j + 1, v, hv => by
    rw [wrB] at hv
    rcases List.mem_or_eq_of_mem_set hv with h | h
    · exact wrB_byte hb j v h
    · subst h; exact ⟨Int.emod_nonneg _ (by omega), Int.emod_lt_of_pos _ (by omega)⟩
theorem rdB_lt {bs : List Int} {off : Nat} (hb : ∀ v ∈ bs, 0 ≤ v ∧ v < 256) : ∀ j : Nat, 0 ≤ rdB bs off j ∧ rdB bs off j < 2 ^ (8 * j)
  | 0 => by simp [rdB]
  | j + 1 => by
    have ih := rdB_lt (off := off) hb j
    have hd : 0 ≤ bs.getD (off + j) 0 ∧ bs.getD (off + j) 0 < 256 := by
      rw [List.getD_eq_getElem?_getD]
      cases h : bs[off + j]? with
      | none => simp
      | some v => exact hb v (List.mem_of_getElem? h)
    rw [rdB, show 8 * (j + 1) = 8 * j + 8 by omega, Int.pow_add]
    have hp : (0 : Int) < 2 ^ (8 * j) := Int.pow_pos (by omega)
    generalize (2 : Int) ^ (8 * j) = w at *
    generalize bs.getD (off + j) 0 = d at *
    have h0 : 0 ≤ d * w := Int.mul_nonneg hd.1 (by omega)
    have h1 : d * w ≤ 255 * w := Int.mul_le_mul_of_nonneg_right (by omega) (by omega)
    constructor
    · omega
    · have : w * 2 ^ 8 = 256 * w := by rw [Int.mul_comm]; rfl
      rw [this]; omega
theorem or_shift {x b : Int} {j : Nat} (hj : j < 8) (h0 : 0 ≤ x) (h1 : x < 2 ^ (8 * j)) (h2 : 0 ≤ b) (h3 : b < 256) :
    bits .or .u64 x (IntKind.wrap .u64 (IntKind.wrap .u64 b * 2 ^ (8 * j))) = x + b * 2 ^ (8 * j) := by
  obtain ⟨x, rfl⟩ := Int.eq_ofNat_of_zero_le h0
  obtain ⟨b, rfl⟩ := Int.eq_ofNat_of_zero_le h2
  have hx : x < 2 ^ (8 * j) := by
    have : ((x : Nat) : Int) < ((2 ^ (8 * j) : Nat) : Int) := by rw [Int.natCast_pow]; exact h1
    omega
  have hbj : b * 2 ^ (8 * j) < 18446744073709551616 ∧ 2 ^ (8 * j) ≤ 72057594037927936 := by
    have : j = 0 ∨ j = 1 ∨ j = 2 ∨ j = 3 ∨ j = 4 ∨ j = 5 ∨ j = 6 ∨ j = 7 := by omega
    rcases this with rfl | rfl | rfl | rfl | rfl | rfl | rfl | rfl <;> simp <;> omega
  have e : ((b : Nat) : Int) * 2 ^ (8 * j) = ((b * 2 ^ (8 * j) : Nat) : Int) := by rw [Int.natCast_mul, Int.natCast_pow]; rfl
  rw [wu64 (n := (b : Int)) (by omega) (by omega), e, wu64 (by omega) (by omega), bits_or (by omega) (by omega)]
  have := Nat.shiftLeft_add_eq_or_of_lt (b := x) (i := 8 * j) hx b
  rw [Nat.shiftLeft_eq] at this
  rw [Nat.or_comm, ← this]
  omega
theorem st_u8 {bk : Nat} {bs : List Int} {n : Nat} {v : Int} {K : AP} (h : Own (At bk (u8C bs) :: R) A) (hn : n < bs.length) (hk : ∀ A', Own (At bk (u8C (bs.set n v)) :: R) A' → K A') : aC ⟨bk, n, none⟩ (.int .u8 v) A K := by
  refine st_C (i := 0) h rfl (by unfold u8C; rw [List.getElem?_map, List.getElem?_eq_getElem hn]; rfl) rfl fun A' h' => hk A' ?_
  have : (u8C bs).set n (.int .u8 v) = u8C (bs.set n v) := by unfold u8C; rw [List.map_set]
  rw [← this]; exact h'
set_option maxRecDepth 100000 in
theorem mem_loop {bk rb g : Nat} {bs : List Int} {gc : List Value} {pid e fa fc addr size op x : Int} {up : Bool} {Q : AP} (h : Own (At bk (u8C bs) :: At rb [.int .i64 pid, .int .u64 0, .int .i64 e, .int .u64 fa, .int .i64 fc, .bool up] :: At g gc :: R) A)
    (hg : gc[0]? = some (.pointer (some ⟨bk, 0, none⟩))) (hl : bs.length = 4096) (hb : ∀ v ∈ bs, 0 ≤ v ∧ v < 256) (h0 : 0 ≤ addr) (hx : 0 ≤ x) (hs : 0 ≤ size ∧ size ≤ 8) (hoff : addr % 4096 + size ≤ 4096)
    (hst : op = 5 → ∀ A', Own (At bk (u8C (wrB bs (addr % 4096).toNat x size.toNat)) :: At rb [.int .i64 pid, .int .u64 0, .int .i64 e, .int .u64 fa, .int .i64 fc, .bool up] :: At g gc :: R) A' → Q A')
    (hld : op ≠ 5 → ∀ A', Own (At bk (u8C bs) :: At rb [.int .i64 pid, .int .u64 (rdB bs (addr % 4096).toNat size.toNat), .int .i64 e, .int .u64 fa, .int .i64 fc, .bool up] :: At g gc :: R) A' → Q A') :
    (∃ I100 : Int → Nat → AH → Prop, (∃ m101, I100 (0 : Int) m101 A) ∧ ∀ x104 : Int, ∀ m101 h103, I100 x104 m101 h103 → 
(bsel (decide (x104 < size))
(∃ R105 : AH → Prop, (∀ h115, R105 h115 → 
(∃ m102, m102 < m101 ∧ I100 (IntKind.wrap .i64 (x104 + (1 : Int))) m102 h115)) ∧
(onSome (some ⟨g, 0, none⟩ : Option Addr) fun a106 =>
(aP a106 h103 fun pt107 =>
(onSome pt107 fun a108 =>
(inB (IntKind.wrap .u64 ((Int.tmod addr (4096 : Int)) + (IntKind.wrap .u64 x104))) 4096
(bsel (op == (5 : Int))
(bsel (decide ((IntKind.wrap .i64 ((8 : Int) * x104)) < 0)) False
(aC (Addr.add a108 (Int.toNat (IntKind.wrap .u64 ((Int.tmod addr (4096 : Int)) + (IntKind.wrap .u64 x104))) * 1)) (.int .u8 (IntKind.wrap .u8 (Int.fdiv x (2 ^ (min (Int.toNat (IntKind.wrap .i64 ((8 : Int) * x104))) 64))))) h103 fun h109 =>
(R105 h109)))
(onSome (some ⟨rb, 0, none⟩ : Option Addr) fun a110 =>
(aI .u64 (Addr.add a110 1) h103 fun n111 =>
(aI .u8 (Addr.add a108 (Int.toNat (IntKind.wrap .u64 ((Int.tmod addr (4096 : Int)) + (IntKind.wrap .u64 x104))) * 1)) h103 fun n112 =>
(bsel (decide ((IntKind.wrap .i64 ((8 : Int) * x104)) < 0)) False
(onSome (some ⟨rb, 0, none⟩ : Option Addr) fun a113 =>
(aC (Addr.add a113 1) (.int .u64 (bits .or .u64 n111 (IntKind.wrap .u64 ((IntKind.wrap .u64 n112) * 2 ^ (min (Int.toNat (IntKind.wrap .i64 ((8 : Int) * x104))) 64))))) h103 fun h114 =>
(R105 h114)))))))))))))
(Q h103))) := by
  obtain ⟨o, ho⟩ := Int.eq_ofNat_of_zero_le (Int.emod_nonneg addr (show (4096 : Int) ≠ 0 by omega))
  obtain ⟨sz, hsz⟩ := Int.eq_ofNat_of_zero_le hs.1
  have htm : Int.tmod addr 4096 = o := by rw [Int.tmod_eq_emod_of_nonneg h0]; exact ho
  have ho : addr % 4096 = (o : Int) := ho
  rw [ho] at hst hld hoff
  subst hsz
  simp only [Int.ofNat_eq_natCast, Int.toNat_natCast] at hst hld hs hoff ⊢
  rw [htm]
  refine ⟨fun y m A' => ∃ j : Nat, y = j ∧ m + j = sz ∧ j ≤ sz ∧ (op = 5 → Own (At bk (u8C (wrB bs o x j)) :: At rb [.int .i64 pid, .int .u64 0, .int .i64 e, .int .u64 fa, .int .i64 fc, .bool up] :: At g gc :: R) A') ∧
    (op ≠ 5 → Own (At bk (u8C bs) :: At rb [.int .i64 pid, .int .u64 (rdB bs o j), .int .i64 e, .int .u64 fa, .int .i64 fc, .bool up] :: At g gc :: R) A'), ⟨sz, 0, rfl, rfl, by omega, fun _ => h, fun _ => h⟩, ?_⟩
  intro y m A1 ⟨j, e1, e2, e3, e4, e5⟩
  subst e1
  refine bsel_in (fun c => ?_) fun c => ?_
  · have c : (j : Int) < (sz : Int) := of_decide_eq_true c
    have w1 : IntKind.wrap .u64 ((o : Int) + IntKind.wrap .u64 (j : Int)) = ((o + j : Nat) : Int) := by rw [wu64 (n := (j : Int)) (by omega) (by omega), wu64 (by omega) (by omega)]; rfl
    have w2 : IntKind.wrap .i64 (8 * (j : Int)) = ((8 * j : Nat) : Int) := by rw [w64] <;> omega
    have w3 : min (Int.toNat ((8 * j : Nat) : Int)) 64 = 8 * j := by rw [Int.toNat_natCast]; omega
    rw [w1, w2, w3]
    simp only [onSome, add_at, Nat.zero_add, Nat.mul_one, Int.toNat_natCast]
    by_cases hop : op = 5
    · have h1 := e4 hop
      refine ⟨fun A' => Own (At bk (u8C (wrB bs o x (j + 1))) :: At rb [.int .i64 pid, .int .u64 0, .int .i64 e, .int .u64 fa, .int .i64 fc, .bool up] :: At g gc :: R) A', fun A' h' => ⟨m - 1, by omega, j + 1, by rw [w64] <;> omega, by omega, by omega, fun _ => h', fun z => absurd hop z⟩, ?_⟩
      refine ld_P (i := 2) h1 rfl hg ?_
      show inB ((o + j : Nat) : Int) 4096 _
      have hbd : ((o + j : Nat) : Int) < ((4096 : Nat) : Int) := by omega
      refine inB_in (Int.natCast_nonneg _) hbd ?_
      refine (bsel_t (by simp [hop]) (bsel_f (by simp; omega) ?_))
      simp only [add_at, Nat.zero_add]
      refine st_u8 h1 (by rw [wrB_len]; omega) fun A2 h2 => ?_
      rw [wrB]
      have : IntKind.wrap .u8 (Int.fdiv x (2 ^ (8 * j))) = x / 2 ^ (8 * j) % 256 := by rw [shr_eq, wu8]
      rw [← this]; exact h2
    · have h1 := e5 hop
      refine ⟨fun A' => Own (At bk (u8C bs) :: At rb [.int .i64 pid, .int .u64 (rdB bs o (j + 1)), .int .i64 e, .int .u64 fa, .int .i64 fc, .bool up] :: At g gc :: R) A', fun A' h' => ⟨m - 1, by omega, j + 1, by rw [w64] <;> omega, by omega, by omega, fun z => absurd z hop, fun _ => h'⟩, ?_⟩
      have hbt : bs[o + j]? = some (bs.getD (o + j) 0) := by rw [List.getD_eq_getElem?_getD, List.getElem?_eq_getElem (by omega)]; rfl
      refine ld_P (i := 2) h1 rfl hg ?_
      show inB ((o + j : Nat) : Int) 4096 _
      have hbd : ((o + j : Nat) : Int) < ((4096 : Nat) : Int) := by omega
      refine inB_in (Int.natCast_nonneg _) hbd ?_
      refine (bsel_f (by simp [hop]) (ld_I (i := 1) h1 rfl rfl ?_))
      simp only [add_at, Nat.zero_add]
      refine (ld_I (i := 0) (n := bs.getD (o + j) 0) h1 rfl (by unfold u8C; rw [List.getElem?_map, hbt]; rfl) (bsel_f (by simp; omega) ?_))
      refine st_C (i := 1) h1 rfl rfl rfl fun A2 h2 => ?_
      have hbd := hb _ (List.mem_of_getElem? hbt)
      have hr := rdB_lt (off := o) hb j
      rw [or_shift (by omega) hr.1 hr.2 hbd.1 hbd.2] at h2
      rw [rdB]
      exact h2
  · have c : ¬ (j : Int) < (sz : Int) := of_decide_eq_false c
    have : j = sz := by omega
    subst this
    by_cases hop : op = 5
    · exact hst hop A1 (e4 hop)
    · exact hld hop A1 (e5 hop)
end Go.Dn
/- What a process loads and stores where it may. -/
namespace Go.Dn

variable {A : AH} {l R L : List SP} {P P' : SP} {i k : Nat}
def byL (bb : Nat → Nat) : Nat → List (List Int) → List SP
  | _, [] => []
  | i, x :: r => At (bb i) (u8C x) :: byL bb (i + 1) r
theorem byL_at {bb : Nat → Nat} : ∀ {bytes : List (List Int)} {i j : Nat} {x : List Int}, bytes[j]? = some x → (byL bb i bytes)[j]? = some (At (bb (i + j)) (u8C x))
  | [], _, _, _, h => by simp at h
  | y :: r, i, 0, x, h => by simp at h; subst h; rfl
  | y :: r, i, j + 1, x, h => by
    have := byL_at (bb := bb) (bytes := r) (i := i + 1) (j := j) (x := x) (by simpa using h)
    rw [show i + 1 + j = i + (j + 1) by omega] at this
    simpa [byL] using this
theorem byL_set {bb : Nat → Nat} {x : List Int} : ∀ {bytes : List (List Int)} {i j : Nat}, (byL bb i bytes).set j (At (bb (i + j)) (u8C x)) = byL bb i (bytes.set j x)
  | [], _, _ => rfl
  | y :: r, i, 0 => rfl
  | y :: r, i, j + 1 => by
    have := byL_set (bb := bb) (x := x) (bytes := r) (i := i + 1) (j := j)
    rw [show i + 1 + j = i + (j + 1) by omega] at this
    simp only [byL, List.set_cons_succ, this]
theorem byL_app {bb : Nat → Nat} {x : List Int} : ∀ {bytes : List (List Int)} {i : Nat}, byL bb i (bytes ++ [x]) = byL bb i bytes ++ [At (bb (i + bytes.length)) (u8C x)]
  | [], _ => rfl
  | y :: r, i => by
    have := byL_app (bb := bb) (x := x) (bytes := r) (i := i + 1)
    rw [show i + 1 + r.length = i + (r.length + 1) by omega] at this
    simp only [List.cons_append, byL, this, List.length_cons]
theorem byL_congr {bb bb' : Nat → Nat} : ∀ {bytes : List (List Int)} {i : Nat}, (∀ j, j < bytes.length → bb' (i + j) = bb (i + j)) → byL bb' i bytes = byL bb i bytes
  | [], _, _ => rfl
  | y :: r, i, h => by
    have h0 := h 0 (by simp)
    have := byL_congr (bb := bb) (bb' := bb') (bytes := r) (i := i + 1) fun j hj => by
      have := h (j + 1) (by simp; omega)
      rw [show i + 1 + j = i + (j + 1) by omega]; exact this
    rw [Nat.add_zero] at h0
    simp only [byL, this, h0]
theorem pgL_congr {gb : Int → Nat} {bb bb' : Nat → Nat} {n : Nat} (h : ∀ j, j < n → bb' j = bb j) {pages : List (Int × (Nat × Int))} (hp : ∀ x ∈ pages, x.2.1 < n) : pgL gb bb' pages = pgL gb bb pages := by
  unfold pgL
  exact List.map_congr_left fun x hx => by rw [h _ (hp x hx)]
theorem PrS_congr {pb : Nat} {gb : Int → Nat} {bb bb' : Nat → Nat} {n : Nat} {p : FPr} (h : ∀ j, j < n → bb' j = bb j) (hp : ∀ x ∈ p.pages, x.2.1 < n) : PrS pb gb bb' p = PrS pb gb bb p := by
  unfold PrS
  funext B
  simp only [pgL_congr h hp]
theorem lookup_at {β : Type} {x : Int} {v : β} : ∀ {m : List (Int × β)}, m.lookup x = some v → ∃ j : Nat, m[j]? = some (x, v)
  | [], h => by cases h
  | p :: m, h => by
    simp only [List.lookup] at h
    split at h
    · rename_i g
      cases h
      refine ⟨0, ?_⟩
      simp only [List.getElem?_cons_zero]
      rw [eq_of_beq g]
    · obtain ⟨j, hj⟩ := lookup_at h
      exact ⟨j + 1, by simpa using hj⟩
theorem Own.unpick {P : SP} (i : Nat) (e : l[i]? = some P) (h : Own (P :: l.eraseIdx i) A) : Own l A := h.perm (perm_pick e).symm
theorem may_spec {w u x pw pu px : Bool} {Q : Bool → AP} (hk : Q ((!w || pw) && ((!u || pu) && (!x || px))) A) : walk_May_A pw pu px w u x Q A := by
  unfold walk_May_A
  cases w <;> cases u <;> cases x <;> cases pw <;> cases pu <;> cases px <;> exact hk
def zeroP : List Int := List.replicate 4096 0
theorem zeroP_cells : Array.replicate 4096 (Value.int .u8 (0 : Int)) = (u8C zeroP).toArray := by
  unfold u8C zeroP
  rw [List.map_replicate]
  exact (List.toArray_replicate ..).symm
theorem set_self {α : Type} {x : α} : ∀ {l : List α} {i : Nat}, l[i]? = some x → l.set i x = l
  | [], _, h => by simp at h
  | y :: l, 0, h => by simp at h; subst h; rfl
  | y :: l, i + 1, h => by rw [List.set_cons_succ, set_self (by simpa using h)]
/-- A page, its bytes and what is to be told, ahead of all else; and back again. -/
theorem page_open {pb rb mb j y m t : Nat} {gb : Int → Nat} {bb : Nat → Nat} {pages : List (Int × (Nat × Int))} {rs : Sl} {rg pc rc : List Value} {M : List (Int × Value)} {bytes : List (List Int)} {bs : List Int} {mc : List Value} {ns : List Nd} {a lent : Int}
    (h : Own (At pb pc :: SlO rs 6 rg :: MapI mb .i64 M :: Own (pgL gb bb pages) :: TreeS t ns :: Own (byL bb 0 bytes) :: At m mc :: At rb rc :: R) A) (hj : pages[j]? = some (a, (y, lent))) (hby : bytes[y]? = some bs) :
    ∃ X, Own (At (bb y) (u8C bs) :: At rb rc :: At (gb a) [.pointer (some ⟨bb y, 0, none⟩), .int .i64 lent] :: X) A ∧
      ∀ bs' rc' A', Own (At (bb y) (u8C bs') :: At rb rc' :: At (gb a) [.pointer (some ⟨bb y, 0, none⟩), .int .i64 lent] :: X) A' →
        Own (At pb pc :: SlO rs 6 rg :: MapI mb .i64 M :: Own (pgL gb bb pages) :: TreeS t ns :: Own (byL bb 0 (bytes.set y bs')) :: At m mc :: At rb rc' :: R) A' := by
  have ej : (pgL gb bb pages)[j]? = some (At (gb a) [.pointer (some ⟨bb y, 0, none⟩), .int .i64 lent]) := by unfold pgL; rw [List.getElem?_map, hj]; rfl
  have ey : (byL bb 0 bytes)[y]? = some (At (bb y) (u8C bs)) := by have := byL_at (bb := bb) (i := 0) hby; rwa [Nat.zero_add] at this
  have h2 := (h.pick 3 rfl).focus ej
  have h2 : Own (At (gb a) [.pointer (some ⟨bb y, 0, none⟩), .int .i64 lent] :: Own ((pgL gb bb pages).eraseIdx j) :: At pb pc :: SlO rs 6 rg :: MapI mb .i64 M :: TreeS t ns :: Own (byL bb 0 bytes) :: At m mc :: At rb rc :: R) A := h2
  have h3 := (h2.pick 6 rfl).focus ey
  have h3 : Own (At (bb y) (u8C bs) :: Own ((byL bb 0 bytes).eraseIdx y) :: At (gb a) [.pointer (some ⟨bb y, 0, none⟩), .int .i64 lent] :: Own ((pgL gb bb pages).eraseIdx j) :: At pb pc :: SlO rs 6 rg :: MapI mb .i64 M :: TreeS t ns :: At m mc :: At rb rc :: R) A := h3
  have h4 := ((h3.pick 2 rfl).pick 9 rfl).pick 2 rfl
  have h4 : Own (At (bb y) (u8C bs) :: At rb rc :: At (gb a) [.pointer (some ⟨bb y, 0, none⟩), .int .i64 lent] :: Own ((byL bb 0 bytes).eraseIdx y) :: Own ((pgL gb bb pages).eraseIdx j) :: At pb pc :: SlO rs 6 rg :: MapI mb .i64 M :: TreeS t ns :: At m mc :: R) A := h4
  refine ⟨_, h4, fun bs' rc' A' h' => ?_⟩
  have k1 := (h'.pick 3 rfl).pick 1 rfl
  have k2 := Own.unfocus (P' := At (bb y) (u8C bs')) ey k1
  have e5 := byL_set (bb := bb) (x := bs') (bytes := bytes) (i := 0) (j := y)
  rw [Nat.zero_add] at e5
  rw [e5] at k2
  have k3 : Own (Own (byL bb 0 (bytes.set y bs')) :: At rb rc' :: At (gb a) [.pointer (some ⟨bb y, 0, none⟩), .int .i64 lent] :: Own ((pgL gb bb pages).eraseIdx j) :: At pb pc :: SlO rs 6 rg :: MapI mb .i64 M :: TreeS t ns :: At m mc :: R) A' := k2
  have k4 := (k3.pick 3 rfl).pick 3 rfl
  have k5 := Own.unfocus (P' := At (gb a) [.pointer (some ⟨bb y, 0, none⟩), .int .i64 lent]) ej k4
  rw [set_self ej] at k5
  have k5 : Own (Own (pgL gb bb pages) :: Own (byL bb 0 (bytes.set y bs')) :: At rb rc' :: At pb pc :: SlO rs 6 rg :: MapI mb .i64 M :: TreeS t ns :: At m mc :: R) A' := k5
  exact (((((((k5.pick 2 rfl).pick 7 rfl).pick 3 rfl).pick 7 rfl).pick 4 rfl).pick 7 rfl).pick 7 rfl).pick 7 rfl
end Go.Dn
