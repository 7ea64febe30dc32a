/- Pages cost just the tables that they do not share, and a frame each. -/
import Derived.Test.YthbdbnadjpbfgaaGreatLawNone
import Derived.Test.YthbdbnadjpbfgaaGreatRegP
namespace Go.Dn

variable {A : AH} {l R L : List SP} {P : SP} {k : Nat}
structure CostI (F : List Int) (p : FPr) (U : Int) (bytes : List (List Int)) : Prop where
  rng : ∀ x ∈ F, 0 ≤ x ∧ x < 34359738368
  box : p.box = 1
  good : goodB p.regs = true
  rl : p.regs.length ≤ F.length
  look : ∀ q, lookR p.regs q = if q ∈ F then some (true, true, false, 0) else none
  keys : keysP p.pages = F
  wf : ∀ q ∈ p.pages, q.2.1 < bytes.length
  byt : ∀ b ∈ bytes, b.length = 4096 ∧ ∀ v ∈ b, 0 ≤ v ∧ v < 256
  u0 : 1 ≤ U
  u1 : U ≤ 1 + 4 * F.length
def shB (F : List Int) (x : Int) (j : Nat) : Bool := F.any fun q => Int.fdiv x (2 ^ (9 * j)) == Int.fdiv q (2 ^ (9 * j))
def nearC (F : List Int) (x : Int) : Nat → Int
  | 0 => 0
  | j + 1 => nearC F x j + if shB F x (j + 1) then 1 else 0
theorem nearC_le (F : List Int) (x : Int) : ∀ j : Nat, 0 ≤ nearC F x j ∧ nearC F x j ≤ j
  | 0 => by simp [nearC]
  | j + 1 => by have := nearC_le F x j; unfold nearC; split <;> omega
theorem shB_eq {F : List Int} {x : Int} (h : x ∉ F) (j : Nat) : shB F x j = nearB F x j := by
  unfold shB nearB
  induction F with
  | nil => rfl
  | cons q F ih =>
    simp only [List.mem_cons, not_or] at h
    have hq : (q != x) = true := by simp; exact fun e => h.1 e.symm
    rw [List.any_cons, List.any_cons, ih h.2, hq, Bool.true_and]
    congr 1
    rw [Bool.eq_iff_iff]; simp only [beq_iff_eq]; exact eq_comm
theorem nearC_eq {F : List Int} {x : Int} (h : x ∉ F) : ∀ j, nearC F x j = nearZ F x j
  | 0 => rfl
  | j + 1 => by rw [nearC, nearZ, nearC_eq h j, shB_eq h]
theorem lookup_keys {β : Type} {x : Int} : ∀ {m : List (Int × β)}, x ∉ m.map (·.1) → m.lookup x = none
  | [], _ => rfl
  | p :: m, h => by
    simp only [List.map_cons, List.mem_cons, not_or] at h
    simp only [List.lookup]
    have : (x == p.1) = false := by simpa using h.1
    rw [this]; exact lookup_keys h.2
theorem call_map {x : Int} (h : 0 ≤ x ∧ x < 34359738368) : callZ6 1 x 1 1 0 0 = some { op := 1, a := x, b := x + 1, pw := true, pu := true, px := false } := by
  unfold callZ6
  have : pagesB x 1 = true := by unfold pagesB; simp; omega
  rw [if_pos (.inl rfl), this]; rfl
theorem call_store {x v : Int} (h : 0 ≤ x ∧ x < 34359738368) : callZ6 5 (x * 4096) 8 v 0 0 = some { op := 5, addr := x * 4096, size := 8, x := v } := by
  unfold callZ6
  have : spotB (x * 4096) 8 = true := by unfold spotB; simp; omega
  rw [if_neg (by omega), if_neg (by omega), if_neg (by omega), if_pos rfl, this]; rfl
theorem CostI.addE {F : List Int} {p : FPr} {U x : Int} {bytes : List (List Int)} (h : CostI F p U bytes) (hF : F.length ≤ 40) (hx : 0 ≤ x ∧ x < 34359738368) : addE p.regs ⟨x, x + 1, true, true, false, 0⟩ = if x ∈ F then 6 else 0 := by
  have hr : rightB x (x + 1) = true := by unfold rightB; simp; omega
  unfold Go.Dn.addE
  rw [if_neg (by simp [hr]), if_neg (by simp [h.good])]
  have hl := h.look x
  by_cases c : x ∈ F
  · rw [if_pos c] at hl ⊢
    obtain ⟨z, hz, h1, h2⟩ := lookR_some.2 (by rw [hl]; simp : lookR p.regs x ≠ none)
    have : atS ⟨x, x + 1, true, true, false, 0⟩ p.regs 0 0 = none := at_none.2 ⟨z, hz, by simp; omega, by simp; omega⟩
    rw [this]
  · rw [if_neg c] at hl ⊢
    cases hv : atS ⟨x, x + 1, true, true, false, 0⟩ p.regs 0 0 with
    | none =>
      obtain ⟨z, hz, h1, h2⟩ := at_none.1 hv
      exact absurd hl (lookR_some.1 ⟨z, hz, by simp at h2; omega, by simp at h1; omega⟩)
    | some v =>
      have hL : addL p.regs ⟨x, x + 1, true, true, false, 0⟩ = mergedR (p.regs.take v ++ ⟨x, x + 1, true, true, false, 0⟩ :: p.regs.drop v) := by unfold addL; rw [hv]
      have := merged_le (p.regs.take v ++ ⟨x, x + 1, true, true, false, 0⟩ :: p.regs.drop v)
      have h3 := h.rl
      simp at this
      show (if _ then _ else _) = _
      rw [if_neg (by rw [hL]; omega)]
theorem CostI.more {F : List Int} {p : FPr} {U x : Int} {bytes : List (List Int)} {bs : List Int} (h : CostI F p U bytes) (hF : F.length ≤ 40) (hx : 0 ≤ x ∧ x < 34359738368) (hn : x ∉ F) (hb : bs.length = 4096 ∧ ∀ v ∈ bs, 0 ≤ v ∧ v < 256) {c : Int} (hc : 0 ≤ c ∧ c ≤ 4) :
    CostI (F ++ [x]) { p with regs := addL p.regs ⟨x, x + 1, true, true, false, 0⟩, pages := p.pages ++ [(x, (bytes.length, 0))] } (U + c) (bytes ++ [bs]) := by
  have hr : rightB x (x + 1) = true := by unfold rightB; simp; omega
  have he := h.addE hF hx
  rw [if_neg hn] at he
  obtain ⟨h1, h2, h3⟩ := add_plain h.good (y := ⟨x, x + 1, true, true, false, 0⟩) hr he
  have := h.rl
  have := h.u0
  have := h.u1
  refine ⟨fun y hy => ?_, h.box, h1, by simp; omega, fun q => ?_, ?_, fun q hq => ?_, fun b hb' => ?_, by omega, by simp; omega⟩
  · rcases List.mem_append.1 hy with hy | hy
    · exact h.rng y hy
    · simp at hy; subst hy; exact hx
  · show lookR (addL p.regs ⟨x, x + 1, true, true, false, 0⟩) q = _
    rw [h3 q, h.look q]
    by_cases c : q = x
    · subst c
      rw [if_pos (by simp; omega), if_pos (by simp)]; rfl
    · rw [if_neg (by simp; omega)]
      simp only [List.mem_append, List.mem_singleton, c, or_false]
  · unfold keysP
    have := h.keys
    unfold keysP at this
    rw [List.map_append, this]; rfl
  · rw [List.length_append]
    rcases List.mem_append.1 hq with hq | hq
    · have := h.wf q hq; omega
    · simp at hq; subst hq; simp
  · rcases List.mem_append.1 hb' with hb' | hb'
    · exact h.byt b hb'
    · simp at hb'; subst hb'; exact hb
theorem nsU (U : Int) : (([⟨-1, 1000, 2, 998, true⟩, ⟨0, 998, U, 0, true⟩] : List Nd)[1]?) = some ⟨0, 998, U, 0, true⟩ := rfl
theorem FlatCosts_spec {s : Sl} {pages : List Int} {Q : Bool → AP} (h : Own l A) (e : l[k]? = some P) (hr : Reads P s 1 (ivC pages)) (hk : ∀ A', Own l A' → Q true A') : demesnelaw19_FlatCosts_A s Q A := by
  have hsl := rd_iv_len h e hr
  unfold demesnelaw19_FlatCosts_A demesnelaw19_FlatCosts_G
  refine fBoot_spec (u := 1000) (qn := 1) (by omega) (by omega) h fun m t q pm pb gb bb A1 h1 => ?_
  refine ⟨fun A' => A' = A1, fun A' e => ?_, bsel_f rfl (bsel_f rfl rfl)⟩
  subst e
  refine new_C (cs := []) h1 fun b6 A2 h2 => ?_
  refine ⟨fun s12 x mm A' => ∃ (v : Nat) (F : List Int) (p : FPr) (U : Int) (bytes : List (List Int)) (gb : Int → Nat) (bb : Nat → Nat), x = v ∧ v ≤ 40 ∧ F.length ≤ v ∧ mm + v = 40 ∧ (s12.a = none → F = []) ∧ CostI F p U bytes ∧
    Own (SlO s12 1 (ivC F) :: f1L m t q pm pb gb bb [⟨-1, 1000, 2, 998, true⟩, ⟨0, 998, U, 0, true⟩] 1 0 p bytes l) A', ⟨40, 0, [], p0, 1, [], gb, bb, rfl, by omega, by simp, rfl, fun _ => rfl, ?_, ?_⟩, ?_⟩
  · exact ⟨by simp, rfl, rfl, by simp [p0], fun q => by simp [p0, lookR, findR], rfl, by simp [p0], by simp, by omega, by simp⟩
  · exact h2.imp fun B _ => ⟨⟨by simp [ivC], Nat.le_refl _⟩, .inl rfl⟩
  intro s12 x mm A3 ⟨v, F, p, U, bytes, gb, bb, e1, e2, e3, e4, e5, hI, h3⟩
  subst e1
  have hdrop : ∀ A', Own (SlO s12 1 (ivC F) :: f1L m t q pm pb gb bb [⟨-1, 1000, 2, 998, true⟩, ⟨0, 998, U, 0, true⟩] 1 0 p bytes l) A' → Own l A' := fun A' h' => h'.tail.tail.tail.tail.tail.tail.tail
  have done : demesnelaw19_awake_A (fun b h' => Q b h') A3 := awake19_spec (hdrop A3 h3) fun A' h' => hk A' h'
  have hFl : s12.len = F.length := rd_iv_len (k := 0) h3 rfl reads_slo
  refine ⟨fun A' => A' = A3 ∧ v < pages.length ∧ v < 40, fun A4 ⟨f1, f2, f3⟩ => ?_, ?_⟩
  rotate_left
  · refine bsel_in (fun g => bsel_in (fun g2 => ⟨rfl, ?_, ?_⟩) fun _ => done) fun _ => done
    · have := of_decide_eq_true g; simp only [Int.ofNat_eq_natCast] at this; omega
    · have := of_decide_eq_true g2; omega
  subst f1
  obtain ⟨x, hx⟩ : ∃ x, pages[v]? = some x := ⟨pages[v], by simp⟩
  -- the next round
  refine ⟨fun s' A' => ∃ (F : List Int) (p : FPr) (U : Int) (bytes : List (List Int)) (gb : Int → Nat) (bb : Nat → Nat), F.length ≤ v + 1 ∧ (s'.a = none → F = []) ∧ CostI F p U bytes ∧
    Own (SlO s' 1 (ivC F) :: f1L m t q pm pb gb bb [⟨-1, 1000, 2, 998, true⟩, ⟨0, 998, U, 0, true⟩] 1 0 p bytes l) A', fun s' A' ⟨F, p, U, bytes, gb, bb, k1, k2, k3, k4⟩ => ⟨mm - 1, by omega, v + 1, F, p, U, bytes, gb, bb, by rw [w64] <;> omega, by omega, k1, by omega, k2, k3, k4⟩, ?_⟩
  obtain ⟨a, q1, q2⟩ := rd_iv (k := k + 7) (v := v) h3 (by simpa [f1L] using e) hr hx
  rw [q1]
  refine inB_in (by omega) (by omega) ?_
  simp only [Int.toNat_natCast, Nat.mul_one]
  refine q2 _ ?_
  have skip : ∃ (F : List Int) (p : FPr) (U : Int) (bytes : List (List Int)) (gb : Int → Nat) (bb : Nat → Nat), F.length ≤ v + 1 ∧ (s12.a = none → F = []) ∧ CostI F p U bytes ∧
    Own (SlO s12 1 (ivC F) :: f1L m t q pm pb gb bb [⟨-1, 1000, 2, 998, true⟩, ⟨0, 998, U, 0, true⟩] 1 0 p bytes l) A4 := ⟨F, p, U, bytes, gb, bb, by omega, e5, hI, h3⟩
  refine ⟨fun A' => A' = A4 ∧ 0 ≤ x ∧ x < 34359738368, fun A5 ⟨g1, g2⟩ => ?_, bsel_in (fun _ => skip) fun g => bsel_in (fun _ => skip) fun g2 => ⟨rfl, by have := of_decide_eq_false g; omega, by have := of_decide_eq_false g2; omega⟩⟩
  subst g1
  refine new_C (cs := [.int .i64 9, .int .i64 18, .int .i64 27]) h3 fun b25 A6 h4 => ?_
  refine ⟨fun c th j mm A' => ∃ n : Nat, j = n ∧ n ≤ 3 ∧ mm + n = 3 ∧ c = 4 - nearC F x n ∧ th = (decide (n ≠ 0) && F.contains x) ∧ A' = A6, ⟨3, 0, rfl, by omega, rfl, rfl, rfl, rfl⟩, ?_⟩
  intro c th j mm2 A7 ⟨n, i1, i2, i3, i4, i5, i6⟩
  subst i1 i6
  refine bsel_in (fun g => ?_) fun g => ?_
  · have g : (n : Int) < 3 := of_decide_eq_true g
    refine ⟨fun c' th' A' => c' = 4 - nearC F x (n + 1) ∧ th' = F.contains x ∧ A' = A7, fun c' th' A' ⟨y1, y2, y3⟩ => ⟨mm2 - 1, by omega, n + 1, by rw [w64] <;> omega, by omega, by omega, y1, by rw [y2]; simp, y3⟩, ?_⟩
    refine inB_in (by omega) (by omega) ?_
    have hby : ([.int .i64 9, .int .i64 18, .int .i64 27] : List Value)[n]? = some (.int .i64 ((9 * (n + 1) : Nat) : Int)) := by
      have : n = 0 ∨ n = 1 ∨ n = 2 := by omega
      rcases this with rfl | rfl | rfl <;> rfl
    simp only [Int.toNat_natCast, Nat.mul_one, add_at, Nat.zero_add]
    refine ld_I (i := 0) (n := ((9 * (n + 1) : Nat) : Int)) h4 rfl hby ?_
    have hmin : min (Int.toNat ((9 * (n + 1) : Nat) : Int)) 64 = 9 * (n + 1) := by rw [Int.toNat_natCast]; omega
    have hneg : decide (((9 * (n + 1) : Nat) : Int) < 0) = false := by simp; omega
    rw [hmin]
    refine ⟨fun b40 b41 u mm A' => ∃ w : Nat, u = w ∧ mm + w = F.length ∧ w ≤ F.length ∧ b41 = shB (F.take w) x (n + 1) ∧ b40 = (th || (F.take w).contains x) ∧ A' = A7, ⟨F.length, 0, rfl, rfl, by omega, rfl, by simp, rfl⟩, ?_⟩
    intro b40 b41 u mm3 A8 ⟨w, y1, y2, y3, y4, y5, y6⟩
    subst y1 y6
    refine bsel_in (fun g3 => ?_) fun g3 => ?_
    · have g3 : (w : Int) < (s12.len : Int) := of_decide_eq_true g3
      obtain ⟨z, hz⟩ : ∃ z, F[w]? = some z := ⟨F[w]'(by omega), by simp⟩
      refine ⟨fun b46 b47 A' => b47 = shB (F.take (w + 1)) x (n + 1) ∧ b46 = (th || (F.take (w + 1)).contains x) ∧ A' = A8, fun b46 b47 A' ⟨z1, z2, z3⟩ => ⟨mm3 - 1, by omega, w + 1, by rw [w64] <;> omega, by omega, by omega, z1, z2, z3⟩, ?_⟩
      obtain ⟨a2, p1, p2⟩ := rd_iv (k := 1) (v := w) h4 rfl reads_slo hz
      rw [p1]
      refine inB_in (by omega) g3 ?_
      simp only [Int.toNat_natCast, Nat.mul_one]
      refine p2 _ ?_
      have s1 : shB (F.take (w + 1)) x (n + 1) = (b41 || (Int.fdiv x (2 ^ (9 * (n + 1))) == Int.fdiv z (2 ^ (9 * (n + 1))))) := by
        rw [y4, take_succ hz]; unfold shB; rw [List.any_append]; simp
      have s2 : (th || (F.take (w + 1)).contains x) = (b40 || (x == z)) := by
        rw [y5, take_succ hz, Bool.or_assoc]
        congr 1
        rw [Bool.eq_iff_iff]; simp
      have t1 : b41 = true → shB (F.take (w + 1)) x (n + 1) = true := fun z => by rw [s1, z]; rfl
      have t2 : b41 = false → shB (F.take (w + 1)) x (n + 1) = (Int.fdiv x (2 ^ (9 * (n + 1))) == Int.fdiv z (2 ^ (9 * (n + 1)))) := fun z => by rw [s1, z]; rfl
      have t3 : b40 = true → (th || (F.take (w + 1)).contains x) = true := fun z => by rw [s2, z]; rfl
      have t4 : b40 = false → (th || (F.take (w + 1)).contains x) = (x == z) := fun z => by rw [s2, z]; rfl
      refine bsel_in (fun c1 => bsel_in (fun c2 => ⟨(t1 c1).symm, (t3 c2).symm, trivial⟩) fun c2 => ⟨(t1 c1).symm, (t4 c2).symm, trivial⟩) fun c1 => bsel_f hneg (bsel_f hneg (bsel_in (fun c2 => ⟨(t2 c1).symm, (t3 c2).symm, trivial⟩) fun c2 => ⟨(t2 c1).symm, (t4 c2).symm, trivial⟩))
    · have g3 : ¬ (w : Int) < (s12.len : Int) := of_decide_eq_false g3
      have hw : w = F.length := by omega
      subst hw
      rw [List.take_length] at y4 y5
      have hth : b40 = F.contains x := by
        rw [y5, i5]
        by_cases hn : n = 0
        · subst hn; rfl
        · rw [decide_eq_true hn]; simp
      have hC := nearC_le F x n
      have hN : nearC F x (n + 1) = nearC F x n + if b41 then 1 else 0 := by rw [y4]; rfl
      refine bsel_in (fun c => ⟨?_, hth, rfl⟩) fun c => ⟨?_, hth, rfl⟩
      · rw [hN, c, i4, w64 (by omega) (by omega)]; simp; omega
      · rw [hN, c, i4]; simp
  · have g : ¬ (n : Int) < 3 := of_decide_eq_false g
    have hn3 : n = 3 := by omega
    subst hn3
    have i5 : th = F.contains x := by rw [i5]; rfl
    have hC := nearC_le F x 3
    have h5 := h4.tail
    -- what is charged, and where the number stands now
    refine ⟨fun s' c' A' => ∃ F', (s'.a = none → F' = []) ∧ ((x ∈ F ∧ F' = F ∧ c' = 0) ∨ (x ∉ F ∧ F' = F ++ [x] ∧ c' = 4 - nearC F x 3)) ∧ Own (SlO s' 1 (ivC F') :: f1L m t q pm pb gb bb [⟨-1, 1000, 2, 998, true⟩, ⟨0, 998, U, 0, true⟩] 1 0 p bytes l) A', fun s' c' A8 ⟨F', r1, r2, h6⟩ => ?_, ?_⟩
    rotate_left
    · refine bsel_in (fun c => ⟨F, e5, .inl ⟨by simpa using i5.symm.trans c, rfl, rfl⟩, h5⟩) fun c => ?_
      have hxF : x ∉ F := by
        have := i5.symm.trans c
        simpa using this
      exact push_iv h5 e5 (by omega) fun s3 A9 r1 h7 => ⟨_, fun z => absurd z r1, .inr ⟨hxF, rfl, i4⟩, h7⟩
    have tl : ∀ {S : SP} {A' : AH} {X : List SP}, Own (S :: X) A' → Own X A' := fun h => h.tail
    -- from here on the slice of numbers stands behind the model
    have hX : Own (f1L m t q pm pb gb bb [⟨-1, 1000, 2, 998, true⟩, ⟨0, 998, U, 0, true⟩] 1 0 p bytes (SlO s' 1 (ivC F') :: l)) A8 := by
      have h7 : Own ([SlO s' 1 (ivC F')] ++ (f1L m t q pm pb gb bb [⟨-1, 1000, 2, 998, true⟩, ⟨0, 998, U, 0, true⟩] 1 0 p bytes l)) A8 := h6
      exact h7.perm (List.perm_middle (l₁ := [_, _, _, _, _, _]) (l₂ := l)).symm
    have hXb : ∀ {gb : Int → Nat} {bb : Nat → Nat} {U : Int} {p : FPr} {bytes : List (List Int)} {A' : AH}, Own (f1L m t q pm pb gb bb [⟨-1, 1000, 2, 998, true⟩, ⟨0, 998, U, 0, true⟩] 1 0 p bytes (SlO s' 1 (ivC F') :: l)) A' →
        Own (SlO s' 1 (ivC F') :: f1L m t q pm pb gb bb [⟨-1, 1000, 2, 998, true⟩, ⟨0, 998, U, 0, true⟩] 1 0 p bytes l) A' := fun {gb bb U p bytes A'} h' => h'.perm (List.perm_middle (l₁ := [_, _, _, _, _, _]) (l₂ := l))
    refine Used_spec (bi := 1) hI.box (nsU U) rfl hX ?_
    have wx : IntKind.wrap .u64 x = x := wu64 (by omega) (by omega)
    have wx2 : IntKind.wrap .u64 (x * 4096) = x * 4096 := wu64 (by omega) (by omega)
    have wv : IntKind.wrap .u64 (v : Int) = v := wu64 (by omega) (by omega)
    rw [wx, wx2, wv]
    have hFl : F.length ≤ 40 := by omega
    have hE := hI.addE hFl g2
    have hdiv : x * 4096 / 4096 = x := Int.mul_ediv_cancel _ (by omega)
    have hmod : x * 4096 % 4096 = 0 := Int.mul_emod_left ..
    have fin : ∀ {e gb bb U' p' bytes' A'}, e ≠ (4 : Int) → (U' = U + c') → CostI F' p' U' bytes' → Own (f1L m t q pm pb gb bb [⟨-1, 1000, 2, 998, true⟩, ⟨0, 998, U', 0, true⟩] 1 0 p' bytes' (SlO s' 1 (ivC F') :: l)) A' →
      bsel (e != (4 : Int)) (bsel ((0 : Int) != (0 : Int)) (Q false A') (flat_Model_Used_A (some ⟨m, 0, none⟩) (0 : Int) (fun n80 h81 => bsel (n80 != (IntKind.wrap .i64 (U + c'))) (Q false h81) (bsel (e == (4 : Int)) (demesnelaw19_awake_A (fun b82 h83 => Q b82 h83) h81)
        (∃ (F : List Int) (p : FPr) (U : Int) (bytes : List (List Int)) (gb : Int → Nat) (bb : Nat → Nat), F.length ≤ v + 1 ∧ (s'.a = none → F = []) ∧ CostI F p U bytes ∧ Own (SlO s' 1 (ivC F) :: f1L m t q pm pb gb bb [⟨-1, 1000, 2, 998, true⟩, ⟨0, 998, U, 0, true⟩] 1 0 p bytes l) h81))) A'))
        (bsel (e == (4 : Int)) (demesnelaw19_awake_A (fun b84 h85 => Q b84 h85) A') (∃ (F : List Int) (p : FPr) (U : Int) (bytes : List (List Int)) (gb : Int → Nat) (bb : Nat → Nat), F.length ≤ v + 1 ∧ (s'.a = none → F = []) ∧ CostI F p U bytes ∧ Own (SlO s' 1 (ivC F) :: f1L m t q pm pb gb bb [⟨-1, 1000, 2, 998, true⟩, ⟨0, 998, U, 0, true⟩] 1 0 p bytes l) A')) := by
      intro e gb bb U' p' bytes' A' he hU hI' h'
      refine bsel_t (by simpa using he) (bsel_f rfl (Used_spec (bi := 1) hI'.box (nsU U') rfl h' ?_))
      have hu0 := hI'.u0
      have hu1 := hI'.u1
      have hF' : F'.length ≤ v + 1 := by rcases r2 with ⟨_, z, _⟩ | ⟨_, z, _⟩ <;> rw [z] <;> (try rw [List.length_append, List.length_singleton]) <;> omega
      rw [← hU, w64 (n := U') (by omega) (by omega)]
      refine bsel_f (by simp) (bsel_f (by simpa using he) ⟨F', p', U', bytes', gb, bb, hF', r1, hI', hXb h'⟩)
    rcases r2 with ⟨c1, c2, c3⟩ | ⟨c1, c2, c3⟩
    · -- it was there
      subst c2 c3
      rw [if_pos c1] at hE
      have hth : th = true := by rw [i5]; simpa using c1
      refine Do_map (c := { op := 1, a := x, b := x + 1, pw := true, pu := true, px := false }) (by simp; omega) (call_map g2) rfl hX (fun _ A9 h9 => ?_) fun z => by rw [hE] at z; cases z
      rw [hE, hth]
      have hl := hI.look x
      rw [if_pos c1] at hl
      refine ⟨fun A' => A' = A9, fun A' ee => ?_, bsel_f rfl (Used_spec (bi := 1) hI.box (nsU U) rfl h9 (bsel_f (by simp) rfl))⟩
      subst ee
      obtain ⟨y, hy, hya⟩ : ∃ y, findR p.regs x = some y ∧ attrR y = (true, true, false, 0) := by
        unfold lookR at hl
        cases hf : findR p.regs x with
        | none => rw [hf] at hl; cases hl
        | some y => rw [hf] at hl; exact ⟨y, rfl, by simpa using hl⟩
      unfold attrR at hya
      simp only [Prod.mk.injEq] at hya
      have hlk : ∃ yi lent, p.pages.lookup x = some (yi, lent) := by
        cases hlk : p.pages.lookup x with
        | some z => exact ⟨z.1, z.2, rfl⟩
        | none =>
          have := lookup_no2 hlk
          rw [← hI.keys] at c1
          obtain ⟨z, hz, hz2⟩ := List.mem_map.1 c1
          exact absurd hz2 (this z hz)
      obtain ⟨yi, lent, hlk⟩ := hlk
      refine Do_mem (bi := 1) (nd := ⟨0, 998, U, 0, true⟩) (y := y) (c := { op := 5, addr := x * 4096, size := 8, x := v }) (by simp; omega) (call_store g2) (.inr rfl) hI.box (nsU U) rfl (by have := hI.rl; omega) (by rw [hdiv]; exact hy) hya.2.1 (fun _ => hya.1) hI.wf hI.byt (by simp; omega) (by simp) (by simp) (by rw [hmod]; simp) h9
        (fun yi' lent' bs z1 z2 A10 h10 => ?_) (fun z => by rw [hdiv, hlk] at z; cases z) (fun z => by rw [hdiv, hlk] at z; cases z)
      refine fin (by decide) (by simp) (p' := p) (U' := U) ?_ h10
      refine ⟨hI.rng, hI.box, hI.good, hI.rl, hI.look, hI.keys, fun q hq => ?_, fun b hb => ?_, hI.u0, hI.u1⟩
      · rw [if_pos rfl, List.length_set]; exact hI.wf q hq
      · rw [if_pos rfl] at hb
        rcases List.mem_or_eq_of_mem_set hb with hb | hb
        · exact hI.byt b hb
        · have := hI.byt bs (List.mem_of_getElem? z2)
          subst hb
          exact ⟨by rw [wrB_len]; exact this.1, wrB_byte this.2 _⟩
    · -- it is new
      subst c2 c3
      rw [if_neg c1] at hE
      have hth : th = false := by rw [i5]; simpa using c1
      refine Do_map (c := { op := 1, a := x, b := x + 1, pw := true, pu := true, px := false }) (by simp; omega) (call_map g2) rfl hX (fun z => absurd hE z) fun _ A9 h9 => ?_
      rw [hth]
      refine ⟨fun A' => A' = A9, fun A' ee => ?_, bsel_f rfl (Used_spec (p := { p with regs := addL p.regs ⟨x, x + 1, true, true, false, 0⟩ }) (bi := 1) hI.box (nsU U) rfl h9 (bsel_f (by simp) rfl))⟩
      subst ee
      have hr : rightB x (x + 1) = true := by unfold rightB; simp; omega
      obtain ⟨a1, a2, a3⟩ := add_plain hI.good (y := ⟨x, x + 1, true, true, false, 0⟩) hr hE
      have hl := a3 x
      rw [if_pos (by simp; omega)] at hl
      obtain ⟨y, hy, hya⟩ : ∃ y, findR (addL p.regs ⟨x, x + 1, true, true, false, 0⟩) x = some y ∧ attrR y = (true, true, false, 0) := by
        unfold lookR at hl
        cases hf : findR (addL p.regs ⟨x, x + 1, true, true, false, 0⟩) x with
        | none => rw [hf] at hl; cases hl
        | some y => rw [hf] at hl; exact ⟨y, rfl, by simpa [attrR] using hl⟩
      unfold attrR at hya
      simp only [Prod.mk.injEq] at hya
      have hlk : p.pages.lookup x = none := lookup_keys (by rw [show p.pages.map (·.1) = F from hI.keys]; exact c1)
      have hcost : 3 - sharedZ (keysP p.pages) x + 1 = 4 - nearC F x 3 := by rw [hI.keys, sharedZ, nearC_eq c1]; omega
      have hu1 := hI.u1
      have hu0 := hI.u0
      refine Do_mem (p := { p with regs := addL p.regs ⟨x, x + 1, true, true, false, 0⟩ }) (bi := 1) (nd := ⟨0, 998, U, 0, true⟩) (y := y) (c := { op := 5, addr := x * 4096, size := 8, x := v }) (by simp; omega) (call_store g2) (.inr rfl) hI.box (nsU U) rfl (by have := hI.rl; show (addL p.regs _).length ≤ _; omega) (by rw [hdiv]; exact hy) hya.2.1 (fun _ => hya.1) hI.wf hI.byt (by simp; omega) (by simp) (by simp) (by rw [hmod]; simp) h9
        (fun yi' lent' bs z1 => by rw [hdiv, hlk] at z1; cases z1) (fun _ z => by rw [hdiv, hcost] at z; simp at z; omega) (fun _ _ gb' bb' A10 h10 => ?_)
      rw [hdiv, hcost, hmod] at h10
      refine fin (U' := U + (4 - nearC F x 3)) (p' := { p with regs := addL p.regs ⟨x, x + 1, true, true, false, 0⟩, pages := p.pages ++ [(x, (bytes.length, 0))] }) (by decide) rfl ?_ h10
      exact hI.more hFl g2 c1 ⟨by rw [if_pos rfl, wrB_len]; exact zeroP_len, by rw [if_pos rfl]; exact wrB_byte zeroP_byte _⟩ (by omega)
end Go.Dn
