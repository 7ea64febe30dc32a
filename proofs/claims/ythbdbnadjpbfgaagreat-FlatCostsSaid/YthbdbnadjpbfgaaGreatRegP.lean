/- Lists of regions that rise: what becomes of them when one is added. -/
import Derived.Test.YthbdbnadjpbfgaaGreatRegA
namespace Go.Dn

variable {L : List Reg} {y q : Reg}
def attrR (y : Reg) : Bool × Bool × Bool × Int := (y.w, y.u, y.x, y.k)
def lookR (L : List Reg) (p : Int) : Option (Bool × Bool × Bool × Int) := (findR L p).map attrR
def srtR : List Reg → Prop
  | [] => True
  | y :: r => (0 ≤ y.a ∧ y.a < y.b ∧ y.b ≤ 34359738368) ∧ (∀ z ∈ r, y.b ≤ z.a) ∧ srtR r
def njR : List Reg → Prop
  | [] => True
  | y :: r => (∀ z, r.head? = some z → joinsB y z = false) ∧ njR r
theorem srt_app : ∀ {a b : List Reg}, srtR (a ++ b) ↔ srtR a ∧ srtR b ∧ ∀ x ∈ a, ∀ z ∈ b, x.b ≤ z.a
  | [], b => by simp [srtR]
  | y :: a, b => by
    simp only [List.cons_append, srtR, srt_app (a := a), List.mem_append, List.mem_cons]
    constructor
    · rintro ⟨h1, h2, h3, h4, h5⟩
      exact ⟨⟨h1, fun z hz => h2 z (.inl hz), h3⟩, h4, fun x hx z hz => hx.elim (fun e => by rw [e]; exact h2 z (.inr hz)) fun hx => h5 x hx z hz⟩
    · rintro ⟨⟨h1, h2, h3⟩, h4, h5⟩
      exact ⟨h1, fun z hz => hz.elim (h2 z) fun hz => h5 y (.inl rfl) z hz, h3, h4, fun x hx z hz => h5 x (.inr hx) z hz⟩
theorem srt_mem : ∀ {L : List Reg}, srtR L → ∀ x ∈ L, 0 ≤ x.a ∧ x.a < x.b ∧ x.b ≤ 34359738368
  | y :: r, h, x, hx => by
    rcases List.mem_cons.1 hx with e | hx
    · rw [e]; exact h.1
    · exact srt_mem h.2.2 x hx
theorem nj_snoc : ∀ {a : List Reg} {q : Reg}, njR (a ++ [q]) ↔ njR a ∧ ∀ l, a.getLast? = some l → joinsB l q = false
  | [], q => by simp [njR]
  | [x], q => by simp [njR]
  | x :: z :: a, q => by
    have ih := nj_snoc (a := z :: a) (q := q)
    have e : (x :: z :: a).getLast? = (z :: a).getLast? := by simp [List.getLast?_cons_cons]
    rw [e, List.cons_append, njR, njR, ih]
    simp only [List.cons_append, List.head?_cons, Option.some.injEq, forall_eq']
    constructor
    · rintro ⟨h1, h2, h3⟩; exact ⟨⟨h1, h2⟩, h3⟩
    · rintro ⟨⟨h1, h2⟩, h3⟩; exact ⟨h1, h2, h3⟩
theorem joins_iff {p q : Reg} : joinsB p q = true ↔ p.b = q.a ∧ attrR p = attrR q := by
  unfold joinsB attrR
  simp only [Bool.and_eq_true, beq_iff_eq, Bool.and_true, Prod.mk.injEq]
  constructor
  · rintro ⟨h1, ⟨h2, h3, h4⟩, h5⟩; exact ⟨h1, h2, h3, h4, h5⟩
  · rintro ⟨h1, h2, h3, h4, h5⟩; exact ⟨h1, ⟨h2, h3, h4⟩, h5⟩
theorem joins_cong {p p' q q' : Reg} (h1 : p.b = p'.b) (h2 : attrR p = attrR p') (h3 : q.a = q'.a) (h4 : attrR q = attrR q') : joinsB p q = joinsB p' q' := by
  rw [Bool.eq_iff_iff, joins_iff, joins_iff, h1, h2, h3, h4]
theorem lookR_app {a b : List Reg} {p : Int} : lookR (a ++ b) p = (lookR a p).or (lookR b p) := by
  unfold lookR findR
  rw [List.find?_append]
  cases List.find? (fun r => decide (r.a ≤ p) && decide (p < r.b)) a <;> rfl
theorem lookR_cons {a : Reg} {b : List Reg} {p : Int} : lookR (a :: b) p = if a.a ≤ p ∧ p < a.b then some (attrR a) else lookR b p := by
  unfold lookR findR
  rw [List.find?_cons]
  by_cases h : a.a ≤ p ∧ p < a.b
  · rw [if_pos h, decide_eq_true h.1, decide_eq_true h.2]; rfl
  · rw [if_neg h]
    have : (decide (a.a ≤ p) && decide (p < a.b)) = false := by simp; omega
    rw [this]
theorem mrg_step {acc r : List Reg} {y : Reg} (h : srtR (acc ++ y :: r)) (hj : njR acc) : srtR (mrgR acc y ++ r) ∧ njR (mrgR acc y) ∧ ∀ p, lookR (mrgR acc y ++ r) p = lookR (acc ++ y :: r) p := by
  unfold mrgR
  split
  · rename_i q hq
    have hne : acc ≠ [] := fun z => by rw [z] at hq; simp at hq
    have hdl : acc = acc.dropLast ++ [q] := by
      have := List.dropLast_concat_getLast hne
      rw [List.getLast?_eq_some_getLast hne] at hq
      rw [← Option.some.inj hq]
      exact this.symm
    generalize acc.dropLast = a0 at hdl
    subst hdl
    split
    · rename_i hjo
      obtain ⟨e1, e2⟩ := joins_iff.1 hjo
      rw [List.append_assoc] at h
      have h1 := srt_app.1 h
      have hq1 := (srt_app.1 h1.2.1)
      have hy := srt_app (a := [y]) (b := r)
      have hs : srtR ([q] ++ y :: r) := h1.2.1
      obtain ⟨hqq, hqr, hyr⟩ := (hs : (0 ≤ q.a ∧ q.a < q.b ∧ q.b ≤ 34359738368) ∧ (∀ z ∈ y :: r, q.b ≤ z.a) ∧ srtR (y :: r))
      obtain ⟨hyy, hyz, hr⟩ := hyr
      have hnj := nj_snoc.1 hj
      refine ⟨?_, ?_, fun p => ?_⟩
      · rw [List.append_assoc]
        refine srt_app.2 ⟨h1.1, ⟨⟨hqq.1, by show q.a < y.b; omega, hyy.2.2⟩, fun z hz => hyz z hz, hr⟩, fun x hx z hz => ?_⟩
        rcases List.mem_cons.1 hz with e | hz
        · rw [e]; exact h1.2.2 x hx q (by simp)
        · exact h1.2.2 x hx z (List.mem_append_right _ (List.mem_cons_of_mem _ hz))
      · refine nj_snoc.2 ⟨hnj.1, fun l hl => ?_⟩
        have := hnj.2 l hl
        rw [← this]
        exact joins_cong rfl rfl rfl rfl
      · have e4 : a0 ++ [{ q with b := y.b }] ++ r = a0 ++ ({ q with b := y.b } :: r) := by simp
        have e5 : a0 ++ [q] ++ y :: r = a0 ++ (q :: y :: r) := by simp
        rw [e4, e5, lookR_app, lookR_app]
        congr 1
        rw [lookR_cons, lookR_cons, lookR_cons]
        have e3 : attrR { q with b := y.b } = attrR q := rfl
        rw [e3]
        by_cases c1 : q.a ≤ p ∧ p < q.b
        · rw [if_pos c1, if_pos (show q.a ≤ p ∧ p < y.b by omega)]
        · rw [if_neg c1]
          by_cases c2 : y.a ≤ p ∧ p < y.b
          · rw [if_pos c2, if_pos (show q.a ≤ p ∧ p < y.b by omega), e2]
          · rw [if_neg c2, if_neg (show ¬ (q.a ≤ p ∧ p < y.b) by omega)]
    · rename_i hjo
      refine ⟨by rw [List.append_assoc]; exact h, nj_snoc.2 ⟨hj, fun l hl => ?_⟩, fun p => by rw [List.append_assoc]; rfl⟩
      rw [hq] at hl
      cases hl
      simpa using hjo
  · rename_i hq
    have : acc = [] := List.getLast?_eq_none_iff.1 hq
    subst this
    exact ⟨h, ⟨fun z hz => by simp at hz, trivial⟩, fun p => rfl⟩
theorem fold_mrg : ∀ (rest acc : List Reg), srtR (acc ++ rest) → njR acc → srtR (rest.foldl mrgR acc) ∧ njR (rest.foldl mrgR acc) ∧ ∀ p, lookR (rest.foldl mrgR acc) p = lookR (acc ++ rest) p
  | [], acc, h, hj => by rw [List.append_nil] at h; exact ⟨h, hj, fun p => by rw [List.append_nil]; rfl⟩
  | y :: r, acc, h, hj => by
    obtain ⟨h1, h2, h3⟩ := mrg_step h hj
    obtain ⟨k1, k2, k3⟩ := fold_mrg r (mrgR acc y) h1 h2
    exact ⟨k1, k2, fun p => (k3 p).trans (h3 p)⟩
theorem merged_all (h : srtR L) : srtR (mergedR L) ∧ njR (mergedR L) ∧ ∀ p, lookR (mergedR L) p = lookR L p := fold_mrg L [] h trivial
/-- What it is to be good. -/
theorem okP_iff {o : Option Reg} : okP o y = true ↔ (0 ≤ y.a ∧ y.a < y.b ∧ y.b ≤ 34359738368) ∧ ∀ q, o = some q → q.b ≤ y.a ∧ joinsB q y = false := by
  unfold okP
  cases o with
  | none =>
    simp only [Bool.and_eq_true, Bool.not_eq_true', decide_eq_false_iff_not, reduceCtorEq, false_implies, implies_true, and_true]
    omega
  | some q =>
    simp only [Bool.and_eq_true, Bool.not_eq_true', decide_eq_false_iff_not, Option.some.injEq, forall_eq']
    constructor
    · rintro ⟨k1, k2, k3, k4, k5⟩; exact ⟨⟨by omega, by omega, by omega⟩, by omega, k5⟩
    · rintro ⟨⟨k1, k2, k3⟩, k4, k5⟩; exact ⟨by omega, by omega, by omega, by omega, k5⟩
theorem srt_of : ∀ (L : List Reg) (o : Option Reg), (∀ v, v < L.length → okP (if v = 0 then o else L[v - 1]?) (L[v]?.getD y) = true) → srtR L ∧ njR L ∧ (∀ q z, o = some q → L.head? = some z → joinsB q z = false) ∧ ∀ q, o = some q → ∀ z ∈ L, q.b ≤ z.a
  | [], o, _ => ⟨trivial, trivial, by simp, by simp⟩
  | x :: r, o, h => by
    have h0 := okP_iff.1 (h 0 (by simp))
    simp only [if_true, List.getElem?_cons_zero, Option.getD_some] at h0
    obtain ⟨k1, k2, k3, k4⟩ := srt_of r (some x) fun v hv => by
      have := h (v + 1) (by simp; omega)
      rw [if_neg (by omega), List.getElem?_cons_succ] at this
      cases v with
      | zero => simpa using this
      | succ v => simpa using this
    refine ⟨⟨h0.1, fun z hz => k4 x rfl z hz, k1⟩, ⟨fun z hz => k3 x z rfl hz, k2⟩, fun q z hq hz => ?_, fun q hq z hz => ?_⟩
    · simp at hz; subst hz; exact (h0.2 q hq).2
    · have := (h0.2 q hq).1
      rcases List.mem_cons.1 hz with e | hz
      · rw [e]; exact this
      · have := k4 x rfl z hz; omega
theorem ok_of : ∀ (L : List Reg) (o : Option Reg), srtR L → njR L → (∀ q z, o = some q → L.head? = some z → q.b ≤ z.a ∧ joinsB q z = false) → ∀ v z, L[v]? = some z → okP (if v = 0 then o else L[v - 1]?) z = true
  | [], o, _, _, _, v, z, h => by simp at h
  | x :: r, o, h1, h2, h3, 0, z, h => by
    simp at h; subst h
    exact okP_iff.2 ⟨h1.1, fun q hq => h3 q x hq rfl⟩
  | x :: r, o, h1, h2, h3, v + 1, z, h => by
    have := ok_of r (some x) h1.2.2 h2.2 (fun q z hq hz => by
      cases hq
      exact ⟨h1.2.1 z (List.mem_of_head? hz), h2.1 z hz⟩) v z (by simpa using h)
    rw [if_neg (by omega), show v + 1 - 1 = v by omega]
    cases v with
    | zero => simpa using this
    | succ v => simpa using this
theorem good_iff : goodB L = true ↔ L.length ≤ 64 ∧ srtR L ∧ njR L := by
  unfold goodB
  rw [Bool.and_eq_true, decide_eq_true_eq, List.all_eq_true]
  constructor
  · rintro ⟨h1, h2⟩
    have := srt_of (y := reg0) L none fun v hv => by
      have := h2 v (by simpa using hv)
      unfold okR6 at this
      rw [List.getElem?_eq_getElem hv] at this ⊢
      exact this
    exact ⟨h1, this.1, this.2.1⟩
  · rintro ⟨h1, h2, h3⟩
    refine ⟨h1, fun v hv => ?_⟩
    unfold okR6
    cases h : L[v]? with
    | none => rfl
    | some z => exact ok_of L none h2 h3 (fun q z hq => by cases hq) v z h
theorem at_none : ∀ {L : List Reg} {i a : Nat}, atS y L i a = none ↔ ∃ x ∈ L, y.a < x.b ∧ x.a < y.b
  | [], i, a => by simp [atS]
  | x :: L, i, a => by
    rw [atS]
    split
    · rw [at_none (L := L)]
      constructor
      · rintro ⟨z, h1, h2⟩; exact ⟨z, by simp [h1], h2⟩
      · rintro ⟨z, h1, h2⟩
        rcases List.mem_cons.1 h1 with e | h1
        · rw [e] at h2; omega
        · exact ⟨z, h1, h2⟩
    · split
      · exact ⟨fun _ => ⟨x, by simp, by omega⟩, fun _ => rfl⟩
      · rw [at_none (L := L)]
        constructor
        · rintro ⟨z, h1, h2⟩; exact ⟨z, by simp [h1], h2⟩
        · rintro ⟨z, h1, h2⟩
          rcases List.mem_cons.1 h1 with e | h1
          · rw [e] at h2; omega
          · exact ⟨z, h1, h2⟩
theorem at_some : ∀ {L : List Reg} {i a v : Nat}, srtR L → atS y L i a = some v → ∃ c, c ≤ L.length ∧ (v = if c = 0 then a else i + c) ∧ (∀ x ∈ L.take c, x.b ≤ y.a) ∧ ∀ x ∈ L.drop c, y.b ≤ x.a ∧ y.a < x.b
  | [], i, a, v, _, h => by
    simp [atS] at h
    exact ⟨0, by simp, by simp [h], by simp, by simp⟩
  | x :: L, i, a, v, hs, h => by
    rw [atS] at h
    split at h
    · rename_i g
      obtain ⟨c, h1, h2, h3, h4⟩ := at_some hs.2.2 h
      refine ⟨c + 1, by simp; omega, by rw [if_neg (by omega)]; split at h2 <;> omega, fun z hz => ?_, fun z hz => h4 z (by simpa using hz)⟩
      rw [List.take_succ_cons] at hz
      rcases List.mem_cons.1 hz with e | hz
      · rw [e]; exact g
      · exact h3 z hz
    · rename_i g
      split at h
      · cases h
      · rename_i g2
        obtain ⟨c, h1, h2, h3, h4⟩ := at_some hs.2.2 h
        have hc : c = 0 := by
          cases L with
          | nil => simp at h1; exact h1
          | cons z L =>
            cases c with
            | zero => rfl
            | succ c =>
              have q1 := h3 z (by simp)
              have q2 := hs.2.1 z (by simp)
              have q3 := hs.2.2.1
              omega
        subst hc
        refine ⟨0, by simp, by simpa using h2, by simp, fun z hz => ?_⟩
        rw [List.drop_zero] at hz
        rcases List.mem_cons.1 hz with e | hz
        · rw [e]; omega
        · exact h4 z (by simpa using hz)
theorem add_plain (hg : goodB L = true) (hr : rightB y.a y.b = true) (he : addE L y = 0) : goodB (addL L y) = true ∧ (addL L y).length ≤ L.length + 1 ∧ ∀ p, lookR (addL L y) p = if y.a ≤ p ∧ p < y.b then some (attrR y) else lookR L p := by
  obtain ⟨g1, g2, g3⟩ := good_iff.1 hg
  unfold addE at he
  rw [if_neg (by simp [hr]), if_neg (by simp [hg])] at he
  cases hv : atS y L 0 0 with
  | none => rw [hv] at he; cases he
  | some v =>
    rw [hv] at he
    have he : (if (addL L y).length > 64 then (4 : Int) else 0) = 0 := he
    have hlen : (addL L y).length ≤ 64 := by
      by_cases h : (addL L y).length > 64
      · rw [if_pos h] at he; cases he
      · omega
    have hL : addL L y = mergedR (L.take v ++ y :: L.drop v) := by unfold addL; rw [hv]
    obtain ⟨c, h1, h2, h3, h4⟩ := at_some g2 hv
    have hvc : v = c := by split at h2 <;> omega
    subst hvc
    have hrr : 0 ≤ y.a ∧ y.a < y.b ∧ y.b ≤ 34359738368 := by
      unfold rightB at hr
      simp at hr
      omega
    have hs := srt_app.1 (by rw [List.take_append_drop]; exact g2 : srtR (L.take v ++ L.drop v))
    have hM : srtR (L.take v ++ y :: L.drop v) := srt_app.2 ⟨hs.1, ⟨hrr, fun z hz => (h4 z hz).1, hs.2.1⟩, fun x hx z hz => by
      rcases List.mem_cons.1 hz with e | hz
      · rw [e]; exact h3 x hx
      · exact hs.2.2 x hx z hz⟩
    obtain ⟨m1, m2, m3⟩ := merged_all hM
    rw [← hL] at m1 m2 m3
    refine ⟨good_iff.2 ⟨hlen, m1, m2⟩, ?_, fun p => ?_⟩
    · rw [hL]
      have := merged_le (L.take v ++ y :: L.drop v)
      simp at this
      omega
    · rw [m3 p, lookR_app, lookR_cons]
      have e1 : lookR L p = (lookR (L.take v) p).or (lookR (L.drop v) p) := by rw [← lookR_app, List.take_append_drop]
      by_cases c : y.a ≤ p ∧ p < y.b
      · rw [if_pos c]
        have : lookR (L.take v) p = none := by
          unfold lookR findR
          rw [Option.map_eq_none_iff, List.find?_eq_none]
          intro x hx
          have := h3 x hx
          simp; omega
        rw [this, if_pos c]; rfl
      · rw [if_neg c, if_neg c, e1]
theorem lookR_some {p : Int} : (∃ x ∈ L, x.a ≤ p ∧ p < x.b) ↔ lookR L p ≠ none := by
  unfold lookR findR
  rw [Ne, Option.map_eq_none_iff, List.find?_eq_none]
  constructor
  · rintro ⟨x, hx, h1, h2⟩ h
    exact h x hx (by simp [h1, h2])
  · intro h
    by_cases c : ∃ x ∈ L, x.a ≤ p ∧ p < x.b
    · exact c
    · exact absurd (fun x hx hh => c ⟨x, hx, by simpa using hh⟩) h
end Go.Dn
