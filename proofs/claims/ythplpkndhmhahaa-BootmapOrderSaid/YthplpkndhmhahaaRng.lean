/- Ranges of whole numbers: lists in order that don't meet; merging; taking away. Plain. -/
import Derived.Test.YthplpkndhmhahaaDnN
namespace Go.Dn

abbrev Rg := Int × Int
def inR (r : Rg) (n : Int) : Prop := r.1 ≤ n ∧ n < r.2
def memR (l : List Rg) (n : Int) : Prop := ∃ r ∈ l, inR r n
/-- In order, none empty, none meets another one. -/
def NF (l : List Rg) : Prop := (∀ r ∈ l, r.1 < r.2) ∧ l.Pairwise fun a b => a.2 < b.1
theorem memR_nil (n : Int) : ¬ memR [] n := fun ⟨_, h, _⟩ => nomatch h
theorem memR_cons {r : Rg} {l : List Rg} {n : Int} : memR (r :: l) n ↔ inR r n ∨ memR l n := by simp [memR]
theorem memR_append {l m : List Rg} {n : Int} : memR (l ++ m) n ↔ memR l n ∨ memR m n := by
  simp only [memR, List.mem_append]
  constructor
  · rintro ⟨r, h | h, k⟩
    · exact .inl ⟨r, h, k⟩
    · exact .inr ⟨r, h, k⟩
  · rintro (⟨r, h, k⟩ | ⟨r, h, k⟩)
    · exact ⟨r, .inl h, k⟩
    · exact ⟨r, .inr h, k⟩
theorem memR_one {r : Rg} {n : Int} : memR [r] n ↔ inR r n := by simp [memR]
theorem NF.nil : NF [] := ⟨fun _ h => (nomatch h), List.Pairwise.nil⟩
theorem NF.tail {r : Rg} {l : List Rg} (h : NF (r :: l)) : NF l := ⟨fun s hs => h.1 s (by simp [hs]), (List.pairwise_cons.1 h.2).2⟩
theorem NF.push {r : Rg} {l : List Rg} (h : NF l) (hr : r.1 < r.2) (hl : ∀ q ∈ l, q.2 < r.1) : NF (l ++ [r]) := by
  refine ⟨fun s hs => ?_, List.pairwise_append.2 ⟨h.2, List.pairwise_singleton _ _, fun a ha b hb => ?_⟩⟩
  · rcases List.mem_append.1 hs with g | g
    · exact h.1 s g
    · rw [List.mem_singleton.1 g]; exact hr
  · rw [List.mem_singleton.1 hb]; exact hl a ha
/-- The least number of a list in order lies at its head. -/
theorem NF.first {r : Rg} {l : List Rg} (h : NF (r :: l)) {n : Int} (hn : memR (r :: l) n) : r.1 ≤ n := by
  obtain ⟨s, hs, h1, h2⟩ := hn
  rcases List.mem_cons.1 hs with rfl | g
  · exact h1
  · have h3 := (List.pairwise_cons.1 h.2).1 s g
    have h4 := h.1 r (by simp)
    omega
/-- Two lists in order with the same numbers are one. -/
theorem NF.eq : ∀ {l m : List Rg}, NF l → NF m → (∀ n, memR l n ↔ memR m n) → l = m
  | [], [], _, _, _ => rfl
  | [], r :: m, _, hm, h => by
    have h1 := hm.1 r (by simp)
    exact absurd ((h r.1).2 ⟨r, by simp, Int.le_refl _, h1⟩) (memR_nil _)
  | r :: l, [], hl, _, h => by
    have h1 := hl.1 r (by simp)
    exact absurd ((h r.1).1 ⟨r, by simp, Int.le_refl _, h1⟩) (memR_nil _)
  | r :: l, s :: m, hl, hm, h => by
    have hr := hl.1 r (by simp)
    have hs := hm.1 s (by simp)
    have a1 : s.1 ≤ r.1 := hm.first ((h r.1).1 ⟨r, by simp, Int.le_refl _, hr⟩)
    have a2 : r.1 ≤ s.1 := hl.first ((h s.1).2 ⟨s, by simp, Int.le_refl _, hs⟩)
    have out : ∀ {q : Rg} {l : List Rg}, NF (q :: l) → ∀ n, n = q.2 → ¬ memR (q :: l) n := by
      rintro q l hq n rfl ⟨t, ht, h1, h2⟩
      rcases List.mem_cons.1 ht with rfl | g
      · omega
      · have := (List.pairwise_cons.1 hq.2).1 t g
        omega
    have a3 : r.2 = s.2 := by
      rcases Int.lt_trichotomy r.2 s.2 with g | g | g
      · exact absurd ((h r.2).2 ⟨s, by simp, by omega, g⟩) (out hl _ rfl)
      · exact g
      · exact absurd ((h s.2).1 ⟨r, by simp, by omega, g⟩) (out hm _ rfl)
    have e : r = s := Prod.ext (by omega) a3
    subst e
    have rest : ∀ n, memR l n ↔ memR m n := fun n => by
      have h1 := h n
      rw [memR_cons, memR_cons] at h1
      have no : ∀ {l : List Rg}, NF (r :: l) → memR l n → ¬ inR r n := by
        rintro l hl ⟨t, ht, h2, h3⟩ ⟨h4, h5⟩
        have := (List.pairwise_cons.1 hl.2).1 t ht
        omega
      constructor
      · intro g
        rcases h1.1 (.inr g) with k | k
        · exact absurd k (no hl g)
        · exact k
      · intro g
        rcases h1.2 (.inr g) with k | k
        · exact absurd k (no hm g)
        · exact k
    rw [NF.eq hl.tail hm.tail rest]

/-! ### Merging -/
/-- One range more, that begins not before the last one. -/
def mgStep (out : List Rg) (r : Rg) : List Rg := match out.getLast? with
  | some q => if r.1 ≤ q.2 then out.dropLast ++ [(q.1, if r.2 > q.2 then r.2 else q.2)] else out ++ [r]
  | none => [r]
structure MgI (pre out : List Rg) : Prop where
  nf : NF out
  mem : ∀ n, memR out n ↔ memR pre n
  last : ∀ q ∈ out, ∃ p ∈ pre, q.1 ≤ p.1
theorem mgStep_ok {pre out : List Rg} {r : Rg} (h : MgI pre out) (hr : r.1 < r.2) (hs : ∀ p ∈ pre, p.1 ≤ r.1) : MgI (pre ++ [r]) (mgStep out r) := by
  unfold mgStep
  cases e : out.getLast? with
  | none =>
    have h0 : out = [] := List.getLast?_eq_none_iff.1 e
    subst h0
    refine ⟨⟨fun s hs => by rw [List.mem_singleton.1 hs]; exact hr, List.pairwise_singleton _ _⟩, fun n => ?_, fun q hq => ⟨r, by simp, by rw [List.mem_singleton.1 hq]; exact Int.le_refl _⟩⟩
    rw [memR_append, memR_one, ← h.mem n]
    simp [memR]
  | some q =>
    obtain ⟨l, rfl⟩ : ∃ l, out = l ++ [q] := List.getLast?_eq_some_iff.1 e
    have hq : q.1 < q.2 := h.nf.1 q (by simp)
    have hqr : q.1 ≤ r.1 := by
      obtain ⟨p, hp, h1⟩ := h.last q (by simp)
      exact Int.le_trans h1 (hs p hp)
    have hl : NF l := ⟨fun s hs => h.nf.1 s (by simp [hs]), (List.pairwise_append.1 h.nf.2).1⟩
    have hlq : ∀ t ∈ l, t.2 < q.1 := fun t ht => (List.pairwise_append.1 h.nf.2).2.2 t ht q (by simp)
    dsimp only
    split
    · rename_i hle
      rw [List.dropLast_concat]
      have hm : q.2 ≤ (if r.2 > q.2 then r.2 else q.2) ∧ r.2 ≤ (if r.2 > q.2 then r.2 else q.2) ∧ ((if r.2 > q.2 then r.2 else q.2) = q.2 ∨ (if r.2 > q.2 then r.2 else q.2) = r.2) := by split <;> omega
      generalize (if r.2 > q.2 then r.2 else q.2) = t at hm ⊢
      refine ⟨hl.push (by simp only; omega) hlq, fun n => ?_, fun s hs => ?_⟩
      · have h1 := h.mem n
        rw [memR_append, memR_one] at h1
        rw [memR_append, memR_append, memR_one, memR_one, ← h1]
        constructor
        · rintro (g | ⟨g1, g2⟩)
          · exact .inl (.inl g)
          · simp only at g1 g2
            by_cases g3 : n < q.2
            · exact .inl (.inr ⟨g1, g3⟩)
            · exact .inr ⟨by omega, by omega⟩
        · rintro ((g | ⟨g1, g2⟩) | ⟨g1, g2⟩)
          · exact .inl g
          · exact .inr ⟨g1, by simp only; omega⟩
          · exact .inr ⟨by simp only; omega, by simp only; omega⟩
      · rcases List.mem_append.1 hs with g | g
        · obtain ⟨p, hp, h1⟩ := h.last s (by simp [g])
          exact ⟨p, by simp [hp], h1⟩
        · rw [List.mem_singleton.1 g]
          exact ⟨r, by simp, hqr⟩
    · rename_i hle
      refine ⟨h.nf.push hr fun t ht => ?_, fun n => ?_, fun s hs => ?_⟩
      · rcases List.mem_append.1 ht with g | g
        · have := hlq t g; omega
        · rw [List.mem_singleton.1 g]; omega
      · rw [memR_append (m := [r]), memR_append (m := [r]), h.mem n]
      · rcases List.mem_append.1 hs with g | g
        · obtain ⟨p, hp, h1⟩ := h.last s g
          exact ⟨p, by simp [hp], h1⟩
        · rw [List.mem_singleton.1 g]
          exact ⟨r, by simp, Int.le_refl _⟩
theorem MgI.nil : MgI [] [] := ⟨NF.nil, fun _ => Iff.rfl, fun _ h => nomatch h⟩

/-! ### Taking away -/
structure LsI (M : Int → Prop) (r : Rg) (cut cpre : List Rg) (out : List Rg) (at_ : Int) : Prop where
  nf : NF out
  ge : r.1 ≤ at_
  lo : ∀ q ∈ out, q.2 < at_
  hi : ∀ q ∈ out, q.2 ≤ r.2
  mem : ∀ n, memR out n ↔ (M n ∨ (r.1 ≤ n ∧ n < at_ ∧ n < r.2)) ∧ ¬ memR cut n
  done : ∀ c ∈ cpre, c.2 ≤ at_ ∨ r.2 ≤ c.1
variable {M : Int → Prop} {r c : Rg} {cut cpre crest out : List Rg} {at_ : Int}
theorem LsI.skip (h : LsI M r cut cpre out at_) (hc : c.2 ≤ at_ ∨ r.2 ≤ c.1) : LsI M r cut (cpre ++ [c]) out at_ :=
  ⟨h.nf, h.ge, h.lo, h.hi, h.mem, fun d hd => by
    rcases List.mem_append.1 hd with g | g
    · exact h.done d g
    · rw [List.mem_singleton.1 g]; exact hc⟩
theorem LsI.far (h : LsI M r cut cpre out at_) (e : cut = cpre ++ c :: crest) (hn : NF cut) (h1 : ¬ c.2 ≤ at_) (h2 : ¬ c.1 ≥ r.2) (h3 : c.1 > at_) : LsI M r cut (cpre ++ [c]) (out ++ [(at_, c.1)]) c.2 := by
  have hc : c.1 < c.2 := hn.1 c (by simp [e])
  have hnot : ∀ n, at_ ≤ n → n < c.1 → ¬ memR cut n := by
    rintro n a1 a2 ⟨d, hd, a3, a4⟩
    rw [e] at hd
    rcases List.mem_append.1 hd with g | g
    · rcases h.done d g with k | k <;> omega
    · rcases List.mem_cons.1 g with rfl | g
      · omega
      · have h5 := hn.2
        rw [e] at h5
        have := (List.pairwise_cons.1 (List.pairwise_append.1 h5).2.1).1 d g
        omega
  refine ⟨h.nf.push h3 h.lo, by have := h.ge; omega, fun q hq => ?_, fun q hq => ?_, fun n => ?_, fun d hd => ?_⟩
  · rcases List.mem_append.1 hq with g | g
    · have := h.lo q g; omega
    · rw [List.mem_singleton.1 g]; exact hc
  · rcases List.mem_append.1 hq with g | g
    · exact h.hi q g
    · rw [List.mem_singleton.1 g]; simp only; omega
  · rw [memR_append, memR_one, h.mem n]
    have h6 := h.ge
    constructor
    · rintro (⟨g1 | ⟨g1, g2, g3⟩, g4⟩ | ⟨g1, g2⟩)
      · exact ⟨.inl g1, g4⟩
      · exact ⟨.inr ⟨g1, by omega, g3⟩, g4⟩
      · simp only at g1 g2
        exact ⟨.inr ⟨by omega, by omega, by omega⟩, hnot n g1 g2⟩
    · rintro ⟨g1 | ⟨g1, g2, g3⟩, g4⟩
      · exact .inl ⟨.inl g1, g4⟩
      · by_cases g5 : n < at_
        · exact .inl ⟨.inr ⟨g1, g5, g3⟩, g4⟩
        · refine .inr ⟨by simp only; omega, ?_⟩
          simp only
          rcases Int.lt_or_le n c.1 with g6 | g6
          · exact g6
          · exact absurd ⟨c, by simp [e], g6, g2⟩ g4
  · rcases List.mem_append.1 hd with g | g
    · rcases h.done d g with k | k
      · exact .inl (by omega)
      · exact .inr k
    · rw [List.mem_singleton.1 g]; exact .inl (Int.le_refl _)
theorem LsI.near (h : LsI M r cut cpre out at_) (e : cut = cpre ++ c :: crest) (h1 : ¬ c.2 ≤ at_) (h3 : ¬ c.1 > at_) : LsI M r cut (cpre ++ [c]) out c.2 := by
  refine ⟨h.nf, by have := h.ge; omega, fun q hq => by have := h.lo q hq; omega, h.hi, fun n => ?_, fun d hd => ?_⟩
  · rw [h.mem n]
    constructor
    · rintro ⟨g1 | ⟨g1, g2, g3⟩, g4⟩
      · exact ⟨.inl g1, g4⟩
      · exact ⟨.inr ⟨g1, by omega, g3⟩, g4⟩
    · rintro ⟨g1 | ⟨g1, g2, g3⟩, g4⟩
      · exact ⟨.inl g1, g4⟩
      · refine ⟨.inr ⟨g1, ?_, g3⟩, g4⟩
        rcases Int.lt_or_le n at_ with g5 | g5
        · exact g5
        · exact absurd ⟨c, by simp [e], by omega, g2⟩ g4
  · rcases List.mem_append.1 hd with g | g
    · rcases h.done d g with k | k
      · exact .inl (by omega)
      · exact .inr k
    · rw [List.mem_singleton.1 g]; exact .inl (Int.le_refl _)
structure LsO (cut pre out : List Rg) : Prop where
  nf : NF out
  mem : ∀ n, memR out n ↔ memR pre n ∧ ¬ memR cut n
  hi : ∀ q ∈ out, ∃ p ∈ pre, q.2 ≤ p.2
theorem LsO.nil {cut : List Rg} : LsO cut [] [] := ⟨NF.nil, fun n => ⟨fun h => absurd h (memR_nil n), fun h => absurd h.1 (memR_nil n)⟩, fun _ h => nomatch h⟩
theorem LsO.start {pre : List Rg} (h : LsO cut pre out) (hr : r.1 < r.2) (hp : ∀ p ∈ pre, p.2 < r.1) : LsI (memR pre) r cut [] out r.1 := by
  have h1 : ∀ q ∈ out, q.2 < r.1 := fun q hq => by
    obtain ⟨p, hp', h2⟩ := h.hi q hq
    have := hp p hp'
    omega
  refine ⟨h.nf, Int.le_refl _, h1, fun q hq => by have := h1 q hq; omega, fun n => ?_, fun _ h => nomatch h⟩
  rw [h.mem n]
  constructor
  · rintro ⟨g1, g2⟩; exact ⟨.inl g1, g2⟩
  · rintro ⟨g1 | ⟨g1, g2, _⟩, g3⟩
    · exact ⟨g1, g3⟩
    · omega
theorem LsI.rest {pre : List Rg} (h : LsI (memR pre) r cut cut out at_) (ho : ∀ q ∈ out, q.2 ≤ r.2) (hat : at_ < r.2) : LsO cut (pre ++ [r]) (out ++ [(at_, r.2)]) := by
  refine ⟨h.nf.push hat h.lo, fun n => ?_, fun q hq => ⟨r, by simp, ?_⟩⟩
  · rw [memR_append, memR_one, h.mem n, memR_append, memR_one]
    have h6 := h.ge
    constructor
    · rintro (⟨g1 | ⟨g1, g2, g3⟩, g4⟩ | ⟨g1, g2⟩)
      · exact ⟨.inl g1, g4⟩
      · exact ⟨.inr ⟨g1, g3⟩, g4⟩
      · simp only at g1 g2
        refine ⟨.inr ⟨by omega, g2⟩, ?_⟩
        rintro ⟨c, hc, a1, a2⟩
        rcases h.done c hc with k | k <;> omega
    · rintro ⟨g1 | ⟨g1, g2⟩, g4⟩
      · exact .inl ⟨.inl g1, g4⟩
      · by_cases g5 : n < at_
        · exact .inl ⟨.inr ⟨g1, g5, g2⟩, g4⟩
        · exact .inr ⟨by simp only; omega, g2⟩
  · rcases List.mem_append.1 hq with g | g
    · exact ho q g
    · rw [List.mem_singleton.1 g]; exact Int.le_refl _
theorem LsI.none {pre : List Rg} (h : LsI (memR pre) r cut cut out at_) (hat : ¬ at_ < r.2) : LsO cut (pre ++ [r]) out := by
  refine ⟨h.nf, fun n => ?_, fun q hq => ⟨r, by simp, h.hi q hq⟩⟩
  rw [h.mem n, memR_append, memR_one]
  constructor
  · rintro ⟨g1 | ⟨g1, g2, g3⟩, g4⟩
    · exact ⟨.inl g1, g4⟩
    · exact ⟨.inr ⟨g1, g3⟩, g4⟩
  · rintro ⟨g1 | ⟨g1, g2⟩, g4⟩
    · exact ⟨.inl g1, g4⟩
    · exact ⟨.inr ⟨g1, by omega, g2⟩, g4⟩

/-! ### From end to end -/
/-- The document's walk up to an end. -/
structure EnI (l away : List Rg) (e : Int) (out : List Rg) : Prop where
  nf : NF out
  mem : ∀ n, memR out n ↔ (memR l n ∧ ¬ memR away n ∧ n < e)
  top : ∀ q ∈ out, q.2 ≤ e
variable {l away : List Rg} {e e' : Int}
theorem EnI.start (h : ∀ r ∈ l, e ≤ r.1) : EnI l away e [] := ⟨NF.nil, fun n => ⟨fun g => absurd g (memR_nil n), fun ⟨⟨r, hr, h1, _⟩, _, h3⟩ => by have := h r hr; omega⟩, fun _ g => nomatch g⟩
theorem EnI.fin (h : EnI l away e out) (hl : ∀ r ∈ l, r.2 ≤ e) (n : Int) : memR out n ↔ memR l n ∧ ¬ memR away n := by
  rw [h.mem n]
  exact ⟨fun g => ⟨g.1, g.2.1⟩, fun ⟨⟨r, hr, h1, h2⟩, g2⟩ => ⟨⟨r, hr, h1, h2⟩, g2, by have := hl r hr; omega⟩⟩
/-- No range begins or ends between two ends. -/
def Gap (l : List Rg) (e e' : Int) : Prop := ∀ r ∈ l, (r.1 ≤ e ∨ e' ≤ r.1) ∧ (r.2 ≤ e ∨ e' ≤ r.2)
theorem Gap.mem (h : Gap l e e') {n : Int} (h1 : e ≤ n) (h2 : n < e') : memR l n ↔ memR l e := by
  constructor
  · rintro ⟨r, hr, g1, g2⟩
    have := h r hr
    exact ⟨r, hr, by omega, by omega⟩
  · rintro ⟨r, hr, g1, g2⟩
    have := h r hr
    exact ⟨r, hr, by omega, by omega⟩
theorem EnI.skip (h : EnI l away e out) (hl : Gap l e e') (ha : Gap away e e') (hlt : e < e') (hn : ¬ memR l e ∨ memR away e) : EnI l away e' out := by
  refine ⟨h.nf, fun n => ?_, fun q hq => by have := h.top q hq; omega⟩
  rw [h.mem n]
  constructor
  · rintro ⟨g1, g2, g3⟩; exact ⟨g1, g2, by omega⟩
  · rintro ⟨g1, g2, g3⟩
    refine ⟨g1, g2, ?_⟩
    rcases Int.lt_or_le n e with g4 | g4
    · exact g4
    · rw [hl.mem g4 g3] at g1
      rw [ha.mem g4 g3] at g2
      rcases hn with k | k
      · exact absurd g1 k
      · exact absurd k g2
theorem EnI.new (h : EnI l away e out) (hl : Gap l e e') (ha : Gap away e e') (hlt : e < e') (h1 : memR l e) (h2 : ¬ memR away e) (hlast : ∀ q, out.getLast? = some q → q.2 ≠ e) : EnI l away e' (out ++ [(e, e')]) := by
  refine ⟨h.nf.push hlt fun q hq => ?_, fun n => ?_, fun q hq => ?_⟩
  · have h3 := h.top q hq
    cases e1 : out.getLast? with
    | none => rw [List.getLast?_eq_none_iff.1 e1] at hq; cases hq
    | some q' =>
      obtain ⟨o, rfl⟩ := List.getLast?_eq_some_iff.1 e1
      have h4 := hlast q' e1
      have h5 := h.top q' (by simp)
      rcases List.mem_append.1 hq with g | g
      · have h6 := (List.pairwise_append.1 h.nf.2).2.2 q g q' (by simp)
        have h7 := h.nf.1 q' (by simp)
        omega
      · rw [List.mem_singleton.1 g]; omega
  · rw [memR_append, memR_one, h.mem n]
    constructor
    · rintro (⟨g1, g2, g3⟩ | ⟨g1, g2⟩)
      · exact ⟨g1, g2, by omega⟩
      · simp only at g1 g2
        exact ⟨(hl.mem g1 g2).2 h1, fun g => h2 ((ha.mem g1 g2).1 g), g2⟩
    · rintro ⟨g1, g2, g3⟩
      rcases Int.lt_or_le n e with g4 | g4
      · exact .inl ⟨g1, g2, g4⟩
      · exact .inr ⟨g4, g3⟩
  · rcases List.mem_append.1 hq with g | g
    · have := h.top q g; omega
    · rw [List.mem_singleton.1 g]; exact Int.le_refl _
theorem EnI.more {q : Rg} {o : List Rg} (h : EnI l away e (o ++ [q])) (hl : Gap l e e') (ha : Gap away e e') (hlt : e < e') (h1 : memR l e) (h2 : ¬ memR away e) (hq : q.2 = e) : EnI l away e' (o ++ [(q.1, e')]) := by
  have hq1 := h.nf.1 q (by simp)
  have hlq : ∀ t ∈ o, t.2 < q.1 := fun t ht => (List.pairwise_append.1 h.nf.2).2.2 t ht q (by simp)
  have hno : NF o := ⟨fun s hs => h.nf.1 s (by simp [hs]), (List.pairwise_append.1 h.nf.2).1⟩
  refine ⟨hno.push (by simp only; omega) hlq, fun n => ?_, fun t ht => ?_⟩
  · have h3 := h.mem n
    rw [memR_append, memR_one] at h3
    rw [memR_append, memR_one]
    constructor
    · rintro (g | ⟨g1, g2⟩)
      · obtain ⟨k1, k2, k3⟩ := h3.1 (.inl g)
        exact ⟨k1, k2, by omega⟩
      · simp only at g1 g2
        rcases Int.lt_or_le n e with g4 | g4
        · obtain ⟨k1, k2, k3⟩ := h3.1 (.inr ⟨g1, by omega⟩)
          exact ⟨k1, k2, by omega⟩
        · exact ⟨(hl.mem g4 g2).2 h1, fun g => h2 ((ha.mem g4 g2).1 g), g2⟩
    · rintro ⟨g1, g2, g3⟩
      rcases Int.lt_or_le n e with g4 | g4
      · rcases h3.2 ⟨g1, g2, g4⟩ with k | ⟨k1, k2⟩
        · exact .inl k
        · exact .inr ⟨k1, by simp only; omega⟩
      · exact .inr ⟨by simp only; omega, g3⟩
  · rcases List.mem_append.1 ht with g | g
    · have := hlq t g; omega
    · rw [List.mem_singleton.1 g]; exact Int.le_refl _

/-! ### Ends, rising, each once -/
structure InsI (n : Int) (pre next : List Int) (done : Bool) : Prop where
  srt : next.Pairwise (· < ·)
  mem : ∀ z, z ∈ next ↔ z ∈ pre ∨ (done = true ∧ z = n)
  no : done = false → ∀ x ∈ pre, x < n
  top : ∀ z ∈ next, ∃ x ∈ pre, z ≤ x
theorem InsI.nil {n : Int} : InsI n [] [] false := ⟨List.Pairwise.nil, by simp, fun _ _ h => (nomatch h), fun _ h => nomatch h⟩
theorem srt_push {l : List Int} {x : Int} (h : l.Pairwise (· < ·)) (hx : ∀ z ∈ l, z < x) : (l ++ [x]).Pairwise (· < ·) :=
  List.pairwise_append.2 ⟨h, List.pairwise_singleton _ _, fun a ha b hb => by rw [List.mem_singleton.1 hb]; exact hx a ha⟩
variable {n x : Int} {pre next : List Int} {done : Bool}
theorem InsI.same (h : InsI n pre next done) (hp : ∀ y ∈ pre, y < x) (e : x = n) : InsI n (pre ++ [x]) (next ++ [x]) true := by
  refine ⟨srt_push h.srt fun z hz => ?_, fun z => ?_, fun q => (nomatch q), fun z hz => ?_⟩
  · obtain ⟨y, hy, h1⟩ := h.top z hz
    have := hp y hy
    omega
  · rw [List.mem_append, List.mem_append, h.mem z]
    simp only [List.mem_singleton]
    subst e
    constructor
    · rintro ((g | ⟨_, g⟩) | g)
      · exact .inl (.inl g)
      · exact .inr ⟨trivial, g⟩
      · exact .inr ⟨trivial, g⟩
    · rintro ((g | g) | ⟨_, g⟩)
      · exact .inl (.inl g)
      · exact .inr g
      · exact .inr g
  · rcases List.mem_append.1 hz with g | g
    · obtain ⟨y, hy, h1⟩ := h.top z g
      exact ⟨y, by simp [hy], h1⟩
    · exact ⟨x, by simp, by rw [List.mem_singleton.1 g]; exact Int.le_refl _⟩
theorem InsI.before (h : InsI n pre next false) (_hp : ∀ y ∈ pre, y < x) (e : n < x) : InsI n (pre ++ [x]) (next ++ [n] ++ [x]) true := by
  have hm : ∀ z ∈ next, z ∈ pre := fun z hz => by
    rcases (h.mem z).1 hz with g | ⟨g, _⟩
    · exact g
    · cases g
  refine ⟨srt_push (srt_push h.srt fun z hz => h.no rfl z (hm z hz)) fun z hz => ?_, fun z => ?_, fun q => (nomatch q), fun z hz => ?_⟩
  · rcases List.mem_append.1 hz with g | g
    · have := h.no rfl z (hm z g); omega
    · rw [List.mem_singleton.1 g]; exact e
  · simp only [List.mem_append, List.mem_singleton, h.mem z]
    constructor
    · rintro (((g | ⟨g, _⟩) | g) | g)
      · exact .inl (.inl g)
      · cases g
      · exact .inr ⟨trivial, g⟩
      · exact .inl (.inr g)
    · rintro ((g | g) | ⟨_, g⟩)
      · exact .inl (.inl (.inl g))
      · exact .inr g
      · exact .inl (.inr g)
  · refine ⟨x, by simp, ?_⟩
    rcases List.mem_append.1 hz with g | g
    · rcases List.mem_append.1 g with g | g
      · have := h.no rfl z (hm z g); omega
      · rw [List.mem_singleton.1 g]; omega
    · rw [List.mem_singleton.1 g]; exact Int.le_refl _
theorem InsI.pass (h : InsI n pre next done) (hp : ∀ y ∈ pre, y < x) (e : x ≠ n) (hd : done = true ∨ ¬ x > n) : InsI n (pre ++ [x]) (next ++ [x]) done := by
  refine ⟨srt_push h.srt fun z hz => ?_, fun z => ?_, fun q y hy => ?_, fun z hz => ?_⟩
  · obtain ⟨y, hy, h1⟩ := h.top z hz
    have := hp y hy
    omega
  · simp only [List.mem_append, List.mem_singleton, h.mem z]
    constructor
    · rintro ((g | g) | g)
      · exact .inl (.inl g)
      · exact .inr g
      · exact .inl (.inr g)
    · rintro ((g | g) | g)
      · exact .inl (.inl g)
      · exact .inr g
      · exact .inl (.inr g)
  · rcases List.mem_append.1 hy with g | g
    · exact h.no q y g
    · rw [List.mem_singleton.1 g]
      rcases hd with k | k
      · rw [k] at q; cases q
      · omega
  · rcases List.mem_append.1 hz with g | g
    · obtain ⟨y, hy, h1⟩ := h.top z g
      exact ⟨y, by simp [hy], h1⟩
    · exact ⟨x, by simp, by rw [List.mem_singleton.1 g]; exact Int.le_refl _⟩
/-- A list of numbers, rising, with just these. -/
def EndsOf (S : Int → Prop) (es : List Int) : Prop := es.Pairwise (· < ·) ∧ ∀ z, z ∈ es ↔ S z
theorem InsI.end1 (h : InsI n pre next true) : EndsOf (fun z => z ∈ pre ∨ z = n) next := ⟨h.srt, fun z => by rw [h.mem z]; simp⟩
theorem InsI.end0 (h : InsI n pre next false) : EndsOf (fun z => z ∈ pre ∨ z = n) (next ++ [n]) := by
  refine ⟨srt_push h.srt fun z hz => ?_, fun z => ?_⟩
  · rcases (h.mem z).1 hz with g | ⟨g, _⟩
    · exact h.no rfl z g
    · cases g
  · simp [h.mem z]
end Go.Dn
