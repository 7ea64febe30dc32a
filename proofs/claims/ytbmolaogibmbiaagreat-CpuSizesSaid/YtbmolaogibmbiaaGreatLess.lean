/- What the proof stands on: Rng, Rgs, Merge, Less. -/
import Derived.Test.YtbmolaogibmbiaaGreatG
import Derived.Test.YtbmolaogibmbiaaGreatDnN
import Derived.Test.YtbmolaogibmbiaaGreatEntry
/- Ranges of whole numbers: lists in order that don't meet; merging; taking away. Plain. -/
namespace Go.Dn

abbrev Rg := Int × Int
def inRg (r : Rg) (n : Int) : Prop := r.1 ≤ n ∧ n < r.2
def memR (l : List Rg) (n : Int) : Prop := ∃ r ∈ l, inRg r n
/-- In order, none empty, none meets another one. -/
def NF (l : List Rg) : Prop := (∀ r ∈ l, r.1 < r.2) ∧ l.Pairwise fun a b => a.2 < b.1
theorem memR_nil (n : Int) : ¬ memR [] n := fun ⟨_, h, _⟩ => nomatch h
theorem memR_cons {r : Rg} {l : List Rg} {n : Int} : memR (r :: l) n ↔ inRg r n ∨ memR l n := by simp [memR]
theorem memR_append {l m : List Rg} {n : Int} : memR (l ++ m) n ↔ memR l n ∨ memR m n := by
  simp only [memR, List.mem_append]
  constructor
  · rintro ⟨r, h | h, k⟩
    · exact .inl ⟨r, h, k⟩
    · exact .inr ⟨r, h, k⟩
  · rintro (⟨r, h, k⟩ | ⟨r, h, k⟩)
    · exact ⟨r, .inl h, k⟩
    · exact ⟨r, .inr h, k⟩
theorem memR_one {r : Rg} {n : Int} : memR [r] n ↔ inRg r n := by simp [memR]
theorem NF.nil : NF [] := ⟨fun _ h => (nomatch h), List.Pairwise.nil⟩
theorem NF.tail {r : Rg} {l : List Rg} (h : NF (r :: l)) : NF l := ⟨fun s hs => h.1 s (by simp [hs]), (List.pairwise_cons.1 h.2).2⟩
theorem NF.push {r : Rg} {l : List Rg} (h : NF l) (hr : r.1 < r.2) (hl : ∀ q ∈ l, q.2 < r.1) : NF (l ++ [r]) := by
  refine ⟨fun s hs => ?_, List.pairwise_append.2 ⟨h.2, List.pairwise_singleton _ _, fun a ha b hb => ?_⟩⟩
  · rcases List.mem_append.1 hs with g | g
    · exact h.1 s g
    · rw [List.mem_singleton.1 g]; exact hr
  · rw [List.mem_singleton.1 hb]; exact hl a ha
/-- The least number of a list in order lies at its head. -/
theorem NF.first {r : Rg} {l : List Rg} (h : NF (r :: l)) {n : Int} (hn : memR (r :: l) n) : r.1 ≤ n := by
  obtain ⟨s, hs, h1, h2⟩ := hn
  rcases List.mem_cons.1 hs with rfl | g
  · exact h1
  · have h3 := (List.pairwise_cons.1 h.2).1 s g
    have h4 := h.1 r (by simp)
    omega
/-- Two lists in order with the same numbers are one. -/
theorem NF.eq : ∀ {l m : List Rg}, NF l → NF m → (∀ n, memR l n ↔ memR m n) → l = m
  | [], [], _, _, _ => rfl
  | [], r :: m, _, hm, h => by
    have h1 := hm.1 r (by simp)
    exact absurd ((h r.1).2 ⟨r, by simp, Int.le_refl _, h1⟩) (memR_nil _)
  | r :: l, [], hl, _, h => by
    have h1 := hl.1 r (by simp)
    exact absurd ((h r.1).1 ⟨r, by simp, Int.le_refl _, h1⟩) (memR_nil _)
  | r :: l, s :: m, hl, hm, h => by
    have hr := hl.1 r (by simp)
    have hs := hm.1 s (by simp)
    have a1 : s.1 ≤ r.1 := hm.first ((h r.1).1 ⟨r, by simp, Int.le_refl _, hr⟩)
    have a2 : r.1 ≤ s.1 := hl.first ((h s.1).2 ⟨s, by simp, Int.le_refl _, hs⟩)
    have out : ∀ {q : Rg} {l : List Rg}, NF (q :: l) → ∀ n, n = q.2 → ¬ memR (q :: l) n := by
      rintro q l hq n rfl ⟨t, ht, h1, h2⟩
      rcases List.mem_cons.1 ht with rfl | g
      · omega
      · have := (List.pairwise_cons.1 hq.2).1 t g
        omega
    have a3 : r.2 = s.2 := by
      rcases Int.lt_trichotomy r.2 s.2 with g | g | g
      · exact absurd ((h r.2).2 ⟨s, by simp, by omega, g⟩) (out hl _ rfl)
      · exact g
      · exact absurd ((h s.2).1 ⟨r, by simp, by omega, g⟩) (out hm _ rfl)
    have e : r = s := Prod.ext (by omega) a3
    subst e
    have rest : ∀ n, memR l n ↔ memR m n := fun n => by
      have h1 := h n
      rw [memR_cons, memR_cons] at h1
      have no : ∀ {l : List Rg}, NF (r :: l) → memR l n → ¬ inRg r n := by
        rintro l hl ⟨t, ht, h2, h3⟩ ⟨h4, h5⟩
        have := (List.pairwise_cons.1 hl.2).1 t ht
        omega
      constructor
      · intro g
        rcases h1.1 (.inr g) with k | k
        · exact absurd k (no hl g)
        · exact k
      · intro g
        rcases h1.2 (.inr g) with k | k
        · exact absurd k (no hm g)
        · exact k
    rw [NF.eq hl.tail hm.tail rest]

/-! ### Merging -/
/-- One range more, that begins not before the last one. -/
def mgStep (out : List Rg) (r : Rg) : List Rg := match out.getLast? with
  | some q => if r.1 ≤ q.2 then out.dropLast ++ [(q.1, if r.2 > q.2 then r.2 else q.2)] else out ++ [r]
  | none => [r]
structure MgI (pre out : List Rg) : Prop where
  nf : NF out
  mem : ∀ n, memR out n ↔ memR pre n
  last : ∀ q ∈ out, ∃ p ∈ pre, q.1 ≤ p.1
theorem mgStep_ok {pre out : List Rg} {r : Rg} (h : MgI pre out) (hr : r.1 < r.2) (hs : ∀ p ∈ pre, p.1 ≤ r.1) : MgI (pre ++ [r]) (mgStep out r) := by
  unfold mgStep
  cases e : out.getLast? with
  | none =>
    have h0 : out = [] := List.getLast?_eq_none_iff.1 e
    subst h0
    refine ⟨⟨fun s hs => by rw [List.mem_singleton.1 hs]; exact hr, List.pairwise_singleton _ _⟩, fun n => ?_, fun q hq => ⟨r, by simp, by rw [List.mem_singleton.1 hq]; exact Int.le_refl _⟩⟩
    rw [memR_append, memR_one, ← h.mem n]
    simp [memR]
  | some q =>
    obtain ⟨l, rfl⟩ : ∃ l, out = l ++ [q] := List.getLast?_eq_some_iff.1 e
    have hq : q.1 < q.2 := h.nf.1 q (by simp)
    have hqr : q.1 ≤ r.1 := by
      obtain ⟨p, hp, h1⟩ := h.last q (by simp)
      exact Int.le_trans h1 (hs p hp)
    have hl : NF l := ⟨fun s hs => h.nf.1 s (by simp [hs]), (List.pairwise_append.1 h.nf.2).1⟩
    have hlq : ∀ t ∈ l, t.2 < q.1 := fun t ht => (List.pairwise_append.1 h.nf.2).2.2 t ht q (by simp)
    dsimp only
    split
    · rename_i hle
      rw [List.dropLast_concat]
      have hm : q.2 ≤ (if r.2 > q.2 then r.2 else q.2) ∧ r.2 ≤ (if r.2 > q.2 then r.2 else q.2) ∧ ((if r.2 > q.2 then r.2 else q.2) = q.2 ∨ (if r.2 > q.2 then r.2 else q.2) = r.2) := by split <;> omega
      generalize (if r.2 > q.2 then r.2 else q.2) = t at hm ⊢
      refine ⟨hl.push (by simp only; omega) hlq, fun n => ?_, fun s hs => ?_⟩
      · have h1 := h.mem n
        rw [memR_append, memR_one] at h1
        rw [memR_append, memR_append, memR_one, memR_one, ← h1]
        constructor
        · rintro (g | ⟨g1, g2⟩)
          · exact .inl (.inl g)
          · simp only at g1 g2
            by_cases g3 : n < q.2
            · exact .inl (.inr ⟨g1, g3⟩)
            · exact .inr ⟨by omega, by omega⟩
        · rintro ((g | ⟨g1, g2⟩) | ⟨g1, g2⟩)
          · exact .inl g
          · exact .inr ⟨g1, by simp only; omega⟩
          · exact .inr ⟨by simp only; omega, by simp only; omega⟩
      · rcases List.mem_append.1 hs with g | g
        · obtain ⟨p, hp, h1⟩ := h.last s (by simp [g])
          exact ⟨p, by simp [hp], h1⟩
        · rw [List.mem_singleton.1 g]
          exact ⟨r, by simp, hqr⟩
    · rename_i hle
      refine ⟨h.nf.push hr fun t ht => ?_, fun n => ?_, fun s hs => ?_⟩
      · rcases List.mem_append.1 ht with g | g
        · have := hlq t g; omega
        · rw [List.mem_singleton.1 g]; omega
      · rw [memR_append (m := [r]), memR_append (m := [r]), h.mem n]
      · rcases List.mem_append.1 hs with g | g
        · obtain ⟨p, hp, h1⟩ := h.last s g
          exact ⟨p, by simp [hp], h1⟩
        · rw [List.mem_singleton.1 g]
          exact ⟨r, by simp, Int.le_refl _⟩
theorem MgI.nil : MgI [] [] := ⟨NF.nil, fun _ => Iff.rfl, fun _ h => nomatch h⟩

/-! ### Taking away -/
structure LsI (M : Int → Prop) (r : Rg) (cut cpre : List Rg) (out : List Rg) (at_ : Int) : Prop where
  nf : NF out
  ge : r.1 ≤ at_
  lo : ∀ q ∈ out, q.2 < at_
  hi : ∀ q ∈ out, q.2 ≤ r.2
  mem : ∀ n, memR out n ↔ (M n ∨ (r.1 ≤ n ∧ n < at_ ∧ n < r.2)) ∧ ¬ memR cut n
  done : ∀ c ∈ cpre, c.2 ≤ at_ ∨ r.2 ≤ c.1
variable {M : Int → Prop} {r c : Rg} {cut cpre crest out : List Rg} {at_ : Int}
theorem LsI.skip (h : LsI M r cut cpre out at_) (hc : c.2 ≤ at_ ∨ r.2 ≤ c.1) : LsI M r cut (cpre ++ [c]) out at_ :=
  ⟨h.nf, h.ge, h.lo, h.hi, h.mem, fun d hd => by
    rcases List.mem_append.1 hd with g | g
    · exact h.done d g
    · rw [List.mem_singleton.1 g]; exact hc⟩
theorem LsI.far (h : LsI M r cut cpre out at_) (e : cut = cpre ++ c :: crest) (hn : NF cut) (h1 : ¬ c.2 ≤ at_) (h2 : ¬ c.1 ≥ r.2) (h3 : c.1 > at_) : LsI M r cut (cpre ++ [c]) (out ++ [(at_, c.1)]) c.2 := by
  have hc : c.1 < c.2 := hn.1 c (by simp [e])
  have hnot : ∀ n, at_ ≤ n → n < c.1 → ¬ memR cut n := by
    rintro n a1 a2 ⟨d, hd, a3, a4⟩
    rw [e] at hd
    rcases List.mem_append.1 hd with g | g
    · rcases h.done d g with k | k <;> omega
    · rcases List.mem_cons.1 g with rfl | g
      · omega
      · have h5 := hn.2
        rw [e] at h5
        have := (List.pairwise_cons.1 (List.pairwise_append.1 h5).2.1).1 d g
        omega
  refine ⟨h.nf.push h3 h.lo, by have := h.ge; omega, fun q hq => ?_, fun q hq => ?_, fun n => ?_, fun d hd => ?_⟩
  · rcases List.mem_append.1 hq with g | g
    · have := h.lo q g; omega
    · rw [List.mem_singleton.1 g]; exact hc
  · rcases List.mem_append.1 hq with g | g
    · exact h.hi q g
    · rw [List.mem_singleton.1 g]; simp only; omega
  · rw [memR_append, memR_one, h.mem n]
    have h6 := h.ge
    constructor
    · rintro (⟨g1 | ⟨g1, g2, g3⟩, g4⟩ | ⟨g1, g2⟩)
      · exact ⟨.inl g1, g4⟩
      · exact ⟨.inr ⟨g1, by omega, g3⟩, g4⟩
      · simp only at g1 g2
        exact ⟨.inr ⟨by omega, by omega, by omega⟩, hnot n g1 g2⟩
    · rintro ⟨g1 | ⟨g1, g2, g3⟩, g4⟩
      · exact .inl ⟨.inl g1, g4⟩
      · by_cases g5 : n < at_
        · exact .inl ⟨.inr ⟨g1, g5, g3⟩, g4⟩
        · refine .inr ⟨by simp only; omega, ?_⟩
          simp only
          rcases Int.lt_or_le n c.1 with g6 | g6
          · exact g6
          · exact absurd ⟨c, by simp [e], g6, g2⟩ g4
  · rcases List.mem_append.1 hd with g | g
    · rcases h.done d g with k | k
      · exact .inl (by omega)
      · exact .inr k
    · rw [List.mem_singleton.1 g]; exact .inl (Int.le_refl _)
theorem LsI.near (h : LsI M r cut cpre out at_) (e : cut = cpre ++ c :: crest) (h1 : ¬ c.2 ≤ at_) (h3 : ¬ c.1 > at_) : LsI M r cut (cpre ++ [c]) out c.2 := by
  refine ⟨h.nf, by have := h.ge; omega, fun q hq => by have := h.lo q hq; omega, h.hi, fun n => ?_, fun d hd => ?_⟩
  · rw [h.mem n]
    constructor
    · rintro ⟨g1 | ⟨g1, g2, g3⟩, g4⟩
      · exact ⟨.inl g1, g4⟩
      · exact ⟨.inr ⟨g1, by omega, g3⟩, g4⟩
    · rintro ⟨g1 | ⟨g1, g2, g3⟩, g4⟩
      · exact ⟨.inl g1, g4⟩
      · refine ⟨.inr ⟨g1, ?_, g3⟩, g4⟩
        rcases Int.lt_or_le n at_ with g5 | g5
        · exact g5
        · exact absurd ⟨c, by simp [e], by omega, g2⟩ g4
  · rcases List.mem_append.1 hd with g | g
    · rcases h.done d g with k | k
      · exact .inl (by omega)
      · exact .inr k
    · rw [List.mem_singleton.1 g]; exact .inl (Int.le_refl _)
structure LsO (cut pre out : List Rg) : Prop where
  nf : NF out
  mem : ∀ n, memR out n ↔ memR pre n ∧ ¬ memR cut n
  hi : ∀ q ∈ out, ∃ p ∈ pre, q.2 ≤ p.2
theorem LsO.nil {cut : List Rg} : LsO cut [] [] := ⟨NF.nil, fun n => ⟨fun h => absurd h (memR_nil n), fun h => absurd h.1 (memR_nil n)⟩, fun _ h => nomatch h⟩
theorem LsO.start {pre : List Rg} (h : LsO cut pre out) (hr : r.1 < r.2) (hp : ∀ p ∈ pre, p.2 < r.1) : LsI (memR pre) r cut [] out r.1 := by
  have h1 : ∀ q ∈ out, q.2 < r.1 := fun q hq => by
    obtain ⟨p, hp', h2⟩ := h.hi q hq
    have := hp p hp'
    omega
  refine ⟨h.nf, Int.le_refl _, h1, fun q hq => by have := h1 q hq; omega, fun n => ?_, fun _ h => nomatch h⟩
  rw [h.mem n]
  constructor
  · rintro ⟨g1, g2⟩; exact ⟨.inl g1, g2⟩
  · rintro ⟨g1 | ⟨g1, g2, _⟩, g3⟩
    · exact ⟨g1, g3⟩
    · omega
theorem LsI.rest {pre : List Rg} (h : LsI (memR pre) r cut cut out at_) (ho : ∀ q ∈ out, q.2 ≤ r.2) (hat : at_ < r.2) : LsO cut (pre ++ [r]) (out ++ [(at_, r.2)]) := by
  refine ⟨h.nf.push hat h.lo, fun n => ?_, fun q hq => ⟨r, by simp, ?_⟩⟩
  · rw [memR_append, memR_one, h.mem n, memR_append, memR_one]
    have h6 := h.ge
    constructor
    · rintro (⟨g1 | ⟨g1, g2, g3⟩, g4⟩ | ⟨g1, g2⟩)
      · exact ⟨.inl g1, g4⟩
      · exact ⟨.inr ⟨g1, g3⟩, g4⟩
      · simp only at g1 g2
        refine ⟨.inr ⟨by omega, g2⟩, ?_⟩
        rintro ⟨c, hc, a1, a2⟩
        rcases h.done c hc with k | k <;> omega
    · rintro ⟨g1 | ⟨g1, g2⟩, g4⟩
      · exact .inl ⟨.inl g1, g4⟩
      · by_cases g5 : n < at_
        · exact .inl ⟨.inr ⟨g1, g5, g2⟩, g4⟩
        · exact .inr ⟨by simp only; omega, g2⟩
  · rcases List.mem_append.1 hq with g | g
    · exact ho q g
    · rw [List.mem_singleton.1 g]; exact Int.le_refl _
theorem LsI.none {pre : List Rg} (h : LsI (memR pre) r cut cut out at_) (hat : ¬ at_ < r.2) : LsO cut (pre ++ [r]) out := by
  refine ⟨h.nf, fun n => ?_, fun q hq => ⟨r, by simp, h.hi q hq⟩⟩
  rw [h.mem n, memR_append, memR_one]
  constructor
  · rintro ⟨g1 | ⟨g1, g2, g3⟩, g4⟩
    · exact ⟨.inl g1, g4⟩
    · exact ⟨.inr ⟨g1, g3⟩, g4⟩
  · rintro ⟨g1 | ⟨g1, g2⟩, g4⟩
    · exact ⟨.inl g1, g4⟩
    · exact ⟨.inr ⟨g1, by omega, g2⟩, g4⟩

/-! ### From end to end -/
/-- The document's walk up to an end. -/
structure EnI (l away : List Rg) (e : Int) (out : List Rg) : Prop where
  nf : NF out
  mem : ∀ n, memR out n ↔ (memR l n ∧ ¬ memR away n ∧ n < e)
  top : ∀ q ∈ out, q.2 ≤ e
variable {l away : List Rg} {e e' : Int}
theorem EnI.start (h : ∀ r ∈ l, e ≤ r.1) : EnI l away e [] := ⟨NF.nil, fun n => ⟨fun g => absurd g (memR_nil n), fun ⟨⟨r, hr, h1, _⟩, _, h3⟩ => by have := h r hr; omega⟩, fun _ g => nomatch g⟩
theorem EnI.fin (h : EnI l away e out) (hl : ∀ r ∈ l, r.2 ≤ e) (n : Int) : memR out n ↔ memR l n ∧ ¬ memR away n := by
  rw [h.mem n]
  exact ⟨fun g => ⟨g.1, g.2.1⟩, fun ⟨⟨r, hr, h1, h2⟩, g2⟩ => ⟨⟨r, hr, h1, h2⟩, g2, by have := hl r hr; omega⟩⟩
/-- No range begins or ends between two ends. -/
def Gap (l : List Rg) (e e' : Int) : Prop := ∀ r ∈ l, (r.1 ≤ e ∨ e' ≤ r.1) ∧ (r.2 ≤ e ∨ e' ≤ r.2)
theorem Gap.mem (h : Gap l e e') {n : Int} (h1 : e ≤ n) (h2 : n < e') : memR l n ↔ memR l e := by
  constructor
  · rintro ⟨r, hr, g1, g2⟩
    have := h r hr
    exact ⟨r, hr, by omega, by omega⟩
  · rintro ⟨r, hr, g1, g2⟩
    have := h r hr
    exact ⟨r, hr, by omega, by omega⟩
theorem EnI.skip (h : EnI l away e out) (hl : Gap l e e') (ha : Gap away e e') (hlt : e < e') (hn : ¬ memR l e ∨ memR away e) : EnI l away e' out := by
  refine ⟨h.nf, fun n => ?_, fun q hq => by have := h.top q hq; omega⟩
  rw [h.mem n]
  constructor
  · rintro ⟨g1, g2, g3⟩; exact ⟨g1, g2, by omega⟩
  · rintro ⟨g1, g2, g3⟩
    refine ⟨g1, g2, ?_⟩
    rcases Int.lt_or_le n e with g4 | g4
    · exact g4
    · rw [hl.mem g4 g3] at g1
      rw [ha.mem g4 g3] at g2
      rcases hn with k | k
      · exact absurd g1 k
      · exact absurd k g2
theorem EnI.new (h : EnI l away e out) (hl : Gap l e e') (ha : Gap away e e') (hlt : e < e') (h1 : memR l e) (h2 : ¬ memR away e) (hlast : ∀ q, out.getLast? = some q → q.2 ≠ e) : EnI l away e' (out ++ [(e, e')]) := by
  refine ⟨h.nf.push hlt fun q hq => ?_, fun n => ?_, fun q hq => ?_⟩
  · have h3 := h.top q hq
    cases e1 : out.getLast? with
    | none => rw [List.getLast?_eq_none_iff.1 e1] at hq; cases hq
    | some q' =>
      obtain ⟨o, rfl⟩ := List.getLast?_eq_some_iff.1 e1
      have h4 := hlast q' e1
      have h5 := h.top q' (by simp)
      rcases List.mem_append.1 hq with g | g
      · have h6 := (List.pairwise_append.1 h.nf.2).2.2 q g q' (by simp)
        have h7 := h.nf.1 q' (by simp)
        omega
      · rw [List.mem_singleton.1 g]; omega
  · rw [memR_append, memR_one, h.mem n]
    constructor
    · rintro (⟨g1, g2, g3⟩ | ⟨g1, g2⟩)
      · exact ⟨g1, g2, by omega⟩
      · simp only at g1 g2
        exact ⟨(hl.mem g1 g2).2 h1, fun g => h2 ((ha.mem g1 g2).1 g), g2⟩
    · rintro ⟨g1, g2, g3⟩
      rcases Int.lt_or_le n e with g4 | g4
      · exact .inl ⟨g1, g2, g4⟩
      · exact .inr ⟨g4, g3⟩
  · rcases List.mem_append.1 hq with g | g
    · have := h.top q g; omega
    · rw [List.mem_singleton.1 g]; exact Int.le_refl _
theorem EnI.more {q : Rg} {o : List Rg} (h : EnI l away e (o ++ [q])) (hl : Gap l e e') (ha : Gap away e e') (hlt : e < e') (h1 : memR l e) (h2 : ¬ memR away e) (hq : q.2 = e) : EnI l away e' (o ++ [(q.1, e')]) := by
  have hq1 := h.nf.1 q (by simp)
  have hlq : ∀ t ∈ o, t.2 < q.1 := fun t ht => (List.pairwise_append.1 h.nf.2).2.2 t ht q (by simp)
  have hno : NF o := ⟨fun s hs => h.nf.1 s (by simp [hs]), (List.pairwise_append.1 h.nf.2).1⟩
  refine ⟨hno.push (by simp only; omega) hlq, fun n => ?_, fun t ht => ?_⟩
  · have h3 := h.mem n
    rw [memR_append, memR_one] at h3
    rw [memR_append, memR_one]
    constructor
    · rintro (g | ⟨g1, g2⟩)
      · obtain ⟨k1, k2, k3⟩ := h3.1 (.inl g)
        exact ⟨k1, k2, by omega⟩
      · simp only at g1 g2
        rcases Int.lt_or_le n e with g4 | g4
        · obtain ⟨k1, k2, k3⟩ := h3.1 (.inr ⟨g1, by omega⟩)
          exact ⟨k1, k2, by omega⟩
        · exact ⟨(hl.mem g4 g2).2 h1, fun g => h2 ((ha.mem g4 g2).1 g), g2⟩
    · rintro ⟨g1, g2, g3⟩
      rcases Int.lt_or_le n e with g4 | g4
      · rcases h3.2 ⟨g1, g2, g4⟩ with k | ⟨k1, k2⟩
        · exact .inl k
        · exact .inr ⟨k1, by simp only; omega⟩
      · exact .inr ⟨by simp only; omega, g3⟩
  · rcases List.mem_append.1 ht with g | g
    · have := hlq t g; omega
    · rw [List.mem_singleton.1 g]; exact Int.le_refl _

/-! ### Ends, rising, each once -/
structure InsI (n : Int) (pre next : List Int) (done : Bool) : Prop where
  srt : next.Pairwise (· < ·)
  mem : ∀ z, z ∈ next ↔ z ∈ pre ∨ (done = true ∧ z = n)
  no : done = false → ∀ x ∈ pre, x < n
  top : ∀ z ∈ next, ∃ x ∈ pre, z ≤ x
theorem InsI.nil {n : Int} : InsI n [] [] false := ⟨List.Pairwise.nil, by simp, fun _ _ h => (nomatch h), fun _ h => nomatch h⟩
theorem srt_push {l : List Int} {x : Int} (h : l.Pairwise (· < ·)) (hx : ∀ z ∈ l, z < x) : (l ++ [x]).Pairwise (· < ·) :=
  List.pairwise_append.2 ⟨h, List.pairwise_singleton _ _, fun a ha b hb => by rw [List.mem_singleton.1 hb]; exact hx a ha⟩
variable {n x : Int} {pre next : List Int} {done : Bool}
theorem InsI.same (h : InsI n pre next done) (hp : ∀ y ∈ pre, y < x) (e : x = n) : InsI n (pre ++ [x]) (next ++ [x]) true := by
  refine ⟨srt_push h.srt fun z hz => ?_, fun z => ?_, fun q => (nomatch q), fun z hz => ?_⟩
  · obtain ⟨y, hy, h1⟩ := h.top z hz
    have := hp y hy
    omega
  · rw [List.mem_append, List.mem_append, h.mem z]
    simp only [List.mem_singleton]
    subst e
    constructor
    · rintro ((g | ⟨_, g⟩) | g)
      · exact .inl (.inl g)
      · exact .inr ⟨trivial, g⟩
      · exact .inr ⟨trivial, g⟩
    · rintro ((g | g) | ⟨_, g⟩)
      · exact .inl (.inl g)
      · exact .inr g
      · exact .inr g
  · rcases List.mem_append.1 hz with g | g
    · obtain ⟨y, hy, h1⟩ := h.top z g
      exact ⟨y, by simp [hy], h1⟩
    · exact ⟨x, by simp, by rw [List.mem_singleton.1 g]; exact Int.le_refl _⟩
theorem InsI.before (h : InsI n pre next false) (_hp : ∀ y ∈ pre, y < x) (e : n < x) : InsI n (pre ++ [x]) (next ++ [n] ++ [x]) true := by
  have hm : ∀ z ∈ next, z ∈ pre := fun z hz => by
    rcases (h.mem z).1 hz with g | ⟨g, _⟩
    · exact g
    · cases g
  refine ⟨srt_push (srt_push h.srt fun z hz => h.no rfl z (hm z hz)) fun z hz => ?_, fun z => ?_, fun q => (nomatch q), fun z hz => ?_⟩
  · rcases List.mem_append.1 hz with g | g
    · have := h.no rfl z (hm z g); omega
    · rw [List.mem_singleton.1 g]; exact e
  · simp only [List.mem_append, List.mem_singleton, h.mem z]
    constructor
    · rintro (((g | ⟨g, _⟩) | g) | g)
      · exact .inl (.inl g)
      · cases g
      · exact .inr ⟨trivial, g⟩
      · exact .inl (.inr g)
    · rintro ((g | g) | ⟨_, g⟩)
      · exact .inl (.inl (.inl g))
      · exact .inr g
      · exact .inl (.inr g)
  · refine ⟨x, by simp, ?_⟩
    rcases List.mem_append.1 hz with g | g
    · rcases List.mem_append.1 g with g | g
      · have := h.no rfl z (hm z g); omega
      · rw [List.mem_singleton.1 g]; omega
    · rw [List.mem_singleton.1 g]; exact Int.le_refl _
theorem InsI.pass (h : InsI n pre next done) (hp : ∀ y ∈ pre, y < x) (e : x ≠ n) (hd : done = true ∨ ¬ x > n) : InsI n (pre ++ [x]) (next ++ [x]) done := by
  refine ⟨srt_push h.srt fun z hz => ?_, fun z => ?_, fun q y hy => ?_, fun z hz => ?_⟩
  · obtain ⟨y, hy, h1⟩ := h.top z hz
    have := hp y hy
    omega
  · simp only [List.mem_append, List.mem_singleton, h.mem z]
    constructor
    · rintro ((g | g) | g)
      · exact .inl (.inl g)
      · exact .inr g
      · exact .inl (.inr g)
    · rintro ((g | g) | g)
      · exact .inl (.inl g)
      · exact .inr g
      · exact .inl (.inr g)
  · rcases List.mem_append.1 hy with g | g
    · exact h.no q y g
    · rw [List.mem_singleton.1 g]
      rcases hd with k | k
      · rw [k] at q; cases q
      · omega
  · rcases List.mem_append.1 hz with g | g
    · obtain ⟨y, hy, h1⟩ := h.top z g
      exact ⟨y, by simp [hy], h1⟩
    · exact ⟨x, by simp, by rw [List.mem_singleton.1 g]; exact Int.le_refl _⟩
end Go.Dn
/- Slices of ranges: reading, pushing, storing. -/
namespace Go.Dn

variable {A : AH} {l R : List SP} {P : SP} {k : Nat} {s : Sl} {L : List Rg}
def rgs (L : List Rg) : List Value := L.flatMap rgE
theorem rgs_len : ∀ L : List Rg, (rgs L).length = L.length * 2
  | [] => rfl
  | y :: L => by
    have := rgs_len L
    unfold rgs at this ⊢
    rw [List.flatMap_cons, List.length_append, this]; simp [rgE]; omega
theorem rgs_app (a c : List Rg) : rgs (a ++ c) = rgs a ++ rgs c := List.flatMap_append
theorem rgs_at : ∀ {L : List Rg} {v : Nat} {y : Rg} {c : Nat} {x : Value}, L[v]? = some y → (rgE y)[c]? = some x → (rgs L)[v * 2 + c]? = some x
  | [], v, a, c, x, h, _ => by simp at h
  | b :: r, 0, a, c, x, h, hc => by
    simp at h; subst h
    have hlt : c < 2 := (List.getElem?_eq_some_iff.1 hc).1
    unfold rgs
    rw [List.flatMap_cons, List.getElem?_append_left (by simp [rgE]; omega), Nat.zero_mul, Nat.zero_add]
    exact hc
  | b :: r, v + 1, a, c, x, h, hc => by
    have h : r[v]? = some a := by simpa using h
    unfold rgs
    rw [List.flatMap_cons, List.getElem?_append_right (by simp [rgE]; omega)]
    have : (v + 1) * 2 + c - (rgE b).length = v * 2 + c := by simp [rgE]; omega
    rw [this]
    exact rgs_at h hc
theorem rgs_one : ∀ {L : List Rg} {v : Value}, v ∈ rgs L → v.oneCell' = true := fun {L v} h => by
  obtain ⟨d, _, hd⟩ := List.mem_flatMap.1 h
  simp [rgE] at hd
  rcases hd with rfl | rfl <;> rfl
theorem rgs_nil {L : List Rg} (h : rgs L = []) : L = [] := by
  have := rgs_len L
  rw [h] at this
  exact List.length_eq_zero_iff.1 (by simp at this; omega)
theorem rd_rg_len (h : Own l A) (e : l[k]? = some P) (hr : Reads P s 2 (rgs L)) : s.len = L.length := by
  have := rd_len h e hr
  rw [rgs_len] at this
  omega
theorem rd_rg {v : Nat} {y : Rg} (h : Own l A) (e : l[k]? = some P) (hr : Reads P s 2 (rgs L)) (hv : L[v]? = some y) :
    ∃ a, s.a = some a ∧ (∀ K : Int → Prop, K y.1 → aI .i64 (Addr.add a (Int.toNat (v : Int) * 2)) A K) ∧ ∀ K : Int → Prop, K y.2 → aI .i64 (Addr.add (Addr.add a (Int.toNat (v : Int) * 2)) 1) A K := by
  obtain ⟨bb, o, q1, c0⟩ := rd_cell h e hr (j := v * 2 + 0) (rgs_at hv (c := 0) rfl)
  obtain ⟨b2, o2, q2, c1⟩ := rd_cell h e hr (j := v * 2 + 1) (rgs_at hv (c := 1) rfl)
  rw [q1] at q2
  cases q2
  refine ⟨_, q1, fun K hK => ⟨_, ?_, hK⟩, fun K hK => ⟨_, ?_, hK⟩⟩
  · rw [add_at, Int.toNat_natCast]; exact c0
  · rw [add_at, add_at, Int.toNat_natCast, Nat.add_assoc]; exact c1
/-- A range more behind a list of one's own. -/
theorem push_rg {t : TypeId} {x y : Int} {K : Sl → AP} (h : Own (SlO s 2 (rgs L) :: R) A) (hs : s.a = none → L = []) (hb : L.length ≤ 1000000)
    (hk : ∀ s' A', (s'.a = none → L ++ [(x, y)] = []) → Own (SlO s' 2 (rgs (L ++ [(x, y)])) :: R) A' → K s' A') :
    newA A (.cells #[.int .i64 x, .int .i64 y] t) fun b h2 => apA 2 16 #[.int .i64 0, .int .i64 0] t s (Sl.mk (some (Addr.mk b 0 none)) 1 1) h2 K := by
  have hl : s.len = L.length := by
    obtain ⟨B, _, hB⟩ := h.sat
    have := hB.1.1
    rw [rgs_len] at this
    omega
  refine new_C (cs := [.int .i64 x, .int .i64 y]) h fun b A1 h1 => ?_
  have h1 := h1.swap
  refine ap_reads (i := 0) h1 rfl (reads_at (n := 1) (sz := 2) (cs := [.int .i64 x, .int .i64 y]) (rest := []) rfl) (fun g => nomatch g) (fun g => by rw [hs g]; rfl) rfl (fun v hv => ?_) ⟨by simp only [hl]; omega, by simp only [hl]; omega⟩ fun s' A2 j1 j2 h2 => ?_
  · simp at hv; rcases hv with rfl | rfl <;> rfl
  · refine hk s' A2 (fun g => ?_) ?_
    · have := j2 g
      simp at this
    · rw [rgs_app]
      exact Own.cons (fun C hC => hC.tail) h2
/-- What one's own slice reads. -/
theorem reads_slB {sz : Nat} {cs : List Value} : Reads (SlO s sz cs) s sz cs := fun _ _ h u => ⟨h.look.1, fun _ _ hv => h.look.cell u hv⟩
theorem Own.rgs_len (h : Own (SlO s 2 (rgs L) :: R) A) : s.len = L.length := rd_rg_len (k := 0) h rfl reads_slB
/-- A cell of one's own slice is stored to. -/
theorem st_slo {sz j : Nat} {cs : List Value} {v : Value} {a : Addr} {K : AP} (h : Own (SlO s sz cs :: R) A) (ha : s.a = some a) (hj : j < cs.length) (hv : v.oneCell' = true) (hk : ∀ A', Own (SlO s sz (cs.set j v) :: R) A' → K A') : aC (Addr.add a j) v A K := by
  obtain ⟨⟨h1, h2⟩, h3⟩ := h.pure
  have h4 : Own ((fun B => ∃ b rest, s.a = some ⟨b, 0, none⟩ ∧ (cs ++ rest).length = s.cap * sz ∧ At b (cs ++ rest) B) :: R) A := h3.imp fun B hB => by
    rcases hB with hB | hB
    · exfalso
      have h5 : s.len = 0 := by omega
      rw [h5] at h1
      simp at h1
      omega
    · exact hB
  obtain ⟨b, h4⟩ := h4.ex
  obtain ⟨rest, h4⟩ := h4.ex
  obtain ⟨ha2, h4⟩ := h4.pure
  obtain ⟨hc, h4⟩ := h4.pure
  rw [ha] at ha2
  cases ha2
  rw [add_at, Nat.zero_add]
  refine st_C (i := 0) h4 rfl (by simp; omega) hv fun A' h' => hk A' ?_
  have e : (cs ++ rest).set j v = cs.set j v ++ rest := List.set_append_left _ _ hj
  refine Own.imp (P := At b (cs.set j v ++ rest)) (fun B hB => ⟨⟨by simpa using h1, h2⟩, .inr ⟨b, rest, ha, by simpa using hc, hB⟩⟩) ?_
  rw [← e]
  exact h'
theorem rgs_set : ∀ {L : List Rg} {i : Nat} {r : Rg} (y : Int), L[i]? = some r → (rgs L).set (i * 2 + 1) (.int .i64 y) = rgs (L.set i (r.1, y))
  | [], _, _, _, e => by simp at e
  | d :: L, 0, r, y, e => by
    simp at e; subst e
    rfl
  | d :: L, i + 1, r, y, e => by
    have := rgs_set (L := L) (i := i) y (by simpa using e)
    show (rgE d ++ rgs L).set ((i + 1) * 2 + 1) _ = rgE d ++ rgs (L.set i (r.1, y))
    rw [List.set_append_right _ _ (by simp [rgE]; omega)]
    rw [show (i + 1) * 2 + 1 - (rgE d).length = i * 2 + 1 by simp [rgE]; omega, this]
theorem rgs_set0 : ∀ {L : List Rg} {i : Nat} {r : Rg} (y : Int), L[i]? = some r → (rgs L).set (i * 2) (.int .i64 y) = rgs (L.set i (y, r.2))
  | [], _, _, _, e => by simp at e
  | d :: L, 0, r, y, e => by
    simp at e; subst e
    rfl
  | d :: L, i + 1, r, y, e => by
    have := rgs_set0 (L := L) (i := i) y (by simpa using e)
    show (rgE d ++ rgs L).set ((i + 1) * 2) _ = rgE d ++ rgs (L.set i (y, r.2))
    rw [List.set_append_right _ _ (by simp [rgE]; omega)]
    rw [show (i + 1) * 2 - (rgE d).length = i * 2 by simp [rgE]; omega, this]
theorem Own.nilS {sz : Nat} (h : Own l A) : Own (SlO Sl.nil sz [] :: l) A := ⟨fun _ => none, A, fun _ => .inl rfl, (fun _ _ e => nomatch e), Sub.refl A, SlO.nil, h⟩
/-- One's own slice that holds something lies in a block. -/
theorem Own.openS {sz : Nat} {cs : List Value} (h : Own (SlO s sz cs :: R) A) (hne : cs ≠ []) : ∃ b rest, s.a = some ⟨b, 0, none⟩ ∧ (cs ++ rest).length = s.cap * sz ∧ s.len * sz = cs.length ∧ s.len ≤ s.cap ∧ Own (At b (cs ++ rest) :: R) A := by
  obtain ⟨⟨h1, h2⟩, h3⟩ := h.pure
  have h4 : Own ((fun B => ∃ b rest, s.a = some ⟨b, 0, none⟩ ∧ (cs ++ rest).length = s.cap * sz ∧ At b (cs ++ rest) B) :: R) A := h3.imp fun B hB => by
    rcases hB with hB | hB
    · exfalso
      have h5 : s.len = 0 := by omega
      rw [h5] at h1
      simp at h1
      exact hne (List.length_eq_zero_iff.1 h1.symm)
    · exact hB
  obtain ⟨b, h4⟩ := h4.ex
  obtain ⟨rest, h4⟩ := h4.ex
  obtain ⟨ha2, h4⟩ := h4.pure
  obtain ⟨hc, h4⟩ := h4.pure
  exact ⟨b, rest, ha2, hc, h1, h2, h4⟩
theorem Own.shutS {sz b : Nat} {cs rest : List Value} (h : Own (At b (cs ++ rest) :: R) A) (ha : s.a = some ⟨b, 0, none⟩) (hc : (cs ++ rest).length = s.cap * sz) (h1 : s.len * sz = cs.length) (h2 : s.len ≤ s.cap) : Own (SlO s sz cs :: R) A :=
  h.imp fun _ hB => ⟨⟨h1, h2⟩, .inr ⟨b, rest, ha, hc, hB⟩⟩
end Go.Dn
/- bootmap.Merge. -/
namespace Go.Dn
open Go.Proofs

variable {A : AH} {l R : List SP} {P : SP} {k : Nat} {s : Sl} {L : List Rg}
theorem CloneR_spec {Q : Sl → AH → Prop} (h : Own l A) (e : l[k]? = some P) (hr : Reads P s 2 (rgs L)) (hb : L.length ≤ 1000000) (hn : s.a = none → L = [])
    (hk : ∀ s' A', (s'.a = none → L = []) → Own (SlO s' 2 (rgs L) :: l) A' → Q s' A') : slices_Clone_api_Range_api_Range_A s Q A := by
  have hl := rd_rg_len h e hr
  unfold slices_Clone_api_Range_api_Range_A
  refine bsel_in (fun c => ?_) fun c => ?_
  · have h0 := hn (by simpa using c)
    subst h0
    exact hk _ A (fun _ => rfl) h.nilS
  · refine new_C (cs := []) h fun b1 A1 h1 => ?_
    have h1 : Own (SlO ⟨some ⟨b1, 0, none⟩, 0, 0⟩ 2 [] :: l) A1 := h1.imp fun B _ => ⟨⟨by simp, Nat.le_refl _⟩, .inl rfl⟩
    refine ap_reads (i := k) h1 e hr (fun g => by rw [hn g]; rfl) (fun g => by cases g) rfl (fun v hv => rgs_one hv) ⟨by simp only [hl]; omega, by simp only [hl]; omega⟩ fun s' A2 j1 j2 h2 => ?_
    exact hk s' A2 (fun g => rgs_nil (by simpa using j2 g)) (by simpa using h2)
def bad (r : Rg) : Bool := decide (r.2 ≤ r.1)
def firstBad : List Rg → Option Nat
  | [] => none
  | d :: r => if bad d then some 0 else (firstBad r).map (· + 1)
theorem firstBad_none : ∀ {L : List Rg}, firstBad L = none → ∀ r ∈ L, bad r = false
  | [], _, _, h => nomatch h
  | d :: L, h, r, hr => by
    unfold firstBad at h
    split at h
    · cases h
    · rename_i g
      rcases List.mem_cons.1 hr with rfl | hr
      · simpa using g
      · exact firstBad_none (by cases e : firstBad L with | none => rfl | some j => rw [e] at h; cases h) r hr
theorem firstBad_some : ∀ {L : List Rg} {j : Nat}, firstBad L = some j → ∃ r, L[j]? = some r ∧ bad r = true ∧ ∀ r ∈ L.take j, bad r = false
  | [], _, h => by simp [firstBad] at h
  | d :: L, j, h => by
    unfold firstBad at h
    split at h
    · rename_i g
      cases h
      exact ⟨d, rfl, g, fun _ h => by simp at h⟩
    · rename_i g
      cases e : firstBad L with
      | none => rw [e] at h; cases h
      | some i =>
        rw [e] at h
        cases h
        obtain ⟨r, h1, h2, h3⟩ := firstBad_some e
        refine ⟨r, by simpa using h1, h2, fun q hq => ?_⟩
        simp at hq
        rcases hq with rfl | hq
        · simpa using g
        · exact h3 q hq
theorem drop_at {α : Type} {L : List α} {v : Nat} {y : α} (h : L[v]? = some y) : L.drop v = y :: L.drop (v + 1) := by
  obtain ⟨hv, e⟩ := List.getElem?_eq_some_iff.1 h
  rw [List.drop_eq_getElem_cons hv, e]
theorem firstBad_drop {v : Nat} {d : Rg} (hd : L[v]? = some d) : firstBad (L.drop v) = if bad d then some 0 else (firstBad (L.drop (v + 1))).map (· + 1) := by
  rw [drop_at hd]
  rfl
theorem take_at {α : Type} {L : List α} {v : Nat} {y : α} (h : L[v]? = some y) : L.take (v + 1) = L.take v ++ [y] := by
  obtain ⟨hv, e⟩ := List.getElem?_eq_some_iff.1 h
  rw [List.take_add_one, h]; rfl
theorem IndexBad_spec {Q : Int → AH → Prop} (h : Own l A) (e : l[k]? = some P) (hr : Reads P s 2 (rgs L)) (hb : L.length ≤ 1000000) (h0 : firstBad L = none → Q (-1) A) (h1 : ∀ j : Nat, firstBad L = some j → Q j A) :
    slices_IndexFunc_api_Range_api_Range_A s Q A := by
  have hl := rd_rg_len h e hr
  unfold slices_IndexFunc_api_Range_api_Range_A slices_IndexFunc_api_Range_api_Range_G
  refine ⟨fun x m h' => ∃ v : Nat, x = v ∧ m + v = L.length ∧ h' = A ∧ firstBad L = (firstBad (L.drop v)).map (· + v), ⟨L.length, 0, rfl, rfl, rfl, by rw [List.drop_zero]; cases firstBad L <;> rfl⟩, ?_⟩
  intro x m A1 ⟨v, e1, e2, e3, e4⟩
  subst e1 e3
  refine bsel_in (fun c => ?_) fun c => ?_
  · have c : (v : Int) < s.len := of_decide_eq_true c
    obtain ⟨d, hd⟩ : ∃ d, L[v]? = some d := ⟨L[v]'(by omega), by simp⟩
    obtain ⟨a, q1, r1, r2⟩ := rd_rg h e hr hd
    rw [q1]
    refine inB_in (by omega) c (r1 _ (r2 _ ?_))
    unfold bootmap_Merge_1_A
    rw [firstBad_drop hd] at e4
    refine bsel_in (fun g => ?_) fun g => ?_
    · rw [if_pos (show bad d = true from g)] at e4
      exact h1 v (by rw [e4]; simp)
    · rw [if_neg (by rw [show bad d = false from g]; simp)] at e4
      refine ⟨m - 1, by omega, v + 1, by rw [w64] <;> omega, by omega, rfl, ?_⟩
      rw [e4]
      cases firstBad (L.drop (v + 1)) with
      | none => rfl
      | some j => simp; omega
  · have c : ¬(v : Int) < s.len := of_decide_eq_false c
    refine h0 ?_
    rw [e4, List.drop_eq_nil_of_le (by omega)]; rfl
theorem zeroCells_one {z : Array Value} {n : Nat} (hz : ∀ v ∈ z.toList, v.oneCell' = true) : ∀ v ∈ (Builtin.zeroCells z n).toList, v.oneCell' = true := fun v hv => by
  have hv := Array.mem_toList_iff.1 hv
  unfold Builtin.zeroCells at hv
  obtain ⟨i, hi, rfl⟩ := Array.mem_map.1 hv
  have hi := Array.mem_range.1 hi
  have h0 : 0 < z.size := by
    rcases Nat.eq_zero_or_pos z.size with q | q
    · rw [q] at hi; simp at hi
    · exact q
  have hlt : i % z.size < z.size := Nat.mod_lt _ h0
  rw [getElem!_pos z _ hlt]
  exact hz _ (by simp)
def good (r : Rg) : Bool := !bad r
theorem set_set_at {C : List Rg} {i : Nat} {y : Rg} (hi : i < C.length) : (C.set i y).take (i + 1) = C.take i ++ [y] := by
  rw [take_at (v := i) (y := y) (by simp [hi]), List.take_set_of_le (Nat.le_refl _)]
theorem Delete_spec {Q : Sl → AH → Prop} (h : Own (SlO s 2 (rgs L) :: R) A) (hs : s.a = none → L = []) (hb : L.length ≤ 1000000)
    (hk : ∀ s' A', (s'.a = none → L.filter good = []) → Own (SlO s' 2 (rgs (L.filter good)) :: R) A' → Q s' A') : slices_DeleteFunc_api_Range_api_Range_A s Q A := by
  have hl := h.rgs_len
  unfold slices_DeleteFunc_api_Range_api_Range_A slices_DeleteFunc_api_Range_api_Range_G
  refine IndexBad_spec (k := 0) h rfl reads_slB hb (fun h0 => ?_) fun j hj => ?_
  · refine bsel_t (by simp) ?_
    have : L.filter good = L := List.filter_eq_self.2 fun r hr => by simp [good, firstBad_none h0 r hr]
    exact hk s A (fun g => by rw [this]; exact hs g) (by rw [this]; exact h)
  · refine bsel_f (by simp) ?_
    obtain ⟨r0, g1, g2, g3⟩ := firstBad_some hj
    have hjl := (List.getElem?_eq_some_iff.1 g1).1
    have hf0 : L.take j = (L.take j).filter good := (List.filter_eq_self.2 fun r hr => by simp [good, g3 r hr]).symm
    refine ⟨fun x y m h' => ∃ (i v : Nat) (C : List Rg), x = i ∧ y = v ∧ m + v = L.length ∧ C.length = L.length ∧ i < v ∧ v ≤ L.length ∧ C.take i = (L.take v).filter good ∧ C.drop v = L.drop v ∧ Own (SlO s 2 (rgs C) :: R) h',
      ⟨L.length - (j + 1), j, j + 1, L, rfl, by rw [w64] <;> omega, by omega, rfl, by omega, by omega, ?_, rfl, h⟩, ?_⟩
    · rw [take_at g1, List.filter_append, ← hf0]
      simp [good, g2]
    · intro x y m A1 ⟨i, v, C, e1, e2, e3, e4, e5, e6, e7, e8, h1⟩
      subst e1 e2
      have hl1 := h1.rgs_len
      refine bsel_in (fun c => ?_) fun c => ?_
      · have c : (v : Int) < s.len := of_decide_eq_true c
        refine ⟨fun x h' => ∃ (i' : Nat) (C' : List Rg), x = i' ∧ C'.length = L.length ∧ i' < v + 1 ∧ C'.take i' = (L.take (v + 1)).filter good ∧ C'.drop (v + 1) = L.drop (v + 1) ∧ Own (SlO s 2 (rgs C') :: R) h', ?_, ?_⟩
        · intro x A2 ⟨i', C', f1, f2, f3, f4, f5, h2⟩
          subst f1
          exact ⟨m - 1, by omega, i', v + 1, C', rfl, by rw [w64] <;> omega, by omega, f2, f3, by omega, f4, f5, h2⟩
        · obtain ⟨d, hd⟩ : ∃ d, L[v]? = some d := ⟨L[v]'(by omega), by simp⟩
          have hdC : C[v]? = some d := by
            have := congrArg (·[0]?) e8
            simpa [hd] using this
          have hdrop : C.drop (v + 1) = L.drop (v + 1) := by
            have := congrArg (List.drop 1) e8
            simpa [Nat.add_comm] using this
          obtain ⟨a, q1, r1, r2⟩ := rd_rg (k := 0) h1 rfl reads_slB hdC
          rw [q1]
          refine inB_in (by omega) c (r1 _ (r2 _ ?_))
          unfold bootmap_Merge_1_A
          have hbd : bad d = decide (d.2 ≤ d.1) := rfl
          refine bsel_in (fun g => ?_) fun g => ?_
          · have g : bad d = false := by rw [hbd]; simpa using g
            have hi : i < C.length := by omega
            refine inB_in (by omega) (by omega) ?_
            obtain ⟨y0, hy0⟩ : ∃ y0, C[i]? = some y0 := ⟨C[i], by simp⟩
            rw [Int.toNat_natCast]
            refine st_slo h1 q1 (by rw [rgs_len]; omega) rfl fun A2 h2 => ?_
            rw [rgs_set0 d.1 hy0] at h2
            have had : Addr.add (Addr.add a (i * 2)) 1 = Addr.add a (i * 2 + 1) := by
              obtain ⟨b, rest, ha, _⟩ := h2.openS (fun g => by have := rgs_len (C.set i (d.1, y0.2)); rw [g] at this; simp at this; omega)
              rw [q1] at ha
              cases ha
              rw [add_at, add_at, add_at]
              congr 1
            rw [had]
            refine st_slo h2 q1 (by rw [rgs_len]; simp; omega) rfl fun A3 h3 => ?_
            rw [rgs_set (r := (d.1, y0.2)) d.2 (by simp [hi]), List.set_set] at h3
            refine ⟨i + 1, C.set i d, by rw [w64] <;> omega, by simpa using e4, by omega, ?_, ?_, h3⟩
            · rw [set_set_at hi, e7, take_at hd, List.filter_append]
              simp [good, g]
            · rw [List.drop_set_of_lt (by omega), hdrop]
          · have g : bad d = true := by rw [hbd]; simpa using g
            refine ⟨i, C, rfl, e4, by omega, ?_, hdrop, h1⟩
            rw [e7, take_at hd, List.filter_append]
            simp [good, g]
      · have c : ¬(v : Int) < s.len := of_decide_eq_false c
        have hv : v = L.length := by omega
        subst hv
        have hC : rgs C ≠ [] := fun g => by have := rgs_nil g; rw [this] at e4; simp at e4; omega
        obtain ⟨b, rest, ha, hc, hn1, hn2, h2⟩ := h1.openS hC
        refine inB_in (by omega) (by omega) ?_
        have hsl : (if s.cap = Int.toNat (i : Int) then s.a else Option.map (fun x => Addr.add x (Int.toNat (i : Int) * 2)) s.a) = some ⟨b, i * 2, none⟩ := by
          rw [if_neg (by omega), ha]
          simp [add_at]
        rw [hsl, Int.toNat_natCast]
        show aStL (Builtin.zeroCells _ _).toList (Addr.add ⟨b, i * 2, none⟩ 0) 0 A1 _
        rw [add_at, Nat.add_zero]
        have hsplit : rgs C ++ rest = rgs (C.take i) ++ rgs (C.drop i) ++ rest := by
          rw [← rgs_app]
          rw [List.take_append_drop]
        rw [hsplit] at h2
        refine stL_spec _ 0 A1 (rgs (C.take i)) (rgs (C.drop i)) rest _ h2 ?_ ?_ (zeroCells_one (fun v hv => by simp at hv; subst hv; rfl)) fun A2 h3 => ?_
        · have hz := zeroCells_len (z := #[Value.int IntKind.i64 0, Value.int IntKind.i64 0]) (n := s.len - i)
          have hz2 : (#[Value.int IntKind.i64 0, Value.int IntKind.i64 0] : Array Value).size = 2 := rfl
          rw [hz2] at hz
          show (rgs (C.drop i)).length = (Builtin.zeroCells #[Value.int IntKind.i64 0, Value.int IntKind.i64 0] (s.len - i)).size
          rw [rgs_len, hz, List.length_drop]
          omega
        · rw [rgs_len]; simp; omega
        · refine inB_in (by omega) (by omega) ?_
          have hsa : (if s.cap = 0 then s.a else Option.map (fun x => Addr.add x (0 * 2)) s.a) = some ⟨b, 0, none⟩ := by
            rw [if_neg (by omega), ha]
            simp [add_at]
          rw [hsa]
          refine hk _ A2 (fun g => nomatch g) ?_
          rw [e7, List.take_length, List.append_assoc] at h3
          refine Own.shutS h3 rfl ?_ ?_ ?_
          · have hz := zeroCells_len (z := #[Value.int IntKind.i64 0, Value.int IntKind.i64 0]) (n := s.len - i)
            have hz2 : (#[Value.int IntKind.i64 0, Value.int IntKind.i64 0] : Array Value).size = 2 := rfl
            rw [hz2] at hz
            have h5 := congrArg List.length e7
            rw [List.take_length, List.length_take] at h5
            have h6 : (rgs C ++ rest).length = C.length * 2 + rest.length := by rw [List.length_append, rgs_len]
            rw [h6] at hc
            show (rgs (L.filter good) ++ ((Builtin.zeroCells #[Value.int IntKind.i64 0, Value.int IntKind.i64 0] (s.len - i)).toList ++ rest)).length = s.cap * 2
            have hz' : (Builtin.zeroCells #[Value.int IntKind.i64 0, Value.int IntKind.i64 0] (s.len - i)).toList.length = (s.len - i) * 2 := hz
            rw [List.length_append, List.length_append, hz', rgs_len, ← h5]
            omega
          · have h5 := congrArg List.length e7
            rw [rgs_len]
            simp only [List.length_take, Int.toNat_natCast] at h5 ⊢
            rw [List.take_length] at h5
            omega
          · simp only [Int.toNat_natCast]; omega
theorem Sort_spec {K : AP} (h : Own (SlO s 2 (rgs L) :: R) A) (hs : s.a = none → L = []) (hb : L.length ≤ 1000000)
    (hk : ∀ d' : List Rg, d'.Perm L → d'.Pairwise (fun x y => x.1 ≤ y.1) → ∀ A', Own (SlO s 2 (rgs d') :: R) A' → K A') : slices_SortFunc_api_Range_api_Range_A s K A := by
  have hl := h.rgs_len
  unfold slices_SortFunc_api_Range_api_Range_A
  have hsrt : ∀ d' : List Rg, d'.Pairwise (fun x y => ltOf rgCf y x = false) → d'.Pairwise (fun x y => x.1 ≤ y.1) := fun d' hd => hd.imp fun {x y} g => by rw [rgLt] at g; simp at g; exact g
  by_cases hne : L = []
  · subst hne
    have h0 : s.len = 0 := by simpa using hl
    refine ⟨[], by simp [h0], by omega, ?_, fun a ha i hi => by rw [h0] at hi; omega, fun d' hp hd => ?_⟩
    · cases ha : s.a with
      | none => rfl
      | some a => exact ⟨by simp [h0], fun i hi => by rw [h0] at hi; omega⟩
    · have := hp.eq_nil
      subst this
      have hst : aStR s.a 0 [] A K ↔ K A := by cases s.a <;> exact Iff.rfl
      show aStR s.a 0 [] A K
      rw [hst]
      exact hk [] (List.Perm.refl _) List.Pairwise.nil A h
  · have hr : rgs L ≠ [] := fun g => hne (rgs_nil g)
    obtain ⟨b, rest, ha, hc, hn1, hn2, h2⟩ := h.openS hr
    obtain ⟨B, u, hB⟩ := h.sat
    obtain ⟨t, ht⟩ := h2.at (i := 0) rfl
    refine ⟨L, hl.symm, by omega, ?_, fun a ha' i hi => ?_, fun d' hp hd => ?_⟩
    · exact rowA_of hB.look u (fun g => by rw [ha] at g; cases g)
    · rw [ha] at ha'
      cases ha'
      rw [add_at]
      simp [frozA, ht]
    · rw [ha]
      have hlen : d'.length = L.length := hp.length_eq
      show aStL (rgs d') (Addr.add ⟨b, 0, none⟩ 0) 0 A K
      rw [add_at]
      refine stL_spec (rgs d') 0 A [] (rgs L) rest K h2 (by rw [rgs_len, rgs_len, hlen]) rfl (fun v hv => rgs_one hv) fun A' h' => ?_
      refine hk d' hp (hsrt d' hd) A' (Own.shutS h' ha ?_ ?_ hn2)
      · rw [← hc]; simp [rgs_len, hlen]
      · rw [hn1, rgs_len, rgs_len, hlen]
theorem mg_none {out : List Rg} {r : Rg} (h : out.getLast? = none) : mgStep out r = out ++ [r] := by
  have h0 : out = [] := List.getLast?_eq_none_iff.1 h
  subst h0
  rfl
theorem mem_filter_good {L : List Rg} {n : Int} : memR (L.filter good) n ↔ memR L n := by
  constructor
  · rintro ⟨r, hr, h⟩
    exact ⟨r, (List.mem_filter.1 hr).1, h⟩
  · rintro ⟨r, hr, h1, h2⟩
    refine ⟨r, List.mem_filter.2 ⟨hr, ?_⟩, h1, h2⟩
    have : bad r = false := by unfold bad; simp; omega
    simp [good, this]
theorem Merge_spec {Q : Sl → AH → Prop} (h : Own l A) (e : l[k]? = some P) (hr : Reads P s 2 (rgs L)) (hb : L.length ≤ 100000) (hn : s.a = none → L = [])
    (hk : ∀ m : List Rg, NF m → (∀ n, memR m n ↔ memR L n) → m.length ≤ L.length → ∀ s' A', (s'.a = none → m = []) → Own (SlO s' 2 (rgs m) :: l) A' → Q s' A') : bootmap_Merge_A s Q A := by
  unfold bootmap_Merge_A bootmap_Merge_G
  refine CloneR_spec h e hr (by omega) hn fun s1 A1 hs1 h1 => ?_
  refine Delete_spec h1 hs1 (by omega) fun s3 A2 hs3 h2 => ?_
  have hfl : (L.filter good).length ≤ L.length := List.length_filter_le _ _
  refine Sort_spec h2 hs3 (by omega) fun d hp hd A3 h3 => ?_
  have hdl : d.length ≤ L.length := by rw [hp.length_eq]; exact hfl
  have hs3' : s3.a = none → d = [] := fun g => by
    have := hs3 g
    rw [this] at hp
    exact hp.eq_nil
  have hdlt : ∀ r ∈ d, r.1 < r.2 := fun r hr' => by
    have := (List.mem_filter.1 (hp.mem_iff.1 hr')).2
    simp [good, bad] at this
    exact this
  have hmem : ∀ n, memR d n ↔ memR L n := fun n => by
    rw [← mem_filter_good (L := L)]
    constructor
    · rintro ⟨r, hr', g⟩; exact ⟨r, hp.mem_iff.1 hr', g⟩
    · rintro ⟨r, hr', g⟩; exact ⟨r, hp.mem_iff.2 hr', g⟩
  have hl3 := h3.rgs_len
  refine ⟨fun o x m h' => ∃ (v : Nat) (out : List Rg), x = v ∧ m + v = d.length ∧ MgI (d.take v) out ∧ out.length ≤ v ∧ (o.a = none → out = []) ∧ Own (SlO o 2 (rgs out) :: SlO s3 2 (rgs d) :: l) h',
    ⟨d.length, 0, [], rfl, by omega, by simpa using MgI.nil, by simp, fun _ => rfl, h3.nilS⟩, ?_⟩
  intro o x m A4 ⟨v, out, e1, e2, hI, hol, hon, h4⟩
  subst e1
  have hol4 := h4.rgs_len
  refine bsel_in (fun c => ?_) fun c => ?_
  · have c : (v : Int) < s3.len := of_decide_eq_true c
    obtain ⟨r, hrv⟩ : ∃ r, d[v]? = some r := ⟨d[v]'(by omega), by simp⟩
    have hrm : r ∈ d := List.mem_of_getElem? hrv
    have hstep : MgI (d.take (v + 1)) (mgStep out r) := by
      rw [take_at hrv]
      refine mgStep_ok hI (hdlt r hrm) fun p hp' => ?_
      obtain ⟨i, hi⟩ := List.mem_iff_getElem?.1 hp'
      have hlt : i < v := by
        have := (List.getElem?_eq_some_iff.1 hi).1
        simp at this; omega
      rw [List.getElem?_take_of_lt hlt] at hi
      obtain ⟨hi1, hi2⟩ := List.getElem?_eq_some_iff.1 hi
      obtain ⟨hv1, hv2⟩ := List.getElem?_eq_some_iff.1 hrv
      have := List.pairwise_iff_getElem.1 hd i v hi1 hv1 hlt
      rw [hi2, hv2] at this
      exact this
    refine ⟨fun o' h' => ∃ out', out' = mgStep out r ∧ out'.length ≤ v + 1 ∧ (o'.a = none → out' = []) ∧ Own (SlO o' 2 (rgs out') :: SlO s3 2 (rgs d) :: l) h', ?_, ?_⟩
    · intro o' A5 ⟨out', f1, f2, f3, h5⟩
      refine ⟨m - 1, by omega, v + 1, out', by rw [w64] <;> omega, by omega, ?_, f2, f3, h5⟩
      rw [f1]; exact hstep
    · obtain ⟨a, q1, r1, r2⟩ := rd_rg (k := 1) h4 rfl reads_slB hrv
      rw [q1]
      refine inB_in (by omega) c (r1 _ (r2 _ ?_))
      refine ⟨fun b h' => h' = A4 ∧ b = (match out.getLast? with | some q => decide (r.1 ≤ q.2) | none => false), ?_, ?_⟩
      · intro b A5 ⟨f1, f2⟩
        subst f1
        cases hlast : out.getLast? with
        | none =>
          rw [hlast] at f2
          subst f2
          refine bsel_f rfl ?_
          refine push_rg h4 hon (by omega) fun s' A6 g1 h6 => ?_
          exact ⟨out ++ [r], (mg_none hlast).symm, by simp; omega, g1, h6⟩
        | some q =>
          rw [hlast] at f2
          have hmg : mgStep out r = if r.1 ≤ q.2 then out.dropLast ++ [(q.1, if r.2 > q.2 then r.2 else q.2)] else out ++ [r] := by unfold mgStep; rw [hlast]
          obtain ⟨ol, hol'⟩ := List.getLast?_eq_some_iff.1 hlast
          have hpos : 0 < out.length := by rw [hol']; simp
          have hqi : out[out.length - 1]? = some q := by rw [hol']; simp
          by_cases hle : r.1 ≤ q.2
          · refine bsel_t (by rw [f2]; simpa using hle) ?_
            have hw : IntKind.wrap .i64 (Int.ofNat o.len - 1) = ((out.length - 1 : Nat) : Int) := by
              rw [w64] <;> simp only [Int.ofNat_eq_natCast] <;> omega
            rw [hw]
            obtain ⟨a2, q2, t1, t2⟩ := rd_rg (k := 0) h4 rfl reads_slB hqi
            rw [q2]
            refine inB_in (by omega) (by omega) (t2 _ ?_)
            refine inB_in (by omega) (by omega) ?_
            have had : Addr.add (Addr.add a2 (Int.toNat ((out.length - 1 : Nat) : Int) * 2)) 1 = Addr.add a2 ((out.length - 1) * 2 + 1) := by
              obtain ⟨b, rest, ha, _⟩ := h4.openS (fun g => by have := rgs_nil g; rw [this] at hpos; simp at hpos)
              rw [q2] at ha
              cases ha
              rw [add_at, add_at, add_at, Int.toNat_natCast]
              congr 1
            rw [had]
            refine st_slo h4 q2 (by rw [rgs_len]; omega) rfl fun A6 h6 => ?_
            rw [rgs_set _ hqi] at h6
            refine ⟨_, rfl, ?_, fun g => ?_, ?_⟩
            · rw [hmg, if_pos hle, hol']; simp; rw [hol'] at hol; simp at hol; omega
            · rw [q2] at g; cases g
            · rw [hmg, if_pos hle]
              have : out.set (out.length - 1) (q.1, if r.2 > q.2 then r.2 else q.2) = out.dropLast ++ [(q.1, if r.2 > q.2 then r.2 else q.2)] := by
                rw [hol']
                simp [List.dropLast_concat, List.set_append_right]
              rw [← this]
              exact h6
          · refine bsel_f (by rw [f2]; simpa using hle) ?_
            refine push_rg h4 hon (by omega) fun s' A6 g1 h6 => ?_
            exact ⟨out ++ [r], by rw [hmg, if_neg hle], by simp; omega, g1, h6⟩
      · refine bsel_in (fun g => ?_) fun g => ?_
        · have g : (0 : Int) < o.len := by simpa using g
          have hpos : 0 < out.length := by omega
          obtain ⟨q, hq⟩ : ∃ q, out.getLast? = some q := by
            cases e' : out.getLast? with
            | none => rw [List.getLast?_eq_none_iff.1 e'] at hpos; simp at hpos
            | some q => exact ⟨q, rfl⟩
          obtain ⟨ol, hol'⟩ := List.getLast?_eq_some_iff.1 hq
          have hqi : out[out.length - 1]? = some q := by rw [hol']; simp
          have hw : IntKind.wrap .i64 (Int.ofNat o.len - 1) = ((out.length - 1 : Nat) : Int) := by
            rw [w64] <;> simp only [Int.ofNat_eq_natCast] <;> omega
          rw [hw]
          obtain ⟨a2, q2, t1, t2⟩ := rd_rg (k := 0) h4 rfl reads_slB hqi
          rw [q2]
          exact inB_in (by omega) (by omega) (t2 _ ⟨rfl, by rw [hq]⟩)
        · have g : ¬ (0 : Int) < o.len := by simpa using g
          have h0 : out = [] := List.length_eq_zero_iff.1 (by omega)
          exact ⟨rfl, by rw [h0]; rfl⟩
  · have c : ¬(v : Int) < s3.len := of_decide_eq_false c
    have hv : v = d.length := by omega
    subst hv
    rw [List.take_length] at hI
    exact hk out hI.nf (fun n => (hI.mem n).trans (hmem n)) (by omega) o A4 hon (h4.cons fun C hC => hC.tail)
end Go.Dn
/- bootmap.Less. -/
namespace Go.Dn

variable {A : AH} {l R : List SP} {P P2 : SP} {k k2 : Nat} {s s2 : Sl} {L AW : List Rg}
theorem Less_spec {Q : Sl → AH → Prop} (h : Own l A) (e : l[k]? = some P) (hr : Reads P s 2 (rgs L)) (hb : L.length ≤ 100000) (hn : s.a = none → L = [])
    (e2 : l[k2]? = some P2) (hr2 : Reads P2 s2 2 (rgs AW)) (hb2 : AW.length ≤ 100000) (hn2 : s2.a = none → AW = []) (hbb : L.length * (AW.length + 1) ≤ 900000)
    (hk : ∀ m : List Rg, NF m → (∀ n, memR m n ↔ memR L n ∧ ¬ memR AW n) → m.length ≤ L.length * (AW.length + 1) → ∀ s' A', (s'.a = none → m = []) → Own (SlO s' 2 (rgs m) :: l) A' → Q s' A') : bootmap_Less_A s s2 Q A := by
  unfold bootmap_Less_A bootmap_Less_G
  refine Merge_spec h e2 hr2 (by omega) hn2 fun cut hcut hcm hcl s1 A1 hs1 h1 => ?_
  refine Merge_spec (k := k + 1) h1 (by simpa using e) hr (by omega) hn fun ml hml hmm hmll s3 A2 hs3 h2 => ?_
  have hl3 := h2.rgs_len
  have hN : ∀ v : Nat, v ≤ ml.length → v * (cut.length + 1) ≤ L.length * (AW.length + 1) := fun v hv => Nat.mul_le_mul (Nat.le_trans hv hmll) (Nat.add_le_add_right hcl 1)
  generalize L.length * (AW.length + 1) = BB at *
  obtain ⟨N, hNe⟩ : ∃ N, N = cut.length + 1 := ⟨_, rfl⟩
  rw [← hNe] at hN
  refine ⟨fun o x m h' => ∃ (v : Nat) (out : List Rg), x = v ∧ m + v = ml.length ∧ LsO cut (ml.take v) out ∧ out.length ≤ v * N ∧ (o.a = none → out = []) ∧ Own (SlO o 2 (rgs out) :: SlO s3 2 (rgs ml) :: SlO s1 2 (rgs cut) :: l) h',
    ⟨ml.length, 0, [], rfl, by omega, by simpa using LsO.nil, by simp, fun _ => rfl, h2.nilS⟩, ?_⟩
  intro o x m A3 ⟨v, out, e3, e4, hI, hol, hon, h3⟩
  subst e3
  refine bsel_in (fun c => ?_) fun c => ?_
  · have c : (v : Int) < s3.len := of_decide_eq_true c
    obtain ⟨r, hrv⟩ : ∃ r, ml[v]? = some r := ⟨ml[v]'(by omega), by simp⟩
    have hrm : r ∈ ml := List.mem_of_getElem? hrv
    have hr12 := hml.1 r hrm
    have hNv := hN (v + 1) (by omega)
    rw [Nat.add_mul, Nat.one_mul] at hNv
    have hpre : ∀ p ∈ ml.take v, p.2 < r.1 := fun p hp => by
      obtain ⟨i, hi⟩ := List.mem_iff_getElem?.1 hp
      have hlt : i < v := by
        have := (List.getElem?_eq_some_iff.1 hi).1
        simp at this; omega
      rw [List.getElem?_take_of_lt hlt] at hi
      obtain ⟨hi1, hi2⟩ := List.getElem?_eq_some_iff.1 hi
      obtain ⟨hv1, hv2⟩ := List.getElem?_eq_some_iff.1 hrv
      have := List.pairwise_iff_getElem.1 hml.2 i v hi1 hv1 hlt
      rw [hi2, hv2] at this
      exact this
    refine ⟨fun o' h' => ∃ out', LsO cut (ml.take (v + 1)) out' ∧ out'.length ≤ v * N + N ∧ (o'.a = none → out' = []) ∧ Own (SlO o' 2 (rgs out') :: SlO s3 2 (rgs ml) :: SlO s1 2 (rgs cut) :: l) h', ?_, ?_⟩
    · intro o' A4 ⟨out', f1, f2, f3, h4⟩
      exact ⟨m - 1, by omega, v + 1, out', by rw [w64] <;> omega, by omega, f1, by rw [Nat.add_mul, Nat.one_mul]; exact f2, f3, h4⟩
    · obtain ⟨a, q1, r1, r2⟩ := rd_rg (k := 1) h3 rfl reads_slB hrv
      rw [q1]
      refine inB_in (by omega) c (r1 _ (r2 _ ?_))
      refine ⟨fun o' at_ y m' h' => ∃ (w : Nat) (out' : List Rg), y = w ∧ m' + w = cut.length ∧ LsI (memR (ml.take v)) r cut (cut.take w) out' at_ ∧ out'.length ≤ v * N + w ∧ (o'.a = none → out' = []) ∧ Own (SlO o' 2 (rgs out') :: SlO s3 2 (rgs ml) :: SlO s1 2 (rgs cut) :: l) h',
        ⟨cut.length, 0, out, rfl, by omega, by simpa using hI.start hr12 hpre, by omega, hon, h3⟩, ?_⟩
      intro o' at_ y m' A4 ⟨w, out', e5, e6, hI2, hol2, hon2, h4⟩
      subst e5
      have hlc : s1.len = cut.length := rd_rg_len (k := 2) h4 rfl reads_slB
      refine bsel_in (fun d => ?_) fun d => ?_
      · have d : (w : Int) < s1.len := of_decide_eq_true d
        obtain ⟨cc, hcv⟩ : ∃ cc, cut[w]? = some cc := ⟨cut[w]'(by omega), by simp⟩
        have hsplit : cut = cut.take w ++ cc :: cut.drop (w + 1) := by rw [← drop_at hcv, List.take_append_drop]
        refine ⟨fun o2 at2 h' => ∃ out2, LsI (memR (ml.take v)) r cut (cut.take (w + 1)) out2 at2 ∧ out2.length ≤ v * N + (w + 1) ∧ (o2.a = none → out2 = []) ∧ Own (SlO o2 2 (rgs out2) :: SlO s3 2 (rgs ml) :: SlO s1 2 (rgs cut) :: l) h', ?_, ?_⟩
        · intro o2 at2 A5 ⟨out2, f1, f2, f3, h5⟩
          exact ⟨m' - 1, by omega, w + 1, out2, by rw [w64] <;> omega, by omega, f1, by omega, f3, h5⟩
        · obtain ⟨a2, q2, t1, t2⟩ := rd_rg (k := 2) h4 rfl reads_slB hcv
          rw [q2]
          refine inB_in (by omega) d (t1 _ (t2 _ ?_))
          refine bsel_in (fun g => ?_) fun g => ?_
          · have g : cc.2 ≤ at_ := of_decide_eq_true g
            exact ⟨out', by rw [take_at hcv]; exact hI2.skip (.inl g), by omega, hon2, h4⟩
          have g : ¬ cc.2 ≤ at_ := of_decide_eq_false g
          refine bsel_in (fun g2 => ?_) fun g2 => ?_
          · have g2 : cc.1 ≥ r.2 := of_decide_eq_true g2
            exact ⟨out', by rw [take_at hcv]; exact hI2.skip (.inr g2), by omega, hon2, h4⟩
          have g2 : ¬ cc.1 ≥ r.2 := of_decide_eq_false g2
          have hmax : (if cc.2 > at_ then cc.2 else at_) = cc.2 := if_pos (by omega)
          refine ⟨fun o2 h' => ∃ out2, LsI (memR (ml.take v)) r cut (cut.take (w + 1)) out2 cc.2 ∧ out2.length ≤ v * N + (w + 1) ∧ (o2.a = none → out2 = []) ∧ Own (SlO o2 2 (rgs out2) :: SlO s3 2 (rgs ml) :: SlO s1 2 (rgs cut) :: l) h', ?_, ?_⟩
          · intro o2 A5 ⟨out2, f1, f2, f3, h5⟩
            rw [hmax]
            exact ⟨out2, f1, f2, f3, h5⟩
          · refine bsel_in (fun g3 => ?_) fun g3 => ?_
            · have g3 : cc.1 > at_ := of_decide_eq_true g3
              refine push_rg h4 hon2 (by omega) fun s' A6 j1 h6 => ?_
              exact ⟨_, by rw [take_at hcv]; exact hI2.far hsplit hcut g g2 g3, by simp; omega, j1, h6⟩
            · have g3 : ¬ cc.1 > at_ := of_decide_eq_false g3
              exact ⟨out', by rw [take_at hcv]; exact hI2.near hsplit g g3, by omega, hon2, h4⟩
      · have d : ¬ (w : Int) < s1.len := of_decide_eq_false d
        have hw : w = cut.length := by omega
        subst hw
        rw [List.take_length] at hI2
        refine bsel_in (fun g => ?_) fun g => ?_
        · have g : at_ < r.2 := of_decide_eq_true g
          refine push_rg h4 hon2 (by omega) fun s' A6 j1 h6 => ?_
          exact ⟨_, by rw [take_at hrv]; exact hI2.rest hI2.hi g, by simp; omega, j1, h6⟩
        · have g : ¬ at_ < r.2 := of_decide_eq_false g
          exact ⟨out', by rw [take_at hrv]; exact hI2.none g, by omega, hon2, h4⟩
  · have c : ¬(v : Int) < s3.len := of_decide_eq_false c
    have hv : v = ml.length := by omega
    subst hv
    rw [List.take_length] at hI
    have := hN ml.length (Nat.le_refl _)
    exact hk out hI.nf (fun n => by rw [hI.mem n, hmm n, hcm n]) (by omega) o A3 hon (h3.cons fun C hC => hC.tail.tail)
end Go.Dn
