/- Tables at rest: each has a page below it; what the calls make of them. -/
import Derived.Test.YtcdcmffcajlolaaPages
import Derived.Test.YtcdcmffcajlolaaRoot
import Derived.Test.YtcdcmffcajlolaaMap2
namespace Go.Dn

variable {A : AH} {l R : List SP} {r b t i : Nat} {fr n : Int} {hs : List (Int × Int)} {W W' : Int → Int → Int} {F G F' G' : Int → Prop} {ns : List Nd} {nd : Nd} {root : Int} {tab : Tab} {lf : Int → Option Lf} {tl : List Int}
structure Rest (G : Int → Prop) (W : Int → Int → Int) (root : Int) (tab : Tab) (lf : Int → Option Lf) (tl : List Int) : Prop where
  T : TabW W root tab lf
  pr : ∀ p x, lf p = some x → 0 ≤ p ∧ p < 34359738368
  low : ∀ k q f, tab k q = some f → 1 ≤ k → ∃ p x, lf p = some x ∧ preP p k = q
  nd : tl.Nodup
  mem : ∀ f, f ∈ tl ↔ ∃ k q, tab k q = some f
  inG : ∀ f ∈ tl, G f
theorem Rest.tg (h : Rest G W root tab lf tl) {k : Nat} {q f : Int} (e : tab k q = some f) : G f := h.inG f ((h.mem f).2 ⟨k, q, e⟩)
theorem Rest.keep (h : Rest G W root tab lf tl) (hW : ∀ f ∈ tl, W' f = W f) (hG : ∀ f ∈ tl, G' f) : Rest G' W' root tab lf tl :=
  ⟨h.T.congr fun k q f e => hW f ((h.mem f).2 ⟨k, q, e⟩), h.pr, h.low, h.nd, h.mem, hG⟩
theorem nodup_le {α : Type} [DecidableEq α] {l : List α} : ∀ {m : List α}, m.Nodup → (∀ x ∈ m, x ∈ l) → m.length ≤ l.length
  | [], _, _ => Nat.zero_le _
  | x :: m, nd, h => by
    obtain ⟨h1, h2⟩ := List.nodup_cons.1 nd
    have hx := h x List.mem_cons_self
    have := nodup_le (l := l.erase x) h2 fun y hy => (List.mem_erase_of_ne (fun e : y = x => h1 (by rw [← e]; exact hy))).2 (h y (List.mem_cons_of_mem _ hy))
    rw [List.length_erase_of_mem hx] at this
    have : 0 < l.length := List.length_pos_of_mem hx
    simp only [List.length_cons]; omega
theorem preP_mono {a c : Int} {j k : Nat} (hk : k ≤ 4) (hjk : j ≤ k) (h : preP a k = preP c k) (ha : 0 ≤ a ∧ a < 34359738368) (hc : 0 ≤ c ∧ c < 34359738368) : preP a j = preP c j := by
  obtain rfl | rfl | rfl | rfl | rfl : k = 0 ∨ k = 1 ∨ k = 2 ∨ k = 3 ∨ k = 4 := by omega
  all_goals
    obtain rfl | rfl | rfl | rfl | rfl : j = 0 ∨ j = 1 ∨ j = 2 ∨ j = 3 ∨ j = 4 := by omega
  all_goals simp only [preP] at h ⊢
  all_goals omega
/-- How many tables a page still wants. -/
def needT (tab : Tab) (p : Int) : Nat := (if tab 1 (preP p 1) = none then 1 else 0) + (if tab 2 (preP p 2) = none then 1 else 0) + (if tab 3 (preP p 3) = none then 1 else 0)
theorem TabW.upN (h : TabW W root tab lf) {p : Int} (hp : 0 ≤ p ∧ p < 34359738368) {k : Nat} (hk : k < 4) (hn : tab k (preP p k) = none) : tab (k + 1) (preP p (k + 1)) = none := by
  cases e : tab (k + 1) (preP p (k + 1)) with
  | none => rfl
  | some g =>
    obtain ⟨g', h1, _⟩ := h.up _ _ _ e
    obtain ⟨e1, e2, e3, _⟩ := preP_succ hp hk
    rw [show preP p (k + 1) / 512 = preP p k by omega, hn] at h1
    cases h1
theorem DownOK.need (h : TabW W root tab lf) {p : Int} (hp : 0 ≤ p ∧ p < 34359738368) {lst : List Int} (hD : DownOK tab p lst) : needT tab p + lst.length = 4 := by
  have h0 := hD.pos
  have h1 := hD.le
  have some_ : ∀ c, c < lst.length → tab c (preP p c) ≠ none := fun c hc => by rw [hD.is c hc]; simp [hc]
  unfold needT
  obtain hl | hl | hl | hl : lst.length = 1 ∨ lst.length = 2 ∨ lst.length = 3 ∨ lst.length = 4 := by omega
  · have n1 : tab 1 (preP p 1) = none := by have := hD.no (by omega); rw [hl] at this; exact this
    have n2 := h.upN hp (by omega) n1
    have n3 := h.upN hp (by omega) n2
    rw [if_pos n1, if_pos n2, if_pos n3]; omega
  · have n1 := some_ 1 (by omega)
    have n2 : tab 2 (preP p 2) = none := by have := hD.no (by omega); rw [hl] at this; exact this
    have n3 := h.upN hp (by omega) n2
    rw [if_neg n1, if_pos n2, if_pos n3]; omega
  · have n1 := some_ 1 (by omega)
    have n2 := some_ 2 (by omega)
    have n3 : tab 3 (preP p 3) = none := by have := hD.no (by omega); rw [hl] at this; exact this
    rw [if_neg n1, if_neg n2, if_pos n3]; omega
  · have n1 := some_ 1 (by omega)
    have n2 := some_ 2 (by omega)
    have n3 := some_ 3 (by omega)
    rw [if_neg n1, if_neg n2, if_neg n3]; omega
/-- A page more. -/
theorem Rest.map (h : Rest G W root tab lf tl) {p : Int} {x : Lf} {tab' : Tab} {lst tk : List Int} (p0 : 0 ≤ p) (p1 : p < 34359738368) (hl : lf p = none) (hD : DownOK tab p lst) (hlen : lst.length + tk.length = 4) (hnd : tk.Nodup) (htk : ∀ y ∈ tk, ¬G y)
    (hT : TabW W' root tab' (setL lf p (some x))) (hold : ∀ k q f, tab k q = some f → tab' k q = some f) (hnew : ∀ k q f, tab' k q = some f → tab k q = some f ∨ (f ∈ tk ∧ q = preP p k ∧ 1 ≤ k ∧ k ≤ 3)) :
    Rest (fun y => G y ∨ y ∈ tk) W' root tab' (setL lf p (some x)) (tl ++ tk) := by
  have hset : ∀ p' y, lf p' = some y → setL lf p (some x) p' = some y := fun p' y e => by
    unfold setL
    rw [if_neg (fun g => by rw [g, hl] at e; cases e)]; exact e
  have hself : setL lf p (some x) p = some x := by unfold setL; rw [if_pos rfl]
  have hfull : ∀ k, k < 4 → ∃ f, tab' k (preP p k) = some f := fun k hk => by
    have := hT.chain ⟨p0, p1⟩ hself k hk
    cases e : tab' k (preP p k) with
    | none => exact absurd e this
    | some f => exact ⟨f, rfl⟩
  refine ⟨hT, fun p' y e => ?_, fun k q f e hk => ?_, List.nodup_append.2 ⟨h.nd, hnd, fun a ha c hc e => ?_⟩, fun f => ?_, fun f hf => ?_⟩
  · unfold setL at e
    split at e
    · rename_i g; rw [g]; exact ⟨p0, p1⟩
    · exact h.pr p' y e
  · rcases hnew k q f e with e | ⟨_, e, _⟩
    · obtain ⟨p', y, h1, h2⟩ := h.low k q f e hk
      exact ⟨p', y, hset p' y h1, h2⟩
    · exact ⟨p, x, hself, e.symm⟩
  · subst e; exact htk a hc (h.inG a ha)
  · rw [List.mem_append, h.mem]
    constructor
    · rintro (⟨k, q, e⟩ | hf)
      · exact ⟨k, q, hold k q f e⟩
      · -- the new tables are all of them there: as many as places
        have h0 := hD.pos
        have key : ∀ k, k < 4 → lst.length ≤ k → ∃ g, tab' k (preP p k) = some g ∧ g ∈ tk := fun k hk hk2 => by
          obtain ⟨g, hg⟩ := hfull k hk
          refine ⟨g, hg, ?_⟩
          rcases hnew k _ g hg with e | ⟨e, _⟩
          · have : tab k (preP p k) = none := by
              have n0 := hD.no (by omega)
              have : ∀ j, lst.length + j < 5 → tab (lst.length + j) (preP p (lst.length + j)) = none := fun j => by
                induction j with
                | zero => intro _; exact n0
                | succ j ih => intro hj; exact h.T.upN (k := lst.length + j) ⟨p0, p1⟩ (by omega) (ih (by omega))
              have := this (k - lst.length) (by omega)
              rwa [show lst.length + (k - lst.length) = k by omega] at this
            rw [this] at e; cases e
          · exact e
        have hinj : ∀ j k g, tab' j (preP p j) = some g → tab' k (preP p k) = some g → j = k := fun j k g h1 h2 => (hT.apart _ _ _ _ _ h1 h2).1
        -- the list of the path's new tables is as long as tk and within it
        obtain ⟨gs, hgs1, hgs2, hgs3⟩ : ∃ gs : List Int, gs.length = tk.length ∧ gs.Nodup ∧ ∀ g ∈ gs, g ∈ tk ∧ ∃ k q, tab' k q = some g := by
          obtain hl | hl | hl | hl : lst.length = 1 ∨ lst.length = 2 ∨ lst.length = 3 ∨ lst.length = 4 := by omega
          · obtain ⟨g1, a1, b1⟩ := key 1 (by omega) (by omega)
            obtain ⟨g2, a2, b2⟩ := key 2 (by omega) (by omega)
            obtain ⟨g3, a3, b3⟩ := key 3 (by omega) (by omega)
            refine ⟨[g1, g2, g3], by simp; omega, ?_, ?_⟩
            · have n12 : g1 ≠ g2 := fun e => by subst e; have := hinj _ _ _ a1 a2; omega
              have n13 : g1 ≠ g3 := fun e => by subst e; have := hinj _ _ _ a1 a3; omega
              have n23 : g2 ≠ g3 := fun e => by subst e; have := hinj _ _ _ a2 a3; omega
              simp [n12, n13, n23]
            · intro g hg
              simp only [List.mem_cons, List.not_mem_nil, or_false] at hg
              rcases hg with rfl | rfl | rfl
              · exact ⟨b1, _, _, a1⟩
              · exact ⟨b2, _, _, a2⟩
              · exact ⟨b3, _, _, a3⟩
          · obtain ⟨g2, a2, b2⟩ := key 2 (by omega) (by omega)
            obtain ⟨g3, a3, b3⟩ := key 3 (by omega) (by omega)
            refine ⟨[g2, g3], by simp; omega, ?_, ?_⟩
            · have n23 : g2 ≠ g3 := fun e => by subst e; have := hinj _ _ _ a2 a3; omega
              simp [n23]
            · intro g hg
              simp only [List.mem_cons, List.not_mem_nil, or_false] at hg
              rcases hg with rfl | rfl
              · exact ⟨b2, _, _, a2⟩
              · exact ⟨b3, _, _, a3⟩
          · obtain ⟨g3, a3, b3⟩ := key 3 (by omega) (by omega)
            refine ⟨[g3], by simp; omega, by simp, ?_⟩
            intro g hg
            simp only [List.mem_singleton] at hg
            subst hg
            exact ⟨b3, _, _, a3⟩
          · exact ⟨[], by simp; omega, by simp, by simp⟩
        by_cases hm : f ∈ gs
        · exact (hgs3 f hm).2
        · -- then gs is within tk without f: too short
          exfalso
          have hsub : ∀ g ∈ gs, g ∈ tk.erase f := fun g hg => (List.mem_erase_of_ne (fun e : g = f => hm (by rw [← e]; exact hg))).2 (hgs3 g hg).1
          have hle : gs.length ≤ (tk.erase f).length := nodup_le hgs2 hsub
          rw [List.length_erase_of_mem hf] at hle
          have : 0 < tk.length := List.length_pos_of_mem hf
          omega
    · rintro ⟨k, q, e⟩
      rcases hnew k q f e with e | ⟨e, _⟩
      · exact .inl ⟨k, q, e⟩
      · exact .inr e
  · rcases List.mem_append.1 hf with hf | hf
    · exact .inl (h.inG f hf)
    · exact .inr hf
/-- A page otherwise. -/
theorem Rest.prot (h : Rest G W root tab lf tl) {p f : Int} {x y : Lf} (hl : lf p = some x) (ht : tab 3 (p / 512) = some f) (hy : y.frame = x.frame) : Rest G (setW W f (p % 512) (leafW y)) root tab (setL lf p (some y)) tl := by
  have hpr := h.pr p x hl
  refine ⟨h.T.leaf (o := some y) ht hpr.1 fun z e => ?_, fun p' z e => ?_, fun k q g e hk => ?_, h.nd, h.mem, h.inG⟩
  · cases e
    rw [hy]; exact h.T.rangeL _ _ hl
  · unfold setL at e
    split at e
    · rename_i g; rw [g]; exact hpr
    · exact h.pr p' z e
  · obtain ⟨p', z, h1, h2⟩ := h.low k q g e hk
    by_cases g : p' = p
    · subst g; exact ⟨p', y, by unfold setL; rw [if_pos rfl], h2⟩
    · exact ⟨p', z, by unfold setL; rw [if_neg g]; exact h1, h2⟩
/-- A page less. -/
theorem Rest.unmap (h : Rest G W root tab lf tl) {p : Int} {x : Lf} {lst : List Int} {v : Nat} (hl : lf p = some x) (hD : DownOK tab p lst) (hlen : lst.length = 4) (hv : v ≤ 3) (hT : TabW W' root (cutT tab p v) (setL lf p none))
    (hz : v = 0 ∨ ∃ f j, lst[v]? = some f ∧ 0 ≤ j ∧ j < 512 ∧ W' f j ≠ 0) : Rest (fun y => G y ∧ y ∉ gone lst v) W' root (cutT tab p v) (setL lf p none) (tl.filter fun y => decide (y ∉ gone lst v)) := by
  have hpr := h.pr p x hl
  have hset : ∀ p' y, p' ≠ p → lf p' = some y → setL lf p none p' = some y := fun p' y g e => by unfold setL; rw [if_neg g]; exact e
  have hat : ∀ c, c < 4 → ∃ g, lst[c]? = some g ∧ tab c (preP p c) = some g := fun c hc => by
    refine ⟨lst[c], by simp [hlen, hc], ?_⟩
    rw [hD.is c (by omega)]; simp [hlen, hc]
  have hgone : ∀ y, y ∈ gone lst v ↔ ∃ k, v < k ∧ k ≤ 3 ∧ tab k (preP p k) = some y := fun y => by
    unfold gone
    rw [List.mem_iff_getElem?]
    constructor
    · rintro ⟨j, hj⟩
      rw [List.getElem?_drop] at hj
      have hlt := (List.getElem?_eq_some_iff.1 hj).1
      obtain ⟨g, g1, g2⟩ := hat (v + 1 + j) (by omega)
      rw [g1] at hj
      cases hj
      exact ⟨v + 1 + j, by omega, by omega, g2⟩
    · rintro ⟨k, k1, k2, k3⟩
      obtain ⟨g, g1, g2⟩ := hat k (by omega)
      rw [g2] at k3
      cases k3
      exact ⟨k - (v + 1), by rw [List.getElem?_drop, show v + 1 + (k - (v + 1)) = k by omega]; exact g1⟩
  have hcut : ∀ k q f, cutT tab p v k q = some f ↔ tab k q = some f ∧ f ∉ gone lst v := fun k q f => by
    unfold cutT
    constructor
    · intro e
      split at e
      · cases e
      · rename_i g
        refine ⟨e, fun hm => ?_⟩
        obtain ⟨k', k1, k2, k3⟩ := (hgone f).1 hm
        obtain ⟨e1, e2⟩ := h.T.apart _ _ _ _ _ e k3
        exact g ⟨by omega, by rw [e2, e1]⟩
    · rintro ⟨e, hm⟩
      split
      · rename_i g
        exfalso
        have hk3 : k ≤ 3 := by
          rcases Nat.lt_or_ge 3 k with z | z
          · rw [h.T.deep k q z] at e; cases e
          · exact z
        exact hm ((hgone f).2 ⟨k, g.1, hk3, by rw [← g.2]; exact e⟩)
      · exact e
  refine ⟨hT, fun p' y e => ?_, fun k q f e hk => ?_, h.nd.filter _, fun f => ?_, fun f hf => ?_⟩
  · unfold setL at e
    split at e
    · cases e
    · exact h.pr p' y e
  · obtain ⟨e1, e2⟩ := (hcut k q f).1 e
    obtain ⟨p', y, h1, h2⟩ := h.low k q f e1 hk
    by_cases g : p' = p
    · subst g
      have hk3 : k ≤ 3 := by
        rcases Nat.lt_or_ge 3 k with z | z
        · rw [h.T.deep k q z] at e1; cases e1
        · exact z
      have hkv : k ≤ v := by
        rcases Nat.lt_or_ge v k with z | z
        · exact absurd ((hgone f).2 ⟨k, z, hk3, by rw [h2]; exact e1⟩) e2
        · exact z
      rcases hz with hz | ⟨g, j, g1, g2, g3, g4⟩
      · omega
      · obtain ⟨g', g1', ht⟩ := hat v (by omega)
        rw [g1] at g1'
        cases g1'
        have hv0 : 1 ≤ v := by omega
        have htc : cutT tab p' v v (preP p' v) = some g := by unfold cutT; rw [if_neg (by omega)]; exact ht
        obtain ⟨_, _, _, _, hpos⟩ := preP_succ hpr (k := v) (by omega)
        rcases Nat.lt_or_ge v 3 with v3 | v3
        · have hw := fun z => g4 ((hT.word0 v3 htc ⟨g2, g3⟩ (fun e => by omega)).2 z)
          cases hc : cutT tab p' v (v + 1) (preP p' v * 512 + j) with
          | none => exact absurd hc hw
          | some g5 =>
            obtain ⟨c1, c2⟩ := (hcut _ _ _).1 hc
            obtain ⟨p2, y2, d1, d2⟩ := h.low _ _ _ c1 (by omega)
            have hne : p2 ≠ p' := fun e => by
              subst e
              exact c2 ((hgone g5).2 ⟨v + 1, by omega, by omega, by rw [d2]; exact c1⟩)
            have hp2 := h.pr p2 y2 d1
            refine ⟨p2, y2, hset p2 y2 hne d1, ?_⟩
            rw [← h2]
            refine preP_mono (k := v) (by omega) hkv ?_ hp2 hpr
            obtain ⟨s1, s2, s3, _⟩ := preP_succ hp2 (k := v) (by omega)
            omega
        · have v3 : v = 3 := by omega
          subst v3
          have hw := fun z => g4 ((hT.wordL0 htc ⟨g2, g3⟩).2 z)
          cases hc : setL lf p' none (preP p' 3 * 512 + j) with
          | none => exact absurd hc hw
          | some y2 =>
            have hne : preP p' 3 * 512 + j ≠ p' := fun e => by unfold setL at hc; rw [if_pos e] at hc; cases hc
            have hc2 : lf (preP p' 3 * 512 + j) = some y2 := by unfold setL at hc; rw [if_neg hne] at hc; exact hc
            have hp2 := h.pr _ _ hc2
            refine ⟨_, y2, hc, ?_⟩
            rw [← h2]
            refine preP_mono (k := 3) (by omega) (by omega) ?_ hp2 hpr
            simp only [preP]; omega
    · exact ⟨p', y, hset p' y g h1, h2⟩
  · rw [List.mem_filter, h.mem, decide_eq_true_eq]
    constructor
    · rintro ⟨⟨k, q, e⟩, hm⟩; exact ⟨k, q, (hcut k q f).2 ⟨e, hm⟩⟩
    · rintro ⟨k, q, e⟩
      obtain ⟨e1, e2⟩ := (hcut k q f).1 e
      exact ⟨⟨k, q, e1⟩, e2⟩
  · rw [List.mem_filter, decide_eq_true_eq] at hf
    exact ⟨h.inG f hf.1, hf.2⟩
end Go.Dn
