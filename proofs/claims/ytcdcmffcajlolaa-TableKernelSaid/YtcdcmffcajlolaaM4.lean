/- What the proof stands on, part 4: Rest, Start, World, SWorld, LawT, Inputs, Inputs2, Flat. -/
import Derived.Test.YtcdcmffcajlolaaM2
import Derived.Test.YtcdcmffcajlolaaM3
import Derived.Deep.Slices
import Derived.Deep.Strs
import Derived.Lib.SmallJoins
/- Tables at rest: each has a page below it; what the calls make of them. -/
namespace Go.Dn

variable {A : AH} {l R : List SP} {r b t i : Nat} {fr n : Int} {hs : List (Int × Int)} {W W' : Int → Int → Int} {F G F' G' : Int → Prop} {ns : List Nd} {nd : Nd} {root : Int} {tab : Tab} {lf : Int → Option Lf} {tl : List Int}
structure Rest (G : Int → Prop) (W : Int → Int → Int) (root : Int) (tab : Tab) (lf : Int → Option Lf) (tl : List Int) : Prop where
  T : TabW W root tab lf
  pr : ∀ p x, lf p = some x → 0 ≤ p ∧ p < 34359738368
  low : ∀ k q f, tab k q = some f → 1 ≤ k → ∃ p x, lf p = some x ∧ preP p k = q
  nd : tl.Nodup
  mem : ∀ f, f ∈ tl ↔ ∃ k q, tab k q = some f
  inG : ∀ f ∈ tl, G f
theorem Rest.tg (h : Rest G W root tab lf tl) {k : Nat} {q f : Int} (e : tab k q = some f) : G f := h.inG f ((h.mem f).2 ⟨k, q, e⟩)
theorem Rest.keep (h : Rest G W root tab lf tl) (hW : ∀ f ∈ tl, W' f = W f) (hG : ∀ f ∈ tl, G' f) : Rest G' W' root tab lf tl :=
  ⟨h.T.congr fun k q f e => hW f ((h.mem f).2 ⟨k, q, e⟩), h.pr, h.low, h.nd, h.mem, hG⟩
theorem nodup_le {α : Type} [DecidableEq α] {l : List α} : ∀ {m : List α}, m.Nodup → (∀ x ∈ m, x ∈ l) → m.length ≤ l.length
  | [], _, _ => Nat.zero_le _
  | x :: m, nd, h => by
    obtain ⟨h1, h2⟩ := List.nodup_cons.1 nd
    have hx := h x List.mem_cons_self
    have := nodup_le (l := l.erase x) h2 fun y hy => (List.mem_erase_of_ne (fun e : y = x => h1 (by rw [← e]; exact hy))).2 (h y (List.mem_cons_of_mem _ hy))
    rw [List.length_erase_of_mem hx] at this
    have : 0 < l.length := List.length_pos_of_mem hx
    simp only [List.length_cons]; omega
theorem preP_mono {a c : Int} {j k : Nat} (hk : k ≤ 4) (hjk : j ≤ k) (h : preP a k = preP c k) (ha : 0 ≤ a ∧ a < 34359738368) (hc : 0 ≤ c ∧ c < 34359738368) : preP a j = preP c j := by
  obtain rfl | rfl | rfl | rfl | rfl : k = 0 ∨ k = 1 ∨ k = 2 ∨ k = 3 ∨ k = 4 := by omega
  all_goals
    obtain rfl | rfl | rfl | rfl | rfl : j = 0 ∨ j = 1 ∨ j = 2 ∨ j = 3 ∨ j = 4 := by omega
  all_goals simp only [preP] at h ⊢
  all_goals omega
/-- How many tables a page still wants. -/
def needT (tab : Tab) (p : Int) : Nat := (if tab 1 (preP p 1) = none then 1 else 0) + (if tab 2 (preP p 2) = none then 1 else 0) + (if tab 3 (preP p 3) = none then 1 else 0)
theorem TabW.upN (h : TabW W root tab lf) {p : Int} (hp : 0 ≤ p ∧ p < 34359738368) {k : Nat} (hk : k < 4) (hn : tab k (preP p k) = none) : tab (k + 1) (preP p (k + 1)) = none := by
  cases e : tab (k + 1) (preP p (k + 1)) with
  | none => rfl
  | some g =>
    obtain ⟨g', h1, _⟩ := h.up _ _ _ e
    obtain ⟨e1, e2, e3, _⟩ := preP_succ hp hk
    rw [show preP p (k + 1) / 512 = preP p k by omega, hn] at h1
    cases h1
theorem DownOK.need (h : TabW W root tab lf) {p : Int} (hp : 0 ≤ p ∧ p < 34359738368) {lst : List Int} (hD : DownOK tab p lst) : needT tab p + lst.length = 4 := by
  have h0 := hD.pos
  have h1 := hD.le
  have some_ : ∀ c, c < lst.length → tab c (preP p c) ≠ none := fun c hc => by rw [hD.is c hc]; simp [hc]
  unfold needT
  obtain hl | hl | hl | hl : lst.length = 1 ∨ lst.length = 2 ∨ lst.length = 3 ∨ lst.length = 4 := by omega
  · have n1 : tab 1 (preP p 1) = none := by have := hD.no (by omega); rw [hl] at this; exact this
    have n2 := h.upN hp (by omega) n1
    have n3 := h.upN hp (by omega) n2
    rw [if_pos n1, if_pos n2, if_pos n3]; omega
  · have n1 := some_ 1 (by omega)
    have n2 : tab 2 (preP p 2) = none := by have := hD.no (by omega); rw [hl] at this; exact this
    have n3 := h.upN hp (by omega) n2
    rw [if_neg n1, if_pos n2, if_pos n3]; omega
  · have n1 := some_ 1 (by omega)
    have n2 := some_ 2 (by omega)
    have n3 : tab 3 (preP p 3) = none := by have := hD.no (by omega); rw [hl] at this; exact this
    rw [if_neg n1, if_neg n2, if_pos n3]; omega
  · have n1 := some_ 1 (by omega)
    have n2 := some_ 2 (by omega)
    have n3 := some_ 3 (by omega)
    rw [if_neg n1, if_neg n2, if_neg n3]; omega
/-- A page more. -/
theorem Rest.map (h : Rest G W root tab lf tl) {p : Int} {x : Lf} {tab' : Tab} {lst tk : List Int} (p0 : 0 ≤ p) (p1 : p < 34359738368) (hl : lf p = none) (hD : DownOK tab p lst) (hlen : lst.length + tk.length = 4) (hnd : tk.Nodup) (htk : ∀ y ∈ tk, ¬G y)
    (hT : TabW W' root tab' (setL lf p (some x))) (hold : ∀ k q f, tab k q = some f → tab' k q = some f) (hnew : ∀ k q f, tab' k q = some f → tab k q = some f ∨ (f ∈ tk ∧ q = preP p k ∧ 1 ≤ k ∧ k ≤ 3)) :
    Rest (fun y => G y ∨ y ∈ tk) W' root tab' (setL lf p (some x)) (tl ++ tk) := by
  have hset : ∀ p' y, lf p' = some y → setL lf p (some x) p' = some y := fun p' y e => by
    unfold setL
    rw [if_neg (fun g => by rw [g, hl] at e; cases e)]; exact e
  have hself : setL lf p (some x) p = some x := by unfold setL; rw [if_pos rfl]
  have hfull : ∀ k, k < 4 → ∃ f, tab' k (preP p k) = some f := fun k hk => by
    have := hT.chain ⟨p0, p1⟩ hself k hk
    cases e : tab' k (preP p k) with
    | none => exact absurd e this
    | some f => exact ⟨f, rfl⟩
  refine ⟨hT, fun p' y e => ?_, fun k q f e hk => ?_, List.nodup_append.2 ⟨h.nd, hnd, fun a ha c hc e => ?_⟩, fun f => ?_, fun f hf => ?_⟩
  · unfold setL at e
    split at e
    · rename_i g; rw [g]; exact ⟨p0, p1⟩
    · exact h.pr p' y e
  · rcases hnew k q f e with e | ⟨_, e, _⟩
    · obtain ⟨p', y, h1, h2⟩ := h.low k q f e hk
      exact ⟨p', y, hset p' y h1, h2⟩
    · exact ⟨p, x, hself, e.symm⟩
  · subst e; exact htk a hc (h.inG a ha)
  · rw [List.mem_append, h.mem]
    constructor
    · rintro (⟨k, q, e⟩ | hf)
      · exact ⟨k, q, hold k q f e⟩
      · -- the new tables are all of them there: as many as places
        have h0 := hD.pos
        have key : ∀ k, k < 4 → lst.length ≤ k → ∃ g, tab' k (preP p k) = some g ∧ g ∈ tk := fun k hk hk2 => by
          obtain ⟨g, hg⟩ := hfull k hk
          refine ⟨g, hg, ?_⟩
          rcases hnew k _ g hg with e | ⟨e, _⟩
          · have : tab k (preP p k) = none := by
              have n0 := hD.no (by omega)
              have : ∀ j, lst.length + j < 5 → tab (lst.length + j) (preP p (lst.length + j)) = none := fun j => by
                induction j with
                | zero => intro _; exact n0
                | succ j ih => intro hj; exact h.T.upN (k := lst.length + j) ⟨p0, p1⟩ (by omega) (ih (by omega))
              have := this (k - lst.length) (by omega)
              rwa [show lst.length + (k - lst.length) = k by omega] at this
            rw [this] at e; cases e
          · exact e
        have hinj : ∀ j k g, tab' j (preP p j) = some g → tab' k (preP p k) = some g → j = k := fun j k g h1 h2 => (hT.apart _ _ _ _ _ h1 h2).1
        -- the list of the path's new tables is as long as tk and within it
        obtain ⟨gs, hgs1, hgs2, hgs3⟩ : ∃ gs : List Int, gs.length = tk.length ∧ gs.Nodup ∧ ∀ g ∈ gs, g ∈ tk ∧ ∃ k q, tab' k q = some g := by
          obtain hl | hl | hl | hl : lst.length = 1 ∨ lst.length = 2 ∨ lst.length = 3 ∨ lst.length = 4 := by omega
          · obtain ⟨g1, a1, b1⟩ := key 1 (by omega) (by omega)
            obtain ⟨g2, a2, b2⟩ := key 2 (by omega) (by omega)
            obtain ⟨g3, a3, b3⟩ := key 3 (by omega) (by omega)
            refine ⟨[g1, g2, g3], by simp; omega, ?_, ?_⟩
            · have n12 : g1 ≠ g2 := fun e => by subst e; have := hinj _ _ _ a1 a2; omega
              have n13 : g1 ≠ g3 := fun e => by subst e; have := hinj _ _ _ a1 a3; omega
              have n23 : g2 ≠ g3 := fun e => by subst e; have := hinj _ _ _ a2 a3; omega
              simp [n12, n13, n23]
            · intro g hg
              simp only [List.mem_cons, List.not_mem_nil, or_false] at hg
              rcases hg with rfl | rfl | rfl
              · exact ⟨b1, _, _, a1⟩
              · exact ⟨b2, _, _, a2⟩
              · exact ⟨b3, _, _, a3⟩
          · obtain ⟨g2, a2, b2⟩ := key 2 (by omega) (by omega)
            obtain ⟨g3, a3, b3⟩ := key 3 (by omega) (by omega)
            refine ⟨[g2, g3], by simp; omega, ?_, ?_⟩
            · have n23 : g2 ≠ g3 := fun e => by subst e; have := hinj _ _ _ a2 a3; omega
              simp [n23]
            · intro g hg
              simp only [List.mem_cons, List.not_mem_nil, or_false] at hg
              rcases hg with rfl | rfl
              · exact ⟨b2, _, _, a2⟩
              · exact ⟨b3, _, _, a3⟩
          · obtain ⟨g3, a3, b3⟩ := key 3 (by omega) (by omega)
            refine ⟨[g3], by simp; omega, by simp, ?_⟩
            intro g hg
            simp only [List.mem_singleton] at hg
            subst hg
            exact ⟨b3, _, _, a3⟩
          · exact ⟨[], by simp; omega, by simp, by simp⟩
        by_cases hm : f ∈ gs
        · exact (hgs3 f hm).2
        · -- then gs is within tk without f: too short
          exfalso
          have hsub : ∀ g ∈ gs, g ∈ tk.erase f := fun g hg => (List.mem_erase_of_ne (fun e : g = f => hm (by rw [← e]; exact hg))).2 (hgs3 g hg).1
          have hle : gs.length ≤ (tk.erase f).length := nodup_le hgs2 hsub
          rw [List.length_erase_of_mem hf] at hle
          have : 0 < tk.length := List.length_pos_of_mem hf
          omega
    · rintro ⟨k, q, e⟩
      rcases hnew k q f e with e | ⟨e, _⟩
      · exact .inl ⟨k, q, e⟩
      · exact .inr e
  · rcases List.mem_append.1 hf with hf | hf
    · exact .inl (h.inG f hf)
    · exact .inr hf
/-- A page otherwise. -/
theorem Rest.prot (h : Rest G W root tab lf tl) {p f : Int} {x y : Lf} (hl : lf p = some x) (ht : tab 3 (p / 512) = some f) (hy : y.frame = x.frame) : Rest G (setW W f (p % 512) (leafW y)) root tab (setL lf p (some y)) tl := by
  have hpr := h.pr p x hl
  refine ⟨h.T.leaf (o := some y) ht hpr.1 fun z e => ?_, fun p' z e => ?_, fun k q g e hk => ?_, h.nd, h.mem, h.inG⟩
  · cases e
    rw [hy]; exact h.T.rangeL _ _ hl
  · unfold setL at e
    split at e
    · rename_i g; rw [g]; exact hpr
    · exact h.pr p' z e
  · obtain ⟨p', z, h1, h2⟩ := h.low k q g e hk
    by_cases g : p' = p
    · subst g; exact ⟨p', y, by unfold setL; rw [if_pos rfl], h2⟩
    · exact ⟨p', z, by unfold setL; rw [if_neg g]; exact h1, h2⟩
/-- A page less. -/
theorem Rest.unmap (h : Rest G W root tab lf tl) {p : Int} {x : Lf} {lst : List Int} {v : Nat} (hl : lf p = some x) (hD : DownOK tab p lst) (hlen : lst.length = 4) (hv : v ≤ 3) (hT : TabW W' root (cutT tab p v) (setL lf p none))
    (hz : v = 0 ∨ ∃ f j, lst[v]? = some f ∧ 0 ≤ j ∧ j < 512 ∧ W' f j ≠ 0) : Rest (fun y => G y ∧ y ∉ gone lst v) W' root (cutT tab p v) (setL lf p none) (tl.filter fun y => decide (y ∉ gone lst v)) := by
  have hpr := h.pr p x hl
  have hset : ∀ p' y, p' ≠ p → lf p' = some y → setL lf p none p' = some y := fun p' y g e => by unfold setL; rw [if_neg g]; exact e
  have hat : ∀ c, c < 4 → ∃ g, lst[c]? = some g ∧ tab c (preP p c) = some g := fun c hc => by
    refine ⟨lst[c], by simp [hlen, hc], ?_⟩
    rw [hD.is c (by omega)]; simp [hlen, hc]
  have hgone : ∀ y, y ∈ gone lst v ↔ ∃ k, v < k ∧ k ≤ 3 ∧ tab k (preP p k) = some y := fun y => by
    unfold gone
    rw [List.mem_iff_getElem?]
    constructor
    · rintro ⟨j, hj⟩
      rw [List.getElem?_drop] at hj
      have hlt := (List.getElem?_eq_some_iff.1 hj).1
      obtain ⟨g, g1, g2⟩ := hat (v + 1 + j) (by omega)
      rw [g1] at hj
      cases hj
      exact ⟨v + 1 + j, by omega, by omega, g2⟩
    · rintro ⟨k, k1, k2, k3⟩
      obtain ⟨g, g1, g2⟩ := hat k (by omega)
      rw [g2] at k3
      cases k3
      exact ⟨k - (v + 1), by rw [List.getElem?_drop, show v + 1 + (k - (v + 1)) = k by omega]; exact g1⟩
  have hcut : ∀ k q f, cutT tab p v k q = some f ↔ tab k q = some f ∧ f ∉ gone lst v := fun k q f => by
    unfold cutT
    constructor
    · intro e
      split at e
      · cases e
      · rename_i g
        refine ⟨e, fun hm => ?_⟩
        obtain ⟨k', k1, k2, k3⟩ := (hgone f).1 hm
        obtain ⟨e1, e2⟩ := h.T.apart _ _ _ _ _ e k3
        exact g ⟨by omega, by rw [e2, e1]⟩
    · rintro ⟨e, hm⟩
      split
      · rename_i g
        exfalso
        have hk3 : k ≤ 3 := by
          rcases Nat.lt_or_ge 3 k with z | z
          · rw [h.T.deep k q z] at e; cases e
          · exact z
        exact hm ((hgone f).2 ⟨k, g.1, hk3, by rw [← g.2]; exact e⟩)
      · exact e
  refine ⟨hT, fun p' y e => ?_, fun k q f e hk => ?_, h.nd.filter _, fun f => ?_, fun f hf => ?_⟩
  · unfold setL at e
    split at e
    · cases e
    · exact h.pr p' y e
  · obtain ⟨e1, e2⟩ := (hcut k q f).1 e
    obtain ⟨p', y, h1, h2⟩ := h.low k q f e1 hk
    by_cases g : p' = p
    · subst g
      have hk3 : k ≤ 3 := by
        rcases Nat.lt_or_ge 3 k with z | z
        · rw [h.T.deep k q z] at e1; cases e1
        · exact z
      have hkv : k ≤ v := by
        rcases Nat.lt_or_ge v k with z | z
        · exact absurd ((hgone f).2 ⟨k, z, hk3, by rw [h2]; exact e1⟩) e2
        · exact z
      rcases hz with hz | ⟨g, j, g1, g2, g3, g4⟩
      · omega
      · obtain ⟨g', g1', ht⟩ := hat v (by omega)
        rw [g1] at g1'
        cases g1'
        have hv0 : 1 ≤ v := by omega
        have htc : cutT tab p' v v (preP p' v) = some g := by unfold cutT; rw [if_neg (by omega)]; exact ht
        obtain ⟨_, _, _, _, hpos⟩ := preP_succ hpr (k := v) (by omega)
        rcases Nat.lt_or_ge v 3 with v3 | v3
        · have hw := fun z => g4 ((hT.word0 v3 htc ⟨g2, g3⟩ (fun e => by omega)).2 z)
          cases hc : cutT tab p' v (v + 1) (preP p' v * 512 + j) with
          | none => exact absurd hc hw
          | some g5 =>
            obtain ⟨c1, c2⟩ := (hcut _ _ _).1 hc
            obtain ⟨p2, y2, d1, d2⟩ := h.low _ _ _ c1 (by omega)
            have hne : p2 ≠ p' := fun e => by
              subst e
              exact c2 ((hgone g5).2 ⟨v + 1, by omega, by omega, by rw [d2]; exact c1⟩)
            have hp2 := h.pr p2 y2 d1
            refine ⟨p2, y2, hset p2 y2 hne d1, ?_⟩
            rw [← h2]
            refine preP_mono (k := v) (by omega) hkv ?_ hp2 hpr
            obtain ⟨s1, s2, s3, _⟩ := preP_succ hp2 (k := v) (by omega)
            omega
        · have v3 : v = 3 := by omega
          subst v3
          have hw := fun z => g4 ((hT.wordL0 htc ⟨g2, g3⟩).2 z)
          cases hc : setL lf p' none (preP p' 3 * 512 + j) with
          | none => exact absurd hc hw
          | some y2 =>
            have hne : preP p' 3 * 512 + j ≠ p' := fun e => by unfold setL at hc; rw [if_pos e] at hc; cases hc
            have hc2 : lf (preP p' 3 * 512 + j) = some y2 := by unfold setL at hc; rw [if_neg hne] at hc; exact hc
            have hp2 := h.pr _ _ hc2
            refine ⟨_, y2, hc, ?_⟩
            rw [← h2]
            refine preP_mono (k := 3) (by omega) (by omega) ?_ hp2 hpr
            simp only [preP]; omega
    · exact ⟨p', y, hset p' y g h1, h2⟩
  · rw [List.mem_filter, h.mem, decide_eq_true_eq]
    constructor
    · rintro ⟨⟨k, q, e⟩, hm⟩; exact ⟨k, q, (hcut k q f).2 ⟨e, hm⟩⟩
    · rintro ⟨k, q, e⟩
      obtain ⟨e1, e2⟩ := (hcut k q f).1 e
      exact ⟨⟨k, q, e1⟩, e2⟩
  · rw [List.mem_filter, decide_eq_true_eq] at hf
    exact ⟨h.inG f hf.1, hf.2⟩
end Go.Dn
/- A purse of a new memory; that the program answers at all. -/
namespace Go.Dn

variable {A : AH} {l R : List SP} {r b t i : Nat} {fr n : Int} {hs : List (Int × Int)} {W W' : Int → Int → Int} {F G F' G' : Int → Prop} {ns : List Nd} {nd : Nd} {root : Int} {tab : Tab} {lf : Int → Option Lf} {tl : List Int}
theorem wordAt_zero (t i : Int) : wordAt (fun _ => 0) t i = 0 := by
  unfold wordAt
  simp [le]
theorem own_any (h : Own l A) : Own ((fun _ => True) :: l) A := ⟨fun _ => none, A, fun _ => .inl rfl, (fun _ _ e => nomatch e), Sub.refl _, trivial, h⟩
theorem sl_nil (h : Own l A) {sz : Nat} : Own (SlAt Sl.nil sz [] :: l) A := (own_any h).imp fun _ _ => ⟨by simp [Sl.nil], by simp [Sl.nil], fun q => absurd rfl q⟩
/-- A memory without holes. -/
theorem ram_spec {Q : Option Addr → Int → AH → Prop} (h : Own l A) (hf : 1 ≤ fr ∧ fr ≤ 1048576) (hk : ∀ r A', Own (RamW r fr [] (fun _ _ => 0) :: l) A' → Q (some ⟨r, 0, none⟩) 0 A') : ram_New_A fr Sl.nil Q A := by
  have hc : newCode fr [] = 0 := by
    unfold newCode
    rw [if_neg (by omega), if_neg (by omega)]; rfl
  refine New_spec (hs := []) (k := 0) (sl_nil h (sz := 2)) rfl (fun g => absurd hc g) fun _ r A1 h1 => hk r A1 ?_
  exact RamW.closeH (M := fun _ => 0) ⟨by simp, by omega, hf.2⟩ (fun t i _ _ _ => (wordAt_zero t i).symm) (h1.cons fun C hC => hC.tail)
theorem purse_spec {fr may : Int} {Q : Option Addr → Option Addr → Option Addr → Int → Bool → AH → Prop} (h : Own l A) (hf : 2 ≤ fr ∧ fr ≤ 1048576) (hm : 0 ≤ may ∧ may ≤ 1048576)
    (hk : ∀ r b t A', Own (RamW r fr [] (fun _ _ => 0) :: Bud b (fun x => 1 ≤ x ∧ x < fr) (fun _ => False) (fr - 1) :: TreeS t [⟨-1, may, 0, 0, true⟩] :: l) A' → Q (some ⟨r, 0, none⟩) (some ⟨b, 0, none⟩) (some ⟨t, 0, none⟩) 0 true A') :
    demesnelaw09_Purse_A fr may Q A := by
  unfold demesnelaw09_Purse_A demesnelaw09_Purse_G
  refine ram_spec h ⟨by omega, hf.2⟩ fun r A1 h1 => new_C (cs := [.int .i64 1, .int .i64 fr]) h1 fun b4 A2 h2 => ?_
  have h2 : Own (SlAt ⟨some ⟨b4, 0, none⟩, 1, 1⟩ 2 (rangeCells [(1, fr)]) :: RamW r fr [] (fun _ _ => 0) :: l) A2 := h2.imp fun B hB => (at_slo (k := 1) (sz := 2) rfl hB).look
  have hok : okR 0 [(1, fr)] = true := by simp [okR]; omega
  refine bNew_spec (k := 0) (rs := [(1, fr)]) h2 rfl reads_slat (fun g => by simp at g) (fun _ g => by rw [hok] at g; cases g) fun _ _ b A3 h3 => ?_
  refine qNew_spec h3 (fun g => by omega) fun _ t A4 h4 => ?_
  refine bsel_t rfl (bsel_t rfl (bsel_t rfl (bsel_t rfl (bsel_t rfl (hk r b t A4 ?_)))))
  have h4 : Own (RamW r fr [] (fun _ _ => 0) :: TreeS t [⟨-1, may, 0, 0, true⟩] :: Bud b (inR [(1, fr)]) (fun _ => False) (sizeR [(1, fr)]) :: SlAt ⟨some ⟨b4, 0, none⟩, 1, 1⟩ 2 (rangeCells [(1, fr)]) :: l) A4 := h4.pick 3 rfl
  refine h4.cons fun C hC => ?_
  refine Bud.congr (fun x => ?_) (fun x => Iff.rfl) (by simp [sizeR]) (hC.swap.cons fun D hD => hD.cons fun D2 hD2 => hD2.tail)
  simp [inR]
end Go.Dn
/- The calls on tables at rest, with what they cost. -/
namespace Go.Dn

variable {A : AH} {l R : List SP} {r b t i : Nat} {fr n N u : Int} {hs : List (Int × Int)} {W W' : Int → Int → Int} {F G F' G' : Int → Prop} {ns : List Nd} {nd : Nd} {root : Int} {tab : Tab} {lf : Int → Option Lf} {tl : List Int}
theorem bud_apart (h : Own (Bud b F G n :: R) A) : (∀ x, F x → ¬G x) ∧ 0 ≤ n := by
  obtain ⟨mb, g, st, gl, h1, h2, _, _⟩ := Bud.openH h
  exact ⟨fun x hx hg => (h2.apart x hg).1 hx, h1.nonneg⟩
theorem filter_two {α : Type} (p : α → Bool) : ∀ l : List α, (l.filter p).length + (l.filter fun y => !p y).length = l.length
  | [] => rfl
  | x :: r => by
    have := filter_two p r
    cases h : p x <;> simp [h] <;> omega
theorem RMap_spec {p fm : Int} {pw pu px : Bool} {Q : Int → AH → Prop} (h : Own (RamW r fr hs W :: Bud b F G n :: TreeS t ns :: R) A) (hi : ns[i]? = some nd) (hlv : nd.live = true) (hF : ∀ x, F x → hasF fr hs x = true) (hG : ∀ x, G x → hasF fr hs x = true)
    (hR : Rest G W root tab lf tl)
    (h1 : p < 0 ∨ p ≥ 34359738368 ∨ fm < 0 ∨ fm ≥ 1048576 → Q 1 A)
    (h6 : 0 ≤ p → p < 34359738368 → 0 ≤ fm → fm < 1048576 → lf p ≠ none → ∀ A', Own (RamW r fr hs W :: Bud b F G n :: TreeS t ns :: R) A' → Q 6 A')
    (hbad : 0 ≤ p → p < 34359738368 → 0 ≤ fm → fm < 1048576 → lf p = none → ∀ e W' A', (e = 8 ∧ nd.quo - nd.use - nd.lent < needT tab p ∧ nd.quo - nd.use - nd.lent ≤ n ∨ e = 7 ∧ n < needT tab p ∧ n < nd.quo - nd.use - nd.lent) →
      (∀ f, ¬F f → W' f = W f) → Rest G W' root tab lf tl → Own (RamW r fr hs W' :: Bud b F G n :: TreeS t ns :: R) A' → Q e A')
    (hk : 0 ≤ p → p < 34359738368 → 0 ≤ fm → fm < 1048576 → lf p = none → ∀ tk W' tab' A', tk.length = needT tab p → (tk.length : Int) ≤ nd.quo - nd.use - nd.lent → (tk.length : Int) ≤ n → (∀ x ∈ tk, F x) →
      Rest (fun x => G x ∨ x ∈ tk) W' root tab' (setL lf p (some ⟨fm, pw, pu, px⟩)) (tl ++ tk) → (∀ f, f ∉ tk → f ∉ tl → W' f = W f) →
      Own (RamW r fr hs W' :: Bud b (fun x => F x ∧ x ∉ tk) (fun x => G x ∨ x ∈ tk) (n - tk.length) :: TreeS t (useN ns i nd (nd.use + tk.length)) :: R) A' → Q 0 A') :
    table_Map_A (some ⟨r, 0, none⟩) (some ⟨b, 0, none⟩) (some ⟨t, 0, none⟩) i root p fm pw pu px Q A := by
  have hFG := (bud_apart h.swap).1
  refine Map_spec h hi hlv hF hG hR.T (fun k q f e => hR.tg e) h1 h6 (fun p0 p1 f0 f1 hl lst e W' A' hD he hW hA => ?_) fun p0 p1 f0 f1 hl lst tk W' tab' A' hD hlen q1 q2 hnd htk hT hold hnew hW hA => ?_
  · have hn := hD.need hR.T ⟨p0, p1⟩
    refine hbad p0 p1 f0 f1 hl e W' A' ?_ hW (hR.keep (fun f hf => hW f fun g => hFG f g (hR.inG f hf)) hR.inG) hA
    rcases he with ⟨e1, e2, e3⟩ | ⟨e1, e2, e3⟩
    · exact .inl ⟨e1, by omega, e3⟩
    · exact .inr ⟨e1, by omega, e3⟩
  · have hn := hD.need hR.T ⟨p0, p1⟩
    exact hk p0 p1 f0 f1 hl tk W' tab' A' (by omega) q1 q2 htk (hR.map p0 p1 hl hD hlen hnd (fun y hy => hFG y (htk y hy)) hT hold hnew) (fun f g1 g2 => hW f g1 fun k q e => g2 ((hR.mem f).2 ⟨k, q, e⟩)) hA
/-- What is given back when a page goes. -/
theorem Rest.gone_len (h : Rest G W root tab lf tl) {p : Int} {x : Lf} {lst : List Int} {v : Nat} (hl : lf p = some x) (hD : DownOK tab p lst) (hlen : lst.length = 4) (hv : v ≤ 3) : (tl.filter fun y => decide (y ∉ gone lst v)).length + (gone lst v).length = tl.length := by
  have hpr := h.pr p x hl
  have hat : ∀ c, c < 4 → ∃ g, lst[c]? = some g ∧ tab c (preP p c) = some g := fun c hc => by
    refine ⟨lst[c], by simp [hlen, hc], ?_⟩
    rw [hD.is c (by omega)]; simp [hlen, hc]
  have hnd : lst.Nodup := by
    unfold List.Nodup
    rw [List.pairwise_iff_getElem]
    intro u v hu' hv huv e
    obtain ⟨g, g1, g2⟩ := hat u (by omega)
    obtain ⟨g', g1', g2'⟩ := hat v (by omega)
    rw [List.getElem?_eq_getElem hu'] at g1
    rw [List.getElem?_eq_getElem hv] at g1'
    have g1 := Option.some.inj g1
    have g1' := Option.some.inj g1'
    have e : g = g' := by rw [← g1, ← g1', e]
    subst e
    have := (h.T.apart _ _ _ _ _ g2 g2').1
    omega
  have hsub : ∀ y ∈ gone lst v, y ∈ tl := fun y hy => by
    have hy : y ∈ lst := List.mem_of_mem_drop hy
    obtain ⟨c, hc⟩ := List.mem_iff_getElem?.1 hy
    obtain ⟨g, g1, g2⟩ := hat c (by have := (List.getElem?_eq_some_iff.1 hc).1; omega)
    rw [hc] at g1
    cases g1
    exact (h.mem y).2 ⟨_, _, g2⟩
  have hgn : (gone lst v).Nodup := hnd.sublist (List.drop_sublist _ _)
  have e1 : (tl.filter fun y => decide (y ∈ gone lst v)).length = (gone lst v).length := by
    refine Nat.le_antisymm (nodup_le (h.nd.filter _) fun y hy => ?_) (nodup_le hgn fun y hy => ?_)
    · simpa using (List.mem_filter.1 hy).2
    · exact List.mem_filter.2 ⟨hsub y hy, by simpa using hy⟩
  have e2 := filter_two (fun y => decide (y ∈ gone lst v)) tl
  have e3 : (tl.filter fun y => !decide (y ∈ gone lst v)) = tl.filter fun y => decide (y ∉ gone lst v) := List.filter_congr fun y _ => by simp
  rw [e3] at e2
  omega
theorem RUnmap_spec {p : Int} {Q : Int → Int → AH → Prop} (h : Own (RamW r fr hs W :: Bud b F G n :: TreeS t ns :: R) A) (hi : ns[i]? = some nd) (hlv : nd.live = true) (hu : tl.length ≤ nd.use) (hG : ∀ x, G x → hasF fr hs x = true)
    (hR : Rest G W root tab lf tl)
    (hn : lf p = none → ∀ A', Own (RamW r fr hs W :: Bud b F G n :: TreeS t ns :: R) A' → Q 0 5 A')
    (hk : ∀ (x : Lf) (gl : List Int) W' tab' (tl' : List Int) A', lf p = some x → (∀ y ∈ gl, G y) → (∀ y ∈ gl, y ∈ tl) → tl'.length + gl.length = tl.length → (∀ y, y ∈ tl' ↔ y ∈ tl ∧ y ∉ gl) → Rest (fun y => G y ∧ y ∉ gl) W' root tab' (setL lf p none) tl' → (∀ f, f ∉ tl → W' f = W f) →
      Own (RamW r fr hs W' :: Bud b (fun x => F x ∨ x ∈ gl) (fun x => G x ∧ x ∉ gl) (n + gl.length) :: TreeS t (useN ns i nd (nd.use - gl.length)) :: R) A' → Q x.frame 0 A') :
    table_Unmap_A (some ⟨r, 0, none⟩) (some ⟨b, 0, none⟩) (some ⟨t, 0, none⟩) i root p Q A := by
  refine Unmap_spec h hi hlv ?_ hG hR.T (fun k q f e => hR.tg e) (fun c A' hA => hn ?_ A' hA) fun x lst v W' A' p0 p1 hx hD hlen hv hT hz hW hA => ?_
  · by_cases e : ∀ p, lf p = none
    · exact .inr e
    · left
      obtain ⟨p', hp'⟩ := Classical.not_forall.1 e
      obtain ⟨x, hx⟩ : ∃ x, lf p' = some x := by
        cases e2 : lf p' with
        | none => exact absurd e2 hp'
        | some x => exact ⟨x, rfl⟩
      have hpr := hR.pr p' x hx
      have hc := hR.T.chain hpr hx
      have ex : ∀ k, k < 4 → ∃ g, tab k (preP p' k) = some g := fun k hk => by
        cases e : tab k (preP p' k) with
        | none => exact absurd e (hc k hk)
        | some g => exact ⟨g, rfl⟩
      obtain ⟨g1, a1⟩ := ex 1 (by omega)
      obtain ⟨g2, a2⟩ := ex 2 (by omega)
      obtain ⟨g3, a3⟩ := ex 3 (by omega)
      have hinj : ∀ j k g, tab j (preP p' j) = some g → tab k (preP p' k) = some g → j = k := fun j k g h1 h2 => (hR.T.apart _ _ _ _ _ h1 h2).1
      have n12 : g1 ≠ g2 := fun e => by subst e; have := hinj _ _ _ a1 a2; omega
      have n13 : g1 ≠ g3 := fun e => by subst e; have := hinj _ _ _ a1 a3; omega
      have n23 : g2 ≠ g3 := fun e => by subst e; have := hinj _ _ _ a2 a3; omega
      have hm : ∀ {k q g}, tab k q = some g → g ∈ tl := fun e => (hR.mem _).2 ⟨_, _, e⟩
      have : [g1, g2, g3].length ≤ tl.length := nodup_le (by simp [n12, n13, n23]) fun y hy => by
        simp only [List.mem_cons, List.not_mem_nil, or_false] at hy
        rcases hy with rfl | rfl | rfl
        · exact hm a1
        · exact hm a2
        · exact hm a3
      simp only [List.length_cons, List.length_nil] at this
      omega
  · rcases c with c | c | c
    · cases e : lf p with
      | none => rfl
      | some x => have := hR.pr p x e; omega
    · cases e : lf p with
      | none => rfl
      | some x => have := hR.pr p x e; omega
    · exact c
  · have hun := hR.unmap hx hD hlen hv hT hz
    have hgl := hR.gone_len hx hD hlen hv
    have hat : ∀ y ∈ lst, y ∈ tl := fun y hy => by
      obtain ⟨c, hc⟩ := List.mem_iff_getElem?.1 hy
      have hlt := (List.getElem?_eq_some_iff.1 hc).1
      exact (hR.mem y).2 ⟨c, _, by rw [hD.is c hlt]; exact hc⟩
    refine hk x (gone lst v) W' _ _ A' hx (fun y hy => hR.inG y (hat y (List.mem_of_mem_drop hy))) (fun y hy => hat y (List.mem_of_mem_drop hy)) hgl (fun y => by rw [List.mem_filter, decide_eq_true_eq]) hun (fun f hf => hW f fun g => hf (hat f g)) hA
theorem RQuery_spec {p bx : Int} {pb pt : Option Addr} {Q : Int → Bool → Bool → Bool → Bool → AH → Prop} (h : Own (RamW r fr hs W :: R) A) (hG : ∀ x, G x → hasF fr hs x = true) (hR : Rest G W root tab lf tl)
    (hn : lf p = none → ∀ A', Own (RamW r fr hs W :: R) A' → Q 0 false false false false A')
    (hk : ∀ x, lf p = some x → ∀ A', Own (RamW r fr hs W :: R) A' → Q x.frame x.w x.u x.x true A') : table_Query_A (some ⟨r, 0, none⟩) pb pt bx root p Q A := by
  refine Query_spec h hR.T (fun k q f e => hG f (hR.tg e)) (fun c A' hA => hn ?_ A' hA) fun x _ _ hx A' hA => hk x hx A' hA
  rcases c with c | c | c
  · cases e : lf p with
    | none => rfl
    | some x => have := hR.pr p x e; omega
  · cases e : lf p with
    | none => rfl
    | some x => have := hR.pr p x e; omega
  · exact c
theorem RProtect_spec {p bx : Int} {pb pt : Option Addr} {pw pu px : Bool} {Q : Int → AH → Prop} (h : Own (RamW r fr hs W :: R) A) (hG : ∀ x, G x → hasF fr hs x = true) (hR : Rest G W root tab lf tl)
    (hn : lf p = none → ∀ A', Own (RamW r fr hs W :: R) A' → Q 5 A')
    (hk : ∀ x, lf p = some x → ∀ W' A', Rest G W' root tab (setL lf p (some ⟨x.frame, pw, pu, px⟩)) tl → (∀ f, f ∉ tl → W' f = W f) → Own (RamW r fr hs W' :: R) A' → Q 0 A') :
    table_Protect_A (some ⟨r, 0, none⟩) pb pt bx root p pw pu px Q A := by
  refine Protect_spec h hR.T (fun k q f e => hG f (hR.tg e)) (fun c A' hA => hn ?_ A' hA) fun x f p0 p1 hx ht A' hA => ?_
  · rcases c with c | c | c
    · cases e : lf p with
      | none => rfl
      | some x => have := hR.pr p x e; omega
    · cases e : lf p with
      | none => rfl
      | some x => have := hR.pr p x e; omega
    · exact c
  · refine hk x hx _ A' (hR.prot hx ht rfl) (fun g hg => setW_ne fun e => hg (by rw [e]; exact (hR.mem f).2 ⟨_, _, ht⟩)) hA
theorem RPages_spec {bx : Int} {pb pt : Option Addr} {Q : Sl → AH → Prop} (h : Own (RamW r fr hs W :: R) A) (hG : ∀ x, G x → hasF fr hs x = true) (hR : Rest G W root tab lf tl)
    (hk : ∀ s ps A', s.len = ps.length → (s.a = none → ps = []) → ps.Pairwise (· < ·) → (∀ p, p ∈ ps ↔ lf p ≠ none) → Own (RamW r fr hs W :: SlO s 1 (intsV ps) :: R) A' → Q s A') : table_Pages_A (some ⟨r, 0, none⟩) pb pt bx root Q A := by
  refine Pages_spec h hR.T (fun k q f e => hG f (hR.tg e)) fun s ps A' h1 h2 h3 h4 hA => hk s ps A' h1 h2 h3 (fun p => ?_) hA
  rw [h4]
  constructor
  · exact fun z => z.1
  · intro z
    obtain ⟨x, hx⟩ : ∃ x, lf p = some x := by
      cases e2 : lf p with
      | none => exact absurd e2 z
      | some x => exact ⟨x, rfl⟩
    exact ⟨z, hR.pr p x hx⟩
/-- The root goes. -/
theorem RDrop_spec {Q : Int → AH → Prop} (h : Own (RamW r fr hs W :: Bud b F G n :: TreeS t ns :: R) A) (hi : ns[i]? = some nd) (hlv : nd.live = true) (hu : 1 ≤ nd.use) (hG : ∀ x, G x → hasF fr hs x = true) (hR : Rest G W root tab lf tl)
    (hb : (∃ p, lf p ≠ none) → ∀ A', Own (RamW r fr hs W :: Bud b F G n :: TreeS t ns :: R) A' → Q 11 A')
    (hk : (∀ p, lf p = none) → ∀ A', Own (RamW r fr hs W :: Bud b (fun x => F x ∨ x = root) (fun x => G x ∧ x ≠ root) (n + 1) :: TreeS t (useN ns i nd (nd.use - 1)) :: R) A' → Q 0 A') :
    table_Drop_A (some ⟨r, 0, none⟩) (some ⟨b, 0, none⟩) (some ⟨t, 0, none⟩) i root Q A := by
  have hroot : G root := hR.tg ((hR.T.root 0 root).2 ⟨rfl, rfl⟩)
  unfold table_Drop_A table_Drop_G
  refine RPages_spec h hG hR fun s ps A1 h1 _ _ h4 hA => ?_
  have hA : Own (RamW r fr hs W :: Bud b F G n :: TreeS t ns :: R) A1 := hA.sub (List.Sublist.cons_cons _ (List.sublist_cons_self _ _))
  refine bsel_in (fun c => hb ?_ A1 hA) fun c => ?_
  · have c : 0 < ps.length := by simp [h1] at c; omega
    obtain ⟨p, hp⟩ := List.exists_mem_of_length_pos c
    exact ⟨p, (h4 p).1 hp⟩
  · have c : ps = [] := by
      have : ps.length = 0 := by
        have c := of_decide_eq_false c
        rw [h1] at c
        have e : Int.ofNat ps.length = (ps.length : Int) := rfl
        omega
      exact List.length_eq_zero_iff.1 this
    refine pGive_spec hA hi hlv hroot hu fun A2 h2 => hk (fun p => ?_) A2 h2
    cases e : lf p with
    | none => rfl
    | some x => have := (h4 p).2 (by rw [e]; simp); rw [c] at this; simp at this
end Go.Dn
/- The laws' world: one container that may have all frames. -/
namespace Go.Dn

variable {A : AH} {l R : List SP} {r b t : Nat} {N u : Int} {W W' : Int → Int → Int} {F G F' G' : Int → Prop} {root : Int} {tab : Tab} {lf : Int → Option Lf} {tl : List Int}
structure StdP (N : Int) (F G : Int → Prop) : Prop where
  inF : ∀ x, F x → hasF N [] x = true
  inG : ∀ x, G x → hasF N [] x = true
def StdO (N : Int) (r b t : Nat) (F G : Int → Prop) (W : Int → Int → Int) (u : Int) (R : List SP) : List SP := RamW r N [] W :: Bud b F G (N - 1 - u) :: TreeS t [⟨-1, N, u, 0, true⟩] :: R
theorem has0 {N x : Int} : hasF N [] x = true ↔ 0 ≤ x ∧ x < N := by simp [hasF]
theorem sPurse {Q : Option Addr → Option Addr → Option Addr → Int → Bool → AH → Prop} (h : Own R A) (hN : 4 ≤ N ∧ N ≤ 262144)
    (hk : ∀ r b t A', StdP N (fun x => 1 ≤ x ∧ x < N) (fun _ => False) → Own (StdO N r b t (fun x => 1 ≤ x ∧ x < N) (fun _ => False) (fun _ _ => 0) 0 R) A' → Q (some ⟨r, 0, none⟩) (some ⟨b, 0, none⟩) (some ⟨t, 0, none⟩) 0 true A') : demesnelaw09_Purse_A N N Q A := by
  refine purse_spec h ⟨by omega, by omega⟩ ⟨by omega, by omega⟩ fun r b t A' hA => hk r b t A' ⟨fun x hx => has0.2 ⟨by omega, hx.2⟩, fun x hx => hx.elim⟩ ?_
  unfold StdO
  rw [show N - 1 - 0 = N - 1 by omega]
  exact hA
theorem sKernel {Q : Int → Int → AH → Prop} (h : Own (StdO N r b t F G W 0 R) A) (hp : StdP N F G) (hN : 4 ≤ N ∧ N ≤ 262144)
    (hk : ∀ top mid A' W', F top → F mid → KOK N W top [mid] W' → StdP N (fun x => F x ∧ x ∉ [top, mid]) (fun x => G x ∨ x ∈ [top, mid]) → Own (StdO N r b t (fun x => F x ∧ x ∉ [top, mid]) (fun x => G x ∨ x ∈ [top, mid]) W' 2 R) A' → Q top 0 A') :
    table_Kernel_A (some ⟨r, 0, none⟩) (some ⟨b, 0, none⟩) (some ⟨t, 0, none⟩) 0 Q A := by
  have hn : needK N = 1 := by unfold needK; omega
  refine Kernel_spec (i := 0) h rfl rfl hp.inF (by omega) (fun e W' A' he _ _ => by
    simp only [hn] at he; omega) fun _ _ top ms W' A' hlen hms hK hA => ?_
  rw [hn] at hlen
  obtain ⟨mid, rfl⟩ := List.length_eq_one_iff.1 hlen
  refine hk top mid A' W' (hms _ (by simp)) (hms _ (by simp)) hK ⟨fun x hx => hp.inF x hx.1, fun x hx => ?_⟩ ?_
  · rcases hx with hx | hx
    · exact hp.inG x hx
    · exact hp.inF x (hms x hx)
  · have hA : Own (RamW r N [] W' :: Bud b (fun x => F x ∧ x ∉ [top, mid]) (fun x => G x ∨ x ∈ [top, mid]) (N - 1 - 0 - 2) :: TreeS t [⟨-1, N, 0 + 2, 0, true⟩] :: R) A' := hA
    rw [show N - 1 - 0 - 2 = N - 1 - 2 by omega, show (0 : Int) + 2 = 2 by omega] at hA
    exact hA
theorem sRoot {kern : Int} {Q : Int → Int → AH → Prop} (h : Own (StdO N r b t F G W u R) A) (hp : StdP N F G) (hu : 0 ≤ u ∧ u + 2 ≤ N) (hN : N ≤ 1048576) (hkn : 0 ≤ kern ∧ kern < 1048576)
    (hk : ∀ root A' W', F root → StdP N (fun x => F x ∧ x ∉ [root]) (fun x => G x ∨ x ∈ [root]) → Rest (fun x => G x ∨ x ∈ [root]) W' root (tab0 root) (fun _ => none) [root] → (∀ f, f ≠ root → W' f = W f) → W' root 256 = kEnt kern →
      Own (StdO N r b t (fun x => F x ∧ x ∉ [root]) (fun x => G x ∨ x ∈ [root]) W' (u + 1) R) A' → Q root 0 A') :
    table_Root_A (some ⟨r, 0, none⟩) (some ⟨b, 0, none⟩) (some ⟨t, 0, none⟩) 0 kern Q A := by
  refine Root_spec (i := 0) (tk := []) (taken_nil rfl h) rfl rfl hp.inF hkn (fun g => ?_) (fun _ g => ?_) fun _ _ root A' hf _ hA => ?_
  · simp at g; omega
  · simp at g; omega
  have hrng := has0.1 (hp.inF root hf)
  have hW : ∀ f, f ≠ root → setW (zeroW W root) root 256 (kEnt kern) f = W f := fun f hne => by rw [setW_ne hne, zeroW_ne hne]
  have hz : ∀ j, 0 ≤ j → j < 256 → setW (zeroW W root) root 256 (kEnt kern) root j = 0 := fun j j0 j1 => by
    unfold setW zeroW
    rw [if_neg (by omega), if_pos rfl]
  have key : ∀ k q f, tab0 root k q = some f ↔ (k = 0 ∧ q = 0) ∧ f = root := fun k q f => by
    unfold tab0
    split
    · rename_i e; simp [e]; exact eq_comm
    · rename_i e; simp [e]
  refine hk root A' _ hf ⟨fun x hx => hp.inF x hx.1, fun x hx => ?_⟩ ⟨TabW.init hz ⟨hrng.1, by omega⟩, fun p x e => (by cases e), fun k q f e hk1 => ?_, (by simp), fun f => ?_, fun f hf2 => .inr hf2⟩ hW ?_ ?_
  · rcases hx with hx | hx
    · exact hp.inG x hx
    · simp only [List.mem_singleton] at hx; subst hx; exact hp.inF _ hf
  · have := ((key k q f).1 e).1; omega
  · rw [List.mem_singleton]
    constructor
    · intro e; exact ⟨0, 0, (key 0 0 f).2 ⟨⟨rfl, rfl⟩, e⟩⟩
    · rintro ⟨k, q, e⟩; exact ((key k q f).1 e).2
  · unfold setW; rw [if_pos ⟨rfl, rfl⟩]
  · have hA : Own (RamW r N [] (setW (zeroW W root) root 256 (kEnt kern)) :: Bud b (fun x => F x ∧ x ∉ [root]) (fun x => G x ∨ x ∈ [root]) (N - 1 - u - 1) :: TreeS t [⟨-1, N, u + 1, 0, true⟩] :: R) A' := hA
    rw [show N - 1 - u - 1 = N - 1 - (u + 1) by omega] at hA
    exact hA
theorem sMap {p fm : Int} {pw pu px : Bool} {Q : Int → AH → Prop} (h : Own (StdO N r b t F G W u R) A) (hp : StdP N F G) (hu : 0 ≤ u ∧ u + 4 ≤ N) (hR : Rest G W root tab lf tl)
    (h1 : p < 0 ∨ p ≥ 34359738368 ∨ fm < 0 ∨ fm ≥ 1048576 → Q 1 A)
    (h6 : 0 ≤ p → p < 34359738368 → 0 ≤ fm → fm < 1048576 → lf p ≠ none → ∀ A', Own (StdO N r b t F G W u R) A' → Q 6 A')
    (hk : 0 ≤ p → p < 34359738368 → 0 ≤ fm → fm < 1048576 → lf p = none → ∀ tk W' tab' A', tk.length = needT tab p → (∀ x ∈ tk, F x) → StdP N (fun x => F x ∧ x ∉ tk) (fun x => G x ∨ x ∈ tk) →
      Rest (fun x => G x ∨ x ∈ tk) W' root tab' (setL lf p (some ⟨fm, pw, pu, px⟩)) (tl ++ tk) → (∀ f, f ∉ tk → f ∉ tl → W' f = W f) → Own (StdO N r b t (fun x => F x ∧ x ∉ tk) (fun x => G x ∨ x ∈ tk) W' (u + tk.length) R) A' → Q 0 A') :
    table_Map_A (some ⟨r, 0, none⟩) (some ⟨b, 0, none⟩) (some ⟨t, 0, none⟩) 0 root p fm pw pu px Q A := by
  have hneed : needT tab p ≤ 3 := by unfold needT; split <;> split <;> split <;> omega
  refine RMap_spec (i := 0) h rfl rfl hp.inF hp.inG hR h1 h6 (fun _ _ _ _ _ e W' A' he _ _ _ => ?_) fun p0 p1 f0 f1 hl tk W' tab' A' hlen _ _ htk hR' hW hA => ?_
  · simp only at he; omega
  refine hk p0 p1 f0 f1 hl tk W' tab' A' hlen htk ⟨fun x hx => hp.inF x hx.1, fun x hx => ?_⟩ hR' hW ?_
  · rcases hx with hx | hx
    · exact hp.inG x hx
    · exact hp.inF x (htk x hx)
  · have hA : Own (RamW r N [] W' :: Bud b (fun x => F x ∧ x ∉ tk) (fun x => G x ∨ x ∈ tk) (N - 1 - u - tk.length) :: TreeS t [⟨-1, N, u + tk.length, 0, true⟩] :: R) A' := hA
    rw [show N - 1 - u - (tk.length : Int) = N - 1 - (u + tk.length) by omega] at hA
    exact hA
theorem sUnmap {p : Int} {Q : Int → Int → AH → Prop} (h : Own (StdO N r b t F G W u R) A) (hp : StdP N F G) (hu : tl.length ≤ u) (hR : Rest G W root tab lf tl)
    (hn : lf p = none → ∀ A', Own (StdO N r b t F G W u R) A' → Q 0 5 A')
    (hk : ∀ (x : Lf) (gl : List Int) W' tab' (tl' : List Int) A', lf p = some x → (∀ y ∈ gl, y ∈ tl) → tl'.length + gl.length = tl.length → (∀ y, y ∈ tl' ↔ y ∈ tl ∧ y ∉ gl) → StdP N (fun x => F x ∨ x ∈ gl) (fun x => G x ∧ x ∉ gl) →
      Rest (fun y => G y ∧ y ∉ gl) W' root tab' (setL lf p none) tl' → (∀ f, f ∉ tl → W' f = W f) → Own (StdO N r b t (fun x => F x ∨ x ∈ gl) (fun x => G x ∧ x ∉ gl) W' (u - gl.length) R) A' → Q x.frame 0 A') :
    table_Unmap_A (some ⟨r, 0, none⟩) (some ⟨b, 0, none⟩) (some ⟨t, 0, none⟩) 0 root p Q A := by
  refine RUnmap_spec (i := 0) h rfl rfl hu hp.inG hR hn fun x gl W' tab' tl' A' hx hg ht hlen hmem hR' hW hA => ?_
  refine hk x gl W' tab' tl' A' hx ht hlen hmem ⟨fun x hx => ?_, fun x hx => hp.inG x hx.1⟩ hR' hW ?_
  · rcases hx with hx | hx
    · exact hp.inF x hx
    · exact hp.inG x (hg x hx)
  · have hA : Own (RamW r N [] W' :: Bud b (fun x => F x ∨ x ∈ gl) (fun x => G x ∧ x ∉ gl) (N - 1 - u + gl.length) :: TreeS t [⟨-1, N, u - gl.length, 0, true⟩] :: R) A' := hA
    rw [show N - 1 - u + (gl.length : Int) = N - 1 - (u - gl.length) by omega] at hA
    exact hA
theorem sUsed {x y : Option Addr} {Q : Int → AH → Prop} (h : Own (StdO N r b t F G W u R) A) (hk : Q u A) : demesnelaw09_Used_A x y (some ⟨t, 0, none⟩) 0 Q A := by
  have h : Own (TreeS t [⟨-1, N, u, 0, true⟩] :: RamW r N [] W :: Bud b F G (N - 1 - u) :: R) A := Own.rot3 h
  exact Used_head (i := 0) h rfl rfl hk
theorem sFree {Q : Int → AH → Prop} (h : Own (StdO N r b t F G W u R) A) (hk : Q (N - 1 - u) A) : buddy_Buddy_Free_A (some ⟨b, 0, none⟩) Q A := Free_head (Own.swap h) hk
theorem awake_spec {Q : Bool → AH → Prop} (h : Own R A) (hk : ∀ A', Own R A' → Q true A') : demesnelaw09_awake_A Q A := by
  unfold demesnelaw09_awake_A demesnelaw09_awake_G
  refine sPurse (N := 20) h ⟨by omega, by omega⟩ fun r b t A1 hp1 h1 => bsel_f rfl ?_
  refine sKernel h1 hp1 ⟨by omega, by omega⟩ fun top mid A2 W2 ht hm hK hp2 h2 => ?_
  have hrt := has0.1 (hp1.inF top ht)
  refine sRoot h2 hp2 ⟨by omega, by omega⟩ (by omega) ⟨hrt.1, by omega⟩ fun root A3 W3 hr hp3 hR hW hW2 h3 => bsel_f rfl (bsel_f rfl ?_)
  refine sUsed h3 (bsel_f rfl ?_)
  have h3 := h3
  refine sMap h3 hp3 ⟨by omega, by omega⟩ hR (fun g => by omega) (fun _ _ _ _ g => absurd rfl g) fun _ _ _ _ _ tk W4 tab' A4 hlen _ hp4 hR4 _ h4 => bsel_f rfl ?_
  have hl3 : tk.length = 3 := by
    rw [hlen]
    unfold needT tab0
    simp
  refine sUsed h4 (bsel_f (by rw [hl3]; rfl) ?_)
  refine RQuery_spec h4 hp4.inG hR4 (fun g => ?_) fun x hx A5 h5 => ?_
  · unfold setL at g; rw [if_pos rfl] at g; cases g
  · unfold setL at hx
    rw [if_pos rfl] at hx
    cases hx
    exact bsel_t rfl (bsel_t rfl (hk A5 (Own.tail (Own.tail (Own.tail h5)))))
end Go.Dn
/- What the laws on tables read: the calls that are handed in. -/
namespace Go.Dn

variable {A : AH} {l R : List SP} {r b t : Nat} {N u : Int} {W W' : Int → Int → Int} {F G F' G' : Int → Prop} {root : Int} {tab : Tab} {lf : Int → Option Lf} {tl : List Int} {P : SP}
structure ActZ where
  kind : Int
  page : Int
  frame : Int
  w : Bool
  u : Bool
  x : Bool
def actCell (a : ActZ) : List Value := [.int .i64 a.kind, .int .i64 a.page, .int .i64 a.frame, .bool a.w, .bool a.u, .bool a.x]
def actCells (l : List ActZ) : List Value := l.flatMap actCell
theorem actCells_at : ∀ {l : List ActZ} {v : Nat} {a : ActZ} {c : Nat} {x : Value}, l[v]? = some a → (actCell a)[c]? = some x → (actCells l)[v * 6 + c]? = some x
  | [], v, a, c, x, h, _ => by simp at h
  | b :: r, 0, a, c, x, h, hc => by
    simp at h; subst h
    have hlt : c < 6 := (List.getElem?_eq_some_iff.1 hc).1
    unfold actCells
    rw [List.flatMap_cons, List.getElem?_append_left (by simp [actCell]; omega), Nat.zero_mul, Nat.zero_add]
    exact hc
  | b :: r, v + 1, a, c, x, h, hc => by
    have h : r[v]? = some a := by simpa using h
    unfold actCells
    rw [List.flatMap_cons, List.getElem?_append_right (by simp [actCell]; omega)]
    have : (v + 1) * 6 + c - (actCell b).length = v * 6 + c := by simp [actCell]; omega
    rw [this]
    exact actCells_at h hc
/-- A call that is handed in, read. -/
theorem rd_act {k : Nat} {s : Sl} {acts : List ActZ} {v : Nat} (h : Own l A) (e : l[k]? = some P) (hr : Reads P s 6 (actCells acts)) (hv : v < acts.length) :
    ∃ a bb o, acts[v]? = some a ∧ s.a = some ⟨bb, o, none⟩ ∧ cellA A ⟨bb, o + (v * 6 + 0), none⟩ = some (.int .i64 a.kind) ∧ cellA A ⟨bb, o + (v * 6 + 1), none⟩ = some (.int .i64 a.page) ∧ cellA A ⟨bb, o + (v * 6 + 2), none⟩ = some (.int .i64 a.frame) ∧
      cellA A ⟨bb, o + (v * 6 + 3), none⟩ = some (.bool a.w) ∧ cellA A ⟨bb, o + (v * 6 + 4), none⟩ = some (.bool a.u) ∧ cellA A ⟨bb, o + (v * 6 + 5), none⟩ = some (.bool a.x) := by
  obtain ⟨a, ha⟩ : ∃ a, acts[v]? = some a := ⟨acts[v], by simp [hv]⟩
  have rd := fun c x hx => rd_cell h e hr (j := v * 6 + c) (v := x) (actCells_at ha (c := c) hx)
  obtain ⟨bb, o, q1, c0⟩ := rd 0 _ rfl
  have same : ∀ {c : Nat} {x : Value}, (actCell a)[c]? = some x → cellA A ⟨bb, o + (v * 6 + c), none⟩ = some x := fun {c x} hx => by
    obtain ⟨b2, o2, q2, c2⟩ := rd c x hx
    rw [q1] at q2
    cases q2
    exact c2
  exact ⟨a, bb, o, ha, q1, c0, same rfl, same rfl, same rfl, same rfl, same rfl⟩
theorem rd_acts_len {k : Nat} {s : Sl} {acts : List ActZ} (h : Own l A) (e : l[k]? = some P) (hr : Reads P s 6 (actCells acts)) : s.len = acts.length := by
  have := rd_len h e hr
  have e2 : ∀ l : List ActZ, (actCells l).length = l.length * 6 := by
    intro l
    induction l with
    | nil => rfl
    | cons a r ih => unfold actCells at *; rw [List.flatMap_cons, List.length_append, ih]; simp [actCell]; omega
  rw [e2] at this
  omega
/-- The kernel's tables cost one frame and one for each 2^18 frames. -/
theorem TableKernel_spec {frames may : Int} {Q : Bool → AH → Prop} (h : Own R A) (hk : ∀ A', Own R A' → Q true A') (hb : -9223372036854775808 ≤ frames ∧ frames < 9223372036854775808) : demesnelaw09_TableKernel_A frames may Q A := by
  unfold demesnelaw09_TableKernel_A demesnelaw09_TableKernel_G
  refine ⟨fun h' => h' = A ∧ 20 ≤ frames ∧ frames ≤ 600000 ∧ 0 ≤ may ∧ may ≤ 1000, ?_, bsel_in (fun _ => awake_spec h hk) fun c1 => bsel_in (fun _ => awake_spec h hk) fun c2 => bsel_in (fun _ => awake_spec h hk) fun c3 => bsel_in (fun _ => awake_spec h hk) fun c4 => ⟨rfl, by simp at c1; omega, by simp at c2; omega, by simp at c3; omega, by simp at c4; omega⟩⟩
  intro A0 ⟨e0, f0, f1, m0, m1⟩
  subst e0
  refine ram_spec h ⟨by omega, by omega⟩ fun r A1 h1 => new_C (cs := [.int .i64 1, .int .i64 20]) h1 fun b4 A2 h2 => ?_
  have h2 : Own (SlAt ⟨some ⟨b4, 0, none⟩, 1, 1⟩ 2 (rangeCells [(1, 20)]) :: RamW r frames [] (fun _ _ => 0) :: R) A2 := h2.imp fun B hB => (at_slo (k := 1) (sz := 2) rfl hB).look
  refine bNew_spec (k := 0) (rs := [(1, 20)]) h2 rfl reads_slat (fun g => by simp at g) (fun _ g => by simp [okR] at g) fun _ _ b A3 h3 => ?_
  refine qNew_spec h3 (fun g => by omega) fun _ t A4 h4 => ?_
  have h4 : Own (RamW r frames [] (fun _ _ => 0) :: TreeS t [⟨-1, may, 0, 0, true⟩] :: Bud b (inR [(1, 20)]) (fun _ => False) (sizeR [(1, 20)]) :: SlAt ⟨some ⟨b4, 0, none⟩, 1, 1⟩ 2 (rangeCells [(1, 20)]) :: R) A4 := h4.pick 3 rfl
  have h4 : Own (RamW r frames [] (fun _ _ => 0) :: Bud b (inR [(1, 20)]) (fun _ => False) 19 :: TreeS t [⟨-1, may, 0, 0, true⟩] :: R) A4 := h4.cons fun C hC => hC.swap.cons fun D hD => hD.cons fun D2 hD2 => hD2.tail
  have hin : ∀ x, inR [(1, 20)] x → 1 ≤ x ∧ x < 20 := fun x hx => by simpa [inR] using hx
  have hne : ((needK frames : Nat) : Int) = (frames + 262143) / 262144 := by unfold needK; omega
  have hneed : IntKind.wrap .i64 (1 + Int.fdiv (IntKind.wrap .i64 (IntKind.wrap .i64 (frames + 262144) - 1)) (2 ^ (18 : Nat))) = 1 + (needK frames : Int) := by
    rw [w64 (n := frames + 262144) (by omega) (by omega), w64 (n := frames + 262144 - 1) (by omega) (by omega), shr_eq, hne, show ((2 : Int) ^ (18 : Nat)) = 262144 by rfl, w64 (by omega) (by omega)]
    omega
  have hn3 : (needK frames : Int) ≤ 3 := by omega
  refine ⟨fun h' => h' = A4, ?_, bsel_f rfl (bsel_f rfl (bsel_f rfl (bsel_f rfl (bsel_f rfl (bsel_f rfl rfl)))))⟩
  intro A5 e5
  subst e5
  rw [hneed]
  refine Kernel_spec (i := 0) h4 rfl rfl (fun x hx => has0.2 ?_) (by omega) (fun e W' A6 he _ hA => ?_) fun q1 q2 top ms W' A6 hlen hms _ hA => ?_
  · have := hin x hx; omega
  · simp only at he
    have he8 : e = 8 := by omega
    subst he8
    refine bsel_t (by simp; omega) ?_
    refine awake_spec hA fun A7 h7 => bsel_t rfl (bsel_t rfl ?_)
    refine Used_head (i := 0) (Own.rot3 h7) rfl rfl (bsel_t rfl (Free_head h7.swap ?_))
    exact hk A7 h7.tail.tail.tail
  · simp only at q1
    refine bsel_f (by simp; omega) ?_
    refine awake_spec hA fun A7 h7 => bsel_t rfl (bsel_t rfl ?_)
    have h7 : Own (RamW r frames [] W' :: Bud b (fun x => inR [(1, 20)] x ∧ x ∉ top :: ms) (fun x => False ∨ x ∈ top :: ms) (19 - (top :: ms).length) :: TreeS t [⟨-1, may, 0 + (top :: ms).length, 0, true⟩] :: R) A7 := h7
    have hl2 : ((top :: ms).length : Int) = 1 + needK frames := by simp [hlen]; omega
    refine Used_head (i := 0) (Own.rot3 h7) rfl rfl (bsel_t (by rw [hl2]; simp) (Free_head h7.swap ?_))
    rw [hl2, w64 (n := 19 - (1 + (needK frames : Int))) (by omega) (by omega)]
    have := hk A7 h7.tail.tail.tail
    simpa using this
end Go.Dn
/- What a row's slices read as, in the heap as it was. -/
namespace Go.Dn
open Go.Deep Go.Joins Go.ChangeShapes Go.WideShapes Go.ChangeAt Go.RowKit

theorem reads_was {h : Hp} {a : Addr} {len cap sz : Nat} {cs : List Value} (hl : len * sz = cs.length) (hc : ∀ j v, cs[j]? = some v → cellH h (a.add j) = some v) : Reads (Was h) ⟨some a, len, cap⟩ sz cs := by
  intro B A hB u
  refine ⟨hl, fun j v hv => ?_⟩
  have hj := (List.getElem?_eq_some_iff.1 hv).1
  have h0 := hc 0 cs[0] (by simp [show 0 < cs.length by omega])
  have hs : a.spot = none := by
    have h1 : a.add 0 = a := by simp [Addr.add]
    rw [h1] at h0
    unfold cellH at h0
    split at h0
    · cases hsp : a.spot with
      | none => rfl
      | some _ => rw [hsp] at h0; simp at h0
    · cases h0
  obtain ⟨b, o, sp⟩ := a
  simp only at hs
  subst hs
  refine ⟨b, o, rfl, ?_⟩
  have h2 := hc j v hv
  rw [add_at] at h2
  unfold cellH at h2
  unfold cellA
  split at h2
  · rename_i c t f hb
    rw [u _ _ (hB _ _ hb)]
    exact h2
  · cases h2
theorem reads_nil {h : Hp} {sz : Nat} : Reads (Was h) Sl.nil sz [] := fun _ _ _ _ => ⟨by simp [Sl.nil], fun j v hv => by simp at hv⟩

end Go.Dn
/- What a row's slices of anything read as, in the heap as it was. -/
namespace Go.Dn
open Go.Deep Go.Joins Go.ChangeShapes Go.WideShapes Go.ChangeAt Go.RowKit

theorem flat_len {α : Type} (f : α → List Value) (sz : Nat) (hl : ∀ x, (f x).length = sz) : ∀ l : List α, (l.flatMap f).length = l.length * sz
  | [] => by simp
  | x :: l => by rw [List.flatMap_cons, List.length_append, hl, flat_len f sz hl l, List.length_cons, Nat.succ_mul]; omega
theorem flat_at {α : Type} (f : α → List Value) (sz : Nat) (hl : ∀ x, (f x).length = sz) : ∀ (l : List α) (j : Nat) (x : α) (k : Nat), l[j]? = some x → k < sz → (l.flatMap f)[j * sz + k]? = (f x)[k]?
  | [], _, _, _, h, _ => by simp at h
  | y :: l, 0, x, k, h, hk => by
    simp at h; subst h
    rw [List.flatMap_cons, Nat.zero_mul, Nat.zero_add, List.getElem?_append_left (by rw [hl]; exact hk)]
  | y :: l, j + 1, x, k, h, hk => by
    rw [List.flatMap_cons, List.getElem?_append_right (by rw [hl, Nat.succ_mul]; omega), hl, show (j + 1) * sz + k - sz = j * sz + k by rw [Nat.succ_mul]; omega]
    exact flat_at f sz hl l j x k (by simpa using h) hk
section
variable {H : Type} {enc : TypeId × Value → H} {P : Program} {w : World} {base : Nat} {spare : Nat → Bool} {held : Bool}
theorem open_elems {α : Type} [Inhabited α] (f : α → List Value) (q : α → Prop) (sz : Nat) (hsz : 0 < sz) (hl : ∀ x, (f x).length = sz) {r : Reach} {b0 : Nat} {t e : TypeId} {v : Value} {d : DataW H} {ps : List MemPlace} (ht : P.underlying t = some (.slice e)) (hC : P.cellsOf e = sz)
    (ho : ∀ n cs y, DataW.trod enc P w base spare held n e cs = some y → ∃ x, cs = f x ∧ q x) (hw : Value.okWide P w r b0 t v) (h : DataW.Trod enc P w base spare held t v d ps) :
    ∃ (s : Sl) (l : List α), v = .slice s.a s.len s.cap ∧ Reads (Was w.heap) s sz (l.flatMap f) ∧ (∀ x ∈ l, q x) ∧ l.length < 9223372036854775808 := by
  obtain ⟨n, h⟩ := h
  obtain ⟨a0, l0, c0, rfl⟩ := okWide_slice ht hw
  rcases open_slice ht h with ⟨hv, _⟩ | ⟨a, len, cap, m, k, D, Pl, hv, _, hlc, hcm, hm, _, hx⟩
  · have hv : ([Value.slice a0 l0 c0] : List Value) = [.slice none 0 0] := hv
    have hv : Value.slice a0 l0 c0 = .slice none 0 0 := by injection hv
    exact ⟨Sl.nil, [], hv, reads_nil, fun p hp => by simp at hp, by simp⟩
  · have hv : ([Value.slice a0 l0 c0] : List Value) = [.slice (some a) len cap] := hv
    have hv : Value.slice a0 l0 c0 = .slice (some a) len cap := by injection hv
    have hlm : len ≤ m := by rw [hm]; split <;> omega
    obtain ⟨F, hF⟩ := choose_lt (α := α) (n := len) (p := fun i p => w.cells? base (a.add (i * sz)) sz = some (f p) ∧ q p) (fun i hi => by
      obtain ⟨cs', k1, k2⟩ := hx i (by omega)
      rw [hC] at k1
      obtain ⟨p, rfl, hp⟩ := ho _ _ _ k2
      exact ⟨p, k1, hp⟩)
    refine ⟨⟨some a, len, cap⟩, (List.range len).map F, hv, reads_was ?_ ?_, ?_, ?_⟩
    · rw [flat_len f sz hl]; simp
    · intro j v hj
      have hjl := (List.getElem?_eq_some_iff.1 hj).1
      rw [flat_len f sz hl] at hjl
      simp only [List.length_map, List.length_range] at hjl
      have hdiv : j / sz < len := Nat.div_lt_of_lt_mul (by rw [Nat.mul_comm]; exact hjl)
      have hmod : j % sz < sz := Nat.mod_lt _ hsz
      have hj2 : j / sz * sz + j % sz = j := by rw [Nat.mul_comm]; exact Nat.div_add_mod j sz
      have hq : ((List.range len).map F)[j / sz]? = some (F (j / sz)) := by rw [List.getElem?_map, List.getElem?_range hdiv]; rfl
      have ha := flat_at f sz hl _ _ _ _ hq hmod
      rw [hj2, hj] at ha
      obtain ⟨k1, _⟩ := hF (j / sz) hdiv
      obtain ⟨_, _, k2⟩ := World.cells?_some k1
      have k3 := k2 (j % sz) hmod
      have hadd : ∀ (x y : Nat), (a.add x).add y = a.add (x + y) := by
        intro x y
        unfold Addr.add
        split <;> split <;> simp_all <;> omega
      rw [hadd, hj2] at k3
      exact k3.trans ha.symm
    · intro p hp
      simp only [List.mem_map, List.mem_range] at hp
      obtain ⟨i, hi, rfl⟩ := hp
      exact (hF i hi).2
    · simp
      have hcm2 := hcm
      unfold maxLen at hcm2
      omega
end
end Go.Dn
/- What cells a plain argument has: whole numbers and bools, in structs and rows of any depth. -/
namespace Go.Dn
open Go.Deep Go.Joins Go.ChangeShapes Go.WideShapes Go.ChangeAt Go.RowKit

inductive FK where
  | i (k : IntKind)
  | b
def FK.ok : FK → Value → Prop
  | .i k, v => ∃ n, v = .int k n ∧ (Lit.int k n).wf = true
  | .b, v => ∃ x, v = .bool x
def AllOK : List FK → List Value → Prop
  | [], [] => True
  | k :: ks, v :: vs => k.ok v ∧ AllOK ks vs
  | _, _ => False
theorem AllOK.len : ∀ {ks : List FK} {vs : List Value}, AllOK ks vs → ks.length = vs.length
  | [], [], _ => rfl
  | _ :: _, _ :: _, h => by simp [AllOK.len h.2]
  | [], _ :: _, h => h.elim
  | _ :: _, [], h => h.elim
theorem AllOK.app : ∀ {k1 k2 : List FK} {v1 v2 : List Value}, AllOK k1 v1 → AllOK k2 v2 → AllOK (k1 ++ k2) (v1 ++ v2)
  | [], _, [], _, _, h2 => h2
  | _ :: _, _, _ :: _, _, h1, h2 => ⟨h1.1, AllOK.app h1.2 h2⟩
  | [], _, _ :: _, _, h, _ => h.elim
  | _ :: _, _, [], _, h, _ => h.elim
/-- Fields that stand one behind the other. -/
def fieldsK (F : TypeId → Option (List FK)) : Nat → List Field → Option (List FK)
  | _, [] => some []
  | off, f :: fs => match F f.type with
    | some ks => if f.offset = off then (fieldsK F (off + ks.length) fs).map (ks ++ ·) else none
    | none => none
def flatK (P : Program) : Nat → TypeId → Option (List FK)
  | 0, _ => none
  | n + 1, t => match P.underlying t with
    | some .bool => some [.b]
    | some (.int k) => some [.i k]
    | some (.struct fs) => match fieldsK (fun t => match flatK P n t with | some ks => if P.cellsOf t = ks.length then some ks else none | none => none) 0 fs.toList with
      | some ks => if P.cellsOf t = ks.length then some ks else none
      | none => none
    | some (.array m e) => match flatK P n e with
      | some ks => if P.cellsOf e = ks.length ∧ P.cellsOf t = m * ks.length then some ((List.replicate m ks).flatten) else none
      | none => none
    | _ => none
section
variable {H : Type} {enc : TypeId × Value → H} {P : Program} {w : World} {base : Nat} {spare : Nat → Bool} {held : Bool}
theorem fields_flat {F : TypeId → Option (List FK)} {fuel : Nat} (hF : ∀ t ks cs y, F t = some ks → DataW.trod enc P w base spare held fuel t cs = some y → AllOK ks cs) (hC : ∀ t ks, F t = some ks → P.cellsOf t = ks.length) :
    ∀ (fs : List Field) (off : Nat) (ks : List FK) (cs : List Value) (xs : List (DataW H × List MemPlace)), fieldsK F off fs = some ks → (fs.mapM fun f => DataW.trod enc P w base spare held fuel f.type ((cs.drop f.offset).take (P.cellsOf f.type))) = some xs → AllOK ks ((cs.drop off).take ks.length)
  | [], off, ks, cs, xs, h, _ => by
    simp [fieldsK] at h; subst h; exact True.intro
  | f :: fs, off, ks, cs, xs, h, hm => by
    simp only [fieldsK] at h
    split at h
    · rename_i k0 hk
      split at h
      · rename_i ho
        obtain ⟨k1, h1, rfl⟩ := Option.map_eq_some_iff.1 h
        rw [List.mapM_cons] at hm
        cases hy : DataW.trod enc P w base spare held fuel f.type ((cs.drop f.offset).take (P.cellsOf f.type)) with
        | none => rw [hy] at hm; cases hm
        | some y =>
          rw [hy] at hm
          cases hr : (fs.mapM fun f => DataW.trod enc P w base spare held fuel f.type ((cs.drop f.offset).take (P.cellsOf f.type))) with
          | none => rw [hr] at hm; cases hm
          | some ys =>
            have a1 := hF _ _ _ _ hk hy
            have a2 := fields_flat hF hC fs _ _ _ _ h1 hr
            rw [hC _ _ hk, ho] at a1
            have := a1.app a2
            have e : (cs.drop off).take (k0 ++ k1).length = (cs.drop off).take k0.length ++ (cs.drop (off + k0.length)).take k1.length := by
              rw [List.length_append, List.take_add, List.drop_drop]
            show AllOK (k0 ++ k1) _
            rw [e]; exact this
      · cases h
    · cases h
theorem rows_flat {fuel : Nat} {e : TypeId} {ks : List FK} (hF : ∀ cs y, DataW.trod enc P w base spare held fuel e cs = some y → AllOK ks cs) : ∀ (m : Nat) (cs : List Value) (xs : List (DataW H × List MemPlace)) (l : List Nat) (o : Nat), l = (List.range m).map (o + ·) →
    (l.mapM fun i => DataW.trod enc P w base spare held fuel e ((cs.drop (i * ks.length)).take ks.length)) = some xs → AllOK ((List.replicate m ks).flatten) ((cs.drop (o * ks.length)).take (m * ks.length))
  | 0, cs, xs, l, o, _, _ => by simp [AllOK]
  | m + 1, cs, xs, l, o, hl, h => by
    rw [List.range_succ_eq_map, List.map_cons, List.map_map] at hl
    subst hl
    rw [List.mapM_cons] at h
    cases hy : DataW.trod enc P w base spare held fuel e ((cs.drop ((o + 0) * ks.length)).take ks.length) with
    | none => rw [hy] at h; cases h
    | some y =>
      rw [hy] at h
      cases hr : ((List.range m).map ((o + ·) ∘ Nat.succ)).mapM (fun i => DataW.trod enc P w base spare held fuel e ((cs.drop (i * ks.length)).take ks.length)) with
      | none => rw [hr] at h; cases h
      | some ys =>
        have a1 := hF _ _ hy
        have a2 := rows_flat hF m cs ys _ (o + 1) (by apply List.map_congr_left; intro i _; simp [Function.comp]; omega) hr
        have := a1.app a2
        rw [List.replicate_succ, List.flatten_cons]
        have e : (cs.drop (o * ks.length)).take ((m + 1) * ks.length) = (cs.drop ((o + 0) * ks.length)).take ks.length ++ (cs.drop ((o + 1) * ks.length)).take (m * ks.length) := by
          rw [Nat.succ_mul, Nat.add_comm, List.take_add, List.drop_drop, Nat.add_zero, Nat.succ_mul]
        rw [e]; exact this
theorem flat_ok : ∀ (n : Nat) (t : TypeId) (ks : List FK) (fuel : Nat) (cs : List Value) (y : DataW H × List MemPlace), flatK P n t = some ks → DataW.trod enc P w base spare held fuel t cs = some y → AllOK ks cs
  | 0, _, _, _, _, _, h, _ => by simp [flatK] at h
  | n + 1, t, ks, 0, cs, y, h, ht => by simp [DataW.trod] at ht
  | n + 1, t, ks, fuel + 1, cs, y, h, ht => by
    rw [flatK] at h
    rw [DataW.trod.eq_def] at ht
    simp only at ht
    split at h
    · rename_i hu
      rw [hu] at ht
      cases h
      split at ht <;> first | (rename_i q; cases q) | skip
      all_goals first | (cases ht; done) | skip
      all_goals first | exact ⟨⟨_, rfl⟩, True.intro⟩ | skip
      all_goals (simp_all)
    · rename_i k hu
      rw [hu] at ht
      cases h
      split at ht <;> first | (rename_i q; cases q) | skip
      all_goals first | (cases ht; done) | skip
      all_goals first
        | (split at ht
           · rename_i q; exact ⟨⟨_, by rw [q.1], q.2⟩, True.intro⟩
           · cases ht)
        | skip
      all_goals (simp_all)
    · rename_i fs hu
      rw [hu] at ht
      split at h
      · rename_i k0 hk
        split at h
        · rename_i hc
          cases h
          simp only at ht
          split at ht
          · rename_i hl
            obtain ⟨xs, hm, _⟩ := Option.map_eq_some_iff.1 ht
            have := fields_flat (F := fun t => match flatK P n t with | some ks => if P.cellsOf t = ks.length then some ks else none | none => none) (fuel := fuel) (fun t ks cs y h1 h2 => by
              split at h1
              · rename_i q
                split at h1
                · cases h1; exact flat_ok n _ _ _ _ _ q h2
                · cases h1
              · cases h1) (fun t ks h1 => by
              split at h1
              · rename_i q
                split at h1
                · rename_i q2; cases h1; exact q2
                · cases h1
              · cases h1) _ _ _ _ _ hk hm
            rw [List.drop_zero, ← hc, ← hl, List.take_length] at this
            exact this
          · cases ht
        · cases h
      · cases h
    · rename_i m e hu
      rw [hu] at ht
      split at h
      · rename_i k0 hk
        split at h
        · rename_i hc
          cases h
          simp only at ht
          split at ht
          · rename_i hl
            obtain ⟨xs, hm, _⟩ := Option.map_eq_some_iff.1 ht
            rw [hc.1] at hm
            have := rows_flat (ks := k0) (fun cs y h2 => flat_ok n _ _ _ _ _ hk h2) m cs xs _ 0 (by simp) hm
            rw [Nat.zero_mul, List.drop_zero, ← hc.2, ← hl, List.take_length] at this
            exact this
          · cases ht
        · cases h
      · cases h
    · cases h
end
theorem allOK_1 {k0 : FK} {cs : List Value} (h : AllOK [k0] cs) : ∃ v0, ∃ _ : k0.ok v0, cs = [v0] := by
  match cs, h with
  | [v0], h => exact ⟨v0, h.1, rfl⟩
theorem allOK_2 {k0 k1 : FK} {cs : List Value} (h : AllOK [k0, k1] cs) : ∃ v0, ∃ _ : k0.ok v0, ∃ v1, ∃ _ : k1.ok v1, cs = [v0, v1] := by
  match cs, h with
  | [v0, v1], h => exact ⟨v0, h.1, v1, h.2.1, rfl⟩
theorem allOK_3 {k0 k1 k2 : FK} {cs : List Value} (h : AllOK [k0, k1, k2] cs) : ∃ v0, ∃ _ : k0.ok v0, ∃ v1, ∃ _ : k1.ok v1, ∃ v2, ∃ _ : k2.ok v2, cs = [v0, v1, v2] := by
  match cs, h with
  | [v0, v1, v2], h => exact ⟨v0, h.1, v1, h.2.1, v2, h.2.2.1, rfl⟩
theorem allOK_4 {k0 k1 k2 k3 : FK} {cs : List Value} (h : AllOK [k0, k1, k2, k3] cs) : ∃ v0, ∃ _ : k0.ok v0, ∃ v1, ∃ _ : k1.ok v1, ∃ v2, ∃ _ : k2.ok v2, ∃ v3, ∃ _ : k3.ok v3, cs = [v0, v1, v2, v3] := by
  match cs, h with
  | [v0, v1, v2, v3], h => exact ⟨v0, h.1, v1, h.2.1, v2, h.2.2.1, v3, h.2.2.2.1, rfl⟩
theorem allOK_5 {k0 k1 k2 k3 k4 : FK} {cs : List Value} (h : AllOK [k0, k1, k2, k3, k4] cs) : ∃ v0, ∃ _ : k0.ok v0, ∃ v1, ∃ _ : k1.ok v1, ∃ v2, ∃ _ : k2.ok v2, ∃ v3, ∃ _ : k3.ok v3, ∃ v4, ∃ _ : k4.ok v4, cs = [v0, v1, v2, v3, v4] := by
  match cs, h with
  | [v0, v1, v2, v3, v4], h => exact ⟨v0, h.1, v1, h.2.1, v2, h.2.2.1, v3, h.2.2.2.1, v4, h.2.2.2.2.1, rfl⟩
theorem allOK_6 {k0 k1 k2 k3 k4 k5 : FK} {cs : List Value} (h : AllOK [k0, k1, k2, k3, k4, k5] cs) : ∃ v0, ∃ _ : k0.ok v0, ∃ v1, ∃ _ : k1.ok v1, ∃ v2, ∃ _ : k2.ok v2, ∃ v3, ∃ _ : k3.ok v3, ∃ v4, ∃ _ : k4.ok v4, ∃ v5, ∃ _ : k5.ok v5, cs = [v0, v1, v2, v3, v4, v5] := by
  match cs, h with
  | [v0, v1, v2, v3, v4, v5], h => exact ⟨v0, h.1, v1, h.2.1, v2, h.2.2.1, v3, h.2.2.2.1, v4, h.2.2.2.2.1, v5, h.2.2.2.2.2.1, rfl⟩
theorem allOK_7 {k0 k1 k2 k3 k4 k5 k6 : FK} {cs : List Value} (h : AllOK [k0, k1, k2, k3, k4, k5, k6] cs) : ∃ v0, ∃ _ : k0.ok v0, ∃ v1, ∃ _ : k1.ok v1, ∃ v2, ∃ _ : k2.ok v2, ∃ v3, ∃ _ : k3.ok v3, ∃ v4, ∃ _ : k4.ok v4, ∃ v5, ∃ _ : k5.ok v5, ∃ v6, ∃ _ : k6.ok v6, cs = [v0, v1, v2, v3, v4, v5, v6] := by
  match cs, h with
  | [v0, v1, v2, v3, v4, v5, v6], h => exact ⟨v0, h.1, v1, h.2.1, v2, h.2.2.1, v3, h.2.2.2.1, v4, h.2.2.2.2.1, v5, h.2.2.2.2.2.1, v6, h.2.2.2.2.2.2.1, rfl⟩
theorem allOK_8 {k0 k1 k2 k3 k4 k5 k6 k7 : FK} {cs : List Value} (h : AllOK [k0, k1, k2, k3, k4, k5, k6, k7] cs) : ∃ v0, ∃ _ : k0.ok v0, ∃ v1, ∃ _ : k1.ok v1, ∃ v2, ∃ _ : k2.ok v2, ∃ v3, ∃ _ : k3.ok v3, ∃ v4, ∃ _ : k4.ok v4, ∃ v5, ∃ _ : k5.ok v5, ∃ v6, ∃ _ : k6.ok v6, ∃ v7, ∃ _ : k7.ok v7, cs = [v0, v1, v2, v3, v4, v5, v6, v7] := by
  match cs, h with
  | [v0, v1, v2, v3, v4, v5, v6, v7], h => exact ⟨v0, h.1, v1, h.2.1, v2, h.2.2.1, v3, h.2.2.2.1, v4, h.2.2.2.2.1, v5, h.2.2.2.2.2.1, v6, h.2.2.2.2.2.2.1, v7, h.2.2.2.2.2.2.2.1, rfl⟩
theorem allOK_9 {k0 k1 k2 k3 k4 k5 k6 k7 k8 : FK} {cs : List Value} (h : AllOK [k0, k1, k2, k3, k4, k5, k6, k7, k8] cs) : ∃ v0, ∃ _ : k0.ok v0, ∃ v1, ∃ _ : k1.ok v1, ∃ v2, ∃ _ : k2.ok v2, ∃ v3, ∃ _ : k3.ok v3, ∃ v4, ∃ _ : k4.ok v4, ∃ v5, ∃ _ : k5.ok v5, ∃ v6, ∃ _ : k6.ok v6, ∃ v7, ∃ _ : k7.ok v7, ∃ v8, ∃ _ : k8.ok v8, cs = [v0, v1, v2, v3, v4, v5, v6, v7, v8] := by
  match cs, h with
  | [v0, v1, v2, v3, v4, v5, v6, v7, v8], h => exact ⟨v0, h.1, v1, h.2.1, v2, h.2.2.1, v3, h.2.2.2.1, v4, h.2.2.2.2.1, v5, h.2.2.2.2.2.1, v6, h.2.2.2.2.2.2.1, v7, h.2.2.2.2.2.2.2.1, v8, h.2.2.2.2.2.2.2.2.1, rfl⟩
theorem allOK_10 {k0 k1 k2 k3 k4 k5 k6 k7 k8 k9 : FK} {cs : List Value} (h : AllOK [k0, k1, k2, k3, k4, k5, k6, k7, k8, k9] cs) : ∃ v0, ∃ _ : k0.ok v0, ∃ v1, ∃ _ : k1.ok v1, ∃ v2, ∃ _ : k2.ok v2, ∃ v3, ∃ _ : k3.ok v3, ∃ v4, ∃ _ : k4.ok v4, ∃ v5, ∃ _ : k5.ok v5, ∃ v6, ∃ _ : k6.ok v6, ∃ v7, ∃ _ : k7.ok v7, ∃ v8, ∃ _ : k8.ok v8, ∃ v9, ∃ _ : k9.ok v9, cs = [v0, v1, v2, v3, v4, v5, v6, v7, v8, v9] := by
  match cs, h with
  | [v0, v1, v2, v3, v4, v5, v6, v7, v8, v9], h => exact ⟨v0, h.1, v1, h.2.1, v2, h.2.2.1, v3, h.2.2.2.1, v4, h.2.2.2.2.1, v5, h.2.2.2.2.2.1, v6, h.2.2.2.2.2.2.1, v7, h.2.2.2.2.2.2.2.1, v8, h.2.2.2.2.2.2.2.2.1, v9, h.2.2.2.2.2.2.2.2.2.1, rfl⟩
theorem allOK_11 {k0 k1 k2 k3 k4 k5 k6 k7 k8 k9 k10 : FK} {cs : List Value} (h : AllOK [k0, k1, k2, k3, k4, k5, k6, k7, k8, k9, k10] cs) : ∃ v0, ∃ _ : k0.ok v0, ∃ v1, ∃ _ : k1.ok v1, ∃ v2, ∃ _ : k2.ok v2, ∃ v3, ∃ _ : k3.ok v3, ∃ v4, ∃ _ : k4.ok v4, ∃ v5, ∃ _ : k5.ok v5, ∃ v6, ∃ _ : k6.ok v6, ∃ v7, ∃ _ : k7.ok v7, ∃ v8, ∃ _ : k8.ok v8, ∃ v9, ∃ _ : k9.ok v9, ∃ v10, ∃ _ : k10.ok v10, cs = [v0, v1, v2, v3, v4, v5, v6, v7, v8, v9, v10] := by
  match cs, h with
  | [v0, v1, v2, v3, v4, v5, v6, v7, v8, v9, v10], h => exact ⟨v0, h.1, v1, h.2.1, v2, h.2.2.1, v3, h.2.2.2.1, v4, h.2.2.2.2.1, v5, h.2.2.2.2.2.1, v6, h.2.2.2.2.2.2.1, v7, h.2.2.2.2.2.2.2.1, v8, h.2.2.2.2.2.2.2.2.1, v9, h.2.2.2.2.2.2.2.2.2.1, v10, h.2.2.2.2.2.2.2.2.2.2.1, rfl⟩
theorem allOK_12 {k0 k1 k2 k3 k4 k5 k6 k7 k8 k9 k10 k11 : FK} {cs : List Value} (h : AllOK [k0, k1, k2, k3, k4, k5, k6, k7, k8, k9, k10, k11] cs) : ∃ v0, ∃ _ : k0.ok v0, ∃ v1, ∃ _ : k1.ok v1, ∃ v2, ∃ _ : k2.ok v2, ∃ v3, ∃ _ : k3.ok v3, ∃ v4, ∃ _ : k4.ok v4, ∃ v5, ∃ _ : k5.ok v5, ∃ v6, ∃ _ : k6.ok v6, ∃ v7, ∃ _ : k7.ok v7, ∃ v8, ∃ _ : k8.ok v8, ∃ v9, ∃ _ : k9.ok v9, ∃ v10, ∃ _ : k10.ok v10, ∃ v11, ∃ _ : k11.ok v11, cs = [v0, v1, v2, v3, v4, v5, v6, v7, v8, v9, v10, v11] := by
  match cs, h with
  | [v0, v1, v2, v3, v4, v5, v6, v7, v8, v9, v10, v11], h => exact ⟨v0, h.1, v1, h.2.1, v2, h.2.2.1, v3, h.2.2.2.1, v4, h.2.2.2.2.1, v5, h.2.2.2.2.2.1, v6, h.2.2.2.2.2.2.1, v7, h.2.2.2.2.2.2.2.1, v8, h.2.2.2.2.2.2.2.2.1, v9, h.2.2.2.2.2.2.2.2.2.1, v10, h.2.2.2.2.2.2.2.2.2.2.1, v11, h.2.2.2.2.2.2.2.2.2.2.2.1, rfl⟩
theorem allBelow {H : Type} {enc : TypeId × Value → H} {P : Program} (hl : laidOutB P = true) {W W' : World} (hb : Below W.heap.size W W') : ∀ {ts : List TypeId} {vs : List Value} {ds : List (DataW H)} {ps : List MemPlace}, (ts.all fun t => P.readableRec t && decide (t < P.types.size)) = true →
    DataW.TrodAll enc P W 0 (fun _ => true) true ts vs ds ps → (∀ x ∈ ps, x.block < W.heap.size) → DataW.TrodAll enc P W' 0 (fun b => decide (b < W.heap.size)) true ts vs ds ps
  | [], [], [], _, _, h, _ => h
  | t :: ts, v :: vs, d :: ds, ps, hr, ⟨p, q, h1, h2, e⟩, hlt => by
    simp only [List.all_cons, Bool.and_eq_true, decide_eq_true_eq] at hr
    subst e
    exact ⟨p, q, Below.trod hl hr.1.1 hr.1.2 h1 hb (fun x hx => hlt x (by simp [hx])), allBelow hl hb (by simpa using hr.2) h2 (fun x hx => hlt x (by simp [hx])), rfl⟩
end Go.Dn
