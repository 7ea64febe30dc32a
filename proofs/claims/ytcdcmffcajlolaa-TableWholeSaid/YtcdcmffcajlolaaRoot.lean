/- A root with the kernel's tables in it. -/
import Derived.Test.YtcdcmffcajlolaaQuery
namespace Go.Dn

variable {A : AH} {l R : List SP} {r b t i : Nat} {fr n : Int} {hs : List (Int × Int)} {W : Int → Int → Int} {F G : Int → Prop} {ns : List Nd} {nd : Nd}
def tab0 (root : Int) : Tab := fun k q => if k = 0 ∧ q = 0 then some root else none
theorem TabW.init {root : Int} (hz : ∀ j, 0 ≤ j → j < 256 → W root j = 0) (hr : 0 ≤ root ∧ root < 1048576) : TabW W root (tab0 root) (fun _ => none) := by
  have key : ∀ k q f, tab0 root k q = some f → k = 0 ∧ q = 0 ∧ f = root := by
    intro k q f h
    unfold tab0 at h
    split at h
    · rename_i e
      cases h
      exact ⟨e.1, e.2, rfl⟩
    · cases h
  refine ⟨fun q f => ⟨fun h => ⟨(key _ _ _ h).2.1, (key _ _ _ h).2.2⟩, fun h => ?_⟩, fun k q hk => ?_, fun k q f hk hf j h0 h1 h2 => ?_, fun q f hf => ?_, fun k q f hf => ?_, fun p x hx => (by cases hx), fun k1 q1 k2 q2 f h1 h2 => ?_, fun k q f hf => ?_, fun p x hx => (by cases hx)⟩
  · unfold tab0
    rw [h.1, h.2, if_pos ⟨rfl, rfl⟩]
  · unfold tab0
    rw [if_neg (by omega)]
  · obtain ⟨rfl, rfl, rfl⟩ := key _ _ _ hf
    rw [hz j h0 (h2 rfl)]
    unfold tab0
    rw [if_neg (by omega)]
    rfl
  · have := (key _ _ _ hf).1
    omega
  · have := (key _ _ _ hf).1
    omega
  · obtain ⟨a1, a2, _⟩ := key _ _ _ h1
    obtain ⟨b1, b2, _⟩ := key _ _ _ h2
    exact ⟨a1.trans b1.symm, a2.trans b2.symm⟩
  · rw [(key _ _ _ hf).2.2]; exact hr
theorem Root_spec {kern : Int} {tk : List Int} {Q : Int → Int → AH → Prop} (h : Own (taken r fr hs W b F G n t ns i nd tk ++ R) A) (hi : ns[i]? = some nd) (hlv : nd.live = true) (hF : ∀ x, F x → hasF fr hs x = true) (hkn : 0 ≤ kern ∧ kern < 1048576)
    (hq : nd.quo - nd.use - nd.lent ≤ tk.length → Q 0 8 A) (hm : tk.length < nd.quo - nd.use - nd.lent → n = tk.length → ∀ A', Own (taken r fr hs W b F G n t ns i nd tk ++ R) A' → Q 0 7 A')
    (hk : tk.length < nd.quo - nd.use - nd.lent → n ≠ tk.length → ∀ f A', F f → f ∉ tk → Own (taken r fr hs (setW (zeroW W f) f 256 (kEnt kern)) b F G n t ns i nd (tk ++ [f]) ++ R) A' → Q f 0 A') :
    table_Root_A (some ⟨r, 0, none⟩) (some ⟨b, 0, none⟩) (some ⟨t, 0, none⟩) i kern Q A := by
  unfold table_Root_A table_Root_G
  refine tTake_spec h hi hlv hF (fun c => bsel_t rfl (hq c)) (fun c d A' hA => bsel_t rfl (hm c d A' hA)) fun c d f A1 hf hn hA => bsel_f rfl ?_
  exact put_head hA (hF f hf) ⟨by omega, by omega⟩ hkn fun A2 hA2 => hk c d f A2 hf hn hA2
end Go.Dn
