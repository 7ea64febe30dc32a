/- What a row's slices of anything read as, in the heap as it was. -/
import Derived.Test.YthplpkndhmhahaaInputs
namespace Go.Dn
open Go.Deep Go.Joins Go.ChangeShapes Go.WideShapes Go.ChangeAt Go.RowKit

theorem flatI_len {α : Type} (f : α → List Value) (sz : Nat) (hl : ∀ x, (f x).length = sz) : ∀ l : List α, (l.flatMap f).length = l.length * sz
  | [] => by simp
  | x :: l => by rw [List.flatMap_cons, List.length_append, hl, flatI_len f sz hl l, List.length_cons, Nat.succ_mul]; omega
theorem flatI_at {α : Type} (f : α → List Value) (sz : Nat) (hl : ∀ x, (f x).length = sz) : ∀ (l : List α) (j : Nat) (x : α) (k : Nat), l[j]? = some x → k < sz → (l.flatMap f)[j * sz + k]? = (f x)[k]?
  | [], _, _, _, h, _ => by simp at h
  | y :: l, 0, x, k, h, hk => by
    simp at h; subst h
    rw [List.flatMap_cons, Nat.zero_mul, Nat.zero_add, List.getElem?_append_left (by rw [hl]; exact hk)]
  | y :: l, j + 1, x, k, h, hk => by
    rw [List.flatMap_cons, List.getElem?_append_right (by rw [hl, Nat.succ_mul]; omega), hl, show (j + 1) * sz + k - sz = j * sz + k by rw [Nat.succ_mul]; omega]
    exact flatI_at f sz hl l j x k (by simpa using h) hk
section
variable {H : Type} {enc : TypeId × Value → H} {P : Program} {w : World} {base : Nat} {spare : Nat → Bool} {held : Bool}
theorem open_elems {α : Type} [Inhabited α] (f : α → List Value) (q : α → Prop) (sz : Nat) (hsz : 0 < sz) (hl : ∀ x, (f x).length = sz) {r : Reach} {b0 : Nat} {t e : TypeId} {v : Value} {d : DataW H} {ps : List MemPlace} (ht : P.underlying t = some (.slice e)) (hC : P.cellsOf e = sz)
    (ho : ∀ n cs y, DataW.trod enc P w base spare held n e cs = some y → ∃ x, cs = f x ∧ q x) (hw : Value.okWide P w r b0 t v) (h : DataW.Trod enc P w base spare held t v d ps) :
    ∃ (s : Sl) (l : List α), v = .slice s.a s.len s.cap ∧ Reads (Was w.heap) s sz (l.flatMap f) ∧ (∀ x ∈ l, q x) ∧ l.length < 9223372036854775808 ∧ s.len ≤ s.cap ∧ (s.a = none → l = []) := by
  obtain ⟨n, h⟩ := h
  obtain ⟨a0, l0, c0, rfl⟩ := okWide_slice ht hw
  rcases open_slice ht h with ⟨hv, _⟩ | ⟨a, len, cap, m, k, D, Pl, hv, _, hlc, hcm, hm, _, hx⟩
  · have hv : ([Value.slice a0 l0 c0] : List Value) = [.slice none 0 0] := hv
    have hv : Value.slice a0 l0 c0 = .slice none 0 0 := by injection hv
    exact ⟨Sl.nil, [], hv, reads_nil, fun p hp => by simp at hp, by simp, Nat.le_refl _, fun _ => rfl⟩
  · have hv : ([Value.slice a0 l0 c0] : List Value) = [.slice (some a) len cap] := hv
    have hv : Value.slice a0 l0 c0 = .slice (some a) len cap := by injection hv
    have hlm : len ≤ m := by rw [hm]; split <;> omega
    obtain ⟨F, hF⟩ := choose_lt (α := α) (n := len) (p := fun i p => w.cells? base (a.add (i * sz)) sz = some (f p) ∧ q p) (fun i hi => by
      obtain ⟨cs', k1, k2⟩ := hx i (by omega)
      rw [hC] at k1
      obtain ⟨p, rfl, hp⟩ := ho _ _ _ k2
      exact ⟨p, k1, hp⟩)
    refine ⟨⟨some a, len, cap⟩, (List.range len).map F, hv, reads_was ?_ ?_, ?_, ?_⟩
    · rw [flatI_len f sz hl]; simp
    · intro j v hj
      have hjl := (List.getElem?_eq_some_iff.1 hj).1
      rw [flatI_len f sz hl] at hjl
      simp only [List.length_map, List.length_range] at hjl
      have hdiv : j / sz < len := Nat.div_lt_of_lt_mul (by rw [Nat.mul_comm]; exact hjl)
      have hmod : j % sz < sz := Nat.mod_lt _ hsz
      have hj2 : j / sz * sz + j % sz = j := by rw [Nat.mul_comm]; exact Nat.div_add_mod j sz
      have hq : ((List.range len).map F)[j / sz]? = some (F (j / sz)) := by rw [List.getElem?_map, List.getElem?_range hdiv]; rfl
      have ha := flatI_at f sz hl _ _ _ _ hq hmod
      rw [hj2, hj] at ha
      obtain ⟨k1, _⟩ := hF (j / sz) hdiv
      obtain ⟨_, _, k2⟩ := World.cells?_some k1
      have k3 := k2 (j % sz) hmod
      have hadd : ∀ (x y : Nat), (a.add x).add y = a.add (x + y) := by
        intro x y
        unfold Addr.add
        split <;> split <;> simp_all <;> omega
      rw [hadd, hj2] at k3
      exact k3.trans ha.symm
    · intro p hp
      simp only [List.mem_map, List.mem_range] at hp
      obtain ⟨i, hi, rfl⟩ := hp
      exact (hF i hi).2
    · refine ⟨?_, hlc, fun g => nomatch g⟩
      simp
      have hcm2 := hcm
      unfold maxLen at hcm2
      omega
end
end Go.Dn
