/- Slices of one's own: what an append makes of them. -/
import Derived.Test.YthbdbnadjpbfgaaGreatDnN
namespace Go.Dn

/-- A slice of one's own: its cells and what room is left behind them. -/
def SlO (s : Sl) (sz : Nat) (cs : List Value) : SP := fun B => (s.len * sz = cs.length ∧ s.len ≤ s.cap) ∧
  (s.cap = 0 ∨ ∃ b rest, s.a = some ⟨b, 0, none⟩ ∧ (cs ++ rest).length = s.cap * sz ∧ At b (cs ++ rest) B)
theorem SlO.nil {sz : Nat} {B : AH} : SlO Sl.nil sz [] B := ⟨⟨by simp [Sl.nil], Nat.le_refl _⟩, .inl rfl⟩
theorem SlO.look {s : Sl} {sz : Nat} {cs : List Value} {B : AH} (h : SlO s sz cs B) : SlAt s sz cs B := by
  obtain ⟨⟨h1, h2⟩, h3⟩ := h
  refine ⟨h1, h2, fun hne => ?_⟩
  rcases h3 with h3 | ⟨b, rest, h3, h4, h5⟩
  · have : s.len = 0 := by omega
    rw [this] at h1
    exact absurd (List.length_eq_zero_iff.1 (by omega)) hne
  · exact ⟨b, [], rest, h3, by simpa using h5⟩
variable {A : AH} {l R : List SP}
theorem stL_spec {b o : Nat} : ∀ (vs : List Value) (n : Nat) (A : AH) (pre mid post : List Value) (K : AP), Own (At b (pre ++ mid ++ post) :: R) A → mid.length = vs.length → o + n = pre.length → (∀ v ∈ vs, v.oneCell' = true) →
    (∀ A', Own (At b (pre ++ vs ++ post) :: R) A' → K A') → aStL vs ⟨b, o, none⟩ n A K
  | [], n, A, pre, mid, post, K, h, hm, ho, hv, hk => by
    have : mid = [] := List.length_eq_zero_iff.1 hm
    subst this
    exact hk A h
  | v :: vs, n, A, pre, mid, post, K, h, hm, ho, hv, hk => by
    cases mid with
    | nil => simp at hm
    | cons m mid =>
      simp at hm
      show aC (Addr.add ⟨b, o, none⟩ n) v A _
      rw [add_at]
      refine st_C (i := 0) h rfl ?_ (hv v (by simp)) fun A' h' => ?_
      · rw [ho]; simp
      have e : (pre ++ m :: mid ++ post).set (o + n) v = (pre ++ [v]) ++ mid ++ post := by
        rw [ho, List.append_assoc, List.set_append_right _ _ (Nat.le_refl _)]
        simp
      rw [e] at h'
      refine stL_spec vs (n + 1) A' (pre ++ [v]) mid post K h' hm (by simp; omega) (fun w hw => hv w (by simp [hw])) fun A2 h2 => hk A2 ?_
      simpa using h2
theorem rowA_of {s : Sl} {sz : Nat} {cs : List Value} {B : AH} (h : SlAt s sz cs B) (u : Sub B A) (hn : s.a = none → cs = []) : rowA A s.a (s.len * sz) cs := by
  cases hs : s.a with
  | none => exact hn hs
  | some a =>
    refine ⟨h.1.symm, fun i hi => ?_⟩
    rw [h.1] at hi
    obtain ⟨b, o, h1, h2⟩ := h.cell u (j := i) (v := cs[i]) (by simp [hi])
    rw [hs] at h1
    cases h1
    exact ⟨cs[i], by simp [hi], by rw [add_at]; exact h2⟩
theorem zeroCells_len {z : Array Value} {n : Nat} : (Builtin.zeroCells z n).size = n * z.size := by simp [Builtin.zeroCells]
theorem rowA_rd {s : Sl} {sz : Nat} {cs : List Value} (h : s.len * sz = cs.length ∧ ∀ j v, cs[j]? = some v → ∃ b o, s.a = some ⟨b, o, none⟩ ∧ cellA A ⟨b, o + j, none⟩ = some v) (hn : s.a = none → cs = []) : rowA A s.a (s.len * sz) cs := by
  cases hs : s.a with
  | none => exact hn hs
  | some a =>
    refine ⟨h.1.symm, fun i hi => ?_⟩
    rw [h.1] at hi
    obtain ⟨b, o, h1, h2⟩ := h.2 i cs[i] (by simp [hi])
    rw [hs] at h1
    cases h1
    exact ⟨cs[i], by simp [hi], by rw [add_at]; exact h2⟩
theorem reads_at {b n cap sz : Nat} {cs rest : List Value} (hl : n * sz = cs.length) : Reads (At b (cs ++ rest)) ⟨some ⟨b, 0, none⟩, n, cap⟩ sz cs := fun B A ⟨t, hB⟩ u => ⟨hl, fun j v hv => ⟨b, 0, rfl, by
  have := u _ _ hB
  have hj := (List.getElem?_eq_some_iff.1 hv).1
  simp only [cellA, this, Nat.zero_add]
  simp only [Option.isSome_none, Bool.false_eq_true, if_false, List.getElem?_toArray]
  rw [List.getElem?_append_left hj]; exact hv⟩⟩
theorem ap_reads {P : SP} {s x : Sl} {sz bytes t i : Nat} {zc : Array Value} {c1 c2 : List Value} {K : Sl → AP} (h : Own (SlO s sz c1 :: R) A) (e : R[i]? = some P) (hr : Reads P x sz c2) (hx : x.a = none → c2 = []) (hs : s.a = none → c1 = [])
    (hz : zc.size = sz) (hv : ∀ v ∈ c2, v.oneCell' = true) (hlim : (s.len + x.len) * bytes ≤ 140737488355328 ∧ s.len + x.len ≤ 9223372036854775807)
    (hk : ∀ s' A', s'.len = s.len + x.len → (s'.a = none → c1 ++ c2 = []) → Own (SlO s' sz (c1 ++ c2) :: R) A' → K s' A') : apA sz bytes zc t s x A K := by
  obtain ⟨Bx, ux, hbx⟩ := Own.get (l := SlO s sz c1 :: R) (i := i + 1) (by simpa using e) h
  obtain ⟨Bs, us, hbs⟩ := h.sat
  have hbx := hr Bx A hbx ux
  refine ⟨c2, rowA_rd hbx hx, fun hle => ?_, fun hlt => ?_⟩
  · have hl1 := hbs.1.1
    have hl2 := hbx.1
    obtain ⟨hp, h2⟩ := h.pure
    rcases Nat.eq_zero_or_pos s.cap with g | g
    · -- nothing there and nothing to append
      have h0 : s.len = 0 := by omega
      have h1 : x.len = 0 := by omega
      rw [h0] at hl1
      rw [h1] at hl2
      have e1 : c1 = [] := List.length_eq_zero_iff.1 (by omega)
      have e2 : c2 = [] := List.length_eq_zero_iff.1 (by omega)
      subst e1 e2
      have hst : aStR s.a (s.len * sz) [] A (K ⟨s.a, s.len + x.len, s.cap⟩) ↔ K ⟨s.a, s.len + x.len, s.cap⟩ A := by
        cases s.a <;> exact Iff.rfl
      rw [hst]
      refine hk _ _ rfl (fun _ => rfl) ?_
      exact Own.imp (P := SlO s sz []) (fun B hB => ⟨⟨by simp [h0, h1], by omega⟩, .inl g⟩) h
    · have h3 : Own ((fun B => ∃ b rest, s.a = some ⟨b, 0, none⟩ ∧ (c1 ++ rest).length = s.cap * sz ∧ At b (c1 ++ rest) B) :: R) A := h2.imp fun B hB => by
        rcases hB with hB | hB
        · omega
        · exact hB
      obtain ⟨b, h3⟩ := h3.ex
      obtain ⟨rest, h3⟩ := h3.ex
      obtain ⟨ha, h3⟩ := h3.pure
      obtain ⟨hc, h3⟩ := h3.pure
      rw [ha]
      show aStL c2 (Addr.add ⟨b, 0, none⟩ (s.len * sz)) 0 A _
      rw [add_at]
      have hroom : c2.length ≤ rest.length := by
        rw [List.length_append] at hc
        have : (s.len + x.len) * sz ≤ s.cap * sz := Nat.mul_le_mul_right _ hle
        rw [Nat.add_mul] at this
        omega
      have hsplit : c1 ++ rest = c1 ++ rest.take c2.length ++ rest.drop c2.length := by rw [List.append_assoc, List.take_append_drop]
      rw [hsplit] at h3
      refine stL_spec c2 0 A c1 (rest.take c2.length) (rest.drop c2.length) _ h3 (by simp; omega) (by simp; omega) hv fun A' h' => ?_
      refine hk _ _ rfl (fun q => by cases q) ?_
      refine Own.imp (fun B hB => ⟨⟨?_, hle⟩, .inr ⟨b, rest.drop c2.length, rfl, ?_, hB⟩⟩) h'
      · rw [Nat.add_mul, List.length_append]; omega
      · rw [← hc]; simp; omega
  · have hl1 := hbs.1.1
    have hl2 := hbx.1
    refine ⟨c1, rowA_of hbs.look us hs, hlim.2, growslice_fits hlt hlim.1, fun cap hcap => ?_⟩
    intro b hb
    have hsz := zeroCells_len (z := zc) (n := cap - (s.len + x.len))
    refine hk _ _ rfl (fun q => by cases q) ?_
    refine Own.new (o := _) (h.tail) hb fun B hB => ⟨⟨?_, hcap⟩, .inr ⟨b, (Builtin.zeroCells zc (cap - (s.len + x.len))).toList, rfl, ?_, t, ?_⟩⟩
    · rw [Nat.add_mul, List.length_append]; omega
    · simp only [List.length_append, Array.length_toList]
      rw [hsz, hz, ← hl1, ← hl2, ← Nat.add_mul, ← Nat.add_mul]
      congr 1; omega
    · rw [hB]
      congr 2
      apply Array.ext'
      simp
theorem ap_head {s x : Sl} {sz bytes t i : Nat} {zc : Array Value} {c1 c2 : List Value} {K : Sl → AP} (h : Own (SlO s sz c1 :: R) A) (e : R[i]? = some (SlAt x sz c2)) (hx : x.a = none → c2 = []) (hs : s.a = none → c1 = [])
    (hz : zc.size = sz) (hv : ∀ v ∈ c2, v.oneCell' = true) (hlim : (s.len + x.len) * bytes ≤ 140737488355328 ∧ s.len + x.len ≤ 9223372036854775807)
    (hk : ∀ s' A', s'.len = s.len + x.len → (s'.a = none → c1 ++ c2 = []) → Own (SlO s' sz (c1 ++ c2) :: R) A' → K s' A') : apA sz bytes zc t s x A K :=
  ap_reads h e reads_slat hx hs hz hv hlim hk
end Go.Dn
