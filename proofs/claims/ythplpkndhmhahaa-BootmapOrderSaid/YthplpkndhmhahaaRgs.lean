/- Slices of ranges: reading, pushing, storing. -/
import Derived.Test.YthplpkndhmhahaaG
import Derived.Test.YthplpkndhmhahaaRng
import Derived.Test.YthplpkndhmhahaaSlices
namespace Go.Dn

variable {A : AH} {l R : List SP} {P : SP} {k : Nat} {s : Sl} {L : List Rg}
def rgs (L : List Rg) : List Value := L.flatMap rgE
theorem rgs_len : ∀ L : List Rg, (rgs L).length = L.length * 2
  | [] => rfl
  | y :: L => by
    have := rgs_len L
    unfold rgs at this ⊢
    rw [List.flatMap_cons, List.length_append, this]; simp [rgE]; omega
theorem rgs_app (a c : List Rg) : rgs (a ++ c) = rgs a ++ rgs c := List.flatMap_append
theorem rgs_at : ∀ {L : List Rg} {v : Nat} {y : Rg} {c : Nat} {x : Value}, L[v]? = some y → (rgE y)[c]? = some x → (rgs L)[v * 2 + c]? = some x
  | [], v, a, c, x, h, _ => by simp at h
  | b :: r, 0, a, c, x, h, hc => by
    simp at h; subst h
    have hlt : c < 2 := (List.getElem?_eq_some_iff.1 hc).1
    unfold rgs
    rw [List.flatMap_cons, List.getElem?_append_left (by simp [rgE]; omega), Nat.zero_mul, Nat.zero_add]
    exact hc
  | b :: r, v + 1, a, c, x, h, hc => by
    have h : r[v]? = some a := by simpa using h
    unfold rgs
    rw [List.flatMap_cons, List.getElem?_append_right (by simp [rgE]; omega)]
    have : (v + 1) * 2 + c - (rgE b).length = v * 2 + c := by simp [rgE]; omega
    rw [this]
    exact rgs_at h hc
theorem rgs_one : ∀ {L : List Rg} {v : Value}, v ∈ rgs L → v.oneCell' = true := fun {L v} h => by
  obtain ⟨d, _, hd⟩ := List.mem_flatMap.1 h
  simp [rgE] at hd
  rcases hd with rfl | rfl <;> rfl
theorem rgs_nil {L : List Rg} (h : rgs L = []) : L = [] := by
  have := rgs_len L
  rw [h] at this
  exact List.length_eq_zero_iff.1 (by simp at this; omega)
theorem rd_rg_len (h : Own l A) (e : l[k]? = some P) (hr : Reads P s 2 (rgs L)) : s.len = L.length := by
  have := rd_len h e hr
  rw [rgs_len] at this
  omega
theorem rd_rg {v : Nat} {y : Rg} (h : Own l A) (e : l[k]? = some P) (hr : Reads P s 2 (rgs L)) (hv : L[v]? = some y) :
    ∃ a, s.a = some a ∧ (∀ K : Int → Prop, K y.1 → aI .i64 (Addr.add a (Int.toNat (v : Int) * 2)) A K) ∧ ∀ K : Int → Prop, K y.2 → aI .i64 (Addr.add (Addr.add a (Int.toNat (v : Int) * 2)) 1) A K := by
  obtain ⟨bb, o, q1, c0⟩ := rd_cell h e hr (j := v * 2 + 0) (rgs_at hv (c := 0) rfl)
  obtain ⟨b2, o2, q2, c1⟩ := rd_cell h e hr (j := v * 2 + 1) (rgs_at hv (c := 1) rfl)
  rw [q1] at q2
  cases q2
  refine ⟨_, q1, fun K hK => ⟨_, ?_, hK⟩, fun K hK => ⟨_, ?_, hK⟩⟩
  · rw [add_at, Int.toNat_natCast]; exact c0
  · rw [add_at, add_at, Int.toNat_natCast, Nat.add_assoc]; exact c1
/-- A range more behind a list of one's own. -/
theorem push_rg {t : TypeId} {x y : Int} {K : Sl → AP} (h : Own (SlO s 2 (rgs L) :: R) A) (hs : s.a = none → L = []) (hb : L.length ≤ 1000000)
    (hk : ∀ s' A', (s'.a = none → L ++ [(x, y)] = []) → Own (SlO s' 2 (rgs (L ++ [(x, y)])) :: R) A' → K s' A') :
    newA A (.cells #[.int .i64 x, .int .i64 y] t) fun b h2 => apA 2 16 #[.int .i64 0, .int .i64 0] t s (Sl.mk (some (Addr.mk b 0 none)) 1 1) h2 K := by
  have hl : s.len = L.length := by
    obtain ⟨B, _, hB⟩ := h.sat
    have := hB.1.1
    rw [rgs_len] at this
    omega
  refine new_C (cs := [.int .i64 x, .int .i64 y]) h fun b A1 h1 => ?_
  have h1 := h1.swap
  refine ap_reads (i := 0) h1 rfl (reads_at (n := 1) (sz := 2) (cs := [.int .i64 x, .int .i64 y]) (rest := []) rfl) (fun g => nomatch g) (fun g => by rw [hs g]; rfl) rfl (fun v hv => ?_) ⟨by simp only [hl]; omega, by simp only [hl]; omega⟩ fun s' A2 j1 j2 h2 => ?_
  · simp at hv; rcases hv with rfl | rfl <;> rfl
  · refine hk s' A2 (fun g => ?_) ?_
    · have := j2 g
      simp at this
    · rw [rgs_app]
      exact Own.cons (fun C hC => hC.tail) h2
/-- What one's own slice reads. -/
theorem reads_slo {sz : Nat} {cs : List Value} : Reads (SlO s sz cs) s sz cs := fun _ _ h u => ⟨h.look.1, fun _ _ hv => h.look.cell u hv⟩
theorem Own.rgs_len (h : Own (SlO s 2 (rgs L) :: R) A) : s.len = L.length := rd_rg_len (k := 0) h rfl reads_slo
/-- A cell of one's own slice is stored to. -/
theorem st_slo {sz j : Nat} {cs : List Value} {v : Value} {a : Addr} {K : AP} (h : Own (SlO s sz cs :: R) A) (ha : s.a = some a) (hj : j < cs.length) (hv : v.oneCell' = true) (hk : ∀ A', Own (SlO s sz (cs.set j v) :: R) A' → K A') : aC (Addr.add a j) v A K := by
  obtain ⟨⟨h1, h2⟩, h3⟩ := h.pure
  have h4 : Own ((fun B => ∃ b rest, s.a = some ⟨b, 0, none⟩ ∧ (cs ++ rest).length = s.cap * sz ∧ At b (cs ++ rest) B) :: R) A := h3.imp fun B hB => by
    rcases hB with hB | hB
    · exfalso
      have h5 : s.len = 0 := by omega
      rw [h5] at h1
      simp at h1
      omega
    · exact hB
  obtain ⟨b, h4⟩ := h4.ex
  obtain ⟨rest, h4⟩ := h4.ex
  obtain ⟨ha2, h4⟩ := h4.pure
  obtain ⟨hc, h4⟩ := h4.pure
  rw [ha] at ha2
  cases ha2
  rw [add_at, Nat.zero_add]
  refine st_C (i := 0) h4 rfl (by simp; omega) hv fun A' h' => hk A' ?_
  have e : (cs ++ rest).set j v = cs.set j v ++ rest := List.set_append_left _ _ hj
  refine Own.imp (P := At b (cs.set j v ++ rest)) (fun B hB => ⟨⟨by simpa using h1, h2⟩, .inr ⟨b, rest, ha, by simpa using hc, hB⟩⟩) ?_
  rw [← e]
  exact h'
theorem rgs_set : ∀ {L : List Rg} {i : Nat} {r : Rg} (y : Int), L[i]? = some r → (rgs L).set (i * 2 + 1) (.int .i64 y) = rgs (L.set i (r.1, y))
  | [], _, _, _, e => by simp at e
  | d :: L, 0, r, y, e => by
    simp at e; subst e
    rfl
  | d :: L, i + 1, r, y, e => by
    have := rgs_set (L := L) (i := i) y (by simpa using e)
    show (rgE d ++ rgs L).set ((i + 1) * 2 + 1) _ = rgE d ++ rgs (L.set i (r.1, y))
    rw [List.set_append_right _ _ (by simp [rgE]; omega)]
    rw [show (i + 1) * 2 + 1 - (rgE d).length = i * 2 + 1 by simp [rgE]; omega, this]
theorem rgs_set0 : ∀ {L : List Rg} {i : Nat} {r : Rg} (y : Int), L[i]? = some r → (rgs L).set (i * 2) (.int .i64 y) = rgs (L.set i (y, r.2))
  | [], _, _, _, e => by simp at e
  | d :: L, 0, r, y, e => by
    simp at e; subst e
    rfl
  | d :: L, i + 1, r, y, e => by
    have := rgs_set0 (L := L) (i := i) y (by simpa using e)
    show (rgE d ++ rgs L).set ((i + 1) * 2) _ = rgE d ++ rgs (L.set i (y, r.2))
    rw [List.set_append_right _ _ (by simp [rgE]; omega)]
    rw [show (i + 1) * 2 - (rgE d).length = i * 2 by simp [rgE]; omega, this]
theorem Own.nilS {sz : Nat} (h : Own l A) : Own (SlO Sl.nil sz [] :: l) A := ⟨fun _ => none, A, fun _ => .inl rfl, (fun _ _ e => nomatch e), Sub.refl A, SlO.nil, h⟩
/-- One's own slice that holds something lies in a block. -/
theorem Own.openS {sz : Nat} {cs : List Value} (h : Own (SlO s sz cs :: R) A) (hne : cs ≠ []) : ∃ b rest, s.a = some ⟨b, 0, none⟩ ∧ (cs ++ rest).length = s.cap * sz ∧ s.len * sz = cs.length ∧ s.len ≤ s.cap ∧ Own (At b (cs ++ rest) :: R) A := by
  obtain ⟨⟨h1, h2⟩, h3⟩ := h.pure
  have h4 : Own ((fun B => ∃ b rest, s.a = some ⟨b, 0, none⟩ ∧ (cs ++ rest).length = s.cap * sz ∧ At b (cs ++ rest) B) :: R) A := h3.imp fun B hB => by
    rcases hB with hB | hB
    · exfalso
      have h5 : s.len = 0 := by omega
      rw [h5] at h1
      simp at h1
      exact hne (List.length_eq_zero_iff.1 h1.symm)
    · exact hB
  obtain ⟨b, h4⟩ := h4.ex
  obtain ⟨rest, h4⟩ := h4.ex
  obtain ⟨ha2, h4⟩ := h4.pure
  obtain ⟨hc, h4⟩ := h4.pure
  exact ⟨b, rest, ha2, hc, h1, h2, h4⟩
theorem Own.shutS {sz b : Nat} {cs rest : List Value} (h : Own (At b (cs ++ rest) :: R) A) (ha : s.a = some ⟨b, 0, none⟩) (hc : (cs ++ rest).length = s.cap * sz) (h1 : s.len * sz = cs.length) (h2 : s.len ≤ s.cap) : Own (SlO s sz cs :: R) A :=
  h.imp fun _ hB => ⟨⟨h1, h2⟩, .inr ⟨b, rest, ha, hc, hB⟩⟩
end Go.Dn
