/- The law BootmapOrder: in whatever order areas stand the same frames come of them. -/
import Derived.Test.YthplpkndhmhahaaRefFrames
namespace Go.Dn

variable {A : AH} {l R : List SP} {P P2 : SP} {k k2 : Nat} {s s2 : Sl} {bs : List Int} {f : Int} {kn : Rg}
/-- The fields are what they may be. -/
def ArW (a : Ar) : Prop := (0 ≤ a.1 ∧ a.1 < 18446744073709551616) ∧ (0 ≤ a.2.1 ∧ a.2.1 < 18446744073709551616) ∧ 0 ≤ a.2.2 ∧ a.2.2 < 4294967296
def entL (L : List Ar) : List Int := L.flatMap entB
theorem entL_app (a c : List Ar) : entL (a ++ c) = entL a ++ entL c := List.flatMap_append
theorem entL_len : ∀ L : List Ar, (entL L).length = 20 * L.length
  | [] => rfl
  | y :: L => by
    have := entL_len L
    unfold entL at this ⊢
    rw [List.flatMap_cons, List.length_append, this, entB_len, List.length_cons]; omega
theorem entL_rng (L : List Ar) : ∀ x ∈ entL L, 0 ≤ x ∧ x < 256 := fun x h => by
  obtain ⟨a, _, ha⟩ := List.mem_flatMap.1 h
  exact entB_rng a x ha
theorem entL_drop : ∀ (L : List Ar) (i : Nat) (a : Ar), L[i]? = some a → ∃ r, (entL L).drop (20 * i) = entB a ++ r
  | [], i, a, h => by simp at h
  | y :: L, 0, a, h => by
    simp at h; subst h
    exact ⟨entL L, by simp [entL]⟩
  | y :: L, i + 1, a, h => by
    obtain ⟨r, hr⟩ := entL_drop L i a (by simpa using h)
    refine ⟨r, ?_⟩
    rw [← hr]
    unfold entL
    rw [List.flatMap_cons, show 20 * (i + 1) = (entB y).length + 20 * i by rw [entB_len]; omega, List.drop_append]
    simp
theorem areaZ_entL {L : List Ar} {i : Nat} {a : Ar} (h : L[i]? = some a) (hw : ArW a) : areaZ (entL L) i = a := by
  obtain ⟨r, hr⟩ := entL_drop L i a h
  obtain ⟨⟨w1, w2⟩, ⟨w3, w4⟩, w5, w6⟩ := hw
  have h8 : (entL L).drop (20 * i + 8) = leB 8 a.2.1 ++ (leB 4 a.2.2 ++ r) := by
    rw [← List.drop_drop, hr]
    unfold entB
    rw [List.append_assoc, List.append_assoc, List.drop_append_of_le_length (by simp [leB_len]), List.drop_of_length_le (by simp [leB_len])]
    simp
  have h16 : (entL L).drop (20 * i + 16) = leB 4 a.2.2 ++ r := by
    rw [show 20 * i + 16 = (20 * i + 8) + 8 by omega, ← List.drop_drop, h8, List.drop_append_of_le_length (by simp [leB_len]), List.drop_of_length_le (by simp [leB_len])]
    simp
  have h0 : (entL L).drop (20 * i) = leB 8 a.1 ++ (leB 8 a.2.1 ++ (leB 4 a.2.2 ++ r)) := by
    rw [hr]; unfold entB; simp
  have tk : ∀ (k : Nat) (n : Int) (r : List Int), (leB k n ++ r).take k = leB k n := fun k n r => by
    rw [List.take_append_of_le_length (by rw [leB_len]; omega), List.take_of_length_le (by rw [leB_len]; omega)]
  unfold areaZ
  rw [h0, h8, h16, tk, tk, tk, numZ_leB _ _ w1 (by simpa using w2), numZ_leB _ _ w3 (by simpa using w4), numZ_leB _ _ w5 (by simpa using w6)]
theorem parse_entL {L : List Ar} (hw : ∀ a ∈ L, ArW a) (hl : L.length ≤ 64) : parseP (entL L) = if L.all areaB then (0, L) else (3, []) := by
  have hlen := entL_len L
  unfold parseP
  rw [if_neg (by omega), if_neg (by omega), show (entL L).length / 20 = L.length by omega]
  have hm : (upto L.length).map (areaZ (entL L)) = L := by
    apply List.ext_getElem?
    intro j
    unfold upto
    rw [List.getElem?_map]
    by_cases hj : j < L.length
    · rw [List.getElem?_range hj, Option.map_some, areaZ_entL (a := L[j]) (by simp [hj]) (hw _ (by simp))]
      simp [hj]
    · rw [List.getElem?_eq_none (by simp; omega), List.getElem?_eq_none (by omega)]
      rfl
  have ha : (upto L.length).all (fun i => areaB (areaZ (entL L) i)) = L.all areaB := by
    conv => rhs; rw [← hm]
    rw [List.all_map]
    rfl
  rw [ha, hm]
theorem useL_perm {L M : List Ar} (h : ∀ a, a ∈ L ↔ a ∈ M) (n : Int) : memR (useL L f) n ↔ memR (useL M f) n := by
  unfold useL memR
  constructor <;> rintro ⟨r, hr, hn⟩ <;> obtain ⟨a, ha, rfl⟩ := List.mem_map.1 hr <;> obtain ⟨h1, h2⟩ := List.mem_filter.1 ha <;> refine ⟨_, List.mem_map.2 ⟨a, List.mem_filter.2 ⟨?_, h2⟩, rfl⟩, hn⟩
  · exact (h a).1 h1
  · exact (h a).2 h1
theorem restL_perm {L M : List Ar} (h : ∀ a, a ∈ L ↔ a ∈ M) (n : Int) : memR (restL L f) n ↔ memR (restL M f) n := by
  unfold restL memR
  constructor <;> rintro ⟨r, hr, hn⟩ <;> obtain ⟨a, ha, rfl⟩ := List.mem_map.1 hr <;> obtain ⟨h1, h2⟩ := List.mem_filter.1 ha <;> refine ⟨_, List.mem_map.2 ⟨a, List.mem_filter.2 ⟨?_, h2⟩, rfl⟩, hn⟩
  · exact (h a).1 h1
  · exact (h a).2 h1
theorem frOut_perm {L M : List Ar} {e1 e2 : Int} {m1 m2 : List Rg} (hL : ∀ a ∈ L, ArW a) (hl : L.length ≤ 64) (hl2 : M.length ≤ 64) (hp : ∀ a, a ∈ L ↔ a ∈ M) (h1 : frOut (entL L) f kn e1 m1) (h2 : frOut (entL M) f kn e2 m2) : e1 = e2 ∧ m1 = m2 := by
  have p1 := parse_entL hL hl
  have p2 := parse_entL (fun a ha => hL a ((hp a).2 ha)) hl2
  have hall : M.all areaB = L.all areaB := by
    rw [Bool.eq_iff_iff, List.all_eq_true, List.all_eq_true]
    exact ⟨fun g a ha => g a ((hp a).1 ha), fun g a ha => g a ((hp a).2 ha)⟩
  rw [hall] at p2
  unfold frOut at h1 h2
  rw [p1] at h1
  rw [p2] at h2
  by_cases hb : L.all areaB = true
  · rw [if_pos hb] at h1 h2
    rcases h1 with ⟨a, b, c⟩ | ⟨a, b, c, d⟩ | ⟨a, b, c, d, g⟩
    · rcases h2 with ⟨a2, b2, c2⟩ | ⟨a2, _⟩ | ⟨a2, _⟩
      · exact ⟨by rw [b, b2], by rw [c, c2]⟩
      · exact absurd a a2
      · exact absurd a a2
    · exact absurd rfl b
    · rcases h2 with ⟨a2, _⟩ | ⟨a2, b2, _⟩ | ⟨a2, b2, c2, d2, g2⟩
      · exact absurd a2 a
      · exact absurd rfl b2
      · have : m1 = m2 := NF.eq c c2 fun n => by rw [d n, d2 n, away_mem, away_mem, useL_perm hp, restL_perm hp]
        subst this
        exact ⟨by rw [g, g2], rfl⟩
  · rw [if_neg hb] at h1 h2
    rcases h1 with ⟨a, b, c⟩ | ⟨a, b, c, d⟩ | ⟨a, b, c, d, g⟩
    · rcases h2 with ⟨a2, b2, c2⟩ | ⟨a2, _⟩ | ⟨a2, _⟩
      · exact ⟨by rw [b, b2], by rw [c, c2]⟩
      · exact absurd a a2
      · exact absurd a a2
    · rcases h2 with ⟨a2, _⟩ | ⟨a2, b2, c2, d2⟩ | ⟨a2, b2, _⟩
      · exact absurd a2 a
      · exact ⟨by rw [c, c2], by rw [d, d2]⟩
      · exact absurd b2 (by simp)
    · exact absurd b (by simp)
theorem BootmapOrder_spec {L : List Ar} {x : Ar} {Q : Bool → AH → Prop} (h : Own l A) (e : l[k]? = some P) (hr : Reads P s 3 (arsC L)) (hL : ∀ a ∈ L, ArW a) (hx : ArW x)
    (hk : ∀ A', Own l A' → Q true A') : demesnelaw06_BootmapOrder_A s x.1 x.2.1 x.2.2 f Q A := by
  have hl := rd_ar_len h e hr
  unfold demesnelaw06_BootmapOrder_A demesnelaw06_BootmapOrder_G
  refine new_C (cs := []) h fun b1 A1 h1 => new_C (cs := []) h1 fun b2 A2 h2 => ?_
  have h2a : Own (SlO ⟨some ⟨b2, 0, none⟩, 0, 0⟩ 1 (([] : List Int).map byV) :: At b1 [] :: l) A2 := h2.imp fun B _ => ⟨⟨by simp, Nat.le_refl _⟩, .inl rfl⟩
  have h2b : Own (SlO ⟨some ⟨b1, 0, none⟩, 0, 0⟩ 1 (([] : List Int).map byV) :: SlO ⟨some ⟨b2, 0, none⟩, 0, 0⟩ 1 (([] : List Int).map byV) :: l) A2 := h2a.swap.imp fun B _ => ⟨⟨by simp, Nat.le_refl _⟩, .inl rfl⟩
  refine ⟨fun a b h' => ∃ v : Nat, v ≤ 30 ∧ (a.a = none → entL (L.take v) = []) ∧ (b.a = none → entL (L.take v).reverse = []) ∧ Own (SlO a 1 ((entL (L.take v)).map byV) :: SlO b 1 ((entL (L.take v).reverse).map byV) :: l) h', ?_, ?_⟩
  · intro sa sb A3 ⟨v, hv, ha0, hb0, h3⟩
    have hM : ∀ a ∈ L.take v, ArW a := fun a ha => hL a (List.mem_of_mem_take ha)
    have hMl : (L.take v).length ≤ 30 := by simp; omega
    generalize L.take v = M at *
    have hrev : ∀ a, a ∈ M ↔ a ∈ M.reverse := fun a => by simp
    refine Frames_spec (k := 0) (kn := (0, 0)) h3 rfl reads_slo h3.capS ha0 (entL_rng _) fun er m s34 A4 ho hml hs34 h4 => ?_
    refine Frames_spec (k := 2) (kn := (0, 0)) h4 rfl reads_slo h4.tail.tail.capS hb0 (entL_rng _) fun er2 m2 s37 A5 ho2 hml2 hs37 h5 => ?_
    obtain ⟨e1, e2⟩ := frOut_perm hM (by omega) (by simp; omega) hrev ho ho2
    subst e1 e2
    refine ⟨fun h' => Own (SlO s34 2 (rgs m) :: SlO sa 1 ((entL M).map byV) :: l) h', ?_, ?_⟩
    · intro A6 h6
      refine ⟨fun h' => Own (SlO s34 2 (rgs m) :: SlO sa 1 ((entL M).map byV) :: l) h' ∧ er = 0 ∧ x.2.2 ≠ 1 ∧ areaB x = true, ?_, ?_⟩
      · intro A7 ⟨h7, g1, g2, g3⟩
        obtain ⟨o1, o2, o3, o4, o5⟩ := frOut_ok ho g1
        refine new_C (cs := []) h7 fun b52 A8 h8 => ?_
        have h8 : Own (SlO ⟨some ⟨b52, 0, none⟩, 0, 0⟩ 1 (([] : List Int).map byV) :: SlO s34 2 (rgs m) :: SlO sa 1 ((entL M).map byV) :: l) A8 := h8.imp fun B _ => ⟨⟨by simp, Nat.le_refl _⟩, .inl rfl⟩
        have hel := entL_len M
        refine app_bytes (i := 1) (b1 := []) (b2 := entL M) rfl h8 rfl reads_slo ha0 (fun g => nomatch g) (by simp; omega) fun s54 A9 hs54 h9 => ?_
        refine Entry_spec (a := x) h9 fun s56 A10 hs56 h10 => ?_
        refine app_bytes (i := 0) rfl h10.swap rfl reads_slo (fun g => absurd g hs56) hs54 (by simp [entB_len]; omega) fun s58 A11 hs58 h11 => ?_
        have hcat : [] ++ entL M ++ entB x = entL (M ++ [x]) := by rw [entL_app]; simp [entL]
        rw [hcat] at hs58 h11
        have hMx : ∀ a ∈ M ++ [x], ArW a := fun a ha => by
          rcases List.mem_append.1 ha with g | g
          · exact hM a g
          · simp at g; subst g; exact hx
        refine Frames_spec (k := 0) (kn := (0, 0)) h11 rfl reads_slo h11.capS hs58 (entL_rng _) fun er3 m3 s60 A12 ho3 hml3 hs60 h12 => ?_
        have hl12 := h12.rgs_len
        have pM := parse_entL hM (by omega)
        have hallM : M.all areaB = true := by
          by_cases q : M.all areaB = true
          · exact q
          · rw [if_neg q] at pM
            rw [pM] at o2
            exact absurd o2 (by simp)
        rw [if_pos hallM] at pM
        have pX := parse_entL hMx (by simp; omega)
        rw [if_pos (by rw [List.all_append, hallM]; simp [g3])] at pX
        have hres : NF m3 ∧ (∀ n, memR m3 n → memR m n) ∧ er3 = if m3 = [] then 7 else 0 := by
          unfold frOut at ho3
          rw [pX] at ho3
          rcases ho3 with ⟨q, _⟩ | ⟨_, q, _⟩ | ⟨_, _, q1, q2, q3⟩
          · exact absurd q o1
          · exact absurd rfl q
          · refine ⟨q1, fun n hn => (o4 n).2 ?_, q3⟩
            obtain ⟨c1, c2⟩ := (q2 n).1 hn
            rw [pM]
            have hU : useL (M ++ [x]) f = useL M f := by
              unfold useL; rw [List.filter_append]; simp [g2]
            refine ⟨by rw [← hU]; exact c1, fun q => c2 ?_⟩
            rw [away_mem] at q ⊢
            refine q.imp id fun ⟨r, hr, hn⟩ => ⟨r, ?_, hn⟩
            unfold restL at hr ⊢
            rw [List.filter_append, List.map_append]
            exact List.mem_append_left _ hr
        obtain ⟨n1, n2, n3⟩ := hres
        refine bsel_in (fun c => ?_) fun c => ?_
        · have c : er3 = 7 := by simpa using c
          have h0 : m3 = [] := by
            by_cases q : m3 = []
            · exact q
            · rw [if_neg q] at n3; omega
          refine awake_spec h12 fun A13 h13 => bsel_t rfl ?_
          have : (Int.ofNat s60.len == 0) = true := by rw [h0] at hl12; simp at hl12; simp [hl12]
          rw [this]
          exact hk A13 h13.tail.tail.tail.tail.tail
        · have c : er3 ≠ 7 := by simpa using c
          have h0 : m3 ≠ [] := fun q => by rw [if_pos q] at n3; exact c n3
          rw [if_neg h0] at n3
          refine ⟨fun y mm h' => ∃ v : Nat, y = v ∧ mm + v = m3.length ∧ h' = A12, ⟨m3.length, 0, rfl, rfl, rfl⟩, ?_⟩
          intro y mm A13 ⟨v, e3, e4, e5⟩
          subst e3 e5
          refine bsel_in (fun c => ?_) fun c => ?_
          · have c : (v : Int) < s60.len := of_decide_eq_true c
            obtain ⟨r, hrv⟩ : ∃ r, m3[v]? = some r := ⟨m3[v]'(by omega), by simp⟩
            have hrm := List.mem_of_getElem? hrv
            have hr12 := n1.1 r hrm
            obtain ⟨a, q1, r1, r2⟩ := rd_rg (k := 0) h12 rfl reads_slo hrv
            rw [q1]
            refine inB_in (by omega) c (r1 _ (r2 _ ?_))
            have b1 : someB m r.1 = true := someB_iff.2 (n2 _ ⟨r, hrm, by unfold inR; omega⟩)
            have b2 : someB m (r.2 - 1) = true := someB_iff.2 (n2 _ ⟨r, hrm, by unfold inR; omega⟩)
            have hfb : 1 ≤ f ∧ f ≤ 1048576 := by unfold badArg at o1; simp only at o1; omega
            have hin := use_in (bs := entL M) (entL_rng _) hfb.1 ((o4 _).1 (n2 _ ⟨r, hrm, show inR r (r.2 - 1) by unfold inR; omega⟩)).1
            have w1 : IntKind.wrap .i64 (r.2 - 1) = r.2 - 1 := by rw [w64] <;> omega
            rw [w1]
            refine Some_spec (k := 3) h12 rfl reads_slo (by omega) (bsel_f (by rw [b1]; rfl) ?_)
            refine Some_spec (k := 3) h12 rfl reads_slo (by omega) (bsel_f (by rw [b2]; rfl) ?_)
            exact ⟨mm - 1, by omega, v + 1, by rw [w64] <;> omega, by omega, rfl⟩
          · refine awake_spec h12 fun A14 h14 => bsel_t rfl ?_
            rw [n3]
            exact hk A14 h14.tail.tail.tail.tail.tail
      · have fin : ∀ A', Own (SlO s34 2 (rgs m) :: SlO sa 1 ((entL M).map byV) :: l) A' → demesnelaw06_awake_A (fun b45 h46 => Q b45 h46) A' := fun A' h' => awake_spec h' fun A8 h8 => hk A8 h8.tail.tail
        refine bsel_in (fun g => fin _ h6) fun g1 => bsel_in (fun g => fin _ h6) fun g2 => bsel_in (fun g => fin _ h6) fun g3 => ⟨h6, by simpa using g1, by simpa using g2, ?_⟩
        unfold areaB
        rw [g3]; rfl
    · refine bsel_f (by simp) ?_
      refine Same_spec (k := 1) (k2 := 0) h5 rfl reads_slo rfl reads_slo (by omega) (bsel_f (by simp) ?_)
      exact h5.tail.cons fun C hC => hC.cons fun D hD => hD.tail
  · refine ⟨fun a b y m h' => ∃ v : Nat, y = v ∧ m + v = 30 ∧ v ≤ L.length ∧ (a.a = none → entL (L.take v) = []) ∧ (b.a = none → entL (L.take v).reverse = []) ∧ Own (SlO a 1 ((entL (L.take v)).map byV) :: SlO b 1 ((entL (L.take v).reverse).map byV) :: l) h',
      ⟨30, 0, rfl, rfl, by omega, fun g => (nomatch g), fun g => (nomatch g), h2b⟩, ?_⟩
    intro sa sb y m A3 ⟨v, e1, e2, e3, ha0, hb0, h3⟩
    subst e1
    refine ⟨fun h' => h' = A3 ∧ v < L.length ∧ v < 30, ?_, ?_⟩
    · intro A4 ⟨e4, c1, c2⟩
      subst e4
      obtain ⟨a, hav⟩ : ∃ a, L[v]? = some a := ⟨L[v]'(by omega), by simp⟩
      obtain ⟨ad, q1, r1, r2, r3⟩ := rd_ar (k := k + 2) h3 (by simpa using e) hr hav
      rw [q1]
      refine inB_in (by omega) (by omega) (r1 _ (inB_in (by omega) (by omega) (r2 _ (inB_in (by omega) (by omega) (r3 _ ?_)))))
      refine Entry_spec (a := a) h3 fun s21 A5 hs21 h5 => ?_
      have hel := entL_len (L.take v)
      have hel2 := entL_len (L.take v).reverse
      have hMl : (L.take v).length = v := by simp; omega
      refine app_bytes (i := 0) rfl h5.swap rfl reads_slo (fun g => absurd g hs21) ha0 (by rw [entB_len]; omega) fun s23 A6 hs23 h6 => ?_
      refine new_C (cs := []) h6 fun b25 A7 h7 => ?_
      have h7 : Own (SlO ⟨some ⟨b25, 0, none⟩, 0, 0⟩ 1 (([] : List Int).map byV) :: _) A7 := h7.imp fun B _ => ⟨⟨by simp, Nat.le_refl _⟩, .inl rfl⟩
      refine app_bytes (i := 1) (b1 := []) (b2 := entB a) rfl h7 rfl reads_slo (fun g => absurd g hs21) (fun g => nomatch g) (by simp [entB_len]) fun s27 A8 hs27 h8 => ?_
      refine app_bytes (i := 2) rfl h8 rfl reads_slo hb0 hs27 (by rw [List.length_append, entB_len, List.length_reverse] at *; simp; omega) fun s29 A9 hs29 h9 => ?_
      have c3 : entL (L.take v) ++ entB a = entL (L.take (v + 1)) := by rw [take_at hav, entL_app]; simp [entL]
      have c4 : [] ++ entB a ++ entL (L.take v).reverse = entL (L.take (v + 1)).reverse := by rw [take_at hav, List.reverse_append]; simp [entL]
      rw [c3] at hs23 h9
      rw [c4] at hs29 h9
      refine ⟨m - 1, by omega, v + 1, by rw [w64] <;> omega, by omega, by omega, hs23, hs29, ?_⟩
      exact (h9.cons fun C hC => hC.cons fun D hD => hD.tail.tail).swap
    · refine bsel_in (fun c1 => bsel_in (fun c2 => ?_) fun c2 => ?_) fun c1 => ?_
      · have c1 : (v : Int) < s.len := of_decide_eq_true c1
        have c2 : (v : Int) < 30 := of_decide_eq_true c2
        exact ⟨rfl, by omega, by omega⟩
      · exact ⟨v, by omega, ha0, hb0, h3⟩
      · exact ⟨v, by omega, ha0, hb0, h3⟩
end Go.Dn
