/- bootmap.Merge. -/
import Derived.Test.YthplpkndhmhahaaRgs
namespace Go.Dn
open Go.Proofs

variable {A : AH} {l R : List SP} {P : SP} {k : Nat} {s : Sl} {L : List Rg}
theorem CloneR_spec {Q : Sl → AH → Prop} (h : Own l A) (e : l[k]? = some P) (hr : Reads P s 2 (rgs L)) (hb : L.length ≤ 1000000) (hn : s.a = none → L = [])
    (hk : ∀ s' A', (s'.a = none → L = []) → Own (SlO s' 2 (rgs L) :: l) A' → Q s' A') : slices_Clone_api_Range_api_Range_A s Q A := by
  have hl := rd_rg_len h e hr
  unfold slices_Clone_api_Range_api_Range_A
  refine bsel_in (fun c => ?_) fun c => ?_
  · have h0 := hn (by simpa using c)
    subst h0
    exact hk _ A (fun _ => rfl) h.nilS
  · refine new_C (cs := []) h fun b1 A1 h1 => ?_
    have h1 : Own (SlO ⟨some ⟨b1, 0, none⟩, 0, 0⟩ 2 [] :: l) A1 := h1.imp fun B _ => ⟨⟨by simp, Nat.le_refl _⟩, .inl rfl⟩
    refine ap_reads (i := k) h1 e hr (fun g => by rw [hn g]; rfl) (fun g => by cases g) rfl (fun v hv => rgs_one hv) ⟨by simp only [hl]; omega, by simp only [hl]; omega⟩ fun s' A2 j1 j2 h2 => ?_
    exact hk s' A2 (fun g => rgs_nil (by simpa using j2 g)) (by simpa using h2)
def bad (r : Rg) : Bool := decide (r.2 ≤ r.1)
def firstBad : List Rg → Option Nat
  | [] => none
  | d :: r => if bad d then some 0 else (firstBad r).map (· + 1)
theorem firstBad_none : ∀ {L : List Rg}, firstBad L = none → ∀ r ∈ L, bad r = false
  | [], _, _, h => nomatch h
  | d :: L, h, r, hr => by
    unfold firstBad at h
    split at h
    · cases h
    · rename_i g
      rcases List.mem_cons.1 hr with rfl | hr
      · simpa using g
      · exact firstBad_none (by cases e : firstBad L with | none => rfl | some j => rw [e] at h; cases h) r hr
theorem firstBad_some : ∀ {L : List Rg} {j : Nat}, firstBad L = some j → ∃ r, L[j]? = some r ∧ bad r = true ∧ ∀ r ∈ L.take j, bad r = false
  | [], _, h => by simp [firstBad] at h
  | d :: L, j, h => by
    unfold firstBad at h
    split at h
    · rename_i g
      cases h
      exact ⟨d, rfl, g, fun _ h => by simp at h⟩
    · rename_i g
      cases e : firstBad L with
      | none => rw [e] at h; cases h
      | some i =>
        rw [e] at h
        cases h
        obtain ⟨r, h1, h2, h3⟩ := firstBad_some e
        refine ⟨r, by simpa using h1, h2, fun q hq => ?_⟩
        simp at hq
        rcases hq with rfl | hq
        · simpa using g
        · exact h3 q hq
theorem drop_at {α : Type} {L : List α} {v : Nat} {y : α} (h : L[v]? = some y) : L.drop v = y :: L.drop (v + 1) := by
  obtain ⟨hv, e⟩ := List.getElem?_eq_some_iff.1 h
  rw [List.drop_eq_getElem_cons hv, e]
theorem firstBad_drop {v : Nat} {d : Rg} (hd : L[v]? = some d) : firstBad (L.drop v) = if bad d then some 0 else (firstBad (L.drop (v + 1))).map (· + 1) := by
  rw [drop_at hd]
  rfl
theorem take_at {α : Type} {L : List α} {v : Nat} {y : α} (h : L[v]? = some y) : L.take (v + 1) = L.take v ++ [y] := by
  obtain ⟨hv, e⟩ := List.getElem?_eq_some_iff.1 h
  rw [List.take_add_one, h]; rfl
theorem IndexBad_spec {Q : Int → AH → Prop} (h : Own l A) (e : l[k]? = some P) (hr : Reads P s 2 (rgs L)) (hb : L.length ≤ 1000000) (h0 : firstBad L = none → Q (-1) A) (h1 : ∀ j : Nat, firstBad L = some j → Q j A) :
    slices_IndexFunc_api_Range_api_Range_A s Q A := by
  have hl := rd_rg_len h e hr
  unfold slices_IndexFunc_api_Range_api_Range_A slices_IndexFunc_api_Range_api_Range_G
  refine ⟨fun x m h' => ∃ v : Nat, x = v ∧ m + v = L.length ∧ h' = A ∧ firstBad L = (firstBad (L.drop v)).map (· + v), ⟨L.length, 0, rfl, rfl, rfl, by rw [List.drop_zero]; cases firstBad L <;> rfl⟩, ?_⟩
  intro x m A1 ⟨v, e1, e2, e3, e4⟩
  subst e1 e3
  refine bsel_in (fun c => ?_) fun c => ?_
  · have c : (v : Int) < s.len := of_decide_eq_true c
    obtain ⟨d, hd⟩ : ∃ d, L[v]? = some d := ⟨L[v]'(by omega), by simp⟩
    obtain ⟨a, q1, r1, r2⟩ := rd_rg h e hr hd
    rw [q1]
    refine inB_in (by omega) c (r1 _ (r2 _ ?_))
    unfold bootmap_Merge_1_A
    rw [firstBad_drop hd] at e4
    refine bsel_in (fun g => ?_) fun g => ?_
    · rw [if_pos (show bad d = true from g)] at e4
      exact h1 v (by rw [e4]; simp)
    · rw [if_neg (by rw [show bad d = false from g]; simp)] at e4
      refine ⟨m - 1, by omega, v + 1, by rw [w64] <;> omega, by omega, rfl, ?_⟩
      rw [e4]
      cases firstBad (L.drop (v + 1)) with
      | none => rfl
      | some j => simp; omega
  · have c : ¬(v : Int) < s.len := of_decide_eq_false c
    refine h0 ?_
    rw [e4, List.drop_eq_nil_of_le (by omega)]; rfl
theorem zeroCells_one {z : Array Value} {n : Nat} (hz : ∀ v ∈ z.toList, v.oneCell' = true) : ∀ v ∈ (Builtin.zeroCells z n).toList, v.oneCell' = true := fun v hv => by
  have hv := Array.mem_toList_iff.1 hv
  unfold Builtin.zeroCells at hv
  obtain ⟨i, hi, rfl⟩ := Array.mem_map.1 hv
  have hi := Array.mem_range.1 hi
  have h0 : 0 < z.size := by
    rcases Nat.eq_zero_or_pos z.size with q | q
    · rw [q] at hi; simp at hi
    · exact q
  have hlt : i % z.size < z.size := Nat.mod_lt _ h0
  rw [getElem!_pos z _ hlt]
  exact hz _ (by simp)
def good (r : Rg) : Bool := !bad r
theorem set_set_at {C : List Rg} {i : Nat} {y : Rg} (hi : i < C.length) : (C.set i y).take (i + 1) = C.take i ++ [y] := by
  rw [take_at (v := i) (y := y) (by simp [hi]), List.take_set_of_le (Nat.le_refl _)]
theorem Delete_spec {Q : Sl → AH → Prop} (h : Own (SlO s 2 (rgs L) :: R) A) (hs : s.a = none → L = []) (hb : L.length ≤ 1000000)
    (hk : ∀ s' A', (s'.a = none → L.filter good = []) → Own (SlO s' 2 (rgs (L.filter good)) :: R) A' → Q s' A') : slices_DeleteFunc_api_Range_api_Range_A s Q A := by
  have hl := h.rgs_len
  unfold slices_DeleteFunc_api_Range_api_Range_A slices_DeleteFunc_api_Range_api_Range_G
  refine IndexBad_spec (k := 0) h rfl reads_slo hb (fun h0 => ?_) fun j hj => ?_
  · refine bsel_t (by simp) ?_
    have : L.filter good = L := List.filter_eq_self.2 fun r hr => by simp [good, firstBad_none h0 r hr]
    exact hk s A (fun g => by rw [this]; exact hs g) (by rw [this]; exact h)
  · refine bsel_f (by simp) ?_
    obtain ⟨r0, g1, g2, g3⟩ := firstBad_some hj
    have hjl := (List.getElem?_eq_some_iff.1 g1).1
    have hf0 : L.take j = (L.take j).filter good := (List.filter_eq_self.2 fun r hr => by simp [good, g3 r hr]).symm
    refine ⟨fun x y m h' => ∃ (i v : Nat) (C : List Rg), x = i ∧ y = v ∧ m + v = L.length ∧ C.length = L.length ∧ i < v ∧ v ≤ L.length ∧ C.take i = (L.take v).filter good ∧ C.drop v = L.drop v ∧ Own (SlO s 2 (rgs C) :: R) h',
      ⟨L.length - (j + 1), j, j + 1, L, rfl, by rw [w64] <;> omega, by omega, rfl, by omega, by omega, ?_, rfl, h⟩, ?_⟩
    · rw [take_at g1, List.filter_append, ← hf0]
      simp [good, g2]
    · intro x y m A1 ⟨i, v, C, e1, e2, e3, e4, e5, e6, e7, e8, h1⟩
      subst e1 e2
      have hl1 := h1.rgs_len
      refine bsel_in (fun c => ?_) fun c => ?_
      · have c : (v : Int) < s.len := of_decide_eq_true c
        refine ⟨fun x h' => ∃ (i' : Nat) (C' : List Rg), x = i' ∧ C'.length = L.length ∧ i' < v + 1 ∧ C'.take i' = (L.take (v + 1)).filter good ∧ C'.drop (v + 1) = L.drop (v + 1) ∧ Own (SlO s 2 (rgs C') :: R) h', ?_, ?_⟩
        · intro x A2 ⟨i', C', f1, f2, f3, f4, f5, h2⟩
          subst f1
          exact ⟨m - 1, by omega, i', v + 1, C', rfl, by rw [w64] <;> omega, by omega, f2, f3, by omega, f4, f5, h2⟩
        · obtain ⟨d, hd⟩ : ∃ d, L[v]? = some d := ⟨L[v]'(by omega), by simp⟩
          have hdC : C[v]? = some d := by
            have := congrArg (·[0]?) e8
            simpa [hd] using this
          have hdrop : C.drop (v + 1) = L.drop (v + 1) := by
            have := congrArg (List.drop 1) e8
            simpa [Nat.add_comm] using this
          obtain ⟨a, q1, r1, r2⟩ := rd_rg (k := 0) h1 rfl reads_slo hdC
          rw [q1]
          refine inB_in (by omega) c (r1 _ (r2 _ ?_))
          unfold bootmap_Merge_1_A
          have hbd : bad d = decide (d.2 ≤ d.1) := rfl
          refine bsel_in (fun g => ?_) fun g => ?_
          · have g : bad d = false := by rw [hbd]; simpa using g
            have hi : i < C.length := by omega
            refine inB_in (by omega) (by omega) ?_
            obtain ⟨y0, hy0⟩ : ∃ y0, C[i]? = some y0 := ⟨C[i], by simp⟩
            rw [Int.toNat_natCast]
            refine st_slo h1 q1 (by rw [rgs_len]; omega) rfl fun A2 h2 => ?_
            rw [rgs_set0 d.1 hy0] at h2
            have had : Addr.add (Addr.add a (i * 2)) 1 = Addr.add a (i * 2 + 1) := by
              obtain ⟨b, rest, ha, _⟩ := h2.openS (fun g => by have := rgs_len (C.set i (d.1, y0.2)); rw [g] at this; simp at this; omega)
              rw [q1] at ha
              cases ha
              rw [add_at, add_at, add_at]
              congr 1
            rw [had]
            refine st_slo h2 q1 (by rw [rgs_len]; simp; omega) rfl fun A3 h3 => ?_
            rw [rgs_set (r := (d.1, y0.2)) d.2 (by simp [hi]), List.set_set] at h3
            refine ⟨i + 1, C.set i d, by rw [w64] <;> omega, by simpa using e4, by omega, ?_, ?_, h3⟩
            · rw [set_set_at hi, e7, take_at hd, List.filter_append]
              simp [good, g]
            · rw [List.drop_set_of_lt (by omega), hdrop]
          · have g : bad d = true := by rw [hbd]; simpa using g
            refine ⟨i, C, rfl, e4, by omega, ?_, hdrop, h1⟩
            rw [e7, take_at hd, List.filter_append]
            simp [good, g]
      · have c : ¬(v : Int) < s.len := of_decide_eq_false c
        have hv : v = L.length := by omega
        subst hv
        have hC : rgs C ≠ [] := fun g => by have := rgs_nil g; rw [this] at e4; simp at e4; omega
        obtain ⟨b, rest, ha, hc, hn1, hn2, h2⟩ := h1.openS hC
        refine inB_in (by omega) (by omega) ?_
        have hsl : (if s.cap = Int.toNat (i : Int) then s.a else Option.map (fun x => Addr.add x (Int.toNat (i : Int) * 2)) s.a) = some ⟨b, i * 2, none⟩ := by
          rw [if_neg (by omega), ha]
          simp [add_at]
        rw [hsl, Int.toNat_natCast]
        show aStL (Builtin.zeroCells _ _).toList (Addr.add ⟨b, i * 2, none⟩ 0) 0 A1 _
        rw [add_at, Nat.add_zero]
        have hsplit : rgs C ++ rest = rgs (C.take i) ++ rgs (C.drop i) ++ rest := by
          rw [← rgs_app]
          rw [List.take_append_drop]
        rw [hsplit] at h2
        refine stL_spec _ 0 A1 (rgs (C.take i)) (rgs (C.drop i)) rest _ h2 ?_ ?_ (zeroCells_one (fun v hv => by simp at hv; subst hv; rfl)) fun A2 h3 => ?_
        · have hz := zeroCells_len (z := #[Value.int IntKind.i64 0, Value.int IntKind.i64 0]) (n := s.len - i)
          have hz2 : (#[Value.int IntKind.i64 0, Value.int IntKind.i64 0] : Array Value).size = 2 := rfl
          rw [hz2] at hz
          show (rgs (C.drop i)).length = (Builtin.zeroCells #[Value.int IntKind.i64 0, Value.int IntKind.i64 0] (s.len - i)).size
          rw [rgs_len, hz, List.length_drop]
          omega
        · rw [rgs_len]; simp; omega
        · refine inB_in (by omega) (by omega) ?_
          have hsa : (if s.cap = 0 then s.a else Option.map (fun x => Addr.add x (0 * 2)) s.a) = some ⟨b, 0, none⟩ := by
            rw [if_neg (by omega), ha]
            simp [add_at]
          rw [hsa]
          refine hk _ A2 (fun g => nomatch g) ?_
          rw [e7, List.take_length, List.append_assoc] at h3
          refine Own.shutS h3 rfl ?_ ?_ ?_
          · have hz := zeroCells_len (z := #[Value.int IntKind.i64 0, Value.int IntKind.i64 0]) (n := s.len - i)
            have hz2 : (#[Value.int IntKind.i64 0, Value.int IntKind.i64 0] : Array Value).size = 2 := rfl
            rw [hz2] at hz
            have h5 := congrArg List.length e7
            rw [List.take_length, List.length_take] at h5
            have h6 : (rgs C ++ rest).length = C.length * 2 + rest.length := by rw [List.length_append, rgs_len]
            rw [h6] at hc
            show (rgs (L.filter good) ++ ((Builtin.zeroCells #[Value.int IntKind.i64 0, Value.int IntKind.i64 0] (s.len - i)).toList ++ rest)).length = s.cap * 2
            have hz' : (Builtin.zeroCells #[Value.int IntKind.i64 0, Value.int IntKind.i64 0] (s.len - i)).toList.length = (s.len - i) * 2 := hz
            rw [List.length_append, List.length_append, hz', rgs_len, ← h5]
            omega
          · have h5 := congrArg List.length e7
            rw [rgs_len]
            simp only [List.length_take, Int.toNat_natCast] at h5 ⊢
            rw [List.take_length] at h5
            omega
          · simp only [Int.toNat_natCast]; omega
theorem Sort_spec {K : AP} (h : Own (SlO s 2 (rgs L) :: R) A) (hs : s.a = none → L = []) (hb : L.length ≤ 1000000)
    (hk : ∀ d' : List Rg, d'.Perm L → d'.Pairwise (fun x y => x.1 ≤ y.1) → ∀ A', Own (SlO s 2 (rgs d') :: R) A' → K A') : slices_SortFunc_api_Range_api_Range_A s K A := by
  have hl := h.rgs_len
  unfold slices_SortFunc_api_Range_api_Range_A
  have hsrt : ∀ d' : List Rg, d'.Pairwise (fun x y => ltOf rgCf y x = false) → d'.Pairwise (fun x y => x.1 ≤ y.1) := fun d' hd => hd.imp fun {x y} g => by rw [rgLt] at g; simp at g; exact g
  by_cases hne : L = []
  · subst hne
    have h0 : s.len = 0 := by simpa using hl
    refine ⟨[], by simp [h0], by omega, ?_, fun a ha i hi => by rw [h0] at hi; omega, fun d' hp hd => ?_⟩
    · cases ha : s.a with
      | none => rfl
      | some a => exact ⟨by simp [h0], fun i hi => by rw [h0] at hi; omega⟩
    · have := hp.eq_nil
      subst this
      have hst : aStR s.a 0 [] A K ↔ K A := by cases s.a <;> exact Iff.rfl
      show aStR s.a 0 [] A K
      rw [hst]
      exact hk [] (List.Perm.refl _) List.Pairwise.nil A h
  · have hr : rgs L ≠ [] := fun g => hne (rgs_nil g)
    obtain ⟨b, rest, ha, hc, hn1, hn2, h2⟩ := h.openS hr
    obtain ⟨B, u, hB⟩ := h.sat
    obtain ⟨t, ht⟩ := h2.at (i := 0) rfl
    refine ⟨L, hl.symm, by omega, ?_, fun a ha' i hi => ?_, fun d' hp hd => ?_⟩
    · exact rowA_of hB.look u (fun g => by rw [ha] at g; cases g)
    · rw [ha] at ha'
      cases ha'
      rw [add_at]
      simp [frozA, ht]
    · rw [ha]
      have hlen : d'.length = L.length := hp.length_eq
      show aStL (rgs d') (Addr.add ⟨b, 0, none⟩ 0) 0 A K
      rw [add_at]
      refine stL_spec (rgs d') 0 A [] (rgs L) rest K h2 (by rw [rgs_len, rgs_len, hlen]) rfl (fun v hv => rgs_one hv) fun A' h' => ?_
      refine hk d' hp (hsrt d' hd) A' (Own.shutS h' ha ?_ ?_ hn2)
      · rw [← hc]; simp [rgs_len, hlen]
      · rw [hn1, rgs_len, rgs_len, hlen]
theorem mg_none {out : List Rg} {r : Rg} (h : out.getLast? = none) : mgStep out r = out ++ [r] := by
  have h0 : out = [] := List.getLast?_eq_none_iff.1 h
  subst h0
  rfl
theorem mem_filter_good {L : List Rg} {n : Int} : memR (L.filter good) n ↔ memR L n := by
  constructor
  · rintro ⟨r, hr, h⟩
    exact ⟨r, (List.mem_filter.1 hr).1, h⟩
  · rintro ⟨r, hr, h1, h2⟩
    refine ⟨r, List.mem_filter.2 ⟨hr, ?_⟩, h1, h2⟩
    have : bad r = false := by unfold bad; simp; omega
    simp [good, this]
theorem Merge_spec {Q : Sl → AH → Prop} (h : Own l A) (e : l[k]? = some P) (hr : Reads P s 2 (rgs L)) (hb : L.length ≤ 100000) (hn : s.a = none → L = [])
    (hk : ∀ m : List Rg, NF m → (∀ n, memR m n ↔ memR L n) → m.length ≤ L.length → ∀ s' A', (s'.a = none → m = []) → Own (SlO s' 2 (rgs m) :: l) A' → Q s' A') : bootmap_Merge_A s Q A := by
  unfold bootmap_Merge_A bootmap_Merge_G
  refine CloneR_spec h e hr (by omega) hn fun s1 A1 hs1 h1 => ?_
  refine Delete_spec h1 hs1 (by omega) fun s3 A2 hs3 h2 => ?_
  have hfl : (L.filter good).length ≤ L.length := List.length_filter_le _ _
  refine Sort_spec h2 hs3 (by omega) fun d hp hd A3 h3 => ?_
  have hdl : d.length ≤ L.length := by rw [hp.length_eq]; exact hfl
  have hs3' : s3.a = none → d = [] := fun g => by
    have := hs3 g
    rw [this] at hp
    exact hp.eq_nil
  have hdlt : ∀ r ∈ d, r.1 < r.2 := fun r hr' => by
    have := (List.mem_filter.1 (hp.mem_iff.1 hr')).2
    simp [good, bad] at this
    exact this
  have hmem : ∀ n, memR d n ↔ memR L n := fun n => by
    rw [← mem_filter_good (L := L)]
    constructor
    · rintro ⟨r, hr', g⟩; exact ⟨r, hp.mem_iff.1 hr', g⟩
    · rintro ⟨r, hr', g⟩; exact ⟨r, hp.mem_iff.2 hr', g⟩
  have hl3 := h3.rgs_len
  refine ⟨fun o x m h' => ∃ (v : Nat) (out : List Rg), x = v ∧ m + v = d.length ∧ MgI (d.take v) out ∧ out.length ≤ v ∧ (o.a = none → out = []) ∧ Own (SlO o 2 (rgs out) :: SlO s3 2 (rgs d) :: l) h',
    ⟨d.length, 0, [], rfl, by omega, by simpa using MgI.nil, by simp, fun _ => rfl, h3.nilS⟩, ?_⟩
  intro o x m A4 ⟨v, out, e1, e2, hI, hol, hon, h4⟩
  subst e1
  have hol4 := h4.rgs_len
  refine bsel_in (fun c => ?_) fun c => ?_
  · have c : (v : Int) < s3.len := of_decide_eq_true c
    obtain ⟨r, hrv⟩ : ∃ r, d[v]? = some r := ⟨d[v]'(by omega), by simp⟩
    have hrm : r ∈ d := List.mem_of_getElem? hrv
    have hstep : MgI (d.take (v + 1)) (mgStep out r) := by
      rw [take_at hrv]
      refine mgStep_ok hI (hdlt r hrm) fun p hp' => ?_
      obtain ⟨i, hi⟩ := List.mem_iff_getElem?.1 hp'
      have hlt : i < v := by
        have := (List.getElem?_eq_some_iff.1 hi).1
        simp at this; omega
      rw [List.getElem?_take_of_lt hlt] at hi
      obtain ⟨hi1, hi2⟩ := List.getElem?_eq_some_iff.1 hi
      obtain ⟨hv1, hv2⟩ := List.getElem?_eq_some_iff.1 hrv
      have := List.pairwise_iff_getElem.1 hd i v hi1 hv1 hlt
      rw [hi2, hv2] at this
      exact this
    refine ⟨fun o' h' => ∃ out', out' = mgStep out r ∧ out'.length ≤ v + 1 ∧ (o'.a = none → out' = []) ∧ Own (SlO o' 2 (rgs out') :: SlO s3 2 (rgs d) :: l) h', ?_, ?_⟩
    · intro o' A5 ⟨out', f1, f2, f3, h5⟩
      refine ⟨m - 1, by omega, v + 1, out', by rw [w64] <;> omega, by omega, ?_, f2, f3, h5⟩
      rw [f1]; exact hstep
    · obtain ⟨a, q1, r1, r2⟩ := rd_rg (k := 1) h4 rfl reads_slo hrv
      rw [q1]
      refine inB_in (by omega) c (r1 _ (r2 _ ?_))
      refine ⟨fun b h' => h' = A4 ∧ b = (match out.getLast? with | some q => decide (r.1 ≤ q.2) | none => false), ?_, ?_⟩
      · intro b A5 ⟨f1, f2⟩
        subst f1
        cases hlast : out.getLast? with
        | none =>
          rw [hlast] at f2
          subst f2
          refine bsel_f rfl ?_
          refine push_rg h4 hon (by omega) fun s' A6 g1 h6 => ?_
          exact ⟨out ++ [r], (mg_none hlast).symm, by simp; omega, g1, h6⟩
        | some q =>
          rw [hlast] at f2
          have hmg : mgStep out r = if r.1 ≤ q.2 then out.dropLast ++ [(q.1, if r.2 > q.2 then r.2 else q.2)] else out ++ [r] := by unfold mgStep; rw [hlast]
          obtain ⟨ol, hol'⟩ := List.getLast?_eq_some_iff.1 hlast
          have hpos : 0 < out.length := by rw [hol']; simp
          have hqi : out[out.length - 1]? = some q := by rw [hol']; simp
          by_cases hle : r.1 ≤ q.2
          · refine bsel_t (by rw [f2]; simpa using hle) ?_
            have hw : IntKind.wrap .i64 (Int.ofNat o.len - 1) = ((out.length - 1 : Nat) : Int) := by
              rw [w64] <;> simp only [Int.ofNat_eq_natCast] <;> omega
            rw [hw]
            obtain ⟨a2, q2, t1, t2⟩ := rd_rg (k := 0) h4 rfl reads_slo hqi
            rw [q2]
            refine inB_in (by omega) (by omega) (t2 _ ?_)
            refine inB_in (by omega) (by omega) ?_
            have had : Addr.add (Addr.add a2 (Int.toNat ((out.length - 1 : Nat) : Int) * 2)) 1 = Addr.add a2 ((out.length - 1) * 2 + 1) := by
              obtain ⟨b, rest, ha, _⟩ := h4.openS (fun g => by have := rgs_nil g; rw [this] at hpos; simp at hpos)
              rw [q2] at ha
              cases ha
              rw [add_at, add_at, add_at, Int.toNat_natCast]
              congr 1
            rw [had]
            refine st_slo h4 q2 (by rw [rgs_len]; omega) rfl fun A6 h6 => ?_
            rw [rgs_set _ hqi] at h6
            refine ⟨_, rfl, ?_, fun g => ?_, ?_⟩
            · rw [hmg, if_pos hle, hol']; simp; rw [hol'] at hol; simp at hol; omega
            · rw [q2] at g; cases g
            · rw [hmg, if_pos hle]
              have : out.set (out.length - 1) (q.1, if r.2 > q.2 then r.2 else q.2) = out.dropLast ++ [(q.1, if r.2 > q.2 then r.2 else q.2)] := by
                rw [hol']
                simp [List.dropLast_concat, List.set_append_right]
              rw [← this]
              exact h6
          · refine bsel_f (by rw [f2]; simpa using hle) ?_
            refine push_rg h4 hon (by omega) fun s' A6 g1 h6 => ?_
            exact ⟨out ++ [r], by rw [hmg, if_neg hle], by simp; omega, g1, h6⟩
      · refine bsel_in (fun g => ?_) fun g => ?_
        · have g : (0 : Int) < o.len := by simpa using g
          have hpos : 0 < out.length := by omega
          obtain ⟨q, hq⟩ : ∃ q, out.getLast? = some q := by
            cases e' : out.getLast? with
            | none => rw [List.getLast?_eq_none_iff.1 e'] at hpos; simp at hpos
            | some q => exact ⟨q, rfl⟩
          obtain ⟨ol, hol'⟩ := List.getLast?_eq_some_iff.1 hq
          have hqi : out[out.length - 1]? = some q := by rw [hol']; simp
          have hw : IntKind.wrap .i64 (Int.ofNat o.len - 1) = ((out.length - 1 : Nat) : Int) := by
            rw [w64] <;> simp only [Int.ofNat_eq_natCast] <;> omega
          rw [hw]
          obtain ⟨a2, q2, t1, t2⟩ := rd_rg (k := 0) h4 rfl reads_slo hqi
          rw [q2]
          exact inB_in (by omega) (by omega) (t2 _ ⟨rfl, by rw [hq]⟩)
        · have g : ¬ (0 : Int) < o.len := by simpa using g
          have h0 : out = [] := List.length_eq_zero_iff.1 (by omega)
          exact ⟨rfl, by rw [h0]; rfl⟩
  · have c : ¬(v : Int) < s3.len := of_decide_eq_false c
    have hv : v = d.length := by omega
    subst hv
    rw [List.take_length] at hI
    exact hk out hI.nf (fun n => (hI.mem n).trans (hmem n)) (by omega) o A4 hon (h4.cons fun C hC => hC.tail)
end Go.Dn
