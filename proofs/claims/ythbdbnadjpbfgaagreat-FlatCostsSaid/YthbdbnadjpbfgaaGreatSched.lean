/- Lists of numbers; whose turn it is. -/
import Derived.Test.YthbdbnadjpbfgaaGreatG
import Derived.Test.YthbdbnadjpbfgaaGreatBas
namespace Go.Dn

variable {A : AH} {l R : List SP} {P : SP} {k q : Nat} {s : Sl} {L : List Int}
def ivC (L : List Int) : List Value := L.map (.int .i64)
theorem ivC_len (L : List Int) : (ivC L).length = L.length := by simp [ivC]
theorem ivC_one {v : Value} (h : v ∈ ivC L) : v.oneCell' = true := by
  obtain ⟨x, _, rfl⟩ := List.mem_map.1 h
  rfl
theorem ivC_at {v : Nat} {x : Int} (h : L[v]? = some x) : (ivC L)[v]? = some (.int .i64 x) := by unfold ivC; rw [List.getElem?_map, h]; rfl
theorem rd_iv_len (h : Own l A) (e : l[k]? = some P) (hr : Reads P s 1 (ivC L)) : s.len = L.length := by
  have := rd_len h e hr
  rw [ivC_len] at this
  omega
theorem rd_iv {v : Nat} {x : Int} (h : Own l A) (e : l[k]? = some P) (hr : Reads P s 1 (ivC L)) (hv : L[v]? = some x) : ∃ a, s.a = some a ∧ ∀ K : Int → Prop, K x → aI .i64 (Addr.add a v) A K := by
  obtain ⟨bb, o, q0, c0⟩ := rd_cell h e hr (ivC_at hv)
  exact ⟨_, q0, fun K hK => ⟨x, by rw [add_at]; exact c0, hK⟩⟩
theorem drop_at {α : Type} {L : List α} {v : Nat} {z : α} (hz : L[v]? = some z) : L.drop v = z :: L.drop (v + 1) := by
  have hlt := (List.getElem?_eq_some_iff.1 hz).1
  rw [List.drop_eq_getElem_cons hlt]
  rw [List.getElem?_eq_getElem hlt] at hz
  rw [Option.some.inj hz]
theorem IndexI_spec {x : Int} {Q : Int → AP} (h : Own l A) (e : l[k]? = some P) (hr : Reads P s 1 (ivC L)) (hb : L.length ≤ 100000)
    (h0 : x ∉ L → Q (-1) A) (h1 : ∀ v : Nat, L[v]? = some x → x ∉ L.take v → Q v A) : slices_Index_int_int_A s x Q A := by
  have hl := rd_iv_len h e hr
  unfold slices_Index_int_int_A
  refine ⟨fun y m A' => ∃ v : Nat, y = v ∧ m + v = L.length ∧ A' = A ∧ x ∉ L.take v, ⟨L.length, 0, rfl, rfl, rfl, by simp⟩, ?_⟩
  intro y m A1 ⟨v, e1, e2, e3, e4⟩
  subst e1 e3
  refine bsel_in (fun c => ?_) fun c => ?_
  · have c : (v : Int) < s.len := of_decide_eq_true c
    obtain ⟨z, hz⟩ : ∃ z, L[v]? = some z := ⟨L[v]'(by omega), by simp⟩
    obtain ⟨a, q1, q2⟩ := rd_iv h e hr hz
    rw [q1]
    refine inB_in (by omega) c ?_
    simp only [Int.toNat_natCast, Nat.mul_one]
    refine q2 _ (bsel_in (fun g => ?_) fun g => ?_)
    · have g : x = z := eq_of_beq g
      exact h1 v (by rw [hz, g]) e4
    · have g : ¬ x = z := fun e => by rw [e] at g; simp at g
      exact ⟨m - 1, by omega, v + 1, by rw [w64] <;> omega, by omega, trivial, by rw [take_succ hz, List.mem_append]; simp [e4, g]⟩
  · have c : ¬ (v : Int) < s.len := of_decide_eq_false c
    refine h0 ?_
    rw [List.take_of_length_le (by omega)] at e4
    exact e4
theorem ContainsI_spec {x : Int} {Q : Bool → AP} (h : Own l A) (e : l[k]? = some P) (hr : Reads P s 1 (ivC L)) (hb : L.length ≤ 100000) (hk : Q (L.contains x) A) : slices_Contains_int_int_A s x Q A := by
  unfold slices_Contains_int_int_A slices_Contains_int_int_G
  refine IndexI_spec h e hr hb (fun g => ?_) fun v g _ => ?_
  · rw [decide_eq_false (by omega)]
    have : L.contains x = false := by simpa using g
    rw [this] at hk; exact hk
  · rw [decide_eq_true (by omega)]
    have : L.contains x = true := by simpa using List.mem_of_getElem? g
    rw [this] at hk; exact hk
theorem CloneI_spec {Q : Sl → AP} (h : Own l A) (e : l[k]? = some P) (hr : Reads P s 1 (ivC L)) (hb : L.length ≤ 100000) (hn : s.a = none → L = [])
    (hk : ∀ s' A', (s'.a = none → L = []) → Own (SlO s' 1 (ivC L) :: l) A' → Q s' A') : slices_Clone_int_int_A s Q A := by
  have hl := rd_iv_len h e hr
  unfold slices_Clone_int_int_A
  refine bsel_in (fun g => ?_) fun g => ?_
  · have g : s.a = none := by simpa using g
    have hL := hn g
    subst hL
    exact hk Sl.nil A (fun _ => rfl) ⟨fun _ => none, A, fun _ => .inl rfl, (fun _ _ e => nomatch e), Sub.refl A, SlO.nil, h⟩
  · have g : s.a ≠ none := fun z => by rw [z] at g; cases g
    refine new_C (cs := []) h fun b1 A1 h1 => ?_
    have h2 : Own (SlO ⟨some ⟨b1, 0, none⟩, 0, 0⟩ 1 [] :: l) A1 := h1.imp fun B _ => ⟨⟨by simp, Nat.le_refl _⟩, .inl rfl⟩
    refine ap_reads (i := k) h2 e hr (fun z => absurd z g) (fun z => by cases z) rfl (fun v hv => ivC_one hv) ⟨by simp only [hl]; omega, by simp only [hl]; omega⟩ fun s' A3 j1 j2 h3 => ?_
    exact hk s' A3 (fun z => by have := j2 z; simpa [ivC] using this) (by simpa using h3)
theorem push_iv {x : Int} {t : TypeId} {K : Sl → AP} (h : Own (SlO s 1 (ivC L) :: R) A) (hs : s.a = none → L = []) (hb : L.length ≤ 100000)
    (hk : ∀ s' A', s'.a ≠ none → Own (SlO s' 1 (ivC (L ++ [x])) :: R) A' → K s' A') :
    newA A (.cells #[.int .i64 x] t) fun b h2 => apA 1 8 #[(.int .i64 (0 : Int))] t s (Sl.mk (some (Addr.mk b 0 none)) 1 1) h2 K := by
  have hl : s.len = L.length := rd_iv_len (k := 0) h rfl reads_slo
  refine new_C (cs := [.int .i64 x]) h fun b A1 h1 => ?_
  have h1 := h1.swap
  refine ap_reads (i := 0) (c1 := ivC L) h1 rfl (reads_at (n := 1) (sz := 1) (cs := [.int .i64 x]) (rest := []) rfl) (fun g => nomatch g) (fun g => by rw [hs g]; rfl) rfl (fun v hv => by simp at hv; subst hv; rfl) ⟨by simp only [hl]; omega, by simp only [hl]; omega⟩ fun s' A2 j1 j2 h2 => ?_
  refine hk s' A2 (fun g => by have := j2 g; simp at this) ?_
  have : ivC (L ++ [x]) = ivC L ++ [.int .i64 x] := by simp [ivC]
  rw [this]
  exact Own.cons (fun C hC => hC.tail) h2
/-- Whose turn it is: how long a turn is, how much of it is over, who waits. -/
def QueS (q : Nat) (qn tk : Int) (L : List Int) : SP := fun B => ∃ s : Sl, (s.a = none → L = []) ∧ Own [At q [.int .i64 qn, .int .i64 tk, .slice s.a s.len s.cap], SlO s 1 (ivC L)] B
theorem QueS.openH {qn tk : Int} (h : Own (QueS q qn tk L :: R) A) : ∃ s : Sl, (s.a = none → L = []) ∧ Own (At q [.int .i64 qn, .int .i64 tk, .slice s.a s.len s.cap] :: SlO s 1 (ivC L) :: R) A := by
  obtain ⟨s, h⟩ := h.ex
  obtain ⟨hs, h⟩ := h.pure
  exact ⟨s, hs, h.flat⟩
theorem QueS.closeH {qn tk : Int} (hs : s.a = none → L = []) (h : Own (At q [.int .i64 qn, .int .i64 tk, .slice s.a s.len s.cap] :: SlO s 1 (ivC L) :: R) A) : Own (QueS q qn tk L :: R) A :=
  (Own.app (l := [_, _]) h).imp fun _ hB => ⟨s, hs, hB⟩
theorem sNew_spec {qn : Int} {Q : Option Addr → Int → AP} (h : Own l A) (h1 : qn < 1 ∨ 1000 < qn → Q none 1 A) (hk : 1 ≤ qn → qn ≤ 1000 → ∀ q A', Own (QueS q qn 0 [] :: l) A' → Q (some ⟨q, 0, none⟩) 0 A') : sched_New_A qn Q A := by
  unfold sched_New_A
  refine bsel_in (fun g => h1 (.inl (of_decide_eq_true g))) fun g => bsel_in (fun g2 => h1 (.inr (of_decide_eq_true g2))) fun g2 => ?_
  have g := of_decide_eq_false g
  have g2 := of_decide_eq_false g2
  refine new_C (cs := [.int .i64 qn, .int .i64 0, .slice none 0 0]) h fun b A1 h2 => hk (by omega) (by omega) b A1 ?_
  have h3 : Own (SlO Sl.nil 1 (ivC []) :: At b [.int .i64 qn, .int .i64 0, .slice none 0 0] :: l) A1 := ⟨fun _ => none, A1, fun _ => .inl rfl, (fun _ _ e => nomatch e), Sub.refl A1, SlO.nil, h2⟩
  exact QueS.closeH (s := Sl.nil) (fun _ => rfl) h3.swap
theorem sAdd_spec {p qn tk : Int} {Q : Int → AP} (h : Own (QueS q qn tk L :: R) A) (hb : L.length ≤ 10000) (h1 : (p < 0 ∨ 16 ≤ p) → ∀ A', Own (QueS q qn tk L :: R) A' → Q 1 A')
    (h6 : 0 ≤ p → p < 16 → L.contains p = true → ∀ A', Own (QueS q qn tk L :: R) A' → Q 6 A') (hk : 0 ≤ p → p < 16 → L.contains p = false → ∀ A', Own (QueS q qn tk (L ++ [p]) :: R) A' → Q 0 A') : sched_Queue_Add_A (some ⟨q, 0, none⟩) p Q A := by
  unfold sched_Queue_Add_A sched_Queue_Add_G
  refine ⟨fun b A' => A' = A ∧ (b = true ↔ (p < 0 ∨ 16 ≤ p)), fun b A1 ⟨e1, e2⟩ => ?_, bsel_in (fun g => ⟨rfl, by simp [of_decide_eq_true g]⟩) fun g => ⟨rfl, by have := of_decide_eq_false g; simp only [decide_eq_true_eq]; omega⟩⟩
  subst e1
  refine bsel_in (fun g => h1 (e2.1 g) A1 h) fun g => ?_
  have g : ¬ (p < 0 ∨ 16 ≤ p) := fun z => by rw [e2.2 z] at g; cases g
  obtain ⟨s, hs, h2⟩ := QueS.openH h
  simp only [onSome, add_at, Nat.zero_add]
  refine ld_S (i := 0) h2 rfl rfl (ContainsI_spec (k := 1) h2 rfl reads_slo (by omega) (bsel_in (fun c => h6 (by omega) (by omega) c A1 h) fun c => ?_))
  refine ld_S (i := 0) h2 rfl rfl (CloneI_spec (k := 1) h2 rfl reads_slo (by omega) hs fun s2 A2 hs2 h3 => push_iv h3 hs2 (by omega) fun s3 A3 hs3 h4 => ?_)
  refine st_C (i := 1) h4 rfl rfl rfl fun A4 h5 => hk (by omega) (by omega) c A4 ?_
  have h5 : Own (SlO s3 1 (ivC (L ++ [p])) :: At q [.int .i64 qn, .int .i64 tk, .slice s3.a s3.len s3.cap] :: SlO s 1 (ivC L) :: R) A4 := h5
  exact QueS.closeH (fun z => absurd z hs3) ((h5.swap).cons fun C hC => hC.cons fun D hD => hD.tail)
theorem sNow_spec {qn tk : Int} {Q : Int → Bool → AP} (h : Own (QueS q qn tk L :: R) A) (h0 : L = [] → Q 0 false A) (h1 : ∀ x r, L = x :: r → Q x true A) : sched_Queue_Now_A (some ⟨q, 0, none⟩) Q A := by
  unfold sched_Queue_Now_A
  obtain ⟨s, hs, h2⟩ := QueS.openH h
  have hl : s.len = L.length := rd_iv_len (k := 1) h2 rfl reads_slo
  refine ld_S (i := 0) h2 rfl rfl (bsel_in (fun g => h0 ?_) fun g => ?_)
  · have g : (s.len : Int) = 0 := eq_of_beq g
    exact List.length_eq_zero_iff.1 (by omega)
  · have g : ¬ (s.len : Int) = 0 := fun e => by
      have : ((Int.ofNat s.len) == (0 : Int)) = true := by simpa using e
      rw [this] at g; cases g
    cases L with
    | nil => simp at hl; omega
    | cons x r =>
      refine ld_S (i := 0) h2 rfl rfl ?_
      obtain ⟨a, q1, q2⟩ := rd_iv (k := 1) (v := 0) (x := x) h2 rfl reads_slo rfl
      rw [q1]
      refine inB_in (by omega) (by simp only [List.length_cons] at hl; show (0 : Int) < (s.len : Int); omega) ?_
      have := q2 (fun n => Q n true A) (h1 x r rfl)
      simpa [Addr.add] using this
end Go.Dn
