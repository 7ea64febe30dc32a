/- What the proof stands on: Read, Read2. -/
import Derived.Test.YthbdbnadjpbfgaaGreatG
import Derived.Test.YthbdbnadjpbfgaaGreatBas
/- The words of a call: what call.Read makes of them. -/
namespace Go.Dn

variable {A : AH} {R : List SP} {br bw b c3 i : Nat} {w : List Int}
structure CallR where
  op : Int
  a : Int := 0
  b : Int := 0
  pw : Bool := false
  pu : Bool := false
  px : Bool := false
  addr : Int := 0
  size : Int := 0
  x : Int := 0
  id : Int := 0
  ra : Int := 0
  rb : Int := 0
  rd : Int := 0
def CallR.cells (c : CallR) : List Value := [.int .i64 c.op, .int .i64 c.a, .int .i64 c.b, .bool c.pw, .bool c.pu, .bool c.px, .int .u64 c.addr, .int .i64 c.size, .int .u64 c.x, .int .i64 c.id, .int .i64 c.ra, .int .i64 c.rb, .int .i64 c.rd]
def pagesB (x y : Int) : Bool := decide (x ≤ 34359738367) && (decide (y ≤ 65536) && (decide (y ≠ 0) && decide (x + y ≤ 34359738368)))
def spotB (a s : Int) : Bool := decide (a ≤ 140737488355327) && ((s == 1 || s == 2 || s == 4 || s == 8) && decide (a % s = 0))
def fitsB (s x : Int) : Bool := s == 8 || decide (x < 2 ^ (8 * s.toNat))
def finZ (c : CallR) (l : List Int) : Option CallR := if l.all (· == 0) then some c else none
/-- The call that words are. -/
def callZ6 (w0 w1 w2 w3 w4 w5 : Int) : Option CallR :=
    if w0 = 1 ∨ w0 = 3 then if pagesB w1 w2 && decide (w3 ≤ 3) then finZ { op := w0, a := w1, b := w1 + w2, pw := w3 % 2 == 1, pu := true, px := w3 / 2 % 2 == 1 } [w4, w5] else none
    else if w0 = 2 then if pagesB w1 w2 then finZ { op := w0, a := w1, b := w1 + w2 } [w3, w4, w5] else none
    else if w0 = 4 then if spotB w1 w2 then finZ { op := w0, addr := w1, size := w2 } [w3, w4, w5] else none
    else if w0 = 5 then if spotB w1 w2 && fitsB w2 w3 then finZ { op := w0, addr := w1, size := w2, x := w3 } [w4, w5] else none
    else if w0 = 6 then if decide (w1 ≤ 34359738367) && (decide (w2 ≤ 15) && decide (w3 ≤ 1)) then finZ { op := w0, a := w1, b := w1 + 1, id := w2, pw := w3 == 1 } [w4, w5] else none
    else if w0 = 7 then if decide (w1 ≤ 255) && decide (w2 ≤ 34359738367) then finZ { op := w0, id := w1, a := w2, b := w2 + 1 } [w3, w4, w5] else none
    else if w0 = 8 ∨ w0 = 9 then if decide (w1 ≤ 255) then finZ { op := w0, id := w1 } [w2, w3, w4, w5] else none
    else if w0 = 10 then if decide (w1 ≤ 140737488355327) then finZ { op := w0, addr := w1 } [w2, w3, w4, w5] else none
    else if w0 = 12 then if decide (w1 ≤ 1048576) then finZ { op := w0, id := w1 } [w2, w3, w4, w5] else none
    else if w0 = 15 then if decide (w1 ≤ 7) && (decide (w2 ≤ 3) && (decide (w3 ≤ 3) && decide (w4 ≤ 3))) then finZ { op := w0, id := 1 + w1, ra := w2, rb := w3, rd := w4 } [w5] else none
    else if w0 = 16 then if decide (w1 ≤ 3) then finZ { op := w0, id := w1, x := w2 } [w3, w4, w5] else none
    else if w0 = 11 ∨ w0 = 13 ∨ w0 = 14 then finZ { op := w0 } [w1, w2, w3, w4, w5]
    else none
def callZ : List Int → Option CallR
  | [w0, w1, w2, w3, w4, w5] => callZ6 w0 w1 w2 w3 w4 w5
  | _ => none
def badV : Value := .iface ty_call_bad (.agg #[])
def rdS (br bw : Nat) (w : List Int) (i : Nat) : SP := Own [At br [.slice (some ⟨bw, min i 5, none⟩) (6 - i) (6 - i)], At bw (w.map (.int .u64))]
theorem rdS.open (h : Own (rdS br bw w i :: R) A) : Own (At br [.slice (some ⟨bw, min i 5, none⟩) (6 - i) (6 - i)] :: At bw (w.map (.int .u64)) :: R) A := h.flat
theorem rdS.close (h : Own (At br [.slice (some ⟨bw, min i 5, none⟩) (6 - i) (6 - i)] :: At bw (w.map (.int .u64)) :: R) A) : Own (rdS br bw w i :: R) A := Own.app (l := [_, _]) h
theorem word_spec {x most : Int} {Q : Int → AP} {Kp : Value → AP} (h : Own (rdS br bw w i :: R) A) (hi : i < 6) (hx : w[i]? = some x)
    (hq : x ≤ most → ∀ A', Own (rdS br bw w (i + 1) :: R) A' → Q x A') (hp : most < x → ∀ A', Own R A' → Kp badV A') : call_reader_word_A (some ⟨br, 0, none⟩) most Q Kp A := by
  have h := rdS.open h
  unfold call_reader_word_A
  have hm : min i 5 = i := by omega
  refine ld_S (i := 0) h rfl rfl (inB_in (by omega) (by simp only; omega) (ld_I (i := 1) (n := x) h rfl (by rw [hm, List.getElem?_map, hx]; rfl) ⟨fun A' => x ≤ most ∧ Own (rdS br bw w (i + 1) :: R) A', fun A' hA => hq hA.1 A' hA.2, ?_⟩))
  refine ld_S (i := 0) h rfl rfl (inB_in (by omega) (by simp only; omega) ?_)
  simp only [onSome]
  refine st_C (i := 0) h rfl rfl rfl fun A' h' => ?_
  have hs : (.slice (if (6 - i) = 1 then some ⟨bw, min i 5, none⟩ else Option.map (fun x => Addr.add x (1 * 1)) (some ⟨bw, min i 5, none⟩)) (6 - i - 1) (6 - i - 1) : Value) = .slice (some ⟨bw, min (i + 1) 5, none⟩) (6 - (i + 1)) (6 - (i + 1)) := by
    have : i = 0 ∨ i = 1 ∨ i = 2 ∨ i = 3 ∨ i = 4 ∨ i = 5 := by omega
    rcases this with rfl | rfl | rfl | rfl | rfl | rfl <;> rfl
  have h' : Own (At br [.slice (some ⟨bw, min (i + 1) 5, none⟩) (6 - (i + 1)) (6 - (i + 1))] :: At bw (w.map (.int .u64)) :: R) A' := by
    rw [← hs]; exact h'
  refine bsel_in (fun g => hp (of_decide_eq_true g) A' h'.tail.tail) fun g => ⟨Int.not_lt.1 (of_decide_eq_false g), rdS.close h'⟩
theorem number_spec {x below : Int} {Q : Int → AP} {Kp : Value → AP} (h : Own (rdS br bw w i :: R) A) (hi : i < 6) (hx : w[i]? = some x) (hb : 1 ≤ below ∧ below ≤ 1152921504606846976) (h0 : 0 ≤ x)
    (hq : x ≤ below - 1 → ∀ A', Own (rdS br bw w (i + 1) :: R) A' → Q x A') (hp : below - 1 < x → ∀ A', Own R A' → Kp badV A') : call_reader_number_A (some ⟨br, 0, none⟩) below Q Kp A := by
  unfold call_reader_number_A call_reader_number_G
  rw [w64 (n := below - 1) (by omega) (by omega), wu64 (by omega) (by omega)]
  refine word_spec h hi hx (fun q A' h' => ?_) hp
  rw [w64 (by omega) (by omega)]
  exact hq q A' h'
theorem pages_spec {x y : Int} {Q : Int → Int → AP} {Kp : Value → AP} (h : Own (rdS br bw w i :: R) A) (hi : i < 5) (hx : w[i]? = some x) (hy : w[i + 1]? = some y) (h0 : 0 ≤ x) (h1 : 0 ≤ y)
    (hq : pagesB x y = true → ∀ A', Own (rdS br bw w (i + 2) :: R) A' → Q x (x + y) A') (hp : pagesB x y = false → ∀ A', Own R A' → Kp badV A') : call_reader_pages_A (some ⟨br, 0, none⟩) Q Kp A := by
  unfold call_reader_pages_A call_reader_pages_G
  refine number_spec h (by omega) hx (by omega) h0 (fun q1 A1 h1' => number_spec h1' (by omega) hy (by omega) h1 (fun q2 A2 h2 => ?_) fun q2 => hp (by unfold pagesB; simp; omega)) fun q1 => hp (by unfold pagesB; simp; omega)
  rw [w64 (n := x + 1) (by omega) (by omega), w64 (n := x + 1 + y) (by omega) (by omega), w64 (n := x + 1 + y - 1) (by omega) (by omega)]
  refine ⟨fun A' => pagesB x y = true ∧ Own (rdS br bw w (i + 2) :: R) A', fun A' hA => ?_, ?_⟩
  · rw [show x + 1 + y - 1 = x + y by omega]
    exact hq hA.1 A' hA.2
  · refine bsel_in (fun g => hp (by have := eq_of_beq g; unfold pagesB; simp; omega) A2 h2.tail) fun g => bsel_in (fun g2 => hp (by have := of_decide_eq_true g2; unfold pagesB; simp; omega) A2 h2.tail) fun g2 => ⟨?_, h2⟩
    have g : ¬ (x + 1 + y - 1 = x) := fun e => by rw [e] at g; simp at g
    have g2 : ¬ (x + 1 + y - 1 > 34359738368) := of_decide_eq_false g2
    unfold pagesB
    simp
    omega
theorem one_spec {x : Int} {Q : Int → Int → AP} {Kp : Value → AP} (h : Own (rdS br bw w i :: R) A) (hi : i < 6) (hx : w[i]? = some x) (h0 : 0 ≤ x)
    (hq : x ≤ 34359738367 → ∀ A', Own (rdS br bw w (i + 1) :: R) A' → Q x (x + 1) A') (hp : 34359738367 < x → ∀ A', Own R A' → Kp badV A') : call_reader_one_A (some ⟨br, 0, none⟩) Q Kp A := by
  unfold call_reader_one_A call_reader_one_G
  refine number_spec h hi hx (by omega) h0 (fun q A' h' => ?_) fun q => hp (by omega)
  rw [w64 (n := x + 1) (by omega) (by omega)]
  exact hq (by omega) A' h'
theorem perm_spec {x : Int} {Q : Bool → Bool → Bool → AP} {Kp : Value → AP} (h : Own (rdS br bw w i :: R) A) (hi : i < 6) (hx : w[i]? = some x) (h0 : 0 ≤ x)
    (hq : x ≤ 3 → ∀ A', Own (rdS br bw w (i + 1) :: R) A' → Q (x % 2 == 1) true (x / 2 % 2 == 1) A') (hp : 3 < x → ∀ A', Own R A' → Kp badV A') : call_reader_perm_A (some ⟨br, 0, none⟩) Q Kp A := by
  unfold call_reader_perm_A call_reader_perm_G
  refine word_spec h hi hx (fun q A' h' => ?_) hp
  have : x = 0 ∨ x = 1 ∨ x = 2 ∨ x = 3 := by omega
  rcases this with rfl | rfl | rfl | rfl <;> exact hq (by omega) A' h'
theorem spot_spec {x y : Int} {c : CallR} {Q : AP} {Kp : Value → AP} (h : Own (rdS br bw w i :: At b c.cells :: R) A) (hi : i < 5) (hx : w[i]? = some x) (hy : w[i + 1]? = some y) (h0 : 0 ≤ x ∧ x < 18446744073709551616) (h1 : 0 ≤ y)
    (hq : spotB x y = true → ∀ A', Own (rdS br bw w (i + 2) :: At b { c with addr := x, size := y }.cells :: R) A' → Q A') (hp : spotB x y = false → ∀ A', Own R A' → Kp badV A') : call_reader_spot_A (some ⟨br, 0, none⟩) (some ⟨b, 0, none⟩) Q Kp A := by
  unfold call_reader_spot_A call_reader_spot_G
  refine word_spec h (by omega) hx (fun q1 A1 h1' => ?_) fun q1 A' h' => hp (by unfold spotB; rw [decide_eq_false (by omega)]; rfl) A' h'.tail
  simp only [onSome, add_at, Nat.zero_add]
  refine st_C (i := 1) h1' rfl rfl rfl fun A2 h2 => ?_
  refine number_spec h2 (by omega) hy (by omega) h1 (fun q2 A3 h3 => ?_) fun q2 A' h' => hp (by unfold spotB; simp; omega) A' h'.tail
  refine st_C (i := 1) h3 rfl rfl rfl fun A4 h4 => ?_
  have h4 : Own (rdS br bw w (i + 2) :: At b { c with addr := x, size := y }.cells :: R) A4 := h4
  have hR : Own R A4 := h4.tail.tail
  refine ld_I (i := 1) h4 rfl rfl (ld_I (i := 1) h4 rfl rfl ?_)
  have fin : (y = 1 ∨ y = 2 ∨ y = 4 ∨ y = 8) → bits .and .i64 y (IntKind.wrap .i64 (y - 1)) = 0 → IntKind.wrap .u64 y = y → bsel (bits .and .i64 y (IntKind.wrap .i64 (y - 1)) != 0) (Kp (.iface 173 (.agg #[])) A4) (aI .i64 ⟨b, 7, none⟩ A4 fun n18 => bsel (n18 == 0) (Kp (.iface 173 (.agg #[])) A4) (aI .u64 ⟨b, 6, none⟩ A4 fun n20 => aI .i64 ⟨b, 7, none⟩ A4 fun n22 => bsel (IntKind.wrap .u64 n22 == 0) False (bsel (Int.tmod n20 (IntKind.wrap .u64 n22) != 0) (Kp (.iface 173 (.agg #[])) A4) (Q A4)))) := by
    intro hy4 e1 e2
    refine bsel_f (by rw [e1]; rfl) (ld_I (i := 1) h4 rfl rfl (bsel_f (by simp; omega) (ld_I (i := 1) h4 rfl rfl (ld_I (i := 1) h4 rfl rfl (bsel_f (by rw [e2]; simp; omega) ?_)))))
    rw [e2, Int.tmod_eq_emod_of_nonneg h0.1]
    have hsz : (y == 1 || y == 2 || y == 4 || y == 8) = true := by rcases hy4 with rfl | rfl | rfl | rfl <;> rfl
    refine bsel_in (fun g => hp ?_ A4 hR) fun g => hq ?_ A4 h4
    · have g : ¬ x % y = 0 := by simpa using g
      unfold spotB
      rw [decide_eq_false g]; simp
    · have g : x % y = 0 := by simpa using g
      unfold spotB
      rw [decide_eq_true (by omega), decide_eq_true g, hsz]; rfl
  have no : spotB x y = false → bits .and .i64 y (IntKind.wrap .i64 (y - 1)) ≠ 0 → ∀ T, bsel (bits .and .i64 y (IntKind.wrap .i64 (y - 1)) != 0) (Kp (.iface 173 (.agg #[])) A4) T := fun hb e1 T => bsel_t (by simp [e1]) (hp hb A4 hR)
  have : y = 0 ∨ y = 1 ∨ y = 2 ∨ y = 3 ∨ y = 4 ∨ y = 5 ∨ y = 6 ∨ y = 7 ∨ y = 8 := by omega
  rcases this with rfl | rfl | rfl | rfl | rfl | rfl | rfl | rfl | rfl
  · exact bsel_f (by show (bits .and .i64 0 (IntKind.wrap .i64 (0 - 1)) != 0) = false; decide) (ld_I (i := 1) h4 rfl rfl (bsel_t rfl (hp (by unfold spotB; simp) A4 hR)))
  · exact fin (by omega) rfl rfl
  · exact fin (by omega) rfl rfl
  · exact no (by unfold spotB; simp) (by decide) _
  · exact fin (by omega) rfl rfl
  · exact no (by unfold spotB; simp) (by decide) _
  · exact no (by unfold spotB; simp) (by decide) _
  · exact no (by unfold spotB; simp) (by decide) _
  · exact fin (by omega) rfl rfl
/-- What is behind a call must be zeros. -/
theorem rest_spec {Q : AP} {Kp : Value → AP} (hw : w.length = 6) (hw0 : ∀ x ∈ w, 0 ≤ x) (hi : i ≤ 6) (h : Own (rdS br bw w i :: R) A)
    (hq : (w.drop i).all (· == 0) = true → ∀ A', Own R A' → Q A') (hp : (w.drop i).all (· == 0) = false → ∀ A', Own R A' → Kp badV A') :
    ∃ I145 : Int → Nat → AH → Prop, (∃ m146, I145 (0 : Int) m146 A) ∧ ∀ x149 : Int, ∀ m146 h148, I145 x149 m146 h148 → bsel (decide (x149 < (Int.ofNat (6 - i))))
      (call_reader_word_A (some ⟨br, 0, none⟩) (0 : Int) (fun _ h151 => ∃ m147, m147 < m146 ∧ I145 (IntKind.wrap .i64 (x149 + (1 : Int))) m147 h151) (fun v152 h153 => Kp v152 h153) h148) (Q h148) := by
  refine ⟨fun x m A' => ∃ v : Nat, x = v ∧ m + v = 6 - i ∧ (w.drop i).all (· == 0) = (w.drop (i + v)).all (· == 0) ∧ Own (rdS br bw w (i + v) :: R) A', ⟨6 - i, 0, rfl, rfl, rfl, h⟩, ?_⟩
  intro x m A1 ⟨v, e1, e2, e3, h1⟩
  subst e1
  refine bsel_in (fun g => ?_) fun g => ?_
  · have g : (v : Int) < ((6 - i : Nat) : Int) := of_decide_eq_true g
    obtain ⟨z, hz⟩ : ∃ z, w[i + v]? = some z := ⟨w[i + v]'(by omega), by simp⟩
    have hz0 := hw0 z (List.mem_of_getElem? hz)
    have hd : (w.drop (i + v)).all (· == 0) = ((z == 0) && (w.drop (i + v + 1)).all (· == 0)) := by
      obtain ⟨q1, q2⟩ := List.getElem?_eq_some_iff.1 hz
      rw [List.drop_eq_getElem_cons q1, q2]; rfl
    refine word_spec h1 (by omega) hz (fun q A2 h2 => ?_) fun q A2 h2 => hp (by rw [e3, hd, beq_false_of_ne (by omega)]; rfl) A2 h2
    have : z = 0 := by omega
    subst this
    exact ⟨m - 1, by omega, v + 1, by rw [w64] <;> omega, by omega, by rw [e3, hd]; rfl, by rw [← Nat.add_assoc]; exact h2⟩
  · have g : ¬ (v : Int) < ((6 - i : Nat) : Int) := of_decide_eq_false g
    have hv : i + v = 6 := by omega
    refine hq ?_ A1 h1.tail
    rw [e3, hv, List.drop_eq_nil_of_le (by omega)]; rfl
theorem fdiv_lt {x : Int} (n : Nat) (h0 : 0 ≤ x) : (Int.fdiv x (2 ^ n) != 0) = !decide (x < 2 ^ n) := by
  rw [shr_eq]
  have hp : (0 : Int) < 2 ^ n := Int.pow_pos (by omega)
  by_cases g : x < 2 ^ n
  · rw [Int.ediv_eq_zero_of_lt h0 g, decide_eq_true g]; rfl
  · have : 1 ≤ x / 2 ^ n := by rw [Int.le_ediv_iff_mul_le hp]; omega
    rw [decide_eq_false g]
    simp; omega
theorem read_spec {w0 w1 w2 w3 w4 w5 : Int} {Q : Int → Int → Int → Bool → Bool → Bool → Int → Int → Int → Int → Int → Int → Int → AP} {Kp : Value → AP} (hw : w = [w0, w1, w2, w3, w4, w5]) (hb : ∀ x ∈ w, 0 ≤ x ∧ x < 18446744073709551616) (h : Own (rdS br bw w 0 :: R) A)
    (hq : ∀ c, callZ w = some c → ∀ A', Own R A' → Q c.op c.a c.b c.pw c.pu c.px c.addr c.size c.x c.id c.ra c.rb c.rd A') (hp : callZ w = none → ∀ A', Own R A' → Kp badV A') : call_reader_read_A (some ⟨br, 0, none⟩) Q Kp A := by
  have hl : w.length = 6 := by rw [hw]; rfl
  have q0 : w[0]? = some w0 := by rw [hw]; rfl
  have q1 : w[1]? = some w1 := by rw [hw]; rfl
  have q2 : w[2]? = some w2 := by rw [hw]; rfl
  have q3 : w[3]? = some w3 := by rw [hw]; rfl
  have q4 : w[4]? = some w4 := by rw [hw]; rfl
  have b0 := hb w0 (List.mem_of_getElem? q0)
  have b1 := hb w1 (List.mem_of_getElem? q1)
  have b2 := hb w2 (List.mem_of_getElem? q2)
  have b3 := hb w3 (List.mem_of_getElem? q3)
  have b4 := hb w4 (List.mem_of_getElem? q4)
  have hcz : callZ w = callZ6 w0 w1 w2 w3 w4 w5 := by rw [hw]; rfl
  have dr : ∀ i, w.drop i = [w0, w1, w2, w3, w4, w5].drop i := fun i => by rw [hw]
  unfold callZ6 at hcz
  unfold call_reader_read_A call_reader_read_G
  refine number_spec h (by omega) q0 (by omega) b0.1 (fun z0 A1 h1 => ?_) fun z0 => hp (by rw [hcz]; repeat rw [if_neg (by omega)])
  refine new_C (cs := ({ op := 0 } : CallR).cells) h1 fun b A2 h2 => ?_
  refine st_C (i := 0) h2 rfl rfl rfl fun _ h3 => st_C (i := 0) h3 rfl rfl rfl fun _ h3 => st_C (i := 0) h3 rfl rfl rfl fun _ h3 => st_C (i := 0) h3 rfl rfl rfl fun _ h3 => st_C (i := 0) h3 rfl rfl rfl fun _ h3 => st_C (i := 0) h3 rfl rfl rfl fun _ h3 =>
    st_C (i := 0) h3 rfl rfl rfl fun _ h3 => st_C (i := 0) h3 rfl rfl rfl fun _ h3 => st_C (i := 0) h3 rfl rfl rfl fun _ h3 => st_C (i := 0) h3 rfl rfl rfl fun _ h3 => st_C (i := 0) h3 rfl rfl rfl fun _ h3 => st_C (i := 0) h3 rfl rfl rfl fun _ h3 => st_C (i := 0) h3 rfl rfl rfl fun A3 h3 => ?_
  have h3 : Own (At b ({ op := w0 } : CallR).cells :: rdS br bw w 1 :: R) A3 := h3
  have h3 := h3.swap
  clear h h1 h2
  simp only [add_at, Nat.zero_add]
  have out : ∀ (i : Nat) (c : CallR) (A' : AH), i ≤ 6 → callZ w = finZ c ([w0, w1, w2, w3, w4, w5].drop i) → Own (rdS br bw w i :: At b c.cells :: R) A' → ∃ (i : Nat) (c : CallR), i ≤ 6 ∧ callZ w = finZ c (w.drop i) ∧ Own (rdS br bw w i :: At b c.cells :: R) A' := fun i c A' k1 k2 k3 => ⟨i, c, k1, by rw [dr]; exact k2, k3⟩
  refine ⟨fun A' => ∃ (i : Nat) (c : CallR), i ≤ 6 ∧ callZ w = finZ c (w.drop i) ∧ Own (rdS br bw w i :: At b c.cells :: R) A', fun A4 ⟨i, c, k1, k2, k3⟩ => ?_, ?_⟩
  · have k4 := rdS.open k3
    refine ld_S (i := 0) k4 rfl rfl ?_
    refine rest_spec hl (fun x hx => (hb x hx).1) k1 k3 (fun z A5 h5 => ?_) fun z A5 h5 => hp (by rw [k2]; unfold finZ; rw [z]; rfl) A5 h5.tail
    have := hq c (by rw [k2]; unfold finZ; rw [z]; rfl) A5 h5.tail
    exact ld_I (i := 0) h5 rfl rfl (ld_I (i := 0) h5 rfl rfl (ld_I (i := 0) h5 rfl rfl (ld_B (i := 0) h5 rfl rfl (ld_B (i := 0) h5 rfl rfl (ld_B (i := 0) h5 rfl rfl (ld_I (i := 0) h5 rfl rfl (ld_I (i := 0) h5 rfl rfl (ld_I (i := 0) h5 rfl rfl (ld_I (i := 0) h5 rfl rfl (ld_I (i := 0) h5 rfl rfl (ld_I (i := 0) h5 rfl rfl (ld_I (i := 0) h5 rfl rfl this))))))))))))
  have kp : ∀ A', callZ w = none → Own (At b ({ op := w0 } : CallR).cells :: R) A' → Kp badV A' := fun A' z h' => hp z A' h'.tail
  refine ld_I (i := 1) h3 rfl rfl ⟨fun bb A' => A' = A3 ∧ bb = (w0 == 1 || w0 == 3), fun bb A4 ⟨e1, e2⟩ => ?_, bsel_in (fun g => ⟨rfl, by simp only at g ⊢; rw [g]; rfl⟩) fun g => ⟨rfl, by simp only at g ⊢; rw [g]; rfl⟩⟩
  subst e1 e2
  refine bsel_in (fun g => ?_) fun g => ?_
  · have g : w0 = 1 ∨ w0 = 3 := by simpa using g
    rw [if_pos g] at hcz
    refine pages_spec h3 (by omega) q1 q2 b1.1 b2.1 (fun z A5 h5 => ?_) fun z A5 h5 => kp A5 (by rw [hcz, z]; rfl) h5
    rw [z, Bool.true_and] at hcz
    refine perm_spec h5 (by omega) q3 b3.1 (fun z A6 h6 => ?_) fun z A5 h5 => kp A5 (by rw [hcz, if_neg (by simp; omega)]) h5
    rw [if_pos (by simp; omega)] at hcz
    refine st_C (i := 1) h6 rfl rfl rfl fun _ h6 => st_C (i := 1) h6 rfl rfl rfl fun _ h6 => st_C (i := 1) h6 rfl rfl rfl fun _ h6 => st_C (i := 1) h6 rfl rfl rfl fun _ h6 => st_C (i := 1) h6 rfl rfl rfl fun A7 h7 => ?_
    exact out 4 _ _ (by omega) hcz h7
  have g : ¬ (w0 = 1 ∨ w0 = 3) := by simpa using g
  rw [if_neg g] at hcz
  refine bsel_in (fun g2 => ?_) fun g2 => ?_
  · have g2 : w0 = 2 := eq_of_beq g2
    rw [if_pos g2] at hcz
    refine pages_spec h3 (by omega) q1 q2 b1.1 b2.1 (fun z A5 h5 => ?_) fun z A5 h5 => kp A5 (by rw [hcz, z]; rfl) h5
    rw [if_pos z] at hcz
    refine st_C (i := 1) h5 rfl rfl rfl fun _ h6 => st_C (i := 1) h6 rfl rfl rfl fun A7 h7 => ?_
    exact out 3 _ _ (by omega) hcz h7
  have g2 : ¬ w0 = 2 := fun e => by simp [e] at g2
  rw [if_neg g2] at hcz
  refine bsel_in (fun g3 => ?_) fun g3 => ?_
  · have g3 : w0 = 4 := eq_of_beq g3
    rw [if_pos g3] at hcz
    refine spot_spec h3 (by omega) q1 q2 b1 b2.1 (fun z A5 h5 => ?_) fun z A5 h5 => hp (by rw [hcz, z]; rfl) A5 h5
    rw [if_pos z] at hcz
    exact out 3 _ _ (by omega) hcz h5
  have g3 : ¬ w0 = 4 := fun e => by simp [e] at g3
  rw [if_neg g3] at hcz
  refine bsel_in (fun g4 => ?_) fun g4 => ?_
  · have g4 : w0 = 5 := eq_of_beq g4
    rw [if_pos g4] at hcz
    refine spot_spec h3 (by omega) q1 q2 b1 b2.1 (fun z A5 h5 => ?_) fun z A5 h5 => hp (by rw [hcz, z]; rfl) A5 h5
    rw [z, Bool.true_and] at hcz
    refine word_spec h5 (by omega) q3 (fun _ A6 h6 => ?_) fun z => by omega
    refine st_C (i := 1) h6 rfl rfl rfl fun A7 h7 => ?_
    have hs : w2 = 1 ∨ w2 = 2 ∨ w2 = 4 ∨ w2 = 8 := by
      unfold spotB at z
      simp at z
      omega
    have good : fitsB w2 w3 = true → ∃ i c, i ≤ 6 ∧ callZ w = finZ c (w.drop i) ∧ Own (rdS br bw w i :: At b c.cells :: R) A7 := fun z => by
      rw [if_pos z] at hcz
      exact out 4 _ _ (by omega) hcz h7
    refine ld_I (i := 1) h7 rfl rfl (bsel_in (fun z => ?_) fun z => ?_)
    · have z : w2 < 8 := of_decide_eq_true z
      refine ld_I (i := 1) h7 rfl rfl (ld_I (i := 1) h7 rfl rfl ?_)
      simp only
      have hn : IntKind.wrap .i64 (8 * w2) = 8 * w2 := by rw [w64] <;> omega
      rw [hn]
      refine bsel_f (by simp; omega) ?_
      have key : (Int.fdiv w3 (2 ^ min (Int.toNat (8 * w2)) 64) != 0) = !(decide (w3 < 2 ^ (8 * w2.toNat))) := by
        rcases hs with rfl | rfl | rfl | rfl
        · exact fdiv_lt 8 b3.1
        · exact fdiv_lt 16 b3.1
        · exact fdiv_lt 32 b3.1
        · omega
      rw [key]
      have hf : fitsB w2 w3 = decide (w3 < 2 ^ (8 * w2.toNat)) := by
        unfold fitsB
        have : (w2 == 8) = false := by simp; omega
        rw [this, Bool.false_or]
      refine bsel_in (fun y => ?_) fun y => good ?_
      · refine hp ?_ A7 h7.tail.tail
        rw [hcz, hf]
        have : decide (w3 < 2 ^ (8 * w2.toNat)) = false := by simpa using y
        rw [this]; rfl
      · rw [hf]; simpa using y
    · have z : ¬ w2 < 8 := of_decide_eq_false z
      refine good ?_
      have : w2 = 8 := by omega
      unfold fitsB
      rw [this]; rfl
  have g4 : ¬ w0 = 5 := fun e => by simp [e] at g4
  rw [if_neg g4] at hcz
  refine bsel_in (fun g5 => ?_) fun g5 => ?_
  · have g5 : w0 = 6 := eq_of_beq g5
    rw [if_pos g5] at hcz
    refine one_spec h3 (by omega) q1 b1.1 (fun z A5 h5 => number_spec h5 (by omega) q2 (by omega) b2.1 (fun z2 A6 h6 => ?_) fun z2 A5 h5 => kp A5 (by rw [hcz, if_neg (by simp; omega)]) h5) fun z A5 h5 => kp A5 (by rw [hcz, if_neg (by simp; omega)]) h5
    refine st_C (i := 1) h6 rfl rfl rfl fun _ h6 => st_C (i := 1) h6 rfl rfl rfl fun _ h6 => st_C (i := 1) h6 rfl rfl rfl fun A7 h7 => ?_
    refine word_spec h7 (by omega) q3 (fun z3 A8 h8 => ?_) fun z A5 h5 => hp (by rw [hcz, if_neg (by simp; omega)]) A5 h5.tail
    rw [if_pos (by simp; omega)] at hcz
    refine st_C (i := 1) h8 rfl rfl rfl fun A9 h9 => ?_
    exact out 4 _ _ (by omega) hcz h9
  have g5 : ¬ w0 = 6 := fun e => by simp [e] at g5
  rw [if_neg g5] at hcz
  refine bsel_in (fun g6 => ?_) fun g6 => ?_
  · have g6 : w0 = 7 := eq_of_beq g6
    rw [if_pos g6] at hcz
    refine number_spec h3 (by omega) q1 (by omega) b1.1 (fun z A5 h5 => one_spec h5 (by omega) q2 b2.1 (fun z2 A6 h6 => ?_) fun z2 A5 h5 => kp A5 (by rw [hcz, if_neg (by simp; omega)]) h5) fun z A5 h5 => kp A5 (by rw [hcz, if_neg (by simp; omega)]) h5
    rw [if_pos (by simp; omega)] at hcz
    refine st_C (i := 1) h6 rfl rfl rfl fun _ h6 => st_C (i := 1) h6 rfl rfl rfl fun _ h6 => st_C (i := 1) h6 rfl rfl rfl fun A7 h7 => ?_
    exact out 3 _ _ (by omega) hcz h7
  have g6 : ¬ w0 = 7 := fun e => by simp [e] at g6
  rw [if_neg g6] at hcz
  refine ⟨fun bb A' => A' = A4 ∧ bb = (w0 == 8 || w0 == 9), fun bb A5 ⟨e1, e2⟩ => ?_, bsel_in (fun g => ⟨rfl, by simp only at g ⊢; rw [g]; rfl⟩) fun g => ⟨rfl, by simp only at g ⊢; rw [g]; rfl⟩⟩
  subst e1 e2
  refine bsel_in (fun g7 => ?_) fun g7 => ?_
  · have g7 : w0 = 8 ∨ w0 = 9 := by simpa using g7
    rw [if_pos g7] at hcz
    refine number_spec h3 (by omega) q1 (by omega) b1.1 (fun z A6 h6 => ?_) fun z A5 h5 => kp A5 (by rw [hcz, if_neg (by simp; omega)]) h5
    rw [if_pos (by simp; omega)] at hcz
    refine st_C (i := 1) h6 rfl rfl rfl fun A7 h7 => ?_
    exact out 2 _ _ (by omega) hcz h7
  have g7 : ¬ (w0 = 8 ∨ w0 = 9) := by simpa using g7
  rw [if_neg g7] at hcz
  refine bsel_in (fun g8 => ?_) fun g8 => ?_
  · have g8 : w0 = 10 := eq_of_beq g8
    rw [if_pos g8] at hcz
    refine word_spec h3 (by omega) q1 (fun z A6 h6 => ?_) fun z A5 h5 => kp A5 (by rw [hcz, if_neg (by simp; omega)]) h5
    rw [if_pos (by simp; omega)] at hcz
    refine st_C (i := 1) h6 rfl rfl rfl fun A7 h7 => ?_
    exact out 2 _ _ (by omega) hcz h7
  have g8 : ¬ w0 = 10 := fun e => by simp [e] at g8
  rw [if_neg g8] at hcz
  refine bsel_in (fun g9 => ?_) fun g9 => ?_
  · have g9 : w0 = 12 := eq_of_beq g9
    rw [if_pos g9] at hcz
    refine number_spec h3 (by omega) q1 (by omega) b1.1 (fun z A6 h6 => ?_) fun z A5 h5 => kp A5 (by rw [hcz, if_neg (by simp; omega)]) h5
    rw [if_pos (by simp; omega)] at hcz
    refine st_C (i := 1) h6 rfl rfl rfl fun A7 h7 => ?_
    exact out 2 _ _ (by omega) hcz h7
  have g9 : ¬ w0 = 12 := fun e => by simp [e] at g9
  rw [if_neg g9] at hcz
  refine bsel_in (fun g10 => ?_) fun g10 => ?_
  · have g10 : w0 = 15 := eq_of_beq g10
    rw [if_pos g10] at hcz
    refine number_spec h3 (by omega) q1 (by omega) b1.1 (fun z1 A6 h6 => ?_) fun z A5 h5 => kp A5 (by rw [hcz, if_neg (by simp; omega)]) h5
    refine number_spec h6 (by omega) q2 (by omega) b2.1 (fun z2 A6 h6 => ?_) fun z A5 h5 => kp A5 (by rw [hcz, if_neg (by simp; omega)]) h5
    refine number_spec h6 (by omega) q3 (by omega) b3.1 (fun z3 A6 h6 => ?_) fun z A5 h5 => kp A5 (by rw [hcz, if_neg (by simp; omega)]) h5
    refine number_spec h6 (by omega) q4 (by omega) b4.1 (fun z4 A6 h6 => ?_) fun z A5 h5 => kp A5 (by rw [hcz, if_neg (by simp; omega)]) h5
    rw [if_pos (by simp; omega)] at hcz
    rw [w64 (n := 1 + w1) (by omega) (by omega)]
    refine st_C (i := 1) h6 rfl rfl rfl fun _ h6 => st_C (i := 1) h6 rfl rfl rfl fun _ h6 => st_C (i := 1) h6 rfl rfl rfl fun _ h6 => st_C (i := 1) h6 rfl rfl rfl fun A7 h7 => ?_
    exact out 5 _ _ (by omega) hcz h7
  have g10 : ¬ w0 = 15 := fun e => by simp [e] at g10
  rw [if_neg g10] at hcz
  refine bsel_in (fun g11 => ?_) fun g11 => ?_
  · have g11 : w0 = 16 := eq_of_beq g11
    rw [if_pos g11] at hcz
    refine number_spec h3 (by omega) q1 (by omega) b1.1 (fun z A6 h6 => ?_) fun z A5 h5 => kp A5 (by rw [hcz, if_neg (by simp; omega)]) h5
    rw [if_pos (by simp; omega)] at hcz
    refine word_spec h6 (by omega) q2 (fun _ A7 h7 => ?_) fun z => by omega
    refine st_C (i := 1) h7 rfl rfl rfl fun _ h7 => st_C (i := 1) h7 rfl rfl rfl fun A8 h8 => ?_
    exact out 3 _ _ (by omega) hcz h8
  have g11 : ¬ w0 = 16 := fun e => by simp [e] at g11
  rw [if_neg g11] at hcz
  refine ⟨fun bb A' => A' = A5 ∧ bb = (w0 == 11 || (w0 == 13 || w0 == 14)), fun bb A6 ⟨e1, e2⟩ => ?_, bsel_in (fun g => ⟨rfl, by simp only at g ⊢; rw [g]; rfl⟩) fun g => bsel_in (fun g' => ⟨rfl, by simp only at g g' ⊢; rw [g, g']; rfl⟩) fun g' => ⟨rfl, by simp only at g g' ⊢; rw [g, g']; rfl⟩⟩
  subst e1 e2
  refine bsel_in (fun g12 => ?_) fun g12 => ?_
  · have g12 : w0 = 11 ∨ w0 = 13 ∨ w0 = 14 := by simpa using g12
    rw [if_pos g12] at hcz
    exact out 1 _ _ (by omega) hcz h3
  · have g12 : ¬ (w0 = 11 ∨ w0 = 13 ∨ w0 = 14) := by simpa using g12
    rw [if_neg g12] at hcz
    exact hp hcz A6 h3.tail.tail
end Go.Dn
/- What call.Read hands back. -/
namespace Go.Dn

variable {A : AH} {l : List SP}
theorem Read_spec {w0 w1 w2 w3 w4 w5 : Int} {Q : Int → Int → Int → Bool → Bool → Bool → Int → Int → Int → Int → Int → Int → Int → Int → AP} (hb : ∀ x ∈ [w0, w1, w2, w3, w4, w5], 0 ≤ x ∧ x < 18446744073709551616) (h : Own l A)
    (hq : ∀ c, callZ6 w0 w1 w2 w3 w4 w5 = some c → ∀ A', Own l A' → Q c.op c.a c.b c.pw c.pu c.px c.addr c.size c.x c.id c.ra c.rb c.rd 0 A') (hp : callZ6 w0 w1 w2 w3 w4 w5 = none → ∀ A', Own l A' → Q 0 0 0 false false false 0 0 0 0 0 0 0 13 A') : call_Read_A w0 w1 w2 w3 w4 w5 Q A := by
  unfold call_Read_A call_Read_G
  refine new_C (cs := [w0, w1, w2, w3, w4, w5].map (.int .u64)) h fun bw A1 h1 => new_C (cs := ({ op := 0 } : CallR).cells) h1 fun b3 A2 h2 => new_C (cs := [.int .i64 0]) h2 fun b5 A3 h3 => new_C (cs := [.slice (some ⟨bw, 0, none⟩) 6 6]) h3 fun br A4 h4 => ?_
  have h5 : Own (rdS br bw [w0, w1, w2, w3, w4, w5] 0 :: At b3 ({ op := 0 } : CallR).cells :: At b5 [.int .i64 0] :: l) A4 := by
    have : Own (At br [.slice (some ⟨bw, 0, none⟩) 6 6] :: At bw ([w0, w1, w2, w3, w4, w5].map (.int .u64)) :: At b3 ({ op := 0 } : CallR).cells :: At b5 [.int .i64 0] :: l) A4 :=
      h4.perm (List.Perm.cons _ (by
        refine List.Perm.trans (List.Perm.swap _ _ _) ?_
        refine List.Perm.trans (List.Perm.cons _ (List.Perm.swap _ _ _)) ?_
        exact List.Perm.swap _ _ _))
    exact rdS.close this
  refine read_spec rfl hb h5 (fun c hc A5 h6 => ?_) fun hc A5 h6 => ?_
  · simp only [add_at, Nat.zero_add]
    refine st_C (i := 0) h6 rfl rfl rfl fun _ h6 => st_C (i := 0) h6 rfl rfl rfl fun _ h6 => st_C (i := 0) h6 rfl rfl rfl fun _ h6 => st_C (i := 0) h6 rfl rfl rfl fun _ h6 => st_C (i := 0) h6 rfl rfl rfl fun _ h6 => st_C (i := 0) h6 rfl rfl rfl fun _ h6 =>
      st_C (i := 0) h6 rfl rfl rfl fun _ h6 => st_C (i := 0) h6 rfl rfl rfl fun _ h6 => st_C (i := 0) h6 rfl rfl rfl fun _ h6 => st_C (i := 0) h6 rfl rfl rfl fun _ h6 => st_C (i := 0) h6 rfl rfl rfl fun _ h6 => st_C (i := 0) h6 rfl rfl rfl fun _ h6 => st_C (i := 0) h6 rfl rfl rfl fun _ h6 => st_C (i := 1) h6 rfl rfl rfl fun A7 h7 => ?_
    have h7 : Own (At b3 c.cells :: At b5 [.int .i64 0] :: l) A7 := h7
    unfold call_Read_1_nA
    exact ld_I (i := 0) h7 rfl rfl (ld_I (i := 0) h7 rfl rfl (ld_I (i := 0) h7 rfl rfl (ld_B (i := 0) h7 rfl rfl (ld_B (i := 0) h7 rfl rfl (ld_B (i := 0) h7 rfl rfl (ld_I (i := 0) h7 rfl rfl (ld_I (i := 0) h7 rfl rfl (ld_I (i := 0) h7 rfl rfl (ld_I (i := 0) h7 rfl rfl (ld_I (i := 0) h7 rfl rfl (ld_I (i := 0) h7 rfl rfl (ld_I (i := 0) h7 rfl rfl
      (ld_I (i := 1) h7 rfl rfl (hq c hc A7 h7.tail.tail))))))))))))))
  · show call_Read_1_pA (some ⟨b3, 0, none⟩) (some ⟨b5, 0, none⟩) _ A5
    unfold call_Read_1_pA
    simp only [add_at, Nat.zero_add, onSome]
    refine st_C (i := 0) h6 rfl rfl rfl fun _ h6 => st_C (i := 0) h6 rfl rfl rfl fun _ h6 => st_C (i := 0) h6 rfl rfl rfl fun _ h6 => st_C (i := 0) h6 rfl rfl rfl fun _ h6 => st_C (i := 0) h6 rfl rfl rfl fun _ h6 => st_C (i := 0) h6 rfl rfl rfl fun _ h6 =>
      st_C (i := 0) h6 rfl rfl rfl fun _ h6 => st_C (i := 0) h6 rfl rfl rfl fun _ h6 => st_C (i := 0) h6 rfl rfl rfl fun _ h6 => st_C (i := 0) h6 rfl rfl rfl fun _ h6 => st_C (i := 0) h6 rfl rfl rfl fun _ h6 => st_C (i := 0) h6 rfl rfl rfl fun _ h6 => st_C (i := 0) h6 rfl rfl rfl fun _ h6 => st_C (i := 1) h6 rfl rfl rfl fun A7 h7 => ?_
    have h7 : Own (At b3 ({ op := 0 } : CallR).cells :: At b5 [.int .i64 13] :: l) A7 := h7
    exact ld_I (i := 0) h7 rfl rfl (ld_I (i := 0) h7 rfl rfl (ld_I (i := 0) h7 rfl rfl (ld_B (i := 0) h7 rfl rfl (ld_B (i := 0) h7 rfl rfl (ld_B (i := 0) h7 rfl rfl (ld_I (i := 0) h7 rfl rfl (ld_I (i := 0) h7 rfl rfl (ld_I (i := 0) h7 rfl rfl (ld_I (i := 0) h7 rfl rfl (ld_I (i := 0) h7 rfl rfl (ld_I (i := 0) h7 rfl rfl (ld_I (i := 0) h7 rfl rfl
      (ld_I (i := 1) h7 rfl rfl (hp hc A7 h7.tail.tail))))))))))))))
end Go.Dn
