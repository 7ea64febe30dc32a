/- A model that wasn't booted answers nothing; the head of the laws on models. -/
import Derived.Test.YthbdbnadjpbfgaaGreatFltQ
namespace Go.Dn

variable {A : AH} {l R L : List SP}
theorem awake_val : rdB (wrB zeroP 8 5 8) 8 8 = 5 := by decide +kernel
theorem zeroP_len : zeroP.length = 4096 := List.length_replicate
theorem zeroP_byte : ∀ v ∈ zeroP, 0 ≤ v ∧ v < 256 := fun v hv => by have := List.eq_of_mem_replicate hv; omega
def regA : Reg := ⟨0, 4, true, true, false, 0⟩
theorem awake19_spec {Q : Bool → AP} (h : Own l A) (hk : ∀ A', Own l A' → Q true A') : demesnelaw19_awake_A Q A := by
  unfold demesnelaw19_awake_A demesnelaw19_awake_G
  refine fBoot_spec (u := 59) (qn := 2) (by omega) (by omega) h fun m t q pm pb gb bb A1 h1 => ?_
  refine ⟨fun A' => A' = A1, fun A' e => ?_, bsel_f rfl (bsel_f rfl rfl)⟩
  subst e
  have e1 : addE p0.regs regA = 0 := by decide +kernel
  have e2 : addL p0.regs regA = [regA] := rfl
  refine Do_map (c := { op := 1, a := 0, b := 4, pw := true, pu := true, px := false }) (by simp) rfl rfl h1 (fun z => absurd e1 z) fun _ A2 h2 => ?_
  have h2 : Own (f1L m t q pm pb gb bb (ns0 59) 2 0 { p0 with regs := [regA] } [] l) A2 := h2
  refine Do_mem (bi := 1) (nd := ⟨0, 57, 1, 0, true⟩) (y := regA) (c := { op := 5, addr := 8, size := 8, x := 5 }) (by simp) rfl (.inr rfl) rfl rfl rfl (by simp) rfl rfl (fun _ => rfl) (fun q hq => by simp [p0] at hq) (fun b hb => by simp at hb) (by simp) (by simp) (by simp) (by decide)
    h2 (fun yi lent bs e => by simp [p0] at e) (fun _ z => absurd z (by decide)) fun _ _ gb' bb' A3 h3 => ?_
  have h3 : Own (f1L m t q pm pb gb' bb' [⟨-1, 59, 2, 57, true⟩, ⟨0, 57, 5, 0, true⟩] 2 0 { p0 with regs := [regA], pages := [(0, (0, 0))] } [wrB zeroP 8 5 8] l) A3 := h3
  have hw := wrB_len (bs := zeroP) (off := 8) (x := 5) 8
  rw [zeroP_len] at hw
  refine Do_mem (bi := 1) (nd := ⟨0, 57, 5, 0, true⟩) (y := regA) (c := { op := 4, addr := 8, size := 8 }) (by simp) rfl (.inl rfl) rfl rfl rfl (by simp) rfl rfl (fun _ => rfl) (fun q hq => by simp at hq; subst hq; simp) (fun b hb => by simp at hb; subst hb; exact ⟨hw, wrB_byte zeroP_byte 8⟩) (by simp) (by simp) (by simp) (by decide)
    h3 (fun yi lent bs e1 e2 A4 h4 => ?_) (fun z => by simp at z) fun z => by simp at z
  have e1 : yi = 0 := by have : (some ((0 : Nat), (0 : Int))) = some (yi, lent) := e1; cases this; rfl
  subst e1
  have e2 : wrB zeroP 8 5 8 = bs := by simpa using e2
  subst e2
  have hv : (if ((4 : Int) = 5) then (0 : Int) else rdB (wrB zeroP 8 5 8) ((8 : Int) % 4096).toNat (8 : Int).toNat) = 5 := by rw [if_neg (by decide)]; exact awake_val
  show bsel _ (bsel _ (bsel ((if ((4 : Int) = 5) then (0 : Int) else rdB (wrB zeroP 8 5 8) ((8 : Int) % 4096).toNat (8 : Int).toNat) == 5) _ _) _) _
  rw [hv]
  refine bsel_t rfl (bsel_t rfl (bsel_t rfl ?_))
  have h4 : Own (f1L m t q pm pb gb' bb' [⟨-1, 59, 2, 57, true⟩, ⟨0, 57, 5, 0, true⟩] 2 0 { p0 with regs := [regA], pages := [(0, (0, 0))] } [wrB zeroP 8 5 8] l) A4 := h4
  exact Used_spec (bi := 1) (nd := ⟨0, 57, 5, 0, true⟩) rfl rfl rfl h4 (hk A4 h4.tail.tail.tail.tail.tail.tail)
theorem FlatNone_spec {w0 w1 w2 w3 w4 w5 pid : Int} {Q : Bool → AP} (h : Own l A) (hk : ∀ A', Own l A' → Q true A') : demesnelaw19_FlatNone_A w0 w1 w2 w3 w4 w5 pid Q A := by
  unfold demesnelaw19_FlatNone_A demesnelaw19_FlatNone_G
  refine new_C (cs := [.pointer none, .pointer none, .map none, .map none]) h fun m A1 h1 => ?_
  unfold flat_Model_Do_A flat_Model_Do_G flat_Model_Tick_A flat_Model_Tick_G
  simp only [onSome, add_at, Nat.zero_add]
  refine ld_P (i := 0) h1 rfl rfl (bsel_t rfl (ld_P (i := 0) h1 rfl rfl (bsel_t rfl ?_)))
  refine awake19_spec h1 fun A2 h2 => bsel_t rfl (bsel_t rfl (bsel_t rfl (bsel_t rfl ?_)))
  unfold flat_Model_Line_A flat_Model_Line_G flat_Model_Used_A flat_Model_Used_G
  simp only [onSome, add_at, Nat.zero_add]
  refine ld_P (i := 0) h2 rfl rfl (bsel_t rfl (bsel_t rfl (ld_M (i := 0) h2 rfl rfl ⟨[], rfl, none, rfl, none, rfl, bsel_t rfl (hk A2 h2.tail)⟩)))
end Go.Dn
