/- An entry on the way without a right takes it from the page. -/
import Derived.Test.YtnjbnhciheeboaaLawPages
namespace Go.Dn

variable {A : AH} {l : List SP}
def narrowOK (W : WOut) (x : Int) (four : Bool) : Bool := match W with
  | .ok f _ _ _ _ _ _ _ => x == 0 && f == 4
  | .fault c => x == 9 && ((bits .and .i64 c 1 == 0) == four)
  | .err _ => false
def nPuts (x0 x1 x2 x3 : Int) : List Put := [⟨0, 0, x0⟩, ⟨1, 0, x1⟩, ⟨2, 0, x2⟩, ⟨3, 0, x3⟩]
theorem WalkNarrow_A {level bit : Int} {aw au af : Bool} {Q : Bool → AH → Prop} (h : Own l A) (hk : ∀ A', Own l A' → Q true A') : demesnelaw04_WalkNarrow_A level bit aw au af Q A := by
  unfold demesnelaw04_WalkNarrow_A
  refine bsel_in (fun c => awake_spec h fun _ h => hk _ h) fun c => ?_
  refine bsel_in (fun c2 => awake_spec h fun _ h => hk _ h) fun c2 => ?_
  simp at c c2
  refine new_C h fun b6 _ h => ?_
  refine ⟨fun x h' => ∃ x0 x1 x2 x3, Own (At b6 (putCells (nPuts x0 x1 x2 x3)) :: l) h' ∧ U64 x0 ∧ U64 x1 ∧ U64 x2 ∧ U64 x3 ∧ narrowOK (walkZ 8 holes7 (layM (nPuts x0 x1 x2 x3)) 0 123 aw au af) x (bit == 4) = true, ?_, ?_⟩
  · intro x h' ⟨x0, x1, x2, x3, h, u0, u1, u2, u3, hn⟩
    have h := Own.imp (P' := SlAt ⟨some ⟨b6, 0, none⟩, 4, 4⟩ 3 (putCells (nPuts x0 x1 x2 x3))) (fun B hB => ⟨rfl, Nat.le_refl _, fun _ => ⟨b6, [], [], rfl, hB⟩⟩) h
    refine Lay_spec (k := 0) h rfl (fun p hp => ?_) (by simp [nPuts]) fun r b m _ h => ?_
    · simp only [nPuts, List.mem_cons, List.not_mem_nil, or_false] at hp
      rcases hp with rfl | rfl | rfl | rfl <;> assumption
    refine bsel_f rfl ?_
    refine Walk_spec (i := 0) h rfl (by decide) (by decide) ⟨by decide, by decide⟩ ?_
    cases hW : walkZ 8 holes7 (layM (nPuts x0 x1 x2 x3)) 0 123 aw au af with
    | err e1 => rw [hW] at hn; cases hn
    | fault c1 =>
      rw [hW] at hn
      simp only [narrowOK, Bool.and_eq_true, beq_iff_eq] at hn
      obtain ⟨rfl, hn⟩ := hn
      intro _ h
      refine bsel_f rfl (bsel_t rfl (bsel_f rfl (bsel_f (by simp [hn]) ?_)))
      exact awake_spec h fun _ h => bsel_t rfl (bsel_t rfl (hk _ h.tail.tail.tail.tail))
    | ok f w u x g lg d qs =>
      rw [hW] at hn
      simp only [narrowOK, Bool.and_eq_true, beq_iff_eq] at hn
      obtain ⟨rfl, rfl⟩ := hn
      intro _ h
      simp only [List.set_cons_zero] at h
      refine bsel_f rfl (bsel_f rfl ?_)
      exact awake_spec h fun _ h => bsel_t rfl (bsel_f rfl (hk _ h.tail.tail.tail.tail))
  obtain rfl | rfl | rfl | rfl : level = 0 ∨ level = 1 ∨ level = 2 ∨ level = 3 := by omega
  · refine bsel_in (fun c => ?_) fun c1 => ?_
    · have c4 : (bit == (4 : Int)) = false := by simp at c; subst c; rfl
      refine inB_in (by decide) (by decide) ?_
      first | refine ld_I (i := 0) h rfl rfl ?_ | refine ld_B (i := 0) h rfl rfl ?_ | refine ld_P (i := 0) h rfl rfl ?_ | refine ld_S (i := 0) h rfl rfl ?_ | refine ld_M (i := 0) h rfl rfl ?_
      refine inB_in (by decide) (by decide) ?_
      first | (refine st_C (i := 0) h rfl rfl rfl fun _ h => ?_; try simp only [List.set_cons_zero, List.set_cons_succ] at h)
      cases aw <;> cases au <;> cases af
      all_goals (try simp only [bsel])
      all_goals
        refine ⟨_, _, _, _, h, ⟨by decide, by decide⟩, ⟨by decide, by decide⟩, ⟨by decide, by decide⟩, ⟨by decide, by decide⟩, ?_⟩
        try rw [c4]
        kernel_rfl
    refine bsel_in (fun c => ?_) fun c2 => ?_
    · have c4 : (bit == (4 : Int)) = false := by simp at c; subst c; rfl
      refine inB_in (by decide) (by decide) ?_
      first | refine ld_I (i := 0) h rfl rfl ?_ | refine ld_B (i := 0) h rfl rfl ?_ | refine ld_P (i := 0) h rfl rfl ?_ | refine ld_S (i := 0) h rfl rfl ?_ | refine ld_M (i := 0) h rfl rfl ?_
      refine inB_in (by decide) (by decide) ?_
      first | (refine st_C (i := 0) h rfl rfl rfl fun _ h => ?_; try simp only [List.set_cons_zero, List.set_cons_succ] at h)
      cases aw <;> cases au <;> cases af
      all_goals (try simp only [bsel])
      all_goals
        refine ⟨_, _, _, _, h, ⟨by decide, by decide⟩, ⟨by decide, by decide⟩, ⟨by decide, by decide⟩, ⟨by decide, by decide⟩, ?_⟩
        try rw [c4]
        kernel_rfl
    refine bsel_in (fun c => ?_) fun c3 => ?_
    · have c4 : (bit == (4 : Int)) = false := by simp at c; subst c; rfl
      refine inB_in (by decide) (by decide) ?_
      first | refine ld_I (i := 0) h rfl rfl ?_ | refine ld_B (i := 0) h rfl rfl ?_ | refine ld_P (i := 0) h rfl rfl ?_ | refine ld_S (i := 0) h rfl rfl ?_ | refine ld_M (i := 0) h rfl rfl ?_
      refine inB_in (by decide) (by decide) ?_
      first | (refine st_C (i := 0) h rfl rfl rfl fun _ h => ?_; try simp only [List.set_cons_zero, List.set_cons_succ] at h)
      cases aw <;> cases au <;> cases af
      all_goals (try simp only [bsel])
      all_goals
        refine ⟨_, _, _, _, h, ⟨by decide, by decide⟩, ⟨by decide, by decide⟩, ⟨by decide, by decide⟩, ⟨by decide, by decide⟩, ?_⟩
        try rw [c4]
        kernel_rfl
    refine bsel_in (fun c4 => ?_) fun c4 => ?_
    · refine inB_in (by decide) (by decide) ?_
      first | refine ld_I (i := 0) h rfl rfl ?_ | refine ld_B (i := 0) h rfl rfl ?_ | refine ld_P (i := 0) h rfl rfl ?_ | refine ld_S (i := 0) h rfl rfl ?_ | refine ld_M (i := 0) h rfl rfl ?_
      refine inB_in (by decide) (by decide) ?_
      first | (refine st_C (i := 0) h rfl rfl rfl fun _ h => ?_; try simp only [List.set_cons_zero, List.set_cons_succ] at h)
      cases aw <;> cases au <;> cases af
      all_goals (try simp only [bsel])
      all_goals
        refine ⟨_, _, _, _, h, ⟨by decide, by decide⟩, ⟨by decide, by decide⟩, ⟨by decide, by decide⟩, ⟨by decide, by decide⟩, ?_⟩
        try rw [c4]
        kernel_rfl
    · cases aw <;> cases au <;> cases af
      all_goals
        refine ⟨_, _, _, _, h, ⟨by decide, by decide⟩, ⟨by decide, by decide⟩, ⟨by decide, by decide⟩, ⟨by decide, by decide⟩, ?_⟩
        try rw [c4]
        kernel_rfl
  · refine bsel_in (fun c => ?_) fun c1 => ?_
    · have c4 : (bit == (4 : Int)) = false := by simp at c; subst c; rfl
      refine inB_in (by decide) (by decide) ?_
      first | refine ld_I (i := 0) h rfl rfl ?_ | refine ld_B (i := 0) h rfl rfl ?_ | refine ld_P (i := 0) h rfl rfl ?_ | refine ld_S (i := 0) h rfl rfl ?_ | refine ld_M (i := 0) h rfl rfl ?_
      refine inB_in (by decide) (by decide) ?_
      first | (refine st_C (i := 0) h rfl rfl rfl fun _ h => ?_; try simp only [List.set_cons_zero, List.set_cons_succ] at h)
      cases aw <;> cases au <;> cases af
      all_goals (try simp only [bsel])
      all_goals
        refine ⟨_, _, _, _, h, ⟨by decide, by decide⟩, ⟨by decide, by decide⟩, ⟨by decide, by decide⟩, ⟨by decide, by decide⟩, ?_⟩
        try rw [c4]
        kernel_rfl
    refine bsel_in (fun c => ?_) fun c2 => ?_
    · have c4 : (bit == (4 : Int)) = false := by simp at c; subst c; rfl
      refine inB_in (by decide) (by decide) ?_
      first | refine ld_I (i := 0) h rfl rfl ?_ | refine ld_B (i := 0) h rfl rfl ?_ | refine ld_P (i := 0) h rfl rfl ?_ | refine ld_S (i := 0) h rfl rfl ?_ | refine ld_M (i := 0) h rfl rfl ?_
      refine inB_in (by decide) (by decide) ?_
      first | (refine st_C (i := 0) h rfl rfl rfl fun _ h => ?_; try simp only [List.set_cons_zero, List.set_cons_succ] at h)
      cases aw <;> cases au <;> cases af
      all_goals (try simp only [bsel])
      all_goals
        refine ⟨_, _, _, _, h, ⟨by decide, by decide⟩, ⟨by decide, by decide⟩, ⟨by decide, by decide⟩, ⟨by decide, by decide⟩, ?_⟩
        try rw [c4]
        kernel_rfl
    refine bsel_in (fun c => ?_) fun c3 => ?_
    · have c4 : (bit == (4 : Int)) = false := by simp at c; subst c; rfl
      refine inB_in (by decide) (by decide) ?_
      first | refine ld_I (i := 0) h rfl rfl ?_ | refine ld_B (i := 0) h rfl rfl ?_ | refine ld_P (i := 0) h rfl rfl ?_ | refine ld_S (i := 0) h rfl rfl ?_ | refine ld_M (i := 0) h rfl rfl ?_
      refine inB_in (by decide) (by decide) ?_
      first | (refine st_C (i := 0) h rfl rfl rfl fun _ h => ?_; try simp only [List.set_cons_zero, List.set_cons_succ] at h)
      cases aw <;> cases au <;> cases af
      all_goals (try simp only [bsel])
      all_goals
        refine ⟨_, _, _, _, h, ⟨by decide, by decide⟩, ⟨by decide, by decide⟩, ⟨by decide, by decide⟩, ⟨by decide, by decide⟩, ?_⟩
        try rw [c4]
        kernel_rfl
    refine bsel_in (fun c4 => ?_) fun c4 => ?_
    · refine inB_in (by decide) (by decide) ?_
      first | refine ld_I (i := 0) h rfl rfl ?_ | refine ld_B (i := 0) h rfl rfl ?_ | refine ld_P (i := 0) h rfl rfl ?_ | refine ld_S (i := 0) h rfl rfl ?_ | refine ld_M (i := 0) h rfl rfl ?_
      refine inB_in (by decide) (by decide) ?_
      first | (refine st_C (i := 0) h rfl rfl rfl fun _ h => ?_; try simp only [List.set_cons_zero, List.set_cons_succ] at h)
      cases aw <;> cases au <;> cases af
      all_goals (try simp only [bsel])
      all_goals
        refine ⟨_, _, _, _, h, ⟨by decide, by decide⟩, ⟨by decide, by decide⟩, ⟨by decide, by decide⟩, ⟨by decide, by decide⟩, ?_⟩
        try rw [c4]
        kernel_rfl
    · cases aw <;> cases au <;> cases af
      all_goals
        refine ⟨_, _, _, _, h, ⟨by decide, by decide⟩, ⟨by decide, by decide⟩, ⟨by decide, by decide⟩, ⟨by decide, by decide⟩, ?_⟩
        try rw [c4]
        kernel_rfl
  · refine bsel_in (fun c => ?_) fun c1 => ?_
    · have c4 : (bit == (4 : Int)) = false := by simp at c; subst c; rfl
      refine inB_in (by decide) (by decide) ?_
      first | refine ld_I (i := 0) h rfl rfl ?_ | refine ld_B (i := 0) h rfl rfl ?_ | refine ld_P (i := 0) h rfl rfl ?_ | refine ld_S (i := 0) h rfl rfl ?_ | refine ld_M (i := 0) h rfl rfl ?_
      refine inB_in (by decide) (by decide) ?_
      first | (refine st_C (i := 0) h rfl rfl rfl fun _ h => ?_; try simp only [List.set_cons_zero, List.set_cons_succ] at h)
      cases aw <;> cases au <;> cases af
      all_goals (try simp only [bsel])
      all_goals
        refine ⟨_, _, _, _, h, ⟨by decide, by decide⟩, ⟨by decide, by decide⟩, ⟨by decide, by decide⟩, ⟨by decide, by decide⟩, ?_⟩
        try rw [c4]
        kernel_rfl
    refine bsel_in (fun c => ?_) fun c2 => ?_
    · have c4 : (bit == (4 : Int)) = false := by simp at c; subst c; rfl
      refine inB_in (by decide) (by decide) ?_
      first | refine ld_I (i := 0) h rfl rfl ?_ | refine ld_B (i := 0) h rfl rfl ?_ | refine ld_P (i := 0) h rfl rfl ?_ | refine ld_S (i := 0) h rfl rfl ?_ | refine ld_M (i := 0) h rfl rfl ?_
      refine inB_in (by decide) (by decide) ?_
      first | (refine st_C (i := 0) h rfl rfl rfl fun _ h => ?_; try simp only [List.set_cons_zero, List.set_cons_succ] at h)
      cases aw <;> cases au <;> cases af
      all_goals (try simp only [bsel])
      all_goals
        refine ⟨_, _, _, _, h, ⟨by decide, by decide⟩, ⟨by decide, by decide⟩, ⟨by decide, by decide⟩, ⟨by decide, by decide⟩, ?_⟩
        try rw [c4]
        kernel_rfl
    refine bsel_in (fun c => ?_) fun c3 => ?_
    · have c4 : (bit == (4 : Int)) = false := by simp at c; subst c; rfl
      refine inB_in (by decide) (by decide) ?_
      first | refine ld_I (i := 0) h rfl rfl ?_ | refine ld_B (i := 0) h rfl rfl ?_ | refine ld_P (i := 0) h rfl rfl ?_ | refine ld_S (i := 0) h rfl rfl ?_ | refine ld_M (i := 0) h rfl rfl ?_
      refine inB_in (by decide) (by decide) ?_
      first | (refine st_C (i := 0) h rfl rfl rfl fun _ h => ?_; try simp only [List.set_cons_zero, List.set_cons_succ] at h)
      cases aw <;> cases au <;> cases af
      all_goals (try simp only [bsel])
      all_goals
        refine ⟨_, _, _, _, h, ⟨by decide, by decide⟩, ⟨by decide, by decide⟩, ⟨by decide, by decide⟩, ⟨by decide, by decide⟩, ?_⟩
        try rw [c4]
        kernel_rfl
    refine bsel_in (fun c4 => ?_) fun c4 => ?_
    · refine inB_in (by decide) (by decide) ?_
      first | refine ld_I (i := 0) h rfl rfl ?_ | refine ld_B (i := 0) h rfl rfl ?_ | refine ld_P (i := 0) h rfl rfl ?_ | refine ld_S (i := 0) h rfl rfl ?_ | refine ld_M (i := 0) h rfl rfl ?_
      refine inB_in (by decide) (by decide) ?_
      first | (refine st_C (i := 0) h rfl rfl rfl fun _ h => ?_; try simp only [List.set_cons_zero, List.set_cons_succ] at h)
      cases aw <;> cases au <;> cases af
      all_goals (try simp only [bsel])
      all_goals
        refine ⟨_, _, _, _, h, ⟨by decide, by decide⟩, ⟨by decide, by decide⟩, ⟨by decide, by decide⟩, ⟨by decide, by decide⟩, ?_⟩
        try rw [c4]
        kernel_rfl
    · cases aw <;> cases au <;> cases af
      all_goals
        refine ⟨_, _, _, _, h, ⟨by decide, by decide⟩, ⟨by decide, by decide⟩, ⟨by decide, by decide⟩, ⟨by decide, by decide⟩, ?_⟩
        try rw [c4]
        kernel_rfl
  · refine bsel_in (fun c => ?_) fun c1 => ?_
    · have c4 : (bit == (4 : Int)) = false := by simp at c; subst c; rfl
      refine inB_in (by decide) (by decide) ?_
      first | refine ld_I (i := 0) h rfl rfl ?_ | refine ld_B (i := 0) h rfl rfl ?_ | refine ld_P (i := 0) h rfl rfl ?_ | refine ld_S (i := 0) h rfl rfl ?_ | refine ld_M (i := 0) h rfl rfl ?_
      refine inB_in (by decide) (by decide) ?_
      first | (refine st_C (i := 0) h rfl rfl rfl fun _ h => ?_; try simp only [List.set_cons_zero, List.set_cons_succ] at h)
      cases aw <;> cases au <;> cases af
      all_goals (try simp only [bsel])
      all_goals
        refine ⟨_, _, _, _, h, ⟨by decide, by decide⟩, ⟨by decide, by decide⟩, ⟨by decide, by decide⟩, ⟨by decide, by decide⟩, ?_⟩
        try rw [c4]
        kernel_rfl
    refine bsel_in (fun c => ?_) fun c2 => ?_
    · have c4 : (bit == (4 : Int)) = false := by simp at c; subst c; rfl
      refine inB_in (by decide) (by decide) ?_
      first | refine ld_I (i := 0) h rfl rfl ?_ | refine ld_B (i := 0) h rfl rfl ?_ | refine ld_P (i := 0) h rfl rfl ?_ | refine ld_S (i := 0) h rfl rfl ?_ | refine ld_M (i := 0) h rfl rfl ?_
      refine inB_in (by decide) (by decide) ?_
      first | (refine st_C (i := 0) h rfl rfl rfl fun _ h => ?_; try simp only [List.set_cons_zero, List.set_cons_succ] at h)
      cases aw <;> cases au <;> cases af
      all_goals (try simp only [bsel])
      all_goals
        refine ⟨_, _, _, _, h, ⟨by decide, by decide⟩, ⟨by decide, by decide⟩, ⟨by decide, by decide⟩, ⟨by decide, by decide⟩, ?_⟩
        try rw [c4]
        kernel_rfl
    refine bsel_in (fun c => ?_) fun c3 => ?_
    · have c4 : (bit == (4 : Int)) = false := by simp at c; subst c; rfl
      refine inB_in (by decide) (by decide) ?_
      first | refine ld_I (i := 0) h rfl rfl ?_ | refine ld_B (i := 0) h rfl rfl ?_ | refine ld_P (i := 0) h rfl rfl ?_ | refine ld_S (i := 0) h rfl rfl ?_ | refine ld_M (i := 0) h rfl rfl ?_
      refine inB_in (by decide) (by decide) ?_
      first | (refine st_C (i := 0) h rfl rfl rfl fun _ h => ?_; try simp only [List.set_cons_zero, List.set_cons_succ] at h)
      cases aw <;> cases au <;> cases af
      all_goals (try simp only [bsel])
      all_goals
        refine ⟨_, _, _, _, h, ⟨by decide, by decide⟩, ⟨by decide, by decide⟩, ⟨by decide, by decide⟩, ⟨by decide, by decide⟩, ?_⟩
        try rw [c4]
        kernel_rfl
    refine bsel_in (fun c4 => ?_) fun c4 => ?_
    · refine inB_in (by decide) (by decide) ?_
      first | refine ld_I (i := 0) h rfl rfl ?_ | refine ld_B (i := 0) h rfl rfl ?_ | refine ld_P (i := 0) h rfl rfl ?_ | refine ld_S (i := 0) h rfl rfl ?_ | refine ld_M (i := 0) h rfl rfl ?_
      refine inB_in (by decide) (by decide) ?_
      first | (refine st_C (i := 0) h rfl rfl rfl fun _ h => ?_; try simp only [List.set_cons_zero, List.set_cons_succ] at h)
      cases aw <;> cases au <;> cases af
      all_goals (try simp only [bsel])
      all_goals
        refine ⟨_, _, _, _, h, ⟨by decide, by decide⟩, ⟨by decide, by decide⟩, ⟨by decide, by decide⟩, ⟨by decide, by decide⟩, ?_⟩
        try rw [c4]
        kernel_rfl
    · cases aw <;> cases au <;> cases af
      all_goals
        refine ⟨_, _, _, _, h, ⟨by decide, by decide⟩, ⟨by decide, by decide⟩, ⟨by decide, by decide⟩, ⟨by decide, by decide⟩, ?_⟩
        try rw [c4]
        kernel_rfl
end Go.Dn
