/- What was found is found again; what was refused is refused for a greater access. -/
import Derived.Test.YtnjbnhciheeboaaLawPages
namespace Go.Dn

variable {A : AH} {l : List SP} {fr : Int} {hs : List (Int × Int)} {M N : Int → Int} {a root : Int} {aw au af mw mu mf : Bool}
theorem may_great {w u x : Bool} (h : mayZ w u x aw au af = false) : mayZ w u x (aw || mw) (au || mu) (af || mf) = false := by
  revert h
  cases w <;> cases u <;> cases x <;> cases aw <;> cases au <;> cases af <;> cases mw <;> cases mu <;> cases mf <;> decide
theorem again_err {b : Bool} {x y : COut} (h : CEq b x y) {e : Int} (q : fin aw au af x = .err e) : fin (aw || mw) (au || mu) (af || mf) y = .err e := by
  cases h with
  | err e2 => exact q
  | fault c => cases q
  | leaf f w u x g lg d d' ps hd =>
    simp only [fin] at q
    split at q <;> cases q
theorem again_fault {b : Bool} {x y : COut} (h : CEq b x y) {c : Int} (q : fin aw au af x = .fault c) : ∃ c', fin (aw || mw) (au || mu) (af || mf) y = .fault c' := by
  cases h with
  | err e2 => cases q
  | fault c => exact ⟨_, rfl⟩
  | leaf f w u x g lg d d' ps hd =>
    simp only [fin] at q ⊢
    split at q
    · cases q
    · rename_i hm
      rw [may_great (by simpa using hm)]
      exact ⟨_, rfl⟩
theorem again_ok {b : Bool} {x y : COut} (h : CEq b x y) {f : Int} {w u xx g lg d : Bool} {ps : List Int} (q : fin aw au af x = .ok f w u xx g lg d ps) :
    mayZ w u xx aw au af = true ∧ ((mayZ w u xx (aw || mw) (au || mu) (af || mf) = true ∧ ∃ d', fin (aw || mw) (au || mu) (af || mf) y = .ok f w u xx g lg d' ps) ∨
      (mayZ w u xx (aw || mw) (au || mu) (af || mf) = false ∧ ∃ c', fin (aw || mw) (au || mu) (af || mf) y = .fault c')) := by
  cases h with
  | err e2 => cases q
  | fault c => cases q
  | leaf f2 w2 u2 x2 g2 lg2 d2 d' ps2 hd =>
    simp only [fin] at q ⊢
    split at q
    · rename_i hm
      cases q
      refine ⟨hm, ?_⟩
      cases hg : mayZ w u xx (aw || mw) (au || mu) (af || mf) with
      | true => exact .inl ⟨rfl, _, rfl⟩
      | false => exact .inr ⟨rfl, _, rfl⟩
    · cases q
theorem WalkAgain_A {P : SP} {k : Nat} {s : Sl} {ps : List Put} {Q : Bool → AH → Prop} (h : Own l A) (e : l[k]? = some P) (hr : Reads P s 3 (putCells ps)) (hU : ∀ p ∈ ps, U64 p.x) (hlen : ps.length < 9223372036854775808)
    (ha : U64 a) (hk : ∀ A', Own l A' → Q true A') : demesnelaw04_WalkAgain_A s root a aw au af mw mu mf Q A := by
  unfold demesnelaw04_WalkAgain_A
  refine Lay_spec (k := k) h e hr hU hlen fun r b m _ h => ?_
  refine bsel_f rfl ?_
  have hb := RamS.byte (i := 0) h rfl
  refine Walk_spec (i := 0) h rfl (by decide) (by decide) ha ?_
  cases hW : walkZ 8 holes7 (layM ps) root a aw au af with
  | err e1 =>
    intro _ h
    have he := walkZ_err hW
    refine Walk_spec (i := 0) h rfl (by decide) (by decide) ha ?_
    rw [hW]
    intro _ h
    have h3 : walkZ 8 holes7 (layM ps) root a (aw || mw) (au || mu) (af || mf) = .err e1 := by
      rw [walkZ_fin] at hW ⊢
      exact again_err (coreZ_like (likeM_refl (b := true) hb)) hW
    refine bsel_f (by simp) (bsel_f (by simp) ?_)
    refine ⟨fun pt h' => ∃ b2, pt = some ⟨b2, 0, none⟩ ∧ Own (At b2 [.bool (aw || mw), .bool (au || mu), .bool (af || mf)] :: RamS r 8 holes7 (layM ps) :: RefS m (layM ps) :: SlAt (holeSl b) 2 (holeCells holes7) :: l) h', ?_, ?_⟩
    · intro pt h' ⟨b2, q, h⟩
      subst q
      first | refine ld_I (i := 0) h rfl rfl ?_ | refine ld_B (i := 0) h rfl rfl ?_ | refine ld_P (i := 0) h rfl rfl ?_ | refine ld_S (i := 0) h rfl rfl ?_ | refine ld_M (i := 0) h rfl rfl ?_
      first | refine ld_I (i := 0) h rfl rfl ?_ | refine ld_B (i := 0) h rfl rfl ?_ | refine ld_P (i := 0) h rfl rfl ?_ | refine ld_S (i := 0) h rfl rfl ?_ | refine ld_M (i := 0) h rfl rfl ?_
      first | refine ld_I (i := 0) h rfl rfl ?_ | refine ld_B (i := 0) h rfl rfl ?_ | refine ld_P (i := 0) h rfl rfl ?_ | refine ld_S (i := 0) h rfl rfl ?_ | refine ld_M (i := 0) h rfl rfl ?_
      refine Walk_spec (i := 1) h rfl (by decide) (by decide) ha ?_
      rw [h3]
      intro _ h
      refine bsel_t (by simp; omega) ?_
      refine awake_spec h fun _ h => bsel_t rfl (bsel_t (by simp) ?_)
      exact hk _ h.tail.tail.tail.tail
    · cases aw <;> cases au <;> cases af
      all_goals
        simp only [bsel]
        refine new_C h fun b2 _ h => ?_
        repeat (first | (first | (refine st_C (i := 0) h rfl rfl rfl fun _ h => ?_; try simp only [List.set_cons_zero, List.set_cons_succ] at h) | (refine st_C (i := 1) h rfl rfl rfl fun _ h => ?_; try simp only [List.set_cons_zero, List.set_cons_succ] at h)) | (first | refine ld_I (i := 0) h rfl rfl ?_ | refine ld_B (i := 0) h rfl rfl ?_ | refine ld_P (i := 0) h rfl rfl ?_ | refine ld_S (i := 0) h rfl rfl ?_ | refine ld_M (i := 0) h rfl rfl ?_ | refine ld_I (i := 1) h rfl rfl ?_ | refine ld_B (i := 1) h rfl rfl ?_ | refine ld_P (i := 1) h rfl rfl ?_ | refine ld_S (i := 1) h rfl rfl ?_ | refine ld_M (i := 1) h rfl rfl ?_))
        exact ⟨_, rfl, h⟩
  | fault c1 =>
    intro _ h
    refine Walk_spec (i := 0) h rfl (by decide) (by decide) ha ?_
    rw [hW]
    intro _ h
    obtain ⟨c', h3⟩ : ∃ c', walkZ 8 holes7 (layM ps) root a (aw || mw) (au || mu) (af || mf) = .fault c' := by
      rw [walkZ_fin] at hW ⊢
      exact again_fault (coreZ_like (likeM_refl (b := true) hb)) hW
    refine bsel_f (by simp) (bsel_f (by simp) ?_)
    refine ⟨fun pt h' => ∃ b2, pt = some ⟨b2, 0, none⟩ ∧ Own (At b2 [.bool (aw || mw), .bool (au || mu), .bool (af || mf)] :: RamS r 8 holes7 (layM ps) :: RefS m (layM ps) :: SlAt (holeSl b) 2 (holeCells holes7) :: l) h', ?_, ?_⟩
    · intro pt h' ⟨b2, q, h⟩
      subst q
      first | refine ld_I (i := 0) h rfl rfl ?_ | refine ld_B (i := 0) h rfl rfl ?_ | refine ld_P (i := 0) h rfl rfl ?_ | refine ld_S (i := 0) h rfl rfl ?_ | refine ld_M (i := 0) h rfl rfl ?_
      first | refine ld_I (i := 0) h rfl rfl ?_ | refine ld_B (i := 0) h rfl rfl ?_ | refine ld_P (i := 0) h rfl rfl ?_ | refine ld_S (i := 0) h rfl rfl ?_ | refine ld_M (i := 0) h rfl rfl ?_
      first | refine ld_I (i := 0) h rfl rfl ?_ | refine ld_B (i := 0) h rfl rfl ?_ | refine ld_P (i := 0) h rfl rfl ?_ | refine ld_S (i := 0) h rfl rfl ?_ | refine ld_M (i := 0) h rfl rfl ?_
      refine Walk_spec (i := 1) h rfl (by decide) (by decide) ha ?_
      rw [h3]
      intro _ h
      refine bsel_t rfl ?_
      refine awake_spec h fun _ h => bsel_t rfl (bsel_t (by simp) ?_)
      exact hk _ h.tail.tail.tail.tail
    · cases aw <;> cases au <;> cases af
      all_goals
        simp only [bsel]
        refine new_C h fun b2 _ h => ?_
        repeat (first | (first | (refine st_C (i := 0) h rfl rfl rfl fun _ h => ?_; try simp only [List.set_cons_zero, List.set_cons_succ] at h) | (refine st_C (i := 1) h rfl rfl rfl fun _ h => ?_; try simp only [List.set_cons_zero, List.set_cons_succ] at h)) | (first | refine ld_I (i := 0) h rfl rfl ?_ | refine ld_B (i := 0) h rfl rfl ?_ | refine ld_P (i := 0) h rfl rfl ?_ | refine ld_S (i := 0) h rfl rfl ?_ | refine ld_M (i := 0) h rfl rfl ?_ | refine ld_I (i := 1) h rfl rfl ?_ | refine ld_B (i := 1) h rfl rfl ?_ | refine ld_P (i := 1) h rfl rfl ?_ | refine ld_S (i := 1) h rfl rfl ?_ | refine ld_M (i := 1) h rfl rfl ?_))
        exact ⟨_, rfl, h⟩
  | ok f w u x g lg d qs =>
    intro _ h
    simp only [List.set_cons_zero] at h
    have hm1 := likeM_mark (wr := aw) qs _ hb (walkZ_places (by decide) hW)
    refine Walk_spec (i := 0) h rfl (by decide) (by decide) ha ?_
    rw [walkZ_like hm1, hW]
    intro _ h
    simp only [List.set_cons_zero] at h
    have hb1 := RamS.byte (i := 0) h rfl
    have hm2 : LikeM aw (layM ps) (markL (markL (layM ps) aw qs) aw qs) := hm1.trans (likeM_mark (wr := aw) qs _ (by
      intro c
      have hb2 : ∀ (qs : List Int) (N : Int → Int), (∀ a, 0 ≤ N a ∧ N a < 256) → ∀ a, 0 ≤ markL N aw qs a ∧ markL N aw qs a < 256 := by
        intro qs
        induction qs with
        | nil => exact fun N h => h
        | cons p qs ih => exact fun N h => ih _ (stM_byte h)
      exact hb2 qs _ hb c) (walkZ_places (by decide) hW))
    have h3 := again_ok (mw := mw) (mu := mu) (mf := mf) (au := au) (af := af) (coreZ_like (fr := 8) (hs := holes7) (a := a) (root := root) hm2) (by rw [← walkZ_fin]; exact hW)
    rw [← walkZ_fin] at h3
    refine bsel_f (by simp) (bsel_f (by simp) ?_)
    refine ⟨fun pt h' => ∃ b2, pt = some ⟨b2, 0, none⟩ ∧ Own (At b2 [.bool (aw || mw), .bool (au || mu), .bool (af || mf)] :: RamS r 8 holes7 (markL (markL (layM ps) aw qs) aw qs) :: RefS m (layM ps) :: SlAt (holeSl b) 2 (holeCells holes7) :: l) h', ?_, ?_⟩
    · intro pt h' ⟨b2, q, h⟩
      subst q
      first | refine ld_I (i := 0) h rfl rfl ?_ | refine ld_B (i := 0) h rfl rfl ?_ | refine ld_P (i := 0) h rfl rfl ?_ | refine ld_S (i := 0) h rfl rfl ?_ | refine ld_M (i := 0) h rfl rfl ?_
      first | refine ld_I (i := 0) h rfl rfl ?_ | refine ld_B (i := 0) h rfl rfl ?_ | refine ld_P (i := 0) h rfl rfl ?_ | refine ld_S (i := 0) h rfl rfl ?_ | refine ld_M (i := 0) h rfl rfl ?_
      first | refine ld_I (i := 0) h rfl rfl ?_ | refine ld_B (i := 0) h rfl rfl ?_ | refine ld_P (i := 0) h rfl rfl ?_ | refine ld_S (i := 0) h rfl rfl ?_ | refine ld_M (i := 0) h rfl rfl ?_
      refine Walk_spec (i := 1) h rfl (by decide) (by decide) ha ?_
      obtain ⟨hmay, ⟨hg, d', h3⟩ | ⟨hg, c', h3⟩⟩ := h3
      · rw [h3]
        intro _ h
        simp only [List.set_cons_succ, List.set_cons_zero] at h
        refine bsel_f rfl (bsel_f rfl ?_)
        refine awake_spec h fun _ h => bsel_t rfl (bsel_t (by simp) (bsel_t (by simp) (bsel_t (by simp) ?_)))
        refine May_spec ?_
        rw [hmay]
        exact hk _ h.tail.tail.tail.tail
      · rw [h3]
        intro _ h
        refine bsel_f rfl (bsel_t rfl ?_)
        refine awake_spec h fun _ h => bsel_t rfl (bsel_t rfl ?_)
        first | refine ld_I (i := 0) h rfl rfl ?_ | refine ld_B (i := 0) h rfl rfl ?_ | refine ld_P (i := 0) h rfl rfl ?_ | refine ld_S (i := 0) h rfl rfl ?_ | refine ld_M (i := 0) h rfl rfl ?_
        first | refine ld_I (i := 0) h rfl rfl ?_ | refine ld_B (i := 0) h rfl rfl ?_ | refine ld_P (i := 0) h rfl rfl ?_ | refine ld_S (i := 0) h rfl rfl ?_ | refine ld_M (i := 0) h rfl rfl ?_
        first | refine ld_I (i := 0) h rfl rfl ?_ | refine ld_B (i := 0) h rfl rfl ?_ | refine ld_P (i := 0) h rfl rfl ?_ | refine ld_S (i := 0) h rfl rfl ?_ | refine ld_M (i := 0) h rfl rfl ?_
        refine May_spec ?_
        rw [hg]
        exact hk _ h.tail.tail.tail.tail
    · cases aw <;> cases au <;> cases af
      all_goals
        simp only [bsel]
        refine new_C h fun b2 _ h => ?_
        repeat (first | (first | (refine st_C (i := 0) h rfl rfl rfl fun _ h => ?_; try simp only [List.set_cons_zero, List.set_cons_succ] at h) | (refine st_C (i := 1) h rfl rfl rfl fun _ h => ?_; try simp only [List.set_cons_zero, List.set_cons_succ] at h)) | (first | refine ld_I (i := 0) h rfl rfl ?_ | refine ld_B (i := 0) h rfl rfl ?_ | refine ld_P (i := 0) h rfl rfl ?_ | refine ld_S (i := 0) h rfl rfl ?_ | refine ld_M (i := 0) h rfl rfl ?_ | refine ld_I (i := 1) h rfl rfl ?_ | refine ld_B (i := 1) h rfl rfl ?_ | refine ld_P (i := 1) h rfl rfl ?_ | refine ld_S (i := 1) h rfl rfl ?_ | refine ld_M (i := 1) h rfl rfl ?_))
        exact ⟨_, rfl, h⟩
end Go.Dn
