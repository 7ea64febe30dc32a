/- Two addresses in one page lead to one frame; what was found is found again. -/
import Derived.Test.YtnjbnhciheeboaaCore
import Derived.Test.YtnjbnhciheeboaaDnO
namespace Go.Dn

variable {A : AH} {l : List SP} {fr : Int} {hs : List (Int × Int)} {M N : Int → Int} {a root : Int} {aw au af : Bool}
theorem walkC_err : ∀ (lv : Nat) (t : Int) (w u x : Bool) (ps : List Int) (e : Int), walkC fr hs M a (lv + 1) t w u x ps = .err e → e = 2 := by
  intro lv
  induction lv with
  | zero =>
    intro t w u x ps e h
    rw [walkC] at h
    split at h
    · cases h; rfl
    · split at h
      · cases h
      · split at h
        · cases h
        · rw [if_pos (.inl rfl)] at h; cases h
  | succ lv ih =>
    intro t w u x ps e h
    rw [walkC] at h
    split at h
    · cases h; rfl
    · split at h
      · cases h
      · split at h
        · cases h
        · split at h
          · cases h
          · exact ih _ _ _ _ _ e h
theorem walkZ_err {e : Int} (h : walkZ fr hs M root a aw au af = .err e) : e = 1 ∨ e = 2 := by
  rw [walkZ_fin] at h
  cases hc : coreZ fr hs M root a with
  | err e2 =>
    rw [hc] at h
    cases h
    unfold coreZ at hc
    split at hc
    · cases hc; exact .inl rfl
    · split at hc
      · cases hc; exact .inr rfl
      · exact .inr (walkC_err _ _ _ _ _ _ _ hc)
  | fault b => rw [hc] at h; cases h
  | leaf f w u x g lg d ps =>
    rw [hc] at h
    simp only [fin] at h
    split at h <;> cases h
theorem walkZ_places (hf : 0 ≤ fr ∧ fr ≤ 1048576) {f : Int} {w u x g lg d : Bool} {ps : List Int} (h : walkZ fr hs M root a aw au af = .ok f w u x g lg d ps) : ∀ p ∈ ps, p % 8 = 0 := by
  rw [walkZ_fin] at h
  cases hc : coreZ fr hs M root a with
  | err e2 => rw [hc] at h; cases h
  | fault b => rw [hc] at h; cases h
  | leaf f2 w2 u2 x2 g2 lg2 d2 ps2 =>
    rw [hc] at h
    simp only [fin] at h
    split at h
    · cases h
      unfold coreZ at hc
      split at hc
      · cases hc
      · split at hc
        · cases hc
        · exact walkC_places hf _ _ _ _ _ _ (fun p hp => by simp at hp) _ _ _ _ _ _ _ _ hc
    · cases h
theorem other_page {a off : Int} (ha : U64 a) (h0 : 0 ≤ off) (h1 : off ≤ 4095) :
    IntKind.wrap .u64 (IntKind.wrap .u64 (a - Int.tmod a 4096) + IntKind.wrap .u64 off) = a - a % 4096 + off ∧ U64 (a - a % 4096 + off) ∧ (a - a % 4096 + off) / 4096 = a / 4096 := by
  obtain ⟨h2, h3⟩ := ha
  rw [tmod4096 h2, wu64 (n := a - a % 4096) (by omega) (by omega), wu64 (n := off) (by omega) (by omega), wu64 (by omega) (by omega)]
  refine ⟨rfl, ⟨by omega, by omega⟩, by omega⟩
theorem WalkPages_A {P : SP} {k : Nat} {s : Sl} {ps : List Put} {off : Int} {Q : Bool → AH → Prop} (h : Own l A) (e : l[k]? = some P) (hr : Reads P s 3 (putCells ps)) (hU : ∀ p ∈ ps, U64 p.x) (hlen : ps.length < 9223372036854775808)
    (ha : U64 a) (hk : ∀ A', Own l A' → Q true A') : demesnelaw04_WalkPages_A s root a aw au af off Q A := by
  unfold demesnelaw04_WalkPages_A
  refine Lay_spec (k := k) h e hr hU hlen fun r b m _ h => ?_
  refine bsel_f rfl ?_
  refine bsel_in (fun c => bsel_t rfl (awake_spec h fun _ h => hk _ h.tail.tail.tail)) fun c => ?_
  refine bsel_in (fun c2 => bsel_t rfl (awake_spec h fun _ h => hk _ h.tail.tail.tail)) fun c2 => ?_
  simp at c c2
  obtain ⟨ho, hoU, hoP⟩ := other_page ha c c2
  rw [ho]
  have hb := RamS.byte (i := 0) h rfl
  have h2 : ∀ N, LikeM aw (layM ps) N → walkZ 8 holes7 N root (a - a % 4096 + off) aw au af = walkZ 8 holes7 (layM ps) root a aw au af := fun N hN => by
    rw [walkZ_like hN, walkZ_fin, walkZ_fin, coreZ_page hoP]
  refine Walk_spec (i := 0) h rfl (by decide) (by decide) ha ?_
  cases hW : walkZ 8 holes7 (layM ps) root a aw au af with
  | err e1 =>
    intro _ h
    have he := walkZ_err hW
    refine Walk_spec (i := 0) h rfl (by decide) (by decide) hoU ?_
    rw [h2 _ (likeM_refl hb), hW]
    intro _ h
    refine bsel_f (by simp) (bsel_f (by simp) (bsel_f (by simp; omega) ?_))
    refine awake_spec h fun _ h => bsel_t rfl ?_
    simpa using hk _ h.tail.tail.tail
  | fault c1 =>
    intro _ h
    refine Walk_spec (i := 0) h rfl (by decide) (by decide) hoU ?_
    rw [h2 _ (likeM_refl hb), hW]
    intro _ h
    refine bsel_f (by simp) (bsel_f (by simp) (bsel_t rfl (bsel_f (by simp) (bsel_f (by simp) ?_))))
    refine awake_spec h fun _ h => bsel_t rfl ?_
    simpa using hk _ h.tail.tail.tail
  | ok f w u x g lg d qs =>
    intro _ h
    simp only [List.set_cons_zero] at h
    refine Walk_spec (i := 0) h rfl (by decide) (by decide) hoU ?_
    rw [h2 _ (likeM_mark qs _ hb (walkZ_places (by decide) hW)), hW]
    intro _ h
    simp only [List.set_cons_zero] at h
    refine bsel_f (by simp) (bsel_f (by simp) (bsel_f rfl ?_))
    refine awake_spec h fun _ h => bsel_t rfl ?_
    simpa using hk _ h.tail.tail.tail
end Go.Dn
