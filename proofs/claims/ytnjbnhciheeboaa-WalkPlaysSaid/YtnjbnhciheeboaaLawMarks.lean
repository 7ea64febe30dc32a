/- A walk marks its entries as used; one that is refused leaves all as it was. -/
import Derived.Test.YtnjbnhciheeboaaLawPages
namespace Go.Dn

variable {A : AH} {l : List SP} {M N : Int → Int} {a root : Int} {aw au af : Bool} {r : Nat}
theorem Same_spec {P : SP} {i j k mb : Nat} {f0 : Int} {s0 s : Sl} {ps : List Put} {Q : Int → AH → Prop} (h : Own l A) (ei : l[i]? = some (RamS r 8 holes7 M)) (ej : l[j]? = some (RefS mb M)) (ek : l[k]? = some P)
    (hr : Reads P s 3 (putCells ps)) (hlen0 : ps.length < 9223372036854775808) (hk : Q 0 A) : demesnelaw04_Same_A (some ⟨r, 0, none⟩) f0 s0 (some mb) s Q A := by
  have hlen : s.len * 3 = ps.length * 3 := by rw [← putCells_len]; exact rd_len h ek hr
  have hlen : s.len = ps.length := by omega
  unfold demesnelaw04_Same_A
  refine ⟨fun x m h' => h' = A ∧ ∃ q : Nat, x = q ∧ q ≤ ps.length ∧ m = ps.length - q, ⟨_, rfl, 0, rfl, by omega, rfl⟩, ?_⟩
  intro x m h' ⟨e0, q, e1, e2, e3⟩
  subst e0 e1 e3
  refine bsel_in (fun c => ?_) fun c => hk
  have c : q < ps.length := by simp [hlen] at c; omega
  refine bsel_in (fun c2 => ?_) fun c2 => hk
  refine ⟨fun h'' => h'' = h', fun h'' e => ⟨ps.length - (q + 1), by omega, e, q + 1, by rw [w64] <;> omega, by omega, rfl⟩, ?_⟩
  obtain ⟨p, hp⟩ : ∃ p, ps[q]? = some p := ⟨ps[q], by simp [c]⟩
  obtain ⟨h1, h2, h3⟩ := putCells_at hp
  obtain ⟨b, o, g1, g2⟩ := rd_cell h ek hr h1
  obtain ⟨b', o', g3, g4⟩ := rd_cell h ek hr h2
  obtain ⟨b'', o'', g5, g6⟩ := rd_cell h ek hr h3
  rw [g1] at g3 g5
  cases g3
  cases g5
  rw [g1]
  refine inB_in (by omega) (by rw [hlen]; omega) ⟨p.f, ?_, p.at_, ?_, p.x, ?_, ?_⟩
  · rw [add_at]; simpa using g2
  · rw [add_at, add_at]; simpa [Nat.add_assoc] using g4
  · rw [add_at, add_at]; simpa [Nat.add_assoc] using g6
  refine bsel_in (fun _ => rfl) fun d1 => ?_
  refine bsel_in (fun _ => rfl) fun d2 => ?_
  refine bsel_in (fun _ => rfl) fun d3 => ?_
  refine bsel_in (fun _ => rfl) fun d4 => ?_
  simp at d1 d2 d3 d4
  rw [place_wrap (by omega) (by omega)]
  have hok : okA 8 holes7 (p.f * 4096 + 8 * p.at_) ((8 : Nat) : Int) = true := by
    have := okA_word (fr := 8) (hs := holes7) (t := p.f) (at_ := p.at_) (by omega)
    have h7 : hasF 8 holes7 p.f = true := by simp [hasF]; omega
    rw [h7] at this
    exact this
  refine Load_spec (n := 8) h ei (by decide) (by decide) (by omega) (by omega) ?_
  rw [hok]
  simp only [↓reduceIte]
  refine bsel_f rfl ?_
  refine rLoad_spec (n := 8) h ej (by omega) (by omega) ?_
  exact bsel_f (by simp) rfl
variable {fr : Int} {hs : List (Int × Int)}
theorem walkC_leaf : ∀ (n : Nat) (t : Int) (w u x : Bool) (ps : List Int) (f : Int) (w' u' x' g lg d : Bool) (qs : List Int), walkC fr hs M a (n + 1) t w u x ps = .leaf f w' u' x' g lg d qs →
    hasF fr hs t = true ∧ bitZ (le M (placeZ t a n) 8) 0 = true ∧ (∃ rest, qs = ps ++ placeZ t a n :: rest) ∧ ∃ last, qs.getLast? = some last ∧ d = bitZ (le M last 8) 6 := by
  intro n
  induction n with
  | zero =>
    intro t w u x ps f w' u' x' g lg d qs h
    rw [walkC] at h
    split at h
    · cases h
    · rename_i c1
      split at h
      · cases h
      · rename_i c2
        split at h
        · cases h
        · rw [if_pos (.inl rfl)] at h
          cases h
          exact ⟨by simpa using c1, by simpa using c2, ⟨[], rfl⟩, placeZ t a 0, by simp, rfl⟩
  | succ n ih =>
    intro t w u x ps f w' u' x' g lg d qs h
    rw [walkC] at h
    split at h
    · cases h
    · rename_i c1
      split at h
      · cases h
      · rename_i c2
        split at h
        · cases h
        · split at h
          · cases h
            exact ⟨by simpa using c1, by simpa using c2, ⟨[], rfl⟩, placeZ t a (n + 1), by simp, rfl⟩
          · obtain ⟨_, _, ⟨rest, k3⟩, last, k4, k5⟩ := ih _ _ _ _ _ _ _ _ _ _ _ _ _ h
            refine ⟨by simpa using c1, by simpa using c2, ⟨_, by rw [k3, List.append_assoc]; rfl⟩, last, k4, k5⟩
theorem coreZ_leaf {f : Int} {w u x g lg d : Bool} {qs : List Int} (h : coreZ fr hs M root a = .leaf f w u x g lg d qs) :
    hasF fr hs root = true ∧ bitZ (le M (placeZ root a 3) 8) 0 = true ∧ placeZ root a 3 ∈ qs ∧ ∃ last, qs.getLast? = some last ∧ d = bitZ (le M last 8) 6 := by
  unfold coreZ at h
  split at h
  · cases h
  · split at h
    · cases h
    · obtain ⟨h1, h2, ⟨rest, h3⟩, h4⟩ := walkC_leaf _ _ _ _ _ _ _ _ _ _ _ _ _ _ h
      exact ⟨h1, h2, by rw [h3]; simp, h4⟩
theorem and33 {x : Int} (hx : U64 x) (h0 : bitZ x 0 = true) (h5 : bitZ x 5 = true) : bits .and .u64 x 33 = 33 := by
  obtain ⟨n, rfl⟩ := Int.eq_ofNat_of_zero_le hx.1
  have h1 := hx.2
  rw [bitZ_nat] at h0 h5
  rw [show (33 : Int) = ((33 : Nat) : Int) from rfl, bits_and (by omega) (by omega)]
  congr 1
  apply Nat.eq_of_testBit_eq
  intro i
  rw [Nat.testBit_and]
  by_cases g : i < 6
  · obtain rfl | rfl | rfl | rfl | rfl | rfl : i = 0 ∨ i = 1 ∨ i = 2 ∨ i = 3 ∨ i = 4 ∨ i = 5 := by omega
    · rw [h0]; rfl
    · rw [show Nat.testBit 33 1 = false by decide, Bool.and_false]
    · rw [show Nat.testBit 33 2 = false by decide, Bool.and_false]
    · rw [show Nat.testBit 33 3 = false by decide, Bool.and_false]
    · rw [show Nat.testBit 33 4 = false by decide, Bool.and_false]
    · rw [h5]; rfl
  · have : Nat.testBit 33 i = false := Nat.testBit_lt_two_pow (Nat.lt_of_lt_of_le (by decide : 33 < 2 ^ 6) (Nat.pow_le_pow_right (by omega) (by omega)))
    rw [this, Bool.and_false]
theorem markL_byte {wr : Bool} : ∀ (qs : List Int) (N : Int → Int), (∀ a, 0 ≤ N a ∧ N a < 256) → ∀ a, 0 ≤ markL N wr qs a ∧ markL N wr qs a < 256
  | [], _, h => h
  | _ :: qs, _, h => markL_byte qs _ (stM_byte h)
theorem root_place (ha : U64 a) (hroot : 0 ≤ root ∧ root < 1048576) :
    IntKind.wrap .u64 (IntKind.wrap .u64 (IntKind.wrap .u64 root * 4096) + IntKind.wrap .u64 (Int.tmod (Int.fdiv a (2 ^ (39 : Nat))) 512 * 8)) = placeZ root a 3 := by
  have hb := shr_bound 39 ha.1 ha.2
  rw [shr_eq, Int.tmod_eq_emod_of_nonneg hb.1]
  have hp : a / 2 ^ 39 % 512 = partZ a 39 := rfl
  rw [hp]
  have hq : 0 ≤ partZ a 39 ∧ partZ a 39 < 512 := by unfold partZ; omega
  rw [wu64 (n := root) (by omega) (by omega), wu64 (n := root * 4096) (by omega) (by omega), wu64 (n := partZ a 39 * 8) (by omega) (by omega), wu64 (by omega) (by omega)]
  unfold placeZ
  rw [show 12 + 9 * 3 = 39 by rfl]
  omega
theorem WalkMarks_A {P : SP} {k : Nat} {s : Sl} {ps : List Put} {Q : Bool → AH → Prop} (h : Own l A) (e : l[k]? = some P) (hr : Reads P s 3 (putCells ps)) (hU : ∀ p ∈ ps, U64 p.x) (hlen : ps.length < 9223372036854775808)
    (ha : U64 a) (hk : ∀ A', Own l A' → Q true A') : demesnelaw04_WalkMarks_A s root a aw au af Q A := by
  unfold demesnelaw04_WalkMarks_A
  refine Lay_spec (k := k) h e hr hU hlen fun r b m _ h => ?_
  refine bsel_f rfl ?_
  have hb := RamS.byte (i := 0) h rfl
  refine Walk_spec (i := 0) h rfl (by decide) (by decide) ha ?_
  cases hW : walkZ 8 holes7 (layM ps) root a aw au af with
  | err e1 =>
    intro _ h
    have he := walkZ_err hW
    refine bsel_t (by simp; omega) (awake_spec h fun _ h => bsel_t rfl ?_)
    exact Same_spec (i := 0) (j := 1) (k := k + 3) h rfl rfl e hr hlen (hk _ h.tail.tail.tail)
  | fault c1 =>
    intro _ h
    refine bsel_t rfl (awake_spec h fun _ h => bsel_t rfl ?_)
    exact Same_spec (i := 0) (j := 1) (k := k + 3) h rfl rfl e hr hlen (hk _ h.tail.tail.tail)
  | ok f w u x g lg d qs =>
    intro _ h
    simp only [List.set_cons_zero] at h
    refine bsel_f rfl ?_
    have hmod := walkZ_places (by decide) hW
    have hm1 := likeM_mark (wr := aw) qs _ hb hmod
    have hb1 := markL_byte (wr := aw) qs _ hb
    rw [walkZ_fin] at hW
    have hc := coreZ_like (fr := 8) (hs := holes7) (a := a) (root := root) hm1
    generalize hc1 : coreZ 8 holes7 (layM ps) root a = c1 at hc hW
    generalize hc2 : coreZ 8 holes7 (markL (layM ps) aw qs) root a = c2 at hc
    cases hc with
    | err e2 => cases hW
    | fault c2 => cases hW
    | leaf f2 w2 u2 x2 g2 lg2 d2 d' ps2 hd =>
      simp only [fin] at hW
      split at hW
      · cases hW
        obtain ⟨hroot, hpres, hmem, last, hlast, hd6⟩ := coreZ_leaf hc2
        have hroot := hasF_bound (by decide) hroot
        have hfive := mark_five (wr := aw) qs _ hb hmod
        have h3 : walkZ 8 holes7 (markL (layM ps) aw qs) root a false false false = .ok f w u x g lg (d' || false) qs := by
          rw [walkZ_fin, hc2]
          simp only [fin]
          rw [if_pos (by cases w <;> cases u <;> cases x <;> rfl)]
        refine Walk_spec (i := 0) h rfl (by decide) (by decide) ha ?_
        rw [h3]
        intro _ h
        simp only [List.set_cons_zero] at h
        refine bsel_f rfl ?_
        have hlk := (likeM_mark (wr := false) qs _ hb1 hmod) (placeZ root a 3) place_mod
        have hb0 : bitZ (le (markL (markL (layM ps) aw qs) false qs) (placeZ root a 3) 8) 0 = true := by rw [hlk.low 0 (by omega) (by omega)]; exact hpres
        have hb5 := hlk.five (hfive _ hmem).1
        have hpb := place_bound (a := a) (lv := 3) hroot
        have hok : okA 8 holes7 (placeZ root a 3) ((8 : Nat) : Int) = true := by
          have := okA_word (fr := 8) (hs := holes7) (t := root) (at_ := partZ a (12 + 9 * 3)) ⟨hpb.1, hpb.2.1⟩
          exact this.trans (coreZ_leaf hc2).1
        refine bsel_in (fun caw => ?_) fun caw => ?_
        · have h6 := (hfive last (List.mem_of_getLast? hlast)).2 caw hlast
          rw [← hd6] at h6
          refine bsel_f (by rw [h6]; rfl) ?_
          rw [root_place ha hroot]
          refine Load_spec (i := 0) (n := 8) h rfl (by decide) (by decide) (by omega) ⟨hpb.2.2.1, Int.lt_trans hpb.2.2.2 (by omega)⟩ ?_
          rw [hok]
          simp only [↓reduceIte]
          refine awake_spec h fun _ h => bsel_t rfl (bsel_t rfl ?_)
          rw [and33 hlk.v hb0 hb5]
          exact hk _ h.tail.tail.tail
        · rw [root_place ha hroot]
          refine Load_spec (i := 0) (n := 8) h rfl (by decide) (by decide) (by omega) ⟨hpb.2.2.1, Int.lt_trans hpb.2.2.2 (by omega)⟩ ?_
          rw [hok]
          simp only [↓reduceIte]
          refine awake_spec h fun _ h => bsel_t rfl (bsel_t rfl ?_)
          rw [and33 hlk.v hb0 hb5]
          exact hk _ h.tail.tail.tail
      · cases hW
end Go.Dn
