/- bootmap.Less. -/
import Derived.Test.YthplpkndhmhahaaMerge
namespace Go.Dn

variable {A : AH} {l R : List SP} {P P2 : SP} {k k2 : Nat} {s s2 : Sl} {L AW : List Rg}
theorem Less_spec {Q : Sl → AH → Prop} (h : Own l A) (e : l[k]? = some P) (hr : Reads P s 2 (rgs L)) (hb : L.length ≤ 100000) (hn : s.a = none → L = [])
    (e2 : l[k2]? = some P2) (hr2 : Reads P2 s2 2 (rgs AW)) (hb2 : AW.length ≤ 100000) (hn2 : s2.a = none → AW = []) (hbb : L.length * (AW.length + 1) ≤ 900000)
    (hk : ∀ m : List Rg, NF m → (∀ n, memR m n ↔ memR L n ∧ ¬ memR AW n) → m.length ≤ L.length * (AW.length + 1) → ∀ s' A', (s'.a = none → m = []) → Own (SlO s' 2 (rgs m) :: l) A' → Q s' A') : bootmap_Less_A s s2 Q A := by
  unfold bootmap_Less_A bootmap_Less_G
  refine Merge_spec h e2 hr2 (by omega) hn2 fun cut hcut hcm hcl s1 A1 hs1 h1 => ?_
  refine Merge_spec (k := k + 1) h1 (by simpa using e) hr (by omega) hn fun ml hml hmm hmll s3 A2 hs3 h2 => ?_
  have hl3 := h2.rgs_len
  have hN : ∀ v : Nat, v ≤ ml.length → v * (cut.length + 1) ≤ L.length * (AW.length + 1) := fun v hv => Nat.mul_le_mul (Nat.le_trans hv hmll) (Nat.add_le_add_right hcl 1)
  generalize L.length * (AW.length + 1) = BB at *
  obtain ⟨N, hNe⟩ : ∃ N, N = cut.length + 1 := ⟨_, rfl⟩
  rw [← hNe] at hN
  refine ⟨fun o x m h' => ∃ (v : Nat) (out : List Rg), x = v ∧ m + v = ml.length ∧ LsO cut (ml.take v) out ∧ out.length ≤ v * N ∧ (o.a = none → out = []) ∧ Own (SlO o 2 (rgs out) :: SlO s3 2 (rgs ml) :: SlO s1 2 (rgs cut) :: l) h',
    ⟨ml.length, 0, [], rfl, by omega, by simpa using LsO.nil, by simp, fun _ => rfl, h2.nilS⟩, ?_⟩
  intro o x m A3 ⟨v, out, e3, e4, hI, hol, hon, h3⟩
  subst e3
  refine bsel_in (fun c => ?_) fun c => ?_
  · have c : (v : Int) < s3.len := of_decide_eq_true c
    obtain ⟨r, hrv⟩ : ∃ r, ml[v]? = some r := ⟨ml[v]'(by omega), by simp⟩
    have hrm : r ∈ ml := List.mem_of_getElem? hrv
    have hr12 := hml.1 r hrm
    have hNv := hN (v + 1) (by omega)
    rw [Nat.add_mul, Nat.one_mul] at hNv
    have hpre : ∀ p ∈ ml.take v, p.2 < r.1 := fun p hp => by
      obtain ⟨i, hi⟩ := List.mem_iff_getElem?.1 hp
      have hlt : i < v := by
        have := (List.getElem?_eq_some_iff.1 hi).1
        simp at this; omega
      rw [List.getElem?_take_of_lt hlt] at hi
      obtain ⟨hi1, hi2⟩ := List.getElem?_eq_some_iff.1 hi
      obtain ⟨hv1, hv2⟩ := List.getElem?_eq_some_iff.1 hrv
      have := List.pairwise_iff_getElem.1 hml.2 i v hi1 hv1 hlt
      rw [hi2, hv2] at this
      exact this
    refine ⟨fun o' h' => ∃ out', LsO cut (ml.take (v + 1)) out' ∧ out'.length ≤ v * N + N ∧ (o'.a = none → out' = []) ∧ Own (SlO o' 2 (rgs out') :: SlO s3 2 (rgs ml) :: SlO s1 2 (rgs cut) :: l) h', ?_, ?_⟩
    · intro o' A4 ⟨out', f1, f2, f3, h4⟩
      exact ⟨m - 1, by omega, v + 1, out', by rw [w64] <;> omega, by omega, f1, by rw [Nat.add_mul, Nat.one_mul]; exact f2, f3, h4⟩
    · obtain ⟨a, q1, r1, r2⟩ := rd_rg (k := 1) h3 rfl reads_slo hrv
      rw [q1]
      refine inB_in (by omega) c (r1 _ (r2 _ ?_))
      refine ⟨fun o' at_ y m' h' => ∃ (w : Nat) (out' : List Rg), y = w ∧ m' + w = cut.length ∧ LsI (memR (ml.take v)) r cut (cut.take w) out' at_ ∧ out'.length ≤ v * N + w ∧ (o'.a = none → out' = []) ∧ Own (SlO o' 2 (rgs out') :: SlO s3 2 (rgs ml) :: SlO s1 2 (rgs cut) :: l) h',
        ⟨cut.length, 0, out, rfl, by omega, by simpa using hI.start hr12 hpre, by omega, hon, h3⟩, ?_⟩
      intro o' at_ y m' A4 ⟨w, out', e5, e6, hI2, hol2, hon2, h4⟩
      subst e5
      have hlc : s1.len = cut.length := rd_rg_len (k := 2) h4 rfl reads_slo
      refine bsel_in (fun d => ?_) fun d => ?_
      · have d : (w : Int) < s1.len := of_decide_eq_true d
        obtain ⟨cc, hcv⟩ : ∃ cc, cut[w]? = some cc := ⟨cut[w]'(by omega), by simp⟩
        have hsplit : cut = cut.take w ++ cc :: cut.drop (w + 1) := by rw [← drop_at hcv, List.take_append_drop]
        refine ⟨fun o2 at2 h' => ∃ out2, LsI (memR (ml.take v)) r cut (cut.take (w + 1)) out2 at2 ∧ out2.length ≤ v * N + (w + 1) ∧ (o2.a = none → out2 = []) ∧ Own (SlO o2 2 (rgs out2) :: SlO s3 2 (rgs ml) :: SlO s1 2 (rgs cut) :: l) h', ?_, ?_⟩
        · intro o2 at2 A5 ⟨out2, f1, f2, f3, h5⟩
          exact ⟨m' - 1, by omega, w + 1, out2, by rw [w64] <;> omega, by omega, f1, by omega, f3, h5⟩
        · obtain ⟨a2, q2, t1, t2⟩ := rd_rg (k := 2) h4 rfl reads_slo hcv
          rw [q2]
          refine inB_in (by omega) d (t1 _ (t2 _ ?_))
          refine bsel_in (fun g => ?_) fun g => ?_
          · have g : cc.2 ≤ at_ := of_decide_eq_true g
            exact ⟨out', by rw [take_at hcv]; exact hI2.skip (.inl g), by omega, hon2, h4⟩
          have g : ¬ cc.2 ≤ at_ := of_decide_eq_false g
          refine bsel_in (fun g2 => ?_) fun g2 => ?_
          · have g2 : cc.1 ≥ r.2 := of_decide_eq_true g2
            exact ⟨out', by rw [take_at hcv]; exact hI2.skip (.inr g2), by omega, hon2, h4⟩
          have g2 : ¬ cc.1 ≥ r.2 := of_decide_eq_false g2
          have hmax : (if cc.2 > at_ then cc.2 else at_) = cc.2 := if_pos (by omega)
          refine ⟨fun o2 h' => ∃ out2, LsI (memR (ml.take v)) r cut (cut.take (w + 1)) out2 cc.2 ∧ out2.length ≤ v * N + (w + 1) ∧ (o2.a = none → out2 = []) ∧ Own (SlO o2 2 (rgs out2) :: SlO s3 2 (rgs ml) :: SlO s1 2 (rgs cut) :: l) h', ?_, ?_⟩
          · intro o2 A5 ⟨out2, f1, f2, f3, h5⟩
            rw [hmax]
            exact ⟨out2, f1, f2, f3, h5⟩
          · refine bsel_in (fun g3 => ?_) fun g3 => ?_
            · have g3 : cc.1 > at_ := of_decide_eq_true g3
              refine push_rg h4 hon2 (by omega) fun s' A6 j1 h6 => ?_
              exact ⟨_, by rw [take_at hcv]; exact hI2.far hsplit hcut g g2 g3, by simp; omega, j1, h6⟩
            · have g3 : ¬ cc.1 > at_ := of_decide_eq_false g3
              exact ⟨out', by rw [take_at hcv]; exact hI2.near hsplit g g3, by omega, hon2, h4⟩
      · have d : ¬ (w : Int) < s1.len := of_decide_eq_false d
        have hw : w = cut.length := by omega
        subst hw
        rw [List.take_length] at hI2
        refine bsel_in (fun g => ?_) fun g => ?_
        · have g : at_ < r.2 := of_decide_eq_true g
          refine push_rg h4 hon2 (by omega) fun s' A6 j1 h6 => ?_
          exact ⟨_, by rw [take_at hrv]; exact hI2.rest hI2.hi g, by simp; omega, j1, h6⟩
        · have g : ¬ at_ < r.2 := of_decide_eq_false g
          exact ⟨out', by rw [take_at hrv]; exact hI2.none g, by omega, hon2, h4⟩
  · have c : ¬(v : Int) < s3.len := of_decide_eq_false c
    have hv : v = ml.length := by omega
    subst hv
    rw [List.take_length] at hI
    have := hN ml.length (Nat.le_refl _)
    exact hk out hI.nf (fun n => by rw [hI.mem n, hmm n, hcm n]) (by omega) o A3 hon (h3.cons fun C hC => hC.tail.tail)
end Go.Dn
