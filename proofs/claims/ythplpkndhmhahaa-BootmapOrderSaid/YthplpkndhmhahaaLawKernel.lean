/- No frame of the kernel's comes out of a map. -/
import Derived.Test.YthplpkndhmhahaaLawRanges
namespace Go.Dn

variable {A : AH} {l R : List SP} {P P2 : SP} {k k2 : Nat} {s s2 : Sl} {bs : List Int} {f er : Int} {kn : Rg} {m : List Rg}
theorem frP_in {a : Ar} (ha : ArB a) (hf : 1 ≤ f) {n : Int} (h : inR (frP a f) n) : 0 ≤ n ∧ n < f := by
  obtain ⟨h1, h2⟩ := h
  obtain ⟨a1, a2, a3, a4, a5⟩ := ha
  unfold frP at h1 h2
  simp only at h1 h2
  have q1 : 0 ≤ (if a.2.2 = 1 then (a.1 + 4095) / 4096 else a.1 / 4096) := by split <;> omega
  generalize (if a.2.2 = 1 then (a.1 + 4095) / 4096 else a.1 / 4096) = x at *
  generalize (if a.2.1 = 0 then x else if a.2.2 = 1 then (a.1 + a.2.1) / 4096 else (a.1 + a.2.1 + 4095) / 4096) = y at *
  split at h1 <;> split at h2 <;> omega
theorem use_in (hb : ∀ x ∈ bs, 0 ≤ x ∧ x < 256) (hf : 1 ≤ f) {n : Int} (h : memR (useL (parseP bs).2 f) n) : 0 ≤ n ∧ n < f := by
  obtain ⟨r, hr, h⟩ := h
  unfold useL at hr
  obtain ⟨a, ha, rfl⟩ := List.mem_map.1 hr
  exact frP_in (areaZ_ok hb (List.mem_filter.1 ha).1) hf h
theorem frOut_err (h : frOut bs f kn er m) (he : er ≠ 0) : m = [] := by
  rcases h with ⟨_, _, h⟩ | ⟨_, _, _, h⟩ | ⟨_, _, _, _, h⟩
  · exact h
  · exact h
  · by_cases g : m = []
    · exact g
    · rw [if_neg g] at h; exact absurd h he
theorem frOut_ok (h : frOut bs f kn er m) (he : er = 0) : ¬ badArg f kn ∧ (parseP bs).1 = 0 ∧ NF m ∧ (∀ n, memR m n ↔ memR (useL (parseP bs).2 f) n ∧ ¬ memR (awayL (parseP bs).2 f kn) n) ∧ m ≠ [] := by
  rcases h with ⟨_, h, _⟩ | ⟨_, h1, h, _⟩ | ⟨h1, h2, h3, h4, h⟩
  · omega
  · omega
  · refine ⟨h1, h2, h3, h4, fun g => ?_⟩
    rw [if_pos g] at h
    omega
def restL (ars : List Ar) (f : Int) : List Rg := (ars.filter fun a => !(a.2.2 == 1)).map fun a => frP a f
theorem away_mem {ars : List Ar} {n : Int} : memR (awayL ars f kn) n ↔ inR kn n ∨ memR (restL ars f) n := memR_cons
theorem Own.range1 {b : Nat} (h : Own (At b [.int .i64 kn.1, .int .i64 kn.2] :: R) A) : Own (SlO ⟨some ⟨b, 0, none⟩, 1, 1⟩ 2 (rgs [kn]) :: R) A := h.imp fun B hB => ⟨⟨rfl, Nat.le_refl _⟩, .inr ⟨b, [], rfl, rfl, hB⟩⟩
theorem BootmapKernel_spec {Q : Bool → AH → Prop} (h : Own l A) (e : l[k]? = some P) (hr : Reads P s 1 (bs.map byV)) (hc : s.len ≤ s.cap) (hn : s.a = none → bs = []) (hb : ∀ x ∈ bs, 0 ≤ x ∧ x < 256)
    (hk : ∀ A', Own l A' → Q true A') : demesnelaw06_BootmapKernel_A s f kn.1 kn.2 Q A := by
  unfold demesnelaw06_BootmapKernel_A demesnelaw06_BootmapKernel_G
  refine Cut_spec h e hr hc hn fun s1 A1 hs1 h1 => ?_
  have hb : ∀ x ∈ bs.take 1400, 0 ≤ x ∧ x < 256 := fun x hx => hb x (List.mem_of_mem_take hx)
  generalize bs.take 1400 = bs at *
  refine Frames_spec (k := 0) (kn := kn) h1 rfl reads_slo h1.capS hs1 hb fun er m s3 A2 ho hml hs3 h2 => ?_
  have hl2 := h2.rgs_len
  refine bsel_in (fun g => ?_) fun g => ?_
  · have g : er ≠ 0 := by simpa using g
    have h0 := frOut_err ho g
    subst h0
    refine awake_spec h2 fun A3 h3 => bsel_t rfl ?_
    have : (Int.ofNat s3.len == 0) = true := by simp [hl2]
    rw [this]
    exact hk A3 h3.tail.tail
  · have g : er = 0 := by simpa using g
    obtain ⟨o1, o2, o3, o4, o5⟩ := frOut_ok ho g
    have hf : 1 ≤ f ∧ f ≤ 1048576 := by unfold badArg at o1; omega
    have hin : ∀ n, memR m n → (0 ≤ n ∧ n < f) ∧ ¬ inR kn n ∧ memR (useL (parseP bs).2 f) n ∧ ¬ memR (restL (parseP bs).2 f) n := fun n hn' => by
      obtain ⟨g1, g2⟩ := (o4 n).1 hn'
      rw [away_mem] at g2
      exact ⟨use_in hb hf.1 g1, fun q => g2 (.inl q), g1, fun q => g2 (.inr q)⟩
    refine ⟨fun x mm h' => ∃ v : Nat, x = v ∧ mm + v = m.length ∧ h' = A2, ⟨m.length, 0, rfl, rfl, rfl⟩, ?_⟩
    intro x mm A3 ⟨v, e3, e4, e5⟩
    subst e3 e5
    refine bsel_in (fun c => ?_) fun c => ?_
    · have c : (v : Int) < s3.len := of_decide_eq_true c
      obtain ⟨r, hrv⟩ : ∃ r, m[v]? = some r := ⟨m[v]'(by omega), by simp⟩
      have hrm := List.mem_of_getElem? hrv
      have hr12 := o3.1 r hrm
      obtain ⟨a, q1, r1, r2⟩ := rd_rg (k := 0) h2 rfl reads_slo hrv
      rw [q1]
      refine inB_in (by omega) c (r1 _ (r2 _ ?_))
      have b1 := hin r.1 ⟨r, hrm, by unfold inR; omega⟩
      have b2 := hin (r.2 - 1) ⟨r, hrm, by unfold inR; omega⟩
      refine bsel_f (by simp; omega) (bsel_f (by simp; omega) (bsel_f ?_ ⟨mm - 1, by omega, v + 1, by rw [w64] <;> omega, by omega, rfl⟩))
      have hno : ¬ ((if kn.1 > r.1 then kn.1 else r.1) < (if kn.2 < r.2 then kn.2 else r.2)) := fun q => by
        have b3 := hin (if kn.1 > r.1 then kn.1 else r.1) ⟨r, hrm, by unfold inR; split at q <;> split at q <;> omega⟩
        refine b3.2.1 ?_
        unfold inR
        split at q <;> split at q <;> simp_all <;> omega
      simpa using hno
    · refine Frames_spec (k := 1) (kn := (0, 0)) h2 rfl reads_slo (h2.tail.capS) hs1 hb fun er2 m2 s16 A4 ho2 hml2 hs16 h4 => ?_
      refine awake_spec h4 fun A5 h5 => bsel_t rfl ?_
      have hbad0 : ¬ badArg f (0, 0) := by unfold badArg; simp only; omega
      have hm2 : NF m2 ∧ (∀ n, memR m2 n ↔ memR (useL (parseP bs).2 f) n ∧ ¬ memR (awayL (parseP bs).2 f (0, 0)) n) ∧ er2 = if m2 = [] then 7 else 0 := by
        rcases ho2 with ⟨q, _⟩ | ⟨_, q, _⟩ | ⟨_, _, q1, q2, q3⟩
        · exact absurd q hbad0
        · exact absurd o2 q
        · exact ⟨q1, q2, q3⟩
      obtain ⟨n1, n2, n3⟩ := hm2
      have hmem : ∀ n, memR m n ↔ memR m2 n ∧ ¬ memR [kn] n := fun n => by
        rw [o4 n, n2 n, away_mem, away_mem, memR_one]
        have hz : ¬ inR (0, 0) n := fun q => by unfold inR at q; simp only at q; omega
        constructor
        · rintro ⟨g1, g2⟩
          exact ⟨⟨g1, fun q => q.elim hz fun q => g2 (.inr q)⟩, fun q => g2 (.inl q)⟩
        · rintro ⟨⟨g1, g2⟩, g3⟩
          exact ⟨g1, fun q => q.elim g3 fun q => g2 (.inr q)⟩
      have hne : m2 ≠ [] := fun q => by
        obtain ⟨r, mt, hm⟩ : ∃ r mt, m = r :: mt := by
          cases m with
          | nil => exact absurd rfl o5
          | cons r mt => exact ⟨r, mt, rfl⟩
        have := (hmem r.1).1 ⟨r, by simp [hm], by have := o3.1 r (by simp [hm]); unfold inR; omega⟩
        rw [q] at this
        exact memR_nil _ this.1
      rw [if_neg hne] at n3
      refine bsel_t (by simp [n3]) ?_
      refine new_C (cs := [.int .i64 kn.1, .int .i64 kn.2]) h5 fun b A6 h6 => ?_
      have h6 := h6.range1
      refine Less_spec (k := 1) (k2 := 0) h6 rfl reads_slo (by omega) hs16 rfl reads_slo (by simp) (fun q => nomatch q) (by simp; omega) fun m3 hm3 hmm3 hml3 s23 A7 hs23 h7 => ?_
      have he : m3 = m := NF.eq hm3 o3 fun n => by rw [hmm3 n, hmem n]
      subst he
      refine Same_spec (k := 0) (k2 := 3) h7 rfl reads_slo rfl reads_slo (by omega) ?_
      simpa using hk A7 h7.tail.tail.tail.tail.tail
end Go.Dn
