/- Ranges are merged and taken away as the document says. -/
import Derived.Test.YthplpkndhmhahaaRefLess
namespace Go.Dn

variable {A : AH} {l R : List SP} {P P2 : SP} {k k2 : Nat} {s s2 : Sl} {L AW : List Rg}
theorem readsR_nil {P : SP} : Reads P Sl.nil 2 (rgs []) := fun _ _ _ _ => ⟨by simp [Sl.nil, rgs], fun j v hv => by simp [rgs] at hv⟩
theorem BootmapRanges_spec {Q : Bool → AH → Prop} (h : Own l A) (e : l[k]? = some P) (hr : Reads P s 2 (rgs L)) (hc : s.len ≤ s.cap) (hn : s.a = none → L = [])
    (e2 : l[k2]? = some P2) (hr2 : Reads P2 s2 2 (rgs AW)) (hc2 : s2.len ≤ s2.cap) (hn2 : s2.a = none → AW = []) (hk : ∀ A', Own l A' → Q true A') : demesnelaw06_BootmapRanges_A s s2 Q A := by
  unfold demesnelaw06_BootmapRanges_A demesnelaw06_BootmapRanges_G
  refine Few_spec (n := 30) h e hr hc hn (by omega) (by omega) fun s1 A1 hs1 h1 => ?_
  refine Few_spec (n := 30) (k := k2 + 1) h1 (by simpa using e2) hr2 hc2 hn2 (by omega) (by omega) fun s3 A2 hs3 h2 => ?_
  have hL : (L.take 30).length ≤ 30 := by simp; omega
  have hA : (AW.take 30).length ≤ 30 := by simp; omega
  generalize L.take 30 = L1 at *
  generalize AW.take 30 = W1 at *
  refine awake_spec h2 fun A3 h3 => bsel_t rfl ?_
  refine Merge_spec (k := 1) h3 rfl reads_slo (by omega) hs1 fun m1 hm1 hmm1 hml1 s7 A4 hs7 h4 => ?_
  refine RefLess_spec (k := 2) (k2 := 0) h4 rfl reads_slo (by omega) rfl readsR_nil (by simp) fun m2 hm2 hmm2 hml2 s9 A5 hs9 h5 => ?_
  have he : m1 = m2 := NF.eq hm1 hm2 fun n => by
    rw [hmm1 n, hmm2 n]
    exact ⟨fun g => ⟨g, memR_nil n⟩, fun g => g.1⟩
  subst he
  refine Same_spec (k := 1) (k2 := 0) h5 rfl reads_slo rfl reads_slo (by omega) ?_
  refine bsel_t (by simp) ?_
  refine Less_spec (k := 3) (k2 := 2) h5 rfl reads_slo (by omega) hs1 rfl reads_slo (by omega) hs3 (Nat.le_trans (Nat.mul_le_mul hL (Nat.add_le_add_right hA 1)) (by omega)) fun m3 hm3 hmm3 hml3 s13 A6 hs13 h6 => ?_
  have hml3 : m3.length ≤ 30 * 31 := Nat.le_trans hml3 (Nat.mul_le_mul hL (Nat.add_le_add_right hA 1))
  refine RefLess_spec (k := 4) (k2 := 3) h6 rfl reads_slo (by omega) rfl reads_slo (by omega) fun m4 hm4 hmm4 hml4 s15 A7 hs15 h7 => ?_
  have he : m3 = m4 := NF.eq hm3 hm4 fun n => by rw [hmm3 n, hmm4 n]
  subst he
  refine Same_spec (k := 1) (k2 := 0) h7 rfl reads_slo rfl reads_slo (by omega) ?_
  simpa using hk A7 h7.tail.tail.tail.tail.tail.tail
end Go.Dn
