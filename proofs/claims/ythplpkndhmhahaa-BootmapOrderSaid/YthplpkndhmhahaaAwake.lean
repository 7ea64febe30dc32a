/- The answers that the document fixes. -/
import Derived.Test.YthplpkndhmhahaaEntryB
namespace Go.Dn

variable {A : AH} {l R : List SP} {P P2 : SP} {k k2 : Nat} {s s2 : Sl} {bs : List Int}
theorem Own.lenB (h : Own (SlO s 1 (bs.map byV) :: R) A) : s.len = bs.length := by
  obtain ⟨B, _, hB⟩ := h.sat
  have := hB.1.1
  simp at this
  omega
theorem Own.capS {sz : Nat} {cs : List Value} (h : Own (SlO s sz cs :: R) A) : s.len ≤ s.cap := by
  obtain ⟨B, _, hB⟩ := h.sat
  exact hB.1.2
theorem byV_one {L : List Int} {v : Value} (h : v ∈ L.map byV) : v.oneCell' = true := by
  obtain ⟨x, _, rfl⟩ := List.mem_map.1 h
  rfl
/-- Bytes behind bytes of one's own. -/
theorem app_bytes {i t : Nat} {zc : Array Value} {b1 b2 : List Int} {x : Sl} {K : Sl → AP} (hz : zc.size = 1) (h : Own (SlO s 1 (b1.map byV) :: R) A) (e : R[i]? = some P) (hr : Reads P x 1 (b2.map byV)) (hx : x.a = none → b2 = []) (hs : s.a = none → b1 = []) (hb : b1.length + b2.length ≤ 1000000)
    (hk : ∀ s' A', (s'.a = none → b1 ++ b2 = []) → Own (SlO s' 1 ((b1 ++ b2).map byV) :: R) A' → K s' A') : apA 1 1 zc t s x A K := by
  have hl := h.lenB
  have hl2 : x.len = b2.length := by have := rd_len (i := i + 1) h (by simpa using e) hr; simp at this; omega
  refine ap_reads h e hr (fun g => by rw [hx g]; rfl) (fun g => by rw [hs g]; rfl) hz (fun v hv => byV_one hv) ⟨by omega, by omega⟩ fun s' A' j1 j2 h' => ?_
  refine hk s' A' (fun g => by simpa using j2 g) ?_
  rw [List.map_append]
  exact h'
theorem awake_parse : parseP (entB (0, 65536, 1) ++ entB (12289, 1, 2)) = (0, [(0, 65536, 1), (12289, 1, 2)]) := by decide +kernel
theorem awake_out {er : Int} {m : List Rg} (h : frOut (entB (0, 65536, 1) ++ entB (12289, 1, 2)) 8 (0, 1) er m) : er = 0 ∧ m = [(1, 3), (4, 8)] := by
  have hb : ¬ badArg 8 (0, 1) := by unfold badArg; omega
  unfold frOut at h
  rw [awake_parse] at h
  rcases h with ⟨h, _⟩ | ⟨_, h, _⟩ | ⟨_, _, h1, h2, h3⟩
  · exact absurd h hb
  · exact absurd rfl h
  · have hu : useL [(0, 65536, 1), (12289, 1, 2)] 8 = [(0, 8)] := by decide +kernel
    have hw : awayL [(0, 65536, 1), (12289, 1, 2)] 8 (0, 1) = [(0, 1), (3, 4)] := by decide +kernel
    simp only [hu, hw] at h2
    have hm : m = [(1, 3), (4, 8)] := by
      refine NF.eq h1 ⟨fun r hr => ?_, by simp⟩ fun n => ?_
      · simp at hr; rcases hr with rfl | rfl <;> simp
      · rw [h2 n]
        simp only [memR, inR, List.mem_cons, List.not_mem_nil, or_false, exists_eq_left, exists_eq_or_imp]
        omega
    subst hm
    exact ⟨by simpa using h3, rfl⟩
theorem awake_spec {Q : Bool → AH → Prop} (h : Own l A) (hk : ∀ A', Own l A' → Q true A') : demesnelaw06_awake_A Q A := by
  unfold demesnelaw06_awake_A demesnelaw06_awake_G
  refine Entry_spec (a := (0, 65536, 1)) h fun s1 A1 hs1 h1 => ?_
  refine Entry_spec (a := (12289, 1, 2)) h1 fun s3 A2 hs3 h2 => ?_
  refine app_bytes (i := 0) rfl h2.swap rfl reads_slo (fun g => absurd g hs3) (fun g => absurd g hs1) (by simp [entB_len]) fun s5 A3 hs5 h3 => ?_
  have hrng : ∀ x ∈ entB (0, 65536, 1) ++ entB (12289, 1, 2), 0 ≤ x ∧ x < 256 := fun x hx => by
    rcases List.mem_append.1 hx with g | g
    · exact entB_rng _ x g
    · exact entB_rng _ x g
  refine Frames_spec (k := 0) (kn := (0, 1)) h3 rfl reads_slo h3.capS hs5 hrng fun er m s7 A4 ho _ hs7 h4 => ?_
  obtain ⟨rfl, rfl⟩ := awake_out ho
  refine bsel_t rfl ?_
  refine new_C (cs := [.int .i64 1, .int .i64 3, .int .i64 4, .int .i64 8]) h4 fun b A5 h5 => ?_
  refine Same_spec (k := 1) (k2 := 0) (L := [(1, 3), (4, 8)]) (M := [(1, 3), (4, 8)]) h5 rfl reads_slo rfl (reads_at (n := 2) (sz := 2) (cs := rgs [(1, 3), (4, 8)]) (rest := []) rfl) (by simp) ?_
  exact hk A5 h5.tail.tail.tail.tail
end Go.Dn
