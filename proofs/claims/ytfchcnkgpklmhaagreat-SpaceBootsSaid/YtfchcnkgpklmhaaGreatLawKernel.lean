/- What the proof stands on: Basics, Awake, LawKernel. -/
import Derived.Test.YtfchcnkgpklmhaaGreatPlainM
/- Of the laws and the document's answer: Same, Some, Few, Cut. -/
namespace Go.Dn

variable {A : AH} {l R : List SP} {P P2 : SP} {k k2 : Nat} {s s2 : Sl} {L M : List Rg} {bs : List Int}
/-- Is a number in one of the ranges? -/
def someB (L : List Rg) (n : Int) : Bool := L.any fun r => decide (r.1 ≤ n) && decide (n < r.2)
theorem someB_iff {L : List Rg} {n : Int} : someB L n = true ↔ memR L n := by
  unfold someB memR inRg
  rw [List.any_eq_true]
  constructor
  · rintro ⟨r, h1, h2⟩; exact ⟨r, h1, by simpa using h2⟩
  · rintro ⟨r, h1, h2⟩; exact ⟨r, h1, by simpa using h2⟩
theorem someB_false {L : List Rg} {n : Int} : someB L n = false ↔ ¬ memR L n := by rw [← someB_iff]; simp
theorem Some_spec {n : Int} {Q : Bool → AH → Prop} (h : Own l A) (e : l[k]? = some P) (hr : Reads P s 2 (rgs L)) (hb : L.length ≤ 1000000) (hk : Q (someB L n) A) : demesneref06_Some_A s n Q A := by
  have hl := rd_rg_len h e hr
  unfold demesneref06_Some_A demesneref06_Some_G
  refine ⟨fun x m h' => ∃ v : Nat, x = v ∧ m + v = L.length ∧ h' = A ∧ someB L n = someB (L.drop v) n, ⟨L.length, 0, rfl, rfl, rfl, by simp⟩, ?_⟩
  intro x m A1 ⟨v, e3, e4, e5, e6⟩
  subst e3 e5
  refine bsel_in (fun c => ?_) fun c => ?_
  · have c : (v : Int) < s.len := of_decide_eq_true c
    obtain ⟨r, hrv⟩ : ∃ r, L[v]? = some r := ⟨L[v]'(by omega), by simp⟩
    obtain ⟨a, q1, r1, r2⟩ := rd_rg h e hr hrv
    rw [q1]
    refine inB_in (by omega) c (r1 _ (r2 _ ?_))
    have hd : someB (L.drop v) n = (decide (r.1 ≤ n) && decide (n < r.2) || someB (L.drop (v + 1)) n) := by
      rw [drop_at hrv]; rfl
    have next : (decide (r.1 ≤ n) && decide (n < r.2)) = false → ∃ m3, m3 < m ∧ ∃ v' : Nat, IntKind.wrap .i64 ((v : Int) + 1) = v' ∧ m3 + v' = L.length ∧ A1 = A1 ∧ someB L n = someB (L.drop v') n := fun g =>
      ⟨m - 1, by omega, v + 1, by rw [w64] <;> omega, by omega, rfl, by rw [e6, hd, g]; rfl⟩
    unfold demesneref06_In_A
    refine bsel_in (fun g => ?_) fun g => ?_
    · refine bsel_in (fun g2 => ?_) fun g2 => ?_
      · have : someB L n = true := by rw [e6, hd, g, g2]; rfl
        rwa [this] at hk
      · exact next (by rw [g, g2]; rfl)
    · refine bsel_f rfl (next (by rw [g]; rfl))
  · have c : ¬(v : Int) < s.len := of_decide_eq_false c
    have : someB L n = false := by rw [e6, List.drop_eq_nil_of_le (by omega)]; rfl
    rwa [this] at hk
theorem add_zero (a : Addr) : Addr.add a (0 * 2) = a := by simp [Addr.add]
theorem reads_take {n : Nat} (hr : Reads P s 2 (rgs L)) (hn : n ≤ L.length) : Reads P ⟨s.a, n, s.cap⟩ 2 (rgs (L.take n)) := fun B A hB u => by
  obtain ⟨h1, h2⟩ := hr B A hB u
  refine ⟨by rw [rgs_len]; simp; omega, fun j v hv => h2 j v ?_⟩
  have : rgs L = rgs (L.take n) ++ rgs (L.drop n) := by rw [← rgs_app, List.take_append_drop]
  rw [this, List.getElem?_append_left (List.getElem?_eq_some_iff.1 hv).1]
  exact hv
theorem add_zero1 (a : Addr) : Addr.add a (0 * 1) = a := by simp [Addr.add]
theorem reads_takeB {n : Nat} (hr : Reads P s 1 (bs.map byV)) (hn : n ≤ bs.length) : Reads P ⟨s.a, n, s.cap⟩ 1 ((bs.take n).map byV) := fun B A hB u => by
  obtain ⟨h1, h2⟩ := hr B A hB u
  refine ⟨by simp; omega, fun j v hv => h2 j v ?_⟩
  have : bs.map byV = (bs.take n).map byV ++ (bs.drop n).map byV := by rw [← List.map_append, List.take_append_drop]
  rw [this, List.getElem?_append_left (List.getElem?_eq_some_iff.1 hv).1]
  exact hv
theorem Cut_spec {Q : Sl → AH → Prop} (h : Own l A) (e : l[k]? = some P) (hr : Reads P s 1 (bs.map byV)) (hcap : s.len ≤ s.cap) (hn : s.a = none → bs = [])
    (hk : ∀ s' A', (s'.a = none → bs.take 1400 = []) → Own (SlO s' 1 ((bs.take 1400).map byV) :: l) A' → Q s' A') : demesnelaw06_Cut_A s Q A := by
  have hl : s.len = bs.length := by have := rd_len h e hr; simp at this; omega
  unfold demesnelaw06_Cut_A
  refine ⟨fun s' h' => h' = A ∧ Reads P s' 1 ((bs.take 1400).map byV) ∧ (s'.a = none → bs.take 1400 = []), ?_, ?_⟩
  · intro s' A1 ⟨e1, hr', hn'⟩
    subst e1
    have hl' : s'.len = (bs.take 1400).length := by have := rd_len h e hr'; simp at this ⊢; omega
    refine new_C (cs := []) h fun b1 A2 h2 => ?_
    have h2 : Own (SlO ⟨some ⟨b1, 0, none⟩, 0, 0⟩ 1 [] :: l) A2 := h2.imp fun B _ => ⟨⟨by simp, Nat.le_refl _⟩, .inl rfl⟩
    have hlt : (bs.take 1400).length ≤ 1400 := by simp; omega
    refine ap_reads (i := k) h2 e hr' (fun g => by rw [hn' g]; rfl) (fun g => by cases g) rfl (fun v hv => ?_) ⟨by simp only [hl']; omega, by simp only [hl']; omega⟩ fun s3 A3 j1 j2 h3 => ?_
    · obtain ⟨x, _, rfl⟩ := List.mem_map.1 hv
      rfl
    · exact hk s3 A3 (fun g => by have := j2 g; simpa using this) (by simpa using h3)
  · refine bsel_in (fun g => ?_) fun g => ?_
    · have g : (s.len : Int) > 1400 := of_decide_eq_true g
      refine inB_in (by omega) (by omega) ?_
      have hsa : (if s.cap = 0 then s.a else Option.map (fun x => Addr.add x (0 * 1)) s.a) = s.a := by
        rw [if_neg (by omega)]
        cases s.a with
        | none => rfl
        | some a => simp [Addr.add]
      rw [hsa]
      exact ⟨rfl, reads_takeB hr (by omega), fun q => by have := hn q; subst this; simp⟩
    · have g : ¬ (s.len : Int) > 1400 := of_decide_eq_false g
      have ht : bs.take 1400 = bs := List.take_of_length_le (by omega)
      rw [ht]
      exact ⟨rfl, hr, hn⟩
end Go.Dn
/- The answers that the document fixes. -/
namespace Go.Dn

variable {A : AH} {l R : List SP} {P P2 : SP} {k k2 : Nat} {s s2 : Sl} {bs : List Int}
theorem Own.lenB (h : Own (SlO s 1 (bs.map byV) :: R) A) : s.len = bs.length := by
  obtain ⟨B, _, hB⟩ := h.sat
  have := hB.1.1
  simp at this
  omega
theorem Own.capS {sz : Nat} {cs : List Value} (h : Own (SlO s sz cs :: R) A) : s.len ≤ s.cap := by
  obtain ⟨B, _, hB⟩ := h.sat
  exact hB.1.2
theorem byV_one {L : List Int} {v : Value} (h : v ∈ L.map byV) : v.oneCell' = true := by
  obtain ⟨x, _, rfl⟩ := List.mem_map.1 h
  rfl
/-- Bytes behind bytes of one's own. -/
theorem app_bytes {i t : Nat} {zc : Array Value} {b1 b2 : List Int} {x : Sl} {K : Sl → AP} (hz : zc.size = 1) (h : Own (SlO s 1 (b1.map byV) :: R) A) (e : R[i]? = some P) (hr : Reads P x 1 (b2.map byV)) (hx : x.a = none → b2 = []) (hs : s.a = none → b1 = []) (hb : b1.length + b2.length ≤ 1000000)
    (hk : ∀ s' A', (s'.a = none → b1 ++ b2 = []) → Own (SlO s' 1 ((b1 ++ b2).map byV) :: R) A' → K s' A') : apA 1 1 zc t s x A K := by
  have hl := h.lenB
  have hl2 : x.len = b2.length := by have := rd_len (i := i + 1) h (by simpa using e) hr; simp at this; omega
  refine ap_reads h e hr (fun g => by rw [hx g]; rfl) (fun g => by rw [hs g]; rfl) hz (fun v hv => byV_one hv) ⟨by omega, by omega⟩ fun s' A' j1 j2 h' => ?_
  refine hk s' A' (fun g => by simpa using j2 g) ?_
  rw [List.map_append]
  exact h'
theorem awake_parse : parseP (entB (0, 65536, 1) ++ entB (12289, 1, 2)) = (0, [(0, 65536, 1), (12289, 1, 2)]) := by decide +kernel
theorem awake_out {er : Int} {m : List Rg} (h : frOut (entB (0, 65536, 1) ++ entB (12289, 1, 2)) 8 (0, 1) er m) : er = 0 ∧ m = [(1, 3), (4, 8)] := by
  have hb : ¬ badArg 8 (0, 1) := by unfold badArg; omega
  unfold frOut at h
  rw [awake_parse] at h
  rcases h with ⟨h, _⟩ | ⟨_, h, _⟩ | ⟨_, _, h1, h2, h3⟩
  · exact absurd h hb
  · exact absurd rfl h
  · have hu : useL [(0, 65536, 1), (12289, 1, 2)] 8 = [(0, 8)] := by decide +kernel
    have hw : awayL [(0, 65536, 1), (12289, 1, 2)] 8 (0, 1) = [(0, 1), (3, 4)] := by decide +kernel
    simp only [hu, hw] at h2
    have hm : m = [(1, 3), (4, 8)] := by
      refine NF.eq h1 ⟨fun r hr => ?_, by simp⟩ fun n => ?_
      · simp at hr; rcases hr with rfl | rfl <;> simp
      · rw [h2 n]
        simp only [memR, inRg, List.mem_cons, List.not_mem_nil, or_false, exists_eq_left, exists_eq_or_imp]
        omega
    subst hm
    exact ⟨by simpa using h3, rfl⟩
end Go.Dn
/- No frame of the kernel's comes out of a map. -/
namespace Go.Dn

variable {A : AH} {l R : List SP} {P P2 : SP} {k k2 : Nat} {s s2 : Sl} {bs : List Int} {f er : Int} {kn : Rg} {m : List Rg}
theorem frP_in {a : Ar} (ha : ArB a) (hf : 1 ≤ f) {n : Int} (h : inRg (frP a f) n) : 0 ≤ n ∧ n < f := by
  obtain ⟨h1, h2⟩ := h
  obtain ⟨a1, a2, a3, a4, a5⟩ := ha
  unfold frP at h1 h2
  simp only at h1 h2
  have q1 : 0 ≤ (if a.2.2 = 1 then (a.1 + 4095) / 4096 else a.1 / 4096) := by split <;> omega
  generalize (if a.2.2 = 1 then (a.1 + 4095) / 4096 else a.1 / 4096) = x at *
  generalize (if a.2.1 = 0 then x else if a.2.2 = 1 then (a.1 + a.2.1) / 4096 else (a.1 + a.2.1 + 4095) / 4096) = y at *
  split at h1 <;> split at h2 <;> omega
theorem use_in (hb : ∀ x ∈ bs, 0 ≤ x ∧ x < 256) (hf : 1 ≤ f) {n : Int} (h : memR (useL (parseP bs).2 f) n) : 0 ≤ n ∧ n < f := by
  obtain ⟨r, hr, h⟩ := h
  unfold useL at hr
  obtain ⟨a, ha, rfl⟩ := List.mem_map.1 hr
  exact frP_in (areaZ_ok hb (List.mem_filter.1 ha).1) hf h
theorem frOut_err (h : frOut bs f kn er m) (he : er ≠ 0) : m = [] := by
  rcases h with ⟨_, _, h⟩ | ⟨_, _, _, h⟩ | ⟨_, _, _, _, h⟩
  · exact h
  · exact h
  · by_cases g : m = []
    · exact g
    · rw [if_neg g] at h; exact absurd h he
theorem frOut_ok (h : frOut bs f kn er m) (he : er = 0) : ¬ badArg f kn ∧ (parseP bs).1 = 0 ∧ NF m ∧ (∀ n, memR m n ↔ memR (useL (parseP bs).2 f) n ∧ ¬ memR (awayL (parseP bs).2 f kn) n) ∧ m ≠ [] := by
  rcases h with ⟨_, h, _⟩ | ⟨_, h1, h, _⟩ | ⟨h1, h2, h3, h4, h⟩
  · omega
  · omega
  · refine ⟨h1, h2, h3, h4, fun g => ?_⟩
    rw [if_pos g] at h
    omega
def restL (ars : List Ar) (f : Int) : List Rg := (ars.filter fun a => !(a.2.2 == 1)).map fun a => frP a f
theorem away_mem {ars : List Ar} {n : Int} : memR (awayL ars f kn) n ↔ inRg kn n ∨ memR (restL ars f) n := memR_cons
theorem Own.range1 {b : Nat} (h : Own (At b [.int .i64 kn.1, .int .i64 kn.2] :: R) A) : Own (SlO ⟨some ⟨b, 0, none⟩, 1, 1⟩ 2 (rgs [kn]) :: R) A := h.imp fun B hB => ⟨⟨rfl, Nat.le_refl _⟩, .inr ⟨b, [], rfl, rfl, hB⟩⟩
end Go.Dn
