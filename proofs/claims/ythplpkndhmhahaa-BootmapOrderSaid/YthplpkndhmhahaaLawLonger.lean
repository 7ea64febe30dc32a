/- A greater memory has the same frames and more. -/
import Derived.Test.YthplpkndhmhahaaLawKernel
namespace Go.Dn

variable {A : AH} {l R : List SP} {P P2 : SP} {k k2 : Nat} {s s2 : Sl} {bs : List Int} {f er mo : Int} {kn : Rg} {m : List Rg}
theorem frP_more {a : Ar} {f F n : Int} (h : f ≤ F) : inR (frP a f) n ↔ inR (frP a F) n ∧ n < f := by
  unfold frP inR
  simp only
  generalize (if a.2.2 = 1 then (a.1 + 4095) / 4096 else a.1 / 4096) = x
  generalize (if a.2.1 = 0 then x else if a.2.2 = 1 then (a.1 + a.2.1) / 4096 else (a.1 + a.2.1 + 4095) / 4096) = y
  constructor
  · rintro ⟨h1, h2⟩
    refine ⟨⟨?_, ?_⟩, ?_⟩ <;> (repeat' split at h1) <;> (repeat' split at h2) <;> (repeat' split) <;> omega
  · rintro ⟨⟨h1, h2⟩, h3⟩
    refine ⟨?_, ?_⟩ <;> (repeat' split at h1) <;> (repeat' split at h2) <;> (repeat' split) <;> omega
theorem map_more {ars : List Ar} {f F n : Int} (h : f ≤ F) : memR (ars.map fun a => frP a f) n ↔ memR (ars.map fun a => frP a F) n ∧ n < f := by
  constructor
  · rintro ⟨r, hr, h1⟩
    obtain ⟨a, ha, rfl⟩ := List.mem_map.1 hr
    obtain ⟨g1, g2⟩ := (frP_more h).1 h1
    exact ⟨⟨_, List.mem_map.2 ⟨a, ha, rfl⟩, g1⟩, g2⟩
  · rintro ⟨⟨r, hr, h1⟩, h2⟩
    obtain ⟨a, ha, rfl⟩ := List.mem_map.1 hr
    exact ⟨_, List.mem_map.2 ⟨a, ha, rfl⟩, (frP_more h).2 ⟨h1, h2⟩⟩
theorem out0 {m : List Rg} (h : frOut bs f (0, 0) er m) (h1 : 1 ≤ f) (h2 : f ≤ 1048576) : ((parseP bs).1 ≠ 0 ∧ er = (parseP bs).1 ∧ m = []) ∨
    ((parseP bs).1 = 0 ∧ NF m ∧ (∀ n, memR m n ↔ memR (useL (parseP bs).2 f) n ∧ ¬ memR (restL (parseP bs).2 f) n) ∧ er = if m = [] then 7 else 0) := by
  have hbad0 : ¬ badArg f (0, 0) := by unfold badArg; simp only; omega
  rcases h with ⟨q, _⟩ | ⟨_, q⟩ | ⟨_, q0, q1, q2, q3⟩
  · exact absurd q hbad0
  · exact .inl q
  · refine .inr ⟨q0, q1, fun n => ?_, q3⟩
    rw [q2 n, away_mem]
    have hz : ¬ inR (0, 0) n := fun q => by unfold inR at q; simp only at q; omega
    exact ⟨fun ⟨g1, g2⟩ => ⟨g1, fun q => g2 (.inr q)⟩, fun ⟨g1, g2⟩ => ⟨g1, fun q => q.elim hz g2⟩⟩
theorem parse_no7 : (parseP bs).1 ≠ 7 := by
  unfold parseP
  split
  · decide
  split
  · decide
  split
  · exact fun q => by simp at q
  · decide
theorem BootmapLonger_spec {Q : Bool → AH → Prop} (h : Own l A) (e : l[k]? = some P) (hr : Reads P s 1 (bs.map byV)) (hc : s.len ≤ s.cap) (hn : s.a = none → bs = []) (hb : ∀ x ∈ bs, 0 ≤ x ∧ x < 256)
    (hk : ∀ A', Own l A' → Q true A') : demesnelaw06_BootmapLonger_A s f mo Q A := by
  unfold demesnelaw06_BootmapLonger_A demesnelaw06_BootmapLonger_G
  refine Cut_spec h e hr hc hn fun s1 A1 hs1 h1 => ?_
  have hb : ∀ x ∈ bs.take 1400, 0 ≤ x ∧ x < 256 := fun x hx => hb x (List.mem_of_mem_take hx)
  generalize bs.take 1400 = bs at *
  have aw : demesnelaw06_awake_A (fun b h => Q b h) A1 := awake_spec h1 fun A' h' => hk A' h'.tail
  refine ⟨fun h' => h' = A1 ∧ 1 ≤ f ∧ f ≤ 524288 ∧ 0 ≤ mo ∧ mo ≤ 524288, ?_, bsel_in (fun _ => aw) fun g1 => bsel_in (fun _ => aw) fun g2 => bsel_in (fun _ => aw) fun g3 => bsel_in (fun _ => aw) fun g4 => ⟨rfl, ?_⟩⟩
  · intro A2 ⟨e0, f1, f2, f3, f4⟩
    subst e0
    have hw : IntKind.wrap .i64 (f + mo) = f + mo := by rw [w64] <;> omega
    rw [hw]
    refine Frames_spec (k := 0) (kn := (0, 0)) h1 rfl reads_slo h1.capS hs1 hb fun er m s13 A3 ho hml hs13 h3 => ?_
    refine Frames_spec (k := 1) (kn := (0, 0)) h3 rfl reads_slo h1.capS hs1 hb fun er2 m2 s16 A4 ho2 hml2 hs16 h4 => ?_
    have o1 := out0 ho f1 (by omega)
    have o2 := out0 ho2 (by omega) (by omega)
    have main : (parseP bs).1 = 0 → ∀ (A5 : AH), Own (SlO s16 2 (rgs m2) :: SlO s13 2 (rgs m) :: SlO s1 1 (bs.map byV) :: l) A5 → ∀ (t : TypeId),
        newA A5 (.cells #[.int .i64 f, .int .i64 (f + mo)] t) fun b23 h24 => bootmap_Less_A s16 (Sl.mk (some (Addr.mk b23 0 none)) 1 1) (fun s25 h26 => demesneref06_Same_A s25 s13 (fun b27 h28 => bsel b27 (bsel (er2 == (0 : Int)) (Q true h28) (Q (er == er2) h28)) (Q false h28)) h26) h24 := fun hp A5 h5 t => by
      rcases o1 with ⟨q, _⟩ | ⟨_, n1, n2, n3⟩
      · exact absurd hp q
      rcases o2 with ⟨q, _⟩ | ⟨_, p1, p2, p3⟩
      · exact absurd hp q
      have hmem : ∀ n, memR m n ↔ memR m2 n ∧ ¬ memR [(f, f + mo)] n := fun n => by
        rw [n2 n, p2 n, memR_one]
        unfold useL restL
        rw [map_more (f := f) (F := f + mo) (by omega), map_more (ars := (parseP bs).2.filter fun a => !(a.2.2 == 1)) (f := f) (F := f + mo) (by omega)]
        unfold inR
        simp only
        constructor
        · rintro ⟨⟨g1, g2⟩, g3⟩
          exact ⟨⟨g1, fun q => g3 ⟨q, g2⟩⟩, by omega⟩
        · rintro ⟨⟨g1, g2⟩, g3⟩
          have := (use_in (bs := bs) hb (f := f + mo) (by omega) (n := n) g1).2
          exact ⟨⟨g1, by omega⟩, fun q => g2 q.1⟩
      refine new_C (cs := [.int .i64 f, .int .i64 (f + mo)]) h5 fun b A6 h6 => ?_
      have h6 := Own.range1 (kn := (f, f + mo)) h6
      refine Less_spec (k := 1) (k2 := 0) h6 rfl reads_slo (by omega) hs16 rfl reads_slo (by simp) (fun q => nomatch q) (by simp; omega) fun m3 hm3 hmm3 hml3 s23 A7 hs23 h7 => ?_
      have he : m3 = m := NF.eq hm3 n1 fun n => by rw [hmm3 n, hmem n]
      subst he
      refine Same_spec (k := 0) (k2 := 3) h7 rfl reads_slo rfl reads_slo (by omega) (bsel_t (by simp) ?_)
      have fin : Q true A7 := hk A7 h7.tail.tail.tail.tail.tail
      refine bsel_in (fun _ => fin) fun g => ?_
      have g : er2 ≠ 0 := by simpa using g
      have g2 : m2 = [] := by
        by_cases q : m2 = []
        · exact q
        · rw [if_neg q] at p3; exact absurd p3 g
      have g3 : m3 = [] := NF.eq n1 NF.nil fun n => by
        rw [hmem n, g2]
        exact ⟨fun q => q.1, fun q => absurd q (memR_nil n)⟩
      rw [if_pos g2] at p3
      rw [if_pos g3] at n3
      rw [n3, p3]
      exact fin
    refine bsel_in (fun g => bsel_in (fun g2 => ?_) fun g2 => ?_) fun g => ?_
    · have g : er ≠ 0 := by simpa using g
      have g2 : er ≠ 7 := by simpa using g2
      refine awake_spec h4 fun A5 h5 => bsel_t rfl ?_
      have he : er = er2 := by
        rcases o1 with ⟨q1, q2, _⟩ | ⟨_, _, _, q⟩
        · rcases o2 with ⟨_, p2, _⟩ | ⟨p1, _⟩
          · rw [q2, p2]
          · exact absurd p1 q1
        · split at q <;> omega
      rw [he]
      simpa using hk A5 h5.tail.tail.tail
    · have g2 : er = 7 := by simpa using g2
      have hp : (parseP bs).1 = 0 := by
        rcases o1 with ⟨_, q2, _⟩ | ⟨q, _⟩
        · exact absurd (q2.symm.trans g2) parse_no7
        · exact q
      exact awake_spec h4 fun A5 h5 => bsel_t rfl (main hp A5 h5 _)
    · have g : er = 0 := by simpa using g
      have hp : (parseP bs).1 = 0 := by
        rcases o1 with ⟨q1, q2, _⟩ | ⟨q, _⟩
        · exact absurd (q2.symm.trans g) q1
        · exact q
      exact awake_spec h4 fun A5 h5 => bsel_t rfl (main hp A5 h5 _)
  · have g1 := of_decide_eq_false g1
    have g2 := of_decide_eq_false g2
    have g3 := of_decide_eq_false g3
    have g4 := of_decide_eq_false g4
    omega
end Go.Dn
