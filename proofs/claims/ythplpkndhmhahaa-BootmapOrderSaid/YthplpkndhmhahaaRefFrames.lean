/- The document's frames of a map. -/
import Derived.Test.YthplpkndhmhahaaRefParse
namespace Go.Dn

variable {A : AH} {l R : List SP} {P P2 : SP} {k k2 : Nat} {s s2 : Sl} {bs : List Int}
theorem shr12 {x : Int} : Int.fdiv x (2 ^ (12 : Nat)) = x / 4096 := shr_eq
/-- The document's frames of an area that may be used. -/
def whP (a : Ar) (most : Int) : Rg :=
  (if most < (a.1 + 4095) / 4096 then most else (a.1 + 4095) / 4096, if most < (a.1 + a.2.1) / 4096 then most else (a.1 + a.2.1) / 4096)
/-- The document's frames of an area that may not be used. -/
def toP (a : Ar) (most : Int) : Rg := if a.2.1 = 0 then (0, 0) else
  (if most < a.1 / 4096 then most else a.1 / 4096, if most < (a.1 + a.2.1 - 1) / 4096 + 1 then most else (a.1 + a.2.1 - 1) / 4096 + 1)
theorem whole_spec {a : Ar} {most : Int} {Q : Int → Int → AH → Prop} (ha : ArB a) (h1 : 1 ≤ most) (h2 : most ≤ 2097152) (hk : Q (whP a most).1 (whP a most).2 A) : demesneref06_whole_A a.1 a.2.1 a.2.2 most Q A := by
  obtain ⟨x, n, kd⟩ := a
  obtain ⟨a1, a2, a3, a4, a5⟩ := ha
  simp only at a1 a2 a3 a4 a5
  unfold whP at hk
  simp only at hk ⊢
  unfold demesneref06_whole_A
  have w1 : IntKind.wrap .u64 (x + n) = x + n := wu64 (by omega) (by omega)
  rw [w1, shr12, shr12, and4095 a1 (by omega)]
  have hmin : ∀ y : Int, 0 ≤ y → IntKind.wrap .i64 (if most < y then most else y) = if most < y then most else y := fun y hy => by rw [w64] <;> split <;> omega
  refine ⟨fun f h' => h' = A ∧ f = (x + 4095) / 4096, ?_, ?_⟩
  · intro f A1 ⟨e1, e2⟩
    subst e1 e2
    rw [hmin _ (by omega), hmin _ (by omega)]
    exact hk
  · refine bsel_in (fun g => ?_) fun g => ?_
    · have g : x % 4096 > 0 := of_decide_eq_true g
      refine ⟨rfl, ?_⟩
      rw [wu64 (by omega) (by omega)]
      omega
    · have g : ¬ x % 4096 > 0 := of_decide_eq_false g
      refine ⟨rfl, ?_⟩
      omega
theorem touched_spec {a : Ar} {most : Int} {Q : Int → Int → AH → Prop} (ha : ArB a) (h1 : 1 ≤ most) (h2 : most ≤ 2097152) (hk : Q (toP a most).1 (toP a most).2 A) : demesneref06_touched_A a.1 a.2.1 a.2.2 most Q A := by
  obtain ⟨x, n, kd⟩ := a
  obtain ⟨a1, a2, a3, a4, a5⟩ := ha
  simp only at a1 a2 a3 a4 a5
  unfold toP at hk
  simp only at hk ⊢
  unfold demesneref06_touched_A
  refine bsel_in (fun g => ?_) fun g => ?_
  · have g : n = 0 := by simpa using g
    rw [if_pos g] at hk
    exact hk
  · have g : n ≠ 0 := by simpa using g
    rw [if_neg g] at hk
    have hmin : ∀ y : Int, 0 ≤ y → IntKind.wrap .i64 (if most < y then most else y) = if most < y then most else y := fun y hy => by rw [w64] <;> split <;> omega
    have w1 : IntKind.wrap .u64 (x + n) = x + n := wu64 (by omega) (by omega)
    have w2 : IntKind.wrap .u64 (x + n - 1) = x + n - 1 := wu64 (by omega) (by omega)
    rw [w1, w2, shr12, shr12]
    have w3 : IntKind.wrap .u64 ((x + n - 1) / 4096 + 1) = (x + n - 1) / 4096 + 1 := wu64 (by omega) (by omega)
    rw [w3, hmin _ (by omega), hmin _ (by omega)]
    exact hk
theorem whP_mem {a : Ar} {f n : Int} (ha : ArB a) (hk : a.2.2 = 1) : inR (whP a f) n ↔ inR (frP a f) n := by
  obtain ⟨a1, a2, a3, a4, a5⟩ := ha
  unfold inR whP frP
  simp only [if_pos hk]
  by_cases h : a.2.1 = 0
  · simp only [if_pos h]
    constructor
    · rintro ⟨g1, g2⟩
      exfalso
      split at g1 <;> split at g2 <;> omega
    · rintro ⟨g1, g2⟩
      exfalso
      omega
  · simp only [if_neg h]
theorem toP_mem {a : Ar} {f n : Int} (ha : ArB a) (hk : ¬ a.2.2 = 1) : inR (toP a f) n ↔ inR (frP a f) n := by
  obtain ⟨a1, a2, a3, a4, a5⟩ := ha
  unfold inR toP frP
  simp only [if_neg hk]
  by_cases h : a.2.1 = 0
  · simp only [if_pos h]
    constructor <;> rintro ⟨g1, g2⟩ <;> exfalso <;> omega
  · simp only [if_neg h]
    have : (a.1 + a.2.1 - 1) / 4096 + 1 = (a.1 + a.2.1 + 4095) / 4096 := by omega
    rw [this]
def useR (ars : List Ar) (f : Int) : List Rg := (ars.filter fun a => a.2.2 == 1).map fun a => whP a f
def awayR (ars : List Ar) (f : Int) (kn : Rg) : List Rg := kn :: (ars.filter fun a => !(a.2.2 == 1)).map fun a => toP a f
theorem useR_mem {ars : List Ar} {f n : Int} (h : ∀ a ∈ ars, ArB a) : memR (useR ars f) n ↔ memR (useL ars f) n := by
  unfold useR useL memR
  constructor
  · rintro ⟨r, hr, hn⟩
    obtain ⟨a, ha, rfl⟩ := List.mem_map.1 hr
    obtain ⟨h1, h2⟩ := List.mem_filter.1 ha
    exact ⟨_, List.mem_map.2 ⟨a, ha, rfl⟩, (whP_mem (h a h1) (by simpa using h2)).1 hn⟩
  · rintro ⟨r, hr, hn⟩
    obtain ⟨a, ha, rfl⟩ := List.mem_map.1 hr
    obtain ⟨h1, h2⟩ := List.mem_filter.1 ha
    exact ⟨_, List.mem_map.2 ⟨a, ha, rfl⟩, (whP_mem (h a h1) (by simpa using h2)).2 hn⟩
theorem awayR_mem {ars : List Ar} {f n : Int} {kn : Rg} (h : ∀ a ∈ ars, ArB a) : memR (awayR ars f kn) n ↔ memR (awayL ars f kn) n := by
  unfold awayR awayL
  rw [memR_cons, memR_cons]
  refine or_congr Iff.rfl ?_
  unfold memR
  constructor
  · rintro ⟨r, hr, hn⟩
    obtain ⟨a, ha, rfl⟩ := List.mem_map.1 hr
    obtain ⟨h1, h2⟩ := List.mem_filter.1 ha
    exact ⟨_, List.mem_map.2 ⟨a, ha, rfl⟩, (toP_mem (h a h1) (by simpa using h2)).1 hn⟩
  · rintro ⟨r, hr, hn⟩
    obtain ⟨a, ha, rfl⟩ := List.mem_map.1 hr
    obtain ⟨h1, h2⟩ := List.mem_filter.1 ha
    exact ⟨_, List.mem_map.2 ⟨a, ha, rfl⟩, (toP_mem (h a h1) (by simpa using h2)).2 hn⟩
theorem RefFrames_spec {f : Int} {kn : Rg} {Q : Sl → Int → AH → Prop} (h : Own l A) (e : l[k]? = some P) (hr : Reads P s 1 (bs.map byV)) (hcap : s.len ≤ s.cap) (hb : ∀ x ∈ bs, 0 ≤ x ∧ x < 256)
    (hk : ∀ er m s' A', frOut bs f kn er m → m.length ≤ 4224 → (s'.a = none → m = []) → Own (SlO s' 2 (rgs m) :: l) A' → Q s' er A') : demesneref06_Frames_A s f kn.1 kn.2 Q A := by
  unfold demesneref06_Frames_A demesneref06_Frames_G
  have nil : ∀ er (A' : AH), Own l A' → frOut bs f kn er [] → Q Sl.nil er A' := fun er A' h' ho => hk er [] Sl.nil A' ho (by simp) (fun _ => rfl) h'.nilS
  refine ⟨fun h' => Own l h' ∧ ¬ badArg f kn, ?_, ?_⟩
  · intro A1 ⟨h1, hbad⟩
    have hf : 1 ≤ f ∧ f ≤ 1048576 := by unfold badArg at hbad; omega
    have wf : IntKind.wrap .u64 f = f := wu64 (by omega) (by omega)
    rw [wf]
    refine RefParse_spec h1 e hr hcap hb fun s3 A2 hs3 h2 => ?_
    refine bsel_in (fun g => ?_) fun g => ?_
    · have g : (parseP bs).1 ≠ 0 := by simpa using g
      exact nil _ A2 h2.tail (.inr (.inl ⟨hbad, g, rfl, rfl⟩))
    · have g : (parseP bs).1 = 0 := by simpa using g
      have hl3 := rd_ar_len (k := 0) h2 rfl reads_slo
      have h64 := parseP_len (bs := bs)
      have hars : ∀ a ∈ (parseP bs).2, ArB a := fun a ha => areaZ_ok hb ha
      have hul : ∀ v, (useR ((parseP bs).2.take v) f).length ≤ 64 := fun v => by
        unfold useR
        rw [List.length_map]
        have := List.length_filter_le (fun a : Ar => a.2.2 == 1) ((parseP bs).2.take v)
        have := (List.take_sublist v (parseP bs).2).length_le
        omega
      have hwl : ∀ v, (awayR ((parseP bs).2.take v) f kn).length ≤ 65 := fun v => by
        unfold awayR
        rw [List.length_cons, List.length_map]
        have := List.length_filter_le (fun a : Ar => !(a.2.2 == 1)) ((parseP bs).2.take v)
        have := (List.take_sublist v (parseP bs).2).length_le
        omega
      refine ⟨new_C (cs := []) h2 fun b1 A3 h3 => new_C (cs := [.int .i64 kn.1, .int .i64 kn.2]) h3 fun b2 A4 h4' => have h4 := h4'.swap; ?_, new_C (cs := [.int .i64 kn.1, .int .i64 kn.2]) h2 fun b2 A3 h3 => new_C (cs := []) h3 fun b1 A4 h4 => ?_⟩
      all_goals
        have h4a : Own (SlO ⟨some ⟨b1, 0, none⟩, 0, 0⟩ 2 [] :: At b2 [.int .i64 kn.1, .int .i64 kn.2] :: SlO s3 3 (arsC (parseP bs).2) :: l) A4 := h4.imp fun B _ => ⟨⟨by simp, Nat.le_refl _⟩, .inl rfl⟩
        have h4b := h4a.swap.range1.swap
        refine ⟨fun u w x m h' => ∃ v : Nat, x = v ∧ m + v = (parseP bs).2.length ∧ (u.a = none → useR ((parseP bs).2.take v) f = []) ∧ (w.a = none → awayR ((parseP bs).2.take v) f kn = []) ∧
            Own (SlO u 2 (rgs (useR ((parseP bs).2.take v) f)) :: SlO w 2 (rgs (awayR ((parseP bs).2.take v) f kn)) :: SlO s3 3 (arsC (parseP bs).2) :: l) h',
          ⟨(parseP bs).2.length, 0, rfl, by omega, fun _ => rfl, fun g => (nomatch g), by simp only [useR, awayR, List.take_zero, List.filter_nil, List.map_nil]; exact h4b⟩, ?_⟩
        intro u w x m A5 ⟨v, e1, e2, hu, hw, h5⟩
        subst e1
        refine bsel_in (fun c => ?_) fun c => ?_
        · have c : (v : Int) < s3.len := of_decide_eq_true c
          obtain ⟨a, hav⟩ : ∃ a, (parseP bs).2[v]? = some a := ⟨(parseP bs).2[v]'(by omega), by simp⟩
          have haB : ArB a := areaZ_ok hb (List.mem_of_getElem? hav)
          refine ⟨fun u' w' h' => (u'.a = none → useR ((parseP bs).2.take (v + 1)) f = []) ∧ (w'.a = none → awayR ((parseP bs).2.take (v + 1)) f kn = []) ∧
            Own (SlO u' 2 (rgs (useR ((parseP bs).2.take (v + 1)) f)) :: SlO w' 2 (rgs (awayR ((parseP bs).2.take (v + 1)) f kn)) :: SlO s3 3 (arsC (parseP bs).2) :: l) h', ?_, ?_⟩
          · intro u' w' A6 ⟨f1, f2, h6⟩
            exact ⟨m - 1, by omega, v + 1, by rw [w64] <;> omega, by omega, f1, f2, h6⟩
          · obtain ⟨ad, q1, r1, r2, r3⟩ := rd_ar (k := 2) h5 rfl reads_slo hav
            rw [q1]
            refine inB_in (by omega) c (r1 _ (r2 _ (r3 _ ?_)))
            refine bsel_in (fun g2 => ?_) fun g2 => ?_
            · refine whole_spec haB hf.1 (by omega) ?_
              have hU : useR ((parseP bs).2.take (v + 1)) f = useR ((parseP bs).2.take v) f ++ [((whP a f).1, (whP a f).2)] := by
                rw [take_at hav]; unfold useR; rw [List.filter_append, List.map_append]
                simp [List.filter_cons, g2]
              have hW : awayR ((parseP bs).2.take (v + 1)) f kn = awayR ((parseP bs).2.take v) f kn := by
                rw [take_at hav]; unfold awayR; rw [List.filter_append]
                simp [List.filter_cons, g2]
              refine push_rg h5 hu (by have := hul v; omega) fun s' A6 j1 h6 => ?_
              rw [hU, hW]
              exact ⟨j1, hw, h6⟩
            · refine touched_spec haB hf.1 (by omega) ?_
              have hU : useR ((parseP bs).2.take (v + 1)) f = useR ((parseP bs).2.take v) f := by
                rw [take_at hav]; unfold useR; rw [List.filter_append]
                simp [List.filter_cons, g2]
              have hW : awayR ((parseP bs).2.take (v + 1)) f kn = awayR ((parseP bs).2.take v) f kn ++ [((toP a f).1, (toP a f).2)] := by
                rw [take_at hav]; unfold awayR; rw [List.filter_append, List.map_append]
                simp [List.filter_cons, g2]
              refine push_rg h5.swap hw (by have := hwl v; omega) fun s' A6 j1 h6 => ?_
              rw [hU, hW]
              exact ⟨hu, j1, h6.swap⟩
        · have c : ¬(v : Int) < s3.len := of_decide_eq_false c
          have hv : v = (parseP bs).2.length := by omega
          subst hv
          rw [List.take_length] at hu hw h5
          have hul := hul (parseP bs).2.length
          have hwl := hwl (parseP bs).2.length
          rw [List.take_length] at hul hwl
          refine RefLess_spec (k := 0) (k2 := 1) h5 rfl reads_slo (by omega) rfl reads_slo (by omega) fun m' hm hmm hml s' A6 hs' h6 => ?_
          have hmm : ∀ n, memR m' n ↔ memR (useL (parseP bs).2 f) n ∧ ¬ memR (awayL (parseP bs).2 f kn) n := fun n => by rw [hmm n, useR_mem hars, awayR_mem hars]
          have hl6 := h6.rgs_len
          have h7 : Own (SlO s' 2 (rgs m') :: l) A6 := h6.cons fun C hC => hC.tail.tail.tail
          refine bsel_in (fun g2 => ?_) fun g2 => ?_
          · have g2 : (s'.len : Int) = 0 := by simpa using g2
            have h0 : m' = [] := List.length_eq_zero_iff.1 (by omega)
            subst h0
            exact nil _ A6 h7.tail (.inr (.inr ⟨hbad, g, hm, hmm, by simp⟩))
          · have g2 : (s'.len : Int) ≠ 0 := by simpa using g2
            have h0 : m' ≠ [] := fun q => by subst q; simp at hl6; omega
            exact hk _ m' s' A6 (.inr (.inr ⟨hbad, g, hm, hmm, by rw [if_neg h0]⟩)) (by omega) (fun q => absurd q hs') h7
  · have bad1 : badArg f kn → Q Sl.nil 1 A := fun g => nil _ A h (.inl ⟨g, rfl, rfl⟩)
    refine bsel_in (fun g => bad1 (.inl (of_decide_eq_true g))) fun g1 => bsel_in (fun g => bad1 (.inr (.inl (of_decide_eq_true g)))) fun g2 => bsel_in (fun g => bad1 (.inr (.inr (.inl (of_decide_eq_true g))))) fun g3 => bsel_in (fun g => bad1 (.inr (.inr (.inr (.inl (of_decide_eq_true g)))))) fun g4 => bsel_in (fun g => bad1 (.inr (.inr (.inr (.inr (of_decide_eq_true g)))))) fun g5 => ⟨h, ?_⟩
    have g1 := of_decide_eq_false g1
    have g2 := of_decide_eq_false g2
    have g3 := of_decide_eq_false g3
    have g4 := of_decide_eq_false g4
    have g5 := of_decide_eq_false g5
    unfold badArg
    omega
theorem frOut_det {f : Int} {kn : Rg} {e1 e2 : Int} {m1 m2 : List Rg} (h1 : frOut bs f kn e1 m1) (h2 : frOut bs f kn e2 m2) : e1 = e2 ∧ m1 = m2 := by
  rcases h1 with ⟨a, b, c⟩ | ⟨a, b, c, d⟩ | ⟨a, b, c, d, g⟩
  · rcases h2 with ⟨a2, b2, c2⟩ | ⟨a2, _⟩ | ⟨a2, _⟩
    · exact ⟨by rw [b, b2], by rw [c, c2]⟩
    · exact absurd a a2
    · exact absurd a a2
  · rcases h2 with ⟨a2, _⟩ | ⟨a2, b2, c2, d2⟩ | ⟨a2, b2, _⟩
    · exact absurd a2 a
    · exact ⟨by rw [c, c2], by rw [d, d2]⟩
    · exact absurd b2 b
  · rcases h2 with ⟨a2, _⟩ | ⟨a2, b2, _⟩ | ⟨a2, b2, c2, d2, g2⟩
    · exact absurd a2 a
    · exact absurd b b2
    · have : m1 = m2 := NF.eq c c2 fun n => by rw [d n, d2 n]
      subst this
      exact ⟨by rw [g, g2], rfl⟩
end Go.Dn
