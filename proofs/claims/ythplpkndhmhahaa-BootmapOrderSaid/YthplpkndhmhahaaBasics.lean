/- Of the laws and the document's answer: Same, Some, Few, Cut. -/
import Derived.Test.YthplpkndhmhahaaFrames
namespace Go.Dn

variable {A : AH} {l R : List SP} {P P2 : SP} {k k2 : Nat} {s s2 : Sl} {L M : List Rg} {bs : List Int}
theorem Same_spec {Q : Bool → AH → Prop} (h : Own l A) (e : l[k]? = some P) (hr : Reads P s 2 (rgs L)) (e2 : l[k2]? = some P2) (hr2 : Reads P2 s2 2 (rgs M)) (hb : L.length ≤ 1000000) (hk : Q (decide (L = M)) A) : demesneref06_Same_A s s2 Q A := by
  have hl := rd_rg_len h e hr
  have hl2 := rd_rg_len h e2 hr2
  unfold demesneref06_Same_A
  refine bsel_in (fun g => ?_) fun g => ?_
  · have g : (s.len : Int) ≠ s2.len := by simpa using g
    rwa [decide_eq_false (fun q => by subst q; omega)] at hk
  · have g : (s.len : Int) = s2.len := by simpa using g
    have hlm : L.length = M.length := by omega
    refine ⟨fun x m h' => ∃ v : Nat, x = v ∧ m + v = L.length ∧ h' = A ∧ L.take v = M.take v, ⟨L.length, 0, rfl, rfl, rfl, by simp⟩, ?_⟩
    intro x m A1 ⟨v, e3, e4, e5, e6⟩
    subst e3 e5
    refine bsel_in (fun c => ?_) fun c => ?_
    · have c : (v : Int) < s.len := of_decide_eq_true c
      obtain ⟨r, hrv⟩ : ∃ r, L[v]? = some r := ⟨L[v]'(by omega), by simp⟩
      obtain ⟨t, htv⟩ : ∃ t, M[v]? = some t := ⟨M[v]'(by omega), by simp⟩
      obtain ⟨a, q1, r1, r2⟩ := rd_rg h e hr hrv
      obtain ⟨a2, q2, t1, t2⟩ := rd_rg h e2 hr2 htv
      rw [q1, q2]
      refine inB_in (by omega) c (r1 _ (r2 _ ?_))
      refine inB_in (by omega) (by omega) (t1 _ (t2 _ ?_))
      refine bsel_in (fun g2 => ?_) fun g2 => ?_
      · have hne : r ≠ t := fun q => by subst q; simp at g2
        rwa [decide_eq_false (fun q => by subst q; rw [hrv] at htv; cases htv; exact hne rfl)] at hk
      · have he : r = t := by
          simp at g2
          exact Prod.ext g2.1 g2.2
        subst he
        exact ⟨m - 1, by omega, v + 1, by rw [w64] <;> omega, by omega, rfl, by rw [take_at hrv, take_at htv, e6]⟩
    · have c : ¬(v : Int) < s.len := of_decide_eq_false c
      have hv : v = L.length := by omega
      subst hv
      rw [List.take_length, hlm, List.take_length] at e6
      rwa [decide_eq_true e6] at hk
/-- Is a number in one of the ranges? -/
def someB (L : List Rg) (n : Int) : Bool := L.any fun r => decide (r.1 ≤ n) && decide (n < r.2)
theorem someB_iff {L : List Rg} {n : Int} : someB L n = true ↔ memR L n := by
  unfold someB memR inR
  rw [List.any_eq_true]
  constructor
  · rintro ⟨r, h1, h2⟩; exact ⟨r, h1, by simpa using h2⟩
  · rintro ⟨r, h1, h2⟩; exact ⟨r, h1, by simpa using h2⟩
theorem someB_false {L : List Rg} {n : Int} : someB L n = false ↔ ¬ memR L n := by rw [← someB_iff]; simp
theorem Some_spec {n : Int} {Q : Bool → AH → Prop} (h : Own l A) (e : l[k]? = some P) (hr : Reads P s 2 (rgs L)) (hb : L.length ≤ 1000000) (hk : Q (someB L n) A) : demesneref06_Some_A s n Q A := by
  have hl := rd_rg_len h e hr
  unfold demesneref06_Some_A demesneref06_Some_G
  refine ⟨fun x m h' => ∃ v : Nat, x = v ∧ m + v = L.length ∧ h' = A ∧ someB L n = someB (L.drop v) n, ⟨L.length, 0, rfl, rfl, rfl, by simp⟩, ?_⟩
  intro x m A1 ⟨v, e3, e4, e5, e6⟩
  subst e3 e5
  refine bsel_in (fun c => ?_) fun c => ?_
  · have c : (v : Int) < s.len := of_decide_eq_true c
    obtain ⟨r, hrv⟩ : ∃ r, L[v]? = some r := ⟨L[v]'(by omega), by simp⟩
    obtain ⟨a, q1, r1, r2⟩ := rd_rg h e hr hrv
    rw [q1]
    refine inB_in (by omega) c (r1 _ (r2 _ ?_))
    have hd : someB (L.drop v) n = (decide (r.1 ≤ n) && decide (n < r.2) || someB (L.drop (v + 1)) n) := by
      rw [drop_at hrv]; rfl
    have next : (decide (r.1 ≤ n) && decide (n < r.2)) = false → ∃ m3, m3 < m ∧ ∃ v' : Nat, IntKind.wrap .i64 ((v : Int) + 1) = v' ∧ m3 + v' = L.length ∧ A1 = A1 ∧ someB L n = someB (L.drop v') n := fun g =>
      ⟨m - 1, by omega, v + 1, by rw [w64] <;> omega, by omega, rfl, by rw [e6, hd, g]; rfl⟩
    unfold demesneref06_In_A
    refine bsel_in (fun g => ?_) fun g => ?_
    · refine bsel_in (fun g2 => ?_) fun g2 => ?_
      · have : someB L n = true := by rw [e6, hd, g, g2]; rfl
        rwa [this] at hk
      · exact next (by rw [g, g2]; rfl)
    · refine bsel_f rfl (next (by rw [g]; rfl))
  · have c : ¬(v : Int) < s.len := of_decide_eq_false c
    have : someB L n = false := by rw [e6, List.drop_eq_nil_of_le (by omega)]; rfl
    rwa [this] at hk
theorem add_zero (a : Addr) : Addr.add a (0 * 2) = a := by simp [Addr.add]
theorem reads_take {n : Nat} (hr : Reads P s 2 (rgs L)) (hn : n ≤ L.length) : Reads P ⟨s.a, n, s.cap⟩ 2 (rgs (L.take n)) := fun B A hB u => by
  obtain ⟨h1, h2⟩ := hr B A hB u
  refine ⟨by rw [rgs_len]; simp; omega, fun j v hv => h2 j v ?_⟩
  have : rgs L = rgs (L.take n) ++ rgs (L.drop n) := by rw [← rgs_app, List.take_append_drop]
  rw [this, List.getElem?_append_left (List.getElem?_eq_some_iff.1 hv).1]
  exact hv
/-- A slice that is copied. -/
theorem Few_spec {n : Nat} {Q : Sl → AH → Prop} (h : Own l A) (e : l[k]? = some P) (hr : Reads P s 2 (rgs L)) (hcap : s.len ≤ s.cap) (hn : s.a = none → L = []) (hn0 : 0 < n) (hn3 : n ≤ 1000)
    (hk : ∀ s' A', (s'.a = none → L.take n = []) → Own (SlO s' 2 (rgs (L.take n)) :: l) A' → Q s' A') : demesnelaw06_Few_A s n Q A := by
  have hl := rd_rg_len h e hr
  unfold demesnelaw06_Few_A
  refine ⟨fun s' h' => h' = A ∧ Reads P s' 2 (rgs (L.take n)) ∧ (s'.a = none → L.take n = []), ?_, ?_⟩
  · intro s' A1 ⟨e1, hr', hn'⟩
    subst e1
    have hl' := rd_rg_len h e hr'
    refine new_C (cs := []) h fun b1 A2 h2 => ?_
    have h2 : Own (SlO ⟨some ⟨b1, 0, none⟩, 0, 0⟩ 2 [] :: l) A2 := h2.imp fun B _ => ⟨⟨by simp, Nat.le_refl _⟩, .inl rfl⟩
    have hlt : (L.take n).length ≤ n := by simp; omega
    refine ap_reads (i := k) h2 e hr' (fun g => by rw [hn' g]; rfl) (fun g => by cases g) rfl (fun v hv => rgs_one hv) ⟨by simp only [hl']; omega, by simp only [hl']; omega⟩ fun s3 A3 j1 j2 h3 => ?_
    exact hk s3 A3 (fun g => rgs_nil (by simpa using j2 g)) (by simpa using h3)
  · refine bsel_in (fun g => ?_) fun g => ?_
    · have g : (s.len : Int) > n := of_decide_eq_true g
      refine inB_in (by omega) (by omega) ?_
      have hsa : (if s.cap = 0 then s.a else Option.map (fun x => Addr.add x (0 * 2)) s.a) = s.a := by
        rw [if_neg (by omega)]
        cases s.a with
        | none => rfl
        | some a => simp [Addr.add]
      rw [hsa, Int.toNat_natCast]
      exact ⟨rfl, reads_take hr (by omega), fun q => by have := hn q; subst this; simp⟩
    · have g : ¬ (s.len : Int) > n := of_decide_eq_false g
      have ht : L.take n = L := List.take_of_length_le (by omega)
      rw [ht]
      exact ⟨rfl, hr, hn⟩
theorem add_zero1 (a : Addr) : Addr.add a (0 * 1) = a := by simp [Addr.add]
theorem reads_takeB {n : Nat} (hr : Reads P s 1 (bs.map byV)) (hn : n ≤ bs.length) : Reads P ⟨s.a, n, s.cap⟩ 1 ((bs.take n).map byV) := fun B A hB u => by
  obtain ⟨h1, h2⟩ := hr B A hB u
  refine ⟨by simp; omega, fun j v hv => h2 j v ?_⟩
  have : bs.map byV = (bs.take n).map byV ++ (bs.drop n).map byV := by rw [← List.map_append, List.take_append_drop]
  rw [this, List.getElem?_append_left (List.getElem?_eq_some_iff.1 hv).1]
  exact hv
theorem Cut_spec {Q : Sl → AH → Prop} (h : Own l A) (e : l[k]? = some P) (hr : Reads P s 1 (bs.map byV)) (hcap : s.len ≤ s.cap) (hn : s.a = none → bs = [])
    (hk : ∀ s' A', (s'.a = none → bs.take 1400 = []) → Own (SlO s' 1 ((bs.take 1400).map byV) :: l) A' → Q s' A') : demesnelaw06_Cut_A s Q A := by
  have hl : s.len = bs.length := by have := rd_len h e hr; simp at this; omega
  unfold demesnelaw06_Cut_A
  refine ⟨fun s' h' => h' = A ∧ Reads P s' 1 ((bs.take 1400).map byV) ∧ (s'.a = none → bs.take 1400 = []), ?_, ?_⟩
  · intro s' A1 ⟨e1, hr', hn'⟩
    subst e1
    have hl' : s'.len = (bs.take 1400).length := by have := rd_len h e hr'; simp at this ⊢; omega
    refine new_C (cs := []) h fun b1 A2 h2 => ?_
    have h2 : Own (SlO ⟨some ⟨b1, 0, none⟩, 0, 0⟩ 1 [] :: l) A2 := h2.imp fun B _ => ⟨⟨by simp, Nat.le_refl _⟩, .inl rfl⟩
    have hlt : (bs.take 1400).length ≤ 1400 := by simp; omega
    refine ap_reads (i := k) h2 e hr' (fun g => by rw [hn' g]; rfl) (fun g => by cases g) rfl (fun v hv => ?_) ⟨by simp only [hl']; omega, by simp only [hl']; omega⟩ fun s3 A3 j1 j2 h3 => ?_
    · obtain ⟨x, _, rfl⟩ := List.mem_map.1 hv
      rfl
    · exact hk s3 A3 (fun g => by have := j2 g; simpa using this) (by simpa using h3)
  · refine bsel_in (fun g => ?_) fun g => ?_
    · have g : (s.len : Int) > 1400 := of_decide_eq_true g
      refine inB_in (by omega) (by omega) ?_
      have hsa : (if s.cap = 0 then s.a else Option.map (fun x => Addr.add x (0 * 1)) s.a) = s.a := by
        rw [if_neg (by omega)]
        cases s.a with
        | none => rfl
        | some a => simp [Addr.add]
      rw [hsa]
      exact ⟨rfl, reads_takeB hr (by omega), fun q => by have := hn q; subst this; simp⟩
    · have g : ¬ (s.len : Int) > 1400 := of_decide_eq_false g
      have ht : bs.take 1400 = bs := List.take_of_length_le (by omega)
      rw [ht]
      exact ⟨rfl, hr, hn⟩
end Go.Dn
