/- What is left has just the numbers that it should. -/
import Derived.Test.YthplpkndhmhahaaAwake
namespace Go.Dn

variable {A : AH} {l R : List SP} {P P2 : SP} {k k2 : Nat} {s s2 : Sl} {L AW : List Rg} {n : Int}
theorem someB_eq {L M : List Rg} (h : memR L n ↔ memR M n) : someB L n = someB M n := by
  rw [Bool.eq_iff_iff, someB_iff, someB_iff]; exact h
theorem BootmapJust_spec {Q : Bool → AH → Prop} (h : Own l A) (e : l[k]? = some P) (hr : Reads P s 2 (rgs L)) (hc : s.len ≤ s.cap) (hn : s.a = none → L = [])
    (e2 : l[k2]? = some P2) (hr2 : Reads P2 s2 2 (rgs AW)) (hc2 : s2.len ≤ s2.cap) (hn2 : s2.a = none → AW = []) (hk : ∀ A', Own l A' → Q true A') : demesnelaw06_BootmapJust_A s s2 n Q A := by
  unfold demesnelaw06_BootmapJust_A demesnelaw06_BootmapJust_G
  refine Few_spec (n := 30) h e hr hc hn (by omega) (by omega) fun s1 A1 hs1 h1 => ?_
  refine Few_spec (n := 30) (k := k2 + 1) h1 (by simpa using e2) hr2 hc2 hn2 (by omega) (by omega) fun s3 A2 hs3 h2 => ?_
  have hL : (L.take 30).length ≤ 30 := by simp; omega
  have hA : (AW.take 30).length ≤ 30 := by simp; omega
  generalize L.take 30 = L1 at *
  generalize AW.take 30 = A1' at *
  refine Less_spec (k := 1) (k2 := 0) h2 rfl reads_slo (by omega) hs1 rfl reads_slo (by omega) hs3 fun m hm hmm hml s5 A3 hs5 h3 => ?_
  have hl5 := h3.rgs_len
  refine ⟨fun x mm h' => ∃ v : Nat, x = v ∧ mm + v = m.length ∧ h' = A3, ⟨m.length, 0, rfl, rfl, rfl⟩, ?_⟩
  intro x mm A4 ⟨v, e3, e4, e5⟩
  subst e3 e5
  refine bsel_in (fun c => ?_) fun c => ?_
  · have c : (v : Int) < s5.len := of_decide_eq_true c
    obtain ⟨r, hrv⟩ : ∃ r, m[v]? = some r := ⟨m[v]'(by omega), by simp⟩
    obtain ⟨a, q1, r1, r2⟩ := rd_rg (k := 0) h3 rfl reads_slo hrv
    have hr12 := hm.1 r (List.mem_of_getElem? hrv)
    rw [q1]
    refine inB_in (by omega) c (r1 _ (r2 _ ?_))
    have nx : ∃ m9, m9 < mm ∧ ∃ v' : Nat, IntKind.wrap .i64 ((v : Int) + 1) = v' ∧ m9 + v' = m.length ∧ A4 = A4 := ⟨mm - 1, by omega, v + 1, by rw [w64] <;> omega, by omega, rfl⟩
    refine bsel_f (by simp; omega) ?_
    refine bsel_in (fun g => ?_) fun g => nx
    have g : (v : Int) > 0 := of_decide_eq_true g
    have hw : IntKind.wrap .i64 ((v : Int) - 1) = ((v - 1 : Nat) : Int) := by rw [w64] <;> omega
    rw [hw]
    obtain ⟨q, hq⟩ : ∃ q, m[v - 1]? = some q := ⟨m[v - 1]'(by omega), by simp⟩
    obtain ⟨a2, q2, t1, t2⟩ := rd_rg (k := 0) h3 rfl reads_slo hq
    rw [q1] at q2
    cases q2
    refine inB_in (by omega) (by omega) (t2 _ ?_)
    have hlt : q.2 < r.1 := by
      obtain ⟨i1, i2⟩ := List.getElem?_eq_some_iff.1 hq
      obtain ⟨j1, j2⟩ := List.getElem?_eq_some_iff.1 hrv
      have := List.pairwise_iff_getElem.1 hm.2 (v - 1) v i1 j1 (by omega)
      rw [i2, j2] at this
      exact this
    exact bsel_f (by simp; omega) nx
  · refine awake_spec h3 fun A5 h5 => bsel_t rfl ?_
    refine Some_spec (k := 0) h5 rfl reads_slo (by omega) ?_
    refine Some_spec (k := 2) h5 rfl reads_slo (by omega) ?_
    have fin : demesneref06_Some_A s1 n (fun b29 h30 => Q (b29 == b29) h30) A5 := Some_spec (k := 2) h5 rfl reads_slo (by omega) (by simpa using hk A5 h5.tail.tail.tail)
    have mrg : ∀ (Q' : Sl → AH → Prop), (∀ m2 : List Rg, someB m2 n = someB L1 n → ∀ s' A', m2.length ≤ 30 → Own (SlO s' 2 (rgs m2) :: SlO s5 2 (rgs m) :: SlO s3 2 (rgs A1') :: SlO s1 2 (rgs L1) :: l) A' → Q' s' A') → bootmap_Merge_A s1 Q' A5 := fun Q' hq =>
      Merge_spec (k := 2) h5 rfl reads_slo (by omega) hs1 fun m2 _ hmm2 hl2 s' A' _ h' => hq m2 (someB_eq (hmm2 n)) s' A' (by omega) h'
    refine bsel_in (fun g => ?_) fun g => ?_
    · refine Some_spec (k := 1) h5 rfl reads_slo (by omega) ?_
      refine bsel_t ?_ ?_
      · have : someB m n = !someB A1' n := by
          rw [Bool.eq_iff_iff, someB_iff, hmm n, Bool.not_eq_true', someB_false]
          exact ⟨fun q => q.2, fun q => ⟨someB_iff.1 g, q⟩⟩
        rw [this]; simp
      · refine mrg _ fun m2 hm2 s' A' hl2 h' => ?_
        refine Some_spec (k := 0) h' rfl reads_slo (by omega) ?_
        refine Some_spec (k := 3) h' rfl reads_slo (by omega) ?_
        rw [hm2]
        simpa using hk A' h'.tail.tail.tail.tail
    · refine bsel_t ?_ ?_
      · have : someB m n = false := by
          rw [someB_false, hmm n]
          exact fun q => someB_false.1 g q.1
        rw [this]; rfl
      · refine mrg _ fun m2 hm2 s' A' hl2 h' => ?_
        refine Some_spec (k := 0) h' rfl reads_slo (by omega) ?_
        refine Some_spec (k := 3) h' rfl reads_slo (by omega) ?_
        rw [hm2]
        simpa using hk A' h'.tail.tail.tail.tail
end Go.Dn
