/- The document's answer: what lies in ranges and in none of others. -/
import Derived.Test.YthplpkndhmhahaaEnds
namespace Go.Dn

variable {A : AH} {l R : List SP} {P P2 : SP} {k k2 : Nat} {s s2 : Sl} {L AW : List Rg} {es : List Int}
theorem rise_le {es : List Int} (h : es.Pairwise (· < ·)) {i j : Nat} {a b : Int} (hi : es[i]? = some a) (hj : es[j]? = some b) (hij : i ≤ j) : a ≤ b := by
  obtain ⟨i1, i2⟩ := List.getElem?_eq_some_iff.1 hi
  obtain ⟨j1, j2⟩ := List.getElem?_eq_some_iff.1 hj
  rcases Nat.lt_or_eq_of_le hij with g | g
  · have := List.pairwise_iff_getElem.1 h i j i1 j1 g
    rw [i2, j2] at this
    omega
  · subst g
    rw [hi] at hj
    cases hj
    exact Int.le_refl _
theorem gap_of {es : List Int} (h : es.Pairwise (· < ·)) {v : Nat} {e e' z : Int} (hv : es[v]? = some e) (hv' : es[v + 1]? = some e') (hz : z ∈ es) : z ≤ e ∨ e' ≤ z := by
  obtain ⟨i, hi⟩ := List.mem_iff_getElem?.1 hz
  rcases Nat.lt_or_ge v i with g | g
  · exact .inr (rise_le h hv' hi g)
  · exact .inl (rise_le h hi hv g)
set_option maxHeartbeats 1000000 in
theorem RefLess_spec {Q : Sl → AH → Prop} (h : Own l A) (e : l[k]? = some P) (hr : Reads P s 2 (rgs L)) (hb : L.length ≤ 200) (e2 : l[k2]? = some P2) (hr2 : Reads P2 s2 2 (rgs AW)) (hb2 : AW.length ≤ 200)
    (hk : ∀ m : List Rg, NF m → (∀ n, memR m n ↔ memR L n ∧ ¬ memR AW n) → m.length ≤ 800 → ∀ s' A', s'.a ≠ none → Own (SlO s' 2 (rgs m) :: l) A' → Q s' A') : demesneref06_Less_A s s2 Q A := by
  unfold demesneref06_Less_A demesneref06_Less_G
  refine new_C (cs := []) h fun b1 A1 h1 => ?_
  have h1 : Own (SlO ⟨some ⟨b1, 0, none⟩, 0, 0⟩ 2 (rgs []) :: l) A1 := h1.imp fun B _ => ⟨⟨by simp [rgs], Nat.le_refl _⟩, .inl rfl⟩
  refine Ends_spec (k := k + 1) (k2 := k2 + 1) h1 (by simpa using e) hr hb (by simpa using e2) hr2 hb2 fun es hE hel s3 A2 hs3 h2 => ?_
  have h2 := h2.swap
  have hend : ∀ r ∈ L ++ AW, r.1 ∈ es ∧ r.2 ∈ es := fun r hr' => ⟨(hE.2 _).2 ⟨r, hr', .inl rfl⟩, (hE.2 _).2 ⟨r, hr', .inr rfl⟩⟩
  refine ⟨fun o x m h' => ∃ (v : Nat) (out : List Rg), x = v ∧ m + v = es.length ∧ (∀ e0, es[v]? = some e0 → EnI L AW e0 out) ∧ (es = [] → out = []) ∧ (es ≠ [] → v < es.length) ∧ out.length ≤ v ∧ o.a ≠ none ∧ Own (SlO o 2 (rgs out) :: SlO s3 1 (ints es) :: l) h',
    ⟨es.length, 0, [], rfl, by omega, fun e0 he0 => EnI.start fun r hr' => ?_, fun _ => rfl, fun g => List.length_pos_iff.2 g, by simp, fun g => (nomatch g), h2⟩, ?_⟩
  · obtain ⟨i, hi⟩ := List.mem_iff_getElem?.1 (hend r (by simp [hr'])).1
    exact rise_le hE.1 he0 hi (Nat.zero_le _)
  intro o x m A3 ⟨v, out, e3, e4, hI, hnil, hlt, hol, ho, h3⟩
  subst e3
  have hl3 : s3.len = es.length := by have := rd_len (i := 1) h3 rfl reads_slo; rw [ints_len] at this; omega
  have hw : IntKind.wrap .i64 ((v : Int) + 1) = ((v + 1 : Nat) : Int) := by rw [w64] <;> omega
  rw [hw]
  refine bsel_in (fun c => ?_) fun c => ?_
  · have c : ((v + 1 : Nat) : Int) < s3.len := of_decide_eq_true c
    obtain ⟨e0, he0⟩ : ∃ e0, es[v]? = some e0 := ⟨es[v]'(by omega), by simp⟩
    obtain ⟨e1, he1⟩ : ∃ e1, es[v + 1]? = some e1 := ⟨es[v + 1]'(by omega), by simp⟩
    have hI := hI e0 he0
    have hlt01 : e0 < e1 := by
      obtain ⟨i1, i2⟩ := List.getElem?_eq_some_iff.1 he0
      obtain ⟨j1, j2⟩ := List.getElem?_eq_some_iff.1 he1
      have := List.pairwise_iff_getElem.1 hE.1 v (v + 1) i1 j1 (by omega)
      rw [i2, j2] at this
      exact this
    have gL : Gap L e0 e1 := fun r hr' => ⟨gap_of hE.1 he0 he1 (hend r (by simp [hr'])).1, gap_of hE.1 he0 he1 (hend r (by simp [hr'])).2⟩
    have gA : Gap AW e0 e1 := fun r hr' => ⟨gap_of hE.1 he0 he1 (hend r (by simp [hr'])).1, gap_of hE.1 he0 he1 (hend r (by simp [hr'])).2⟩
    refine ⟨fun o' h' => ∃ out', EnI L AW e1 out' ∧ out'.length ≤ v + 1 ∧ o'.a ≠ none ∧ Own (SlO o' 2 (rgs out') :: SlO s3 1 (ints es) :: l) h', ?_, ?_⟩
    · intro o' A4 ⟨out', f1, f2, f3, h4⟩
      exact ⟨m - 1, by omega, v + 1, out', rfl, by omega, fun e' he' => by rw [he1] at he'; cases he'; exact f1, fun g => by rw [g] at he0; simp at he0, fun _ => by omega, f2, f3, h4⟩
    · refine ⟨fun h' => h' = A3 ∧ memR L e0 ∧ ¬ memR AW e0, ?_, ?_⟩
      · intro A4 ⟨f1, f2, f3⟩
        subst f1
        have rdA := fun {A' : AH} {R0 : SP} (h' : Own (R0 :: SlO s3 1 (ints es) :: l) A') => rd_i (k := 1) h' rfl reads_slo he0
        have rdB := fun {A' : AH} {R0 : SP} (h' : Own (R0 :: SlO s3 1 (ints es) :: l) A') => rd_i (k := 1) h' rfl reads_slo he1
        have hlo := h3.rgs_len
        have push : (∀ q, out.getLast? = some q → q.2 ≠ e0) → ∀ (t : TypeId), newA A4 (.cells #[.int .i64 e0, .int .i64 e1] t) fun b h2 => apA 2 16 #[.int .i64 0, .int .i64 0] t o (Sl.mk (some (Addr.mk b 0 none)) 1 1) h2 fun s' h' => ∃ out', EnI L AW e1 out' ∧ out'.length ≤ v + 1 ∧ s'.a ≠ none ∧ Own (SlO s' 2 (rgs out') :: SlO s3 1 (ints es) :: l) h' := fun hq t => by
          refine push_rg h3 (fun g => absurd g ho) (by omega) fun s' A5 j1 h5 => ?_
          exact ⟨out ++ [(e0, e1)], hI.new gL gA hlt01 f2 f3 hq, by simp; omega, fun g => by have := j1 g; simp at this, h5⟩
        obtain ⟨a, q1, r1⟩ := rdA h3
        obtain ⟨a', q1', r1'⟩ := rdB h3
        rw [q1] at q1'
        cases q1'
        have hb0 : ∀ K : Prop, K → inB (v : Int) s3.len K := fun K hK => inB_in (by omega) (by omega) hK
        have hb1 : ∀ K : Prop, K → inB ((v + 1 : Nat) : Int) s3.len K := fun K hK => inB_in (by omega) (by omega) hK
        rw [q1]
        refine bsel_in (fun g => ?_) fun g => ?_
        · have g : (0 : Int) < o.len := by simpa using g
          have hpos : 0 < out.length := by omega
          obtain ⟨q, hq⟩ : ∃ q, out.getLast? = some q := by
            cases e' : out.getLast? with
            | none => rw [List.getLast?_eq_none_iff.1 e'] at hpos; simp at hpos
            | some q => exact ⟨q, rfl⟩
          obtain ⟨ol, hol'⟩ := List.getLast?_eq_some_iff.1 hq
          have hqi : out[out.length - 1]? = some q := by rw [hol']; simp
          have hw2 : IntKind.wrap .i64 (Int.ofNat o.len - 1) = ((out.length - 1 : Nat) : Int) := by
            rw [w64] <;> simp only [Int.ofNat_eq_natCast] <;> omega
          rw [hw2]
          obtain ⟨a2, q2, t1, t2⟩ := rd_rg (k := 0) h3 rfl reads_slo hqi
          rw [q2]
          refine inB_in (by omega) (by omega) (t2 _ (hb0 _ (r1 _ ?_)))
          refine bsel_in (fun g2 => ?_) fun g2 => ?_
          · have g2 : q.2 = e0 := by simpa using g2
            refine hb1 _ (r1' _ ?_)
            refine inB_in (by omega) (by omega) ?_
            have had : Addr.add (Addr.add a2 (Int.toNat ((out.length - 1 : Nat) : Int) * 2)) 1 = Addr.add a2 ((out.length - 1) * 2 + 1) := by
              obtain ⟨b, rest, ha, _⟩ := h3.openS (fun g => by have := rgs_nil g; rw [this] at hpos; simp at hpos)
              rw [q2] at ha
              cases ha
              rw [add_at, add_at, add_at, Int.toNat_natCast]
              congr 1
            rw [had]
            refine st_slo h3 q2 (by rw [rgs_len]; omega) rfl fun A6 h6 => ?_
            rw [rgs_set _ hqi] at h6
            have hset : out.set (out.length - 1) (q.1, e1) = ol ++ [(q.1, e1)] := by
              rw [hol']
              simp [List.set_append_right]
            rw [hset] at h6
            refine ⟨ol ++ [(q.1, e1)], ?_, ?_, ho, h6⟩
            · rw [hol'] at hI
              exact hI.more gL gA hlt01 f2 f3 g2
            · rw [hol'] at hol
              simpa using Nat.le_succ_of_le hol
          · have g2 : q.2 ≠ e0 := by simpa using g2
            refine hb0 _ (hb1 _ (r1 _ (r1' _ ?_)))
            exact push (fun q' hq' => by rw [hq] at hq'; cases hq'; exact g2) _
        · have g : ¬ (0 : Int) < o.len := by simpa using g
          have h0 : out = [] := List.length_eq_zero_iff.1 (by omega)
          refine hb0 _ (hb1 _ (r1 _ (r1' _ ?_)))
          exact push (fun q' hq' => by rw [h0] at hq'; cases hq') _
      · obtain ⟨a, q1, r1⟩ := rd_i (k := 1) h3 rfl reads_slo he0
        rw [q1]
        refine inB_in (by omega) (by omega) (r1 _ ?_)
        refine Some_spec (k := k + 2) h3 (by simpa using e) hr (by omega) ?_
        refine bsel_in (fun g => ?_) fun g => ?_
        · have g : someB L e0 = false := by simpa using g
          exact ⟨out, hI.skip gL gA hlt01 (.inl (someB_false.1 g)), by omega, ho, h3⟩
        · have g : someB L e0 = true := by simpa using g
          refine inB_in (by omega) (by omega) (r1 _ ?_)
          refine Some_spec (k := k2 + 2) h3 (by simpa using e2) hr2 (by omega) ?_
          refine bsel_in (fun g2 => ?_) fun g2 => ?_
          · exact ⟨out, hI.skip gL gA hlt01 (.inr (someB_iff.1 g2)), by omega, ho, h3⟩
          · exact ⟨rfl, someB_iff.1 g, someB_false.1 g2⟩
  · have c : ¬ ((v + 1 : Nat) : Int) < s3.len := of_decide_eq_false c
    have hdone : NF out ∧ ∀ n, memR out n ↔ memR L n ∧ ¬ memR AW n := by
      by_cases hes : es = []
      · rw [hnil hes]
        have hL0 : L = [] := by
          cases L with
          | nil => rfl
          | cons r L => have := (hend r (by simp)).1; rw [hes] at this; cases this
        subst hL0
        exact ⟨NF.nil, fun n => ⟨fun g => absurd g (memR_nil n), fun g => absurd g.1 (memR_nil n)⟩⟩
      · have hvl := hlt hes
        obtain ⟨e0, he0⟩ : ∃ e0, es[v]? = some e0 := ⟨es[v], by simp⟩
        have hI := hI e0 he0
        refine ⟨hI.nf, hI.fin fun r hr' => ?_⟩
        obtain ⟨i, hi⟩ := List.mem_iff_getElem?.1 (hend r (by simp [hr'])).2
        have := (List.getElem?_eq_some_iff.1 hi).1
        exact rise_le hE.1 hi he0 (by omega)
    exact hk out hdone.1 hdone.2 (by omega) o A3 ho (h3.cons fun C hC => hC.tail)
end Go.Dn
