/- The document's ends of ranges. -/
import Derived.Test.YthplpkndhmhahaaAwake
namespace Go.Dn

variable {A : AH} {l R : List SP} {P P2 : SP} {k k2 : Nat} {s s2 : Sl} {L AW : List Rg} {es : List Int}
def ints (L : List Int) : List Value := L.map (Value.int .i64)
theorem ints_len (L : List Int) : (ints L).length = L.length := by simp [ints]
theorem ints_nil {L : List Int} (h : ints L = []) : L = [] := by simpa [ints] using h
theorem ints_app (a b : List Int) : ints (a ++ b) = ints a ++ ints b := by simp [ints]
theorem Own.lenI (h : Own (SlO s 1 (ints es) :: R) A) : s.len = es.length := by
  obtain ⟨B, _, hB⟩ := h.sat
  have := hB.1.1
  rw [ints_len] at this
  omega
theorem rd_i {v : Nat} {y : Int} (h : Own l A) (e : l[k]? = some P) (hr : Reads P s 1 (ints es)) (hv : es[v]? = some y) :
    ∃ a, s.a = some a ∧ ∀ K : Int → Prop, K y → aI .i64 (Addr.add a (Int.toNat (v : Int) * 1)) A K := by
  obtain ⟨bb, o, q1, c0⟩ := rd_cell h e hr (j := v) (v := .int .i64 y) (by simp [ints, hv])
  exact ⟨_, q1, fun K hK => ⟨_, by rw [add_at, Int.toNat_natCast, Nat.mul_one]; exact c0, hK⟩⟩
theorem push_i {t : TypeId} {x : Int} {K : Sl → AP} (h : Own (SlO s 1 (ints es) :: R) A) (hs : s.a = none → es = []) (hb : es.length ≤ 1000000)
    (hk : ∀ s' A', s'.a ≠ none → Own (SlO s' 1 (ints (es ++ [x])) :: R) A' → K s' A') :
    newA A (.cells #[.int .i64 x] t) fun b h2 => apA 1 8 #[.int .i64 0] t s (Sl.mk (some (Addr.mk b 0 none)) 1 1) h2 K := by
  have hl := h.lenI
  refine new_C (cs := [.int .i64 x]) h fun b A1 h1 => ?_
  refine ap_reads (i := 0) h1.swap rfl (reads_at (n := 1) (sz := 1) (cs := [.int .i64 x]) (rest := []) rfl) (fun g => nomatch g) (fun g => by rw [hs g]; rfl) rfl (fun v hv => ?_) ⟨by simp only [hl]; omega, by simp only [hl]; omega⟩ fun s' A2 j1 j2 h2 => ?_
  · simp at hv; rw [hv]; rfl
  · refine hk s' A2 (fun g => ?_) ?_
    · have := j2 g
      simp at this
    · rw [ints_app]
      exact Own.cons (fun C hC => hC.tail) h2
theorem EndsOf.congr {S S' : Int → Prop} (h : EndsOf S es) (hs : ∀ z, S z ↔ S' z) : EndsOf S' es := ⟨h.1, fun z => (h.2 z).trans (hs z)⟩
def endS (rs : List Rg) (z : Int) : Prop := ∃ r ∈ rs, z = r.1 ∨ z = r.2
theorem endS_push {rs : List Rg} {r : Rg} {z : Int} : endS (rs ++ [r]) z ↔ (endS rs z ∨ z = r.1) ∨ z = r.2 := by
  unfold endS
  constructor
  · rintro ⟨q, hq, h⟩
    rcases List.mem_append.1 hq with g | g
    · exact .inl (.inl ⟨q, g, h⟩)
    · rw [List.mem_singleton.1 g] at h
      rcases h with h | h
      · exact .inl (.inr h)
      · exact .inr h
  · rintro ((⟨q, hq, h⟩ | h) | h)
    · exact ⟨q, by simp [hq], h⟩
    · exact ⟨r, by simp, .inl h⟩
    · exact ⟨r, by simp, .inr h⟩
set_option maxHeartbeats 1000000 in
theorem Ends_spec {Q : Sl → AH → Prop} (h : Own l A) (e : l[k]? = some P) (hr : Reads P s 2 (rgs L)) (hb : L.length ≤ 200) (e2 : l[k2]? = some P2) (hr2 : Reads P2 s2 2 (rgs AW)) (hb2 : AW.length ≤ 200)
    (hk : ∀ es, EndsOf (endS (L ++ AW)) es → es.length ≤ 800 → ∀ s' A', s'.a ≠ none → Own (SlO s' 1 (ints es) :: l) A' → Q s' A') : demesneref06_Ends_A s s2 Q A := by
  unfold demesneref06_Ends_A
  refine new_C (cs := []) h fun b1 A1 h1 => ?_
  have h1 : Own (SlO ⟨some ⟨b1, 0, none⟩, 0, 0⟩ 1 (ints []) :: l) A1 := h1.imp fun B _ => ⟨⟨by simp [ints], Nat.le_refl _⟩, .inl rfl⟩
  refine new_C (cs := [.slice s.a s.len s.cap, .slice s2.a s2.len s2.cap]) h1 fun b3 A2 h2 => ?_
  have h2 := h2.swap
  obtain ⟨two, htwo⟩ : ∃ two : Nat → List Rg, two = fun i => if i = 0 then [] else if i = 1 then L else L ++ AW := ⟨_, rfl⟩
  refine ⟨fun o x m h' => ∃ (v : Nat) (es : List Int), x = v ∧ v ≤ 2 ∧ m + v = 2 ∧ EndsOf (endS (two v)) es ∧ es.length ≤ 2 * (two v).length ∧ o.a ≠ none ∧ Own (SlO o 1 (ints es) :: At b3 [.slice s.a s.len s.cap, .slice s2.a s2.len s2.cap] :: l) h',
    ⟨2, 0, [], rfl, by omega, rfl, ⟨List.Pairwise.nil, fun z => by subst htwo; simp [endS]⟩, by simp, fun g => (nomatch g), h2⟩, ?_⟩
  intro o x m A3 ⟨v, es, e3, e4, e5, hE, hlen, ho, h3⟩
  subst e3
  refine bsel_in (fun c => ?_) fun c => ?_
  · have c : (v : Int) < 2 := of_decide_eq_true c
    refine inB_in (by omega) (by omega) ?_
    rw [add_at, Int.toNat_natCast, Nat.mul_one, Nat.zero_add]
    obtain ⟨sv, cur, kc, Pc, hcell, ec, hrc, hbc, htw⟩ : ∃ (sv : Sl) (cur : List Rg) (kc : Nat) (Pc : SP), ([.slice s.a s.len s.cap, .slice s2.a s2.len s2.cap] : List Value)[v]? = some (.slice sv.a sv.len sv.cap) ∧ l[kc]? = some Pc ∧ Reads Pc sv 2 (rgs cur) ∧ cur.length ≤ 200 ∧ two (v + 1) = two v ++ cur := by
      subst htwo
      rcases Nat.lt_or_ge v 1 with g | g
      · obtain rfl : v = 0 := by omega
        exact ⟨s, L, k, P, rfl, e, hr, hb, by simp⟩
      · obtain rfl : v = 1 := by omega
        exact ⟨s2, AW, k2, P2, rfl, e2, hr2, hb2, by simp⟩
    refine ld_S (i := 1) h3 rfl hcell ?_
    have hlc := fun (A' : AH) (R0 : SP) (R1 : SP) (h' : Own (R0 :: R1 :: l) A') => rd_rg_len (k := kc + 2) h' (by simpa using ec) hrc
    have hlc3 := hlc _ _ _ h3
    have htl : (two v).length ≤ 200 := by
      subst htwo
      rcases Nat.lt_or_ge v 1 with g | g
      · obtain rfl : v = 0 := by omega
        simp
      · obtain rfl : v = 1 := by omega
        exact hb
    refine ⟨fun o2 x m' h' => ∃ (w : Nat) (es : List Int), x = w ∧ w ≤ cur.length ∧ m' + w = cur.length ∧ EndsOf (endS (two v ++ cur.take w)) es ∧ es.length ≤ 2 * (two v).length + 2 * w ∧ o2.a ≠ none ∧ Own (SlO o2 1 (ints es) :: At b3 [.slice s.a s.len s.cap, .slice s2.a s2.len s2.cap] :: l) h',
      ⟨cur.length, 0, es, rfl, by omega, by omega, by simpa using hE, by omega, ho, h3⟩, ?_⟩
    intro o2 x m' A4 ⟨w, es, e6, e7, e8, hE, hlen, ho, h4⟩
    subst e6
    refine bsel_in (fun c2 => ?_) fun c2 => ?_
    · have c2 : (w : Int) < sv.len := of_decide_eq_true c2
      obtain ⟨r, hrv⟩ : ∃ r, cur[w]? = some r := ⟨cur[w]'(by omega), by simp⟩
      obtain ⟨a, q1, r1, r2⟩ := rd_rg (k := kc + 2) h4 (by simpa using ec) hrc hrv
      dsimp only
      rw [q1]
      refine inB_in (by omega) c2 (r1 _ (r2 _ ?_))
      refine new_C (cs := [.int .i64 r.1, .int .i64 r.2]) h4 fun b21 A5 h5 => ?_
      have h5 := h5.swap
      obtain ⟨ste, hste⟩ : ∃ ste : Nat → Int → Prop, ste = fun i z => if i = 0 then endS (two v ++ cur.take w) z else if i = 1 then endS (two v ++ cur.take w) z ∨ z = r.1 else (endS (two v ++ cur.take w) z ∨ z = r.1) ∨ z = r.2 := ⟨_, rfl⟩
      refine ⟨fun o3 x m'' h' => ∃ (j : Nat) (es : List Int), x = j ∧ j ≤ 2 ∧ m'' + j = 2 ∧ EndsOf (ste j) es ∧ es.length ≤ 2 * (two v).length + 2 * w + j ∧ o3.a ≠ none ∧ Own (SlO o3 1 (ints es) :: At b21 [.int .i64 r.1, .int .i64 r.2] :: At b3 [.slice s.a s.len s.cap, .slice s2.a s2.len s2.cap] :: l) h',
        ⟨2, 0, es, rfl, by omega, rfl, by subst hste; exact hE, by omega, ho, h5⟩, ?_⟩
      intro o3 x m'' A6 ⟨j, es, e9, e10, e11, hE, hlen, ho, h6⟩
      subst e9
      have hl6 := h6.lenI
      refine bsel_in (fun c3 => ?_) fun c3 => ?_
      · have c3 : (j : Int) < 2 := of_decide_eq_true c3
        refine inB_in (by omega) (by omega) ?_
        rw [add_at, Int.toNat_natCast, Nat.mul_one, Nat.zero_add]
        obtain ⟨n, hn, hst⟩ : ∃ n : Int, ([.int .i64 r.1, .int .i64 r.2] : List Value)[j]? = some (.int .i64 n) ∧ ∀ z, ste (j + 1) z ↔ ste j z ∨ z = n := by
          subst hste
          rcases Nat.lt_or_ge j 1 with g | g
          · obtain rfl : j = 0 := by omega
            exact ⟨r.1, rfl, fun z => by simp⟩
          · obtain rfl : j = 1 := by omega
            exact ⟨r.2, rfl, fun z => by simp⟩
        refine ld_I (i := 1) h6 rfl hn ?_
        refine new_C (cs := []) h6 fun b30 A7 h7 => ?_
        have h7 : Own (SlO ⟨some ⟨b30, 0, none⟩, 0, 0⟩ 1 (ints []) :: SlO o3 1 (ints es) :: At b21 [.int .i64 r.1, .int .i64 r.2] :: At b3 [.slice s.a s.len s.cap, .slice s2.a s2.len s2.cap] :: l) A7 := h7.imp fun B _ => ⟨⟨by simp [ints], Nat.le_refl _⟩, .inl rfl⟩
        refine ⟨fun nx dn x mm h' => ∃ (u : Nat) (next : List Int), x = u ∧ u ≤ es.length ∧ mm + u = es.length ∧ InsI n (es.take u) next dn ∧ next.length ≤ u + 1 ∧ (nx.a ≠ none) ∧ Own (SlO nx 1 (ints next) :: SlO o3 1 (ints es) :: At b21 [.int .i64 r.1, .int .i64 r.2] :: At b3 [.slice s.a s.len s.cap, .slice s2.a s2.len s2.cap] :: l) h',
          ⟨es.length, 0, [], rfl, by omega, by omega, InsI.nil, by simp, fun g => (nomatch g), h7⟩, ?_⟩
        intro nx dn x mm A8 ⟨u, next, f1, f2, f3, hI, hnl, hnx, h8⟩
        subst f1
        refine bsel_in (fun c4 => ?_) fun c4 => ?_
        · have c4 : (u : Int) < o3.len := of_decide_eq_true c4
          obtain ⟨y, hy⟩ : ∃ y, es[u]? = some y := ⟨es[u]'(by omega), by simp⟩
          obtain ⟨a4, q4, t4⟩ := rd_i (k := 1) h8 rfl reads_slo hy
          rw [q4]
          refine inB_in (by omega) c4 (t4 _ ?_)
          have hpre : ∀ z ∈ es.take u, z < y := fun z hz => by
            obtain ⟨i, hi⟩ := List.mem_iff_getElem?.1 hz
            have hlt : i < u := by
              have := (List.getElem?_eq_some_iff.1 hi).1
              simp at this; omega
            rw [List.getElem?_take_of_lt hlt] at hi
            obtain ⟨hi1, hi2⟩ := List.getElem?_eq_some_iff.1 hi
            obtain ⟨hv1, hv2⟩ := List.getElem?_eq_some_iff.1 hy
            have := List.pairwise_iff_getElem.1 hE.1 i u hi1 hv1 hlt
            rw [hi2, hv2] at this
            exact this
          refine ⟨fun bb h' => h' = A8 ∧ ((y = n ∧ bb = true) ∨ (y ≠ n ∧ bb = dn)), ?_, ?_⟩
          · intro bb A9 ⟨g1, g2⟩
            subst g1
            refine ⟨fun s' b' h' => ∃ next', InsI n (es.take (u + 1)) (next' ++ [y]) b' ∧ next'.length ≤ u + 1 ∧ s'.a ≠ none ∧ Own (SlO s' 1 (ints next') :: SlO o3 1 (ints es) :: At b21 [.int .i64 r.1, .int .i64 r.2] :: At b3 [.slice s.a s.len s.cap, .slice s2.a s2.len s2.cap] :: l) h', ?_, ?_⟩
            · intro s' b' A10 ⟨next', i1, i2, i3, h10⟩
              refine push_i h10 (fun g => absurd g i3) (by omega) fun s'' A11 k1 h11 => ?_
              exact ⟨mm - 1, by omega, u + 1, next' ++ [y], by rw [w64] <;> omega, by omega, by omega, i1, by simp; omega, k1, h11⟩
            · rw [take_at hy]
              refine bsel_in (fun g => ?_) fun g => ?_
              · have g : bb = false := by simpa using g
                rcases g2 with ⟨_, g2⟩ | ⟨g2, g3⟩
                · rw [g] at g2; cases g2
                · rw [g] at g3
                  refine bsel_in (fun g4 => ?_) fun g4 => ?_
                  · have g4 : y > n := of_decide_eq_true g4
                    subst g3
                    have hnl2 : next.length ≤ u := by
                      have hsub : ∀ z ∈ next, z ∈ es.take u := fun z hz => by
                        rcases (hI.mem z).1 hz with q | ⟨q, _⟩
                        · exact q
                        · cases q
                      have hnd : next.Nodup := hI.srt.imp fun {a b} q => by omega
                      have := List.Nodup.length_le_of_subset hnd hsub
                      simp at this; omega
                    refine push_i h8 (fun q => absurd q hnx) (by omega) fun s' A10 k1 h10 => ?_
                    exact ⟨next ++ [n], hI.before hpre g4, by simp; omega, k1, h10⟩
                  · have g4 : ¬ y > n := of_decide_eq_false g4
                    subst g3
                    rw [g]
                    exact ⟨next, hI.pass hpre g2 (.inr g4), hnl, hnx, h8⟩
              · have g : bb = true := by simpa using g
                rw [g]
                rcases g2 with ⟨g2, _⟩ | ⟨g2, g3⟩
                · exact ⟨next, hI.same hpre g2, hnl, hnx, h8⟩
                · rw [g] at g3
                  subst g3
                  exact ⟨next, hI.pass hpre g2 (.inl rfl), hnl, hnx, h8⟩
          · refine bsel_in (fun g => ?_) fun g => ?_
            · exact ⟨rfl, .inl ⟨by simpa using g, rfl⟩⟩
            · exact ⟨rfl, .inr ⟨by simpa using g, rfl⟩⟩
        · have c4 : ¬ (u : Int) < o3.len := of_decide_eq_false c4
          have hu : u = es.length := by omega
          subst hu
          rw [List.take_length] at hI
          refine ⟨fun s' h' => ∃ es', EndsOf (ste (j + 1)) es' ∧ es'.length ≤ 2 * (two v).length + 2 * w + (j + 1) ∧ s'.a ≠ none ∧ Own (SlO s' 1 (ints es') :: SlO o3 1 (ints es) :: At b21 [.int .i64 r.1, .int .i64 r.2] :: At b3 [.slice s.a s.len s.cap, .slice s2.a s2.len s2.cap] :: l) h', ?_, ?_⟩
          · intro s' A9 ⟨es', i1, i2, i3, h9⟩
            exact ⟨m'' - 1, by omega, j + 1, es', by rw [w64] <;> omega, by omega, by omega, i1, by omega, i3, h9.cons fun C hC => hC.tail⟩
          · have hcong : ∀ z, (z ∈ es ∨ z = n) ↔ ste (j + 1) z := fun z => by rw [hst z, hE.2 z]
            refine bsel_in (fun g => ?_) fun g => ?_
            · have g : dn = false := by simpa using g
              subst g
              have hnl2 : next.length ≤ es.length := by
                have hsub : ∀ z ∈ next, z ∈ es := fun z hz => by
                  rcases (hI.mem z).1 hz with q | ⟨q, _⟩
                  · exact q
                  · cases q
                exact List.Nodup.length_le_of_subset (hI.srt.imp fun {a b} q => by omega) hsub
              refine push_i h8 (fun q => absurd q hnx) (by omega) fun s' A9 k1 h9 => ?_
              exact ⟨next ++ [n], hI.end0.congr hcong, by simp; omega, k1, h9⟩
            · have g : dn = true := by simpa using g
              subst g
              exact ⟨next, hI.end1.congr hcong, by omega, hnx, h8⟩
      · have c3 : ¬ (j : Int) < 2 := of_decide_eq_false c3
        have hj : j = 2 := by omega
        subst hj
        refine ⟨m' - 1, by omega, w + 1, es, by rw [w64] <;> omega, by omega, by omega, hE.congr fun z => ?_, by omega, ho, h6.cons fun C hC => hC.tail⟩
        subst hste
        rw [take_at hrv, ← List.append_assoc, endS_push]
        simp
    · have c2 : ¬ (w : Int) < sv.len := of_decide_eq_false c2
      have hw : w = cur.length := by omega
      subst hw
      rw [List.take_length] at hE
      refine ⟨m - 1, by omega, v + 1, es, by rw [w64] <;> omega, by omega, by omega, by rw [htw]; exact hE, ?_, ho, h4⟩
      rw [htw, List.length_append]
      omega
  · have c : ¬ (v : Int) < 2 := of_decide_eq_false c
    have hv : v = 2 := by omega
    subst hv
    subst htwo
    refine hk es (by simpa using hE) (by simp at hlen; omega) o A3 ho (h3.cons fun C hC => hC.tail)
end Go.Dn
