/- What the proof stands on: Ref09, Cnt09. -/
import Derived.Test.YtcdcmffcajlolaaLawBack
/- The document's answer for tables: a list of pages, in order. -/
namespace Go.Dn

variable {A : AH} {l R : List SP} {P : SP} {k : Nat} {s : Sl}
structure LvZ where
  page : Int
  l : Lf
def lvCell (y : LvZ) : List Value := [.int .i64 y.page, .int .i64 y.l.frame, .bool y.l.w, .bool y.l.u, .bool y.l.x]
def lvCells (L : List LvZ) : List Value := L.flatMap lvCell
theorem lvCells_len : ∀ L : List LvZ, (lvCells L).length = L.length * 5
  | [] => rfl
  | y :: L => by
    have := lvCells_len L
    unfold lvCells at this ⊢
    rw [List.flatMap_cons, List.length_append, this]; simp [lvCell]; omega
theorem lvCells_app (a c : List LvZ) : lvCells (a ++ c) = lvCells a ++ lvCells c := List.flatMap_append
theorem lvCells_at : ∀ {L : List LvZ} {v : Nat} {y : LvZ} {c : Nat} {x : Value}, L[v]? = some y → (lvCell y)[c]? = some x → (lvCells L)[v * 5 + c]? = some x
  | [], v, a, c, x, h, _ => by simp at h
  | b :: r, 0, a, c, x, h, hc => by
    simp at h; subst h
    have hlt : c < 5 := (List.getElem?_eq_some_iff.1 hc).1
    unfold lvCells
    rw [List.flatMap_cons, List.getElem?_append_left (by simp [lvCell]; omega), Nat.zero_mul, Nat.zero_add]
    exact hc
  | b :: r, v + 1, a, c, x, h, hc => by
    have h : r[v]? = some a := by simpa using h
    unfold lvCells
    rw [List.flatMap_cons, List.getElem?_append_right (by simp [lvCell]; omega)]
    have : (v + 1) * 5 + c - (lvCell b).length = v * 5 + c := by simp [lvCell]; omega
    rw [this]
    exact lvCells_at h hc
theorem rd_lv_len {L : List LvZ} (h : Own l A) (e : l[k]? = some P) (hr : Reads P s 5 (lvCells L)) : s.len = L.length := by
  have := rd_len h e hr
  rw [lvCells_len] at this
  omega
/-- A leaf of a list that a slice holds. -/
theorem ld_lv {L : List LvZ} {v : Nat} {y : LvZ} {K : Int → Int → Bool → Bool → Bool → Prop} (h : Own l A) (e : l[k]? = some P) (hr : Reads P s 5 (lvCells L)) (hv : L[v]? = some y) (hk : K y.page y.l.frame y.l.w y.l.u y.l.x) :
    onSome s.a fun a => inB (v : Int) s.len (aI .i64 (Addr.add a (Int.toNat (v : Int) * 5)) A fun n12 => aI .i64 (Addr.add (Addr.add a (Int.toNat (v : Int) * 5)) 1) A fun n13 => aB (Addr.add (Addr.add a (Int.toNat (v : Int) * 5)) 2) A fun b14 =>
      aB (Addr.add (Addr.add a (Int.toNat (v : Int) * 5)) 3) A fun b15 => aB (Addr.add (Addr.add a (Int.toNat (v : Int) * 5)) 4) A fun b16 => K n12 n13 b14 b15 b16) := by
  have hl := rd_lv_len h e hr
  have hlt := (List.getElem?_eq_some_iff.1 hv).1
  have rd := fun c x hx => rd_cell h e hr (j := v * 5 + c) (v := x) (lvCells_at hv (c := c) hx)
  obtain ⟨bb, o, q1, c0⟩ := rd 0 _ rfl
  have same : ∀ {c : Nat} {x : Value}, (lvCell y)[c]? = some x → cellA A ⟨bb, o + (v * 5 + c), none⟩ = some x := fun {c x} hx => by
    obtain ⟨b2, o2, q2, c2⟩ := rd c x hx
    rw [q1] at q2
    cases q2
    exact c2
  have ad : ∀ c, Addr.add (Addr.add ⟨bb, o, none⟩ (Int.toNat (v : Int) * 5)) c = ⟨bb, o + (v * 5 + c), none⟩ := fun c => by
    rw [add_at, add_at, Int.toNat_natCast, Nat.add_assoc]
  rw [q1]
  refine inB_in (by omega) (by omega) ⟨y.page, by rw [add_at, Int.toNat_natCast]; exact c0, ⟨y.l.frame, by rw [ad]; exact same rfl, ⟨y.l.w, by rw [ad]; exact same rfl, ⟨y.l.u, by rw [ad]; exact same rfl, ⟨y.l.x, by rw [ad]; exact same rfl, hk⟩⟩⟩⟩⟩
def findL : List LvZ → Int → Option Lf
  | [], _ => none
  | y :: r, p => if y.page = p then some y.l else findL r p
def withL : List LvZ → LvZ → List LvZ
  | [], x => [x]
  | y :: r, x => if y.page > x.page then x :: y :: r else y :: withL r x
def withoutL : List LvZ → Int → List LvZ
  | [], _ => []
  | y :: r, p => if y.page = p then withoutL r p else y :: withoutL r p
def pagesL (L : List LvZ) : List Int := L.map (·.page)
def dif (d : Int) (prev : Option Int) (p : Int) : Int := match prev with | none => 1 | some q => if q / d = p / d then 0 else 1
def tz : Option Int → List Int → Int
  | _, [] => 0
  | prev, p :: r => dif 512 prev p + dif 262144 prev p + dif 134217728 prev p + tz (some p) r
theorem drop_at {α : Type} {L : List α} {v : Nat} {y : α} (h : L[v]? = some y) : L.drop v = y :: L.drop (v + 1) := by
  obtain ⟨hv, e⟩ := List.getElem?_eq_some_iff.1 h
  rw [List.drop_eq_getElem_cons hv, e]
theorem Find_spec {L : List LvZ} {p : Int} {Q : Int → Int → Bool → Bool → Bool → Bool → AH → Prop} (h : Own l A) (e : l[k]? = some P) (hr : Reads P s 5 (lvCells L)) (hb : L.length ≤ 1000000)
    (h0 : findL L p = none → Q 0 0 false false false false A) (h1 : ∀ x, findL L p = some x → Q p x.frame x.w x.u x.x true A) : demesneref09_Find_A s p Q A := by
  have hl := rd_lv_len h e hr
  unfold demesneref09_Find_A
  refine ⟨fun x _ _ _ _ _ m h' => ∃ v : Nat, x = v ∧ m + v = L.length ∧ h' = A ∧ findL L p = findL (L.drop v) p, ⟨L.length, 0, rfl, rfl, rfl, by rw [List.drop_zero]⟩, ?_⟩
  intro x c6 c7 c8 c9 c10 m A1 ⟨v, e1, e2, e3, e4⟩
  subst e1 e3
  refine bsel_in (fun c => ?_) fun c => ?_
  · have c : (v : Int) < Int.ofNat s.len := of_decide_eq_true c
    have c : (v : Int) < s.len := c
    have hv : L[v]? = some (L[v]'(by omega)) := by simp
    have hd := drop_at hv
    refine ld_lv h e hr hv (bsel_in (fun g => ?_) fun g => ?_)
    · have g : (L[v]'(by omega)).page = p := by simpa using g
      rw [g]
      exact h1 _ (by rw [e4, hd, findL, if_pos g])
    · have g : ¬(L[v]'(by omega)).page = p := by simpa using g
      exact ⟨m - 1, by omega, v + 1, by rw [w64] <;> omega, by omega, rfl, by rw [e4, hd, findL, if_neg g]⟩
  · have c : ¬(v : Int) < Int.ofNat s.len := of_decide_eq_false c
    have c : ¬(v : Int) < s.len := c
    refine h0 ?_
    rw [e4, List.drop_eq_nil_of_le (by omega)]; rfl
/-- A leaf more at a list's end. -/
theorem app_lv {L : List LvZ} {y : LvZ} {ty : TypeId} {K : Sl → AP} (h : Own (SlO s 5 (lvCells L) :: R) A) (hn : s.a = none → L = []) (hb : L.length ≤ 1000000) (hk : ∀ s' A', s'.a ≠ none → Own (SlO s' 5 (lvCells (L ++ [y])) :: R) A' → K s' A') :
    newA A (.cells #[.int .i64 y.page, .int .i64 y.l.frame, .bool y.l.w, .bool y.l.u, .bool y.l.x] ty) fun b h2 => apA 5 24 #[.int .i64 0, .int .i64 0, .bool false, .bool false, .bool false] ty s (Sl.mk (some (Addr.mk b 0 none)) 1 1) h2 K := by
  have hl : s.len = L.length := by
    obtain ⟨B, _, hB⟩ := h.sat
    have := hB.1.1
    rw [lvCells_len] at this; omega
  refine new_C (cs := lvCell y) h fun b A1 h1 => ?_
  have h1 : Own (SlAt ⟨some ⟨b, 0, none⟩, 1, 1⟩ 5 (lvCells [y]) :: SlO s 5 (lvCells L) :: R) A1 := h1.imp fun B hB => (at_slo (k := 1) (sz := 5) rfl (by simpa [lvCells] using hB)).look
  refine ap_head (i := 0) h1.swap rfl (fun q => by cases q) (fun q => by rw [hn q]; rfl) rfl (fun x hx => ?_) ⟨by simp only [hl]; omega, by simp only [hl]; omega⟩ fun s' A2 j1 j2 h2 => hk s' A2 (fun q => ?_) ?_
  · simp [lvCells, lvCell] at hx
    rcases hx with rfl | rfl | rfl | rfl | rfl <;> rfl
  · have := j2 q; simp [lvCells, lvCell] at this
  · rw [← lvCells_app] at h2
    exact h2.sub (List.Sublist.cons_cons _ (List.sublist_cons_self _ _))
theorem slo_empty {sz b : Nat} {B : AH} : SlO ⟨some ⟨b, 0, none⟩, 0, 0⟩ sz [] B := ⟨⟨by simp, Nat.le_refl _⟩, .inl rfl⟩
theorem With_spec {L : List LvZ} {y : LvZ} {Q : Sl → AH → Prop} (h : Own l A) (e : l[k]? = some P) (hr : Reads P s 5 (lvCells L)) (hb : L.length ≤ 100000)
    (hk : ∀ s' A', s'.a ≠ none → Own (SlO s' 5 (lvCells (withL L y)) :: l) A' → Q s' A') : demesneref09_With_A s y.page y.l.frame y.l.w y.l.u y.l.x Q A := by
  have hl := rd_lv_len h e hr
  unfold demesneref09_With_A
  refine new_C (cs := []) h fun b1 A1 h1 => ?_
  have h1 : Own (SlO ⟨some ⟨b1, 0, none⟩, 0, 0⟩ 5 (lvCells []) :: l) A1 := h1.imp fun B _ => slo_empty
  refine ⟨fun so dn x m h' => ∃ (v : Nat) (out : List LvZ), x = v ∧ m + v = L.length ∧ so.a ≠ none ∧ out.length ≤ v + 1 ∧ withL L y = out ++ (if dn then L.drop v else withL (L.drop v) y) ∧ Own (SlO so 5 (lvCells out) :: l) h',
    ⟨L.length, 0, [], rfl, rfl, by simp, by simp, by simp, h1⟩, ?_⟩
  intro so dn x m A2 ⟨v, out, e1, e2, e3, e4, e5, h2⟩
  subst e1
  have rd : ∀ {A : AH} {so : Sl} {out : List LvZ}, Own (SlO so 5 (lvCells out) :: l) A → Own (SlO so 5 (lvCells out) :: l) A ∧ (SlO so 5 (lvCells out) :: l)[k + 1]? = some P := fun h => ⟨h, by simpa using e⟩
  refine bsel_in (fun c => ?_) fun c => ?_
  · have c : (v : Int) < Int.ofNat s.len := of_decide_eq_true c
    have c : (v : Int) < s.len := c
    have hv : L[v]? = some (L[v]'(by omega)) := by simp
    generalize hz : L[v]'(by omega) = z at hv
    have hd := drop_at hv
    refine ld_lv (rd h2).1 (rd h2).2 hr hv ?_
    refine ⟨fun so' dn' h' => ∃ out' : List LvZ, so'.a ≠ none ∧ out'.length ≤ v + 1 ∧ withL L y = out' ++ z :: (if dn' then L.drop (v + 1) else withL (L.drop (v + 1)) y) ∧ Own (SlO so' 5 (lvCells out') :: l) h', ?_, ?_⟩
    · intro so' dn' A3 ⟨out', g1, g2, g3, h3⟩
      refine app_lv h3 (fun q => absurd q g1) (by omega) fun s26 A4 g4 h4 => ⟨m - 1, by omega, v + 1, out' ++ [z], by rw [w64] <;> omega, by omega, g4, by simp; omega, by rw [g3]; simp, h4⟩
    · refine bsel_in (fun d => ?_) fun d => ?_
      · have d : dn = false := by simpa using d
        subst d
        rw [hd, if_neg (by simp)] at e5
        refine bsel_in (fun g => ?_) fun g => ?_
        · have g : z.page > y.page := of_decide_eq_true g
          have hle : out.length ≤ v := by
            have h7 := congrArg List.length e5
            have hw : ∀ L : List LvZ, (withL L y).length = L.length + 1 := by
              intro L
              induction L with
              | nil => rfl
              | cons a r ih => unfold withL; split <;> simp [ih]
            rw [hw, List.length_append, hw] at h7
            simp at h7
            omega
          refine app_lv h2 (fun q => absurd q e3) (by omega) fun s19 A3 g4 h3 => ⟨out ++ [y], g4, by simp; omega, ?_, h3⟩
          rw [e5]
          simp only [withL, if_pos g, if_true]
          simp
        · have g : ¬z.page > y.page := of_decide_eq_false g
          refine ⟨out, e3, e4, ?_, h2⟩
          rw [e5]
          simp only [withL, if_neg g]
          simp
      · have d : dn = true := by simpa using d
        subst d
        refine ⟨out, e3, e4, ?_, h2⟩
        rw [e5, hd]
        simp
  · have c : ¬(v : Int) < Int.ofNat s.len := of_decide_eq_false c
    have c : ¬(v : Int) < s.len := c
    have hd : L.drop v = [] := List.drop_eq_nil_of_le (by omega)
    rw [hd] at e5
    refine ⟨fun so' h' => so'.a ≠ none ∧ Own (SlO so' 5 (lvCells (withL L y)) :: l) h', fun so' A3 g => hk so' A3 g.1 g.2, bsel_in (fun d => ?_) fun d => ?_⟩
    · have d : dn = false := by simpa using d
      subst d
      refine app_lv h2 (fun q => absurd q e3) (by omega) fun s31 A3 g4 h3 => ⟨g4, ?_⟩
      rw [e5]
      simpa [withL] using h3
    · have d : dn = true := by simpa using d
      subst d
      refine ⟨e3, ?_⟩
      rw [e5]
      simpa using h2
theorem Without_spec {L : List LvZ} {p : Int} {Q : Sl → AH → Prop} (h : Own l A) (e : l[k]? = some P) (hr : Reads P s 5 (lvCells L)) (hb : L.length ≤ 100000)
    (hk : ∀ s' A', s'.a ≠ none → Own (SlO s' 5 (lvCells (withoutL L p)) :: l) A' → Q s' A') : demesneref09_Without_A s p Q A := by
  have hl := rd_lv_len h e hr
  unfold demesneref09_Without_A
  refine new_C (cs := []) h fun b1 A1 h1 => ?_
  have h1 : Own (SlO ⟨some ⟨b1, 0, none⟩, 0, 0⟩ 5 (lvCells []) :: l) A1 := h1.imp fun B _ => slo_empty
  refine ⟨fun so x m h' => ∃ (v : Nat) (out : List LvZ), x = v ∧ m + v = L.length ∧ so.a ≠ none ∧ out.length ≤ v ∧ withoutL L p = out ++ withoutL (L.drop v) p ∧ Own (SlO so 5 (lvCells out) :: l) h',
    ⟨L.length, 0, [], rfl, rfl, by simp, by simp, by simp, h1⟩, ?_⟩
  intro so x m A2 ⟨v, out, e1, e2, e3, e4, e5, h2⟩
  subst e1
  refine bsel_in (fun c => ?_) fun c => ?_
  · have c : (v : Int) < Int.ofNat s.len := of_decide_eq_true c
    have c : (v : Int) < s.len := c
    have hv : L[v]? = some (L[v]'(by omega)) := by simp
    generalize hz : L[v]'(by omega) = z at hv
    have hd := drop_at hv
    refine ⟨fun so' h' => ∃ out' : List LvZ, so'.a ≠ none ∧ out'.length ≤ v + 1 ∧ withoutL L p = out' ++ withoutL (L.drop (v + 1)) p ∧ Own (SlO so' 5 (lvCells out') :: l) h', fun so' A3 ⟨out', g1, g2, g3, h3⟩ => ⟨m - 1, by omega, v + 1, out', by rw [w64] <;> omega, by omega, g1, g2, g3, h3⟩, ?_⟩
    refine ld_lv h2 (k := k + 1) (by simpa using e) hr hv ?_
    rw [hd] at e5
    refine bsel_in (fun g => ?_) fun g => ?_
    · have g : ¬z.page = p := by simpa using g
      refine app_lv h2 (fun q => absurd q e3) (by omega) fun s18 A3 g4 h3 => ⟨out ++ [z], g4, by simp; omega, ?_, h3⟩
      rw [e5, withoutL, if_neg g]; simp
    · have g : z.page = p := by simpa using g
      exact ⟨out, e3, by omega, by rw [e5, withoutL, if_pos g], h2⟩
  · have c : ¬(v : Int) < Int.ofNat s.len := of_decide_eq_false c
    have c : ¬(v : Int) < s.len := c
    rw [List.drop_eq_nil_of_le (by omega)] at e5
    refine hk so A2 e3 ?_
    rw [e5]
    simpa [withoutL] using h2
/-- A number more at a list's end. -/
theorem app_int {ps : List Int} {p : Int} {ty : TypeId} {K : Sl → AP} (h : Own (SlO s 1 (intsV ps) :: R) A) (hn : s.a = none → ps = []) (hb : ps.length ≤ 1000000) (hk : ∀ s' A', s'.a ≠ none → Own (SlO s' 1 (intsV (ps ++ [p])) :: R) A' → K s' A') :
    newA A (.cells #[.int .i64 p] ty) fun b h2 => apA 1 8 #[.int .i64 0] ty s (Sl.mk (some (Addr.mk b 0 none)) 1 1) h2 K := by
  have hl : s.len = ps.length := by
    obtain ⟨B, _, hB⟩ := h.sat
    have := hB.1.1
    simp only [intsV, List.length_map] at this; omega
  refine new_C (cs := intsV [p]) h fun b A1 h1 => ?_
  have h1 : Own (SlAt ⟨some ⟨b, 0, none⟩, 1, 1⟩ 1 (intsV [p]) :: SlO s 1 (intsV ps) :: R) A1 := h1.imp fun B hB => (at_slo (k := 1) (sz := 1) rfl hB).look
  refine ap_head (i := 0) h1.swap rfl (fun q => by cases q) (fun q => by rw [hn q]; rfl) rfl (fun x hx => ?_) ⟨by simp only [hl]; omega, by simp only [hl]; omega⟩ fun s' A2 j1 j2 h2 => hk s' A2 (fun q => ?_) ?_
  · simp [intsV] at hx; subst hx; rfl
  · have := j2 q; simp [intsV] at this
  · rw [← intsV_app] at h2
    exact h2.sub (List.Sublist.cons_cons _ (List.sublist_cons_self _ _))
theorem Numbers_spec {L : List LvZ} {Q : Sl → AH → Prop} (h : Own l A) (e : l[k]? = some P) (hr : Reads P s 5 (lvCells L)) (hb : L.length ≤ 100000)
    (hk : ∀ s' A', s'.a ≠ none → Own (SlO s' 1 (intsV (pagesL L)) :: l) A' → Q s' A') : demesneref09_Numbers_A s Q A := by
  have hl := rd_lv_len h e hr
  unfold demesneref09_Numbers_A
  refine new_C (cs := []) h fun b1 A1 h1 => ?_
  have h1 : Own (SlO ⟨some ⟨b1, 0, none⟩, 0, 0⟩ 1 (intsV []) :: l) A1 := h1.imp fun B _ => slo_empty
  refine ⟨fun so x m h' => ∃ v : Nat, x = v ∧ m + v = L.length ∧ so.a ≠ none ∧ Own (SlO so 1 (intsV (pagesL (L.take v))) :: l) h', ⟨L.length, 0, rfl, rfl, by simp, by simpa [pagesL] using h1⟩, ?_⟩
  intro so x m A2 ⟨v, e1, e2, e3, h2⟩
  subst e1
  refine bsel_in (fun c => ?_) fun c => ?_
  · have c : (v : Int) < Int.ofNat s.len := of_decide_eq_true c
    have c : (v : Int) < s.len := c
    have hv : L[v]? = some (L[v]'(by omega)) := by simp
    refine ld_lv h2 (k := k + 1) (by simpa using e) hr hv ?_
    refine app_int h2 (fun q => absurd q e3) (by simp [pagesL]; omega) fun s17 A3 g4 h3 => ⟨m - 1, by omega, v + 1, by rw [w64] <;> omega, by omega, g4, ?_⟩
    have : pagesL (L.take (v + 1)) = pagesL (L.take v) ++ [(L[v]'(by omega)).page] := by
      unfold pagesL
      rw [List.take_add_one, hv, List.map_append]; rfl
    rw [this]; exact h3
  · have c : ¬(v : Int) < Int.ofNat s.len := of_decide_eq_false c
    have c : ¬(v : Int) < s.len := c
    rw [List.take_of_length_le (by omega)] at h2
    exact hk so A2 e3 h2
end Go.Dn
/- How many tables pages need; that it is what tables at rest are. -/
namespace Go.Dn

variable {A : AH} {l R : List SP} {P : SP} {k : Nat} {s : Sl} {W : Int → Int → Int} {G : Int → Prop} {root : Int} {tab : Tab} {lf : Int → Option Lf} {tl : List Int}
theorem dif_01 (d : Int) (prev : Option Int) (p : Int) : dif d prev p = 0 ∨ dif d prev p = 1 := by
  unfold dif
  split
  · exact .inr rfl
  · split
    · exact .inl rfl
    · exact .inr rfl
theorem tz_pos : ∀ (prev : Option Int) (ps : List Int), 0 ≤ tz prev ps ∧ tz prev ps ≤ 3 * ps.length
  | _, [] => by simp [tz]
  | prev, p :: r => by
    obtain ⟨h1, h2⟩ := tz_pos (some p) r
    have a := dif_01 512 prev p
    have b := dif_01 262144 prev p
    have c := dif_01 134217728 prev p
    simp only [tz, List.length_cons]
    omega
def prevOf (ps : List Int) (v : Nat) : Option Int := if v = 0 then none else ps[v - 1]?
def divs : List Int := [9, 18, 27]
set_option maxRecDepth 100000 in
set_option maxHeartbeats 1000000 in
theorem Tables_spec {ps : List Int} {Q : Int → AH → Prop} (h : Own l A) (e : l[k]? = some P) (hr : Reads P s 1 (intsV ps)) (hb : ps.length ≤ 1000000)
    (hk : ∀ A', Own l A' → Q (1 + tz none ps) A') : demesneref09_Tables_A s Q A := by
  have hl : s.len = ps.length := by have := rd_len h e hr; simp only [intsV, List.length_map] at this; omega
  have rd : ∀ {l' : List SP} {k' : Nat} {A' : AH} {v : Nat} {x : Int}, Own l' A' → l'[k']? = some P → ps[v]? = some x → ∃ a, s.a = some a ∧ ∀ K : Int → Prop, K x → aI .i64 (Addr.add a (Int.toNat (v : Int) * 1)) A' K := fun {l' k' A' v x} h' e' hx => by
    obtain ⟨bb, o, q1, q2⟩ := rd_cell h' e' hr (j := v) (v := .int .i64 x) (by simp [intsV, hx])
    exact ⟨_, q1, fun K hK => ⟨x, by rw [add_at, show Int.toNat (v : Int) * 1 = v by omega]; exact q2, hK⟩⟩
  unfold demesneref09_Tables_A
  refine ⟨fun x5 x6 m h' => ∃ v : Nat, x6 = v ∧ m + v = ps.length ∧ 1 + tz none ps = x5 + tz (prevOf ps v) (ps.drop v) ∧ 0 ≤ x5 ∧ x5 ≤ 1 + 3 * v ∧ Own l h', ⟨ps.length, 0, rfl, rfl, by rw [List.drop_zero]; rfl, by omega, by omega, h⟩, ?_⟩
  intro x5 x6 m A1 ⟨v, e1, e2, e3, e4, e5, h1⟩
  subst e1
  refine bsel_in (fun c => ?_) fun c => ?_
  · have c : (v : Int) < Int.ofNat s.len := of_decide_eq_true c
    have c : (v : Int) < s.len := c
    obtain ⟨p, hv⟩ : ∃ p, ps[v]? = some p := ⟨ps[v]'(by omega), by simp⟩
    have hd := drop_at hv
    obtain ⟨a, ha, hld⟩ := rd h1 e hv
    have hoS : ∀ {K : Addr → Prop}, K a → onSome s.a K := fun hK => by rw [ha]; exact hK
    refine hoS (inB_in (by omega) c (hld _ (new_C (cs := intsV divs) h1 fun b9 A2 h2 => ?_)))
    refine ⟨fun x15 x16 m' h' => ∃ j : Nat, x16 = j ∧ m' + j = 3 ∧ x15 = x5 + (if 0 < j then dif 512 (prevOf ps v) p else 0) + (if 1 < j then dif 262144 (prevOf ps v) p else 0) + (if 2 < j then dif 134217728 (prevOf ps v) p else 0) ∧ Own (At b9 (intsV divs) :: l) h',
      ⟨3, 0, rfl, rfl, by simp, h2⟩, ?_⟩
    have a1 := dif_01 512 (prevOf ps v) p
    have a2 := dif_01 262144 (prevOf ps v) p
    have a3 := dif_01 134217728 (prevOf ps v) p
    intro x15 x16 m' A3 ⟨j, f1, f2, f3, h3⟩
    subst f1
    have h3l : Own l A3 := h3.tail
    refine bsel_in (fun d => ?_) fun d => ?_
    · have d : (j : Int) < 3 := of_decide_eq_true d
      have hx : 0 ≤ x15 ∧ x15 ≤ 1 + 3 * v + 3 := by
        obtain rfl | rfl | rfl : j = 0 ∨ j = 1 ∨ j = 2 := by omega
        all_goals simp at f3
        all_goals omega
      -- one divisor
      have one : ∀ (nI : Int) (n : Nat) (dv : Int), nI = n → dv = 2 ^ n → n < 64 → ∀ (Z : Int → Prop), (dif dv (prevOf ps v) p = 1 → Z (x15 + 1)) → (dif dv (prevOf ps v) p = 0 → Z x15) →
          (bsel ((v : Int) == 0) (Z (IntKind.wrap .i64 (x15 + 1))) (onSome s.a fun a19 => inB (IntKind.wrap .i64 ((v : Int) - 1)) s.len (aI .i64 (Addr.add a19 (Int.toNat (IntKind.wrap .i64 ((v : Int) - 1)) * 1)) A3 fun n20 =>
            bsel (decide (nI < 0)) False (bsel (decide (nI < 0)) False (bsel ((Int.fdiv n20 (2 ^ (min (Int.toNat nI) 64))) != (Int.fdiv p (2 ^ (min (Int.toNat nI) 64)))) (Z (IntKind.wrap .i64 (x15 + 1))) (Z x15)))))) := by
        intro nI n dv hnI hdv hn Z r1 r0
        subst hnI
        rw [w64 (n := x15 + 1) (by omega) (by omega)]
        refine bsel_in (fun g => ?_) fun g => ?_
        · have g : v = 0 := by simp at g; omega
          subst g
          exact r1 rfl
        · have g : v ≠ 0 := by simp at g; omega
          obtain ⟨q, hq⟩ : ∃ q, ps[v - 1]? = some q := ⟨ps[v - 1]'(by omega), by simp⟩
          have hp : prevOf ps v = some q := by unfold prevOf; rw [if_neg g]; exact hq
          rw [w64 (n := (v : Int) - 1) (by omega) (by omega), show (v : Int) - 1 = ((v - 1 : Nat) : Int) by omega]
          obtain ⟨a', ha', hld'⟩ := rd h3l e hq
          have ea : a' = a := by rw [ha] at ha'; exact (Option.some.inj ha').symm
          subst ea
          refine hoS (inB_in (by omega) (by omega) (hld' _ (bsel_f (by simp) (bsel_f (by simp) ?_))))
          rw [show min (Int.toNat (n : Int)) 64 = n by omega, shr_eq, shr_eq, ← hdv]
          refine bsel_in (fun w => ?_) fun w => ?_
          · have w : ¬q / dv = p / dv := by simpa using w
            exact r1 (by rw [hp]; unfold dif; simp only; rw [if_neg w])
          · have w : q / dv = p / dv := by simpa using w
            exact r0 (by rw [hp]; unfold dif; simp only; rw [if_pos w])
      refine ⟨fun y h' => y = x5 + (if 0 < j + 1 then dif 512 (prevOf ps v) p else 0) + (if 1 < j + 1 then dif 262144 (prevOf ps v) p else 0) + (if 2 < j + 1 then dif 134217728 (prevOf ps v) p else 0) ∧ Own (At b9 (intsV divs) :: l) h', fun y A4 ⟨g1, g2⟩ => ⟨m' - 1, by omega, j + 1, by rw [w64] <;> omega, by omega, g1, g2⟩, ?_⟩
      refine inB_in (by omega) (by omega) ?_
      rw [show Int.toNat (j : Int) * 1 = j by omega, add_at, Nat.zero_add]
      obtain rfl | rfl | rfl : j = 0 ∨ j = 1 ∨ j = 2 := by omega
      · refine ld_I (i := 0) h3 rfl (n := 9) rfl (one 9 9 512 rfl rfl (by omega) (fun y => y = _ ∧ Own (At b9 (intsV divs) :: l) A3) (fun g => ⟨?_, h3⟩) fun g => ⟨?_, h3⟩)
        · simp at f3 ⊢; omega
        · simp at f3 ⊢; omega
      · refine ld_I (i := 0) h3 rfl (n := 18) rfl (one 18 18 262144 rfl rfl (by omega) (fun y => y = _ ∧ Own (At b9 (intsV divs) :: l) A3) (fun g => ⟨?_, h3⟩) fun g => ⟨?_, h3⟩)
        · simp at f3 ⊢; omega
        · simp at f3 ⊢; omega
      · refine ld_I (i := 0) h3 rfl (n := 27) rfl (one 27 27 134217728 rfl rfl (by omega) (fun y => y = _ ∧ Own (At b9 (intsV divs) :: l) A3) (fun g => ⟨?_, h3⟩) fun g => ⟨?_, h3⟩)
        · simp at f3 ⊢; omega
        · simp at f3 ⊢; omega
    · have d : ¬(j : Int) < 3 := of_decide_eq_false d
      have hj : j = 3 := by omega
      subst hj
      simp at f3
      refine ⟨m - 1, by omega, v + 1, by rw [w64] <;> omega, by omega, ?_, by omega, by omega, h3l⟩
      rw [e3, hd, f3]
      have : prevOf ps (v + 1) = some p := by unfold prevOf; rw [if_neg (by omega)]; exact hv
      rw [this]
      simp only [tz]
      omega
  · have c : ¬(v : Int) < Int.ofNat s.len := of_decide_eq_false c
    have c : ¬(v : Int) < s.len := c
    rw [List.drop_eq_nil_of_le (by omega)] at e3
    have : x5 = 1 + tz none ps := by rw [e3]; simp [tz]
    rw [this]
    exact hk A1 h1
/-- A page more in a rising list. -/
def insP : List Int → Int → List Int
  | [], p => [p]
  | y :: r, p => if y > p then p :: y :: r else y :: insP r p
def cz (d : Int) : Option Int → List Int → Int
  | _, [] => 0
  | prev, p :: r => dif d prev p + cz d (some p) r
theorem tz_cz : ∀ (prev : Option Int) (ps : List Int), tz prev ps = cz 512 prev ps + cz 262144 prev ps + cz 134217728 prev ps
  | _, [] => rfl
  | prev, p :: r => by
    simp only [tz, cz, tz_cz (some p) r]
    omega
/-- Whether a page's part is new. -/
def newP (d : Int) (prev : Option Int) (ps : List Int) (p : Int) : Prop := (∀ q, prev = some q → q / d ≠ p / d) ∧ ∀ q ∈ ps, q / d ≠ p / d
def isNewP (d : Int) (prev : Option Int) (ps : List Int) (p : Int) : Bool := (match prev with | none => true | some q => decide (q / d ≠ p / d)) && ps.all fun q => decide (q / d ≠ p / d)
theorem isNewP_iff {d : Int} {prev : Option Int} {ps : List Int} {p : Int} : isNewP d prev ps p = true ↔ newP d prev ps p := by
  unfold isNewP newP
  rw [Bool.and_eq_true, List.all_eq_true]
  constructor
  · rintro ⟨h1, h2⟩
    refine ⟨fun q hq => ?_, fun q hq => of_decide_eq_true (h2 q hq)⟩
    subst hq
    exact of_decide_eq_true h1
  · rintro ⟨h1, h2⟩
    refine ⟨?_, fun q hq => decide_eq_true (h2 q hq)⟩
    cases prev with
    | none => rfl
    | some q => exact decide_eq_true (h1 q rfl)
theorem cz_ins {d : Int} (hd : 0 < d) : ∀ (ps : List Int) (prev : Option Int) (p : Int), ps.Pairwise (· < ·) → (∀ q, prev = some q → q < p ∧ ∀ x ∈ ps, q < x) → p ∉ ps → cz d prev (insP ps p) = cz d prev ps + if isNewP d prev ps p then 1 else 0
  | [], prev, p, _, _, _ => by
    simp only [insP, cz]
    cases prev with
    | none =>
      have := isNewP_iff.2 (show newP d none [] p from ⟨fun q h => (by cases h), fun q h => (by simp at h)⟩)
      rw [if_pos this]; rfl
    | some q =>
      unfold dif
      simp only
      by_cases e : q / d = p / d
      · have : ¬isNewP d (some q) [] p = true := fun h => (isNewP_iff.1 h).1 q rfl e
        rw [if_pos e, if_neg this]
      · have := isNewP_iff.2 (show newP d (some q) [] p from ⟨fun q' h => (by cases h; exact e), fun q h => (by simp at h)⟩)
        rw [if_neg e, if_pos this]; rfl
  | y :: r, prev, p, hs, hp, hn => by
    obtain ⟨h1, h2⟩ := List.pairwise_cons.1 hs
    have mono : ∀ {a c : Int}, a ≤ c → a / d ≤ c / d := fun h => Int.ediv_le_ediv hd h
    unfold insP
    split
    · rename_i g
      simp only [cz]
      have hpy := mono (Int.le_of_lt g)
      have hry : ∀ q ∈ r, y / d ≤ q / d := fun q hq => mono (Int.le_of_lt (h1 q hq))
      have key : dif d prev p + dif d (some p) y = dif d prev y + if isNewP d prev (y :: r) p then 1 else 0 := by
        by_cases e : p / d = y / d
        · have hnew : ¬isNewP d prev (y :: r) p = true := fun h => (isNewP_iff.1 h).2 y List.mem_cons_self e.symm
          rw [if_neg hnew]
          unfold dif
          cases prev with
          | none => simp [e]
          | some q => simp [e]
        · have hne : ∀ q ∈ y :: r, q / d ≠ p / d := fun q hq => by
            rcases List.mem_cons.1 hq with rfl | hq
            · exact fun h => e h.symm
            · have := hry q hq; omega
          cases prev with
          | none =>
            have hnew := isNewP_iff.2 (show newP d none (y :: r) p from ⟨fun q h => (by cases h), hne⟩)
            rw [if_pos hnew]
            simp [dif, e]
          | some q =>
            obtain ⟨q1, q2⟩ := hp q rfl
            have hqp := mono (Int.le_of_lt q1)
            have hqy : q / d ≠ y / d := by omega
            by_cases e2 : q / d = p / d
            · have hnew : ¬isNewP d (some q) (y :: r) p = true := fun h => (isNewP_iff.1 h).1 q rfl e2
              rw [if_neg hnew]
              simp [dif, e2, e]
            · have hnew := isNewP_iff.2 (show newP d (some q) (y :: r) p from ⟨fun q' h => (by cases h; exact e2), hne⟩)
              rw [if_pos hnew]
              simp [dif, e2, e, hqy]
      omega
    · rename_i g
      have hyp : y < p := by
        rcases Int.lt_or_le y p with z | z
        · exact z
        · have : y = p := by omega
          exact absurd (by rw [this]; exact List.mem_cons_self) hn
      simp only [cz]
      rw [cz_ins hd r (some y) p h2 (fun q h => by cases h; exact ⟨hyp, h1⟩) (fun h => hn (List.mem_cons_of_mem _ h))]
      have : newP d (some y) r p ↔ newP d prev (y :: r) p := by
        constructor
        · rintro ⟨a, c⟩
          refine ⟨fun q hq e => ?_, fun q hq => ?_⟩
          · obtain ⟨q1, q2⟩ := hp q hq
            have := q2 y List.mem_cons_self
            have u1 := mono (Int.le_of_lt this)
            have u2 := mono (Int.le_of_lt hyp)
            exact a y rfl (by omega)
          · rcases List.mem_cons.1 hq with rfl | hq
            · exact a _ rfl
            · exact c q hq
        · rintro ⟨a, c⟩
          exact ⟨fun q hq => by cases hq; exact c y List.mem_cons_self, fun q hq => c q (List.mem_cons_of_mem _ hq)⟩
      have e3 : isNewP d (some y) r p = isNewP d prev (y :: r) p := by rw [Bool.eq_iff_iff, isNewP_iff, isNewP_iff]; exact this
      rw [e3]
      omega
end Go.Dn
