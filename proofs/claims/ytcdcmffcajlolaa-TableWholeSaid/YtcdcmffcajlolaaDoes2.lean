/- What the proof stands on: Does09, Does2. -/
import Derived.Test.YtcdcmffcajlolaaCnt09
/- A call on tables and on the document's list: the answers are alike. -/
namespace Go.Dn

variable {A : AH} {l R : List SP} {r b t i : Nat} {fr T par quo lent base u root : Int} {tr : Int → List Nd} {W Wk : Int → Int → Int} {F G K : Int → Prop} {tab : Tab} {lf : Int → Option Lf} {tl : List Int} {L : List LvZ} {s : Sl}
theorem findL_mem : ∀ {L : List LvZ} {p : Int}, findL L p ≠ none ↔ p ∈ pagesL L
  | [], p => by simp [findL, pagesL]
  | y :: r, p => by
    unfold findL
    by_cases e : y.page = p
    · rw [if_pos e]; simp [pagesL, e]
    · rw [if_neg e, findL_mem]
      simp only [pagesL, List.map_cons, List.mem_cons]
      exact ⟨fun h => .inr h, fun h => h.resolve_left fun g => e g.symm⟩
theorem pages_with : ∀ (L : List LvZ) (y : LvZ), pagesL (withL L y) = insP (pagesL L) y.page
  | [], y => rfl
  | z :: r, y => by
    have ih := pages_with r y
    unfold withL
    simp only [pagesL, List.map_cons, insP] at ih ⊢
    split
    · simp
    · simp [ih]
theorem pages_without : ∀ (L : List LvZ) (p : Int), pagesL (withoutL L p) = (pagesL L).filter fun q => decide (q ≠ p)
  | [], p => rfl
  | z :: r, p => by
    have ih := pages_without r p
    unfold withoutL
    simp only [pagesL, List.map_cons] at ih ⊢
    by_cases e : z.page = p
    · rw [if_pos e, ih, List.filter_cons, if_neg (by simp [e])]
    · rw [if_neg e, List.map_cons, ih, List.filter_cons, if_pos (by simp [e])]
theorem find_with : ∀ {L : List LvZ} {y : LvZ} {p : Int}, findL L y.page = none → findL (withL L y) p = if p = y.page then some y.l else findL L p
  | [], y, p, _ => by
    simp only [withL, findL]
    by_cases e : y.page = p
    · rw [if_pos e, if_pos e.symm]
    · rw [if_neg e, if_neg (fun g => e g.symm)]
  | z :: r, y, p, h => by
    unfold withL
    unfold findL at h
    split at h
    · cases h
    · rename_i hz
      split
      · simp only [findL]
        by_cases e : y.page = p
        · rw [if_pos e, if_pos e.symm]
        · rw [if_neg e, if_neg (fun g : p = y.page => e g.symm)]
      · simp only [findL]
        rw [find_with h]
        by_cases e : z.page = p
        · rw [if_pos e, if_neg (fun g => hz (by rw [e, g])), if_pos e]
        · rw [if_neg e]
          by_cases e2 : p = y.page
          · rw [if_pos e2, if_pos e2]
          · rw [if_neg e2, if_neg e2, if_neg e]
theorem find_without : ∀ {L : List LvZ} {q p : Int}, findL (withoutL L q) p = if p = q then none else findL L p
  | [], q, p => by simp [withoutL, findL]
  | z :: r, q, p => by
    unfold withoutL
    by_cases e : z.page = q
    · rw [if_pos e, find_without]
      by_cases e2 : p = q
      · rw [if_pos e2, if_pos e2]
      · rw [if_neg e2, if_neg e2, findL, if_neg (fun g => e2 (by rw [← g, e]))]
    · rw [if_neg e]
      simp only [findL]
      by_cases e3 : z.page = p
      · rw [if_pos e3, if_neg (fun g => e (by rw [e3, g])), if_pos e3]
      · rw [if_neg e3, find_without]
        by_cases e2 : p = q
        · rw [if_pos e2, if_pos e2]
        · rw [if_neg e2, if_neg e2, if_neg e3]
theorem insP_mem : ∀ {ps : List Int} {p x : Int}, x ∈ insP ps p ↔ x = p ∨ x ∈ ps
  | [], p, x => by simp [insP]
  | y :: r, p, x => by
    unfold insP
    split
    · simp
    · rw [List.mem_cons, insP_mem, List.mem_cons]
      constructor
      · rintro (h | h | h)
        · exact .inr (.inl h)
        · exact .inl h
        · exact .inr (.inr h)
      · rintro (h | h | h)
        · exact .inr (.inl h)
        · exact .inl h
        · exact .inr (.inr h)
theorem insP_rise : ∀ {ps : List Int} {p : Int}, ps.Pairwise (· < ·) → p ∉ ps → (insP ps p).Pairwise (· < ·)
  | [], p, _, _ => by simp [insP]
  | y :: r, p, h, hn => by
    obtain ⟨h1, h2⟩ := List.pairwise_cons.1 h
    unfold insP
    split
    · rename_i g
      refine List.pairwise_cons.2 ⟨fun x hx => ?_, h⟩
      rcases List.mem_cons.1 hx with rfl | hx
      · exact g
      · have := h1 x hx; omega
    · rename_i g
      have hne : y ≠ p := fun e => hn (by rw [e]; exact List.mem_cons_self)
      refine List.pairwise_cons.2 ⟨fun x hx => ?_, insP_rise h2 fun e => hn (List.mem_cons_of_mem _ e)⟩
      rcases insP_mem.1 hx with rfl | hx
      · omega
      · exact h1 x hx
theorem insP_back {ps : List Int} {p : Int} (h : ps.Pairwise (· < ·)) (hp : p ∈ ps) : insP (ps.filter fun q => decide (q ≠ p)) p = ps := by
  have h1 : (ps.filter fun q => decide (q ≠ p)).Pairwise (· < ·) := h.sublist List.filter_sublist
  refine rise_ext (insP_rise h1 (by simp)) h fun x => ?_
  rw [insP_mem, List.mem_filter, decide_eq_true_eq]
  constructor
  · rintro (rfl | h)
    · exact hp
    · exact h.1
  · intro hx
    by_cases e : x = p
    · exact .inl e
    · exact .inr ⟨hx, e⟩
structure Cz (L : List LvZ) (lf : Int → Option Lf) (tl : List Int) : Prop where
  rise : (pagesL L).Pairwise (· < ·)
  lfe : ∀ p, lf p = findL L p
  cnt : (tl.length : Int) = 1 + tz none (pagesL L)
/-- The tables that a page wants are the parts that are new. -/
theorem Rest.new (h : Rest G W root tab lf tl) {ps : List Int} (hm : ∀ p, p ∈ ps ↔ lf p ≠ none) {p : Int} (hp : 0 ≤ p ∧ p < 34359738368) (hs : ps.Pairwise (· < ·)) (hn : p ∉ ps) : tz none (insP ps p) = tz none ps + needT tab p := by
  have key : ∀ k, 1 ≤ k → k ≤ 3 → ∀ d : Int, (∀ q, preP q k = q / d) → ((tab k (preP p k) = none) ↔ isNewP d none ps p = true) := fun k k1 k3 d hd => by
    rw [isNewP_iff]
    constructor
    · intro hno
      refine ⟨fun q e => (by cases e), fun q hq e => ?_⟩
      obtain ⟨y, hy⟩ : ∃ y, lf q = some y := by
        cases e2 : lf q with
        | none => exact absurd e2 ((hm q).1 hq)
        | some y => exact ⟨y, rfl⟩
      have := h.T.chain (h.pr q y hy) hy k (by omega)
      rw [hd q, e, ← hd p] at this
      exact this hno
    · rintro ⟨_, hno⟩
      cases e : tab k (preP p k) with
      | none => rfl
      | some f =>
        obtain ⟨q, y, h1, h2⟩ := h.low k _ f e k1
        have hq := (hm q).2 (by rw [h1]; simp)
        have := hno q hq
        rw [hd q, hd p] at h2
        exact absurd h2 this
  have k1 := key 1 (by omega) (by omega) 134217728 (fun q => rfl)
  have k2 := key 2 (by omega) (by omega) 262144 (fun q => rfl)
  have k3 := key 3 (by omega) (by omega) 512 (fun q => rfl)
  rw [tz_cz, tz_cz, cz_ins (by omega) ps none p hs (fun q e => by cases e) hn, cz_ins (by omega) ps none p hs (fun q e => by cases e) hn, cz_ins (by omega) ps none p hs (fun q e => by cases e) hn]
  unfold needT
  simp only [k1, k2, k3]
  split <;> split <;> split <;> simp_all <;> omega
theorem Cz.mem (h : Cz L lf tl) {p : Int} : p ∈ pagesL L ↔ lf p ≠ none := by rw [h.lfe, findL_mem]
theorem Cz.map (h : Cz L lf tl) (hR : Rest G W root tab lf tl) {p : Int} {x : Lf} {tk : List Int} (hp : 0 ≤ p ∧ p < 34359738368) (hn : lf p = none) (hlen : tk.length = needT tab p) : Cz (withL L ⟨p, x⟩) (setL lf p (some x)) (tl ++ tk) := by
  have hnp : p ∉ pagesL L := fun g => h.mem.1 g hn
  refine ⟨?_, fun q => ?_, ?_⟩
  · rw [pages_with]; exact insP_rise h.rise hnp
  · rw [find_with (y := ⟨p, x⟩) (by rw [← h.lfe]; exact hn), ← h.lfe]
    unfold setL; rfl
  · rw [pages_with, hR.new (fun q => h.mem) hp h.rise hnp, List.length_append, ← hlen]
    have := h.cnt
    omega
theorem Cz.prot (h : Cz L lf tl) {p : Int} {x y : Lf} (hx : lf p = some x) : Cz (withL (withoutL L p) ⟨p, y⟩) (setL lf p (some y)) tl := by
  have hp : p ∈ pagesL L := h.mem.2 (by rw [hx]; simp)
  have e : pagesL (withL (withoutL L p) ⟨p, y⟩) = pagesL L := by rw [pages_with, pages_without]; exact insP_back h.rise hp
  refine ⟨by rw [e]; exact h.rise, fun q => ?_, by rw [e]; exact h.cnt⟩
  rw [find_with (y := ⟨p, y⟩) (by rw [find_without, if_pos rfl]), find_without]
  unfold setL
  by_cases g : q = p
  · rw [if_pos g, if_pos g]
  · rw [if_neg g, if_neg g, if_neg g, h.lfe]
theorem Cz.unmap (h : Cz L lf tl) {p : Int} {tab' : Tab} {tl' : List Int} {W' : Int → Int → Int} {G' : Int → Prop} {g : Nat} (hR' : Rest G' W' root tab' (setL lf p none) tl') (hp : 0 ≤ p ∧ p < 34359738368) (hx : lf p ≠ none) (hlen : tl'.length + g = tl.length) (hg : g = needT tab' p) : Cz (withoutL L p) (setL lf p none) tl' := by
  have hpm : p ∈ pagesL L := h.mem.2 hx
  have hf : ∀ q, setL lf p none q = findL (withoutL L p) q := fun q => by rw [find_without, ← h.lfe]; unfold setL; rfl
  have hs : (pagesL (withoutL L p)).Pairwise (· < ·) := by rw [pages_without]; exact h.rise.sublist List.filter_sublist
  refine ⟨hs, hf, ?_⟩
  have hnew := hR'.new (ps := pagesL (withoutL L p)) (fun q => by rw [hf q, findL_mem]) hp hs (by rw [pages_without]; simp)
  rw [pages_without, insP_back h.rise hpm] at hnew
  have := h.cnt
  rw [pages_without]
  omega
structure Tr (tr : Int → List Nd) (i : Nat) (par quo lent : Int) : Prop where
  at_ : ∀ u, (tr u)[i]? = some ⟨par, quo, u, lent, true⟩
  set_ : ∀ u u', useN (tr u) i ⟨par, quo, u, lent, true⟩ u' = tr u'
def DO (fr : Int) (r b t : Nat) (T : Int) (tr : Int → List Nd) (F G : Int → Prop) (W : Int → Int → Int) (u : Int) (R : List SP) : List SP := RamW r fr [] W :: Bud b F G (T - u) :: TreeS t (tr u) :: R
/-- The tables of a root, as the list says; what must stay as it is. -/
def Dz (fr T : Int) (tr : Int → List Nd) (r b t : Nat) (root base : Int) (K : Int → Prop) (Wk : Int → Int → Int) (L : List LvZ) (R : List SP) (A : AH) : Prop :=
  ∃ F G W u tab lf, ∃ tl : List Int, StdP fr F G ∧ Rest G W root tab lf tl ∧ Cz L lf tl ∧ u = base + tl.length ∧ (∀ f, K f → W f = Wk f ∧ G f ∧ f ∉ tl) ∧ (∀ j, 256 ≤ j → W root j = Wk root j) ∧ Own (DO fr r b t T tr F G W u R) A
theorem Dz.subR {R' : List SP} (h : Dz fr T tr r b t root base K Wk L R A) (hs : R'.Sublist R) : Dz fr T tr r b t root base K Wk L R' A := by
  obtain ⟨F, G, W, u, tab, lf, tl, h1, h2, h3, h4, h5, h6, h⟩ := h
  refine ⟨F, G, W, u, tab, lf, tl, h1, h2, h3, h4, h5, h6, ?_⟩
  unfold DO at *
  exact h.sub (((hs.cons_cons _).cons_cons _).cons_cons _)
/-- A number of a list, the error's number. -/
theorem mapped_spec {P : SP} {k : Nat} {kd p fm room : Int} {pw pu px : Bool} {Q : Sl → Int → AH → Prop} (h : Own l A) (e : l[k]? = some P) (hr : Reads P s 5 (lvCells L)) (hb : L.length ≤ 10000)
    (h1 : p < 0 ∨ p ≥ 34359738368 ∨ fm < 0 ∨ fm ≥ 1048576 → Q s 1 A) (h6 : 0 ≤ p → p < 34359738368 → 0 ≤ fm → fm < 1048576 → findL L p ≠ none → Q s 6 A)
    (h8 : 0 ≤ p → p < 34359738368 → 0 ≤ fm → fm < 1048576 → findL L p = none → tz none (insP (pagesL L) p) - tz none (pagesL L) > room → ∀ A', Own l A' → Q s 8 A')
    (hk : 0 ≤ p → p < 34359738368 → 0 ≤ fm → fm < 1048576 → findL L p = none → tz none (insP (pagesL L) p) - tz none (pagesL L) ≤ room → ∀ s' A', s'.a ≠ none → Own (SlO s' 5 (lvCells (withL L ⟨p, ⟨fm, pw, pu, px⟩⟩)) :: l) A' → Q s' 0 A') :
    demesnelaw09_mapped_A s kd p fm pw pu px room Q A := by
  unfold demesnelaw09_mapped_A demesnelaw09_mapped_G
  refine ⟨fun h' => h' = A ∧ 0 ≤ p ∧ p < 34359738368 ∧ 0 ≤ fm ∧ fm < 1048576, ?_, bsel_in (fun c => h1 (.inl (of_decide_eq_true c))) fun c1 => bsel_in (fun c => h1 (.inr (.inl (of_decide_eq_true c)))) fun c2 => bsel_in (fun c => h1 (.inr (.inr (.inl (of_decide_eq_true c))))) fun c3 =>
    bsel_in (fun c => h1 (.inr (.inr (.inr (of_decide_eq_true c))))) fun c4 => ⟨rfl, Int.not_lt.1 (of_decide_eq_false c1), Int.not_le.1 (of_decide_eq_false c2), Int.not_lt.1 (of_decide_eq_false c3), Int.not_le.1 (of_decide_eq_false c4)⟩⟩
  intro A1 ⟨e1, p0, p1, f0, f1⟩
  subst e1
  refine Find_spec h e hr (by omega) (fun g => bsel_f rfl ?_) fun x g => bsel_t rfl (h6 p0 p1 f0 f1 (by rw [g]; simp))
  refine With_spec (y := ⟨p, ⟨fm, pw, pu, px⟩⟩) h e hr (by omega) fun s10 A2 n10 h2 => ?_
  have hw : ∀ L : List LvZ, ∀ y, (withL L y).length = L.length + 1 := by
    intro L y
    induction L with
    | nil => rfl
    | cons a r ih => unfold withL; split <;> simp [ih]
  refine Numbers_spec (k := 0) h2 rfl reads_slo (by rw [hw]; omega) fun s12 A3 n12 h3 => ?_
  refine Tables_spec (k := 0) h3 rfl reads_slo (by simp [pagesL, hw]; omega) fun A4 h4 => ?_
  refine Numbers_spec (k := k + 2) h4 (by simpa using e) hr (by omega) fun s16 A5 n16 h5 => ?_
  refine Tables_spec (k := 0) h5 rfl reads_slo (by simp [pagesL]; omega) fun A6 h6' => ?_
  have b1 := tz_pos none (pagesL (withL L ⟨p, ⟨fm, pw, pu, px⟩⟩))
  have b2 := tz_pos none (pagesL L)
  have l1 : (pagesL (withL L ⟨p, ⟨fm, pw, pu, px⟩⟩)).length ≤ 10001 := by simp [pagesL, hw]; omega
  have l2 : (pagesL L).length ≤ 10000 := by simp [pagesL]; omega
  rw [w64 (by omega) (by omega)]
  have e9 : tz none (pagesL (withL L ⟨p, ⟨fm, pw, pu, px⟩⟩)) = tz none (insP (pagesL L) p) := by rw [pages_with]
  rw [e9]
  refine bsel_in (fun c => h8 p0 p1 f0 f1 g ?_ A6 h6'.tail.tail.tail) fun c => hk p0 p1 f0 f1 g ?_ s10 A6 n10 h6'.tail.tail
  · have := of_decide_eq_true c; omega
  · have := of_decide_eq_false c; omega
end Go.Dn
/- A call on both: alike. -/
namespace Go.Dn

variable {A : AH} {l R : List SP} {r b t i : Nat} {fr T par quo lent base u root : Int} {tr : Int → List Nd} {W Wk : Int → Int → Int} {F G K : Int → Prop} {tab : Tab} {lf : Int → Option Lf} {tl : List Int} {L : List LvZ} {s : Sl}
theorem with_len (L : List LvZ) (y : LvZ) : (withL L y).length = L.length + 1 := by
  induction L with
  | nil => rfl
  | cons a r ih => unfold withL; split <;> simp [ih]
theorem without_len (L : List LvZ) (p : Int) : (withoutL L p).length ≤ L.length := by
  induction L with
  | nil => exact Nat.le_refl _
  | cons a r ih => unfold withoutL; split <;> simp <;> omega
theorem without_lt {L : List LvZ} {p : Int} (h : findL L p ≠ none) : (withoutL L p).length + 1 ≤ L.length := by
  induction L with
  | nil => exact absurd rfl h
  | cons a r ih =>
    unfold withoutL
    unfold findL at h
    by_cases e : a.page = p
    · rw [if_pos e]; have := without_len r p; simp; omega
    · rw [if_neg e] at h ⊢
      have := ih h
      simp; omega
set_option maxHeartbeats 2000000 in
set_option maxRecDepth 100000 in
theorem does_spec {kd p fm room : Int} {pw pu px : Bool} {Q : Sl → Bool → AH → Prop} (h : Dz fr T tr r b t root base K Wk L (SlO s 5 (lvCells L) :: R) A) (htr : Tr tr i par quo lent) (hb : L.length ≤ 5000) (hbase : 0 ≤ base) (hT : base + (1 + tz none (pagesL L)) + 3 ≤ T)
    (hroom : ∀ d : Int, 0 ≤ d → d ≤ 3 → (d > room ↔ quo - (base + 1 + tz none (pagesL L)) - lent < d))
    (hk : ∀ s' L' A', L'.length ≤ L.length + 1 → Dz fr T tr r b t root base K Wk L' (SlO s' 5 (lvCells L') :: R) A' → Q s' true A') :
    demesnelaw09_does_A (some ⟨r, 0, none⟩) (some ⟨b, 0, none⟩) (some ⟨t, 0, none⟩) i root s kd p fm pw pu px room Q A := by
  obtain ⟨F, G, W, u, tab, lf, tl, hp, hR, hC, hu, hK, hH, h⟩ := h
  have hcz := tz_pos none (pagesL L)
  have hpl : (pagesL L).length = L.length := by simp [pagesL]
  have hcnt := hC.cnt
  have hx0 : ∀ {P : SP} {R' : List SP} {F G W u A}, Own (DO fr r b t T tr F G W u (P :: R')) A → (DO fr r b t T tr F G W u (P :: R'))[3]? = some P := fun _ => rfl
  have hFG : ∀ x, F x → ¬G x := (bud_apart (Own.swap h)).1
  unfold demesnelaw09_does_A demesnelaw09_does_G
  -- what the list says of the page
  have main : ∀ (o : Option Lf), findL L p = o → ∀ x9 : Int, x9 = (match o with | some _ => 0 | none => 5) →
      (bsel (kd == (1 : Int))
        (demesnelaw09_mapped_A s kd p fm pw pu px room (fun s11 n12 h13 => table_Map_A (some ⟨r, 0, none⟩) (some ⟨b, 0, none⟩) (some ⟨t, 0, none⟩) i root p fm pw pu px (fun n14 h15 => Q s11 (n14 == n12) h15) h13) A)
        (bsel (kd == (2 : Int))
          (table_Unmap_A (some ⟨r, 0, none⟩) (some ⟨b, 0, none⟩) (some ⟨t, 0, none⟩) i root p (fun n16 n17 h18 => demesneref09_Without_A s p (fun s19 h20 => bsel (n17 == x9) (Q s19 (n16 == (match o with | some x => x.frame | none => 0)) h20) (Q s19 false h20)) h18) A)
          (bsel (kd == (3 : Int))
            (table_Protect_A (some ⟨r, 0, none⟩) (some ⟨b, 0, none⟩) (some ⟨t, 0, none⟩) i root p pw pu px (fun n21 h22 => ∃ R23 : Sl → AH → Prop, (∀ s28 : Sl, ∀ h29, R23 s28 h29 → Q s28 (n21 == x9) h29) ∧
              (bsel (match o with | some _ => true | none => false) (demesneref09_Without_A s p (fun s24 h25 => demesneref09_With_A s24 p (match o with | some x => x.frame | none => 0) pw pu px (fun s26 h27 => R23 s26 h27) h25) h22) (R23 s h22))) A)
            (table_Query_A (some ⟨r, 0, none⟩) (some ⟨b, 0, none⟩) (some ⟨t, 0, none⟩) i root p (fun n30 b31 b32 b33 b34 h35 =>
              bsel (b34 == (match o with | some _ => true | none => false)) (bsel (n30 == (match o with | some x => x.frame | none => 0)) (Q s ((b31 == (match o with | some x => x.w | none => false)) && ((b32 == (match o with | some x => x.u | none => false)) && ((b33 == (match o with | some x => x.x | none => false)) && true))) h35) (Q s false h35)) (Q s false h35)) A)))) := by
    intro o ho x9 hx9
    have hlo : lf p = o := by rw [hC.lfe, ho]
    refine bsel_in (fun _ => ?_) fun _ => bsel_in (fun _ => ?_) fun _ => bsel_in (fun _ => ?_) fun _ => ?_
    · -- a page more
      have mapNow : ∀ {R' : List SP} {A' : AH} {e : Int} {s' : Sl} {L' : List LvZ}, Own (DO fr r b t T tr F G W u (SlO s' 5 (lvCells L') :: R')) A' →
          ((p < 0 ∨ p ≥ 34359738368 ∨ fm < 0 ∨ fm ≥ 1048576) ∧ e = 1 ∨ ((0 ≤ p ∧ p < 34359738368) ∧ (0 ≤ fm ∧ fm < 1048576) ∧ lf p ≠ none) ∧ e = 6 ∨ ((0 ≤ p ∧ p < 34359738368) ∧ (0 ≤ fm ∧ fm < 1048576) ∧ lf p = none) ∧ needT tab p > room ∧ e = 8) ∧ L' = L ∨
            ((0 ≤ p ∧ p < 34359738368) ∧ (0 ≤ fm ∧ fm < 1048576) ∧ lf p = none) ∧ (needT tab p : Int) ≤ room ∧ e = 0 ∧ L' = withL L ⟨p, ⟨fm, pw, pu, px⟩⟩ → R.Sublist R' →
          table_Map_A (some ⟨r, 0, none⟩) (some ⟨b, 0, none⟩) (some ⟨t, 0, none⟩) i root p fm pw pu px (fun n14 h15 => Q s' (n14 == e) h15) A' := by
        intro R' A' e s' L' h' hcase hsub
        have hneed : needT tab p ≤ 3 := by unfold needT; split <;> split <;> split <;> omega
        have hlR : L'.length ≤ L.length + 1 := by
          rcases hcase with ⟨_, e⟩ | ⟨_, _, _, e⟩
          · rw [e]; omega
          · rw [e, with_len]; omega
        have ends : ∀ {F' G' W' u' tab' lf' tl' A''} , StdP fr F' G' → Rest G' W' root tab' lf' tl' → Cz L' lf' tl' → u' = base + (tl'.length : Int) → (∀ f, K f → W' f = Wk f ∧ G' f ∧ f ∉ tl') → (∀ j, 256 ≤ j → W' root j = Wk root j) → Own (DO fr r b t T tr F' G' W' u' (SlO s' 5 (lvCells L') :: R')) A'' → Q s' true A'' := by
          intro F' G' W' u' tab' lf' tl' A'' a1 a2 a3 a4 a5 a7 a6
          refine hk s' L' A'' hlR ?_
          exact Dz.subR ⟨F', G', W', u', tab', lf', tl', a1, a2, a3, a4, a5, a7, a6⟩ (hsub.cons_cons _)
        refine RMap_spec h' (htr.at_ u) rfl hp.inF hp.inG hR (fun g => ?_) (fun p0 p1 f0 f1 hx A'' hA => ?_) (fun p0 p1 f0 f1 hx e' W' A'' he hW hR' hHi hA => ?_) fun p0 p1 f0 f1 hx tk W' tab' A'' hlen q1 q2 htk hR' hW hHi hA => ?_
        · rcases hcase with ⟨⟨_, e1⟩ | ⟨⟨a1, a2, _⟩, _⟩ | ⟨⟨a1, a2, _⟩, _⟩, e2⟩ | ⟨⟨a1, a2, _⟩, _⟩
          · subst e1 e2; exact ends hp hR hC hu hK hH h'
          · omega
          · omega
          · omega
        · rcases hcase with ⟨⟨g, _⟩ | ⟨_, e1⟩ | ⟨⟨_, _, g⟩, _⟩, e2⟩ | ⟨⟨_, _, g⟩, _⟩
          · omega
          · subst e1 e2; exact ends hp hR hC hu hK hH hA
          · exact absurd g hx
          · exact absurd g hx
        · have hr3 := hroom (needT tab p) (by omega) (by omega)
          simp only at he
          rcases hcase with ⟨⟨g, _⟩ | ⟨⟨_, _, g⟩, _⟩ | ⟨_, g, e1⟩, e2⟩ | ⟨_, g, _⟩
          · omega
          · exact absurd hx g
          · have e8 : e' = 8 := by
              rcases he with he | he
              · exact he.1
              · omega
            subst e1 e2 e8
            refine ends hp hR' hC hu (fun f hf => ?_) (fun j hj => (hHi j hj).trans (hH j hj)) hA
            obtain ⟨k1, k2, k3⟩ := hK f hf
            exact ⟨by rw [hW f fun z => hFG f z k2]; exact k1, k2, k3⟩
          · exfalso
            rcases he with he | he
            · have := hr3.2 (by omega); omega
            · omega
        · have hr3 := hroom (needT tab p) (by omega) (by omega)
          simp only at q1
          rcases hcase with ⟨⟨g, _⟩ | ⟨⟨_, _, g⟩, _⟩ | ⟨_, g, _⟩, _⟩ | ⟨_, g, e1, e2⟩
          · omega
          · exact absurd hx g
          · have := hr3.1 g; omega
          · subst e1 e2
            refine ends (F' := fun x => F x ∧ x ∉ tk) (G' := fun x => G x ∨ x ∈ tk) ⟨fun x hx => hp.inF x hx.1, fun x hx => ?_⟩ hR' (hC.map hR ⟨p0, p1⟩ hx hlen) (u' := u + tk.length) (by rw [List.length_append]; omega) (fun f hf => ?_) (fun j hj => (hHi j hj).trans (hH j hj)) ?_
            · rcases hx with hx | hx
              · exact hp.inG x hx
              · exact hp.inF x (htk x hx)
            · obtain ⟨k1, k2, k3⟩ := hK f hf
              have hnt : f ∉ tk := fun z => hFG f (htk f z) k2
              exact ⟨by rw [hW f hnt k3]; exact k1, .inl k2, fun z => by
                rcases List.mem_append.1 z with z | z
                · exact k3 z
                · exact hnt z⟩
            · have hA : Own (RamW r fr [] W' :: Bud b (fun x => F x ∧ x ∉ tk) (fun x => G x ∨ x ∈ tk) (T - u - tk.length) :: TreeS t (useN (tr u) i ⟨par, quo, u, lent, true⟩ (u + tk.length)) :: SlO s' 5 (lvCells (withL L ⟨p, ⟨fm, pw, pu, px⟩⟩)) :: R') A'' := hA
              rw [htr.set_, show T - u - (tk.length : Int) = T - (u + tk.length) by omega] at hA
              exact hA
      have hdelta : 0 ≤ p → p < 34359738368 → findL L p = none → tz none (insP (pagesL L) p) - tz none (pagesL L) = needT tab p := fun p0 p1 hn => by
        rw [hR.new (fun q => hC.mem) ⟨p0, p1⟩ hC.rise (fun g => hC.mem.1 g (by rw [hC.lfe]; exact hn))]
        omega
      refine mapped_spec h (hx0 h) reads_slo (by omega) (fun g => mapNow h (.inl ⟨.inl ⟨g, rfl⟩, rfl⟩) (List.Sublist.refl _)) (fun p0 p1 f0 f1 g => mapNow h (.inl ⟨.inr (.inl ⟨⟨⟨p0, p1⟩, ⟨f0, f1⟩, by rw [hC.lfe]; exact g⟩, rfl⟩), rfl⟩) (List.Sublist.refl _))
        (fun p0 p1 f0 f1 g d A' hA => mapNow hA (.inl ⟨.inr (.inr ⟨⟨⟨p0, p1⟩, ⟨f0, f1⟩, by rw [hC.lfe]; exact g⟩, by rw [hdelta p0 p1 g] at d; exact d, rfl⟩), rfl⟩) (List.Sublist.refl _)) fun p0 p1 f0 f1 g d s' A' hs' hA => ?_
      have hA : Own (DO fr r b t T tr F G W u (SlO s' 5 (lvCells (withL L ⟨p, ⟨fm, pw, pu, px⟩⟩)) :: SlO s 5 (lvCells L) :: R)) A' := ((hA.pick 3 rfl).pick 3 rfl).pick 3 rfl
      exact mapNow hA (.inr ⟨⟨⟨p0, p1⟩, ⟨f0, f1⟩, by rw [hC.lfe]; exact g⟩, by rw [hdelta p0 p1 g] at d; exact d, rfl, rfl⟩) (List.sublist_cons_self _ _)
    · -- a page less
      refine RUnmap_spec h (htr.at_ u) rfl (by simp only; omega) hp.inG hR (fun hn A' hA => ?_) fun x gl W' tab' tl' A' hx hg ht hlen hgl hmem hR' hW hHi hA => ?_
      · rw [hlo] at hn
        subst hn
        have hA : Own (DO fr r b t T tr F G W u (SlO s 5 (lvCells L) :: R)) A' := hA
        refine Without_spec (p := p) hA (hx0 hA) reads_slo (by omega) fun s' A'' hs' hA' => ?_
        have hA' : Own (DO fr r b t T tr F G W u (SlO s' 5 (lvCells (withoutL L p)) :: SlO s 5 (lvCells L) :: R)) A'' := ((hA'.pick 3 rfl).pick 3 rfl).pick 3 rfl
        have ew : withoutL L p = L := by
          have : ∀ M : List LvZ, findL M p = none → withoutL M p = M := by
            intro M
            induction M with
            | nil => intro _; rfl
            | cons a r ih =>
              intro hM
              unfold findL at hM
              split at hM
              · cases hM
              · rename_i g; rw [withoutL, if_neg g, ih hM]
          exact this L ho
        rw [ew] at hA'
        subst hx9
        exact bsel_t rfl (hk s' L A'' (by omega) (Dz.subR ⟨F, G, W, u, tab, lf, tl, hp, hR, hC, hu, hK, hH, hA'⟩ ((List.sublist_cons_self _ _).cons_cons _)))
      · have hx' : o = some x := by rw [← hlo]; exact hx
        subst hx'
        have hpr := hR.pr p x hx
        have hA : Own (RamW r fr [] W' :: Bud b (fun x => F x ∨ x ∈ gl) (fun x => G x ∧ x ∉ gl) (T - u + gl.length) :: TreeS t (useN (tr u) i ⟨par, quo, u, lent, true⟩ (u - gl.length)) :: SlO s 5 (lvCells L) :: R) A' := hA
        rw [htr.set_, show T - u + (gl.length : Int) = T - (u - gl.length) by omega] at hA
        have hA : Own (DO fr r b t T tr (fun x => F x ∨ x ∈ gl) (fun x => G x ∧ x ∉ gl) W' (u - gl.length) (SlO s 5 (lvCells L) :: R)) A' := hA
        refine Without_spec (p := p) hA (hx0 hA) reads_slo (by omega) fun s' A'' hs' hA' => ?_
        have hA' : Own (DO fr r b t T tr (fun x => F x ∨ x ∈ gl) (fun x => G x ∧ x ∉ gl) W' (u - gl.length) (SlO s' 5 (lvCells (withoutL L p)) :: SlO s 5 (lvCells L) :: R)) A'' := ((hA'.pick 3 rfl).pick 3 rfl).pick 3 rfl
        subst hx9
        have hfin : Q s' true A'' := hk s' (withoutL L p) A'' (by have := without_len L p; omega) (Dz.subR ⟨fun x => F x ∨ x ∈ gl, fun x => G x ∧ x ∉ gl, W', _, tab', _, tl', ⟨fun x hx => by
            rcases hx with hx | hx
            · exact hp.inF x hx
            · exact hp.inG x (hg x hx), fun x hx => hp.inG x hx.1⟩, hR', hC.unmap hR' hpr (by rw [hx]; simp) hlen hgl, by omega, fun f hf => ?_, fun j hj => (hHi j hj).trans (hH j hj), hA'⟩ ((List.sublist_cons_self _ _).cons_cons _))
        · refine bsel_t rfl ?_
          have : (x.frame == x.frame) = true := beq_self_eq_true _
          rw [this]; exact hfin
        · obtain ⟨k1, k2, k3⟩ := hK f hf
          exact ⟨by rw [hW f k3]; exact k1, ⟨k2, fun z => k3 (ht f z)⟩, fun z => k3 ((hmem f).1 z).1⟩
    · -- otherwise
      refine RProtect_spec h hp.inG hR (fun hn A' hA => ?_) fun x hx W' A' hR' hW hHi hA => ?_
      · rw [hlo] at hn
        subst hn
        subst hx9
        exact ⟨fun s' h' => Q s' true h', fun _ _ z => z, bsel_f rfl (hk s L A' (by omega) ⟨F, G, W, u, tab, lf, tl, hp, hR, hC, hu, hK, hH, hA⟩)⟩
      · have hx' : o = some x := by rw [← hlo]; exact hx
        subst hx'
        subst hx9
        have hA : Own (DO fr r b t T tr F G W' u (SlO s 5 (lvCells L) :: R)) A' := hA
        refine ⟨fun s' h' => Q s' true h', fun _ _ z => z, bsel_t rfl ?_⟩
        refine Without_spec (p := p) hA (hx0 hA) reads_slo (by omega) fun s' A2 hs' hA2 => ?_
        refine With_spec (k := 0) (y := ⟨p, ⟨x.frame, pw, pu, px⟩⟩) hA2 rfl reads_slo (by have := without_len L p; omega) fun s26 A3 hs26 hA3 => ?_
        have hA3 : Own (SlO s26 5 (lvCells (withL (withoutL L p) ⟨p, ⟨x.frame, pw, pu, px⟩⟩)) :: DO fr r b t T tr F G W' u (SlO s 5 (lvCells L) :: R)) A3 := hA3.cons fun C hC => hC.tail
        have hA3 : Own (DO fr r b t T tr F G W' u (SlO s26 5 (lvCells (withL (withoutL L p) ⟨p, ⟨x.frame, pw, pu, px⟩⟩)) :: SlO s 5 (lvCells L) :: R)) A3 := ((hA3.pick 3 rfl).pick 3 rfl).pick 3 rfl
        refine hk s26 _ A3 (by rw [with_len]; have := without_len L p; omega) (Dz.subR ⟨F, G, W', u, tab, _, tl, hp, hR', hC.prot hx, hu, fun f hf => ?_, fun j hj => (hHi j hj).trans (hH j hj), hA3⟩ ((List.sublist_cons_self _ _).cons_cons _))
        obtain ⟨k1, k2, k3⟩ := hK f hf
        exact ⟨by rw [hW f k3]; exact k1, k2, k3⟩
    · -- asked
      refine RQuery_spec h hp.inG hR (fun hn A' hA => ?_) fun x hx A' hA => ?_
      · rw [hlo] at hn
        subst hn
        exact bsel_t rfl (bsel_t rfl (hk s L A' (by omega) ⟨F, G, W, u, tab, lf, tl, hp, hR, hC, hu, hK, hH, hA⟩))
      · have hx' : o = some x := by rw [← hlo]; exact hx
        subst hx'
        refine bsel_t rfl (bsel_t (beq_self_eq_true _) ?_)
        simp only [beq_self_eq_true, Bool.and_self]
        exact hk s L A' (by omega) ⟨F, G, W, u, tab, lf, tl, hp, hR, hC, hu, hK, hH, hA⟩
  refine Find_spec h (hx0 h) reads_slo (by omega) (fun g => ?_) fun x g => ?_
  · exact ⟨fun x9 h' => x9 = 5 ∧ h' = A, fun x9 h' ⟨e1, e2⟩ => by rw [e2]; exact main none g x9 e1, bsel_t rfl ⟨rfl, rfl⟩⟩
  · exact ⟨fun x9 h' => x9 = 0 ∧ h' = A, fun x9 h' ⟨e1, e2⟩ => by rw [e2]; exact main (some x) g x9 e1, bsel_f rfl ⟨rfl, rfl⟩⟩
end Go.Dn
