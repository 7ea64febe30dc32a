/- What the proof stands on: Lend, Lend2, LawLends. -/
import Derived.Test.YtfchcnkgpklmhaaGreatLawMaps
/- A machine of spaces: what is lent. -/
namespace Go.Dn

variable {A : AH} {l R R' : List SP} {P : SP} {i k k2 b : Nat} {c : Mb} {u : Int} {F G : Int → Prop} {W : Int → Int → Int} {ls : List Ln} {z : PcZ} {sps : List (Int × Value)} {root box root1 root2 : Int} {tab tab1 tab2 : Tab} {lf lf1 lf2 : Int → Option Lf} {tl tl1 tl2 : List Int} {p p1 p2 : Nat} {s s1 s2 : Sl} {regs regs1 regs2 : List Reg} {lent lent1 lent2 : List (Int × Int)} {y : Reg}
theorem one_cells (h : Own l A) (e : l[i]? = some (OneS p box root s regs lent)) : ∃ lm, cellA A ⟨p, 0, none⟩ = some (.int .i64 box) ∧ cellA A ⟨p, 1, none⟩ = some (.int .i64 root) ∧ cellA A ⟨p, 2, none⟩ = some (.slice s.a s.len s.cap) ∧ cellA A ⟨p, 3, none⟩ = some (.map (some lm)) ∧
    (∃ es c, A lm = some (.map es c) ∧ MapE .i64 es (ivs lent)) := by
  obtain ⟨lm, h⟩ := OneS.openH (h.pick i e)
  obtain ⟨es, c, h1, h2, _⟩ := Own.map (i := 2) (l := oneL p lm box root s regs lent ++ l.eraseIdx i) rfl h
  exact ⟨lm, cell_at (i := 0) rfl h rfl, cell_at (i := 0) rfl h rfl, cell_at (i := 0) rfl h rfl, cell_at (i := 0) rfl h rfl, es, c, h1, h2⟩
theorem one_root {K : Int → Prop} (h : Own l A) (e : l[i]? = some (OneS p box root s regs lent)) (hk : K root) : aI .i64 ⟨p, 1, none⟩ A K := by
  obtain ⟨lm, _, h1, _⟩ := one_cells h e
  exact ⟨_, h1, hk⟩
theorem one_box {K : Int → Prop} (h : Own l A) (e : l[i]? = some (OneS p box root s regs lent)) (hk : K box) : aI .i64 ⟨p, 0, none⟩ A K := by
  obtain ⟨lm, h1, _⟩ := one_cells h e
  exact ⟨_, h1, hk⟩
theorem one_sl {K : Sl → Prop} (h : Own l A) (e : l[i]? = some (OneS p box root s regs lent)) (hk : K s) : aS ⟨p, 2, none⟩ A K := by
  obtain ⟨lm, _, _, h1, _⟩ := one_cells h e
  exact ⟨s, h1, hk⟩
theorem one_lent {id : Int} {K : Option Value → Prop} (h : Own l A) (e : l[i]? = some (OneS p box root s regs lent)) (hk : K ((lent.lookup id).map fun v => .int .i64 v)) : aM ⟨p, 3, none⟩ A fun mp => aLk A mp .i64 id K := by
  obtain ⟨lm, _, _, _, h1, es, c, h2, h3⟩ := one_cells h e
  obtain ⟨r, k1, k2, _, _⟩ := find_lookup (k := .i64) (key := id) es.toList (ivs lent) 0 h3
  exact ⟨_, h1, es.toList, by simp [mapEA, h2], r, k1, by rw [k2, ivs_lookup]; exact hk⟩
theorem reads_one : Reads (OneS p box root s regs lent) s 6 (regC regs) := fun B A ⟨lm, hB⟩ u => by
  have h1 : Own (SlO s 6 (regC regs) :: At p [.int .i64 box, .int .i64 root, .slice s.a s.len s.cap, .map (some lm)] :: MapI lm .i64 (ivs lent) :: []) B := Own.swap hB
  obtain ⟨B2, u2, hB2⟩ := h1.sat
  exact reads_slo B2 A hB2 (u2.trans u)
theorem two_swap (h : Own (MacL c F G W u ls z sps (OneS p1 box root1 s1 regs1 lent1 :: OneS p2 box root2 s2 regs2 lent2 :: l)) A) : Own (MacL c F G W u ls z sps (OneS p2 box root2 s2 regs2 lent2 :: OneS p1 box root1 s1 regs1 lent1 :: l)) A := MacL.mapR (fun _ hC => hC.swap) h
theorem Lend_spec {id to page at_ : Int} {pw pu : Bool} {Q : Int → AH → Prop} (h : Own (MacL c F G W u ls z sps (OneS p1 0 root1 s1 regs1 [] :: OneS p2 0 root2 Sl.nil [] lent2 :: l)) A) (hs1 : sps.lookup id = some (ptrV p1)) (hs2 : sps.lookup to = some (ptrV p2)) (hp : StdP c.N F G) (hN : c.N ≤ 1048576)
    (hR1 : Rest G W root1 tab1 lf1 tl1) (hR2 : Rest G W root2 tab2 lf2 tl2) (hb : regs1.length ≤ 64) (hf : findR regs1 page = some y) (hy : y.k = 0) (hu : 0 ≤ u ∧ u + 4 ≤ c.N) (hat : 0 ≤ at_ ∧ at_ < 34359738368) (hl2 : lf2 at_ = none) (hxG : ∀ x, lf1 page = some x → G x.frame)
    (h5 : lf1 page = none → ∀ A', Own (MacL c F G W u ls z sps (OneS p1 0 root1 s1 regs1 [] :: OneS p2 0 root2 Sl.nil [] lent2 :: l)) A' → Q 5 A')
    (h10 : ∀ x, lf1 page = some x → pw = true → y.w = false → ∀ A', Own (MacL c F G W u ls z sps (OneS p1 0 root1 s1 regs1 [] :: OneS p2 0 root2 Sl.nil [] lent2 :: l)) A' → Q 10 A')
    (hk : ∀ x, lf1 page = some x → (pw = true → y.w = true) → ∀ (tk : List Int) (W' : Int → Int → Int) (tab' : Tab) (s' : Sl) A', tk.length = needT tab2 at_ → (∀ x ∈ tk, F x) → StdP c.N (fun x => F x ∧ x ∉ tk) (fun x => G x ∨ x ∈ tk) → Rest (fun x => G x ∨ x ∈ tk) W' root2 tab' (setL lf2 at_ (some ⟨x.frame, pw, pu, false⟩)) (tl2 ++ tk) →
      (∀ f, f ∉ tk → f ∉ tl2 → W' f = W f) → s'.a ≠ none → Own (MacL c (fun x => F x ∧ x ∉ tk) (fun x => G x ∨ x ∈ tk) W' (u + tk.length) ls z sps (OneS p1 0 root1 s1 regs1 [(page, 1)] :: OneS p2 0 root2 s' [⟨at_, at_ + 1, pw, pu, false, 1⟩] lent2 :: l)) A' → Q 0 A') :
    space_Machine_Lend_A (some ⟨c.m, 0, none⟩) id page to at_ pw pu false Q A := by
  unfold space_Machine_Lend_A space_Machine_Lend_G
  refine ld_M (i := 3) h rfl rfl (lk_M (i := 4) h rfl ?_)
  rw [hs1]
  refine ⟨some ⟨p1, 0, none⟩, rfl, ld_M (i := 3) h rfl rfl (lk_M (i := 4) h rfl ?_)⟩
  rw [hs2]
  refine ⟨some ⟨p2, 0, none⟩, rfl, fun A' => A' = A, fun A1 e1 => ?_, bsel_f rfl (bsel_f rfl rfl)⟩
  subst e1
  refine one_sl (i := 7) h rfl ?_
  refine Find_spec (k := 7) h rfl reads_one (by omega) (fun g => by rw [hf] at g; cases g) fun y' hf' _ _ _ => ?_
  rw [hf] at hf'
  cases hf'
  refine one_box (i := 7) h rfl (one_root (i := 7) h rfl (purse_head (k := 3) h rfl ⟨one_root (i := 7) h rfl rfl, ?_⟩))
  refine RQuery_spec h hp.inG hR1 (fun hl A2 h2 => ?_) fun x hl A2 h2 => ?_
  · refine ⟨fun _ => False, fun _ q => q.elim, bsel_f rfl (bsel_f (by rw [hy]; rfl) (bsel_t rfl (h5 hl A2 h2)))⟩
  · refine ⟨fun A' => A' = A2, fun A3 e3 => ?_, bsel_f rfl (bsel_f (by rw [hy]; rfl) (bsel_f rfl rfl))⟩
    subst e3
    refine ⟨fun A' => A' = A3 ∧ (pw = true → y.w = true), fun A4 ⟨e4, hwr⟩ => ?_, ?_⟩
    · subst e4
      refine one_sl (i := 8) h2 rfl ?_
      have hw : IntKind.wrap .i64 (at_ + 1) = at_ + 1 := w64 (by omega) (by omega)
      rw [hw]
      have hrb : rightB at_ (at_ + 1) = true := by
        unfold rightB
        rw [decide_eq_true (by omega), decide_eq_true (by omega), decide_eq_true (by omega), decide_eq_true (by omega)]
        rfl
      refine Add_nil (y := ⟨at_, at_ + 1, pw, pu, false, 1⟩) h2 hrb fun s43 A5 hs43 h3 => bsel_f rfl ?_
      have h3 := MacL.backN h3
      refine one_box (i := 9) h3 rfl (one_root (i := 9) h3 rfl (purse_head (k := 3) h3 rfl ⟨one_root (i := 9) h3 rfl rfl, ?_⟩))
      have hx0 := has0.1 (hp.inG x.frame (hxG x hl))
      refine sMap h3 hp hu hR2 (fun g => by omega) (fun _ _ _ _ g => absurd hl2 g) fun _ _ _ _ _ tk W' tab' A6 hlen htk hp6 hR6 hW6 h6 => bsel_f rfl ?_
      have h6 : Own (MacL c (fun x => F x ∧ x ∉ tk) (fun x => G x ∨ x ∈ tk) W' (u + tk.length) ls z sps (OneS p2 0 root2 Sl.nil [] lent2 :: SlO s43 6 (regC [⟨at_, at_ + 1, pw, pu, false, 1⟩]) :: OneS p1 0 root1 s1 regs1 [] :: l)) A6 := MacL.mapR (fun C hC => ((hC.cons fun D hD => hD.swap).swap)) h6
      simp only [onSome_some, add_at, Nat.zero_add]
      refine set_regs h6 fun A7 h7 => ?_
      have h7 := two_swap h7
      obtain ⟨lm, h8⟩ := MacL.openOne h7
      refine ld_M (i := 7) h8 rfl rfl (lk_M (i := 9) h8 rfl ⟨0, rfl, st_M (i := 9) h8 rfl fun A8 h9 => ?_⟩)
      exact hk x hl hwr tk W' tab' s43 A8 hlen htk hp6 hR6 hW6 hs43 (MacL.closeOne (lm := lm) h9)
    · refine bsel_in (fun g => ?_) fun g => bsel_f rfl ⟨rfl, fun q => by rw [q] at g; cases g⟩
      refine bsel_in (fun g2 => h10 x hl g (by simpa using g2) A3 h2) fun g2 => bsel_f rfl ⟨rfl, fun _ => by simpa using g2⟩
end Go.Dn
/- A machine of spaces: what is lent comes back; spaces that go. -/
namespace Go.Dn

variable {A : AH} {l R R' : List SP} {P : SP} {i k k2 b : Nat} {c : Mb} {u : Int} {F G : Int → Prop} {W : Int → Int → Int} {ls : List Ln} {z : PcZ} {sps : List (Int × Value)} {root box root1 root2 : Int} {tab tab1 tab2 : Tab} {lf lf1 lf2 : Int → Option Lf} {tl tl1 tl2 : List Int} {p p1 p2 : Nat} {s s1 s2 : Sl} {regs regs1 regs2 : List Reg} {lent lent1 lent2 : List (Int × Int)} {y : Reg}
theorem SpUnmap_busy {id q1 q2 : Int} {Q : Int → AH → Prop} (h : Own (MacL c F G W u ls z sps (OneS p 0 root s regs lent :: l)) A) (hs : sps.lookup id = some (ptrV p))
    (hr1 : rightB q1 q2 = true) (hg : goodB regs = true) (hb : regs.length ≤ 64) (hcn : (cutR regs q1 q2).length ≤ 64) (hbz : (lentBusy lent q1 q2 || regBusy regs q1 q2) = true)
    (hk : ∀ A', Own (MacL c F G W u ls z sps (OneS p 0 root s regs lent :: l)) A' → Q 11 A') : space_Machine_Unmap_A (some ⟨c.m, 0, none⟩) id q1 q2 Q A := by
  unfold space_Machine_Unmap_A space_Machine_Unmap_G
  refine ld_M (i := 3) h rfl rfl (lk_M (i := 4) h rfl ?_)
  rw [hs]
  refine ⟨some ⟨p, 0, none⟩, rfl, bsel_f rfl (one_sl (i := 7) h rfl ?_)⟩
  refine Cut_spec (k := 7) h rfl reads_one hr1 hg hcn fun s7 A1 hs7 h1 => bsel_f rfl ?_
  have h1 : Own (MacL c F G W u ls z sps (OneS p 0 root s regs lent :: SlO s7 6 (regC (cutR regs q1 q2)) :: l)) A1 := MacL.mapR (fun C hC => hC.swap) (MacL.backN h1)
  refine busyM h1 hb fun A2 h2 => ?_
  rw [hbz]
  exact bsel_t rfl (hk A2 (MacL.mapR (fun C hC => hC.cons fun D hD => hD.tail) h2))
theorem Close_busy {id : Int} {Q : Int → AH → Prop} (h : Own (MacL c F G W u ls z sps (OneS p 0 root s regs lent :: l)) A) (hs : sps.lookup id = some (ptrV p)) (hb : regs.length ≤ 64) (hbz : (lentBusy lent 0 34359738368 || regBusy regs 0 34359738368) = true)
    (hk : ∀ A', Own (MacL c F G W u ls z sps (OneS p 0 root s regs lent :: l)) A' → Q 11 A') : space_Machine_Close_A (some ⟨c.m, 0, none⟩) id Q A := by
  unfold space_Machine_Close_A space_Machine_Close_G
  refine ld_M (i := 3) h rfl rfl (lk_M (i := 4) h rfl ?_)
  rw [hs]
  refine ⟨some ⟨p, 0, none⟩, rfl, bsel_f rfl (busyM h hb fun A2 h2 => ?_)⟩
  rw [hbz]
  exact bsel_t rfl (hk A2 h2)
/-- A borrowed page that goes. -/
theorem take_lent {id page : Int} {x : Lf} {Q : AH → Prop} (h : Own (MacL c F G W u ls z sps (OneS p 0 root s regs lent :: l)) A) (hp : StdP c.N F G) (hR : Rest G W root tab lf tl) (hu : tl.length ≤ u) (hb : regs.length ≤ 64)
    (hf : findR regs page = some y) (hy : y.k = 1) (hl : lf page = some x) (hz : z.tag.lookup id = none)
    (hk : ∀ (gl : List Int) (W' : Int → Int → Int) (tab' : Tab) (tl' : List Int) A', (∀ y ∈ gl, y ∈ tl) → tl'.length + gl.length = tl.length → StdP c.N (fun y => F y ∨ y ∈ gl) (fun y => G y ∧ y ∉ gl) → Rest (fun y => G y ∧ y ∉ gl) W' root tab' (setL lf page none) tl' → (∀ f, f ∉ tl → W' f = W f) →
      Own (MacL c (fun y => F y ∨ y ∈ gl) (fun y => G y ∧ y ∉ gl) W' (u - gl.length) ls z sps (OneS p 0 root s regs lent :: l)) A' → Q A') :
    space_Machine_take_A (some ⟨c.m, 0, none⟩) id (some ⟨p, 0, none⟩) page Q A := by
  unfold space_Machine_take_A space_Machine_take_G
  refine one_sl (i := 7) h rfl ?_
  refine Find_spec (k := 7) h rfl reads_one (by omega) (fun g => by rw [hf] at g; cases g) fun y' hf' _ _ _ => ?_
  rw [hf] at hf'
  cases hf'
  refine one_box (i := 7) h rfl (one_root (i := 7) h rfl (purse_head (k := 3) h rfl ⟨one_root (i := 7) h rfl rfl, ?_⟩))
  refine sUnmap h hp hu hR (fun g => by rw [hl] at g; cases g) fun x' gl W' tab' tl' A1 hx' hgl hlen hmem hp1 hR1 hW1 h1 => ?_
  refine ⟨fun A' => A' = A1, fun A2 e => ?_, bsel_t rfl (bsel_f (by rw [hy]; rfl) rfl)⟩
  subst e
  exact forget_none h1 hz (hk gl W' tab' tl' A2 hgl hlen hp1 hR1 hW1 h1)
theorem Back_none {id to page at_ : Int} {Q : Int → AH → Prop} (h : Own (MacL c F G W u ls z sps (OneS p1 0 root1 s1 regs1 lent1 :: OneS p2 0 root2 s2 regs2 lent2 :: l)) A) (hs1 : sps.lookup id = some (ptrV p1)) (hs2 : sps.lookup to = some (ptrV p2)) (hn : lent1.lookup page = none) (hk : Q 5 A) :
    space_Machine_Back_A (some ⟨c.m, 0, none⟩) id page to at_ Q A := by
  unfold space_Machine_Back_A space_Machine_Back_G
  refine ld_M (i := 3) h rfl rfl (lk_M (i := 4) h rfl ?_)
  rw [hs1]
  refine ⟨some ⟨p1, 0, none⟩, rfl, ld_M (i := 3) h rfl rfl (lk_M (i := 4) h rfl ?_)⟩
  rw [hs2]
  refine ⟨some ⟨p2, 0, none⟩, rfl, fun _ => False, fun _ q => q.elim, bsel_f rfl (bsel_f rfl (one_lent (i := 7) h rfl ?_))⟩
  rw [hn]
  exact ⟨0, rfl, bsel_t rfl hk⟩
theorem Back_spec {id to page at_ : Int} {x w : Lf} {Q : Int → AH → Prop} (h : Own (MacL c F G W u ls z sps (OneS p1 0 root1 s1 regs1 [(page, 1)] :: OneS p2 0 root2 s2 [y] lent2 :: l)) A) (hs1 : sps.lookup id = some (ptrV p1)) (hs2 : sps.lookup to = some (ptrV p2)) (hp : StdP c.N F G)
    (hR1 : Rest G W root1 tab1 lf1 tl1) (hR2 : Rest G W root2 tab2 lf2 tl2) (hu : tl2.length ≤ u) (hya : y.a = at_) (hyb : y.b = at_ + 1) (hyk : y.k = 1) (hat : 0 ≤ at_ ∧ at_ < 34359738368) (hl1 : lf1 page = some x) (hl2 : lf2 at_ = some w) (hfr : x.frame = w.frame) (hz : z.tag.lookup to = none)
    (hk : ∀ (gl : List Int) (W' : Int → Int → Int) (tab' : Tab) (tl' : List Int) (s' : Sl) A', (∀ y ∈ gl, y ∈ tl2) → tl'.length + gl.length = tl2.length → StdP c.N (fun y => F y ∨ y ∈ gl) (fun y => G y ∧ y ∉ gl) → Rest (fun y => G y ∧ y ∉ gl) W' root2 tab' (setL lf2 at_ none) tl' → (∀ f, f ∉ tl2 → W' f = W f) →
      Own (MacL c (fun y => F y ∨ y ∈ gl) (fun y => G y ∧ y ∉ gl) W' (u - gl.length) ls z sps (OneS p1 0 root1 s1 regs1 [] :: OneS p2 0 root2 s' [] lent2 :: l)) A' → Q 0 A') :
    space_Machine_Back_A (some ⟨c.m, 0, none⟩) id page to at_ Q A := by
  have hf : findR [y] at_ = some y := find_one (by omega) (by omega)
  unfold space_Machine_Back_A space_Machine_Back_G
  refine ld_M (i := 3) h rfl rfl (lk_M (i := 4) h rfl ?_)
  rw [hs1]
  refine ⟨some ⟨p1, 0, none⟩, rfl, ld_M (i := 3) h rfl rfl (lk_M (i := 4) h rfl ?_)⟩
  rw [hs2]
  refine ⟨some ⟨p2, 0, none⟩, rfl, fun A' => A' = A, fun A1 e1 => ?_, bsel_f rfl (bsel_f rfl (one_lent (i := 7) h rfl ⟨1, by simp [List.lookup], bsel_f rfl rfl⟩))⟩
  subst e1
  refine one_box (i := 7) h rfl (one_root (i := 7) h rfl (purse_head (k := 3) h rfl ⟨one_root (i := 7) h rfl rfl, ?_⟩))
  refine RQuery_spec h hp.inG hR1 (fun hl A2 h2 => by rw [hl1] at hl; cases hl) fun x' hx' A2 h2 => ?_
  rw [hl1] at hx'
  cases hx'
  refine one_box (i := 8) h2 rfl (one_root (i := 8) h2 rfl (purse_head (k := 3) h2 rfl ⟨one_root (i := 8) h2 rfl rfl, ?_⟩))
  refine RQuery_spec h2 hp.inG hR2 (fun hl A3 h3 => by rw [hl2] at hl; cases hl) fun w' hw' A3 h3 => ?_
  rw [hl2] at hw'
  cases hw'
  refine ⟨fun A' => A' = A3, fun A4 e4 => ?_, one_sl (i := 8) h3 rfl ?_⟩
  · subst e4
    have h3 : Own (MacL c F G W u ls z sps (OneS p2 0 root2 s2 [y] lent2 :: OneS p1 0 root1 s1 regs1 [(page, 1)] :: l)) A4 := two_swap h3
    refine take_lent h3 hp hR2 hu (by simp) hf hyk hl2 hz fun gl W' tab' tl' A5 g1 g2 g3 g4 g5 h5 => ?_
    refine one_sl (i := 7) h5 rfl ?_
    have hw : IntKind.wrap .i64 (at_ + 1) = at_ + 1 := w64 (by omega) (by omega)
    rw [hw]
    have hrb : rightB at_ (at_ + 1) = true := by
      unfold rightB
      rw [decide_eq_true (by omega), decide_eq_true (by omega), decide_eq_true (by omega), decide_eq_true (by omega)]
      rfl
    have hcut : cutR [y] at_ (at_ + 1) = [] := by rw [← hyb, ← hya]; exact cut_all (by omega)
    refine Cut_spec (k := 7) h5 rfl reads_one hrb (good_one (by omega) (by omega) (by omega)) (by rw [hcut]; simp) fun s62 A6 _ h6 => ?_
    rw [hcut] at h6
    have h6 : Own (MacL c (fun y => F y ∨ y ∈ gl) (fun y => G y ∧ y ∉ gl) W' (u - gl.length) ls z sps (OneS p2 0 root2 s2 [y] lent2 :: SlO s62 6 (regC []) :: OneS p1 0 root1 s1 regs1 [(page, 1)] :: l)) A6 := MacL.mapR (fun C hC => hC.swap) (MacL.backN h6)
    simp only [onSome_some, add_at, Nat.zero_add]
    refine set_regs h6 fun A7 h7 => ?_
    have h7 := two_swap h7
    obtain ⟨lm, h8⟩ := MacL.openOne h7
    refine ⟨fun A' => Own (MacL c (fun y => F y ∨ y ∈ gl) (fun y => G y ∧ y ∉ gl) W' (u - gl.length) ls z sps (OneS p1 0 root1 s1 regs1 [] :: OneS p2 0 root2 s62 [] lent2 :: l)) A', fun A8 h9 => hk gl W' tab' tl' s62 A8 g1 g2 g3 g4 g5 h9, ?_⟩
    refine ld_M (i := 7) h8 rfl rfl (lk_M (i := 9) h8 rfl ⟨1, by simp [ivs, List.lookup], st_M (i := 9) h8 rfl fun A8 h9 => ?_⟩)
    have e1 : putM (ivs [(page, 1)]) page (.int .i64 (IntKind.wrap .i64 (1 - 1))) = [(page, .int .i64 0)] := by simp [ivs, putM]; decide
    rw [e1] at h9
    refine ld_M (i := 7) h9 rfl rfl (lk_M (i := 9) h9 rfl ⟨0, by simp [List.lookup], bsel_t rfl ?_⟩)
    refine ld_M (i := 7) h9 rfl rfl (dl_M (i := 9) h9 rfl fun A9 h10 => MacL.closeOne (lm := lm) ?_)
    have e2 : delM [(page, (.int .i64 0 : Value))] page = [] := by simp [delM]
    rw [e2] at h10
    exact h10
  · refine Find_spec (k := 8) h3 rfl reads_one (by simp) (fun g => by rw [hf] at g; cases g) fun y' hf' _ _ _ => ?_
    rw [hf] at hf'
    cases hf'
    exact bsel_f rfl (bsel_f (by rw [hyk]; rfl) (bsel_f rfl (bsel_f rfl (bsel_f (by rw [hfr]; simp) rfl))))
theorem pDrop_none {id : Int} {tg : Nat} {Q : AH → Prop} (h : Own (PcS tg z :: R) A) (hz : z.tag.lookup id = none) (hk : Q A) : pcid_Tags_Drop_A (some ⟨tg, 0, none⟩) id Q A := by
  obtain ⟨bo, bt, hh⟩ := PcS.openH h
  unfold pcid_Tags_Drop_A
  refine ld_M (i := 0) hh rfl rfl (lk_M (i := 2) hh rfl ?_)
  rw [ivs_lookup, hz]
  exact ⟨0, rfl, bsel_f rfl hk⟩
theorem sDrop {Q : Int → AH → Prop} (h : Own (MacL c F G W u ls z sps l) A) (hp : StdP c.N F G) (hR : Rest G W root tab lf tl) (hl : ∀ q, lf q = none) (hu : 1 ≤ u)
    (hk : ∀ A', StdP c.N (fun x => F x ∨ x = root) (fun x => G x ∧ x ≠ root) → Own (MacL c (fun x => F x ∨ x = root) (fun x => G x ∧ x ≠ root) W (u - 1) ls z sps l) A' → Q 0 A') : table_Drop_A (some ⟨c.r, 0, none⟩) (some ⟨c.b, 0, none⟩) (some ⟨c.t, 0, none⟩) 0 root Q A := by
  have hroot : G root := hR.tg ((hR.T.root 0 root).2 ⟨rfl, rfl⟩)
  refine RDrop_spec (i := 0) h rfl rfl hu hp.inG hR (fun ⟨q, hq⟩ => absurd (hl q) hq) fun _ A' hA => hk A' ⟨fun x hx => ?_, fun x hx => hp.inG x hx.1⟩ ?_
  · rcases hx with hx | hx
    · exact hp.inF x hx
    · subst hx; exact hp.inG _ hroot
  · have hA : Own (RamW c.r c.N [] W :: Bud c.b (fun x => F x ∨ x = root) (fun x => G x ∧ x ≠ root) (c.N - 1 - u + 1) :: TreeS c.t [⟨-1, c.N - 1, u - 1, 0, true⟩] :: At c.m (macC c) :: MapI c.sp .i64 sps :: TlbS c.tl ls :: PcS c.tg z :: l) A' := hA
    rw [show c.N - 1 - u + 1 = c.N - 1 - (u - 1) by omega] at hA
    exact hA
/-- A space goes that has one page at most. -/
theorem Close_spec {id : Int} {ps : List Int} {Q : Int → AH → Prop} (h : Own (MacL c F G W u ls z sps (OneS p 0 root s regs lent :: l)) A) (hs : sps.lookup id = some (ptrV p)) (hp : StdP c.N F G) (hR : Rest G W root tab lf tl) (hu : tl.length + 1 ≤ u) (hb : regs.length ≤ 64)
    (hbz : (lentBusy lent 0 34359738368 || regBusy regs 0 34359738368) = false) (hz : z.tag.lookup id = none)
    (hps : (ps = [] ∧ ∀ q, lf q = none) ∨ (∃ page x, ps = [page] ∧ (∀ q, lf q ≠ none ↔ q = page) ∧ lf page = some x ∧ (∃ y, findR regs page = some y ∧ y.k = 0) ∧ G x.frame ∧ x.frame ∉ tl))
    (hk : ∀ (F' G' : Int → Prop) (W' : Int → Int → Int) A', StdP c.N F' G' → (∀ f, G' f → G f) → (∀ f, G f → f ∉ tl → (∀ page x, lf page = some x → x.frame ≠ f) → G' f) → (∀ f, f ∉ tl → W' f = W f) →
      Own (MacL c F' G' W' (u - tl.length - ps.length) ls z (delM sps id) l) A' → Q 0 A') :
    space_Machine_Close_A (some ⟨c.m, 0, none⟩) id Q A := by
  unfold space_Machine_Close_A space_Machine_Close_G
  refine ld_M (i := 3) h rfl rfl (lk_M (i := 4) h rfl ?_)
  rw [hs]
  refine ⟨some ⟨p, 0, none⟩, rfl, bsel_f rfl (busyM h hb fun A2 h2 => ?_)⟩
  rw [hbz]
  refine bsel_f rfl ?_
  refine one_box (i := 7) h2 rfl (purse_head (k := 3) h2 rfl (one_root (i := 7) h2 rfl ?_))
  refine RPages_spec h2 hp.inG hR fun s16 ps' A3 hs16 hn16 hrise hmem h3 => ?_
  have hpe : ps' = ps := by
    rcases hps with ⟨e, hl⟩ | ⟨page, x, e, hl, _⟩
    · subst e
      exact List.eq_nil_iff_forall_not_mem.2 fun x hx => (hmem x).1 hx (hl x)
    · subst e
      have g3 : ∀ x ∈ ps', x = page := fun x hx => (hl x).1 ((hmem x).1 hx)
      have g4 : page ∈ ps' := (hmem page).2 ((hl page).2 rfl)
      have g5 : ps'.length ≤ 1 := rise_all hrise (fun x hx => by
        have h6 := (hmem x).1 hx
        cases e : lf x with
        | none => exact absurd e h6
        | some w => exact hR.pr x w e) fun x hx y hy => by rw [g3 x hx, g3 y hy]
      match ps', g4, g5 with
      | [a], g4, _ => simp at g4; rw [g4]
  subst hpe
  have h3 : Own (SlO s16 1 (intsV ps') :: MacL c F G W u ls z sps (OneS p 0 root s regs lent :: l)) A3 := Own.swap h3
  have h3 : Own (MacL c F G W u ls z sps (OneS p 0 root s regs lent :: SlO s16 1 (intsV ps') :: l)) A3 := MacL.mapR (fun C hC => hC.swap) (MacL.backN h3)
  -- behind the pages: the tags, the tables, the space
  have fin : ∀ (F1 G1 : Int → Prop) (W1 : Int → Int → Int) (tab1 : Tab) (lf1 : Int → Option Lf) (tl1 : List Int) (u1 : Int) (A4 : AH), StdP c.N F1 G1 → Rest G1 W1 root tab1 lf1 tl1 → (∀ q, lf1 q = none) → 1 ≤ u1 → (∀ f, G1 f → G f) → (∀ f, G f → f ∉ tl → (∀ page x, lf page = some x → x.frame ≠ f) → G1 f) → (∀ f, f ∉ tl → W1 f = W f) → u1 - 1 = u - tl.length - ps'.length →
      Own (MacL c F1 G1 W1 u1 ls z sps (OneS p 0 root s regs lent :: SlO s16 1 (intsV ps') :: l)) A4 → aP ⟨c.m, 4, none⟩ A4 fun pt37 => pcid_Tags_Drop_A pt37 id (fun h38 => aI .i64 ⟨p, 1, none⟩ h38 fun n40 => table_Drop_A (some ⟨c.r, 0, none⟩) (some ⟨c.b, 0, none⟩) (some ⟨c.t, 0, none⟩) 0 n40 (fun _ h42 => aM ⟨c.m, 6, none⟩ h42 fun mp44 => aMDl h42 mp44 .i64 id fun h45 => Q 0 h45) h38) A4 :=
    fun F1 G1 W1 tab1 lf1 tl1 u1 A4 hp1 hR1 hl1 hu1 hG1 hG2 hW1 hu2 h4 => by
      refine ld_P (i := 3) h4 rfl rfl (pDrop_none (MacL.tags h4) hz (one_root (i := 7) h4 rfl ?_))
      refine sDrop h4 hp1 hR1 hl1 hu1 fun A5 hp5 h5 => ld_M (i := 3) h5 rfl rfl (dl_M (i := 4) h5 rfl fun A6 h6 => ?_)
      have hroot : root ∈ tl := (hR.mem root).2 ⟨0, 0, (hR.T.root 0 root).2 ⟨rfl, rfl⟩⟩
      rw [hu2] at h6
      exact hk _ _ W1 A6 hp5 (fun f hf => hG1 f hf.1) (fun f hf hft hfx => ⟨hG2 f hf hft hfx, fun e => hft (by rw [e]; exact hroot)⟩) hW1 (MacL.mapR (fun C hC => hC.tail.tail) h6)
  have hl16 : s16.len = ps'.length := hs16
  rcases hps with ⟨e, hl⟩ | ⟨page, x, e, hl, hx, ⟨y, hy1, hy2⟩, hxG, hxt⟩
  · subst e
    refine ⟨fun v m A' => A' = A3 ∧ v = 0, ⟨0, rfl, rfl⟩, fun v m A4 ⟨e1, e2⟩ => ?_⟩
    subst e1 e2
    refine bsel_f (by rw [hl16]; rfl) ?_
    have hbare := hR.bare hl
    have := fin F G W tab lf tl u A4 hp hR hl (by omega) (fun _ g => g) (fun _ g _ _ => g) (fun _ _ => rfl) (by rw [hbare]; simp) h3
    refine ⟨fun A' => A' = A4, fun A5 e5 => ?_, ld_P (i := 3) h3 rfl rfl (pTag_spec (MacL.tags h3) (by rw [hz]; exact bsel_f rfl rfl))⟩
    subst e5
    exact this
  · subst e
    refine ⟨fun v m A' => (v = 0 ∧ m = 1 ∧ A' = A3) ∨ (v = 1 ∧ m = 0 ∧ ∃ (gl : List Int) (W' : Int → Int → Int) (tab' : Tab) (tl' : List Int), (∀ y ∈ gl, y ∈ tl) ∧ tl'.length + gl.length = tl.length ∧ StdP c.N (fun y => (F y ∨ y ∈ gl) ∨ y = x.frame) (fun y => (G y ∧ y ∉ gl) ∧ y ≠ x.frame) ∧ Rest (fun y => (G y ∧ y ∉ gl) ∧ y ≠ x.frame) W' root tab' (setL lf page none) tl' ∧ (∀ f, f ∉ tl → W' f = W f) ∧
      Own (MacL c (fun y => (F y ∨ y ∈ gl) ∨ y = x.frame) (fun y => (G y ∧ y ∉ gl) ∧ y ≠ x.frame) W' (u - gl.length - 1) ls z sps (OneS p 0 root s regs lent :: SlO s16 1 (intsV [page]) :: l)) A'), ⟨1, .inl ⟨rfl, rfl, rfl⟩⟩, ?_⟩
    intro v m A4 hv
    rcases hv with ⟨e1, e2, e3⟩ | ⟨e1, e2, gl, W', tab', tl', g1, g2, g3, g4, g5, h4⟩
    · subst e1 e2 e3
      refine bsel_t (by rw [hl16]; rfl) ?_
      obtain ⟨a, q3, q4⟩ := rd_i (ids := [page]) (v := 0) (k := 8) h3 rfl reads_slo rfl
      rw [q3]
      refine inB_in (by omega) (by rw [hl16]; simp) (q4 _ ?_)
      exact take_spec h3 hp hR hu hb hy1 hy2 hx hxG hxt hz fun gl W' tab' tl' A5 g1 g2 g3 g4 g5 h5 => ⟨0, by omega, .inr ⟨rfl, rfl, gl, W', tab', tl', g1, g2, g3, g4, g5, h5⟩⟩
    · subst e1 e2
      refine bsel_f (by rw [hl16]; rfl) ?_
      have hnone : ∀ q, setL lf page none q = none := fun q => by
        unfold setL
        split
        · rfl
        · rename_i hne
          cases e : lf q with
          | none => rfl
          | some w => exact absurd ((hl q).1 (by rw [e]; simp)) hne
      have hbare := g4.bare hnone
      have hgl : gl.length + 1 = tl.length := by rw [hbare] at g2; simp at g2; omega
      have := fin _ _ W' tab' _ tl' (u - gl.length - 1) A4 g3 g4 hnone (by omega) (fun f hf => hf.1.1) (fun f hf hft hfx => ⟨⟨hf, fun g => hft (g1 f g)⟩, fun e => hfx page x hx e.symm⟩) g5 (by simp; omega) h4
      refine ⟨fun A' => A' = A4, fun A5 e5 => ?_, ld_P (i := 3) h4 rfl rfl (pTag_spec (MacL.tags h4) (by rw [hz]; exact bsel_f rfl rfl))⟩
      subst e5
      exact this
end Go.Dn
/- The law SpaceLends: what is lent leads to the lender's frame, and to nothing when it is back. -/
namespace Go.Dn

variable {A : AH} {l R : List SP}
theorem mem1 {a b : Int} (h : a ∈ [b]) : a = b := by simpa using h
theorem may_u {w : Bool} : mayZ w true false false true false = true := by cases w <;> rfl
theorem right_one {a : Int} (h : 0 ≤ a ∧ a < 34359738368) : rightB a (a + 1) = true := by
  unfold rightB
  rw [decide_eq_true (by omega), decide_eq_true (by omega), decide_eq_true (by omega), decide_eq_true (by omega)]
  rfl
theorem setL_only {x : Lf} {p : Int} : (∀ q, setL (fun _ => none) p (some x) q ≠ none ↔ q = p) ∧ setL (fun _ => none) p (some x) p = some x := by
  refine ⟨fun q => ?_, by unfold setL; rw [if_pos rfl]⟩
  unfold setL
  split
  · rename_i e; simp [e]
  · rename_i e; simp [e]
theorem SpaceLends_spec {N pg at_ : Int} {wr more : Bool} {Q : Bool → AH → Prop} (h : Own l A) (hk : ∀ A', Own l A' → Q true A') : demesnelaw12_SpaceLends_A N pg at_ wr more Q A := by
  unfold demesnelaw12_SpaceLends_A demesnelaw12_SpaceLends_G
  refine ⟨fun A' => Own l A' ∧ 30 ≤ N ∧ N ≤ 120 ∧ (0 ≤ pg ∧ pg < 34359738368) ∧ (0 ≤ at_ ∧ at_ < 34359738368), fun A1 ⟨h1, n1, n2, hpg, hat⟩ => ?_, ?_⟩
  · have hw1 : IntKind.wrap .i64 (pg + 1) = pg + 1 := w64 (by omega) (by omega)
    have hw2 : IntKind.wrap .i64 (at_ + 1) = at_ + 1 := w64 (by omega) (by omega)
    have hw3 : IntKind.wrap .i64 (N - 3) = N - 3 := w64 (by omega) (by omega)
    rw [hw1, hw2, hw3]
    refine Begin_spec (N := N) (tags := 3) h1 ⟨by omega, by omega⟩ ⟨by omega, by omega⟩ fun c F G W b A2 hc hp hkn h2 => ?_
    have hcN : c.N = N := hc
    have hp : StdP c.N F G := by rw [hcN]; exact hp
    have hT : ∃ T : List SP, T = At b [.int .i64 0, .int .i64 (-1), .int .i64 (N - 1), .int .i64 2] :: l := ⟨_, rfl⟩
    obtain ⟨T, hT⟩ := hT
    rw [← hT] at h2
    have fin : ∀ A', Own T A' → Own l A' := fun A' h' => by rw [hT] at h'; exact h'.tail
    have hyA : rightB pg (pg + 1) = true := right_one hpg
    have hyB : rightB at_ (at_ + 1) = true := right_one hat
    have hfA : findR [(⟨pg, pg + 1, wr, true, false, 0⟩ : Reg)] pg = some ⟨pg, pg + 1, wr, true, false, 0⟩ := find_one (by simp) (by simp only; omega)
    have hfB : findR [(⟨at_, at_ + 1, more, true, false, 1⟩ : Reg)] at_ = some ⟨at_, at_ + 1, more, true, false, 1⟩ := find_one (by simp) (by simp only; omega)
    have hgA : goodB [(⟨pg, pg + 1, wr, true, false, 0⟩ : Reg)] = true := good_one (by simp only; omega) (by simp only; omega) (by simp only; omega)
    have hgB : goodB [(⟨at_, at_ + 1, more, true, false, 1⟩ : Reg)] = true := good_one (by simp only; omega) (by simp only; omega) (by simp only; omega)
    have hcA : cutR [(⟨pg, pg + 1, wr, true, false, 0⟩ : Reg)] pg (pg + 1) = [] := cut_all (y := ⟨pg, pg + 1, wr, true, false, 0⟩) (by simp only; omega)
    have hcB : cutR [(⟨at_, at_ + 1, more, true, false, 1⟩ : Reg)] at_ (at_ + 1) = [] := cut_all (y := ⟨at_, at_ + 1, more, true, false, 1⟩) (by simp only; omega)
    have hpA : ∀ y ∈ [(⟨pg, pg + 1, wr, true, false, 0⟩ : Reg)], 0 ≤ y.a ∧ y.b ≤ 34359738368 := fun y hy => by simp at hy; subst hy; simp only; omega
    have hpB : ∀ y ∈ [(⟨at_, at_ + 1, more, true, false, 1⟩ : Reg)], 0 ≤ y.a ∧ y.b ≤ 34359738368 := fun y hy => by simp at hy; subst hy; simp only; omega
    have hbA : (lentBusy [(pg, 1)] pg (pg + 1) || regBusy [(⟨pg, pg + 1, wr, true, false, 0⟩ : Reg)] pg (pg + 1)) = true := by
      simp [lentBusy]; omega
    have hbA2 : (lentBusy [(pg, 1)] 0 34359738368 || regBusy [(⟨pg, pg + 1, wr, true, false, 0⟩ : Reg)] 0 34359738368) = true := by
      have : lentBusy [(pg, 1)] 0 34359738368 = true := by simp [lentBusy]; omega
      rw [this]; rfl
    have hbB : (lentBusy [] at_ (at_ + 1) || regBusy [(⟨at_, at_ + 1, more, true, false, 1⟩ : Reg)] at_ (at_ + 1)) = true := by
      have : regBusy [(⟨at_, at_ + 1, more, true, false, 1⟩ : Reg)] at_ (at_ + 1) = true := by simp [regBusy]; omega
      rw [this]; simp
    have hbB2 : (lentBusy [] 0 34359738368 || regBusy [(⟨at_, at_ + 1, more, true, false, 1⟩ : Reg)] 0 34359738368) = true := by
      have : regBusy [(⟨at_, at_ + 1, more, true, false, 1⟩ : Reg)] 0 34359738368 = true := by simp [regBusy]; omega
      rw [this]; simp
    refine ⟨fun A' => ∃ pA pB rA rB sA F G W, StdP c.N F G ∧ Rest G W rA (tab0 rA) (fun _ => none) [rA] ∧ Rest G W rB (tab0 rB) (fun _ => none) [rB] ∧ rA ≠ rB ∧
      Own (MacL c F G W 4 (List.replicate 16 ln0) (pcNew 3) [(1, ptrV pA), (2, ptrV pB)] (OneS pA 0 rA sA [⟨pg, pg + 1, wr, true, false, 0⟩] [] :: OneS pB 0 rB Sl.nil [] [] :: T)) A', fun A3 ⟨pA, pB, rA, rB, sA, F, G, W, hp3, hRA, hRB, hAB, h3⟩ => ?_, ?_⟩
    · refine Lend_spec (y := ⟨pg, pg + 1, wr, true, false, 0⟩) (p1 := pA) (p2 := pB) h3 rfl rfl hp3 (by omega) hRA hRB (by simp) hfA rfl ⟨by omega, by omega⟩ hat rfl (fun x q => by cases q) (fun _ A4 h4 => bsel_f rfl ?_) (fun x q => by cases q) fun x q => by cases q
      refine Touch_spec (p := pA) h4 rfl hp3 ⟨by omega, by omega⟩ (by omega) hRA (by simp) hpA (fun g => by rw [hfA] at g; cases g) (fun y g1 g2 => ?_) (fun y x g1 g2 g3 => by cases g3) fun y g1 g2 g3 f tkA W1 tabA A5 hff hlen htk hp5 hRA1 hW1 h5 => ?_
      · rw [hfA] at g1; cases g1; rw [may_u] at g2; cases g2
      rw [hfA] at g1
      cases g1
      have hFG := (bud_apart h4.tail).1
      have hl3 : tkA.length = 3 := by rw [hlen]; unfold needT tab0; simp
      have gA : G rA := hRA.inG rA (by simp)
      have gB : G rB := hRB.inG rB (by simp)
      have fA : f ≠ rA := fun e => hFG f hff (by rw [e]; exact gA)
      have fB : f ≠ rB := fun e => hFG f hff (by rw [e]; exact gB)
      have hftA : f ∉ [rA] ++ tkA := fun e => by
        rcases List.mem_append.1 e with e | e
        · exact fA (by simpa using e)
        · exact (htk f e).2 rfl
      have hBtA : rB ∉ [rA] ++ tkA := fun e => by
        rcases List.mem_append.1 e with e | e
        · exact hAB (by simp at e; exact e.symm)
        · exact hFG rB (htk rB e).1 gB
      have hRB1 : Rest (fun x => (G x ∨ x = f) ∨ x ∈ tkA) W1 rB (tab0 rB) (fun _ => none) [rB] := hRB.keep (fun g hg => by
        have hg : g = rB := by simpa using hg
        subst hg
        rw [hW1 g (fun e => hBtA (by simp [e])) (fun e => hBtA (by simpa using .inl (by simpa using e))), zeroW_ne (fun e => fB e.symm)]) fun g hg => .inl (.inl (hRB.inG g hg))
      obtain ⟨only1, only2⟩ := setL_only (x := ⟨f, wr, true, false⟩) (p := pg)
      refine Lend_spec (y := ⟨pg, pg + 1, wr, true, false, 0⟩) (p1 := pA) (p2 := pB) h5 rfl rfl hp5 (by omega) hRA1 hRB1 (by simp) hfA rfl ⟨by omega, by omega⟩ hat rfl (fun x q => by rw [only2] at q; cases q; exact .inl (.inr rfl)) (fun q => by rw [only2] at q; cases q) (fun x _ q1 q2 A6 h6 => ?_) fun x q0 q1 tkB W2 tabB sB A6 hlenB htkB hp6 hRB2 hW2 hsB h6 => ?_
      · -- refused: it may not be written
        simp only at q2
        subst q1 q2
        refine ⟨fun A' => A' = A6, fun A7 e7 => ?_, bsel_f rfl (bsel_t rfl (bsel_t rfl (bsel_f rfl (bsel_f rfl (bsel_f rfl rfl)))))⟩
        subst e7
        refine bsel_t rfl (awake12_spec (MacL.rest h6).tail.tail fun A8 h8 => hk A8 (fin A8 h8))
      rw [only2] at q0
      cases q0
      simp only at q1
      refine ⟨fun A' => A' = A6, fun A7 e7 => ?_, bsel_f rfl ?_⟩
      · subst e7
        refine bsel_f rfl ?_
        have hFG5 := (bud_apart h5.tail).1
        have hl3B : tkB.length = 3 := by rw [hlenB]; unfold needT tab0; simp
        have hBA : ∀ g ∈ [rA] ++ tkA, g ∉ tkB := fun g hg e => hFG5 g (htkB g e) (hRA1.inG g hg)
        have hBr : ∀ g ∈ [rA] ++ tkA, g ∉ [rB] := fun g hg e => hBtA (mem1 e ▸ hg)
        have hRA2 := hRA1.keep (G' := fun x => ((G x ∨ x = f) ∨ x ∈ tkA) ∨ x ∈ tkB) (W' := W2) (fun g hg => hW2 g (hBA g hg) (hBr g hg)) fun g hg => .inl (hRA1.inG g hg)
        have hftB : f ∉ [rB] ++ tkB := fun e => by
          rcases List.mem_append.1 e with e | e
          · exact fB (by simpa using e)
          · exact (htkB f e).1.2 rfl
        obtain ⟨onlyB1, onlyB2⟩ := setL_only (x := ⟨f, more, true, false⟩) (p := at_)
        refine Touch_spec (p := pB) (two_swap h6) rfl hp6 ⟨by omega, by rw [hl3, hl3B]; omega⟩ (by omega) hRB2 (by simp) hpB (fun g => by rw [hfB] at g; cases g) (fun y g1 g2 => by rw [hfB] at g1; cases g1; rw [may_u] at g2; cases g2) (fun y x g1 g2 g3 A8 h8 => ?_) fun y g1 g2 g3 => by rw [onlyB2] at g3; cases g3
        rw [onlyB2] at g3
        cases g3
        refine SpUnmap_busy (two_swap h8) rfl hyA hgA (by simp) (by rw [hcA]; simp) hbA fun A9 h9 => ?_
        refine SpUnmap_busy (two_swap h9) rfl hyB hgB (by simp) (by rw [hcB]; simp) hbB fun A10 h10 => ?_
        refine ⟨fun A' => Own (MacL c (fun x => ((F x ∧ x ≠ f) ∧ x ∉ tkA) ∧ x ∉ tkB) (fun x => ((G x ∨ x = f) ∨ x ∈ tkA) ∨ x ∈ tkB) W2 (4 + 1 + tkA.length + tkB.length) (List.replicate 16 ln0) (pcNew 3) [(1, ptrV pA), (2, ptrV pB)] (OneS pA 0 rA sA [⟨pg, pg + 1, wr, true, false, 0⟩] [(pg, 1)] :: OneS pB 0 rB sB [⟨at_, at_ + 1, more, true, false, 1⟩] [] :: T)) A', fun A11 h11 => ?_, ?_⟩
        · refine ⟨fun A' => ∃ (F3 G3 : Int → Prop) (W3 : Int → Int → Int) (tabB3 : Tab) (sB3 : Sl), StdP c.N F3 G3 ∧ Rest G3 W3 rA tabA (setL (fun _ => none) pg (some ⟨f, wr, true, false⟩)) ([rA] ++ tkA) ∧ Rest G3 W3 rB tabB3 (fun _ => none) [rB] ∧ G3 f ∧
            Own (MacL c F3 G3 W3 8 (List.replicate 16 ln0) (pcNew 3) [(1, ptrV pA), (2, ptrV pB)] (OneS pA 0 rA sA [⟨pg, pg + 1, wr, true, false, 0⟩] [] :: OneS pB 0 rB sB3 [] [] :: T)) A', fun A12 ⟨F3, G3, W3, tabB3, sB3, hp12, hRA3, hRB3, hGf, h12⟩ => ?_, ?_⟩
          · refine Touch_spec (p := pB) (two_swap h12) rfl hp12 ⟨by omega, by omega⟩ (by omega) hRB3 (by simp) (fun y hy => by cases hy) (fun _ A13 h13 => ?_) (fun y g1 => by cases g1) (fun y x g1 => by cases g1) fun y g1 => by cases g1
            refine Touch_spec (p := pA) (two_swap h13) rfl hp12 ⟨by omega, by omega⟩ (by omega) hRA3 (by simp) hpA (fun g => by rw [hfA] at g; cases g) (fun y g1 g2 => by rw [hfA] at g1; cases g1; rw [may_u] at g2; cases g2) (fun y x g1 g2 g3 A14 h14 => ?_) fun y g1 g2 g3 => by rw [only2] at g3; cases g3
            rw [only2] at g3
            cases g3
            refine awake12_spec h14 fun A15 h15 => bsel_t rfl (bsel_t rfl (bsel_t rfl (bsel_t (by simp) ?_)))
            refine Close_spec (ps := [pg]) h15 rfl hp12 hRA3 (by simp [hl3]) (by simp) (by simp [lentBusy, regBusy]) rfl (.inr ⟨pg, _, rfl, only1, only2, ⟨_, hfA, rfl⟩, hGf, hftA⟩) fun F4 G4 W4 A16 hp16 hG4 hG4' hW4 h16 => bsel_t rfl ?_
            have hu4 : (8 : Int) - (([rA] ++ tkA).length : Int) - (([pg] : List Int).length : Int) = 3 := by simp [hl3]
            rw [hu4] at h16
            have hRB4 := hRB3.keep (G' := G4) (W' := W4) (fun g hg => hW4 g fun e => hBtA (mem1 hg ▸ e)) fun g hg => by
              have hg : g = rB := by simpa using hg
              subst hg
              refine hG4' g (hRB3.inG g (by simp)) hBtA fun q x hx e => ?_
              by_cases hq : q = pg
              · subst hq
                rw [only2] at hx
                cases hx
                exact fB e
              · exact hq ((only1 q).1 (by rw [hx]; simp))
            refine Close_spec (ps := []) (p := pB) h16 rfl hp16 hRB4 (by simp) (by simp) (by simp [lentBusy, regBusy]) rfl (.inl ⟨rfl, fun _ => rfl⟩) fun F5 G5 W5 A17 hp17 _ _ _ h17 => bsel_t rfl ?_
            refine ld_P (i := 3) h17 rfl rfl (MacL.free h17 ?_)
            have hfree : (c.N - 1 - (3 - (([rB] : List Int).length : Int) - (([] : List Int).length : Int)) == N - 3) = true := by
              rw [hcN]; simp; omega
            rw [hfree]
            exact hk A17 (fin A17 (MacL.rest h17))
          · refine Back_spec (y := ⟨at_, at_ + 1, more, true, false, 1⟩) (x := ⟨f, wr, true, false⟩) (w := ⟨f, more, true, false⟩) (p1 := pA) (p2 := pB) h11 rfl rfl hp6 hRA2 hRB2 (by simp [hl3, hl3B]) rfl rfl rfl hat only2 onlyB2 rfl rfl fun gl W3 tabB3 tlB3 sB3 A12 g1 g2 g3 g4 g5 h12 => bsel_f rfl ?_
            refine Back_none (p1 := pA) (p2 := pB) h12 rfl rfl rfl (bsel_f rfl ?_)
            have hnone : setL (setL (fun _ => none) at_ (some ⟨f, more, true, false⟩)) at_ none = fun _ => none := by
              funext q
              unfold setL
              split
              · rfl
              · rfl
            rw [hnone] at g4
            have hb := g4.bare fun _ => rfl
            rw [hb] at g4 g2
            have hgl : gl.length = 3 := by simp [hl3B] at g2; omega
            have hu3 : (4 : Int) + 1 + tkA.length + tkB.length - gl.length = 8 := by rw [hl3, hl3B, hgl]; decide
            rw [hu3] at h12
            have hglA : ∀ g ∈ [rA] ++ tkA, g ∉ [rB] ++ tkB := fun g hg e => by
              rcases List.mem_append.1 e with e | e
              · exact hBr g hg e
              · exact hBA g hg e
            have hRA3 := hRA2.keep (G' := fun y => (((G y ∨ y = f) ∨ y ∈ tkA) ∨ y ∈ tkB) ∧ y ∉ gl) (W' := W3) (fun g hg => g5 g (hglA g hg)) fun g hg => ⟨hRA2.inG g hg, fun e => hglA g hg (g1 g e)⟩
            exact ⟨_, _, W3, tabB3, sB3, g3, hRA3, g4, ⟨.inl (.inl (.inr rfl)), fun e => hftB (g1 f e)⟩, h12⟩
        · refine bsel_f rfl (bsel_f (by simp) (bsel_f rfl (bsel_f rfl ?_)))
          refine Close_busy (two_swap h10) rfl (by simp) hbA2 fun A11 h11 => bsel_f rfl ?_
          exact Close_busy (two_swap h11) rfl (by simp) hbB2 fun A12 h12 => bsel_f rfl (two_swap h12)
      · cases more with
        | true =>
          have q1 := q1 rfl
          subst q1
          exact bsel_t rfl (bsel_f rfl (bsel_f rfl (bsel_t rfl (bsel_f rfl rfl))))
        | false => exact bsel_f rfl (bsel_t rfl (bsel_f rfl rfl))
    · refine bsel_f rfl ?_
      refine Open_spec (id := 1) h2 (by omega) rfl hp ⟨by omega, by omega⟩ (by omega) ⟨hkn.1, by omega⟩ fun pA rA A3 W2 hfA1 hp2 hRA hWA h3 => bsel_f rfl ?_
      refine Open_spec (id := 2) h3 (by omega) rfl hp2 ⟨by omega, by omega⟩ (by omega) ⟨hkn.1, by omega⟩ fun pB rB A4 W3 hfB1 hp3 hRB hWB h4 => bsel_f rfl ?_
      have hAB : rA ≠ rB := fun e => hfB1.2 (by simp [e])
      have hRA2 := hRA.keep (G' := fun x => (G x ∨ x ∈ [rA]) ∨ x ∈ [rB]) (W' := W3) (fun g hg => hWB g (fun e => hAB (by rw [← mem1 hg, e]))) fun g hg => .inl (hRA.inG g hg)
      refine SpMap_nil (y := ⟨pg, pg + 1, wr, true, false, 0⟩) (p := pA) (two_swap h4) rfl hyA rfl fun sA A5 h5 => bsel_f rfl ?_
      exact ⟨pA, pB, rA, rB, sA, _, _, W3, hp3, hRA2, hRB, hAB, h5⟩
  · have fin : demesnelaw12_awake_A (fun b h' => Q b h') A := awake12_spec h fun A5 h5 => hk A5 h5
    refine bsel_in (fun _ => fin) fun g1 => bsel_in (fun _ => fin) fun g2 => bsel_in (fun _ => fin) fun g3 => bsel_in (fun _ => fin) fun g4 => bsel_in (fun _ => fin) fun g5 => bsel_in (fun _ => fin) fun g6 => ?_
    have g1 := of_decide_eq_false g1
    have g2 := of_decide_eq_false g2
    have g3 := of_decide_eq_false g3
    have g4 := of_decide_eq_false g4
    have g5 := of_decide_eq_false g5
    have g6 := of_decide_eq_false g6
    exact ⟨h, by omega, by omega, ⟨by omega, by omega⟩, by omega, by omega⟩
end Go.Dn
