/- What the proof stands on: Quota, Purse. -/
import Derived.Test.YtbmolaogibmbiaaGreatG
import Derived.Test.YtbmolaogibmbiaaGreatDnN
import Derived.Test.YtbmolaogibmbiaaGreatWords
import Derived.Test.YtbmolaogibmbiaaGreatBudNew
/- Containers: what they may have and have. -/
namespace Go.Dn

structure Nd where
  par : Int
  quo : Int
  use : Int
  lent : Int
  live : Bool
def Nd.cells (d : Nd) : List Value := [.int .i64 d.par, .int .i64 d.quo, .int .i64 d.use, .int .i64 d.lent, .bool d.live]
def ndCells (ns : List Nd) : List Value := ns.flatMap Nd.cells
structure Nd.OK (d : Nd) : Prop where
  use : 0 ≤ d.use
  lent : 0 ≤ d.lent
  room : d.use + d.lent ≤ d.quo
  quo : d.quo ≤ 1048576
def treeL (t blk cap : Nat) (ns : List Nd) (rest : List Value) : List SP := [At t [.slice (some ⟨blk, 0, none⟩) ns.length cap], At blk (ndCells ns ++ rest)]
/-- Containers. -/
def TreeS (t : Nat) (ns : List Nd) : SP := fun B => ∃ blk cap rest, (ns.length ≤ 64 ∧ ∀ d ∈ ns, d.OK) ∧ Own (treeL t blk cap ns rest) B

variable {A : AH} {l R : List SP} {t blk cap i : Nat} {ns : List Nd} {rest : List Value} {nd : Nd}
theorem ndCells_len (ns : List Nd) : (ndCells ns).length = ns.length * 5 := by
  induction ns with
  | nil => rfl
  | cons d ns ih => simp only [ndCells, List.flatMap_cons, List.length_append] at ih ⊢; rw [ih]; simp [Nd.cells]; omega
theorem ndCells_at : ∀ {ns : List Nd} {i : Nat} {nd : Nd} (f : Nat), ns[i]? = some nd → f < 5 → (ndCells ns)[i * 5 + f]? = nd.cells[f]?
  | [], _, _, _, e, _ => by simp at e
  | d :: ns, 0, nd, f, e, hf => by
    simp at e; subst e
    show (d.cells ++ ndCells ns)[0 * 5 + f]? = _
    rw [List.getElem?_append_left (by simp [Nd.cells]; omega)]
    simp
  | d :: ns, i + 1, nd, f, e, hf => by
    have := ndCells_at (ns := ns) (i := i) (nd := nd) f (by simpa using e) hf
    show (d.cells ++ ndCells ns)[(i + 1) * 5 + f]? = _
    rw [List.getElem?_append_right (by simp [Nd.cells]; omega)]
    rw [show (i + 1) * 5 + f - d.cells.length = i * 5 + f by simp [Nd.cells]; omega]
    exact this
theorem ndCells_use : ∀ {ns : List Nd} {i : Nat} {nd : Nd} (x : Int), ns[i]? = some nd → (ndCells ns).set (i * 5 + 2) (.int .i64 x) = ndCells (ns.set i { nd with use := x })
  | [], _, _, _, e => by simp at e
  | d :: ns, 0, nd, x, e => by simp at e; subst e; rfl
  | d :: ns, i + 1, nd, x, e => by
    have := ndCells_use (ns := ns) (i := i) (nd := nd) x (by simpa using e)
    show (d.cells ++ ndCells ns).set ((i + 1) * 5 + 2) _ = d.cells ++ ndCells (ns.set i _)
    rw [List.set_append_right _ _ (by simp [Nd.cells]; omega)]
    rw [show (i + 1) * 5 + 2 - d.cells.length = i * 5 + 2 by simp [Nd.cells]; omega, this]
theorem TreeS.openH (h : Own (TreeS t ns :: R) A) : ∃ blk cap rest, (ns.length ≤ 64 ∧ ∀ d ∈ ns, d.OK) ∧ Own (treeL t blk cap ns rest ++ R) A := by
  obtain ⟨blk, h⟩ := Own.ex h
  obtain ⟨cap, h⟩ := Own.ex h
  obtain ⟨rest, h⟩ := Own.ex h
  obtain ⟨h1, h⟩ := Own.pure h
  exact ⟨blk, cap, rest, h1, Own.flat h⟩
theorem TreeS.closeH (h1 : ns.length ≤ 64) (h2 : ∀ d ∈ ns, d.OK) (h : Own (treeL t blk cap ns rest ++ R) A) : Own (TreeS t ns :: R) A := h.app.imp fun _ hB => ⟨blk, cap, rest, ⟨h1, h2⟩, hB⟩
theorem cell_ix {f : Nat} {v : Value} (hi : ns[i]? = some nd) (hf : f < 5) (hv : nd.cells[f]? = some v) : (ndCells ns ++ rest)[i * 5 + f]? = some v := by
  have hl := (List.getElem?_eq_some_iff.1 hi).1
  rw [List.getElem?_append_left (by rw [ndCells_len]; omega), ndCells_at f hi hf]
  exact hv
theorem at_raw {Q : Option Addr → Bool → AH → Prop} (h : Own (treeL t blk cap ns rest ++ R) A) (hi : ns[i]? = some nd) (hlv : nd.live = true) (hk : Q (some ⟨blk, i * 5, none⟩) true A) : quota_Tree_at_A (some ⟨t, 0, none⟩) i Q A := by
  have hl := (List.getElem?_eq_some_iff.1 hi).1
  unfold quota_Tree_at_A
  refine bsel_f (by simp) (ld_S (i := 0) h rfl rfl (bsel_f (by simp; omega) (ld_S (i := 0) h rfl rfl (inB_in (by omega) (by simp; omega) ?_))))
  rw [add_at, add_at]
  refine ld_B (i := 1) (n := nd.live) h rfl ?_ ?_
  · rw [show 0 + Int.toNat (i : Int) * 5 + 4 = i * 5 + 4 by omega]
    exact cell_ix hi (by omega) rfl
  refine bsel_f (by simp [hlv]) (ld_S (i := 0) h rfl rfl (inB_in (by omega) (by simp; omega) ?_))
  rw [add_at, show 0 + Int.toNat (i : Int) * 5 = i * 5 by omega]
  exact hk
theorem ld_nd {f : Nat} {x : Int} {K : Int → Prop} (h : Own (treeL t blk cap ns rest ++ R) A) (hi : ns[i]? = some nd) (hf : f < 5) (hx : nd.cells[f]? = some (.int .i64 x)) (hK : K x) : aI .i64 (Addr.add ⟨blk, i * 5, none⟩ f) A K := by
  rw [add_at]
  exact ld_I (i := 1) h rfl (cell_ix hi hf hx) hK
theorem st_use {x : Int} {K : AP} (h : Own (treeL t blk cap ns rest ++ R) A) (hi : ns[i]? = some nd) (hK : ∀ A', Own (treeL t blk cap (ns.set i { nd with use := x }) rest ++ R) A' → K A') : aC (Addr.add ⟨blk, i * 5, none⟩ 2) (.int .i64 x) A K := by
  rw [add_at]
  have hl := (List.getElem?_eq_some_iff.1 hi).1
  refine st_C (i := 1) h rfl ?_ rfl fun A' h' => hK A' ?_
  · rw [cell_ix hi (by omega) (f := 2) (v := .int .i64 nd.use) rfl]; rfl
  · have h' : Own (At t [.slice (some ⟨blk, 0, none⟩) ns.length cap] :: At blk ((ndCells ns ++ rest).set (i * 5 + 2) (.int .i64 x)) :: R) A' := h'
    rw [List.set_append_left _ _ (by rw [ndCells_len]; omega), ndCells_use x hi] at h'
    show Own (At t [.slice (some ⟨blk, 0, none⟩) (ns.set i { nd with use := x }).length cap] :: At blk (ndCells (ns.set i { nd with use := x }) ++ rest) :: R) A'
    rw [List.length_set]
    exact h'
theorem Room_raw {Q : Int → AH → Prop} (h : Own (treeL t blk cap ns rest ++ R) A) (hi : ns[i]? = some nd) (hlv : nd.live = true) (hok : nd.OK) (hk : Q (nd.quo - nd.use - nd.lent) A) : quota_Tree_Room_A (some ⟨t, 0, none⟩) i Q A := by
  obtain ⟨o1, o2, o3, o4⟩ := hok
  unfold quota_Tree_Room_A quota_Tree_Room_G
  refine at_raw h hi hlv (bsel_f rfl (ld_nd h hi (by omega) rfl (ld_nd h hi (by omega) rfl (ld_nd h hi (by omega) rfl ?_))))
  rw [w64 (n := nd.quo - nd.use) (by omega) (by omega), w64 (by omega) (by omega)]
  exact hk
theorem set_ok (h2 : ∀ d ∈ ns, d.OK) {x : Nd} (hx : x.OK) : ∀ d ∈ ns.set i x, d.OK := fun d hd => by
  rcases List.mem_or_eq_of_mem_set hd with h | h
  · exact h2 d h
  · rw [h]; exact hx
theorem Charge_head {k : Int} {Q : Int → AH → Prop} (h : Own (TreeS t ns :: R) A) (hi : ns[i]? = some nd) (hlv : nd.live = true) (hk0 : 0 ≤ k) (hn : k > nd.quo - nd.use - nd.lent → Q 8 A)
    (hk : k ≤ nd.quo - nd.use - nd.lent → ∀ A', Own (TreeS t (ns.set i { nd with use := nd.use + k }) :: R) A' → Q 0 A') : quota_Tree_Charge_A (some ⟨t, 0, none⟩) i k Q A := by
  obtain ⟨blk, cap, rest, ⟨h1, h2⟩, hh⟩ := TreeS.openH h
  have hok := h2 nd (List.mem_of_getElem? hi)
  obtain ⟨o1, o2, o3, o4⟩ := hok
  unfold quota_Tree_Charge_A quota_Tree_Charge_G
  refine at_raw hh hi hlv (bsel_f rfl (bsel_f (by simp; omega) (Room_raw hh hi hlv ⟨o1, o2, o3, o4⟩ ?_)))
  refine bsel_in (fun c => hn (by simpa using c)) fun c => ?_
  have c : k ≤ nd.quo - nd.use - nd.lent := by simpa using c
  refine ld_nd hh hi (by omega) rfl (st_use hh hi fun A' hA => hk c A' ?_)
  rw [w64 (by omega) (by omega)] at hA
  exact TreeS.closeH (by simpa using h1) (set_ok h2 ⟨by simp; omega, o2, by simp; omega, o4⟩) hA
theorem Credit_head {k : Int} {Q : Int → AH → Prop} (h : Own (TreeS t ns :: R) A) (hi : ns[i]? = some nd) (hlv : nd.live = true) (hk0 : 0 ≤ k) (hku : k ≤ nd.use)
    (hk : ∀ A', Own (TreeS t (ns.set i { nd with use := nd.use - k }) :: R) A' → Q 0 A') : quota_Tree_Credit_A (some ⟨t, 0, none⟩) i k Q A := by
  obtain ⟨blk, cap, rest, ⟨h1, h2⟩, hh⟩ := TreeS.openH h
  have hok := h2 nd (List.mem_of_getElem? hi)
  obtain ⟨o1, o2, o3, o4⟩ := hok
  unfold quota_Tree_Credit_A quota_Tree_Credit_G
  refine at_raw hh hi hlv (bsel_f rfl (bsel_f (by simp; omega) (ld_nd hh hi (by omega) rfl (bsel_f (by simp; omega) (ld_nd hh hi (by omega) rfl (st_use hh hi fun A' hA => hk A' ?_))))))
  rw [w64 (by omega) (by omega)] at hA
  exact TreeS.closeH (by simpa using h1) (set_ok h2 ⟨by simp; omega, o2, by simp; omega, o4⟩) hA
theorem qNew_spec {q : Int} {Q : Option Addr → Int → AH → Prop} (h : Own l A) (hn : q < 0 ∨ q > 1048576 → Q none 1 A) (hk : 0 ≤ q ∧ q ≤ 1048576 → ∀ t A', Own (TreeS t [⟨-1, q, 0, 0, true⟩] :: l) A' → Q (some ⟨t, 0, none⟩) 0 A') : quota_New_A q Q A := by
  unfold quota_New_A
  refine bsel_in (fun c => hn (.inl (by simpa using c))) fun c => bsel_in (fun d => hn (.inr (by simpa using d))) fun d => ?_
  have c : 0 ≤ q := by simpa using c
  have d : q ≤ 1048576 := by simpa using d
  show newA A (.cells (ndCells [⟨-1, q, 0, 0, true⟩]).toArray _) _
  refine new_C h fun b1 A1 h1 => ?_
  show newA A1 (.cells [Value.slice (some ⟨b1, 0, none⟩) 1 1].toArray _) _
  refine new_C h1 fun b2 A2 h2 => hk ⟨c, d⟩ b2 A2 (TreeS.closeH (rest := []) (by simp) (fun x hx => ?_) h2)
  simp at hx; subst hx
  exact ⟨Int.le_refl _, Int.le_refl _, by simp; omega, d⟩
end Go.Dn
/- Frames that are taken and given back, and who is charged. -/
namespace Go.Dn

variable {A : AH} {l R : List SP} {r b t i : Nat} {fr n : Int} {hs : List (Int × Int)} {W : Int → Int → Int} {F G : Int → Prop} {ns : List Nd} {nd : Nd}
theorem Own.rot3 {P0 P1 P2 : SP} (h : Own (P0 :: P1 :: P2 :: R) A) : Own (P2 :: P0 :: P1 :: R) A :=
  h.perm ((List.Perm.cons _ (List.Perm.swap _ _ _)).trans (List.Perm.swap _ _ _))
theorem Own.unrot3 {P0 P1 P2 : SP} (h : Own (P2 :: P0 :: P1 :: R) A) : Own (P0 :: P1 :: P2 :: R) A :=
  h.perm ((List.Perm.swap _ _ _).trans (List.Perm.cons _ (List.Perm.swap _ _ _)))
def useN (ns : List Nd) (i : Nat) (nd : Nd) (x : Int) : List Nd := ns.set i { nd with use := x }
theorem useN_back (hi : ns[i]? = some nd) (x : Int) : useN (useN ns i nd x) i { nd with use := x } nd.use = ns := by
  unfold useN
  rw [List.set_set]
  apply List.ext_getElem?
  intro j
  rw [List.getElem?_set]
  split
  · rename_i g
    subst g
    rw [if_pos (List.getElem?_eq_some_iff.1 hi).1, hi]
  · rfl
theorem useN_at (hi : ns[i]? = some nd) (x : Int) : (useN ns i nd x)[i]? = some { nd with use := x } := by
  unfold useN
  rw [List.getElem?_set, if_pos rfl, if_pos (List.getElem?_eq_some_iff.1 hi).1]
theorem pTake_spec {Q : Int → Int → AH → Prop} (h : Own (RamW r fr hs W :: Bud b F G n :: TreeS t ns :: R) A) (hi : ns[i]? = some nd) (hlv : nd.live = true) (hF : ∀ x, F x → hasF fr hs x = true)
    (hq : nd.quo - nd.use - nd.lent < 1 → Q 0 8 A) (hm : 1 ≤ nd.quo - nd.use - nd.lent → n = 0 → ∀ A', Own (RamW r fr hs W :: Bud b F G n :: TreeS t ns :: R) A' → Q 0 7 A')
    (hk : 1 ≤ nd.quo - nd.use - nd.lent → n ≠ 0 → ∀ f A', F f → Own (RamW r fr hs (zeroW W f) :: Bud b (fun x => F x ∧ x ≠ f) (fun x => G x ∨ x = f) (n - 1) :: TreeS t (useN ns i nd (nd.use + 1)) :: R) A' → Q f 0 A') :
    table_Purse_Take_A (some ⟨r, 0, none⟩) (some ⟨b, 0, none⟩) (some ⟨t, 0, none⟩) i Q A := by
  unfold table_Purse_Take_A table_Purse_Take_G
  refine Charge_head h.rot3 hi hlv (by omega) (fun c => bsel_t rfl (hq (by omega))) fun c A1 hA1 => bsel_f rfl ?_
  refine Take_head hA1.unrot3.swap (fun n0 => ?_) fun n0 f A2 hf hA2 => ?_
  · refine ⟨fun x h12 => h12 = A1 ∧ x = 7, fun x h12 ⟨e1, e2⟩ => ?_, bsel_f rfl ⟨rfl, rfl⟩⟩
    subst e1 e2
    refine Credit_head (nd := { nd with use := nd.use + 1 }) hA1 (useN_at hi _) hlv (by omega) (by
      obtain ⟨_, _, _, ⟨_, h2⟩, _⟩ := TreeS.openH h.rot3
      have := (h2 nd (List.mem_of_getElem? hi)).use
      simp; omega) fun A3 hA3 => hm (by omega) n0 A3 ?_
    have e : (useN ns i nd (nd.use + 1)).set i { par := nd.par, quo := nd.quo, use := nd.use + 1 - 1, lent := nd.lent, live := nd.live } = ns := by
      have := useN_back hi (nd.use + 1)
      unfold useN at this ⊢
      rw [show nd.use + 1 - 1 = nd.use by omega]
      exact this
    have hA3 : Own (TreeS t ((useN ns i nd (nd.use + 1)).set i { par := nd.par, quo := nd.quo, use := nd.use + 1 - 1, lent := nd.lent, live := nd.live }) :: RamW r fr hs W :: Bud b F G n :: R) A3 := hA3
    rw [e] at hA3
    exact hA3.unrot3
  · refine ⟨fun _ _ => False, fun _ _ q => q.elim, bsel_t rfl ?_⟩
    exact Zero_head hA2.swap (hF f hf) fun A3 hA3 => bsel_t rfl (hk (by omega) n0 f A3 hf hA3)
theorem pGive_spec {f : Int} {Q : AH → Prop} (h : Own (RamW r fr hs W :: Bud b F G n :: TreeS t ns :: R) A) (hi : ns[i]? = some nd) (hlv : nd.live = true) (hG : G f) (hu : 1 ≤ nd.use)
    (hk : ∀ A', Own (RamW r fr hs W :: Bud b (fun x => F x ∨ x = f) (fun x => G x ∧ x ≠ f) (n + 1) :: TreeS t (useN ns i nd (nd.use - 1)) :: R) A' → Q A') :
    table_Purse_Give_A (some ⟨r, 0, none⟩) (some ⟨b, 0, none⟩) (some ⟨t, 0, none⟩) i f Q A := by
  unfold table_Purse_Give_A table_Purse_Give_G
  refine Give_head h.swap hG fun A1 hA1 => ?_
  exact Credit_head hA1.swap.rot3 hi hlv (by omega) hu fun A2 hA2 => hk A2 hA2.unrot3
end Go.Dn
