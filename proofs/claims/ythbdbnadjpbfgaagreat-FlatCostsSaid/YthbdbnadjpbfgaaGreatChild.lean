/- What the proof stands on: Quota, Child. -/
import Derived.Test.YthbdbnadjpbfgaaGreatG
import Derived.Test.YthbdbnadjpbfgaaGreatDnN
import Derived.Test.YthbdbnadjpbfgaaGreatSlices
/- Containers: what they may have and have. -/
namespace Go.Dn

structure Nd where
  par : Int
  quo : Int
  use : Int
  lent : Int
  live : Bool
def Nd.cells (d : Nd) : List Value := [.int .i64 d.par, .int .i64 d.quo, .int .i64 d.use, .int .i64 d.lent, .bool d.live]
def ndCells (ns : List Nd) : List Value := ns.flatMap Nd.cells
structure Nd.OK (d : Nd) : Prop where
  use : 0 ≤ d.use
  lent : 0 ≤ d.lent
  room : d.use + d.lent ≤ d.quo
  quo : d.quo ≤ 1048576
def treeL (t blk cap : Nat) (ns : List Nd) (rest : List Value) : List SP := [At t [.slice (some ⟨blk, 0, none⟩) ns.length cap], At blk (ndCells ns ++ rest)]
/-- Containers. -/
def TreeS (t : Nat) (ns : List Nd) : SP := fun B => ∃ blk cap rest, (ns.length ≤ 64 ∧ ∀ d ∈ ns, d.OK) ∧ Own (treeL t blk cap ns rest) B

variable {A : AH} {l R : List SP} {t blk cap i : Nat} {ns : List Nd} {rest : List Value} {nd : Nd}
theorem ndCells_len (ns : List Nd) : (ndCells ns).length = ns.length * 5 := by
  induction ns with
  | nil => rfl
  | cons d ns ih => simp only [ndCells, List.flatMap_cons, List.length_append] at ih ⊢; rw [ih]; simp [Nd.cells]; omega
theorem ndCells_at : ∀ {ns : List Nd} {i : Nat} {nd : Nd} (f : Nat), ns[i]? = some nd → f < 5 → (ndCells ns)[i * 5 + f]? = nd.cells[f]?
  | [], _, _, _, e, _ => by simp at e
  | d :: ns, 0, nd, f, e, hf => by
    simp at e; subst e
    show (d.cells ++ ndCells ns)[0 * 5 + f]? = _
    rw [List.getElem?_append_left (by simp [Nd.cells]; omega)]
    simp
  | d :: ns, i + 1, nd, f, e, hf => by
    have := ndCells_at (ns := ns) (i := i) (nd := nd) f (by simpa using e) hf
    show (d.cells ++ ndCells ns)[(i + 1) * 5 + f]? = _
    rw [List.getElem?_append_right (by simp [Nd.cells]; omega)]
    rw [show (i + 1) * 5 + f - d.cells.length = i * 5 + f by simp [Nd.cells]; omega]
    exact this
theorem ndCells_use : ∀ {ns : List Nd} {i : Nat} {nd : Nd} (x : Int), ns[i]? = some nd → (ndCells ns).set (i * 5 + 2) (.int .i64 x) = ndCells (ns.set i { nd with use := x })
  | [], _, _, _, e => by simp at e
  | d :: ns, 0, nd, x, e => by simp at e; subst e; rfl
  | d :: ns, i + 1, nd, x, e => by
    have := ndCells_use (ns := ns) (i := i) (nd := nd) x (by simpa using e)
    show (d.cells ++ ndCells ns).set ((i + 1) * 5 + 2) _ = d.cells ++ ndCells (ns.set i _)
    rw [List.set_append_right _ _ (by simp [Nd.cells]; omega)]
    rw [show (i + 1) * 5 + 2 - d.cells.length = i * 5 + 2 by simp [Nd.cells]; omega, this]
theorem TreeS.openH (h : Own (TreeS t ns :: R) A) : ∃ blk cap rest, (ns.length ≤ 64 ∧ ∀ d ∈ ns, d.OK) ∧ Own (treeL t blk cap ns rest ++ R) A := by
  obtain ⟨blk, h⟩ := Own.ex h
  obtain ⟨cap, h⟩ := Own.ex h
  obtain ⟨rest, h⟩ := Own.ex h
  obtain ⟨h1, h⟩ := Own.pure h
  exact ⟨blk, cap, rest, h1, Own.flat h⟩
theorem TreeS.closeH (h1 : ns.length ≤ 64) (h2 : ∀ d ∈ ns, d.OK) (h : Own (treeL t blk cap ns rest ++ R) A) : Own (TreeS t ns :: R) A := h.app.imp fun _ hB => ⟨blk, cap, rest, ⟨h1, h2⟩, hB⟩
theorem cell_ix {f : Nat} {v : Value} (hi : ns[i]? = some nd) (hf : f < 5) (hv : nd.cells[f]? = some v) : (ndCells ns ++ rest)[i * 5 + f]? = some v := by
  have hl := (List.getElem?_eq_some_iff.1 hi).1
  rw [List.getElem?_append_left (by rw [ndCells_len]; omega), ndCells_at f hi hf]
  exact hv
theorem at_raw {Q : Option Addr → Bool → AH → Prop} (h : Own (treeL t blk cap ns rest ++ R) A) (hi : ns[i]? = some nd) (hlv : nd.live = true) (hk : Q (some ⟨blk, i * 5, none⟩) true A) : quota_Tree_at_A (some ⟨t, 0, none⟩) i Q A := by
  have hl := (List.getElem?_eq_some_iff.1 hi).1
  unfold quota_Tree_at_A
  refine bsel_f (by simp) (ld_S (i := 0) h rfl rfl (bsel_f (by simp; omega) (ld_S (i := 0) h rfl rfl (inB_in (by omega) (by simp; omega) ?_))))
  rw [add_at, add_at]
  refine ld_B (i := 1) (n := nd.live) h rfl ?_ ?_
  · rw [show 0 + Int.toNat (i : Int) * 5 + 4 = i * 5 + 4 by omega]
    exact cell_ix hi (by omega) rfl
  refine bsel_f (by simp [hlv]) (ld_S (i := 0) h rfl rfl (inB_in (by omega) (by simp; omega) ?_))
  rw [add_at, show 0 + Int.toNat (i : Int) * 5 = i * 5 by omega]
  exact hk
theorem ld_nd {f : Nat} {x : Int} {K : Int → Prop} (h : Own (treeL t blk cap ns rest ++ R) A) (hi : ns[i]? = some nd) (hf : f < 5) (hx : nd.cells[f]? = some (.int .i64 x)) (hK : K x) : aI .i64 (Addr.add ⟨blk, i * 5, none⟩ f) A K := by
  rw [add_at]
  exact ld_I (i := 1) h rfl (cell_ix hi hf hx) hK
theorem st_use {x : Int} {K : AP} (h : Own (treeL t blk cap ns rest ++ R) A) (hi : ns[i]? = some nd) (hK : ∀ A', Own (treeL t blk cap (ns.set i { nd with use := x }) rest ++ R) A' → K A') : aC (Addr.add ⟨blk, i * 5, none⟩ 2) (.int .i64 x) A K := by
  rw [add_at]
  have hl := (List.getElem?_eq_some_iff.1 hi).1
  refine st_C (i := 1) h rfl ?_ rfl fun A' h' => hK A' ?_
  · rw [cell_ix hi (by omega) (f := 2) (v := .int .i64 nd.use) rfl]; rfl
  · have h' : Own (At t [.slice (some ⟨blk, 0, none⟩) ns.length cap] :: At blk ((ndCells ns ++ rest).set (i * 5 + 2) (.int .i64 x)) :: R) A' := h'
    rw [List.set_append_left _ _ (by rw [ndCells_len]; omega), ndCells_use x hi] at h'
    show Own (At t [.slice (some ⟨blk, 0, none⟩) (ns.set i { nd with use := x }).length cap] :: At blk (ndCells (ns.set i { nd with use := x }) ++ rest) :: R) A'
    rw [List.length_set]
    exact h'
theorem Room_raw {Q : Int → AH → Prop} (h : Own (treeL t blk cap ns rest ++ R) A) (hi : ns[i]? = some nd) (hlv : nd.live = true) (hok : nd.OK) (hk : Q (nd.quo - nd.use - nd.lent) A) : quota_Tree_Room_A (some ⟨t, 0, none⟩) i Q A := by
  obtain ⟨o1, o2, o3, o4⟩ := hok
  unfold quota_Tree_Room_A quota_Tree_Room_G
  refine at_raw h hi hlv (bsel_f rfl (ld_nd h hi (by omega) rfl (ld_nd h hi (by omega) rfl (ld_nd h hi (by omega) rfl ?_))))
  rw [w64 (n := nd.quo - nd.use) (by omega) (by omega), w64 (by omega) (by omega)]
  exact hk
theorem set_ok (h2 : ∀ d ∈ ns, d.OK) {x : Nd} (hx : x.OK) : ∀ d ∈ ns.set i x, d.OK := fun d hd => by
  rcases List.mem_or_eq_of_mem_set hd with h | h
  · exact h2 d h
  · rw [h]; exact hx
theorem Charge_head {k : Int} {Q : Int → AH → Prop} (h : Own (TreeS t ns :: R) A) (hi : ns[i]? = some nd) (hlv : nd.live = true) (hk0 : 0 ≤ k) (hn : k > nd.quo - nd.use - nd.lent → Q 8 A)
    (hk : k ≤ nd.quo - nd.use - nd.lent → ∀ A', Own (TreeS t (ns.set i { nd with use := nd.use + k }) :: R) A' → Q 0 A') : quota_Tree_Charge_A (some ⟨t, 0, none⟩) i k Q A := by
  obtain ⟨blk, cap, rest, ⟨h1, h2⟩, hh⟩ := TreeS.openH h
  have hok := h2 nd (List.mem_of_getElem? hi)
  obtain ⟨o1, o2, o3, o4⟩ := hok
  unfold quota_Tree_Charge_A quota_Tree_Charge_G
  refine at_raw hh hi hlv (bsel_f rfl (bsel_f (by simp; omega) (Room_raw hh hi hlv ⟨o1, o2, o3, o4⟩ ?_)))
  refine bsel_in (fun c => hn (by simpa using c)) fun c => ?_
  have c : k ≤ nd.quo - nd.use - nd.lent := by simpa using c
  refine ld_nd hh hi (by omega) rfl (st_use hh hi fun A' hA => hk c A' ?_)
  rw [w64 (by omega) (by omega)] at hA
  exact TreeS.closeH (by simpa using h1) (set_ok h2 ⟨by simp; omega, o2, by simp; omega, o4⟩) hA
theorem qNew_spec {q : Int} {Q : Option Addr → Int → AH → Prop} (h : Own l A) (hn : q < 0 ∨ q > 1048576 → Q none 1 A) (hk : 0 ≤ q ∧ q ≤ 1048576 → ∀ t A', Own (TreeS t [⟨-1, q, 0, 0, true⟩] :: l) A' → Q (some ⟨t, 0, none⟩) 0 A') : quota_New_A q Q A := by
  unfold quota_New_A
  refine bsel_in (fun c => hn (.inl (by simpa using c))) fun c => bsel_in (fun d => hn (.inr (by simpa using d))) fun d => ?_
  have c : 0 ≤ q := by simpa using c
  have d : q ≤ 1048576 := by simpa using d
  show newA A (.cells (ndCells [⟨-1, q, 0, 0, true⟩]).toArray _) _
  refine new_C h fun b1 A1 h1 => ?_
  show newA A1 (.cells [Value.slice (some ⟨b1, 0, none⟩) 1 1].toArray _) _
  refine new_C h1 fun b2 A2 h2 => hk ⟨c, d⟩ b2 A2 (TreeS.closeH (rest := []) (by simp) (fun x hx => ?_) h2)
  simp at hx; subst hx
  exact ⟨Int.le_refl _, Int.le_refl _, by simp; omega, d⟩
end Go.Dn
/- A container more, below another one. -/
namespace Go.Dn

variable {A : AH} {l R : List SP} {t blk cap i : Nat} {ns : List Nd} {rest : List Value} {nd : Nd}
def firstDead : List Nd → Option Nat
  | [] => none
  | d :: r => if d.live then (firstDead r).map (· + 1) else some 0
theorem firstDead_lt : ∀ {ns : List Nd} {j : Nat}, firstDead ns = some j → ∃ d, ns[j]? = some d ∧ d.live = false
  | [], j, h => by simp [firstDead] at h
  | d :: r, j, h => by
    unfold firstDead at h
    split at h
    · cases e : firstDead r with
      | none => rw [e] at h; cases h
      | some k =>
        rw [e] at h
        cases h
        exact firstDead_lt (ns := r) e
    · rename_i hd
      cases h
      exact ⟨d, rfl, by simpa using hd⟩
theorem firstDead_drop {ns : List Nd} {v : Nat} {d : Nd} (hv : ns[v]? = some d) : firstDead (ns.drop v) = if d.live then (firstDead (ns.drop (v + 1))).map (· + 1) else some 0 := by
  obtain ⟨h1, h2⟩ := List.getElem?_eq_some_iff.1 hv
  rw [List.drop_eq_getElem_cons h1, h2]
  rfl
theorem rd_nd {P : SP} {k : Nat} {s : Sl} {v c : Nat} {d : Nd} {x : Value} (h : Own l A) (e : l[k]? = some P) (hr : Reads P s 5 (ndCells ns)) (hv : ns[v]? = some d) (hc : c < 5) (hx : d.cells[c]? = some x) : ∃ bb o, s.a = some ⟨bb, o, none⟩ ∧ cellA A ⟨bb, o + (v * 5 + c), none⟩ = some x :=
  rd_cell h e hr (by rw [ndCells_at c hv hc]; exact hx)
theorem IndexDead_spec {P : SP} {k : Nat} {s : Sl} {Q : Int → AH → Prop} (h : Own l A) (e : l[k]? = some P) (hr : Reads P s 5 (ndCells ns)) (hb : ns.length ≤ 64) (h0 : firstDead ns = none → Q (-1) A) (h1 : ∀ j, firstDead ns = some j → Q j A) :
    slices_IndexFunc_quota_Node_quota_Node_A s Q A := by
  have hl : s.len = ns.length := by have := rd_len h e hr; rw [ndCells_len] at this; omega
  unfold slices_IndexFunc_quota_Node_quota_Node_A slices_IndexFunc_quota_Node_quota_Node_G
  refine ⟨fun x m h' => ∃ v : Nat, x = v ∧ m + v = ns.length ∧ h' = A ∧ firstDead ns = (firstDead (ns.drop v)).map (· + v), ⟨ns.length, 0, rfl, rfl, rfl, by rw [List.drop_zero]; cases firstDead ns <;> rfl⟩, ?_⟩
  intro x m A1 ⟨v, e1, e2, e3, e4⟩
  subst e1 e3
  refine bsel_in (fun c => ?_) fun c => ?_
  · have c : (v : Int) < s.len := of_decide_eq_true c
    obtain ⟨d, hd⟩ : ∃ d, ns[v]? = some d := ⟨ns[v]'(by omega), by simp⟩
    obtain ⟨bb, o, q1, c0⟩ := rd_nd (c := 0) h e hr hd (by omega) rfl
    have same : ∀ {c : Nat} {x : Value}, c < 5 → d.cells[c]? = some x → cellA A1 ⟨bb, o + (v * 5 + c), none⟩ = some x := fun {c x} hc hx => by
      obtain ⟨b2, o2, q2, c2⟩ := rd_nd h e hr hd hc hx
      rw [q1] at q2
      cases q2
      exact c2
    have ad : ∀ c, Addr.add (Addr.add ⟨bb, o, none⟩ (Int.toNat (v : Int) * 5)) c = ⟨bb, o + (v * 5 + c), none⟩ := fun c => by rw [add_at, add_at, Int.toNat_natCast, Nat.add_assoc]
    rw [q1]
    refine inB_in (by omega) c ⟨d.par, by rw [add_at, Int.toNat_natCast]; exact c0, ⟨d.quo, by rw [ad]; exact same (by omega) rfl, ⟨d.use, by rw [ad]; exact same (by omega) rfl, ⟨d.lent, by rw [ad]; exact same (by omega) rfl, ⟨d.live, by rw [ad]; exact same (by omega) rfl, ?_⟩⟩⟩⟩⟩
    unfold quota_Tree_Child_1_A
    rw [firstDead_drop hd] at e4
    refine bsel_in (fun g => ?_) fun g => ?_
    · have g : d.live = false := by simpa using g
      rw [g] at e4
      exact h1 v (by rw [e4]; simp)
    · have g : d.live = true := by simpa using g
      rw [g] at e4
      refine ⟨m - 1, by omega, v + 1, by rw [w64] <;> omega, by omega, rfl, ?_⟩
      rw [e4]
      cases firstDead (ns.drop (v + 1)) with
      | none => rfl
      | some j => simp; omega
  · have c : ¬(v : Int) < s.len := of_decide_eq_false c
    refine h0 ?_
    rw [e4, List.drop_eq_nil_of_le (by omega)]; rfl
theorem Clone_spec {P : SP} {k : Nat} {s : Sl} {Q : Sl → AH → Prop} (h : Own l A) (e : l[k]? = some P) (hr : Reads P s 5 (ndCells ns)) (hb : ns.length ≤ 64) (hn : s.a ≠ none)
    (hk : ∀ s' A', s'.len = ns.length → (s'.a = none → ndCells ns = []) → Own (SlO s' 5 (ndCells ns) :: l) A' → Q s' A') : slices_Clone_quota_Node_quota_Node_A s Q A := by
  have hl : s.len = ns.length := by have := rd_len h e hr; rw [ndCells_len] at this; omega
  unfold slices_Clone_quota_Node_quota_Node_A
  refine bsel_f (by cases ha : s.a with
    | none => exact absurd ha hn
    | some a => rfl) ?_
  refine new_C (cs := []) h fun b1 A1 h1 => ?_
  have h1 : Own (SlO ⟨some ⟨b1, 0, none⟩, 0, 0⟩ 5 [] :: l) A1 := h1.imp fun B _ => ⟨⟨by simp, Nat.le_refl _⟩, .inl rfl⟩
  refine ap_reads (i := k) h1 e hr (fun g => absurd g hn) (fun g => by cases g) rfl (fun v hv => ?_) ⟨by simp only [hl]; omega, by simp only [hl]; omega⟩ fun s' A2 j1 j2 h2 => ?_
  · unfold ndCells at hv
    obtain ⟨d, _, hd⟩ := List.mem_flatMap.1 hv
    simp [Nd.cells] at hd
    rcases hd with rfl | rfl | rfl | rfl | rfl <;> rfl
  · exact hk s' A2 (by rw [j1, hl]; simp) (fun g => by simpa using j2 g) (by simpa using h2)
theorem ndCells_app (a c : List Nd) : ndCells (a ++ c) = ndCells a ++ ndCells c := List.flatMap_append
theorem ndCells_set : ∀ {ns : List Nd} {i : Nat} {nd : Nd} (f : Nat) (v : Value) (nd' : Nd), ns[i]? = some nd → f < 5 → nd'.cells = nd.cells.set f v → (ndCells ns).set (i * 5 + f) v = ndCells (ns.set i nd')
  | [], _, _, _, _, _, e, _, _ => by simp at e
  | d :: ns, 0, nd, f, v, nd', e, hf, hc => by
    simp at e; subst e
    show (d.cells ++ ndCells ns).set (0 * 5 + f) v = nd'.cells ++ ndCells ns
    rw [hc, List.set_append_left _ _ (by simp [Nd.cells]; omega), Nat.zero_mul, Nat.zero_add]
  | d :: ns, i + 1, nd, f, v, nd', e, hf, hc => by
    have := ndCells_set (ns := ns) (i := i) (nd := nd) f v nd' (by simpa using e) hf hc
    show (d.cells ++ ndCells ns).set ((i + 1) * 5 + f) _ = d.cells ++ ndCells (ns.set i nd')
    rw [List.set_append_right _ _ (by simp [Nd.cells]; omega)]
    rw [show (i + 1) * 5 + f - d.cells.length = i * 5 + f by simp [Nd.cells]; omega, this]
/-- A field of a container is set. -/
theorem st_nd {f : Nat} {v : Value} {nd' : Nd} {K : AP} (h : Own (treeL t blk cap ns rest ++ R) A) (hi : ns[i]? = some nd) (hf : f < 5) (hv : v.oneCell' = true) (hc : nd'.cells = nd.cells.set f v) (hK : ∀ A', Own (treeL t blk cap (ns.set i nd') rest ++ R) A' → K A') : aC ⟨blk, i * 5 + f, none⟩ v A K := by
  have hl := (List.getElem?_eq_some_iff.1 hi).1
  have h5 : nd.cells[f]? = some (nd.cells[f]'(by simp [Nd.cells]; omega)) := by simp
  refine st_C (i := 1) h rfl ?_ hv fun A' h' => hK A' ?_
  · rw [cell_ix hi hf h5]; rfl
  · have h' : Own (At t [.slice (some ⟨blk, 0, none⟩) ns.length cap] :: At blk ((ndCells ns ++ rest).set (i * 5 + f) v) :: R) A' := h'
    rw [List.set_append_left _ _ (by rw [ndCells_len]; omega), ndCells_set f v nd' hi hf hc] at h'
    show Own (At t [.slice (some ⟨blk, 0, none⟩) (ns.set i nd').length cap] :: At blk (ndCells (ns.set i nd') ++ rest) :: R) A'
    rw [List.length_set]
    exact h'
set_option maxHeartbeats 1000000 in
theorem Child_spec {q : Int} {Q : Int → Int → AH → Prop} (h : Own (TreeS t ns :: R) A) (hi : ns[i]? = some nd) (hlv : nd.live = true) (h1 : q < 0 → Q 0 1 A) (h8 : 0 ≤ q → q > nd.quo - nd.use - nd.lent → Q 0 8 A)
    (h4 : 0 ≤ q → q ≤ nd.quo - nd.use - nd.lent → firstDead ns = none → 64 ≤ ns.length → Q 0 4 A)
    (hnew : 0 ≤ q → q ≤ nd.quo - nd.use - nd.lent → firstDead ns = none → ns.length < 64 → ∀ A', Own (TreeS t (ns.set i { nd with lent := nd.lent + q } ++ [⟨i, q, 0, 0, true⟩]) :: R) A' → Q ns.length 0 A')
    (hold : 0 ≤ q → q ≤ nd.quo - nd.use - nd.lent → ∀ j, firstDead ns = some j → ∀ A', Own (TreeS t ((ns.set i { nd with lent := nd.lent + q }).set j ⟨i, q, 0, 0, true⟩) :: R) A' → Q j 0 A') :
    quota_Tree_Child_A (some ⟨t, 0, none⟩) i q Q A := by
  obtain ⟨blk, cap, rest, ⟨hlen, hoks⟩, hh⟩ := TreeS.openH h
  have hok := hoks nd (List.mem_of_getElem? hi)
  obtain ⟨o1, o2, o3, o4⟩ := hok
  have hil := (List.getElem?_eq_some_iff.1 hi).1
  unfold quota_Tree_Child_A quota_Tree_Child_G
  refine at_raw hh hi hlv (bsel_f rfl (bsel_in (fun c => h1 (of_decide_eq_true c)) fun c => ?_))
  have q0 : 0 ≤ q := Int.not_lt.1 (of_decide_eq_false c)
  refine Room_raw hh hi hlv ⟨o1, o2, o3, o4⟩ (bsel_in (fun c => h8 q0 (of_decide_eq_true c)) fun c => ?_)
  have q1 : q ≤ nd.quo - nd.use - nd.lent := Int.not_lt.1 (of_decide_eq_false c)
  have rdN : ∀ {ns : List Nd} {cap : Nat} {rest : List Value}, Reads (At blk (ndCells ns ++ rest)) ⟨some ⟨blk, 0, none⟩, ns.length, cap⟩ 5 (ndCells ns) := fun {ns cap rest} => reads_at (by rw [ndCells_len])
  refine ld_S (i := 0) hh rfl rfl ?_
  have hnd' : ({ nd with lent := nd.lent + q } : Nd).OK := ⟨o1, by simp; omega, by simp; omega, o4⟩
  have hnn : (⟨i, q, 0, 0, true⟩ : Nd).OK := ⟨by simp, by simp, by simp; omega, by simp; omega⟩
  have hidx : ∀ n8 : Int, ((n8 = -1 ∧ firstDead ns = none) ∨ ∃ j : Nat, n8 = j ∧ firstDead ns = some j) →
      ∃ R10 : AH → Prop, (∀ h13, R10 h13 → onSome (some ⟨blk, i * 5, none⟩ : Option Addr) fun a14 => aI .i64 (Addr.add a14 3) h13 fun n15 => onSome (some ⟨blk, i * 5, none⟩ : Option Addr) fun a16 => aC (Addr.add a16 3) (.int .i64 (IntKind.wrap .i64 (n15 + q))) h13 fun h17 =>
        bsel (decide (n8 < (0 : Int))) (onSome (some ⟨t, 0, none⟩ : Option Addr) fun a18 => aS a18 h17 fun s19 =>
          ((slices_Clone_quota_Node_quota_Node_A s19 (fun s20 h21 => newA h21 (.cells #[(.int .i64 i), (.int .i64 q), (.int .i64 (0 : Int)), (.int .i64 (0 : Int)), (.bool (true : Bool))] 88) fun b22 h23 =>
            apA 5 40 #[(.int .i64 (0 : Int)), (.int .i64 (0 : Int)), (.int .i64 (0 : Int)), (.int .i64 (0 : Int)), (.bool false)] 88 s20 (Sl.mk (some (Addr.mk b22 0 none)) 1 1) h23 fun s24 h25 =>
              onSome (some ⟨t, 0, none⟩ : Option Addr) fun a26 => aC a26 (.slice s24.a s24.len s24.cap) h25 fun h27 => onSome (some ⟨t, 0, none⟩ : Option Addr) fun a28 => aS a28 h27 fun s29 => Q (IntKind.wrap .i64 ((Int.ofNat s29.len) - (1 : Int))) (0 : Int) h27) h17) ∧
          newA h17 (.cells #[(.int .i64 i), (.int .i64 q), (.int .i64 (0 : Int)), (.int .i64 (0 : Int)), (.bool (true : Bool))] 88) fun b30 h31 =>
            (aS a18 h31 fun s32 => (((.slice s32.a s32.len s32.cap) : Value) = (.slice s19.a s19.len s19.cap))) ∧
            slices_Clone_quota_Node_quota_Node_A s19 (fun s33 h34 => apA 5 40 #[(.int .i64 (0 : Int)), (.int .i64 (0 : Int)), (.int .i64 (0 : Int)), (.int .i64 (0 : Int)), (.bool false)] 88 s33 (Sl.mk (some (Addr.mk b30 0 none)) 1 1) h34 fun s35 h36 =>
              onSome (some ⟨t, 0, none⟩ : Option Addr) fun a37 => aC a37 (.slice s35.a s35.len s35.cap) h36 fun h38 => onSome (some ⟨t, 0, none⟩ : Option Addr) fun a39 => aS a39 h38 fun s40 => Q (IntKind.wrap .i64 ((Int.ofNat s40.len) - (1 : Int))) (0 : Int) h38) h31))
        (onSome (some ⟨t, 0, none⟩ : Option Addr) fun a41 => aS a41 h17 fun s42 => onSome s42.a fun a43 => inB n8 s42.len (aC (Addr.add a43 (Int.toNat n8 * 5)) (.int .i64 i) h17 fun h44 => aC (Addr.add (Addr.add a43 (Int.toNat n8 * 5)) 1) (.int .i64 q) h44 fun h45 =>
          aC (Addr.add (Addr.add a43 (Int.toNat n8 * 5)) 2) (.int .i64 (0 : Int)) h45 fun h46 => aC (Addr.add (Addr.add a43 (Int.toNat n8 * 5)) 3) (.int .i64 (0 : Int)) h46 fun h47 => aC (Addr.add (Addr.add a43 (Int.toNat n8 * 5)) 4) (.bool (true : Bool)) h47 fun h48 => Q n8 (0 : Int) h48))) ∧
        (bsel (decide (n8 < (0 : Int))) (onSome (some ⟨t, 0, none⟩ : Option Addr) fun a11 => aS a11 A fun s12 => bsel (decide ((Int.ofNat s12.len) ≥ (64 : Int))) (Q (0 : Int) (4 : Int) A) (R10 A)) (R10 A)) := by
    intro n8 hn8
    refine ⟨fun h' => h' = A ∧ (firstDead ns = none → ns.length < 64), ?_, ?_⟩
    · intro A1 ⟨e1, hsm⟩
      subst e1
      refine ld_nd (f := 3) hh hi (by omega) rfl ?_
      simp only [onSome, add_at]
      rw [w64 (n := nd.lent + q) (by omega) (by omega)]
      refine st_nd (nd' := { nd with lent := nd.lent + q }) hh hi (by omega) rfl rfl fun A2 h2 => ?_
      have hlen' : (ns.set i { nd with lent := nd.lent + q }).length = ns.length := List.length_set ..
      rcases hn8 with ⟨e8, hd⟩ | ⟨j, e8, hd⟩
      · subst e8
        have hsm := hsm hd
        refine bsel_t rfl (ld_S (i := 0) h2 rfl rfl ⟨?_, ?_⟩)
        · -- first the copy
          refine Clone_spec (k := 1) h2 rfl rdN (by omega) (by simp) fun s20 A3 l20 n20 h3 => ?_
          refine new_C (cs := (⟨i, q, 0, 0, true⟩ : Nd).cells) h3 fun b22 A4 h4 => ?_
          refine ap_reads (i := 0) (P := At b22 ((⟨i, q, 0, 0, true⟩ : Nd).cells ++ [])) h4.swap (by simp) (reads_at (by simp [Nd.cells])) (fun g => by cases g) (fun g => n20 g) rfl (fun v hv => ?_) ⟨by simp only [l20, hlen']; omega, by simp only [l20, hlen']; omega⟩ fun s24 A5 l24 n24 h5 => ?_
          · simp [Nd.cells] at hv
            rcases hv with rfl | rfl | rfl | rfl | rfl <;> rfl
          have h5 : Own (SlO s24 5 (ndCells (ns.set i { nd with lent := nd.lent + q } ++ [⟨i, q, 0, 0, true⟩])) :: At b22 (⟨i, q, 0, 0, true⟩ : Nd).cells :: At t [.slice (some ⟨blk, 0, none⟩) (ns.set i { nd with lent := nd.lent + q }).length cap] :: At blk (ndCells (ns.set i { nd with lent := nd.lent + q }) ++ rest) :: R) A5 := by
            have e1 : ndCells [(⟨i, q, 0, 0, true⟩ : Nd)] = (⟨i, q, 0, 0, true⟩ : Nd).cells := by simp [ndCells]
            rw [ndCells_app, e1]; exact h5
          refine st_C (i := 2) h5 rfl rfl rfl fun A6 h6 => ld_S (i := 2) h6 rfl rfl ?_
          have h6 : Own (SlO s24 5 (ndCells (ns.set i { nd with lent := nd.lent + q } ++ [⟨i, q, 0, 0, true⟩])) :: At b22 (⟨i, q, 0, 0, true⟩ : Nd).cells :: At t [.slice s24.a s24.len s24.cap] :: At blk (ndCells (ns.set i { nd with lent := nd.lent + q }) ++ rest) :: R) A6 := h6
          have e24 : s24.len = ns.length + 1 := by rw [l24, l20, hlen']
          rw [show IntKind.wrap .i64 (Int.ofNat s24.len - 1) = (ns.length : Int) by rw [e24, w64] <;> simp <;> omega]
          refine hnew q0 q1 hd hsm A6 ?_
          obtain ⟨hp, h6⟩ := Own.pure h6
          have hcap : s24.cap ≠ 0 := by omega
          have h6 := h6.imp (P' := fun B => ∃ b rest', s24.a = some ⟨b, 0, none⟩ ∧ At b (ndCells (ns.set i { nd with lent := nd.lent + q } ++ [⟨i, q, 0, 0, true⟩]) ++ rest') B) fun B hB => by
            rcases hB with hB | ⟨b, rest', g1, _, g3⟩
            · exact absurd hB hcap
            · exact ⟨b, rest', g1, g3⟩
          obtain ⟨b, h6⟩ := Own.ex h6
          obtain ⟨rest', h6⟩ := Own.ex h6
          obtain ⟨ha, h6⟩ := Own.pure h6
          rw [ha, e24] at h6
          refine TreeS.closeH (ns := ns.set i { nd with lent := nd.lent + q } ++ [⟨i, q, 0, 0, true⟩]) (blk := b) (cap := s24.cap) (rest := rest') (by simp; omega) (fun d hd' => ?_) ?_
          · rcases List.mem_append.1 hd' with hd' | hd'
            · exact set_ok hoks hnd' d hd'
            · simp at hd'; subst hd'; exact hnn
          · have : (ns.set i { nd with lent := nd.lent + q } ++ [(⟨i, q, 0, 0, true⟩ : Nd)]).length = ns.length + 1 := by simp
            unfold treeL
            rw [this]
            exact (h6.pick 2 rfl).sub (List.Sublist.cons_cons _ (List.Sublist.cons_cons _ ((List.sublist_cons_self _ _).trans (List.sublist_cons_self _ _))))
        · -- first the new one
          refine new_C (cs := (⟨i, q, 0, 0, true⟩ : Nd).cells) h2 fun b30 A3 h3 => ?_
          refine ⟨ld_S (i := 1) h3 rfl rfl rfl, ?_⟩
          refine Clone_spec (k := 2) h3 rfl rdN (by omega) (by simp) fun s20 A4 l20 n20 h4 => ?_
          refine ap_reads (i := 0) (P := At b30 ((⟨i, q, 0, 0, true⟩ : Nd).cells ++ [])) h4 (by simp) (reads_at (by simp [Nd.cells])) (fun g => by cases g) (fun g => n20 g) rfl (fun v hv => ?_) ⟨by simp only [l20, hlen']; omega, by simp only [l20, hlen']; omega⟩ fun s24 A5 l24 n24 h5 => ?_
          · simp [Nd.cells] at hv
            rcases hv with rfl | rfl | rfl | rfl | rfl <;> rfl
          have h5 : Own (SlO s24 5 (ndCells (ns.set i { nd with lent := nd.lent + q } ++ [⟨i, q, 0, 0, true⟩])) :: At b30 (⟨i, q, 0, 0, true⟩ : Nd).cells :: At t [.slice (some ⟨blk, 0, none⟩) (ns.set i { nd with lent := nd.lent + q }).length cap] :: At blk (ndCells (ns.set i { nd with lent := nd.lent + q }) ++ rest) :: R) A5 := by
            have e1 : ndCells [(⟨i, q, 0, 0, true⟩ : Nd)] = (⟨i, q, 0, 0, true⟩ : Nd).cells := by simp [ndCells]
            rw [ndCells_app, e1]; exact h5
          refine st_C (i := 2) h5 rfl rfl rfl fun A6 h6 => ld_S (i := 2) h6 rfl rfl ?_
          have h6 : Own (SlO s24 5 (ndCells (ns.set i { nd with lent := nd.lent + q } ++ [⟨i, q, 0, 0, true⟩])) :: At b30 (⟨i, q, 0, 0, true⟩ : Nd).cells :: At t [.slice s24.a s24.len s24.cap] :: At blk (ndCells (ns.set i { nd with lent := nd.lent + q }) ++ rest) :: R) A6 := h6
          have e24 : s24.len = ns.length + 1 := by rw [l24, l20, hlen']
          rw [show IntKind.wrap .i64 (Int.ofNat s24.len - 1) = (ns.length : Int) by rw [e24, w64] <;> simp <;> omega]
          refine hnew q0 q1 hd hsm A6 ?_
          obtain ⟨hp, h6⟩ := Own.pure h6
          have hcap : s24.cap ≠ 0 := by omega
          have h6 := h6.imp (P' := fun B => ∃ b rest', s24.a = some ⟨b, 0, none⟩ ∧ At b (ndCells (ns.set i { nd with lent := nd.lent + q } ++ [⟨i, q, 0, 0, true⟩]) ++ rest') B) fun B hB => by
            rcases hB with hB | ⟨b, rest', g1, _, g3⟩
            · exact absurd hB hcap
            · exact ⟨b, rest', g1, g3⟩
          obtain ⟨b, h6⟩ := Own.ex h6
          obtain ⟨rest', h6⟩ := Own.ex h6
          obtain ⟨ha, h6⟩ := Own.pure h6
          rw [ha, e24] at h6
          refine TreeS.closeH (ns := ns.set i { nd with lent := nd.lent + q } ++ [⟨i, q, 0, 0, true⟩]) (blk := b) (cap := s24.cap) (rest := rest') (by simp; omega) (fun d hd' => ?_) ?_
          · rcases List.mem_append.1 hd' with hd' | hd'
            · exact set_ok hoks hnd' d hd'
            · simp at hd'; subst hd'; exact hnn
          · have : (ns.set i { nd with lent := nd.lent + q } ++ [(⟨i, q, 0, 0, true⟩ : Nd)]).length = ns.length + 1 := by simp
            unfold treeL
            rw [this]
            exact (h6.pick 2 rfl).sub (List.Sublist.cons_cons _ (List.Sublist.cons_cons _ ((List.sublist_cons_self _ _).trans (List.sublist_cons_self _ _))))
      · subst e8
        obtain ⟨d, hdj, hdl⟩ := firstDead_lt hd
        have hij : i ≠ j := fun g => by subst g; rw [hi] at hdj; cases hdj; rw [hlv] at hdl; cases hdl
        have hjl := (List.getElem?_eq_some_iff.1 hdj).1
        have hdj' : (ns.set i { nd with lent := nd.lent + q })[j]? = some d := by rw [List.getElem?_set_ne hij]; exact hdj
        generalize hns : ns.set i { nd with lent := nd.lent + q } = ns' at *
        refine bsel_f (by simp) (ld_S (i := 0) h2 rfl rfl (inB_in (by omega) (by show (j : Int) < (ns'.length : Int); omega) ?_))
        simp only [add_at, Int.toNat_natCast, Nat.zero_add]
        have at_ : ∀ {m : List Nd} {x : Nd}, j < m.length → (m.set j x)[j]? = some x := fun hm => by simp [hm]
        rw [show j * 5 = j * 5 + 0 by omega]
        refine st_nd (f := 0) (nd' := ⟨i, d.quo, d.use, d.lent, d.live⟩) h2 hdj' (by omega) rfl rfl fun A3 h3 => ?_
        refine st_nd (f := 1) (nd' := ⟨i, q, d.use, d.lent, d.live⟩) h3 (at_ (by omega)) (by omega) rfl rfl fun A4 h4 => ?_
        refine st_nd (f := 2) (nd' := ⟨i, q, 0, d.lent, d.live⟩) h4 (at_ (by simp; omega)) (by omega) rfl rfl fun A5 h5 => ?_
        refine st_nd (f := 3) (nd' := ⟨i, q, 0, 0, d.live⟩) h5 (at_ (by simp; omega)) (by omega) rfl rfl fun A6 h6 => ?_
        refine st_nd (f := 4) (nd' := ⟨i, q, 0, 0, true⟩) h6 (at_ (by simp; omega)) (by omega) rfl rfl fun A7 h7 => ?_
        simp only [List.set_set] at h7
        refine hold q0 q1 j hd A7 (TreeS.closeH (by simp; omega) (fun d' hd' => ?_) h7)
        refine set_ok (fun d2 hd2 => ?_) hnn d' hd'
        rw [← hns] at hd2
        exact set_ok hoks hnd' d2 hd2
    · rcases hn8 with ⟨e8, hd⟩ | ⟨j, e8, hd⟩
      · subst e8
        refine bsel_t rfl (ld_S (i := 0) hh rfl rfl (bsel_in (fun g => h4 q0 q1 hd ?_) fun g => ⟨rfl, fun _ => ?_⟩))
        · have := of_decide_eq_true g
          have e : Int.ofNat ns.length = (ns.length : Int) := rfl
          simp only at this; omega
        · have := of_decide_eq_false g
          have e : Int.ofNat ns.length = (ns.length : Int) := rfl
          simp only at this; omega
      · subst e8
        exact bsel_f (by simp) ⟨rfl, fun g => by rw [hd] at g; cases g⟩
  exact IndexDead_spec (k := 1) hh rfl rdN hlen (fun g => hidx (-1) (.inl ⟨rfl, g⟩)) fun j g => hidx j (.inr ⟨j, rfl, g⟩)
end Go.Dn
