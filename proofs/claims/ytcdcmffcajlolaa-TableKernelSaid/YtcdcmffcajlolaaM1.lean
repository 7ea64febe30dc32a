/- What the proof stands on, part 1: DnS, DnT, DnU, DnV, DnW, DnJ, DnK, DnX, DnY. -/
import Derived.Test.YtcdcmffcajlolaaM0
import Derived.Shelf.SlIterI.Nil
/- What is asked over a part of the heap is enough for the whole: boxes, and operations on them. -/
namespace Go.Dn

theorem beqN {a b : Nat} : (Nat.beq a b = true) ↔ a = b := ⟨Nat.eq_of_beq_eq_true, fun e => by subst e; simp⟩
theorem beqF {a b : Nat} : (Nat.beq a b = false) ↔ a ≠ b := by
  constructor
  · intro h e; subst e; simp at h
  · intro h
    cases g : Nat.beq a b with
    | true => exact absurd (beqN.1 g) h
    | false => rfl
theorem memN_iff {t : Nat} : ∀ {l : List Nat}, memN t l = true ↔ t ∈ l
  | [] => by simp [memN]
  | x :: r => by
    unfold memN
    cases g : Nat.beq x t with
    | true => have := beqN.1 g; simp [this]
    | false =>
      have := beqF.1 g
      simp only [List.mem_cons]
      rw [memN_iff]
      constructor
      · exact .inr
      · rintro (rfl | h)
        · exact absurd rfl this
        · exact h
theorem memN_no {t : Nat} {l : List Nat} : memN t l = false ↔ t ∉ l := by
  rw [← memN_iff]
  cases memN t l <;> simp
theorem lookB_cons {d t : Nat} {p : Nat × Nat} {r : Bvs} : lookB ((d, p) :: r) t = if d = t then some p else lookB r t := by
  simp only [lookB]
  cases g : Nat.beq d t with
  | true => simp [beqN.1 g]
  | false => simp [beqF.1 g]
theorem lookX_cons {d t : Nat} {p : List Value × TypeId} {r : Bxs} : lookX ((d, p) :: r) t = if d = t then some p else lookX r t := by
  simp only [lookX]
  cases g : Nat.beq d t with
  | true => simp [beqN.1 g]
  | false => simp [beqF.1 g]
theorem lookB_drop {d : Nat} : ∀ {l : Bvs} {t : Nat} {p : Nat × Nat}, lookB (dropB d l) t = some p → lookB l t = some p ∧ t ≠ d
  | [], _, _, h => by simp [dropB, lookB] at h
  | (x, q) :: r, t, p, h => by
    unfold dropB at h
    cases g : Nat.beq x d with
    | true =>
      rw [g] at h
      obtain ⟨h1, h2⟩ := lookB_drop h
      have := beqN.1 g
      subst this
      exact ⟨by rw [lookB_cons, if_neg (Ne.symm h2)]; exact h1, h2⟩
    | false =>
      rw [g] at h
      simp only at h
      rw [lookB_cons] at h ⊢
      have := beqF.1 g
      split at h
      · rename_i e; subst e; exact ⟨by rw [if_pos rfl]; exact h, this⟩
      · rename_i e
        obtain ⟨h1, h2⟩ := lookB_drop h
        exact ⟨by rw [if_neg e]; exact h1, h2⟩
theorem lookX_split {i : Nat} {p : List Value × TypeId} : ∀ {l : Bxs}, lookX l i = some p → ∃ l1 l2, l = l1 ++ (i, p) :: l2 ∧ (∀ e ∈ l1, e.1 ≠ i)
  | [], h => by simp [lookX] at h
  | (d, q) :: r, h => by
    rw [lookX_cons] at h
    split at h
    · rename_i e; subst e; cases h; exact ⟨[], r, rfl, fun _ h => by simp at h⟩
    · rename_i e
      obtain ⟨l1, l2, rfl, h2⟩ := lookX_split h
      refine ⟨(d, q) :: l1, l2, rfl, fun e' he => ?_⟩
      rcases List.mem_cons.1 he with rfl | he
      · exact e
      · exact h2 _ he
theorem lookX_mem {i : Nat} {l : Bxs} : lookX l i = none ↔ i ∉ l.map (·.1) := by
  induction l with
  | nil => simp [lookX]
  | cons e r ih =>
    obtain ⟨d, q⟩ := e
    rw [lookX_cons]
    by_cases g : d = i
    · simp [g]
    · rw [if_neg g, ih]
      simp [Ne.symm g]
theorem setX_split {i : Nat} {p : List Value × TypeId} {cs : List Value} : ∀ {l1 l2 : Bxs}, (∀ e ∈ l1, e.1 ≠ i) → setX (l1 ++ (i, p) :: l2) i cs = l1 ++ (i, (cs, p.2)) :: l2
  | [], l2, _ => by simp [setX]
  | (d, q) :: l1, l2, h => by
    have hd : d ≠ i := h _ List.mem_cons_self
    show setX ((d, q) :: (l1 ++ (i, p) :: l2)) i cs = _
    unfold setX
    rw [beqF.2 hd]
    simp only
    rw [setX_split fun e he => h e (List.mem_cons_of_mem _ he)]
    rfl
theorem lookX_setX {i j : Nat} {cs : List Value} {p : List Value × TypeId} {l : Bxs} (h : lookX l i = some p) : lookX (setX l i cs) j = if i = j then some (cs, p.2) else lookX l j := by
  obtain ⟨l1, l2, rfl, h1⟩ := lookX_split h
  rw [setX_split h1]
  clear h
  induction l1 with
  | nil =>
    simp only [List.nil_append, lookX_cons]
    by_cases g : i = j
    · simp [g]
    · simp [g]
  | cons e l1 ih =>
    obtain ⟨d, q⟩ := e
    simp only [List.cons_append, lookX_cons]
    have hd : d ≠ i := h1 _ List.mem_cons_self
    rw [ih fun e he => h1 e (List.mem_cons_of_mem _ he)]
    by_cases g : d = j
    · subst g
      have q1 : ¬ i = d := Ne.symm hd
      simp [q1]
    · rw [if_neg g, if_neg g]
theorem setX_ids {i : Nat} {cs : List Value} : ∀ {l : Bxs}, (setX l i cs).map (·.1) = l.map (·.1)
  | [] => rfl
  | (d, q) :: r => by
    unfold setX
    cases g : Nat.beq d i with
    | true => rfl
    | false => simp only [List.map_cons]; rw [setX_ids]

theorem Sim.perm {A : AH} {L L' : Bx} {h : Hp} (s : Sim A L h) (p : L.Perm L') : Sim A L' h :=
  ⟨s.sub, fun e m => s.box e (p.mem_iff.2 m), (p.pairwise_iff (fun {_ _} hxy => Ne.symm hxy)).1 s.apart⟩
def bxL (β : Nat → Nat) (bx : Bxs) : Bx := bx.map fun e => (β e.1, e.2.1, e.2.2)
def setF (β : Nat → Nat) (i b : Nat) : Nat → Nat := fun j => if j = i then b else β j
theorem bxL_congr {β β' : Nat → Nat} {bx : Bxs} (h : ∀ i ∈ bx.map (·.1), β i = β' i) : bxL β bx = bxL β' bx := by
  unfold bxL
  apply List.map_congr_left
  intro e he
  rw [h e.1 (List.mem_map.2 ⟨e, he, rfl⟩)]
/-- What is known, and what is there; boxes in 'E' are known to nobody. -/
structure RB (E : Bx) (β : Nat → Nat) (s : SA) (t : St) (A : AH) (h : Hp) : Prop where
  env : EnvLe s.env t.env
  bv : ∀ x i o, lookB s.bv x = some (i, o) → look t.env x = some (.pointer (some ⟨β i, o, none⟩)) ∧ ∃ p, lookX s.bx i = some p
  ds : t.ds = s.ds
  sim : Sim A (bxL β s.bx ++ E) h
  nd : (s.bx.map (·.1)).Nodup
def okC (pr : List (Nat × Nat)) (i j : Nat) : Prop := (i, j) ∈ pr
/-- Boxes and cells that must stay are as they were. -/
structure SamB (s0 : SA) (β0 : Nat → Nat) (s : SA) (β : Nat → Nat) : Prop where
  pi : s.pi = s0.pi
  pr : s.pr = s0.pr
  kept : ∀ i ∈ s0.pi, ∀ cs ty, lookX s.bx i = some (cs, ty) → β i = β0 i ∧ ∃ c0, lookX s0.bx i = some (c0, ty) ∧ cs.length = c0.length ∧ ∀ j, (i, j) ∈ s0.pr → cs[j]? = c0[j]?
theorem SamB.refl (s : SA) (β : Nat → Nat) : SamB s β s β := ⟨rfl, rfl, fun _ _ cs _ h => ⟨rfl, cs, h, rfl, fun _ _ => rfl⟩⟩
theorem SamB.of_bx {s s' : SA} {β : Nat → Nat} (h1 : s'.bx = s.bx) (h2 : s'.pi = s.pi) (h3 : s'.pr = s.pr) : SamB s β s' β := ⟨h2, h3, fun _ _ cs _ h => ⟨rfl, cs, by rw [← h1]; exact h, rfl, fun _ _ => rfl⟩⟩
theorem SamB.trans {s0 s1 s2 : SA} {β0 β1 β2 : Nat → Nat} (h : SamB s0 β0 s1 β1) (k : SamB s1 β1 s2 β2) : SamB s0 β0 s2 β2 := by
  refine ⟨k.pi.trans h.pi, k.pr.trans h.pr, fun i hi cs ty hl => ?_⟩
  obtain ⟨e1, c1, l1, n1, q1⟩ := k.kept i (by rw [h.pi]; exact hi) cs ty hl
  obtain ⟨e2, c2, l2, n2, q2⟩ := h.kept i hi c1 ty l1
  exact ⟨e1.trans e2, c2, l2, n1.trans n2, fun j hj => (q1 j (by rw [h.pr]; exact hj)).trans (q2 j hj)⟩

section
variable {P : Program} {CA : CTA} {n : Nat} {pm : List Nat} {E : Bx} {A : AH} {h : Hp} {β : Nat → Nat} {s : SA} {t : St}
theorem RB.box (r : RB E β s t A h) {i : Nat} {cs : List Value} {ty : TypeId} (hl : lookX s.bx i = some (cs, ty)) : ∃ l1 l2, bxL β s.bx ++ E = l1 ++ (β i, cs, ty) :: l2 ∧ ∀ cs', bxL β (setX s.bx i cs') ++ E = l1 ++ (β i, cs', ty) :: l2 := by
  obtain ⟨l1, l2, e, h1⟩ := lookX_split hl
  refine ⟨bxL β l1, bxL β l2 ++ E, by rw [e]; simp [bxL], fun cs' => ?_⟩
  rw [e, setX_split h1]
  simp [bxL]
theorem boxAt_get {A : AH} {h : Hp} {l1 l2 : Bx} {b : Nat} {cs : List Value} {ty : TypeId} (s : Sim A (l1 ++ (b, cs, ty) :: l2) h) : (l1 ++ (b, cs, ty) :: l2)[l1.length]? = some (b, cs, ty) := by simp
theorem ldC_box {A : AH} {h : Hp} {l1 l2 : Bx} {b o : Nat} {cs : List Value} {ty : TypeId} {c : CK} {v : Value} {K : Value → Prop} (s : Sim A (l1 ++ (b, cs, ty) :: l2) h) (hv : cs[o]? = some v) (hc : ckV c v = true) (hk : K v) : ldC c ⟨b, o, none⟩ h K := by
  have hg := boxAt_get s
  cases c <;> cases v <;> simp only [ckV] at hc <;> first | (cases hc; done) | skip
  · rename_i k k' x
    have : k = k' := by cases k <;> cases k' <;> first | rfl | cases hc
    subst this
    exact box_I s hg hv hk
  · exact box_B s hg hv hk
  · exact box_P s hg hv hk
  · exact box_S s hg hv hk
  · exact box_M s hg hv hk
  all_goals exact box_V s hg hv hk
theorem ldL_box {A : AH} {h : Hp} {l1 l2 : Bx} {b o : Nat} {cs : List Value} {ty : TypeId} (s : Sim A (l1 ++ (b, cs, ty) :: l2) h) : ∀ (l : List CK) (vs : List Value) (k : Nat) (K : List Value → Prop), cksV l vs = true → (∀ j v, vs[j]? = some v → cs[o + k + j]? = some v) → K vs → ldL l ⟨b, o, none⟩ k h K
  | [], [], _, _, _, _, hk => hk
  | [], _ :: _, _, _, hc, _, _ => by simp [cksV] at hc
  | _ :: _, [], _, _, hc, _, _ => by simp [cksV] at hc
  | c :: l, v :: vs, k, K, hc, hv, hk => by
    unfold cksV at hc
    split at hc
    · rename_i h1
      show ldC c (Addr.add ⟨b, o, none⟩ k) h _
      have hadd : Addr.add ⟨b, o, none⟩ k = ⟨b, o + k, none⟩ := by
        unfold Addr.add
        split
        · subst_vars; rfl
        · rfl
      rw [hadd]
      refine ldC_box s (v := v) (by simpa using hv 0 v rfl) h1 ?_
      refine ldL_box s l vs (k + 1) _ hc (fun j w hw => ?_) hk
      have := hv (j + 1) w (by simpa using hw)
      rw [← this]; congr 1; omega
    · cases hc
theorem ldD_box {A : AH} {h : Hp} {l1 l2 : Bx} {b o : Nat} {cs : List Value} {ty : TypeId} {tt : TypeId} {K : Value → Prop} (s : Sim A (l1 ++ (b, cs, ty) :: l2) h) (hh : ldX P tt cs o K) : ldD P tt ⟨b, o, none⟩ h K := by
  unfold ldX at hh
  unfold ldD
  split at hh
  · rename_i d m e1 e2
    rw [e1, e2]
    simp only
    split at hh
    · rename_i e3
      rw [e3]
      simp only
      split at hh
      · rename_i l e4
        rw [e4]
        simp only
        split at hh
        · rename_i e5 e6
          rw [e5]
          refine ldL_box s _ _ 0 _ e6 (fun j v hv => ?_) hh
          have hj := (List.getElem?_eq_some_iff.1 hv).1
          rw [List.getElem?_take_of_lt (by simp at hj; omega), List.getElem?_drop] at hv
          rw [Nat.add_zero]; exact hv
        · exact hh.elim
      · exact hh.elim
    · rename_i e3
      rw [e3]
      simp only
      split at hh
      · rename_i c v r e4 e5
        rw [e4]
        simp only
        split at hh
        · rename_i e6
          refine ldC_box s (v := v) ?_ e6 hh
          have : (cs.drop o)[0]? = some v := by rw [e5]; rfl
          rw [List.getElem?_drop] at this
          exact this
        · exact hh.elim
      · exact hh.elim
  · exact hh.elim
theorem putL_len : ∀ (vs cs : List Value) (o : Nat), (putL cs o vs).length = cs.length
  | [], _, _ => rfl
  | v :: vs, cs, o => by unfold putL; rw [putL_len vs]; simp
theorem putL_get : ∀ (vs cs : List Value) (o j : Nat), (j < o ∨ o + vs.length ≤ j) → (putL cs o vs)[j]? = cs[j]?
  | [], _, _, _, _ => rfl
  | v :: vs, cs, o, j, h => by
    unfold putL
    rw [putL_get vs _ _ _ (by simp at h; omega), List.getElem?_set_ne (by simp at h; omega)]
theorem stL_box {b o : Nat} {ty : TypeId} {l1 l2 : Bx} {A : AH} {K : HP} : ∀ (vs cs : List Value) (k : Nat) (h : Hp), Sim A (l1 ++ (b, cs, ty) :: l2) h → allOne vs = true → o + k + vs.length ≤ cs.length →
    (∀ h', Sim A (l1 ++ (b, putL cs (o + k) vs, ty) :: l2) h' → K h') → stL vs ⟨b, o, none⟩ k h K
  | [], cs, k, h, s, _, _, hk => hk h s
  | v :: vs, cs, k, h, s, ho, hn, hk => by
    unfold allOne at ho
    split at ho
    · rename_i h1
      show stC (Addr.add ⟨b, o, none⟩ k) v h _
      have hadd : Addr.add ⟨b, o, none⟩ k = ⟨b, o + k, none⟩ := by
        unfold Addr.add
        split
        · subst_vars; rfl
        · rfl
      rw [hadd]
      simp only [List.length_cons] at hn
      refine box_set s (boxAt_get s) (by simp; omega) h1 fun h' s' => ?_
      rw [List.set_append_right _ _ (Nat.le_refl _), Nat.sub_self, List.set_cons_zero] at s'
      exact stL_box vs _ (k + 1) h' s' ho (by simp; omega) hk
    · cases ho
theorem okPr_mp {i o m : Nat} : ∀ {l : List (Nat × Nat)}, okPr i o m l = true → ∀ j, (i, j) ∈ l → j < o ∨ o + m ≤ j
  | [], _, _, h => by simp at h
  | (i', j') :: r, h, j, hm => by
    unfold okPr at h
    split at h
    · cases h
    · rename_i g
      rcases List.mem_cons.1 hm with e | hm
      · have e1 := (Prod.mk.inj e).1
        have e2 := (Prod.mk.inj e).2
        rw [← e1, ← e2] at g
        have : Nat.beq i i = true := beqN.2 rfl
        rw [this, Bool.true_and] at g
        rcases Nat.lt_or_ge j o with q | q
        · exact .inl q
        · have : Nat.ble o j = true := Nat.ble_eq_true_of_le q
          rw [this, Bool.true_and] at g
          refine .inr ?_
          rcases Nat.lt_or_ge j (o + m) with q2 | q2
          · have : Nat.blt j (o + m) = true := Nat.ble_eq_true_of_le q2
            rw [this] at g; cases g
          · exact q2
      · exact okPr_mp h j hm
theorem stX_up {tt : TypeId} {i o : Nat} {v : Value} {K : SA → Prop} {K' : HP} (r : RB E β s t A h) (hh : stX P tt s i o v K) (hk : ∀ s' h', RB E β s' t A h' → SamB s β s' β → s'.env = s.env → s'.bv = s.bv → s'.ds = s.ds → K s' → K' h') : stD P tt ⟨β i, o, none⟩ v h K' := by
  unfold stX at hh
  unfold stD
  split at hh
  · rename_i m cs ty e1 e2
    rw [e1]
    simp only
    split at hh
    · rename_i g1 g2 g3 g4
      rw [g1]
      simp only
      obtain ⟨l1, l2, q1, q2⟩ := r.box e2
      have sim := r.sim
      rw [q1] at sim
      have hm := beqN.1 g1
      refine stL_box _ _ 0 h sim g3 (by have := Nat.le_of_ble_eq_true g2; omega) fun h' s' => ?_
      rw [Nat.add_zero] at s'
      refine hk { s with bx := setX s.bx i (putL cs o v.cells.toList) } h' ⟨r.env, fun x j p hb => ?_, r.ds, ?_, ?_⟩ ⟨rfl, rfl, fun j hj cs' ty' hl => ?_⟩ rfl rfl rfl hh
      · obtain ⟨a1, q, a2⟩ := r.bv x j p hb
        refine ⟨a1, ?_⟩
        rw [lookX_setX e2]
        split
        · exact ⟨_, rfl⟩
        · exact ⟨_, a2⟩
      · rw [q2]; exact s'
      · rw [setX_ids]; exact r.nd
      · rw [lookX_setX e2] at hl
        split at hl
        · rename_i e; subst e
          simp only [Option.some.injEq, Prod.mk.injEq] at hl
          obtain ⟨rfl, rfl⟩ := hl
          exact ⟨rfl, cs, e2, putL_len _ _ _, fun j hj => putL_get _ _ _ _ (by have := okPr_mp g4 j hj; omega)⟩
        · exact ⟨rfl, cs', hl, rfl, fun _ _ => rfl⟩
    · exact hh.elim
  · exact hh.elim
theorem newX_up {d : Nat} {cs : List Value} {ty : TypeId} {K : SA → Prop} (r : RB E β s t A h) (hh : newX s d cs ty K) : ∃ s', K s' ∧ RB E (setF β d h.size) s' t A (h.push (.cells cs.toArray ty)) ∧ SamB s β s' (setF β d h.size) ∧ s' = { s with bx := (d, (cs, ty)) :: s.bx } := by
  unfold newX at hh
  split at hh
  · rename_i e1 e2
    have hno := lookX_mem.1 e1
    refine ⟨_, hh, ⟨r.env, fun x j p hb => ?_, r.ds, ?_, ?_⟩, ⟨rfl, rfl, fun j hj cs' ty' hl => ?_⟩, rfl⟩
    · obtain ⟨a1, q, a2⟩ := r.bv x j p hb
      have hj : j ≠ d := fun e => by rw [e, e1] at a2; cases a2
      refine ⟨?_, q, ?_⟩
      · unfold setF; rw [if_neg hj]; exact a1
      · rw [lookX_cons, if_neg (Ne.symm hj)]; exact a2
    · have h1 : bxL (setF β d h.size) s.bx = bxL β s.bx := bxL_congr fun j hj => by
        unfold setF; rw [if_neg (fun e => hno (by rw [← e]; exact hj))]
      have : bxL (setF β d h.size) ((d, (cs, ty)) :: s.bx) ++ E = (h.size, cs, ty) :: (bxL β s.bx ++ E) := by
        rw [← h1]; simp [bxL, setF]
      show Sim A (bxL (setF β d h.size) ((d, (cs, ty)) :: s.bx) ++ E) _
      rw [this]
      exact r.sim.boxNew cs ty
    · exact List.nodup_cons.2 ⟨hno, r.nd⟩
    · have hj2 : j ≠ d := fun e => by subst e; exact (memN_no.1 e2) hj
      rw [lookX_cons, if_neg (Ne.symm hj2)] at hl
      exact ⟨by unfold setF; rw [if_neg hj2], cs', hl, rfl, fun _ _ => rfl⟩
  · exact hh.elim
theorem newX_no {d : Nat} {cs : List Value} {ty : TypeId} {K : SA → Prop} (hh : newX s d cs ty K) : d ∉ s.bx.map (·.1) := by
  unfold newX at hh
  split at hh
  · rename_i e1 e2
    exact lookX_mem.1 e1
  · exact hh.elim
theorem boxOf_mp {x : Operand} {i k : Nat} (r : RB E β s t A h) (hb : boxOf s x = some (i, k)) : evO t.env x = some (.pointer (some ⟨β i, k, none⟩)) ∧ ∃ p, lookX s.bx i = some p := by
  unfold boxOf at hb
  split at hb
  · exact r.bv _ _ _ hb
  · cases hb
def ResR (β : Nat → Nat) : Res → Value → Prop
  | .v x, y => y = x
  | .b i o, y => y = .pointer (some ⟨β i, o, none⟩)
theorem fldX_up {st : TypeId} {f : Nat} {a : Addr} {K : Nat → Prop} {K' : Value → Prop} (hh : fldX P st f K) (hk : ∀ off, K off → K' (.pointer (some (a.add off)))) : fldD P st (.pointer (some a)) f K' := by
  unfold fldX at hh
  unfold fldD
  split at hh
  · rename_i e1
    rw [e1]
    simp only
    split at hh
    · rename_i e2
      rw [e2]
      simp only
      split at hh
      · rename_i e3
        rw [e3]
        simp only
        split at hh
        · rename_i e4; rw [e4]; exact hk _ hh
        · exact hh.elim
      · exact hh.elim
    · exact hh.elim
  · exact hh.elim
theorem ixX_up {tt : TypeId} {ix : Value} {a : Addr} {K : Nat → Prop} {K' : Value → Prop} (hh : ixX P tt ix K) (hk : ∀ off, K off → K' (.pointer (some (a.add off)))) : ixaD P tt (.pointer (some a)) ix K' := by
  unfold ixX at hh
  unfold ixaD
  split at hh
  · rename_i e1
    rw [e1]
    simp only
    split at hh
    · rename_i e2; rw [e2]; exact inB_up (hk _) hh
    · exact hh.elim
  · exact hh.elim
theorem add_box {b o k : Nat} : Addr.add ⟨b, o, none⟩ k = ⟨b, o + k, none⟩ := by
  unfold Addr.add
  split
  · subst_vars; rfl
  · rfl
/-- An operation: what is known before and behind it. -/
theorem opA_up {o : Oper} {K : Res → SA → AP} {Kp : Value → AP} {Kd : Deferred → AP} {K' Kp' : Value → HP} {Kd' : Deferred → HP} (r : RB E β s t A h) (hh : opA P CA pm s o A K Kp Kd)
    (hx : ∀ x y β' s' A' h', RB E β' s' t A' h' → SamB s β s' β' → (s'.ds = s.ds ∧ s'.env = s.env ∧ s'.bv = s.bv) → ResR β' x y → (∀ i k, x = .b i k → ∃ p, lookX s'.bx i = some p) → (isQ o.op = true → β' = β ∧ s' = s) →
      (isSt s o = false → ∃ l1, s'.bx = l1 ++ s.bx ∧ (isAl o = false → l1 = []) ∧ ∀ i ∈ s.bx.map (·.1), β' i = β i) → K x s' A' → K' y h')
    (hp : ∀ v A' h', RB E β s t A' h' → Kp v A' → Kp' v h') (hd : ∀ v A' h', RB E β s t A' h' → Kd v A' → Kd' v h') : denOp P (upC CA) t.env o h K' Kp' Kd' := by
  have wr : ∀ {A' : AH} {h' : Hp}, Sim A' (bxL β s.bx ++ E) h' → RB E β s t A' h' := fun q => ⟨r.env, r.bv, r.ds, q, r.nd⟩
  have gen : opV P CA s.env o A (fun v => K (.v v) s) Kp Kd → denOp P (upC CA) t.env o h K' Kp' Kd' := fun hv =>
    opV_up r.env r.sim hv (fun v A' h' q hk => hx (.v v) v β s A' h' (wr q) (SamB.refl _ _) ⟨rfl, rfl, rfl⟩ rfl (fun _ _ e => by cases e) (fun _ => ⟨rfl, rfl⟩) (fun _ => ⟨[], rfl, fun _ => rfl, fun _ _ => rfl⟩) hk) (fun v A' h' q hk => hp v A' h' (wr q) hk) (fun v A' h' q hk => hd v A' h' (wr q) hk)
  have hx0 : ∀ v, K (.v v) s A → K' v h := fun v hk => hx (.v v) v β s A h r (SamB.refl _ _) ⟨rfl, rfl, rfl⟩ rfl (fun _ _ e => by cases e) (fun _ => ⟨rfl, rfl⟩) (fun _ => ⟨[], rfl, fun _ => rfl, fun _ _ => rfl⟩) hk
  have hxb : ∀ i k, (∃ p, lookX s.bx i = some p) → K (.b i k) s A → K' (.pointer (some ⟨β i, k, none⟩)) h := fun i k hp hk => hx (.b i k) _ β s A h r (SamB.refl _ _) ⟨rfl, rfl, rfl⟩ rfl (fun i' k' e => by cases e; exact hp) (fun _ => ⟨rfl, rfl⟩) (fun _ => ⟨[], rfl, fun _ => rfl, fun _ _ => rfl⟩) hk
  unfold opA at hh
  split at hh
  · rename_i x ho
    unfold denOp
    rw [ho]
    simp only
    split at hh
    · rename_i i k hb
      obtain ⟨g1, g2⟩ := boxOf_mp r hb
      unfold wV; rw [g1]; exact hxb _ _ g2 hh
    · exact wV_up r.env hx0 hh
  · rename_i x ho
    unfold denOp
    rw [ho]
    simp only
    split at hh
    · rename_i i k hb
      obtain ⟨g1, g2⟩ := boxOf_mp r hb
      unfold wV; rw [g1]; exact hxb _ _ g2 hh
    · exact wV_up r.env hx0 hh
  · rename_i x ho
    unfold denOp
    rw [ho]
    simp only
    split at hh
    · rename_i i k hb
      obtain ⟨g1, g2⟩ := boxOf_mp r hb
      unfold wV; rw [g1]; exact hxb _ _ g2 hh
    · exact wV_up r.env (fun v => nilD_up hx0) hh
  · rename_i tt ho
    split at hh
    · rename_i d hd2
      split at hh
      · unfold denOp
        rw [ho]
        simp only
        refine zeroD_mono (fun z h1 => ?_) hh
        obtain ⟨s', k1, k2, k3, k4⟩ := newX_up r h1
        rw [Array.toArray_toList] at k2
        refine hx (.b d 0) _ _ s' A _ k2 k3 (by rw [k4]; exact ⟨rfl, rfl, rfl⟩) (by simp [ResR, setF]) (fun i k e => by cases e; rw [k4]; simp only [lookX_cons, if_pos]; exact ⟨_, rfl⟩) (fun e => by rw [ho] at e; cases e)
          (fun _ => ⟨[_], by rw [k4]; rfl, fun e => (by unfold isAl at e; rw [ho] at e; cases e), fun i hi => by unfold setF; rw [if_neg (fun e => newX_no h1 (by rw [← e]; exact hi))]⟩) k1
      · exact gen hh
    · exact gen hh
  · rename_i tt x ho
    split at hh
    · rename_i d hd2
      split at hh
      · unfold denOp
        rw [ho]
        simp only
        refine wV_up r.env (fun v h1 => ?_) hh
        obtain ⟨s', k1, k2, k3, k4⟩ := newX_up r h1
        rw [Array.toArray_toList] at k2
        refine hx (.b d 0) _ _ s' A _ k2 k3 (by rw [k4]; exact ⟨rfl, rfl, rfl⟩) (by simp [ResR, setF]) (fun i k e => by cases e; rw [k4]; simp only [lookX_cons, if_pos]; exact ⟨_, rfl⟩) (fun e => by rw [ho] at e; cases e)
          (fun _ => ⟨[_], by rw [k4]; rfl, fun e => (by unfold isAl at e; rw [ho] at e; cases e), fun i hi => by unfold setF; rw [if_neg (fun e => newX_no h1 (by rw [← e]; exact hi))]⟩) k1
      · exact gen hh
    · exact gen hh
  · rename_i tt a ho
    split at hh
    · rename_i i k hb
      obtain ⟨g1, g2⟩ := boxOf_mp r hb
      unfold denOp
      rw [ho]
      simp only
      unfold wV; rw [g1]
      simp only [asAd, onSome]
      split at hh
      · rename_i cs ty hl
        obtain ⟨l1, l2, q1, q2⟩ := r.box hl
        have sim := r.sim
        rw [q1] at sim
        refine ldD_box sim ?_
        unfold ldX at hh ⊢
        split at hh
        · split at hh
          · split at hh
            · split at hh
              · exact hx0 _ hh
              · exact hh.elim
            · exact hh.elim
          · split at hh
            · split at hh
              · exact hx0 _ hh
              · exact hh.elim
            · exact hh.elim
        · exact hh.elim
      · exact hh.elim
    · exact gen hh
  · rename_i tt a x ho
    split at hh
    · rename_i i k hb
      obtain ⟨g1, g2⟩ := boxOf_mp r hb
      unfold denOp
      rw [ho]
      simp only
      unfold wV; rw [g1]
      simp only [asAd, onSome]
      refine wV_up r.env (fun v h1 => ?_) hh
      exact stX_up r h1 fun s' h' r' sb e1 e2 e3 hk => hx (.v undef) undef β s' A h' r' sb ⟨e3, e1, e2⟩ rfl (fun _ _ e => by cases e) (fun e => by rw [ho] at e; cases e)
        (fun e => by unfold isSt at e; rw [ho] at e; simp only at e; rw [hb] at e; cases e) hk
    · exact gen hh
  · rename_i st x f ho
    split at hh
    · rename_i i k hb
      obtain ⟨g1, g2⟩ := boxOf_mp r hb
      unfold denOp
      rw [ho]
      simp only
      unfold wV; rw [g1]
      simp only
      exact fldX_up hh fun off hk => by rw [add_box]; exact hxb _ _ g2 hk
    · exact gen hh
  · rename_i tt x ix ho
    split at hh
    · rename_i i k hb
      obtain ⟨g1, g2⟩ := boxOf_mp r hb
      unfold denOp
      rw [ho]
      simp only
      unfold wV; rw [g1]
      simp only
      refine wV_up r.env (fun vi h1 => ?_) hh
      exact ixX_up h1 fun off hk => by rw [add_box]; exact hxb _ _ g2 hk
    · exact gen hh
  · exact gen hh
end
end Go.Dn
/- What is asked over a part of the heap is enough for the whole: regions. -/
namespace Go.Dn

section
variable {P : Program} {CA : CTA} {n : Nat} {pm : List Nat} {E : Bx} {A : AH} {h : Hp} {β : Nat → Nat} {s : SA} {t : St}
theorem envLe_cons {ρ ρ' : Env} (h : EnvLe ρ ρ') (d : Nat) (v : Value) : EnvLe ((d, v) :: ρ) ((d, v) :: ρ') := by
  intro x u hu
  rw [look_cons] at hu ⊢
  split
  · rename_i e; rw [if_pos e] at hu; exact hu
  · rename_i e; rw [if_neg e] at hu; exact h _ _ hu
/-- What putting a result does to slots. -/
structure Put (s s' : SA) (t t' : St) (dst : Option Tmp) : Prop where
  env : ∀ x, dst ≠ some x → (look s.env x = none → look s'.env x = none) ∧ (lookB s.bv x = none → lookB s'.bv x = none) ∧ ∀ v, look t.env x = some (.pointer v) → look t'.env x = some (.pointer v)
theorem Put.refl (s : SA) (t : St) (dst : Option Tmp) : Put s s t t dst := ⟨fun _ _ => ⟨id, id, fun _ => id⟩⟩
theorem lookB_drop_none {d : Nat} : ∀ {l : Bvs} {x : Nat}, lookB l x = none → lookB (dropB d l) x = none
  | [], _, _ => rfl
  | (y, q) :: r, x, h => by
    rw [lookB_cons] at h
    split at h
    · cases h
    · rename_i e
      unfold dropB
      split
      · exact lookB_drop_none h
      · rw [lookB_cons, if_neg e]; exact lookB_drop_none h
theorem stripE_none {l : List Nat} : ∀ {e : Env} {x : Nat}, look e x = none → look (stripE l e) x = none
  | [], _, _ => rfl
  | (y, q) :: r, x, h => by
    rw [look_cons] at h
    split at h
    · cases h
    · rename_i e
      unfold stripE
      split
      · exact stripE_none h
      · rw [look_cons, if_neg e]; exact stripE_none h
theorem putA_up {dst : Option Tmp} {x : Res} {y : Value} {K : SA → Prop} {K' : St → Prop} (r : RB E β s t A h) (hx : ResR β x y) (hb : ∀ i k, x = .b i k → ∃ p, lookX s.bx i = some p) (hh : putA n s dst x K)
    (hk : ∀ s' t', RB E β s' t' A h → SamB s β s' β → s'.bx = s.bx → Put s s' t t' dst → K s' → K' t') : putD n t dst y K' := by
  unfold putA at hh
  unfold putD
  cases dst with
  | none => exact hk s t r (SamB.refl _ _) rfl (Put.refl _ _ _) hh
  | some d =>
    simp only at hh ⊢
    split at hh
    · rename_i hd
      rw [hd]
      simp only
      cases x with
      | v x =>
        have hy : y = x := hx
        subst hy
        refine hk { s with env := (d, y) :: s.env, bv := dropB d s.bv } { t with env := (d, y) :: t.env } ⟨envLe_cons r.env d _, fun z i o hz => ?_, r.ds, r.sim, r.nd⟩ (SamB.of_bx rfl rfl rfl) rfl ⟨fun z hz => ⟨fun g => ?_, lookB_drop_none, fun u g => ?_⟩⟩ hh
        · obtain ⟨g1, g2⟩ := lookB_drop hz
          obtain ⟨g3, g4⟩ := r.bv z i o g1
          refine ⟨?_, g4⟩
          show look ((d, _) :: t.env) z = _
          rw [look_cons, if_neg (Ne.symm g2)]; exact g3
        · show look ((d, _) :: s.env) z = _
          rw [look_cons, if_neg (fun e => hz (by rw [e]))]; exact g
        · show look ((d, _) :: t.env) z = _
          rw [look_cons, if_neg (fun e => hz (by rw [e]))]; exact g
      | b i o =>
        have hy : y = .pointer (some ⟨β i, o, none⟩) := hx
        subst hy
        refine hk { s with env := stripE [d] s.env, bv := (d, (i, o)) :: s.bv } { t with env := (d, .pointer (some ⟨β i, o, none⟩)) :: t.env } ⟨fun z u hz => ?_, fun z j p hz => ?_, r.ds, r.sim, r.nd⟩ (SamB.of_bx rfl rfl rfl) rfl ⟨fun z hz => ⟨fun g => stripE_none g, fun g => ?_, fun u g => ?_⟩⟩ hh
        · obtain ⟨g1, g2⟩ := stripE_look _ hz
          show look ((d, _) :: t.env) z = _
          have : d ≠ z := fun e => by rw [e] at g2; exact (memN_no.1 g2) (by simp)
          rw [look_cons, if_neg this]; exact r.env _ _ g1
        · rw [lookB_cons] at hz
          show look ((d, _) :: t.env) z = _ ∧ _
          rw [look_cons]
          split at hz
          · rename_i e
            cases hz
            rw [if_pos e]
            exact ⟨rfl, hb _ _ rfl⟩
          · rename_i e
            rw [if_neg e]
            exact r.bv z j p hz
        · show lookB ((d, _) :: s.bv) z = _
          rw [lookB_cons, if_neg (fun e => hz (by rw [e]))]; exact g
        · show look ((d, _) :: t.env) z = _
          rw [look_cons, if_neg (fun e => hz (by rw [e]))]; exact g
    · exact hh.elim
theorem RB.ds_cons (r : RB E β s t A h) (d : Deferred) : RB E β { s with ds := d :: s.ds } { t with ds := d :: t.ds } A h := ⟨r.env, r.bv, by show d :: t.ds = d :: s.ds; rw [r.ds], r.sim, r.nd⟩
theorem exA_up {o : Oper} {K : SA → AP} {Kp : Value → SA → AP} {K' : St → HP} {Kp' : Value → St → HP} (r : RB E β s t A h) (hh : exA P CA n pm o s K Kp A)
    (hk : ∀ β' s' t' A' h', RB E β' s' t' A' h' → SamB s β s' β' → Put s s' t t' o.dst → (isSt s o = false → ∃ l1, s'.bx = l1 ++ s.bx ∧ (isAl o = false → l1 = []) ∧ ∀ i ∈ s.bx.map (·.1), β' i = β i) → K s' A' → K' t' h')
    (hp : ∀ v A' h', RB E β s t A' h' → Kp v s A' → Kp' v t h') : exOp P (upC CA) n o t K' Kp' h := by
  unfold exA at hh
  unfold exOp
  refine opA_up r hh (fun x y β' s' A' h' r' sb e hxy hb _ hB h1 => ?_) hp fun d A' h' r' h1 => ?_
  · obtain ⟨_, e2, e3⟩ := e
    exact putA_up r' hxy hb h1 fun s2 t2 r2 sb2 eb pt hk2 => hk β' s2 t2 A' h' r2 (sb.trans sb2) ⟨fun z hz => by
      obtain ⟨p1, p2, p3⟩ := pt.env z hz
      exact ⟨fun g => p1 (by rw [e2]; exact g), fun g => p2 (by rw [e3]; exact g), p3⟩⟩ (fun hst => by rw [eb]; exact hB hst) hk2
  · exact putA_up (r'.ds_cons d) (x := .v undef) (y := undef) rfl (fun _ _ e => by cases e) h1 fun s2 t2 r2 sb2 eb pt hk2 => hk β s2 t2 A' h' r2 ((SamB.of_bx rfl rfl rfl : SamB s β { s with ds := d :: s.ds } β).trans sb2)
      ⟨fun z hz => pt.env z hz⟩ (fun _ => ⟨[], by rw [eb]; rfl, fun _ => rfl, fun _ _ => rfl⟩) hk2
theorem RB.guard (r : RB E β s t A h) {d : Nat} {b : Bool} (hd : look s.env d = some (.bool b)) (c : Bool) : RB E β { s with env := (d, .bool c) :: s.env } { t with env := (d, .bool c) :: t.env } A h := by
  refine ⟨envLe_cons r.env d _, fun z i o hz => ?_, r.ds, r.sim, r.nd⟩
  obtain ⟨g1, g2⟩ := r.bv z i o hz
  refine ⟨?_, g2⟩
  show look ((d, _) :: t.env) z = _
  have : d ≠ z := fun e => by
    have h1 := r.env _ _ hd
    rw [e, g1] at h1; cases h1
  rw [look_cons, if_neg this]; exact g1
theorem grdA_up {ops : List Oper} {o : Oper} {run skip : SA → Prop} {run' skip' : St → Prop} (r : RB E β s t A h) (hh : grdA ops o s run skip)
    (hr : ∀ s' t', RB E β s' t' A h → SamB s β s' β → s'.bx = s.bx → s'.bv = s.bv → Put s s' t t' none → run s' → run' t') (hs : ∀ s' t', RB E β s' t' A h → SamB s β s' β → s'.bx = s.bx → s'.bv = s.bv → Put s s' t t' none → skip s' → skip' t') : grd ops o t run' skip' := by
  unfold grdA at hh
  unfold grd
  cases hg : o.guard with
  | none => rw [hg] at hh; exact hr s t r (SamB.refl _ _) rfl rfl (Put.refl _ _ _) hh
  | some g =>
    obtain ⟨j, want⟩ := g
    rw [hg] at hh
    simp only at hh ⊢
    cases hj : ops[j]? with
    | none => rw [hj] at hh; exact hh.elim
    | some oj =>
      rw [hj] at hh
      simp only at hh ⊢
      cases hd : oj.dst with
      | none => rw [hd] at hh; exact hh.elim
      | some d =>
        rw [hd] at hh
        simp only at hh ⊢
        cases hl : look s.env d with
        | none => rw [hl] at hh; exact hh.elim
        | some v =>
          rw [hl] at hh
          rw [r.env _ _ hl]
          have pt : ∀ (b c : Bool), v = .bool b → Put s { s with env := (d, .bool c) :: s.env } t { t with env := (d, .bool c) :: t.env } none := by
            intro b c hv
            refine ⟨fun z _ => ⟨fun g => ?_, id, fun u g => ?_⟩⟩
            · show look ((d, _) :: s.env) z = _
              rw [look_cons, if_neg (fun e => by rw [← e, hl] at g; cases g)]; exact g
            · show look ((d, _) :: t.env) z = _
              rw [look_cons]
              split
              · rename_i e
                subst e
                rw [r.env _ _ hl, hv] at g
                cases g
              · exact g
          cases v <;> first | exact hh.elim | skip
          · rename_i b
            cases want
            · exact bsel_up (hs _ _ (r.guard hl true) (SamB.of_bx rfl rfl rfl) rfl rfl (pt b _ rfl)) (hr _ _ (r.guard hl false) (SamB.of_bx rfl rfl rfl) rfl rfl (pt b _ rfl)) hh
            · exact bsel_up (hr _ _ (r.guard hl true) (SamB.of_bx rfl rfl rfl) rfl rfl (pt b _ rfl)) (hs _ _ (r.guard hl false) (SamB.of_bx rfl rfl rfl) rfl rfl (pt b _ rfl)) hh
          · exact hs s t r (SamB.refl _ _) rfl rfl (Put.refl _ _ _) hh

theorem denOpsA_up {ops : List Oper} {K : SA → AP} {Kp : Value → SA → AP} {K' : St → HP} {Kp' : Value → St → HP} : ∀ (l : List Oper) (β : Nat → Nat) (s : SA) (t : St) (A : AH) (h : Hp), RB E β s t A h → denOpsA P CA n pm ops l s K Kp A →
    (∀ β' s' t' A' h', RB E β' s' t' A' h' → SamB s β s' β' → K s' A' → K' t' h') → (∀ v β' s' t' A' h', RB E β' s' t' A' h' → SamB s β s' β' → Kp v s' A' → Kp' v t' h') → denOps P (upC CA) n ops l t K' Kp' h
  | [], β, s, t, A, h, r, hh, hk, _ => hk β s t A h r (SamB.refl _ _) hh
  | o :: l, β, s, t, A, h, r, hh, hk, hp => by
    unfold denOpsA at hh
    unfold denOps
    refine grdA_up r hh (fun s1 t1 r1 sb1 _ _ _ h1 => ?_) fun s1 t1 r1 sb1 _ _ _ h1 => ?_
    · exact exA_up r1 h1 (fun β2 s2 t2 A2 h2 r2 sb2 _ _ hk2 => denOpsA_up l β2 s2 t2 A2 h2 r2 hk2 (fun β' s' t' A' h' r' sb' => hk β' s' t' A' h' r' ((sb1.trans sb2).trans sb')) (fun v β' s' t' A' h' r' sb' => hp v β' s' t' A' h' r' ((sb1.trans sb2).trans sb')))
        (fun v A' h' r' => hp v β s1 t1 A' h' r' sb1)
    · exact putA_up r1 (x := .v undef) (y := undef) rfl (fun _ _ e => by cases e) h1 fun s2 t2 r2 sb2 _ _ hk2 => denOpsA_up l β s2 t2 A h r2 hk2 (fun β' s' t' A' h' r' sb' => hk β' s' t' A' h' r' ((sb1.trans sb2).trans sb')) (fun v β' s' t' A' h' r' sb' => hp v β' s' t' A' h' r' ((sb1.trans sb2).trans sb'))
theorem opQ_up {o : Oper} {KQ : Res → Prop} {KQ' : Value → Prop} {Kd : Deferred → AP} {Kp' : Value → HP} {Kd' : Deferred → HP} (hq : isQ o.op = true) (r : RB E β s t A h) (hh : opA P CA pm s o A (fun x _ _ => KQ x) (fun _ _ => False) Kd)
    (hx : ∀ x y, ResR β x y → (∀ i k, x = .b i k → ∃ p, lookX s.bx i = some p) → KQ x → KQ' y) (hd : ∀ v A' h', Kd v A' → Kd' v h') : denOp P (upC CA) t.env o h (fun y _ => KQ' y) Kp' Kd' := by
  refine opA_up r hh (fun x y β' s' A' h' r' sb e hxy hb hQ hB h1 => ?_) (fun _ _ _ _ h => h.elim) (fun v A' h' _ => hd v A' h')
  obtain ⟨e1, e2⟩ := hQ hq
  subst e1 e2
  exact hx x y hxy hb h1
theorem denStA_up {ops : List Oper} {K : SA → Prop} {K' : St → Prop} : ∀ (l : List Oper) (s : SA) (t : St), RB E β s t A h → denStA P CA n pm ops l s K A →
    (∀ s' t', RB E β s' t' A h → SamB s β s' β → K s' → K' t') → denSt P (upC CA) n ops l t K' h
  | [], s, t, r, hh, hk => hk s t r (SamB.refl _ _) hh
  | o :: l, s, t, r, hh, hk => by
    unfold denStA at hh
    unfold denSt
    split at hh
    · rename_i hq
      rw [hq]
      refine grdA_up r hh (fun s1 t1 r1 sb1 _ _ _ h1 => ?_) fun s1 t1 r1 sb1 _ _ _ h1 => ?_
      · refine opQ_up (KQ := fun x => putA n s1 o.dst x fun s' => denStA P CA n pm ops l s' K A) (KQ' := fun y => putD n t1 o.dst y fun s' => denSt P (upC CA) n ops l s' K' h) hq r1 h1 (fun x y hxy hb h2 => ?_) (fun _ _ _ h => h.elim)
        exact putA_up r1 hxy hb h2 fun s2 t2 r2 sb2 _ _ hk2 => denStA_up l s2 t2 r2 hk2 fun s' t' r' sb' => hk s' t' r' ((sb1.trans sb2).trans sb')
      · exact putA_up r1 (x := .v undef) (y := undef) rfl (fun _ _ e => by cases e) h1 fun s2 t2 r2 sb2 _ _ hk2 => denStA_up l s2 t2 r2 hk2 fun s' t' r' sb' => hk s' t' r' ((sb1.trans sb2).trans sb')
    · exact hh.elim
end
end Go.Dn
/- What is asked over a part of the heap is enough for the whole: regions whose order is drawn. -/
namespace Go.Dn

abbrev FLs := List (Nat × (Nat × (List Value × TypeId)))
def idx (F : FLs) : List Nat := F.map (·.1)
def EF (F : FLs) : Bx := F.map fun e => (e.2.1, e.2.2.1, e.2.2.2)
def notF (F : FLs) (l : List Nat) : List Nat := l.filter fun j => !(idx F).contains j
theorem getD_set (a : Array Bool) (i j : Nat) (b d : Bool) : (a.setIfInBounds i b).getD j d = if i = j ∧ i < a.size then b else a.getD j d := by
  by_cases h : i = j
  · subst h
    by_cases g : i < a.size
    · simp [g]
    · simp [g]
  · simp [Array.getElem?_setIfInBounds_ne h, h]
theorem setAll_size : ∀ (l : List Nat) (a : Array Bool), (setAll l a).size = a.size
  | [], _ => rfl
  | i :: r, a => by unfold setAll; rw [setAll_size r]; simp
theorem setAll_no {j : Nat} {d : Bool} : ∀ {l : List Nat} {a : Array Bool}, j ∉ l → (setAll l a).getD j d = a.getD j d
  | [], _, _ => rfl
  | i :: r, a, h => by
    unfold setAll
    rw [setAll_no (fun g => h (List.mem_cons_of_mem _ g)), getD_set, if_neg (fun g => h (by rw [← g.1]; exact List.mem_cons_self))]
theorem setAll_mono {j : Nat} : ∀ {l : List Nat} {a : Array Bool}, a.getD j false = true → (setAll l a).getD j false = true
  | [], _, h => h
  | i :: r, a, h => by
    unfold setAll
    refine setAll_mono ?_
    rw [getD_set]
    split
    · rfl
    · exact h
theorem setAll_in {j : Nat} : ∀ {l : List Nat} {a : Array Bool}, j ∈ l → j < a.size → (setAll l a).getD j false = true
  | [], _, h, _ => by simp at h
  | i :: r, a, h, g => by
    unfold setAll
    rcases List.mem_cons.1 h with rfl | h
    · exact setAll_mono (by rw [getD_set, if_pos ⟨rfl, g⟩])
    · exact setAll_in h (by simpa using g)
theorem without_mem {i j : Nat} : ∀ {l : List Nat}, j ∈ without i l ↔ j ∈ l ∧ j ≠ i
  | [] => by simp [without]
  | x :: r => by
    unfold without
    split
    · rename_i g
      have := beqN.1 g
      subst this
      rw [without_mem]
      constructor
      · rintro ⟨h1, h2⟩; exact ⟨List.mem_cons_of_mem _ h1, h2⟩
      · rintro ⟨h1, h2⟩
        rcases List.mem_cons.1 h1 with rfl | h1
        · exact absurd rfl h2
        · exact ⟨h1, h2⟩
    · rename_i g
      have := beqF.1 g
      rw [List.mem_cons, List.mem_cons, without_mem]
      constructor
      · rintro (rfl | ⟨h1, h2⟩)
        · exact ⟨.inl rfl, this⟩
        · exact ⟨.inr h1, h2⟩
      · rintro ⟨rfl | h1, h2⟩
        · exact .inl rfl
        · exact .inr ⟨h1, h2⟩
theorem allL_mp {a : Array Bool} : ∀ {l : List Nat}, allL l a = true → ∀ j ∈ l, a.getD j false = true
  | [], _, _, h => by simp at h
  | i :: r, h, j, hj => by
    unfold allL at h
    split at h
    · rename_i g
      rcases List.mem_cons.1 hj with rfl | hj
      · exact g
      · exact allL_mp h j hj
    · cases h
theorem getD_tf {a : Array Bool} {j : Nat} (h : a.getD j false = true) : a.getD j true = true := by
  rcases Nat.lt_or_ge j a.size with g | g
  · simp [g] at h ⊢; exact h
  · simp [Array.getElem?_eq_none g] at h
theorem lt_of_unlisted {a : Array Bool} {j : Nat} (h : a.getD j true = false) : j < a.size := by
  rcases Nat.lt_or_ge j a.size with g | g
  · exact g
  · simp [Array.getElem?_eq_none g] at h
structure FI (P : Program) (n : Nat) (pm : List Nat) (ops : List Oper) (fl : List Nat) (LA LD : Array Bool) (l : List Nat) (F : FLs) (s : SA) (t : St) : Prop where
  same : ∀ j d, j ∉ idx F → LD.getD j d = LA.getD j d
  done : ∀ j ∈ idx F, LD.getD j false = true
  size : LD.size = LA.size
  inl : ∀ j ∈ idx F, j ∈ l ∧ j ∈ fl
  ndF : (idx F).Nodup
  ndl : l.Nodup
  mem : ∀ j ∈ fl, LA.getD j true = false → j ∈ l
  unl : ∀ j ∈ l, LA.getD j true = false
  isfl : ∀ j ∈ fl, ∃ o d, ops[j]? = some o ∧ isFl P n o = some d ∧ True ∧ ∀ k ok, ops[k]? = some ok → k ≠ j → ok.dst ≠ some d
  fresh : ∀ j ∈ fl, j ∈ l → ∀ o d, ops[j]? = some o → isFl P n o = some d → look s.env d = none ∧ lookB s.bv d = none
  real : ∀ e ∈ F, ∃ o d ty i z, ops[e.1]? = some o ∧ o.op = .alloc ty ∧ isFl P n o = some d ∧ P.info? ty = some i ∧ i.zero = some z ∧ e.2.2 = (z.cells.toList, ty) ∧ look t.env d = some (.pointer (some ⟨e.2.1, 0, none⟩))
theorem isFl_mp {P : Program} {n : Nat} {o : Oper} {d : Nat} (h : isFl P n o = some d) : o.guard = none ∧ o.dst = some d ∧ Nat.blt d n = true ∧ ∃ ty i z, o.op = .alloc ty ∧ P.info? ty = some i ∧ i.zero = some z := by
  unfold isFl at h
  split at h
  · rename_i ty d' h1 h2 h3
    split at h
    · rename_i i h4 h5
      split at h
      · rename_i z h6
        cases h
        exact ⟨h1, h3, h4, ty, i, z, h2, h5, h6⟩
      · cases h
    · cases h
  · cases h
section
variable {P : Program} {CA : CTA} {n : Nat} {pm : List Nat} {E : Bx} {A : AH} {h : Hp} {β : Nat → Nat} {s : SA} {t : St} {ops : List Oper} {fl : List Nat} {LA LD : Array Bool} {l r : List Nat} {F : FLs} {i : Nat}
theorem FI.noD (q : FI P n pm ops fl LA LD l F s t) {j : Nat} (hj : LD.getD j true = false) : j ∉ idx F := fun hm => by
  have := getD_tf (q.done j hm)
  rw [this] at hj; cases hj
theorem one_ready (q : FI P n pm ops fl LA LD l F s t) (hi : i ∉ idx F) (h1 : oneF ops fl LA i = true) : i ∈ Region.ready .any ops.toArray LD ∧ ∀ j ∈ Region.ready .any ops.toArray LD, j = i ∨ (j ∈ fl ∧ j ∈ l ∧ j ∉ idx F) := by
  unfold oneF at h1
  rw [Bool.and_eq_true] at h1
  obtain ⟨h1, h2⟩ := h1
  have hA : i ∈ Region.ready .any ops.toArray LA := by simpa using h2
  have hone := oneR_mp h1
  constructor
  · obtain ⟨g1, o, g2, g3⟩ := mem_ready.1 hA
    refine mem_ready.2 ⟨by rw [q.same i true hi]; exact g1, o, g2, fun e he hb => ?_⟩
    by_cases hm : e.on ∈ idx F
    · exact q.done _ hm
    · rw [q.same _ _ hm]; exact g3 e he hb
  · intro j hj
    obtain ⟨g1, o, g2, g3⟩ := mem_ready.1 hj
    have hjF := q.noD g1
    have hjA : LA.getD j true = false := by rw [← q.same j true hjF]; exact g1
    by_cases hjf : j ∈ fl
    · exact .inr ⟨hjf, q.mem j hjf hjA, hjF⟩
    · left
      have : j ∈ Region.ready .any ops.toArray (setAll (without i fl) LA) := by
        refine mem_ready.2 ⟨?_, o, g2, fun e he hb => ?_⟩
        · rw [setAll_no (fun g => hjf (without_mem.1 g).1)]; exact hjA
        · have hd := g3 e he hb
          by_cases hm : e.on ∈ idx F
          · refine setAll_in (without_mem.2 ⟨(q.inl _ hm).2, fun g => hi (by rw [← g]; exact hm)⟩) ?_
            rw [← q.size]
            rcases Nat.lt_or_ge e.on LD.size with g | g
            · exact g
            · simp [Array.getElem?_eq_none g] at hd
          · exact setAll_mono (by rw [← q.same _ _ hm]; exact hd)
      rw [hone] at this
      simpa using this
theorem filter_cons_no (hi : i ∉ idx F) : notF F (i :: r) = i :: notF F r := by
  unfold notF
  rw [List.filter_cons, if_pos (by simpa using hi)]
/-- Early: an allocation that may come at any time comes now. -/
theorem early_up {K : St → HP} {Kp : Value → St → HP} (q : FI P n pm ops fl LA LD l F s t) (rb : RB (EF F ++ E) β s t A h) {j : Nat} {oj : Oper} (hoj : ops[j]? = some oj) (hjf : j ∈ fl) (hjl : j ∈ l) (hjF : j ∉ idx F)
    (hk : ∀ b cs ty t' h', FI P n pm ops fl LA (LD.setIfInBounds j true) l ((j, (b, (cs, ty))) :: F) s t' → RB (EF ((j, (b, (cs, ty))) :: F) ++ E) β s t' A h' → (∀ A' bx, Sim A' bx h → Sim A' bx h') → K t' h') :
    exOp P (upC CA) n oj t K Kp h := by
  obtain ⟨o, d, g1, g2, g3, g4⟩ := q.isfl j hjf
  rw [hoj] at g1
  cases g1
  obtain ⟨e1, e2, e3, ty, i, z, e5, e6, e7⟩ := isFl_mp g2
  unfold exOp denOp
  rw [e5]
  simp only
  unfold zeroD
  rw [e6]
  simp only
  rw [e7]
  simp only
  unfold putD
  rw [e2]
  simp only
  rw [e3]
  simp only
  obtain ⟨f1, f2⟩ := q.fresh j hjf hjl oj d hoj g2
  have hjA := q.unl j hjl
  refine hk h.size z.cells.toList ty _ _ ⟨?_, ?_, ?_, ?_, ?_, q.ndl, q.mem, q.unl, q.isfl, q.fresh, ?_⟩ ⟨?_, ?_, rb.ds, ?_, rb.nd⟩ (fun A' bx sm => ?_)
  · intro k b hk2
    simp only [idx, List.map_cons, List.mem_cons, not_or] at hk2
    rw [getD_set, if_neg (fun g => hk2.1 g.1.symm)]
    exact q.same k b hk2.2
  · intro k hk2
    simp only [idx, List.map_cons, List.mem_cons] at hk2
    rw [getD_set]
    rcases hk2 with rfl | hk2
    · rw [if_pos ⟨rfl, by rw [q.size]; exact lt_of_unlisted hjA⟩]
    · split
      · rfl
      · exact q.done k hk2
  · simp [q.size]
  · intro k hk2
    simp only [idx, List.map_cons, List.mem_cons] at hk2
    rcases hk2 with rfl | hk2
    · exact ⟨hjl, hjf⟩
    · exact q.inl k hk2
  · exact List.nodup_cons.2 ⟨hjF, q.ndF⟩
  · intro e he
    rcases List.mem_cons.1 he with rfl | he
    · refine ⟨oj, d, ty, i, z, hoj, e5, g2, e6, e7, rfl, ?_⟩
      show look ((d, _) :: t.env) d = _
      rw [look_cons, if_pos rfl]
    · obtain ⟨o2, d2, ty2, i2, z2, k1, k2, k3, k4, k5, k6, k7⟩ := q.real e he
      refine ⟨o2, d2, ty2, i2, z2, k1, k2, k3, k4, k5, k6, ?_⟩
      have hne : e.1 ≠ j := fun g => hjF (by rw [← g]; exact List.mem_map.2 ⟨e, he, rfl⟩)
      have := g4 e.1 o2 k1 hne
      rw [(isFl_mp k3).2.1] at this
      show look ((d, _) :: t.env) d2 = _
      rw [look_cons, if_neg (fun g => this (by rw [g]))]
      exact k7
  · intro x u hx
    show look ((d, _) :: t.env) x = _
    rw [look_cons, if_neg (fun g => by rw [← g, f1] at hx; cases hx)]
    exact rb.env x u hx
  · intro x j2 o2 hx
    obtain ⟨k1, k2⟩ := rb.bv x j2 o2 hx
    refine ⟨?_, k2⟩
    show look ((d, _) :: t.env) x = _
    rw [look_cons, if_neg (fun g => by rw [← g, f2] at hx; cases hx)]
    exact k1
  · have h1 := rb.sim.boxNew z.cells.toList ty
    rw [Array.toArray_toList] at h1
    refine h1.perm ?_
    show List.Perm ((h.size, z.cells.toList, ty) :: (bxL β s.bx ++ (EF F ++ E))) (bxL β s.bx ++ ((h.size, z.cells.toList, ty) :: (EF F ++ E)))
    exact List.perm_middle.symm
  · have h1 := sm.boxNew z.cells.toList ty
    rw [Array.toArray_toList] at h1
    exact h1.keep (List.sublist_cons_self _ _)
theorem mem_split {e : Nat × (Nat × (List Value × TypeId))} (he : e ∈ F) (nd : (idx F).Nodup) : ∃ F1 F2, F = F1 ++ e :: F2 ∧ e.1 ∉ idx (F1 ++ F2) := by
  obtain ⟨F1, F2, rfl⟩ := List.append_of_mem he
  refine ⟨F1, F2, rfl, ?_⟩
  simp only [idx, List.map_append, List.map_cons] at nd ⊢
  have := (List.perm_middle.nodup_iff).1 nd
  exact (List.nodup_cons.1 this).1
/-- An allocation that came early is met. -/
theorem meet_up {o : Oper} {K : SA → AP} {Kp : Value → SA → AP} (q : FI P n pm ops fl LA LD (i :: r) F s t) (rb : RB (EF F ++ E) β s t A h) (ho : ops[i]? = some o) (hif : i ∈ fl) (hiF : i ∈ idx F) (hh : exA P CA n pm o s K Kp A) :
    ∃ F' β' s' A', K s' A' ∧ FI P n pm ops fl (LA.setIfInBounds i true) LD r F' s' t ∧ RB (EF F' ++ E) β' s' t A' h ∧ SamB s β s' β' ∧ F.length = F'.length + 1 ∧ notF F (i :: r) = notF F' r ∧ (∃ l1, s'.bx = l1 ++ s.bx) ∧ ∀ j ∈ s.bx.map (·.1), β' j = β j := by
  obtain ⟨e, he, hei⟩ := List.mem_map.1 hiF
  obtain ⟨F1, F2, hF, hno⟩ := mem_split he q.ndF
  obtain ⟨o2, d, ty, i2, z, k1, k2, k3, k4, k5, k6, k7⟩ := q.real e he
  rw [hei, ho] at k1
  cases k1
  obtain ⟨e1, e2, e3, _⟩ := isFl_mp k3
  have hir : i ∉ r := (List.nodup_cons.1 q.ndl).1
  rw [hei] at hno
  have hiA := q.unl i List.mem_cons_self
  have p1 : ∀ j b, j ∉ idx (F1 ++ F2) → LD.getD j b = (LA.setIfInBounds i true).getD j b := by
    intro j b hj
    rw [getD_set]
    split
    · rename_i g
      obtain ⟨rfl, _⟩ := g
      have := q.done i hiF
      cases b
      · exact this
      · exact getD_tf this
    · rename_i g
      refine q.same j b ?_
      rw [hF]
      simp only [idx, List.map_append, List.map_cons, List.mem_append, List.mem_cons, not_or] at hj ⊢
      refine ⟨hj.1, fun g2 => g ⟨by rw [g2, hei], lt_of_unlisted hiA⟩, hj.2⟩
  have p2 : ∀ j ∈ idx (F1 ++ F2), LD.getD j false = true := by
    intro j hj
    refine q.done j ?_
    rw [hF]
    simp only [idx, List.map_append, List.map_cons, List.mem_append, List.mem_cons] at hj ⊢
    rcases hj with hj | hj
    · exact .inl hj
    · exact .inr (.inr hj)
  have p3 : LD.size = (LA.setIfInBounds i true).size := by simp [q.size]
  have p4 : ∀ j ∈ idx (F1 ++ F2), j ∈ r ∧ j ∈ fl := by
    intro j hj
    have hj2 : j ∈ idx F := by
      rw [hF]
      simp only [idx, List.map_append, List.map_cons, List.mem_append, List.mem_cons] at hj ⊢
      rcases hj with hj | hj
      · exact .inl hj
      · exact .inr (.inr hj)
    obtain ⟨a1, a2⟩ := q.inl j hj2
    rcases List.mem_cons.1 a1 with rfl | a1
    · exact absurd hj hno
    · exact ⟨a1, a2⟩
  have p5 : (idx (F1 ++ F2)).Nodup := by
    have := q.ndF
    rw [hF] at this
    simp only [idx, List.map_append, List.map_cons] at this ⊢
    exact (List.nodup_cons.1 ((List.perm_middle.nodup_iff).1 this)).2
  have p6 : ∀ j ∈ fl, (LA.setIfInBounds i true).getD j true = false → j ∈ r := by
    intro j hj hu
    rw [getD_set] at hu
    split at hu
    · cases hu
    · rename_i g
      rcases List.mem_cons.1 (q.mem j hj hu) with rfl | h2
      · exact absurd ⟨rfl, lt_of_unlisted hiA⟩ g
      · exact h2
  have p7 : ∀ j ∈ r, (LA.setIfInBounds i true).getD j true = false := by
    intro j hj
    rw [getD_set, if_neg (fun g => hir (by rw [g.1]; exact hj))]
    exact q.unl j (List.mem_cons_of_mem _ hj)
  have p8 : ∀ j ∈ fl, j ∈ r → ∀ o d', ops[j]? = some o → isFl P n o = some d' → look s.env d' = none ∧ lookB s.bv d' = none ∧ d ≠ d' := by
    intro j hj hjr o3 d3 h3 h4
    obtain ⟨f1, f2⟩ := q.fresh j hj (List.mem_cons_of_mem _ hjr) o3 d3 h3 h4
    have hne : i ≠ j := fun g => hir (by rw [g]; exact hjr)
    obtain ⟨o4, d4, g1, g2, _, g4⟩ := q.isfl j hj
    rw [h3] at g1
    cases g1
    rw [h4] at g2
    cases g2
    have := g4 i o ho hne
    rw [e2] at this
    exact ⟨f1, f2, fun g => this (by rw [g])⟩
  have p9 : ∀ e' ∈ F1 ++ F2, e' ∈ F := by
    intro e' he'
    rw [hF]
    rcases List.mem_append.1 he' with h1 | h1
    · exact List.mem_append.2 (.inl h1)
    · exact List.mem_append.2 (.inr (List.mem_cons_of_mem _ h1))
  have p10 : F.length = (F1 ++ F2).length + 1 := by rw [hF]; simp; omega
  have p11 : notF F (i :: r) = notF (F1 ++ F2) r := by
    have hm : i ∈ idx F := hiF
    unfold notF
    rw [List.filter_cons, if_neg (by simpa using hm)]
    apply List.filter_congr
    intro j hj
    have hne : j ≠ i := fun g => hir (by rw [← g]; exact hj)
    congr 1
    rw [Bool.eq_iff_iff]
    simp only [List.contains_iff_mem]
    rw [hF]
    simp only [idx, List.map_append, List.map_cons, List.mem_append, List.mem_cons]
    constructor
    · rintro (h1 | h1 | h1)
      · exact .inl h1
      · exact absurd (h1.trans hei) hne
      · exact .inr h1
    · rintro (h1 | h1)
      · exact .inl h1
      · exact .inr (.inr h1)
  have p12 : List.Perm (bxL β s.bx ++ (EF F ++ E)) ((e.2.1, z.cells.toList, ty) :: (bxL β s.bx ++ (EF (F1 ++ F2) ++ E))) := by
    have h3 : EF (F1 ++ e :: F2) = EF F1 ++ (e.2.1, z.cells.toList, ty) :: EF F2 := by
      simp only [EF, List.map_append, List.map_cons]
      rw [k6]
    have h4 : EF (F1 ++ F2) = EF F1 ++ EF F2 := by simp [EF]
    rw [hF, h3, h4]
    have : bxL β s.bx ++ (EF F1 ++ (e.2.1, z.cells.toList, ty) :: EF F2 ++ E) = (bxL β s.bx ++ EF F1) ++ (e.2.1, z.cells.toList, ty) :: (EF F2 ++ E) := by simp
    rw [this]
    refine List.perm_middle.trans ?_
    simp
  unfold exA opA at hh
  rw [k2, e2] at hh
  simp only at hh
  cases e4 : memN d pm with
  | true =>
    rw [e4] at hh
    simp only at hh
    unfold zeroD at hh
    rw [k4] at hh
    simp only at hh
    rw [k5] at hh
    simp only at hh
    have hnx := newX_no hh
    unfold newX at hh
    split at hh
    · rename_i n1 n2
      unfold putA at hh
      simp only at hh
      rw [e3] at hh
      simp only at hh
      refine ⟨F1 ++ F2, setF β d e.2.1, _, _, hh, ⟨p1, p2, p3, p4, p5, (List.nodup_cons.1 q.ndl).2, p6, p7, q.isfl, fun j hj hjr o3 d3 h3 h4 => ?_, fun e' he' => q.real e' (p9 e' he')⟩, ⟨?_, ?_, rb.ds, ?_, ?_⟩, ⟨rfl, rfl, ?_⟩, p10, p11, ⟨[_], rfl⟩, ?_⟩
      · obtain ⟨f1, f2, f3⟩ := p8 j hj hjr o3 d3 h3 h4
        refine ⟨stripE_none f1, ?_⟩
        show lookB ((d, _) :: s.bv) d3 = none
        rw [lookB_cons, if_neg f3]
        exact f2
      · intro x u hx
        exact rb.env x u (stripE_look _ hx).1
      · intro x j2 o3 hx
        have hx2 : lookB ((d, (d, 0)) :: s.bv) x = some (j2, o3) := hx
        rw [lookB_cons] at hx2
        split at hx2
        · rename_i g
          cases hx2
          subst g
          refine ⟨?_, _, by rw [lookX_cons, if_pos rfl]⟩
          unfold setF
          rw [if_pos rfl]; exact k7
        · obtain ⟨a1, p, a2⟩ := rb.bv x j2 o3 hx2
          have hne : j2 ≠ d := fun g => by rw [g, n1] at a2; cases a2
          refine ⟨?_, p, ?_⟩
          · unfold setF
            rw [if_neg hne]; exact a1
          · rw [lookX_cons, if_neg (Ne.symm hne)]; exact a2
      · have h1 : bxL (setF β d e.2.1) s.bx = bxL β s.bx := bxL_congr fun j hj => by
          unfold setF
          rw [if_neg (fun g => hnx (by rw [← g]; exact hj))]
        refine rb.sim.perm ?_
        have h2 : bxL (setF β d e.2.1) ((d, (z.cells.toList, ty)) :: s.bx) = (e.2.1, z.cells.toList, ty) :: bxL β s.bx := by
          rw [← h1]; simp [bxL, setF]
        show List.Perm _ (bxL (setF β d e.2.1) ((d, (z.cells.toList, ty)) :: s.bx) ++ _)
        rw [h2]
        exact p12
      · exact List.nodup_cons.2 ⟨hnx, rb.nd⟩
      · intro j hj cs ty' hl
        have hl2 : lookX ((d, (z.cells.toList, ty)) :: s.bx) j = some (cs, ty') := hl
        have hne : j ≠ d := fun g => (memN_no.1 n2) (by rw [← g]; exact hj)
        rw [lookX_cons, if_neg (Ne.symm hne)] at hl2
        exact ⟨by unfold setF; rw [if_neg hne], cs, hl2, rfl, fun _ _ => rfl⟩
      · intro j hj
        unfold setF
        rw [if_neg (fun g => hnx (by rw [← g]; exact hj))]
    · exact hh.elim
  | false =>
    rw [e4] at hh
    simp only at hh
    unfold opV at hh
    rw [k2] at hh
    simp only at hh
    unfold zeroD at hh
    rw [k4] at hh
    simp only at hh
    rw [k5] at hh
    simp only at hh
    obtain ⟨u1, u2⟩ := (rb.sim.perm p12).unbox
    rw [Array.toArray_toList] at u2
    have hh := hh e.2.1 u1
    unfold putA at hh
    simp only at hh
    rw [e3] at hh
    simp only at hh
    refine ⟨F1 ++ F2, β, _, _, hh, ⟨p1, p2, p3, p4, p5, (List.nodup_cons.1 q.ndl).2, p6, p7, q.isfl, fun j hj hjr o3 d3 h3 h4 => ?_, fun e' he' => q.real e' (p9 e' he')⟩, ⟨?_, ?_, rb.ds, u2, rb.nd⟩, ⟨rfl, rfl, fun j hj cs ty' hl => ⟨rfl, cs, hl, rfl, fun _ _ => rfl⟩⟩, p10, p11, ⟨[], rfl⟩, fun _ _ => rfl⟩
    · obtain ⟨f1, f2, f3⟩ := p8 j hj hjr o3 d3 h3 h4
      refine ⟨?_, lookB_drop_none f2⟩
      show look ((d, _) :: s.env) d3 = none
      rw [look_cons, if_neg f3]
      exact f1
    · intro x u hx
      have hx2 : look ((d, _) :: s.env) x = some u := hx
      rw [look_cons] at hx2
      split at hx2
      · rename_i g
        cases hx2
        subst g
        exact k7
      · exact rb.env x u hx2
    · intro x j2 o3 hx
      exact rb.bv x j2 o3 (lookB_drop hx).1
theorem Put.comp {s1 s2 : SA} {t1 t2 : St} {dst : Option Tmp} (h1 : Put s s1 t t1 none) (h2 : Put s1 s2 t1 t2 dst) : Put s s2 t t2 dst := by
  refine ⟨fun x hx => ?_⟩
  obtain ⟨a1, a2, a3⟩ := h1.env x (by simp)
  obtain ⟨b1, b2, b3⟩ := h2.env x hx
  exact ⟨fun g => b1 (a1 g), fun g => b2 (a2 g), fun v g => b3 v (a3 v g)⟩
theorem FI.step (q : FI P n pm ops fl LA LD (i :: r) F s t) (hi : i ∉ idx F) {o : Oper} (ho : ops[i]? = some o) {s2 : SA} {t2 : St} (hp : Put s s2 t t2 o.dst) : FI P n pm ops fl (LA.setIfInBounds i true) (LD.setIfInBounds i true) r F s2 t2 := by
  have hir : i ∉ r := (List.nodup_cons.1 q.ndl).1
  have hiA := q.unl i List.mem_cons_self
  have hdst : ∀ j ∈ fl, j ≠ i → ∀ oj d, ops[j]? = some oj → isFl P n oj = some d → o.dst ≠ some d := fun j hj hne oj d h1 h2 => by
    obtain ⟨o4, d4, g1, g2, _, g4⟩ := q.isfl j hj
    rw [h1] at g1
    cases g1
    rw [h2] at g2
    cases g2
    exact g4 i o ho (Ne.symm hne)
  refine ⟨?_, ?_, ?_, ?_, q.ndF, (List.nodup_cons.1 q.ndl).2, ?_, ?_, q.isfl, ?_, ?_⟩
  · intro j b hj
    rw [getD_set, getD_set, q.size]
    split
    · rfl
    · exact q.same j b hj
  · intro j hj
    rw [getD_set]
    split
    · rfl
    · exact q.done j hj
  · simp [q.size]
  · intro j hj
    obtain ⟨a1, a2⟩ := q.inl j hj
    rcases List.mem_cons.1 a1 with rfl | a1
    · exact absurd hj hi
    · exact ⟨a1, a2⟩
  · intro j hj hu
    rw [getD_set] at hu
    split at hu
    · cases hu
    · rename_i g
      rcases List.mem_cons.1 (q.mem j hj hu) with rfl | h2
      · exact absurd ⟨rfl, lt_of_unlisted hiA⟩ g
      · exact h2
  · intro j hj
    rw [getD_set, if_neg (fun g => hir (by rw [g.1]; exact hj))]
    exact q.unl j (List.mem_cons_of_mem _ hj)
  · intro j hj hjr o3 d3 h3 h4
    obtain ⟨f1, f2⟩ := q.fresh j hj (List.mem_cons_of_mem _ hjr) o3 d3 h3 h4
    obtain ⟨p1, p2, _⟩ := hp.env d3 (hdst j hj (fun g => hir (by rw [← g]; exact hjr)) o3 d3 h3 h4)
    exact ⟨p1 f1, p2 f2⟩
  · intro e he
    obtain ⟨o2, d, ty, i2, z, k1, k2, k3, k4, k5, k6, k7⟩ := q.real e he
    have hei : e.1 ∈ idx F := List.mem_map.2 ⟨e, he, rfl⟩
    refine ⟨o2, d, ty, i2, z, k1, k2, k3, k4, k5, k6, ?_⟩
    exact (hp.env d (hdst e.1 (q.inl _ hei).2 (fun g => hi (by rw [← g]; exact hei)) o2 d k1 k3)).2.2 _ k7
theorem unlisted_of_set {j : Nat} (h : (LA.setIfInBounds i true).getD j true = false) : LA.getD j true = false := by
  rw [getD_set] at h
  split at h
  · cases h
  · exact h
theorem nodup_len {l : List Nat} : ∀ {m : List Nat}, m.Nodup → (∀ x ∈ m, x ∈ l) → m.length ≤ l.length
  | [], _, _ => Nat.zero_le _
  | x :: m, nd, h => by
    obtain ⟨h1, h2⟩ := List.nodup_cons.1 nd
    have hx := h x List.mem_cons_self
    have := nodup_len (l := l.erase x) h2 fun y hy => (List.mem_erase_of_ne (fun e => h1 (by rw [← e]; exact hy))).2 (h y (List.mem_cons_of_mem _ hy))
    rw [List.length_erase_of_mem hx] at this
    have : 0 < l.length := List.length_pos_of_mem hx
    simp only [List.length_cons]; omega
/-- What is told of the heap between operations, with the boxes as they were at the region's begin. -/
def upS (β0 : Nat → Nat) (bx0 : Bxs) (S : AP) : HP := fun h => ∃ A, Sim A (bxL β0 bx0) h ∧ S A
def Old (β0 : Nat → Nat) (bx0 : Bxs) (β : Nat → Nat) (bx : Bxs) : Prop := (∃ l1, bx = l1 ++ bx0) ∧ ∀ i ∈ bx0.map (·.1), β i = β0 i
theorem told_up {S : AP} {β0 : Nat → Nat} {bx0 : Bxs} {E : Bx} (rb : RB E β s t A h) (ho : Old β0 bx0 β s.bx) (hS : S A) : upS β0 bx0 S h := by
  obtain ⟨⟨l1, h1⟩, h2⟩ := ho
  refine ⟨A, rb.sim.keep ?_, hS⟩
  rw [h1, ← bxL_congr h2]
  have : bxL β (l1 ++ bx0) ++ E = bxL β l1 ++ (bxL β bx0 ++ E) := by simp [bxL]
  rw [this]
  exact (List.sublist_append_left _ _).trans (List.sublist_append_right _ _)
theorem Old.step {β0 β' : Nat → Nat} {bx0 bx bx' : Bxs} (ho : Old β0 bx0 β bx) (h1 : ∃ l1, bx' = l1 ++ bx) (h2 : ∀ i ∈ bx.map (·.1), β' i = β i) : Old β0 bx0 β' bx' := by
  obtain ⟨⟨l1, e1⟩, e2⟩ := ho
  obtain ⟨l2, e3⟩ := h1
  refine ⟨⟨l2 ++ l1, by rw [e3, e1, List.append_assoc]⟩, fun i hi => ?_⟩
  rw [h2 i (by rw [e1]; simp only [List.map_append, List.mem_append]; exact .inr hi)]
  exact e2 i hi
theorem RB.drop (rb : RB (EF F ++ E) β s t A h) : RB E β s t A h := ⟨rb.env, rb.bv, rb.ds, rb.sim.keep ((List.Sublist.refl _).append (List.sublist_append_right _ _)), rb.nd⟩
theorem freeF_mono {o : Oper} (hle : ∀ j, LA.getD j true = true → LD.getD j true = true) (hD : ∀ k ∈ descG ops 0 [i], LD.getD k false = LA.getD k false) (h : freeF ops LA i o = true) : freeF ops LD i o = true := by
  unfold freeF at h ⊢
  rw [Bool.and_eq_true] at h ⊢
  obtain ⟨h0, h⟩ := h
  refine ⟨?_, ?_⟩
  · rw [List.all_eq_true] at h0 ⊢
    intro k hk
    rw [hD k hk]; exact h0 k hk
  rw [List.all_eq_true] at h ⊢
  intro j hj
  have := h j hj
  rw [Bool.or_eq_true, Bool.or_eq_true] at this ⊢
  rcases this with (h1 | h1) | h1
  · exact .inl (.inl h1)
  · exact .inl (.inr (hle j h1))
  · exact .inr h1
theorem noneN_mp {l : List Nat} : ∀ {m : List Nat}, noneN l m = true → ∀ x ∈ m, x ∉ l
  | [], _, _, h => by cases h
  | y :: m, h, x, hx => by
    unfold noneN at h
    split at h
    · cases h
    · rename_i hb
      rcases List.mem_cons.1 hx with rfl | hx
      · exact memN_no.1 hb
      · exact noneN_mp h x hx
theorem ldX_fun {T : TypeId} {cells : List Value} {k : Nat} {K : Value → Prop} (h : ldX P T cells k K) : ∃ v, K v ∧ ∀ K' : Value → Prop, K' v → ldX P T cells k K' := by
  unfold ldX at h ⊢
  split at h
  · split at h
    · split at h
      · split at h
        · exact ⟨_, h, fun _ h => h⟩
        · exact h.elim
      · exact h.elim
    · split at h
      · split at h
        · exact ⟨_, h, fun _ h => h⟩
        · exact h.elim
      · exact h.elim
  · exact h.elim
/-- What is loaded out of a box is so whatever the heap. -/
theorem opA_box {o : Oper} {K K' : Res → Prop} (hb : isBx s o = true) (h : opA P CA pm s o A (fun x _ _ => K x) (fun _ _ => False) (fun _ _ => False))
    (hk : ∀ x, (∀ A', opA P CA pm s o A' (fun x' _ _ => resEq x x') (fun _ _ => False) (fun _ _ => False)) → K x → K' x) : opA P CA pm s o A (fun x _ _ => K' x) (fun _ _ => False) (fun _ _ => False) := by
  unfold isBx at hb
  split at hb
  · rename_i T a ho
    split at hb
    · rename_i p hp
      unfold opA at h hk ⊢
      rw [ho] at h hk ⊢
      simp only [hp] at h hk ⊢
      split at h
      · rename_i cells T2 hx
        simp only [hx] at h hk ⊢
        obtain ⟨v, h1, h2⟩ := ldX_fun h
        exact h2 _ (hk _ (fun _ => h2 _ rfl) h1)
      · exact h.elim
    · cases hb
  · cases hb
theorem ldCA_mono {c : CK} {a : Addr} {A : AH} {K K' : Value → Prop} (h : ldCA c a A K) (hk : ∀ v, K v → K' v) : ldCA c a A K' := by
  cases c <;> (obtain ⟨n, h1, h2⟩ := h; exact ⟨n, h1, hk _ h2⟩)
theorem ldLA_mono {a : Addr} {A : AH} : ∀ (l : List CK) (n : Nat) (K K' : List Value → Prop), ldLA l a n A K → (∀ v, K v → K' v) → ldLA l a n A K'
  | [], _, _, _, h, hk => hk _ h
  | _ :: r, n, _, _, h, hk => ldCA_mono h fun v h1 => ldLA_mono r (n + 1) _ _ h1 fun vs => hk _
theorem ldCA_fun {c : CK} {a : Addr} {A : AH} : Fun1 (ldCA c a A) := by
  intro K h
  cases c <;> (obtain ⟨n, h1, h2⟩ := h; exact ⟨_, h2, n, h1, rfl⟩)
theorem ldLA_fun {a : Addr} {A : AH} : ∀ (l : List CK) (n : Nat) (K : List Value → Prop), ldLA l a n A K → ∃ vs, K vs ∧ ldLA l a n A (fun us => us = vs)
  | [], _, K, h => ⟨[], h, rfl⟩
  | c :: r, n, K, h => by
    obtain ⟨v, h1, h2⟩ := ldCA_fun _ h
    obtain ⟨vs, h3, h4⟩ := ldLA_fun r (n + 1) _ h1
    refine ⟨v :: vs, h3, ldCA_mono h2 fun u e => ?_⟩
    subst e
    exact ldLA_mono r (n + 1) _ _ h4 fun us e => by rw [e]
theorem ldDA_fun {t : TypeId} {a : Addr} {A : AH} : Fun1 (fun K => ldDA P t a A K) := by
  unfold ldDA
  split
  · split
    · split
      · rename_i l _
        split
        · intro K h
          obtain ⟨vs, h1, h2⟩ := ldLA_fun l 0 _ h
          exact ⟨_, h1, ldLA_mono l 0 _ _ h2 fun us e => by rw [e]⟩
        · exact Fun1.no
      · intro K h
        obtain ⟨cs, h1, h2, h3⟩ := h
        exact ⟨_, h3, cs, h1, h2, rfl⟩
    · split
      · exact ldCA_fun
      · exact Fun1.no
  · exact Fun1.no
theorem exL_fun : ∀ (l : List CK) (K : List Value → Prop), exL l K → ∃ vs, K vs ∧ exL l (fun us => us = vs)
  | [], K, h => ⟨[], h, rfl⟩
  | c :: r, K, h => by
    have mono : ∀ (l : List CK) (K K' : List Value → Prop), exL l K → (∀ v, K v → K' v) → exL l K' := by
      intro l
      induction l with
      | nil => intro K K' h hk; exact hk _ h
      | cons c r ih => intro K K' h hk; cases c <;> (obtain ⟨n, h⟩ := h; exact ⟨n, ih _ _ h fun _ => hk _⟩)
    cases c <;> (obtain ⟨n, h⟩ := h; obtain ⟨vs, h1, h2⟩ := exL_fun r _ h; exact ⟨_, h1, n, mono r _ _ h2 fun us e => by rw [e]⟩)
theorem exL_mono2 : ∀ (l : List CK) (K K' : List Value → Prop), exL l K → (∀ v, K v → K' v) → exL l K' := by
  intro l
  induction l with
  | nil => intro K K' h hk; exact hk _ h
  | cons c r ih => intro K K' h hk; cases c <;> (obtain ⟨n, h⟩ := h; exact ⟨n, ih _ _ h fun _ => hk _⟩)
theorem elD_fun {t : TypeId} {v : Value} {H : Value → (Value → Prop) → Prop} (hH : ∀ v, Fun1 (H v)) : Fun1 (fun K => elD P t v fun u => H u K) := by
  unfold elD
  split
  · split
    · split
      · rename_i l _
        intro K h
        obtain ⟨vs, ⟨h1, h2⟩, h3⟩ := exL_fun l _ h
        obtain ⟨u, h4, h5⟩ := hH _ _ h2
        exact ⟨u, h4, exL_mono2 l _ _ h3 fun us e => by subst e; exact ⟨h1, h5⟩⟩
      · exact Fun1.no
    · split
      · rename_i c _
        intro K h
        obtain ⟨vs, h1, h3⟩ := exL_fun [c] _ h
        split at h1
        · rename_i u
          obtain ⟨h1, h2⟩ := h1
          obtain ⟨x, h4, h5⟩ := hH _ _ h2
          exact ⟨x, h4, exL_mono2 [c] _ _ h3 fun us e => by subst e; exact ⟨h1, h5⟩⟩
        · exact h1.elim
      · exact Fun1.no
  · exact Fun1.no
theorem ad_fun {v : Value} {G : Addr → (Value → Prop) → Prop} (hg : ∀ a, Fun1 (G a)) : Fun1 (fun K => asAd v fun a => G a K) := Fun1.ad hg
theorem mx_fun {b : Bool} : ∀ (r : List Value) (x : Value), Fun1 (foldMx b x r)
  | [], x => Fun1.val x
  | y :: r, x => by
    show Fun1 (fun K => mxD b x y fun z => foldMx b z r K)
    unfold mxD
    split
    · cases b
      · exact mx_fun r _
      · exact mx_fun r _
    · exact Fun1.no
theorem ln_fun {t : TypeId} {x : Value} {A : AH} : Fun1 (fun K => lnDA P t x A K) := by
  unfold lnDA
  split
  · exact Fun1.val _
  · exact Fun1.val _
  · intro K h
    obtain ⟨es, h1, h2⟩ := h
    exact ⟨_, h2, es, h1, rfl⟩
  · exact Fun1.no
theorem lk_fun {t : TypeId} {m ix : Value} {ok : Bool} {A : AH} : Fun1 (fun K => lkDA P t m ix ok A K) := by
  unfold lkDA
  split
  · rename_i kt et m' k key _
    split
    · refine Fun1.sel (G := fun K => aLk A m' k key fun o => zeroD P et fun z => elD P et (o.getD z) fun v => match ok with
        | true => K (.tuple #[v, .bool o.isSome])
        | false => K v) (H := fun _ => False) (fun K h => ?_) Fun1.no
      obtain ⟨es, h3, r, h4, h5⟩ := h
      have f : ∀ (o : Option Value) (ok : Bool), Fun1 (fun K => zeroD P et fun z => elD P et (o.getD z) fun v => match ok with
        | true => K (.tuple #[v, .bool o.isSome])
        | false => K v) := fun o ok => Fun1.ze fun z => elD_fun (H := fun v K => match ok with
        | true => K (.tuple #[v, .bool o.isSome])
        | false => K v) fun v => by cases ok <;> exact Fun1.val _
      obtain ⟨u, h6, h7⟩ := f _ ok _ h5
      exact ⟨u, h6, es, h3, r, h4, h7⟩
    · exact Fun1.no
  · exact Fun1.no
theorem opV_fun {ρ : Env} {o : Oper} {A : AH} (hq : isQ o.op = true) (hl : isL o.op = true) : Fun1 fun Kq => opV P CA ρ o A (fun v _ => Kq v) (fun _ _ => False) (fun _ _ => False) := by
  obtain ⟨dst, op, ty, pos, after, guard⟩ := o
  unfold opV
  cases op <;> first | (cases hl; done) | skip
  case load t a => exact Fun1.wv fun v => ad_fun fun ad => ldDA_fun
  case lookup t m k ok => exact Fun1.wv fun vm => Fun1.wv fun vk => lk_fun
  case call c =>
    obtain ⟨callee, args, ats⟩ := c
    unfold callDA
    cases callee with
    | value f => cases hq
    | invoke r m => cases hq
    | builtin b =>
      refine Fun1.wl fun vs => ?_
      unfold biDA
      split <;> first | (cases hq; done) | exact Fun1.no | exact ln_fun | exact mx_fun _ _
/-- What isn't read out of a box is read by the slots alone. -/
theorem opA_noBox {o : Oper} {K : Res → SA → AP} {Kp : Value → AP} {Kd : Deferred → AP} (hl : isL o.op = true) (hb : isBx s o = false) : opA P CA pm s o A K Kp Kd = opV P CA s.env o A (fun v => K (.v v) s) Kp Kd := by
  unfold isBx at hb
  unfold opA
  split <;> first | (rename_i ho; rw [ho] at hl; cases hl; done) | skip
  · rename_i t a ho
    rw [ho] at hb
    simp only at hb
    split
    · rename_i hx
      rw [hx] at hb; cases hb
    · rfl
  · rfl
theorem alive_same {i : Nat} {L L' : Array Bool} (h : ∀ k ∈ descG ops 0 [i], L.getD k false = L'.getD k false) : aliveD ops i L = aliveD ops i L' := by
  unfold aliveD
  rw [Bool.eq_iff_iff, List.all_eq_true, List.all_eq_true]
  constructor
  · intro g k hk; rw [← h k hk]; exact g k hk
  · intro g k hk; rw [h k hk]; exact g k hk
theorem alive_anti {i j : Nat} {L : Array Bool} (h : aliveD ops i (L.setIfInBounds j true) = true) : aliveD ops i L = true := by
  unfold aliveD at *
  rw [List.all_eq_true] at *
  intro k hk
  have := h k hk
  rw [Bool.or_eq_true] at this ⊢
  rcases this with h1 | h1
  · left
    cases e : L.getD k false with
    | false => rfl
    | true => rw [getD_set_true e] at h1; cases h1
  · exact .inr h1
structure PinU where
  i : Nat
  β : Nat → Nat
  bx : Bxs
  S : AP
structure PIv (P : Program) (CA : CTA) (ops : List Oper) (fl : List Nat) (LA : Array Bool) (pn : Pins) (pb : List Nat) (β : Nat → Nat) (bx : Bxs) (h : Hp) (PN : List PinU) : Prop where
  nofl : ∀ p ∈ PN, ∀ k ∈ descG ops 0 [p.i], k ∉ fl
  src : ∀ p ∈ PN, (p.bx = [] ∧ ∃ ρ o v, (p.i, (ρ, (o, v))) ∈ pn ∧ p.S = fun A => opV P CA ρ o A (fun v' _ => v' = v) (fun _ _ => False) (fun _ _ => False)) ∨ (p.i ∈ pb ∧ p.S = fun _ => True)
  ok : ∀ p ∈ PN, aliveD ops p.i LA = true → Old p.β p.bx β bx ∧ upS p.β p.bx p.S h
theorem anyAlive_mp {L : Array Bool} : ∀ {l : List Nat}, anyAlive ops L l = false → ∀ i ∈ l, aliveD ops i L = false
  | [], _, _, h => by simp at h
  | x :: r, h, i, hi => by
    unfold anyAlive at h
    split at h
    · cases h
    · rename_i hb
      rcases List.mem_cons.1 hi with rfl | hi
      · simpa using hb
      · exact anyAlive_mp h i hi
theorem recheck_mp {L : Array Bool} {X : Prop} : ∀ {pn : Pins}, recheck P CA ops L A X pn → X ∧ ∀ p ∈ pn, aliveD ops p.1 L = true → opV P CA p.2.1 p.2.2.1 A (fun v _ => v = p.2.2.2) (fun _ _ => False) (fun _ _ => False)
  | [], h => ⟨h, fun _ hp => by simp at hp⟩
  | q :: r, h => by
    unfold recheck at h
    split at h
    · obtain ⟨h1, h2⟩ := h
      obtain ⟨h3, h4⟩ := recheck_mp h2
      refine ⟨h3, fun p hp ha => ?_⟩
      rcases List.mem_cons.1 hp with rfl | hp
      · exact h1
      · exact h4 p hp ha
    · rename_i hb
      obtain ⟨h3, h4⟩ := recheck_mp h
      refine ⟨h3, fun p hp ha => ?_⟩
      rcases List.mem_cons.1 hp with rfl | hp
      · rw [hb] at ha; cases ha
      · exact h4 p hp ha
theorem PIv.step {pn : Pins} {pb : List Nat} {PN : List PinU} {LA' : Array Bool} {β' : Nat → Nat} {bx bx' : Bxs} {h' : Hp} (q : PIv P CA ops fl LA pn pb β bx h PN) (ha : ∀ i, aliveD ops i LA' = true → aliveD ops i LA = true)
    (h1 : ∃ l1, bx' = l1 ++ bx) (h2 : ∀ i ∈ bx.map (·.1), β' i = β i) (hh : ∀ A' b, Sim A' b h → Sim A' b h') : PIv P CA ops fl LA' pn pb β' bx' h' PN :=
  ⟨q.nofl, q.src, fun p hp hal => by
    obtain ⟨o1, A0, o2, o3⟩ := q.ok p hp (ha _ hal)
    exact ⟨o1.step h1 h2, A0, hh _ _ o2, o3⟩⟩
theorem resEq_v {β : Nat → Nat} {x x' : Res} {y y' : Value} (h1 : ResR β x y) (h2 : ResR β x' y') (h : resEq x x') : y' = y := by
  cases x with
  | v a =>
    cases x' with
    | v b =>
      have e1 : y = a := h1
      have e2 : y' = b := h2
      have e3 : b = a := h
      rw [e1, e2, e3]
    | b i2 o2 => exact h.elim
  | b i2 o2 =>
    cases x' with
    | v b => exact h.elim
    | b i3 o3 =>
      have e1 : y = _ := h1
      have e2 : y' = _ := h2
      rw [e1, e2]
      unfold resEq at h
      simp only at h
      split at h
      · rename_i g
        rw [Bool.and_eq_true] at g
        rw [beqN.1 g.1, beqN.1 g.2]
      · exact h.elim
theorem denDrA_up {K : SA → AP} {Kp : Value → SA → AP} {K' : St → HP} {Kp' : Value → HP} : ∀ (m f : Nat) (l : List Nat) (LA LD : Array Bool) (pn : Pins) (pb : List Nat) (PN : List PinU) (TC : Array Bool → HP) (F : FLs) (β : Nat → Nat) (s : SA) (t : St) (A : AH) (h : Hp), f + l.length ≤ m → f + F.length = l.length →
    FI P n pm ops fl LA LD l F s t → RB (EF F ++ E) β s t A h → PIv P CA ops fl LA pn pb β s.bx h PN → (∀ L h', (∀ p ∈ PN, aliveD ops p.i L = true → upS p.β p.bx p.S h') → TC L h') → denDrA P CA n pm ops fl l LA pn pb s K Kp A →
    (∀ β' s' t' A' h', RB E β' s' t' A' h' → SamB s β s' β' → K s' A' → K' t' h') → (∀ v β' s' t' A' h', RB E β' s' t' A' h' → SamB s β s' β' → Kp v s' A' → Kp' v h') →
    denDr P (upC CA) n ops f TC (notF F l) LD t K' Kp' h := by
  intro m
  induction m with
  | zero =>
    intro f l LA LD pn pb PN TC F β s t A h hm hf q rb pv hTC hh hk hp
    have h0 : l = [] := List.length_eq_zero_iff.1 (by omega)
    have h1 : f = 0 := by omega
    subst h0 h1
    have h2 : F = [] := List.length_eq_zero_iff.1 (by simp only [List.length_nil] at hf; omega)
    subst h2
    have hLL : Region.ready .any ops.toArray LD = Region.ready .any ops.toArray LA := by
      unfold Region.ready
      simp only [q.same _ _ (by simp [idx] : _ ∉ idx ([] : FLs))]
    unfold denDrA at hh
    unfold denDr
    rw [hLL]
    split at hh
    · rename_i e
      exact ⟨e, hk β s t A h rb.drop (SamB.refl _ _) hh⟩
    · exact hh.elim
  | succ m ih =>
    intro f l LA LD pn pb PN TC F β s t A h hm hf q rb pv hTC hh hk hp
    cases l with
    | nil =>
      simp only [List.length_nil] at hf
      have h1 : f = 0 := by omega
      have h2 : F = [] := List.length_eq_zero_iff.1 (by omega)
      subst h1 h2
      have hLL : Region.ready .any ops.toArray LD = Region.ready .any ops.toArray LA := by
        unfold Region.ready
        simp only [q.same _ _ (by simp [idx] : _ ∉ idx ([] : FLs))]
      unfold denDrA at hh
      unfold denDr
      rw [hLL]
      split at hh
      · rename_i e
        exact ⟨e, hk β s t A h rb.drop (SamB.refl _ _) hh⟩
      · exact hh.elim
    | cons i r =>
      have hh0 := hh
      have hir : i ∉ r := (List.nodup_cons.1 q.ndl).1
      have hiA := q.unl i List.mem_cons_self
      unfold denDrA at hh
      split at hh
      · rename_i o hoi
        by_cases hiF : i ∈ idx F
        · -- it came early
          have hif := (q.inl i hiF).2
          rw [memN_iff.2 hif] at hh
          simp only at hh
          split at hh
          · obtain ⟨F', β', s', A', g1, g2, g3, g4, g5, g6, g7, g8⟩ := meet_up q rb hoi hif hiF hh
            rw [g6]
            refine ih f r _ LD pn pb PN TC F' β' s' t A' h (by simp at hm; omega) (by simp at hf; omega) g2 g3 (pv.step (fun _ => alive_anti) g7 g8 fun _ _ g => g) hTC g1 (fun β2 s2 t2 A2 h2 r2 sb => hk β2 s2 t2 A2 h2 r2 (g4.trans sb)) (fun v β2 s2 t2 A2 h2 r2 sb => hp v β2 s2 t2 A2 h2 r2 (g4.trans sb))
          · exact hh.elim
        · have hlenF : F.length ≤ r.length := by
            have := nodup_len (l := r) q.ndF fun x hx => by
              rcases List.mem_cons.1 (q.inl x hx).1 with rfl | h1
              · exact absurd hx hiF
              · exact h1
            simpa [idx] using this
          obtain ⟨f, rfl⟩ : ∃ k, f = k + 1 := ⟨f - 1, by simp at hf; omega⟩
          have hm' : f + (i :: r).length ≤ m := by simp at hm ⊢; omega
          have hm2 : f + r.length ≤ m := by simp at hm; omega
          have hf2 : f + F.length = r.length := by simp at hf; omega
          have alD : ∀ p ∈ PN, aliveD ops p.i LD = aliveD ops p.i LA := fun p hpm => alive_same fun k hk => q.same k false fun g => pv.nofl p hpm k hk (q.inl k g).2
          rw [filter_cons_no hiF]
          unfold denDr
          refine ⟨o, hoi, ?_⟩
          have early : ∀ (j : Nat) (oj : Oper) (rest : List Nat), (∀ b cs ty, rest = notF ((j, (b, (cs, ty))) :: F) (i :: r)) → ops[j]? = some oj → j ∈ fl → j ∈ i :: r → j ∉ idx F →
              exOp P (upC CA) n oj t (fun s' h' => TC (LD.setIfInBounds j true) h' ∧ denDr P (upC CA) n ops f TC rest (LD.setIfInBounds j true) s' K' Kp' h') (fun v _ h' => Kp' v h') h := by
            intro j oj rest hrest hoj hjf hjl hjF
            refine early_up q rb hoj hjf hjl hjF fun b cs ty t' h' q' rb' hup => ⟨hTC _ _ fun p hpm hal => ?_, ?_⟩
            · obtain ⟨_, A0, o2, o3⟩ := pv.ok p hpm (by rw [← alD p hpm]; exact alive_anti hal)
              exact ⟨A0, hup _ _ o2, o3⟩
            · rw [hrest b cs ty]
              exact ih f (i :: r) LA _ pn pb PN TC _ β s t' A h' hm' (by simp at hf ⊢; omega) q' rb' (pv.step (fun _ g => g) ⟨[], rfl⟩ (fun _ _ => rfl) hup) hTC hh0 hk hp
          have hfl : ∀ j, j ∈ fl → ∀ oj, ops[j]? = some oj → isQ oj.op = false ∧ isDf oj.op = false ∧ oj.guard = none := fun j hj oj hoj => by
            obtain ⟨o2, d, g1, g2, _, _⟩ := q.isfl j hj
            rw [hoj] at g1
            cases g1
            obtain ⟨e1, _, _, ty, _, _, e5, _, _⟩ := isFl_mp g2
            rw [e5]
            exact ⟨rfl, rfl, e1⟩
          have hrest0 : ∀ j b cs ty, j ≠ i → j ∈ i :: r → j ∉ idx F → i :: (notF F r).erase j = notF ((j, (b, (cs, ty))) :: F) (i :: r) := by
            intro j b cs ty hne hjl hjF
            have hi2 : i ∉ idx ((j, (b, (cs, ty))) :: F) := by
              simp only [idx, List.map_cons, List.mem_cons, not_or]
              exact ⟨Ne.symm hne, hiF⟩
            rw [filter_cons_no hi2]
            congr 1
            have nd : (notF F r).Nodup := (List.nodup_cons.1 q.ndl).2.filter _
            rw [nd.erase_eq_filter]
            unfold notF
            rw [List.filter_filter]
            apply List.filter_congr
            intro x _
            simp only [idx, List.map_cons, List.contains_cons]
            cases (List.map (fun e => e.fst) F).contains x <;> cases hx : x == j <;> simp [bne, hx]
          have branch : ∀ j ∈ Region.ready .any ops.toArray LD, j ≠ i → (j ∈ fl ∧ j ∈ i :: r ∧ j ∉ idx F) → ∃ oj, ops[j]? = some oj ∧ isQ oj.op = false ∧ isDf oj.op = false ∧ oj.guard = none ∧
              exOp P (upC CA) n oj t (fun s' h' => TC (LD.setIfInBounds j true) h' ∧ denDr P (upC CA) n ops f TC (i :: (notF F r).erase j) (LD.setIfInBounds j true) s' K' Kp' h') (fun v _ h' => Kp' v h') h := by
            intro j hj hne ⟨h1, h2, h3⟩
            obtain ⟨_, oj, hoj, _⟩ := mem_ready.1 hj
            have hoj2 : ops[j]? = some oj := by simpa using hoj
            obtain ⟨a1, a2, a3⟩ := hfl j h1 oj hoj2
            refine ⟨oj, hoj2, a1, a2, a3, ?_⟩
            exact early j oj _ (fun b cs ty => hrest0 j b cs ty hne h2 h3) hoj2 h1 h2 h3
          cases hif : memN i fl with
          | true =>
            rw [hif] at hh
            simp only at hh
            split at hh
            · rename_i h1
              obtain ⟨hr1, hr2⟩ := one_ready q hiF h1
              have hif2 := memN_iff.1 hif
              obtain ⟨a1, a2, a3⟩ := hfl i hif2 o hoi
              refine .inr ⟨fun e => (by rw [e] at hr1; cases hr1), fun j hj => ?_⟩
              by_cases hne : j = i
              · subst hne
                refine .inl ⟨rfl, .inr ⟨a1, a2, ?_⟩⟩
                unfold grd
                rw [a3]
                refine early j o (notF F r) (fun b cs ty => ?_) hoi hif2 List.mem_cons_self hiF
                unfold notF
                rw [List.filter_cons, if_neg (by simp [idx])]
                apply List.filter_congr
                intro x hx
                have hne2 : x ≠ j := fun g => hir (by rw [← g]; exact hx)
                simp only [idx, List.map_cons, List.contains_cons]
                have : (x == j) = false := by simpa using hne2
                rw [this, Bool.false_or]
              · rcases hr2 j hj with h2 | h2
                · exact absurd h2 hne
                · exact .inr ⟨hne, branch j hj hne h2⟩
            · exact hh.elim
          | false =>
            rw [hif] at hh
            simp only at hh
            have hif2 := memN_no.1 hif
            have next : ∀ (pn' : Pins) (pb' : List Nat) (PN' : List PinU) (TC' : Array Bool → HP) (β' : Nat → Nat) (s2 : SA) (t2 : St) (A' : AH) (h' : Hp), RB (EF F ++ E) β' s2 t2 A' h' → SamB s β s2 β' → Put s s2 t t2 o.dst →
                PIv P CA ops fl (LA.setIfInBounds i true) pn' pb' β' s2.bx h' PN' → (∀ L h', (∀ p ∈ PN', aliveD ops p.i L = true → upS p.β p.bx p.S h') → TC' L h') →
                denDrA P CA n pm ops fl r (LA.setIfInBounds i true) pn' pb' s2 K Kp A' → denDr P (upC CA) n ops f TC' (notF F r) (LD.setIfInBounds i true) t2 K' Kp' h' := by
              intro pn' pb' PN' TC' β' s2 t2 A' h' rb2 sb2 pt pv2 hT2 hd
              exact ih f r _ _ pn' pb' PN' TC' F β' s2 t2 A' h' hm2 hf2 (q.step hiF hoi pt) rb2 pv2 hT2 hd (fun β3 s3 t3 A3 h3 r3 sb => hk β3 s3 t3 A3 h3 r3 (sb2.trans sb)) (fun v β3 s3 t3 A3 h3 r3 sb => hp v β3 s3 t3 A3 h3 r3 (sb2.trans sb))
            have still : ∀ (s2 : SA), s2.bx = s.bx → PIv P CA ops fl (LA.setIfInBounds i true) pn pb β s2.bx h PN := fun s2 e => by
              rw [e]
              exact pv.step (fun _ => alive_anti) ⟨[], rfl⟩ (fun _ _ => rfl) fun _ _ g => g
            have fin : ∀ (s1 : SA) (t1 : St), RB (EF F ++ E) β s1 t1 A h → SamB s β s1 β → s1.bx = s.bx → Put s s1 t t1 none → ∀ x y, ResR β x y → (∀ i k, x = .b i k → ∃ p, lookX s1.bx i = some p) →
                putA n s1 o.dst x (fun s' => denDrA P CA n pm ops fl r (LA.setIfInBounds i true) pn pb s' K Kp A) → putD n t1 o.dst y fun s' => denDr P (upC CA) n ops f TC (notF F r) (LD.setIfInBounds i true) s' K' Kp' h := by
              intro s1 t1 rb1 sb1 eb1 pt1 x y hxy hb h3
              exact putA_up rb1 hxy hb h3 fun s2 t2 rb2 sb2 eb2 pt2 hd => next pn pb PN TC β s2 t2 A h rb2 (sb1.trans sb2) (pt1.comp pt2) (still s2 (by rw [eb2, eb1])) hTC hd
            have skip : ∀ (s1 : SA) (t1 : St), RB (EF F ++ E) β s1 t1 A h → SamB s β s1 β → s1.bx = s.bx → Put s s1 t t1 none →
                putA n s1 o.dst (.v undef) (fun s' => denDrA P CA n pm ops fl r (LA.setIfInBounds i true) pn pb s' K Kp A) → putD n t1 o.dst undef fun s' => denDr P (upC CA) n ops f TC (notF F r) (LD.setIfInBounds i true) s' K' Kp' h :=
              fun s1 t1 rb1 sb1 eb1 pt1 h1 => fin s1 t1 rb1 sb1 eb1 pt1 (.v undef) undef rfl (fun _ _ e => by cases e) h1
            split at hh
            · rename_i hq
              split at hh
              · rename_i h1
                obtain ⟨hr1, hr2⟩ := one_ready q hiF h1
                refine .inr ⟨fun e => (by rw [e] at hr1; cases hr1), fun j hj => ?_⟩
                by_cases hne : j = i
                · refine .inl ⟨hne, .inl ⟨hq, ?_⟩⟩
                  unfold runQ
                  refine grdA_up rb hh (fun s1 t1 rb1 sb1 eb1 ev1 pt1 h2 => ?_) fun s1 t1 rb1 sb1 eb1 ev1 pt1 h2 => skip s1 t1 rb1 sb1 eb1 pt1 h2
                  exact opQ_up (KQ := fun x => putA n s1 o.dst x fun s' => denDrA P CA n pm ops fl r (LA.setIfInBounds i true) pn pb s' K Kp A)
                    (KQ' := fun y => putD n t1 o.dst y fun s' => denDr P (upC CA) n ops f TC (notF F r) (LD.setIfInBounds i true) s' K' Kp' h) hq rb1 h2 (fun x y hxy hb h3 => fin s1 t1 rb1 sb1 eb1 pt1 x y hxy hb h3) (fun _ _ _ h => h.elim)
                · rcases hr2 j hj with h2 | h2
                  · exact absurd h2 hne
                  · exact .inr ⟨hne, branch j hj hne h2⟩
              · split at hh
                · rename_i hb
                  rw [Bool.and_eq_true, Bool.and_eq_true] at hb
                  obtain ⟨⟨hb1, hb2⟩, hb3⟩ := hb
                  have hA : i ∈ Region.ready .any ops.toArray LA := by simpa using hb1
                  have hnofl : ∀ k ∈ descG ops 0 [i], k ∉ fl := noneN_mp hb3
                  refine .inl ⟨hq, ?_, freeF_mono (fun j hj => ?_) (fun k hk => q.same k false fun g => noneN_mp hb3 k hk (q.inl k g).2) hb2, ?_⟩
                  · obtain ⟨g1, o2, g2, g3⟩ := mem_ready.1 hA
                    refine mem_ready.2 ⟨by rw [q.same i true hiF]; exact g1, o2, g2, fun e he hb => ?_⟩
                    by_cases hm3 : e.on ∈ idx F
                    · exact q.done _ hm3
                    · rw [q.same _ _ hm3]; exact g3 e he hb
                  · by_cases hm3 : j ∈ idx F
                    · exact getD_tf (q.done _ hm3)
                    · rw [q.same _ _ hm3]; exact hj
                  · refine grdA_up rb hh (fun s1 t1 rb1 sb1 eb1 ev1 pt1 h2 => ?_) fun s1 t1 rb1 sb1 eb1 ev1 pt1 h2 => skip s1 t1 rb1 sb1 eb1 pt1 h2
                    cases hl : isL o.op with
                    | false =>
                      simp only [hl] at h2
                      refine opQ_up (KQ := fun x => putA n s1 o.dst x fun s' => denDrA P CA n pm ops fl r (LA.setIfInBounds i true) pn pb s' K Kp A) (KQ' := _) hq rb1 h2 (fun x y hxy hb h3 => ?_) (fun _ _ _ h => h.elim)
                      refine putA_up rb1 hxy hb h3 fun s2 t2 rb2 sb2 eb2 pt2 hd => next pn pb PN _ β s2 t2 A h rb2 (sb1.trans sb2) (pt1.comp pt2) (still s2 (by rw [eb2, eb1])) (fun L h' g => ⟨hTC L h' g, fun e => ?_⟩) hd
                      rw [hl] at e; cases e
                    | true =>
                      simp only [hl] at h2
                      cases hbx : isBx s1 o with
                      | true =>
                        simp only [hbx] at h2
                        have h3 := opA_box (K := fun x => putA n s1 o.dst x fun s' => denDrA P CA n pm ops fl r (LA.setIfInBounds i true) pn (i :: pb) s' K Kp A)
                          (K' := fun x => (∀ A', opA P CA pm s1 o A' (fun x' _ _ => resEq x x') (fun _ _ => False) (fun _ _ => False)) ∧ putA n s1 o.dst x fun s' => denDrA P CA n pm ops fl r (LA.setIfInBounds i true) pn (i :: pb) s' K Kp A) hbx h2 fun x h7 h8 => ⟨h7, h8⟩
                        refine opQ_up (KQ := fun x => (∀ A', opA P CA pm s1 o A' (fun x' _ _ => resEq x x') (fun _ _ => False) (fun _ _ => False)) ∧ putA n s1 o.dst x fun s' => denDrA P CA n pm ops fl r (LA.setIfInBounds i true) pn (i :: pb) s' K Kp A) (KQ' := _) hq rb1 h3 (fun x y hxy hb h4 => ?_) (fun _ _ _ h => h.elim)
                        obtain ⟨h5, h6⟩ := h4
                        refine putA_up rb1 hxy hb h6 fun s2 t2 rb2 sb2 eb2 pt2 hd => next pn (i :: pb) (⟨i, β, s.bx, fun _ => True⟩ :: PN) _ β s2 t2 A h rb2 (sb1.trans sb2) (pt1.comp pt2) ?_ (fun L h' g => ⟨hTC L h' fun p hp => g p (List.mem_cons_of_mem _ hp), fun _ hal => ?_⟩) hd
                        · have st := still s2 (by rw [eb2, eb1])
                          refine ⟨fun p hp => ?_, fun p hp => ?_, fun p hp hal => ?_⟩
                          · rcases List.mem_cons.1 hp with rfl | hp
                            · exact hnofl
                            · exact st.nofl p hp
                          · rcases List.mem_cons.1 hp with rfl | hp
                            · exact .inr ⟨List.mem_cons_self, rfl⟩
                            · rcases st.src p hp with g | ⟨g1, g2⟩
                              · exact .inl g
                              · exact .inr ⟨List.mem_cons_of_mem _ g1, g2⟩
                          · rcases List.mem_cons.1 hp with rfl | hp
                            · refine ⟨by rw [eb2, eb1]; exact ⟨⟨[], rfl⟩, fun _ _ => rfl⟩, told_up rb2.drop (β0 := β) (bx0 := s.bx) (S := fun _ => True) ?_ trivial⟩
                              rw [eb2, eb1]
                              exact ⟨⟨[], rfl⟩, fun _ _ => rfl⟩
                            · exact st.ok p hp hal
                        · obtain ⟨A', hsim, _⟩ := g _ List.mem_cons_self hal
                          have rb3 : RB [] β s1 t1 A' h' := ⟨rb1.env, rb1.bv, rb1.ds, by rw [List.append_nil, eb1]; exact hsim, rb1.nd⟩
                          exact opQ_up (KQ := fun x' => resEq x x') (KQ' := fun v' => v' = y) hq rb3 (h5 A') (fun x' y' hxy' _ h7 => resEq_v hxy hxy' h7) (fun _ _ _ h => h.elim)
                      | false =>
                        simp only [hbx] at h2
                        rw [opA_noBox hl hbx] at h2
                        obtain ⟨v, h3, h4⟩ := opV_fun hq hl _ h2
                        have h5 : opA P CA pm s1 o A (fun x _ _ => x = .v v ∧ putA n s1 o.dst (.v v) fun s' => denDrA P CA n pm ops fl r (LA.setIfInBounds i true) ((i, (s1.env, (o, v))) :: pn) pb s' K Kp A) (fun _ _ => False) (fun _ _ => False) := by
                          rw [opA_noBox hl hbx]
                          obtain ⟨v', h6, h7⟩ := opV_fun hq hl _ h4
                          subst h6
                          have e : (fun (u : Value) (_ : AH) => Res.v u = Res.v v' ∧ putA n s1 o.dst (.v v') fun s' => denDrA P CA n pm ops fl r (LA.setIfInBounds i true) ((i, (s1.env, (o, v'))) :: pn) pb s' K Kp A) = fun u _ => u = v' := by
                            funext u _
                            simp only [Res.v.injEq, eq_iff_iff]
                            exact ⟨fun g => g.1, fun g => ⟨g, h3⟩⟩
                          exact e ▸ h7
                        refine opQ_up (KQ := fun x => x = .v v ∧ putA n s1 o.dst (.v v) fun s' => denDrA P CA n pm ops fl r (LA.setIfInBounds i true) ((i, (s1.env, (o, v))) :: pn) pb s' K Kp A) (KQ' := _) hq rb1 h5 (fun x y hxy hb h6 => ?_) (fun _ _ _ h => h.elim)
                        obtain ⟨rfl, h6⟩ := h6
                        have hy : y = v := hxy
                        subst hy
                        refine putA_up rb1 hxy hb h6 fun s2 t2 rb2 sb2 eb2 pt2 hd => next _ pb (⟨i, β, [], fun A => opV P CA s1.env o A (fun v' _ => v' = y) (fun _ _ => False) (fun _ _ => False)⟩ :: PN) _ β s2 t2 A h rb2 (sb1.trans sb2) (pt1.comp pt2) ?_ (fun L h' g => ⟨hTC L h' fun p hp => g p (List.mem_cons_of_mem _ hp), fun _ hal => ?_⟩) hd
                        · have st := still s2 (by rw [eb2, eb1])
                          refine ⟨fun p hp => ?_, fun p hp => ?_, fun p hp hal => ?_⟩
                          · rcases List.mem_cons.1 hp with rfl | hp
                            · exact hnofl
                            · exact st.nofl p hp
                          · rcases List.mem_cons.1 hp with rfl | hp
                            · exact .inl ⟨rfl, _, _, _, List.mem_cons_self, rfl⟩
                            · rcases st.src p hp with ⟨g1, ρ, o', v', g2, g3⟩ | g
                              · exact .inl ⟨g1, ρ, o', v', List.mem_cons_of_mem _ g2, g3⟩
                              · exact .inr g
                          · rcases List.mem_cons.1 hp with rfl | hp
                            · have ol : Old β [] β s2.bx := ⟨⟨s2.bx, (List.append_nil _).symm⟩, fun _ _ => rfl⟩
                              exact ⟨ol, told_up rb2.drop ol h4⟩
                            · exact st.ok p hp hal
                        · obtain ⟨A', hsim, hS⟩ := g _ List.mem_cons_self hal
                          exact opV_up (CA := CA) (Kp := fun _ _ => False) (Kp' := fun _ _ => False) (Kd := fun _ _ => False) (Kd' := fun _ _ => False) rb1.env hsim hS (fun _ _ _ _ g => g) (fun _ _ _ _ g => g) (fun _ _ _ _ g => g)
                · exact hh.elim
            · rename_i hq
              have hq : isQ o.op = false := by simpa using hq
              split at hh
              · rename_i h1 hdf
                obtain ⟨hr1, hr2⟩ := one_ready q hiF h1
                have alD2 : ∀ p ∈ PN, aliveD ops p.i (LD.setIfInBounds i true) = true → aliveD ops p.i LA = true := fun p hpm hal => by rw [← alD p hpm]; exact alive_anti hal
                have alD3 : ∀ p ∈ PN, aliveD ops p.i (LD.setIfInBounds i true) = aliveD ops p.i (LA.setIfInBounds i true) := fun p hpm => alive_same fun k hk => by
                  rw [getD_set, getD_set, q.size, q.same k false fun g => pv.nofl p hpm k hk (q.inl k g).2]
                refine .inr ⟨fun e => (by rw [e] at hr1; cases hr1), fun j hj => ?_⟩
                by_cases hne : j = i
                · refine .inl ⟨hne, .inr ⟨hq, hdf, ?_⟩⟩
                  refine grdA_up rb hh (fun s1 t1 rb1 sb1 eb1 ev1 pt1 h2 => ?_) fun s1 t1 rb1 sb1 eb1 ev1 pt1 h2 => ?_
                  · refine exA_up rb1 h2 (fun β2 s2 t2 A2 h2' rb2 sb2 pt2 hB hd => ?_) (fun v A' h' rb' => hp v β s1 t1 A' h' rb'.drop sb1)
                    split at hd
                    · exact hd.elim
                    · rename_i hst
                      obtain ⟨hd, hre⟩ := recheck_mp hd
                      have pv2 : PIv P CA ops fl (LA.setIfInBounds i true) pn pb β2 s2.bx h2' PN := by
                        refine ⟨pv.nofl, pv.src, fun p hpm hal => ?_⟩
                        have ol : Old p.β p.bx β2 s2.bx := by
                          obtain ⟨ol0, _⟩ := pv.ok p hpm (alive_anti hal)
                          rcases pv.src p hpm with ⟨g1, _⟩ | ⟨g1, g2⟩
                          · rw [g1]
                            exact ⟨⟨s2.bx, (List.append_nil _).symm⟩, fun _ hi => by simp at hi⟩
                          · have hnst : isSt s1 o = false := by
                              cases e : isSt s1 o with
                              | false => rfl
                              | true =>
                                rw [e, Bool.true_and] at hst
                                have hst2 : anyAlive ops (LA.setIfInBounds i true) pb = false := by simpa using hst
                                have := anyAlive_mp hst2 p.i g1
                                rw [hal] at this; cases this
                            obtain ⟨l1, b1, _, b2⟩ := hB hnst
                            rw [← eb1] at ol0
                            exact ol0.step ⟨l1, b1⟩ b2
                        refine ⟨ol, told_up rb2.drop ol ?_⟩
                        rcases pv.src p hpm with ⟨g1, ρ, o', v', g2, g3⟩ | ⟨g1, g2⟩
                        · rw [g3]; exact hre _ g2 hal
                        · rw [g2]; trivial
                      refine ⟨hTC _ _ fun p hpm hal => (pv2.ok p hpm (by rw [← alD3 p hpm]; exact hal)).2, next pn pb PN TC β2 s2 t2 A2 h2' rb2 (sb1.trans sb2) (pt1.comp pt2) pv2 hTC hd⟩
                  · refine putA_up rb1 (x := .v undef) (y := undef) rfl (fun _ _ e => by cases e) h2 fun s2 t2 rb2 sb2 eb2 pt2 hd => ⟨hTC _ _ fun p hpm hal => (pv.ok p hpm (alD2 p hpm hal)).2, next pn pb PN TC β s2 t2 A h rb2 (sb1.trans sb2) (pt1.comp pt2) (still s2 (by rw [eb2, eb1])) hTC hd⟩
                · rcases hr2 j hj with h2 | h2
                  · exact absurd h2 hne
                  · exact .inr ⟨hne, branch j hj hne h2⟩
              · exact hh.elim
      · exact hh.elim
end
end Go.Dn
/- What is asked over a part of the heap is enough for the whole: code. -/
namespace Go.Dn

def AnnA.h : AnnA → Ann
  | .leaf => .leaf
  | .draw k => .draw k
  | .drawS ord _ => .drawS ord
  | .seq j a b => .seq (match j with | some J => some J.h | none => none) a.h b.h
  | .cond a b => .cond a.h b.h
  | .block a => .block a.h
  | .loop j a => .loop j.h a.h

theorem keepE_iff {e : Env} {t : Nat} : ∀ (l : List Nat), look (keepE e l) t = if t ∈ l then look e t else none
  | [] => by simp [keepE, look]
  | x :: r => by
    unfold keepE
    cases g : look e x with
    | none =>
      simp only
      rw [keepE_iff r]
      by_cases h : t = x
      · subst h; simp [g]
      · simp [h]
    | some v =>
      simp only
      rw [look_cons, keepE_iff r]
      by_cases h : x = t
      · subst h; simp [g]
      · rw [if_neg h]; simp [Ne.symm h]
theorem keepB_iff {e : Bvs} {t : Nat} : ∀ (l : List Nat), lookB (keepB e l) t = if t ∈ l then lookB e t else none
  | [] => by simp [keepB, lookB]
  | x :: r => by
    unfold keepB
    cases g : lookB e x with
    | none =>
      simp only
      rw [keepB_iff r]
      by_cases h : t = x
      · subst h; simp [g]
      · simp [h]
    | some v =>
      simp only
      rw [lookB_cons, keepB_iff r]
      by_cases h : x = t
      · subst h; simp [g]
      · rw [if_neg h]; simp [Ne.symm h]
theorem keptI_mem {e : Bvs} {i : Nat} : ∀ {l : List Nat}, i ∈ keptI e l ↔ ∃ t ∈ l, ∃ o, lookB e t = some (i, o)
  | [] => by simp [keptI]
  | x :: r => by
    unfold keptI
    cases g : lookB e x with
    | none =>
      simp only
      rw [keptI_mem]
      constructor
      · rintro ⟨t, h1, h2⟩; exact ⟨t, List.mem_cons_of_mem _ h1, h2⟩
      · rintro ⟨t, h1, o, h2⟩
        rcases List.mem_cons.1 h1 with rfl | h1
        · rw [g] at h2; cases h2
        · exact ⟨t, h1, o, h2⟩
    | some p =>
      simp only [List.mem_cons]
      rw [keptI_mem]
      constructor
      · rintro (rfl | ⟨t, h1, h2⟩)
        · exact ⟨x, .inl rfl, p.2, g⟩
        · exact ⟨t, .inr h1, h2⟩
      · rintro ⟨t, rfl | h1, o, h2⟩
        · rw [g] at h2; cases h2; exact .inl rfl
        · exact .inr ⟨t, h1, o, h2⟩
theorem keepX_iff {ids : List Nat} {i : Nat} : ∀ {l : Bxs}, lookX (keepX ids l) i = if i ∈ ids then lookX l i else none
  | [] => by simp [keepX, lookX]
  | (d, p) :: r => by
    unfold keepX
    cases g : memN d ids with
    | true =>
      simp only
      rw [lookX_cons, lookX_cons, keepX_iff]
      by_cases h : d = i
      · subst h; simp [memN_iff.1 g]
      · simp [h]
    | false =>
      simp only
      rw [lookX_cons, keepX_iff]
      by_cases h : d = i
      · subst h; simp [memN_no.1 g]
      · simp [h]
theorem keepX_sub {ids : List Nat} : ∀ {l : Bxs}, (keepX ids l).Sublist l
  | [] => .slnil
  | (d, p) :: r => by
    unfold keepX
    split
    · exact keepX_sub.cons_cons _
    · exact keepX_sub.cons _
theorem hasX_mp {bx : Bxs} : ∀ {l : List Nat}, hasX bx l = true → ∀ i ∈ l, ∃ p, lookX bx i = some p
  | [], _, _, h => by simp at h
  | x :: r, h, i, hi => by
    unfold hasX at h
    split at h
    · rename_i p g
      rcases List.mem_cons.1 hi with rfl | hi
      · exact ⟨_, g⟩
      · exact hasX_mp h i hi
    · cases h
abbrev Cl := List (Nat × (Nat × CK))
theorem memC_iff {i j : Nat} : ∀ {cl : Cl}, memC i j cl = true ↔ ∃ c ∈ cl, c.1 = i ∧ c.2.1 = j
  | [] => by simp [memC]
  | c :: r => by
    unfold memC
    cases g : Nat.beq c.1 i && Nat.beq c.2.1 j with
    | true =>
      rw [Bool.and_eq_true] at g
      simp only [true_iff]
      exact ⟨c, List.mem_cons_self, beqN.1 g.1, beqN.1 g.2⟩
    | false =>
      simp only
      rw [memC_iff]
      constructor
      · rintro ⟨x, h1, h2⟩; exact ⟨x, List.mem_cons_of_mem _ h1, h2⟩
      · rintro ⟨x, h1, h2⟩
        rcases List.mem_cons.1 h1 with rfl | h1
        · rw [beqN.2 h2.1, beqN.2 h2.2] at g; cases g
        · exact ⟨x, h1, h2⟩
theorem putCells_ids : ∀ {cl : Cl} {vs : List Value} {bx : Bxs}, (putCells bx cl vs).map (·.1) = bx.map (·.1)
  | [], _, bx => by unfold putCells; rfl
  | _ :: _, [], bx => by unfold putCells; rfl
  | c :: r, v :: vs, bx => by
    unfold putCells
    split
    · rw [putCells_ids, setX_ids]
    · exact putCells_ids
/-- Two lists of boxes that have the same boxes, of the same sizes, and the same cells where none of 'cl' is. -/
def Alike (cl : Cl) (a b : Bxs) : Prop := a.map (·.1) = b.map (·.1) ∧ ∀ i cs ty, lookX a i = some (cs, ty) → ∃ cs', lookX b i = some (cs', ty) ∧ cs'.length = cs.length ∧ ∀ j, memC i j cl = false → cs'[j]? = cs[j]?
theorem memC_tail {i j : Nat} {c : Nat × (Nat × CK)} {r : Cl} (h : memC i j (c :: r) = false) : memC i j r = false ∧ ¬(c.1 = i ∧ c.2.1 = j) := by
  constructor
  · cases q : memC i j r with
    | false => rfl
    | true =>
      obtain ⟨x, x1, x2⟩ := memC_iff.1 q
      have : memC i j (c :: r) = true := memC_iff.2 ⟨x, List.mem_cons_of_mem _ x1, x2⟩
      rw [this] at h; cases h
  · intro e
    have : memC i j (c :: r) = true := memC_iff.2 ⟨c, List.mem_cons_self, e⟩
    rw [this] at h; cases h
theorem memC_cons {i j : Nat} {c : Nat × (Nat × CK)} {r : Cl} (h : memC i j r = false) (h2 : ¬(c.1 = i ∧ c.2.1 = j)) : memC i j (c :: r) = false := by
  cases q : memC i j (c :: r) with
  | false => rfl
  | true =>
    obtain ⟨x, x1, x2⟩ := memC_iff.1 q
    rcases List.mem_cons.1 x1 with rfl | x1
    · exact absurd x2 h2
    · have : memC i j r = true := memC_iff.2 ⟨x, x1, x2⟩
      rw [this] at h; cases h
theorem look_none_ids {a b : Bxs} (h : a.map (·.1) = b.map (·.1)) (i : Nat) : lookX a i = none ↔ lookX b i = none := by rw [lookX_mem, lookX_mem, h]
theorem putCells_alike : ∀ {cl : Cl} {vs : List Value} {bx : Bxs}, Alike cl bx (putCells bx cl vs)
  | [], _, bx => by unfold putCells; exact ⟨rfl, fun i cs ty h => ⟨cs, h, rfl, fun _ _ => rfl⟩⟩
  | _ :: _, [], bx => by unfold putCells; exact ⟨rfl, fun i cs ty h => ⟨cs, h, rfl, fun _ _ => rfl⟩⟩
  | c :: r, v :: vs, bx => by
    unfold putCells
    split
    · rename_i cs0 ty0 h0
      obtain ⟨h1, h2⟩ := putCells_alike (cl := r) (vs := vs) (bx := setX bx c.1 (cs0.set c.2.1 v))
      refine ⟨by rw [← h1, setX_ids], fun i cs ty h => ?_⟩
      by_cases g : c.1 = i
      · subst g
        have h3 : lookX (setX bx c.1 (cs0.set c.2.1 v)) c.1 = some (cs0.set c.2.1 v, ty0) := by rw [lookX_setX h0, if_pos rfl]
        rw [h0] at h
        cases h
        obtain ⟨cs', h4, h5, h6⟩ := h2 _ _ _ h3
        refine ⟨cs', h4, by rw [h5]; simp, fun j hj => ?_⟩
        obtain ⟨q1, q2⟩ := memC_tail hj
        rw [h6 j q1, List.getElem?_set_ne (fun e => q2 ⟨rfl, e⟩)]
      · have h3 : lookX (setX bx c.1 (cs0.set c.2.1 v)) i = some (cs, ty) := by rw [lookX_setX h0, if_neg g]; exact h
        obtain ⟨cs', h4, h5, h6⟩ := h2 _ _ _ h3
        exact ⟨cs', h4, h5, fun j hj => h6 j (memC_tail hj).1⟩
    · obtain ⟨h1, h2⟩ := putCells_alike (cl := r) (vs := vs) (bx := bx)
      refine ⟨h1, fun i cs ty h => ?_⟩
      obtain ⟨cs', h4, h5, h6⟩ := h2 _ _ _ h
      exact ⟨cs', h4, h5, fun j hj => h6 j (memC_tail hj).1⟩
theorem lookX_ext : ∀ {a b : Bxs}, a.map (·.1) = b.map (·.1) → (a.map (·.1)).Nodup → (∀ i, lookX a i = lookX b i) → a = b
  | [], [], _, _, _ => rfl
  | [], _ :: _, h, _, _ => by simp at h
  | _ :: _, [], h, _, _ => by simp at h
  | (d, p) :: a, (e, q) :: b, h, nd, hl => by
    simp only [List.map_cons, List.cons.injEq] at h
    obtain ⟨rfl, h⟩ := h
    have h1 := hl d
    rw [lookX_cons, if_pos rfl, lookX_cons, if_pos rfl] at h1
    cases h1
    have nd2 := List.nodup_cons.1 nd
    congr 1
    refine lookX_ext h nd2.2 fun i => ?_
    by_cases g : d = i
    · subst g
      rw [lookX_mem.2 nd2.1, lookX_mem.2 (by rw [← h]; exact nd2.1)]
    · have := hl i
      rw [lookX_cons, if_neg g, lookX_cons, if_neg g] at this
      exact this
theorem putCells_over : ∀ {cl : Cl} {vs : List Value} {a b : Bxs}, Alike cl a b → cl.length = vs.length → (a.map (·.1)).Nodup → putCells a cl vs = putCells b cl vs
  | [], vs, a, b, h, _, nd => by
    unfold putCells
    refine lookX_ext h.1 nd fun i => ?_
    cases g : lookX a i with
    | none => exact ((look_none_ids h.1 i).1 g).symm
    | some p =>
      obtain ⟨cs, ty⟩ := p
      obtain ⟨cs', h1, h2, h3⟩ := h.2 i cs ty g
      rw [h1]
      have : cs' = cs := List.ext_getElem? fun j => h3 j rfl
      rw [this]
  | _ :: _, [], _, _, _, hl, _ => by simp at hl
  | c :: r, v :: vs, a, b, h, hl, nd => by
    unfold putCells
    cases g : lookX a c.1 with
    | none =>
      rw [(look_none_ids h.1 c.1).1 g]
      refine putCells_over ⟨h.1, fun i cs ty hi => ?_⟩ (by simpa using hl) nd
      obtain ⟨cs', h1, h2, h3⟩ := h.2 i cs ty hi
      exact ⟨cs', h1, h2, fun j hj => h3 j (memC_cons hj (fun e => by rw [e.1, hi] at g; cases g))⟩
    | some p =>
      obtain ⟨cs0, ty0⟩ := p
      obtain ⟨cs1, h1, h2, h3⟩ := h.2 c.1 cs0 ty0 g
      rw [h1]
      simp only
      refine putCells_over ⟨by rw [setX_ids, setX_ids]; exact h.1, fun i cs ty hi => ?_⟩ (by simpa using hl) (by rw [setX_ids]; exact nd)
      rw [lookX_setX g] at hi
      rw [lookX_setX h1]
      split at hi
      · rename_i e
        rw [if_pos e]
        simp only [Option.some.injEq, Prod.mk.injEq] at hi
        obtain ⟨rfl, rfl⟩ := hi
        refine ⟨_, rfl, by simp [h2], fun j hj => ?_⟩
        by_cases e2 : c.2.1 = j
        · subst e2
          simp only [List.getElem?_set, if_pos, h2]
        · rw [List.getElem?_set_ne e2, List.getElem?_set_ne e2]
          exact h3 j (memC_cons (by rw [e]; exact hj) (fun q => e2 q.2))
      · rename_i e
        rw [if_neg e]
        obtain ⟨cs', k1, k2, k3⟩ := h.2 i cs ty hi
        exact ⟨cs', k1, k2, fun j hj => k3 j (memC_cons hj (fun q => e q.1))⟩
theorem getCells_len {bx : Bxs} : ∀ {cl : Cl} {vs : List Value}, getCells bx cl = some vs → cl.length = vs.length
  | [], vs, h => by simp [getCells] at h; subst h; rfl
  | c :: r, vs, h => by
    unfold getCells at h
    split at h
    · rename_i cs ty l h1 h2
      split at h
      · cases h
        simp [getCells_len h2]
      · cases h
    · cases h
theorem keepX_all {ids : List Nat} : ∀ {l : Bxs}, (∀ i ∈ l.map (·.1), i ∈ ids) → keepX ids l = l
  | [], _ => rfl
  | (d, p) :: r, h => by
    unfold keepX
    rw [memN_iff.2 (h d List.mem_cons_self)]
    simp only
    rw [keepX_all fun i hi => h i (List.mem_cons_of_mem _ hi)]
theorem keepX_in {ids : List Nat} {i : Nat} {l : Bxs} (h : i ∈ (keepX ids l).map (·.1)) : i ∈ ids := by
  have : ¬ lookX (keepX ids l) i = none := fun e => lookX_mem.1 e h
  rw [keepX_iff] at this
  by_cases g : i ∈ ids
  · exact g
  · rw [if_neg g] at this; exact absurd rfl this
theorem keptI_keep {e : Bvs} {keep : List Nat} : ∀ (l : List Nat), (∀ t ∈ l, t ∈ keep) → keptI (keepB e keep) l = keptI e l
  | [], _ => rfl
  | x :: r, h => by
    unfold keptI
    rw [keepB_iff, if_pos (h x List.mem_cons_self), keptI_keep r fun t ht => h t (List.mem_cons_of_mem _ ht)]
theorem stripE_mono {l : List Nat} {ρ ρ' : Env} (h : EnvLe ρ ρ') : EnvLe (stripE l ρ) (stripE l ρ') := by
  have back : ∀ (e : Env) (x : Nat) (u : Value), look e x = some u → memN x l = false → look (stripE l e) x = some u := by
    intro e
    induction e with
    | nil => intro x u h; simp [look] at h
    | cons p e ih =>
      obtain ⟨d, w⟩ := p
      intro x u h1 h2
      rw [look_cons] at h1
      unfold stripE
      split at h1
      · rename_i g
        subst g
        rw [h2]
        simp only
        rw [look_cons, if_pos rfl]; exact h1
      · rename_i g
        split
        · exact ih x u h1 h2
        · rw [look_cons, if_neg g]; exact ih x u h1 h2
  intro x u hx
  obtain ⟨g1, g2⟩ := stripE_look _ hx
  exact back _ _ _ (h _ _ g1) g2
theorem putCells_eq {bxT : Bxs} : ∀ {cl : Cl} {vs : List Value} {bx : Bxs}, getCells bxT cl = some vs →
    (∀ i c0 ty, lookX bx i = some (c0, ty) → ∃ c1, lookX bxT i = some (c1, ty) ∧ c1.length = c0.length ∧ ∀ j, memC i j cl = false → c1[j]? = c0[j]?) →
    ∀ i p, lookX (putCells bx cl vs) i = some p → lookX bxT i = some p
  | [], vs, bx, _, h, i, p, hp => by
    unfold putCells at hp
    have hp : lookX bx i = some p := hp
    obtain ⟨c0, ty⟩ := p
    obtain ⟨c1, h1, h2, h3⟩ := h i c0 ty hp
    have : c1 = c0 := List.ext_getElem? fun j => h3 j rfl
    rw [h1, this]
  | c :: r, vs, bx, hg, h, i, p, hp => by
    unfold getCells at hg
    split at hg
    · rename_i cs ty l g1 g2
      split at hg
      · rename_i v hv
        cases hg
        unfold putCells at hp
        split at hp
        · rename_i cs0 ty0 h0
          refine putCells_eq g2 (fun k c0 ty2 hk => ?_) i p hp
          rw [lookX_setX h0] at hk
          split at hk
          · rename_i e
            subst e
            simp only [Option.some.injEq, Prod.mk.injEq] at hk
            obtain ⟨rfl, rfl⟩ := hk
            obtain ⟨c1, k1, k2, k3⟩ := h _ _ _ h0
            rw [g1] at k1
            cases k1
            refine ⟨cs, g1, by rw [k2]; simp, fun j hj => ?_⟩
            by_cases e2 : c.2.1 = j
            · subst e2
              rw [hv]
              have hlt : c.2.1 < cs0.length := by
                rw [← k2]
                exact (List.getElem?_eq_some_iff.1 hv).1
              rw [List.getElem?_set_self hlt]
            · rw [List.getElem?_set_ne e2]
              refine k3 j ?_
              cases q : memC c.1 j (c :: r) with
              | false => rfl
              | true =>
                obtain ⟨x, x1, x2, x3⟩ := memC_iff.1 q
                rcases List.mem_cons.1 x1 with rfl | x1
                · exact absurd x3 e2
                · have : memC c.1 j r = true := memC_iff.2 ⟨x, x1, x2, x3⟩
                  rw [this] at hj; cases hj
          · rename_i e
            obtain ⟨c1, k1, k2, k3⟩ := h _ _ _ hk
            refine ⟨c1, k1, k2, fun j hj => k3 j ?_⟩
            cases q : memC k j (c :: r) with
            | false => rfl
            | true =>
              obtain ⟨x, x1, x2, x3⟩ := memC_iff.1 q
              rcases List.mem_cons.1 x1 with rfl | x1
              · exact absurd x2 e
              · have : memC k j r = true := memC_iff.2 ⟨x, x1, x2, x3⟩
                rw [this] at hj; cases hj
        · rename_i h0
          refine putCells_eq g2 (fun k c0 ty2 hk => ?_) i p hp
          obtain ⟨c1, k1, k2, k3⟩ := h _ _ _ hk
          refine ⟨c1, k1, k2, fun j hj => k3 j ?_⟩
          cases q : memC k j (c :: r) with
          | false => rfl
          | true =>
            obtain ⟨x, x1, x2, x3⟩ := memC_iff.1 q
            rcases List.mem_cons.1 x1 with rfl | x1
            · rw [x2] at h0
              rw [h0] at hk; cases hk
            · have : memC k j r = true := memC_iff.2 ⟨x, x1, x2, x3⟩
              rw [this] at hj; cases hj
      · cases hg
    · cases hg
theorem lookX_in {i : Nat} {p : List Value × TypeId} : ∀ {l : Bxs}, (l.map (·.1)).Nodup → (i, p) ∈ l → lookX l i = some p
  | [], _, h => by simp at h
  | (d, q) :: r, nd, h => by
    obtain ⟨n1, n2⟩ := List.nodup_cons.1 nd
    rw [lookX_cons]
    rcases List.mem_cons.1 h with e | h
    · cases e; rw [if_pos rfl]
    · rw [if_neg (fun e => n1 (by rw [e]; exact List.mem_map.2 ⟨_, h, rfl⟩))]
      exact lookX_in n2 h
theorem lookX_in' {i : Nat} {p : List Value × TypeId} {l : Bxs} (h : lookX l i = some p) : (i, p) ∈ l := by
  obtain ⟨l1, l2, rfl, _⟩ := lookX_split h
  simp
theorem sim_sub {A : AH} {h : Hp} {E : Bx} {β : Nat → Nat} {b1 b2 : Bxs} (s : Sim A (bxL β b1 ++ E) h) (n1 : (b1.map (·.1)).Nodup) (n2 : (b2.map (·.1)).Nodup) (hs : ∀ i p, lookX b2 i = some p → lookX b1 i = some p) : Sim A (bxL β b2 ++ E) h := by
  have hmem : ∀ e ∈ b2, e ∈ b1 := fun e he => lookX_in' (hs e.1 e.2 (lookX_in n2 he))
  have hL : ∀ e ∈ bxL β b2 ++ E, e ∈ bxL β b1 ++ E := fun e he => by
    rcases List.mem_append.1 he with h1 | h1
    · obtain ⟨x, h2, rfl⟩ := List.mem_map.1 h1
      exact List.mem_append.2 (.inl (List.mem_map.2 ⟨x, hmem x h2, rfl⟩))
    · exact List.mem_append.2 (.inr h1)
  refine ⟨s.sub, fun e he => s.box e (hL e he), ?_⟩
  obtain ⟨a1, a2, a3⟩ := List.pairwise_append.1 s.apart
  refine List.pairwise_append.2 ⟨?_, a2, fun x hx y hy => ?_⟩
  · have key : ∀ (l : Bxs), (∀ e ∈ l, e ∈ b1) → (l.map (·.1)).Nodup → (bxL β l).Pairwise fun x y => x.1 ≠ y.1 := by
      intro l
      induction l with
      | nil => exact fun _ _ => List.Pairwise.nil
      | cons e l ih =>
        intro hm nd
        obtain ⟨d1, d2⟩ := List.nodup_cons.1 nd
        refine List.pairwise_cons.2 ⟨fun y hy => ?_, ih (fun x hx => hm x (List.mem_cons_of_mem _ hx)) d2⟩
        obtain ⟨z, hz, rfl⟩ := List.mem_map.1 hy
        have hne : e.1 ≠ z.1 := fun g => d1 (List.mem_map.2 ⟨z, hz, g.symm⟩)
        have he1 := hm e List.mem_cons_self
        have hz1 := hm z (List.mem_cons_of_mem _ hz)
        -- two boxes of 'b1' with different numbers
        have two : ∀ (l : Bxs), e ∈ l → z ∈ l → (bxL β l).Pairwise (fun x y => x.1 ≠ y.1) → β e.1 ≠ β z.1 := by
          intro l
          induction l with
          | nil => intro h; simp at h
          | cons w l ihl =>
            intro h1 h2 hp
            obtain ⟨p1, p2⟩ := List.pairwise_cons.1 hp
            rcases List.mem_cons.1 h1 with g1 | g1
            · rcases List.mem_cons.1 h2 with g2 | g2
              · exact absurd (by rw [g1, g2]) hne
              · rw [g1]; exact p1 _ (List.mem_map.2 ⟨z, g2, rfl⟩)
            · rcases List.mem_cons.1 h2 with g2 | g2
              · rw [g2]; exact Ne.symm (p1 _ (List.mem_map.2 ⟨e, g1, rfl⟩))
              · exact ihl g1 g2 p2
        exact two b1 he1 hz1 a1
    exact key b2 hmem n2
  · obtain ⟨z, hz, rfl⟩ := List.mem_map.1 hx
    exact a3 _ (List.mem_map.2 ⟨z, hmem z hz, rfl⟩) y hy
/- Parameters of joins, carried over. -/
def mapC {T U : Type} (f : T → U) : (l : List CK) → ArC l T → ArC l U
  | [], x => f x
  | _ :: r, g => fun x => mapC f r (g x)
def mapJ {T U : Type} (f : T → U) : (l : List (Nat × Sh)) → Arr l T → Arr l U
  | [], x => f x
  | (_, .c _) :: r, g => fun x => mapJ f r (g x)
  | (_, .agg l) :: r, g => mapC (mapJ f r) l g
theorem alK_mono {k : CK} {G G' : CKT k → Value → Prop} (h : alK k G) (hg : ∀ x v, G x v → G' x v) : alK k G' := by
  cases k <;> exact fun n => hg _ _ (h n)
theorem apK_mono2 {k : CK} {v : Value} {G G' : CKT k → Prop} (h : apK k v G) (hg : ∀ x, G x → G' x) : apK k v G' := by
  unfold apK at h ⊢
  split at h
  · exact bsel_up (hg _) id h
  all_goals first | exact hg _ h | exact h.elim
theorem alC_map {T U : Type} {f : T → U} : ∀ (l : List CK) (R : ArC l T) (G : List Value → U → Prop) (H : List Value → T → Prop), (∀ vs R, H vs R → G vs (f R)) → alC l T R H → alC l U (mapC f l R) G
  | [], _, _, _, hg, h => hg _ _ h
  | _ :: r, R, G, H, hg, h => alK_mono h fun x _ h1 => alC_map r (R x) _ _ (fun vs R h2 => hg _ R h2) h1
theorem apC_map {T U : Type} {f : T → U} : ∀ (l : List CK) (R : ArC l T) (vs : List Value) (G : U → Prop) (H : T → Prop), (∀ R, H R → G (f R)) → apC l T R vs H → apC l U (mapC f l R) vs G
  | [], _, [], _, _, hg, h => hg _ h
  | [], _, _ :: _, _, _, _, h => h.elim
  | _ :: _, _, [], _, _, _, h => h.elim
  | _ :: r, R, v :: vs, G, H, hg, h => apK_mono2 h fun x h1 => apC_map r (R x) vs G H hg h1
theorem alJ_map {T U : Type} {f : T → U} : ∀ (l : List (Nat × Sh)) (R : Arr l T) (G : Env → U → Prop) (H : Env → T → Prop), (∀ e R, H e R → G e (f R)) → alJ l T R H → alJ l U (mapJ f l R) G
  | [], _, _, _, hg, h => hg _ _ h
  | (_, .c _) :: r, R, G, H, hg, h => alK_mono h fun x _ h1 => alJ_map r (R x) _ _ (fun e R h2 => hg _ R h2) h1
  | (_, .agg l) :: r, R, G, H, hg, h => alC_map l R _ _ (fun vs R1 h1 => alJ_map r R1 _ _ (fun e R2 h2 => hg _ R2 h2) h1) h
theorem apJ_map {T U : Type} {f : T → U} {e e' : Env} (he : EnvLe e e') : ∀ (l : List (Nat × Sh)) (R : Arr l T) (G : U → Prop) (H : T → Prop), (∀ R, H R → G (f R)) → apJ l T R e H → apJ l U (mapJ f l R) e' G
  | [], _, _, _, hg, h => hg _ h
  | (t, .c k) :: r, R, G, H, hg, h => by
    unfold apJ at h ⊢
    split at h
    · rename_i v hv
      rw [he _ _ hv]
      exact apK_mono2 h fun x h1 => apJ_map he r (R x) G H hg h1
    · exact h.elim
  | (t, .agg l) :: r, R, G, H, hg, h => by
    unfold apJ at h ⊢
    split at h
    · rename_i vs hv
      rw [he _ _ hv]
      exact apC_map l R _ _ _ (fun R1 h1 => apJ_map he r R1 G H hg h1) h
    · exact h.elim
/-- The slots of a join's parameters. -/
theorem alJ_dom {T : Type} : ∀ (l : List (Nat × Sh)) (R : Arr l T) (G : Env → T → Prop), alJ l T R G → alJ l T R fun e R => (∀ t v, look e t = some v → t ∈ l.map (·.1)) ∧ G e R
  | [], _, _, h => ⟨fun t v h1 => by simp [look] at h1, h⟩
  | (s, .c _) :: r, R, G, h => alK_mono h fun x w h1 => by
    refine alJ_mono' r (R x) (alJ_dom r (R x) _ h1) fun e R2 ⟨h2, h3⟩ => ⟨fun t v h4 => ?_, h3⟩
    rw [look_cons] at h4
    split at h4
    · rename_i g; simp [g]
    · exact List.mem_cons_of_mem _ (h2 t v h4)
  | (s, .agg l) :: r, R, G, h => by
    refine alC_mono' l R h fun vs R1 h1 => ?_
    refine alJ_mono' r R1 (alJ_dom r R1 _ h1) fun e R2 ⟨h2, h3⟩ => ⟨fun t v h4 => ?_, h3⟩
    rw [look_cons] at h4
    split at h4
    · rename_i g; simp [g]
    · exact List.mem_cons_of_mem _ (h2 t v h4)
where
  alC_mono' {T : Type} : ∀ (l : List CK) (R : ArC l T) {G G' : List Value → T → Prop}, alC l T R G → (∀ vs R, G vs R → G' vs R) → alC l T R G'
    | [], _, _, _, h, hg => hg _ _ h
    | _ :: r, R, _, _, h, hg => alK_mono h fun x _ h1 => alC_mono' r (R x) h1 fun vs R h2 => hg _ R h2
  alJ_mono' {T : Type} : ∀ (l : List (Nat × Sh)) (R : Arr l T) {G G' : Env → T → Prop}, alJ l T R G → (∀ e R, G e R → G' e R) → alJ l T R G'
    | [], _, _, _, h, hg => hg _ _ h
    | (_, .c _) :: r, R, _, _, h, hg => alK_mono h fun x _ h1 => alJ_mono' r (R x) h1 fun e R h2 => hg _ R h2
    | (_, .agg l) :: r, R, _, _, h, hg => alC_mono' l R h fun vs R1 h1 => alJ_mono' r R1 h1 fun e R2 h2 => hg _ R2 h2
theorem apK_ex {M : Type} {k : CK} {v : Value} {G : M → CKT k → Prop} (h : apK k v fun x => ∃ m, G m x) : ∃ m, apK k v (G m) := by
  cases k <;> cases v <;> simp only [apK] at h ⊢ <;> first | exact h.elim | exact h | skip
  obtain ⟨h1, m, h2⟩ := bsel_true h
  exact ⟨m, bsel_iff.2 ⟨fun _ => h2, fun e => by rw [h1] at e; cases e⟩⟩
theorem apC_ex {M : Type} : ∀ (l : List CK) (T : Type) (R : ArC l T) (vs : List Value) (G : M → T → Prop), (apC l T R vs fun x => ∃ m, G m x) → ∃ m, apC l T R vs (G m)
  | [], _, _, [], _, h => h
  | [], _, _, _ :: _, _, h => h.elim
  | _ :: _, _, _, [], _, h => h.elim
  | k :: r, T, R, v :: vs, G, h => apK_ex (G := fun m x => apC r T (R x) vs (G m)) (apK_mono2 h fun x h1 => apC_ex r T (R x) vs G h1)
theorem apK_and {p : Prop} {k : CK} {v : Value} {G : CKT k → Prop} (h : apK k v fun x => p ∧ G x) : p ∧ apK k v G := by
  cases k <;> cases v <;> simp only [apK] at h ⊢ <;> first | exact h.elim | exact h | skip
  obtain ⟨h1, h2, h3⟩ := bsel_true h
  exact ⟨h2, bsel_iff.2 ⟨fun _ => h3, fun e => by rw [h1] at e; cases e⟩⟩
theorem apC_and {p : Prop} : ∀ (l : List CK) (T : Type) (R : ArC l T) (vs : List Value) (G : T → Prop), (apC l T R vs fun x => p ∧ G x) → p ∧ apC l T R vs G
  | [], _, _, [], _, h => h
  | [], _, _, _ :: _, _, h => h.elim
  | _ :: _, _, _, [], _, h => h.elim
  | k :: r, T, R, v :: vs, G, h => apK_and (G := fun x => apC r T (R x) vs G) (apK_mono2 h fun x h1 => apC_and r T (R x) vs G h1)
end Go.Dn
/- What is asked over a part of the heap is enough for the whole: all code. -/
namespace Go.Dn

section
variable {P : Program} {CA : CTA} {n : Nat} {pm : List Nat} {E : Bx} {A : AH} {h : Hp} {β : Nat → Nat} {s : SA} {t : St}
theorem disjL_mp {keep : List Nat} : ∀ {l : List (Nat × Sh)}, disjL keep l = true → ∀ t ∈ l.map (·.1), t ∉ keep
  | [], _, _, h => by simp at h
  | p :: r, hd, t, ht => by
    unfold disjL at hd
    split at hd
    · cases hd
    · rename_i g
      rcases List.mem_cons.1 ht with rfl | ht
      · exact memN_no.1 g
      · exact disjL_mp hd t ht
theorem protX_mem {cl : Cl} {i j : Nat} : ∀ {bx : Bxs} {cs : List Value} {ty : TypeId}, (i, (cs, ty)) ∈ bx → j < cs.length → memC i j cl = false → (i, j) ∈ protX cl bx
  | [], _, _, h, _, _ => by simp at h
  | (d, p) :: r, cs, ty, h, hj, hm => by
    have key : ∀ (l : List Value) (k : Nat), k ≤ j → j < k + l.length → (i, j) ∈ protC i cl l k := by
      intro l
      induction l with
      | nil => intro k h1 h2; simp at h2; omega
      | cons v l ih =>
        intro k h1 h2
        simp only [List.length_cons] at h2
        unfold protC
        by_cases e : k = j
        · subst e
          rw [hm]
          exact List.mem_cons_self
        · have := ih (k + 1) (by omega) (by omega)
          split
          · exact this
          · exact List.mem_cons_of_mem _ this
    unfold protX
    rcases List.mem_cons.1 h with e | h
    · cases e
      exact List.mem_append.2 (.inl (key _ 0 (Nat.zero_le _) (by simpa using hj)))
    · exact List.mem_append.2 (.inr (protX_mem h hj hm))
/-- What a join's parameters are told: boxes and what is there. -/
def JP (E : Bx) (β : Nat → Nat) (s : SA) (J : JoinA) (β1 : Nat → Nat) (vs : List Value) (A : AH) (h : Hp) : Prop :=
  (∀ i ∈ keptI s.bv J.keep, β1 i = β i) ∧ Sim A (bxL β1 (putCells (keepX (keptI s.bv J.keep) s.bx) J.cells vs) ++ E) h ∧ SamB s β { s with bx := putCells (keepX (keptI s.bv J.keep) s.bx) J.cells vs } β1
theorem kept_nd (r : RB E β s t A h) {ids : List Nat} {cl : Cl} {vs : List Value} : ((putCells (keepX ids s.bx) cl vs).map (·.1)).Nodup := by
  rw [putCells_ids]
  exact r.nd.sublist (keepX_sub.map _)
theorem RB.rejoin (r : RB E β s t A h) {J : JoinA} (hd : disjL J.keep J.live = true) {e : Env} (he : ∀ x v, look e x = some v → x ∈ J.live.map (·.1)) {β1 : Nat → Nat} {vs : List Value} {A1 : AH} {h1 : Hp} (hj : JP E β s J β1 vs A1 h1) :
    RB E β1 (rejoin s J e vs) ⟨e ++ keepE t.env J.keep, t.ds⟩ A1 h1 := by
  obtain ⟨j1, j2, j3⟩ := hj
  refine ⟨fun x v hx => ?_, fun x i o hx => ?_, r.ds, j2, kept_nd r⟩
  · have hx : look (e ++ keepE s.env J.keep) x = some v := hx
    show look (e ++ keepE t.env J.keep) x = some v
    rw [look_append] at hx ⊢
    cases g : look e x with
    | some w => rw [g] at hx; exact hx
    | none =>
      rw [g, Option.none_or, keepE_iff] at hx
      rw [Option.none_or, keepE_iff]
      split at hx
      · rename_i hk; rw [if_pos hk]; exact r.env _ _ hx
      · cases hx
  · have hx : lookB (keepB s.bv J.keep) x = some (i, o) := hx
    rw [keepB_iff] at hx
    split at hx
    · rename_i hk
      obtain ⟨a1, p, a2⟩ := r.bv x i o hx
      have hi : i ∈ keptI s.bv J.keep := keptI_mem.2 ⟨x, hk, o, hx⟩
      have hne : look e x = none := by
        cases g : look e x with
        | none => rfl
        | some w => exact absurd hk (disjL_mp hd x (he x w g))
      refine ⟨?_, ?_⟩
      · show look (e ++ keepE t.env J.keep) x = _
        rw [look_append, hne, Option.none_or, keepE_iff, if_pos hk, a1, j1 i hi]
      · show ∃ p, lookX (putCells (keepX (keptI s.bv J.keep) s.bx) J.cells vs) i = some p
        cases g : lookX (putCells (keepX (keptI s.bv J.keep) s.bx) J.cells vs) i with
        | some p => exact ⟨p, rfl⟩
        | none =>
          rw [lookX_mem, putCells_ids, ← lookX_mem, keepX_iff, if_pos hi, a2] at g
          cases g
    · cases hx
theorem JP.sam {J : JoinA} {β1 : Nat → Nat} {vs : List Value} {A1 : AH} {h1 : Hp} {e : Env} (hj : JP E β s J β1 vs A1 h1) : SamB s β (rejoin s J e vs) β1 := ⟨rfl, rfl, hj.2.2.kept⟩
/-- At a join: what code that was guarded leaves. -/
theorem JP.of {J : JoinA} (r : RB E β s t A h) {β1 : Nat → Nat} {s1 : SA} {t1 : St} {A1 : AH} {h1 : Hp} (r1 : RB E β1 s1 t1 A1 h1) (sb : SamB (guardS s J) β s1 β1) (hh : hasX s1.bx (keptI s.bv J.keep) = true) {vs : List Value} (hg : getCells s1.bx J.cells = some vs) :
    JP E β s J β1 vs A1 h1 := by
  have hk : ∀ i ∈ keptI s.bv J.keep, ∃ c1 ty c0, lookX s1.bx i = some (c1, ty) ∧ β1 i = β i ∧ lookX s.bx i = some (c0, ty) ∧ c1.length = c0.length ∧ ∀ j, memC i j J.cells = false → c1[j]? = c0[j]? := by
    intro i hi
    obtain ⟨⟨c1, ty⟩, hp⟩ := hasX_mp hh i hi
    obtain ⟨e1, c0, e2, e3, e4⟩ := sb.kept i (List.mem_append.2 (.inl hi)) c1 ty hp
    refine ⟨c1, ty, c0, hp, e1, e2, e3, fun j hm => ?_⟩
    rcases Nat.lt_or_ge j c0.length with g | g
    · refine e4 j (List.mem_append.2 (.inl (protX_mem (cs := c0) (ty := ty) ?_ g hm)))
      refine lookX_in' ?_
      rw [keepX_iff, if_pos hi]; exact e2
    · rw [List.getElem?_eq_none (by omega), List.getElem?_eq_none (by omega)]
  have heq : ∀ i p, lookX (putCells (keepX (keptI s.bv J.keep) s.bx) J.cells vs) i = some p → lookX s1.bx i = some p := by
    refine putCells_eq hg fun i c0 ty hl => ?_
    rw [keepX_iff] at hl
    split at hl
    · rename_i hi
      obtain ⟨c1, ty1, c2, a1, a2, a3, a4, a5⟩ := hk i hi
      rw [hl] at a3
      cases a3
      exact ⟨c1, a1, a4, a5⟩
    · cases hl
  refine ⟨fun i hi => (hk i hi).choose_spec.choose_spec.choose_spec.2.1, sim_sub r1.sim r1.nd (kept_nd r) heq, rfl, rfl, fun i hi cs ty hl => ?_⟩
  obtain ⟨e1, c0, e2, e3, e4⟩ := sb.kept i (List.mem_append.2 (.inr hi)) cs ty (heq i _ hl)
  exact ⟨e1, c0, e2, e3, fun j hj => e4 j (List.mem_append.2 (.inr hj))⟩
theorem JP.back {J : JoinA} (r : RB E β s t A h) {β1 β2 : Nat → Nat} {vs vs2 : List Value} {e : Env} {A1 A2 : AH} {h1 h2 : Hp} (hj : JP E β s J β1 vs A1 h1) (hl : J.cells.length = vs2.length) (hj2 : JP E β1 (rejoin s J e vs) J β2 vs2 A2 h2) : JP E β s J β2 vs2 A2 h2 := by
  have hk : keptI (rejoin s J e vs).bv J.keep = keptI s.bv J.keep := keptI_keep _ fun _ ht => ht
  have hx : putCells (keepX (keptI (rejoin s J e vs).bv J.keep) (rejoin s J e vs).bx) J.cells vs2 = putCells (keepX (keptI s.bv J.keep) s.bx) J.cells vs2 := by
    rw [hk]
    have : keepX (keptI s.bv J.keep) (rejoin s J e vs).bx = (rejoin s J e vs).bx := keepX_all fun i hi => by
      have hi : i ∈ (putCells (keepX (keptI s.bv J.keep) s.bx) J.cells vs).map (·.1) := hi
      rw [putCells_ids] at hi
      exact keepX_in hi
    rw [this]
    exact (putCells_over putCells_alike hl (r.nd.sublist (keepX_sub.map _))).symm
  obtain ⟨a1, a2, a3⟩ := hj2
  rw [hx] at a2 a3
  rw [hk] at a1
  exact ⟨fun i hi => (a1 i hi).trans (hj.1 i hi), a2, (hj.sam (e := e)).trans ⟨a3.pi, a3.pr, a3.kept⟩⟩
theorem SamB.back {J : JoinA} {β1 : Nat → Nat} {s1 : SA} (sb : SamB (guardS s J) β s1 β1) : SamB s β (backS s s1) β1 := by
  refine ⟨rfl, rfl, fun i hi cs ty hl => ?_⟩
  obtain ⟨e1, c0, e2, e3, e4⟩ := sb.kept i (List.mem_append.2 (.inr hi)) cs ty hl
  exact ⟨e1, c0, e2, e3, fun j hj => e4 j (List.mem_append.2 (.inr hj))⟩
theorem RB.back {β1 : Nat → Nat} {s1 : SA} {t1 : St} {A1 : AH} {h1 : Hp} (r1 : RB E β1 s1 t1 A1 h1) : RB E β1 (backS s s1) t1 A1 h1 := ⟨r1.env, r1.bv, r1.ds, r1.sim, r1.nd⟩
theorem RB.gd {J : JoinA} (r : RB E β s t A h) : RB E β (guardS s J) t A h := ⟨r.env, r.bv, r.ds, r.sim, r.nd⟩
theorem flAll_mp {ops : List Oper} {ord : List Nat} : ∀ {fl : List Nat}, flAll P n ops ord s fl = true → ∀ j ∈ fl, flOne P n ops ord s j = true
  | [], _, _, h => by simp at h
  | x :: r, hf, j, hj => by
    unfold flAll at hf
    rw [Bool.and_eq_true] at hf
    rcases List.mem_cons.1 hj with rfl | hj
    · exact hf.1
    · exact flAll_mp hf.2 j hj
theorem dstOnce_mp {d j : Nat} : ∀ {ops : List Oper} {k : Nat}, dstOnce d j ops k = true → ∀ (i : Nat) (o : Oper), ops[i]? = some o → k + i ≠ j → o.dst ≠ some d
  | [], _, _, _, _, h, _ => by simp at h
  | o0 :: r, k, hd, i, o, ho, hne => by
    unfold dstOnce at hd
    cases i with
    | zero =>
      simp at ho
      subst ho
      intro e
      rw [e] at hd
      simp only at hd
      rw [beqN.2 rfl, beqF.2 (by simpa using hne)] at hd
      cases hd
    | succ i =>
      have ho : r[i]? = some o := by simpa using ho
      have h2 : dstOnce d j r (k + 1) = true := by
        split at hd
        · split at hd
          · cases hd
          · exact hd
        · exact hd
      exact dstOnce_mp h2 i o ho (by omega)
theorem nodupN_mp : ∀ {l : List Nat}, nodupN l = true → l.Nodup
  | [], _ => List.nodup_nil
  | x :: r, h => by
    unfold nodupN at h
    rw [Bool.and_eq_true] at h
    refine List.nodup_cons.2 ⟨?_, nodupN_mp h.2⟩
    have := h.1
    simp only [Bool.not_eq_true'] at this
    exact memN_no.1 this
theorem boundN_mp {m : Nat} : ∀ {l : List Nat}, boundN m l = true → ∀ x ∈ l, x < m
  | [], _, _, h => by simp at h
  | y :: r, h, x, hx => by
    unfold boundN at h
    rw [Bool.and_eq_true] at h
    rcases List.mem_cons.1 hx with rfl | hx
    · exact Nat.le_of_ble_eq_true h.1
    · exact boundN_mp h.2 x hx
theorem FI.start {ops : List Oper} {ord fl : List Nat} (h1 : nodupN ord = true) (h2 : boundN ops.length ord = true) (h3 : flAll P n ops ord s fl = true) :
    FI P n pm ops fl (Array.replicate ops.length false) (Array.replicate ops.length false) ord [] s t := by
  have un0 : ∀ j ∈ ord, (Array.replicate ops.length false).getD j true = false := fun j hj => by
    have := boundN_mp h2 j hj
    simp [this]
  have one : ∀ j ∈ fl, ∃ o d, ops[j]? = some o ∧ isFl P n o = some d ∧ (look s.env d = none ∧ lookB s.bv d = none) ∧ memN j ord = true ∧ ∀ k ok, ops[k]? = some ok → k ≠ j → ok.dst ≠ some d := by
    intro j hj
    have := flAll_mp h3 j hj
    unfold flOne at this
    split at this
    · rename_i o ho
      split at this
      · rename_i d hd
        split at this
        · rename_i e1 e2
          rw [Bool.and_eq_true] at this
          exact ⟨o, d, ho, hd, ⟨e1, e2⟩, this.2, fun k ok hk hne => dstOnce_mp this.1 k ok hk (by omega)⟩
        · cases this
      · cases this
    · cases this
  refine ⟨fun _ _ _ => rfl, (by simp [idx]), rfl, (by simp [idx]), (by simp [idx]), nodupN_mp h1, fun j hj _ => ?_, un0, fun j hj => ?_, fun j hj _ o d ho hd => ?_, (by simp)⟩
  · obtain ⟨_, _, _, _, _, g, _⟩ := one j hj
    exact memN_iff.1 g
  · obtain ⟨o, d, g1, g2, _, g3, g4⟩ := one j hj
    exact ⟨o, d, g1, g2, trivial, g4⟩
  · obtain ⟨o', d', g1, g2, g3, _, _⟩ := one j hj
    rw [ho] at g1
    cases g1
    rw [hd] at g2
    cases g2
    exact g3
theorem denA_up : ∀ (c : Code) (ann : AnnA) (K : Ex → SA → AP) (K' : Ex → St → HP) (β : Nat → Nat) (s : SA) (t : St) (A : AH) (h : Hp), RB E β s t A h → denA P CA n pm ann c K s A →
    (∀ e β' s' t' A' h', RB E β' s' t' A' h' → SamB s β s' β' → K e s' A' → K' e t' h') → den P (upC CA) n ann.h c K' t h
  | .skip, ann, K, K', β, s, t, A, h, r, hh, hk => by
    rcases ann with _ | k | ⟨od, fl⟩ | ⟨_ | J, a1, b1⟩ | ⟨a1, b1⟩ | a1 | ⟨J, a1⟩ <;> first | exact hk _ β s t A h r (SamB.refl _ _) hh | exact hh.elim
  | .label _, ann, K, K', β, s, t, A, h, r, hh, hk => by
    rcases ann with _ | k | ⟨od, fl⟩ | ⟨_ | J, a1, b1⟩ | ⟨a1, b1⟩ | a1 | ⟨J, a1⟩ <;> first | exact hk _ β s t A h r (SamB.refl _ _) hh | exact hh.elim
  | .ret, ann, K, K', β, s, t, A, h, r, hh, hk => by
    rcases ann with _ | k | ⟨od, fl⟩ | ⟨_ | J, a1, b1⟩ | ⟨a1, b1⟩ | a1 | ⟨J, a1⟩ <;> first | exact hk _ β s t A h r (SamB.refl _ _) hh | exact hh.elim
  | .exit id, ann, K, K', β, s, t, A, h, r, hh, hk => by
    rcases ann with _ | k | ⟨od, fl⟩ | ⟨_ | J, a1, b1⟩ | ⟨a1, b1⟩ | a1 | ⟨J, a1⟩ <;> first | exact hk _ β s t A h r (SamB.refl _ _) hh | exact hh.elim
  | .region id ops draw, ann, K, K', β, s, t, A, h, r, hh, hk => by
    cases draw with
    | false =>
      rcases ann with _ | k | ⟨od, fl⟩ | ⟨_ | J, a1, b1⟩ | ⟨a1, b1⟩ | a1 | ⟨J, a1⟩ <;> first | exact hh.elim | skip
      unfold denA at hh
      unfold AnnA.h den
      exact denOpsA_up _ β s t A h r hh (hk .normal) fun v => hk (.panic v)
    | true =>
      cases ann with
      | draw k =>
        unfold denA at hh
        unfold AnnA.h den
        split at hh
        · rename_i e1
          rw [e1]
          simp only
          split at hh
          · rename_i e2
            rw [e2]
            exact denStA_up _ s t r hh fun s' t' r' sb => hk .normal β s' t' A h r' sb
          · exact hh.elim
        · rename_i e1
          rw [e1]
          simp only
          split at hh
          · rename_i e2
            rw [e2]
            exact denStA_up _ s t r hh fun s' t' r' sb hd => denOpsA_up _ β s' t' A h r' hd (fun β2 s2 t2 A2 h2 r2 sb2 => hk .normal β2 s2 t2 A2 h2 r2 (sb.trans sb2)) fun v β2 s2 t2 A2 h2 r2 sb2 => hk (.panic v) β2 s2 t2 A2 h2 r2 (sb.trans sb2)
          · exact hh.elim
      | drawS ord fl =>
        unfold denA at hh
        unfold AnnA.h den
        split at hh
        · rename_i hc
          rw [Bool.and_eq_true, Bool.and_eq_true, Bool.and_eq_true, Bool.and_eq_true] at hc
          obtain ⟨⟨c1, c2, c3, c4⟩, c5⟩ := hc
          rw [c1]
          have hlen := beqN.1 c2
          have q : FI P n pm ops.toList fl (Array.replicate ops.toList.length false) (Array.replicate ops.toList.length false) ord [] s t := FI.start c3 c4 c5
          have r0 : RB (EF [] ++ E) β s t A h := r
          have := denDrA_up (K' := K' .normal) (Kp' := fun v h => K' (.panic v) ⟨stripE (ops.toList.flatMap opDst) t.env, t.ds⟩ h) (ops.toList.length + ord.length) ops.toList.length ord _ _ [] [] [] (fun _ _ => True) [] β s t A h (Nat.le_refl _) (by simp [hlen]) q r0 ⟨fun _ hp => (by simp at hp), fun _ hp => (by simp at hp), fun _ hp => (by simp at hp)⟩ (fun _ _ _ => trivial) hh
            (hk .normal) (fun v β2 s2 t2 A2 h2 r2 sb2 hp => ?_)
          · have hn : notF [] ord = ord := by unfold notF; simp [idx]
            rw [hn] at this
            exact this
          · refine hk (.panic v) β2 { s2 with env := stripE (ops.toList.flatMap opDst) s.env, bv := [], ds := s.ds } ⟨stripE (ops.toList.flatMap opDst) t.env, t.ds⟩ A2 h2 ⟨fun x u hx => ?_, fun x i o hx => by simp [lookB] at hx, ?_, r2.sim, r2.nd⟩ ⟨sb2.pi, sb2.pr, sb2.kept⟩ hp
            · exact stripE_mono r.env x u hx
            · exact r.ds
        · exact hh.elim
      | seq j a b => cases j <;> exact hh.elim
      | _ => exact hh.elim
  | .seq x y, ann, K, K', β, s, t, A, h, r, hh, hk => by
    cases ann with
    | seq j a b =>
      cases j with
      | none =>
        unfold denA at hh
        unfold AnnA.h den
        refine denA_up x a _ _ β s t A h r hh fun e β' s' t' A' h' r' sb hke => ?_
        cases e with
        | normal => exact denA_up y b K K' β' s' t' A' h' r' hke fun e2 β2 s2 t2 A2 h2 r2 sb2 => hk e2 β2 s2 t2 A2 h2 r2 (sb.trans sb2)
        | ret => exact hk _ β' s' t' A' h' r' sb hke
        | exit id => exact hk _ β' s' t' A' h' r' sb hke
        | panic v => exact hk _ β' s' t' A' h' r' sb hke
      | some J =>
        unfold denA at hh
        unfold AnnA.h den
        split at hh
        · rename_i hok
          unfold okJA at hok
          rw [Bool.and_eq_true] at hok
          rw [hok.1]
          simp only
          obtain ⟨R, h1, h2⟩ := hh
          have h1 := alJ_dom _ _ _ h1
          refine ⟨mapJ (fun (R1 : ArC (cksOf J.cells) AP) (h1 : Hp) => ∃ β1 vs A1, JP E β s J β1 vs A1 h1 ∧ apC (cksOf J.cells) AP R1 vs fun R2 => R2 A1) J.live R, ?_, ?_⟩
          · refine alJ_map _ _ _ _ (fun e R1 ⟨hdom, hb⟩ h' ⟨β1, vs, A1, hj, ha⟩ => ?_) h1
            obtain ⟨R2, g1, g2⟩ := apC_mp _ _ _ _ _ _ ha hb
            exact denA_up y b K K' β1 (rejoin s J e vs) _ A1 h' (r.rejoin hok.2 hdom hj) (g1 A1 g2) fun e2 β2 s2 t2 A2 h2 r2 sb2 => hk e2 β2 s2 t2 A2 h2 r2 (hj.sam.trans sb2)
          · refine denA_up x a _ _ β (guardS s J) t A h r.gd h2 fun e β' s' t' A' h' r' sb hke => ?_
            cases e with
            | normal =>
              refine apJ_map r'.env _ _ _ _ (fun R1 hR => ?_) hke
              unfold apX at hR
              split at hR
              · rename_i vs g1 g2
                exact ⟨β', vs, A', JP.of r r' sb g1 g2, hR⟩
              · exact hR.elim
            | ret => exact hk _ β' _ t' A' h' r'.back sb.back hke
            | exit id => exact hk _ β' _ t' A' h' r'.back sb.back hke
            | panic v => exact hk _ β' _ t' A' h' r'.back sb.back hke
        · exact hh.elim
    | _ => exact hh.elim
  | .cond c x y, ann, K, K', β, s, t, A, h, r, hh, hk => by
    cases ann with
    | cond a b =>
      unfold denA at hh
      unfold AnnA.h den
      refine wV_up r.env (fun v h1 => ?_) hh
      split at h1
      · exact bsel_up (fun q => denA_up x a K K' β s t A h r q hk) (fun q => denA_up y b K K' β s t A h r q hk) h1
      · exact h1.elim
    | seq j a b => cases j <;> exact hh.elim
    | _ => exact hh.elim
  | .block id x, ann, K, K', β, s, t, A, h, r, hh, hk => by
    cases ann with
    | block a =>
      unfold denA at hh
      unfold AnnA.h den
      refine denA_up x a _ _ β s t A h r hh fun e β' s' t' A' h' r' sb hke => ?_
      cases e with
      | normal => exact hk _ β' s' t' A' h' r' sb hke
      | ret => exact hk _ β' s' t' A' h' r' sb hke
      | panic v => exact hk _ β' s' t' A' h' r' sb hke
      | exit id' =>
        simp only at hke ⊢
        cases g : Nat.beq id' id with
        | true => rw [g] at hke; exact hk _ β' s' t' A' h' r' sb hke
        | false => rw [g] at hke; exact hk _ β' s' t' A' h' r' sb hke
    | seq j a b => cases j <;> exact hh.elim
    | _ => exact hh.elim
  | .loop x, ann, K, K', β, s, t, A, h, r, hh, hk => by
    cases ann with
    | loop J a =>
      unfold denA at hh
      unfold AnnA.h den
      split at hh
      · rename_i hok
        unfold okJA at hok
        rw [Bool.and_eq_true] at hok
        rw [hok.1]
        simp only
        obtain ⟨I, h1, h2⟩ := hh
        have h2 := alJ_dom _ _ _ h2
        refine ⟨mapJ (fun (I1 : ArC (cksOf J.cells) (Nat → AP)) (m : Nat) (h1 : Hp) => ∃ β1 vs A1, JP E β s J β1 vs A1 h1 ∧ apC (cksOf J.cells) (Nat → AP) I1 vs fun I2 => I2 m A1) J.live I, ?_, ?_⟩
        · refine apJ_map r.env _ _ _ _ (fun I1 hI => ?_) h1
          unfold apX at hI
          split at hI
          · rename_i vs g1 g2
            obtain ⟨m, hm⟩ := apC_ex (cksOf J.cells) (Nat → AP) I1 vs (fun m (I2 : Nat → AP) => I2 m A) hI
            have r2 : RB E β (guardS s J) t A h := r.gd
            exact ⟨m, β, vs, A, JP.of r r2 (SamB.refl _ _) g1 g2, hm⟩
          · exact hI.elim
        · refine alJ_map _ _ _ _ (fun e I1 ⟨hdom, hb⟩ m h' ⟨β1, vs, A1, hj, ha⟩ => ?_) h2
          obtain ⟨I2, g1, g2⟩ := apC_mp _ _ _ _ _ _ ha hb
          have r1 := r.rejoin hok.2 hdom hj
          refine denA_up x a _ _ β1 (guardS (rejoin s J e vs) J) _ A1 h' r1.gd (g1 m A1 g2) fun e2 β' s' t' A' h2 r' sb hke => ?_
          cases e2 with
          | normal =>
            refine apJ_map r'.env _ _ _ _ (fun I3 hI => ?_) hke
            unfold apX at hI
            split at hI
            · rename_i vs2 g3 g4
              obtain ⟨m', hm⟩ := apC_ex (cksOf J.cells) (Nat → AP) I3 vs2 (fun m' (I2 : Nat → AP) => m' < m ∧ I2 m' A') hI
              obtain ⟨hlt, hm⟩ := apC_and (cksOf J.cells) (Nat → AP) I3 vs2 _ hm
              have hj2 := JP.of r1 r' sb (by rw [show keptI (rejoin s J e vs).bv J.keep = keptI s.bv J.keep from keptI_keep _ fun _ ht => ht]; exact g3) g4
              exact ⟨m', hlt, β', vs2, A', JP.back r hj (getCells_len g4) hj2, hm⟩
            · exact hI.elim
          | ret => exact hk _ β' _ t' A' h2 r'.back (hj.sam.trans sb.back) hke
          | exit id => exact hk _ β' _ t' A' h2 r'.back (hj.sam.trans sb.back) hke
          | panic v => exact hk _ β' _ t' A' h2 r'.back (hj.sam.trans sb.back) hke
      · exact hh.elim
    | seq j a b => cases j <;> exact hh.elim
    | _ => exact hh.elim
  | .scope x, ann, K, K', β, s, t, A, h, r, hh, hk => by
    rcases ann with _ | k | ⟨od, fl⟩ | ⟨_ | J, a1, b1⟩ | ⟨a1, b1⟩ | a1 | ⟨J, a1⟩ <;> exact hh.elim
  | .goto l, ann, K, K', β, s, t, A, h, r, hh, hk => by
    rcases ann with _ | k | ⟨od, fl⟩ | ⟨_ | J, a1, b1⟩ | ⟨a1, b1⟩ | a1 | ⟨J, a1⟩ <;> exact hh.elim
  | .rangeFunc f ps a b, ann, K, K', β, s, t, A, h, r, hh, hk => by
    rcases ann with _ | k | ⟨od, fl⟩ | ⟨_ | J, a1, b1⟩ | ⟨a1, b1⟩ | a1 | ⟨J, a1⟩ <;> exact hh.elim
  | .refuse w, ann, K, K', β, s, t, A, h, r, hh, hk => by
    rcases ann with _ | k | ⟨od, fl⟩ | ⟨_ | J, a1, b1⟩ | ⟨a1, b1⟩ | a1 | ⟨J, a1⟩ <;> exact hh.elim
end
end Go.Dn
/- Functions. -/
namespace Go.Dn

def rdRes (P : Program) : List ResultVar → Env → Hp → (List Value → Prop) → Prop
  | [], _, _, K => K []
  | .tmp t :: r, e, h, K => match look e t with
    | some v => rdRes P r e h fun vs => K (v :: vs)
    | none => False
  | .cell a t :: r, e, h, K => match look e a with
    | some va => asAd va fun ad => ldD P t ad h fun v => rdRes P r e h fun vs => K (v :: vs)
    | none => False
def packV : List Value → Value
  | [v] => v
  | l => .tuple l.toArray
def argE : Nat → List Value → Env
  | _, [] => []
  | i, v :: r => (i, v) :: argE (i + 1) r
def endF (P : Program) (fn : Func) (K Kp : Value → HP) : Ex → St → HP
  | .normal, ⟨e, []⟩, h => rdRes P fn.results.toList e h fun vs => K (packV vs) h
  | .ret, ⟨e, []⟩, h => rdRes P fn.results.toList e h fun vs => K (packV vs) h
  | .panic v, ⟨_, []⟩, h => Kp v h
  | _, _, _ => False
def bodyOf (fn : Func) : Code := match fn.body with | some c => c | none => .skip
def denFn (P : Program) (C : CT) (fn : Func) (ann : Ann) (args : List Value) (K Kp : Value → HP) (h : Hp) : Prop :=
  den P C fn.ntmps ann (bodyOf fn) (endF P fn K Kp) ⟨argE 0 args, []⟩ h

/-- What a call is asked for. -/
def callQ (K Kp : Value → HP) (w : World) : Ending → World → Prop := fun e w' => Kin false w w' ∧ match e with
  | .returned v => K v w'.heap
  | .panicked ch => ∃ v, ch = [{ v, recovered := false }] ∧ Kp v w'.heap
  | .outgrown => False
abbrev EnT := List Value → (Value → HP) → (Value → HP) → HP
structure EntryOK (P : Program) (f : FuncId) (E : EnT) : Prop where
  enter : ∀ (as : Array Value) (w : World), (callFunc f as).run P w = .ok (.enter f as) w
  call : ∀ args K Kp w, E args K Kp w.heap → Calls P f args.toArray w (callQ K Kp w)
def tab : List (FuncId × EnT) → CT
  | [], _, _, _, _, _ => False
  | (f, E) :: r, g, args, K, Kp, h => match Nat.beq f g with
    | true => E args K Kp h
    | false => tab r g args K Kp h

section
variable {P : Program} {C : CT}
theorem Calling.nil : Calling P (tab []) := ⟨fun _ _ _ _ _ h => h.elim, fun _ _ _ _ _ h => h.elim⟩
theorem Calling.cons {f : FuncId} {E : EnT} {r : List (FuncId × EnT)} (he : EntryOK P f E) (hr : Calling P (tab r)) : Calling P (tab ((f, E) :: r)) := by
  constructor
  · intro g args K Kp h hh as w
    unfold tab at hh
    split at hh
    · rename_i hb
      rw [← Nat.eq_of_beq_eq_true hb]
      exact he.enter as w
    · exact hr.enters g args K Kp h hh as w
  · intro g args K Kp w hh
    unfold tab at hh
    split at hh
    · rename_i hb
      rw [← Nat.eq_of_beq_eq_true hb]
      exact he.call args K Kp w hh
    · exact hr.calls g args K Kp w hh
def res1 (a : Act) (x : ResultVar) : Sem Value := match x with
  | .tmp t => pure (a.tmps.getD t undef)
  | .cell c t => do loadVar t (← asAddr (a.tmps.getD c undef))
theorem rdRes_ok {w : World} {n : Nat} {s : St} {a : Act} (hr : Rel n s a) : ∀ (l : List ResultVar) (K : List Value → Prop), rdRes P l s.env w.heap K →
    ∃ vs, K vs ∧ (l.mapM (res1 a)).run P w = .ok vs w
  | [], K, h => ⟨[], h, by simp⟩
  | .tmp t :: r, K, h => by
    unfold rdRes at h
    split at h
    · rename_i v hv
      obtain ⟨vs, hk, hrun⟩ := rdRes_ok hr r _ h
      refine ⟨v :: vs, hk, ?_⟩
      have := hr.env t v hv
      rw [List.mapM_cons]
      simp only [res1, Sem.run_bind, Sem.run_pure, Result.andThen_ok, hrun, this]
    · exact h.elim
  | .cell c t :: r, K, h => by
    unfold rdRes at h
    split at h
    · rename_i v hv
      obtain ⟨ad, rfl, h0⟩ := asAd_mp h
      have hl : semH P true (loadVar t ad) (fun v h' => h' = w.heap ∧ rdRes P r s.env w.heap fun vs => K (v :: vs)) w.heap := ldD_ok (by simpa only [true_and] using h0)
      obtain ⟨u, w', hrun, ⟨hh, hk⟩, hkin⟩ := hl w rfl
      have hw := hkin.same hh
      subst hw
      obtain ⟨vs, hk, hrun'⟩ := rdRes_ok hr r _ hk
      refine ⟨u :: vs, hk, ?_⟩
      have := hr.env c _ hv
      rw [List.mapM_cons]
      simp only [res1, Sem.run_bind, Sem.run_pure, Result.andThen_ok, this, asAddr, hrun, hrun']
    · exact h.elim
theorem results_ok {w : World} {n : Nat} {s : St} {a : Act} (hr : Rel n s a) (fn : Func) (K : Value → HP) (h : rdRes P fn.results.toList s.env w.heap fun vs => K (packV vs) w.heap) :
    ∃ v, (results fn a.tmps).run P w = .ok v w ∧ K v w.heap := by
  obtain ⟨vs, hk, hrun⟩ := rdRes_ok hr _ _ h
  refine ⟨packV vs, ?_, hk⟩
  unfold results
  rw [Array.mapM_eq_mapM_toList]
  simp only [Sem.run_bind, Sem.run_map]
  have hm : ∀ g : ResultVar → Sem Value, (∀ x, g x = res1 a x) → (List.mapM g fn.results.toList).run P w = .ok vs w := fun g hg => by rw [show g = res1 a from funext hg]; exact hrun
  rw [hm _ (fun x => by cases x <;> rfl)]
  simp only [Result.andThen_ok, Sem.run_pure]
  congr 1
  match vs with
  | [] => rfl
  | [v] => rfl
  | v :: u :: r => simp [packV]
theorem look_argE : ∀ (l : List Value) (i t : Nat) (v : Value), look (argE i l) t = some v → i ≤ t ∧ l[t - i]? = some v
  | [], i, t, v, h => by simp [argE, look] at h
  | x :: r, i, t, v, h => by
    simp only [argE, look_cons] at h
    split at h
    · rename_i e
      subst e
      exact ⟨Nat.le_refl _, by simpa using h⟩
    · obtain ⟨h1, h2⟩ := look_argE r (i + 1) t v h
      refine ⟨by omega, ?_⟩
      rw [show t - i = t - (i + 1) + 1 by omega]
      simpa using h2
theorem Rel.start {args : List Value} {n : Nat} (hn : args.length ≤ n) : Rel n ⟨argE 0 args, []⟩ { tmps := args.toArray ++ Array.replicate (n - args.toArray.size) undef, defers := [] } := by
  refine ⟨by simp; omega, fun t v h => ?_, rfl⟩
  obtain ⟨_, h⟩ := look_argE _ _ _ _ h
  simp only [Nat.sub_zero] at h
  have : t < args.length := by
    rcases Nat.lt_or_ge t args.length with h' | h'
    · exact h'
    · rw [List.getElem?_eq_none h'] at h; cases h
  rw [Array.getD_eq_getD_getElem?, Array.getElem?_append_left (by simpa using this)]
  simp [h]
theorem calls_of_den (hm : P.follows .mixedOrders = true) (hC : Calling P C) {f : FuncId} {fn : Func} {ann : Ann} {args : List Value} {K Kp : Value → HP} {w : World}
    (hf : P.funcs[f]? = some fn) (hb : fn.body.isSome = true) (hn : Nat.ble args.length fn.ntmps = true) (h : denFn P C fn ann args K Kp w.heap) : Calls P f args.toArray w (callQ K Kp w) := by
  obtain ⟨c, hc⟩ := Option.isSome_iff_exists.1 hb
  have hbody : bodyOf fn = c := by simp [bodyOf, hc]
  unfold denFn at h
  rw [hbody] at h
  have hr := Rel.start (Nat.le_of_ble_eq_true hn)
  refine calls_of_wp hf hc (wp_mono (den_sound hm hC c ann _ _ _ w hr h) fun e a' w' hp => ?_)
  cases e with
  | normal =>
    obtain ⟨s', h1, h2, h3, h4⟩ := hp
    obtain ⟨e', ds⟩ := s'
    cases ds with
    | nil =>
      obtain ⟨v, hv, hk⟩ := results_ok h1 fn K h2
      exact ⟨h1.ds, v, hv, h3, hk⟩
    | cons d ds => exact h2.elim
  | ret =>
    obtain ⟨s', h1, h2, h3, h4⟩ := hp
    obtain ⟨e', ds⟩ := s'
    cases ds with
    | nil =>
      obtain ⟨v, hv, hk⟩ := results_ok h1 fn K h2
      exact ⟨h1.ds, v, hv, h3, hk⟩
    | cons d ds => exact h2.elim
  | panic ch =>
    obtain ⟨v, s', rfl, h1, h2, h3, h4⟩ := hp
    obtain ⟨e', ds⟩ := s'
    cases ds with
    | nil => exact ⟨h1.ds, h3, v, rfl, h2⟩
    | cons d ds => exact h2.elim
  | exit id =>
    obtain ⟨s', h1, h2, h3, h4⟩ := hp
    obtain ⟨e', ds⟩ := s'
    cases ds <;> exact h2.elim
  | goto l => exact hp.elim
  | outgrown => exact hp.elim
end
attribute [irreducible] denFn

/-- Arguments, taken apart. -/
def dI (k : IntKind) (v : Value) (K : Int → Prop) : Prop := match v with | .int k' n => bsel (kEq k k') (K n) False | _ => False
def dB (v : Value) (K : Bool → Prop) : Prop := match v with | .bool b => K b | _ => False
def dP (v : Value) (K : Option Addr → Prop) : Prop := match v with | .pointer p => K p | _ => False
def dS (v : Value) (K : Sl → Prop) : Prop := match v with | .slice a l c => K ⟨a, l, c⟩ | _ => False
def dM (v : Value) (K : Option Nat → Prop) : Prop := match v with | .map m => K m | _ => False
def dV (v : Value) (K : Value → Prop) : Prop := K v
def dA (v : Value) (K : List Value → Prop) : Prop := match v with | .agg cs => K cs.toList | _ => False
theorem dI_mp {k : IntKind} {v : Value} {K : Int → Prop} (h : dI k v K) : ∃ n, v = .int k n ∧ K n := by
  cases v <;> simp only [dI] at h <;> first | exact h.elim | skip
  obtain ⟨h1, h2⟩ := bsel_true h
  have h1 := kEq_mp h1
  subst h1
  exact ⟨_, rfl, h2⟩
theorem dB_mp {v : Value} {K : Bool → Prop} (h : dB v K) : ∃ n, v = .bool n ∧ K n := by
  cases v <;> simp only [dB] at h <;> first | exact h.elim | exact ⟨_, rfl, h⟩
theorem dP_mp {v : Value} {K : Option Addr → Prop} (h : dP v K) : ∃ n, v = .pointer n ∧ K n := by
  cases v <;> simp only [dP] at h <;> first | exact h.elim | exact ⟨_, rfl, h⟩
theorem dS_mp {v : Value} {K : Sl → Prop} (h : dS v K) : ∃ n : Sl, v = .slice n.a n.len n.cap ∧ K n := by
  cases v <;> simp only [dS] at h <;> first | exact h.elim | exact ⟨⟨_, _, _⟩, rfl, h⟩
theorem dM_mp {v : Value} {K : Option Nat → Prop} (h : dM v K) : ∃ n, v = .map n ∧ K n := by
  cases v <;> simp only [dM] at h <;> first | exact h.elim | exact ⟨_, rfl, h⟩
theorem dV_mp {v : Value} {K : Value → Prop} (h : dV v K) : ∃ n, v = n ∧ K n := ⟨v, rfl, h⟩
theorem dA_mp {v : Value} {K : List Value → Prop} (h : dA v K) : ∃ l : List Value, v = .agg l.toArray ∧ K l := by
  cases v <;> simp only [dA] at h <;> first | exact h.elim | exact ⟨_, rfl, h⟩

end Go.Dn
/- Deferred calls that may recover. -/
namespace Go.Dn

/-- The body of a deferred function: a region that begins with 'recover()', and what stands behind it. 'rv': what recover hands back. -/
def denDf (P : Program) (C : CT) (fn : Func) (ann : Ann) (args : List Value) (rv : Value) (K : HP) (h : Hp) : Prop :=
  match bodyOf fn with
  | .seq (.region _ ops false) y => match ops.toList with
    | o :: r => match o.guard, o.op, fn.results.toList with
      | none, .call { callee := .builtin .recover, args := _, argTypes := _ }, [] =>
        putD fn.ntmps ⟨argE 0 args, []⟩ o.dst rv fun s => denOps P C fn.ntmps (o :: r) r s (fun s h => den P C fn.ntmps ann y (fun e s h => match e, s.ds with
          | .normal, [] => K h
          | .ret, [] => K h
          | _, _ => False) s h) (fun _ _ _ => False) h
      | _, _, _ => False
    | [] => False
  | _ => False
/-- What is asked of a deferred function: of a return; of a panic. -/
structure DefOK (P : Program) (g : FuncId) (Dn : List Value → HP → HP) (Dp : List Value → Value → HP → HP) : Prop where
  enter : ∀ (as : Array Value) (w : World), (callFunc g as).run P w = .ok (.enter g as) w
  ret : ∀ args K w, Dn args K w.heap → CallsD P g args.toArray .returning w fun e u' w' => (∃ v, e = .returned v) ∧ u' = .returning ∧ K w'.heap ∧ Kin false w w'
  pan : ∀ args v K w, Dp args v K w.heap → CallsD P g args.toArray (.panicking [{ v, recovered := false }]) w fun e u' w' =>
    (∃ x, e = .returned x) ∧ u' = .panicking [{ v, recovered := true }] ∧ K w'.heap ∧ Kin false w w'

section
variable {P : Program} {C : CT}
theorem denOps_okS (hC : Calling P C) {n : Nat} {ops : Array Oper} {K : St → HP} {Q : Exit → Act → List Frame → World → Prop} {cs : List Frame} {w0 : World}
    (hQ : ∀ s' a' w', Rel n s' a' → K s' w'.heap → Kin false w0 w' → Q .normal a' cs w') : ∀ (l : List Oper) (k : Nat) (s : St) (a : Act) (w : World), (∀ j, l[j]? = ops[k + j]?) → Rel n s a →
    denOps P C n ops.toList l s K (fun _ _ _ => False) w.heap → Kin false w0 w → wpOpsS P ops Q (List.range' k l.length) a cs w
  | [], k, s, a, w, hl, hr, h, hk => hQ s a w hr h hk
  | o :: r, k, s, a, w, hl, hr, h, hk => by
    have ho : ops[k]? = some o := by simpa using (hl 0).symm
    have hl' : ∀ j, r[j]? = ops[k + 1 + j]? := fun j => by have := hl (j + 1); simpa [Nat.add_assoc, Nat.add_comm 1 j] using this
    obtain ⟨s1, hr1, h1⟩ := grd_mp h hr
    simp only [List.length_cons, List.range'_succ, wpOpsS, ho]
    rcases h1 with ⟨hw, h1⟩ | ⟨hw, h1⟩
    · rw [if_pos hw]
      have h2 := exOp_ok hC hr1 h1 (next := fun a' w' => wpOpsS P ops Q (List.range' (k + 1) r.length) a' cs w') (Q := fun _ _ _ => False)
        (fun s' a' w' hr' hk' hkin _ _ => denOps_okS hC hQ r (k + 1) s' a' w' hl' hr' hk' (hk.trans hkin)) (fun _ _ hv _ => hv)
      unfold Oper.wp at h2
      generalize (execOp a.eval o).run P w = res at h2
      have hmono : ∀ x, o.upon P a (fun a' w' => wpOpsS P ops Q (List.range' (k + 1) r.length) a' cs w') (fun _ _ _ => False) x →
          o.upon P a (fun a' w' => wpOpsS P ops Q (List.range' (k + 1) r.length) a' cs w') (fun e a' w' => Q e a' cs w') x := by
        intro x hx
        cases x with
        | ok nx w' =>
          cases nx <;> simp only [Oper.upon] at hx ⊢ <;> first | exact hx | skip
          refine Calls.mono hx fun e w'' he => ?_
          cases e with
          | returned v => exact he
          | panicked c => exact he.elim
          | outgrown => obtain ⟨_, _, hf⟩ := he; exact hf.elim
        | halt y w' => cases y <;> simp only [Oper.upon] at hx ⊢ <;> exact hx.elim
      cases res with
      | ok nx w' =>
        cases nx <;> first | exact hmono _ h2 | exact h2.elim
      | halt y w' => exact hmono _ h2
    · rw [if_neg (by simp [hw])]
      obtain ⟨s', hk', hr'⟩ := putD_mp h1 hr1
      exact denOps_okS hC hQ r (k + 1) s' _ w hl' hr' hk' hk
theorem recoverD_none {c : Frame} {cs : List Frame} (h : c.mode = .returning) : recoverD (c :: cs) = none := by simp [recoverD, h]
theorem recoverD_some {c : Frame} {cs : List Frame} {v : Value} (h : c.mode = .panicking [{ v, recovered := false }]) :
    recoverD (c :: cs) = some (v, { c with mode := .panicking [{ v, recovered := true }] } :: cs) := by simp [recoverD, h]
theorem callsD_of_den (hm : P.follows .mixedOrders = true) (hC : Calling P C) {g : FuncId} {fn : Func} {ann : Ann} {args : List Value} {rv : Value} {K : HP} {w : World} {u u' : FrameMode}
    (hf : P.funcs[g]? = some fn) (hb : fn.body.isSome = true) (hn : Nat.ble args.length fn.ntmps = true)
    (hu : ∀ (c : Frame) (cs : List Frame), c.mode = u → (recoverD (c :: cs) = none ∧ rv = .nilIface ∧ u' = u) ∨ recoverD (c :: cs) = some (rv, { c with mode := u' } :: cs))
    (h : denDf P C fn ann args rv K w.heap) : CallsD P g args.toArray u w fun e u2 w' => (∃ v, e = .returned v) ∧ u2 = u' ∧ K w'.heap ∧ Kin false w w' := by
  obtain ⟨c, hc⟩ := Option.isSome_iff_exists.1 hb
  have hbody : bodyOf fn = c := by simp [bodyOf, hc]
  unfold denDf at h
  rw [hbody] at h
  split at h
  · rename_i id ops y
    split at h
    · rename_i o r hops
      split at h
      · rename_i hg ho hres
        have hr := Rel.start (Nat.le_of_ble_eq_true hn)
        have hfr : fn.results = #[] := by rw [← Array.toArray_toList (xs := fn.results), hres]
        refine callsD_of_wpS hf hc fun c₀ cs hc0 => wpS_seq (wpS_region ?_)
        have hsz : ops.size = (o :: r).length := by rw [← hops, Array.length_toList]
        have h0 : ops[0]? = some o := by
          have : ops.toList[0]? = some o := by rw [hops]; rfl
          simpa using this
        rw [List.range_eq_range', hsz]
        simp only [List.length_cons, List.range'_succ, wpOpsS, h0]
        rw [if_pos (by simp [Region.wanted, hg])]
        obtain ⟨s', hk', hr'⟩ := putD_mp h hr
        have hrun : ∀ f, (execOp f o).run P w = .ok .recover w := by
          intro f
          unfold execOp
          rw [ho]
          simp only [resolve, Sem.run_bind, Sem.run_pure, Result.andThen_ok, invoke, builtin]
        rw [hrun]
        have fin : ∀ c1, c1 = ({ c₀ with mode := u' } : Frame) → wpOpsS P ops (Exit.thenS (y.wpS P (bodyPostS P fn c₀ cs fun e u2 w' => (∃ v, e = .returned v) ∧ u2 = u' ∧ K w'.heap ∧ Kin false w w'))
            (bodyPostS P fn c₀ cs fun e u2 w' => (∃ v, e = .returned v) ∧ u2 = u' ∧ K w'.heap ∧ Kin false w w')) (List.range' (0 + 1) r.length)
            (({ tmps := args.toArray ++ Array.replicate (fn.ntmps - args.toArray.size) undef, defers := [] } : Act).put o.dst rv) (c1 :: cs) w := by
          intro c1 hc1
          subst hc1
          rw [← hops] at hk'
          refine denOps_okS (n := fn.ntmps) (w0 := w) hC (fun s2 a2 w2 hr2 hk2 hn2 => ?_) r 1 s' _ w (fun j => ?_) hr' hk' (Kin.refl _ w)
          · refine wpS_of_wp (wp_mono (den_sound hm hC y ann _ s2 a2 w2 hr2 hk2) fun e a3 w3 hp => ?_)
            have hresults : ∀ t, (results fn t).run P w3 = .ok (.tuple #[]) w3 := fun t => by simp [results, hfr]
            cases e with
            | normal =>
              obtain ⟨s3, g1, g2, g3, _⟩ := hp
              obtain ⟨e3, ds⟩ := s3
              cases ds with
              | nil => exact ⟨g1.ds, u', rfl, _, hresults _, ⟨_, rfl⟩, rfl, g2, hn2.trans g3⟩
              | cons _ _ => exact g2.elim
            | ret =>
              obtain ⟨s3, g1, g2, g3, _⟩ := hp
              obtain ⟨e3, ds⟩ := s3
              cases ds with
              | nil => exact ⟨g1.ds, u', rfl, _, hresults _, ⟨_, rfl⟩, rfl, g2, hn2.trans g3⟩
              | cons _ _ => exact g2.elim
            | panic ch =>
              obtain ⟨v, s3, _, g1, g2, _⟩ := hp
              exact g2.elim
            | exit id =>
              obtain ⟨s3, g1, g2, _⟩ := hp
              exact g2.elim
            | goto l => exact hp.elim
            | outgrown => exact hp.elim
          · have : ops.toList[1 + j]? = r[j]? := by rw [hops, Nat.add_comm]; rfl
            rw [← this]; simp
        rcases hu c₀ cs hc0 with ⟨hrec, rfl, rfl⟩ | hrec
        · simp only [hrec]
          exact fin c₀ (by rw [← hc0])
        · simp only [hrec]
          exact fin _ rfl
      · exact h.elim
    · exact h.elim
  · exact h.elim
theorem defOK_of (hm : P.follows .mixedOrders = true) (hC : Calling P C) {g : FuncId} {fn : Func} {an ap : Ann} {Dn : List Value → HP → HP} {Dp : List Value → Value → HP → HP}
    (he : ∀ (as : Array Value) (w : World), (callFunc g as).run P w = .ok (.enter g as) w)
    (hf : P.funcs[g]? = some fn) (hb : fn.body.isSome = true)
    (hn : ∀ args K h, Dn args K h → Nat.ble args.length fn.ntmps = true ∧ denDf P C fn an args .nilIface K h)
    (hp : ∀ args v K h, Dp args v K h → Nat.ble args.length fn.ntmps = true ∧ denDf P C fn ap args v K h) : DefOK P g Dn Dp := by
  refine ⟨he, fun args K w h => ?_, fun args v K w h => ?_⟩
  · exact callsD_of_den hm hC hf hb (hn _ _ _ h).1 (fun c cs hc => .inl ⟨recoverD_none hc, rfl, rfl⟩) (hn _ _ _ h).2
  · exact callsD_of_den hm hC hf hb (hp _ _ _ _ h).1 (fun c cs hc => .inr (recoverD_some hc)) (hp _ _ _ _ h).2

/-- The end of a function that defers one call. -/
def endD (P : Program) (fn : Func) (g : FuncId) (Dn : List Value → HP → HP) (Dp : List Value → Value → HP → HP) (K Kp : Value → HP) : Ex → St → HP
  | .normal, ⟨e, [d]⟩, h => match d.target with
    | .fn (.func g') cap => match Nat.beq g' g with
      | true => Dn (d.args.toList ++ cap.toList) (fun h' => rdRes P fn.results.toList e h' fun vs => K (packV vs) h') h
      | false => False
    | _ => False
  | .ret, ⟨e, [d]⟩, h => match d.target with
    | .fn (.func g') cap => match Nat.beq g' g with
      | true => Dn (d.args.toList ++ cap.toList) (fun h' => rdRes P fn.results.toList e h' fun vs => K (packV vs) h') h
      | false => False
    | _ => False
  | .panic v, ⟨e, [d]⟩, h => match d.target with
    | .fn (.func g') cap => match Nat.beq g' g with
      | true => Dp (d.args.toList ++ cap.toList) v (fun h' => rdRes P fn.results.toList e h' fun vs => K (packV vs) h') h
      | false => False
    | _ => False
  | .normal, ⟨e, []⟩, h => rdRes P fn.results.toList e h fun vs => K (packV vs) h
  | .ret, ⟨e, []⟩, h => rdRes P fn.results.toList e h fun vs => K (packV vs) h
  | .panic v, ⟨_, []⟩, h => Kp v h
  | _, _, _ => False
def denFnD (P : Program) (C : CT) (fn : Func) (ann : Ann) (g : FuncId) (Dn : List Value → HP → HP) (Dp : List Value → Value → HP → HP) (args : List Value) (K Kp : Value → HP) (h : Hp) : Prop :=
  den P C fn.ntmps ann (bodyOf fn) (endD P fn g Dn Dp K Kp) ⟨argE 0 args, []⟩ h
theorem calls_of_denD (hm : P.follows .mixedOrders = true) (hC : Calling P C) {f g : FuncId} {fn : Func} {ann : Ann} {args : List Value} {K Kp : Value → HP} {w : World} {Dn : List Value → HP → HP} {Dp : List Value → Value → HP → HP}
    (hD : DefOK P g Dn Dp) (hf : P.funcs[f]? = some fn) (hb : fn.body.isSome = true) (hn : Nat.ble args.length fn.ntmps = true) (h : denFnD P C fn ann g Dn Dp args K Kp w.heap) :
    Calls P f args.toArray w (callQ K Kp w) := by
  obtain ⟨c, hc⟩ := Option.isSome_iff_exists.1 hb
  have hbody : bodyOf fn = c := by simp [bodyOf, hc]
  unfold denFnD at h
  rw [hbody] at h
  have hr := Rel.start (Nat.le_of_ble_eq_true hn)
  have inv : ∀ (d : Deferred) (cap : Array Value) (w : World), d.target = .fn (.func g) cap → (invoke d.target d.args).run P w = .ok (.enter g (d.args ++ cap)) w := by
    intro d cap w ht
    rw [ht]
    simp only [invoke]
    exact hD.enter _ w
  have fin : ∀ (s : St) (a : Act) (w' : World), Rel fn.ntmps s a → Kin false w w' → rdRes P fn.results.toList s.env w'.heap (fun vs => K (packV vs) w'.heap) → Leaves P fn a.tmps (callQ K Kp w) [] .returning w' := by
    intro s a w' h1 hk h2
    obtain ⟨v, hv, hk'⟩ := results_ok h1 fn K h2
    exact ⟨v, hv, hk, hk'⟩
  refine calls_of_wp_defers hf hc (wp_mono (den_sound hm hC c ann _ _ _ w hr h) fun e a' w' hp => ?_)
  have body : ∀ (s : St) (d : Deferred) (u : FrameMode), u ≠ .run → Rel fn.ntmps s a' → Kin false w w' → s.ds = [d] → (∃ cap, d.target = .fn (.func g) cap ∧ ∃ u2, settle u2 = .returning ∧
      CallsD P g (d.args ++ cap) u w' fun e u' w'' => (∃ v, e = .returned v) ∧ u' = u2 ∧ (rdRes P fn.results.toList s.env w''.heap fun vs => K (packV vs) w''.heap) ∧ Kin false w' w'') → Leaves P fn a'.tmps (callQ K Kp w) [d] u w' := by
    rintro s d u hu h1 hk hds ⟨cap, ht, u2, hset, hcall⟩
    refine ⟨hu, .func g, cap, g, d.args ++ cap, ht, inv d cap w' ht, hcall.mono ?_⟩
    rintro e u' w'' ⟨⟨v, rfl⟩, rfl, hk2, hkin⟩
    show Leaves P fn a'.tmps (callQ K Kp w) [] (settle u') w''
    rw [hset]
    exact fin s a' w'' h1 (hk.trans hkin) hk2
  cases e with
  | normal =>
    obtain ⟨s', h1, h2, h3, h4⟩ := hp
    obtain ⟨e', ds⟩ := s'
    match ds, h1, h2 with
    | [], g1, g2 =>
      show Leaves P fn a'.tmps _ a'.defers .returning w'
      rw [g1.ds]
      exact fin ⟨e', []⟩ a' w' g1 h3 g2
    | [d], g1, g2 =>
      show Leaves P fn a'.tmps _ a'.defers .returning w'
      rw [g1.ds]
      dsimp only [endD] at g2
      split at g2
      · rename_i g' cap ht
        split at g2
        · rename_i hg
          have hg := Nat.eq_of_beq_eq_true hg
          subst hg
          refine body ⟨e', [d]⟩ d .returning (by simp) g1 h3 rfl ⟨cap, ht, .returning, rfl, ?_⟩
          have := hD.ret _ _ w' g2
          rwa [← Array.toList_append, Array.toArray_toList] at this
        · exact g2.elim
      · exact g2.elim
    | d :: d2 :: ds, g1, g2 => exact g2.elim
  | ret =>
    obtain ⟨s', h1, h2, h3, h4⟩ := hp
    obtain ⟨e', ds⟩ := s'
    match ds, h1, h2 with
    | [], g1, g2 =>
      show Leaves P fn a'.tmps _ a'.defers .returning w'
      rw [g1.ds]
      exact fin ⟨e', []⟩ a' w' g1 h3 g2
    | [d], g1, g2 =>
      show Leaves P fn a'.tmps _ a'.defers .returning w'
      rw [g1.ds]
      dsimp only [endD] at g2
      split at g2
      · rename_i g' cap ht
        split at g2
        · rename_i hg
          have hg := Nat.eq_of_beq_eq_true hg
          subst hg
          refine body ⟨e', [d]⟩ d .returning (by simp) g1 h3 rfl ⟨cap, ht, .returning, rfl, ?_⟩
          have := hD.ret _ _ w' g2
          rwa [← Array.toList_append, Array.toArray_toList] at this
        · exact g2.elim
      · exact g2.elim
    | d :: d2 :: ds, g1, g2 => exact g2.elim
  | panic ch =>
    obtain ⟨v, s', rfl, h1, h2, h3, h4⟩ := hp
    obtain ⟨e', ds⟩ := s'
    match ds, h1, h2 with
    | [], g1, g2 =>
      show Leaves P fn a'.tmps _ a'.defers (.panicking [{ v, recovered := false }]) w'
      rw [g1.ds]
      exact ⟨h3, v, rfl, g2⟩
    | [d], g1, g2 =>
      show Leaves P fn a'.tmps _ a'.defers (.panicking [{ v, recovered := false }]) w'
      rw [g1.ds]
      dsimp only [endD] at g2
      split at g2
      · rename_i g' cap ht
        split at g2
        · rename_i hg
          have hg := Nat.eq_of_beq_eq_true hg
          subst hg
          refine body ⟨e', [d]⟩ d _ (by simp) g1 h3 rfl ⟨cap, ht, .panicking [{ v, recovered := true }], rfl, ?_⟩
          have := hD.pan _ _ _ w' g2
          rwa [← Array.toList_append, Array.toArray_toList] at this
        · exact g2.elim
      · exact g2.elim
    | d :: d2 :: ds, g1, g2 => exact g2.elim
  | exit id =>
    obtain ⟨s', h1, h2, h3, h4⟩ := hp
    obtain ⟨e', ds⟩ := s'
    match ds, h2 with
    | [], h2 => exact h2.elim
    | [d], h2 => exact h2.elim
    | d :: d2 :: ds, h2 => exact h2.elim
  | goto l => exact hp.elim
  | outgrown => exact hp.elim
end
attribute [irreducible] denDf denFnD
end Go.Dn
/- Functions, read over a part of the heap. -/
namespace Go.Dn

abbrev EnA := List Value → (Value → AP) → (Value → AP) → AP
def upE (E : EnA) : EnT := fun args K Kp h => ∃ A L KA KpA, Sim A L h ∧ E args KA KpA A ∧ (∀ v A' h', Sim A' L h' → KA v A' → K v h') ∧ ∀ v A' h', Sim A' L h' → KpA v A' → Kp v h'
def tabA : List (FuncId × EnA) → CTA
  | [], _, _, _, _, _ => False
  | (f, E) :: r, g, args, K, Kp, A => match Nat.beq f g with
    | true => E args K Kp A
    | false => tabA r g args K Kp A
def rdResA (P : Program) : List ResultVar → SA → AH → (List Value → Prop) → Prop
  | [], _, _, K => K []
  | .tmp t :: r, s, A, K => match look s.env t with
    | some v => rdResA P r s A fun vs => K (v :: vs)
    | none => False
  | .cell a t :: r, s, A, K => match lookB s.bv a with
    | some (i, k) => match lookX s.bx i with
      | some (cells, _) => ldX P t cells k fun v => rdResA P r s A fun vs => K (v :: vs)
      | none => False
    | none => match look s.env a with
      | some va => asAd va fun ad => ldDA P t ad A fun v => rdResA P r s A fun vs => K (v :: vs)
      | none => False
def endA (P : Program) (fn : Func) (K Kp : Value → AP) : Ex → SA → AP
  | .normal, s, A => match s.ds with | [] => rdResA P fn.results.toList s A fun vs => K (packV vs) A | _ => False
  | .ret, s, A => match s.ds with | [] => rdResA P fn.results.toList s A fun vs => K (packV vs) A | _ => False
  | .panic v, s, A => match s.ds with | [] => Kp v A | _ => False
  | _, _, _ => False
def startA (args : List Value) : SA := ⟨argE 0 args, [], [], [], [], []⟩
def denFnA (P : Program) (CA : CTA) (pm : List Nat) (fn : Func) (ann : AnnA) (args : List Value) (K Kp : Value → AP) (A : AH) : Prop :=
  denA P CA fn.ntmps pm ann (bodyOf fn) (endA P fn K Kp) (startA args) A
/-- The body of a deferred function that recovers. -/
def denDfA (P : Program) (CA : CTA) (pm : List Nat) (fn : Func) (ann : AnnA) (args : List Value) (rv : Value) (K : AP) (A : AH) : Prop :=
  match bodyOf fn with
  | .seq (.region _ ops false) y => match ops.toList with
    | o :: r => match o.guard, o.op, fn.results.toList with
      | none, .call { callee := .builtin .recover, args := _, argTypes := _ }, [] =>
        putA fn.ntmps (startA args) o.dst (.v rv) fun s => denOpsA P CA fn.ntmps pm (o :: r) r s (fun s A => denA P CA fn.ntmps pm ann y (fun e s A => match e, s.ds with
          | .normal, [] => K A
          | .ret, [] => K A
          | _, _ => False) s A) (fun _ _ _ => False) A
      | _, _, _ => False
    | [] => False
  | _ => False
abbrev DnT' := List Value → AP → AP
abbrev DpT' := List Value → Value → AP → AP
def endDA (P : Program) (fn : Func) (g : FuncId) (Dn : DnT') (Dp : DpT') (K Kp : Value → AP) : Ex → SA → AP
  | .normal, s, A => match s.ds with
    | [] => rdResA P fn.results.toList s A fun vs => K (packV vs) A
    | [d] => match d.target with
      | .fn (.func g') cap => match Nat.beq g' g with
        | true => Dn (d.args.toList ++ cap.toList) (fun A' => rdResA P fn.results.toList s A' fun vs => K (packV vs) A') A
        | false => False
      | _ => False
    | _ => False
  | .ret, s, A => match s.ds with
    | [] => rdResA P fn.results.toList s A fun vs => K (packV vs) A
    | [d] => match d.target with
      | .fn (.func g') cap => match Nat.beq g' g with
        | true => Dn (d.args.toList ++ cap.toList) (fun A' => rdResA P fn.results.toList s A' fun vs => K (packV vs) A') A
        | false => False
      | _ => False
    | _ => False
  | .panic v, s, A => match s.ds with
    | [] => Kp v A
    | [d] => match d.target with
      | .fn (.func g') cap => match Nat.beq g' g with
        | true => Dp (d.args.toList ++ cap.toList) v (fun A' => rdResA P fn.results.toList s A' fun vs => K (packV vs) A') A
        | false => False
      | _ => False
    | _ => False
  | _, _, _ => False
def denFnDA (P : Program) (CA : CTA) (pm : List Nat) (fn : Func) (ann : AnnA) (g : FuncId) (Dn : DnT') (Dp : DpT') (args : List Value) (K Kp : Value → AP) (A : AH) : Prop :=
  denA P CA fn.ntmps pm ann (bodyOf fn) (endDA P fn g Dn Dp K Kp) (startA args) A
/- Arguments by their shapes. -/
inductive PSh | c (k : CK) | agg (l : List CK) | fn (g : FuncId) (first cap : List CK)
def ArS : List PSh → Type → Type
  | .fn _ a b :: r, T => ArC a (ArC b (ArS r T))
  | [], T => T
  | .c k :: r, T => CKT k → ArS r T
  | .agg l :: r, T => ArC l (ArS r T)
def apS : (l : List PSh) → (T : Type) → ArS l T → List Value → (T → Prop) → Prop
  | [], _, R, [], G => G R
  | .c k :: r, T, R, v :: vs, G => apK k v fun x => apS r T (R x) vs G
  | .agg l :: r, T, R, v :: vs, G => match v with
    | .agg cs => apC l (ArS r T) R cs.toList fun R1 => apS r T R1 vs G
    | _ => False
  | .fn g a b :: r, T, R, v :: vs, G => match v with
    | .func (.func g') x y => match Nat.beq g' g with
      | true => apC a (ArC b (ArS r T)) R x.toList fun R1 => apC b (ArS r T) R1 y.toList fun R2 => apS r T R2 vs G
      | false => False
    | _ => False
  | _, _, _, _, _ => False
def curK (k : CK) {T : Type} (g : Value → T) : CKT k → T := match k with
  | .i kk => fun n : Int => g (.int kk n)
  | .b => fun n : Bool => g (.bool n)
  | .p => fun n : Option Addr => g (.pointer n)
  | .s => fun n : Sl => g (.slice n.a n.len n.cap)
  | .m => fun n : Option Nat => g (.map n)
  | .v => fun n : Value => g n
def curC : (l : List CK) → (T : Type) → (List Value → T) → ArC l T
  | [], _, g => g []
  | k :: r, T, g => curK k fun v => curC r T fun vs => g (v :: vs)
def curS : (l : List PSh) → (T : Type) → (List Value → T) → ArS l T
  | .fn f a b :: r, T, g => curC a (ArC b (ArS r T)) fun xs => curC b (ArS r T) fun ys => curS r T fun vs => g (.func (.func f) xs.toArray ys.toArray :: vs)
  | [], _, g => g []
  | .c k :: r, T, g => curK k fun v => curS r T fun vs => g (v :: vs)
  | .agg l :: r, T, g => curC l (ArS r T) fun cs => curS r T fun vs => g (.agg cs.toArray :: vs)
/-- Panics: they go on, or there must be none. -/
def np (b : Bool) (Kp : Value → AP) : Value → AP := match b with | true => Kp | false => fun _ _ => False
theorem np_imp {b : Bool} {Kp : Value → AP} {v : Value} {A : AH} (h : np b Kp v A) : Kp v A := by
  cases b
  · exact h.elim
  · exact h
abbrev EnR := (Value → AP) → (Value → AP) → AP
def enS (l : List PSh) (F : ArS l EnR) : EnA := fun args K Kp A => apS l EnR F args fun f => f K Kp A
/- The same for a deferred function: what it captured; what was panicked with. -/
def dnS (l : List PSh) (F : ArS l (AP → AP)) : DnT' := fun args K A => apS l (AP → AP) F args fun f => f K A
def dpS (l : List PSh) (t : TypeId) (ks : List CK) (F : ArS l (ArC ks (AP → AP))) : DpT' := fun args v K A => match v with
  | .iface t' (.agg cs) => match Nat.beq t' t with
    | true => apS l (ArC ks (AP → AP)) F args fun R => apC ks (AP → AP) R cs.toList fun f => f K A
    | false => False
  | _ => False

section
variable {P : Program} {CA : CTA} {A : AH} {h : Hp}
theorem apK_cur {T : Type} {k : CK} {g : Value → T} {v : Value} {G : T → Prop} (hh : apK k v fun x => G (curK k g x)) : G (g v) := by
  cases k <;> cases v <;> simp only [apK] at hh <;> first | exact hh.elim | exact hh | skip
  obtain ⟨h1, h2⟩ := bsel_true hh
  rename_i kk k' n
  have : kk = k' := by cases kk <;> cases k' <;> first | rfl | cases h1
  subst this
  exact h2
theorem apC_cur : ∀ {l : List CK} {T : Type} {g : List Value → T} {vs : List Value} {G : T → Prop}, apC l T (curC l T g) vs G → G (g vs)
  | [], _, _, [], _, h => h
  | [], _, _, _ :: _, _, h => h.elim
  | _ :: _, _, _, [], _, h => h.elim
  | k :: r, T, g, v :: vs, G, h => apC_cur (l := r) (g := fun vs => g (v :: vs)) (apK_cur (k := k) (g := fun v => curC r T fun vs => g (v :: vs)) (G := fun R => apC r T R vs G) h)
theorem apS_cur : ∀ {l : List PSh} {T : Type} {g : List Value → T} {vs : List Value} {G : T → Prop}, apS l T (curS l T g) vs G → G (g vs)
  | [], _, _, [], _, h => h
  | [], _, _, _ :: _, _, h => h.elim
  | .c k :: r, T, g, v :: vs, G, h => apS_cur (l := r) (g := fun vs => g (v :: vs)) (apK_cur (k := k) (g := fun v => curS r T fun vs => g (v :: vs)) (G := fun R => apS r T R vs G) h)
  | .c _ :: _, _, _, [], _, h => h.elim
  | .agg _ :: _, _, _, [], _, h => h.elim
  | .agg l :: r, T, g, v :: vs, G, h => by
    unfold apS at h
    split at h
    · rename_i cs
      have := apC_cur (l := l) (g := fun cs => curS r T fun vs => g (.agg cs.toArray :: vs)) (G := fun R => apS r T R vs G) h
      rw [Array.toArray_toList] at this
      exact apS_cur (l := r) (g := fun vs => g (.agg cs :: vs)) this
    · exact h.elim
  | .fn _ _ _ :: _, _, _, [], _, h => h.elim
  | .fn f a b :: r, T, g, v :: vs, G, h => by
    unfold apS at h
    split at h
    · rename_i g' x y
      split at h
      · rename_i hb
        have hb := beqN.1 hb
        subst hb
        have h1 := apC_cur (l := a) (T := ArC b (ArS r T)) (g := fun xs => curC b (ArS r T) fun ys => curS r T fun vs => g (.func (.func g') xs.toArray ys.toArray :: vs)) (G := fun R1 => apC b (ArS r T) R1 y.toList fun R2 => apS r T R2 vs G) h
        have h2 := apC_cur (l := b) (T := ArS r T) (g := fun ys => curS r T fun vs => g (.func (.func g') x.toList.toArray ys.toArray :: vs)) (G := fun R2 => apS r T R2 vs G) h1
        rw [Array.toArray_toList, Array.toArray_toList] at h2
        exact apS_cur (l := r) (g := fun vs => g (.func (.func g') x y :: vs)) h2
      · exact h.elim
    · exact h.elim
/- A function that calls itself: by how deep it goes. -/
def exC : (l : List CK) → {T U : Type} → (Nat → ArC l T) → ((Nat → T) → U) → ArC l U
  | [], _, _, F, c => c F
  | _ :: r, _, _, F, c => fun x => exC r (fun n => F n x) c
def exS : (l : List PSh) → {T : Type} → (Nat → ArS l T) → ((Nat → T) → T) → ArS l T
  | [], _, F, c => c F
  | .c _ :: r, _, F, c => fun x => exS r (fun n => F n x) c
  | .agg l :: r, _, F, c => exC l F fun G => exS r G c
  | .fn _ a b :: r, T, F, c => exC a (T := ArC b (ArS r T)) F fun G => exC b G fun H => exS r H c
theorem apK_exn {k : CK} {v : Value} {H : Nat → CKT k → Prop} (h : apK k v fun x => ∃ n, H n x) : ∃ n, apK k v (H n) := by
  cases k <;> cases v <;> simp only [apK] at h ⊢ <;> first | exact h.elim | exact h | skip
  obtain ⟨h1, n, h2⟩ := bsel_true h
  rw [h1]
  exact ⟨n, h2⟩
theorem apK_mono' {k : CK} {v : Value} {G G' : CKT k → Prop} (h : apK k v G) (hg : ∀ x, G x → G' x) : apK k v G' := by
  cases k <;> cases v <;> simp only [apK] at h ⊢ <;> first | exact h.elim | exact hg _ h | skip
  obtain ⟨h1, h2⟩ := bsel_true h
  rw [h1]
  exact hg _ h2
theorem apC_exn : ∀ (l : List CK) {T U : Type} (F : Nat → ArC l T) (c : (Nat → T) → U) (vs : List Value) (G : U → Prop) (G' : T → Prop), (∀ R, G (c R) → ∃ n, G' (R n)) → apC l U (exC l F c) vs G → ∃ n, apC l T (F n) vs G'
  | [], _, _, F, c, [], G, G', hG, h => hG F h
  | [], _, _, _, _, _ :: _, _, _, _, h => h.elim
  | _ :: _, _, _, _, _, [], _, _, _, h => h.elim
  | k :: r, T, U, F, c, v :: vs, G, G', hG, h => apK_exn (apK_mono' (k := k) (G := fun x => apC r U (exC r (fun n => F n x) c) vs G) h fun x hx => apC_exn r (fun n => F n x) c vs G G' hG hx)
theorem apS_exn : ∀ (l : List PSh) {T : Type} (F : Nat → ArS l T) (c : (Nat → T) → T) (vs : List Value) (G : T → Prop), (∀ R, G (c R) → ∃ n, G (R n)) → apS l T (exS l F c) vs G → ∃ n, apS l T (F n) vs G
  | [], _, F, c, [], G, hG, h => hG F h
  | [], _, _, _, _ :: _, _, _, h => h.elim
  | .c _ :: _, _, _, _, [], _, _, h => h.elim
  | .c k :: r, T, F, c, v :: vs, G, hG, h => apK_exn (apK_mono' (k := k) (G := fun x => apS r T (exS r (fun n => F n x) c) vs G) h fun x hx => apS_exn r (fun n => F n x) c vs G hG hx)
  | .agg _ :: _, _, _, _, [], _, _, h => h.elim
  | .agg l :: r, T, F, c, v :: vs, G, hG, h => by
    unfold apS at h ⊢
    cases v <;> try exact h.elim
    exact apC_exn l F (fun G => exS r G c) _ (fun R => apS r T R vs G) (fun R => apS r T R vs G) (fun R hR => apS_exn r R c vs G hG hR) h
  | .fn _ _ _ :: _, _, _, _, [], _, _, h => h.elim
  | .fn f a b :: r, T, F, c, v :: vs, G, hG, h => by
    unfold apS at h ⊢
    split at h
    · rename_i g' x y
      split at h
      · rename_i hb
        obtain ⟨n, hn⟩ := apC_exn a (T := ArC b (ArS r T)) F (fun G => exC b G fun H => exS r H c) _ (fun R1 => apC b (ArS r T) R1 y.toList fun R2 => apS r T R2 vs G) (fun R1 => apC b (ArS r T) R1 y.toList fun R2 => apS r T R2 vs G) (fun R hR =>
          apC_exn b R (fun H => exS r H c) _ (fun R => apS r T R vs G) (fun R => apS r T R vs G) (fun R hR => apS_exn r R c vs G hG hR) hR) h
        exact ⟨n, hn⟩
      · exact h.elim
    · exact h.elim
theorem ent_no {f : FuncId} {l : List PSh} {F : ArS l EnR} (he : ∀ (as : Array Value) (w : World), (callFunc f as).run P w = .ok (.enter f as) w) (hF : F = curS l EnR fun _ _ _ _ => False) : EntryOK P f (upE (enS l F)) := by
  subst hF
  refine ⟨he, fun args K Kp w ⟨A, L, KA, KpA, s, hh, _⟩ => ?_⟩
  have hh : apS l EnR (curS l EnR fun _ _ _ _ => False) args fun g => g KA KpA A := hh
  exact absurd (apS_cur (G := fun g : EnR => g KA KpA A) hh) id
theorem ent_ex {f : FuncId} {l : List PSh} {F : Nat → ArS l EnR} {G : ArS l EnR} (hF : ∀ k, EntryOK P f (upE (enS l (F k)))) (hG : G = exS l F fun R K Kp A => ∃ k, R k K Kp A) : EntryOK P f (upE (enS l G)) := by
  subst hG
  refine ⟨(hF 0).enter, fun args K Kp w ⟨A, L, KA, KpA, s, hh, h1, h2⟩ => ?_⟩
  obtain ⟨k, hk⟩ := apS_exn l F _ args (fun f => f KA KpA A) (fun R h => h) hh
  exact (hF k).call args K Kp w ⟨A, L, KA, KpA, s, hk, h1, h2⟩
theorem callingA_nil : Calling P (upC (tabA [])) := ⟨fun _ _ _ _ _ ⟨_, _, _, _, _, h, _⟩ => h.elim, fun _ _ _ _ _ ⟨_, _, _, _, _, h, _⟩ => h.elim⟩
theorem callingA_cons {f : FuncId} {E : EnA} {r : List (FuncId × EnA)} (he : EntryOK P f (upE E)) (hr : Calling P (upC (tabA r))) : Calling P (upC (tabA ((f, E) :: r))) := by
  constructor
  · intro g args K Kp h ⟨A, L, KA, KpA, s, hh, h1, h2⟩ as w
    unfold tabA at hh
    split at hh
    · rename_i hb
      rw [← beqN.1 hb]
      exact he.enter as w
    · exact hr.enters g args K Kp h ⟨A, L, KA, KpA, s, hh, h1, h2⟩ as w
  · intro g args K Kp w ⟨A, L, KA, KpA, s, hh, h1, h2⟩
    unfold tabA at hh
    split at hh
    · rename_i hb
      rw [← beqN.1 hb]
      exact he.call args K Kp w ⟨A, L, KA, KpA, s, hh, h1, h2⟩
    · exact hr.calls g args K Kp w ⟨A, L, KA, KpA, s, hh, h1, h2⟩
theorem rdResA_up {E : Bx} {β : Nat → Nat} {s : SA} {t : St} (r : RB E β s t A h) : ∀ (l : List ResultVar) (K K' : List Value → Prop), (∀ vs, K vs → K' vs) → rdResA P l s A K → rdRes P l t.env h K'
  | [], _, _, hx, hh => hx _ hh
  | .tmp x :: l, K, K', hx, hh => by
    unfold rdResA at hh
    unfold rdRes
    split at hh
    · rename_i v hv
      rw [r.env _ _ hv]
      exact rdResA_up r l _ _ (fun _ => hx _) hh
    · exact hh.elim
  | .cell a ty :: l, K, K', hx, hh => by
    unfold rdResA at hh
    unfold rdRes
    split at hh
    · rename_i i k hb
      obtain ⟨g1, g2⟩ := r.bv _ _ _ hb
      rw [g1]
      simp only [asAd, onSome]
      split at hh
      · rename_i cs ty2 hl
        obtain ⟨l1, l2, q1, q2⟩ := r.box hl
        have sim := r.sim
        rw [q1] at sim
        refine ldD_box sim ?_
        exact ldX_mono (fun v h1 => rdResA_up r l _ _ (fun _ => hx _) h1) hh
      · exact hh.elim
    · split at hh
      · rename_i va hv
        rw [r.env _ _ hv]
        exact asAd_up (fun ad h1 => ldDA_up r.sim h1 fun v h2 => rdResA_up r l _ _ (fun _ => hx _) h2) hh
      · exact hh.elim
where
  ldX_mono {t : TypeId} {cs : List Value} {o : Nat} {K K' : Value → Prop} (hx : ∀ v, K v → K' v) (h : ldX P t cs o K) : ldX P t cs o K' := by
    unfold ldX at h ⊢
    split at h
    · split at h
      · split at h
        · split at h
          · exact hx _ h
          · exact h.elim
        · exact h.elim
      · split at h
        · split at h
          · exact hx _ h
          · exact h.elim
        · exact h.elim
    · exact h.elim
theorem RB.start {L : Bx} (s : Sim A L h) (args : List Value) : RB L (fun _ => 0) (startA args) ⟨argE 0 args, []⟩ A h :=
  ⟨fun _ _ e => e, fun _ _ _ e => by simp [startA, lookB] at e, rfl, s, List.nodup_nil⟩
theorem apC_any : ∀ {l : List CK} {T : Type} {R : ArC l T} {ws : List Value} {G : T → Prop}, apC l T R ws G → ∃ x, G x
  | [], _, _, [], _, h => ⟨_, h⟩
  | [], _, _, _ :: _, _, h => h.elim
  | _ :: _, _, _, [], _, h => h.elim
  | k :: l, T, R, w :: ws, G, h => by
    have h : apK k w _ := h
    cases k <;> cases w <;> simp only [apK] at h <;> first | exact h.elim | exact apC_any h | skip
    obtain ⟨_, h2⟩ := bsel_true h
    exact apC_any h2
theorem apS_len : ∀ {l : List PSh} {T : Type} {R : ArS l T} {vs : List Value} {G : T → Prop}, apS l T R vs G → vs.length = l.length
  | [], _, _, [], _, _ => rfl
  | [], _, _, _ :: _, _, h => h.elim
  | .c k :: r, T, R, v :: vs, G, h => by
    have : ∃ x : ArS r T, apS r T x vs G := by
      have h : apK k v _ := h
      cases k <;> cases v <;> simp only [apK] at h <;> first | exact h.elim | exact ⟨_, h⟩ | skip
      obtain ⟨_, h2⟩ := bsel_true h
      exact ⟨_, h2⟩
    obtain ⟨x, hx⟩ := this
    simp [apS_len hx]
  | .c _ :: _, _, _, [], _, h => h.elim
  | .agg _ :: _, _, _, [], _, h => h.elim
  | .fn _ _ _ :: _, _, _, [], _, h => h.elim
  | .agg l :: r, T, R, v :: vs, G, h => by
    unfold apS at h
    split at h
    · obtain ⟨x, hx⟩ := apC_any h
      simp [apS_len hx]
    · exact h.elim
  | .fn f a b :: r, T, R, v :: vs, G, h => by
    unfold apS at h
    split at h
    · split at h
      · obtain ⟨x, hx⟩ := apC_any h
        obtain ⟨y, hy⟩ := apC_any hx
        simp [apS_len hy]
      · exact h.elim
    · exact h.elim
theorem entA (hm : P.follows .mixedOrders = true) (hC : Calling P (upC CA)) {f : FuncId} {fn : Func} {pm : List Nat} {ann : AnnA} {l : List PSh} {F : ArS l EnR}
    (he : ∀ (as : Array Value) (w : World), (callFunc f as).run P w = .ok (.enter f as) w) (hf : P.funcs[f]? = some fn) (hb : fn.body.isSome = true) (hn : Nat.ble l.length fn.ntmps = true)
    (b0 : Bool) (hF : F = curS l EnR fun vs K Kp A => denFnA P CA pm fn ann vs K (np b0 Kp) A) : EntryOK P f (upE (enS l F)) := by
  refine ⟨he, fun args K Kp w ⟨A, L, KA, KpA, s, hh, h1, h2⟩ => ?_⟩
  subst hF
  have hlen : args.length = l.length := apS_len hh
  have hd := apS_cur hh
  refine calls_of_den hm hC (ann := ann.h) hf hb (by rw [hlen]; exact hn) ?_
  have hd : denA P CA fn.ntmps pm ann (bodyOf fn) (endA P fn KA (np b0 KpA)) (startA args) A := hd
  unfold denFn
  refine denA_up _ _ _ _ _ _ _ _ _ (RB.start s args) hd fun e β' s' t' A' h' r' sb hk => ?_
  obtain ⟨te, tds⟩ := t'
  have hds : tds = s'.ds := r'.ds
  cases e with
  | normal =>
    unfold endA at hk
    simp only at hk
    split at hk
    · rename_i e0
      rw [e0] at hds
      subst hds
      exact rdResA_up r' _ _ _ (fun vs hv => h1 _ _ _ (r'.sim.keep (List.sublist_append_right _ _)) hv) hk
    · exact hk.elim
  | ret =>
    unfold endA at hk
    simp only at hk
    split at hk
    · rename_i e0
      rw [e0] at hds
      subst hds
      exact rdResA_up r' _ _ _ (fun vs hv => h1 _ _ _ (r'.sim.keep (List.sublist_append_right _ _)) hv) hk
    · exact hk.elim
  | panic v =>
    unfold endA at hk
    simp only at hk
    split at hk
    · rename_i e0
      rw [e0] at hds
      subst hds
      exact h2 _ _ _ (r'.sim.keep (List.sublist_append_right _ _)) (np_imp hk)
    · exact hk.elim
  | exit id => exact hk.elim
theorem denDfA_up {fn : Func} {pm : List Nat} {ann : AnnA} {args : List Value} {rv : Value} {KA : AP} {K : HP} {L : Bx} (s : Sim A L h) (hh : denDfA P CA pm fn ann args rv KA A) (hk : ∀ A' h', Sim A' L h' → KA A' → K h') : denDf P (upC CA) fn ann.h args rv K h := by
  unfold denDfA at hh
  unfold denDf
  split at hh
  · rename_i e0
    rw [e0]
    simp only
    split at hh
    · rename_i o r e1
      rw [e1]
      simp only
      split at hh
      · rename_i e2 e3 e4
        rw [e2, e3, e4]
        simp only
        refine putA_up (RB.start s args) (x := .v rv) (y := rv) rfl (fun _ _ e => by cases e) hh fun s1 t1 r1 sb1 _ _ h1 => ?_
        refine denOpsA_up _ _ s1 t1 A h r1 h1 (fun β2 s2 t2 A2 h2 r2 sb2 h3 => ?_) fun _ _ _ _ _ _ _ _ q => q.elim
        refine denA_up _ _ _ _ _ _ _ _ _ r2 h3 fun e β3 s3 t3 A3 h3 r3 sb3 h4 => ?_
        obtain ⟨te, tds⟩ := t3
        have hds : tds = s3.ds := r3.ds
        split at h4
        · rename_i e5
          rw [e5] at hds
          subst hds
          exact hk _ _ (r3.sim.keep (List.sublist_append_right _ _)) h4
        · rename_i e5
          rw [e5] at hds
          subst hds
          exact hk _ _ (r3.sim.keep (List.sublist_append_right _ _)) h4
        · exact h4.elim
      · exact hh.elim
    · exact hh.elim
  · exact hh.elim
def upDn (Dn : DnT') : List Value → HP → HP := fun args K h => ∃ A L KA, Sim A L h ∧ Dn args KA A ∧ ∀ A' h', Sim A' L h' → KA A' → K h'
def upDp (Dp : DpT') : List Value → Value → HP → HP := fun args v K h => ∃ A L KA, Sim A L h ∧ Dp args v KA A ∧ ∀ A' h', Sim A' L h' → KA A' → K h'
theorem defA (hm : P.follows .mixedOrders = true) (hC : Calling P (upC CA)) {g : FuncId} {fn : Func} {p1 p2 : List Nat} {an ap : AnnA} {l : List PSh} {t : TypeId} {ks : List CK} {Fn : ArS l (AP → AP)} {Fp : ArS l (ArC ks (AP → AP))}
    (he : ∀ (as : Array Value) (w : World), (callFunc g as).run P w = .ok (.enter g as) w) (hf : P.funcs[g]? = some fn) (hb : fn.body.isSome = true) (hn : Nat.ble l.length fn.ntmps = true)
    (h1 : Fn = curS l (AP → AP) fun vs K A => denDfA P CA p1 fn an vs .nilIface K A) (h2 : Fp = curS l (ArC ks (AP → AP)) fun vs => curC ks (AP → AP) fun ps K A => denDfA P CA p2 fn ap vs (.iface t (.agg ps.toArray)) K A) :
    DefOK P g (upDn (dnS l Fn)) (upDp (dpS l t ks Fp)) := by
  subst h1 h2
  refine defOK_of hm hC (an := an.h) (ap := ap.h) he hf hb ?_ ?_
  · intro args K h ⟨A, L, KA, s, hd, hk⟩
    exact ⟨by rw [apS_len hd]; exact hn, denDfA_up s (apS_cur hd) hk⟩
  · intro args v K h ⟨A, L, KA, s, hd, hk⟩
    unfold dpS at hd
    split at hd
    · rename_i t' cs
      split at hd
      · rename_i ht
        have ht := beqN.1 ht
        subst ht
        refine ⟨by rw [apS_len hd]; exact hn, ?_⟩
        have h3 := apS_cur (G := fun R => apC ks (AP → AP) R cs.toList fun f => f KA A) hd
        have h4 := apC_cur h3
        rw [Array.toArray_toList] at h4
        exact denDfA_up s h4 hk
      · exact hd.elim
    · exact hd.elim
theorem entDA (hm : P.follows .mixedOrders = true) (hC : Calling P (upC CA)) {f g : FuncId} {fn : Func} {pm : List Nat} {ann : AnnA} {l : List PSh} {F : ArS l EnR} {Dn : DnT'} {Dp : DpT'} (hD : DefOK P g (upDn Dn) (upDp Dp))
    (he : ∀ (as : Array Value) (w : World), (callFunc f as).run P w = .ok (.enter f as) w) (hf : P.funcs[f]? = some fn) (hb : fn.body.isSome = true) (hn : Nat.ble l.length fn.ntmps = true)
    (b0 : Bool) (hF : F = curS l EnR fun vs K Kp A => denFnDA P CA pm fn ann g Dn Dp vs K (np b0 Kp) A) : EntryOK P f (upE (enS l F)) := by
  refine ⟨he, fun args K Kp w ⟨A, L, KA, KpA, s, hh, h1, h2⟩ => ?_⟩
  subst hF
  have hlen : args.length = l.length := apS_len hh
  have hd := apS_cur hh
  refine calls_of_denD hm hC (ann := ann.h) hD hf hb (by rw [hlen]; exact hn) ?_
  have hd : denA P CA fn.ntmps pm ann (bodyOf fn) (endDA P fn g Dn Dp KA (np b0 KpA)) (startA args) A := hd
  unfold denFnD
  refine denA_up _ _ _ _ _ _ _ _ _ (RB.start s args) hd fun e β' s' t' A' h' r' sb hk => ?_
  obtain ⟨te, tds⟩ := t'
  have hds : tds = s'.ds := r'.ds
  have sim2 := r'.sim
  have res : ∀ {A2 : AH} {h2' : Hp}, Sim A2 (bxL β' s'.bx ++ L) h2' → (rdResA P fn.results.toList s' A2 fun vs => KA (packV vs) A2) → rdRes P fn.results.toList te h2' fun vs => K (packV vs) h2' := fun q hr =>
    rdResA_up (β := β') (t := ⟨te, tds⟩) ⟨r'.env, r'.bv, r'.ds, q, r'.nd⟩ _ _ _ (fun vs hv => h1 _ _ _ (q.keep (List.sublist_append_right _ _)) hv) hr
  cases e with
  | normal =>
    unfold endDA at hk
    simp only at hk
    split at hk
    · rename_i e0
      rw [e0] at hds
      subst hds
      exact res sim2 hk
    · rename_i d e0
      rw [e0] at hds
      subst hds
      unfold endD
      simp only
      split at hk
      · rename_i g' cap e1
        rw [e1]
        simp only
        split at hk
        · rename_i e2
          rw [e2]
          exact ⟨A', _, _, sim2, hk, fun A2 h2' q => res q⟩
        · exact hk.elim
      · exact hk.elim
    · exact hk.elim
  | ret =>
    unfold endDA at hk
    simp only at hk
    split at hk
    · rename_i e0
      rw [e0] at hds
      subst hds
      exact res sim2 hk
    · rename_i d e0
      rw [e0] at hds
      subst hds
      unfold endD
      simp only
      split at hk
      · rename_i g' cap e1
        rw [e1]
        simp only
        split at hk
        · rename_i e2
          rw [e2]
          exact ⟨A', _, _, sim2, hk, fun A2 h2' q => res q⟩
        · exact hk.elim
      · exact hk.elim
    · exact hk.elim
  | panic v =>
    unfold endDA at hk
    simp only at hk
    split at hk
    · rename_i e0
      rw [e0] at hds
      subst hds
      exact h2 _ _ _ (sim2.keep (List.sublist_append_right _ _)) (np_imp hk)
    · rename_i d e0
      rw [e0] at hds
      subst hds
      unfold endD
      simp only
      split at hk
      · rename_i g' cap e1
        rw [e1]
        simp only
        split at hk
        · rename_i e2
          rw [e2]
          exact ⟨A', _, _, sim2, hk, fun A2 h2' q => res q⟩
        · exact hk.elim
      · exact hk.elim
    · exact hk.elim
  | exit id => exact hk.elim
/-- From a function's entry to what a call of it does. -/
theorem callA {f : FuncId} {E : EnA} (he : EntryOK P f (upE E)) (args : List Value) (K : Value → HP) (w : World) {KA : Value → AP} (hh : E args KA (fun _ _ => False) (fun b => w.heap[b]?))
    (hk : ∀ v A' h', Sim A' [] h' → KA v A' → K v h') : Calls P f args.toArray w (callQ K (fun _ _ => False) w) :=
  he.call args K _ w ⟨_, [], KA, _, ⟨fun _ _ e => e, fun _ m => by simp at m, List.Pairwise.nil⟩, hh, hk, fun _ _ _ _ q => q⟩
end
attribute [irreducible] denFnA denFnDA denDfA
end Go.Dn
/- Entries of the library's: slices.Collect over maps.Keys, at keys of the kind int. -/
namespace Go.Dn
open Go.Proofs Go.RowKit Go.Maps Go.Sort Go.Shelf Go.MapKept

def keyI (x : MapEntry) : Int := match x.key with | .int _ n => n | _ => 0
/-- A map whose keys are of the kind int, each with its stamp. -/
structure IntMap (es : Array MapEntry) (c : Nat) : Prop where
  stamped : Stamped es c
  size : es.size ≤ 17592186044416
  keys : ∀ x ∈ es.toList, ∃ n : Int, x.key = .int .i64 n ∧ (Lit.int .i64 n).wf = true
/-- The keys of the map that a closure of maps.Keys holds, in any order, in a new slice. -/
def clA (t : TypeId) (p : Option Addr) (Q : Sl → AP) : AP := fun A =>
  ∃ b m, p = some ⟨b, 0, none⟩ ∧ cellA A ⟨b, 0, none⟩ = some (.map m) ∧ match m with
    | none => Q Sl.nil A
    | some r => ∃ es c, A r = some (.map es c) ∧ IntMap es c ∧ ∀ ss : List Int, ss.Perm (es.toList.map keyI) →
        (ss = [] → Q Sl.nil A) ∧ ∀ (cap : Nat) (cur : Array Value), ss ≠ [] → ss.length ≤ cap → cur.size = cap → cur.toList.take ss.length = ss.map (.int .i64) →
          newA A (.cells cur t) fun g => Q ⟨some ⟨g, 0, none⟩, ss.length, cap⟩

theorem sim_below {A : AH} {L : Bx} {w w' : World} (s : Sim A L w.heap) (hb : Below w.heap.size w w') : Sim A L w'.heap := by
  refine ⟨fun b o e => ?_, fun e m => ?_, s.apart⟩
  · rw [hb.block b (s.lt e)]; exact s.sub b o e
  · obtain ⟨h1, h2⟩ := s.box e m
    exact ⟨h1, by rw [hb.block _ (s.boxLt m)]; exact h2⟩
theorem sim_below_new {A : AH} {L : Bx} {w w' : World} (s : Sim A L w.heap) (hb : Below w.heap.size w w') {g : Nat} {o : Obj} (hg : w.heap.size ≤ g) (ho : w'.heap[g]? = some o) : Sim (updA A g o) L w'.heap := by
  refine ⟨fun b o' e => ?_, fun e m => ?_, s.apart⟩
  · unfold updA at e
    split at e
    · rename_i q; subst q; rw [ho]; exact e
    · rw [hb.block b (s.lt e)]; exact s.sub b o' e
  · obtain ⟨h1, h2⟩ := s.box e m
    refine ⟨?_, by rw [hb.block _ (s.boxLt m)]; exact h2⟩
    unfold updA
    rw [if_neg (by have := s.boxLt m; omega)]
    exact h1
theorem sim_none {A : AH} {L : Bx} {h : Hp} (s : Sim A L h) {g : Nat} (hg : h.size ≤ g) : A g = none := by
  cases e : A g with
  | none => rfl
  | some o => exact absurd (s.lt e) (by omega)
theorem kin_below {B : Nat} {w w' : World} (h : Below B w w') : Kin false w w' := ⟨h.tape, h.os, h.output, fun e => by cases e⟩

abbrev RN : Value → Option (DataW Unit × List MemPlace) := fun _ => some (.nil, [])
theorem intMap_owns {P : Program} {k : TypeId} (hk : P.underlying k = some (.int .i64)) {w : World} {b : Nat} {es : Array MapEntry} {c : Nat} (hb : w.heap[b]? = some (.map es c)) (hm : IntMap es c) :
    ∃ D0 : DataW Unit, w.ownsMap P k RN b es.size D0 ∧ (intKeys D0).Perm (es.toList.map keyI) ∧ Maps.size D0 = es.size := by
  have hrd : ∀ x ∈ es.toList, ∃ n : Int, keyI x = n ∧ Go.WideElems.rd P k RN x = some (.int .i64 n, .nil) := by
    intro x hx
    obtain ⟨n, h1, h2⟩ := hm.keys x hx
    refine ⟨n, by simp [keyI, h1], ?_⟩
    have : keyOf P k x.key = some (.int .i64 n) := by
      simp [keyOf, hk, mapKey, h1, h2]
    simp [Go.WideElems.rd, this]
  refine ⟨.map ((es.toList.map (Go.WideElems.rg P k RN)).foldr DataW.insert []), ⟨es, c, hb, ⟨Nat.le_trans hm.size (by decide), hm.stamped, fun x hx => ?_⟩, Nat.le_refl _, rfl⟩, ?_, ?_⟩
  · obtain ⟨n, _, h⟩ := hrd x hx
    exact ⟨_, h⟩
  · show (((es.toList.map (Go.WideElems.rg P k RN)).foldr DataW.insert []).map fun p => intOf p.1).Perm _
    refine ((Go.WideShapes.sorted_perm _).map _).trans (List.Perm.of_eq ?_)
    rw [List.map_map]
    apply List.map_congr_left
    intro x hx
    obtain ⟨n, h1, h⟩ := hrd x hx
    simp [Go.WideElems.rg, h, intOf, h1]
  · rw [Maps.size_eq, (Go.WideShapes.sorted_perm _).length_eq]
    simp

theorem apS_fnp {f : Nat} {T : Type} {R : Option Addr → T} {args : List Value} {G : T → Prop} (h : apS [.fn f [] [.p]] T R args G) : ∃ p, args = [.func (.func f) #[] #[.pointer p]] ∧ G (R p) := by
  cases args with
  | nil => exact h.elim
  | cons v vs =>
    cases v with
    | func fn x y =>
      cases fn with
      | func g =>
        obtain ⟨x⟩ := x
        obtain ⟨y⟩ := y
        have h2 : (match Nat.beq g f with
          | true => apC [] (ArC [.p] (ArS [] T)) R x fun R1 => apC [.p] (ArS [] T) R1 y fun R2 => apS [] T R2 vs G
          | false => False) := h
        cases hb : Nat.beq g f with
        | false => rw [hb] at h2; exact h2.elim
        | true =>
          rw [hb] at h2
          have h3 : apC [] (ArC [.p] (ArS [] T)) R x fun R1 => apC [.p] (ArS [] T) R1 y fun R2 => apS [] T R2 vs G := h2
          clear h h2
          have hb := beqN.1 hb
          subst hb
          cases x with
          | cons _ _ => exact h3.elim
          | nil =>
            cases y with
            | nil => exact h3.elim
            | cons v ys =>
              cases v with
              | pointer p =>
                cases ys with
                | cons _ _ => exact h3.elim
                | nil =>
                  cases vs with
                  | cons _ _ => exact h3.elim
                  | nil => exact ⟨p, rfl, h3⟩
              | _ => exact h3.elim
      | _ => exact h.elim
    | _ => exact h.elim
theorem collect_ok {P : Program} {ρ ρ' : Ren} (L : SlLaysZI.n8 P ρ) (L' : SlLaysZI.n10 P ρ') {f g : FuncId} {t : TypeId} (hf : ρ.f 8 = f) (hg : ρ'.f 10 = g) (ht : ρ.t 26 = t) {W : ArS [.fn g [] [.p]] EnR} (hW : W = fun p K _ => clA t p fun s => K (.slice s.a s.len s.cap)) :
    EntryOK P f (upE (enS [.fn g [] [.p]] W)) := by
  subst hf hg ht hW
  refine ⟨fun xs w => L.f8.enters rfl xs w, fun args K Kp w ⟨A, L0, KA, KpA, s, hh, hk, _⟩ => ?_⟩
  have hh1 : apS [.fn (ρ'.f 10) [] [.p]] EnR (fun p K _ => clA (ρ.t 26) p fun s => K (.slice s.a s.len s.cap)) args fun f => f KA KpA A := hh
  clear hh
  obtain ⟨p, rfl, hh2⟩ := apS_fnp hh1
  clear hh1
  obtain ⟨b, m, rfl, hc, hh⟩ := hh2
  have hbl : b < w.heap.size := by
    have : (cellA A ⟨b, 0, none⟩).isSome = true := by rw [hc]; rfl
    obtain ⟨o, ho⟩ := s.obj this
    exact s.lt ho
  have hcell : w.cell? ⟨b, 0, none⟩ = some (.map m) := by
    have h0 := s.cell hc
    revert h0
    unfold cellH World.cell?
    simp only
    cases w.heap[b]? with
    | none => simp
    | some o => cases o <;> simp
  have eg : ∀ args w, (callFunc (ρ'.f 10) args).run P w = .ok (.enter (ρ'.f 10) args) w := L'.f10.enters rfl
  cases m with
  | none =>
    have cC := AnyZI.collect_in L Fence.wide 3 trivial trivial rfl (by omega) (ρ'.f 10) #[.pointer (some ⟨b, 0, none⟩)] trivial eg _ 0 (Nat.zero_le _) (by omega) w
      (AnyZI.keys_gives_nil L' Fence.wide _ trivial rfl b w hbl hcell)
    refine (callsIn_wide.1 cC).mono ?_
    rintro e w' ⟨v, ss, rfl, rfl, hrow, hnil, hb⟩
    refine ⟨kin_below hb, ?_⟩
    rw [hnil.2 rfl]
    exact hk _ A _ (sim_below s hb) hh
  | some r =>
    obtain ⟨es, c, hr, hm, hh⟩ := hh
    obtain ⟨D0, h1, h2, h3⟩ := intMap_owns (k := ρ'.t 26) L'.t26 (s.sub r _ hr) hm
    have hsz : Maps.size D0 ≤ 17592186044416 := by rw [h3]; exact hm.size
    have cC := AnyZI.collect_in L Fence.wide 3 trivial trivial rfl (by omega) (ρ'.f 10) #[.pointer (some ⟨b, 0, none⟩)] trivial eg _ (Maps.size D0) (Nat.le_trans hsz (by decide)) (by omega) w
      (AnyZI.keys_gives L' Fence.wide _ trivial rfl (by omega) b r _ D0 w hbl hcell h1)
    refine (callsIn_wide.1 cC).mono ?_
    rintro e w' ⟨v, ss, rfl, hS, hrow, hnil, hb⟩
    refine ⟨kin_below hb, ?_⟩
    obtain ⟨g1, g2⟩ := hh ss (hS.trans h2)
    by_cases he : ss = []
    · rw [hnil.2 he]
      exact hk _ A _ (sim_below s hb) (g1 he)
    · rcases hrow.2 with ⟨h4, _⟩ | ⟨g, cap, cur, rfl, h5, h6, h7, h8, h9, h10⟩
      · exact absurd (hnil.1 h4) he
      · have hbase : w.heap.size ≤ g := h5
        exact hk _ _ _ (sim_below_new s hb hbase h6) (g2 cap cur he h7 (by simpa using h9) (by simpa [encZ] using h10) g (sim_none s hbase))
end Go.Dn
