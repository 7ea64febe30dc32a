/- What the proof stands on: LawT, LawU, LawB, LawBack. -/
import Derived.Test.YtcdcmffcajlolaaSWorld
/- What the laws on tables read: the calls that are handed in. -/
namespace Go.Dn

variable {A : AH} {l R : List SP} {r b t : Nat} {N u : Int} {W W' : Int → Int → Int} {F G F' G' : Int → Prop} {root : Int} {tab : Tab} {lf : Int → Option Lf} {tl : List Int} {P : SP}
structure ActZ where
  kind : Int
  page : Int
  frame : Int
  w : Bool
  u : Bool
  x : Bool
def actCell (a : ActZ) : List Value := [.int .i64 a.kind, .int .i64 a.page, .int .i64 a.frame, .bool a.w, .bool a.u, .bool a.x]
def actCells (l : List ActZ) : List Value := l.flatMap actCell
theorem actCells_at : ∀ {l : List ActZ} {v : Nat} {a : ActZ} {c : Nat} {x : Value}, l[v]? = some a → (actCell a)[c]? = some x → (actCells l)[v * 6 + c]? = some x
  | [], v, a, c, x, h, _ => by simp at h
  | b :: r, 0, a, c, x, h, hc => by
    simp at h; subst h
    have hlt : c < 6 := (List.getElem?_eq_some_iff.1 hc).1
    unfold actCells
    rw [List.flatMap_cons, List.getElem?_append_left (by simp [actCell]; omega), Nat.zero_mul, Nat.zero_add]
    exact hc
  | b :: r, v + 1, a, c, x, h, hc => by
    have h : r[v]? = some a := by simpa using h
    unfold actCells
    rw [List.flatMap_cons, List.getElem?_append_right (by simp [actCell]; omega)]
    have : (v + 1) * 6 + c - (actCell b).length = v * 6 + c := by simp [actCell]; omega
    rw [this]
    exact actCells_at h hc
/-- A call that is handed in, read. -/
theorem rd_act {k : Nat} {s : Sl} {acts : List ActZ} {v : Nat} (h : Own l A) (e : l[k]? = some P) (hr : Reads P s 6 (actCells acts)) (hv : v < acts.length) :
    ∃ a bb o, acts[v]? = some a ∧ s.a = some ⟨bb, o, none⟩ ∧ cellA A ⟨bb, o + (v * 6 + 0), none⟩ = some (.int .i64 a.kind) ∧ cellA A ⟨bb, o + (v * 6 + 1), none⟩ = some (.int .i64 a.page) ∧ cellA A ⟨bb, o + (v * 6 + 2), none⟩ = some (.int .i64 a.frame) ∧
      cellA A ⟨bb, o + (v * 6 + 3), none⟩ = some (.bool a.w) ∧ cellA A ⟨bb, o + (v * 6 + 4), none⟩ = some (.bool a.u) ∧ cellA A ⟨bb, o + (v * 6 + 5), none⟩ = some (.bool a.x) := by
  obtain ⟨a, ha⟩ : ∃ a, acts[v]? = some a := ⟨acts[v], by simp [hv]⟩
  have rd := fun c x hx => rd_cell h e hr (j := v * 6 + c) (v := x) (actCells_at ha (c := c) hx)
  obtain ⟨bb, o, q1, c0⟩ := rd 0 _ rfl
  have same : ∀ {c : Nat} {x : Value}, (actCell a)[c]? = some x → cellA A ⟨bb, o + (v * 6 + c), none⟩ = some x := fun {c x} hx => by
    obtain ⟨b2, o2, q2, c2⟩ := rd c x hx
    rw [q1] at q2
    cases q2
    exact c2
  exact ⟨a, bb, o, ha, q1, c0, same rfl, same rfl, same rfl, same rfl, same rfl⟩
theorem rd_acts_len {k : Nat} {s : Sl} {acts : List ActZ} (h : Own l A) (e : l[k]? = some P) (hr : Reads P s 6 (actCells acts)) : s.len = acts.length := by
  have := rd_len h e hr
  have e2 : ∀ l : List ActZ, (actCells l).length = l.length * 6 := by
    intro l
    induction l with
    | nil => rfl
    | cons a r ih => unfold actCells at *; rw [List.flatMap_cons, List.length_append, ih]; simp [actCell]; omega
  rw [e2] at this
  omega
/-- The kernel's tables cost one frame and one for each 2^18 frames. -/
theorem TableKernel_spec {frames may : Int} {Q : Bool → AH → Prop} (h : Own R A) (hk : ∀ A', Own R A' → Q true A') (hb : -9223372036854775808 ≤ frames ∧ frames < 9223372036854775808) : demesnelaw09_TableKernel_A frames may Q A := by
  unfold demesnelaw09_TableKernel_A demesnelaw09_TableKernel_G
  refine ⟨fun h' => h' = A ∧ 20 ≤ frames ∧ frames ≤ 600000 ∧ 0 ≤ may ∧ may ≤ 1000, ?_, bsel_in (fun _ => awake_spec h hk) fun c1 => bsel_in (fun _ => awake_spec h hk) fun c2 => bsel_in (fun _ => awake_spec h hk) fun c3 => bsel_in (fun _ => awake_spec h hk) fun c4 => ⟨rfl, by simp at c1; omega, by simp at c2; omega, by simp at c3; omega, by simp at c4; omega⟩⟩
  intro A0 ⟨e0, f0, f1, m0, m1⟩
  subst e0
  refine ram_spec h ⟨by omega, by omega⟩ fun r A1 h1 => new_C (cs := [.int .i64 1, .int .i64 20]) h1 fun b4 A2 h2 => ?_
  have h2 : Own (SlAt ⟨some ⟨b4, 0, none⟩, 1, 1⟩ 2 (rangeCells [(1, 20)]) :: RamW r frames [] (fun _ _ => 0) :: R) A2 := h2.imp fun B hB => (at_slo (k := 1) (sz := 2) rfl hB).look
  refine bNew_spec (k := 0) (rs := [(1, 20)]) h2 rfl reads_slat (fun g => by simp at g) (fun _ g => by simp [okR] at g) fun _ _ b A3 h3 => ?_
  refine qNew_spec h3 (fun g => by omega) fun _ t A4 h4 => ?_
  have h4 : Own (RamW r frames [] (fun _ _ => 0) :: TreeS t [⟨-1, may, 0, 0, true⟩] :: Bud b (inR [(1, 20)]) (fun _ => False) (sizeR [(1, 20)]) :: SlAt ⟨some ⟨b4, 0, none⟩, 1, 1⟩ 2 (rangeCells [(1, 20)]) :: R) A4 := h4.pick 3 rfl
  have h4 : Own (RamW r frames [] (fun _ _ => 0) :: Bud b (inR [(1, 20)]) (fun _ => False) 19 :: TreeS t [⟨-1, may, 0, 0, true⟩] :: R) A4 := h4.cons fun C hC => hC.swap.cons fun D hD => hD.cons fun D2 hD2 => hD2.tail
  have hin : ∀ x, inR [(1, 20)] x → 1 ≤ x ∧ x < 20 := fun x hx => by simpa [inR] using hx
  have hne : ((needK frames : Nat) : Int) = (frames + 262143) / 262144 := by unfold needK; omega
  have hneed : IntKind.wrap .i64 (1 + Int.fdiv (IntKind.wrap .i64 (IntKind.wrap .i64 (frames + 262144) - 1)) (2 ^ (18 : Nat))) = 1 + (needK frames : Int) := by
    rw [w64 (n := frames + 262144) (by omega) (by omega), w64 (n := frames + 262144 - 1) (by omega) (by omega), shr_eq, hne, show ((2 : Int) ^ (18 : Nat)) = 262144 by rfl, w64 (by omega) (by omega)]
    omega
  have hn3 : (needK frames : Int) ≤ 3 := by omega
  refine ⟨fun h' => h' = A4, ?_, bsel_f rfl (bsel_f rfl (bsel_f rfl (bsel_f rfl (bsel_f rfl (bsel_f rfl rfl)))))⟩
  intro A5 e5
  subst e5
  rw [hneed]
  refine Kernel_spec (i := 0) h4 rfl rfl (fun x hx => has0.2 ?_) (by omega) (fun e W' A6 he _ hA => ?_) fun q1 q2 top ms W' A6 hlen hms _ hA => ?_
  · have := hin x hx; omega
  · simp only at he
    have he8 : e = 8 := by omega
    subst he8
    refine bsel_t (by simp; omega) ?_
    refine awake_spec hA fun A7 h7 => bsel_t rfl (bsel_t rfl ?_)
    refine Used_head (i := 0) (Own.rot3 h7) rfl rfl (bsel_t rfl (Free_head h7.swap ?_))
    exact hk A7 h7.tail.tail.tail
  · simp only at q1
    refine bsel_f (by simp; omega) ?_
    refine awake_spec hA fun A7 h7 => bsel_t rfl (bsel_t rfl ?_)
    have h7 : Own (RamW r frames [] W' :: Bud b (fun x => inR [(1, 20)] x ∧ x ∉ top :: ms) (fun x => False ∨ x ∈ top :: ms) (19 - (top :: ms).length) :: TreeS t [⟨-1, may, 0 + (top :: ms).length, 0, true⟩] :: R) A7 := h7
    have hl2 : ((top :: ms).length : Int) = 1 + needK frames := by simp [hlen]; omega
    refine Used_head (i := 0) (Own.rot3 h7) rfl rfl (bsel_t (by rw [hl2]; simp) (Free_head h7.swap ?_))
    rw [hl2, w64 (n := 19 - (1 + (needK frames : Int))) (by omega) (by omega)]
    have := hk A7 h7.tail.tail.tail
    simpa using this
end Go.Dn
/- A page that is protected leads where it did; pages that lie together share their tables. -/
namespace Go.Dn

variable {A : AH} {l R : List SP} {r b t : Nat} {N u base : Int} {W W' : Int → Int → Int} {F G F' G' : Int → Prop} {root : Int} {tab : Tab} {lf : Int → Option Lf} {tl : List Int} {P : SP} {cnt : Nat}
/-- One root with at most so many tables. -/
def Sg (N base : Int) (r b t : Nat) (root : Int) (R : List SP) (cnt : Nat) (A : AH) : Prop := ∃ F G W u tab lf, ∃ tl : List Int, StdP N F G ∧ Rest G W root tab lf tl ∧ u = base + tl.length ∧ tl.length ≤ cnt ∧ Own (StdO N r b t F G W u R) A
theorem Sg.map {p fm : Int} {pw pu px : Bool} {Q : Int → AH → Prop} (h : Sg N base r b t root R cnt A) (hb : 0 ≤ base) (hN : base + cnt + 4 ≤ N) (hk : ∀ e A', Sg N base r b t root R (cnt + 3) A' → Q e A') :
    table_Map_A (some ⟨r, 0, none⟩) (some ⟨b, 0, none⟩) (some ⟨t, 0, none⟩) 0 root p fm pw pu px Q A := by
  obtain ⟨F, G, W, u, tab, lf, tl, hp, hR, hu, hc, h⟩ := h
  refine sMap h hp ⟨by omega, by omega⟩ hR (fun _ => hk _ _ ⟨F, G, W, u, tab, lf, tl, hp, hR, hu, by omega, h⟩) (fun _ _ _ _ _ A' hA => hk _ _ ⟨F, G, W, u, tab, lf, tl, hp, hR, hu, by omega, hA⟩) fun _ _ _ _ _ tk W' tab' A' hlen _ hp' hR' _ hA => ?_
  have h3 : needT tab p ≤ 3 := by unfold needT; split <;> split <;> split <;> omega
  exact hk _ _ ⟨_, _, W', _, tab', _, tl ++ tk, hp', hR', by rw [hu, List.length_append]; omega, by rw [List.length_append]; omega, hA⟩
theorem ld_fI {bb o v c : Nat} {k : IntKind} {n : Int} {K : Int → Prop} (h : cellA A ⟨bb, o + (v * 6 + c), none⟩ = some (.int k n)) (hK : K n) : aI k (Addr.add (Addr.add ⟨bb, o, none⟩ (Int.toNat (v : Int) * 6)) c) A K :=
  ⟨n, by rw [add_at, add_at, Int.toNat_natCast, Nat.add_assoc]; exact h, hK⟩
theorem ld_fI0 {bb o v : Nat} {k : IntKind} {n : Int} {K : Int → Prop} (h : cellA A ⟨bb, o + (v * 6 + 0), none⟩ = some (.int k n)) (hK : K n) : aI k (Addr.add ⟨bb, o, none⟩ (Int.toNat (v : Int) * 6)) A K :=
  ⟨n, by rw [add_at, Int.toNat_natCast]; exact h, hK⟩
theorem ld_fB {bb o v c : Nat} {n : Bool} {K : Bool → Prop} (h : cellA A ⟨bb, o + (v * 6 + c), none⟩ = some (.bool n)) (hK : K n) : aB (Addr.add (Addr.add ⟨bb, o, none⟩ (Int.toNat (v : Int) * 6)) c) A K :=
  ⟨n, by rw [add_at, add_at, Int.toNat_natCast, Nat.add_assoc]; exact h, hK⟩
theorem ld_fB2 {bb o v c d : Nat} {n : Bool} {K : Bool → Prop} (h : cellA A ⟨bb, o + (v * 6 + (c + d)), none⟩ = some (.bool n)) (hK : K n) : aB (Addr.add (Addr.add (Addr.add ⟨bb, o, none⟩ (Int.toNat (v : Int) * 6)) c) d) A K :=
  ⟨n, by rw [add_at, add_at, add_at, Int.toNat_natCast, Nat.add_assoc, Nat.add_assoc]; exact h, hK⟩
/-- A round that maps what is handed in. -/
theorem mapRound {k v : Nat} {s : Sl} {acts : List ActZ} {root : Int} {Q : Int → AH → Prop} (h : Sg N base r b t root R cnt A) (e : R[k]? = some P) (hr : Reads P s 6 (actCells acts)) (hv : (v : Int) < Int.ofNat s.len) (hb : 0 ≤ base) (hN : base + cnt + 4 ≤ N)
    (hk : ∀ e A', Sg N base r b t root R (cnt + 3) A' → Q e A') :
    onSome s.a fun a23 => inB (v : Int) s.len (aI .i64 (Addr.add (Addr.add a23 (Int.toNat (v : Int) * 6)) 1) A fun n24 => onSome s.a fun a25 => inB (v : Int) s.len (aI .i64 (Addr.add (Addr.add a25 (Int.toNat (v : Int) * 6)) 2) A fun n26 =>
      onSome s.a fun a27 => inB (v : Int) s.len (aB (Addr.add (Addr.add a27 (Int.toNat (v : Int) * 6)) 3) A fun b28 => aB (Addr.add (Addr.add (Addr.add a27 (Int.toNat (v : Int) * 6)) 3) 1) A fun b29 => aB (Addr.add (Addr.add (Addr.add a27 (Int.toNat (v : Int) * 6)) 3) 2) A fun b30 =>
        table_Map_A (some ⟨r, 0, none⟩) (some ⟨b, 0, none⟩) (some ⟨t, 0, none⟩) 0 root n24 n26 b28 b29 b30 Q A))) := by
  have h0 := h
  obtain ⟨F, G, W, u, tab, lf, tl, _, _, _, _, hA⟩ := h0
  have e3 : (StdO N r b t F G W u R)[k + 3]? = some P := by unfold StdO; simpa using e
  have hl := rd_acts_len hA e3 hr
  have hv0 : (v : Int) < s.len := hv
  have hv2 : v < acts.length := by omega
  obtain ⟨a, bb, o, _, hs, c0, c1, c2, c3, c4, c5⟩ := rd_act hA e3 hr hv2
  rw [hs]
  refine inB_in (by omega) hv0 (ld_fI c1 (inB_in (by omega) hv0 (ld_fI c2 (inB_in (by omega) hv0 (ld_fB c3 (ld_fB2 c4 (ld_fB2 c5 ?_)))))))
  exact Sg.map h hb hN hk
theorem TableUses_spec {s : Sl} {acts : List ActZ} {k : Nat} {page : Int} {pw pu px : Bool} {Q : Bool → AH → Prop} (h : Own R A) (e : R[k]? = some P) (hr : Reads P s 6 (actCells acts)) (hk : ∀ A', Own R A' → Q true A') : demesnelaw09_TableUses_A s page pw pu px Q A := by
  unfold demesnelaw09_TableUses_A demesnelaw09_TableUses_G
  refine sPurse (N := 90) h ⟨by omega, by omega⟩ fun r b t A1 hp1 h1 => bsel_f rfl ?_
  refine sKernel h1 hp1 ⟨by omega, by omega⟩ fun top mid A2 W2 ht hm hK hp2 h2 => ?_
  have hrt := has0.1 (hp1.inF top ht)
  refine sRoot h2 hp2 ⟨by omega, by omega⟩ (by omega) ⟨hrt.1, by omega⟩ fun root A3 W3 hr' hp3 hR hW hW2 _ h3 => ?_
  refine ⟨fun h' => Sg 90 2 r b t root R 1 h', ?_, bsel_f rfl (bsel_f rfl ⟨_, _, W3, _, _, _, [root], hp3, hR, rfl, by simp, h3⟩)⟩
  intro A4 h4
  refine ⟨fun h' => Sg 90 2 r b t root R 61 h', ?_, ⟨fun x m h' => ∃ v : Nat, x = v ∧ m + v = 20 ∧ Sg 90 2 r b t root R (1 + 3 * v) h', ⟨20, 0, rfl, rfl, h4⟩, ?_⟩⟩
  rotate_left
  · intro x m A5 ⟨v, e1, e2, h5⟩
    subst e1
    have h61 : Sg 90 2 r b t root R 61 A5 := by
      obtain ⟨F, G, W, u, tab, lf, tl, p1, p2, p3, p4, p5⟩ := h5
      exact ⟨F, G, W, u, tab, lf, tl, p1, p2, p3, by omega, p5⟩
    refine bsel_in (fun c => bsel_in (fun d => ?_) fun _ => h61) fun _ => h61
    have c : (v : Int) < Int.ofNat s.len := of_decide_eq_true c
    have d : (v : Int) < 20 := of_decide_eq_true d
    refine mapRound h5 e hr c (by omega) (by omega) fun _ A6 h6 => ⟨m - 1, by omega, v + 1, by rw [w64] <;> omega, by omega, h6⟩
  intro A5 ⟨F, G, W, u, tab, lf, tl, hp, hR5, hu, hc, h5⟩
  have fin : ∀ {A F G W u B}, Own (StdO 90 r b t F G W u R) A → Q B A → True := fun _ _ => trivial
  cases hx : lf page with
  | none =>
    refine RQuery_spec h5 hp.inG hR5 (fun _ A6 h6 => ?_) fun x hx2 => by rw [hx] at hx2; cases hx2
    refine sUsed h6 (RProtect_spec h6 hp.inG hR5 (fun _ A7 h7 => ?_) fun x hx2 => by rw [hx] at hx2; cases hx2)
    refine RQuery_spec h7 hp.inG hR5 (fun _ A8 h8 => ?_) fun x hx2 => by rw [hx] at hx2; cases hx2
    refine bsel_f rfl (bsel_f rfl (bsel_f rfl (sUsed h8 (bsel_f (by simp) ?_))))
    exact awake_spec h8 fun A9 h9 => bsel_t rfl (bsel_f rfl (bsel_t rfl (hk A9 (Own.tail (Own.tail (Own.tail h9))))))
  | some x =>
    refine RQuery_spec h5 hp.inG hR5 (fun hx2 => by rw [hx] at hx2; cases hx2) fun y hy A6 h6 => ?_
    rw [hx] at hy
    cases hy
    refine sUsed h6 (RProtect_spec h6 hp.inG hR5 (fun hx2 => by rw [hx] at hx2; cases hx2) fun y hy W' A7 hR7 _ _ h7 => ?_)
    rw [hx] at hy
    cases hy
    have hself : setL lf page (some ⟨x.frame, pw, pu, px⟩) page = some ⟨x.frame, pw, pu, px⟩ := by unfold setL; rw [if_pos rfl]
    refine RQuery_spec h7 hp.inG hR7 (fun hx2 => by rw [hself] at hx2; cases hx2) fun y hy A8 h8 => ?_
    rw [hself] at hy
    cases hy
    have h8 : Own (StdO 90 r b t F G W' u R) A8 := h8
    refine bsel_f rfl (bsel_f rfl (bsel_f (by simp) (sUsed h8 (bsel_f (by simp) ?_))))
    refine awake_spec h8 fun A9 h9 => bsel_t rfl (bsel_t rfl (bsel_t ?_ (hk A9 (Own.tail (Own.tail (Own.tail h9))))))
    simp
end Go.Dn
/- Pages that lie together share their tables; when all pages lead nowhere just the root is left. -/
namespace Go.Dn

variable {A : AH} {l R : List SP} {r b t : Nat} {N u base : Int} {W W' : Int → Int → Int} {F G F' G' : Int → Prop} {root : Int} {tab : Tab} {lf : Int → Option Lf} {tl : List Int} {P : SP} {cnt : Nat}
theorem rise_ext : ∀ {l m : List Int}, l.Pairwise (· < ·) → m.Pairwise (· < ·) → (∀ x, x ∈ l ↔ x ∈ m) → l = m
  | [], [], _, _, _ => rfl
  | [], y :: m, _, _, h => by have := (h y).2 List.mem_cons_self; simp at this
  | x :: l, [], _, _, h => by have := (h x).1 List.mem_cons_self; simp at this
  | x :: l, y :: m, hl, hm, h => by
    obtain ⟨l1, l2⟩ := List.pairwise_cons.1 hl
    obtain ⟨m1, m2⟩ := List.pairwise_cons.1 hm
    have e : x = y := by
      rcases List.mem_cons.1 ((h x).1 List.mem_cons_self) with e | e
      · exact e
      · rcases List.mem_cons.1 ((h y).2 List.mem_cons_self) with e2 | e2
        · exact e2.symm
        · have := m1 x e; have := l1 y e2; omega
    subst e
    rw [rise_ext l2 m2 fun z => ?_]
    constructor
    · intro hz
      rcases List.mem_cons.1 ((h z).1 (List.mem_cons_of_mem _ hz)) with e | e
      · have := l1 z hz; omega
      · exact e
    · intro hz
      rcases List.mem_cons.1 ((h z).2 (List.mem_cons_of_mem _ hz)) with e | e
      · have := m1 z hz; omega
      · exact e
/-- The same, the pages told. -/
def Sf (N base : Int) (r b t : Nat) (root : Int) (R : List SP) (cnt : Nat) (lf : Int → Option Lf) (A : AH) : Prop := ∃ F G W u tab, ∃ tl : List Int, StdP N F G ∧ Rest G W root tab lf tl ∧ u = base + tl.length ∧ tl.length ≤ cnt ∧ Own (StdO N r b t F G W u R) A
theorem Sg.sf (h : Sg N base r b t root R cnt A) : ∃ lf, Sf N base r b t root R cnt lf A := by
  obtain ⟨F, G, W, u, tab, lf, tl, h⟩ := h
  exact ⟨lf, F, G, W, u, tab, tl, h⟩
theorem Sf.sg (h : Sf N base r b t root R cnt lf A) : Sg N base r b t root R cnt A := by
  obtain ⟨F, G, W, u, tab, tl, h⟩ := h
  exact ⟨F, G, W, u, tab, lf, tl, h⟩
theorem Sf.rest (h : Sf N base r b t root R cnt lf A) : Own R A := by
  obtain ⟨F, G, W, u, tab, tl, _, _, _, _, h⟩ := h
  exact Own.tail (Own.tail (Own.tail h))
theorem Sf.subR {R' : List SP} (h : Sf N base r b t root R cnt lf A) (hs : R'.Sublist R) : Sf N base r b t root R' cnt lf A := by
  obtain ⟨F, G, W, u, tab, tl, h1, h2, h3, h4, h⟩ := h
  refine ⟨F, G, W, u, tab, tl, h1, h2, h3, h4, ?_⟩
  unfold StdO at *
  exact h.sub (((hs.cons_cons _).cons_cons _).cons_cons _)
theorem Sf.unmap {p : Int} {Q : Int → Int → AH → Prop} (h : Sf N base r b t root R cnt lf A) (hb : 0 ≤ base) (hx : lf p ≠ none) (hk : ∀ x A', lf p = some x → Sf N base r b t root R cnt (setL lf p none) A' → Q x.frame 0 A') :
    table_Unmap_A (some ⟨r, 0, none⟩) (some ⟨b, 0, none⟩) (some ⟨t, 0, none⟩) 0 root p Q A := by
  obtain ⟨F, G, W, u, tab, tl, hp, hR, hu, hc, h⟩ := h
  refine sUnmap h hp (by omega) hR (fun g => absurd g hx) fun x gl W' tab' tl' A' hl hg hlen _ hp' hR' _ hA => hk x A' hl ⟨_, _, W', _, tab', tl', hp', hR', ?_, by omega, hA⟩
  omega
theorem Sf.pages {bx : Int} {pb pt : Option Addr} {Q : Sl → AH → Prop} (h : Sf N base r b t root R cnt lf A)
    (hk : ∀ s ps A', s.len = ps.length → (s.a = none → ps = []) → ps.Pairwise (· < ·) → (∀ p, p ∈ ps ↔ lf p ≠ none) → Sf N base r b t root (SlO s 1 (intsV ps) :: R) cnt lf A' → Q s A') :
    table_Pages_A (some ⟨r, 0, none⟩) pb pt bx root Q A := by
  obtain ⟨F, G, W, u, tab, tl, hp, hR, hu, hc, h⟩ := h
  refine RPages_spec h hp.inG hR fun s ps A' h1 h2 h3 h4 hA => hk s ps A' h1 h2 h3 h4 ⟨F, G, W, u, tab, tl, hp, hR, hu, hc, ?_⟩
  exact ((hA.pick 3 rfl).pick 3 rfl).pick 2 rfl
theorem Sf.at {k : Nat} (h : Sf N base r b t root R cnt lf A) (e : R[k]? = some P) {C : Prop} (hk : ∀ l : List SP, l[k + 3]? = some P → Own l A → C) : C := by
  obtain ⟨F, G, W, u, tab, tl, hp, hR, hu, hc, h⟩ := h
  exact hk _ (by unfold StdO; simpa using e) h
/-- Without pages there is the root alone. -/
theorem Rest.bare (h : Rest G W root tab lf tl) (hn : ∀ p, lf p = none) : tl = [root] := by
  have hm : ∀ f, f ∈ tl ↔ f = root := fun f => by
    rw [h.mem]
    constructor
    · rintro ⟨k, q, e⟩
      rcases Nat.eq_zero_or_pos k with hk | hk
      · subst hk; exact ((h.T.root q f).1 e).2
      · obtain ⟨p, x, hp, _⟩ := h.low k q f e hk
        rw [hn p] at hp; cases hp
    · rintro rfl; exact ⟨0, 0, (h.T.root 0 f).2 ⟨rfl, rfl⟩⟩
  have hl : tl.length = 1 := by
    refine Nat.le_antisymm ?_ (List.length_pos_of_mem ((hm root).2 rfl))
    have := nodup_le (l := [root]) h.nd fun x hx => by simp [(hm x).1 hx]
    simpa using this
  obtain ⟨x, hx⟩ := List.length_eq_one_iff.1 hl
  have := (hm x).1 (by rw [hx]; simp)
  rw [hx, this]
set_option maxHeartbeats 1000000 in
theorem TableNear_spec {front from_ n : Int} {Q : Bool → AH → Prop} (h : Own R A) (hb : (-9223372036854775808 ≤ from_ ∧ from_ < 9223372036854775808) ∧ -9223372036854775808 ≤ n ∧ n < 9223372036854775808) (hk : ∀ A', Own R A' → Q true A') : demesnelaw09_TableNear_A front from_ n Q A := by
  unfold demesnelaw09_TableNear_A demesnelaw09_TableNear_G
  refine ⟨fun h' => h' = A ∧ 0 ≤ front ∧ front < 67108864 ∧ 0 ≤ from_ ∧ 1 ≤ n ∧ n ≤ 200 ∧ from_ + n ≤ 512, ?_, bsel_in (fun _ => awake_spec h hk) fun c1 => bsel_in (fun _ => awake_spec h hk) fun c2 => bsel_in (fun _ => awake_spec h hk) fun c3 => bsel_in (fun _ => awake_spec h hk) fun c4 =>
    bsel_in (fun _ => awake_spec h hk) fun c5 => bsel_in (fun _ => awake_spec h hk) fun c6 => bsel_in (fun _ => awake_spec h hk) fun c7 => ?_⟩
  rotate_left
  · have c1 := of_decide_eq_false c1
    have c2 := of_decide_eq_false c2
    have c3 := of_decide_eq_false c3
    have c4 := of_decide_eq_false c4
    have c5 := of_decide_eq_false c5
    have c6 := of_decide_eq_false c6
    have c7 := of_decide_eq_false c7
    rw [w64 (by omega) (by omega)] at c7
    exact ⟨rfl, by omega, by omega, by omega, by omega, by omega, by omega⟩
  intro A0 ⟨e0, f0, f1, g0, n0, n1, fn⟩
  subst e0
  rw [w64 (n := front * 512) (by omega) (by omega), w64 (n := front * 512 + from_) (by omega) (by omega)]
  refine sPurse (N := 20) h ⟨by omega, by omega⟩ fun r b t A1 hp1 h1 => bsel_f rfl ?_
  refine sKernel h1 hp1 ⟨by omega, by omega⟩ fun top mid A2 W2 ht hm hK hp2 h2 => ?_
  have hrt := has0.1 (hp1.inF top ht)
  refine sRoot h2 hp2 ⟨by omega, by omega⟩ (by omega) ⟨hrt.1, by omega⟩ fun root A3 W3 hr' hp3 hR hW hW2 _ h3 => sUsed h3 ?_
  refine ⟨fun h' => h' = A3, ?_, bsel_f rfl (bsel_f rfl rfl)⟩
  intro A4 e4
  subst e4
  rw [show (2 : Int) + 1 = 3 by omega, w64 (n := 3 + 3) (by omega) (by omega)]
  refine ⟨fun x m h' => ∃ (v : Nat) (F G : Int → Prop) (W : Int → Int → Int) (u : Int) (tab : Tab) (lf : Int → Option Lf) (tl : List Int), x = v ∧ (v : Int) ≤ n ∧ m + v = 200 ∧ StdP 20 F G ∧ Rest G W root tab lf tl ∧ u = 2 + tl.length ∧ (v = 0 ∧ tab = tab0 root ∧ tl.length = 1 ∨ 1 ≤ v ∧ tl.length = 4) ∧
      (∀ p, lf p ≠ none ↔ front * 512 + from_ ≤ p ∧ p < front * 512 + from_ + v) ∧ Own (StdO 20 r b t F G W u R) h', ⟨200, 0, _, _, W3, _, tab0 root, _, [root], rfl, by omega, rfl, hp3, hR, rfl, .inl ⟨rfl, rfl, rfl⟩, fun p => ⟨fun z => absurd rfl z, fun z => by omega⟩, h3⟩, ?_⟩
  intro x m A5 ⟨v, F, G, W, u, tab, lf, tl, e1, e2, e3, hp, hR5, hu, hcase, hlf, h5⟩
  subst e1
  refine bsel_in (fun c => ?_) fun c => ?_
  · have c : (v : Int) < n := of_decide_eq_true c
    rw [w64 (n := front * 512 + from_ + v) (by omega) (by omega)]
    have hnone : lf (front * 512 + from_ + v) = none := by
      cases e : lf (front * 512 + from_ + v) with
      | none => rfl
      | some y => have := (hlf _).1 (by rw [e]; simp); omega
    have htl : tl.length ≤ 4 := by rcases hcase with z | z <;> omega
    refine sMap h5 hp ⟨by omega, by omega⟩ hR5 (fun z => by omega) (fun _ _ _ _ z => absurd hnone z) fun _ _ _ _ _ tk W' tab' A6 hlen _ hp' hR6 _ h6 => bsel_f rfl (sUsed h6 ?_)
    have hl4 : (tl ++ tk).length = 4 := by
      rw [List.length_append, hlen]
      rcases hcase with ⟨z1, z2, z3⟩ | ⟨z1, z2⟩
      · rw [z2, z3]
        unfold needT tab0
        simp
      · rw [z2]
        have hfirst : lf (front * 512 + from_) ≠ none := (hlf _).2 ⟨by omega, by omega⟩
        obtain ⟨y, hy⟩ : ∃ y, lf (front * 512 + from_) = some y := by
          cases e : lf (front * 512 + from_) with
          | none => exact absurd e hfirst
          | some y => exact ⟨y, rfl⟩
        have hch := hR5.T.chain (by constructor <;> omega) hy
        have same : ∀ k, k ≤ 3 → preP (front * 512 + from_ + v) k = preP (front * 512 + from_) k := fun k hk => by
          refine preP_mono (k := 3) (by omega) hk ?_ (by constructor <;> omega) (by constructor <;> omega)
          simp only [preP]; omega
        unfold needT
        rw [same 1 (by omega), same 2 (by omega), same 3 (by omega), if_neg (hch 1 (by omega)), if_neg (hch 2 (by omega)), if_neg (hch 3 (by omega))]
    have hu6 : u + (tk.length : Int) = 6 := by
      rw [List.length_append] at hl4; omega
    rw [hu6]
    refine bsel_f rfl ⟨m - 1, by omega, v + 1, _, _, W', _, tab', _, tl ++ tk, by rw [w64] <;> omega, by omega, by omega, hp', hR6, rfl, .inr ⟨by omega, hl4⟩, fun p => ?_, by rw [show (2 : Int) + ((tl ++ tk).length : Int) = u + tk.length by rw [List.length_append]; omega]; exact h6⟩
    unfold setL
    by_cases e : p = front * 512 + from_ + v
    · rw [if_pos e]; simp; omega
    · rw [if_neg e, hlf]; omega
  · have c : ¬(v : Int) < n := of_decide_eq_false c
    have hv : (v : Int) = n := by omega
    have hsf : Sf 20 2 r b t root R 4 lf A5 := ⟨F, G, W, u, tab, tl, hp, hR5, hu, by rcases hcase with z | z <;> omega, h5⟩
    refine hsf.pages fun s ps A6 hl hs hrise hmem h6 => ?_
    have hps : ps = (List.range v).map fun i : Nat => front * 512 + from_ + i := by
      refine rise_ext hrise ?_ fun p => ?_
      · rw [List.pairwise_map]
        exact List.pairwise_lt_range.imp fun h => by omega
      · rw [hmem, hlf]
        simp only [List.mem_map, List.mem_range]
        constructor
        · rintro ⟨z1, z2⟩; exact ⟨(p - (front * 512 + from_)).toNat, by omega, by omega⟩
        · rintro ⟨i, z1, z2⟩; omega
    have hat : ∀ i, i < v → ps[i]? = some (front * 512 + from_ + i) := fun i hi => by
      rw [hps, List.getElem?_map, List.getElem?_range hi]; rfl
    have hlen : ps.length = v := by rw [hps]; simp
    have hsa : s.a ≠ none := fun z => by have := hs z; rw [this] at hlen; simp at hlen; omega
    obtain ⟨a, ha⟩ := sl_some hsa
    refine awake_spec h6.rest fun A7 h7 => bsel_t rfl (bsel_t ?_ ?_)
    · rw [hl, hlen, ← hv]; exact beq_self_eq_true _
    rw [ha]
    refine inB_in (by omega) (by omega) (ld_sl (k := 0) (j := 0) h7 rfl (hat 0 (by omega)) ha ?_)
    refine bsel_t (by simp) ?_
    rw [w64 (n := n - 1) (by omega) (by omega)]
    refine inB_in (by omega) (by omega) ?_
    rw [show Int.toNat (n - 1) * 1 = v - 1 by omega]
    refine ld_sl (k := 0) (j := v - 1) h7 rfl (hat (v - 1) (by omega)) ha ?_
    rw [w64 (n := front * 512 + from_ + n) (by omega) (by omega), w64 (n := front * 512 + from_ + n - 1) (by omega) (by omega)]
    have e : (front * 512 + from_ + ((v - 1 : Nat) : Int) == front * 512 + from_ + n - 1) = true := by
      rw [beq_iff_eq]; omega
    rw [e]
    exact hk A7 h7.tail
end Go.Dn
/- When all pages lead nowhere just the root is left. -/
namespace Go.Dn

variable {A : AH} {l R : List SP} {r b t : Nat} {N u base : Int} {W W' : Int → Int → Int} {F G F' G' : Int → Prop} {root : Int} {tab : Tab} {lf : Int → Option Lf} {tl : List Int} {P P2 : SP} {cnt : Nat}
def oneCell (x : Int) : List Value := [.int .i64 x]
theorem flat_one : ∀ l : List Int, l.flatMap oneCell = intsV l
  | [] => rfl
  | x :: l => by rw [List.flatMap_cons, flat_one l]; rfl
theorem rd_int {k v : Nat} {s : Sl} {os : List Int} (h : Own l A) (e : l[k]? = some P) (hr : Reads P s 1 (os.flatMap oneCell)) (hv : (v : Int) < s.len) : ∃ x a, os[v]? = some x ∧ s.a = some a ∧ ∀ K : Int → Prop, K x → aI .i64 (Addr.add a (Int.toNat (v : Int) * 1)) A K := by
  rw [flat_one] at hr
  have hl := rd_len h e hr
  simp only [intsV, List.length_map] at hl
  have hv2 : v < os.length := by omega
  obtain ⟨bb, o, q1, q2⟩ := rd_cell h e hr (j := v) (v := .int .i64 os[v]) (by simp [intsV, hv2])
  exact ⟨os[v], _, by simp [hv2], q1, fun K hK => ⟨os[v], by rw [add_at, show Int.toNat (v : Int) * 1 = v by omega]; exact q2, hK⟩⟩
theorem Sf.pr (h : Sf N base r b t root R cnt lf A) {ps : List Int} (hr : ps.Pairwise (· < ·)) (hm : ∀ p, p ∈ ps ↔ lf p ≠ none) : (ps.length : Int) ≤ 34359738368 := by
  obtain ⟨F, G, W, u, tab, tl, hp, hR, hu, hc, h⟩ := h
  have := rise_len (N := 34359738368) ps 0 hr fun x hx => by
    obtain ⟨y, hy⟩ : ∃ y, lf x = some y := by
      cases e : lf x with
      | none => exact absurd e ((hm x).1 hx)
      | some y => exact ⟨y, rfl⟩
    exact hR.pr x y hy
  omega
theorem Sf.used {x y : Option Addr} {Q : Int → AH → Prop} (h : Sf N base r b t root R cnt lf A) (hn : ∀ p, lf p = none) (hk : Q (base + 1) A) : demesnelaw09_Used_A x y (some ⟨t, 0, none⟩) 0 Q A := by
  obtain ⟨F, G, W, u, tab, tl, hp, hR, hu, hc, h⟩ := h
  have e := hR.bare hn
  subst e
  subst hu
  exact sUsed h hk
set_option maxHeartbeats 1000000 in
theorem TableBack_spec {s s2 : Sl} {acts : List ActZ} {os : List Int} {k k2 : Nat} {Q : Bool → AH → Prop} (h : Own R A) (e : R[k]? = some P) (hr : Reads P s 6 (actCells acts)) (e2 : R[k2]? = some P2) (hr2 : Reads P2 s2 1 (os.flatMap oneCell)) (hk : ∀ A', Own R A' → Q true A') :
    demesnelaw09_TableBack_A s s2 Q A := by
  unfold demesnelaw09_TableBack_A demesnelaw09_TableBack_G
  refine sPurse (N := 140) h ⟨by omega, by omega⟩ fun r b t A1 hp1 h1 => bsel_f rfl ?_
  refine sKernel h1 hp1 ⟨by omega, by omega⟩ fun top mid A2 W2 ht hm hK hp2 h2 => sUsed h2 ?_
  have hrt := has0.1 (hp1.inF top ht)
  refine sRoot h2 hp2 ⟨by omega, by omega⟩ (by omega) ⟨hrt.1, by omega⟩ fun root A3 W3 hr' hp3 hR hW hW2 _ h3 => ?_
  refine ⟨fun h' => Sg 140 2 r b t root R 1 h', ?_, bsel_f rfl (bsel_f rfl ⟨_, _, W3, _, _, _, [root], hp3, hR, rfl, by simp, h3⟩)⟩
  intro A4 h4
  refine ⟨fun h' => Sg 140 2 r b t root R 91 h', ?_, ⟨fun x m h' => ∃ v : Nat, x = v ∧ m + v = 30 ∧ Sg 140 2 r b t root R (1 + 3 * v) h', ⟨30, 0, rfl, rfl, h4⟩, ?_⟩⟩
  rotate_left
  · intro x m A5 ⟨v, e1, e3, h5⟩
    subst e1
    have h91 : Sg 140 2 r b t root R 91 A5 := by
      obtain ⟨F, G, W, u, tab, lf, tl, p1, p2, p3, p4, p5⟩ := h5
      exact ⟨F, G, W, u, tab, lf, tl, p1, p2, p3, by omega, p5⟩
    refine bsel_in (fun c => bsel_in (fun d => ?_) fun _ => h91) fun _ => h91
    have c : (v : Int) < Int.ofNat s.len := of_decide_eq_true c
    have d : (v : Int) < 30 := of_decide_eq_true d
    exact mapRound h5 e hr c (by omega) (by omega) fun _ A6 h6 => ⟨m - 1, by omega, v + 1, by rw [w64] <;> omega, by omega, h6⟩
  intro A5 h5
  refine ⟨fun h' => Sg 140 2 r b t root R 91 h', ?_, ⟨fun x m h' => ∃ v : Nat, x = v ∧ m + v = 60 ∧ Sg 140 2 r b t root R 91 h', ⟨60, 0, rfl, rfl, h5⟩, ?_⟩⟩
  rotate_left
  · intro x m A6 ⟨v, e1, e3, h6⟩
    subst e1
    refine ⟨fun h' => h' = A6 ∧ (v : Int) < Int.ofNat s2.len ∧ (v : Int) < 60, ?_, bsel_in (fun c => bsel_in (fun d => ⟨rfl, of_decide_eq_true c, of_decide_eq_true d⟩) fun _ => h6) fun _ => h6⟩
    intro A7 ⟨e4, c, d⟩
    subst e4
    have c : (v : Int) < s2.len := c
    refine ⟨fun h' => Sg 140 2 r b t root R 91 h', fun A8 h8 => ⟨m - 1, by omega, v + 1, by rw [w64] <;> omega, by omega, h8⟩, ?_⟩
    obtain ⟨lf, h7⟩ := h6.sf
    refine h7.pages fun s43 ps A8 hl hs hrise hmem h8 => ?_
    have e5 : (SlO s43 1 (intsV ps) :: R)[k2 + 1]? = some P2 := by simpa using e2
    refine h8.at e5 fun l0 el hO => ?_
    obtain ⟨x, a, hx, ha, hld⟩ := rd_int hO el hr2 c
    have h9 : Sg 140 2 r b t root R 91 A8 := (h8.subR (List.sublist_cons_self _ _)).sg
    rw [ha]
    refine ⟨fun bo h' => h' = A8 ∧ (bo = true → 0 ≤ x ∧ x < s43.len), ?_, ?_⟩
    · intro bo A9 ⟨e6, hbo⟩
      subst e6
      refine bsel_in (fun g => ?_) fun _ => h9
      obtain ⟨x0, x1⟩ := hbo g
      refine inB_in (by omega) c (hld _ ?_)
      have hsa : s43.a ≠ none := fun z => by have := hs z; rw [this] at hl; simp at hl; omega
      obtain ⟨a2, ha2⟩ := sl_some hsa
      rw [ha2]
      refine inB_in x0 x1 ?_
      have hps : ps[x.toNat]? = some (ps[x.toNat]'(by omega)) := by simp
      rw [Nat.mul_one]
      have e7 : (SlO s43 1 (intsV ps) :: R)[0]? = some (SlO s43 1 (intsV ps)) := rfl
      refine h8.at e7 fun l1 el1 hO1 => ld_sl hO1 el1 hps ha2 ?_
      refine (h8.subR (List.sublist_cons_self _ _)).unmap (by omega) ((hmem _).1 (List.mem_of_getElem? hps)) fun y A10 _ h10 => bsel_f rfl h10.sg
    · refine inB_in (by omega) c (hld _ (bsel_in (fun g => inB_in (by omega) c (hld _ ⟨rfl, fun z => ⟨of_decide_eq_true g, of_decide_eq_true z⟩⟩)) fun _ => ⟨rfl, fun z => by cases z⟩))
  intro A6 h6
  obtain ⟨lf, h6⟩ := h6.sf
  refine h6.pages fun s61 ps A7 hl hs hrise hmem h7 => ?_
  have hpsl := h7.pr hrise hmem
  refine ⟨fun x m h' => ∃ (v : Nat) (lf' : Int → Option Lf), x = v ∧ m + v = ps.length ∧ (∀ p, lf' p ≠ none ↔ p ∈ ps.drop v) ∧ Sf 140 2 r b t root (SlO s61 1 (intsV ps) :: R) 91 lf' h', ⟨ps.length, 0, lf, rfl, rfl, fun p => by rw [List.drop_zero]; exact (hmem p).symm, h7⟩, ?_⟩
  intro x m A8 ⟨v, lf', e1, e3, hlf, h8⟩
  subst e1
  refine bsel_in (fun c => ?_) fun c => ?_
  · have c : (v : Int) < Int.ofNat s61.len := of_decide_eq_true c
    have c : (v : Int) < s61.len := c
    have hv : v < ps.length := by omega
    have hsa : s61.a ≠ none := fun z => by have := hs z; rw [this] at hv; simp at hv
    obtain ⟨a2, ha2⟩ := sl_some hsa
    have hps : ps[v]? = some ps[v] := by simp [hv]
    rw [ha2]
    refine inB_in (by omega) c ?_
    rw [show Int.toNat (v : Int) * 1 = v by omega]
    have e7 : (SlO s61 1 (intsV ps) :: R)[0]? = some (SlO s61 1 (intsV ps)) := rfl
    refine h8.at e7 fun l1 el1 hO1 => ld_sl hO1 el1 hps ha2 ?_
    have hin : ps[v] ∈ ps.drop v := by rw [List.drop_eq_getElem_cons hv]; exact List.mem_cons_self
    refine h8.unmap (by omega) ((hlf _).2 hin) fun y A9 _ h9 => bsel_f rfl ⟨m - 1, by omega, v + 1, _, by rw [w64] <;> omega, by omega, fun p => ?_, h9⟩
    have hnd : (ps.drop v).Nodup := by
      refine List.Nodup.sublist (List.drop_sublist _ _) ?_
      exact hrise.imp fun h => by omega
    rw [List.drop_eq_getElem_cons hv] at hnd hlf
    unfold setL
    by_cases g : p = ps[v]
    · rw [if_pos g]
      refine ⟨fun z => absurd rfl z, fun z => ?_⟩
      rw [g] at z
      exact absurd z (List.nodup_cons.1 hnd).1
    · rw [if_neg g, hlf, List.mem_cons]
      exact ⟨fun z => z.resolve_left g, fun z => .inr z⟩
  · have c : ¬(v : Int) < Int.ofNat s61.len := of_decide_eq_false c
    have c : ¬(v : Int) < s61.len := c
    have hn : ∀ p, lf' p = none := fun p => by
      cases g : lf' p with
      | none => rfl
      | some y =>
        have := (hlf p).1 (by rw [g]; simp)
        rw [List.drop_eq_nil_of_le (by omega)] at this
        simp at this
    obtain ⟨F, G, W, u, tab, tl, hp, hR8, hu, hc, hO⟩ := h8
    refine awake_spec hO fun A9 h9 => bsel_t rfl ?_
    have e9 := hR8.bare hn
    subst e9
    have hu : u = 3 := by simp at hu; omega
    subst hu
    refine sUsed h9 (bsel_t rfl ?_)
    refine RDrop_spec (i := 0) h9 rfl rfl (by simp) hp.inG hR8 (fun ⟨p, z⟩ => absurd (hn p) z) fun _ A10 h10 => bsel_t rfl ?_
    have h10 : Own (RamW r 140 [] W :: Bud b (fun x => F x ∨ x = root) (fun x => G x ∧ x ≠ root) (140 - 1 - 3 + 1) :: TreeS t [⟨-1, 140, 3 - 1, 0, true⟩] :: SlO s61 1 (intsV ps) :: R) A10 := h10
    refine Used_head (i := 0) (Own.rot3 h10) rfl rfl (bsel_t rfl (Free_head h10.swap ?_))
    exact hk A10 h10.tail.tail.tail.tail
end Go.Dn
