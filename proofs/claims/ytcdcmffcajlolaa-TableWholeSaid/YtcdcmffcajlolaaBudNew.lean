/- The frames that are free, made of ranges. -/
import Derived.Test.YtcdcmffcajlolaaBuddy
namespace Go.Dn

variable {A : AH} {l R : List SP} {b g : Nat} {mb : Nat → Nat} {st : Nat → List Int} {gl : List Int} {n : Int} {F G : Int → Prop}
theorem and_at {k : Nat} {q : Int} (hk : k ≤ 20) (h0 : 0 ≤ q) (h1 : 2 ^ k * q ≤ 2097152) : (bits .and .i64 (2 ^ k * q) (2 ^ k) == (0 : Int)) = decide (q % 2 = 0) := by
  obtain ⟨q, rfl⟩ := Int.eq_ofNat_of_zero_le h0
  have hp := pow_small hk
  have e1 : ((2 : Int) ^ k * (q : Int)) = ((2 ^ k * q : Nat) : Int) := by simp
  have e2 : ((2 : Int) ^ k) = ((2 ^ k : Nat) : Int) := by simp
  rw [e1] at h1
  rw [e1, e2]
  have h2 : bits .and .i64 ((2 ^ k * q : Nat) : Int) ((2 ^ k : Nat) : Int) = IntKind.wrap .i64 ((BitVec.ofInt 64 ((2 ^ k * q : Nat) : Int) &&& BitVec.ofInt 64 ((2 ^ k : Nat) : Int)).toNat : Int) := rfl
  rw [h2, BitVec.toNat_and, BitVec.ofInt_natCast, BitVec.ofInt_natCast, BitVec.toNat_ofNat, BitVec.toNat_ofNat, Nat.mod_eq_of_lt (by omega), Nat.mod_eq_of_lt (by omega), nand]
  have e3 : ((q : Int) % 2 = 0) ↔ (q % 2 = 0) := by omega
  by_cases g : q % 2 = 0
  · rw [if_pos g, decide_eq_true (e3.2 g)]; rfl
  · rw [if_neg g, decide_eq_false (fun h => g (e3.1 h)), w64 (by omega) (by omega)]
    have : 0 < 2 ^ k := Nat.two_pow_pos k
    simp; omega
def rangeCells (rs : List (Int × Int)) : List Value := rs.flatMap fun p => [.int .i64 p.1, .int .i64 p.2]
theorem rangeCells_at : ∀ {hs : List (Int × Int)} {j : Nat} {p : Int × Int}, hs[j]? = some p → (rangeCells hs)[j * 2]? = some (.int .i64 p.1) ∧ (rangeCells hs)[j * 2 + 1]? = some (.int .i64 p.2)
  | [], _, _, e => by simp at e
  | q :: hs, 0, p, e => by simp at e; subst e; exact ⟨rfl, rfl⟩
  | q :: hs, j + 1, p, e => by
    have := rangeCells_at (hs := hs) (j := j) (p := p) (by simpa using e)
    rw [show (j + 1) * 2 = j * 2 + 1 + 1 by omega]
    exact this
theorem rangeCells_len (hs : List (Int × Int)) : (rangeCells hs).length = hs.length * 2 := by
  induction hs with
  | nil => rfl
  | cons p hs ih => simp only [rangeCells, List.flatMap_cons, List.length_append] at ih ⊢; rw [ih]; simp; omega
def okR : Int → List (Int × Int) → Bool
  | _, [] => true
  | last, r :: rs => !(decide (r.1 < last)) && !(decide (r.2 ≤ r.1)) && !(decide (r.2 > 1048576)) && okR r.2 rs
def inR (rs : List (Int × Int)) (x : Int) : Prop := ∃ r ∈ rs, r.1 ≤ x ∧ x < r.2
def sizeR : List (Int × Int) → Int
  | [] => 0
  | r :: rs => r.2 - r.1 + sizeR rs
theorem sizeR_le : ∀ (rs : List (Int × Int)) (last : Int), last ≤ 1048576 → okR last rs = true → 0 ≤ sizeR rs ∧ last + sizeR rs ≤ 1048576
  | [], last, h, _ => ⟨Int.le_refl _, by simp [sizeR]; omega⟩
  | r :: rs, last, h, hk => by
    simp only [okR, Bool.and_eq_true, Bool.not_eq_true', decide_eq_false_iff_not] at hk
    obtain ⟨⟨⟨h1, h2⟩, h3⟩, h4⟩ := hk
    have := sizeR_le rs r.2 (by omega) h4
    simp only [sizeR]
    omega
theorem okR_lo : ∀ (rs : List (Int × Int)) (last : Int), okR last rs = true → ∀ r ∈ rs, last ≤ r.1 ∧ r.1 < r.2 ∧ r.2 ≤ 1048576
  | [], _, _, r, h => by simp at h
  | p :: rs, last, hk, r, hr => by
    simp only [okR, Bool.and_eq_true, Bool.not_eq_true', decide_eq_false_iff_not] at hk
    obtain ⟨⟨⟨h1, h2⟩, h3⟩, h4⟩ := hk
    rcases List.mem_cons.1 hr with rfl | hr
    · omega
    · have := okR_lo rs p.2 h4 r hr; omega
theorem okR_app : ∀ (rs : List (Int × Int)) (last : Int) (j : Nat) (r : Int × Int), okR last rs = true → rs[j]? = some r → ∀ p ∈ rs.take j, p.2 ≤ r.1
  | [], _, _, _, _, h => by simp at h
  | p :: rs, last, 0, r, _, _ => by simp
  | p :: rs, last, j + 1, r, hk, hr => by
    simp only [okR, Bool.and_eq_true] at hk
    intro p' hp'
    simp only [List.take_succ_cons, List.mem_cons] at hp'
    have hr : rs[j]? = some r := by simpa using hr
    rcases hp' with rfl | hp'
    · exact (okR_lo rs _ hk.2 r (List.mem_of_getElem? hr)).1
    · exact okR_app rs p.2 j r hk.2 hr p' hp'
theorem sizeR_take : ∀ (rs : List (Int × Int)) (j : Nat) (r : Int × Int), rs[j]? = some r → sizeR (rs.take (j + 1)) = sizeR (rs.take j) + (r.2 - r.1)
  | [], _, _, h => by simp at h
  | p :: rs, 0, r, h => by simp at h; subst h; simp [sizeR]
  | p :: rs, j + 1, r, h => by
    have := sizeR_take rs j r (by simpa using h)
    simp only [List.take_succ_cons, sizeR, this]; omega
theorem sizeR_mono : ∀ (rs : List (Int × Int)) (j : Nat), (∀ r ∈ rs, r.1 < r.2) → 0 ≤ sizeR (rs.take j) ∧ sizeR (rs.take j) ≤ sizeR rs
  | [], _, _ => by simp [sizeR]
  | p :: rs, 0, h => by
    have h1 := sizeR_mono rs rs.length (fun r hr => h r (List.mem_cons_of_mem _ hr))
    have h2 := h p List.mem_cons_self
    rw [List.take_length] at h1
    simp only [List.take_zero, sizeR]; omega
  | p :: rs, j + 1, h => by
    have h1 := sizeR_mono rs j (fun r hr => h r (List.mem_cons_of_mem _ hr))
    have h2 := h p List.mem_cons_self
    simp only [List.take_succ_cons, sizeR]; omega

/-- One range's frames, in blocks. -/
def cellsJ (mb : Nat → Nat) (j g : Nat) : List Value := (List.range 11).map (fun i => .map (if i < j then some (mb i) else none)) ++ [.map (some g), .int .i64 0]
theorem cellsJ_11 : cellsJ mb 11 g = bcells mb g 0 := by
  rfl
theorem cellsJ_set {j v : Nat} (hj : j < 11) : (cellsJ mb j g).set j (.map (some v)) = cellsJ (updF mb j v) (j + 1) g := by
  unfold cellsJ
  rw [List.set_append_left _ _ (by simp; omega)]
  congr 1
  apply List.ext_getElem?
  intro i
  rw [List.getElem?_set]
  by_cases e : j = i
  · subst e
    rw [if_pos rfl, if_pos (by simp; omega), List.getElem?_map, List.getElem?_range hj]
    simp [updF_same]
  · rw [if_neg e, List.getElem?_map, List.getElem?_map]
    cases hi : (List.range 11)[i]? with
    | none => rfl
    | some q =>
      obtain ⟨h1, h2⟩ := List.getElem?_eq_some_iff.1 hi
      have : q = i := by simpa using h2.symm
      subst this
      simp only [Option.map_some]
      rw [updF_ne (Ne.symm e)]
      by_cases g : q < j
      · rw [if_pos g, if_pos (by omega)]
      · rw [if_neg g, if_neg (by omega)]
def newL (mb : Nat → Nat) (j : Nat) : List SP := (List.range j).map fun i => MapI (mb i) .i64 []
theorem newL_succ {j v : Nat} : newL (updF mb j v) (j + 1) = newL mb j ++ [MapI v .i64 []] := by
  unfold newL
  rw [List.range_succ, List.map_append]
  congr 1
  · apply List.map_congr_left
    intro i hi
    have : i < j := by simpa using hi
    rw [updF_ne (by omega)]
  · simp [updF_same]
theorem ld_range {P : SP} {k j : Nat} {s : Sl} {rs : List (Int × Int)} {r : Int × Int} {K : Int → Int → Prop} (h : Own l A) (e : l[k]? = some P) (hr : Reads P s 2 (rangeCells rs)) (hj : rs[j]? = some r) (hK : K r.1 r.2) :
    onSome s.a fun a => inB (j : Int) s.len (aI .i64 (Addr.add a (Int.toNat (j : Int) * 2)) A fun n8 => aI .i64 (Addr.add (Addr.add a (Int.toNat (j : Int) * 2)) 1) A fun n9 => K n8 n9) := by
  have hl : s.len = rs.length := by have := rd_len h e hr; rw [rangeCells_len] at this; omega
  have hjl := (List.getElem?_eq_some_iff.1 hj).1
  obtain ⟨q1, q2⟩ := rangeCells_at hj
  obtain ⟨b, o, c1, c2⟩ := rd_cell h e hr q1
  obtain ⟨b', o', c3, c4⟩ := rd_cell h e hr q2
  rw [c1] at c3
  cases c3
  rw [c1]
  refine inB_in (by omega) (by omega) ⟨r.1, ?_, r.2, ?_, hK⟩
  · rw [add_at]; simpa using c2
  · rw [add_at, add_at]; simpa [Nat.add_assoc] using c4
theorem inR_take {rs : List (Int × Int)} {j : Nat} {r : Int × Int} (hj : rs[j]? = some r) (x : Int) : inR (rs.take (j + 1)) x ↔ inR (rs.take j) x ∨ (r.1 ≤ x ∧ x < r.2) := by
  have : rs.take (j + 1) = rs.take j ++ [r] := by
    rw [List.take_add_one, hj]; rfl
  unfold inR
  rw [this]
  constructor
  · rintro ⟨p, hp, h1⟩
    rcases List.mem_append.1 hp with hp | hp
    · exact .inl ⟨p, hp, h1⟩
    · simp at hp; subst hp; exact .inr h1
  · rintro (⟨p, hp, h1⟩ | h1)
    · exact ⟨p, List.mem_append.2 (.inl hp), h1⟩
    · exact ⟨r, List.mem_append.2 (.inr (by simp)), h1⟩
set_option maxHeartbeats 1000000 in
theorem bNew_spec {P : SP} {k : Nat} {s : Sl} {rs : List (Int × Int)} {Q : Option Addr → Int → AH → Prop} (h : Own l A) (e : l[k]? = some P) (hr : Reads P s 2 (rangeCells rs))
    (h4 : rs.length > 64 → Q none 4 A) (h3 : rs.length ≤ 64 → okR 0 rs = false → Q none 3 A)
    (hk : rs.length ≤ 64 → okR 0 rs = true → ∀ b A', Own (Bud b (inR rs) (fun _ => False) (sizeR rs) :: l) A' → Q (some ⟨b, 0, none⟩) 0 A') : buddy_New_A s Q A := by
  have hl : s.len = rs.length := by have := rd_len h e hr; rw [rangeCells_len] at this; omega
  unfold buddy_New_A buddy_New_G
  refine bsel_in (fun c => h4 (by simp [hl] at c; omega)) fun c => ?_
  have c : rs.length ≤ 64 := by simp [hl] at c; omega
  refine ⟨fun x y m h' => h' = A ∧ ∃ j : Nat, y = j ∧ j ≤ rs.length ∧ rs.length - j = m ∧ okR 0 rs = okR x (rs.drop j), ⟨_, rfl, 0, rfl, by omega, rfl, by simp⟩, ?_⟩
  intro x y m h' ⟨e0, j, e1, e2, e3, e4⟩
  subst e0 e1 e3
  refine bsel_in (fun d => ?_) fun d => ?_
  · have d : j < rs.length := by simp [hl] at d; omega
    obtain ⟨r, hj⟩ : ∃ r, rs[j]? = some r := ⟨rs[j], by simp [d]⟩
    have hd : rs.drop j = r :: rs.drop (j + 1) := by
      rw [List.drop_eq_getElem_cons d]
      have := (List.getElem?_eq_some_iff.1 hj).2
      rw [this]
    rw [hd] at e4
    simp only [okR] at e4
    refine ld_range h e hr hj ?_
    refine bsel_in (fun g1 => h3 c (by rw [e4, g1]; rfl)) fun g1 => ?_
    refine bsel_in (fun g2 => h3 c (by rw [e4, g2]; simp)) fun g2 => ?_
    refine bsel_in (fun g3 => h3 c (by rw [e4, g3]; simp)) fun g3 => ?_
    exact ⟨rs.length - (j + 1), by omega, rfl, j + 1, by rw [w64] <;> omega, by omega, rfl, by rw [e4, g1, g2, g3]; rfl⟩
  have d : j = rs.length := by simp [hl] at d; omega
  have hok : okR 0 rs = true := by rw [e4, d, List.drop_length]; rfl
  clear e4
  refine new_M (k := .i64) h fun g A1 hA1 => ?_
  show newA A1 (.cells (cellsJ (fun _ => 0) 0 g).toArray _) _
  refine new_C hA1 fun b A2 hA2 => ?_
  refine ⟨fun x m h2 => ∃ (j : Nat) (mb : Nat → Nat), x = j ∧ j ≤ 11 ∧ 11 - j = m ∧ Own (At b (cellsJ mb j g) :: MapI g .i64 [] :: (newL mb j ++ l)) h2, ⟨_, 0, _, rfl, by omega, rfl, hA2⟩, ?_⟩
  intro x m A3 ⟨j, mb, i1, i2, i3, hA3⟩
  subst i1 i3
  refine bsel_in (fun d => ?_) fun d => ?_
  · have d : j < 11 := by simp at d; omega
    refine new_M (k := .i64) hA3 fun v A4 hA4 => ?_
    refine inB_in (by omega) (by omega) ?_
    rw [add_at]
    refine st_C (i := 1) hA4 rfl ?_ rfl fun A5 hA5 => ?_
    · rw [show 0 + Int.toNat (j : Int) * 1 = j by omega]
      unfold cellsJ
      rw [List.getElem?_append_left (by simp; omega), List.getElem?_map, List.getElem?_range d]
      rfl
    · rw [show 0 + Int.toNat (j : Int) * 1 = j by omega, cellsJ_set d] at hA5
      refine ⟨11 - (j + 1), by omega, j + 1, updF mb j v, by rw [w64] <;> omega, by omega, rfl, hA5.perm ?_⟩
      rw [newL_succ]
      show List.Perm (MapI v .i64 [] :: At b _ :: MapI g .i64 [] :: (newL mb j ++ l)) (At b _ :: MapI g .i64 [] :: (newL mb j ++ [MapI v .i64 []] ++ l))
      rw [List.append_assoc]
      exact (List.perm_middle (l₁ := At b _ :: MapI g .i64 [] :: newL mb j) (l₂ := l)).symm
  have d : j = 11 := by simp at d; omega
  subst d
  rw [cellsJ_11] at hA3
  have hA3 : Own (budL b mb g (fun _ => []) [] 0 ++ l) A3 := hA3
  have hlo := okR_lo rs 0 hok
  have hsz := sizeR_le rs 0 (by omega) hok
  refine ⟨fun x m h2 => ∃ (i : Nat) (st : Nat → List Int), x = i ∧ i ≤ rs.length ∧ rs.length - i = m ∧ BOK st (inR (rs.take i)) (sizeR (rs.take i)) ∧ Own (budL b mb g st [] (sizeR (rs.take i)) ++ l) h2,
    ⟨_, 0, _, rfl, by omega, rfl, BOK.empty.congr (fun x => by simp [inR]), hA3⟩, ?_⟩
  intro x m A4 ⟨i, st, i1, i2, i3, hB, hA4⟩
  subst i1 i3
  have ek : (budL b mb g st [] (sizeR (rs.take i)) ++ l)[13 + k]? = some P := by
    rw [List.getElem?_append_right (by simp [budL, frees])]
    rw [show 13 + k - (budL b mb g st [] (sizeR (rs.take i))).length = k by simp [budL, frees]]
    exact e
  refine bsel_in (fun d => ?_) fun d => ?_
  rotate_left
  · have d : i = rs.length := by simp [hl] at d; omega
    subst d
    rw [List.take_length] at hB hA4
    exact hk c hok b A4 (Bud.closeH hB ⟨List.nodup_nil, fun x => by simp, fun x hx => hx.elim⟩ (by simp; omega) hA4)
  have d : i < rs.length := by simp [hl] at d; omega
  obtain ⟨r, hj⟩ : ∃ r, rs[i]? = some r := ⟨rs[i], by simp [d]⟩
  obtain ⟨r1, r2, r3⟩ := hlo r (List.mem_of_getElem? hj)
  have hbef := okR_app rs 0 i r hok hj
  have hmono := sizeR_mono rs i (fun r hr => (hlo r hr).2.1)
  have hmono2 := sizeR_mono rs (i + 1) (fun r hr => (hlo r hr).2.1)
  have hst := sizeR_take rs i r hj
  refine ld_range hA4 ek hr hj ?_
  refine ⟨fun x m h2 => ∃ st, r.1 ≤ x ∧ x ≤ r.2 ∧ (r.2 - x).toNat = m ∧ BOK st (fun z => inR (rs.take i) z ∨ (r.1 ≤ z ∧ z < x)) (sizeR (rs.take i) + (x - r.1)) ∧ Own (budL b mb g st [] (sizeR (rs.take i)) ++ l) h2,
    ⟨_, st, Int.le_refl _, by omega, rfl, by rw [Int.sub_self, Int.add_zero]; exact hB.congr fun z => ⟨.inl, fun h => h.elim id fun h => by omega⟩, hA4⟩, ?_⟩
  intro x m A5 ⟨st5, j1, j2, j3, hB5, hA5⟩
  subst j3
  refine bsel_in (fun d5 => ?_) fun d5 => ?_
  rotate_left
  · have d5 : x = r.2 := by simp at d5; omega
    subst d5
    refine ld_cnt hA5 (st_cnt hA5 fun A6 hA6 => ?_)
    have e6 : IntKind.wrap .i64 (sizeR (rs.take i) + IntKind.wrap .i64 (r.2 - r.1)) = sizeR (rs.take (i + 1)) := by
      rw [hst, w64 (n := r.2 - r.1) (by omega) (by omega), w64 (by omega) (by omega)]
    rw [e6] at hA6
    rw [← hst] at hB5
    exact ⟨rs.length - (i + 1), by omega, i + 1, st5, by rw [w64] <;> omega, by omega, rfl, hB5.congr fun z => (inR_take hj z).symm, hA6⟩
  have d5 : x < r.2 := by simpa using d5
  refine ⟨fun y m h2 => h2 = A5 ∧ ∃ o : Nat, y = o ∧ o ≤ 10 ∧ 10 - o = m ∧ (∃ q, x = 2 ^ o * q) ∧ x + 2 ^ o ≤ r.2, ⟨_, rfl, 0, rfl, by omega, rfl, ⟨x, by simp⟩, by simp; omega⟩, ?_⟩
  intro y m A6 ⟨k0, o, k1, k2, k3, ⟨q, k4⟩, k5⟩
  subst k0 k1 k3
  have hp := pow_small (k := o) (by omega)
  have q0 : 0 ≤ q := by
    rcases Int.lt_or_le q 0 with g | g
    · have := Int.mul_neg_of_pos_of_neg hp.2 g; omega
    · exact g
  have fin : buddy_Buddy_add_A (some ⟨b, 0, none⟩) x (o : Int) (fun h40 => bsel (decide ((o : Int) < 0)) False (∃ m32, m32 < (r.2 - x).toNat ∧ ∃ st, r.1 ≤ IntKind.wrap .i64 (x + IntKind.wrap .i64 ((1 : Int) * 2 ^ (min (Int.toNat (o : Int)) 64))) ∧ IntKind.wrap .i64 (x + IntKind.wrap .i64 ((1 : Int) * 2 ^ (min (Int.toNat (o : Int)) 64))) ≤ r.2 ∧ (r.2 - IntKind.wrap .i64 (x + IntKind.wrap .i64 ((1 : Int) * 2 ^ (min (Int.toNat (o : Int)) 64)))).toNat = m32 ∧ BOK st (fun z => inR (rs.take i) z ∨ (r.1 ≤ z ∧ z < IntKind.wrap .i64 (x + IntKind.wrap .i64 ((1 : Int) * 2 ^ (min (Int.toNat (o : Int)) 64))))) (sizeR (rs.take i) + (IntKind.wrap .i64 (x + IntKind.wrap .i64 ((1 : Int) * 2 ^ (min (Int.toNat (o : Int)) 64))) - r.1)) ∧ Own (budL b mb g st [] (sizeR (rs.take i)) ++ l) h40)) A6 := by
    rw [shl1 (by omega) 1 (by omega) (by omega), Int.one_mul, w64 (n := x + 2 ^ o) (by omega) (by omega)]
    refine add_raw hA5 k2 hB5 ⟨by omega, by omega⟩ ⟨q, k4⟩ (fun z z1 z2 => ?_) fun st' A7 hB7 hA7 => bsel_f (by simp) ⟨_, ?_, st', by omega, by omega, rfl, ?_, hA7⟩
    · rintro (⟨p, hp1, hp2⟩ | hz)
      · have := hbef p hp1; omega
      · omega
    · omega
    · rw [show sizeR (rs.take i) + (x + 2 ^ o - r.1) = sizeR (rs.take i) + (x - r.1) + 2 ^ o by omega]
      refine hB7.congr fun z => ?_
      constructor
      · rintro ((z1 | z1) | z1)
        · exact .inl z1
        · exact .inr (by omega)
        · exact .inr (by omega)
      · rintro (z1 | z1)
        · exact .inl (.inl z1)
        · by_cases w : z < x
          · exact .inl (.inr ⟨z1.1, w⟩)
          · exact .inr (by omega)
  refine bsel_in (fun d6 => ?_) fun d6 => fin
  have d6 : o < 10 := by simp at d6; omega
  refine bsel_f (by simp) ?_
  refine bsel_in (fun d7 => ?_) fun d7 => fin
  rw [shl1 (by omega) 1 (by omega) (by omega), Int.one_mul] at d7
  have d7 : q % 2 = 0 := by
    rw [k4, and_at (by omega) q0 (by omega)] at d7
    simpa using d7
  refine bsel_f (by simp) ?_
  have hs : (2 : Int) ^ (o + 1) = 2 ^ o * 2 := Int.pow_succ _ _
  refine bsel_in (fun d8 => ?_) fun d8 => fin
  rw [shl1 (by omega) 2 (by omega) (by omega), w64 (by omega) (by omega)] at d8
  have d8 : x + 2 * 2 ^ o ≤ r.2 := by simpa using d8
  exact ⟨10 - (o + 1), by omega, rfl, o + 1, by rw [w64] <;> omega, by omega, rfl, ⟨q / 2, by rw [hs, Int.mul_assoc, show 2 * (q / 2) = q by omega, k4]⟩, by rw [hs]; omega⟩
end Go.Dn
