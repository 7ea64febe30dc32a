/- What the proof stands on: Frames, EntryB, PlainM. -/
import Derived.Test.YtbmolaogibmbiaaGreatBudNew
import Derived.Test.YtbmolaogibmbiaaGreatLess
/- bootmap.Frames. -/
namespace Go.Dn

abbrev Ar := Int × Int × Int
variable {A : AH} {l R : List SP} {P P2 : SP} {k k2 : Nat} {s s2 : Sl} {bs : List Int}
def arsC (L : List Ar) : List Value := L.flatMap areaC
def areaB (x : Ar) : Bool := !decide (IntKind.u64.wrap (x.1 + x.2.1) < x.1)
theorem areaB_iff {x : Ar} : areaB x = true ↔ areaOK x := by simp [areaB, areaOK]
/-- The areas of a map, or an error's number. -/
def parseP (bs : List Int) : Int × List Ar :=
  if 1280 < bs.length then (4, []) else if bs.length % 20 ≠ 0 then (14, []) else
  if (upto (bs.length / 20)).all (fun i => areaB (areaZ bs i)) then (0, (upto (bs.length / 20)).map (areaZ bs)) else (3, [])
theorem arsC_len : ∀ L : List Ar, (arsC L).length = L.length * 3
  | [] => rfl
  | y :: L => by
    have := arsC_len L
    unfold arsC at this ⊢
    rw [List.flatMap_cons, List.length_append, this]; simp [areaC]; omega
theorem arsC_at : ∀ {L : List Ar} {v : Nat} {y : Ar} {c : Nat} {x : Value}, L[v]? = some y → (areaC y)[c]? = some x → (arsC L)[v * 3 + c]? = some x
  | [], v, a, c, x, h, _ => by simp at h
  | b :: r, 0, a, c, x, h, hc => by
    simp at h; subst h
    have hlt : c < 3 := (List.getElem?_eq_some_iff.1 hc).1
    unfold arsC
    rw [List.flatMap_cons, List.getElem?_append_left (by simp [areaC]; omega), Nat.zero_mul, Nat.zero_add]
    exact hc
  | b :: r, v + 1, a, c, x, h, hc => by
    have h : r[v]? = some a := by simpa using h
    unfold arsC
    rw [List.flatMap_cons, List.getElem?_append_right (by simp [areaC]; omega)]
    have : (v + 1) * 3 + c - (areaC b).length = v * 3 + c := by simp [areaC]; omega
    rw [this]
    exact arsC_at h hc
theorem rd_ar {L : List Ar} {v : Nat} {y : Ar} (h : Own l A) (e : l[k]? = some P) (hr : Reads P s 3 (arsC L)) (hv : L[v]? = some y) :
    ∃ a, s.a = some a ∧ (∀ K : Int → Prop, K y.1 → aI .u64 (Addr.add a (Int.toNat (v : Int) * 3)) A K) ∧ (∀ K : Int → Prop, K y.2.1 → aI .u64 (Addr.add (Addr.add a (Int.toNat (v : Int) * 3)) 1) A K) ∧
      ∀ K : Int → Prop, K y.2.2 → aI .u32 (Addr.add (Addr.add a (Int.toNat (v : Int) * 3)) 2) A K := by
  obtain ⟨bb, o, q1, c0⟩ := rd_cell h e hr (j := v * 3 + 0) (arsC_at hv (c := 0) rfl)
  obtain ⟨b2, o2, q2, c1⟩ := rd_cell h e hr (j := v * 3 + 1) (arsC_at hv (c := 1) rfl)
  obtain ⟨b3, o3, q3, c2⟩ := rd_cell h e hr (j := v * 3 + 2) (arsC_at hv (c := 2) rfl)
  rw [q1] at q2 q3
  cases q2
  cases q3
  refine ⟨_, q1, fun K hK => ⟨_, ?_, hK⟩, fun K hK => ⟨_, ?_, hK⟩, fun K hK => ⟨_, ?_, hK⟩⟩
  · rw [add_at, Int.toNat_natCast]; exact c0
  · rw [add_at, add_at, Int.toNat_natCast, Nat.add_assoc]; exact c1
  · rw [add_at, add_at, Int.toNat_natCast, Nat.add_assoc]; exact c2
theorem rd_ar_len {L : List Ar} (h : Own l A) (e : l[k]? = some P) (hr : Reads P s 3 (arsC L)) : s.len = L.length := by
  have := rd_len h e hr
  rw [arsC_len] at this
  omega
def byV (x : Int) : Value := .int .u8 x
theorem Parse_spec {K : Sl → Int → AP} (h : Own l A) (e : l[k]? = some P) (hr : Reads P s 1 (bs.map byV)) (hcap : s.len ≤ s.cap) (hn : s.a = none → bs = []) (hb : ∀ x ∈ bs, 0 ≤ x ∧ x < 256)
    (hk : ∀ s' A', (s'.a = none → (parseP bs).2 = []) → Own (SlO s' 3 (arsC (parseP bs).2) :: l) A' → K s' (parseP bs).1 A') : bootmap_Parse_A s K A := by
  have hl : s.len = bs.length := by have := rd_len h e hr; simp at this; omega
  obtain ⟨B, u, hB⟩ := h.get e
  have hrow : rowA A s.a s.len (bs.map (.int .u8)) := by
    have h1 := hr B A hB u
    have h2 := rowA_rd h1 (fun g => by rw [hn g]; rfl)
    rw [Nat.mul_one] at h2
    exact h2
  unfold bootmap_Parse_A
  refine ⟨bs, hl.symm, hcap, hb, hrow, fun g => ?_, fun g1 g2 => ?_, fun g1 g2 g3 => ?_, fun g1 g2 g3 => ⟨fun g4 => ?_, fun cap cur g4 g5 g6 g7 => ?_⟩⟩
  · have hp : parseP bs = (4, []) := by unfold parseP; rw [if_pos g]
    rw [hp] at hk
    exact hk Sl.nil A (fun _ => rfl) h.nilS
  · have hp : parseP bs = (14, []) := by unfold parseP; rw [if_neg (by omega), if_pos g2]
    rw [hp] at hk
    exact hk Sl.nil A (fun _ => rfl) h.nilS
  · have hp : parseP bs = (3, []) := by
      unfold parseP
      rw [if_neg (by omega), if_neg (by omega), if_neg]
      intro g4
      obtain ⟨i, hi, hbad⟩ := g3
      exact hbad (areaB_iff.1 (List.all_eq_true.1 g4 i (by simpa [upto] using hi)))
    rw [hp] at hk
    exact hk Sl.nil A (fun _ => rfl) h.nilS
  all_goals
    have hp : parseP bs = (0, (upto (bs.length / 20)).map (areaZ bs)) := by
      unfold parseP
      rw [if_neg (by omega), if_neg (by omega), if_pos]
      exact List.all_eq_true.2 fun i hi => areaB_iff.2 (g3 i (by simpa [upto] using hi))
    rw [hp] at hk
  · rw [g4] at hk
    exact hk Sl.nil A (fun _ => rfl) h.nilS
  · intro g hg
    have hC : arsC ((upto (bs.length / 20)).map (areaZ bs)) = (upto (bs.length / 20)).flatMap fun i => areaC (areaZ bs i) := by unfold arsC; rw [List.flatMap_map]
    refine hk _ _ (fun q => nomatch q) ?_
    dsimp only
    rw [hC, ← g7]
    have hlen : (cur.toList.take (bs.length / 20 * 3)).length = bs.length / 20 * 3 := by
      have hc : cur.toList.length = cap * 3 := g6
      rw [List.length_take, hc]
      have := Nat.mul_le_mul_right 3 g5
      omega
    have h2 : (cur.toList.take (bs.length / 20 * 3) ++ cur.toList.drop (bs.length / 20 * 3)).toArray = cur := by rw [List.take_append_drop]
    have h3 : (cur.toList.take (bs.length / 20 * 3) ++ cur.toList.drop (bs.length / 20 * 3)).length = cap * 3 := by rw [List.take_append_drop]; exact g6
    exact h.new hg fun B hB => ⟨⟨hlen.symm, g5⟩, .inr ⟨g, cur.toList.drop (bs.length / 20 * 3), rfl, h3, ⟨_, by rw [h2]; exact hB⟩⟩⟩

theorem pw256 {n m : Nat} (h : n ≤ m) : (256 : Int) ^ n ≤ 256 ^ m := by
  have h1 : (256 : Nat) ^ n ≤ 256 ^ m := Nat.pow_le_pow_right (by omega) h
  have h2 : ∀ k : Nat, ((256 ^ k : Nat) : Int) = (256 : Int) ^ k := fun k => by simp
  rw [← h2, ← h2]
  omega
theorem numZ_bd : ∀ (l : List Int), (∀ x ∈ l, 0 ≤ x ∧ x < 256) → 0 ≤ numZ l ∧ numZ l < 256 ^ l.length
  | [], _ => by simp [numZ]
  | b :: r, h => by
    obtain ⟨h1, h2⟩ := h b (by simp)
    obtain ⟨h3, h4⟩ := numZ_bd r (fun x hx => h x (by simp [hx]))
    simp only [numZ, List.length_cons]
    rw [Int.pow_succ]
    omega
/-- The frames of an area that lie in a memory. -/
def frP (a : Ar) (most : Int) : Rg :=
  let f := if a.2.2 = 1 then (a.1 + 4095) / 4096 else a.1 / 4096
  let t := if a.2.1 = 0 then f else if a.2.2 = 1 then (a.1 + a.2.1) / 4096 else (a.1 + a.2.1 + 4095) / 4096
  (if most < f then most else f, if most < t then most else t)
def ArB (a : Ar) : Prop := 0 ≤ a.1 ∧ 0 ≤ a.2.1 ∧ a.1 + a.2.1 < 18446744073709551616 ∧ 0 ≤ a.2.2 ∧ a.2.2 < 4294967296
theorem frames_spec {a : Ar} {most : Int} {Q : Int → Int → AH → Prop} (ha : ArB a) (h1 : 1 ≤ most) (h2 : most ≤ 2097152) (hk : Q (frP a most).1 (frP a most).2 A) : bootmap_Area_frames_A a.1 a.2.1 a.2.2 most Q A := by
  obtain ⟨x, n, kd⟩ := a
  obtain ⟨a1, a2, a3, a4, a5⟩ := ha
  simp only at a1 a2 a3 a4 a5 hk ⊢
  unfold bootmap_Area_frames_A
  have w1 : IntKind.wrap .u64 (x + n) = x + n := wu64 (by omega) (by omega)
  have w2 : IntKind.wrap .u64 most = most := wu64 (by omega) (by omega)
  have t1 : Int.tdiv x 4096 = x / 4096 := tdiv4096 a1
  have t2 : Int.tdiv (x + n) 4096 = (x + n) / 4096 := tdiv4096 (by omega)
  have m1 : Int.tmod x 4096 = x % 4096 := tmod4096 a1
  have m2 : Int.tmod (x + n) 4096 = (x + n) % 4096 := tmod4096 (by omega)
  have w3 : IntKind.wrap .u64 (x / 4096) = x / 4096 := wu64 (by omega) (by omega)
  have w4 : IntKind.wrap .u64 ((x + n) / 4096) = (x + n) / 4096 := wu64 (by omega) (by omega)
  have w5 : IntKind.wrap .u64 (x / 4096 + 1) = x / 4096 + 1 := wu64 (by omega) (by omega)
  have w6 : IntKind.wrap .u64 ((x + n) / 4096 + 1) = (x + n) / 4096 + 1 := wu64 (by omega) (by omega)
  rw [w1, w2, t1, t2, m1, m2, w3, w4, w5, w6]
  have hmin : ∀ y : Int, 0 ≤ y → IntKind.wrap .i64 (if most < y then most else y) = if most < y then most else y := fun y hy => by rw [w64] <;> split <;> omega
  refine ⟨fun f t h' => h' = A ∧ 0 ≤ f ∧ 0 ≤ t ∧ f = (if kd = 1 then (x + 4095) / 4096 else x / 4096) ∧ (n ≠ 0 → t = if kd = 1 then (x + n) / 4096 else (x + n + 4095) / 4096), ?_, ?_⟩
  · intro f t A1 ⟨e1, e2, e3, e4, e5⟩
    subst e1
    refine ⟨fun t' h' => h' = A1 ∧ 0 ≤ t' ∧ t' = if n = 0 then f else if kd = 1 then (x + n) / 4096 else (x + n + 4095) / 4096, ?_, ?_⟩
    · intro t' A2 ⟨f1, f2, f3⟩
      subst f1
      rw [hmin f e2, hmin t' f2, f3, e4]
      exact hk
    · refine bsel_in (fun g => ?_) fun g => ?_
      · have g : n = 0 := by simpa using g
        exact ⟨rfl, e2, by rw [if_pos g]⟩
      · have g : n ≠ 0 := by simpa using g
        exact ⟨rfl, e3, by rw [if_neg g]; exact e5 g⟩
  · refine bsel_in (fun g => bsel_in (fun g2 => ?_) fun g2 => ?_) fun g => bsel_in (fun g2 => ?_) fun g2 => ?_
    · have g : kd = 1 := by simpa using g
      have g2 : x % 4096 ≠ 0 := by simpa using g2
      exact ⟨rfl, by omega, by omega, by rw [if_pos g]; omega, fun _ => by rw [if_pos g]⟩
    · have g : kd = 1 := by simpa using g
      have g2 : x % 4096 = 0 := by simpa using g2
      exact ⟨rfl, by omega, by omega, by rw [if_pos g]; omega, fun _ => by rw [if_pos g]⟩
    · have g : kd ≠ 1 := by simpa using g
      have g2 : (x + n) % 4096 ≠ 0 := by simpa using g2
      exact ⟨rfl, by omega, by omega, by rw [if_neg g], fun _ => by rw [if_neg g]; omega⟩
    · have g : kd ≠ 1 := by simpa using g
      have g2 : (x + n) % 4096 = 0 := by simpa using g2
      exact ⟨rfl, by omega, by omega, by rw [if_neg g], fun _ => by rw [if_neg g]; omega⟩

/-! ### The whole -/
theorem areaZ_ok (hb : ∀ x ∈ bs, 0 ≤ x ∧ x < 256) {a : Ar} (ha : a ∈ (parseP bs).2) : ArB a := by
  unfold parseP at ha
  split at ha
  · cases ha
  split at ha
  · cases ha
  split at ha
  · rename_i h1 h2 h3
    obtain ⟨i, hi, rfl⟩ := List.mem_map.1 ha
    have h4 := areaB_iff.1 (List.all_eq_true.1 h3 i hi)
    have bd : ∀ o r : Nat, r ≤ 8 → 0 ≤ numZ ((bs.drop o).take r) ∧ numZ ((bs.drop o).take r) < 256 ^ r := fun o r hr => by
      obtain ⟨g1, g2⟩ := numZ_bd ((bs.drop o).take r) (fun y hy => hb y (List.mem_of_mem_drop (List.mem_of_mem_take hy)))
      exact ⟨g1, Int.lt_of_lt_of_le g2 (pw256 (by simp; omega))⟩
    have b1 := bd (20 * i) 8 (by omega)
    have b2 := bd (20 * i + 8) 8 (by omega)
    have b3 := bd (20 * i + 16) 4 (by omega)
    rw [show (256 : Int) ^ 8 = 18446744073709551616 from rfl] at b1 b2
    rw [show (256 : Int) ^ 4 = 4294967296 from rfl] at b3
    have h5 : ¬ IntKind.u64.wrap ((areaZ bs i).1 + (areaZ bs i).2.1) < (areaZ bs i).1 := h4
    refine ⟨b1.1, b2.1, ?_, b3.1, b3.2⟩
    have c1 : (areaZ bs i).1 = numZ ((bs.drop (20 * i)).take 8) := rfl
    have c2 : (areaZ bs i).2.1 = numZ ((bs.drop (20 * i + 8)).take 8) := rfl
    rw [← c1] at b1
    rw [← c2] at b2
    rcases Int.lt_or_le ((areaZ bs i).1 + (areaZ bs i).2.1) 18446744073709551616 with g | g
    · exact g
    · exfalso
      refine h5 ?_
      rw [wu64m]
      omega
  · cases ha
theorem parseP_len : (parseP bs).2.length ≤ 64 := by
  unfold parseP
  split
  · simp
  split
  · simp
  split
  · simp [upto]; omega
  · simp
def useL (ars : List Ar) (f : Int) : List Rg := (ars.filter fun a => a.2.2 == 1).map fun a => frP a f
def awayL (ars : List Ar) (f : Int) (kn : Rg) : List Rg := kn :: (ars.filter fun a => !(a.2.2 == 1)).map fun a => frP a f
def badArg (f : Int) (kn : Rg) : Prop := f < 1 ∨ f > 1048576 ∨ kn.1 < 0 ∨ kn.2 < kn.1 ∨ kn.2 > f
/-- What bootmap.Frames answers: an error's number, and ranges. -/
def frOut (bs : List Int) (f : Int) (kn : Rg) (e : Int) (m : List Rg) : Prop :=
  (badArg f kn ∧ e = 1 ∧ m = []) ∨ (¬ badArg f kn ∧ (parseP bs).1 ≠ 0 ∧ e = (parseP bs).1 ∧ m = []) ∨
  (¬ badArg f kn ∧ (parseP bs).1 = 0 ∧ NF m ∧ (∀ n, memR m n ↔ memR (useL (parseP bs).2 f) n ∧ ¬ memR (awayL (parseP bs).2 f kn) n) ∧ e = if m = [] then 7 else 0)
theorem Frames_spec {f : Int} {kn : Rg} {Q : Sl → Int → AH → Prop} (h : Own l A) (e : l[k]? = some P) (hr : Reads P s 1 (bs.map byV)) (hcap : s.len ≤ s.cap) (hn : s.a = none → bs = []) (hb : ∀ x ∈ bs, 0 ≤ x ∧ x < 256)
    (hk : ∀ er m s' A', frOut bs f kn er m → m.length ≤ 4224 → (s'.a = none → m = []) → Own (SlO s' 2 (rgs m) :: l) A' → Q s' er A') : bootmap_Frames_A s f kn.1 kn.2 Q A := by
  unfold bootmap_Frames_A bootmap_Frames_G
  have nil : ∀ er (A' : AH), Own l A' → frOut bs f kn er [] → Q Sl.nil er A' := fun er A' h' ho => hk er [] Sl.nil A' ho (by simp) (fun _ => rfl) h'.nilS
  refine ⟨fun h' => Own l h' ∧ ¬ badArg f kn, ?_, ?_⟩
  · intro A1 ⟨h1, hbad⟩
    have hf : 1 ≤ f ∧ f ≤ 1048576 := by unfold badArg at hbad; omega
    refine Parse_spec h1 e hr hcap hn hb fun s3 A2 hs3 h2 => ?_
    refine bsel_in (fun g => ?_) fun g => ?_
    · have g : (parseP bs).1 ≠ 0 := by simpa using g
      exact nil _ A2 h2.tail (.inr (.inl ⟨hbad, g, rfl, rfl⟩))
    · have g : (parseP bs).1 = 0 := by simpa using g
      have hl3 := rd_ar_len (k := 0) h2 rfl reads_slB
      have h64 := parseP_len (bs := bs)
      refine new_C (cs := [.int .i64 kn.1, .int .i64 kn.2]) h2 fun b A3 h3 => ?_
      have h3' : Own (SlO ⟨some ⟨b, 0, none⟩, 1, 1⟩ 2 (rgs [kn]) :: SlO s3 3 (arsC (parseP bs).2) :: l) A3 := h3.imp fun B hB => ⟨⟨rfl, Nat.le_refl _⟩, .inr ⟨b, [], rfl, rfl, hB⟩⟩
      refine ⟨fun u w x m h' => ∃ v : Nat, x = v ∧ m + v = (parseP bs).2.length ∧ (u.a = none → useL ((parseP bs).2.take v) f = []) ∧ (w.a = none → awayL ((parseP bs).2.take v) f kn = []) ∧
          Own (SlO u 2 (rgs (useL ((parseP bs).2.take v) f)) :: SlO w 2 (rgs (awayL ((parseP bs).2.take v) f kn)) :: SlO s3 3 (arsC (parseP bs).2) :: l) h',
        ⟨(parseP bs).2.length, 0, rfl, by omega, fun _ => rfl, fun g => (nomatch g), by have h9 := h3'.nilS (sz := 2); simp only [useL, awayL, List.take_zero, List.filter_nil, List.map_nil]; exact h9⟩, ?_⟩
      intro u w x m A4 ⟨v, e1, e2, hu, hw, h4⟩
      subst e1
      have hul : ∀ v, (useL ((parseP bs).2.take v) f).length ≤ 64 := fun v => by
        unfold useL
        rw [List.length_map]
        have := List.length_filter_le (fun a : Ar => a.2.2 == 1) ((parseP bs).2.take v)
        have := (List.take_sublist v (parseP bs).2).length_le
        omega
      have hwl : ∀ v, (awayL ((parseP bs).2.take v) f kn).length ≤ 65 := fun v => by
        unfold awayL
        rw [List.length_cons, List.length_map]
        have := List.length_filter_le (fun a : Ar => !(a.2.2 == 1)) ((parseP bs).2.take v)
        have := (List.take_sublist v (parseP bs).2).length_le
        omega
      refine bsel_in (fun c => ?_) fun c => ?_
      · have c : (v : Int) < s3.len := of_decide_eq_true c
        obtain ⟨a, hav⟩ : ∃ a, (parseP bs).2[v]? = some a := ⟨(parseP bs).2[v]'(by omega), by simp⟩
        have haB : ArB a := areaZ_ok hb (List.mem_of_getElem? hav)
        refine ⟨fun u' w' h' => (u'.a = none → useL ((parseP bs).2.take (v + 1)) f = []) ∧ (w'.a = none → awayL ((parseP bs).2.take (v + 1)) f kn = []) ∧
          Own (SlO u' 2 (rgs (useL ((parseP bs).2.take (v + 1)) f)) :: SlO w' 2 (rgs (awayL ((parseP bs).2.take (v + 1)) f kn)) :: SlO s3 3 (arsC (parseP bs).2) :: l) h', ?_, ?_⟩
        · intro u' w' A5 ⟨f1, f2, h5⟩
          exact ⟨m - 1, by omega, v + 1, by rw [w64] <;> omega, by omega, f1, f2, h5⟩
        · obtain ⟨ad, q1, r1, r2, r3⟩ := rd_ar (k := 2) h4 rfl reads_slB hav
          rw [q1]
          refine inB_in (by omega) c (r1 _ (r2 _ (r3 _ ?_)))
          refine frames_spec haB hf.1 (by omega) ?_
          refine bsel_in (fun g2 => ?_) fun g2 => ?_
          · have hU : useL ((parseP bs).2.take (v + 1)) f = useL ((parseP bs).2.take v) f ++ [((frP a f).1, (frP a f).2)] := by
              rw [take_at hav]; unfold useL; rw [List.filter_append, List.map_append]
              simp [List.filter_cons, g2]
            have hW : awayL ((parseP bs).2.take (v + 1)) f kn = awayL ((parseP bs).2.take v) f kn := by
              rw [take_at hav]; unfold awayL; rw [List.filter_append]
              simp [List.filter_cons, g2]
            refine push_rg h4 hu (by have := hul v; omega) fun s' A6 j1 h6 => ?_
            rw [hU, hW]
            exact ⟨j1, hw, h6⟩
          · have hU : useL ((parseP bs).2.take (v + 1)) f = useL ((parseP bs).2.take v) f := by
              rw [take_at hav]; unfold useL; rw [List.filter_append]
              simp [List.filter_cons, g2]
            have hW : awayL ((parseP bs).2.take (v + 1)) f kn = awayL ((parseP bs).2.take v) f kn ++ [((frP a f).1, (frP a f).2)] := by
              rw [take_at hav]; unfold awayL; rw [List.filter_append, List.map_append]
              simp [List.filter_cons, g2]
            refine push_rg h4.swap hw (by have := hwl v; omega) fun s' A6 j1 h6 => ?_
            rw [hU, hW]
            exact ⟨hu, j1, h6.swap⟩
      · have c : ¬(v : Int) < s3.len := of_decide_eq_false c
        have hv : v = (parseP bs).2.length := by omega
        subst hv
        rw [List.take_length] at hu hw h4
        have hul := hul (parseP bs).2.length
        have hwl := hwl (parseP bs).2.length
        rw [List.take_length] at hul hwl
        refine Less_spec (k := 0) (k2 := 1) h4 rfl reads_slB (by omega) hu rfl reads_slB (by omega) hw (Nat.le_trans (Nat.mul_le_mul hul (Nat.add_le_add_right hwl 1)) (by omega)) fun m' hm hmm hml s' A5 hs' h5 => ?_
        have hml : m'.length ≤ 64 * 66 := Nat.le_trans hml (Nat.mul_le_mul hul (Nat.add_le_add_right hwl 1))
        have hl5 := h5.rgs_len
        have h6 : Own (SlO s' 2 (rgs m') :: l) A5 := h5.cons fun C hC => hC.tail.tail.tail
        refine bsel_in (fun g2 => ?_) fun g2 => ?_
        · have g2 : (s'.len : Int) = 0 := by simpa using g2
          have h0 : m' = [] := List.length_eq_zero_iff.1 (by omega)
          subst h0
          exact nil _ A5 h6.tail (.inr (.inr ⟨hbad, g, hm, hmm, by simp⟩))
        · have g2 : (s'.len : Int) ≠ 0 := by simpa using g2
          have h0 : m' ≠ [] := fun q => by subst q; simp at hl5; omega
          exact hk _ m' s' A5 (.inr (.inr ⟨hbad, g, hm, hmm, by rw [if_neg h0]⟩)) (by omega) hs' h6
  · have bad1 : badArg f kn → Q Sl.nil 1 A := fun g => nil _ A h (.inl ⟨g, rfl, rfl⟩)
    refine bsel_in (fun g => bad1 (.inl (of_decide_eq_true g))) fun g1 => bsel_in (fun g => bad1 (.inr (.inl (of_decide_eq_true g)))) fun g2 => bsel_in (fun g => bad1 (.inr (.inr (.inl (of_decide_eq_true g))))) fun g3 => bsel_in (fun g => bad1 (.inr (.inr (.inr (.inl (of_decide_eq_true g)))))) fun g4 => bsel_in (fun g => bad1 (.inr (.inr (.inr (.inr (of_decide_eq_true g)))))) fun g5 => ⟨h, ?_⟩
    have g1 := of_decide_eq_false g1
    have g2 := of_decide_eq_false g2
    have g3 := of_decide_eq_false g3
    have g4 := of_decide_eq_false g4
    have g5 := of_decide_eq_false g5
    unfold badArg
    omega
end Go.Dn
/- An area's bytes. -/
namespace Go.Dn

variable {A : AH} {l R : List SP} {P P2 : SP} {k k2 : Nat} {s s2 : Sl} {bs : List Int}
/-- So many bytes of a number, the lowest first. -/
def leB : Nat → Int → List Int
  | 0, _ => []
  | k + 1, n => n % 256 :: leB k (n / 256)
theorem leB_len : ∀ (k : Nat) (n : Int), (leB k n).length = k
  | 0, _ => rfl
  | k + 1, n => by simp [leB, leB_len k]
theorem leB_get : ∀ (k : Nat) (n : Int) (i : Nat), i < k → (leB k n)[i]? = some (n / 2 ^ (8 * i) % 256)
  | 0, _, _, h => by omega
  | k + 1, n, 0, _ => by simp [leB]
  | k + 1, n, i + 1, h => by
    have h1 := leB_get k (n / 256) i (by omega)
    have h2 : n / 256 / 2 ^ (8 * i) = n / 2 ^ (8 * (i + 1)) := by
      rw [Int.ediv_ediv_of_nonneg (by omega)]
      congr 1
      rw [Nat.mul_add, Int.pow_add, Int.mul_comm]
      rfl
    rw [h2] at h1
    simpa [leB] using h1
theorem numZ_leB : ∀ (k : Nat) (n : Int), 0 ≤ n → n < 256 ^ k → numZ (leB k n) = n
  | 0, n, h0, h1 => by simp at h1; simp [leB, numZ]; omega
  | k + 1, n, h0, h1 => by
    rw [Int.pow_succ] at h1
    have := numZ_leB k (n / 256) (by omega) (by omega)
    simp only [leB, numZ, this]
    omega
theorem leB_rng : ∀ (k : Nat) (n : Int), ∀ x ∈ leB k n, 0 ≤ x ∧ x < 256
  | 0, _, _, h => nomatch h
  | k + 1, n, x, h => by
    rcases List.mem_cons.1 h with rfl | h
    · omega
    · exact leB_rng k _ x h
def entB (a : Ar) : List Int := leB 8 a.1 ++ leB 8 a.2.1 ++ leB 4 a.2.2
theorem entB_len (a : Ar) : (entB a).length = 20 := by simp [entB, leB_len]
theorem entB_rng (a : Ar) : ∀ x ∈ entB a, 0 ≤ x ∧ x < 256 := fun x h => by
  rcases List.mem_append.1 h with h | h
  · rcases List.mem_append.1 h with h | h
    · exact leB_rng _ _ x h
    · exact leB_rng _ _ x h
  · exact leB_rng _ _ x h
theorem shrB {n : Int} {i c : Nat} (h : 8 * i ≤ c) (hi : i < 8) : IntKind.wrap .u8 (Int.fdiv n (2 ^ (min (Int.toNat (IntKind.wrap .i64 ((8 : Int) * (i : Int)))) c))) = n / 2 ^ (8 * i) % 256 := by
  have h1 : IntKind.wrap .i64 ((8 : Int) * (i : Int)) = ((8 * i : Nat) : Int) := by rw [w64] <;> omega
  rw [h1, Int.toNat_natCast, Nat.min_eq_left h, shr_eq, wu8]
theorem Entry_spec {a : Ar} {Q : Sl → AH → Prop} (h : Own l A) (hk : ∀ s' A', s'.a ≠ none → Own (SlO s' 1 ((entB a).map byV) :: l) A' → Q s' A') : demesnelaw06_Entry_A a.1 a.2.1 a.2.2 Q A := by
  unfold demesnelaw06_Entry_A
  have hmade : (madeCells #[Value.int .u8 0] (20 * 1)) = ((List.replicate 20 (byV 0)).toArray) := by
    have hf : (fun x : Nat => (#[Value.int .u8 0] : Array Value)[x % (#[Value.int .u8 0] : Array Value).size]!) = fun _ => byV 0 := by
      funext x
      simp [Nat.mod_one, byV]
    show Array.map (fun x : Nat => (#[Value.int .u8 0] : Array Value)[x % (#[Value.int .u8 0] : Array Value).size]!) (Array.range (20 * 1)) = _
    rw [hf]
    apply Array.ext'
    simp only [Array.toList_map, Array.toList_range]
    rfl
  rw [hmade]
  refine new_C (cs := List.replicate 20 (byV 0)) h fun b A1 h1 => ?_
  refine ⟨fun x m h' => ∃ (v : Nat) (cs : List Int), x = v ∧ m + v = 8 ∧ cs.length = 20 ∧ (∀ i, i < v → cs[i]? = some (a.1 / 2 ^ (8 * i) % 256) ∧ cs[8 + i]? = some (a.2.1 / 2 ^ (8 * i) % 256)) ∧ Own (At b (cs.map byV) :: l) h',
    ⟨8, 0, List.replicate 20 0, rfl, rfl, rfl, fun i hi => by omega, by simpa using h1⟩, ?_⟩
  intro x m A2 ⟨v, cs, e1, e2, e3, e4, h2⟩
  subst e1
  refine bsel_in (fun c => ?_) fun c => ?_
  · have c : (v : Int) < 8 := of_decide_eq_true c
    have hw : ¬ IntKind.wrap .i64 ((8 : Int) * (v : Int)) < 0 := by rw [w64] <;> omega
    refine bsel_f (by simpa using hw) (inB_in (by omega) (by omega) ?_)
    rw [add_at, Int.toNat_natCast, shrB (by omega) (by omega)]
    refine st_C (i := 0) h2 rfl (by simp [e3]; omega) rfl fun A3 h3 => ?_
    refine bsel_f (by simpa using hw) ?_
    have hw2 : IntKind.wrap .i64 ((8 : Int) + (v : Int)) = ((8 + v : Nat) : Int) := by rw [w64] <;> omega
    rw [hw2, shrB (by omega) (by omega)]
    refine inB_in (by omega) (by omega) ?_
    rw [add_at, Int.toNat_natCast]
    refine st_C (i := 0) h3 rfl (by simp [e3]; omega) rfl fun A4 h4 => ?_
    refine ⟨m - 1, by omega, v + 1, (cs.set v (a.1 / 2 ^ (8 * v) % 256)).set (8 + v) (a.2.1 / 2 ^ (8 * v) % 256), by rw [w64] <;> omega, by omega, by simp [e3], fun i hi => ?_, ?_⟩
    · rcases Nat.lt_or_eq_of_le (Nat.le_of_lt_succ hi) with g | g
      · obtain ⟨f1, f2⟩ := e4 i g
        refine ⟨?_, ?_⟩
        · rw [List.getElem?_set_ne (by omega), List.getElem?_set_ne (by omega)]; exact f1
        · rw [List.getElem?_set_ne (by omega), List.getElem?_set_ne (by omega)]; exact f2
      · subst g
        refine ⟨?_, ?_⟩
        · rw [List.getElem?_set_ne (by omega), List.getElem?_set_self (by omega)]
        · rw [List.getElem?_set_self (by simp; omega)]
    · rw [List.map_set, List.map_set]
      simp only [Nat.zero_add, Nat.mul_one, List.set_cons_zero] at h4
      exact h4
  · have c : ¬ (v : Int) < 8 := of_decide_eq_false c
    have hv : v = 8 := by omega
    subst hv
    refine ⟨fun x m h' => ∃ (v : Nat) (cs : List Int), x = v ∧ m + v = 4 ∧ cs.length = 20 ∧ (∀ i, i < 8 → cs[i]? = some (a.1 / 2 ^ (8 * i) % 256) ∧ cs[8 + i]? = some (a.2.1 / 2 ^ (8 * i) % 256)) ∧ (∀ i, i < v → cs[16 + i]? = some (a.2.2 / 2 ^ (8 * i) % 256)) ∧ Own (At b (cs.map byV) :: l) h',
      ⟨4, 0, cs, rfl, rfl, e3, e4, fun i hi => by omega, h2⟩, ?_⟩
    intro x m2 A3 ⟨v, cs, e5, e6, e7, e8, e9, h3⟩
    subst e5
    refine bsel_in (fun c => ?_) fun c => ?_
    · have c : (v : Int) < 4 := of_decide_eq_true c
      have hw : ¬ IntKind.wrap .i64 ((8 : Int) * (v : Int)) < 0 := by rw [w64] <;> omega
      refine bsel_f (by simpa using hw) ?_
      have hw2 : IntKind.wrap .i64 ((16 : Int) + (v : Int)) = ((16 + v : Nat) : Int) := by rw [w64] <;> omega
      rw [hw2, shrB (by omega) (by omega)]
      refine inB_in (by omega) (by omega) ?_
      rw [add_at, Int.toNat_natCast]
      refine st_C (i := 0) h3 rfl (by simp [e7]; omega) rfl fun A4 h4 => ?_
      refine ⟨m2 - 1, by omega, v + 1, cs.set (16 + v) (a.2.2 / 2 ^ (8 * v) % 256), by rw [w64] <;> omega, by omega, by simp [e7], fun i hi => ?_, fun i hi => ?_, ?_⟩
      · obtain ⟨f1, f2⟩ := e8 i hi
        rw [List.getElem?_set_ne (by omega), List.getElem?_set_ne (by omega)]
        exact ⟨f1, f2⟩
      · rcases Nat.lt_or_eq_of_le (Nat.le_of_lt_succ hi) with g | g
        · rw [List.getElem?_set_ne (by omega)]; exact e9 i g
        · subst g
          rw [List.getElem?_set_self (by omega)]
      · rw [List.map_set]
        simp only [Nat.zero_add, Nat.mul_one, List.set_cons_zero] at h4
        exact h4
    · have c : ¬ (v : Int) < 4 := of_decide_eq_false c
      have hv : v = 4 := by omega
      subst hv
      have hcs : cs = entB a := by
        apply List.ext_getElem?
        intro j
        by_cases j1 : j < 8
        · rw [(e8 j j1).1]
          unfold entB
          rw [List.append_assoc, List.getElem?_append_left (by rw [leB_len]; exact j1), leB_get 8 _ j j1]
        · by_cases j2 : j < 16
          · have := (e8 (j - 8) (by omega)).2
            rw [show 8 + (j - 8) = j by omega] at this
            rw [this]
            unfold entB
            rw [List.getElem?_append_left (by simp [leB_len]; omega), List.getElem?_append_right (by rw [leB_len]; omega), leB_len, leB_get 8 _ (j - 8) (by omega)]
          · by_cases j3 : j < 20
            · have := e9 (j - 16) (by omega)
              rw [show 16 + (j - 16) = j by omega] at this
              rw [this]
              unfold entB
              rw [List.getElem?_append_right (by simp [leB_len]; omega), List.length_append, leB_len, leB_len, leB_get 4 _ (j - 16) (by omega)]
            · rw [List.getElem?_eq_none (by omega), List.getElem?_eq_none (by rw [entB_len]; omega)]
      rw [hcs] at h3
      refine hk _ A3 (fun q => nomatch q) (Own.imp (fun B hB => ⟨⟨by simp [entB_len], Nat.le_refl _⟩, .inr ⟨b, [], rfl, by simp [entB_len], by simpa using hB⟩⟩) h3)
end Go.Dn
/- A plain memory's map: one area, all of it. -/
namespace Go.Dn

/-- The fields are what they may be. -/
def ArW (a : Ar) : Prop := (0 ≤ a.1 ∧ a.1 < 18446744073709551616) ∧ (0 ≤ a.2.1 ∧ a.2.1 < 18446744073709551616) ∧ 0 ≤ a.2.2 ∧ a.2.2 < 4294967296
theorem areaZ_one {a : Ar} (hw : ArW a) : areaZ (entB a) 0 = a := by
  obtain ⟨⟨w1, w2⟩, ⟨w3, w4⟩, w5, w6⟩ := hw
  have tk : ∀ (k : Nat) (n : Int) (r : List Int), (leB k n ++ r).take k = leB k n := fun k n r => by
    rw [List.take_append_of_le_length (by rw [leB_len]; omega), List.take_of_length_le (by rw [leB_len]; omega)]
  have h0 : entB a = leB 8 a.1 ++ (leB 8 a.2.1 ++ leB 4 a.2.2) := by unfold entB; simp
  have h8 : (entB a).drop 8 = leB 8 a.2.1 ++ leB 4 a.2.2 := by
    rw [h0, List.drop_append_of_le_length (by simp [leB_len]), List.drop_of_length_le (by simp [leB_len])]; rfl
  have h16 : (entB a).drop 16 = leB 4 a.2.2 := by
    rw [show 16 = 8 + 8 from rfl, ← List.drop_drop, h8, List.drop_append_of_le_length (by simp [leB_len]), List.drop_of_length_le (by simp [leB_len])]; rfl
  have e1 : ((entB a).drop (20 * 0)).take 8 = leB 8 a.1 := by rw [Nat.mul_zero, List.drop_zero, h0, tk]
  have e2 : ((entB a).drop (20 * 0 + 8)).take 8 = leB 8 a.2.1 := by rw [Nat.mul_zero, Nat.zero_add, h8, tk]
  have e3 : ((entB a).drop (20 * 0 + 16)).take 4 = leB 4 a.2.2 := by rw [Nat.mul_zero, Nat.zero_add, h16, List.take_of_length_le (by simp [leB_len])]
  unfold areaZ
  rw [e1, e2, e3, numZ_leB _ _ w1 (by simpa using w2), numZ_leB _ _ w3 (by simpa using w4), numZ_leB _ _ w5 (by simpa using w6)]
theorem parse_one {a : Ar} (hw : ArW a) (hb : areaB a = true) : parseP (entB a) = (0, [a]) := by
  unfold parseP
  rw [entB_len, if_neg (by omega), if_neg (by omega)]
  have : upto (20 / 20) = [0] := rfl
  rw [this]
  simp [areaZ_one hw, hb]
theorem plain_out {N er : Int} {m : List Rg} (hN : 2 ≤ N ∧ N ≤ 1048576) (h : frOut (entB (0, N * 4096, 1)) N (0, 1) er m) : er = 0 ∧ m = [(1, N)] := by
  have hw : ArW (0, N * 4096, 1) := ⟨⟨by simp, by simp⟩, ⟨by simp only; omega, by simp only; omega⟩, by simp, by simp⟩
  have hok : areaB (0, N * 4096, 1) = true := by
    unfold areaB
    simp only
    rw [wu64 (by omega) (by omega)]
    simp; omega
  unfold frOut at h
  rw [parse_one hw hok] at h
  have hbad : ¬ badArg N (0, 1) := by unfold badArg; simp only; omega
  rcases h with ⟨q, _⟩ | ⟨_, q, _⟩ | ⟨_, _, h1, h2, h3⟩
  · exact absurd q hbad
  · exact absurd rfl q
  · have hu : useL [((0, N * 4096, 1) : Ar)] N = [(0, N)] := by
      have hf : frP (0, N * 4096, 1) N = (0, N) := by
        unfold frP
        simp only [if_true]
        rw [if_neg (by omega : ¬ N * 4096 = 0)]
        refine Prod.ext ?_ ?_
        · simp only; split <;> omega
        · simp only; split <;> omega
      simp [useL, hf]
    have hwl : awayL [((0, N * 4096, 1) : Ar)] N (0, 1) = [(0, 1)] := by simp [awayL]
    simp only [hu, hwl, memR_one] at h2
    have hm : m = [(1, N)] := by
      refine NF.eq h1 ⟨fun r hr => ?_, by simp⟩ fun n => ?_
      · simp at hr; subst hr; simp only; omega
      · rw [h2 n, memR_one]
        unfold inRg
        simp only
        omega
    subst hm
    exact ⟨by simpa using h3, rfl⟩
end Go.Dn
