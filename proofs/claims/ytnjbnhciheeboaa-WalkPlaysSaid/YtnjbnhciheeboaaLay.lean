/- A memory is made, and laid. -/
import Derived.Test.YtnjbnhciheeboaaWalk2
import Derived.KernelRfl
namespace Go.Dn

variable {A : AH} {l : List SP} {r : Nat} {fr : Int} {hs : List (Int × Int)} {M : Int → Int}
theorem Own.nilO {sz : Nat} (h : Own l A) : Own (SlO Sl.nil sz [] :: l) A := ⟨fun _ => none, _, fun _ => .inl rfl, (fun b o e => nomatch e), Sub.refl _, SlO.nil, h⟩
def holeOK (fr : Int) (p : Int × Int) : Bool := !(decide (p.1 < 0)) && !(decide (p.2 < p.1)) && !(decide (p.2 > fr))
def newCode (fr : Int) (hs : List (Int × Int)) : Int := if fr < 1 then 1 else if fr > 1048576 then 4 else if hs.length > 64 then 4 else if hs.all (holeOK fr) then 0 else 3
theorem New_spec {k : Nat} {s : Sl} {Q : Option Addr → Int → AH → Prop} (h : Own l A) (e : l[k]? = some (SlAt s 2 (holeCells hs))) (hn : newCode fr hs ≠ 0 → Q none (newCode fr hs) A)
    (hk : newCode fr hs = 0 → ∀ r A', Own (RamS r fr hs (fun _ => 0) :: l) A' → Q (some ⟨r, 0, none⟩) 0 A') : ram_New_A fr s Q A := by
  have hlen : s.len * 2 = hs.length * 2 := by rw [← holeCells_len]; exact sl_len h e
  have hlen : s.len = hs.length := by omega
  unfold ram_New_A
  unfold newCode at hn hk
  refine bsel_in (fun c => ?_) fun c => ?_
  · have c : fr < 1 := by simpa using c
    rw [if_pos c] at hn; exact hn (by decide)
  have c : ¬ fr < 1 := by simpa using c
  rw [if_neg c] at hn hk
  refine bsel_in (fun c2 => ?_) fun c2 => ?_
  · have c2 : fr > 1048576 := by simpa using c2
    rw [if_pos c2] at hn; exact hn (by decide)
  have c2 : ¬ fr > 1048576 := by simpa using c2
  rw [if_neg c2] at hn hk
  refine bsel_in (fun c3 => ?_) fun c3 => ?_
  · have c3 : hs.length > 64 := by simp [hlen] at c3; omega
    rw [if_pos c3] at hn; exact hn (by decide)
  have c3 : ¬ hs.length > 64 := by simp [hlen] at c3; omega
  rw [if_neg c3] at hn hk
  refine ⟨fun x m h' => h' = A ∧ ∃ j : Nat, x = j ∧ j ≤ hs.length ∧ m = hs.length - j ∧ (hs.take j).all (holeOK fr) = true, ⟨_, rfl, 0, rfl, by omega, rfl, by simp⟩, ?_⟩
  intro x m h' ⟨e1, j, e2, e3, e4, e5⟩
  subst e1 e2 e4
  refine bsel_in (fun c4 => ?_) fun c4 => ?_
  · have c4 : j < hs.length := by simp [hlen] at c4; omega
    obtain ⟨p, hp⟩ : ∃ p, hs[j]? = some p := ⟨hs[j], by simp [c4]⟩
    obtain ⟨h1, h2⟩ := holeCells_at hp
    obtain ⟨b, o, g1, g2⟩ := sl_cell h e h1
    obtain ⟨b', o', g3, g4⟩ := sl_cell h e h2
    rw [g1] at g3
    cases g3
    rw [g1]
    refine inB_in (by omega) (by rw [hlen]; omega) ⟨p.1, ?_, p.2, ?_, ?_⟩
    · rw [add_at]; simpa using g2
    · rw [add_at, add_at]; simpa [Nat.add_assoc] using g4
    have hbad : holeOK fr p = false → Q none 3 h' := fun q => by
      have : hs.all (holeOK fr) = false := by
        rw [List.all_eq_false]
        exact ⟨p, List.mem_of_getElem? hp, by simp [q]⟩
      rw [this] at hn
      exact hn (by decide)
    refine bsel_in (fun c5 => hbad (by unfold holeOK; rw [c5]; rfl)) fun c5 => ?_
    refine bsel_in (fun c6 => hbad (by unfold holeOK; rw [c5, c6]; rfl)) fun c6 => ?_
    refine bsel_in (fun c7 => hbad (by unfold holeOK; rw [c5, c6, c7]; rfl)) fun c7 => ?_
    refine ⟨hs.length - (j + 1), by omega, rfl, j + 1, by rw [w64] <;> omega, by omega, rfl, ?_⟩
    rw [List.take_add_one, hp]
    simp only [List.all_append, e5, Option.toList_some, List.all_cons, List.all_nil, Bool.and_true, Bool.true_and]
    unfold holeOK
    rw [c5, c6, c7]; rfl
  · have : j = hs.length := by simp [hlen] at c4; omega
    subst this
    rw [List.take_length] at e5
    rw [e5] at hk
    have hnone : s.a = none → holeCells hs = [] := by
      intro q
      obtain ⟨B, _, hB⟩ := Own.get e h
      by_cases g : holeCells hs = []
      · exact g
      · obtain ⟨b, pre, rest, hb, _⟩ := hB.2.2 g
        rw [q] at hb; cases hb
    refine ap_head (i := k) h.nilO e hnone (fun _ => rfl) rfl ?_ ⟨by simp [Sl.nil, hlen]; omega, by simp [Sl.nil, hlen]; omega⟩ fun s' A' hs1 hs2 h1 => ?_
    · intro v hv
      simp only [holeCells, List.mem_flatMap] at hv
      obtain ⟨p, _, hv⟩ := hv
      simp at hv
      rcases hv with rfl | rfl <;> rfl
    refine new_M (k := .i64) h1 fun mb A2 h2 => ?_
    refine new_C h2 fun r A3 h3 => ?_
    refine hk rfl r A3 ?_
    refine Own.imp (P := Own (ramL r fr hs s' mb (fun _ => 0) [])) (fun B hB => ⟨s', mb, [], ⟨by simp, fun _ => by omega, fun _ _ _ => rfl⟩, hB⟩) ?_
    refine Own.app ?_
    show Own (_ :: SlAt s' 2 (holeCells hs) :: MapI mb .i64 [] :: l) A3
    refine h3.cons fun C hC => ?_
    exact Own.imp (fun B hB => hB.look) hC.swap

/-- An entry that is laid. -/
structure Put where
  f : Int
  at_ : Int
  x : Int
def putCells (l : List Put) : List Value := l.flatMap fun p => [.int .i64 p.f, .int .i64 p.at_, .int .u64 p.x]
theorem putCells_len (l : List Put) : (putCells l).length = l.length * 3 := by
  induction l with
  | nil => rfl
  | cons p l ih => show (putCells l).length + 3 = _; rw [ih]; simp; omega
theorem putCells_at : ∀ {l : List Put} {j : Nat} {p : Put}, l[j]? = some p → (putCells l)[j * 3]? = some (.int .i64 p.f) ∧ (putCells l)[j * 3 + 1]? = some (.int .i64 p.at_) ∧ (putCells l)[j * 3 + 2]? = some (.int .u64 p.x)
  | [], _, _, h => by simp at h
  | q :: l, 0, p, h => by simp at h; subst h; exact ⟨rfl, rfl, rfl⟩
  | q :: l, j + 1, p, h => by
    have := putCells_at (l := l) (j := j) (p := p) (by simpa using h)
    rw [show (j + 1) * 3 = j * 3 + 3 by omega, show j * 3 + 3 + 1 = j * 3 + 1 + 3 by omega, show j * 3 + 3 + 2 = j * 3 + 2 + 3 by omega]
    exact this
def putIn (p : Put) (top : Int) : Bool := decide (0 ≤ p.f) && decide (p.f ≤ top) && decide (0 ≤ p.at_) && decide (p.at_ ≤ 511)
abbrev holes7 : List (Int × Int) := [(7, 8)]
def layStep (M : Int → Int) (p : Put) : Int → Int := if putIn p 7 && hasF 8 holes7 p.f then stM M (p.f * 4096 + 8 * p.at_) 8 p.x else M
def layM (l : List Put) : Int → Int := (l.take 40).foldl layStep fun _ => 0
def holeSl (b : Nat) : Sl := ⟨some ⟨b, 0, none⟩, 1, 1⟩
theorem fold_snoc {j : Nat} {l : List Put} {p : Put} (h : l[j]? = some p) : (l.take (j + 1)).foldl layStep (fun _ => 0) = layStep ((l.take j).foldl layStep fun _ => 0) p := by
  rw [List.take_add_one, h]
  simp [List.foldl_append]
theorem Lay_spec {P : SP} {k : Nat} {s : Sl} {ps : List Put} {Q : Option Addr → Int → Sl → Option Nat → AH → Prop} (h : Own l A) (e : l[k]? = some P) (hr : Reads P s 3 (putCells ps)) (hU : ∀ p ∈ ps, U64 p.x) (hlen0 : ps.length < 9223372036854775808)
    (hk : ∀ r b m A', Own (RamS r 8 holes7 (layM ps) :: RefS m (layM ps) :: SlAt (holeSl b) 2 (holeCells holes7) :: l) A' → Q (some ⟨r, 0, none⟩) 8 (holeSl b) (some m) A') : demesnelaw04_Lay_A s Q A := by
  have hlen : s.len * 3 = ps.length * 3 := by rw [← putCells_len]; exact rd_len h e hr
  have hlen : s.len = ps.length := by omega
  unfold demesnelaw04_Lay_A
  refine new_C h fun b2 _ h => ?_
  have h := Own.imp (P' := SlAt (holeSl b2) 2 (holeCells holes7)) (fun B hB => ⟨rfl, Nat.le_refl _, fun _ => ⟨b2, [], [], rfl, hB⟩⟩) h
  refine new_M (k := .u64) h fun b4 _ h => ?_
  have h := Own.imp (P' := RefS b4 fun _ => 0) (fun B hB => ⟨[], ⟨fun _ => ⟨Int.le_refl 0, (by decide : (0 : Int) < 256)⟩, fun _ _ => rfl, fun _ _ q => by simp at q⟩, hB⟩) h
  refine new_C h fun b7 _ h => ?_
  have h := Own.imp (P' := SlAt (holeSl b7) 2 (holeCells holes7)) (fun B hB => ⟨rfl, Nat.le_refl _, fun _ => ⟨b7, [], [], rfl, hB⟩⟩) h
  refine New_spec (k := 0) (hs := holes7) h rfl (fun q => absurd (by decide) q) fun _ r _ h => ?_
  refine bsel_f rfl ?_
  have h : Own (RamS r 8 holes7 (fun _ => 0) :: RefS b4 (fun _ => 0) :: SlAt (holeSl b2) 2 (holeCells holes7) :: l) _ := h.cons fun _ hh => hh.tail
  refine ⟨fun x m h' => ∃ j : Nat, x = j ∧ j ≤ ps.length ∧ m = ps.length - j ∧ (ps.take j = (ps.take 40).take j) ∧ Own (RamS r 8 holes7 ((ps.take j).foldl layStep fun _ => 0) :: RefS b4 ((ps.take j).foldl layStep fun _ => 0) :: SlAt (holeSl b2) 2 (holeCells holes7) :: l) h', ⟨_, 0, rfl, by omega, rfl, by simp, h⟩, ?_⟩
  intro x m h' ⟨j, e1, e2, e3, e4, h⟩
  subst e1 e3
  refine bsel_in (fun c => ?_) fun c => ?_
  · have c : j < ps.length := by simp [hlen] at c; omega
    refine bsel_in (fun c2 => ?_) fun c2 => ?_
    · have c2 : j < 40 := by simp at c2; omega
      obtain ⟨p, hp⟩ : ∃ p, ps[j]? = some p := ⟨ps[j], by simp [c]⟩
      have hpU := hU p (List.mem_of_getElem? hp)
      have hf := fold_snoc hp
      generalize (ps.take j).foldl layStep (fun _ => 0) = N at *
      refine ⟨fun h' => Own (RamS r 8 holes7 (layStep N p) :: RefS b4 (layStep N p) :: SlAt (holeSl b2) 2 (holeCells holes7) :: l) h', ?_, ?_⟩
      · intro h'' hh
        refine ⟨ps.length - (j + 1), by omega, j + 1, by rw [w64] <;> omega, by omega, rfl, ?_, ?_⟩
        · rw [List.take_take]; congr 1; omega
        · rw [hf]; exact hh
      obtain ⟨h1, h2, h3⟩ := putCells_at hp
      obtain ⟨b, o, g1, g2⟩ := rd_cell (i := k + 3) h e hr h1
      obtain ⟨b', o', g3, g4⟩ := rd_cell (i := k + 3) h e hr h2
      obtain ⟨b'', o'', g5, g6⟩ := rd_cell (i := k + 3) h e hr h3
      rw [g1] at g3 g5
      cases g3
      cases g5
      rw [g1]
      refine inB_in (by omega) (by rw [hlen]; omega) ⟨p.f, ?_, p.at_, ?_, p.x, ?_, ?_⟩
      · rw [add_at]; simpa using g2
      · rw [add_at, add_at]; simpa [Nat.add_assoc] using g4
      · rw [add_at, add_at]; simpa [Nat.add_assoc] using g6
      have hsk : putIn p 7 = false → Own (RamS r 8 holes7 (layStep N p) :: RefS b4 (layStep N p) :: SlAt (holeSl b2) 2 (holeCells holes7) :: l) h' := fun q => by
        have : layStep N p = N := by simp [layStep, q]
        rw [this]; exact h
      refine bsel_in (fun d1 => hsk (by simp at d1; simp [putIn]; omega)) fun d1 => ?_
      refine bsel_in (fun d2 => hsk (by simp at d2; simp [putIn]; omega)) fun d2 => ?_
      refine bsel_in (fun d3 => hsk (by simp at d3; simp [putIn]; omega)) fun d3 => ?_
      refine bsel_in (fun d4 => hsk (by simp at d4; simp [putIn]; omega)) fun d4 => ?_
      simp at d1 d2 d3 d4
      have hin : putIn p 7 = true := by simp [putIn]; omega
      rw [place_wrap (by omega) (by omega)]
      have hok := okA_word (fr := 8) (hs := holes7) (t := p.f) (at_ := p.at_) (by omega)
      refine Store_at (i := 0) (n := 8) h rfl (by decide) (by omega) (by omega) (by omega) (fun q => ?_) fun q A' h2 => ?_
      · have q : hasF 8 holes7 p.f = false := by rw [← hok]; exact q
        refine bsel_f rfl ?_
        have : layStep N p = N := by simp [layStep, hin, q]
        rw [this]; exact h
      · have q : hasF 8 holes7 p.f = true := by rw [← hok]; exact q
        have hst : layStep N p = stM N (p.f * 4096 + 8 * p.at_) 8 p.x := by simp [layStep, hin, q]
        refine bsel_t rfl ?_
        simp only [List.set_cons_zero] at h2
        refine rStore_spec (i := 1) (n := 8) h2 rfl (by omega) (by omega) hpU fun A3 h3 => ?_
        simp only [List.set_cons_zero, List.set_cons_succ] at h3
        rw [hst]; exact h3
    · have c2 : 40 ≤ j := by simp at c2; omega
      have : (ps.take j).foldl layStep (fun _ => 0) = layM ps := by
        rw [e4, List.take_take, show min j 40 = 40 by omega]; rfl
      rw [this] at h
      exact hk r b2 b4 h' h
  · have c : j = ps.length := by simp [hlen] at c; omega
    have : (ps.take j).foldl layStep (fun _ => 0) = layM ps := by
      rw [e4]
      have h2 : (ps.take 40).take j = ps.take 40 := List.take_of_length_le (by simp; omega)
      rw [h2]; rfl
    rw [this] at h
    exact hk r b2 b4 h' h

def awPuts : List Put := [⟨0, 0, 4103⟩, ⟨1, 0, 8199⟩, ⟨2, 0, 12295⟩, ⟨3, 1, 16389⟩]
theorem aw1 : walkZ 8 holes7 (layM awPuts) 0 4096 false true false = .ok 4 false true true false false false [0, 4096, 8192, 12296] := by kernel_rfl
theorem aw2 : walkZ 8 holes7 (markL (layM awPuts) false [0, 4096, 8192, 12296]) 0 4096 true true false = .fault 7 := by kernel_rfl
theorem awake_spec {Q : Bool → AH → Prop} (h : Own l A) (hk : ∀ A', Own l A' → Q true A') : demesnelaw04_awake_A Q A := by
  unfold demesnelaw04_awake_A
  refine new_C h fun b1 _ h => ?_
  have h := Own.imp (P' := SlAt ⟨some ⟨b1, 0, none⟩, 4, 4⟩ 3 (putCells awPuts)) (fun B hB => ⟨rfl, Nat.le_refl _, fun _ => ⟨b1, [], [], rfl, hB⟩⟩) h
  refine Lay_spec (k := 0) h rfl reads_slat (fun p hp => ?_) (by decide) fun r b m _ h => ?_
  · simp only [awPuts, List.mem_cons, List.not_mem_nil, or_false] at hp
    rcases hp with rfl | rfl | rfl | rfl <;> exact ⟨by decide, by decide⟩
  refine bsel_f rfl ?_
  refine Walk_spec (i := 0) h rfl (by decide) (by decide) ⟨by decide, by decide⟩ ?_
  rw [aw1]
  intro _ h
  simp only [List.set_cons_zero] at h
  refine Walk_spec (i := 0) h rfl (by decide) (by decide) ⟨by decide, by decide⟩ ?_
  rw [aw2]
  intro _ h
  exact hk _ h.tail.tail.tail.tail
end Go.Dn
