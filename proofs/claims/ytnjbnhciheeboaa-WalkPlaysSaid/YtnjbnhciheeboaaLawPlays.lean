/- Addresses lead where the tables say, faults have their codes, and entries are marked. -/
import Derived.Test.YtnjbnhciheeboaaRefWalk
namespace Go.Dn

/-- A walk that is asked for. -/
structure Stp where
  root : Int
  a : Int
  aw : Bool
  au : Bool
  af : Bool
def stpCells (l : List Stp) : List Value := l.flatMap fun p => [.int .i64 p.root, .int .u64 p.a, .bool p.aw, .bool p.au, .bool p.af]
theorem stpCells_len (l : List Stp) : (stpCells l).length = l.length * 5 := by
  induction l with
  | nil => rfl
  | cons p l ih => show (stpCells l).length + 5 = _; rw [ih]; simp; omega
theorem stpCells_at : ∀ {l : List Stp} {j : Nat} {p : Stp}, l[j]? = some p → ∀ k v, [Value.int .i64 p.root, .int .u64 p.a, .bool p.aw, .bool p.au, .bool p.af][k]? = some v → (stpCells l)[j * 5 + k]? = some v
  | [], _, _, h => by simp at h
  | q :: l, 0, p, h => by
    simp at h; subst h
    intro k v hv
    have hk := (List.getElem?_eq_some_iff.1 hv).1
    show (_ ++ stpCells l)[0 * 5 + k]? = some v
    rw [show 0 * 5 + k = k by omega, List.getElem?_append_left hk]; exact hv
  | q :: l, j + 1, p, h => by
    intro k v hv
    have := stpCells_at (l := l) (j := j) (p := p) (by simpa using h) k v hv
    rw [show (j + 1) * 5 + k = j * 5 + k + 5 by omega]
    exact this
variable {A : AH} {l : List SP}
theorem walkZ_code {fr : Int} {hs : List (Int × Int)} {M : Int → Int} {root a : Int} {aw au af : Bool} {e : Int} (h : walkZ fr hs M root a aw au af = .err e) : e ≠ 9 := by
  have := walkZ_err h
  omega
theorem WalkPlays_A {P : SP} {k : Nat} {s s2 : Sl} {ps : List Put} {st : List Stp} {Q : Bool → AH → Prop} (h : Own l A) (e : l[k]? = some P) (hr : Reads P s 3 (putCells ps)) (hr2 : Reads P s2 5 (stpCells st)) (hU : ∀ p ∈ ps, U64 p.x) (hlen : ps.length < 9223372036854775808)
    (hU2 : ∀ p ∈ st, U64 p.a) (hlen2 : st.length < 9223372036854775808) (hk : ∀ A', Own l A' → Q true A') : demesnelaw04_WalkPlays_A s s2 Q A := by
  unfold demesnelaw04_WalkPlays_A
  refine Lay_spec (k := k) h e hr hU hlen fun r b m _ h => ?_
  refine awake_spec h fun _ h => bsel_f rfl (bsel_f rfl ?_)
  have hl2 : s2.len * 5 = st.length * 5 := by rw [← stpCells_len]; exact rd_len (i := k + 3) h e hr2
  have hl2 : s2.len = st.length := by omega
  refine ⟨fun x n h' => ∃ (j : Nat) (M : Int → Int), x = j ∧ j ≤ st.length ∧ n = st.length - j ∧ Own (RamS r 8 holes7 M :: RefS m M :: SlAt (holeSl b) 2 (holeCells holes7) :: l) h', ⟨_, 0, _, rfl, by omega, rfl, h⟩, ?_⟩
  intro x n h' ⟨j, M, e1, e2, e3, h⟩
  subst e1 e3
  refine bsel_in (fun c => ?_) fun c => hk _ h.tail.tail.tail
  refine bsel_in (fun _ => ?_) fun _ => hk _ h.tail.tail.tail
  have c : j < st.length := by simp [hl2] at c; omega
  obtain ⟨p, hp⟩ : ∃ p, st[j]? = some p := ⟨st[j], by simp [c]⟩
  have hpU := hU2 p (List.mem_of_getElem? hp)
  have hc := stpCells_at hp
  obtain ⟨b0, o0, g0, q0⟩ := rd_cell (i := k + 3) h e hr2 (hc 0 _ rfl)
  obtain ⟨b1, o1, g1, q1⟩ := rd_cell (i := k + 3) h e hr2 (hc 1 _ rfl)
  obtain ⟨b2, o2, g2, q2⟩ := rd_cell (i := k + 3) h e hr2 (hc 2 _ rfl)
  obtain ⟨b3, o3, g3, q3⟩ := rd_cell (i := k + 3) h e hr2 (hc 3 _ rfl)
  obtain ⟨b4, o4, g4, q4⟩ := rd_cell (i := k + 3) h e hr2 (hc 4 _ rfl)
  rw [g0] at g1 g2 g3 g4
  cases g1
  cases g2
  cases g3
  cases g4
  rw [g0]
  refine inB_in (by omega) (by rw [hl2]; omega) ⟨p.root, ?_, p.a, ?_, p.aw, ?_, p.au, ?_, p.af, ?_, ?_⟩
  · rw [add_at]; simpa using q0
  · rw [add_at, add_at]; simpa [Nat.add_assoc] using q1
  · rw [add_at, add_at]; simpa [Nat.add_assoc] using q2
  · rw [add_at, add_at]; simpa [Nat.add_assoc] using q3
  · rw [add_at, add_at]; simpa [Nat.add_assoc] using q4
  have hgo : ∀ (M' : Int → Int) (A' : AH), Own (RamS r 8 holes7 M' :: RefS m M' :: SlAt (holeSl b) 2 (holeCells holes7) :: l) A' → demesnelaw04_Same_A (some ⟨r, 0, none⟩) 8 (holeSl b) (some m) s (fun n50 h51 =>
      (bsel (n50 != (0 : Int)) (Q false h51) (∃ m11, m11 < st.length - j ∧ ∃ (j' : Nat) (M : Int → Int), IntKind.wrap .i64 ((j : Int) + 1) = j' ∧ j' ≤ st.length ∧ m11 = st.length - j' ∧ Own (RamS r 8 holes7 M :: RefS m M :: SlAt (holeSl b) 2 (holeCells holes7) :: l) h51))) A' := by
    intro M' A' h
    refine Same_spec (i := 0) (j := 1) (k := k + 3) h rfl rfl e hr hlen ?_
    exact bsel_f rfl ⟨st.length - (j + 1), by omega, j + 1, M', by rw [w64] <;> omega, by omega, rfl, h⟩
  refine Walk_spec (i := 0) h rfl (by decide) (by decide) hpU ?_
  have hrw := fun (A : AH) (h : Own (RamS r 8 holes7 M :: RefS m M :: SlAt (holeSl b) 2 (holeCells holes7) :: l) A) => h
  cases hW : walkZ 8 holes7 M p.root p.a p.aw p.au p.af with
  | err e1 =>
    intro _ h
    have h9 := walkZ_code hW
    refine rWalk_spec (j := 1) (k := 2) (hs := holes7) h rfl rfl (by decide) (by decide) hpU ?_
    rw [hW]
    intro _ h
    refine ⟨fun c1 c2 h4 => c1 = 0 ∧ c2 = 0 ∧ Own (RamS r 8 holes7 M :: RefS m M :: SlAt (holeSl b) 2 (holeCells holes7) :: l) h4, ?_, bsel_f (by simpa using h9) ⟨rfl, rfl, h⟩⟩
    intro c1 c2 h4 ⟨d1, d2, h⟩
    subst d1 d2
    refine bsel_f (by simp) (bsel_f rfl (bsel_f rfl (hgo _ _ h)))
  | fault c1 =>
    intro _ h
    refine rWalk_spec (j := 1) (k := 2) (hs := holes7) h rfl rfl (by decide) (by decide) hpU ?_
    rw [hW]
    intro _ h
    refine ⟨fun d1 d2 h4 => d1 = p.a ∧ d2 = c1 ∧ Own (RamS r 8 holes7 M :: RefS m M :: SlAt (holeSl b) 2 (holeCells holes7) :: l) h4, ?_, bsel_t rfl ⟨rfl, rfl, h⟩⟩
    intro d1 d2 h4 ⟨g1, g2, h⟩
    subst g1 g2
    refine bsel_f (by simp) (bsel_f (by simp) (bsel_f rfl (hgo _ _ h)))
  | ok f w u x g lg d qs =>
    intro _ h
    simp only [List.set_cons_zero] at h
    refine rWalk_spec (j := 1) (k := 2) (hs := holes7) h rfl rfl (by decide) (by decide) hpU ?_
    rw [hW]
    intro _ h
    simp only [List.set_cons_zero, List.set_cons_succ] at h
    refine ⟨fun c1 c2 h4 => c1 = 0 ∧ c2 = 0 ∧ Own (RamS r 8 holes7 (markL M p.aw qs) :: RefS m (markL M p.aw qs) :: SlAt (holeSl b) 2 (holeCells holes7) :: l) h4, ?_, bsel_f rfl ⟨rfl, rfl, h⟩⟩
    intro c1 c2 h4 ⟨d1, d2, h⟩
    subst d1 d2
    refine bsel_f (by simp) (bsel_f rfl (bsel_f (by simp) (hgo _ _ h)))
end Go.Dn
