/- What the laws on tables read: the calls that are handed in. -/
import Derived.Test.YtcdcmffcajlolaaSWorld
namespace Go.Dn

variable {A : AH} {l R : List SP} {r b t : Nat} {N u : Int} {W W' : Int → Int → Int} {F G F' G' : Int → Prop} {root : Int} {tab : Tab} {lf : Int → Option Lf} {tl : List Int} {P : SP}
structure ActZ where
  kind : Int
  page : Int
  frame : Int
  w : Bool
  u : Bool
  x : Bool
def actCell (a : ActZ) : List Value := [.int .i64 a.kind, .int .i64 a.page, .int .i64 a.frame, .bool a.w, .bool a.u, .bool a.x]
def actCells (l : List ActZ) : List Value := l.flatMap actCell
theorem actCells_at : ∀ {l : List ActZ} {v : Nat} {a : ActZ} {c : Nat} {x : Value}, l[v]? = some a → (actCell a)[c]? = some x → (actCells l)[v * 6 + c]? = some x
  | [], v, a, c, x, h, _ => by simp at h
  | b :: r, 0, a, c, x, h, hc => by
    simp at h; subst h
    have hlt : c < 6 := (List.getElem?_eq_some_iff.1 hc).1
    unfold actCells
    rw [List.flatMap_cons, List.getElem?_append_left (by simp [actCell]; omega), Nat.zero_mul, Nat.zero_add]
    exact hc
  | b :: r, v + 1, a, c, x, h, hc => by
    have h : r[v]? = some a := by simpa using h
    unfold actCells
    rw [List.flatMap_cons, List.getElem?_append_right (by simp [actCell]; omega)]
    have : (v + 1) * 6 + c - (actCell b).length = v * 6 + c := by simp [actCell]; omega
    rw [this]
    exact actCells_at h hc
/-- A call that is handed in, read. -/
theorem rd_act {k : Nat} {s : Sl} {acts : List ActZ} {v : Nat} (h : Own l A) (e : l[k]? = some P) (hr : Reads P s 6 (actCells acts)) (hv : v < acts.length) :
    ∃ a bb o, acts[v]? = some a ∧ s.a = some ⟨bb, o, none⟩ ∧ cellA A ⟨bb, o + (v * 6 + 0), none⟩ = some (.int .i64 a.kind) ∧ cellA A ⟨bb, o + (v * 6 + 1), none⟩ = some (.int .i64 a.page) ∧ cellA A ⟨bb, o + (v * 6 + 2), none⟩ = some (.int .i64 a.frame) ∧
      cellA A ⟨bb, o + (v * 6 + 3), none⟩ = some (.bool a.w) ∧ cellA A ⟨bb, o + (v * 6 + 4), none⟩ = some (.bool a.u) ∧ cellA A ⟨bb, o + (v * 6 + 5), none⟩ = some (.bool a.x) := by
  obtain ⟨a, ha⟩ : ∃ a, acts[v]? = some a := ⟨acts[v], by simp [hv]⟩
  have rd := fun c x hx => rd_cell h e hr (j := v * 6 + c) (v := x) (actCells_at ha (c := c) hx)
  obtain ⟨bb, o, q1, c0⟩ := rd 0 _ rfl
  have same : ∀ {c : Nat} {x : Value}, (actCell a)[c]? = some x → cellA A ⟨bb, o + (v * 6 + c), none⟩ = some x := fun {c x} hx => by
    obtain ⟨b2, o2, q2, c2⟩ := rd c x hx
    rw [q1] at q2
    cases q2
    exact c2
  exact ⟨a, bb, o, ha, q1, c0, same rfl, same rfl, same rfl, same rfl, same rfl⟩
theorem rd_acts_len {k : Nat} {s : Sl} {acts : List ActZ} (h : Own l A) (e : l[k]? = some P) (hr : Reads P s 6 (actCells acts)) : s.len = acts.length := by
  have := rd_len h e hr
  have e2 : ∀ l : List ActZ, (actCells l).length = l.length * 6 := by
    intro l
    induction l with
    | nil => rfl
    | cons a r ih => unfold actCells at *; rw [List.flatMap_cons, List.length_append, ih]; simp [actCell]; omega
  rw [e2] at this
  omega
/-- The kernel's tables cost one frame and one for each 2^18 frames. -/
theorem TableKernel_spec {frames may : Int} {Q : Bool → AH → Prop} (h : Own R A) (hk : ∀ A', Own R A' → Q true A') (hb : -9223372036854775808 ≤ frames ∧ frames < 9223372036854775808) : demesnelaw09_TableKernel_A frames may Q A := by
  unfold demesnelaw09_TableKernel_A demesnelaw09_TableKernel_G
  refine ⟨fun h' => h' = A ∧ 20 ≤ frames ∧ frames ≤ 600000 ∧ 0 ≤ may ∧ may ≤ 1000, ?_, bsel_in (fun _ => awake_spec h hk) fun c1 => bsel_in (fun _ => awake_spec h hk) fun c2 => bsel_in (fun _ => awake_spec h hk) fun c3 => bsel_in (fun _ => awake_spec h hk) fun c4 => ⟨rfl, by simp at c1; omega, by simp at c2; omega, by simp at c3; omega, by simp at c4; omega⟩⟩
  intro A0 ⟨e0, f0, f1, m0, m1⟩
  subst e0
  refine ram_spec h ⟨by omega, by omega⟩ fun r A1 h1 => new_C (cs := [.int .i64 1, .int .i64 20]) h1 fun b4 A2 h2 => ?_
  have h2 : Own (SlAt ⟨some ⟨b4, 0, none⟩, 1, 1⟩ 2 (rangeCells [(1, 20)]) :: RamW r frames [] (fun _ _ => 0) :: R) A2 := h2.imp fun B hB => (at_slo (k := 1) (sz := 2) rfl hB).look
  refine bNew_spec (k := 0) (rs := [(1, 20)]) h2 rfl reads_slat (fun g => by simp at g) (fun _ g => by simp [okR] at g) fun _ _ b A3 h3 => ?_
  refine qNew_spec h3 (fun g => by omega) fun _ t A4 h4 => ?_
  have h4 : Own (RamW r frames [] (fun _ _ => 0) :: TreeS t [⟨-1, may, 0, 0, true⟩] :: Bud b (inR [(1, 20)]) (fun _ => False) (sizeR [(1, 20)]) :: SlAt ⟨some ⟨b4, 0, none⟩, 1, 1⟩ 2 (rangeCells [(1, 20)]) :: R) A4 := h4.pick 3 rfl
  have h4 : Own (RamW r frames [] (fun _ _ => 0) :: Bud b (inR [(1, 20)]) (fun _ => False) 19 :: TreeS t [⟨-1, may, 0, 0, true⟩] :: R) A4 := h4.cons fun C hC => hC.swap.cons fun D hD => hD.cons fun D2 hD2 => hD2.tail
  have hin : ∀ x, inR [(1, 20)] x → 1 ≤ x ∧ x < 20 := fun x hx => by simpa [inR] using hx
  have hne : ((needK frames : Nat) : Int) = (frames + 262143) / 262144 := by unfold needK; omega
  have hneed : IntKind.wrap .i64 (1 + Int.fdiv (IntKind.wrap .i64 (IntKind.wrap .i64 (frames + 262144) - 1)) (2 ^ (18 : Nat))) = 1 + (needK frames : Int) := by
    rw [w64 (n := frames + 262144) (by omega) (by omega), w64 (n := frames + 262144 - 1) (by omega) (by omega), shr_eq, hne, show ((2 : Int) ^ (18 : Nat)) = 262144 by rfl, w64 (by omega) (by omega)]
    omega
  have hn3 : (needK frames : Int) ≤ 3 := by omega
  refine ⟨fun h' => h' = A4, ?_, bsel_f rfl (bsel_f rfl (bsel_f rfl (bsel_f rfl (bsel_f rfl (bsel_f rfl rfl)))))⟩
  intro A5 e5
  subst e5
  rw [hneed]
  refine Kernel_spec (i := 0) h4 rfl rfl (fun x hx => has0.2 ?_) (by omega) (fun e W' A6 he _ hA => ?_) fun q1 q2 top ms W' A6 hlen hms _ hA => ?_
  · have := hin x hx; omega
  · simp only at he
    have he8 : e = 8 := by omega
    subst he8
    refine bsel_t (by simp; omega) ?_
    refine awake_spec hA fun A7 h7 => bsel_t rfl (bsel_t rfl ?_)
    refine Used_head (i := 0) (Own.rot3 h7) rfl rfl (bsel_t rfl (Free_head h7.swap ?_))
    exact hk A7 h7.tail.tail.tail
  · simp only at q1
    refine bsel_f (by simp; omega) ?_
    refine awake_spec hA fun A7 h7 => bsel_t rfl (bsel_t rfl ?_)
    have h7 : Own (RamW r frames [] W' :: Bud b (fun x => inR [(1, 20)] x ∧ x ∉ top :: ms) (fun x => False ∨ x ∈ top :: ms) (19 - (top :: ms).length) :: TreeS t [⟨-1, may, 0 + (top :: ms).length, 0, true⟩] :: R) A7 := h7
    have hl2 : ((top :: ms).length : Int) = 1 + needK frames := by simp [hlen]; omega
    refine Used_head (i := 0) (Own.rot3 h7) rfl rfl (bsel_t (by rw [hl2]; simp) (Free_head h7.swap ?_))
    rw [hl2, w64 (n := 19 - (1 + (needK frames : Int))) (by omega) (by omega)]
    have := hk A7 h7.tail.tail.tail
    simpa using this
end Go.Dn
