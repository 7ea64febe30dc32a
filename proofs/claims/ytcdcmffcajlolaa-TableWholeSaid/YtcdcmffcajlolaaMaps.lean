/- What the proof stands on: RamAt, Maps. -/
import Derived.Test.YtcdcmffcajlolaaDnY
import Derived.Test.YtcdcmffcajlolaaDnN
import Derived.Test.YtcdcmffcajlolaaPte
/- A memory by the place of its part in a list. -/
namespace Go.Dn

variable {A : AH} {l : List SP} {r : Nat} {fr : Int} {hs : List (Int × Int)} {M : Int → Int}
theorem RamS.byte {i : Nat} (h : Own l A) (e : l[i]? = some (RamS r fr hs M)) : ∀ a, 0 ≤ M a ∧ M a < 256 := by
  obtain ⟨s, mb, pm, ok, _⟩ := RamS.open h e
  exact ok.byte
theorem Store_at {i : Nat} {a x : Int} {n : Nat} {Q : Int → AH → Prop} (h : Own l A) (e : l[i]? = some (RamS r fr hs M)) (hl : hs.length ≤ 64) (hf : 0 ≤ fr ∧ fr ≤ 1048576) (hz : n = 1 ∨ n = 2 ∨ n = 4 ∨ n = 8)
    (ha : 0 ≤ a ∧ a < 18446744073709551616) (hn : okA fr hs a n = false → Q 2 A) (hk : okA fr hs a n = true → ∀ A', Own (l.set i (RamS r fr hs (stM M a n x))) A' → Q 0 A') : ram_RAM_Store_A (some ⟨r, 0, none⟩) a n x Q A :=
  Store_spec (h.pick i e) hl hf hz ha hn fun ok A' h' => hk ok A' (Own.back i e h')
theorem word_u64 {i : Nat} (h : Own l A) (e : l[i]? = some (RamS r fr hs M)) (a : Int) : U64 (le M a 8) := by
  have := le_bound (RamS.byte h e) 8 a
  exact ⟨this.1, this.2⟩
theorem le_snoc (M : Int → Int) : ∀ (n : Nat) (a : Int), le M a (n + 1) = le M a n + M (a + n) * 256 ^ n
  | 0, a => by simp [le]
  | n + 1, a => by
    show M a + 256 * le M (a + 1) (n + 1) = (M a + 256 * le M (a + 1) n) + M (a + ((n + 1 : Nat) : Int)) * 256 ^ (n + 1)
    rw [le_snoc M n (a + 1), Int.pow_succ, show a + 1 + (n : Int) = a + ((n + 1 : Nat) : Int) by omega]
    rw [Int.mul_add, Int.add_assoc, Int.mul_left_comm, Int.mul_comm (256 : Int) (256 ^ n)]
theorem le_congr {M N : Int → Int} : ∀ (n : Nat) (a : Int), (∀ c, a ≤ c → c < a + n → M c = N c) → le M a n = le N a n
  | 0, _, _ => rfl
  | n + 1, a, h => by
    simp only [le]
    rw [h a (by omega) (by omega), le_congr n (a + 1) fun c h1 h2 => h c (by omega) (by omega)]
/-- What was stored is there. -/
theorem le_bytes (x : Int) : ∀ (n k : Nat) (N : Int → Int) (a : Int), (∀ j : Nat, j < n → N (a + j) = x / 2 ^ (8 * (k + j)) % 256) → le N a n = x / 2 ^ (8 * k) % 256 ^ n
  | 0, k, N, a, h => by simp [le, Int.emod_one]
  | n + 1, k, N, a, h => by
    simp only [le]
    have h0 := h 0 (by omega)
    rw [Int.natCast_zero, Int.add_zero, Nat.add_zero] at h0
    rw [h0, le_bytes x n (k + 1) N (a + 1) fun j hj => by rw [← show a + ((j + 1 : Nat) : Int) = a + 1 + j by omega, h (j + 1) (by omega), show k + (j + 1) = k + 1 + j by omega]]
    rw [show 8 * (k + 1) = 8 * k + 8 by omega, Int.pow_add, ← Int.ediv_ediv_of_nonneg (Int.pow_nonneg (by omega))]
    generalize x / 2 ^ (8 * k) = z
    rw [Int.pow_succ]
    show z % 256 + 256 * (z / 256 % 256 ^ n) = z % (256 ^ n * 256)
    have h3 : z / 256 % 256 ^ n = z / 256 - 256 ^ n * (z / 256 / 256 ^ n) := by
      have := Int.mul_ediv_add_emod (z / 256) (256 ^ n); omega
    have h4 : z % (256 ^ n * 256) = z - 256 ^ n * 256 * (z / (256 ^ n * 256)) := by
      have := Int.mul_ediv_add_emod z (256 ^ n * 256); omega
    rw [h3, h4, Int.ediv_ediv_of_nonneg (by omega), Int.mul_comm 256 (256 ^ n : Int)]
    generalize z / (256 ^ n * 256) = w
    have : 256 ^ n * 256 * w = 256 * (256 ^ n * w) := by rw [Int.mul_comm (256 ^ n : Int) 256, Int.mul_assoc]
    omega
theorem le_same (M : Int → Int) (a x : Int) (n : Nat) (hx : 0 ≤ x) (hx2 : x < 256 ^ n) : le (stM M a n x) a n = x := by
  have := le_bytes x n 0 (stM M a n x) a fun j hj => by
    unfold stM
    rw [if_pos ⟨by omega, by omega⟩, show (a + (j : Int) - a).toNat = 0 + j by omega]
  rw [this]
  simp
  exact Int.emod_eq_of_lt hx hx2
theorem le_apart (M : Int → Int) (a b x : Int) (n m : Nat) (h : b + m ≤ a ∨ a + n ≤ b) : le (stM M a n x) b m = le M b m :=
  le_congr m b fun c h1 h2 => by
    unfold stM
    rw [if_neg (by omega)]
theorem st_same {M : Int → Int} (hb : ∀ a, 0 ≤ M a ∧ M a < 256) : ∀ (n : Nat) (a : Int), stM M a n (le M a n) = M := by
  intro n a
  funext c
  unfold stM
  by_cases g : a ≤ c ∧ c < a + n
  · rw [if_pos g]
    obtain ⟨j, rfl⟩ : ∃ j : Nat, c = a + j := ⟨(c - a).toNat, by omega⟩
    rw [show (a + (j : Int) - a).toNat = j by omega]
    have key : ∀ (j n : Nat) (a : Int), j < n → le M a n / 2 ^ (8 * j) % 256 = M (a + j) := by
      intro j
      induction j with
      | zero =>
        intro n a hn
        obtain ⟨n, rfl⟩ : ∃ k, n = k + 1 := ⟨n - 1, by omega⟩
        have := hb a
        simp only [le]
        simp
        omega
      | succ j ih =>
        intro n a hn
        obtain ⟨n, rfl⟩ : ∃ k, n = k + 1 := ⟨n - 1, by omega⟩
        have h1 := hb a
        rw [show 8 * (j + 1) = 8 + 8 * j by omega, Int.pow_add, ← Int.ediv_ediv_of_nonneg (by simp)]
        have : le M a (n + 1) / 2 ^ 8 = le M (a + 1) n := by
          simp only [le]
          show (M a + 256 * le M (a + 1) n) / 256 = _
          omega
        rw [this, ih n (a + 1) (by omega), show a + 1 + (j : Int) = a + ((j + 1 : Nat) : Int) by omega]
    exact key j n a (by omega)
  · rw [if_neg g]

/-- The document's memory. -/
theorem stM_byte {a x : Int} {n : Nat} (hb : ∀ a, 0 ≤ M a ∧ M a < 256) : ∀ c, 0 ≤ stM M a n x c ∧ stM M a n x c < 256 := by
  intro c
  unfold stM
  split
  · omega
  · exact hb c
end Go.Dn
/- Maps with numbers as keys: what is taken out, how many, all keys; the block that a number is in. -/
namespace Go.Dn
open Go.MapKept

variable {A : AH} {l R : List SP}
def delM (m : List (Int × Value)) (key : Int) : List (Int × Value) := match m with
  | [] => []
  | p :: m => if p.1 = key then m else p :: delM m key
theorem find_del {k : IntKind} {key : Int} : ∀ (es : List MapEntry) (m : List (Int × Value)) (j : Nat), es.map (fun e => (e.key, e.val)) = m.map (fun p => (.int k p.1, p.2)) →
    ∃ r, Instr.findNow (.int k) (.int k key) es j = some r ∧
      (∀ i v, r = some (i, v) → j ≤ i ∧ i - j < es.length ∧ (es.eraseIdx (i - j)).map (fun e => (e.key, e.val)) = (delM m key).map (fun p => (.int k p.1, p.2))) ∧ (r = none → delM m key = m)
  | [], [], j, _ => ⟨none, rfl, (fun _ _ e => nomatch e), fun _ => rfl⟩
  | [], _ :: _, _, e => by simp at e
  | _ :: _, [], _, e => by simp at e
  | e :: es, p :: m, j, h => by
    simp only [List.map_cons, List.cons.injEq, Prod.mk.injEq] at h
    obtain ⟨⟨h1, h2⟩, h3⟩ := h
    simp only [Instr.findNow, h1, Instr.sameNow]
    by_cases q : p.1 = key
    · refine ⟨some (j, e.val), by simp [q], ?_, fun hn => by cases hn⟩
      intro i v hv
      simp only [Option.some.injEq, Prod.mk.injEq] at hv
      obtain ⟨rfl, rfl⟩ := hv
      exact ⟨Nat.le_refl _, by simp, by simp [delM, q, h3]⟩
    · obtain ⟨r, k1, k3, k4⟩ := find_del (k := k) (key := key) es m (j + 1) h3
      refine ⟨r, ?_, ?_, ?_⟩
      · have g : (key == p.1) = false := by simpa using fun g => q g.symm
        rw [g]; exact k1
      · intro i v hv
        obtain ⟨k5, k6, k7⟩ := k3 i v hv
        refine ⟨by omega, by simp; omega, ?_⟩
        rw [show i - j = (i - (j + 1)) + 1 by omega]
        simp only [List.eraseIdx_cons_succ, List.map_cons, k7]
        simp [delM, q, h1, h2]
      · intro hn
        simp [delM, q, k4 hn]
theorem dl_M {i b : Nat} {k : IntKind} {key : Int} {m : List (Int × Value)} {K : AP} (h : Own l A) (e : l[i]? = some (MapI b k m)) (hk : ∀ A', Own (l.set i (MapI b k (delM m key))) A' → K A') : aMDl A (some b) k key K := by
  obtain ⟨es, c, h1, h2, hst⟩ := h.map e
  obtain ⟨r, k1, k3, k4⟩ := find_del (k := k) (key := key) es.toList m 0 h2
  refine ⟨es, c, h1, r, k1, hk _ ?_⟩
  refine h.upd e (fun B ⟨_, _, hb, _⟩ => ⟨_, hb⟩) fun B _ => ?_
  cases r with
  | none =>
    refine ⟨_, _, updA_self, ?_, hst⟩
    rw [k4 rfl]; exact h2
  | some p =>
    obtain ⟨i, v0⟩ := p
    obtain ⟨k5, k6, k7⟩ := k3 i v0 rfl
    refine ⟨_, _, updA_self, ?_, stamped_erase hst i⟩
    show (es.eraseIdxIfInBounds i).toList.map _ = _
    have : (es.eraseIdxIfInBounds i).toList = es.toList.eraseIdx i := by
      rw [Array.eraseIdxIfInBounds_eq]
      split
      · simp
      · rename_i g
        rw [List.eraseIdx_of_length_le (by simpa using Nat.le_of_not_lt g)]
    rw [this]
    exact k7
theorem ln_M {i b : Nat} {k : IntKind} {m : List (Int × Value)} {K : Int → Prop} (h : Own l A) (e : l[i]? = some (MapI b k m)) (hk : K m.length) : aMLn A (some b) K := by
  obtain ⟨es, c, h1, h2, _⟩ := h.map e
  refine ⟨es.toList, by simp [mapEA, h1], ?_⟩
  have : es.toList.length = m.length := by
    have := congrArg List.length (show es.toList.map (fun e => (e.key, e.val)) = _ from h2)
    simpa using this
  rw [this]; exact hk
/-- All keys, in any order, in a slice of one's own. -/
theorem cl_M {i b r t : Nat} {m : List (Int × Value)} {Q : Sl → AP} {j : Nat} (h : Own l A) (ep : l[j]? = some (At b [.map (some r)])) (e : l[i]? = some (MapI r .i64 m)) (hn : m.length ≤ 17592186044416) (hr : ∀ p ∈ m, (Lit.int .i64 p.1).wf = true)
    (h0 : m = [] → Q Sl.nil A)
    (hk : ∀ (ss : List Int) s A', ss.Perm (m.map (·.1)) → ss ≠ [] → s.len = ss.length → Own (SlAt s 1 (ss.map (.int .i64)) :: l) A' → Q s A') : clA t (some ⟨b, 0, none⟩) Q A := by
  obtain ⟨es, c, h1, h2, hst⟩ := h.map e
  refine ⟨b, some r, rfl, cell_at ep h rfl, es, c, h1, ⟨hst, ?_, ?_⟩, fun ss hs => ⟨fun he => ?_, fun cap cur hne hle hsz hcur => ?_⟩⟩
  · have : es.toList.length = m.length := by
      have := congrArg List.length (show es.toList.map (fun e => (e.key, e.val)) = _ from h2)
      simpa using this
    have : es.size = m.length := by simpa using this
    omega
  · intro x hx
    have : (x.key, x.val) ∈ m.map fun p => ((.int .i64 p.1 : Value), p.2) := by rw [← show es.toList.map (fun e => (e.key, e.val)) = _ from h2]; exact List.mem_map.2 ⟨x, hx, rfl⟩
    obtain ⟨p, hp, hpe⟩ := List.mem_map.1 this
    simp only [Prod.mk.injEq] at hpe
    exact ⟨p.1, hpe.1.symm, hr p hp⟩
  · apply h0
    subst he
    have := hs.length_eq
    have h3 : es.toList.length = m.length := by
      have := congrArg List.length (show es.toList.map (fun e => (e.key, e.val)) = _ from h2)
      simpa using this
    apply List.length_eq_zero_iff.1
    simp at this h3
    rw [← h3, ← this]
  · intro g hg
    have hm : es.toList.map keyI = m.map (·.1) := by
      have h3 : (es.toList.map fun e => (e.key, e.val)).map (fun p => match p.1 with | .int _ n => n | _ => 0) = (m.map fun p => ((.int .i64 p.1 : Value), p.2)).map (fun p => match p.1 with | .int _ n => n | _ => 0) := congrArg _ h2
      rw [List.map_map, List.map_map] at h3
      exact h3
    rw [hm] at hs
    refine hk ss _ _ hs hne rfl (h.new hg fun B hB => ⟨by simp, hle, fun _ => ⟨g, [], cur.toList.drop ss.length, rfl, t, ?_⟩⟩)
    have : [] ++ ss.map (Value.int .i64) ++ cur.toList.drop ss.length = cur.toList := by
      rw [List.nil_append, ← hcur, List.take_append_drop]
    rw [this, hB, Array.toArray_toList]
end Go.Dn
