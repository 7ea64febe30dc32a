/- Walks through tables. -/
import Derived.Test.YtcdcmffcajlolaaSlices
import Derived.Test.YtcdcmffcajlolaaMaps
namespace Go.Dn

def codeZ (aw au af : Bool) : Int := (if aw then 2 else 0) + (if au then 4 else 0) + (if af then 16 else 0)
def mayZ (w u x aw au af : Bool) : Bool := !(aw && !w) && !(au && !u) && !(af && !x)
inductive WOut where
  | err (e : Int)
  | fault (code : Int)
  | ok (frame : Int) (w u x g lg d : Bool) (places : List Int)
def placeZ (t a : Int) (lv : Nat) : Int := t * 4096 + 8 * partZ a (12 + 9 * lv)
def walkL (fr : Int) (hs : List (Int × Int)) (M : Int → Int) (a : Int) (aw au af : Bool) : Nat → Int → Bool → Bool → Bool → List Int → WOut
  | 0, _, _, _, _, _ => .err 0
  | lv + 1, t, w, u, x, ps =>
    if hasF fr hs t = false then .err 2
    else if bitZ (le M (placeZ t a lv) 8) 0 = false then .fault (codeZ aw au af)
    else if resvd (le M (placeZ t a lv) 8) ((lv : Int) + 1) = true then .fault (9 + codeZ aw au af)
    else if lv = 0 ∨ (lv = 1 ∧ bitZ (le M (placeZ t a lv) 8) 7 = true) then
      if mayZ (w && bitZ (le M (placeZ t a lv) 8) 1) (u && bitZ (le M (placeZ t a lv) 8) 2) (x && !bitZ (le M (placeZ t a lv) 8) 63) aw au af = true then
        .ok (if lv = 1 then frameZ (le M (placeZ t a lv) 8) + partZ a 12 else frameZ (le M (placeZ t a lv) 8)) (w && bitZ (le M (placeZ t a lv) 8) 1) (u && bitZ (le M (placeZ t a lv) 8) 2) (x && !bitZ (le M (placeZ t a lv) 8) 63)
          (bitZ (le M (placeZ t a lv) 8) 8) (lv == 1) (bitZ (le M (placeZ t a lv) 8) 6 || aw) (ps ++ [placeZ t a lv])
      else .fault (1 + codeZ aw au af)
    else walkL fr hs M a aw au af lv (frameZ (le M (placeZ t a lv) 8)) (w && bitZ (le M (placeZ t a lv) 8) 1) (u && bitZ (le M (placeZ t a lv) 8) 2) (x && !bitZ (le M (placeZ t a lv) 8) 63) (ps ++ [placeZ t a lv])
def or5 (x : Int) : Int := if bitZ x 5 then x else x + 32
def or6 (x : Int) : Int := if bitZ x 6 then x else x + 64
def markL (M : Int → Int) (wr : Bool) : List Int → (Int → Int)
  | [] => M
  | p :: ps => markL (stM M p 8 (if wr && ps.isEmpty then or6 (or5 (le M p 8)) else or5 (le M p 8))) wr ps
def walkZ (fr : Int) (hs : List (Int × Int)) (M : Int → Int) (root a : Int) (aw au af : Bool) : WOut :=
  if canonZ a = false then .err 1 else if hasF fr hs root = false then .err 2 else walkL fr hs M a aw au af 4 root true true true []

variable {A : AH} {l : List SP} {r : Nat} {fr : Int} {hs : List (Int × Int)} {M : Int → Int}
theorem May_spec {w u x aw au af : Bool} {Q : Bool → AH → Prop} (hk : Q (mayZ w u x aw au af) A) : walk_May_A w u x aw au af Q A := by
  unfold walk_May_A
  cases w <;> cases u <;> cases x <;> cases aw <;> cases au <;> cases af <;> exact hk
def wcell (r : Nat) (a : Int) (aw au af w u x : Bool) : List Value := [.pointer (some ⟨r, 0, none⟩), .int .u64 a, .bool aw, .bool au, .bool af, .bool w, .bool u, .bool x]
theorem fault_spec {b j : Nat} {a c : Int} {aw au af w u x : Bool} {Q : AH → Prop} {Kp : Value → AH → Prop} (hc : c = 0 ∨ c = 1 ∨ c = 9) (h : Own l A) (e : l[j]? = some (At b (wcell r a aw au af w u x)))
    (hk : Kp (.iface ty_walk_stop (.agg #[.int .u64 a, .int .i64 (c + codeZ aw au af), .int .i64 9])) A) : walk_walker_fault_A (some ⟨b, 0, none⟩) c Q Kp A := by
  unfold walk_walker_fault_A
  refine ⟨fun c1 h1 => h1 = A ∧ c1 = c + (if aw then 2 else 0), ?_, ?_⟩
  · intro c1 h1 ⟨e1, e2⟩
    subst e1
    refine ⟨fun c2 h2 => h2 = h1 ∧ c2 = c1 + (if au then 4 else 0), ?_, ?_⟩
    · intro c2 h2 ⟨e3, e4⟩
      subst e3
      refine ⟨fun c3 h3 => h3 = h2 ∧ c3 = c2 + (if af then 16 else 0), ?_, ?_⟩
      · intro c3 h3 ⟨e5, e6⟩
        subst e5 e6 e4 e2
        refine ld_I (i := j) h e rfl ?_
        have : c + codeZ aw au af = c + (if aw then 2 else 0) + (if au then 4 else 0) + (if af then 16 else 0) := by unfold codeZ; omega
        rw [this] at hk
        exact hk
      · refine ld_B (i := j) h e rfl ?_
        cases af
        · exact ⟨rfl, by simp⟩
        · refine ⟨rfl, ?_⟩
          subst e4 e2
          rcases hc with rfl | rfl | rfl <;> cases aw <;> cases au <;> decide
    · refine ld_B (i := j) h e rfl ?_
      cases au
      · exact ⟨rfl, by simp⟩
      · refine ⟨rfl, ?_⟩
        subst e2
        rcases hc with rfl | rfl | rfl <;> cases aw <;> decide
  · refine ld_B (i := j) h e rfl ?_
    cases aw
    · exact ⟨rfl, by simp⟩
    · refine ⟨rfl, ?_⟩
      rcases hc with rfl | rfl | rfl <;> decide
theorem okA_word {t : Int} {at_ : Int} (h0 : 0 ≤ at_ ∧ at_ < 512) : okA fr hs (t * 4096 + 8 * at_) 8 = hasF fr hs t := by
  have h1 : (t * 4096 + 8 * at_) / 4096 = t := by omega
  have h2 : (t * 4096 + 8 * at_ + 8 - 1) / 4096 = t := by omega
  unfold okA
  rw [h1, h2]
  cases h : hasF fr hs t with
  | false => simp
  | true =>
    have : t < fr := by
      unfold hasF at h
      simp at h
      omega
    simp
    omega
theorem place_bound {t a : Int} {lv : Nat} (ht : 0 ≤ t ∧ t < 1048576) : 0 ≤ partZ a (12 + 9 * lv) ∧ partZ a (12 + 9 * lv) < 512 ∧ 0 ≤ placeZ t a lv ∧ placeZ t a lv < 4294967296 := by
  unfold placeZ partZ
  omega
theorem place_wrap {t p : Int} (ht : 0 ≤ t ∧ t < 1048576) (hp : 0 ≤ p ∧ p < 512) :
    IntKind.wrap .u64 (IntKind.wrap .u64 (IntKind.wrap .u64 t * 4096) + IntKind.wrap .u64 (IntKind.wrap .i64 (8 * p))) = t * 4096 + 8 * p := by
  rw [wu64 (n := t) (by omega) (by omega), wu64 (n := t * 4096) (by omega) (by omega), w64 (n := 8 * p) (by omega) (by omega), wu64 (n := 8 * p) (by omega) (by omega), wu64 (by omega) (by omega)]
theorem entry_spec {b i j lv : Nat} {t a at_ lev : Int} {aw au af w u x : Bool} {Q : Int → Int → AH → Prop} {Kp : Value → AH → Prop} (h : Own l A) (e1 : l[i]? = some (RamS r fr hs M)) (e2 : l[j]? = some (At b (wcell r a aw au af w u x)))
    (hl : hs.length ≤ 64) (hf : 0 ≤ fr ∧ fr ≤ 1048576) (ht : 0 ≤ t ∧ t < 1048576) (hat : at_ = partZ a (12 + 9 * lv)) (hlev : lev = (lv : Int) + 1)
    (h2 : hasF fr hs t = false → Kp (.iface ty_walk_stop (.agg #[.int .u64 0, .int .i64 0, .int .i64 2])) A)
    (h0 : hasF fr hs t = true → bitZ (le M (placeZ t a lv) 8) 0 = false → Kp (.iface ty_walk_stop (.agg #[.int .u64 a, .int .i64 (codeZ aw au af), .int .i64 9])) A)
    (h9 : hasF fr hs t = true → bitZ (le M (placeZ t a lv) 8) 0 = true → resvd (le M (placeZ t a lv) 8) ((lv : Int) + 1) = true → Kp (.iface ty_walk_stop (.agg #[.int .u64 a, .int .i64 (9 + codeZ aw au af), .int .i64 9])) A)
    (hk : hasF fr hs t = true → bitZ (le M (placeZ t a lv) 8) 0 = true → resvd (le M (placeZ t a lv) 8) ((lv : Int) + 1) = false → ∀ A',
      Own (l.set j (At b (wcell r a aw au af (w && bitZ (le M (placeZ t a lv) 8) 1) (u && bitZ (le M (placeZ t a lv) 8) 2) (x && !bitZ (le M (placeZ t a lv) 8) 63)))) A' → Q (le M (placeZ t a lv) 8) (placeZ t a lv) A') :
    walk_walker_entry_A (some ⟨b, 0, none⟩) t at_ lev Q Kp A := by
  subst hat hlev
  have hb := place_bound (a := a) (lv := lv) ht
  have hjl := (List.getElem?_eq_some_iff.1 e2).1
  have hU := word_u64 h e1 (placeZ t a lv)
  unfold walk_walker_entry_A walk_walker_entry_G
  refine ld_P (i := j) h e2 rfl ?_
  rw [place_wrap ht ⟨hb.1, hb.2.1⟩]
  have hok := okA_word (fr := fr) (hs := hs) (t := t) (at_ := partZ a (12 + 9 * lv)) ⟨hb.1, hb.2.1⟩
  refine Load_spec (n := 8) h e1 hl hf (by omega) ⟨hb.2.2.1, Int.lt_trans hb.2.2.2 (by omega)⟩ ?_
  have hok2 : okA fr hs (t * 4096 + 8 * partZ a (12 + 9 * lv)) ((8 : Nat) : Int) = hasF fr hs t := hok
  rw [hok2]
  have hp : t * 4096 + 8 * partZ a (12 + 9 * lv) = placeZ t a lv := rfl
  rw [hp]
  generalize hx : le M (placeZ t a lv) 8 = e at *
  cases hh : hasF fr hs t with
  | false => exact ⟨fun _ => False, fun _ q => q.elim, bsel_t rfl (h2 hh)⟩
  | true =>
    simp only [↓reduceIte]
    refine ⟨fun h7 => h7 = A, ?_, bsel_f rfl rfl⟩
    intro h7 q
    subst q
    refine ⟨fun h12 => h12 = h7 ∧ bitZ e 0 = true, ?_, ?_⟩
    · intro h12 ⟨q1, q2⟩
      subst q1
      refine ⟨fun h19 => h19 = h12 ∧ resvd e ((lv : Int) + 1) = false, ?_, ?_⟩
      · intro h19 ⟨q3, q4⟩
        subst q3
        refine Unpack_spec hU h fun A3 h3 => ?_
        refine ⟨fun h38 => Own (l.set j (At b (wcell r a aw au af (w && bitZ e 1) u x))) h38, ?_, ?_⟩
        · intro h38 g38
          refine ⟨fun h46 => Own (l.set j (At b (wcell r a aw au af (w && bitZ e 1) (u && bitZ e 2) x))) h46, ?_, ?_⟩
          · intro h46 g46
            have e3 : (l.set j (At b (wcell r a aw au af (w && bitZ e 1) (u && bitZ e 2) x)))[j]? = some (At b (wcell r a aw au af (w && bitZ e 1) (u && bitZ e 2) x)) := by simp [hjl]
            refine ld_B (i := j) g46 e3 rfl ?_
            refine bsel_in (fun c => ?_) fun c => ?_
            · refine st_C (i := j) g46 e3 rfl rfl fun A4 h4 => ?_
              rw [List.set_set] at h4
              exact hk hh q2 q4 _ (by rw [c]; exact h4)
            · refine st_C (i := j) g46 e3 rfl rfl fun A4 h4 => ?_
              rw [List.set_set] at h4
              exact hk hh q2 q4 _ (by rw [c]; exact h4)
          · have e3 : (l.set j (At b (wcell r a aw au af (w && bitZ e 1) u x)))[j]? = some (At b (wcell r a aw au af (w && bitZ e 1) u x)) := by simp [hjl]
            refine ld_B (i := j) g38 e3 rfl ?_
            refine bsel_in (fun c => ?_) fun c => ?_
            · refine st_C (i := j) g38 e3 rfl rfl fun A4 h4 => ?_
              rw [List.set_set] at h4
              rw [c]
              exact h4
            · refine st_C (i := j) g38 e3 rfl rfl fun A4 h4 => ?_
              rw [List.set_set] at h4
              rw [c]
              exact h4
        · refine ld_B (i := j) h3 e2 rfl ?_
          refine bsel_in (fun c => ?_) fun c => ?_
          · refine st_C (i := j) h3 e2 rfl rfl fun A4 h4 => ?_
            rw [c]
            exact h4
          · refine st_C (i := j) h3 e2 rfl rfl fun A4 h4 => ?_
            rw [c]
            exact h4
      · refine Reserved_spec hU ?_
        refine bsel_in (fun c => ?_) fun c => ⟨rfl, c⟩
        exact fault_spec (.inr (.inr rfl)) h e2 (h9 hh q2 c)
    · rw [bit0 hU]
      refine bsel_in (fun c => ?_) fun c => ⟨rfl, by simpa using c⟩
      refine fault_spec (.inl rfl) h e2 ?_
      rw [Int.zero_add]
      exact h0 hh (by simpa using c)
theorem or5_eq {x : Int} (hx : U64 x) : bits .or .u64 x 32 = or5 x := bitZ_or 5 32 rfl (by omega) hx.1 hx.2
theorem or6_eq {x : Int} (hx : U64 x) : bits .or .u64 x 64 = or6 x := bitZ_or 6 64 rfl (by omega) hx.1 hx.2
theorem bit_room {x : Int} (k : Nat) (m : Int) (hm : m = 2 ^ k) (hk : k ≤ 62) (hx : U64 x) (hb : bitZ x k = false) : U64 (x + m) := by
  subst hm
  have hv := bitZ_val x k
  rw [hb] at hv
  have hp : (0 : Int) < 2 ^ k := Int.pow_pos (by omega)
  have h1 := hx.1
  have h2 := hx.2
  refine ⟨by omega, ?_⟩
  -- the part above the bit is even, so there is room
  have h3 := mod_pow_succ (x := x) k
  rw [← hv] at h3
  simp at h3
  have h4 := Int.mul_ediv_add_emod x (2 ^ (k + 1))
  have h5 := Int.emod_lt_of_pos x hp
  rw [h3] at h4
  have h6 : (2 : Int) ^ (k + 1) * (2 ^ (63 - k)) = 18446744073709551616 := by rw [← Int.pow_add, show k + 1 + (63 - k) = 64 by omega]; rfl
  have h7 : x / 2 ^ (k + 1) < 2 ^ (63 - k) := Int.ediv_lt_of_lt_mul (Int.pow_pos (by omega)) (by rw [Int.mul_comm, h6]; exact h2)
  have h8 : (2 : Int) ^ (k + 1) * (x / 2 ^ (k + 1)) ≤ 2 ^ (k + 1) * (2 ^ (63 - k) - 1) := Int.mul_le_mul_of_nonneg_left (by omega) (Int.pow_nonneg (by omega))
  rw [Int.mul_sub, h6, Int.mul_one] at h8
  have h9 : (2 : Int) ^ (k + 1) = 2 ^ k * 2 := Int.pow_succ _ _
  omega
theorem or5_u64 {x : Int} (hx : U64 x) : U64 (or5 x) := by
  unfold or5
  cases h : bitZ x 5
  · simpa using bit_room 5 32 rfl (by omega) hx h
  · simpa using hx
theorem or6_u64 {x : Int} (hx : U64 x) : U64 (or6 x) := by
  unfold or6
  cases h : bitZ x 6
  · simpa using bit_room 6 64 rfl (by omega) hx h
  · simpa using hx
def u64s (ps : List Int) : List Value := ps.map fun p => .int .u64 p
def markV (wr last : Bool) (x : Int) : Int := if wr && last then or6 (or5 x) else or5 x
theorem markV_u64 {wr last : Bool} {x : Int} (hx : U64 x) : U64 (markV wr last x) := by
  unfold markV
  split
  · exact or6_u64 (or5_u64 hx)
  · exact or5_u64 hx
/-- The places of a walk: in frames that are there. -/
def PlacesOK (fr : Int) (hs : List (Int × Int)) (ps : List Int) : Prop := ∀ p ∈ ps, okA fr hs p 8 = true ∧ 0 ≤ p ∧ p + 8 ≤ 18446744073709551616
theorem mark_spec {i k : Nat} {s : Sl} {ps : List Int} {wr : Bool} {Q : AH → Prop} (h : Own l A) (e1 : l[i]? = some (RamS r fr hs M)) (e2 : l[k]? = some (SlAt s 1 (u64s ps))) (hik : i ≠ k)
    (hl : hs.length ≤ 64) (hf : 0 ≤ fr ∧ fr ≤ 1048576) (hps : PlacesOK fr hs ps) (hn : ps.length ≤ 4) (hk : ∀ A', Own (l.set i (RamS r fr hs (markL M wr ps))) A' → Q A') : walk_mark_A (some ⟨r, 0, none⟩) s wr Q A := by
  have hil := (List.getElem?_eq_some_iff.1 e1).1
  have hlen : s.len = ps.length := by have := sl_len h e2; simp [u64s] at this; omega
  unfold walk_mark_A walk_mark_G
  refine ⟨fun q m h' => ∃ (j : Nat) (N : Int → Int), q = j ∧ j ≤ ps.length ∧ m = ps.length - j ∧ markL N wr (ps.drop j) = markL M wr ps ∧ Own (l.set i (RamS r fr hs N)) h', ⟨_, 0, M, rfl, by omega, rfl, by simp, ?_⟩, ?_⟩
  · rw [show l.set i (RamS r fr hs M) = l from ?_]
    · exact h
    · apply List.ext_getElem?
      intro c
      rw [List.getElem?_set]
      split
      · rename_i g; subst g; exact e1.symm
      · rfl
  intro q m h' ⟨j, N, g1, g2, g3, g4, g5⟩
  subst g1 g3
  have ei : (l.set i (RamS r fr hs N))[i]? = some (RamS r fr hs N) := by simp [hil]
  have ek : (l.set i (RamS r fr hs N))[k]? = some (SlAt s 1 (u64s ps)) := by rw [List.getElem?_set_ne hik]; exact e2
  refine bsel_in (fun c => ?_) fun c => ?_
  · have c : j < ps.length := by simp [hlen] at c; omega
    obtain ⟨p, hp⟩ : ∃ p, ps[j]? = some p := ⟨ps[j], by simp [c]⟩
    have hd : ps.drop j = p :: ps.drop (j + 1) := by
      rw [List.drop_eq_getElem_cons c]
      have := (List.getElem?_eq_some_iff.1 hp).2
      rw [this]
    have hok := hps p (List.mem_of_getElem? hp)
    have hU := word_u64 g5 ei p
    rw [hd] at g4
    have hstep : markL (stM N p 8 (markV wr (ps.drop (j + 1)).isEmpty (le N p 8))) wr (ps.drop (j + 1)) = markL M wr ps := g4
    have hnext : ∀ A', Own (l.set i (RamS r fr hs (stM N p 8 (markV wr (ps.drop (j + 1)).isEmpty (le N p 8))))) A' → ∃ m3, m3 < ps.length - j ∧ ∃ (j' : Nat) (N : Int → Int), IntKind.wrap .i64 ((j : Int) + 1) = j' ∧ j' ≤ ps.length ∧ m3 = ps.length - j' ∧ markL N wr (ps.drop j') = markL M wr ps ∧ Own (l.set i (RamS r fr hs N)) A' :=
      fun A' hA => ⟨ps.length - (j + 1), by omega, j + 1, _, by rw [w64] <;> omega, by omega, rfl, hstep, hA⟩
    refine ⟨fun h'' => Own (l.set i (RamS r fr hs (stM N p 8 (markV wr (ps.drop (j + 1)).isEmpty (le N p 8))))) h'', fun h'' q => hnext h'' q, ?_⟩
    obtain ⟨b, o, q1, q2⟩ := sl_cell g5 ek (j := j) (v := .int .u64 p) (by simp [u64s, hp])
    rw [q1]
    refine inB_in (by omega) (by rw [hlen]; omega) ⟨p, ?_, ?_⟩
    · rw [add_at]; simpa using q2
    refine Load_spec (n := 8) g5 ei hl hf (by omega) ⟨hok.2.1, by omega⟩ ?_
    have hok2 : okA fr hs p ((8 : Nat) : Int) = true := hok.1
    rw [hok2]
    simp only [↓reduceIte]
    refine ⟨fun y h'' => h'' = h' ∧ y = markV wr (ps.drop (j + 1)).isEmpty (le N p 8), ?_, ?_⟩
    · intro y h'' ⟨q3, q4⟩
      subst q3 q4
      refine bsel_in (fun c2 => ?_) fun c2 => ?_
      · refine Store_at (n := 8) g5 ei hl hf (by omega) ⟨hok.2.1, by omega⟩ (fun q => by rw [hok2] at q; cases q) fun _ A' hA => ?_
        rw [List.set_set] at hA
        exact hA
      · have c2 : markV wr (ps.drop (j + 1)).isEmpty (le N p 8) = le N p 8 := by simpa using c2
        rw [c2, st_same (RamS.byte g5 ei)]
        exact g5
    · have hlast : ((j : Int) == IntKind.wrap .i64 (Int.ofNat s.len - 1)) = (ps.drop (j + 1)).isEmpty := by
        rw [w64 (by simp [hlen]; omega) (by simp [hlen]; omega), hlen]
        by_cases g : j + 1 = ps.length
        · have : (ps.drop (j + 1)).isEmpty = true := by simp; omega
          rw [this]; simp; omega
        · have : (ps.drop (j + 1)).isEmpty = false := by simp; omega
          rw [this]; simp; omega
      rw [hlast, or5_eq hU, or6_eq (or5_u64 hU)]
      unfold markV
      refine bsel_in (fun c3 => ?_) fun c3 => ?_
      · refine bsel_in (fun c4 => ⟨rfl, ?_⟩) fun c4 => ⟨rfl, ?_⟩
        · rw [c3, c4]; rfl
        · rw [c3, c4]; rfl
      · exact ⟨rfl, by rw [c3]; rfl⟩
  · have : j = ps.length := by simp [hlen] at c; omega
    subst this
    rw [List.drop_length] at g4
    have g4 : N = markL M wr ps := g4
    rw [g4] at g5
    exact hk _ g5
end Go.Dn
