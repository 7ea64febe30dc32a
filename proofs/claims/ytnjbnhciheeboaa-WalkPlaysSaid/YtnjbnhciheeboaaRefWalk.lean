/- The document's walk. -/
import Derived.Test.YtnjbnhciheeboaaLawMarks
namespace Go.Dn

variable {A : AH} {l : List SP} {fr : Int} {hs : List (Int × Int)} {M : Int → Int} {mb : Nat}
abbrev RQ := Int → Bool → Bool → Bool → Bool → Bool → Bool → Int → Int → AH → Prop
def RPost (l : List SP) (j mb : Nat) (M : Int → Int) (aw : Bool) (Q : RQ) : WOut → Prop
  | .err e => ∀ A', Own l A' → Q 0 false false false false false false 0 e A'
  | .fault c => ∀ A', Own l A' → Q 0 false false false false false false c 9 A'
  | .ok f w u x g lg d ps => ∀ A', Own (l.set j (RefS mb (markL M aw ps))) A' → Q f w u x g lg d 0 0 A'
theorem RefS.byte {j : Nat} (h : Own l A) (e : l[j]? = some (RefS mb M)) : ∀ a, 0 ≤ M a ∧ M a < 256 := by
  obtain ⟨m, ok, _⟩ := RefS.open h e
  exact ok.byte
theorem set_self {i : Nat} {P : SP} (e : l[i]? = some P) : l.set i P = l := by
  apply List.ext_getElem?
  intro c
  rw [List.getElem?_set]
  split
  · rename_i g; subst g
    rw [if_pos (List.getElem?_eq_some_iff.1 e).1]; exact e.symm
  · rfl
def U64s (ps : List Int) : Prop := ∀ p ∈ ps, 0 ≤ p ∧ p + 8 ≤ 18446744073709551616
theorem rmark_spec {j k : Nat} {f0 : Int} {s0 s : Sl} {ps : List Int} {wr : Bool} {Q : AH → Prop} (h : Own l A) (e1 : l[j]? = some (RefS mb M)) (e2 : l[k]? = some (SlAt s 1 (u64s ps))) (hjk : j ≠ k) (hps : U64s ps) (hn : ps.length ≤ 4)
    (hk : ∀ A', Own (l.set j (RefS mb (markL M wr ps))) A' → Q A') :
    (∃ I81 : Int → Nat → AH → Prop, (∃ m82, I81 (0 : Int) m82 A) ∧ ∀ x85 : Int, ∀ m82 h84, I81 x85 m82 h84 → 
(bsel (decide (x85 < (Int.ofNat s.len)))
(onSome s.a fun a86 =>
(inB x85 s.len
(aI .u64 (Addr.add a86 (Int.toNat x85 * 1)) h84 fun n87 =>
(demesneref01_Load_A f0 s0 (some mb) n87 (8 : Int) (fun n88 h89 =>
(∃ R90 : Int → AH → Prop, (∀ x93 : Int, ∀ h94, R90 x93 h94 → 
(∃ R95 : Int → AH → Prop, (∀ x98 : Int, ∀ h99, R95 x98 h99 → 
(demesneref01_Store_A f0 s0 (some mb) n87 (8 : Int) x98 (fun  h100 =>
(∃ m83, m83 < m82 ∧ I81 (IntKind.wrap .i64 (x85 + (1 : Int))) m83 h100)) h99)) ∧
(bsel wr
(bsel (x85 == (IntKind.wrap .i64 ((Int.ofNat s.len) - (1 : Int))))
(demesneref03_Bit_A x93 (6 : Int) (fun b96 h97 =>
(bsel (!b96)
(R95 (IntKind.wrap .u64 (x93 + (64 : Int))) h97)
(R95 x93 h97))) h94)
(R95 x93 h94))
(R95 x93 h94)))) ∧
(demesneref03_Bit_A n88 (5 : Int) (fun b91 h92 =>
(bsel (!b91)
(R90 (IntKind.wrap .u64 (n88 + (32 : Int))) h92)
(R90 n88 h92))) h89))) h84))))
(Q h84))) := by
  have hjl := (List.getElem?_eq_some_iff.1 e1).1
  have hlen : s.len = ps.length := by have := sl_len h e2; simp [u64s] at this; omega
  refine ⟨fun q m h' => ∃ (i : Nat) (N : Int → Int), q = i ∧ i ≤ ps.length ∧ m = ps.length - i ∧ markL N wr (ps.drop i) = markL M wr ps ∧ Own (l.set j (RefS mb N)) h', ⟨_, 0, M, rfl, by omega, rfl, by simp, by rw [set_self e1]; exact h⟩, ?_⟩
  intro q m h' ⟨i, N, g1, g2, g3, g4, g5⟩
  subst g1 g3
  have ei : (l.set j (RefS mb N))[j]? = some (RefS mb N) := by simp [hjl]
  have ek : (l.set j (RefS mb N))[k]? = some (SlAt s 1 (u64s ps)) := by rw [List.getElem?_set_ne hjk]; exact e2
  refine bsel_in (fun c => ?_) fun c => ?_
  · have c : i < ps.length := by simp [hlen] at c; omega
    obtain ⟨p, hp⟩ : ∃ p, ps[i]? = some p := ⟨ps[i], by simp [c]⟩
    have hd : ps.drop i = p :: ps.drop (i + 1) := by
      rw [List.drop_eq_getElem_cons c]
      have := (List.getElem?_eq_some_iff.1 hp).2
      rw [this]
    have hok := hps p (List.mem_of_getElem? hp)
    have hU := rword_u64 g5 ei p
    rw [hd] at g4
    have hstep : markL (stM N p 8 (markV wr (ps.drop (i + 1)).isEmpty (le N p 8))) wr (ps.drop (i + 1)) = markL M wr ps := g4
    obtain ⟨b, o, q1, q2⟩ := sl_cell g5 ek (j := i) (v := .int .u64 p) (by simp [u64s, hp])
    rw [q1]
    refine inB_in (by omega) (by rw [hlen]; omega) ⟨p, ?_, ?_⟩
    · rw [add_at]; simpa using q2
    refine rLoad_spec (n := 8) g5 ei (by omega) (by omega) ?_
    have h5 := or5_u64 hU
    have hw5 : bitZ (le N p 8) 5 = false → IntKind.wrap .u64 (le N p 8 + 32) = or5 (le N p 8) := fun q => by
      have : or5 (le N p 8) = le N p 8 + 32 := by simp [or5, q]
      rw [this] at h5 ⊢
      exact wu64 h5.1 h5.2
    refine ⟨fun y h'' => h'' = h' ∧ y = or5 (le N p 8), ?_, ?_⟩
    · intro y h'' ⟨q3, q4⟩
      subst q3 q4
      have h6 := or6_u64 h5
      refine ⟨fun y h2 => h2 = h'' ∧ y = markV wr (ps.drop (i + 1)).isEmpty (le N p 8), ?_, ?_⟩
      · intro y h2 ⟨q5, q6⟩
        subst q5 q6
        refine rStore_spec (n := 8) g5 ei (by omega) (by omega) (markV_u64 hU) fun A' hA => ?_
        rw [List.set_set] at hA
        exact ⟨ps.length - (i + 1), by omega, i + 1, _, by rw [w64] <;> omega, by omega, rfl, hstep, hA⟩
      · have hlast : ((i : Int) == IntKind.wrap .i64 (Int.ofNat s.len - 1)) = (ps.drop (i + 1)).isEmpty := by
          rw [w64 (by simp [hlen]; omega) (by simp [hlen]; omega), hlen]
          by_cases g : i + 1 = ps.length
          · have : (ps.drop (i + 1)).isEmpty = true := by simp; omega
            rw [this]; simp; omega
          · have : (ps.drop (i + 1)).isEmpty = false := by simp; omega
            rw [this]; simp; omega
        rw [hlast]
        unfold markV
        refine bsel_in (fun c3 => ?_) fun c3 => ?_
        · refine bsel_in (fun c4 => ?_) fun c4 => ⟨rfl, ?_⟩
          · refine Bit_spec 6 rfl (by omega) h5 ?_
            rw [c3, c4]
            refine bsel_in (fun c6 => ⟨rfl, ?_⟩) fun c6 => ⟨rfl, ?_⟩
            · have c6 : bitZ (or5 (le N p 8)) 6 = false := by simpa using c6
              have : or6 (or5 (le N p 8)) = or5 (le N p 8) + 64 := by simp [or6, c6]
              rw [this] at h6
              rw [wu64 h6.1 h6.2, ← this]; rfl
            · have c6 : bitZ (or5 (le N p 8)) 6 = true := by simpa using c6
              show or5 (le N p 8) = or6 (or5 (le N p 8))
              unfold or6
              rw [c6]; rfl
          · rw [c3, c4]; rfl
        · exact ⟨rfl, by rw [c3]; rfl⟩
    · refine Bit_spec 5 rfl (by omega) hU ?_
      refine bsel_in (fun c5 => ⟨rfl, hw5 (by simpa using c5)⟩) fun c5 => ⟨rfl, ?_⟩
      have c5 : bitZ (le N p 8) 5 = true := by simpa using c5
      unfold or5
      rw [c5]; rfl
  · have : i = ps.length := by simp [hlen] at c; omega
    subst this
    rw [List.drop_length] at g4
    have g4 : N = markL M wr ps := g4
    rw [g4] at g5
    exact hk _ g5

variable {a t root : Int} {aw au af w u x : Bool} {lv : Nat} {ps : List Int}
theorem walkC_e2 (h : hasF fr hs t = false) : walkC fr hs M a (lv + 1) t w u x ps = .err 2 := by
  rw [walkC, if_pos h]
theorem walkC_f0 (h : hasF fr hs t = true) (h0 : bitZ (le M (placeZ t a lv) 8) 0 = false) : walkC fr hs M a (lv + 1) t w u x ps = .fault 0 := by
  rw [walkC, if_neg (by simp [h]), if_pos h0]
theorem walkC_f9 (h : hasF fr hs t = true) (h0 : bitZ (le M (placeZ t a lv) 8) 0 = true) (h9 : resvd (le M (placeZ t a lv) 8) ((lv : Int) + 1) = true) : walkC fr hs M a (lv + 1) t w u x ps = .fault 9 := by
  rw [walkC, if_neg (by simp [h]), if_neg (by simp [h0]), if_pos h9]
theorem walkC_go (h : hasF fr hs t = true) (h0 : bitZ (le M (placeZ t a lv) 8) 0 = true) (h9 : resvd (le M (placeZ t a lv) 8) ((lv : Int) + 1) = false) (hg : ¬(lv = 0 ∨ (lv = 1 ∧ bitZ (le M (placeZ t a lv) 8) 7 = true))) :
    walkC fr hs M a (lv + 1) t w u x ps = walkC fr hs M a lv (frameZ (le M (placeZ t a lv) 8)) (w && bitZ (le M (placeZ t a lv) 8) 1) (u && bitZ (le M (placeZ t a lv) 8) 2) (x && !bitZ (le M (placeZ t a lv) 8) 63) (ps ++ [placeZ t a lv]) := by
  rw [walkC, if_neg (by simp [h]), if_neg (by simp [h0]), if_neg (by simp [h9]), if_neg hg]
theorem walkC_end (h : hasF fr hs t = true) (h0 : bitZ (le M (placeZ t a lv) 8) 0 = true) (h9 : resvd (le M (placeZ t a lv) 8) ((lv : Int) + 1) = false) (hg : lv = 0 ∨ (lv = 1 ∧ bitZ (le M (placeZ t a lv) 8) 7 = true)) :
    walkC fr hs M a (lv + 1) t w u x ps = .leaf (if lv = 1 then frameZ (le M (placeZ t a lv) 8) + partZ a 12 else frameZ (le M (placeZ t a lv) 8)) (w && bitZ (le M (placeZ t a lv) 8) 1) (u && bitZ (le M (placeZ t a lv) 8) 2) (x && !bitZ (le M (placeZ t a lv) 8) 63)
          (bitZ (le M (placeZ t a lv) 8) 8) (lv == 1) (bitZ (le M (placeZ t a lv) 8) 6) (ps ++ [placeZ t a lv]) := by
  rw [walkC, if_neg (by simp [h]), if_neg (by simp [h0]), if_neg (by simp [h9]), if_pos hg]
theorem code_bound : 0 ≤ codeZ aw au af ∧ codeZ aw au af ≤ 22 := by cases aw <;> cases au <;> cases af <;> decide
theorem rplace_wrap {t p : Int} (ht : 0 ≤ t ∧ t < 1048576) (hp : 0 ≤ p ∧ p < 512) :
    IntKind.wrap .u64 (IntKind.wrap .u64 (IntKind.wrap .u64 t * 4096) + IntKind.wrap .u64 (8 * IntKind.wrap .u64 p)) = t * 4096 + 8 * p := by
  rw [wu64 (n := t) (by omega) (by omega), wu64 (n := t * 4096) (by omega) (by omega), wu64 (n := p) (by omega) (by omega), wu64 (n := 8 * p) (by omega) (by omega), wu64 (by omega) (by omega)]
theorem rWalk_spec {j k : Nat} {s0 : Sl} {Q : RQ} (h : Own l A) (ej : l[j]? = some (RefS mb M)) (ek : l[k]? = some (SlAt s0 2 (holeCells hs))) (hl : hs.length ≤ 64) (hf : 0 ≤ fr ∧ fr ≤ 1048576) (ha : U64 a)
    (hk : RPost l j mb M aw Q (walkZ fr hs M root a aw au af)) : demesneref04_Walk_A fr s0 (some mb) root a aw au af Q A := by
  unfold demesneref04_Walk_A
  refine rCanonical_spec ha ?_
  rw [walkZ_fin] at hk
  unfold coreZ at hk
  refine bsel_in (fun c => ?_) fun c => ?_
  · rw [if_pos (by simpa using c)] at hk
    exact hk _ h
  rw [if_neg (by simpa using c)] at hk
  refine rHas_spec h ek hl ?_
  refine bsel_in (fun c2 => ?_) fun c2 => ?_
  · rw [if_pos (by simpa using c2)] at hk
    exact hk _ h
  have c2 : hasF fr hs root = true := by simpa using c2
  rw [if_neg (by simp [c2])] at hk
  refine new_C (cs := []) h fun b9 _ h => ?_
  have h : Own (SlO ⟨some ⟨b9, 0, none⟩, 0, 0⟩ 1 (u64s []) :: l) _ := h.imp fun B _ => ⟨⟨rfl, Nat.le_refl _⟩, .inl rfl⟩
  generalize hC : walkC fr hs M a 4 root true true true [] = C at hk
  refine ⟨fun s f w u x g lg d h' => ∃ ps d0, C = .leaf f w u x g lg d0 ps ∧ d = (d0 || aw) ∧ Own (SlO s 1 (u64s ps) :: l) h' ∧ U64s ps ∧ ps.length ≤ 4, ?_, ?_⟩
  · intro s f w u x g lg d h' ⟨ps, d0, g1, g2, h, g3, g4⟩
    subst g1 g2
    simp only [fin] at hk
    refine rMay_spec ?_
    refine bsel_in (fun cm => ?_) fun cm => ?_
    · rw [if_neg (by simpa using cm)] at hk
      refine rCode_spec ?_
      have hcb := code_bound (aw := aw) (au := au) (af := af)
      rw [w64 (by omega) (by omega)]
      exact hk _ h.tail
    · rw [if_pos (by simpa using cm)] at hk
      have h := Own.imp (P' := SlAt s 1 (u64s ps)) (fun B hB => hB.look) h
      exact rmark_spec (j := j + 1) (k := 0) h ej rfl (by omega) g3 g4 fun A' hA => hk _ (Own.tail (P := SlAt s 1 (u64s ps)) hA)
  refine ⟨fun s t lev w u x m h' => ∃ (q : Nat) (ps : List Int), lev = q ∧ (1 ≤ q ∧ q ≤ 4) ∧ m = q ∧ (0 ≤ t ∧ t < 1048576) ∧ walkC fr hs M a q t w u x ps = C ∧ U64s ps ∧ ps.length + q = 4 ∧ (s.a = none → u64s ps = []) ∧ s.len = ps.length ∧ Own (SlO s 1 (u64s ps) :: l) h',
    ⟨4, 4, [], rfl, ⟨by omega, by omega⟩, rfl, hasF_bound hf c2, hC, (fun p hp => by simp at hp), rfl, fun _ => rfl, rfl, h⟩, ?_⟩
  intro s t lev w u x m h' ⟨q, ps, g1, g2, g3, ht, g5, g6, g7, g8, g9, h⟩
  subst g1 g3
  refine bsel_in (fun c3 => ?_) fun c3 => ?_
  · obtain ⟨lv, rfl⟩ : ∃ lv, m = lv + 1 := ⟨m - 1, by omega⟩
    refine rHas_spec (i := k + 1) h ek hl ?_
    refine bsel_in (fun c4 => ?_) fun c4 => ?_
    · rw [walkC_e2 (by simpa using c4)] at g5
      subst g5
      exact hk _ h.tail
    have c4 : hasF fr hs t = true := by simpa using c4
    have hpb := place_bound (a := a) (lv := lv) ht
    have hix : IntKind.wrap .i64 (3 + IntKind.wrap .i64 (9 * ((lv + 1 : Nat) : Int))) = ((12 + 9 * lv : Nat) : Int) := by
      rw [w64 (n := 9 * ((lv + 1 : Nat) : Int)) (by omega) (by omega), w64 (by omega) (by omega)]; omega
    rw [hix]
    refine Part_spec (12 + 9 * lv) 9 ha (by omega) (by omega) ?_
    have hpz : a / 2 ^ (12 + 9 * lv) % 2 ^ 9 = partZ a (12 + 9 * lv) := rfl
    rw [hpz, rplace_wrap ht ⟨hpb.1, hpb.2.1⟩]
    have hp : t * 4096 + 8 * partZ a (12 + 9 * lv) = placeZ t a lv := rfl
    rw [hp]
    refine rLoad_spec (i := j + 1) (n := 8) h ej (by omega) ⟨hpb.2.2.1, by omega⟩ ?_
    have hUe := rword_u64 (i := j + 1) h ej (placeZ t a lv)
    refine rUnpack_spec hUe ?_
    refine bsel_in (fun c5 => ?_) fun c5 => ?_
    · rw [walkC_f0 c4 (by simpa using c5)] at g5
      subst g5
      simp only [fin, Int.zero_add] at hk
      exact rCode_spec (hk _ h.tail)
    have c5 : bitZ (le M (placeZ t a lv) 8) 0 = true := by simpa using c5
    refine rReserved_spec hUe ?_
    have hlv : ((lv + 1 : Nat) : Int) = (lv : Int) + 1 := by omega
    rw [hlv]
    refine bsel_in (fun c6 => ?_) fun c6 => ?_
    · rw [walkC_f9 c4 c5 c6] at g5
      subst g5
      refine rCode_spec ?_
      have hcb := code_bound (aw := aw) (au := au) (af := af)
      rw [w64 (by omega) (by omega)]
      exact hk _ h.tail
    refine new_C h fun b45 _ h => ?_
    have h := Own.imp (P' := SlAt ⟨some ⟨b45, 0, none⟩, 1, 1⟩ 1 [.int .u64 (placeZ t a lv)]) (fun B hB => ⟨rfl, Nat.le_refl _, fun _ => ⟨b45, [], [], rfl, hB⟩⟩) h
    have h := h.swap
    refine ap_head (i := 0) h rfl (fun q => by cases q) g8 rfl (fun v hv => by simp at hv; subst hv; rfl) ⟨by simp [g9]; omega, by simp [g9]; omega⟩ fun s' A3 hs1 hs2 h => ?_
    have hu : u64s ps ++ [.int .u64 (placeZ t a lv)] = u64s (ps ++ [placeZ t a lv]) := by simp [u64s]
    rw [hu] at h hs2
    have h : Own (SlO s' 1 (u64s (ps ++ [placeZ t a lv])) :: l) A3 := h.cons fun _ hh => hh.tail
    have hU2 : U64s (ps ++ [placeZ t a lv]) := by
      intro p hp
      rcases List.mem_append.1 hp with hp | hp
      · exact g6 p hp
      · simp at hp; subst hp; exact ⟨hpb.2.2.1, by omega⟩
    have hgo := fun hg => (walkC_go (fr := fr) (hs := hs) (M := M) (a := a) (w := w) (u := u) (x := x) (ps := ps) c4 c5 c6 hg).symm.trans g5
    have hend := fun hg => (walkC_end (fr := fr) (hs := hs) (M := M) (a := a) (w := w) (u := u) (x := x) (ps := ps) c4 c5 c6 hg).symm.trans g5
    generalize he : le M (placeZ t a lv) 8 = e at *
    refine ⟨fun w' h'' => h'' = A3 ∧ w' = (w && bitZ e 1), ?_, by cases w <;> exact ⟨rfl, rfl⟩⟩
    intro w' h'' ⟨e1, e2⟩
    subst e1 e2
    refine ⟨fun u' h2 => h2 = h'' ∧ u' = (u && bitZ e 2), ?_, by cases u <;> exact ⟨rfl, rfl⟩⟩
    intro u' h2 ⟨e1, e2⟩
    subst e1 e2
    refine ⟨fun x' h3 => h3 = h2 ∧ x' = (x && !bitZ e 63), ?_, by cases x <;> exact ⟨rfl, rfl⟩⟩
    intro x' h3 ⟨e1, e2⟩
    subst e1 e2
    refine ⟨fun b h4 => h4 = h3 ∧ b = (lv == 0 || (lv == 1 && bitZ e 7)), ?_, ?_⟩
    · intro b h4 ⟨e1, e2⟩
      subst e1 e2
      refine bsel_in (fun c7 => ?_) fun c7 => ?_
      · have c7 : lv = 0 ∨ (lv = 1 ∧ bitZ e 7 = true) := by simpa using c7
        have hend := (hend c7).symm
        refine ⟨fun d h5 => h5 = h4 ∧ d = (bitZ e 6 || aw), ?_, ?_⟩
        · intro d h5 ⟨e1, e2⟩
          subst e1 e2
          have hfb := frame_bound (y := e)
          have hlg : (((lv : Int) + 1 == (2 : Int)) : Bool) = (lv == 1) := by
            by_cases g : lv = 1
            · subst g; rfl
            · have : ((lv : Int) + 1 == (2 : Int)) = false := by simp; omega
              rw [this]; symm; simpa using g
          rw [hlg]
          refine bsel_in (fun c8 => ?_) fun c8 => ?_
          · have c8 : lv = 1 := by simpa using c8
            refine ⟨fun B => B = h5, rfl, ⟨rfl, fun _ _ => rfl, ?_⟩⟩
            refine Part_spec 12 9 ha (by omega) (by omega) ⟨rfl, ?_⟩
            have hp12 : a / 2 ^ 12 % 2 ^ 9 = partZ a 12 := rfl
            have hq : 0 ≤ partZ a 12 ∧ partZ a 12 < 512 := by unfold partZ; omega
            rw [hp12, w64 (by omega) (by omega)]
            rw [if_pos c8] at hend
            exact ⟨_, _, hend, rfl, h, hU2, by simp; omega⟩
          · have c8 : lv ≠ 1 := by simpa using c8
            rw [if_neg c8] at hend
            exact ⟨_, _, hend, rfl, h, hU2, by simp; omega⟩
        · refine bsel_in (fun c9 => ⟨rfl, by rw [c9]; rfl⟩) fun c9 => ⟨rfl, by rw [c9]; rfl⟩
      · have c7 : ¬(lv = 0 ∨ (lv = 1 ∧ bitZ e 7 = true)) := by simpa using c7
        refine ⟨lv, by omega, lv, ps ++ [placeZ t a lv], by rw [w64] <;> omega, ⟨by omega, by omega⟩, rfl, frame_bound, hgo c7, hU2, by simp; omega, hs2, by simp [hs1, g9], h⟩
    · refine bsel_in (fun c7 => ⟨rfl, ?_⟩) fun c7 => ?_
      · have : lv = 0 := by simp at c7; omega
        subst this; rfl
      · have n0 : lv ≠ 0 := by intro q; subst q; simp at c7
        refine bsel_in (fun c8 => ⟨rfl, ?_⟩) fun c8 => ⟨rfl, ?_⟩
        · have : lv = 1 := by simp at c8; omega
          subst this; rfl
        · have n1 : lv ≠ 1 := by intro q; subst q; simp at c8
          simp [n0, n1]
  · simp at c3; omega
end Go.Dn
