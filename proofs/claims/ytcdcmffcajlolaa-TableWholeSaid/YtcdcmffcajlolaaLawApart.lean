/- One root's pages don't touch another one's. -/
import Derived.Test.YtcdcmffcajlolaaDoes2
namespace Go.Dn

variable {A : AH} {l R : List SP} {r b t i : Nat} {N u ra rb root : Int} {W : Int → Int → Int} {F G : Int → Prop} {tab : Tab} {lf : Int → Option Lf} {tl : List Int} {L : List LvZ} {s : Sl} {P P2 : SP} {cB : Nat}
def trS (N : Int) (u : Int) : List Nd := [⟨-1, N, u, 0, true⟩]
theorem trS_ok : Tr (trS N) 0 (-1) N 0 := ⟨fun _ => rfl, fun _ _ => rfl⟩
def Two (N : Int) (r b t : Nat) (ra rb : Int) (cB : Nat) (L : List LvZ) (R : List SP) (A : AH) : Prop :=
  ∃ F G W, ∃ u : Int, ∃ tabA lfA, ∃ tlA : List Int, ∃ tabB lfB, ∃ tlB : List Int, StdP N F G ∧ Rest G W ra tabA lfA tlA ∧ Cz L lfA tlA ∧ Rest G W rb tabB lfB tlB ∧ (∀ f ∈ tlB, f ∉ tlA) ∧ u = 2 + tlA.length + tlB.length ∧ tlB.length ≤ cB ∧ Own (StdO N r b t F G W u R) A
theorem findL_at : ∀ {L : List LvZ} {v : Nat} {y : LvZ}, (pagesL L).Pairwise (· < ·) → L[v]? = some y → findL L y.page = some y.l
  | [], v, y, _, h => by simp at h
  | z :: r, 0, y, _, h => by simp at h; subst h; simp [findL]
  | z :: r, v + 1, y, hp, h => by
    have h : r[v]? = some y := by simpa using h
    obtain ⟨h1, h2⟩ := List.pairwise_cons.1 hp
    have hm : y.page ∈ pagesL r := List.mem_map.2 ⟨y, List.mem_of_getElem? h, rfl⟩
    have h3 : z.page < y.page := h1 _ hm
    unfold findL
    rw [if_neg (by omega)]
    exact findL_at h2 h
theorem Two.does {kd p fm : Int} {pw pu px : Bool} {Q : Sl → Bool → AH → Prop} (h : Two N r b t ra rb cB L (SlO s 5 (lvCells L) :: R) A) (hb : L.length ≤ 5000) (hN : 3 + cB + 3 * L.length + 4 ≤ N)
    (hk : ∀ s' L' A', L'.length ≤ L.length + 1 → Two N r b t ra rb cB L' (SlO s' 5 (lvCells L') :: R) A' → Q s' true A') :
    demesnelaw09_does_A (some ⟨r, 0, none⟩) (some ⟨b, 0, none⟩) (some ⟨t, 0, none⟩) 0 ra s kd p fm pw pu px 100 Q A := by
  obtain ⟨F, G, W, u, tabA, lfA, tlA, tabB, lfB, tlB, hp, hA, hC, hB, hd, hu, hc, hO⟩ := h
  have hcnt := hC.cnt
  have hcz := tz_pos none (pagesL L)
  have hpl : (pagesL L).length = L.length := by simp [pagesL]
  refine does_spec (i := 0) (fr := N) (T := N - 1) (tr := trS N) (base := 2 + tlB.length) (K := fun f => f ∈ tlB) (Wk := W) (par := -1) (quo := N) (lent := 0) ⟨F, G, W, u, tabA, lfA, tlA, hp, hA, hC, by omega, fun f hf => ⟨rfl, hB.inG f hf, hd f hf⟩, fun _ _ => rfl, hO⟩ trS_ok hb (by omega) (by omega) (fun d d0 d3 => by constructor <;> omega) fun s' L' A' hl hD => ?_
  obtain ⟨F', G', W', u', tab', lf', tl', hp', hR', hC', hu', hK', _, hO'⟩ := hD
  exact hk s' L' A' hl ⟨F', G', W', u', tab', lf', tl', tabB, lfB, tlB, hp', hR', hC', hB.keep (fun f hf => (hK' f hf).1) (fun f hf => (hK' f hf).2.1), fun f hf => (hK' f hf).2.2, by omega, hc, hO'⟩
theorem Two.mapB {p fm : Int} {pw pu px : Bool} {Q : Int → AH → Prop} (h : Two N r b t ra rb cB L R A) (hN : 3 + cB + 3 * L.length + 4 ≤ N) (hk : ∀ e A', Two N r b t ra rb (cB + 3) L R A' → Q e A') :
    table_Map_A (some ⟨r, 0, none⟩) (some ⟨b, 0, none⟩) (some ⟨t, 0, none⟩) 0 rb p fm pw pu px Q A := by
  obtain ⟨F, G, W, u, tabA, lfA, tlA, tabB, lfB, tlB, hp, hA, hC, hB, hd, hu, hc, hO⟩ := h
  have hcnt := hC.cnt
  have hcz := tz_pos none (pagesL L)
  have hpl : (pagesL L).length = L.length := by simp [pagesL]
  have hFG : ∀ x, F x → ¬G x := (bud_apart (Own.swap hO)).1
  refine sMap hO hp ⟨by omega, by omega⟩ hB (fun _ => hk _ _ ⟨F, G, W, u, tabA, lfA, tlA, tabB, lfB, tlB, hp, hA, hC, hB, hd, hu, by omega, hO⟩) (fun _ _ _ _ _ A' hA' => hk _ _ ⟨F, G, W, u, tabA, lfA, tlA, tabB, lfB, tlB, hp, hA, hC, hB, hd, hu, by omega, hA'⟩) fun _ _ _ _ _ tk W' tab' A' hlen htk hp' hR' hW hO' => ?_
  have h3 : needT tabB p ≤ 3 := by unfold needT; split <;> split <;> split <;> omega
  have hAt : ∀ f ∈ tlA, f ∉ tk ∧ f ∉ tlB := fun f hf => ⟨fun z => hFG f (htk f z) (hA.inG f hf), fun z => hd f z hf⟩
  refine hk _ _ ⟨_, _, W', _, tabA, lfA, tlA, tab', _, tlB ++ tk, hp', hA.keep (fun f hf => hW f (hAt f hf).1 (hAt f hf).2) (fun f hf => .inl (hA.inG f hf)), hC, hR', fun f hf z => ?_, by rw [List.length_append]; omega, by rw [List.length_append]; omega, hO'⟩
  rcases List.mem_append.1 hf with hf | hf
  · exact hd f hf z
  · exact (hAt f z).1 hf
theorem Two.unmapB {p : Int} {Q : Int → Int → AH → Prop} (h : Two N r b t ra rb cB L R A) (hk : ∀ x e A', Two N r b t ra rb cB L R A' → Q x e A') :
    table_Unmap_A (some ⟨r, 0, none⟩) (some ⟨b, 0, none⟩) (some ⟨t, 0, none⟩) 0 rb p Q A := by
  obtain ⟨F, G, W, u, tabA, lfA, tlA, tabB, lfB, tlB, hp, hA, hC, hB, hd, hu, hc, hO⟩ := h
  refine sUnmap hO hp (by omega) hB (fun _ A' hA' => hk _ _ _ ⟨F, G, W, u, tabA, lfA, tlA, tabB, lfB, tlB, hp, hA, hC, hB, hd, hu, hc, hA'⟩) fun x gl W' tab' tl' A' hx hg hlen hmem hp' hR' hW hO' => ?_
  have hAt : ∀ f ∈ tlA, f ∉ tlB := fun f hf z => hd f z hf
  exact hk _ _ _ ⟨_, _, W', _, tabA, lfA, tlA, tab', _, tl', hp', hA.keep (fun f hf => hW f (hAt f hf)) (fun f hf => ⟨hA.inG f hf, fun z => hAt f hf (hg f z)⟩), hC, hR', fun f hf z => hAt f z ((hmem f).1 hf).1, by omega, by omega, hO'⟩
theorem Two.own (h : Two N r b t ra rb cB L R A) : ∃ l0 : List SP, Own l0 A ∧ ∀ k : Nat, l0[k + 3]? = R[k]? := by
  obtain ⟨F, G, W, u, tabA, lfA, tlA, tabB, lfB, tlB, hp, hA, hC, hB, hd, hu, hc, hO⟩ := h
  exact ⟨_, hO, fun k => by unfold StdO; simp⟩
theorem Two.le {cC : Nat} (h : Two N r b t ra rb cB L R A) (hc' : cB ≤ cC) : Two N r b t ra rb cC L R A := by
  obtain ⟨F, G, W, u, tabA, lfA, tlA, tabB, lfB, tlB, hp, hA, hC, hB, hd, hu, hc, hO⟩ := h
  exact ⟨F, G, W, u, tabA, lfA, tlA, tabB, lfB, tlB, hp, hA, hC, hB, hd, hu, by omega, hO⟩
set_option maxHeartbeats 2000000 in
theorem TableApart_spec {s1 s2 : Sl} {mine others : List ActZ} {k k2 : Nat} {Q : Bool → AH → Prop} (h : Own R A) (e : R[k]? = some P) (hr : Reads P s1 6 (actCells mine)) (e2 : R[k2]? = some P2) (hr2 : Reads P2 s2 6 (actCells others)) (hk : ∀ A', Own R A' → Q true A') :
    demesnelaw09_TableApart_A s1 s2 Q A := by
  unfold demesnelaw09_TableApart_A demesnelaw09_TableApart_G
  refine sPurse (N := 200) h ⟨by omega, by omega⟩ fun r b t A1 hp1 h1 => bsel_f rfl ?_
  refine sKernel h1 hp1 ⟨by omega, by omega⟩ fun top mid A2 W2 ht hm hK hp2 h2 => ?_
  have hrt := has0.1 (hp1.inF top ht)
  refine sRoot h2 hp2 ⟨by omega, by omega⟩ (by omega) ⟨hrt.1, by omega⟩ fun ra A3 W3 hra hp3 hRa hW3 _ _ h3 => ?_
  refine sRoot h3 hp3 ⟨by omega, by omega⟩ (by omega) ⟨hrt.1, by omega⟩ fun rb A4 W4 hrb hp4 hRb hW4 _ _ h4 => ?_
  have hab : ra ≠ rb := fun z => hrb.2 (by rw [z]; simp)
  refine ⟨fun h' => h' = A4, ?_, bsel_f rfl (bsel_f rfl (bsel_f rfl (bsel_f (beq_eq_false_iff_ne.2 hab) rfl)))⟩
  intro A5 e5
  subst e5
  have h5 : Own (StdO 200 r b t _ _ W4 (2 + 1 + 1) (SlO Sl.nil 5 (lvCells []) :: R)) A5 := ((((own_any h4).imp fun B _ => (SlO.nil : SlO Sl.nil 5 (lvCells []) B)).pick 3 rfl).pick 3 rfl).pick 3 rfl
  have hT : Two 200 r b t ra rb 1 [] (SlO Sl.nil 5 (lvCells []) :: R) A5 := by
    refine ⟨_, _, W4, _, tab0 ra, _, [ra], tab0 rb, _, [rb], hp4, hRa.keep (fun f hf => hW4 f ?_) (fun f hf => .inl (hRa.inG f hf)), ⟨by simp [pagesL], fun _ => rfl, by simp [pagesL, tz]⟩, hRb, fun f hf z => ?_, ?_, by simp, h5⟩
    · simp only [List.mem_singleton] at hf; subst hf; exact hab
    · simp only [List.mem_singleton] at hf z; subst hf; exact hab z.symm
    · simp
  refine hT.does (by simp) (by simp) fun s18 L0 A6 hl0 h6 => ?_
  have act : ∀ {cB : Nat} {L : List LvZ} {s : Sl} {A : AH} {kk v : Nat} {s0 : Sl} {acts : List ActZ} {P0 : SP}, Two 200 r b t ra rb cB L (SlO s 5 (lvCells L) :: R) A → R[kk]? = some P0 → Reads P0 s0 6 (actCells acts) → (v : Int) < s0.len →
      ∃ (a : ActZ) (bb o : Nat), s0.a = some ⟨bb, o, none⟩ ∧ cellA A ⟨bb, o + (v * 6 + 0), none⟩ = some (.int .i64 a.kind) ∧ cellA A ⟨bb, o + (v * 6 + 1), none⟩ = some (.int .i64 a.page) ∧ cellA A ⟨bb, o + (v * 6 + 2), none⟩ = some (.int .i64 a.frame) ∧
        cellA A ⟨bb, o + (v * 6 + 3), none⟩ = some (.bool a.w) ∧ cellA A ⟨bb, o + (v * 6 + 4), none⟩ = some (.bool a.u) ∧ cellA A ⟨bb, o + (v * 6 + 5), none⟩ = some (.bool a.x) := by
    intro cB L s A kk v s0 acts P0 hT ek hrk hv
    obtain ⟨l0, hO, hl⟩ := hT.own
    have el : l0[kk + 4]? = some P0 := by rw [hl (kk + 1)]; simpa using ek
    have hlen := rd_acts_len hO el hrk
    obtain ⟨a, bb, o, _, q⟩ := rd_act hO el hrk (v := v) (by omega)
    exact ⟨a, bb, o, q⟩
  refine ⟨fun ok so x m h' => ok = true ∧ ∃ (v : Nat) (L : List LvZ), x = v ∧ m + v = 20 ∧ L.length ≤ v + 1 ∧ Two 200 r b t ra rb (1 + 3 * v) L (SlO so 5 (lvCells L) :: R) h', ⟨20, rfl, 0, L0, rfl, rfl, by simpa using hl0, h6⟩, ?_⟩
  intro ok so x m A7 ⟨e7, v, L, e8, e9, hL, h7⟩
  subst e7 e8
  refine bsel_in (fun c => ?_) fun c => ?_
  · have c : (v : Int) < 20 := of_decide_eq_true c
    refine ⟨fun ok' so' h' => ok' = true ∧ ∃ L' : List LvZ, L'.length ≤ v + 2 ∧ Two 200 r b t ra rb (1 + 3 * (v + 1)) L' (SlO so' 5 (lvCells L') :: R) h', fun ok' so' A8 ⟨g1, L', g2, g3⟩ => ⟨m - 1, by omega, g1, v + 1, L', by rw [w64] <;> omega, by omega, g2, g3⟩, ?_⟩
    refine ⟨fun ok' so' h' => ok' = true ∧ ∃ L' : List LvZ, L'.length ≤ v + 2 ∧ Two 200 r b t ra rb (1 + 3 * v) L' (SlO so' 5 (lvCells L') :: R) h', ?_, ?_⟩
    · intro ok' so' A8 ⟨g1, L', g2, g3⟩
      subst g1
      refine bsel_in (fun d => ?_) fun _ => ⟨rfl, L', g2, g3.le (by omega)⟩
      have d : (v : Int) < s2.len := of_decide_eq_true d
      obtain ⟨a, bb, o, hs, c0, c1, c2, c3, c4, c5⟩ := act g3 e2 hr2 d
      rw [hs]
      refine inB_in (by omega) d (ld_fI c1 (inB_in (by omega) d (ld_fI c2 (inB_in (by omega) d (ld_fB c3 (ld_fB2 c4 (ld_fB2 c5 ?_)))))))
      refine g3.mapB (by omega) fun e' A9 h9 => ?_
      obtain ⟨a', bb', o', hs', d0, d1, _⟩ := act h9 e2 hr2 d
      rw [hs] at hs'
      cases hs'
      refine inB_in (by omega) d (ld_fI0 d0 (bsel_in (fun _ => inB_in (by omega) d (ld_fI d1 (h9.unmapB fun x e'' A10 h10 => ⟨rfl, L', g2, h10⟩))) fun _ => ⟨rfl, L', g2, h9⟩))
    · refine bsel_in (fun d => ?_) fun _ => ⟨rfl, L, by omega, h7⟩
      have d : (v : Int) < s1.len := of_decide_eq_true d
      obtain ⟨a, bb, o, hs, c0, c1, c2, c3, c4, c5⟩ := act h7 e hr d
      rw [hs]
      refine inB_in (by omega) d (ld_fI0 c0 (ld_fI c1 (ld_fI c2 (ld_fB c3 (ld_fB c4 (ld_fB c5 ?_))))))
      exact h7.does (by omega) (by omega) fun s' L' A8 hl' h8 => bsel_t rfl ⟨rfl, L', by omega, h8⟩
  · have c : ¬(v : Int) < 20 := of_decide_eq_false c
    obtain ⟨F, G, W, u, tabA, lfA, tlA, tabB, lfB, tlB, hp, hA, hC, hB, hd, hu, hc, hO⟩ := h7
    refine ⟨fun ok x m h' => ok = true ∧ ∃ w : Nat, x = w ∧ m + w = L.length ∧ Own (StdO 200 r b t F G W u (SlO so 5 (lvCells L) :: R)) h', ⟨L.length, rfl, 0, rfl, rfl, hO⟩, ?_⟩
    intro ok x m A8 ⟨g1, w, g2, g3, h8⟩
    subst g1 g2
    have hsl := rd_lv_len (k := 3) h8 rfl reads_slo
    refine bsel_in (fun d => ?_) fun d => ?_
    · have d : (w : Int) < so.len := of_decide_eq_true d
      refine ⟨fun ok h' => ok = true ∧ Own (StdO 200 r b t F G W u (SlO so 5 (lvCells L) :: R)) h', fun ok A9 ⟨q1, q2⟩ => ⟨m - 1, by omega, q1, w + 1, by rw [w64] <;> omega, by omega, q2⟩, ?_⟩
      obtain ⟨y, hy⟩ : ∃ y, L[w]? = some y := ⟨L[w]'(by omega), by simp⟩
      refine ld_lv (k := 3) h8 rfl reads_slo hy ?_
      have hf := findL_at hC.rise hy
      rw [← hC.lfe] at hf
      refine RQuery_spec h8 hp.inG hA (fun z => by rw [hf] at z; cases z) fun x hx A9 h9 => ?_
      rw [hf] at hx
      cases hx
      refine bsel_t rfl (bsel_t rfl (bsel_t (beq_self_eq_true _) ⟨?_, h9⟩))
      simp
    · refine awake_spec h8 fun A9 h9 => bsel_t rfl (bsel_t rfl ?_)
      refine RPages_spec h9 hp.inG hA fun sp ps A10 q1 _ q3 q4 h10 => ?_
      have hps : ps = pagesL L := rise_ext q3 hC.rise fun p => by rw [q4, hC.mem]
      have e11 : (Int.ofNat sp.len == Int.ofNat so.len) = true := by
        rw [q1, hps, hsl, pagesL, List.length_map]; exact beq_self_eq_true _
      rw [e11]
      exact hk A10 h10.tail.tail.tail.tail.tail
end Go.Dn
