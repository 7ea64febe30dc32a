/- What the proof stands on: Start, World, SWorld. -/
import Derived.Test.YtcdcmffcajlolaaWords
import Derived.Test.YtcdcmffcajlolaaRest
/- A purse of a new memory; that the program answers at all. -/
namespace Go.Dn

variable {A : AH} {l R : List SP} {r b t i : Nat} {fr n : Int} {hs : List (Int × Int)} {W W' : Int → Int → Int} {F G F' G' : Int → Prop} {ns : List Nd} {nd : Nd} {root : Int} {tab : Tab} {lf : Int → Option Lf} {tl : List Int}
theorem wordAt_zero (t i : Int) : wordAt (fun _ => 0) t i = 0 := by
  unfold wordAt
  simp [le]
theorem own_any (h : Own l A) : Own ((fun _ => True) :: l) A := ⟨fun _ => none, A, fun _ => .inl rfl, (fun _ _ e => nomatch e), Sub.refl _, trivial, h⟩
theorem sl_nil (h : Own l A) {sz : Nat} : Own (SlAt Sl.nil sz [] :: l) A := (own_any h).imp fun _ _ => ⟨by simp [Sl.nil], by simp [Sl.nil], fun q => absurd rfl q⟩
/-- A memory without holes. -/
theorem ram_spec {Q : Option Addr → Int → AH → Prop} (h : Own l A) (hf : 1 ≤ fr ∧ fr ≤ 1048576) (hk : ∀ r A', Own (RamW r fr [] (fun _ _ => 0) :: l) A' → Q (some ⟨r, 0, none⟩) 0 A') : ram_New_A fr Sl.nil Q A := by
  have hc : newCode fr [] = 0 := by
    unfold newCode
    rw [if_neg (by omega), if_neg (by omega)]; rfl
  refine New_spec (hs := []) (k := 0) (sl_nil h (sz := 2)) rfl (fun g => absurd hc g) fun _ r A1 h1 => hk r A1 ?_
  exact RamW.closeH (M := fun _ => 0) ⟨by simp, by omega, hf.2⟩ (fun t i _ _ _ => (wordAt_zero t i).symm) (h1.cons fun C hC => hC.tail)
theorem purse_spec {fr may : Int} {Q : Option Addr → Option Addr → Option Addr → Int → Bool → AH → Prop} (h : Own l A) (hf : 2 ≤ fr ∧ fr ≤ 1048576) (hm : 0 ≤ may ∧ may ≤ 1048576)
    (hk : ∀ r b t A', Own (RamW r fr [] (fun _ _ => 0) :: Bud b (fun x => 1 ≤ x ∧ x < fr) (fun _ => False) (fr - 1) :: TreeS t [⟨-1, may, 0, 0, true⟩] :: l) A' → Q (some ⟨r, 0, none⟩) (some ⟨b, 0, none⟩) (some ⟨t, 0, none⟩) 0 true A') :
    demesnelaw09_Purse_A fr may Q A := by
  unfold demesnelaw09_Purse_A demesnelaw09_Purse_G
  refine ram_spec h ⟨by omega, hf.2⟩ fun r A1 h1 => new_C (cs := [.int .i64 1, .int .i64 fr]) h1 fun b4 A2 h2 => ?_
  have h2 : Own (SlAt ⟨some ⟨b4, 0, none⟩, 1, 1⟩ 2 (rangeCells [(1, fr)]) :: RamW r fr [] (fun _ _ => 0) :: l) A2 := h2.imp fun B hB => (at_slo (k := 1) (sz := 2) rfl hB).look
  have hok : okR 0 [(1, fr)] = true := by simp [okR]; omega
  refine bNew_spec (k := 0) (rs := [(1, fr)]) h2 rfl reads_slat (fun g => by simp at g) (fun _ g => by rw [hok] at g; cases g) fun _ _ b A3 h3 => ?_
  refine qNew_spec h3 (fun g => by omega) fun _ t A4 h4 => ?_
  refine bsel_t rfl (bsel_t rfl (bsel_t rfl (bsel_t rfl (bsel_t rfl (hk r b t A4 ?_)))))
  have h4 : Own (RamW r fr [] (fun _ _ => 0) :: TreeS t [⟨-1, may, 0, 0, true⟩] :: Bud b (inR [(1, fr)]) (fun _ => False) (sizeR [(1, fr)]) :: SlAt ⟨some ⟨b4, 0, none⟩, 1, 1⟩ 2 (rangeCells [(1, fr)]) :: l) A4 := h4.pick 3 rfl
  refine h4.cons fun C hC => ?_
  refine Bud.congr (fun x => ?_) (fun x => Iff.rfl) (by simp [sizeR]) (hC.swap.cons fun D hD => hD.cons fun D2 hD2 => hD2.tail)
  simp [inR]
end Go.Dn
/- The calls on tables at rest, with what they cost. -/
namespace Go.Dn

variable {A : AH} {l R : List SP} {r b t i : Nat} {fr n N u : Int} {hs : List (Int × Int)} {W W' : Int → Int → Int} {F G F' G' : Int → Prop} {ns : List Nd} {nd : Nd} {root : Int} {tab : Tab} {lf : Int → Option Lf} {tl : List Int}
theorem bud_apart (h : Own (Bud b F G n :: R) A) : (∀ x, F x → ¬G x) ∧ 0 ≤ n := by
  obtain ⟨mb, g, st, gl, h1, h2, _, _⟩ := Bud.openH h
  exact ⟨fun x hx hg => (h2.apart x hg).1 hx, h1.nonneg⟩
theorem filter_two {α : Type} (p : α → Bool) : ∀ l : List α, (l.filter p).length + (l.filter fun y => !p y).length = l.length
  | [] => rfl
  | x :: r => by
    have := filter_two p r
    cases h : p x <;> simp [h] <;> omega
theorem RMap_spec {p fm : Int} {pw pu px : Bool} {Q : Int → AH → Prop} (h : Own (RamW r fr hs W :: Bud b F G n :: TreeS t ns :: R) A) (hi : ns[i]? = some nd) (hlv : nd.live = true) (hF : ∀ x, F x → hasF fr hs x = true) (hG : ∀ x, G x → hasF fr hs x = true)
    (hR : Rest G W root tab lf tl)
    (h1 : p < 0 ∨ p ≥ 34359738368 ∨ fm < 0 ∨ fm ≥ 1048576 → Q 1 A)
    (h6 : 0 ≤ p → p < 34359738368 → 0 ≤ fm → fm < 1048576 → lf p ≠ none → ∀ A', Own (RamW r fr hs W :: Bud b F G n :: TreeS t ns :: R) A' → Q 6 A')
    (hbad : 0 ≤ p → p < 34359738368 → 0 ≤ fm → fm < 1048576 → lf p = none → ∀ e W' A', (e = 8 ∧ nd.quo - nd.use - nd.lent < needT tab p ∧ nd.quo - nd.use - nd.lent ≤ n ∨ e = 7 ∧ n < needT tab p ∧ n < nd.quo - nd.use - nd.lent) →
      (∀ f, ¬F f → W' f = W f) → Rest G W' root tab lf tl → (∀ j, 256 ≤ j → W' root j = W root j) → Own (RamW r fr hs W' :: Bud b F G n :: TreeS t ns :: R) A' → Q e A')
    (hk : 0 ≤ p → p < 34359738368 → 0 ≤ fm → fm < 1048576 → lf p = none → ∀ tk W' tab' A', tk.length = needT tab p → (tk.length : Int) ≤ nd.quo - nd.use - nd.lent → (tk.length : Int) ≤ n → (∀ x ∈ tk, F x) →
      Rest (fun x => G x ∨ x ∈ tk) W' root tab' (setL lf p (some ⟨fm, pw, pu, px⟩)) (tl ++ tk) → (∀ f, f ∉ tk → f ∉ tl → W' f = W f) → (∀ j, 256 ≤ j → W' root j = W root j) →
      Own (RamW r fr hs W' :: Bud b (fun x => F x ∧ x ∉ tk) (fun x => G x ∨ x ∈ tk) (n - tk.length) :: TreeS t (useN ns i nd (nd.use + tk.length)) :: R) A' → Q 0 A') :
    table_Map_A (some ⟨r, 0, none⟩) (some ⟨b, 0, none⟩) (some ⟨t, 0, none⟩) i root p fm pw pu px Q A := by
  have hFG := (bud_apart h.swap).1
  refine Map_spec h hi hlv hF hG hR.T (fun k q f e => hR.tg e) h1 h6 (fun p0 p1 f0 f1 hl lst e W' A' hD he hW hA => ?_) fun p0 p1 f0 f1 hl lst tk W' tab' A' hD hlen q1 q2 hnd htk hT hold hnew hW hHi hA => ?_
  · have hn := hD.need hR.T ⟨p0, p1⟩
    refine hbad p0 p1 f0 f1 hl e W' A' ?_ hW (hR.keep (fun f hf => hW f fun g => hFG f g (hR.inG f hf)) hR.inG) (fun j _ => by rw [hW root fun g => hFG root g (hR.tg ((hR.T.root 0 root).2 ⟨rfl, rfl⟩))]) hA
    rcases he with ⟨e1, e2, e3⟩ | ⟨e1, e2, e3⟩
    · exact .inl ⟨e1, by omega, e3⟩
    · exact .inr ⟨e1, by omega, e3⟩
  · have hn := hD.need hR.T ⟨p0, p1⟩
    exact hk p0 p1 f0 f1 hl tk W' tab' A' (by omega) q1 q2 htk (hR.map p0 p1 hl hD hlen hnd (fun y hy => hFG y (htk y hy)) hT hold hnew) (fun f g1 g2 => hW f g1 fun k q e => g2 ((hR.mem f).2 ⟨k, q, e⟩)) hHi hA
/-- What is given back when a page goes. -/
theorem Rest.gone_len (h : Rest G W root tab lf tl) {p : Int} {x : Lf} {lst : List Int} {v : Nat} (hl : lf p = some x) (hD : DownOK tab p lst) (hlen : lst.length = 4) (hv : v ≤ 3) : (tl.filter fun y => decide (y ∉ gone lst v)).length + (gone lst v).length = tl.length := by
  have hpr := h.pr p x hl
  have hat : ∀ c, c < 4 → ∃ g, lst[c]? = some g ∧ tab c (preP p c) = some g := fun c hc => by
    refine ⟨lst[c], by simp [hlen, hc], ?_⟩
    rw [hD.is c (by omega)]; simp [hlen, hc]
  have hnd : lst.Nodup := by
    unfold List.Nodup
    rw [List.pairwise_iff_getElem]
    intro u v hu' hv huv e
    obtain ⟨g, g1, g2⟩ := hat u (by omega)
    obtain ⟨g', g1', g2'⟩ := hat v (by omega)
    rw [List.getElem?_eq_getElem hu'] at g1
    rw [List.getElem?_eq_getElem hv] at g1'
    have g1 := Option.some.inj g1
    have g1' := Option.some.inj g1'
    have e : g = g' := by rw [← g1, ← g1', e]
    subst e
    have := (h.T.apart _ _ _ _ _ g2 g2').1
    omega
  have hsub : ∀ y ∈ gone lst v, y ∈ tl := fun y hy => by
    have hy : y ∈ lst := List.mem_of_mem_drop hy
    obtain ⟨c, hc⟩ := List.mem_iff_getElem?.1 hy
    obtain ⟨g, g1, g2⟩ := hat c (by have := (List.getElem?_eq_some_iff.1 hc).1; omega)
    rw [hc] at g1
    cases g1
    exact (h.mem y).2 ⟨_, _, g2⟩
  have hgn : (gone lst v).Nodup := hnd.sublist (List.drop_sublist _ _)
  have e1 : (tl.filter fun y => decide (y ∈ gone lst v)).length = (gone lst v).length := by
    refine Nat.le_antisymm (nodup_le (h.nd.filter _) fun y hy => ?_) (nodup_le hgn fun y hy => ?_)
    · simpa using (List.mem_filter.1 hy).2
    · exact List.mem_filter.2 ⟨hsub y hy, by simpa using hy⟩
  have e2 := filter_two (fun y => decide (y ∈ gone lst v)) tl
  have e3 : (tl.filter fun y => !decide (y ∈ gone lst v)) = tl.filter fun y => decide (y ∉ gone lst v) := List.filter_congr fun y _ => by simp
  rw [e3] at e2
  omega
theorem RUnmap_spec {p : Int} {Q : Int → Int → AH → Prop} (h : Own (RamW r fr hs W :: Bud b F G n :: TreeS t ns :: R) A) (hi : ns[i]? = some nd) (hlv : nd.live = true) (hu : tl.length ≤ nd.use) (hG : ∀ x, G x → hasF fr hs x = true)
    (hR : Rest G W root tab lf tl)
    (hn : lf p = none → ∀ A', Own (RamW r fr hs W :: Bud b F G n :: TreeS t ns :: R) A' → Q 0 5 A')
    (hk : ∀ (x : Lf) (gl : List Int) W' tab' (tl' : List Int) A', lf p = some x → (∀ y ∈ gl, G y) → (∀ y ∈ gl, y ∈ tl) → tl'.length + gl.length = tl.length → gl.length = needT tab' p → (∀ y, y ∈ tl' ↔ y ∈ tl ∧ y ∉ gl) → Rest (fun y => G y ∧ y ∉ gl) W' root tab' (setL lf p none) tl' → (∀ f, f ∉ tl → W' f = W f) → (∀ j, 256 ≤ j → W' root j = W root j) →
      Own (RamW r fr hs W' :: Bud b (fun x => F x ∨ x ∈ gl) (fun x => G x ∧ x ∉ gl) (n + gl.length) :: TreeS t (useN ns i nd (nd.use - gl.length)) :: R) A' → Q x.frame 0 A') :
    table_Unmap_A (some ⟨r, 0, none⟩) (some ⟨b, 0, none⟩) (some ⟨t, 0, none⟩) i root p Q A := by
  refine Unmap_spec h hi hlv ?_ hG hR.T (fun k q f e => hR.tg e) (fun c A' hA => hn ?_ A' hA) fun x lst v W' A' p0 p1 hx hD hlen hv hT hz hW hHi hA => ?_
  · by_cases e : ∀ p, lf p = none
    · exact .inr e
    · left
      obtain ⟨p', hp'⟩ := Classical.not_forall.1 e
      obtain ⟨x, hx⟩ : ∃ x, lf p' = some x := by
        cases e2 : lf p' with
        | none => exact absurd e2 hp'
        | some x => exact ⟨x, rfl⟩
      have hpr := hR.pr p' x hx
      have hc := hR.T.chain hpr hx
      have ex : ∀ k, k < 4 → ∃ g, tab k (preP p' k) = some g := fun k hk => by
        cases e : tab k (preP p' k) with
        | none => exact absurd e (hc k hk)
        | some g => exact ⟨g, rfl⟩
      obtain ⟨g1, a1⟩ := ex 1 (by omega)
      obtain ⟨g2, a2⟩ := ex 2 (by omega)
      obtain ⟨g3, a3⟩ := ex 3 (by omega)
      have hinj : ∀ j k g, tab j (preP p' j) = some g → tab k (preP p' k) = some g → j = k := fun j k g h1 h2 => (hR.T.apart _ _ _ _ _ h1 h2).1
      have n12 : g1 ≠ g2 := fun e => by subst e; have := hinj _ _ _ a1 a2; omega
      have n13 : g1 ≠ g3 := fun e => by subst e; have := hinj _ _ _ a1 a3; omega
      have n23 : g2 ≠ g3 := fun e => by subst e; have := hinj _ _ _ a2 a3; omega
      have hm : ∀ {k q g}, tab k q = some g → g ∈ tl := fun e => (hR.mem _).2 ⟨_, _, e⟩
      have : [g1, g2, g3].length ≤ tl.length := nodup_le (by simp [n12, n13, n23]) fun y hy => by
        simp only [List.mem_cons, List.not_mem_nil, or_false] at hy
        rcases hy with rfl | rfl | rfl
        · exact hm a1
        · exact hm a2
        · exact hm a3
      simp only [List.length_cons, List.length_nil] at this
      omega
  · rcases c with c | c | c
    · cases e : lf p with
      | none => rfl
      | some x => have := hR.pr p x e; omega
    · cases e : lf p with
      | none => rfl
      | some x => have := hR.pr p x e; omega
    · exact c
  · have hun := hR.unmap hx hD hlen hv hT hz
    have hgl := hR.gone_len hx hD hlen hv
    have hat : ∀ y ∈ lst, y ∈ tl := fun y hy => by
      obtain ⟨c, hc⟩ := List.mem_iff_getElem?.1 hy
      have hlt := (List.getElem?_eq_some_iff.1 hc).1
      exact (hR.mem y).2 ⟨c, _, by rw [hD.is c hlt]; exact hc⟩
    have hneed : (gone lst v).length = needT (cutT tab p v) p := by
      have hch := fun k hk => hR.T.chain ⟨p0, p1⟩ hx k hk
      have e : ∀ k, k < 4 → (cutT tab p v k (preP p k) = none ↔ v < k) := fun k hk => by
        unfold cutT
        by_cases g : v < k
        · rw [if_pos ⟨g, rfl⟩]; exact ⟨fun _ => g, fun _ => rfl⟩
        · rw [if_neg (fun z => g z.1)]; exact ⟨fun z => absurd z (hch k hk), fun z => absurd z g⟩
      unfold needT gone
      simp only [e 1 (by omega), e 2 (by omega), e 3 (by omega), List.length_drop, hlen]
      split <;> split <;> split <;> omega
    refine hk x (gone lst v) W' _ _ A' hx (fun y hy => hR.inG y (hat y (List.mem_of_mem_drop hy))) (fun y hy => hat y (List.mem_of_mem_drop hy)) hgl hneed (fun y => by rw [List.mem_filter, decide_eq_true_eq]) hun (fun f hf => hW f fun g => hf (hat f g)) hHi hA
theorem RQuery_spec {p bx : Int} {pb pt : Option Addr} {Q : Int → Bool → Bool → Bool → Bool → AH → Prop} (h : Own (RamW r fr hs W :: R) A) (hG : ∀ x, G x → hasF fr hs x = true) (hR : Rest G W root tab lf tl)
    (hn : lf p = none → ∀ A', Own (RamW r fr hs W :: R) A' → Q 0 false false false false A')
    (hk : ∀ x, lf p = some x → ∀ A', Own (RamW r fr hs W :: R) A' → Q x.frame x.w x.u x.x true A') : table_Query_A (some ⟨r, 0, none⟩) pb pt bx root p Q A := by
  refine Query_spec h hR.T (fun k q f e => hG f (hR.tg e)) (fun c A' hA => hn ?_ A' hA) fun x _ _ hx A' hA => hk x hx A' hA
  rcases c with c | c | c
  · cases e : lf p with
    | none => rfl
    | some x => have := hR.pr p x e; omega
  · cases e : lf p with
    | none => rfl
    | some x => have := hR.pr p x e; omega
  · exact c
theorem RProtect_spec {p bx : Int} {pb pt : Option Addr} {pw pu px : Bool} {Q : Int → AH → Prop} (h : Own (RamW r fr hs W :: R) A) (hG : ∀ x, G x → hasF fr hs x = true) (hR : Rest G W root tab lf tl)
    (hn : lf p = none → ∀ A', Own (RamW r fr hs W :: R) A' → Q 5 A')
    (hk : ∀ x, lf p = some x → ∀ W' A', Rest G W' root tab (setL lf p (some ⟨x.frame, pw, pu, px⟩)) tl → (∀ f, f ∉ tl → W' f = W f) → (∀ j, 256 ≤ j → W' root j = W root j) → Own (RamW r fr hs W' :: R) A' → Q 0 A') :
    table_Protect_A (some ⟨r, 0, none⟩) pb pt bx root p pw pu px Q A := by
  refine Protect_spec h hR.T (fun k q f e => hG f (hR.tg e)) (fun c A' hA => hn ?_ A' hA) fun x f p0 p1 hx ht A' hA => ?_
  · rcases c with c | c | c
    · cases e : lf p with
      | none => rfl
      | some x => have := hR.pr p x e; omega
    · cases e : lf p with
      | none => rfl
      | some x => have := hR.pr p x e; omega
    · exact c
  · have hne : root ≠ f := fun e => by
      have h0 : tab 0 0 = some f := (hR.T.root 0 f).2 ⟨rfl, e.symm⟩
      have := (hR.T.apart _ _ _ _ _ ht h0).1
      omega
    refine hk x hx _ A' (hR.prot hx ht rfl) (fun g hg => setW_ne fun e => hg (by rw [e]; exact (hR.mem f).2 ⟨_, _, ht⟩)) (fun j _ => by rw [setW_ne hne]) hA
theorem RPages_spec {bx : Int} {pb pt : Option Addr} {Q : Sl → AH → Prop} (h : Own (RamW r fr hs W :: R) A) (hG : ∀ x, G x → hasF fr hs x = true) (hR : Rest G W root tab lf tl)
    (hk : ∀ s ps A', s.len = ps.length → (s.a = none → ps = []) → ps.Pairwise (· < ·) → (∀ p, p ∈ ps ↔ lf p ≠ none) → Own (RamW r fr hs W :: SlO s 1 (intsV ps) :: R) A' → Q s A') : table_Pages_A (some ⟨r, 0, none⟩) pb pt bx root Q A := by
  refine Pages_spec h hR.T (fun k q f e => hG f (hR.tg e)) fun s ps A' h1 h2 h3 h4 hA => hk s ps A' h1 h2 h3 (fun p => ?_) hA
  rw [h4]
  constructor
  · exact fun z => z.1
  · intro z
    obtain ⟨x, hx⟩ : ∃ x, lf p = some x := by
      cases e2 : lf p with
      | none => exact absurd e2 z
      | some x => exact ⟨x, rfl⟩
    exact ⟨z, hR.pr p x hx⟩
/-- The root goes. -/
theorem RDrop_spec {Q : Int → AH → Prop} (h : Own (RamW r fr hs W :: Bud b F G n :: TreeS t ns :: R) A) (hi : ns[i]? = some nd) (hlv : nd.live = true) (hu : 1 ≤ nd.use) (hG : ∀ x, G x → hasF fr hs x = true) (hR : Rest G W root tab lf tl)
    (hb : (∃ p, lf p ≠ none) → ∀ A', Own (RamW r fr hs W :: Bud b F G n :: TreeS t ns :: R) A' → Q 11 A')
    (hk : (∀ p, lf p = none) → ∀ A', Own (RamW r fr hs W :: Bud b (fun x => F x ∨ x = root) (fun x => G x ∧ x ≠ root) (n + 1) :: TreeS t (useN ns i nd (nd.use - 1)) :: R) A' → Q 0 A') :
    table_Drop_A (some ⟨r, 0, none⟩) (some ⟨b, 0, none⟩) (some ⟨t, 0, none⟩) i root Q A := by
  have hroot : G root := hR.tg ((hR.T.root 0 root).2 ⟨rfl, rfl⟩)
  unfold table_Drop_A table_Drop_G
  refine RPages_spec h hG hR fun s ps A1 h1 _ _ h4 hA => ?_
  have hA : Own (RamW r fr hs W :: Bud b F G n :: TreeS t ns :: R) A1 := hA.sub (List.Sublist.cons_cons _ (List.sublist_cons_self _ _))
  refine bsel_in (fun c => hb ?_ A1 hA) fun c => ?_
  · have c : 0 < ps.length := by simp [h1] at c; omega
    obtain ⟨p, hp⟩ := List.exists_mem_of_length_pos c
    exact ⟨p, (h4 p).1 hp⟩
  · have c : ps = [] := by
      have : ps.length = 0 := by
        have c := of_decide_eq_false c
        rw [h1] at c
        have e : Int.ofNat ps.length = (ps.length : Int) := rfl
        omega
      exact List.length_eq_zero_iff.1 this
    refine pGive_spec hA hi hlv hroot hu fun A2 h2 => hk (fun p => ?_) A2 h2
    cases e : lf p with
    | none => rfl
    | some x => have := (h4 p).2 (by rw [e]; simp); rw [c] at this; simp at this
end Go.Dn
/- The laws' world: one container that may have all frames. -/
namespace Go.Dn

variable {A : AH} {l R : List SP} {r b t : Nat} {N u : Int} {W W' : Int → Int → Int} {F G F' G' : Int → Prop} {root : Int} {tab : Tab} {lf : Int → Option Lf} {tl : List Int}
structure StdP (N : Int) (F G : Int → Prop) : Prop where
  inF : ∀ x, F x → hasF N [] x = true
  inG : ∀ x, G x → hasF N [] x = true
def StdO (N : Int) (r b t : Nat) (F G : Int → Prop) (W : Int → Int → Int) (u : Int) (R : List SP) : List SP := RamW r N [] W :: Bud b F G (N - 1 - u) :: TreeS t [⟨-1, N, u, 0, true⟩] :: R
theorem has0 {N x : Int} : hasF N [] x = true ↔ 0 ≤ x ∧ x < N := by simp [hasF]
theorem sPurse {Q : Option Addr → Option Addr → Option Addr → Int → Bool → AH → Prop} (h : Own R A) (hN : 4 ≤ N ∧ N ≤ 262144)
    (hk : ∀ r b t A', StdP N (fun x => 1 ≤ x ∧ x < N) (fun _ => False) → Own (StdO N r b t (fun x => 1 ≤ x ∧ x < N) (fun _ => False) (fun _ _ => 0) 0 R) A' → Q (some ⟨r, 0, none⟩) (some ⟨b, 0, none⟩) (some ⟨t, 0, none⟩) 0 true A') : demesnelaw09_Purse_A N N Q A := by
  refine purse_spec h ⟨by omega, by omega⟩ ⟨by omega, by omega⟩ fun r b t A' hA => hk r b t A' ⟨fun x hx => has0.2 ⟨by omega, hx.2⟩, fun x hx => hx.elim⟩ ?_
  unfold StdO
  rw [show N - 1 - 0 = N - 1 by omega]
  exact hA
theorem sKernel {Q : Int → Int → AH → Prop} (h : Own (StdO N r b t F G W 0 R) A) (hp : StdP N F G) (hN : 4 ≤ N ∧ N ≤ 262144)
    (hk : ∀ top mid A' W', F top → F mid → KOK N W top [mid] W' → StdP N (fun x => F x ∧ x ∉ [top, mid]) (fun x => G x ∨ x ∈ [top, mid]) → Own (StdO N r b t (fun x => F x ∧ x ∉ [top, mid]) (fun x => G x ∨ x ∈ [top, mid]) W' 2 R) A' → Q top 0 A') :
    table_Kernel_A (some ⟨r, 0, none⟩) (some ⟨b, 0, none⟩) (some ⟨t, 0, none⟩) 0 Q A := by
  have hn : needK N = 1 := by unfold needK; omega
  refine Kernel_spec (i := 0) h rfl rfl hp.inF (by omega) (fun e W' A' he _ _ => by
    simp only [hn] at he; omega) fun _ _ top ms W' A' hlen hms hK hA => ?_
  rw [hn] at hlen
  obtain ⟨mid, rfl⟩ := List.length_eq_one_iff.1 hlen
  refine hk top mid A' W' (hms _ (by simp)) (hms _ (by simp)) hK ⟨fun x hx => hp.inF x hx.1, fun x hx => ?_⟩ ?_
  · rcases hx with hx | hx
    · exact hp.inG x hx
    · exact hp.inF x (hms x hx)
  · have hA : Own (RamW r N [] W' :: Bud b (fun x => F x ∧ x ∉ [top, mid]) (fun x => G x ∨ x ∈ [top, mid]) (N - 1 - 0 - 2) :: TreeS t [⟨-1, N, 0 + 2, 0, true⟩] :: R) A' := hA
    rw [show N - 1 - 0 - 2 = N - 1 - 2 by omega, show (0 : Int) + 2 = 2 by omega] at hA
    exact hA
theorem sRoot {kern : Int} {Q : Int → Int → AH → Prop} (h : Own (StdO N r b t F G W u R) A) (hp : StdP N F G) (hu : 0 ≤ u ∧ u + 2 ≤ N) (hN : N ≤ 1048576) (hkn : 0 ≤ kern ∧ kern < 1048576)
    (hk : ∀ root A' W', F root → StdP N (fun x => F x ∧ x ∉ [root]) (fun x => G x ∨ x ∈ [root]) → Rest (fun x => G x ∨ x ∈ [root]) W' root (tab0 root) (fun _ => none) [root] → (∀ f, f ≠ root → W' f = W f) → W' root 256 = kEnt kern → (∀ j, 256 < j → W' root j = 0) →
      Own (StdO N r b t (fun x => F x ∧ x ∉ [root]) (fun x => G x ∨ x ∈ [root]) W' (u + 1) R) A' → Q root 0 A') :
    table_Root_A (some ⟨r, 0, none⟩) (some ⟨b, 0, none⟩) (some ⟨t, 0, none⟩) 0 kern Q A := by
  refine Root_spec (i := 0) (tk := []) (taken_nil rfl h) rfl rfl hp.inF hkn (fun g => ?_) (fun _ g => ?_) fun _ _ root A' hf _ hA => ?_
  · simp at g; omega
  · simp at g; omega
  have hrng := has0.1 (hp.inF root hf)
  have hW : ∀ f, f ≠ root → setW (zeroW W root) root 256 (kEnt kern) f = W f := fun f hne => by rw [setW_ne hne, zeroW_ne hne]
  have hz : ∀ j, 0 ≤ j → j < 256 → setW (zeroW W root) root 256 (kEnt kern) root j = 0 := fun j j0 j1 => by
    unfold setW zeroW
    rw [if_neg (by omega), if_pos rfl]
  have key : ∀ k q f, tab0 root k q = some f ↔ (k = 0 ∧ q = 0) ∧ f = root := fun k q f => by
    unfold tab0
    split
    · rename_i e; simp [e]; exact eq_comm
    · rename_i e; simp [e]
  refine hk root A' _ hf ⟨fun x hx => hp.inF x hx.1, fun x hx => ?_⟩ ⟨TabW.init hz ⟨hrng.1, by omega⟩, fun p x e => (by cases e), fun k q f e hk1 => ?_, (by simp), fun f => ?_, fun f hf2 => .inr hf2⟩ hW ?_ (fun j hj => ?_) ?_
  · rcases hx with hx | hx
    · exact hp.inG x hx
    · simp only [List.mem_singleton] at hx; subst hx; exact hp.inF _ hf
  · have := ((key k q f).1 e).1; omega
  · rw [List.mem_singleton]
    constructor
    · intro e; exact ⟨0, 0, (key 0 0 f).2 ⟨⟨rfl, rfl⟩, e⟩⟩
    · rintro ⟨k, q, e⟩; exact ((key k q f).1 e).2
  · unfold setW; rw [if_pos ⟨rfl, rfl⟩]
  · unfold setW zeroW; rw [if_neg (by omega), if_pos rfl]
  · have hA : Own (RamW r N [] (setW (zeroW W root) root 256 (kEnt kern)) :: Bud b (fun x => F x ∧ x ∉ [root]) (fun x => G x ∨ x ∈ [root]) (N - 1 - u - 1) :: TreeS t [⟨-1, N, u + 1, 0, true⟩] :: R) A' := hA
    rw [show N - 1 - u - 1 = N - 1 - (u + 1) by omega] at hA
    exact hA
theorem sMap {p fm : Int} {pw pu px : Bool} {Q : Int → AH → Prop} (h : Own (StdO N r b t F G W u R) A) (hp : StdP N F G) (hu : 0 ≤ u ∧ u + 4 ≤ N) (hR : Rest G W root tab lf tl)
    (h1 : p < 0 ∨ p ≥ 34359738368 ∨ fm < 0 ∨ fm ≥ 1048576 → Q 1 A)
    (h6 : 0 ≤ p → p < 34359738368 → 0 ≤ fm → fm < 1048576 → lf p ≠ none → ∀ A', Own (StdO N r b t F G W u R) A' → Q 6 A')
    (hk : 0 ≤ p → p < 34359738368 → 0 ≤ fm → fm < 1048576 → lf p = none → ∀ tk W' tab' A', tk.length = needT tab p → (∀ x ∈ tk, F x) → StdP N (fun x => F x ∧ x ∉ tk) (fun x => G x ∨ x ∈ tk) →
      Rest (fun x => G x ∨ x ∈ tk) W' root tab' (setL lf p (some ⟨fm, pw, pu, px⟩)) (tl ++ tk) → (∀ f, f ∉ tk → f ∉ tl → W' f = W f) → Own (StdO N r b t (fun x => F x ∧ x ∉ tk) (fun x => G x ∨ x ∈ tk) W' (u + tk.length) R) A' → Q 0 A') :
    table_Map_A (some ⟨r, 0, none⟩) (some ⟨b, 0, none⟩) (some ⟨t, 0, none⟩) 0 root p fm pw pu px Q A := by
  have hneed : needT tab p ≤ 3 := by unfold needT; split <;> split <;> split <;> omega
  refine RMap_spec (i := 0) h rfl rfl hp.inF hp.inG hR h1 h6 (fun _ _ _ _ _ e W' A' he _ _ _ _ => ?_) fun p0 p1 f0 f1 hl tk W' tab' A' hlen _ _ htk hR' hW _ hA => ?_
  · simp only at he; omega
  refine hk p0 p1 f0 f1 hl tk W' tab' A' hlen htk ⟨fun x hx => hp.inF x hx.1, fun x hx => ?_⟩ hR' hW ?_
  · rcases hx with hx | hx
    · exact hp.inG x hx
    · exact hp.inF x (htk x hx)
  · have hA : Own (RamW r N [] W' :: Bud b (fun x => F x ∧ x ∉ tk) (fun x => G x ∨ x ∈ tk) (N - 1 - u - tk.length) :: TreeS t [⟨-1, N, u + tk.length, 0, true⟩] :: R) A' := hA
    rw [show N - 1 - u - (tk.length : Int) = N - 1 - (u + tk.length) by omega] at hA
    exact hA
theorem sUnmap {p : Int} {Q : Int → Int → AH → Prop} (h : Own (StdO N r b t F G W u R) A) (hp : StdP N F G) (hu : tl.length ≤ u) (hR : Rest G W root tab lf tl)
    (hn : lf p = none → ∀ A', Own (StdO N r b t F G W u R) A' → Q 0 5 A')
    (hk : ∀ (x : Lf) (gl : List Int) W' tab' (tl' : List Int) A', lf p = some x → (∀ y ∈ gl, y ∈ tl) → tl'.length + gl.length = tl.length → (∀ y, y ∈ tl' ↔ y ∈ tl ∧ y ∉ gl) → StdP N (fun x => F x ∨ x ∈ gl) (fun x => G x ∧ x ∉ gl) →
      Rest (fun y => G y ∧ y ∉ gl) W' root tab' (setL lf p none) tl' → (∀ f, f ∉ tl → W' f = W f) → Own (StdO N r b t (fun x => F x ∨ x ∈ gl) (fun x => G x ∧ x ∉ gl) W' (u - gl.length) R) A' → Q x.frame 0 A') :
    table_Unmap_A (some ⟨r, 0, none⟩) (some ⟨b, 0, none⟩) (some ⟨t, 0, none⟩) 0 root p Q A := by
  refine RUnmap_spec (i := 0) h rfl rfl hu hp.inG hR hn fun x gl W' tab' tl' A' hx hg ht hlen _ hmem hR' hW _ hA => ?_
  refine hk x gl W' tab' tl' A' hx ht hlen hmem ⟨fun x hx => ?_, fun x hx => hp.inG x hx.1⟩ hR' hW ?_
  · rcases hx with hx | hx
    · exact hp.inF x hx
    · exact hp.inG x (hg x hx)
  · have hA : Own (RamW r N [] W' :: Bud b (fun x => F x ∨ x ∈ gl) (fun x => G x ∧ x ∉ gl) (N - 1 - u + gl.length) :: TreeS t [⟨-1, N, u - gl.length, 0, true⟩] :: R) A' := hA
    rw [show N - 1 - u + (gl.length : Int) = N - 1 - (u - gl.length) by omega] at hA
    exact hA
theorem sUsed {x y : Option Addr} {Q : Int → AH → Prop} (h : Own (StdO N r b t F G W u R) A) (hk : Q u A) : demesnelaw09_Used_A x y (some ⟨t, 0, none⟩) 0 Q A := by
  have h : Own (TreeS t [⟨-1, N, u, 0, true⟩] :: RamW r N [] W :: Bud b F G (N - 1 - u) :: R) A := Own.rot3 h
  exact Used_head (i := 0) h rfl rfl hk
theorem sFree {Q : Int → AH → Prop} (h : Own (StdO N r b t F G W u R) A) (hk : Q (N - 1 - u) A) : buddy_Buddy_Free_A (some ⟨b, 0, none⟩) Q A := Free_head (Own.swap h) hk
theorem awake_spec {Q : Bool → AH → Prop} (h : Own R A) (hk : ∀ A', Own R A' → Q true A') : demesnelaw09_awake_A Q A := by
  unfold demesnelaw09_awake_A demesnelaw09_awake_G
  refine sPurse (N := 20) h ⟨by omega, by omega⟩ fun r b t A1 hp1 h1 => bsel_f rfl ?_
  refine sKernel h1 hp1 ⟨by omega, by omega⟩ fun top mid A2 W2 ht hm hK hp2 h2 => ?_
  have hrt := has0.1 (hp1.inF top ht)
  refine sRoot h2 hp2 ⟨by omega, by omega⟩ (by omega) ⟨hrt.1, by omega⟩ fun root A3 W3 hr hp3 hR hW hW2 _ h3 => bsel_f rfl (bsel_f rfl ?_)
  refine sUsed h3 (bsel_f rfl ?_)
  have h3 := h3
  refine sMap h3 hp3 ⟨by omega, by omega⟩ hR (fun g => by omega) (fun _ _ _ _ g => absurd rfl g) fun _ _ _ _ _ tk W4 tab' A4 hlen _ hp4 hR4 _ h4 => bsel_f rfl ?_
  have hl3 : tk.length = 3 := by
    rw [hlen]
    unfold needT tab0
    simp
  refine sUsed h4 (bsel_f (by rw [hl3]; rfl) ?_)
  refine RQuery_spec h4 hp4.inG hR4 (fun g => ?_) fun x hx A5 h5 => ?_
  · unfold setL at g; rw [if_pos rfl] at g; cases g
  · unfold setL at hx
    rw [if_pos rfl] at hx
    cases hx
    exact bsel_t rfl (bsel_t rfl (hk A5 (Own.tail (Own.tail (Own.tail h5)))))
end Go.Dn
