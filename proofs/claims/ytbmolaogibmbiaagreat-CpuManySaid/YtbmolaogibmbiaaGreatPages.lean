/- What the proof stands on: Protect, Clear, Unmap, Pages. -/
import Derived.Test.YtbmolaogibmbiaaGreatWords
import Derived.Test.YtbmolaogibmbiaaGreatRoot
/- A page that may be used otherwise. -/
namespace Go.Dn
variable {A : AH} {l R : List SP} {r : Nat} {fr : Int} {hs : List (Int × Int)} {W : Int→Int→Int} {root : Int} {tab : Tab} {lf : Int→Option Lf}
theorem DownOK.all {p : Int} {lst : List Int} {x : Lf} (h : DownOK tab p lst) (hT : TabW W root tab lf) (hp : 0 ≤ p ∧ p < 34359738368) (hx : lf p = some x) : lst.length = 4 := by
 have := h.le
 rcases Nat.lt_or_ge lst.length 4 with c | c
 ·exact absurd (h.no c) (hT.chain hp hx _ c)
 ·omega
theorem sl_some {s : Sl} (h : s.a ≠ none) : ∃ a,s.a = some a := by
 cases e : s.a with
 | none => exact absurd e h
 | some a => exact ⟨a,rfl⟩
theorem ld_sl {l : List SP} {k : Nat} {s : Sl} {lst : List Int} {j : Nat} {f : Int} {a : Addr} {K : Int→Prop} (h : Own l A) (e : l[k]? = some (SlO s 1 (intsV lst))) (hf : lst[j]? = some f) (ha : s.a = some a) (hK : K f) : aI .i64 (Addr.add a j) A K := by
 obtain ⟨bb,o,q1,q2⟩ := rd_cell (i := k) (P := SlO s 1 (intsV lst)) h e reads_slo (j := j) (v := .int .i64 f) (by simp only [intsV,List.getElem?_map,hf];rfl)
 rw [q1] at ha
 cases ha
 exact ⟨f,by rw [add_at];exact q2,hK⟩
end Go.Dn
/- A frame of zeros. -/
namespace Go.Dn
variable {A : AH} {l R : List SP} {r : Nat} {fr : Int} {hs : List (Int × Int)} {M : Int→Int} {W : Int→Int→Int}
theorem le_zero {M : Int→Int} (hb : ∀ a,0 ≤ M a ∧ M a < 256) : ∀ (n : Nat) (a : Int),le M a n = 0 ↔ ∀ j : Nat,j < n→M (a + j) = 0
 | 0,a => by simp [le]
 | n + 1,a => by
  have ih := le_zero hb n (a + 1)
  have h1 := hb a
  have h2 := le_bound hb n (a + 1)
  simp only [le]
  constructor
  ·intro h j hj
   have e1 : M a = 0 := by omega
   have e2 : le M (a + 1) n = 0 := by omega
   cases j with
   | zero => simpa using e1
   | succ j =>
    have := ih.1 e2 j (by omega)
    rw [show a + ((j + 1 : Nat) : Int) = a + 1 + j by omega]
    exact this
  ·intro h
   have e1 : M a = 0 := by simpa using h 0 (by omega)
   have e2 : le M (a + 1) n = 0 := ih.2 fun j hj => by
    have := h (j + 1) (by omega)
    rw [show a + ((j + 1 : Nat) : Int) = a + 1 + j by omega] at this
    exact this
   rw [e1,e2];rfl
theorem words_zero {M : Int→Int} (hb : ∀ a,0 ≤ M a ∧ M a < 256) (t : Int) : (∀ i,0 ≤ i→i < 512→wordAt M t i = 0) ↔ ∀ j : Nat,j < 4096→M (t * 4096 + j) = 0 := by
 unfold wordAt
 constructor
 ·intro h j hj
  have := (le_zero hb 8 _).1 (h ((j / 8 : Nat) : Int) (by omega) (by omega)) (j % 8) (by omega)
  rw [show t * 4096 + 8 * ((j / 8 : Nat) : Int) + ((j % 8 : Nat) : Int) = t * 4096 + j by omega] at this
  exact this
 ·intro h i h0 h1
  refine (le_zero hb 8 _).2 fun j hj => ?_
  have := h (8 * i.toNat + j) (by omega)
  rw [show t * 4096 + ((8 * i.toNat + j : Nat) : Int) = t * 4096 + 8 * i + j by omega] at this
  exact this
set_option maxRecDepth 100000 in
theorem Clear_head {t : Int} {Q : Bool→AH→Prop} (h : Own (RamW r fr hs W :: R) A) (ht : 0 ≤ t) (hz : (∀ i,0 ≤ i→i < 512→W t i = 0)→Q true A) (hn : (¬∀ i,0 ≤ i→i < 512→W t i = 0)→Q false A) : qec_A (some ⟨r,0,none⟩) t Q A := by
 obtain ⟨M,⟨h1,h2⟩,hh⟩ := RamW.openH h
 obtain ⟨s,mb,pm,ok,ho⟩ := RamS.open (i := 0) hh rfl
 have hW : (∀ i,0 ≤ i→i < 512→W t i = 0) ↔ ∀ j : Nat,j < 4096→M (t * 4096 + j) = 0 := by
  rw [← words_zero ok.byte t]
  exact ⟨fun g i i0 i1 => by rw [← h2 t i ht i0 i1];exact g i i0 i1,fun g i i0 i1 => by rw [h2 t i ht i0 i1];exact g i i0 i1⟩
 unfold qec_A
 show aM (Addr.add ⟨r,0,none⟩ 2) A _
 rw [add_at]
 refine ld_M (i := 0) ho rfl rfl (lk_M (i := 2) ho rfl ?_)
 rw [pm_lookup]
 cases hp : pm.lookup t with
 | none =>
  refine ⟨none,rfl,bsel_t rfl (hz (hW.2 fun j hj => ok.zero _ (by omega) ?_))⟩
  rw [show (t * 4096 + (j : Int)) / 4096 = t by omega]
  exact lookup_none hp
 | some b =>
  refine ⟨some ⟨b,0,none⟩,rfl,bsel_f rfl ?_⟩
  obtain ⟨q,hq1,hq2⟩ := pages_at (M := M) (lookup_mem hp)
  have hcell : ∀ i,i < 4096→cellA A ((⟨b,0,none⟩ : Addr).add i) = some (.int .u8 (M (t * 4096 + i))) := by
   intro i hi
   rw [add_at]
   refine cell_at (i := 3 + q) (cs := pageCells M t) ?_ ho ?_
   ·show (_ :: _ :: _ :: PagesAt M pm)[3 + q]? = _
    rw [show 3 + q = q + 3 by omega]
    exact hq2
   ·rw [Nat.zero_add];exact page_at hi
  have hpl : (pageCells M t).length = 4096 := by simp [pageCells]
  refine ⟨(pageCells M t).toArray,by simp [hpl],fun i hi => ⟨_,by rw [List.getElem?_toArray];exact page_at hi,hcell i hi⟩,?_⟩
  refine ⟨(List.range 4096).map fun (i : Nat) => UInt8.ofNat (M (t * 4096 + i)).toNat,List.replicate 4096 0,?_,?_,(List.length_map _).trans List.length_range,List.length_replicate,?_⟩
  ·unfold pageCells
   rw [List.map_map]
   refine congrArg List.toArray (List.map_congr_left fun i _ => ?_)
   have := ok.byte (t * 4096 + i)
   simp only [Function.comp,Go.Extern.Stop.cell]
   rw [UInt8.toNat_ofNat']
   congr 1
   rw [Nat.mod_eq_of_lt (by omega)]
   exact (Int.toNat_of_nonneg this.1).symm
  ·rw [List.map_replicate,← List.toArray_replicate];rfl
  ·by_cases g : ∀ j : Nat,j < 4096→M (t * 4096 + j) = 0
   ·have e : ((List.range 4096).map fun (i : Nat) => UInt8.ofNat (M (t * 4096 + i)).toNat) = List.replicate 4096 0 := by
     rw [List.eq_replicate_iff]
     refine ⟨by simp,fun x hx => ?_⟩
     obtain ⟨i,hi,rfl⟩ := List.mem_map.1 hx
     rw [g i (by simpa using hi)];rfl
    rw [e]
    have : (List.replicate 4096 (0 : UInt8) == List.replicate 4096 0) = true := beq_self_eq_true _
    rw [this]
    exact hz (hW.2 g)
   ·have e : (((List.range 4096).map fun (i : Nat) => UInt8.ofNat (M (t * 4096 + i)).toNat) == List.replicate 4096 0) = false := by
     rw [beq_eq_false_iff_ne]
     intro e
     refine g fun j hj => ?_
     have h3 : ((List.range 4096).map fun (i : Nat) => UInt8.ofNat (M (t * 4096 + i)).toNat)[j]? = (List.replicate 4096 (0 : UInt8))[j]? := by rw [e]
     rw [List.getElem?_map,List.getElem?_range hj,List.getElem?_replicate,if_pos hj] at h3
     simp only [Option.map_some,Option.some.injEq] at h3
     have h4 := congrArg UInt8.toNat h3
     rw [UInt8.toNat_ofNat'] at h4
     have := ok.byte (t * 4096 + j)
     have h5 : (M (t * 4096 + j)).toNat % 256 = 0 := h4
     omega
    rw [e]
    exact hn fun g2 => g (hW.1 g2)
end Go.Dn
/- A page less: tables that have nothing any more are given back. -/
namespace Go.Dn
variable {A : AH} {l R : List SP} {r b t i : Nat} {fr n : Int} {hs : List (Int × Int)} {W : Int→Int→Int} {F G : Int→Prop} {ns : List Nd} {nd : Nd} {root : Int} {tab : Tab} {lf : Int→Option Lf}
def cutT (tab : Tab) (p : Int) (v : Nat) : Tab := fun k q => if v < k ∧ q = preP p k then none else tab k q
theorem cutT_step {p : Int} {v : Nat} {tab : Tab} (hd : ∀ k q,3 < k→tab k q = none) (hv : v < 3) : setT (cutT tab p (v + 1)) (v + 1) (preP p (v + 1)) none = cutT tab p v := by
 funext k q
 unfold setT cutT
 by_cases e : k = v + 1
 ·subst e
  by_cases e2 : q = preP p (v + 1)
  ·rw [if_pos ⟨rfl,e2⟩,if_pos ⟨by omega,e2⟩]
  ·rw [if_neg (fun z => e2 z.2),if_neg (fun z => e2 z.2),if_neg (fun z => e2 z.2)]
 ·rw [if_neg (fun z => e z.1)]
  by_cases e2 : v < k ∧ q = preP p k
  ·rw [if_pos ⟨by omega,e2.2⟩,if_pos e2]
  ·rw [if_neg (fun z => e2 ⟨by omega,z.2⟩),if_neg e2]
theorem cutT_three {p : Int} {tab : Tab} (hd : ∀ k q,3 < k→tab k q = none) : cutT tab p 3 = tab := by
 funext k q
 unfold cutT
 by_cases e : 3 < k ∧ q = preP p k
 ·rw [if_pos e,hd k q e.1]
 ·rw [if_neg e]
def gone (lst : List Int) (v : Nat) : List Int := lst.drop (v + 1)
def undone (r : Nat) (fr : Int) (hs : List (Int × Int)) (W : Int→Int→Int) (b : Nat) (F G : Int→Prop) (n : Int) (t : Nat) (ns : List Nd) (i : Nat) (nd : Nd) (tk : List Int) : List SP :=
 [RamW r fr hs W,Bud b (fun x => F x ∨ x ∈ tk) (fun x => G x ∧ x ∉ tk) (n + tk.length),TreeS t (useN ns i nd (nd.use - tk.length))]
theorem undone_nil (hi : ns[i]? = some nd) (h : Own (RamW r fr hs W :: Bud b F G n :: TreeS t ns :: R) A) : Own (undone r fr hs W b F G n t ns i nd [] ++ R) A := by
 have e : useN ns i nd (nd.use - (([] : List Int).length : Int)) = ns := by
  simp only [List.length_nil]
  rw [show nd.use - ((0 : Nat) : Int) = nd.use by omega]
  exact useN_same hi
 unfold undone
 rw [e]
 exact h.cons fun C hC => Bud.congr (fun x => by simp) (fun x => by simp) (by simp) hC
theorem undone_give {f : Int} {tk : List Int} {Q : AH→Prop} (h : Own (undone r fr hs W b F G n t ns i nd tk ++ R) A) (hi : ns[i]? = some nd) (hlv : nd.live = true) (hu : tk.length < nd.use) (hf : G f) (hn : f ∉ tk)
  (hk : ∀ A',Own (undone r fr hs W b F G n t ns i nd (f :: tk) ++ R) A'→Q A') : qbh_A (some ⟨r,0,none⟩) (some ⟨b,0,none⟩) (some ⟨t,0,none⟩) i f Q A := by
 refine pGive_spec (nd := { nd with use := nd.use - tk.length }) h (useN_at hi _) hlv ⟨hf,hn⟩ (by simp;omega) fun A' hA => hk A' ?_
 rw [useN_use] at hA
 unfold undone
 rw [show nd.use - ((f :: tk).length : Int) = nd.use - tk.length - 1 by simp;omega]
 refine hA.cons fun C hC => Bud.congr (fun x => ?_) (fun x => ?_) (by simp;omega) hC
 ·simp only [List.mem_cons,or_assoc]
  constructor
  ·rintro (h1 | h1 | h1)
   ·exact .inl h1
   ·exact .inr (.inr h1)
   ·exact .inr (.inl h1)
  ·rintro (h1 | h1 | h1)
   ·exact .inl h1
   ·exact .inr (.inr h1)
   ·exact .inr (.inl h1)
 ·simp only [List.mem_cons,not_or]
  exact ⟨fun z => ⟨z.1.1,z.2,z.1.2⟩,fun z => ⟨⟨z.1,z.2.2⟩,z.2.1⟩⟩
set_option maxRecDepth 100000 in
set_option maxHeartbeats 2000000 in
theorem Unmap_spec {p : Int} {Q : Int→Int→AH→Prop} (h : Own (RamW r fr hs W :: Bud b F G n :: TreeS t ns :: R) A) (hi : ns[i]? = some nd) (hlv : nd.live = true) (hu : 3 ≤ nd.use ∨ ∀ p,lf p = none) (hG : ∀ x,G x→hasF fr hs x = true)
  (hT : TabW W root tab lf) (hTG : ∀ k q f,tab k q = some f→G f)
  (hn : (p < 0 ∨ p ≥ 34359738368 ∨ lf p = none)→∀ A',Own (RamW r fr hs W :: Bud b F G n :: TreeS t ns :: R) A'→Q 0 5 A')
  (hk : ∀ x lst v W' A',0 ≤ p→p < 34359738368→lf p = some x→DownOK tab p lst→lst.length = 4→v ≤ 3→TabW W' root (cutT tab p v) (setL lf p none)→(v = 0 ∨ ∃ f j,lst[v]? = some f ∧ 0 ≤ j ∧ j < 512 ∧ W' f j ≠ 0) →
   (∀ f,f ∉ lst→W' f = W f)→(∀ j,256 ≤ j→W' root j = W root j)→Own (undone r fr hs W' b F G n t ns i nd (gone lst v) ++ R) A'→Q x.frame 0 A') :
  qed_A (some ⟨r,0,none⟩) (some ⟨b,0,none⟩) (some ⟨t,0,none⟩) i root p Q A := by
 have hhas : ∀ k q f,tab k q = some f→hasF fr hs f = true := fun k q f hf => hG f (hTG k q f hf)
 unfold qed_A qed_G
 refine Query_spec h hT hhas (fun c A1 h1 => bsel_t rfl (hn c A1 h1)) fun x p0 p1 hx A1 h1 => bsel_f rfl ?_
 have hu : 3 ≤ nd.use := by
  rcases hu with hu | hu
  ·exact hu
  ·rw [hu p] at hx;cases hx
 refine path_spec h1 ⟨p0,p1⟩ fun A2 h2 => down_spec h2 hT hhas ⟨p0,p1⟩ fun lst s A3 hD hl hsa h3 => ?_
 refine new_C (cs := [.int .i64 0,.int .i64 0,.int .i64 0,.int .i64 0]) h3 fun b14 A4 h4 => ?_
 simp only [add_at]
 refine st_C (i := 0) h4 rfl rfl rfl fun A5 h5 => st_C (i := 0) h5 rfl rfl rfl fun A6 h6 => st_C (i := 0) h6 rfl rfl rfl fun A7 h7 => st_C (i := 0) h7 rfl rfl rfl fun A8 h8 => ?_
 have h8 : Own (At b14 (atCells p) :: RamW r fr hs W :: SlO s 1 (intsV lst) :: Bud b F G n :: TreeS t ns :: R) A8 := h8
 have h8 : Own (RamW r fr hs W :: Bud b F G n :: TreeS t ns :: SlO s 1 (intsV lst) :: At b14 (atCells p) :: R) A8 := (((h8.pick 2 rfl).pick 4 rfl).pick 4 rfl).pick 4 rfl
 have c := hD.all hT ⟨p0,p1⟩ hx
 obtain ⟨f,hf,ht⟩ := hD.four c
 obtain ⟨a,ha⟩ := sl_some hsa
 have hj : 0 ≤ atP p 3 ∧ atP p 3 < 512 := by simp only [atP];omega
 have hdeep := hT.deep
 rw [ha]
 refine inB_in (by omega) (by simp [hl,c]) (ld_sl (k := 3) h8 rfl hf ha ?_)
 refine ld_I (i := 4) h8 rfl (atCells_at (c := 3) (by omega)) ?_
 have hrf := hT.range _ _ _ ht
 refine place_eq hrf hj (store_head h8 (hhas _ _ _ ht) hj (by constructor <;> omega) fun A9 h9 => ?_)
 have hleaf := hT.leaf (o := none) ht p0 (fun l hl => by cases hl)
 have hat : ∀ v,v < 4→∃ g,lst[v]? = some g ∧ tab v (preP p v) = some g := fun v hv => by
  refine ⟨lst[v],by simp [c,hv],?_⟩
  rw [hD.is v (by omega)];simp [c,hv]
 have hnd : lst.Nodup := by
  unfold List.Nodup
  rw [List.pairwise_iff_getElem]
  intro u v hu' hv huv e
  obtain ⟨g,g1,g2⟩ := hat u (by omega)
  obtain ⟨g',g1',g2'⟩ := hat v (by omega)
  rw [List.getElem?_eq_getElem hu'] at g1
  rw [List.getElem?_eq_getElem hv] at g1'
  have g1 := Option.some.inj g1
  have g1' := Option.some.inj g1'
  have e : g = g' := by rw [← g1,← g1',e]
  subst e
  have := (hT.apart _ _ _ _ _ g2 g2').1
  omega
 refine ⟨fun y m h' => ∃ (v : Nat) (W1 : Int→Int→Int),y = v ∧ v = m ∧ v ≤ 3 ∧ TabW W1 root (cutT tab p v) (setL lf p none) ∧ (∀ f,f ∉ lst→W1 f = W f) ∧ (∀ j,256 ≤ j→W1 root j = W root j) ∧
   Own (undone r fr hs W1 b F G n t ns i nd (gone lst v) ++ SlO s 1 (intsV lst) :: At b14 (atCells p) :: R) h',⟨3,3,setW W f (atP p 3) 0,rfl,rfl,by omega,?_,fun g hg => ?_,fun j _ => ?_,?_⟩,?_⟩
 ·rw [cutT_three hdeep];exact hleaf
 ·have : f ∈ lst := List.mem_of_getElem? hf
  exact setW_ne (fun e => hg (e ▸ this))
 ·have hne : root ≠ f := fun e => by
   have h0 : tab 0 0 = some f := (hT.root 0 f).2 ⟨rfl,e.symm⟩
   have := (hT.apart _ _ _ _ _ ht h0).1
   omega
  rw [setW_ne hne]
 ·have e : gone lst 3 = [] := by unfold gone;exact List.drop_eq_nil_of_le (by omega)
  rw [e]
  exact undone_nil hi h9
 intro y m A10 ⟨v,W1,j1,j2,j3,j4,j5,j6,h10⟩
 subst j1 j2
 have hrest : ∀ {W2 : Int→Int→Int} {tk : List Int} {B : AH},Own (undone r fr hs W2 b F G n t ns i nd tk ++ SlO s 1 (intsV lst) :: At b14 (atCells p) :: R) B→Own (undone r fr hs W2 b F G n t ns i nd tk ++ R) B := fun {W2 tk B} hB => by
  exact hB.sub ((List.Sublist.refl _).append ((List.sublist_cons_self _ _).trans (List.sublist_cons_self _ _)))
 apply bsel_in
 rotate_left
 ·intro d
  have d : v = 0 := by simp at d;omega
  subst d
  exact hk x lst 0 W1 A10 p0 p1 hx hD c (by omega) j4 (.inl rfl) j5 j6 (hrest h10)
 intro d
 obtain ⟨v,rfl⟩ : ∃ u,v = u + 1 := ⟨v - 1,by simp at d;omega⟩
 obtain ⟨g,hg,htg⟩ := hat (v + 1) (by omega)
 obtain ⟨g0,hg0,htg0⟩ := hat v (by omega)
 have hrg := hT.range _ _ _ htg
 have hrg0 := hT.range _ _ _ htg0
 obtain ⟨e1,e2,e3,e4,e5⟩ := preP_succ ⟨p0,p1⟩ (k := v) (by omega)
 refine inB_in (by omega) (by omega) ?_
 rw [show Int.toNat ((v + 1 : Nat) : Int) * 1 = v + 1 by omega]
 refine ld_sl (k := 3) h10 rfl hg ha (Clear_head h10 hrg.1 (fun hz => bsel_t rfl ?_) fun hz => bsel_f rfl ?_)
 rotate_left
 ·refine hk x lst (v + 1) W1 A10 p0 p1 hx hD c j3 j4 (.inr ⟨g,?_⟩) j5 j6 (hrest h10)
  have ⟨q,hq⟩ := Classical.not_forall.1 hz
  have ⟨q0,hq⟩ := Classical.not_forall.1 hq
  have ⟨q1,hq⟩ := Classical.not_forall.1 hq
  exact ⟨q,hg,q0,q1,hq⟩
 rw [w64 (n := ((v + 1 : Nat) : Int) - 1) (by omega) (by omega),show ((v + 1 : Nat) : Int) - 1 = (v : Int) by omega]
 refine inB_in (by omega) (by omega) (inB_in (by omega) (by omega) ?_)
 rw [show Int.toNat (v : Int) * 1 = v by omega]
 refine ld_sl (k := 3) h10 rfl hg0 ha (ld_I (i := 4) h10 rfl (by rw [Nat.zero_add];exact atCells_at (c := v) (by omega)) ?_)
 refine place_eq hrg0 ⟨e2,e3⟩ (store_head h10 (hhas _ _ _ htg0) ⟨e2,e3⟩ (by constructor <;> omega) fun A11 h11 => ?_)
 refine inB_in (by omega) (by omega) (ld_sl (k := 3) h11 rfl hg ha ?_)
 have hc0 : cutT tab p (v + 1) v (preP p v) = some g0 := by unfold cutT;rw [if_neg (by omega)];exact htg0
 have hc1 : cutT tab p (v + 1) (v + 1) (preP p (v + 1)) = some g := by unfold cutT;rw [if_neg (by omega)];exact htg
 have hun := j4.unlink (k := v) (q := preP p v) (j := atP p v) (by omega) hc0 ⟨e2,e3⟩ e4 (by rw [← e1];exact hc1) hz
 rw [← e1,cutT_step hdeep (by omega)] at hun
 have hgone : gone lst v = g :: gone lst (v + 1) := by
  unfold gone
  have hlt : v + 1 < lst.length := by omega
  rw [List.drop_eq_getElem_cons hlt]
  have : lst[v + 1] = g := by
   have := List.getElem?_eq_getElem hlt
   rw [this] at hg
   exact Option.some.inj hg
  rw [this]
 have hgn : g ∉ gone lst (v + 1) := by
  have : (gone lst v).Nodup := hnd.sublist (List.drop_sublist _ _)
  rw [hgone] at this
  exact (List.nodup_cons.1 this).1
 have hlen : (gone lst (v + 1)).length < 3 := by unfold gone;simp only [List.length_drop,c];omega
 have hgl : ((gone lst (v + 1)).length : Int) < nd.use := by omega
 refine undone_give (R := SlO s 1 (intsV lst) :: At b14 (atCells p) :: R) h11 hi hlv hgl (hTG _ _ _ htg) hgn fun A12 h12 => ?_
 refine ⟨v,by omega,v,setW W1 g0 (atP p v) 0,rfl,rfl,by omega,hun,fun f' hf' => ?_,fun j hj => ?_,by rw [hgone];exact h12⟩
 ·have hne : f' ≠ g0 := fun e => by
   subst e
   exact hf' (List.mem_of_getElem? hg0)
  rw [setW_ne hne]
  exact j5 f' hf'
 ·unfold setW
  by_cases e : root = g0
  ·have h0 : tab 0 0 = some g0 := (hT.root 0 g0).2 ⟨rfl,e.symm⟩
   obtain ⟨k0,_⟩ := hT.apart _ _ _ _ _ htg0 h0
   have := e4 k0
   rw [if_neg (fun z => by omega)]
   exact j6 j hj
  ·rw [if_neg (fun z => e z.1)]
   exact j6 j hj
end Go.Dn
/- All pages that lead somewhere, rising. -/
namespace Go.Dn
variable {A : AH} {l R : List SP} {r o : Nat} {fr : Int} {hs : List (Int × Int)} {W : Int→Int→Int} {root : Int} {tab : Tab} {lf : Int→Option Lf}
def OutS (o : Nat) (out : List Int) : SP := fun B => ∃ s : Sl,(s.len = out.length ∧ (s.a = none→out = [])) ∧ Own [At o [.slice s.a s.len s.cap],SlO s 1 (intsV out)] B
theorem OutS.openH {out : List Int} (h : Own (OutS o out :: R) A) : ∃ s : Sl,(s.len = out.length ∧ (s.a = none→out = [])) ∧ Own (At o [.slice s.a s.len s.cap] :: SlO s 1 (intsV out) :: R) A := by
 obtain ⟨s,h⟩ := Own.ex h
 obtain ⟨h1,h⟩ := Own.pure h
 exact ⟨s,h1,h.flat⟩
theorem OutS.closeH {out : List Int} {s : Sl} (h1 : s.len = out.length) (h2 : s.a = none→out = []) (h : Own (At o [.slice s.a s.len s.cap] :: SlO s 1 (intsV out) :: R) A) : Own (OutS o out :: R) A :=
 (Own.app (l := [At o [.slice s.a s.len s.cap],SlO s 1 (intsV out)]) (r := R) h).imp fun _ hB => ⟨s,⟨h1,h2⟩,hB⟩
theorem rise_len {N : Int} : ∀ (l : List Int) (lo : Int),l.Pairwise (· < ·)→(∀ x ∈ l,lo ≤ x ∧ x < N)→(l.length : Int) ≤ max 0 (N - lo)
 | [],lo,_,_ => by simp;omega
 | x :: r,lo,hp,hb => by
  obtain ⟨h1,h2⟩ := List.pairwise_cons.1 hp
  have hx := hb x List.mem_cons_self
  have := rise_len r (x + 1) h2 fun y hy => ⟨by have := h1 y hy;omega,(hb y (List.mem_cons_of_mem _ hy)).2⟩
  simp only [List.length_cons]
  omega
theorem see_spec {out : List Int} {p : Int} {Q : AH→Prop} (h : Own (OutS o out :: R) A) (hl : (out.length : Int) < 34359738368) (hk : ∀ A',Own (OutS o (out ++ [p]) :: R) A'→Q A') : qdz_A p (some ⟨o,0,none⟩) Q A := by
 obtain ⟨s,⟨h1,h2⟩,h⟩ := OutS.openH h
 unfold qdz_A
 refine ld_S (i := 0) h rfl rfl (new_C (cs := intsV [p]) h fun b3 A1 hA1 => ?_)
 have hA1 : Own (SlAt ⟨some ⟨b3,0,none⟩,1,1⟩ 1 (intsV [p]) :: At o [.slice s.a s.len s.cap] :: SlO s 1 (intsV out) :: R) A1 := hA1.imp fun B hB => (at_slo (k := 1) (sz := 1) rfl hB).look
 have hA1 := hA1.pick 2 rfl
 refine ap_head (i := 0) hA1 rfl (fun q => by cases q) (fun q => by rw [h2 q];rfl) rfl (fun x hx => ?_) ⟨by simp only [h1];omega,by simp only [h1];omega⟩ fun s' A2 j1 j2 hA2 => ?_
 ·simp [intsV] at hx;subst hx;rfl
 rw [← intsV_app] at hA2
 have hA2 : Own (SlO s' 1 (intsV (out ++ [p])) :: SlAt ⟨some ⟨b3,0,none⟩,1,1⟩ 1 (intsV [p]) :: At o [.slice s.a s.len s.cap] :: R) A2 := hA2
 refine st_C (i := 2) hA2 rfl rfl rfl fun A3 hA3 => hk A3 ?_
 have hA3 : Own (SlO s' 1 (intsV (out ++ [p])) :: SlAt ⟨some ⟨b3,0,none⟩,1,1⟩ 1 (intsV [p]) :: At o [.slice s'.a s'.len s'.cap] :: R) A3 := hA3
 refine OutS.closeH (s := s') (by simp only [j1,h1,List.length_append];rfl) (fun q => ?_) ?_
 ·have := j2 q;simp [intsV] at this
 ·exact (hA3.pick 2 rfl).sub (List.Sublist.cons_cons _ (List.Sublist.cons_cons _ (List.sublist_cons_self _ _)))
theorem or_front {q i : Int} (h0 : 0 ≤ q) (h1 : q < 67108864) (h2 : 0 ≤ i) (h3 : i < 512) : bits .or .i64 (IntKind.wrap .i64 (q * 2 ^ (9 : Nat))) i = q * 512 + i := by
 obtain ⟨q,rfl⟩ := Int.eq_ofNat_of_zero_le h0
 obtain ⟨i,rfl⟩ := Int.eq_ofNat_of_zero_le h2
 rw [show ((q : Int) * 2 ^ (9 : Nat)) = ((q * 512 : Nat) : Int) by simp,w64 (by omega) (by omega)]
 have e : bits .or .i64 ((q * 512 : Nat) : Int) ((i : Nat) : Int) = IntKind.wrap .i64 ((BitVec.ofInt 64 ((q * 512 : Nat) : Int) ||| BitVec.ofInt 64 ((i : Nat) : Int)).toNat : Int) := rfl
 rw [e,BitVec.toNat_or,BitVec.ofInt_natCast,BitVec.ofInt_natCast,BitVec.toNat_ofNat,BitVec.toNat_ofNat,Nat.mod_eq_of_lt (by omega),Nat.mod_eq_of_lt (by omega)]
 have := Nat.shiftLeft_add_eq_or_of_lt (b := i) (i := 9) (by omega) q
 rw [Nat.shiftLeft_eq] at this
 rw [show q * 512 = q * 2 ^ 9 by rfl,← this,w64 (by omega) (by omega)]
 omega
def bdP : Nat→Int
 | 0 => 1
 | 1 => 256
 | 2 => 131072
 | _ => 67108864
structure PagesOK (lf : Int→Option Lf) (d : Nat) (q : Int) (ps : List Int) : Prop where
 rise : ps.Pairwise (· < ·)
 mem : ∀ p,p ∈ ps ↔ (lf p ≠ none ∧ (0 ≤ p ∧ p < 34359738368) ∧ preP p d = q)
structure PagesL (lf : Int→Option Lf) (d : Nat) (q : Int) (v : Int) (ps : List Int) : Prop where
 rise : ps.Pairwise (· < ·)
 mem : ∀ p,p ∈ ps ↔ (lf p ≠ none ∧ (0 ≤ p ∧ p < 34359738368) ∧ preP p d = q ∧ atP p d < v)
theorem preP_lt {a c : Int} (ha : 0 ≤ a ∧ a < 34359738368) (hc : 0 ≤ c ∧ c < 34359738368) {d : Nat} (hd : d ≤ 4) (h : preP a d < preP c d) : a < c := by
 obtain rfl | rfl | rfl | rfl | rfl : d = 0 ∨ d = 1 ∨ d = 2 ∨ d = 3 ∨ d = 4 := by omega
 all_goals simp only [preP] at h
 all_goals omega
theorem PagesL.step {d : Nat} {q v : Int} {ps ps' : List Int} (hd : d < 4) (h : PagesL lf d q v ps) (h' : PagesOK lf (d + 1) (q * 512 + v) ps') (hv : 0 ≤ v ∧ v < 512) : PagesL lf d q (v + 1) (ps ++ ps') := by
 refine ⟨List.pairwise_append.2 ⟨h.rise,h'.rise,fun a ha c hc => ?_⟩,fun p => ?_⟩
 ·obtain ⟨_,a1,a2,a3⟩ := (h.mem a).1 ha
  obtain ⟨_,c1,c2⟩ := (h'.mem c).1 hc
  refine preP_lt a1 c1 (d := d + 1) (by omega) ?_
  rw [(preP_succ a1 hd).1,c2,a2]
  omega
 ·rw [List.mem_append,h.mem,h'.mem]
  constructor
  ·rintro (⟨h1,h2,h3,h4⟩ | ⟨h1,h2,h3⟩)
   ·exact ⟨h1,h2,h3,by omega⟩
   ·obtain ⟨e1,e2,e3,_⟩ := preP_succ h2 hd
    rw [e1] at h3
    exact ⟨h1,h2,by omega,by omega⟩
  ·rintro ⟨h1,h2,h3,h4⟩
   obtain ⟨e1,e2,e3,_⟩ := preP_succ h2 hd
   by_cases e : atP p d < v
   ·exact .inl ⟨h1,h2,h3,e⟩
   ·exact .inr ⟨h1,h2,by rw [e1,h3];omega⟩
theorem PagesL.all {d : Nat} {q v : Int} {ps : List Int} (hd : d < 4) (h : PagesL lf d q v ps) (hv : v = 512 ∨ d = 0 ∧ v = 256) : PagesOK lf d q ps := by
 refine ⟨h.rise,fun p => ?_⟩
 rw [h.mem]
 constructor
 ·rintro ⟨h1,h2,h3,_⟩;exact ⟨h1,h2,h3⟩
 ·rintro ⟨h1,h2,h3⟩
  obtain ⟨_,e2,e3,e4,_⟩ := preP_succ h2 hd
  refine ⟨h1,h2,h3,?_⟩
  rcases hv with rfl | ⟨hd0,rfl⟩
  ·exact e3
  ·exact e4 hd0
theorem PagesL.zero {d : Nat} {q : Int} (hd : d < 4) : PagesL lf d q 0 [] := by
 refine ⟨List.Pairwise.nil,fun p => ?_⟩
 simp only [List.not_mem_nil,false_iff]
 rintro ⟨_,h2,_,h4⟩
 have := (preP_succ h2 hd).2.1
 omega
set_option maxRecDepth 100000 in
set_option maxHeartbeats 2000000 in
theorem walk_spec {bx : Int} {pb pt : Option Addr} (hT : TabW W root tab lf) (hhas : ∀ k q f,tab k q = some f→hasF fr hs f = true) : ∀ (e d : Nat) (q f : Int) (out : List Int) (A : AH) (Q : AH→Prop),d + e = 4→1 ≤ e→0 ≤ q→q < bdP d→Own (RamW r fr hs W :: OutS o out :: R) A→tab d q = some f →
  out.Pairwise (· < ·)→(∀ x ∈ out,(0 ≤ x ∧ x < 34359738368) ∧ preP x d < q)→(∀ ps A',PagesOK lf d q ps→Own (RamW r fr hs W :: OutS o (out ++ ps) :: R) A'→Q A') →
  qea_A e (some ⟨r,0,none⟩) pb pt bx f e q (some ⟨o,0,none⟩) Q A := by
 intro e
 induction e with
 | zero => intro d q f out A Q _ h1;omega
 | succ e ih =>
  intro d q f out A Q hde _ hq0 hq1 h ht hr1 hr2 hk
  have hd : d < 4 := by omega
  have hf := hhas _ _ _ ht
  unfold qea_A qea_G
  refine ⟨fun x m h' => ∃ (v : Nat) (ps : List Int),x = v ∧ 512 - v = m ∧ v ≤ 512 ∧ PagesL lf d q v ps ∧ Own (RamW r fr hs W :: OutS o (out ++ ps) :: R) h',⟨_,0,[],rfl,rfl,by omega,PagesL.zero hd,by rw [List.append_nil];exact h⟩,?_⟩
  intro x m A1 ⟨v,ps,i1,i2,i3,i4,h1⟩
  subst i1 i2
  have rise : ∀ {u : Int} {ps : List Int},PagesL lf d q u ps→(out ++ ps).Pairwise (· < ·) := fun {u ps} hL => List.pairwise_append.2 ⟨hr1,hL.rise,fun a ha c hc => by
   obtain ⟨_,c1,c2,_⟩ := (hL.mem c).1 hc
   obtain ⟨a1,a2⟩ := hr2 a ha
   exact preP_lt a1 c1 (d := d) (by omega) (by omega)⟩
  have rng : ∀ x ∈ out ++ ps,0 ≤ x ∧ x < 34359738368 := fun x hx => by
   rcases List.mem_append.1 hx with hx | hx
   ·exact (hr2 x hx).1
   ·exact ((i4.mem x).1 hx).2.1
  refine bsel_in (fun c => ?_) fun c => ?_
  rotate_left
  ·have c : v = 512 := by simp at c;omega
   exact hk ps A1 (i4.all hd (.inl (by omega))) h1
  have c : v < 512 := by simp at c;omega
  refine ⟨fun h' => ∃ ps',PagesOK lf (d + 1) (q * 512 + v) ps' ∧ Own (RamW r fr hs W :: OutS o (out ++ ps ++ ps') :: R) h',?_,?_⟩
  ·intro A2 ⟨ps',k1,k2⟩
   refine ⟨512 - (v + 1),by omega,v + 1,ps ++ ps',by rw [w64] <;> omega,rfl,by omega,i4.step hd k1 ⟨by omega,by omega⟩,?_⟩
   rw [← List.append_assoc];exact k2
  refine ⟨fun h' => h' = A1 ∧ (d = 0→v < 256),?_,?_⟩
  rotate_left
  ·refine bsel_in (fun g => ?_) fun g => ?_
   ·have g : d = 0 := by simp at g;omega
    refine bsel_in (fun g2 => ?_) fun g2 => ⟨rfl,fun _ => by simp at g2;omega⟩
    have g2 : 256 ≤ v := by simp at g2;omega
    rcases Nat.lt_or_ge 256 v with g3 | g3
    ·refine hk ps A1 ?_ h1
     refine ⟨i4.rise,fun p => ?_⟩
     rw [i4.mem]
     constructor
     ·rintro ⟨z1,z2,z3,_⟩;exact ⟨z1,z2,z3⟩
     ·rintro ⟨z1,z2,z3⟩
      obtain ⟨_,_,_,e4,_⟩ := preP_succ z2 hd
      exact ⟨z1,z2,z3,by have := e4 g;omega⟩
    ·exact hk ps A1 (i4.all hd (.inr ⟨g,by omega⟩)) h1
   ·have g : d ≠ 0 := by simp at g;omega
    exact ⟨rfl,fun z => absurd z g⟩
  intro A2 ⟨e2,hv2⟩
  subst e2
  have hq2 : q < 67108864 ∧ q * 512 + v < bdP (d + 1) ∨ d = 3 := by
   obtain rfl | rfl | rfl | rfl : d = 0 ∨ d = 1 ∨ d = 2 ∨ d = 3 := by omega
   ·left;have := hv2 rfl;simp only [bdP] at hq1 ⊢;omega
   ·left;simp only [bdP] at hq1 ⊢;omega
   ·left;simp only [bdP] at hq1 ⊢;omega
   ·right;rfl
  have hq3 : q < 67108864 := by
   rcases hq2 with z | z
   ·exact z.1
   ·subst z;exact hq1
  rw [or_front hq0 hq3 (by omega) (by omega)]
  refine get_head h1 hf ⟨by omega,by omega⟩ fun A3 h3 => ?_
  have nil : (∀ p,0 ≤ p→p < 34359738368→preP p (d + 1) = q * 512 + v→lf p = none)→∃ ps',PagesOK lf (d + 1) (q * 512 + v) ps' ∧ Own (RamW r fr hs W :: OutS o (out ++ ps ++ ps') :: R) A3 := fun hno => by
   refine ⟨[],⟨List.Pairwise.nil,fun p => ?_⟩,by rw [List.append_nil];exact h3⟩
   simp only [List.not_mem_nil,false_iff]
   rintro ⟨z1,z2,z3⟩
   exact z1 (hno p z2.1 z2.2 z3)
  rcases Nat.lt_or_ge d 3 with d3 | d3
  ·have hw := hT.words d q f d3 ht v (by omega) (by omega) (fun z => by have := hv2 z;omega)
   cases hn : tab (d + 1) (q * 512 + v) with
   | none =>
    rw [hn] at hw
    have hw : W f v = 0 := hw
    rw [hw]
    refine bsel_t rfl (nil fun p p0 p1 hp => ?_)
    cases hx : lf p with
    | none => rfl
    | some y => exact absurd (hp ▸ hn) (hT.chain ⟨p0,p1⟩ hx (d + 1) (by omega))
   | some g =>
    rw [hn] at hw
    obtain ⟨w1,w2,_,_⟩ := entI_bits hw (hT.range _ _ _ hn)
    rw [w1,w2]
    refine bsel_f rfl (bsel_f (by simp;omega) ?_)
    rw [w64 (by omega) (by omega),show ((e + 1 : Nat) : Int) - 1 = (e : Int) by omega]
    refine ih (d + 1) (q * 512 + v) g (out ++ ps) A3 _ (by omega) (by omega) (by omega) ?_ h3 hn (rise i4) (fun x hx => ⟨rng x hx,?_⟩) fun ps' A4 k1 k2 => ⟨ps',k1,k2⟩
    ·rcases hq2 with z | z
     ·exact z.2
     ·omega
    ·rcases List.mem_append.1 hx with hx | hx
     ·obtain ⟨x1,x2⟩ := hr2 x hx
      obtain ⟨e1,e2,e3,_⟩ := preP_succ x1 hd
      rw [e1];omega
     ·obtain ⟨_,x1,x2,x3⟩ := (i4.mem x).1 hx
      obtain ⟨e1,e2,e3,_⟩ := preP_succ x1 hd
      rw [e1];omega
  ·have d3 : d = 3 := by omega
   subst d3
   have e0 : e = 0 := by omega
   subst e0
   have hw := hT.leaves q f ht v (by omega) (by omega)
   have h4 : ∀ p : Int,preP p (3 + 1) = p := fun p => rfl
   cases hn : lf (q * 512 + v) with
   | none =>
    rw [hn] at hw
    have hw : W f v = 0 := hw
    rw [hw]
    refine bsel_t rfl (nil fun p p0 p1 hp => ?_)
    rw [h4] at hp
    rw [hp];exact hn
   | some y =>
    rw [hn] at hw
    rw [(leafI_bits hw (hT.rangeL _ _ hn)).1]
    refine bsel_f rfl (bsel_t rfl ?_)
    have hlen := rise_len (N := 34359738368) (out ++ ps) 0 (rise i4) rng
    have hq1 : q < 67108864 := hq1
    have hlast : ((out ++ ps).length : Int) < 34359738368 := by
     have h5 : (out ++ ps ++ [q * 512 + v]).Pairwise (· < ·) := List.pairwise_append.2 ⟨rise i4,by simp,fun a ha c hc => by
      simp only [List.mem_singleton] at hc
      subst hc
      rcases List.mem_append.1 ha with ha | ha
      ·obtain ⟨x1,x2⟩ := hr2 a ha
       obtain ⟨e1,e2,e3,_⟩ := preP_succ x1 hd
       have : preP a (3 + 1) = a := rfl
       omega
      ·obtain ⟨_,x1,x2,x3⟩ := (i4.mem a).1 ha
       obtain ⟨e1,e2,e3,_⟩ := preP_succ x1 hd
       have : preP a (3 + 1) = a := rfl
       omega⟩
     have := rise_len (N := 34359738368) _ 0 h5 fun x hx => by
      rcases List.mem_append.1 hx with hx | hx
      ·exact rng x hx
      ·simp only [List.mem_singleton] at hx;subst hx;omega
     simp only [List.length_append,List.length_singleton] at this ⊢
     omega
    refine see_spec h3.swap hlast fun A4 h4' => ⟨[q * 512 + v],⟨by simp,fun p => ?_⟩,h4'.swap⟩
    rw [h4,List.mem_singleton]
    constructor
    ·rintro rfl;exact ⟨by rw [hn];simp,⟨by omega,by omega⟩,rfl⟩
    ·rintro ⟨_,_,z⟩;exact z
theorem Pages_spec {bx : Int} {pb pt : Option Addr} {Q : Sl→AH→Prop} (h : Own (RamW r fr hs W :: R) A) (hT : TabW W root tab lf) (hhas : ∀ k q f,tab k q = some f→hasF fr hs f = true)
  (hk : ∀ s ps A',s.len = ps.length→(s.a = none→ps = [])→ps.Pairwise (· < ·)→(∀ p,p ∈ ps ↔ (lf p ≠ none ∧ 0 ≤ p ∧ p < 34359738368))→Own (RamW r fr hs W :: SlO s 1 (intsV ps) :: R) A'→Q s A') : qeb_A (some ⟨r,0,none⟩) pb pt bx root Q A := by
 unfold qeb_A qeb_G
 refine new_C (cs := [.slice none 0 0]) h fun b1 A1 h1 => ?_
 have h1 : Own (OutS b1 [] :: RamW r fr hs W :: R) A1 := h1.imp fun B hB => ⟨Sl.nil,⟨rfl,fun _ => rfl⟩,B,fun _ => none,fun _ => .inr rfl,Sub.refl _,(fun _ _ e => nomatch e),hB,fun _ => none,fun _ => none,fun _ => .inr rfl,Sub.refl _,Sub.refl _,SlO.nil,trivial⟩
 refine ⟨4,walk_spec hT hhas 4 0 0 root [] A1 _ (by omega) (by omega) (by omega) (by simp [bdP]) h1.swap ((hT.root 0 root).2 ⟨rfl,rfl⟩) List.Pairwise.nil (by simp) fun ps A2 k1 h2 => ?_⟩
 obtain ⟨s,⟨s1,s2⟩,h2⟩ := OutS.openH h2.swap
 rw [List.nil_append] at s1 s2 h2
 refine ld_S (i := 0) h2 rfl rfl (hk s ps A2 s1 s2 k1.rise (fun p => ?_) (h2.tail.swap))
 rw [k1.mem]
 constructor
 ·rintro ⟨z1,z2,_⟩;exact ⟨z1,z2⟩
 ·rintro ⟨z1,z2⟩;exact ⟨z1,z2,rfl⟩
end Go.Dn
