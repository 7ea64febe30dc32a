/- slices.SortFunc of uses as an entry. -/
import Derived.Test.YtaafkchlmndbkaaGreatUseD
import Derived.WalkKit
import Derived.StillTailTactics
import Derived.Shelf.SlicesG.Cmp
import Derived.Shelf.Lay
import Derived.Ground.SlsfProg
import Derived.Ground.SlgcProg
import Derived.Test.YtaafkchlmndbkaaGreatProg
namespace Go.Dn
open Go Go.RowKit Go.Shelf Go.Proofs Go.Lib Go.Sort
shelf_lay_g SlLaysF0.n6 Slsf 6 at Tryz 23 as sortUse_l1
shelf_lay_g SlLaysC2.n5 Slgc 5 at Tryz 26 as sortUse_l2
set_option maxRecDepth 100000 in
set_option maxHeartbeats 2000000 in
theorem or_int (b : Nat) (p q r : Int) (W : World) (h0 : W.cell? ⟨b,0,none⟩ = some (.int .i64 p)) (h1 : W.cell? ⟨b,1,none⟩ = some (.int .i64 q)) (h2 : W.cell? ⟨b,2,none⟩ = some (.int .i64 r)) :
  Calls Tryz.prog 25 #[.slice (some ⟨b,0,none⟩) 3 3] W fun e w' => e = .returned (.int .i64 (if p ≠ 0 then p else if q ≠ 0 then q else r)) ∧ w' = W := by
 go_enter Tryz.func25,Tryz.ntmps25
 go_wp2
 go_loopw [8] (fun i wr => wr = W ∧ ∃ k : Nat,k ≤ 3 ∧ i = .int .i64 (k : Int) ∧ (1 ≤ k→p = 0) ∧ (2 ≤ k→q = 0) ∧ (3 ≤ k→r = 0))
  (fun i _ => 3 - (RowKit.intOf i).toNat)
 case atStart => exact ⟨rfl,0,by omega,rfl,by omega,by omega,by omega⟩
 case round =>
  obtain ⟨rfl,k,hk,rfl,z0,z1,z2⟩ := hrel
  obtain rfl | rfl | rfl | rfl : k = 0 ∨ k = 1 ∨ k = 2 ∨ k = 3 := by omega
  ·by_cases e : p = 0
   ·subst e
    go_wp2
    go_roundw
    case rel => exact ⟨trivial,1,by omega,rfl,by simp,by simp,by simp⟩
    case measure => decide
   ·go_wp2
    go_ret
    exact ⟨by first | simp [e] | simp,rfl⟩
  ·have e0 := z0 (by omega)
   subst e0
   by_cases e : q = 0
   ·subst e
    go_wp2
    go_roundw
    case rel => exact ⟨trivial,2,by omega,rfl,by simp,by simp,by simp⟩
    case measure => decide
   ·go_wp2
    go_ret
    exact ⟨by first | simp [e] | simp,rfl⟩
  ·have e0 := z0 (by omega)
   have e1 := z1 (by omega)
   subst e0 e1
   by_cases e : r = 0
   ·subst e
    go_wp2
    go_roundw
    case rel => exact ⟨trivial,3,by omega,rfl,by simp,by simp,by simp⟩
    case measure => decide
   ·go_wp2
    go_ret
    exact ⟨by simp,rfl⟩
  ·have e0 := z0 (by omega)
   have e1 := z1 (by omega)
   have e2 := z2 (by omega)
   subst e0 e1 e2
   go_wp2
   go_ret
   exact ⟨by simp,rfl⟩
theorem cell_here (W : World) (a b : Obj) (cs : Array Value) (k : Nat) : ((((W.alloc a).alloc b).alloc (.cells cs 3)).drew).cell? ⟨W.heap.size + 1 + 1,k,none⟩ = cs[k]? := by
 unfold World.cell?
 have e : ((((W.alloc a).alloc b).alloc (.cells cs 3)).drew).heap[W.heap.size + 1 + 1]? = some (.cells cs 3) := by
  show (((W.heap.push a).push b).push _)[W.heap.size + 1 + 1]? = _
  rw [Array.getElem?_push,if_pos (by simp)]
 simp only [e]
 rfl
theorem or_here (p q r : Int) (W : World) (a b : Obj) : Calls Tryz.prog 25 #[.slice (some ⟨W.heap.size + 1 + 1,0,none⟩) 3 3] (((W.alloc a).alloc b).alloc (.cells #[.int .i64 p,.int .i64 q,.int .i64 r] 3)).drew fun e w' => e = .returned (.int .i64 (if p ≠ 0 then p else if q ≠ 0 then q else r)) ∧ w' = (((W.alloc a).alloc b).alloc (.cells #[.int .i64 p,.int .i64 q,.int .i64 r] 3)).drew :=
 or_int _ p q r _ (cell_here _ _ _ _ _) (cell_here _ _ _ _ _) (cell_here _ _ _ _ _)
theorem still_tail2 {P : Program} {id : Nat} {Q : Exit→Act→World→Prop} {a : Act} {w : World} {l : List Oper} (n : Nat) (hm : P.follows .mixedOrders = true) (hB : Region.lexTailB .any l.toArray n = true)
  (h : ∀ w2,w2 = w.drew→wpStill P l.toArray w2 (fun a' => wpList P l.toArray Q (l.drop n) a' w2) (l.take n) a) : (Code.region id l.toArray true).wp P Q a w := wp_region_still_tail n hm hB (h _ rfl)
theorem box_cells (W : World) (x y : Us) (w2 : World) (h : w2 = ((W.alloc (.cells (useE x).toArray 26)).alloc (.cells (useE y).toArray 26)).drew) :
  w2.cell? ⟨W.heap.size,0,none⟩ = some (.int .i64 x.1) ∧ w2.cell? ⟨W.heap.size,1,none⟩ = some (.int .i64 x.2.1) ∧ w2.cell? ⟨W.heap.size,2,none⟩ = some (.int .i64 x.2.2) ∧
  w2.cell? ⟨W.heap.size + 1,0,none⟩ = some (.int .i64 y.1) ∧ w2.cell? ⟨W.heap.size + 1,1,none⟩ = some (.int .i64 y.2.1) ∧ w2.cell? ⟨W.heap.size + 1,2,none⟩ = some (.int .i64 y.2.2) := by
 subst h
 have e : ((W.alloc (.cells (useE x).toArray 26)).alloc (.cells (useE y).toArray 26)).drew.heap = (W.heap.push (.cells (useE x).toArray 26)).push (.cells (useE y).toArray 26) := rfl
 have e1 : ((W.heap.push (.cells (useE x).toArray 26)).push (.cells (useE y).toArray 26))[W.heap.size]? = some (.cells (useE x).toArray 26) := by
  rw [Array.getElem?_push,if_neg (by simp),Array.getElem?_push,if_pos rfl]
 have e2 : ((W.heap.push (.cells (useE x).toArray 26)).push (.cells (useE y).toArray 26))[W.heap.size + 1]? = some (.cells (useE y).toArray 26) := by
  rw [Array.getElem?_push,if_pos (by simp)]
 unfold World.cell?
 rw [e]
 simp only [e1,e2]
 exact ⟨rfl,rfl,rfl,rfl,rfl,rfl⟩
set_option maxRecDepth 100000 in
set_option maxHeartbeats 4000000 in
theorem sortUse_cmp (hm : Tryz.prog.follows .mixedOrders = true) (x y : Us) (W : World) : Calls Tryz.prog 24 #[.agg (useE x).toArray,.agg (useE y).toArray] W fun e w' => e = .returned (.int .i64 (useCf x y)) ∧ ∃ q os',w' = grow (W.drewN q) os' := by
 have hcon := fun a b W' => AnyG.cmp_Compare_int sortUse_l2 a b W'
 change ∀ a b W',Calls Tryz.prog 26 _ _ _ at hcon
 have hbx := box_cells W x y
 unfold useE at hbx ⊢
 go_enter Tryz.func24,Tryz.ntmps24
 go_wp2
 refine still_tail2 15 hm (by kernel_rfl) fun w2 hw2 => ?_
 obtain ⟨c1,c2,c3,c4,c5,c6⟩ := hbx w2 (by rw [hw2])
 simp only [List.take_succ_cons,List.take_zero,List.drop_succ_cons,List.drop_zero]
 repeat still_step
 still_call (hcon _ _ _)
 repeat still_step
 still_call (hcon _ _ _)
 repeat still_step
 still_call (hcon _ _ _)
 refine wpStill_nil ?_
 clear hbx hcon c1 c2 c3 c4 c5 c6
 have hor := fun p q r => or_here p q r W (.cells #[.int .i64 x.1,.int .i64 x.2.1,.int .i64 x.2.2] 26) (.cells #[.int .i64 y.1,.int .i64 y.2.1,.int .i64 y.2.2] 26)
 change ∀ p q r,Calls Tryz.prog 25 _ _ _ at hor
 go_wp2_with (go_at_call 25;refine (hor _ _ _).mono ?_;rintro e w' ⟨rfl,rfl⟩)
 all_goals
  go_ret
  refine ⟨?_,1,_,by rw [alloc_eq_grow,alloc_eq_grow,alloc_eq_grow,grow_grow,grow_grow];rfl⟩
  show Ending.returned (Value.int .i64 _) = _
  unfold useCf
  simp_all
set_option maxRecDepth 100000 in
theorem sortUse_ok (hm : Tryz.prog.follows .mixedOrders = true) {W : ArS [.c .s,.fn 24 [] []] EnR} (hW : W = fun s K _ => soA useE (ltOf useCf) 3 s (K (.tuple #[]))) : EntryOK Tryz.prog 23 (upE (enS [.c .s,.fn 24 [] []] W)) :=
 sort_ok sortUse_l1 Tryz.isAgg26 Tryz.sizeOf26 (by decide) (fun _ => rfl) (fun x v hv => by simp [useE] at hv;rcases hv with rfl | rfl | rfl <;> rfl) useSwo rfl (enters_of Tryz.func24 (by kernel_rfl) rfl) (sortUse_cmp hm) hW
end Go.Dn
