/- slices.SortFunc of ranges as an entry. -/
import Derived.Test.YtmfmhmipcdgikaaGreatDnZ
import Derived.WalkKit
import Derived.Shelf.SlicesG.Cmp
import Derived.Shelf.Lay
import Derived.Ground.SlsfProg
import Derived.Ground.SlgcProg
import Derived.Test.YtmfmhmipcdgikaaGreatProg
namespace Go.Dn
open Go Go.RowKit Go.Shelf Go.Proofs Go.Lib Go.Sort
shelf_lay_g SlLaysF0.n6 Slsf 6 at Tryz 182 as sortRange_l1
shelf_lay_g SlLaysC2.n5 Slgc 5 at Tryz 184 as sortRange_l2
set_option maxHeartbeats 1000000 in
theorem sortRange_cmp (x y:Int × Int) (W:World):Calls Tryz.prog 183 #[.agg (uD x).toArray,.agg (uD y).toArray] W λe w'=>e = .returned (.int .i64 (aBd x y))/\∃ q os',w'=grow (W.drewN q) os':=by
 have hcon:=λW'=>AnyG.cmp_Compare_int sortRange_l2 x.1 y.1 W'
 change ∀ W',Calls Tryz.prog 184 _ _ _ at hcon
 unfold aBd uD;generalize Lib.compareInt x.1 y.1=r at hcon ⊢
 go_enter Tryz.func183,Tryz.ntmps183
 go_wp2_with (go_at_call 184;refine (hcon _).mono ?_;rintro e w' ⟨rfl,rfl⟩)
 go_ret
 exact ⟨rfl,0,_,by rw [alloc_eq_grow,alloc_eq_grow,grow_grow];rfl⟩
set_option maxRecDepth 100000 in
theorem aAv {W:aW [.c .s,.fn 183 [] []] EnR} (hW:W=λs K _=>soA uD (ltOf aBd) 2 s (K (.tuple #[]))):bA Tryz.prog 182 (k8 (bB [.c .s,.fn 183 [] []] W)):=
 aIn sortRange_l1 Tryz.isAgg30 Tryz.sizeOf30 (by decide) (λ_=>rfl) (λx v hv=>by simp [uD] at hv;rcases hv with rfl | rfl<;>rfl) rgSwo rfl (enters_of Tryz.func183 (by kernel_rfl) rfl) sortRange_cmp hW
end Go.Dn
