/- slices.SortFunc of ranges as an entry. -/
import Derived.Test.YtfnkdpmbpgffbaaGreatDnZ
import Derived.WalkKit
import Derived.Shelf.SlicesG.Cmp
import Derived.Shelf.Lay
import Derived.Ground.SlsfProg
import Derived.Ground.SlgcProg
import Derived.Test.YtfnkdpmbpgffbaaGreatProg
namespace Go.Dn
open Go Go.RowKit Go.Shelf Go.Proofs Go.Lib Go.Sort
shelf_lay_g SlLaysF0.n6 Slsf 6 at Tryz 194 as sortRange_l1
shelf_lay_g SlLaysC2.n5 Slgc 5 at Tryz 196 as sortRange_l2
set_option maxHeartbeats 1000000 in
theorem sortRange_cmp (x y:Int × Int) (W:World):Calls Tryz.prog 195 #[.agg (rgE x).toArray,.agg (rgE y).toArray] W λe w'=>e = .returned (.int .i64 (aCS x y))/\∃ q os',w'=grow (W.drewN q) os':=by
 have hcon:=λW'=>AnyG.cmp_Compare_int sortRange_l2 x.1 y.1 W'
 change ∀ W',Calls Tryz.prog 196 _ _ _ at hcon
 unfold aCS rgE;generalize Lib.compareInt x.1 y.1=r at hcon ⊢
 go_enter Tryz.func195,Tryz.ntmps195
 go_wp2_with (go_at_call 196;refine (hcon _).mono ?_;rintro e w' ⟨rfl,rfl⟩)
 go_ret
 exact ⟨rfl,0,_,by rw [alloc_eq_grow,alloc_eq_grow,grow_grow];rfl⟩
set_option maxRecDepth 100000 in
theorem aBC {W:aX [.c .s,.fn 195 [] []] EnR} (b:W=λs K _=>soA rgE (ltOf aCS) 2 s (K (.tuple #[]))):cL Tryz.prog 194 (y5 (bC [.c .s,.fn 195 [] []] W)):=
 aKs sortRange_l1 Tryz.isAgg84 Tryz.sizeOf84 (by decide) (λ_=>rfl) (λx v a=>by simp [rgE] at a;rcases a with rfl | rfl<;>rfl) rgSwo rfl (enters_of Tryz.func195 (by kernel_rfl) rfl) sortRange_cmp b
end Go.Dn
