/- KernelUps: a fault goes to the entry that was said, and back. -/
import Derived.Test.YtmfmhmipcdgikaaGreatP
import Derived.Test.YtmfmhmipcdgikaaGreatOpenC
import Derived.Test.YtmfmhmipcdgikaaGreatOpenK
import Derived.Test.YtmfmhmipcdgikaaGreatRows
import Derived.Lib.SmallJoins
namespace Go.Proofs.YtmfmhmipcdgikaaGreat
open Go.Joins Go.ChangeShapes Go.WideShapes Go.ChangeAt Go.RowKit Go.Dn
theorem Tryz.own:ownKnob Tryz.prog.godebug=none:=by kernel_rfl
theorem Tryz.laidOut:laidOutB Tryz.prog=true:=by kernel_rfl
theorem Tryz.mixedOK:Tryz.prog.follows .mixedOrders=true:=Checked.mixed Tryz.checked
theorem ups_any (w:World) (en:Int) (h_en:(Lit.int .u64 en).wf=true) (ad:Int) (h_ad:(Lit.int .u64 ad).wf=true) (ra:Int) (h_ra:(Lit.int .u64 ra).wf=true) (rb:Int) (h_rb:(Lit.int .u64 rb).wf=true) (rc:Int) (h_rc:(Lit.int .u64 rc).wf=true) (rd:Int) (h_rd:(Lit.int .u64 rd).wf=true) (wr:Bool) :
  Calls Tryz.prog 3 #[.int .u64 en,.int .u64 ad,.agg #[.int .u64 ra,.int .u64 rb,.int .u64 rc,.int .u64 rd],.bool wr] w (Tells (.bool true) w):=by
 have hE:qfu_A en ad ra rb rc rd wr (fun r0 A=>Value.bool r0=Value.bool true∧Dn.Own [Was w.heap] A) (allA w.heap):=KernelUps_spec (own_all w.heap) (u64_rng h_en) (u64_rng h_ad) (four_u (u64_rng h_ra) (u64_rng h_rb) (u64_rng h_rc) (u64_rng h_rd)) (fun A h=>⟨rfl,h⟩)
 have hok:=qfu_ok Tryz.mixedOK
 obtain ⟨F,hF⟩:∃ F,F=qfu_A:=⟨_,rfl⟩
 rw [←hF] at hE hok
 have hc:=callA hok [.int .u64 en,.int .u64 ad,.agg #[.int .u64 ra,.int .u64 rb,.int .u64 rc,.int .u64 rd],.bool wr] (fun v h'=>v=Value.bool true∧KeptH w.heap h') w (KA:=fun v A=>v=Value.bool true∧Dn.Own [Was w.heap] A) hE (fun v A' h' s h=>lawQ s h)
 exact hc.mono fun e w' h=>tells_of h
set_option maxRecDepth 100000 in
theorem ups_lifted (os:Os) (started:os.Started) (H:Type) (enc:TypeId × Value→H) :
  ReturnsInHanded {} Tryz.checked os 3 .any (Rows.kernelUpsSpec.pre6 enc Tryz.prog Tryz.f3 Rows.kernelUpsRow.domain false) (Rows.kernelUpsSpec.post enc Tryz.prog Tryz.f3 false true false false):=by
 refine returnsInHanded_of_change (C:=Tryz.checked) Tryz.own started (by kernel_rfl) Tryz.func3
  (ChangeSpec.witness6 (enc:=enc) (C:=Tryz.checked) false ⟨#[],#[.int .u64 0,.int .u64 0,.agg #[.int .u64 0,.int .u64 0,.int .u64 0,.int .u64 0],.bool false],[]⟩ 8 (by kernel_rfl) (by kernel_rfl) (by kernel_rfl) (by kernel_rfl)) ?_
 intro W base args ds gs before hval0 hW hcnd _
 have hval:∀ (j:Nat) t v,Tryz.f3.params[j]? = some t→args[j]? = some v→Value.okWide Tryz.prog W .any base t v:=hval0
 have hW':=hW
 obtain ⟨p,q,hA0,hV,rfl,hfz,hnd⟩:=hW
 have hA:DataW.TrodAll enc Tryz.prog W 0 (fun _=>true) true Tryz.f3.params.toList args.toList ds p:=hA0
 rw [Tryz.params3] at hA hval
 have hAk:=hA
 obtain ⟨args⟩:=args
 obtain ⟨v0,as0,d0,ds0,p0,q0,e0,rfl,rfl,h0,g0⟩:=trodAll_cons hA
 obtain ⟨v1,as1,d1,ds1,p1,q1,e1,rfl,rfl,h1,g1⟩:=trodAll_cons g0
 obtain ⟨v2,as2,d2,ds2,p2,q2,e2,rfl,rfl,h2,g2⟩:=trodAll_cons g1
 obtain ⟨v3,as3,d3,ds3,p3,q3,e3,rfl,rfl,h3,g3⟩:=trodAll_cons g2
 obtain ⟨ee,rfl,rfl⟩:=trodAll_nil g3
 subst ee
 subst e3
 subst e2
 subst e1
 have e0:args=_:=e0
 subst e0
 obtain ⟨rfl,rfl⟩:=trodVars_none hV
 have hlt:=hW'.lt
 obtain ⟨fu0,hf0⟩:=h0
 obtain ⟨en,rfl⟩:=okWide_int Tryz.underlying22 (hval 0 22 v0 rfl rfl)
 have h_en:(Lit.int .u64 en).wf=true:=by
  obtain ⟨⟨n,e,hw⟩,_⟩:AllOK [.i .u64] [_]:=flat_ok 9 22 _ fu0 _ _ (by kernel_rfl) hf0
  cases e;exact hw
 obtain ⟨fu1,hf1⟩:=h1
 obtain ⟨ad,rfl⟩:=okWide_int Tryz.underlying22 (hval 1 22 v1 rfl rfl)
 have h_ad:(Lit.int .u64 ad).wf=true:=by
  obtain ⟨⟨n,e,hw⟩,_⟩:AllOK [.i .u64] [_]:=flat_ok 9 22 _ fu1 _ _ (by kernel_rfl) hf1
  cases e;exact hw
 obtain ⟨c2,rfl,_⟩:=okWide_array Tryz.underlying23 (hval 2 23 v2 rfl rfl)
 obtain ⟨fu2,hf2⟩:=h2
 have ok2:AllOK [.i .u64,.i .u64,.i .u64,.i .u64] c2.toList:=flat_ok 9 23 _ fu2 _ _ (by kernel_rfl) hf2
 obtain ⟨c2⟩:=c2
 obtain ⟨w2_0,o2_0,w2_1,o2_1,w2_2,o2_2,w2_3,o2_3,rfl⟩:=allOK_4 ok2
 obtain ⟨ra,rfl,h_ra⟩:=o2_0
 obtain ⟨rb,rfl,h_rb⟩:=o2_1
 obtain ⟨rc,rfl,h_rc⟩:=o2_2
 obtain ⟨rd,rfl,h_rd⟩:=o2_3
 obtain ⟨fu3,hf3⟩:=h3
 obtain ⟨wr,rfl⟩:=okWide_bool Tryz.underlying4 (hval 3 4 v3 rfl rfl)
 refine (ups_any W en h_en ad h_ad ra h_ra rb h_rb rc h_rc rd h_rd wr).mono fun e W' ⟨he,hb⟩=>?_
 subst he
 refine ⟨_,rfl,_,_,_,[],_,[],hW',trodAll_mk1 (shut_bool Tryz.underlying4 true),allBelow Tryz.laidOut hb (by kernel_rfl) hAk (fun x hx=>hlt x (by simp at hx ⊢;exact hx)),?_,hb.frame _,fun h=>by cases h⟩
 rfl
theorem ups_holds:Rows.KernelUpsSaid:=
 OpenClaim.holds_of_wide 3 Tryz.f3 rfl rfl rfl rfl rfl rfl rfl ⟨rfl,rfl,rfl,rfl,rfl⟩ rfl rfl rfl rfl rfl (by kernel_rfl) Tryz.func3 (by kernel_rfl)
  (of_decide_eq_true (by kernel_rfl)) (by unfold Func.isWrapper;first | (rw [if_pos (by decide +kernel)];kernel_rfl) | (rw [if_neg (by decide +kernel)];exact ⟨rfl,rfl⟩))
  (fun os started H enc _=>ups_lifted os started H enc)
end Go.Proofs.YtmfmhmipcdgikaaGreat
