/- CpuMany: spaces that come and go, more than there are tags, never see anything of one another. -/
import Derived.Test.YtbmolaogibmbiaaGreatP
import Derived.Test.YtbmolaogibmbiaaGreatOpenI
import Derived.Test.YtbmolaogibmbiaaGreatLawMany2
import Derived.Test.YtbmolaogibmbiaaGreatRows
import Derived.Lib.SmallJoins
namespace Go.Proofs.YtbmolaogibmbiaaGreat
open Go.Joins Go.ChangeShapes Go.WideShapes Go.ChangeAt Go.RowKit Go.Dn
theorem Tryz.own : ownKnob Tryz.prog.godebug = none := by kernel_rfl
theorem Tryz.laidOut : laidOutB Tryz.prog = true := by kernel_rfl
theorem Tryz.mixedOK : Tryz.prog.follows .mixedOrders = true := Checked.mixed Tryz.checked
theorem many_any (w : World) (tg : Int) (h_tg : (Lit.int .i64 tg).wf = true) (m : Int) (h_m : (Lit.int .i64 m).wf = true) (s2 : Sl) (l2 : List Int) (hr2 : Reads (Was w.heap) s2 1 (l2.flatMap ivE)) (hq2 : ∀ x ∈ l2,(fun _ => True) x) (hl2 : l2.length < 9223372036854775808 ∧ s2.len ≤ s2.cap ∧ (s2.a = none→l2 = [])) (x : Int) (h_x : (Lit.int .u64 x).wf = true) :
  Calls Tryz.prog 6 #[.int .i64 tg,.int .i64 m,.slice s2.a s2.len s2.cap,.int .u64 x] w (Tells (.bool true) w) := by
 have hE : qfd_A tg m s2 x (fun r0 A => Value.bool r0 = Value.bool true ∧ Dn.Own [Was w.heap] A) (allA w.heap) := CpuMany_spec (ch := l2) (k := 0) (own_all w.heap) rfl (by have hh := hr2;rw [flat_iv] at hh;exact hh) hl2.2.1 hl2.2.2 (fun A h => ⟨rfl,h⟩)
 have hok := qfd_ok Tryz.mixedOK
 obtain ⟨F,hF⟩ : ∃ F,F = qfd_A := ⟨_,rfl⟩
 rw [← hF] at hE hok
 have hc := callA hok [.int .i64 tg,.int .i64 m,.slice s2.a s2.len s2.cap,.int .u64 x] (fun v h' => v = Value.bool true ∧ KeptH w.heap h') w (KA := fun v A => v = Value.bool true ∧ Dn.Own [Was w.heap] A) hE (fun v A' h' s h => lawQ s h)
 exact hc.mono fun e w' h => tells_of h
set_option maxRecDepth 100000 in
theorem many_lifted (os : Os) (started : os.Started) (H : Type) (enc : TypeId × Value→H) :
  ReturnsInHanded {} Tryz.checked os 6 .any (Rows.cpuManySpec.pre6 enc Tryz.prog Tryz.f6 Rows.cpuManyRow.domain false) (Rows.cpuManySpec.post enc Tryz.prog Tryz.f6 false true false false) := by
 refine returnsInHanded_of_change (C := Tryz.checked) Tryz.own started (by kernel_rfl) Tryz.func6
  (ChangeSpec.witness6 (enc := enc) (C := Tryz.checked) false ⟨#[],#[.int .i64 0,.int .i64 0,.slice none 0 0,.int .u64 0],[]⟩ 8 (by kernel_rfl) (by kernel_rfl) (by kernel_rfl) (by kernel_rfl)) ?_
 intro W base args ds gs before hval0 hW hcnd _
 have hval : ∀ (j : Nat) t v,Tryz.f6.params[j]? = some t→args[j]? = some v→Value.okWide Tryz.prog W .any base t v := hval0
 have hW' := hW
 obtain ⟨p,q,hA0,hV,rfl,hfz,hnd⟩ := hW
 have hA : DataW.TrodAll enc Tryz.prog W 0 (fun _ => true) true Tryz.f6.params.toList args.toList ds p := hA0
 rw [Tryz.params6] at hA hval
 have hAk := hA
 obtain ⟨args⟩ := args
 obtain ⟨v0,as0,d0,ds0,p0,q0,e0,rfl,rfl,h0,g0⟩ := trodAll_cons hA
 obtain ⟨v1,as1,d1,ds1,p1,q1,e1,rfl,rfl,h1,g1⟩ := trodAll_cons g0
 obtain ⟨v2,as2,d2,ds2,p2,q2,e2,rfl,rfl,h2,g2⟩ := trodAll_cons g1
 obtain ⟨v3,as3,d3,ds3,p3,q3,e3,rfl,rfl,h3,g3⟩ := trodAll_cons g2
 obtain ⟨ee,rfl,rfl⟩ := trodAll_nil g3
 subst ee
 subst e3
 subst e2
 subst e1
 have e0 : args = _ := e0
 subst e0
 obtain ⟨rfl,rfl⟩ := trodVars_none hV
 have hlt := hW'.lt
 obtain ⟨fu0,hf0⟩ := h0
 obtain ⟨tg,rfl⟩ := okWide_int Tryz.underlying3 (hval 0 3 v0 rfl rfl)
 have h_tg : (Lit.int .i64 tg).wf = true := by
  obtain ⟨⟨n,e,hw⟩,_⟩ : AllOK [.i .i64] [_] := flat_ok 9 3 _ fu0 _ _ (by kernel_rfl) hf0
  cases e;exact hw
 obtain ⟨fu1,hf1⟩ := h1
 obtain ⟨m,rfl⟩ := okWide_int Tryz.underlying3 (hval 1 3 v1 rfl rfl)
 have h_m : (Lit.int .i64 m).wf = true := by
  obtain ⟨⟨n,e,hw⟩,_⟩ : AllOK [.i .i64] [_] := flat_ok 9 3 _ fu1 _ _ (by kernel_rfl) hf1
  cases e;exact hw
 obtain ⟨s2,l2,rfl,hr2,hq2,hl2⟩ := open_elems ivE (fun _ => True) 1 (by decide) (fun _ => rfl) Tryz.underlying22 (by kernel_rfl) (fun n cs y hy => open_iv (flat_ok 9 3 [.i .i64] n cs y (by kernel_rfl) hy)) (hval 2 22 v2 rfl rfl) h2
 obtain ⟨fu3,hf3⟩ := h3
 obtain ⟨x,rfl⟩ := okWide_int Tryz.underlying23 (hval 3 23 v3 rfl rfl)
 have h_x : (Lit.int .u64 x).wf = true := by
  obtain ⟨⟨n,e,hw⟩,_⟩ : AllOK [.i .u64] [_] := flat_ok 9 23 _ fu3 _ _ (by kernel_rfl) hf3
  cases e;exact hw
 refine (many_any W tg h_tg m h_m s2 l2 hr2 hq2 hl2 x h_x).mono fun e W' ⟨he,hb⟩ => ?_
 subst he
 refine ⟨_,rfl,_,_,_,[],_,[],hW',trodAll_mk1 (shut_bool Tryz.underlying4 true),allBelow Tryz.laidOut hb (by kernel_rfl) hAk (fun x hx => hlt x (by simp at hx ⊢;exact hx)),?_,hb.frame _,fun h => by cases h⟩
 rfl
theorem many_holds : Rows.CpuManySaid :=
 OpenClaim.holds_of_wide 6 Tryz.f6 rfl rfl rfl rfl rfl rfl rfl ⟨rfl,rfl,rfl,rfl,rfl⟩ rfl rfl rfl rfl rfl (by kernel_rfl) Tryz.func6 (by kernel_rfl)
  (of_decide_eq_true (by kernel_rfl)) (by unfold Func.isWrapper;first | (rw [if_pos (by decide +kernel)];kernel_rfl) | (rw [if_neg (by decide +kernel)];exact ⟨rfl,rfl⟩))
  (fun os started H enc _ => many_lifted os started H enc)
end Go.Proofs.YtbmolaogibmbiaaGreat
