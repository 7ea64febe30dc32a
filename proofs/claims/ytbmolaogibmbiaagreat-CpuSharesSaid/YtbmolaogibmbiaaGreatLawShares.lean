/- The law CpuShares: what one stores in a lent page the other one loads, until it is back. -/
import Derived.Test.YtbmolaogibmbiaaGreatTwo
namespace Go.Dn
variable {A : AH} {l R : List SP} {ls : List Ln} {c : Mb} {u : Int} {F G : Int → Prop} {W : Int → Int → Int} {z : PcZ} {sps : List (Int × Value)} {cp n : Nat} {a b : Sp}
theorem right1 {a : Int} (h : 0 ≤ a ∧ a < 34359738368) : rightB a (a + 1) = true := by
 unfold rightB
 rw [decide_eq_true (by omega), decide_eq_true (by omega), decide_eq_true (by omega), decide_eq_true (by omega)]
 rfl
theorem find1 {y : Reg} {q : Int} (h1 : y.a = q) (h2 : y.b = q + 1) : findR [y] q = some y := find_one (by omega) (by omega)
theorem pg_w {p : Int} (h : 0 ≤ p ∧ p < 34359738368) : IntKind.wrap .u64 (IntKind.wrap .u64 p * 4096) = p * 4096 ∧ IntKind.wrap .u64 (p * 4096 + 8) = p * 4096 + 8 ∧ (p * 4096) / 4096 = p ∧ (p * 4096 + 8) / 4096 = p ∧ (p * 4096) % 4096 / 8 = 0 ∧ (p * 4096 + 8) % 4096 / 8 = 1 ∧ (p * 4096) % 8 = 0 ∧ (p * 4096 + 8) % 8 = 0 := by
 rw [wu64 (n := p) (by omega) (by omega), wu64 (n := p * 4096) (by omega) (by omega), wu64 (n := p * 4096 + 8) (by omega) (by omega)]
 omega
theorem do_id {id id' a s x : Int} {w : Bool} {q : Option Addr} {Q : Int → Int → Int → Int → AH → Prop} (e : id = id') (h : qds_A q id a s w x Q A) : qds_A q id' a s w x Q A := e ▸ h
theorem lend_id {i j i' j' p1 p2 : Int} {w u x : Bool} {q : Option Addr} {Q : Int → AH → Prop} (e1 : i = i') (e2 : j = j') (h : qdv_A q i p1 j p2 w u x Q A) : qdv_A q i' p1 j' p2 w u x Q A := e1 ▸ e2 ▸ h
theorem back_id {i j i' j' p1 p2 : Int} {q : Option Addr} {Q : Int → AH → Prop} (e1 : i = i') (e2 : j = j') (h : qei_A q i p1 j p2 Q A) : qei_A q i' p1 j' p2 Q A := e1 ▸ e2 ▸ h
def LentS (c : Mb) (cp n : Nat) (p1 p2 v0 v1 : Int) (l : List SP) : AP := fun A => ∃ F G W u ls z sps a b x, a.id = 1 ∧ b.id = 2 ∧ (0 ≤ u ∧ u ≤ 15) ∧ (b.tl.length : Int) ≤ 4 ∧ a.lent = [(p1, 1)] ∧ a.regs = [⟨p1, p1 + 1, true, true, false, 0⟩] ∧ b.regs = [⟨p2, p2 + 1, true, true, false, 1⟩] ∧ (∀ q, q ≠ p2 → b.lf q = none) ∧
 a.lf p1 = some x ∧ b.lf p2 = some ⟨x.frame, true, true, false⟩ ∧ W x.frame 0 = v0 ∧ W x.frame 1 = v1 ∧ (b.tl.length : Int) ≤ u ∧ SpsOK sps [b, a] ∧ FamOK c.N F G W z ls [b, a] ∧ Own (MacL c F G W u ls z sps (famR cp c.m n [b, a] l)) A
theorem Grow.bnd {N u root page u' : Int} {F G F' G' : Int → Prop} {W W' : Int → Int → Int} {y : Reg} {x : Lf} {tab tab' : Tab} {lf lf' : Int → Option Lf} {tl tl' : List Int} (hG : Grow N F G W u root tab lf tl page y x F' G' W' u' tab' lf' tl') (hnd : tl.Nodup) : u ≤ u' ∧ u' ≤ u + 4 := by
 cases e : lf page with
 | some x0 =>
  obtain ⟨_, _, e3, _⟩ := hG.same (by rw [e]; simp)
  omega
 | none =>
  obtain ⟨_, _, _, _, _, k6, k7, k8, k9⟩ := hG.new e
  have := nodup_le (l := tl') hnd k9
  omega
theorem CpuShares_spec {k : Nat} {P : SP} {s : Sl} {ch : List Int} {p1 p2 x y : Int} {Q : Bool → AH → Prop} (h : Own l A) (e : l[k]? = some P) (hr : Reads P s 1 (ch.map (.int .i64))) (hcap : s.len ≤ s.cap) (hn : s.a = none → ch = []) (hx : U64 x) (hy : U64 y)
  (hk : ∀ A', Own l A' → Q true A') : qep_A s p1 p2 x y Q A := by
 unfold qep_A qep_G
 have fin : qdt_A (fun b h' => Q b h') A := awake13_spec h fun A' h' => hk A' h'
 refine ⟨fun A' => A' = A ∧ (0 ≤ p1 ∧ p1 < 34359738368) ∧ (0 ≤ p2 ∧ p2 < 34359738368), fun A1 ⟨eA, hp1, hp2⟩ => ?_, ?_⟩
 ·subst eA
  obtain ⟨w1, w2, w3, w4, w5, w6, w7, w8⟩ := pg_w hp1
  obtain ⟨v1, v2, v3, v4, v5, v6, v7, v8⟩ := pg_w hp2
  rw [w1, v1, w2, v2, w64 (n := p1 + 1) (by omega) (by omega)]
  refine few_spec (m := 60) h e hr hcap hn (by omega) fun s9 A2 hn9 h2 => ?_
  refine Begin13_spec (k := 0) (N := 40) (tags := 2) h2 rfl reads_slC hn9 (by simp; omega) ⟨by omega, by omega⟩ ⟨by omega, by omega⟩ fun c F G W cp b0 mp A3 hcN hf hkn h3 => ?_
  generalize hl2 : At b0 [.int .i64 0, .int .i64 (-1), .int .i64 (40 - 1), .int .i64 2] :: SlO s9 1 ((ch.take 60).map (.int .i64)) :: l = l2 at h3
  have hend : ∀ {A' : AH}, Own l2 A' → Own l A' := fun h' => by rw [← hl2] at h'; exact h'.tail.tail
  generalize (ch.take 60).length = n at h3
  have hU0 : U64 (0 : Int) := ⟨by omega, by omega⟩
  refine ⟨fun A' => ∃ F G W ls z sps a b, a.id = 1 ∧ b.id = 2 ∧ a.lent = [] ∧ a.regs = [⟨p1, p1 + 1, true, true, false, 0⟩] ∧ (∀ q, a.lf q = none) ∧ b.s = Sl.nil ∧ b.regs = [] ∧ (∀ q, b.lf q = none) ∧ b.tl.length = 1 ∧ SpsOK sps [b, a] ∧ FamOK c.N F G W z ls [b, a] ∧ Own (MacL c F G W 4 ls z sps (famR cp c.m n [b, a] l2)) A', fun A4 ⟨F, G, W, ls, z, sps, a, b, i1, i2, i3, i4, i5, i6, i7, i8, i9, hs, hf, h4⟩ => ?_, ?_⟩
  ·have hfr : findR a.regs (p1 * 4096 / 4096) = some ⟨p1, p1 + 1, true, true, false, 0⟩ := by rw [i4, w3]; exact find1 rfl rfl
   refine do_id i1 ?_
   refine DoF (pre := [b]) (post := []) (size := 8) h4 hs hf ⟨by omega, by omega⟩ (by omega) ⟨by omega, by omega⟩ (by omega) w7 (fun g => ?_) (fun g => by cases g) fun _ y' hy' _ xl F' G' W' u' tab' lf' tl' ls' z' A5 hG hf5 hs5 h5 => ?_
   ·have := g _ hfr
    cases this
   rw [hfr] at hy'
   cases hy'
   rw [w3] at hG
   rw [w5, show (p1 * 4096 % 4096 % 8).toNat = 0 by omega] at h5 hf5
   obtain ⟨m1, m2, m3, _⟩ := hG.new (i5 p1)
   have hbd := hG.bnd (hf.rest a (by simp)).nd
   rw [m3, put_all hU0 hx] at h5 hf5
   refine ⟨fun A' => LentS c cp n p1 p2 x 0 l2 A', fun A6 h6 => ?_, bsel_f rfl (cpu_mF h5 ?_)⟩
   ·-- it is lent
    obtain ⟨F, G, W, u, ls, z, sps, a, b, xl, i1, i2, hu, ht, i3, i4, i5, i6, i7, i8, g0, g1, htu, hs, hf, h6⟩ := h6
    have hfa : findR a.regs p1 = some ⟨p1, p1 + 1, true, true, false, 0⟩ := by rw [i4]; exact find1 rfl rfl
    have hfb : findR b.regs p2 = some ⟨p2, p2 + 1, true, true, false, 1⟩ := by rw [i5]; exact find1 rfl rfl
    obtain ⟨kG, kt⟩ := hf.leafG a (by simp) p1 xl i7
    have kb := kt b (by simp)
    have ka := kt a (by simp)
    refine do_id i2 ?_
    refine DoT (pre := []) (post := [a]) (y := ⟨p2, p2 + 1, true, true, false, 1⟩) (x := ⟨xl.frame, true, true, false⟩) h6 hs hf ⟨hu.1, by omega⟩ (by omega) ⟨by omega, by omega⟩ v7 (by rw [v3]; exact hfb) rfl (by rw [v3]; exact i8) (by rw [v5, g0]; exact hx) (fun _ W7 ls7 z7 A7 hf7 hW7 h7 => ?_) (fun g => by cases g) hU0
    rw [v5, g0]
    have g0' : W7 xl.frame 0 = x := by rw [hW7 _ kG kb]; exact g0
    have g1' : W7 xl.frame 1 = 0 := by rw [hW7 _ kG kb]; exact g1
    refine do_id i2 ?_
    refine DoT (pre := []) (post := [a]) (y := ⟨p2, p2 + 1, true, true, false, 1⟩) (x := ⟨xl.frame, true, true, false⟩) h7 hs hf7 ⟨hu.1, by omega⟩ (by omega) ⟨by omega, by omega⟩ v8 (by rw [v4]; exact hfb) rfl (by rw [v4]; exact i8) (by rw [v6, g1']; exact hU0) (fun g => by cases g) (fun _ _ W8 ls8 z8 A8 hf8 hW8 h8 => ?_) hy
    rw [v6] at hW8
    have g0'' : W8 xl.frame 0 = x := by rw [hW8 _ kG kb]; unfold setW; rw [if_neg (by omega)]; exact g0'
    have g1'' : W8 xl.frame 1 = y := by rw [hW8 _ kG kb]; unfold setW; rw [if_pos ⟨rfl, rfl⟩]
    refine do_id i1 ?_
    refine DoT (pre := [b]) (post := []) (y := ⟨p1, p1 + 1, true, true, false, 0⟩) (x := xl) h8 hs hf8 ⟨hu.1, by omega⟩ (by omega) ⟨by omega, by omega⟩ w8 (by rw [w4]; exact hfa) rfl (by rw [w4]; exact i7) (by rw [w6, g1'']; exact hy) (fun _ W9 ls9 z9 A9 hf9 hW9 h9 => ?_) (fun g => by cases g) hU0
    rw [w6, g1'']
    have g0''' : W9 xl.frame 0 = x := by rw [hW9 _ kG ka]; exact g0''
    refine ⟨fun A' => ∃ F G W u ls z sps a b xl, a.id = 1 ∧ b.id = 2 ∧ (0 ≤ u ∧ u ≤ 15) ∧ a.regs = [⟨p1, p1 + 1, true, true, false, 0⟩] ∧ b.regs = [] ∧ (∀ q, b.lf q = none) ∧ a.lf p1 = some xl ∧ W xl.frame 0 = x ∧ SpsOK sps [b, a] ∧ FamOK c.N F G W z ls [b, a] ∧ Own (MacL c F G W u ls z sps (famR cp c.m n [b, a] l2)) A', fun A10 h10 => ?_, ?_⟩
    ·-- it is back
     obtain ⟨F, G, W, u, ls, z, sps, a, b, xl, i1, i2, hu, i4, i5, i6, i7, g0, hs, hf, h10⟩ := h10
     obtain ⟨kG, kt⟩ := hf.leafG a (by simp) p1 xl i7
     have hfb : findR b.regs (p2 * 4096 / 4096) = none := by rw [i5]; rfl
     refine do_id i2 ?_
     refine DoF (pre := []) (post := [a]) (size := 8) h10 hs hf ⟨hu.1, by omega⟩ (by omega) ⟨by omega, by omega⟩ (by omega) v7 (fun _ ls11 z11 A11 hf11 h11 => ?_) (fun _ y' hy' => by rw [hfb] at hy'; cases hy') (fun g => by cases g)
     have hcode : codeZ false true false + (if b.lf (p2 * 4096 / 4096) = none then 0 else 1) = 4 := by rw [if_pos (i6 _)]; rfl
     rw [hcode]
     refine do_id i1 ?_
     refine DoT (pre := [b]) (post := []) (y := ⟨p1, p1 + 1, true, true, false, 0⟩) (x := xl) h11 hs hf11 ⟨hu.1, by omega⟩ (by omega) ⟨by omega, by omega⟩ w7 (by rw [w3, i4]; exact find1 rfl rfl) rfl (by rw [w3]; exact i7) (by rw [w5, g0]; exact hx) (fun _ W12 ls12 z12 A12 hf12 hW12 h12 => ?_) (fun g => by cases g) hU0
     rw [w5, g0]
     refine awake13_spec h12 fun A13 h13 => bsel_t rfl (bsel_t rfl (bsel_t (by simp) (bsel_t rfl (bsel_t (by simp) (cpu_mF h13 ?_)))))
     refine Stale_spec h13 hs hf12 fun s14 A14 hs14 h14 => ?_
     have : (Int.ofNat s14.len == (0 : Int)) = true := by rw [hs14]; rfl
     rw [this]
     exact hk A14 (hend (MacL.rest h14).tail.tail.tail)
    ·refine bsel_f rfl (bsel_f rfl (bsel_f rfl (bsel_f (by simp) (bsel_f (by simp) (cpu_mF h9 ?_)))))
     refine back_id (i := a.id) (j := b.id) i1 i2 ?_
     refine BackF (page := p1) (at_ := p2) (y := ⟨p2, p2 + 1, true, true, false, 1⟩) (x := xl) (w := ⟨xl.frame, true, true, false⟩) h9 hs hf9 i3 i5 i6 rfl rfl rfl i7 i8 rfl hp2 htu fun F' G' W' u' tab' tl' s' ls' A10 hs' hf' hkeep hu0 hu1 h10 => bsel_f rfl ?_
     refine ⟨F', G', W', u', ls', z9, sps, a.lends [], b.bor s' [] tab' (setL b.lf p2 none) tl', xl, i1, i2, ⟨hu0, by omega⟩, i4, rfl, fun q => ?_, i7, ?_, hs', hf', h10⟩
     ·show setL b.lf p2 none q = none
      unfold setL
      split
      ·rfl
      ·rename_i eq; exact i6 q eq
     ·rw [(hkeep _ kG kb).1]; exact g0'''
   ·-- to lend
    have hfa : findR (a.as tab' lf' tl').regs p1 = some ⟨p1, p1 + 1, true, true, false, 0⟩ := by show findR a.regs p1 = _; rw [i4]; exact find1 rfl rfl
    have i1' : (a.as tab' lf' tl').id = 1 := i1
    obtain ⟨kG, kt⟩ := hf5.leafG (a.as tab' lf' tl') (by simp) p1 xl hG.leaf
    refine lend_id (i := (a.as tab' lf' tl').id) (j := b.id) i1 i2 ?_
    refine LendF (page := p1) (at_ := p2) (a := a.as tab' lf' tl') (b := b) (x := xl) h5 hs5 hf5 i3 i6 i7 i8 hfa rfl rfl hG.leaf hp2 ⟨by omega, by omega⟩ (by omega) fun F6 G6 W6 u6 tab6 tl6 s6 A6 hs6 hf6 hGm hkeep hu6 hl1 hl3 h6 => bsel_f rfl ?_
    have kb := kt b (by simp)
    refine ⟨F6, G6, W6, u6, ls', z', sps, (a.as tab' lf' tl').lends [(p1, 1)], b.bor s6 [⟨p2, p2 + 1, true, true, false, 1⟩] tab6 (setL b.lf p2 (some ⟨xl.frame, true, true, false⟩)) tl6, xl, i1, i2, ⟨by omega, by omega⟩, ?_, rfl, i4, rfl, fun q hq => ?_, hG.leaf, ?_, ?_, ?_, ?_, hs6, hf6, h6⟩
    ·show (tl6.length : Int) ≤ 4; omega
    ·show setL b.lf p2 _ q = none
     unfold setL; rw [if_neg hq]; exact i8 q
    ·show setL b.lf p2 _ p2 = _
     unfold setL; rw [if_pos rfl]
    ·rw [hkeep _ kG kb]; unfold setW; rw [if_pos ⟨rfl, rfl⟩]
    ·rw [hkeep _ kG kb]; unfold setW; rw [if_neg (by omega)]; exact m3 1
    ·show (tl6.length : Int) ≤ u6; omega
  ·refine bsel_f rfl (cpu_mF h3 ?_)
   refine OpenF (id := 1) h3 (fun _ => rfl) hf (by omega) (fun a ha => by simp at ha) ⟨by omega, by omega⟩ (by omega) ⟨hkn.1, by omega⟩ fun q1 r1 sps4 F4 G4 W4 A4 hs4 hf4 _ _ _ _ h4 => bsel_f rfl ?_
   refine cpu_mF h4 ?_
   refine OpenF (id := 2) h4 hs4 hf4 (by omega) (fun a ha => by simp [Sp.new] at ha; subst ha; simp) ⟨by omega, by omega⟩ (by omega) ⟨hkn.1, by omega⟩ fun q2 r2 sps5 F5 G5 W5 A5 hs5 hf5 _ _ _ _ h5 => bsel_f rfl ?_
   refine cpu_mF h5 ?_
   refine MapF (pre := [Sp.new 2 q2 r2]) (post := []) (a := Sp.new 1 q1 r1) (y := ⟨p1, p1 + 1, true, true, false, 0⟩) h5 hs5 hf5 rfl rfl (fun _ => rfl) (right1 hp1) rfl fun s6 A6 hs6 hf6 h6 => bsel_f rfl ?_
   exact ⟨F5, G5, W5, _, _, sps5, (Sp.new 1 q1 r1).with1 s6 ⟨p1, p1 + 1, true, true, false, 0⟩, Sp.new 2 q2 r2, rfl, rfl, rfl, rfl, fun _ => rfl, rfl, rfl, fun _ => rfl, rfl, hs6, hf6, h6⟩
 ·refine bsel_in (fun _ => fin) fun g1 => bsel_in (fun _ => fin) fun g2 => bsel_in (fun _ => fin) fun g3 => bsel_in (fun _ => fin) fun g4 => ?_
  have g1 := of_decide_eq_false g1
  have g2 := of_decide_eq_false g2
  have g3 := of_decide_eq_false g3
  have g4 := of_decide_eq_false g4
  exact ⟨rfl, ⟨by omega, by omega⟩, by omega, by omega⟩
end Go.Dn
