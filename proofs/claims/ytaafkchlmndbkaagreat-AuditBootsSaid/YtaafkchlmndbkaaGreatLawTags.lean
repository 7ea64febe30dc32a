/- What the proof stands on: Mac, Mac2, LawTags. -/
import Derived.Test.YtaafkchlmndbkaaGreatTlb2
import Derived.Test.YtaafkchlmndbkaaGreatReg2
import Derived.Test.YtaafkchlmndbkaaGreatMWorld
import Derived.Test.YtaafkchlmndbkaaGreatPlainM
/- A machine of spaces: how it begins. -/
namespace Go.Dn
structure Mb where
 N : Int
 r : Nat
 b : Nat
 t : Nat
 m : Nat
 tl : Nat
 tg : Nat
 sp : Nat
 kern : Int
def macC (c : Mb) : List Value := [.pointer (some ⟨c.r,0,none⟩),.pointer (some ⟨c.b,0,none⟩),.pointer (some ⟨c.t,0,none⟩),.pointer (some ⟨c.tl,0,none⟩),.pointer (some ⟨c.tg,0,none⟩),.int .i64 c.kern,.map (some c.sp)]
def MacL (c : Mb) (F G : Int→Prop) (W : Int→Int→Int) (u : Int) (ls : List Ln) (z : PcZ) (sps : List (Int × Value)) (R : List SP) : List SP :=
 StdO c.N c.r c.b c.t F G W u (At c.m (macC c) :: MapI c.sp .i64 sps :: TlbS c.tl ls :: PcS c.tg z :: R)
variable {A : AH} {l R R' : List SP} {c : Mb} {u : Int} {F G : Int→Prop} {W : Int→Int→Int} {ls : List Ln} {z : PcZ} {sps : List (Int × Value)} {root : Int} {tab : Tab} {lf : Int→Option Lf} {tl : List Int}
theorem MacL.mapR (f : ∀ C,Own R C→Own R' C) (h : Own (MacL c F G W u ls z sps R) A) : Own (MacL c F G W u ls z sps R') A :=
 h.cons fun _ h => h.cons fun _ h => h.cons fun _ h => h.cons fun _ h => h.cons fun _ h => h.cons fun _ h => h.cons f
theorem MacL.rest (h : Own (MacL c F G W u ls z sps R) A) : Own R A := h.tail.tail.tail.tail.tail.tail.tail
theorem MacL.tags (h : Own (MacL c F G W u ls z sps R) A) : Own (PcS c.tg z :: StdO c.N c.r c.b c.t F G W u (At c.m (macC c) :: MapI c.sp .i64 sps :: TlbS c.tl ls :: R)) A := by
 unfold MacL StdO at h
 exact h.pick 6 rfl
theorem Own.capS6 {s : Sl} {sz : Nat} {cs : List Value} (h : Own (SlO s sz cs :: R) A) : s.len ≤ s.cap := by
 obtain ⟨B,_,hB⟩ := h.sat
 exact hB.1.2
theorem purse_head {k : Nat} {box : Int} {Q : Option Addr→Option Addr→Option Addr→Int→AH→Prop} (h : Own l A) (e : l[k]? = some (At c.m (macC c))) (hk : Q (some ⟨c.r,0,none⟩) (some ⟨c.b,0,none⟩) (some ⟨c.t,0,none⟩) box A) :
  qat_A (some ⟨c.m,0,none⟩) box Q A := by
 unfold qat_A
 simp only [onSome_some,add_at,Nat.zero_add]
 exact ld_P h e rfl (ld_P h e rfl (ld_P h e rfl hk))
end Go.Dn
/- A machine of spaces: its calls. -/
namespace Go.Dn
variable {A : AH} {l R R' : List SP} {c : Mb} {u : Int} {F G : Int→Prop} {W : Int→Int→Int} {ls : List Ln} {z : PcZ} {sps : List (Int × Value)} {root box : Int} {tab : Tab} {lf : Int→Option Lf} {tl : List Int} {p : Nat} {s : Sl} {regs : List Reg} {lent : List (Int × Int)}
def oneL (p lm : Nat) (box root : Int) (s : Sl) (regs : List Reg) (lent : List (Int × Int)) : List SP := [At p [.int .i64 box,.int .i64 root,.slice s.a s.len s.cap,.map (some lm)],SlO s 6 (regC regs),MapI lm .i64 (ivs lent)]
def OneS (p : Nat) (box root : Int) (s : Sl) (regs : List Reg) (lent : List (Int × Int)) : SP := fun B => ∃ lm,Own (oneL p lm box root s regs lent) B
theorem OneS.openH (h : Own (OneS p box root s regs lent :: R) A) : ∃ lm,Own (oneL p lm box root s regs lent ++ R) A := by
 obtain ⟨lm,h⟩ := Own.ex h
 exact ⟨lm,Own.flat h⟩
theorem OneS.closeH {lm : Nat} (h : Own (oneL p lm box root s regs lent ++ R) A) : Own (OneS p box root s regs lent :: R) A := h.app.imp fun _ hB => ⟨lm,hB⟩
theorem MacL.openOne (h : Own (MacL c F G W u ls z sps (OneS p box root s regs lent :: R)) A) : ∃ lm,Own (MacL c F G W u ls z sps (oneL p lm box root s regs lent ++ R)) A := by
 unfold MacL StdO at h
 have h := h.pick 7 rfl
 obtain ⟨lm,h⟩ := OneS.openH h
 refine ⟨lm,?_⟩
 unfold MacL StdO
 have h : Own (oneL p lm box root s regs lent ++ ([RamW c.r c.N [] W,Bud c.b F G (c.N - 1 - u),TreeS c.t [⟨-1,c.N - 1,u,0,true⟩],At c.m (macC c),MapI c.sp .i64 sps,TlbS c.tl ls,PcS c.tg z] ++ R)) A := h
 rw [← List.append_assoc] at h
 have h2 := h.perm (List.Perm.append_right R List.perm_append_comm)
 rw [List.append_assoc] at h2
 exact h2
theorem MacL.closeOne {lm : Nat} (h : Own (MacL c F G W u ls z sps (oneL p lm box root s regs lent ++ R)) A) : Own (MacL c F G W u ls z sps (OneS p box root s regs lent :: R)) A :=
 MacL.mapR (fun _ hC => OneS.closeH hC) h
def ptrV (p : Nat) : Value := .pointer (some ⟨p,0,none⟩)
theorem SpMap_nil {id : Int} {y : Reg} {Q : Int→AH→Prop} (h : Own (MacL c F G W u ls z sps (OneS p box root Sl.nil [] lent :: l)) A) (hs : sps.lookup id = some (ptrV p)) (hb : rightB y.a y.b = true) (hy : y.k = 0)
  (hk : ∀ s A',Own (MacL c F G W u ls z sps (OneS p box root s [y] lent :: l)) A'→Q 0 A') : qch_A (some ⟨c.m,0,none⟩) id y.a y.b y.w y.u y.x Q A := by
 obtain ⟨ya,yb,yw,yu,yx,yk⟩ := y
 simp only at hy hb hk ⊢
 subst hy
 obtain ⟨lm,h⟩ := MacL.openOne h
 unfold qch_A qch_G
 simp only [onSome_some,add_at,Nat.zero_add]
 refine ld_M (i := 3) h rfl rfl (lk_M (i := 4) h rfl ?_)
 rw [hs]
 refine ⟨some ⟨p,0,none⟩,rfl,bsel_f rfl ?_⟩
 simp only [onSome_some,add_at,Nat.zero_add]
 refine ld_S (i := 7) h rfl rfl ?_
 refine Add_nil (y := ⟨ya,yb,yw,yu,yx,0⟩) h hb fun s A1 hsn h1 => ?_
 refine ⟨fun A' => Own (MacL c F G W u ls z sps (OneS p box root s [⟨ya,yb,yw,yu,yx,0⟩] lent :: l)) A',fun A2 h2 => hk s A2 h2,?_⟩
 refine bsel_t rfl ?_
 refine st_C (i := 8) h1 rfl rfl rfl fun A2 h2 => ?_
 have h2 : Own (SlO s 6 (regC [⟨ya,yb,yw,yu,yx,0⟩]) :: MacL c F G W u ls z sps (At p [.int .i64 box,.int .i64 root,.slice s.a s.len s.cap,.map (some lm)] :: SlO Sl.nil 6 (regC []) :: MapI lm .i64 (ivs lent) :: l)) A2 := h2
 refine MacL.closeOne (lm := lm) ?_
 unfold MacL StdO at h2 ⊢
 have h3 := Own.back (l := RamW c.r c.N [] W :: Bud c.b F G (c.N - 1 - u) :: TreeS c.t [⟨-1,c.N - 1,u,0,true⟩] :: At c.m (macC c) :: MapI c.sp .i64 sps :: TlbS c.tl ls :: PcS c.tg z :: At p [.int .i64 box,.int .i64 root,.slice s.a s.len s.cap,.map (some lm)] :: SlO s 6 (regC [⟨ya,yb,yw,yu,yx,0⟩]) :: SlO Sl.nil 6 (regC []) :: MapI lm .i64 (ivs lent) :: l) (P := SlO s 6 (regC [⟨ya,yb,yw,yu,yx,0⟩])) (P' := SlO s 6 (regC [⟨ya,yb,yw,yu,yx,0⟩])) 8 rfl h2
 exact h3.sub (List.Sublist.cons_cons _ (List.Sublist.cons_cons _ (List.Sublist.cons_cons _ (List.Sublist.cons_cons _ (List.Sublist.cons_cons _ (List.Sublist.cons_cons _ (List.Sublist.cons_cons _ (List.Sublist.cons_cons _ (List.Sublist.cons_cons _ (List.Sublist.cons _ (List.Sublist.refl _)))))))))))
theorem or_code {aw au : Bool} : bits .or .i64 ((if aw then 2 else 0) + (if au then 4 else 0)) 16 = (if aw then 2 else 0) + (if au then 4 else 0) + 16 := by
 cases aw <;> cases au <;> decide
theorem or_there {aw au af : Bool} : bits .or .i64 (codeZ aw au af) 1 = codeZ aw au af + 1 := by
 cases aw <;> cases au <;> cases af <;> decide
end Go.Dn
/- The law SpaceTags: spaces get tags, and when a new generation begins what was kept is gone. -/
namespace Go.Dn
variable {A : AH} {l R R' : List SP} {P : SP} {k : Nat} {c : Mb} {u : Int} {F G : Int→Prop} {W : Int→Int→Int} {ls : List Ln} {z : PcZ} {sps : List (Int × Value)} {s : Sl} {ids : List Int}
end Go.Dn
