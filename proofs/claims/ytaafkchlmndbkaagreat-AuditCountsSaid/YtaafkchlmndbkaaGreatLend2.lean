/- What the proof stands on: Cut, Busy, Spc, LawMaps, Lend, Lend2. -/
import Derived.Test.YtaafkchlmndbkaaGreatReg2
import Derived.Test.YtaafkchlmndbkaaGreatLawTags
/- Regions: what is left when pages go. -/
namespace Go.Dn
variable {A : AH} {l R : List SP} {P : SP} {i k v b : Nat} {s : Sl} {L : List Reg} {y y' : Reg} {p q : Int}
theorem CloneG_spec {Q : Sl→AH→Prop} (h : Own l A) (e : l[k]? = some P) (hr : Reads P s 6 (regC L)) (hb : L.length ≤ 1000) (hn : s.a = none→L = [])
  (hk : ∀ s' A',s'.len = L.length→(s'.a = none→L = [])→Own (SlO s' 6 (regC L) :: l) A'→Q s' A') : qbz_A s Q A := by
 have hl := rd_reg_len h e hr
 unfold qbz_A
 refine bsel_in (fun g => ?_) fun g => ?_
 ·have g : s.a = none := by simpa using g
  have hL := hn g
  subst hL
  exact hk Sl.nil A rfl (fun _ => rfl) h.nil6
 ·have g : s.a ≠ none := fun z => by rw [z] at g;cases g
  refine new_C (cs := []) h fun b1 A1 h1 => ?_
  have h2 : Own (SlO ⟨some ⟨b1,0,none⟩,0,0⟩ 6 [] :: l) A1 := h1.imp fun B _ => ⟨⟨by simp,Nat.le_refl _⟩,.inl rfl⟩
  refine ap_reads (i := k) h2 e hr (fun z => absurd z g) (fun z => by cases z) rfl (fun v hv => regC_one hv) ⟨by simp only [hl];omega,by simp only [hl];omega⟩ fun s' A3 j1 j2 h3 => ?_
  exact hk s' A3 (by simp [j1,hl]) (fun z => regC_nil (by simpa using j2 z)) (by simpa using h3)
end Go.Dn
/- Is a page lent or borrowed? -/
namespace Go.Dn
open Go.MapKept
variable {A : AH} {l R : List SP} {P : SP} {i k k2 k3 v b lm pp : Nat} {s : Sl} {L : List Reg} {y : Reg} {p q box root : Int} {lent : List (Int × Int)}
end Go.Dn
/- A machine of spaces: pages that go. -/
namespace Go.Dn
variable {A : AH} {l R R' : List SP} {P : SP} {k k2 b : Nat} {c : Mb} {u : Int} {F G : Int→Prop} {W : Int→Int→Int} {ls : List Ln} {z : PcZ} {sps : List (Int × Value)} {root box : Int} {tab : Tab} {lf : Int→Option Lf} {tl : List Int} {p : Nat} {s : Sl} {regs : List Reg} {lent : List (Int × Int)} {ps : List Int}
end Go.Dn
/- The law SpaceMaps: pages cost nothing until they are used, and give back what they cost. -/
namespace Go.Dn
variable {A : AH} {l R : List SP} {G : Int→Prop} {W : Int→Int→Int} {root : Int} {tab : Tab} {lf : Int→Option Lf} {tl : List Int} {y : Reg} {p : Int}
end Go.Dn
/- A machine of spaces: what is lent. -/
namespace Go.Dn
variable {A : AH} {l R R' : List SP} {P : SP} {i k k2 b : Nat} {c : Mb} {u : Int} {F G : Int→Prop} {W : Int→Int→Int} {ls : List Ln} {z : PcZ} {sps : List (Int × Value)} {root box root1 root2 : Int} {tab tab1 tab2 : Tab} {lf lf1 lf2 : Int→Option Lf} {tl tl1 tl2 : List Int} {p p1 p2 : Nat} {s s1 s2 : Sl} {regs regs1 regs2 : List Reg} {lent lent1 lent2 : List (Int × Int)} {y : Reg}
theorem one_cells (h : Own l A) (e : l[i]? = some (OneS p box root s regs lent)) : ∃ lm,cellA A ⟨p,0,none⟩ = some (.int .i64 box) ∧ cellA A ⟨p,1,none⟩ = some (.int .i64 root) ∧ cellA A ⟨p,2,none⟩ = some (.slice s.a s.len s.cap) ∧ cellA A ⟨p,3,none⟩ = some (.map (some lm)) ∧
  (∃ es c,A lm = some (.map es c) ∧ MapE .i64 es (ivs lent)) := by
 obtain ⟨lm,h⟩ := OneS.openH (h.pick i e)
 obtain ⟨es,c,h1,h2,_⟩ := Own.map (i := 2) (l := oneL p lm box root s regs lent ++ l.eraseIdx i) rfl h
 exact ⟨lm,cell_at (i := 0) rfl h rfl,cell_at (i := 0) rfl h rfl,cell_at (i := 0) rfl h rfl,cell_at (i := 0) rfl h rfl,es,c,h1,h2⟩
theorem one_root {K : Int→Prop} (h : Own l A) (e : l[i]? = some (OneS p box root s regs lent)) (hk : K root) : aI .i64 ⟨p,1,none⟩ A K := by
 obtain ⟨lm,_,h1,_⟩ := one_cells h e
 exact ⟨_,h1,hk⟩
theorem one_sl {K : Sl→Prop} (h : Own l A) (e : l[i]? = some (OneS p box root s regs lent)) (hk : K s) : aS ⟨p,2,none⟩ A K := by
 obtain ⟨lm,_,_,h1,_⟩ := one_cells h e
 exact ⟨s,h1,hk⟩
theorem reads_one : Reads (OneS p box root s regs lent) s 6 (regC regs) := fun B A ⟨lm,hB⟩ u => by
 have h1 : Own (SlO s 6 (regC regs) :: At p [.int .i64 box,.int .i64 root,.slice s.a s.len s.cap,.map (some lm)] :: MapI lm .i64 (ivs lent) :: []) B := Own.swap hB
 obtain ⟨B2,u2,hB2⟩ := h1.sat
 exact reads_slo B2 A hB2 (u2.trans u)
end Go.Dn
/- A machine of spaces: what is lent comes back; spaces that go. -/
namespace Go.Dn
variable {A : AH} {l R R' : List SP} {P : SP} {i k k2 b : Nat} {c : Mb} {u : Int} {F G : Int→Prop} {W : Int→Int→Int} {ls : List Ln} {z : PcZ} {sps : List (Int × Value)} {root box root1 root2 : Int} {tab tab1 tab2 : Tab} {lf lf1 lf2 : Int→Option Lf} {tl tl1 tl2 : List Int} {p p1 p2 : Nat} {s s1 s2 : Sl} {regs regs1 regs2 : List Reg} {lent lent1 lent2 : List (Int × Int)} {y : Reg}
end Go.Dn
