/- What the proof stands on: MapsE, Pcid, Tlb, Tlb2. -/
import Derived.Test.YtaafkchlmndbkaaGreatG
import Derived.Test.YtaafkchlmndbkaaGreatEntry
import Derived.Test.YtaafkchlmndbkaaGreatWords
/- An entry of a map that is read and written again. -/
namespace Go.Dn
open Go.MapKept
variable {A : AH} {l R : List SP}
end Go.Dn
/- Tags for spaces. -/
namespace Go.Dn
def ivs (m : List (Int × Int)) : List (Int × Value) := m.map fun p => (p.1,.int .i64 p.2)
theorem ivs_lookup (k : Int) : ∀ m : List (Int × Int),(ivs m).lookup k = (m.lookup k).map fun v => (.int .i64 v : Value)
 | [] => rfl
 | p :: m => by
  have := ivs_lookup k m
  unfold ivs at this ⊢
  simp only [List.map_cons,List.lookup]
  cases h : k == p.1 with
  | true => rfl
  | false => exact this
theorem onSome_some {a : Addr} {K : Addr→Prop} : onSome (some a) K = K a := rfl
structure PcZ where
 most : Int
 next : Int
 gen : Int
 own : List (Int × Int)
 tag : List (Int × Int)
def PcZ.OK (z : PcZ) : Prop := 1 ≤ z.most ∧ z.most ≤ 4095 ∧ 1 ≤ z.next ∧ z.next ≤ z.most + 1
def pcNew (most : Int) : PcZ := ⟨most,1,0,[],[]⟩
def pcL (p bo bt : Nat) (z : PcZ) : List SP := [At p [.int .i64 z.most,.int .i64 z.next,.int .i64 z.gen,.map (some bo),.map (some bt)],MapI bo .i64 (ivs z.own),MapI bt .i64 (ivs z.tag)]
def PcS (p : Nat) (z : PcZ) : SP := fun B => ∃ bo bt,Own (pcL p bo bt z) B
variable {A : AH} {l R : List SP} {p bo bt : Nat} {z : PcZ}
theorem PcS.openH (h : Own (PcS p z :: R) A) : ∃ bo bt,Own (pcL p bo bt z ++ R) A := by
 obtain ⟨bo,h⟩ := Own.ex h
 obtain ⟨bt,h⟩ := Own.ex h
 exact ⟨bo,bt,Own.flat h⟩
theorem PcS.closeH (h : Own (pcL p bo bt z ++ R) A) : Own (PcS p z :: R) A := h.app.imp fun _ hB => ⟨bo,bt,hB⟩
theorem begin_spec {most x y : Int} {u v : Value} {Q : AH→Prop} (h : Own (At p [.int .i64 most,.int .i64 x,.int .i64 y,u,v] :: R) A)
  (hk : ∀ bo bt A',Own (pcL p bo bt ⟨most,1,y,[],[]⟩ ++ R) A'→Q A') : qam_A (some ⟨p,0,none⟩) Q A := by
 unfold qam_A
 simp only [onSome_some,add_at,Nat.zero_add]
 refine new_M (k := .i64) h fun b1 A1 h1 => new_M (k := .i64) h1 fun b2 A2 h2 => ?_
 refine st_C (i := 2) h2 rfl rfl rfl fun A3 h3 => ?_
 refine st_C (i := 2) h3 rfl rfl rfl fun A4 h4 => ?_
 refine st_C (i := 2) h4 rfl rfl rfl fun A5 h5 => hk b1 b2 A5 ?_
 have h5 : Own (MapI b2 .i64 [] :: MapI b1 .i64 [] :: At p [.int .i64 most,.int .i64 1,.int .i64 y,.map (some b1),.map (some b2)] :: R) A5 := h5
 exact h5.perm (List.Perm.trans (List.Perm.cons _ (List.Perm.swap _ _ _)) (List.Perm.trans (List.Perm.swap _ _ _) (List.Perm.cons _ (List.Perm.swap _ _ _))))
theorem pNew_spec {most : Int} {Q : Option Addr→Int→AH→Prop} (h : Own l A) (h1 : 1 ≤ most) (h2 : most ≤ 4095) (hk : ∀ p A',Own (PcS p (pcNew most) :: l) A'→Q (some ⟨p,0,none⟩) 0 A') : qan_A most Q A := by
 unfold qan_A qan_G
 refine bsel_f (by simp;omega) (bsel_f (by simp;omega) ?_)
 refine new_C (cs := [.int .i64 most,.int .i64 0,.int .i64 0,.map none,.map none]) h fun p A1 h3 => ?_
 exact begin_spec h3 fun bo bt A2 h4 => hk p A2 (PcS.closeH (z := pcNew most) h4)
end Go.Dn
/- Translations that are kept. -/
namespace Go.Dn
structure Ln where
 v : Bool
 tag : Int
 page : Int
 frame : Int
 w : Bool
 u : Bool
 x : Bool
 g : Bool
 d : Bool
def Ln.cells (l : Ln) : List Value := [.bool l.v,.int .i64 l.tag,.int .i64 l.page,.int .i64 l.frame,.bool l.w,.bool l.u,.bool l.x,.bool l.g,.bool l.d]
def ln0 : Ln := ⟨false,0,0,0,false,false,false,false,false⟩
def lnC (ls : List Ln) : List Value := ls.flatMap Ln.cells
variable {A : AH} {l R : List SP} {p i k o : Nat} {ls : List Ln} {y m : Ln}
def TlbS (p : Nat) (ls : List Ln) : SP := fun B => ls.length = 16 ∧ At p (lnC ls) B
end Go.Dn
/- Translations: all that are kept; one more. -/
namespace Go.Dn
variable {A : AH} {l R : List SP} {p i k o : Nat} {ls : List Ln} {y m : Ln} {s : Sl}
theorem take_succ {α : Type} {L : List α} {v : Nat} {z : α} (h : L[v]? = some z) : L.take (v + 1) = L.take v ++ [z] := by rw [List.take_add_one,h];rfl
end Go.Dn
