/- What the proof stands on: Protect, Clear, Unmap, Pages. -/
import Derived.Test.YtaafkchlmndbkaaGreatWords
import Derived.Test.YtaafkchlmndbkaaGreatRoot
/- A page that may be used otherwise. -/
namespace Go.Dn
variable {A : AH} {l R : List SP} {r : Nat} {fr : Int} {hs : List (Int × Int)} {W : Int→Int→Int} {root : Int} {tab : Tab} {lf : Int→Option Lf}
end Go.Dn
/- A frame of zeros. -/
namespace Go.Dn
variable {A : AH} {l R : List SP} {r : Nat} {fr : Int} {hs : List (Int × Int)} {M : Int→Int} {W : Int→Int→Int}
end Go.Dn
/- A page less: tables that have nothing any more are given back. -/
namespace Go.Dn
variable {A : AH} {l R : List SP} {r b t i : Nat} {fr n : Int} {hs : List (Int × Int)} {W : Int→Int→Int} {F G : Int→Prop} {ns : List Nd} {nd : Nd} {root : Int} {tab : Tab} {lf : Int→Option Lf}
def gone (lst : List Int) (v : Nat) : List Int := lst.drop (v + 1)
end Go.Dn
/- All pages that lead somewhere, rising. -/
namespace Go.Dn
variable {A : AH} {l R : List SP} {r o : Nat} {fr : Int} {hs : List (Int × Int)} {W : Int→Int→Int} {root : Int} {tab : Tab} {lf : Int→Option Lf}
theorem or_front {q i : Int} (h0 : 0 ≤ q) (h1 : q < 67108864) (h2 : 0 ≤ i) (h3 : i < 512) : bits .or .i64 (IntKind.wrap .i64 (q * 2 ^ (9 : Nat))) i = q * 512 + i := by
 obtain ⟨q,rfl⟩ := Int.eq_ofNat_of_zero_le h0
 obtain ⟨i,rfl⟩ := Int.eq_ofNat_of_zero_le h2
 rw [show ((q : Int) * 2 ^ (9 : Nat)) = ((q * 512 : Nat) : Int) by simp,w64 (by omega) (by omega)]
 have e : bits .or .i64 ((q * 512 : Nat) : Int) ((i : Nat) : Int) = IntKind.wrap .i64 ((BitVec.ofInt 64 ((q * 512 : Nat) : Int) ||| BitVec.ofInt 64 ((i : Nat) : Int)).toNat : Int) := rfl
 rw [e,BitVec.toNat_or,BitVec.ofInt_natCast,BitVec.ofInt_natCast,BitVec.toNat_ofNat,BitVec.toNat_ofNat,Nat.mod_eq_of_lt (by omega),Nat.mod_eq_of_lt (by omega)]
 have := Nat.shiftLeft_add_eq_or_of_lt (b := i) (i := 9) (by omega) q
 rw [Nat.shiftLeft_eq] at this
 rw [show q * 512 = q * 2 ^ 9 by rfl,← this,w64 (by omega) (by omega)]
 omega
end Go.Dn
