/- What the proof stands on: Protect, Clear, Unmap, Pages. -/
import Derived.Test.YtmfmhmipcdgikaaGreatWords
import Derived.Test.YtmfmhmipcdgikaaGreatRoot
/- A page that may be used otherwise. -/
namespace Go.Dn
variable {A:AH} {l R:List SP} {r:Nat} {fr:Int} {hs:List (Int × Int)} {W:Int→Int→Int} {root:Int} {tab:Tab} {lf:Int→Option Lf}
end Go.Dn
/- A frame of zeros. -/
namespace Go.Dn
variable {A:AH} {l R:List SP} {r:Nat} {fr:Int} {hs:List (Int × Int)} {M:Int→Int} {W:Int→Int→Int}
end Go.Dn
/- A page less: tables that have nothing any more are given back. -/
namespace Go.Dn
variable {A:AH} {l R:List SP} {r b t i:Nat} {fr n:Int} {hs:List (Int × Int)} {W:Int→Int→Int} {F G:Int→Prop} {ns:List Nd} {nd:Nd} {root:Int} {tab:Tab} {lf:Int→Option Lf}
end Go.Dn
/- All pages that lead somewhere, rising. -/
namespace Go.Dn
variable {A:AH} {l R:List SP} {r o:Nat} {fr:Int} {hs:List (Int × Int)} {W:Int→Int→Int} {root:Int} {tab:Tab} {lf:Int→Option Lf}
end Go.Dn
