/- bootmap.Parse: the areas that bytes say; the word for it. -/
import Derived.Test.YtfnkdpmbpgffbaaGreatDnX
namespace Go.Dn
def mG:List Int->Int
 | []=>0
 | b::r=>b+256*mG r
def lA (k:Nat):List Nat:=List.range k
theorem aAh (k:Nat):lA (k+1)=lA k++[k]:=List.range_succ
def areaZ (bs:List Int) (k:Nat):Int × Int × Int:=(mG ((bs.drop (20*k)).take 8),mG ((bs.drop (20*k+8)).take 8),mG ((bs.drop (20*k+16)).take 4))
def fJ (x:Int × Int × Int):List Value:=[.int .u64 x.1,.int .u64 x.2.1,.int .u32 x.2.2]
def areaOK (x:Int × Int × Int):Prop:=¬ IntKind.u64.wrap (x.1+x.2.1)<x.1
def paA (t:TypeId) (s:Sl) (K:Sl->Int->AP):AP:=λA=>∃ bs:List Int,bs.length=s.len/\s.len<=s.cap/\(∀ x ∈ bs,0<=x/\x<256)/\oU A s.a s.len (bs.map (.int .u8))/\
 (1280<bs.length->K Sl.nil 4 A)/\(bs.length<=1280->bs.length % 20≠0->K Sl.nil 14 A)/\
 (bs.length<=1280->bs.length % 20=0->(∃ i,i<bs.length / 20/\¬ areaOK (areaZ bs i))->K Sl.nil 3 A)/\
 (bs.length<=1280->bs.length % 20=0->(∀ i,i<bs.length / 20->areaOK (areaZ bs i))->(bs.length / 20=0->K Sl.nil 0 A)/\
  ∀ (cap:Nat) (cur:Array Value),bs.length / 20≠0->bs.length / 20<=cap->cur.size=cap*3->cur.toList.take (bs.length / 20*3)=((lA (bs.length / 20)).flatMap λi=>fJ (areaZ bs i))->
   aN A (.cells cur t) λg=>K ⟨some ⟨g,0,none⟩,bs.length / 20,cap⟩ 0)
end Go.Dn
