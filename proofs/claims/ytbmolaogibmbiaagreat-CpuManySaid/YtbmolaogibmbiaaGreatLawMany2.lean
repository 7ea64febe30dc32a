/- The law CpuMany, put together. -/
import Derived.Test.YtbmolaogibmbiaaGreatLawMany
namespace Go.Dn
variable {A : AH} {l R : List SP} {c : Mb} {cp n : Nat} {xv : Int}
def idsOf : Nat→List Int
 | 0 => []
 | 1 => [0]
 | 2 => [1,0]
 | n + 3 => [(n : Int) + 2,(n : Int) + 1,(n : Int)]
theorem idsOf_len (i : Nat) : (idsOf i).length = min i 3 := by
 match i with
 | 0 => rfl
 | 1 => rfl
 | 2 => rfl
 | n + 3 => simp [idsOf]
theorem idsOf_lt (i : Nat) : ∀ j ∈ idsOf i,0 ≤ j ∧ j < i := by
 match i with
 | 0 => simp [idsOf]
 | 1 => simp [idsOf]
 | 2 => simp [idsOf]
 | n + 3 =>
  intro j hj
  simp only [idsOf,List.mem_cons,List.not_mem_nil,or_false] at hj
  omega
theorem idsOf_small {i : Nat} (h : i < 3) : idsOf (i + 1) = (i : Int) :: idsOf i := by
 match i,h with
 | 0,_ => rfl
 | 1,_ => rfl
 | 2,_ => rfl
theorem idsOf_big (n : Nat) : ((n + 3 : Nat) : Int) :: idsOf (n + 3) = idsOf (n + 4) ++ [(n : Int)] := by
 show ((n + 3 : Nat) : Int) :: [(n : Int) + 2,(n : Int) + 1,(n : Int)] = [((n + 1 : Nat) : Int) + 2,((n + 1 : Nat) : Int) + 1,((n + 1 : Nat) : Int)] ++ [(n : Int)]
 simp only [List.cons_append,List.nil_append,List.cons.injEq,and_true]
 omega
theorem Many.cpu {ids : List Int} {K : Option Addr→Prop} (h : Many c cp n xv ids l A) (hk : K (some ⟨c.m,0,none⟩)) : aP ⟨cp,0,none⟩ A K := by
 obtain ⟨F,G,W,u,ls,z,sps,L,_,_,_,_,_,_,h⟩ := h
 exact cpu_mF h hk
theorem CpuMany_spec {k : Nat} {P : SP} {s : Sl} {ch : List Int} {tags m x : Int} {Q : Bool→AH→Prop} (h : Own l A) (e : l[k]? = some P) (hr : Reads P s 1 (ch.map (.int .i64))) (hcap : s.len ≤ s.cap) (hn : s.a = none→ch = [])
  (hk : ∀ A',Own l A'→Q true A') : qfd_A tags m s x Q A := by
 unfold qfd_A qfd_G
 have fin : qdt_A (fun b h' => Q b h') A := awake13_spec h fun A' h' => hk A' h'
 refine ⟨fun A' => A' = A ∧ (1 ≤ tags ∧ tags ≤ 50) ∧ (0 ≤ m ∧ m ≤ 60),fun A1 ⟨eA,ht,hm⟩ => ?_,?_⟩
 ·subst eA
  refine few_spec (m := 300) h e hr hcap hn (by omega) fun s9 A2 hn9 h2 => ?_
  refine Begin13_spec (k := 0) (N := 60) (tags := tags) h2 rfl reads_slC hn9 (by simp;omega) ⟨by omega,by omega⟩ ⟨by omega,by omega⟩ fun c F G W cp b0 mp A3 hcN hf hkn h3 => bsel_f rfl ?_
  generalize hl2 : At b0 [.int .i64 0,.int .i64 (-1),.int .i64 (60 - 1),.int .i64 2] :: SlO s9 1 ((ch.take 300).map (.int .i64)) :: l = l2 at h3
  have hend : ∀ {A' : AH},Own l2 A'→Own l A' := fun h' => by rw [← hl2] at h';exact h'.tail.tail
  generalize (ch.take 300).length = n at h3
  have hkn : 0 ≤ c.kern ∧ c.kern < c.N := ⟨hkn.1,by rw [hcN];exact hkn.2⟩
  refine ⟨fun x25 mm A' => ∃ i : Nat,x25 = i ∧ (i : Int) ≤ m ∧ (mm : Int) = m - i ∧ Many c cp n x (idsOf i) l2 A',⟨m.toNat,0,rfl,by omega,by omega,F,G,W,2,_,_,[],[],rfl,(fun a ha => by simp at ha),(fun a ha => by simp at ha),rfl,List.Perm.refl _,hf,h3⟩,fun x25 mm A4 ⟨i,e1,e2,e3,h4⟩ => ?_⟩
  subst e1
  refine bsel_in (fun cc => ?_) fun cc => ?_
  ·have cc : (i : Int) < m := of_decide_eq_true cc
   refine ⟨fun A' => Many c cp n x (idsOf (i + 1)) l2 A',fun A5 h5 => ⟨mm - 1,by omega,i + 1,by rw [w64] <;> omega,by omega,by omega,h5⟩,?_⟩
   refine OpenM (xv := x) (id := (i : Int)) h4 hcN hkn (by omega) (fun q => by have := idsOf_lt i _ q;omega) (by rw [idsOf_len];omega) fun A5 h5 => ?_
   refine ⟨fun A' => Many c cp n x ((i : Int) :: idsOf i) l2 A',fun A6 h6 => ?_,bsel_f rfl (bsel_f rfl (bsel_f rfl (bsel_f rfl (bsel_f (by simp [wv]) h5))))⟩
   refine bsel_in (fun g => ?_) fun g => ?_
   ·have g : (i : Int) ≥ 3 := of_decide_eq_true g
    obtain ⟨t,rfl⟩ : ∃ t,i = t + 3 := ⟨i - 3,by omega⟩
    have hw : IntKind.wrap .i64 (((t + 3 : Nat) : Int) - 3) = (t : Int) := by rw [w64 (by omega) (by omega)];omega
    rw [hw]
    rw [idsOf_big] at h6
    refine LoadM h6 hcN (by simp) (by simp [idsOf_len]) fun A7 h7 => bsel_f rfl (bsel_f (by simp [wv]) (Many.cpu h7 ?_))
    exact CloseM h7 fun A8 h8 => bsel_f rfl h8
   ·have g : ¬(i : Int) ≥ 3 := of_decide_eq_false g
    rw [← idsOf_small (by omega)] at h6
    exact h6
  ·have cc : ¬(i : Int) < m := of_decide_eq_false cc
   have him : (i : Int) = m := by omega
   have hlen := idsOf_len i
   have hlt := idsOf_lt i
   generalize idsOf i = ids at h4 hlen hlt
   obtain ⟨F,G,W,u,ls,z,sps,L,rfl,hr4,hi,hu,hs,hf4,h4⟩ := h4
   refine awake13_spec h4 fun A5 h5 => bsel_t rfl (cpu_mF h5 ?_)
   refine Stale_spec h5 hs hf4 fun s6 A6 hs6 h6 => bsel_t (by rw [hs6];rfl) (cpu_mF h6 ?_)
   rw [List.length_map] at hlen
   refine SpacesF h6 hs (by omega) (fun a ha => by have := hlt _ (List.mem_map_of_mem ha);omega) fun s7 is A7 hp hsl h7 => bsel_t ?_ (cpu_mF h7.tail ?_)
   ·have h8 : s7.len = min i 3 := by rw [hsl,hp.length_eq,List.length_map,hlen]
    rw [h8]
    have : (Int.ofNat (min i 3)) = (if (3 : Int) < m then (3 : Int) else m) := by
     show ((min i 3 : Nat) : Int) = _
     split <;> omega
    rw [this];simp
   ·refine kind_spec (ids := L.map (·.id)) ⟨F,G,W,u,ls,z,sps,L,rfl,hr4,hi,hu,hs,hf4,h7.tail⟩ (by rw [List.length_map];omega) (fun j hj => by have := hlt j hj;omega) fun A8 h8 => ?_
    exact hk A8 (hend (Many.rest h8))
 ·refine bsel_in (fun _ => fin) fun g1 => bsel_in (fun _ => fin) fun g2 => bsel_in (fun _ => fin) fun g3 => bsel_in (fun _ => fin) fun g4 => ?_
  have g1 := of_decide_eq_false g1
  have g2 := of_decide_eq_false g2
  have g3 := of_decide_eq_false g3
  have g4 := of_decide_eq_false g4
  exact ⟨rfl,⟨by omega,by omega⟩,by omega,by omega⟩
end Go.Dn
