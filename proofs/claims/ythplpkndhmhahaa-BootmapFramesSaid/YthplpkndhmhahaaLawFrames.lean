/- The law BootmapFrames: just the frames that may be used come out of a map. -/
import Derived.Test.YthplpkndhmhahaaRefFrames
namespace Go.Dn

variable {A : AH} {l R : List SP} {P P2 : SP} {k k2 : Nat} {s s2 : Sl} {bs : List Int} {f : Int} {kn : Rg}
theorem BootmapFrames_spec {Q : Bool → AH → Prop} (h : Own l A) (e : l[k]? = some P) (hr : Reads P s 1 (bs.map byV)) (hc : s.len ≤ s.cap) (hn : s.a = none → bs = []) (hb : ∀ x ∈ bs, 0 ≤ x ∧ x < 256)
    (hk : ∀ A', Own l A' → Q true A') : demesnelaw06_BootmapFrames_A s f kn.1 kn.2 Q A := by
  unfold demesnelaw06_BootmapFrames_A demesnelaw06_BootmapFrames_G
  refine Cut_spec h e hr hc hn fun s1 A1 hs1 h1 => ?_
  have hb : ∀ x ∈ bs.take 1400, 0 ≤ x ∧ x < 256 := fun x hx => hb x (List.mem_of_mem_take hx)
  generalize bs.take 1400 = bs at *
  refine Frames_spec (k := 0) (kn := kn) h1 rfl reads_slo h1.capS hs1 hb fun er m s3 A2 ho hml hs3 h2 => ?_
  refine RefFrames_spec (k := 1) (kn := kn) h2 rfl reads_slo h2.tail.capS hb fun er2 m2 s6 A3 ho2 hml2 hs6 h3 => ?_
  obtain ⟨e1, e2⟩ := frOut_det ho ho2
  subst e1 e2
  refine awake_spec h3 fun A4 h4 => bsel_t rfl (bsel_t (by simp) ?_)
  refine Same_spec (k := 1) (k2 := 0) h4 rfl reads_slo rfl reads_slo (by omega) ?_
  simpa using hk A4 h4.tail.tail.tail
end Go.Dn
