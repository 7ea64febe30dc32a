/- The law BootmapParses: any bytes are read as the areas that they are. -/
import Derived.Test.YthplpkndhmhahaaRefFrames
namespace Go.Dn

variable {A : AH} {l R : List SP} {P P2 : SP} {k k2 : Nat} {s s2 : Sl} {bs : List Int}
theorem BootmapParses_spec {Q : Bool → AH → Prop} (h : Own l A) (e : l[k]? = some P) (hr : Reads P s 1 (bs.map byV)) (hc : s.len ≤ s.cap) (hn : s.a = none → bs = []) (hb : ∀ x ∈ bs, 0 ≤ x ∧ x < 256)
    (hk : ∀ A', Own l A' → Q true A') : demesnelaw06_BootmapParses_A s Q A := by
  unfold demesnelaw06_BootmapParses_A demesnelaw06_BootmapParses_G
  refine Cut_spec h e hr hc hn fun s1 A1 hs1 h1 => ?_
  have hb : ∀ x ∈ bs.take 1400, 0 ≤ x ∧ x < 256 := fun x hx => hb x (List.mem_of_mem_take hx)
  generalize bs.take 1400 = bs at *
  refine Parse_spec (k := 0) h1 rfl reads_slo h1.capS hs1 hb fun s3 A2 hs3 h2 => ?_
  refine RefParse_spec (k := 1) h2 rfl reads_slo h2.tail.capS hb fun s6 A3 hs6 h3 => ?_
  refine awake_spec h3 fun A4 h4 => bsel_f rfl (bsel_f (by simp) ?_)
  have hl3 := rd_ar_len (k := 1) h4 rfl reads_slo
  have hl6 := rd_ar_len (k := 0) h4 rfl reads_slo
  have h64 := parseP_len (bs := bs)
  refine bsel_f (by rw [hl3, hl6]; simp) ?_
  refine ⟨fun x m h' => ∃ v : Nat, x = v ∧ m + v = (parseP bs).2.length ∧ h' = A4, ⟨(parseP bs).2.length, 0, rfl, rfl, rfl⟩, ?_⟩
  intro x m A5 ⟨v, e3, e4, e5⟩
  subst e3 e5
  refine bsel_in (fun c => ?_) fun c => hk A5 h4.tail.tail.tail
  have c : (v : Int) < s6.len := of_decide_eq_true c
  obtain ⟨a, hav⟩ : ∃ a, (parseP bs).2[v]? = some a := ⟨(parseP bs).2[v]'(by omega), by simp⟩
  obtain ⟨ad, q1, r1, r2, r3⟩ := rd_ar (k := 1) h4 rfl reads_slo hav
  obtain ⟨ad2, q2, t1, t2, t3⟩ := rd_ar (k := 0) h4 rfl reads_slo hav
  rw [q1, q2]
  refine inB_in (by omega) (by omega) (r1 _ (r2 _ (r3 _ (inB_in (by omega) c (t1 _ (t2 _ (t3 _ (bsel_f (by simp) ?_))))))))
  exact ⟨m - 1, by omega, v + 1, by rw [w64] <;> omega, by omega, rfl⟩
end Go.Dn
