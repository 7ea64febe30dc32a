/- What a row's slices read as, in the heap as it was. -/
import Derived.Test.YtnjbnhciheeboaaLay
import Derived.Test.YtnjbnhciheeboaaDnO
import Derived.ProofKit
import Derived.Deep.Slices
import Derived.Deep.Strs
import Derived.Lib.SmallJoins
namespace Go.Dn
open Go.Deep Go.Joins Go.ChangeShapes Go.WideShapes Go.ChangeAt Go.RowKit

theorem reads_was {h : Hp} {a : Addr} {len cap sz : Nat} {cs : List Value} (hl : len * sz = cs.length) (hc : ∀ j v, cs[j]? = some v → cellH h (a.add j) = some v) : Reads (Was h) ⟨some a, len, cap⟩ sz cs := by
  intro B A hB u
  refine ⟨hl, fun j v hv => ?_⟩
  have hj := (List.getElem?_eq_some_iff.1 hv).1
  have h0 := hc 0 cs[0] (by simp [show 0 < cs.length by omega])
  have hs : a.spot = none := by
    have h1 : a.add 0 = a := by simp [Addr.add]
    rw [h1] at h0
    unfold cellH at h0
    split at h0
    · cases hsp : a.spot with
      | none => rfl
      | some _ => rw [hsp] at h0; simp at h0
    · cases h0
  obtain ⟨b, o, sp⟩ := a
  simp only at hs
  subst hs
  refine ⟨b, o, rfl, ?_⟩
  have h2 := hc j v hv
  rw [add_at] at h2
  unfold cellH at h2
  unfold cellA
  split at h2
  · rename_i c t f hb
    rw [u _ _ (hB _ _ hb)]
    exact h2
  · cases h2
theorem reads_nil {h : Hp} {sz : Nat} : Reads (Was h) Sl.nil sz [] := fun _ _ _ _ => ⟨by simp [Sl.nil], fun j v hv => by simp at hv⟩

instance : Inhabited Put := ⟨⟨0, 0, 0⟩⟩
theorem u64_wf {c : Int} (h : (Lit.int .u64 c).wf = true) : U64 c := by
  have h2 : (decide (IntKind.u64.min ≤ c) && decide (c ≤ IntKind.u64.max)) = true := h
  rw [show IntKind.u64.min = 0 by decide, show IntKind.u64.max = 18446744073709551615 by decide] at h2
  simp at h2
  exact ⟨h2.1, by omega⟩
section
variable {H : Type} {enc : TypeId × Value → H} {P : Program} {w : World} {base : Nat} {spare : Nat → Bool} {held : Bool}
theorem open_put {e : TypeId} {f0 f1 f2 : Field} {n : Nat} {cs : List Value} {x : DataW H × List MemPlace} (he : P.underlying e = some (.struct #[f0, f1, f2])) (hone : oneCellFields P #[f0, f1, f2] = true) (hC : P.cellsOf e = 3)
    (h0 : P.underlying f0.type = some (.int .i64)) (h1 : P.underlying f1.type = some (.int .i64)) (h2 : P.underlying f2.type = some (.int .u64)) (h : DataW.trod enc P w base spare held n e cs = some x) :
    ∃ p : Put, cs = [.int .i64 p.f, .int .i64 p.at_, .int .u64 p.x] ∧ U64 p.x := by
  obtain ⟨y0, y1, y2, m, _, hl, k0, k1, k2⟩ := trod_struct3 he h
  rw [hC] at hl
  obtain ⟨c0, c1, c2, rfl⟩ : ∃ c0 c1 c2, cs = [c0, c1, c2] := by
    match cs, hl with
    | [a, b, c], _ => exact ⟨a, b, c, rfl⟩
  obtain ⟨o0, q0⟩ := hone_of hone 0 f0 rfl
  obtain ⟨o1, q1⟩ := hone_of hone 1 f1 rfl
  obtain ⟨o2, q2⟩ := hone_of hone 2 f2 rfl
  obtain ⟨a, ea, _, _⟩ := DataW.trod_int h0 (by simpa [o0, q0] using k0 : DataW.trod enc P w base spare held m f0.type [c0] = some y0)
  obtain ⟨b, eb, _, _⟩ := DataW.trod_int h1 (by simpa [o1, q1] using k1 : DataW.trod enc P w base spare held m f1.type [c1] = some y1)
  obtain ⟨c, ec, _, wc⟩ := DataW.trod_int h2 (by simpa [o2, q2] using k2 : DataW.trod enc P w base spare held m f2.type [c2] = some y2)
  simp at ea eb ec
  subst ea eb ec
  refine ⟨⟨a, b, c⟩, rfl, ?_⟩
  exact u64_wf wc
theorem open_puts {r : Reach} {b0 : Nat} {t e : TypeId} {f0 f1 f2 : Field} {v : Value} {d : DataW H} {ps : List MemPlace} (ht : P.underlying t = some (.slice e)) (he : P.underlying e = some (.struct #[f0, f1, f2])) (hone : oneCellFields P #[f0, f1, f2] = true) (hC : P.cellsOf e = 3)
    (h0 : P.underlying f0.type = some (.int .i64)) (h1 : P.underlying f1.type = some (.int .i64)) (h2 : P.underlying f2.type = some (.int .u64)) (hw : Value.okWide P w r b0 t v) (h : DataW.Trod enc P w base spare held t v d ps) :
    ∃ (s : Sl) (l : List Put), v = .slice s.a s.len s.cap ∧ Reads (Was w.heap) s 3 (putCells l) ∧ (∀ p ∈ l, U64 p.x) ∧ l.length < 9223372036854775808 := by
  obtain ⟨n, h⟩ := h
  obtain ⟨a0, l0, c0, rfl⟩ := okWide_slice ht hw
  rcases open_slice ht h with ⟨hv, _⟩ | ⟨a, len, cap, m, k, D, Pl, hv, _, hlc, hcm, hm, _, hx⟩
  · have hv : ([Value.slice a0 l0 c0] : List Value) = [.slice none 0 0] := hv
    have hv : Value.slice a0 l0 c0 = .slice none 0 0 := by injection hv
    exact ⟨Sl.nil, [], hv, reads_nil, fun p hp => by simp at hp, by simp⟩
  · have hv : ([Value.slice a0 l0 c0] : List Value) = [.slice (some a) len cap] := hv
    have hv : Value.slice a0 l0 c0 = .slice (some a) len cap := by injection hv
    have hlm : len ≤ m := by rw [hm]; split <;> omega
    obtain ⟨F, hF⟩ := choose_lt (α := Put) (n := len) (p := fun i p => w.cells? base (a.add (i * 3)) 3 = some [.int .i64 p.f, .int .i64 p.at_, .int .u64 p.x] ∧ U64 p.x) (fun i hi => by
      obtain ⟨cs', k1, k2⟩ := hx i (by omega)
      rw [hC] at k1
      obtain ⟨p, rfl, hp⟩ := open_put he hone hC h0 h1 h2 k2
      exact ⟨p, k1, hp⟩)
    refine ⟨⟨some a, len, cap⟩, (List.range len).map F, hv, reads_was ?_ ?_, ?_, ?_⟩
    · rw [putCells_len]; simp
    · intro j v hj
      have hjl := (List.getElem?_eq_some_iff.1 hj).1
      rw [putCells_len] at hjl
      simp at hjl
      have hq : ((List.range len).map F)[j / 3]? = some (F (j / 3)) := by rw [List.getElem?_map, List.getElem?_range (by omega)]; rfl
      obtain ⟨a0, a1, a2⟩ := putCells_at hq
      obtain ⟨k1, _⟩ := hF (j / 3) (by omega)
      obtain ⟨_, _, k2⟩ := World.cells?_some k1
      have hadd : ∀ q, (a.add (j / 3 * 3)).add q = a.add (j / 3 * 3 + q) := fun q => by
        unfold Addr.add
        split <;> split <;> simp_all <;> omega
      obtain g | g | g : j = j / 3 * 3 ∨ j = j / 3 * 3 + 1 ∨ j = j / 3 * 3 + 2 := by omega
      · have k3 := k2 0 (by omega)
        rw [hadd] at k3
        rw [g, a0] at hj
        rw [g]
        exact k3.trans hj
      · have k3 := k2 1 (by omega)
        rw [hadd] at k3
        rw [g, a1] at hj
        rw [g]
        exact k3.trans hj
      · have k3 := k2 2 (by omega)
        rw [hadd] at k3
        rw [g, a2] at hj
        rw [g]
        exact k3.trans hj
    · intro p hp
      simp only [List.mem_map, List.mem_range] at hp
      obtain ⟨i, hi, rfl⟩ := hp
      exact (hF i hi).2
    · simp
      have hcm2 := hcm
      unfold maxLen at hcm2
      omega
theorem open_step {r : Reach} {b0 : Nat} {t : TypeId} {f0 f1 f2 g0 g1 g2 : Field} {v : Value} {d : DataW H} {p : List MemPlace} (hs : P.underlying t = some (.struct #[f0, f1, f2])) (hC : P.cellsOf t = 5)
    (ho : (f0.offset = 0 ∧ f1.offset = 1 ∧ f2.offset = 2) ∧ P.cellsOf f0.type = 1 ∧ P.cellsOf f1.type = 1 ∧ P.cellsOf f2.type = 3)
    (h0 : P.underlying f0.type = some (.int .i64)) (h1 : P.underlying f1.type = some (.int .u64)) (h2 : P.underlying f2.type = some (.struct #[g0, g1, g2])) (hone : oneCellFields P #[g0, g1, g2] = true)
    (k0 : P.underlying g0.type = some .bool) (k1 : P.underlying g1.type = some .bool) (k2 : P.underlying g2.type = some .bool)
    (hv : Value.okWide P w r b0 t v) (h : DataW.Trod enc P w base spare held t v d p) :
    ∃ (root a : Int) (x y z : Bool), v = .agg #[.int .i64 root, .int .u64 a, .bool x, .bool y, .bool z] ∧ U64 a := by
  obtain ⟨cs, rfl, hsz⟩ := okWide_struct hs hv
  obtain ⟨c0, c1, c2, c3, c4, rfl⟩ : ∃ c0 c1 c2 c3 c4, cs = #[c0, c1, c2, c3, c4] := by
    obtain ⟨l⟩ := cs
    rw [hC] at hsz
    match l, hsz with
    | [a, b, c, d, e], _ => exact ⟨a, b, c, d, e, rfl⟩
  obtain ⟨fuel, hf⟩ := h
  obtain ⟨y0, y1, y2, n, _, _, q0, q1, q2⟩ := trod_struct3 hs hf
  obtain ⟨⟨o0, o1, o2⟩, s0, s1, s2⟩ := ho
  obtain ⟨a, ea, _, _⟩ := DataW.trod_int h0 (by simpa [Value.cells, o0, s0] using q0 : DataW.trod enc P w base spare held n f0.type [c0] = some y0)
  obtain ⟨b, eb, _, wb⟩ := DataW.trod_int h1 (by simpa [Value.cells, o1, s1] using q1 : DataW.trod enc P w base spare held n f1.type [c1] = some y1)
  have q2 : DataW.trod enc P w base spare held n f2.type [c2, c3, c4] = some y2 := by simpa [Value.cells, o2, s2] using q2
  obtain ⟨z0, z1, z2, m, _, _, r0, r1, r2⟩ := trod_struct3 h2 q2
  obtain ⟨u0, v0⟩ := hone_of hone 0 g0 rfl
  obtain ⟨u1, v1⟩ := hone_of hone 1 g1 rfl
  obtain ⟨u2, v2⟩ := hone_of hone 2 g2 rfl
  obtain ⟨x, ex, _⟩ := DataW.trod_bool k0 (by simpa [u0, v0] using r0 : DataW.trod enc P w base spare held m g0.type [c2] = some z0)
  obtain ⟨y, ey, _⟩ := DataW.trod_bool k1 (by simpa [u1, v1] using r1 : DataW.trod enc P w base spare held m g1.type [c3] = some z1)
  obtain ⟨z, ez, _⟩ := DataW.trod_bool k2 (by simpa [u2, v2] using r2 : DataW.trod enc P w base spare held m g2.type [c4] = some z2)
  simp at ea eb ex ey ez
  subst ea eb ex ey ez
  exact ⟨a, b, x, y, z, rfl, u64_wf wb⟩
end
end Go.Dn
