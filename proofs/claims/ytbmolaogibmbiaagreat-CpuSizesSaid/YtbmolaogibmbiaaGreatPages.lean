/- What the proof stands on: Protect, Clear, Unmap, Pages. -/
import Derived.Test.YtbmolaogibmbiaaGreatWords
import Derived.Test.YtbmolaogibmbiaaGreatRoot
/- A page that may be used otherwise. -/
namespace Go.Dn

variable {A : AH} {l R : List SP} {r : Nat} {fr : Int} {hs : List (Int × Int)} {W : Int → Int → Int} {root : Int} {tab : Tab} {lf : Int → Option Lf}
theorem DownOK.all {p : Int} {lst : List Int} {x : Lf} (h : DownOK tab p lst) (hT : TabW W root tab lf) (hp : 0 ≤ p ∧ p < 34359738368) (hx : lf p = some x) : lst.length = 4 := by
  have := h.le
  rcases Nat.lt_or_ge lst.length 4 with c | c
  · exact absurd (h.no c) (hT.chain hp hx _ c)
  · omega
end Go.Dn
/- A frame of zeros. -/
namespace Go.Dn

variable {A : AH} {l R : List SP} {r : Nat} {fr : Int} {hs : List (Int × Int)} {M : Int → Int} {W : Int → Int → Int}
end Go.Dn
/- A page less: tables that have nothing any more are given back. -/
namespace Go.Dn

variable {A : AH} {l R : List SP} {r b t i : Nat} {fr n : Int} {hs : List (Int × Int)} {W : Int → Int → Int} {F G : Int → Prop} {ns : List Nd} {nd : Nd} {root : Int} {tab : Tab} {lf : Int → Option Lf}
end Go.Dn
/- All pages that lead somewhere, rising. -/
namespace Go.Dn

variable {A : AH} {l R : List SP} {r o : Nat} {fr : Int} {hs : List (Int × Int)} {W : Int → Int → Int} {root : Int} {tab : Tab} {lf : Int → Option Lf}
/-- A slot that holds a slice of numbers. -/
def OutS (o : Nat) (out : List Int) : SP := fun B => ∃ s : Sl, (s.len = out.length ∧ (s.a = none → out = [])) ∧ Own [At o [.slice s.a s.len s.cap], SlO s 1 (intsV out)] B
theorem OutS.openH {out : List Int} (h : Own (OutS o out :: R) A) : ∃ s : Sl, (s.len = out.length ∧ (s.a = none → out = [])) ∧ Own (At o [.slice s.a s.len s.cap] :: SlO s 1 (intsV out) :: R) A := by
  obtain ⟨s, h⟩ := Own.ex h
  obtain ⟨h1, h⟩ := Own.pure h
  exact ⟨s, h1, h.flat⟩
theorem OutS.closeH {out : List Int} {s : Sl} (h1 : s.len = out.length) (h2 : s.a = none → out = []) (h : Own (At o [.slice s.a s.len s.cap] :: SlO s 1 (intsV out) :: R) A) : Own (OutS o out :: R) A :=
  (Own.app (l := [At o [.slice s.a s.len s.cap], SlO s 1 (intsV out)]) (r := R) h).imp fun _ hB => ⟨s, ⟨h1, h2⟩, hB⟩
/-- The pages below a prefix. -/
structure PagesOK (lf : Int → Option Lf) (d : Nat) (q : Int) (ps : List Int) : Prop where
  rise : ps.Pairwise (· < ·)
  mem : ∀ p, p ∈ ps ↔ (lf p ≠ none ∧ (0 ≤ p ∧ p < 34359738368) ∧ preP p d = q)
/-- The same, of places below one. -/
structure PagesL (lf : Int → Option Lf) (d : Nat) (q : Int) (v : Int) (ps : List Int) : Prop where
  rise : ps.Pairwise (· < ·)
  mem : ∀ p, p ∈ ps ↔ (lf p ≠ none ∧ (0 ≤ p ∧ p < 34359738368) ∧ preP p d = q ∧ atP p d < v)
theorem preP_lt {a c : Int} (ha : 0 ≤ a ∧ a < 34359738368) (hc : 0 ≤ c ∧ c < 34359738368) {d : Nat} (hd : d ≤ 4) (h : preP a d < preP c d) : a < c := by
  obtain rfl | rfl | rfl | rfl | rfl : d = 0 ∨ d = 1 ∨ d = 2 ∨ d = 3 ∨ d = 4 := by omega
  all_goals simp only [preP] at h
  all_goals omega
theorem PagesL.step {d : Nat} {q v : Int} {ps ps' : List Int} (hd : d < 4) (h : PagesL lf d q v ps) (h' : PagesOK lf (d + 1) (q * 512 + v) ps') (hv : 0 ≤ v ∧ v < 512) : PagesL lf d q (v + 1) (ps ++ ps') := by
  refine ⟨List.pairwise_append.2 ⟨h.rise, h'.rise, fun a ha c hc => ?_⟩, fun p => ?_⟩
  · obtain ⟨_, a1, a2, a3⟩ := (h.mem a).1 ha
    obtain ⟨_, c1, c2⟩ := (h'.mem c).1 hc
    refine preP_lt a1 c1 (d := d + 1) (by omega) ?_
    rw [(preP_succ a1 hd).1, c2, a2]
    omega
  · rw [List.mem_append, h.mem, h'.mem]
    constructor
    · rintro (⟨h1, h2, h3, h4⟩ | ⟨h1, h2, h3⟩)
      · exact ⟨h1, h2, h3, by omega⟩
      · obtain ⟨e1, e2, e3, _⟩ := preP_succ h2 hd
        rw [e1] at h3
        exact ⟨h1, h2, by omega, by omega⟩
    · rintro ⟨h1, h2, h3, h4⟩
      obtain ⟨e1, e2, e3, _⟩ := preP_succ h2 hd
      by_cases e : atP p d < v
      · exact .inl ⟨h1, h2, h3, e⟩
      · exact .inr ⟨h1, h2, by rw [e1, h3]; omega⟩
theorem PagesL.all {d : Nat} {q v : Int} {ps : List Int} (hd : d < 4) (h : PagesL lf d q v ps) (hv : v = 512 ∨ d = 0 ∧ v = 256) : PagesOK lf d q ps := by
  refine ⟨h.rise, fun p => ?_⟩
  rw [h.mem]
  constructor
  · rintro ⟨h1, h2, h3, _⟩; exact ⟨h1, h2, h3⟩
  · rintro ⟨h1, h2, h3⟩
    obtain ⟨_, e2, e3, e4, _⟩ := preP_succ h2 hd
    refine ⟨h1, h2, h3, ?_⟩
    rcases hv with rfl | ⟨hd0, rfl⟩
    · exact e3
    · exact e4 hd0
theorem PagesL.zero {d : Nat} {q : Int} (hd : d < 4) : PagesL lf d q 0 [] := by
  refine ⟨List.Pairwise.nil, fun p => ?_⟩
  simp only [List.not_mem_nil, false_iff]
  rintro ⟨_, h2, _, h4⟩
  have := (preP_succ h2 hd).2.1
  omega
end Go.Dn
