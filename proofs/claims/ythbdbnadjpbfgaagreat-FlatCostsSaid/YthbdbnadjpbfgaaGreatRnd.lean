/- What the proof stands on: Maps, MapsE, Rnd. -/
import Derived.Test.YthbdbnadjpbfgaaGreatDnY
import Derived.Test.YthbdbnadjpbfgaaGreatDnN
import Derived.Test.YthbdbnadjpbfgaaGreatBas
/- Maps with numbers as keys: what is taken out, how many, all keys; the block that a number is in. -/
namespace Go.Dn
open Go.MapKept

variable {A : AH} {l R : List SP}
def delM (m : List (Int × Value)) (key : Int) : List (Int × Value) := match m with
  | [] => []
  | p :: m => if p.1 = key then m else p :: delM m key
theorem find_del {k : IntKind} {key : Int} : ∀ (es : List MapEntry) (m : List (Int × Value)) (j : Nat), es.map (fun e => (e.key, e.val)) = m.map (fun p => (.int k p.1, p.2)) →
    ∃ r, Instr.findNow (.int k) (.int k key) es j = some r ∧
      (∀ i v, r = some (i, v) → j ≤ i ∧ i - j < es.length ∧ (es.eraseIdx (i - j)).map (fun e => (e.key, e.val)) = (delM m key).map (fun p => (.int k p.1, p.2))) ∧ (r = none → delM m key = m)
  | [], [], j, _ => ⟨none, rfl, (fun _ _ e => nomatch e), fun _ => rfl⟩
  | [], _ :: _, _, e => by simp at e
  | _ :: _, [], _, e => by simp at e
  | e :: es, p :: m, j, h => by
    simp only [List.map_cons, List.cons.injEq, Prod.mk.injEq] at h
    obtain ⟨⟨h1, h2⟩, h3⟩ := h
    simp only [Instr.findNow, h1, Instr.sameNow]
    by_cases q : p.1 = key
    · refine ⟨some (j, e.val), by simp [q], ?_, fun hn => by cases hn⟩
      intro i v hv
      simp only [Option.some.injEq, Prod.mk.injEq] at hv
      obtain ⟨rfl, rfl⟩ := hv
      exact ⟨Nat.le_refl _, by simp, by simp [delM, q, h3]⟩
    · obtain ⟨r, k1, k3, k4⟩ := find_del (k := k) (key := key) es m (j + 1) h3
      refine ⟨r, ?_, ?_, ?_⟩
      · have g : (key == p.1) = false := by simpa using fun g => q g.symm
        rw [g]; exact k1
      · intro i v hv
        obtain ⟨k5, k6, k7⟩ := k3 i v hv
        refine ⟨by omega, by simp; omega, ?_⟩
        rw [show i - j = (i - (j + 1)) + 1 by omega]
        simp only [List.eraseIdx_cons_succ, List.map_cons, k7]
        simp [delM, q, h1, h2]
      · intro hn
        simp [delM, q, k4 hn]
theorem dl_M {i b : Nat} {k : IntKind} {key : Int} {m : List (Int × Value)} {K : AP} (h : Own l A) (e : l[i]? = some (MapI b k m)) (hk : ∀ A', Own (l.set i (MapI b k (delM m key))) A' → K A') : aMDl A (some b) k key K := by
  obtain ⟨es, c, h1, h2, hst⟩ := h.map e
  obtain ⟨r, k1, k3, k4⟩ := find_del (k := k) (key := key) es.toList m 0 h2
  refine ⟨es, c, h1, r, k1, hk _ ?_⟩
  refine h.upd e (fun B ⟨_, _, hb, _⟩ => ⟨_, hb⟩) fun B _ => ?_
  cases r with
  | none =>
    refine ⟨_, _, updA_self, ?_, hst⟩
    rw [k4 rfl]; exact h2
  | some p =>
    obtain ⟨i, v0⟩ := p
    obtain ⟨k5, k6, k7⟩ := k3 i v0 rfl
    refine ⟨_, _, updA_self, ?_, stamped_erase hst i⟩
    show (es.eraseIdxIfInBounds i).toList.map _ = _
    have : (es.eraseIdxIfInBounds i).toList = es.toList.eraseIdx i := by
      rw [Array.eraseIdxIfInBounds_eq]
      split
      · simp
      · rename_i g
        rw [List.eraseIdx_of_length_le (by simpa using Nat.le_of_not_lt g)]
    rw [this]
    exact k7
theorem ln_M {i b : Nat} {k : IntKind} {m : List (Int × Value)} {K : Int → Prop} (h : Own l A) (e : l[i]? = some (MapI b k m)) (hk : K m.length) : aMLn A (some b) K := by
  obtain ⟨es, c, h1, h2, _⟩ := h.map e
  refine ⟨es.toList, by simp [mapEA, h1], ?_⟩
  have : es.toList.length = m.length := by
    have := congrArg List.length (show es.toList.map (fun e => (e.key, e.val)) = _ from h2)
    simpa using this
  rw [this]; exact hk
/-- All keys, in any order, in a slice of one's own. -/
theorem cl_M {i b r t : Nat} {m : List (Int × Value)} {Q : Sl → AP} {j : Nat} (h : Own l A) (ep : l[j]? = some (At b [.map (some r)])) (e : l[i]? = some (MapI r .i64 m)) (hn : m.length ≤ 17592186044416) (hr : ∀ p ∈ m, (Lit.int .i64 p.1).wf = true)
    (h0 : m = [] → Q Sl.nil A)
    (hk : ∀ (ss : List Int) s A', ss.Perm (m.map (·.1)) → ss ≠ [] → s.len = ss.length → Own (SlAt s 1 (ss.map (.int .i64)) :: l) A' → Q s A') : clA t (some ⟨b, 0, none⟩) Q A := by
  obtain ⟨es, c, h1, h2, hst⟩ := h.map e
  refine ⟨b, some r, rfl, cell_at ep h rfl, es, c, h1, ⟨hst, ?_, ?_⟩, fun ss hs => ⟨fun he => ?_, fun cap cur hne hle hsz hcur => ?_⟩⟩
  · have : es.toList.length = m.length := by
      have := congrArg List.length (show es.toList.map (fun e => (e.key, e.val)) = _ from h2)
      simpa using this
    have : es.size = m.length := by simpa using this
    omega
  · intro x hx
    have : (x.key, x.val) ∈ m.map fun p => ((.int .i64 p.1 : Value), p.2) := by rw [← show es.toList.map (fun e => (e.key, e.val)) = _ from h2]; exact List.mem_map.2 ⟨x, hx, rfl⟩
    obtain ⟨p, hp, hpe⟩ := List.mem_map.1 this
    simp only [Prod.mk.injEq] at hpe
    exact ⟨p.1, hpe.1.symm, hr p hp⟩
  · apply h0
    subst he
    have := hs.length_eq
    have h3 : es.toList.length = m.length := by
      have := congrArg List.length (show es.toList.map (fun e => (e.key, e.val)) = _ from h2)
      simpa using this
    apply List.length_eq_zero_iff.1
    simp at this h3
    rw [← h3, ← this]
  · intro g hg
    have hm : es.toList.map keyI = m.map (·.1) := by
      have h3 : (es.toList.map fun e => (e.key, e.val)).map (fun p => match p.1 with | .int _ n => n | _ => 0) = (m.map fun p => ((.int .i64 p.1 : Value), p.2)).map (fun p => match p.1 with | .int _ n => n | _ => 0) := congrArg _ h2
      rw [List.map_map, List.map_map] at h3
      exact h3
    rw [hm] at hs
    refine hk ss _ _ hs hne rfl (h.new hg fun B hB => ⟨by simp, hle, fun _ => ⟨g, [], cur.toList.drop ss.length, rfl, t, ?_⟩⟩)
    have : [] ++ ss.map (Value.int .i64) ++ cur.toList.drop ss.length = cur.toList := by
      rw [List.nil_append, ← hcur, List.take_append_drop]
    rw [this, hB, Array.toArray_toList]
end Go.Dn
/- An entry of a map that is read and written again. -/
namespace Go.Dn
open Go.MapKept

variable {A : AH} {l R : List SP}
/-- A map, with the stamp of one of its entries. -/
def MapB (b : Nat) (k : IntKind) (m : List (Int × Value)) (key st : Int) : SP := fun B => ∃ es c, B b = some (.map es c) ∧ MapE k es m ∧ Stamped es c ∧ ∃ (j : Nat) (e : MapEntry), es[j]? = some e ∧ e.key = .int k key ∧ (e.born : Int) = st
theorem MapB.map {b : Nat} {k : IntKind} {m : List (Int × Value)} {key st : Int} {B : AH} (h : MapB b k m key st B) : MapI b k m B := by
  obtain ⟨es, c, h1, h2, h3, _⟩ := h
  exact ⟨es, c, h1, h2, h3⟩
theorem putM_same {key : Int} {v : Value} : ∀ {m : List (Int × Value)}, m.lookup key = some v → putM m key v = m
  | [], h => by simp at h
  | p :: m, h => by
    unfold putM
    by_cases e : p.1 = key
    · rw [if_pos e]
      have : (key == p.1) = true := by simp [e]
      simp only [List.lookup, this, Option.some.injEq] at h
      rw [← h, ← e]
    · rw [if_neg e]
      have : (key == p.1) = false := by simpa using fun g => e g.symm
      simp only [List.lookup, this] at h
      rw [putM_same h]
theorem putM_putM {key : Int} {v w : Value} : ∀ {m : List (Int × Value)}, putM (putM m key v) key w = putM m key w
  | [] => by simp [putM]
  | p :: m => by
    by_cases e : p.1 = key
    · simp [putM, e]
    · simp [putM, e, putM_putM (m := m)]
theorem updA_same {A : AH} {b : Nat} {o : Obj} (h : A b = some o) : updA A b o = A := by
  funext c
  unfold updA
  split
  · rename_i e; rw [e, h]
  · rfl
theorem en_M {i b : Nat} {k : IntKind} {key : Int} {z : Value} {m : List (Int × Value)} {K : Value → Int → AP} (h : Own l A) (e : l[i]? = some (MapI b k m))
    (hk : ∀ st A', Own (l.set i (MapB b k (putM m key ((m.lookup key).getD z)) key st)) A' → K ((m.lookup key).getD z) st A') : aMEn A (some b) k key z K := by
  obtain ⟨es, c, h1, h2, hst⟩ := h.map e
  obtain ⟨r, k1, k2, k3, k4⟩ := find_lookup (k := k) (key := key) es.toList m 0 h2
  refine ⟨b, es, c, rfl, h1, r, k1, ?_⟩
  cases r with
  | none =>
    have h5 : m.lookup key = none := by rw [← k2]; rfl
    rw [h5] at hk
    refine hk c _ (h.upd e (fun B ⟨_, _, hb, _⟩ => ⟨_, hb⟩) fun B _ => ⟨_, _, updA_self, ?_, stamped_push hst fun x hx g => ?_, es.size, { key := .int k key, val := z, born := c }, by simp, rfl, rfl⟩)
    · show (es.push _).toList.map _ = _
      simp only [Array.toList_push, List.map_append, List.map_cons, List.map_nil, Option.getD_none]
      rw [k4 rfl z, List.map_append]
      rw [show es.toList.map (fun e => (e.key, e.val)) = _ from h2]
      rfl
    · have h6 : (x.key, x.val) ∈ m.map fun p => ((.int k p.1 : Value), p.2) := by rw [← h2]; exact List.mem_map.2 ⟨x, hx, rfl⟩
      obtain ⟨p, hp, hpe⟩ := List.mem_map.1 h6
      simp only [Prod.mk.injEq] at hpe
      rw [g] at hpe
      have hk : p.1 = key := by have := hpe.1; injection this
      exact lookup_no h5 (List.mem_map.2 ⟨p, hp, hk⟩)
  | some p =>
    obtain ⟨j, v0⟩ := p
    obtain ⟨_, e', he', hek, hev⟩ := findNow_key _ _ _ _ k1
    have he' : es[j]? = some e' := by simpa using he'
    have h5 : m.lookup key = some v0 := by rw [← k2]; rfl
    rw [h5] at hk
    simp only [Option.getD_some] at hk
    rw [putM_same h5] at hk
    refine ⟨e', he', hk _ A ?_⟩
    obtain ⟨bs, rest⟩ : ∃ o, A b = some o := ⟨_, h1⟩
    have h7 := h.upd (P' := MapB b k m key e'.born) (o' := .map es c) e (fun B ⟨_, _, hb, _⟩ => ⟨_, hb⟩) fun B _ => ⟨es, c, updA_self, h2, hst, j, e', he', hek, rfl⟩
    rwa [updA_same h1] at h7
theorem es_M {i b : Nat} {k : IntKind} {key st : Int} {v : Value} {m : List (Int × Value)} {K : AP} (h : Own l A) (e : l[i]? = some (MapB b k m key st))
    (hk : ∀ A', Own (l.set i (MapI b k (putM m key v))) A' → K A') : aMES A (some b) st v K := by
  obtain ⟨B0, u0, es, c, h1, h2, hst, j, e', he', hek, hb⟩ := h.get e
  have h1 := u0 _ _ h1
  obtain ⟨r, k1, k2, k3, k4⟩ := find_lookup (k := k) (key := key) es.toList m 0 h2
  have hjl := (Array.getElem?_eq_some_iff.1 he').1
  have hjv := (Array.getElem?_eq_some_iff.1 he').2
  have hfi : es.findIdx? (fun e => (e.born : Int) == st) = some j := by
    rw [Array.findIdx?_eq_some_iff_getElem]
    refine ⟨hjl, by rw [hjv]; simpa using hb, fun t ht g => ?_⟩
    have g : (es[t].born : Int) = st := by simpa using g
    have hnd := hst.2.1
    rw [List.nodup_iff_pairwise_ne, List.pairwise_map, List.pairwise_iff_getElem] at hnd
    refine hnd t j (by simpa using Nat.lt_trans ht hjl) (by simpa using hjl) ht ?_
    simp only [Array.getElem_toList]
    rw [hjv]; omega
  refine ⟨b, es, c, j, rfl, h1, hfi, hk _ ?_⟩
  refine h.upd e (fun B ⟨_, _, hb, _⟩ => ⟨_, hb⟩) fun B _ => ⟨_, _, updA_self, ?_, stamped_modify hst j _ (fun _ _ => rfl) (fun _ _ _ => rfl)⟩
  cases r with
  | none =>
    exfalso
    have h5 : m.lookup key = none := by rw [← k2]; rfl
    have h6 : (e'.key, e'.val) ∈ m.map fun p => ((.int k p.1 : Value), p.2) := by rw [← h2]; exact List.mem_map.2 ⟨e', by rw [← hjv]; simp, rfl⟩
    obtain ⟨p, hp, hpe⟩ := List.mem_map.1 h6
    simp only [Prod.mk.injEq] at hpe
    rw [hek] at hpe
    have hk : p.1 = key := by have := hpe.1; injection this
    exact lookup_no h5 (List.mem_map.2 ⟨p, hp, hk⟩)
  | some p =>
    obtain ⟨t, v0⟩ := p
    obtain ⟨_, e2, he2, hek2, _⟩ := findNow_key _ _ _ _ k1
    have he2 : es[t]? = some e2 := by simpa using he2
    have htl := (Array.getElem?_eq_some_iff.1 he2).1
    have htv := (Array.getElem?_eq_some_iff.1 he2).2
    have htj : t = j := by
      have hnd := hst.2.2
      rw [List.nodup_iff_pairwise_ne, List.pairwise_map, List.pairwise_iff_getElem] at hnd
      rcases Nat.lt_trichotomy t j with g | g | g
      · exact absurd (by rw [Array.getElem_toList, Array.getElem_toList, htv, hjv, hek, hek2]) (hnd t j (by simpa using htl) (by simpa using hjl) g)
      · exact g
      · exact absurd (by rw [Array.getElem_toList, Array.getElem_toList, htv, hjv, hek, hek2]) (hnd j t (by simpa using hjl) (by simpa using htl) g)
    subst htj
    obtain ⟨k5, k6⟩ := k3 t v0 rfl
    show (es.modify t _).toList.map _ = _
    rw [Array.toList_modify, ← k6 v, Nat.sub_zero]
    congr 1
    apply List.ext_getElem?
    intro q
    rw [List.getElem?_modify, List.getElem?_modify]
    by_cases g : t = q
    · subst g
      have : es.toList[t]? = some e' := by simpa using he'
      rw [this]
      simp [hek]
    · simp [g]
end Go.Dn
/- Rounds over a map with numbers as keys. -/
namespace Go.Dn
open Go.MapKept

variable {A : AH} {l R : List SP} {it lm : Nat} {m todo : List (Int × Value)} {cur : Option (Int × Value)} {z : Int × Value}
theorem nodup_inj {α β : Type} {f : α → β} : ∀ {l : List α}, (l.map f).Nodup → ∀ {a b : α}, a ∈ l → b ∈ l → f a = f b → a = b
  | [], _, _, _, h, _, _ => by cases h
  | x :: l, h, a, b, ha, hb, e => by
    rw [List.map_cons, List.nodup_cons] at h
    cases ha with
    | head =>
      cases hb with
      | head => rfl
      | tail _ hb' => exact (h.1 (List.mem_map.2 ⟨b, hb', e.symm⟩)).elim
    | tail _ ha' =>
      cases hb with
      | head => exact (h.1 (List.mem_map.2 ⟨a, ha', e⟩)).elim
      | tail _ hb' => exact nodup_inj h.2 ha' hb' e
def intV : Value → Int
  | .int _ n => n
  | _ => 0
def kvE (e : MapEntry) : Int × Value := (intV e.key, e.val)
/-- A round over a map that is under way: what is still to come, and which entry it is at. -/
def RndS (it lm : Nat) (m todo : List (Int × Value)) (cur : Option (Int × Value)) : SP := fun B => ∃ es c seen, B it = some (.mapIter (some lm) c seen c) ∧ B lm = some (.map es c) ∧ MapE .i64 es m ∧ Stamped es c ∧
  ((es.toList.filter fun e => !seen.contains e.born).map kvE).Perm todo ∧ ∀ z, cur = some z → ∃ x ∈ es.toList, seen.back? = some x.born ∧ x.key = .int .i64 z.1 ∧ x.val = z.2
theorem mapL_kv {el : List MapEntry} (h : el.map (fun e => (e.key, e.val)) = m.map fun p => (.int .i64 p.1, p.2)) : el.map kvE = m := by
  induction el generalizing m with
  | nil => cases m with
    | nil => rfl
    | cons _ _ => simp at h
  | cons e es ih => cases m with
    | nil => simp at h
    | cons p m =>
      simp only [List.map_cons, List.cons.injEq, Prod.mk.injEq] at h
      rw [List.map_cons, ih h.2]
      unfold kvE
      rw [h.1.1, h.1.2]
      rfl
theorem mapE_kv {es : Array MapEntry} (h : MapE .i64 es m) : es.toList.map kvE = m := mapL_kv h
theorem perm_drop {α : Type} {f : α → Nat} {p q : α → Bool} {x : α} : ∀ {l : List α}, (l.map f).Nodup → x ∈ l → p x = true → (∀ y ∈ l, q y = (p y && !(f y == f x))) → (l.filter p).Perm (x :: l.filter q)
  | [], _, h, _, _ => by cases h
  | y :: l, hn, hx, hp, hq => by
    rw [List.map_cons, List.nodup_cons] at hn
    have hq' : ∀ y ∈ l, q y = (p y && !(f y == f x)) := fun z hz => hq z (by simp [hz])
    have hy := hq y (by simp)
    rcases List.mem_cons.1 hx with e | hx'
    · subst e
      have hqx : q x = false := by rw [hy]; simp
      rw [List.filter_cons_of_pos hp, List.filter_cons_of_neg (by simp [hqx])]
      have : l.filter p = l.filter q := List.filter_congr fun z hz => by
        rw [hq' z hz]
        have : f z ≠ f x := fun e => hn.1 (List.mem_map.2 ⟨z, hz, e⟩)
        simp [this]
      rw [this]
    · have ih := perm_drop hn.2 hx' hp hq'
      have hne : f y ≠ f x := fun e => hn.1 (List.mem_map.2 ⟨x, hx', e.symm⟩)
      have hqy : q y = p y := by rw [hy]; simp [hne]
      cases hpy : p y with
      | true =>
        rw [List.filter_cons_of_pos hpy, List.filter_cons_of_pos (by rw [hqy, hpy])]
        exact (ih.cons y).trans (List.Perm.swap x y _)
      | false =>
        rw [List.filter_cons_of_neg (by simp [hpy]), List.filter_cons_of_neg (by simp [hqy, hpy])]
        exact ih
theorem mapE_key {es : Array MapEntry} (h : MapE .i64 es m) : ∀ x ∈ es.toList, x.key = .int .i64 (kvE x).1 := fun x hx => by
  have : (x.key, x.val) ∈ m.map fun p => ((.int .i64 p.1 : Value), p.2) := by rw [← show es.toList.map (fun e => (e.key, e.val)) = _ from h]; exact List.mem_map.2 ⟨x, hx, rfl⟩
  obtain ⟨p, _, e⟩ := List.mem_map.1 this
  simp only [Prod.mk.injEq] at e
  unfold kvE
  rw [← e.1]; rfl
theorem Own.rnd (h : Own (RndS it lm m todo cur :: R) A) : Own (MapI lm .i64 m :: R) A := h.imp fun _ ⟨es, c, _, _, h2, h3, h4, _⟩ => ⟨es, c, h2, h3, h4⟩
theorem rg_S {K : Addr → AP} (h : Own (MapI lm .i64 m :: R) A) (hk : ∀ it A', Own (RndS it lm m m none :: R) A' → K ⟨it, 0, none⟩ A') : rgA A (some lm) K := by
  obtain ⟨es, h⟩ := Own.ex h
  obtain ⟨c, h⟩ := Own.ex h
  obtain ⟨B0, u0, hm, hes, hst⟩ := h.sat
  refine ⟨es, c, u0 _ _ hm, fun it hit => hk it _ ?_⟩
  have hne : it ≠ lm := fun e => by rw [e, u0 _ _ hm] at hit; cases hit
  obtain ⟨B, C, h1, h2, h3, h4, h5⟩ := h
  refine ⟨updA B it (.mapIter (some lm) c #[] c), C, fun b => ?_, fun b o e => ?_, fun b o e => ?_, ⟨es, c, #[], updA_self, ?_, h4.2.1, h4.2.2, ?_, fun z e => by cases e⟩, h5⟩
  · by_cases g : b = it
    · subst g
      right
      cases hc : C b with
      | none => rfl
      | some o => rw [h3 _ _ hc] at hit; cases hit
    · rcases h1 b with q | q
      · left; simp [updA, g, q]
      · exact .inr q
  · unfold updA at e ⊢
    split at e
    · rename_i g; rw [if_pos g]; exact e
    · rename_i g; rw [if_neg g]; exact h2 _ _ e
  · have := h3 _ _ e
    unfold updA
    rw [if_neg (fun g => by rw [g, hit] at this; cases this)]
    exact this
  · show updA B it _ lm = _
    unfold updA
    rw [if_neg (fun g => hne g.symm)]
    exact h4.1
  · have : (es.toList.filter fun e => !(#[] : Array Nat).contains e.born) = es.toList := by
      rw [List.filter_eq_self]
      intro a _; simp
    rw [this, mapE_kv h4.2.1]
theorem nx_S {K0 : AP} {K1 : Value → Value → AP} (h : Own (RndS it lm m todo cur :: R) A) (h0 : todo = [] → K0 A)
    (h1 : ∀ z todo' A', todo.Perm (z :: todo') → Own (RndS it lm m todo' (some z) :: R) A' → K1 (.int .i64 z.1) z.2 A') : aNx A ⟨it, 0, none⟩ K0 K1 := by
  obtain ⟨es, h⟩ := Own.ex h
  obtain ⟨c, h⟩ := Own.ex h
  obtain ⟨seen, h⟩ := Own.ex h
  obtain ⟨B0, u0, hi, hm, hes, hst, htd, hcur⟩ := h.sat
  have hnot : (!seen.isEmpty && !es.isEmpty && es.all (fun x => decide (x.born ≥ c))) = false := by
    cases he : es.isEmpty with
    | true => simp
    | false =>
      have : es.all (fun x => decide (x.born ≥ c)) = false := by
        rw [Array.all_eq_false]
        have hpos : 0 < es.size := by
          rcases Nat.eq_zero_or_pos es.size with z | z
          · exact absurd (Array.eq_empty_of_size_eq_zero z) (Array.isEmpty_eq_false_iff.1 he)
          · exact z
        refine ⟨0, hpos, ?_⟩
        have := hst.1 es[0] (by simp)
        simpa using this
      rw [this]; simp
  refine ⟨some lm, c, seen, c, rfl, u0 _ _ hi, es, c, u0 _ _ hm, hnot, fun hemp => h0 ?_, fun x hx hns => ?_⟩
  · have hall : (es.toList.filter fun e => !seen.contains e.born) = [] := by
      rw [List.filter_eq_nil_iff]
      intro x hx hc
      have h5 : x ∈ (es.filter fun e => !seen.contains e.born).filter fun e => decide (e.born < c) := by
        rw [Array.mem_filter, Array.mem_filter]
        exact ⟨⟨by simpa using hx, hc⟩, by simpa using hst.1 x hx⟩
      rw [Array.isEmpty_iff] at hemp
      rw [hemp] at h5
      simp at h5
    rw [hall] at htd
    exact List.nil_perm.1 htd
  · have hx' : x ∈ es.toList := by simpa using hx
    have hk := mapE_key hes x hx'
    have hp : todo.Perm (kvE x :: (es.toList.filter fun e => !(seen.push x.born).contains e.born).map kvE) := htd.symm.trans ((perm_drop (x := x) hst.2.1 hx' (by rw [hns]; rfl) fun y _ => by
      rw [Array.contains_push, Bool.not_or]).map kvE)
    rw [hk]
    refine h1 (kvE x) _ _ hp ?_
    refine h.upd0 (fun B hB => hB.1) fun B hB => ⟨es, c, seen.push x.born, updA_self, ?_, hes, hst, ?_, fun z e => ?_⟩
    · obtain ⟨g1, g2, _⟩ := hB
      unfold updA
      rw [if_neg (fun g => by rw [g, g1] at g2; cases g2)]
      exact g2
    · exact List.Perm.refl _
    · cases e
      exact ⟨x, hx', by simp, hk, rfl⟩
theorem ey_S {K : Int → Value → Prop} (h : Own (RndS it lm m todo (some z) :: R) A) (hk : K z.1 z.2) : aEy A ⟨it, 0, none⟩ K := by
  obtain ⟨B, u, es, c, seen, hi, hm, hes, hst, _, hcur⟩ := h.sat
  obtain ⟨x, hx, h1, h2, h3⟩ := hcur z rfl
  have hfind : es.find? (fun e => e.born == x.born) = some x := by
    cases hf : es.find? (fun e => e.born == x.born) with
    | none =>
      rw [Array.find?_eq_none] at hf
      exact absurd (hf x (by simpa using hx)) (by simp)
    | some w =>
      have h6 := Array.find?_some hf
      have h7 := Array.mem_of_find?_eq_some hf
      have : w = x := nodup_inj hst.2.1 (by simpa using h7) hx (by simpa using h6)
      rw [this]
  exact ⟨lm, c, seen, c, x.born, es, c, x, z.1, rfl, u _ _ hi, h1, u _ _ hm, rfl, hfind, h2, by rw [h3]; exact hk⟩
end Go.Dn
