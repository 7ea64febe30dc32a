/- Functions, read over a part of the heap. -/
import Derived.Test.YtaafkchlmndbkaaGreatDnW
import Derived.Test.YtaafkchlmndbkaaGreatDnK
namespace Go.Dn
abbrev EnA := List Value→(Value→AP)→(Value→AP)→AP
def upE (E : EnA) : EnT := fun args K Kp h => ∃ A L KA KpA,Sim A L h ∧ E args KA KpA A ∧ (∀ v A' h',Sim A' L h'→KA v A'→K v h') ∧ ∀ v A' h',Sim A' L h'→KpA v A'→Kp v h'
def tabA : List (FuncId × EnA)→CTA
 | [],_,_,_,_,_ => False
 | (f,E) :: r,g,args,K,Kp,A => match Nat.beq f g with
  | true => E args K Kp A
  | false => tabA r g args K Kp A
def rdResA (P : Program) : List ResultVar→SA→AH→(List Value→Prop)→Prop
 | [],_,_,K => K []
 | .tmp t :: r,s,A,K => match look s.env t with
  | some v => rdResA P r s A fun vs => K (v :: vs)
  | none => False
 | .cell a t :: r,s,A,K => match lookB s.bv a with
  | some (i,k) => match lookX s.bx i with
   | some (cells,_) => ldX P t cells k fun v => rdResA P r s A fun vs => K (v :: vs)
   | none => False
  | none => match look s.env a with
   | some va => asAd va fun ad => ldDA P t ad A fun v => rdResA P r s A fun vs => K (v :: vs)
   | none => False
def endA (P : Program) (fn : Func) (K Kp : Value→AP) : Ex→SA→AP
 | .normal,s,A => match s.ds with | [] => rdResA P fn.results.toList s A fun vs => K (packV vs) A | _ => False
 | .ret,s,A => match s.ds with | [] => rdResA P fn.results.toList s A fun vs => K (packV vs) A | _ => False
 | .panic v,s,A => match s.ds with | [] => Kp v A | _ => False
 | _,_,_ => False
def startA (args : List Value) : SA := ⟨argE 0 args,[],[],[],[],[]⟩
def denFnA (P : Program) (CA : CTA) (pm : List Nat) (fn : Func) (ann : AnnA) (args : List Value) (K Kp : Value→AP) (A : AH) : Prop :=
 denA P CA fn.ntmps pm ann (bodyOf fn) (endA P fn K Kp) (startA args) A
def denDfA (P : Program) (CA : CTA) (pm : List Nat) (fn : Func) (ann : AnnA) (args : List Value) (rv : Value) (K : AP) (A : AH) : Prop :=
 match bodyOf fn with
 | .seq (.region _ ops false) y => match ops.toList with
  | o :: r => match o.guard,o.op,fn.results.toList with
   | none,.call { callee := .builtin .recover,args := _,argTypes := _ },[] =>
    putA fn.ntmps (startA args) o.dst (.v rv) fun s => denOpsA P CA fn.ntmps pm (o :: r) r s (fun s A => denA P CA fn.ntmps pm ann y (fun e s A => match e,s.ds with
     | .normal,[] => K A
     | .ret,[] => K A
     | _,_ => False) s A) (fun _ _ _ => False) A
   | _,_,_ => False
  | [] => False
 | _ => False
abbrev DnT' := List Value→AP→AP
abbrev DpT' := List Value→Value→AP→AP
def endDA (P : Program) (fn : Func) (g : FuncId) (Dn : DnT') (Dp : DpT') (K Kp : Value→AP) : Ex→SA→AP
 | .normal,s,A => match s.ds with
  | [] => rdResA P fn.results.toList s A fun vs => K (packV vs) A
  | [d] => match d.target with
   | .fn (.func g') cap => match Nat.beq g' g with
    | true => Dn (d.args.toList ++ cap.toList) (fun A' => rdResA P fn.results.toList s A' fun vs => K (packV vs) A') A
    | false => False
   | _ => False
  | _ => False
 | .ret,s,A => match s.ds with
  | [] => rdResA P fn.results.toList s A fun vs => K (packV vs) A
  | [d] => match d.target with
   | .fn (.func g') cap => match Nat.beq g' g with
    | true => Dn (d.args.toList ++ cap.toList) (fun A' => rdResA P fn.results.toList s A' fun vs => K (packV vs) A') A
    | false => False
   | _ => False
  | _ => False
 | .panic v,s,A => match s.ds with
  | [] => Kp v A
  | [d] => match d.target with
   | .fn (.func g') cap => match Nat.beq g' g with
    | true => Dp (d.args.toList ++ cap.toList) v (fun A' => rdResA P fn.results.toList s A' fun vs => K (packV vs) A') A
    | false => False
   | _ => False
  | _ => False
 | _,_,_ => False
def denFnDA (P : Program) (CA : CTA) (pm : List Nat) (fn : Func) (ann : AnnA) (g : FuncId) (Dn : DnT') (Dp : DpT') (args : List Value) (K Kp : Value→AP) (A : AH) : Prop :=
 denA P CA fn.ntmps pm ann (bodyOf fn) (endDA P fn g Dn Dp K Kp) (startA args) A
inductive PSh | c (k : CK) | agg (l : List CK) | fn (g : FuncId) (first cap : List CK)
def ArS : List PSh→Type→Type
 | .fn _ a b :: r,T => ArC a (ArC b (ArS r T))
 | [],T => T
 | .c k :: r,T => CKT k→ArS r T
 | .agg l :: r,T => ArC l (ArS r T)
def apS : (l : List PSh)→(T : Type)→ArS l T→List Value→(T→Prop)→Prop
 | [],_,R,[],G => G R
 | .c k :: r,T,R,v :: vs,G => apK k v fun x => apS r T (R x) vs G
 | .agg l :: r,T,R,v :: vs,G => match v with
  | .agg cs => apC l (ArS r T) R cs.toList fun R1 => apS r T R1 vs G
  | _ => False
 | .fn g a b :: r,T,R,v :: vs,G => match v with
  | .func (.func g') x y => match Nat.beq g' g with
   | true => apC a (ArC b (ArS r T)) R x.toList fun R1 => apC b (ArS r T) R1 y.toList fun R2 => apS r T R2 vs G
   | false => False
  | _ => False
 | _,_,_,_,_ => False
def curK (k : CK) {T : Type} (g : Value→T) : CKT k→T := match k with
 | .i kk => fun n : Int => g (.int kk n)
 | .b => fun n : Bool => g (.bool n)
 | .p => fun n : Option Addr => g (.pointer n)
 | .s => fun n : Sl => g (.slice n.a n.len n.cap)
 | .m => fun n : Option Nat => g (.map n)
 | .v => fun n : Value => g n
def curC : (l : List CK)→(T : Type)→(List Value→T)→ArC l T
 | [],_,g => g []
 | k :: r,T,g => curK k fun v => curC r T fun vs => g (v :: vs)
def curS : (l : List PSh)→(T : Type)→(List Value→T)→ArS l T
 | .fn f a b :: r,T,g => curC a (ArC b (ArS r T)) fun xs => curC b (ArS r T) fun ys => curS r T fun vs => g (.func (.func f) xs.toArray ys.toArray :: vs)
 | [],_,g => g []
 | .c k :: r,T,g => curK k fun v => curS r T fun vs => g (v :: vs)
 | .agg l :: r,T,g => curC l (ArS r T) fun cs => curS r T fun vs => g (.agg cs.toArray :: vs)
def np (b : Bool) (Kp : Value→AP) : Value→AP := match b with | true => Kp | false => fun _ _ => False
theorem np_imp {b : Bool} {Kp : Value→AP} {v : Value} {A : AH} (h : np b Kp v A) : Kp v A := by
 cases b
 ·exact h.elim
 ·exact h
abbrev EnR := (Value→AP)→(Value→AP)→AP
def enS (l : List PSh) (F : ArS l EnR) : EnA := fun args K Kp A => apS l EnR F args fun f => f K Kp A
section
variable {P : Program} {CA : CTA} {A : AH} {h : Hp}
theorem apK_cur {T : Type} {k : CK} {g : Value→T} {v : Value} {G : T→Prop} (hh : apK k v fun x => G (curK k g x)) : G (g v) := by
 cases k <;> cases v <;> simp only [apK] at hh <;> first | exact hh.elim | exact hh | skip
 obtain ⟨h1,h2⟩ := bsel_true hh
 rename_i kk k' n
 have : kk = k' := by cases kk <;> cases k' <;> first | rfl | cases h1
 subst this
 exact h2
theorem apC_cur : ∀ {l : List CK} {T : Type} {g : List Value→T} {vs : List Value} {G : T→Prop},apC l T (curC l T g) vs G→G (g vs)
 | [],_,_,[],_,h => h
 | [],_,_,_ :: _,_,h => h.elim
 | _ :: _,_,_,[],_,h => h.elim
 | k :: r,T,g,v :: vs,G,h => apC_cur (l := r) (g := fun vs => g (v :: vs)) (apK_cur (k := k) (g := fun v => curC r T fun vs => g (v :: vs)) (G := fun R => apC r T R vs G) h)
theorem apS_cur : ∀ {l : List PSh} {T : Type} {g : List Value→T} {vs : List Value} {G : T→Prop},apS l T (curS l T g) vs G→G (g vs)
 | [],_,_,[],_,h => h
 | [],_,_,_ :: _,_,h => h.elim
 | .c k :: r,T,g,v :: vs,G,h => apS_cur (l := r) (g := fun vs => g (v :: vs)) (apK_cur (k := k) (g := fun v => curS r T fun vs => g (v :: vs)) (G := fun R => apS r T R vs G) h)
 | .c _ :: _,_,_,[],_,h => h.elim
 | .agg _ :: _,_,_,[],_,h => h.elim
 | .agg l :: r,T,g,v :: vs,G,h => by
  unfold apS at h
  split at h
  ·rename_i cs
   have := apC_cur (l := l) (g := fun cs => curS r T fun vs => g (.agg cs.toArray :: vs)) (G := fun R => apS r T R vs G) h
   rw [Array.toArray_toList] at this
   exact apS_cur (l := r) (g := fun vs => g (.agg cs :: vs)) this
  ·exact h.elim
 | .fn _ _ _ :: _,_,_,[],_,h => h.elim
 | .fn f a b :: r,T,g,v :: vs,G,h => by
  unfold apS at h
  split at h
  ·rename_i g' x y
   split at h
   ·rename_i hb
    have hb := beqN.1 hb
    subst hb
    have h1 := apC_cur (l := a) (T := ArC b (ArS r T)) (g := fun xs => curC b (ArS r T) fun ys => curS r T fun vs => g (.func (.func g') xs.toArray ys.toArray :: vs)) (G := fun R1 => apC b (ArS r T) R1 y.toList fun R2 => apS r T R2 vs G) h
    have h2 := apC_cur (l := b) (T := ArS r T) (g := fun ys => curS r T fun vs => g (.func (.func g') x.toList.toArray ys.toArray :: vs)) (G := fun R2 => apS r T R2 vs G) h1
    rw [Array.toArray_toList,Array.toArray_toList] at h2
    exact apS_cur (l := r) (g := fun vs => g (.func (.func g') x y :: vs)) h2
   ·exact h.elim
  ·exact h.elim
def exC : (l : List CK)→{T U : Type}→(Nat→ArC l T)→((Nat→T)→U)→ArC l U
 | [],_,_,F,c => c F
 | _ :: r,_,_,F,c => fun x => exC r (fun n => F n x) c
def exS : (l : List PSh)→{T : Type}→(Nat→ArS l T)→((Nat→T)→T)→ArS l T
 | [],_,F,c => c F
 | .c _ :: r,_,F,c => fun x => exS r (fun n => F n x) c
 | .agg l :: r,_,F,c => exC l F fun G => exS r G c
 | .fn _ a b :: r,T,F,c => exC a (T := ArC b (ArS r T)) F fun G => exC b G fun H => exS r H c
theorem apK_exn {k : CK} {v : Value} {H : Nat→CKT k→Prop} (h : apK k v fun x => ∃ n,H n x) : ∃ n,apK k v (H n) := by
 cases k <;> cases v <;> simp only [apK] at h ⊢ <;> first | exact h.elim | exact h | skip
 obtain ⟨h1,n,h2⟩ := bsel_true h
 rw [h1]
 exact ⟨n,h2⟩
theorem apK_mono' {k : CK} {v : Value} {G G' : CKT k→Prop} (h : apK k v G) (hg : ∀ x,G x→G' x) : apK k v G' := by
 cases k <;> cases v <;> simp only [apK] at h ⊢ <;> first | exact h.elim | exact hg _ h | skip
 obtain ⟨h1,h2⟩ := bsel_true h
 rw [h1]
 exact hg _ h2
theorem apC_exn : ∀ (l : List CK) {T U : Type} (F : Nat→ArC l T) (c : (Nat→T)→U) (vs : List Value) (G : U→Prop) (G' : T→Prop),(∀ R,G (c R)→∃ n,G' (R n))→apC l U (exC l F c) vs G→∃ n,apC l T (F n) vs G'
 | [],_,_,F,c,[],G,G',hG,h => hG F h
 | [],_,_,_,_,_ :: _,_,_,_,h => h.elim
 | _ :: _,_,_,_,_,[],_,_,_,h => h.elim
 | k :: r,T,U,F,c,v :: vs,G,G',hG,h => apK_exn (apK_mono' (k := k) (G := fun x => apC r U (exC r (fun n => F n x) c) vs G) h fun x hx => apC_exn r (fun n => F n x) c vs G G' hG hx)
theorem apS_exn : ∀ (l : List PSh) {T : Type} (F : Nat→ArS l T) (c : (Nat→T)→T) (vs : List Value) (G : T→Prop),(∀ R,G (c R)→∃ n,G (R n))→apS l T (exS l F c) vs G→∃ n,apS l T (F n) vs G
 | [],_,F,c,[],G,hG,h => hG F h
 | [],_,_,_,_ :: _,_,_,h => h.elim
 | .c _ :: _,_,_,_,[],_,_,h => h.elim
 | .c k :: r,T,F,c,v :: vs,G,hG,h => apK_exn (apK_mono' (k := k) (G := fun x => apS r T (exS r (fun n => F n x) c) vs G) h fun x hx => apS_exn r (fun n => F n x) c vs G hG hx)
 | .agg _ :: _,_,_,_,[],_,_,h => h.elim
 | .agg l :: r,T,F,c,v :: vs,G,hG,h => by
  unfold apS at h ⊢
  cases v <;> try exact h.elim
  exact apC_exn l F (fun G => exS r G c) _ (fun R => apS r T R vs G) (fun R => apS r T R vs G) (fun R hR => apS_exn r R c vs G hG hR) h
 | .fn _ _ _ :: _,_,_,_,[],_,_,h => h.elim
 | .fn f a b :: r,T,F,c,v :: vs,G,hG,h => by
  unfold apS at h ⊢
  split at h
  ·rename_i g' x y
   split at h
   ·rename_i hb
    obtain ⟨n,hn⟩ := apC_exn a (T := ArC b (ArS r T)) F (fun G => exC b G fun H => exS r H c) _ (fun R1 => apC b (ArS r T) R1 y.toList fun R2 => apS r T R2 vs G) (fun R1 => apC b (ArS r T) R1 y.toList fun R2 => apS r T R2 vs G) (fun R hR =>
     apC_exn b R (fun H => exS r H c) _ (fun R => apS r T R vs G) (fun R => apS r T R vs G) (fun R hR => apS_exn r R c vs G hG hR) hR) h
    exact ⟨n,hn⟩
   ·exact h.elim
  ·exact h.elim
theorem ent_no {f : FuncId} {l : List PSh} {F : ArS l EnR} (he : ∀ (as : Array Value) (w : World),(callFunc f as).run P w = .ok (.enter f as) w) (hF : F = curS l EnR fun _ _ _ _ => False) : EntryOK P f (upE (enS l F)) := by
 subst hF
 refine ⟨he,fun args K Kp w ⟨A,L,KA,KpA,s,hh,_⟩ => ?_⟩
 have hh : apS l EnR (curS l EnR fun _ _ _ _ => False) args fun g => g KA KpA A := hh
 exact absurd (apS_cur (G := fun g : EnR => g KA KpA A) hh) id
theorem ent_ex {f : FuncId} {l : List PSh} {F : Nat→ArS l EnR} {G : ArS l EnR} (hF : ∀ k,EntryOK P f (upE (enS l (F k)))) (hG : G = exS l F fun R K Kp A => ∃ k,R k K Kp A) : EntryOK P f (upE (enS l G)) := by
 subst hG
 refine ⟨(hF 0).enter,fun args K Kp w ⟨A,L,KA,KpA,s,hh,h1,h2⟩ => ?_⟩
 obtain ⟨k,hk⟩ := apS_exn l F _ args (fun f => f KA KpA A) (fun R h => h) hh
 exact (hF k).call args K Kp w ⟨A,L,KA,KpA,s,hk,h1,h2⟩
theorem callingA_nil : Calling P (upC (tabA [])) := ⟨fun _ _ _ _ _ ⟨_,_,_,_,_,h,_⟩ => h.elim,fun _ _ _ _ _ ⟨_,_,_,_,_,h,_⟩ _ => h.elim⟩
theorem callingA_cons {f : FuncId} {E : EnA} {r : List (FuncId × EnA)} (he : EntryOK P f (upE E)) (hr : Calling P (upC (tabA r))) : Calling P (upC (tabA ((f,E) :: r))) := by
 constructor
 ·intro g args K Kp w ⟨A,L,KA,KpA,s,hh,h1,h2⟩
  unfold tabA at hh
  split at hh
  ·rename_i hb
   rw [← beqN.1 hb]
   exact .inl he.enter
  ·exact hr.enters g args K Kp w ⟨A,L,KA,KpA,s,hh,h1,h2⟩
 ·intro g args K Kp w ⟨A,L,KA,KpA,s,hh,h1,h2⟩ hent
  unfold tabA at hh
  split at hh
  ·rename_i hb
   rw [← beqN.1 hb]
   exact he.call args K Kp w ⟨A,L,KA,KpA,s,hh,h1,h2⟩
  ·exact hr.calls g args K Kp w ⟨A,L,KA,KpA,s,hh,h1,h2⟩ hent
def AtOnce (P : Program) (f : FuncId) (E : EnT) : Prop := ∀ args K Kp (w : World),E args K Kp w.heap→∃ v,(callFunc f args.toArray).run P w = .ok (.value v) w ∧ K v w.heap
theorem callingA_at {f : FuncId} {E : EnA} {r : List (FuncId × EnA)} (he : AtOnce P f (upE E)) (hr : Calling P (upC (tabA r))) : Calling P (upC (tabA ((f,E) :: r))) := by
 constructor
 ·intro g args K Kp w ⟨A,L,KA,KpA,s,hh,h1,h2⟩
  unfold tabA at hh
  split at hh
  ·rename_i hb
   rw [← beqN.1 hb]
   exact .inr (he args K Kp w ⟨A,L,KA,KpA,s,hh,h1,h2⟩)
  ·exact hr.enters g args K Kp w ⟨A,L,KA,KpA,s,hh,h1,h2⟩
 ·intro g args K Kp w ⟨A,L,KA,KpA,s,hh,h1,h2⟩ hent
  unfold tabA at hh
  split at hh
  ·rename_i hb
   rw [← beqN.1 hb] at hent
   obtain ⟨v,hv,_⟩ := he args K Kp w ⟨A,L,KA,KpA,s,hh,h1,h2⟩
   have h3 := hent args.toArray w
   rw [hv] at h3
   cases h3
  ·exact hr.calls g args K Kp w ⟨A,L,KA,KpA,s,hh,h1,h2⟩ hent
theorem rdResA_up {E : Bx} {β : Nat→Nat} {s : SA} {t : St} (r : RB E β s t A h) : ∀ (l : List ResultVar) (K K' : List Value→Prop),(∀ vs,K vs→K' vs)→rdResA P l s A K→rdRes P l t.env h K'
 | [],_,_,hx,hh => hx _ hh
 | .tmp x :: l,K,K',hx,hh => by
  unfold rdResA at hh
  unfold rdRes
  split at hh
  ·rename_i v hv
   rw [r.env _ _ hv]
   exact rdResA_up r l _ _ (fun _ => hx _) hh
  ·exact hh.elim
 | .cell a ty :: l,K,K',hx,hh => by
  unfold rdResA at hh
  unfold rdRes
  split at hh
  ·rename_i i k hb
   obtain ⟨g1,g2⟩ := r.bv _ _ _ hb
   rw [g1]
   simp only [asAd,onSome]
   split at hh
   ·rename_i cs ty2 hl
    obtain ⟨l1,l2,q1,q2⟩ := r.box hl
    have sim := r.sim
    rw [q1] at sim
    refine ldD_box sim ?_
    exact ldX_mono (fun v h1 => rdResA_up r l _ _ (fun _ => hx _) h1) hh
   ·exact hh.elim
  ·split at hh
   ·rename_i va hv
    rw [r.env _ _ hv]
    exact asAd_up (fun ad h1 => ldDA_up r.sim h1 fun v h2 => rdResA_up r l _ _ (fun _ => hx _) h2) hh
   ·exact hh.elim
where
 ldX_mono {t : TypeId} {cs : List Value} {o : Nat} {K K' : Value→Prop} (hx : ∀ v,K v→K' v) (h : ldX P t cs o K) : ldX P t cs o K' := by
  unfold ldX at h ⊢
  split at h
  ·split at h
   ·split at h
    ·split at h
     ·exact hx _ h
     ·exact h.elim
    ·exact h.elim
   ·split at h
    ·split at h
     ·exact hx _ h
     ·exact h.elim
    ·exact h.elim
  ·exact h.elim
theorem RB.start {L : Bx} (s : Sim A L h) (args : List Value) : RB L (fun _ => 0) (startA args) ⟨argE 0 args,[]⟩ A h :=
 ⟨fun _ _ e => e,fun _ _ _ e => by simp [startA,lookB] at e,rfl,s,List.nodup_nil⟩
theorem apC_any : ∀ {l : List CK} {T : Type} {R : ArC l T} {ws : List Value} {G : T→Prop},apC l T R ws G→∃ x,G x
 | [],_,_,[],_,h => ⟨_,h⟩
 | [],_,_,_ :: _,_,h => h.elim
 | _ :: _,_,_,[],_,h => h.elim
 | k :: l,T,R,w :: ws,G,h => by
  have h : apK k w _ := h
  cases k <;> cases w <;> simp only [apK] at h <;> first | exact h.elim | exact apC_any h | skip
  obtain ⟨_,h2⟩ := bsel_true h
  exact apC_any h2
theorem apS_len : ∀ {l : List PSh} {T : Type} {R : ArS l T} {vs : List Value} {G : T→Prop},apS l T R vs G→vs.length = l.length
 | [],_,_,[],_,_ => rfl
 | [],_,_,_ :: _,_,h => h.elim
 | .c k :: r,T,R,v :: vs,G,h => by
  have : ∃ x : ArS r T,apS r T x vs G := by
   have h : apK k v _ := h
   cases k <;> cases v <;> simp only [apK] at h <;> first | exact h.elim | exact ⟨_,h⟩ | skip
   obtain ⟨_,h2⟩ := bsel_true h
   exact ⟨_,h2⟩
  obtain ⟨x,hx⟩ := this
  simp [apS_len hx]
 | .c _ :: _,_,_,[],_,h => h.elim
 | .agg _ :: _,_,_,[],_,h => h.elim
 | .fn _ _ _ :: _,_,_,[],_,h => h.elim
 | .agg l :: r,T,R,v :: vs,G,h => by
  unfold apS at h
  split at h
  ·obtain ⟨x,hx⟩ := apC_any h
   simp [apS_len hx]
  ·exact h.elim
 | .fn f a b :: r,T,R,v :: vs,G,h => by
  unfold apS at h
  split at h
  ·split at h
   ·obtain ⟨x,hx⟩ := apC_any h
    obtain ⟨y,hy⟩ := apC_any hx
    simp [apS_len hy]
   ·exact h.elim
  ·exact h.elim
theorem entA (hm : P.follows .mixedOrders = true) (hC : Calling P (upC CA)) {f : FuncId} {fn : Func} {pm : List Nat} {ann : AnnA} {l : List PSh} {F : ArS l EnR}
  (he : ∀ (as : Array Value) (w : World),(callFunc f as).run P w = .ok (.enter f as) w) (hf : P.funcs[f]? = some fn) (hb : fn.body.isSome = true) (hn : Nat.ble l.length fn.ntmps = true)
  (b0 : Bool) (hF : F = curS l EnR fun vs K Kp A => denFnA P CA pm fn ann vs K (np b0 Kp) A) : EntryOK P f (upE (enS l F)) := by
 refine ⟨he,fun args K Kp w ⟨A,L,KA,KpA,s,hh,h1,h2⟩ => ?_⟩
 subst hF
 have hlen : args.length = l.length := apS_len hh
 have hd := apS_cur hh
 refine calls_of_den hm hC (ann := ann.h) hf hb (by rw [hlen];exact hn) ?_
 have hd : denA P CA fn.ntmps pm ann (bodyOf fn) (endA P fn KA (np b0 KpA)) (startA args) A := hd
 unfold denFn
 refine denA_up _ _ _ _ _ _ _ _ _ (RB.start s args) hd fun e β' s' t' A' h' r' sb hk => ?_
 obtain ⟨te,tds⟩ := t'
 have hds : tds = s'.ds := r'.ds
 cases e with
 | normal =>
  unfold endA at hk
  simp only at hk
  split at hk
  ·rename_i e0
   rw [e0] at hds
   subst hds
   exact rdResA_up r' _ _ _ (fun vs hv => h1 _ _ _ (r'.sim.keep (List.sublist_append_right _ _)) hv) hk
  ·exact hk.elim
 | ret =>
  unfold endA at hk
  simp only at hk
  split at hk
  ·rename_i e0
   rw [e0] at hds
   subst hds
   exact rdResA_up r' _ _ _ (fun vs hv => h1 _ _ _ (r'.sim.keep (List.sublist_append_right _ _)) hv) hk
  ·exact hk.elim
 | panic v =>
  unfold endA at hk
  simp only at hk
  split at hk
  ·rename_i e0
   rw [e0] at hds
   subst hds
   exact h2 _ _ _ (r'.sim.keep (List.sublist_append_right _ _)) (np_imp hk)
  ·exact hk.elim
 | exit id => exact hk.elim
theorem callA {f : FuncId} {E : EnA} (he : EntryOK P f (upE E)) (args : List Value) (K : Value→HP) (w : World) {KA : Value→AP} (hh : E args KA (fun _ _ => False) (fun b => w.heap[b]?))
  (hk : ∀ v A' h',Sim A' [] h'→KA v A'→K v h') : Calls P f args.toArray w (callQ K (fun _ _ => False) w) :=
 he.call args K _ w ⟨_,[],KA,_,⟨fun _ _ e => e,fun _ m => by simp at m,List.Pairwise.nil⟩,hh,hk,fun _ _ _ _ q => q⟩
end
attribute [irreducible] denFnA denFnDA denDfA
end Go.Dn
