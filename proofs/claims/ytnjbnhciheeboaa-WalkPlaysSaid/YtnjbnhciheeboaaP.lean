/- Printed by gen.py: that each function does so. -/
import Derived.Test.YtnjbnhciheeboaaF
import Derived.Test.YtnjbnhciheeboaaProg
import Derived.KernelRfl
namespace Go.Dn
open Go.Proofs

def ram_New_ann : Ann := (.seq none .leaf (.seq none (.seq none .leaf (.cond (.seq none .leaf .leaf) .leaf)) (.seq none (.seq none .leaf (.cond (.seq none .leaf .leaf) .leaf)) (.seq none (.seq none .leaf (.block (.loop ⟨[0, 1, 17, 18], [(19, (.c (.i .i64)))]⟩ (.seq none .leaf (.seq none (.cond .leaf .leaf) (.seq none (.block (.seq none .leaf (.seq none .leaf (.cond (.seq none .leaf .leaf) .leaf)))) .leaf)))))) (.seq none .leaf .leaf)))))
set_option maxRecDepth 100000 in
theorem ram_New_den (p0 : Int) (p1 : Sl) (K Kp : Value → HP) (h : Hp) : (ram_New p0 p1 (fun r0 r1 h => K (.tuple #[(.pointer r0), (.int .i64 r1)]) h) h) = denFn Try.prog (tab []) Try.f18 ram_New_ann [(.int .i64 p0), (.slice p1.a p1.len p1.cap)] K Kp h := by kernel_rfl
def ram_New_en (f : ram_New_T) : EnT := fun args K _ h => match args with | [v0, v1] => (dI .i64 v0 fun p0 => dS v1 fun p1 => f p0 p1 (fun r0 r1 h => K (.tuple #[(.pointer r0), (.int .i64 r1)]) h) h) | _ => False
set_option maxRecDepth 100000 in
theorem ram_New_ok (hm : Try.prog.follows .mixedOrders = true) : EntryOK Try.prog 18 (ram_New_en ram_New) := by
  refine ⟨Try.call18, fun args K Kp w hh => ?_⟩
  unfold ram_New_en at hh
  split at hh
  · rename_i v0 v1
    obtain ⟨p0, rfl, hh1⟩ := dI_mp hh
    obtain ⟨p1, rfl, hh2⟩ := dS_mp hh1
    have hd : denFn Try.prog (tab []) Try.f18 ram_New_ann [(.int .i64 p0), (.slice p1.a p1.len p1.cap)] K Kp w.heap := Eq.mp (ram_New_den p0 p1 K Kp w.heap) hh2
    have hC : Calling Try.prog (tab []) := Calling.nil
    exact calls_of_den hm hC Try.func18 (by kernel_rfl) (by kernel_rfl) hd
  · exact hh.elim

def ram_RAM_Has_ann : Ann := (.seq none .leaf (.seq none (.seq none .leaf (.cond (.seq none .leaf .leaf) .leaf)) (.seq none (.seq none .leaf (.block (.loop ⟨[1, 20, 21], [(22, (.c (.i .i64)))]⟩ (.seq none .leaf (.seq none (.cond .leaf .leaf) (.seq none (.block (.seq none .leaf (.seq none .leaf (.cond (.seq none .leaf .leaf) .leaf)))) .leaf)))))) (.seq none .leaf .leaf))))
set_option maxRecDepth 100000 in
theorem ram_RAM_Has_den (p0 : Option Addr) (p1 : Int) (K Kp : Value → HP) (h : Hp) : (ram_RAM_Has p0 p1 (fun r0 h => K (.bool r0) h) h) = denFn Try.prog (tab []) Try.f23 ram_RAM_Has_ann [(.pointer p0), (.int .i64 p1)] K Kp h := by kernel_rfl
def ram_RAM_Has_en (f : ram_RAM_Has_T) : EnT := fun args K _ h => match args with | [v0, v1] => (dP v0 fun p0 => dI .i64 v1 fun p1 => f p0 p1 (fun r0 h => K (.bool r0) h) h) | _ => False
set_option maxRecDepth 100000 in
theorem ram_RAM_Has_ok (hm : Try.prog.follows .mixedOrders = true) : EntryOK Try.prog 23 (ram_RAM_Has_en ram_RAM_Has) := by
  refine ⟨Try.call23, fun args K Kp w hh => ?_⟩
  unfold ram_RAM_Has_en at hh
  split at hh
  · rename_i v0 v1
    obtain ⟨p0, rfl, hh1⟩ := dP_mp hh
    obtain ⟨p1, rfl, hh2⟩ := dI_mp hh1
    have hd : denFn Try.prog (tab []) Try.f23 ram_RAM_Has_ann [(.pointer p0), (.int .i64 p1)] K Kp w.heap := Eq.mp (ram_RAM_Has_den p0 p1 K Kp w.heap) hh2
    have hC : Calling Try.prog (tab []) := Calling.nil
    exact calls_of_den hm hC Try.func23 (by kernel_rfl) (by kernel_rfl) hd
  · exact hh.elim

def ram_RAM_check_ann : Ann := (.seq none .leaf (.seq none (.seq none .leaf (.block (.seq (some ⟨[0, 1, 2], [(9, (.c .b))]⟩) (.seq none .leaf (.cond .leaf (.seq none .leaf (.cond .leaf (.seq none .leaf (.cond .leaf .leaf)))))) (.cond .leaf (.seq none .leaf .leaf))))) (.seq none .leaf (.seq none (.seq none .leaf (.cond (.seq none .leaf .leaf) .leaf)) (.seq none .leaf .leaf)))))
set_option maxRecDepth 100000 in
theorem ram_RAM_check_den (f_ram_RAM_Has : ram_RAM_Has_T) (p0 : Option Addr) (p1 : Int) (p2 : Int) (K Kp : Value → HP) (h : Hp) : (ram_RAM_check_G f_ram_RAM_Has p0 p1 p2 (fun r0 h => K (.int .i64 r0) h) h) = denFn Try.prog (tab [(23, ram_RAM_Has_en f_ram_RAM_Has)]) Try.f37 ram_RAM_check_ann [(.pointer p0), (.int .u64 p1), (.int .i64 p2)] K Kp h := by kernel_rfl
def ram_RAM_check_en (f : ram_RAM_check_T) : EnT := fun args K _ h => match args with | [v0, v1, v2] => (dP v0 fun p0 => dI .u64 v1 fun p1 => dI .i64 v2 fun p2 => f p0 p1 p2 (fun r0 h => K (.int .i64 r0) h) h) | _ => False
set_option maxRecDepth 100000 in
theorem ram_RAM_check_ok (hm : Try.prog.follows .mixedOrders = true) : EntryOK Try.prog 37 (ram_RAM_check_en ram_RAM_check) := by
  refine ⟨Try.call37, fun args K Kp w hh => ?_⟩
  unfold ram_RAM_check_en at hh
  split at hh
  · rename_i v0 v1 v2
    obtain ⟨p0, rfl, hh1⟩ := dP_mp hh
    obtain ⟨p1, rfl, hh2⟩ := dI_mp hh1
    obtain ⟨p2, rfl, hh3⟩ := dI_mp hh2
    unfold ram_RAM_check at hh3
    have hd : denFn Try.prog (tab [(23, ram_RAM_Has_en ram_RAM_Has)]) Try.f37 ram_RAM_check_ann [(.pointer p0), (.int .u64 p1), (.int .i64 p2)] K Kp w.heap := Eq.mp (ram_RAM_check_den ram_RAM_Has p0 p1 p2 K Kp w.heap) hh3
    have hC : Calling Try.prog (tab [(23, ram_RAM_Has_en ram_RAM_Has)]) := (Calling.cons (ram_RAM_Has_ok hm) Calling.nil)
    exact calls_of_den hm hC Try.func37 (by kernel_rfl) (by kernel_rfl) hd
  · exact hh.elim

def ram_RAM_own_ann : Ann := (.seq none .leaf (.seq none .leaf (.seq (some ⟨[], [(5, (.c .p))]⟩) (.seq none .leaf (.cond (.seq none .leaf .leaf) .leaf)) (.seq none .leaf .leaf))))
set_option maxRecDepth 100000 in
theorem ram_RAM_own_den (p0 : Option Addr) (p1 : Int) (K Kp : Value → HP) (h : Hp) : (ram_RAM_own p0 p1 (fun r0 h => K (.pointer r0) h) h) = denFn Try.prog (tab []) Try.f38 ram_RAM_own_ann [(.pointer p0), (.int .i64 p1)] K Kp h := by kernel_rfl
def ram_RAM_own_en (f : ram_RAM_own_T) : EnT := fun args K _ h => match args with | [v0, v1] => (dP v0 fun p0 => dI .i64 v1 fun p1 => f p0 p1 (fun r0 h => K (.pointer r0) h) h) | _ => False
set_option maxRecDepth 100000 in
theorem ram_RAM_own_ok (hm : Try.prog.follows .mixedOrders = true) : EntryOK Try.prog 38 (ram_RAM_own_en ram_RAM_own) := by
  refine ⟨Try.call38, fun args K Kp w hh => ?_⟩
  unfold ram_RAM_own_en at hh
  split at hh
  · rename_i v0 v1
    obtain ⟨p0, rfl, hh1⟩ := dP_mp hh
    obtain ⟨p1, rfl, hh2⟩ := dI_mp hh1
    have hd : denFn Try.prog (tab []) Try.f38 ram_RAM_own_ann [(.pointer p0), (.int .i64 p1)] K Kp w.heap := Eq.mp (ram_RAM_own_den p0 p1 K Kp w.heap) hh2
    have hC : Calling Try.prog (tab []) := Calling.nil
    exact calls_of_den hm hC Try.func38 (by kernel_rfl) (by kernel_rfl) hd
  · exact hh.elim

def ram_RAM_Store_ann : Ann := (.seq none .leaf (.seq none (.seq none .leaf (.seq none .leaf (.cond (.seq none .leaf .leaf) .leaf))) (.seq none (.seq none .leaf (.block (.loop ⟨[0, 1, 3, 19], [(20, (.c (.i .i64)))]⟩ (.seq none .leaf (.seq none (.cond .leaf .leaf) (.seq none (.block (.seq none .leaf (.seq none .leaf (.drawS false [0, 1, 2, 3, 5, 6, 7, 8, 9, 10, 11, 4, 12, 13, 14] [])))) .leaf)))))) (.seq none .leaf .leaf))))
set_option maxRecDepth 100000 in
theorem ram_RAM_Store_den (f_ram_RAM_check : ram_RAM_check_T) (f_ram_RAM_own : ram_RAM_own_T) (p0 : Option Addr) (p1 : Int) (p2 : Int) (p3 : Int) (K Kp : Value → HP) (h : Hp) : (ram_RAM_Store_G f_ram_RAM_check f_ram_RAM_own p0 p1 p2 p3 (fun r0 h => K (.int .i64 r0) h) h) = denFn Try.prog (tab [(37, ram_RAM_check_en f_ram_RAM_check), (38, ram_RAM_own_en f_ram_RAM_own)]) Try.f19 ram_RAM_Store_ann [(.pointer p0), (.int .u64 p1), (.int .i64 p2), (.int .u64 p3)] K Kp h := by kernel_rfl
def ram_RAM_Store_en (f : ram_RAM_Store_T) : EnT := fun args K _ h => match args with | [v0, v1, v2, v3] => (dP v0 fun p0 => dI .u64 v1 fun p1 => dI .i64 v2 fun p2 => dI .u64 v3 fun p3 => f p0 p1 p2 p3 (fun r0 h => K (.int .i64 r0) h) h) | _ => False
set_option maxRecDepth 100000 in
theorem ram_RAM_Store_ok (hm : Try.prog.follows .mixedOrders = true) : EntryOK Try.prog 19 (ram_RAM_Store_en ram_RAM_Store) := by
  refine ⟨Try.call19, fun args K Kp w hh => ?_⟩
  unfold ram_RAM_Store_en at hh
  split at hh
  · rename_i v0 v1 v2 v3
    obtain ⟨p0, rfl, hh1⟩ := dP_mp hh
    obtain ⟨p1, rfl, hh2⟩ := dI_mp hh1
    obtain ⟨p2, rfl, hh3⟩ := dI_mp hh2
    obtain ⟨p3, rfl, hh4⟩ := dI_mp hh3
    unfold ram_RAM_Store at hh4
    have hd : denFn Try.prog (tab [(37, ram_RAM_check_en ram_RAM_check), (38, ram_RAM_own_en ram_RAM_own)]) Try.f19 ram_RAM_Store_ann [(.pointer p0), (.int .u64 p1), (.int .i64 p2), (.int .u64 p3)] K Kp w.heap := Eq.mp (ram_RAM_Store_den ram_RAM_check ram_RAM_own p0 p1 p2 p3 K Kp w.heap) hh4
    have hC : Calling Try.prog (tab [(37, ram_RAM_check_en ram_RAM_check), (38, ram_RAM_own_en ram_RAM_own)]) := (Calling.cons (ram_RAM_check_ok hm) (Calling.cons (ram_RAM_own_ok hm) Calling.nil))
    exact calls_of_den hm hC Try.func19 (by kernel_rfl) (by kernel_rfl) hd
  · exact hh.elim

def demesneref01_Store_ann : Ann := (.seq none .leaf (.seq none .leaf (.block (.loop ⟨[1, 2, 3, 4], [(8, (.c (.i .i64)))]⟩ (.seq none (.seq none .leaf (.cond .leaf .leaf)) (.seq none (.block (.draw 12)) .leaf))))))
set_option maxRecDepth 100000 in
theorem demesneref01_Store_den (p0 : Int) (p1 : Sl) (p2 : Option Nat) (p3 : Int) (p4 : Int) (p5 : Int) (K Kp : Value → HP) (h : Hp) : (demesneref01_Store p0 p1 p2 p3 p4 p5 (fun h => K (.tuple #[]) h) h) = denFn Try.prog (tab []) Try.f20 demesneref01_Store_ann [(.agg #[(.int .i64 p0), (.slice p1.a p1.len p1.cap), (.map p2)]), (.int .u64 p3), (.int .i64 p4), (.int .u64 p5)] K Kp h := by kernel_rfl
def demesneref01_Store_en (f : demesneref01_Store_T) : EnT := fun args K _ h => match args with | [v0, v1, v2, v3] => (dA v0 fun l => match l with | [u0_0, u0_1, u0_2] => (dI .i64 u0_0 fun p0 => dS u0_1 fun p1 => dM u0_2 fun p2 => dI .u64 v1 fun p3 => dI .i64 v2 fun p4 => dI .u64 v3 fun p5 => f p0 p1 p2 p3 p4 p5 (fun h => K (.tuple #[]) h) h) | _ => False) | _ => False
set_option maxRecDepth 100000 in
theorem demesneref01_Store_ok (hm : Try.prog.follows .mixedOrders = true) : EntryOK Try.prog 20 (demesneref01_Store_en demesneref01_Store) := by
  refine ⟨Try.call20, fun args K Kp w hh => ?_⟩
  unfold demesneref01_Store_en at hh
  split at hh
  · rename_i v0 v1 v2 v3
    obtain ⟨lhh1, rfl, hh1⟩ := dA_mp hh
    split at hh1
    case h_2 => exact hh1.elim
    rename_i u0_0 u0_1 u0_2
    obtain ⟨p0, rfl, hh2⟩ := dI_mp hh1
    obtain ⟨p1, rfl, hh3⟩ := dS_mp hh2
    obtain ⟨p2, rfl, hh4⟩ := dM_mp hh3
    obtain ⟨p3, rfl, hh5⟩ := dI_mp hh4
    obtain ⟨p4, rfl, hh6⟩ := dI_mp hh5
    obtain ⟨p5, rfl, hh7⟩ := dI_mp hh6
    have hd : denFn Try.prog (tab []) Try.f20 demesneref01_Store_ann [(.agg #[(.int .i64 p0), (.slice p1.a p1.len p1.cap), (.map p2)]), (.int .u64 p3), (.int .i64 p4), (.int .u64 p5)] K Kp w.heap := Eq.mp (demesneref01_Store_den p0 p1 p2 p3 p4 p5 K Kp w.heap) hh7
    have hC : Calling Try.prog (tab []) := Calling.nil
    exact calls_of_den hm hC Try.func20 (by kernel_rfl) (by kernel_rfl) hd
  · exact hh.elim

def demesnelaw04_Lay_ann : Ann := (.seq none .leaf (.seq none .leaf (.seq none .leaf (.seq none .leaf (.seq none (.seq none .leaf (.cond (.seq none (.draw 2) .leaf) .leaf)) (.seq none (.seq none .leaf (.block (.loop ⟨[0, 3, 5, 6], [(8, (.c (.i .i64)))]⟩ (.seq none (.seq none .leaf (.cond .leaf .leaf)) (.seq (some ⟨[0, 3, 5, 6, 8], []⟩) (.block (.seq none .leaf (.seq none (.seq none .leaf (.cond .leaf .leaf)) (.seq none .leaf (.seq none .leaf (.cond .leaf .leaf)))))) .leaf))))) (.seq none (.draw 3) .leaf)))))))
set_option maxRecDepth 100000 in
theorem demesnelaw04_Lay_den (f_ram_New : ram_New_T) (f_ram_RAM_Store : ram_RAM_Store_T) (f_demesneref01_Store : demesneref01_Store_T) (p0 : Sl) (K Kp : Value → HP) (h : Hp) : (demesnelaw04_Lay_G f_ram_New f_ram_RAM_Store f_demesneref01_Store p0 (fun r0 r1 r2 r3 h => K (.tuple #[(.pointer r0), (.agg #[(.int .i64 r1), (.slice r2.a r2.len r2.cap), (.map r3)])]) h) h) = denFn Try.prog (tab [(18, ram_New_en f_ram_New), (19, ram_RAM_Store_en f_ram_RAM_Store), (20, demesneref01_Store_en f_demesneref01_Store)]) Try.f10 demesnelaw04_Lay_ann [(.slice p0.a p0.len p0.cap)] K Kp h := by kernel_rfl
def demesnelaw04_Lay_en (f : demesnelaw04_Lay_T) : EnT := fun args K _ h => match args with | [v0] => (dS v0 fun p0 => f p0 (fun r0 r1 r2 r3 h => K (.tuple #[(.pointer r0), (.agg #[(.int .i64 r1), (.slice r2.a r2.len r2.cap), (.map r3)])]) h) h) | _ => False
set_option maxRecDepth 100000 in
theorem demesnelaw04_Lay_ok (hm : Try.prog.follows .mixedOrders = true) : EntryOK Try.prog 10 (demesnelaw04_Lay_en demesnelaw04_Lay) := by
  refine ⟨Try.call10, fun args K Kp w hh => ?_⟩
  unfold demesnelaw04_Lay_en at hh
  split at hh
  · rename_i v0
    obtain ⟨p0, rfl, hh1⟩ := dS_mp hh
    unfold demesnelaw04_Lay at hh1
    have hd : denFn Try.prog (tab [(18, ram_New_en ram_New), (19, ram_RAM_Store_en ram_RAM_Store), (20, demesneref01_Store_en demesneref01_Store)]) Try.f10 demesnelaw04_Lay_ann [(.slice p0.a p0.len p0.cap)] K Kp w.heap := Eq.mp (demesnelaw04_Lay_den ram_New ram_RAM_Store demesneref01_Store p0 K Kp w.heap) hh1
    have hC : Calling Try.prog (tab [(18, ram_New_en ram_New), (19, ram_RAM_Store_en ram_RAM_Store), (20, demesneref01_Store_en demesneref01_Store)]) := (Calling.cons (ram_New_ok hm) (Calling.cons (ram_RAM_Store_ok hm) (Calling.cons (demesneref01_Store_ok hm) Calling.nil)))
    exact calls_of_den hm hC Try.func10 (by kernel_rfl) (by kernel_rfl) hd
  · exact hh.elim

def walk_May_ann : Ann := (.seq none .leaf (.seq none .leaf .leaf))
set_option maxRecDepth 100000 in
theorem walk_May_den (p0 : Bool) (p1 : Bool) (p2 : Bool) (p3 : Bool) (p4 : Bool) (p5 : Bool) (K Kp : Value → HP) (h : Hp) : (walk_May p0 p1 p2 p3 p4 p5 (fun r0 h => K (.bool r0) h) h) = denFn Try.prog (tab []) Try.f15 walk_May_ann [(.agg #[(.bool p0), (.bool p1), (.bool p2)]), (.agg #[(.bool p3), (.bool p4), (.bool p5)])] K Kp h := by kernel_rfl
def walk_May_en (f : walk_May_T) : EnT := fun args K _ h => match args with | [v0, v1] => (dA v0 fun l => match l with | [u0_0, u0_1, u0_2] => (dB u0_0 fun p0 => dB u0_1 fun p1 => dB u0_2 fun p2 => dA v1 fun l => match l with | [u1_0, u1_1, u1_2] => (dB u1_0 fun p3 => dB u1_1 fun p4 => dB u1_2 fun p5 => f p0 p1 p2 p3 p4 p5 (fun r0 h => K (.bool r0) h) h) | _ => False) | _ => False) | _ => False
set_option maxRecDepth 100000 in
theorem walk_May_ok (hm : Try.prog.follows .mixedOrders = true) : EntryOK Try.prog 15 (walk_May_en walk_May) := by
  refine ⟨Try.call15, fun args K Kp w hh => ?_⟩
  unfold walk_May_en at hh
  split at hh
  · rename_i v0 v1
    obtain ⟨lhh1, rfl, hh1⟩ := dA_mp hh
    split at hh1
    case h_2 => exact hh1.elim
    rename_i u0_0 u0_1 u0_2
    obtain ⟨p0, rfl, hh2⟩ := dB_mp hh1
    obtain ⟨p1, rfl, hh3⟩ := dB_mp hh2
    obtain ⟨p2, rfl, hh4⟩ := dB_mp hh3
    obtain ⟨lhh5, rfl, hh5⟩ := dA_mp hh4
    split at hh5
    case h_2 => exact hh5.elim
    rename_i u1_0 u1_1 u1_2
    obtain ⟨p3, rfl, hh6⟩ := dB_mp hh5
    obtain ⟨p4, rfl, hh7⟩ := dB_mp hh6
    obtain ⟨p5, rfl, hh8⟩ := dB_mp hh7
    have hd : denFn Try.prog (tab []) Try.f15 walk_May_ann [(.agg #[(.bool p0), (.bool p1), (.bool p2)]), (.agg #[(.bool p3), (.bool p4), (.bool p5)])] K Kp w.heap := Eq.mp (walk_May_den p0 p1 p2 p3 p4 p5 K Kp w.heap) hh8
    have hC : Calling Try.prog (tab []) := Calling.nil
    exact calls_of_den hm hC Try.func15 (by kernel_rfl) (by kernel_rfl) hd
  · exact hh.elim

def pte_Canonical_ann : Ann := (.seq none .leaf (.seq none .leaf (.seq none .leaf .leaf)))
set_option maxRecDepth 100000 in
theorem pte_Canonical_den (p0 : Int) (K Kp : Value → HP) (h : Hp) : (pte_Canonical p0 (fun r0 h => K (.bool r0) h) h) = denFn Try.prog (tab []) Try.f22 pte_Canonical_ann [(.int .u64 p0)] K Kp h := by kernel_rfl
def pte_Canonical_en (f : pte_Canonical_T) : EnT := fun args K _ h => match args with | [v0] => (dI .u64 v0 fun p0 => f p0 (fun r0 h => K (.bool r0) h) h) | _ => False
set_option maxRecDepth 100000 in
theorem pte_Canonical_ok (hm : Try.prog.follows .mixedOrders = true) : EntryOK Try.prog 22 (pte_Canonical_en pte_Canonical) := by
  refine ⟨Try.call22, fun args K Kp w hh => ?_⟩
  unfold pte_Canonical_en at hh
  split at hh
  · rename_i v0
    obtain ⟨p0, rfl, hh1⟩ := dI_mp hh
    have hd : denFn Try.prog (tab []) Try.f22 pte_Canonical_ann [(.int .u64 p0)] K Kp w.heap := Eq.mp (pte_Canonical_den p0 K Kp w.heap) hh1
    have hC : Calling Try.prog (tab []) := Calling.nil
    exact calls_of_den hm hC Try.func22 (by kernel_rfl) (by kernel_rfl) hd
  · exact hh.elim

def pte_Split_ann : Ann := (.seq none .leaf (.seq none .leaf (.seq none (.seq none .leaf (.block (.loop ⟨[0, 2, 4], [(6, (.c (.i .i64)))]⟩ (.seq none .leaf (.seq none (.cond .leaf .leaf) (.seq none (.block (.seq none .leaf .leaf)) .leaf)))))) (.seq none .leaf .leaf))))
set_option maxRecDepth 100000 in
theorem pte_Split_den (p0 : Int) (K Kp : Value → HP) (h : Hp) : (pte_Split p0 (fun r0 r1 r2 r3 r4 h => K (.tuple #[(.agg #[(.int .i64 r0), (.int .i64 r1), (.int .i64 r2), (.int .i64 r3)]), (.int .i64 r4)]) h) h) = denFn Try.prog (tab []) Try.f24 pte_Split_ann [(.int .u64 p0)] K Kp h := by kernel_rfl
def pte_Split_en (f : pte_Split_T) : EnT := fun args K _ h => match args with | [v0] => (dI .u64 v0 fun p0 => f p0 (fun r0 r1 r2 r3 r4 h => K (.tuple #[(.agg #[(.int .i64 r0), (.int .i64 r1), (.int .i64 r2), (.int .i64 r3)]), (.int .i64 r4)]) h) h) | _ => False
set_option maxRecDepth 100000 in
theorem pte_Split_ok (hm : Try.prog.follows .mixedOrders = true) : EntryOK Try.prog 24 (pte_Split_en pte_Split) := by
  refine ⟨Try.call24, fun args K Kp w hh => ?_⟩
  unfold pte_Split_en at hh
  split at hh
  · rename_i v0
    obtain ⟨p0, rfl, hh1⟩ := dI_mp hh
    have hd : denFn Try.prog (tab []) Try.f24 pte_Split_ann [(.int .u64 p0)] K Kp w.heap := Eq.mp (pte_Split_den p0 K Kp w.heap) hh1
    have hC : Calling Try.prog (tab []) := Calling.nil
    exact calls_of_den hm hC Try.func24 (by kernel_rfl) (by kernel_rfl) hd
  · exact hh.elim

def ram_RAM_Load_ann : Ann := (.seq none .leaf (.seq none (.seq none .leaf (.seq none .leaf (.cond (.seq none .leaf .leaf) .leaf))) (.seq none .leaf (.seq none (.seq none .leaf (.block (.loop ⟨[0, 1], [(9, (.c (.i .u64))), (10, (.c (.i .i64)))]⟩ (.seq none (.seq none .leaf (.cond .leaf .leaf)) (.seq (some ⟨[0, 1, 10], [(9, (.c (.i .u64)))]⟩) (.block (.seq none .leaf (.seq none .leaf (.seq none .leaf (.seq none .leaf (.cond .leaf .leaf)))))) .leaf))))) (.seq none .leaf .leaf)))))
set_option maxRecDepth 100000 in
theorem ram_RAM_Load_den (f_ram_RAM_check : ram_RAM_check_T) (p0 : Option Addr) (p1 : Int) (p2 : Int) (K Kp : Value → HP) (h : Hp) : (ram_RAM_Load_G f_ram_RAM_check p0 p1 p2 (fun r0 r1 h => K (.tuple #[(.int .u64 r0), (.int .i64 r1)]) h) h) = denFn Try.prog (tab [(37, ram_RAM_check_en f_ram_RAM_check)]) Try.f17 ram_RAM_Load_ann [(.pointer p0), (.int .u64 p1), (.int .i64 p2)] K Kp h := by kernel_rfl
def ram_RAM_Load_en (f : ram_RAM_Load_T) : EnT := fun args K _ h => match args with | [v0, v1, v2] => (dP v0 fun p0 => dI .u64 v1 fun p1 => dI .i64 v2 fun p2 => f p0 p1 p2 (fun r0 r1 h => K (.tuple #[(.int .u64 r0), (.int .i64 r1)]) h) h) | _ => False
set_option maxRecDepth 100000 in
theorem ram_RAM_Load_ok (hm : Try.prog.follows .mixedOrders = true) : EntryOK Try.prog 17 (ram_RAM_Load_en ram_RAM_Load) := by
  refine ⟨Try.call17, fun args K Kp w hh => ?_⟩
  unfold ram_RAM_Load_en at hh
  split at hh
  · rename_i v0 v1 v2
    obtain ⟨p0, rfl, hh1⟩ := dP_mp hh
    obtain ⟨p1, rfl, hh2⟩ := dI_mp hh1
    obtain ⟨p2, rfl, hh3⟩ := dI_mp hh2
    unfold ram_RAM_Load at hh3
    have hd : denFn Try.prog (tab [(37, ram_RAM_check_en ram_RAM_check)]) Try.f17 ram_RAM_Load_ann [(.pointer p0), (.int .u64 p1), (.int .i64 p2)] K Kp w.heap := Eq.mp (ram_RAM_Load_den ram_RAM_check p0 p1 p2 K Kp w.heap) hh3
    have hC : Calling Try.prog (tab [(37, ram_RAM_check_en ram_RAM_check)]) := (Calling.cons (ram_RAM_check_ok hm) Calling.nil)
    exact calls_of_den hm hC Try.func17 (by kernel_rfl) (by kernel_rfl) hd
  · exact hh.elim

def pte_Entry_flags_ann : Ann := (.seq none .leaf (.seq none (.draw 25) .leaf))
set_option maxRecDepth 100000 in
theorem pte_Entry_flags_den (p0 : Option Addr) (K Kp : Value → HP) (h : Hp) : (pte_Entry_flags p0 (fun r0 r1 r2 r3 r4 r5 r6 r7 h => K (.agg #[(.pointer r0), (.pointer r1), (.pointer r2), (.pointer r3), (.pointer r4), (.pointer r5), (.pointer r6), (.pointer r7)]) h) h) = denFn Try.prog (tab []) Try.f40 pte_Entry_flags_ann [(.pointer p0)] K Kp h := by kernel_rfl
def pte_Entry_flags_en (f : pte_Entry_flags_T) : EnT := fun args K _ h => match args with | [v0] => (dP v0 fun p0 => f p0 (fun r0 r1 r2 r3 r4 r5 r6 r7 h => K (.agg #[(.pointer r0), (.pointer r1), (.pointer r2), (.pointer r3), (.pointer r4), (.pointer r5), (.pointer r6), (.pointer r7)]) h) h) | _ => False
set_option maxRecDepth 100000 in
theorem pte_Entry_flags_ok (hm : Try.prog.follows .mixedOrders = true) : EntryOK Try.prog 40 (pte_Entry_flags_en pte_Entry_flags) := by
  refine ⟨Try.call40, fun args K Kp w hh => ?_⟩
  unfold pte_Entry_flags_en at hh
  split at hh
  · rename_i v0
    obtain ⟨p0, rfl, hh1⟩ := dP_mp hh
    have hd : denFn Try.prog (tab []) Try.f40 pte_Entry_flags_ann [(.pointer p0)] K Kp w.heap := Eq.mp (pte_Entry_flags_den p0 K Kp w.heap) hh1
    have hC : Calling Try.prog (tab []) := Calling.nil
    exact calls_of_den hm hC Try.func40 (by kernel_rfl) (by kernel_rfl) hd
  · exact hh.elim

def pte_places_ann : Ann := (.seq none .leaf (.seq none .leaf .leaf))
set_option maxRecDepth 100000 in
theorem pte_places_den (K Kp : Value → HP) (h : Hp) : (pte_places  (fun r0 r1 r2 r3 r4 r5 r6 r7 h => K (.agg #[(.int .i64 r0), (.int .i64 r1), (.int .i64 r2), (.int .i64 r3), (.int .i64 r4), (.int .i64 r5), (.int .i64 r6), (.int .i64 r7)]) h) h) = denFn Try.prog (tab []) Try.f41 pte_places_ann [] K Kp h := by kernel_rfl
def pte_places_en (f : pte_places_T) : EnT := fun args K _ h => match args with | [] => (f  (fun r0 r1 r2 r3 r4 r5 r6 r7 h => K (.agg #[(.int .i64 r0), (.int .i64 r1), (.int .i64 r2), (.int .i64 r3), (.int .i64 r4), (.int .i64 r5), (.int .i64 r6), (.int .i64 r7)]) h) h) | _ => False
set_option maxRecDepth 100000 in
theorem pte_places_ok (hm : Try.prog.follows .mixedOrders = true) : EntryOK Try.prog 41 (pte_places_en pte_places) := by
  refine ⟨Try.call41, fun args K Kp w hh => ?_⟩
  unfold pte_places_en at hh
  split at hh
  · skip
    have hd : denFn Try.prog (tab []) Try.f41 pte_places_ann [] K Kp w.heap := Eq.mp (pte_places_den K Kp w.heap) hh
    have hC : Calling Try.prog (tab []) := Calling.nil
    exact calls_of_den hm hC Try.func41 (by kernel_rfl) (by kernel_rfl) hd
  · exact hh.elim

def pte_Unpack_ann : Ann := (.seq none .leaf (.seq none .leaf (.seq none (.seq none .leaf (.block (.loop ⟨[0, 2, 3, 11], [(12, (.c (.i .i64)))]⟩ (.seq none .leaf (.seq none (.cond .leaf .leaf) (.seq none (.block (.seq none .leaf .leaf)) .leaf)))))) (.seq none .leaf .leaf))))
set_option maxRecDepth 100000 in
theorem pte_Unpack_den (f_pte_Entry_flags : pte_Entry_flags_T) (f_pte_places : pte_places_T) (p0 : Int) (K Kp : Value → HP) (h : Hp) : (pte_Unpack_G f_pte_Entry_flags f_pte_places p0 (fun r0 r1 r2 r3 r4 r5 r6 r7 r8 h => K (.agg #[(.bool r0), (.bool r1), (.bool r2), (.bool r3), (.bool r4), (.bool r5), (.bool r6), (.bool r7), (.int .i64 r8)]) h) h) = denFn Try.prog (tab [(40, pte_Entry_flags_en f_pte_Entry_flags), (41, pte_places_en f_pte_places)]) Try.f26 pte_Unpack_ann [(.int .u64 p0)] K Kp h := by kernel_rfl
def pte_Unpack_en (f : pte_Unpack_T) : EnT := fun args K _ h => match args with | [v0] => (dI .u64 v0 fun p0 => f p0 (fun r0 r1 r2 r3 r4 r5 r6 r7 r8 h => K (.agg #[(.bool r0), (.bool r1), (.bool r2), (.bool r3), (.bool r4), (.bool r5), (.bool r6), (.bool r7), (.int .i64 r8)]) h) h) | _ => False
set_option maxRecDepth 100000 in
theorem pte_Unpack_ok (hm : Try.prog.follows .mixedOrders = true) : EntryOK Try.prog 26 (pte_Unpack_en pte_Unpack) := by
  refine ⟨Try.call26, fun args K Kp w hh => ?_⟩
  unfold pte_Unpack_en at hh
  split at hh
  · rename_i v0
    obtain ⟨p0, rfl, hh1⟩ := dI_mp hh
    unfold pte_Unpack at hh1
    have hd : denFn Try.prog (tab [(40, pte_Entry_flags_en pte_Entry_flags), (41, pte_places_en pte_places)]) Try.f26 pte_Unpack_ann [(.int .u64 p0)] K Kp w.heap := Eq.mp (pte_Unpack_den pte_Entry_flags pte_places p0 K Kp w.heap) hh1
    have hC : Calling Try.prog (tab [(40, pte_Entry_flags_en pte_Entry_flags), (41, pte_places_en pte_places)]) := (Calling.cons (pte_Entry_flags_ok hm) (Calling.cons (pte_places_ok hm) Calling.nil))
    exact calls_of_den hm hC Try.func26 (by kernel_rfl) (by kernel_rfl) hd
  · exact hh.elim

def walk_walker_fault_ann : Ann := (.seq (some ⟨[0], [(1, (.c (.i .i64)))]⟩) (.seq none .leaf (.cond .leaf .leaf)) (.seq (some ⟨[0], [(1, (.c (.i .i64)))]⟩) (.seq none .leaf (.cond .leaf .leaf)) (.seq (some ⟨[0], [(1, (.c (.i .i64)))]⟩) (.seq none .leaf (.cond .leaf .leaf)) .leaf)))
set_option maxRecDepth 100000 in
theorem walk_walker_fault_den (p0 : Option Addr) (p1 : Int) (K Kp : Value → HP) (h : Hp) : (walk_walker_fault p0 p1 (fun h => K (.tuple #[]) h) Kp h) = denFn Try.prog (tab []) Try.f27 walk_walker_fault_ann [(.pointer p0), (.int .i64 p1)] K Kp h := by kernel_rfl
def walk_walker_fault_en (f : walk_walker_fault_T) : EnT := fun args K Kp h => match args with | [v0, v1] => (dP v0 fun p0 => dI .i64 v1 fun p1 => f p0 p1 (fun h => K (.tuple #[]) h) Kp h) | _ => False
set_option maxRecDepth 100000 in
theorem walk_walker_fault_ok (hm : Try.prog.follows .mixedOrders = true) : EntryOK Try.prog 27 (walk_walker_fault_en walk_walker_fault) := by
  refine ⟨Try.call27, fun args K Kp w hh => ?_⟩
  unfold walk_walker_fault_en at hh
  split at hh
  · rename_i v0 v1
    obtain ⟨p0, rfl, hh1⟩ := dP_mp hh
    obtain ⟨p1, rfl, hh2⟩ := dI_mp hh1
    have hd : denFn Try.prog (tab []) Try.f27 walk_walker_fault_ann [(.pointer p0), (.int .i64 p1)] K Kp w.heap := Eq.mp (walk_walker_fault_den p0 p1 K Kp w.heap) hh2
    have hC : Calling Try.prog (tab []) := Calling.nil
    exact calls_of_den hm hC Try.func27 (by kernel_rfl) (by kernel_rfl) hd
  · exact hh.elim

def pte_Reserved_ann : Ann := (.seq none .leaf (.seq none (.seq none .leaf (.cond (.seq none .leaf .leaf) .leaf)) (.seq none .leaf (.seq none .leaf (.seq none (.block (.seq none .leaf (.cond (.seq none .leaf .leaf) (.seq none .leaf (.cond (.seq none .leaf .leaf) (.seq none .leaf (.cond (.seq none .leaf .leaf) .leaf))))))) (.seq none .leaf .leaf))))))
set_option maxRecDepth 100000 in
theorem pte_Reserved_den (p0 : Int) (p1 : Int) (K Kp : Value → HP) (h : Hp) : (pte_Reserved p0 p1 (fun r0 h => K (.bool r0) h) h) = denFn Try.prog (tab []) Try.f39 pte_Reserved_ann [(.int .u64 p0), (.int .i64 p1)] K Kp h := by kernel_rfl
def pte_Reserved_en (f : pte_Reserved_T) : EnT := fun args K _ h => match args with | [v0, v1] => (dI .u64 v0 fun p0 => dI .i64 v1 fun p1 => f p0 p1 (fun r0 h => K (.bool r0) h) h) | _ => False
set_option maxRecDepth 100000 in
theorem pte_Reserved_ok (hm : Try.prog.follows .mixedOrders = true) : EntryOK Try.prog 39 (pte_Reserved_en pte_Reserved) := by
  refine ⟨Try.call39, fun args K Kp w hh => ?_⟩
  unfold pte_Reserved_en at hh
  split at hh
  · rename_i v0 v1
    obtain ⟨p0, rfl, hh1⟩ := dI_mp hh
    obtain ⟨p1, rfl, hh2⟩ := dI_mp hh1
    have hd : denFn Try.prog (tab []) Try.f39 pte_Reserved_ann [(.int .u64 p0), (.int .i64 p1)] K Kp w.heap := Eq.mp (pte_Reserved_den p0 p1 K Kp w.heap) hh2
    have hC : Calling Try.prog (tab []) := Calling.nil
    exact calls_of_den hm hC Try.func39 (by kernel_rfl) (by kernel_rfl) hd
  · exact hh.elim

def walk_walker_entry_ann : Ann := (.seq none .leaf (.seq none .leaf (.seq none .leaf (.seq (some ⟨[0, 3, 10, 11], []⟩) (.seq none .leaf (.cond .leaf .leaf)) (.seq (some ⟨[0, 3, 10, 11], []⟩) (.seq none .leaf (.cond .leaf .leaf)) (.seq (some ⟨[0, 10, 11], []⟩) (.seq none .leaf (.cond .leaf .leaf)) (.seq none .leaf (.seq (some ⟨[0, 10, 11, 13], []⟩) .leaf (.seq (some ⟨[0, 10, 11, 13], []⟩) .leaf (.seq none .leaf (.seq none .leaf .leaf)))))))))))
set_option maxRecDepth 100000 in
theorem walk_walker_entry_den (f_ram_RAM_Load : ram_RAM_Load_T) (f_pte_Unpack : pte_Unpack_T) (f_walk_walker_fault : walk_walker_fault_T) (f_pte_Reserved : pte_Reserved_T) (p0 : Option Addr) (p1 : Int) (p2 : Int) (p3 : Int) (K Kp : Value → HP) (h : Hp) : (walk_walker_entry_G f_ram_RAM_Load f_pte_Unpack f_walk_walker_fault f_pte_Reserved p0 p1 p2 p3 (fun r0 r1 h => K (.tuple #[(.int .u64 r0), (.int .u64 r1)]) h) Kp h) = denFn Try.prog (tab [(17, ram_RAM_Load_en f_ram_RAM_Load), (26, pte_Unpack_en f_pte_Unpack), (27, walk_walker_fault_en f_walk_walker_fault), (39, pte_Reserved_en f_pte_Reserved)]) Try.f25 walk_walker_entry_ann [(.pointer p0), (.int .i64 p1), (.int .i64 p2), (.int .i64 p3)] K Kp h := by kernel_rfl
def walk_walker_entry_en (f : walk_walker_entry_T) : EnT := fun args K Kp h => match args with | [v0, v1, v2, v3] => (dP v0 fun p0 => dI .i64 v1 fun p1 => dI .i64 v2 fun p2 => dI .i64 v3 fun p3 => f p0 p1 p2 p3 (fun r0 r1 h => K (.tuple #[(.int .u64 r0), (.int .u64 r1)]) h) Kp h) | _ => False
set_option maxRecDepth 100000 in
theorem walk_walker_entry_ok (hm : Try.prog.follows .mixedOrders = true) : EntryOK Try.prog 25 (walk_walker_entry_en walk_walker_entry) := by
  refine ⟨Try.call25, fun args K Kp w hh => ?_⟩
  unfold walk_walker_entry_en at hh
  split at hh
  · rename_i v0 v1 v2 v3
    obtain ⟨p0, rfl, hh1⟩ := dP_mp hh
    obtain ⟨p1, rfl, hh2⟩ := dI_mp hh1
    obtain ⟨p2, rfl, hh3⟩ := dI_mp hh2
    obtain ⟨p3, rfl, hh4⟩ := dI_mp hh3
    unfold walk_walker_entry at hh4
    have hd : denFn Try.prog (tab [(17, ram_RAM_Load_en ram_RAM_Load), (26, pte_Unpack_en pte_Unpack), (27, walk_walker_fault_en walk_walker_fault), (39, pte_Reserved_en pte_Reserved)]) Try.f25 walk_walker_entry_ann [(.pointer p0), (.int .i64 p1), (.int .i64 p2), (.int .i64 p3)] K Kp w.heap := Eq.mp (walk_walker_entry_den ram_RAM_Load pte_Unpack walk_walker_fault pte_Reserved p0 p1 p2 p3 K Kp w.heap) hh4
    have hC : Calling Try.prog (tab [(17, ram_RAM_Load_en ram_RAM_Load), (26, pte_Unpack_en pte_Unpack), (27, walk_walker_fault_en walk_walker_fault), (39, pte_Reserved_en pte_Reserved)]) := (Calling.cons (ram_RAM_Load_ok hm) (Calling.cons (pte_Unpack_ok hm) (Calling.cons (walk_walker_fault_ok hm) (Calling.cons (pte_Reserved_ok hm) Calling.nil))))
    exact calls_of_den hm hC Try.func25 (by kernel_rfl) (by kernel_rfl) hd
  · exact hh.elim

def walk_mark_ann : Ann := (.seq none .leaf (.block (.loop ⟨[0, 1, 2, 11, 12], [(13, (.c (.i .i64)))]⟩ (.seq none .leaf (.seq none (.cond .leaf .leaf) (.seq (some ⟨[0, 1, 2, 11, 12, 13], []⟩) (.block (.seq none .leaf (.seq none .leaf (.seq none .leaf (.seq (some ⟨[0, 1, 2, 7, 8, 11, 12, 13], [(10, (.c (.i .u64)))]⟩) (.seq none .leaf (.cond .leaf .leaf)) (.seq none .leaf (.cond .leaf .leaf))))))) .leaf))))))
set_option maxRecDepth 100000 in
theorem walk_mark_den (f_ram_RAM_Load : ram_RAM_Load_T) (f_ram_RAM_Store : ram_RAM_Store_T) (p0 : Option Addr) (p1 : Sl) (p2 : Bool) (K Kp : Value → HP) (h : Hp) : (walk_mark_G f_ram_RAM_Load f_ram_RAM_Store p0 p1 p2 (fun h => K (.tuple #[]) h) h) = denFn Try.prog (tab [(17, ram_RAM_Load_en f_ram_RAM_Load), (19, ram_RAM_Store_en f_ram_RAM_Store)]) Try.f28 walk_mark_ann [(.pointer p0), (.slice p1.a p1.len p1.cap), (.bool p2)] K Kp h := by kernel_rfl
def walk_mark_en (f : walk_mark_T) : EnT := fun args K _ h => match args with | [v0, v1, v2] => (dP v0 fun p0 => dS v1 fun p1 => dB v2 fun p2 => f p0 p1 p2 (fun h => K (.tuple #[]) h) h) | _ => False
set_option maxRecDepth 100000 in
theorem walk_mark_ok (hm : Try.prog.follows .mixedOrders = true) : EntryOK Try.prog 28 (walk_mark_en walk_mark) := by
  refine ⟨Try.call28, fun args K Kp w hh => ?_⟩
  unfold walk_mark_en at hh
  split at hh
  · rename_i v0 v1 v2
    obtain ⟨p0, rfl, hh1⟩ := dP_mp hh
    obtain ⟨p1, rfl, hh2⟩ := dS_mp hh1
    obtain ⟨p2, rfl, hh3⟩ := dB_mp hh2
    unfold walk_mark at hh3
    have hd : denFn Try.prog (tab [(17, ram_RAM_Load_en ram_RAM_Load), (19, ram_RAM_Store_en ram_RAM_Store)]) Try.f28 walk_mark_ann [(.pointer p0), (.slice p1.a p1.len p1.cap), (.bool p2)] K Kp w.heap := Eq.mp (walk_mark_den ram_RAM_Load ram_RAM_Store p0 p1 p2 K Kp w.heap) hh3
    have hC : Calling Try.prog (tab [(17, ram_RAM_Load_en ram_RAM_Load), (19, ram_RAM_Store_en ram_RAM_Store)]) := (Calling.cons (ram_RAM_Load_ok hm) (Calling.cons (ram_RAM_Store_ok hm) Calling.nil))
    exact calls_of_den hm hC Try.func28 (by kernel_rfl) (by kernel_rfl) hd
  · exact hh.elim

def walk_Walk_1_an : Ann := (.seq none .leaf (.cond (.draw 0) .leaf))
def walk_Walk_1_ap : Ann := (.seq none .leaf (.cond (.drawS true [0, 1, 3, 2, 4, 5, 6, 7] [7]) .leaf))
set_option maxRecDepth 100000 in
theorem walk_Walk_1_nden (p0 : Option Addr) (p1 : Option Addr) (p2 : Option Addr) (K : HP) (h : Hp) : walk_Walk_1_n p0 p1 p2 K h = denDf Try.prog (tab []) Try.f21 walk_Walk_1_an [(.pointer p0), (.pointer p1), (.pointer p2)] .nilIface K h := by kernel_rfl
set_option maxRecDepth 100000 in
theorem walk_Walk_1_pden (p0 : Option Addr) (p1 : Option Addr) (p2 : Option Addr) (y0 : Int) (y1 : Int) (y2 : Int) (K : HP) (h : Hp) : walk_Walk_1_p p0 p1 p2 y0 y1 y2 K h = denDf Try.prog (tab []) Try.f21 walk_Walk_1_ap [(.pointer p0), (.pointer p1), (.pointer p2)] (.iface 71 (.agg #[(.int .u64 y0), (.int .i64 y1), (.int .i64 y2)])) K h := by kernel_rfl
def walk_Walk_1_dn (f : walk_Walk_1_Tn) : List Value → HP → HP := fun args K h => match args with | [v0, v1, v2] => (dP v0 fun p0 => dP v1 fun p1 => dP v2 fun p2 => f p0 p1 p2 K h) | _ => False
def walk_Walk_1_dp (f : walk_Walk_1_Tp) : List Value → Value → HP → HP := fun args v K h => match args with | [v0, v1, v2] => (dP v0 fun p0 => dP v1 fun p1 => dP v2 fun p2 => ∃ y0 : Int, ∃ y1 : Int, ∃ y2 : Int, v = (.iface 71 (.agg #[(.int .u64 y0), (.int .i64 y1), (.int .i64 y2)])) ∧ f p0 p1 p2 y0 y1 y2 K h) | _ => False
set_option maxRecDepth 100000 in
theorem walk_Walk_1_def (hm : Try.prog.follows .mixedOrders = true) : DefOK Try.prog 21 (walk_Walk_1_dn walk_Walk_1_n) (walk_Walk_1_dp walk_Walk_1_p) := by
  refine defOK_of hm Calling.nil (an := walk_Walk_1_an) (ap := walk_Walk_1_ap) Try.call21 Try.func21 (by kernel_rfl) ?_ ?_
  · intro args K h hh
    unfold walk_Walk_1_dn at hh
    split at hh
    case h_2 => exact hh.elim
    rename_i v0 v1 v2
    obtain ⟨p0, rfl, hh1⟩ := dP_mp hh
    obtain ⟨p1, rfl, hh2⟩ := dP_mp hh1
    obtain ⟨p2, rfl, hh3⟩ := dP_mp hh2
    exact ⟨by kernel_rfl, Eq.mp (walk_Walk_1_nden p0 p1 p2 K h) hh3⟩
  · intro args v K h hh
    unfold walk_Walk_1_dp at hh
    split at hh
    case h_2 => exact hh.elim
    rename_i v0 v1 v2
    obtain ⟨p0, rfl, hh1⟩ := dP_mp hh
    obtain ⟨p1, rfl, hh2⟩ := dP_mp hh1
    obtain ⟨p2, rfl, hh3⟩ := dP_mp hh2
    obtain ⟨y0, y1, y2, rfl, hk⟩ := hh3
    exact ⟨by kernel_rfl, Eq.mp (walk_Walk_1_pden p0 p1 p2 y0 y1 y2 K h) hk⟩
def walk_Walk_ann : Ann := (.seq none .leaf (.seq none .leaf (.seq none (.seq none .leaf (.cond (.seq none .leaf .leaf) .leaf)) (.seq none (.seq none .leaf (.cond (.seq none .leaf .leaf) .leaf)) (.seq none .leaf (.seq none .leaf (.seq none .leaf (.seq none .leaf (.seq (some ⟨[0, 7, 8, 9, 10], [(14, (.c .s))]⟩) (.seq none .leaf (.block (.loop ⟨[0, 7, 8, 9, 10, 11, 12], [(14, (.c .s)), (15, (.c (.i .i64))), (16, (.c (.i .i64)))]⟩ (.seq none (.seq none .leaf (.cond .leaf .leaf)) (.seq none (.block (.seq none .leaf (.seq none .leaf (.seq none .leaf (.seq none .leaf (.seq none (.seq none .leaf (.cond .leaf .leaf)) (.seq (some ⟨[0, 7, 8, 9, 10, 11, 12, 14, 16, 19], []⟩) (.seq none (.draw 5) (.cond .leaf .leaf)) (.seq none (.draw 17) (.seq none (.seq none .leaf (.cond .leaf .leaf)) .leaf))))))))) .leaf))))) (.seq none .leaf (.seq none .leaf .leaf)))))))))))
set_option maxRecDepth 100000 in
theorem walk_Walk_den (f_walk_May : walk_May_T) (f_pte_Canonical : pte_Canonical_T) (f_ram_RAM_Has : ram_RAM_Has_T) (f_pte_Split : pte_Split_T) (f_walk_walker_entry : walk_walker_entry_T) (f_pte_Unpack : pte_Unpack_T) (f_walk_walker_fault : walk_walker_fault_T) (f_walk_mark : walk_mark_T) (f_walk_Walk_1_n : walk_Walk_1_Tn) (f_walk_Walk_1_p : walk_Walk_1_Tp) (p0 : Option Addr) (p1 : Int) (p2 : Int) (p3 : Bool) (p4 : Bool) (p5 : Bool) (K Kp : Value → HP) (h : Hp) : (walk_Walk_G f_walk_May f_pte_Canonical f_ram_RAM_Has f_pte_Split f_walk_walker_entry f_pte_Unpack f_walk_walker_fault f_walk_mark f_walk_Walk_1_n f_walk_Walk_1_p p0 p1 p2 p3 p4 p5 (fun r0 r1 r2 r3 r4 r5 r6 r7 r8 r9 h => K (.tuple #[(.agg #[(.int .i64 r0), (.bool r1), (.bool r2), (.bool r3), (.bool r4), (.bool r5), (.bool r6)]), (.agg #[(.int .u64 r7), (.int .i64 r8)]), (.int .i64 r9)]) h) h) = denFnD Try.prog (tab [(15, walk_May_en f_walk_May), (22, pte_Canonical_en f_pte_Canonical), (23, ram_RAM_Has_en f_ram_RAM_Has), (24, pte_Split_en f_pte_Split), (25, walk_walker_entry_en f_walk_walker_entry), (26, pte_Unpack_en f_pte_Unpack), (27, walk_walker_fault_en f_walk_walker_fault), (28, walk_mark_en f_walk_mark)]) Try.f12 walk_Walk_ann 21 (walk_Walk_1_dn f_walk_Walk_1_n) (walk_Walk_1_dp f_walk_Walk_1_p) [(.pointer p0), (.int .i64 p1), (.int .u64 p2), (.agg #[(.bool p3), (.bool p4), (.bool p5)])] K Kp h := by kernel_rfl
def walk_Walk_en (f : walk_Walk_T) : EnT := fun args K _ h => match args with | [v0, v1, v2, v3] => (dP v0 fun p0 => dI .i64 v1 fun p1 => dI .u64 v2 fun p2 => dA v3 fun l => match l with | [u3_0, u3_1, u3_2] => (dB u3_0 fun p3 => dB u3_1 fun p4 => dB u3_2 fun p5 => f p0 p1 p2 p3 p4 p5 (fun r0 r1 r2 r3 r4 r5 r6 r7 r8 r9 h => K (.tuple #[(.agg #[(.int .i64 r0), (.bool r1), (.bool r2), (.bool r3), (.bool r4), (.bool r5), (.bool r6)]), (.agg #[(.int .u64 r7), (.int .i64 r8)]), (.int .i64 r9)]) h) h) | _ => False) | _ => False
set_option maxRecDepth 100000 in
theorem walk_Walk_ok (hm : Try.prog.follows .mixedOrders = true) : EntryOK Try.prog 12 (walk_Walk_en walk_Walk) := by
  refine ⟨Try.call12, fun args K Kp w hh => ?_⟩
  unfold walk_Walk_en at hh
  split at hh
  · rename_i v0 v1 v2 v3
    obtain ⟨p0, rfl, hh1⟩ := dP_mp hh
    obtain ⟨p1, rfl, hh2⟩ := dI_mp hh1
    obtain ⟨p2, rfl, hh3⟩ := dI_mp hh2
    obtain ⟨lhh4, rfl, hh4⟩ := dA_mp hh3
    split at hh4
    case h_2 => exact hh4.elim
    rename_i u3_0 u3_1 u3_2
    obtain ⟨p3, rfl, hh5⟩ := dB_mp hh4
    obtain ⟨p4, rfl, hh6⟩ := dB_mp hh5
    obtain ⟨p5, rfl, hh7⟩ := dB_mp hh6
    unfold walk_Walk at hh7
    have hd : denFnD Try.prog (tab [(15, walk_May_en walk_May), (22, pte_Canonical_en pte_Canonical), (23, ram_RAM_Has_en ram_RAM_Has), (24, pte_Split_en pte_Split), (25, walk_walker_entry_en walk_walker_entry), (26, pte_Unpack_en pte_Unpack), (27, walk_walker_fault_en walk_walker_fault), (28, walk_mark_en walk_mark)]) Try.f12 walk_Walk_ann 21 (walk_Walk_1_dn walk_Walk_1_n) (walk_Walk_1_dp walk_Walk_1_p) [(.pointer p0), (.int .i64 p1), (.int .u64 p2), (.agg #[(.bool p3), (.bool p4), (.bool p5)])] K Kp w.heap := Eq.mp (walk_Walk_den walk_May pte_Canonical ram_RAM_Has pte_Split walk_walker_entry pte_Unpack walk_walker_fault walk_mark walk_Walk_1_n walk_Walk_1_p p0 p1 p2 p3 p4 p5 K Kp w.heap) hh7
    have hC : Calling Try.prog (tab [(15, walk_May_en walk_May), (22, pte_Canonical_en pte_Canonical), (23, ram_RAM_Has_en ram_RAM_Has), (24, pte_Split_en pte_Split), (25, walk_walker_entry_en walk_walker_entry), (26, pte_Unpack_en pte_Unpack), (27, walk_walker_fault_en walk_walker_fault), (28, walk_mark_en walk_mark)]) := (Calling.cons (walk_May_ok hm) (Calling.cons (pte_Canonical_ok hm) (Calling.cons (ram_RAM_Has_ok hm) (Calling.cons (pte_Split_ok hm) (Calling.cons (walk_walker_entry_ok hm) (Calling.cons (pte_Unpack_ok hm) (Calling.cons (walk_walker_fault_ok hm) (Calling.cons (walk_mark_ok hm) Calling.nil))))))))
    exact calls_of_denD hm hC (walk_Walk_1_def hm) Try.func12 (by kernel_rfl) (by kernel_rfl) hd
  · exact hh.elim

def demesnelaw04_awake_ann : Ann := (.seq none .leaf (.seq none .leaf (.seq none (.seq none .leaf (.cond (.seq none .leaf .leaf) .leaf)) (.seq none .leaf (.seq none .leaf (.seq none .leaf .leaf))))))
set_option maxRecDepth 100000 in
theorem demesnelaw04_awake_den (f_demesnelaw04_Lay : demesnelaw04_Lay_T) (f_walk_Walk : walk_Walk_T) (K Kp : Value → HP) (h : Hp) : (demesnelaw04_awake_G f_demesnelaw04_Lay f_walk_Walk  (fun r0 h => K (.bool r0) h) h) = denFn Try.prog (tab [(10, demesnelaw04_Lay_en f_demesnelaw04_Lay), (12, walk_Walk_en f_walk_Walk)]) Try.f11 demesnelaw04_awake_ann [] K Kp h := by kernel_rfl
def demesnelaw04_awake_en (f : demesnelaw04_awake_T) : EnT := fun args K _ h => match args with | [] => (f  (fun r0 h => K (.bool r0) h) h) | _ => False
set_option maxRecDepth 100000 in
theorem demesnelaw04_awake_ok (hm : Try.prog.follows .mixedOrders = true) : EntryOK Try.prog 11 (demesnelaw04_awake_en demesnelaw04_awake) := by
  refine ⟨Try.call11, fun args K Kp w hh => ?_⟩
  unfold demesnelaw04_awake_en at hh
  split at hh
  · skip
    unfold demesnelaw04_awake at hh
    have hd : denFn Try.prog (tab [(10, demesnelaw04_Lay_en demesnelaw04_Lay), (12, walk_Walk_en walk_Walk)]) Try.f11 demesnelaw04_awake_ann [] K Kp w.heap := Eq.mp (demesnelaw04_awake_den demesnelaw04_Lay walk_Walk K Kp w.heap) hh
    have hC : Calling Try.prog (tab [(10, demesnelaw04_Lay_en demesnelaw04_Lay), (12, walk_Walk_en walk_Walk)]) := (Calling.cons (demesnelaw04_Lay_ok hm) (Calling.cons (walk_Walk_ok hm) Calling.nil))
    exact calls_of_den hm hC Try.func11 (by kernel_rfl) (by kernel_rfl) hd
  · exact hh.elim

def demesneref04_May_ann : Ann := (.seq none .leaf (.seq none (.seq none .leaf (.cond (.seq none .leaf .leaf) .leaf)) (.seq none (.seq none .leaf (.cond (.seq none .leaf .leaf) .leaf)) (.seq none .leaf .leaf))))
set_option maxRecDepth 100000 in
theorem demesneref04_May_den (p0 : Bool) (p1 : Bool) (p2 : Bool) (p3 : Bool) (p4 : Bool) (p5 : Bool) (K Kp : Value → HP) (h : Hp) : (demesneref04_May p0 p1 p2 p3 p4 p5 (fun r0 h => K (.bool r0) h) h) = denFn Try.prog (tab []) Try.f16 demesneref04_May_ann [(.bool p0), (.bool p1), (.bool p2), (.agg #[(.bool p3), (.bool p4), (.bool p5)])] K Kp h := by kernel_rfl
def demesneref04_May_en (f : demesneref04_May_T) : EnT := fun args K _ h => match args with | [v0, v1, v2, v3] => (dB v0 fun p0 => dB v1 fun p1 => dB v2 fun p2 => dA v3 fun l => match l with | [u3_0, u3_1, u3_2] => (dB u3_0 fun p3 => dB u3_1 fun p4 => dB u3_2 fun p5 => f p0 p1 p2 p3 p4 p5 (fun r0 h => K (.bool r0) h) h) | _ => False) | _ => False
set_option maxRecDepth 100000 in
theorem demesneref04_May_ok (hm : Try.prog.follows .mixedOrders = true) : EntryOK Try.prog 16 (demesneref04_May_en demesneref04_May) := by
  refine ⟨Try.call16, fun args K Kp w hh => ?_⟩
  unfold demesneref04_May_en at hh
  split at hh
  · rename_i v0 v1 v2 v3
    obtain ⟨p0, rfl, hh1⟩ := dB_mp hh
    obtain ⟨p1, rfl, hh2⟩ := dB_mp hh1
    obtain ⟨p2, rfl, hh3⟩ := dB_mp hh2
    obtain ⟨lhh4, rfl, hh4⟩ := dA_mp hh3
    split at hh4
    case h_2 => exact hh4.elim
    rename_i u3_0 u3_1 u3_2
    obtain ⟨p3, rfl, hh5⟩ := dB_mp hh4
    obtain ⟨p4, rfl, hh6⟩ := dB_mp hh5
    obtain ⟨p5, rfl, hh7⟩ := dB_mp hh6
    have hd : denFn Try.prog (tab []) Try.f16 demesneref04_May_ann [(.bool p0), (.bool p1), (.bool p2), (.agg #[(.bool p3), (.bool p4), (.bool p5)])] K Kp w.heap := Eq.mp (demesneref04_May_den p0 p1 p2 p3 p4 p5 K Kp w.heap) hh7
    have hC : Calling Try.prog (tab []) := Calling.nil
    exact calls_of_den hm hC Try.func16 (by kernel_rfl) (by kernel_rfl) hd
  · exact hh.elim

def demesneref03_Bit_ann : Ann := (.seq none .leaf (.seq none .leaf .leaf))
set_option maxRecDepth 100000 in
theorem demesneref03_Bit_den (p0 : Int) (p1 : Int) (K Kp : Value → HP) (h : Hp) : (demesneref03_Bit p0 p1 (fun r0 h => K (.bool r0) h) h) = denFn Try.prog (tab []) Try.f36 demesneref03_Bit_ann [(.int .u64 p0), (.int .i64 p1)] K Kp h := by kernel_rfl
def demesneref03_Bit_en (f : demesneref03_Bit_T) : EnT := fun args K _ h => match args with | [v0, v1] => (dI .u64 v0 fun p0 => dI .i64 v1 fun p1 => f p0 p1 (fun r0 h => K (.bool r0) h) h) | _ => False
set_option maxRecDepth 100000 in
theorem demesneref03_Bit_ok (hm : Try.prog.follows .mixedOrders = true) : EntryOK Try.prog 36 (demesneref03_Bit_en demesneref03_Bit) := by
  refine ⟨Try.call36, fun args K Kp w hh => ?_⟩
  unfold demesneref03_Bit_en at hh
  split at hh
  · rename_i v0 v1
    obtain ⟨p0, rfl, hh1⟩ := dI_mp hh
    obtain ⟨p1, rfl, hh2⟩ := dI_mp hh1
    have hd : denFn Try.prog (tab []) Try.f36 demesneref03_Bit_ann [(.int .u64 p0), (.int .i64 p1)] K Kp w.heap := Eq.mp (demesneref03_Bit_den p0 p1 K Kp w.heap) hh2
    have hC : Calling Try.prog (tab []) := Calling.nil
    exact calls_of_den hm hC Try.func36 (by kernel_rfl) (by kernel_rfl) hd
  · exact hh.elim

def demesneref03_Canonical_ann : Ann := (.seq none .leaf (.seq none (.seq none .leaf (.block (.loop ⟨[0], [(3, (.c (.i .i64)))]⟩ (.seq none (.seq none .leaf (.cond .leaf .leaf)) (.seq none (.block (.seq none .leaf (.cond (.seq none .leaf .leaf) .leaf))) .leaf))))) (.seq none .leaf .leaf)))
set_option maxRecDepth 100000 in
theorem demesneref03_Canonical_den (f_demesneref03_Bit : demesneref03_Bit_T) (p0 : Int) (K Kp : Value → HP) (h : Hp) : (demesneref03_Canonical_G f_demesneref03_Bit p0 (fun r0 h => K (.bool r0) h) h) = denFn Try.prog (tab [(36, demesneref03_Bit_en f_demesneref03_Bit)]) Try.f29 demesneref03_Canonical_ann [(.int .u64 p0)] K Kp h := by kernel_rfl
def demesneref03_Canonical_en (f : demesneref03_Canonical_T) : EnT := fun args K _ h => match args with | [v0] => (dI .u64 v0 fun p0 => f p0 (fun r0 h => K (.bool r0) h) h) | _ => False
set_option maxRecDepth 100000 in
theorem demesneref03_Canonical_ok (hm : Try.prog.follows .mixedOrders = true) : EntryOK Try.prog 29 (demesneref03_Canonical_en demesneref03_Canonical) := by
  refine ⟨Try.call29, fun args K Kp w hh => ?_⟩
  unfold demesneref03_Canonical_en at hh
  split at hh
  · rename_i v0
    obtain ⟨p0, rfl, hh1⟩ := dI_mp hh
    unfold demesneref03_Canonical at hh1
    have hd : denFn Try.prog (tab [(36, demesneref03_Bit_en demesneref03_Bit)]) Try.f29 demesneref03_Canonical_ann [(.int .u64 p0)] K Kp w.heap := Eq.mp (demesneref03_Canonical_den demesneref03_Bit p0 K Kp w.heap) hh1
    have hC : Calling Try.prog (tab [(36, demesneref03_Bit_en demesneref03_Bit)]) := (Calling.cons (demesneref03_Bit_ok hm) Calling.nil)
    exact calls_of_den hm hC Try.func29 (by kernel_rfl) (by kernel_rfl) hd
  · exact hh.elim

def demesneref01_Has_ann : Ann := (.seq none .leaf (.seq (some ⟨[1, 2], [(5, (.c .b))]⟩) .leaf (.seq none (.seq none .leaf (.block (.loop ⟨[1, 17, 18], [(5, (.c .b)), (19, (.c (.i .i64)))]⟩ (.seq none .leaf (.seq none (.cond .leaf .leaf) (.seq (some ⟨[1, 17, 18, 19], [(5, (.c .b))]⟩) (.block (.seq none .leaf .leaf)) .leaf)))))) (.seq none .leaf .leaf))))
set_option maxRecDepth 100000 in
theorem demesneref01_Has_den (p0 : Int) (p1 : Sl) (p2 : Option Nat) (p3 : Int) (K Kp : Value → HP) (h : Hp) : (demesneref01_Has p0 p1 p2 p3 (fun r0 h => K (.bool r0) h) h) = denFn Try.prog (tab []) Try.f30 demesneref01_Has_ann [(.agg #[(.int .i64 p0), (.slice p1.a p1.len p1.cap), (.map p2)]), (.int .i64 p3)] K Kp h := by kernel_rfl
def demesneref01_Has_en (f : demesneref01_Has_T) : EnT := fun args K _ h => match args with | [v0, v1] => (dA v0 fun l => match l with | [u0_0, u0_1, u0_2] => (dI .i64 u0_0 fun p0 => dS u0_1 fun p1 => dM u0_2 fun p2 => dI .i64 v1 fun p3 => f p0 p1 p2 p3 (fun r0 h => K (.bool r0) h) h) | _ => False) | _ => False
set_option maxRecDepth 100000 in
theorem demesneref01_Has_ok (hm : Try.prog.follows .mixedOrders = true) : EntryOK Try.prog 30 (demesneref01_Has_en demesneref01_Has) := by
  refine ⟨Try.call30, fun args K Kp w hh => ?_⟩
  unfold demesneref01_Has_en at hh
  split at hh
  · rename_i v0 v1
    obtain ⟨lhh1, rfl, hh1⟩ := dA_mp hh
    split at hh1
    case h_2 => exact hh1.elim
    rename_i u0_0 u0_1 u0_2
    obtain ⟨p0, rfl, hh2⟩ := dI_mp hh1
    obtain ⟨p1, rfl, hh3⟩ := dS_mp hh2
    obtain ⟨p2, rfl, hh4⟩ := dM_mp hh3
    obtain ⟨p3, rfl, hh5⟩ := dI_mp hh4
    have hd : denFn Try.prog (tab []) Try.f30 demesneref01_Has_ann [(.agg #[(.int .i64 p0), (.slice p1.a p1.len p1.cap), (.map p2)]), (.int .i64 p3)] K Kp w.heap := Eq.mp (demesneref01_Has_den p0 p1 p2 p3 K Kp w.heap) hh5
    have hC : Calling Try.prog (tab []) := Calling.nil
    exact calls_of_den hm hC Try.func30 (by kernel_rfl) (by kernel_rfl) hd
  · exact hh.elim

def demesneref03_Part_ann : Ann := (.seq none .leaf (.seq none .leaf (.seq none (.seq none .leaf (.block (.loop ⟨[0, 1], [(7, (.c (.i .i64))), (8, (.c (.i .i64)))]⟩ (.seq none (.seq none .leaf (.cond .leaf .leaf)) (.seq (some ⟨[0, 1, 8], [(7, (.c (.i .i64)))]⟩) (.block (.seq none .leaf (.seq none .leaf (.cond .leaf .leaf)))) .leaf))))) (.seq none .leaf .leaf))))
set_option maxRecDepth 100000 in
theorem demesneref03_Part_den (f_demesneref03_Bit : demesneref03_Bit_T) (p0 : Int) (p1 : Int) (p2 : Int) (K Kp : Value → HP) (h : Hp) : (demesneref03_Part_G f_demesneref03_Bit p0 p1 p2 (fun r0 h => K (.int .i64 r0) h) h) = denFn Try.prog (tab [(36, demesneref03_Bit_en f_demesneref03_Bit)]) Try.f31 demesneref03_Part_ann [(.int .u64 p0), (.int .i64 p1), (.int .i64 p2)] K Kp h := by kernel_rfl
def demesneref03_Part_en (f : demesneref03_Part_T) : EnT := fun args K _ h => match args with | [v0, v1, v2] => (dI .u64 v0 fun p0 => dI .i64 v1 fun p1 => dI .i64 v2 fun p2 => f p0 p1 p2 (fun r0 h => K (.int .i64 r0) h) h) | _ => False
set_option maxRecDepth 100000 in
theorem demesneref03_Part_ok (hm : Try.prog.follows .mixedOrders = true) : EntryOK Try.prog 31 (demesneref03_Part_en demesneref03_Part) := by
  refine ⟨Try.call31, fun args K Kp w hh => ?_⟩
  unfold demesneref03_Part_en at hh
  split at hh
  · rename_i v0 v1 v2
    obtain ⟨p0, rfl, hh1⟩ := dI_mp hh
    obtain ⟨p1, rfl, hh2⟩ := dI_mp hh1
    obtain ⟨p2, rfl, hh3⟩ := dI_mp hh2
    unfold demesneref03_Part at hh3
    have hd : denFn Try.prog (tab [(36, demesneref03_Bit_en demesneref03_Bit)]) Try.f31 demesneref03_Part_ann [(.int .u64 p0), (.int .i64 p1), (.int .i64 p2)] K Kp w.heap := Eq.mp (demesneref03_Part_den demesneref03_Bit p0 p1 p2 K Kp w.heap) hh3
    have hC : Calling Try.prog (tab [(36, demesneref03_Bit_en demesneref03_Bit)]) := (Calling.cons (demesneref03_Bit_ok hm) Calling.nil)
    exact calls_of_den hm hC Try.func31 (by kernel_rfl) (by kernel_rfl) hd
  · exact hh.elim

def demesneref01_Load_ann : Ann := (.seq none .leaf (.seq none .leaf (.seq none (.seq none .leaf (.block (.loop ⟨[1, 2, 3], [(7, (.c (.i .u64))), (8, (.c (.i .i64)))]⟩ (.seq none (.seq none .leaf (.cond .leaf .leaf)) (.seq none (.block .leaf) .leaf))))) (.seq none .leaf .leaf))))
set_option maxRecDepth 100000 in
theorem demesneref01_Load_den (p0 : Int) (p1 : Sl) (p2 : Option Nat) (p3 : Int) (p4 : Int) (K Kp : Value → HP) (h : Hp) : (demesneref01_Load p0 p1 p2 p3 p4 (fun r0 h => K (.int .u64 r0) h) h) = denFn Try.prog (tab []) Try.f32 demesneref01_Load_ann [(.agg #[(.int .i64 p0), (.slice p1.a p1.len p1.cap), (.map p2)]), (.int .u64 p3), (.int .i64 p4)] K Kp h := by kernel_rfl
def demesneref01_Load_en (f : demesneref01_Load_T) : EnT := fun args K _ h => match args with | [v0, v1, v2] => (dA v0 fun l => match l with | [u0_0, u0_1, u0_2] => (dI .i64 u0_0 fun p0 => dS u0_1 fun p1 => dM u0_2 fun p2 => dI .u64 v1 fun p3 => dI .i64 v2 fun p4 => f p0 p1 p2 p3 p4 (fun r0 h => K (.int .u64 r0) h) h) | _ => False) | _ => False
set_option maxRecDepth 100000 in
theorem demesneref01_Load_ok (hm : Try.prog.follows .mixedOrders = true) : EntryOK Try.prog 32 (demesneref01_Load_en demesneref01_Load) := by
  refine ⟨Try.call32, fun args K Kp w hh => ?_⟩
  unfold demesneref01_Load_en at hh
  split at hh
  · rename_i v0 v1 v2
    obtain ⟨lhh1, rfl, hh1⟩ := dA_mp hh
    split at hh1
    case h_2 => exact hh1.elim
    rename_i u0_0 u0_1 u0_2
    obtain ⟨p0, rfl, hh2⟩ := dI_mp hh1
    obtain ⟨p1, rfl, hh3⟩ := dS_mp hh2
    obtain ⟨p2, rfl, hh4⟩ := dM_mp hh3
    obtain ⟨p3, rfl, hh5⟩ := dI_mp hh4
    obtain ⟨p4, rfl, hh6⟩ := dI_mp hh5
    have hd : denFn Try.prog (tab []) Try.f32 demesneref01_Load_ann [(.agg #[(.int .i64 p0), (.slice p1.a p1.len p1.cap), (.map p2)]), (.int .u64 p3), (.int .i64 p4)] K Kp w.heap := Eq.mp (demesneref01_Load_den p0 p1 p2 p3 p4 K Kp w.heap) hh6
    have hC : Calling Try.prog (tab []) := Calling.nil
    exact calls_of_den hm hC Try.func32 (by kernel_rfl) (by kernel_rfl) hd
  · exact hh.elim

def demesneref03_Unpack_ann : Ann := (.seq none .leaf (.seq none .leaf .leaf))
set_option maxRecDepth 100000 in
theorem demesneref03_Unpack_den (f_demesneref03_Bit : demesneref03_Bit_T) (p0 : Int) (K Kp : Value → HP) (h : Hp) : (demesneref03_Unpack_G f_demesneref03_Bit p0 (fun r0 r1 r2 r3 r4 r5 r6 r7 r8 h => K (.agg #[(.bool r0), (.bool r1), (.bool r2), (.bool r3), (.bool r4), (.bool r5), (.bool r6), (.bool r7), (.int .i64 r8)]) h) h) = denFn Try.prog (tab [(36, demesneref03_Bit_en f_demesneref03_Bit)]) Try.f33 demesneref03_Unpack_ann [(.int .u64 p0)] K Kp h := by kernel_rfl
def demesneref03_Unpack_en (f : demesneref03_Unpack_T) : EnT := fun args K _ h => match args with | [v0] => (dI .u64 v0 fun p0 => f p0 (fun r0 r1 r2 r3 r4 r5 r6 r7 r8 h => K (.agg #[(.bool r0), (.bool r1), (.bool r2), (.bool r3), (.bool r4), (.bool r5), (.bool r6), (.bool r7), (.int .i64 r8)]) h) h) | _ => False
set_option maxRecDepth 100000 in
theorem demesneref03_Unpack_ok (hm : Try.prog.follows .mixedOrders = true) : EntryOK Try.prog 33 (demesneref03_Unpack_en demesneref03_Unpack) := by
  refine ⟨Try.call33, fun args K Kp w hh => ?_⟩
  unfold demesneref03_Unpack_en at hh
  split at hh
  · rename_i v0
    obtain ⟨p0, rfl, hh1⟩ := dI_mp hh
    unfold demesneref03_Unpack at hh1
    have hd : denFn Try.prog (tab [(36, demesneref03_Bit_en demesneref03_Bit)]) Try.f33 demesneref03_Unpack_ann [(.int .u64 p0)] K Kp w.heap := Eq.mp (demesneref03_Unpack_den demesneref03_Bit p0 K Kp w.heap) hh1
    have hC : Calling Try.prog (tab [(36, demesneref03_Bit_en demesneref03_Bit)]) := (Calling.cons (demesneref03_Bit_ok hm) Calling.nil)
    exact calls_of_den hm hC Try.func33 (by kernel_rfl) (by kernel_rfl) hd
  · exact hh.elim

def demesneref04_Code_ann : Ann := (.seq none .leaf (.seq none .leaf (.seq (some ⟨[1], [(3, (.c (.i .i64)))]⟩) (.seq none .leaf (.cond .leaf .leaf)) (.seq (some ⟨[1], [(3, (.c (.i .i64)))]⟩) (.seq none .leaf (.cond .leaf .leaf)) (.seq (some ⟨[], [(3, (.c (.i .i64)))]⟩) (.seq none .leaf (.cond .leaf .leaf)) (.seq none .leaf .leaf))))))
set_option maxRecDepth 100000 in
theorem demesneref04_Code_den (p0 : Bool) (p1 : Bool) (p2 : Bool) (K Kp : Value → HP) (h : Hp) : (demesneref04_Code p0 p1 p2 (fun r0 h => K (.int .i64 r0) h) h) = denFn Try.prog (tab []) Try.f34 demesneref04_Code_ann [(.agg #[(.bool p0), (.bool p1), (.bool p2)])] K Kp h := by kernel_rfl
def demesneref04_Code_en (f : demesneref04_Code_T) : EnT := fun args K _ h => match args with | [v0] => (dA v0 fun l => match l with | [u0_0, u0_1, u0_2] => (dB u0_0 fun p0 => dB u0_1 fun p1 => dB u0_2 fun p2 => f p0 p1 p2 (fun r0 h => K (.int .i64 r0) h) h) | _ => False) | _ => False
set_option maxRecDepth 100000 in
theorem demesneref04_Code_ok (hm : Try.prog.follows .mixedOrders = true) : EntryOK Try.prog 34 (demesneref04_Code_en demesneref04_Code) := by
  refine ⟨Try.call34, fun args K Kp w hh => ?_⟩
  unfold demesneref04_Code_en at hh
  split at hh
  · rename_i v0
    obtain ⟨lhh1, rfl, hh1⟩ := dA_mp hh
    split at hh1
    case h_2 => exact hh1.elim
    rename_i u0_0 u0_1 u0_2
    obtain ⟨p0, rfl, hh2⟩ := dB_mp hh1
    obtain ⟨p1, rfl, hh3⟩ := dB_mp hh2
    obtain ⟨p2, rfl, hh4⟩ := dB_mp hh3
    have hd : denFn Try.prog (tab []) Try.f34 demesneref04_Code_ann [(.agg #[(.bool p0), (.bool p1), (.bool p2)])] K Kp w.heap := Eq.mp (demesneref04_Code_den p0 p1 p2 K Kp w.heap) hh4
    have hC : Calling Try.prog (tab []) := Calling.nil
    exact calls_of_den hm hC Try.func34 (by kernel_rfl) (by kernel_rfl) hd
  · exact hh.elim

def demesneref03_any_ann : Ann := (.seq none .leaf (.seq none (.seq none .leaf (.block (.loop ⟨[0, 2], [(7, (.c (.i .i64)))]⟩ (.seq none (.seq none .leaf (.cond .leaf .leaf)) (.seq none (.block (.seq none .leaf (.cond (.seq none .leaf .leaf) .leaf))) .leaf))))) (.seq none .leaf .leaf)))
set_option maxRecDepth 100000 in
theorem demesneref03_any_den (f_demesneref03_Bit : demesneref03_Bit_T) (p0 : Int) (p1 : Int) (p2 : Int) (K Kp : Value → HP) (h : Hp) : (demesneref03_any_G f_demesneref03_Bit p0 p1 p2 (fun r0 h => K (.bool r0) h) h) = denFn Try.prog (tab [(36, demesneref03_Bit_en f_demesneref03_Bit)]) Try.f42 demesneref03_any_ann [(.int .u64 p0), (.int .i64 p1), (.int .i64 p2)] K Kp h := by kernel_rfl
def demesneref03_any_en (f : demesneref03_any_T) : EnT := fun args K _ h => match args with | [v0, v1, v2] => (dI .u64 v0 fun p0 => dI .i64 v1 fun p1 => dI .i64 v2 fun p2 => f p0 p1 p2 (fun r0 h => K (.bool r0) h) h) | _ => False
set_option maxRecDepth 100000 in
theorem demesneref03_any_ok (hm : Try.prog.follows .mixedOrders = true) : EntryOK Try.prog 42 (demesneref03_any_en demesneref03_any) := by
  refine ⟨Try.call42, fun args K Kp w hh => ?_⟩
  unfold demesneref03_any_en at hh
  split at hh
  · rename_i v0 v1 v2
    obtain ⟨p0, rfl, hh1⟩ := dI_mp hh
    obtain ⟨p1, rfl, hh2⟩ := dI_mp hh1
    obtain ⟨p2, rfl, hh3⟩ := dI_mp hh2
    unfold demesneref03_any at hh3
    have hd : denFn Try.prog (tab [(36, demesneref03_Bit_en demesneref03_Bit)]) Try.f42 demesneref03_any_ann [(.int .u64 p0), (.int .i64 p1), (.int .i64 p2)] K Kp w.heap := Eq.mp (demesneref03_any_den demesneref03_Bit p0 p1 p2 K Kp w.heap) hh3
    have hC : Calling Try.prog (tab [(36, demesneref03_Bit_en demesneref03_Bit)]) := (Calling.cons (demesneref03_Bit_ok hm) Calling.nil)
    exact calls_of_den hm hC Try.func42 (by kernel_rfl) (by kernel_rfl) hd
  · exact hh.elim

def demesneref03_Reserved_ann : Ann := (.seq none .leaf (.seq none (.seq none .leaf (.cond (.seq none .leaf .leaf) .leaf)) (.seq none (.seq none .leaf (.cond (.seq none .leaf .leaf) .leaf)) (.seq none (.seq none .leaf (.cond (.seq none .leaf .leaf) .leaf)) (.seq none .leaf .leaf)))))
set_option maxRecDepth 100000 in
theorem demesneref03_Reserved_den (f_demesneref03_Bit : demesneref03_Bit_T) (f_demesneref03_any : demesneref03_any_T) (p0 : Int) (p1 : Int) (K Kp : Value → HP) (h : Hp) : (demesneref03_Reserved_G f_demesneref03_Bit f_demesneref03_any p0 p1 (fun r0 h => K (.bool r0) h) h) = denFn Try.prog (tab [(36, demesneref03_Bit_en f_demesneref03_Bit), (42, demesneref03_any_en f_demesneref03_any)]) Try.f35 demesneref03_Reserved_ann [(.int .u64 p0), (.int .i64 p1)] K Kp h := by kernel_rfl
def demesneref03_Reserved_en (f : demesneref03_Reserved_T) : EnT := fun args K _ h => match args with | [v0, v1] => (dI .u64 v0 fun p0 => dI .i64 v1 fun p1 => f p0 p1 (fun r0 h => K (.bool r0) h) h) | _ => False
set_option maxRecDepth 100000 in
theorem demesneref03_Reserved_ok (hm : Try.prog.follows .mixedOrders = true) : EntryOK Try.prog 35 (demesneref03_Reserved_en demesneref03_Reserved) := by
  refine ⟨Try.call35, fun args K Kp w hh => ?_⟩
  unfold demesneref03_Reserved_en at hh
  split at hh
  · rename_i v0 v1
    obtain ⟨p0, rfl, hh1⟩ := dI_mp hh
    obtain ⟨p1, rfl, hh2⟩ := dI_mp hh1
    unfold demesneref03_Reserved at hh2
    have hd : denFn Try.prog (tab [(36, demesneref03_Bit_en demesneref03_Bit), (42, demesneref03_any_en demesneref03_any)]) Try.f35 demesneref03_Reserved_ann [(.int .u64 p0), (.int .i64 p1)] K Kp w.heap := Eq.mp (demesneref03_Reserved_den demesneref03_Bit demesneref03_any p0 p1 K Kp w.heap) hh2
    have hC : Calling Try.prog (tab [(36, demesneref03_Bit_en demesneref03_Bit), (42, demesneref03_any_en demesneref03_any)]) := (Calling.cons (demesneref03_Bit_ok hm) (Calling.cons (demesneref03_any_ok hm) Calling.nil))
    exact calls_of_den hm hC Try.func35 (by kernel_rfl) (by kernel_rfl) hd
  · exact hh.elim

def demesneref04_Walk_ann : Ann := (.seq none .leaf (.seq none (.seq none .leaf (.cond (.seq none .leaf .leaf) .leaf)) (.seq none (.seq none .leaf (.cond (.seq none .leaf .leaf) .leaf)) (.seq none .leaf (.seq none .leaf (.seq none .leaf (.seq (some ⟨[4, 7, 8, 11], [(12, (.c .s))]⟩) (.seq none .leaf (.block (.loop ⟨[2, 4, 7, 8, 11], [(12, (.c .s)), (13, (.c (.i .i64))), (14, (.c (.i .i64)))]⟩ (.seq none (.seq none .leaf (.cond .leaf .leaf)) (.seq none (.block (.seq none (.seq none .leaf (.cond (.seq none .leaf .leaf) .leaf)) (.seq none .leaf (.seq none .leaf (.seq none .leaf (.seq none (.seq none .leaf (.cond (.seq none .leaf .leaf) .leaf)) (.seq none (.seq none .leaf (.cond (.seq none .leaf .leaf) .leaf)) (.seq none .leaf (.seq (some ⟨[2, 4, 7, 8, 11, 12, 14, 17], []⟩) .leaf (.seq (some ⟨[2, 4, 7, 8, 11, 12, 14, 17], []⟩) .leaf (.seq (some ⟨[2, 4, 7, 8, 11, 12, 14, 17], []⟩) .leaf (.seq none .leaf (.seq (some ⟨[2, 4, 7, 8, 11, 12, 13, 14, 17], [(108, (.c .b))]⟩) .leaf (.cond (.seq none .leaf (.seq none .leaf (.seq (some ⟨[2, 4, 7, 8, 11, 12, 14], []⟩) .leaf (.seq none .leaf (.seq none (.seq none .leaf (.cond (.drawS true [0, 2, 1, 3, 4, 5, 6] [6]) .leaf)) .leaf))))) .leaf)))))))))))))) .leaf))))) (.seq none (.seq none .leaf (.cond (.seq none .leaf .leaf) .leaf)) (.seq none (.seq none .leaf (.block (.loop ⟨[4, 7, 8, 11, 12, 146, 147], [(148, (.c (.i .i64)))]⟩ (.seq none .leaf (.seq none (.cond .leaf .leaf) (.seq none (.block (.seq none .leaf (.seq none .leaf (.seq (some ⟨[4, 7, 8, 11, 12, 18, 19, 146, 147, 148], [(20, (.c (.i .u64)))]⟩) (.seq none .leaf (.cond .leaf .leaf)) (.seq (some ⟨[4, 7, 8, 11, 12, 19, 146, 147, 148], [(20, (.c (.i .u64)))]⟩) (.seq none .leaf (.cond .leaf .leaf)) .leaf))))) .leaf)))))) (.seq none .leaf .leaf))))))))))
set_option maxRecDepth 100000 in
theorem demesneref04_Walk_den (f_demesneref04_May : demesneref04_May_T) (f_demesneref01_Store : demesneref01_Store_T) (f_demesneref03_Canonical : demesneref03_Canonical_T) (f_demesneref01_Has : demesneref01_Has_T) (f_demesneref03_Part : demesneref03_Part_T) (f_demesneref01_Load : demesneref01_Load_T) (f_demesneref03_Unpack : demesneref03_Unpack_T) (f_demesneref04_Code : demesneref04_Code_T) (f_demesneref03_Reserved : demesneref03_Reserved_T) (f_demesneref03_Bit : demesneref03_Bit_T) (p0 : Int) (p1 : Sl) (p2 : Option Nat) (p3 : Int) (p4 : Int) (p5 : Bool) (p6 : Bool) (p7 : Bool) (K Kp : Value → HP) (h : Hp) : (demesneref04_Walk_G f_demesneref04_May f_demesneref01_Store f_demesneref03_Canonical f_demesneref01_Has f_demesneref03_Part f_demesneref01_Load f_demesneref03_Unpack f_demesneref04_Code f_demesneref03_Reserved f_demesneref03_Bit p0 p1 p2 p3 p4 p5 p6 p7 (fun r0 r1 r2 r3 r4 r5 r6 r7 r8 h => K (.tuple #[(.agg #[(.int .i64 r0), (.bool r1), (.bool r2), (.bool r3), (.bool r4), (.bool r5), (.bool r6)]), (.int .i64 r7), (.int .i64 r8)]) h) h) = denFn Try.prog (tab [(16, demesneref04_May_en f_demesneref04_May), (20, demesneref01_Store_en f_demesneref01_Store), (29, demesneref03_Canonical_en f_demesneref03_Canonical), (30, demesneref01_Has_en f_demesneref01_Has), (31, demesneref03_Part_en f_demesneref03_Part), (32, demesneref01_Load_en f_demesneref01_Load), (33, demesneref03_Unpack_en f_demesneref03_Unpack), (34, demesneref04_Code_en f_demesneref04_Code), (35, demesneref03_Reserved_en f_demesneref03_Reserved), (36, demesneref03_Bit_en f_demesneref03_Bit)]) Try.f13 demesneref04_Walk_ann [(.agg #[(.int .i64 p0), (.slice p1.a p1.len p1.cap), (.map p2)]), (.int .i64 p3), (.int .u64 p4), (.agg #[(.bool p5), (.bool p6), (.bool p7)])] K Kp h := by kernel_rfl
def demesneref04_Walk_en (f : demesneref04_Walk_T) : EnT := fun args K _ h => match args with | [v0, v1, v2, v3] => (dA v0 fun l => match l with | [u0_0, u0_1, u0_2] => (dI .i64 u0_0 fun p0 => dS u0_1 fun p1 => dM u0_2 fun p2 => dI .i64 v1 fun p3 => dI .u64 v2 fun p4 => dA v3 fun l => match l with | [u3_0, u3_1, u3_2] => (dB u3_0 fun p5 => dB u3_1 fun p6 => dB u3_2 fun p7 => f p0 p1 p2 p3 p4 p5 p6 p7 (fun r0 r1 r2 r3 r4 r5 r6 r7 r8 h => K (.tuple #[(.agg #[(.int .i64 r0), (.bool r1), (.bool r2), (.bool r3), (.bool r4), (.bool r5), (.bool r6)]), (.int .i64 r7), (.int .i64 r8)]) h) h) | _ => False) | _ => False) | _ => False
set_option maxRecDepth 100000 in
theorem demesneref04_Walk_ok (hm : Try.prog.follows .mixedOrders = true) : EntryOK Try.prog 13 (demesneref04_Walk_en demesneref04_Walk) := by
  refine ⟨Try.call13, fun args K Kp w hh => ?_⟩
  unfold demesneref04_Walk_en at hh
  split at hh
  · rename_i v0 v1 v2 v3
    obtain ⟨lhh1, rfl, hh1⟩ := dA_mp hh
    split at hh1
    case h_2 => exact hh1.elim
    rename_i u0_0 u0_1 u0_2
    obtain ⟨p0, rfl, hh2⟩ := dI_mp hh1
    obtain ⟨p1, rfl, hh3⟩ := dS_mp hh2
    obtain ⟨p2, rfl, hh4⟩ := dM_mp hh3
    obtain ⟨p3, rfl, hh5⟩ := dI_mp hh4
    obtain ⟨p4, rfl, hh6⟩ := dI_mp hh5
    obtain ⟨lhh7, rfl, hh7⟩ := dA_mp hh6
    split at hh7
    case h_2 => exact hh7.elim
    rename_i u3_0 u3_1 u3_2
    obtain ⟨p5, rfl, hh8⟩ := dB_mp hh7
    obtain ⟨p6, rfl, hh9⟩ := dB_mp hh8
    obtain ⟨p7, rfl, hh10⟩ := dB_mp hh9
    unfold demesneref04_Walk at hh10
    have hd : denFn Try.prog (tab [(16, demesneref04_May_en demesneref04_May), (20, demesneref01_Store_en demesneref01_Store), (29, demesneref03_Canonical_en demesneref03_Canonical), (30, demesneref01_Has_en demesneref01_Has), (31, demesneref03_Part_en demesneref03_Part), (32, demesneref01_Load_en demesneref01_Load), (33, demesneref03_Unpack_en demesneref03_Unpack), (34, demesneref04_Code_en demesneref04_Code), (35, demesneref03_Reserved_en demesneref03_Reserved), (36, demesneref03_Bit_en demesneref03_Bit)]) Try.f13 demesneref04_Walk_ann [(.agg #[(.int .i64 p0), (.slice p1.a p1.len p1.cap), (.map p2)]), (.int .i64 p3), (.int .u64 p4), (.agg #[(.bool p5), (.bool p6), (.bool p7)])] K Kp w.heap := Eq.mp (demesneref04_Walk_den demesneref04_May demesneref01_Store demesneref03_Canonical demesneref01_Has demesneref03_Part demesneref01_Load demesneref03_Unpack demesneref04_Code demesneref03_Reserved demesneref03_Bit p0 p1 p2 p3 p4 p5 p6 p7 K Kp w.heap) hh10
    have hC : Calling Try.prog (tab [(16, demesneref04_May_en demesneref04_May), (20, demesneref01_Store_en demesneref01_Store), (29, demesneref03_Canonical_en demesneref03_Canonical), (30, demesneref01_Has_en demesneref01_Has), (31, demesneref03_Part_en demesneref03_Part), (32, demesneref01_Load_en demesneref01_Load), (33, demesneref03_Unpack_en demesneref03_Unpack), (34, demesneref04_Code_en demesneref04_Code), (35, demesneref03_Reserved_en demesneref03_Reserved), (36, demesneref03_Bit_en demesneref03_Bit)]) := (Calling.cons (demesneref04_May_ok hm) (Calling.cons (demesneref01_Store_ok hm) (Calling.cons (demesneref03_Canonical_ok hm) (Calling.cons (demesneref01_Has_ok hm) (Calling.cons (demesneref03_Part_ok hm) (Calling.cons (demesneref01_Load_ok hm) (Calling.cons (demesneref03_Unpack_ok hm) (Calling.cons (demesneref04_Code_ok hm) (Calling.cons (demesneref03_Reserved_ok hm) (Calling.cons (demesneref03_Bit_ok hm) Calling.nil))))))))))
    exact calls_of_den hm hC Try.func13 (by kernel_rfl) (by kernel_rfl) hd
  · exact hh.elim

def demesnelaw04_Same_ann : Ann := (.seq none .leaf (.seq none (.seq none .leaf (.block (.loop ⟨[0, 2, 4], [(7, (.c (.i .i64)))]⟩ (.seq none (.seq none .leaf (.cond .leaf .leaf)) (.seq (some ⟨[0, 2, 4, 7], []⟩) (.block (.seq none .leaf (.seq none (.seq none .leaf (.cond .leaf .leaf)) (.seq none .leaf (.seq none .leaf (.seq none .leaf (.cond (.seq none .leaf .leaf) .leaf))))))) .leaf))))) (.seq none .leaf .leaf)))
set_option maxRecDepth 100000 in
theorem demesnelaw04_Same_den (f_ram_RAM_Load : ram_RAM_Load_T) (f_demesneref01_Load : demesneref01_Load_T) (p0 : Option Addr) (p1 : Int) (p2 : Sl) (p3 : Option Nat) (p4 : Sl) (K Kp : Value → HP) (h : Hp) : (demesnelaw04_Same_G f_ram_RAM_Load f_demesneref01_Load p0 p1 p2 p3 p4 (fun r0 h => K (.int .i64 r0) h) h) = denFn Try.prog (tab [(17, ram_RAM_Load_en f_ram_RAM_Load), (32, demesneref01_Load_en f_demesneref01_Load)]) Try.f14 demesnelaw04_Same_ann [(.pointer p0), (.agg #[(.int .i64 p1), (.slice p2.a p2.len p2.cap), (.map p3)]), (.slice p4.a p4.len p4.cap)] K Kp h := by kernel_rfl
def demesnelaw04_Same_en (f : demesnelaw04_Same_T) : EnT := fun args K _ h => match args with | [v0, v1, v2] => (dP v0 fun p0 => dA v1 fun l => match l with | [u1_0, u1_1, u1_2] => (dI .i64 u1_0 fun p1 => dS u1_1 fun p2 => dM u1_2 fun p3 => dS v2 fun p4 => f p0 p1 p2 p3 p4 (fun r0 h => K (.int .i64 r0) h) h) | _ => False) | _ => False
set_option maxRecDepth 100000 in
theorem demesnelaw04_Same_ok (hm : Try.prog.follows .mixedOrders = true) : EntryOK Try.prog 14 (demesnelaw04_Same_en demesnelaw04_Same) := by
  refine ⟨Try.call14, fun args K Kp w hh => ?_⟩
  unfold demesnelaw04_Same_en at hh
  split at hh
  · rename_i v0 v1 v2
    obtain ⟨p0, rfl, hh1⟩ := dP_mp hh
    obtain ⟨lhh2, rfl, hh2⟩ := dA_mp hh1
    split at hh2
    case h_2 => exact hh2.elim
    rename_i u1_0 u1_1 u1_2
    obtain ⟨p1, rfl, hh3⟩ := dI_mp hh2
    obtain ⟨p2, rfl, hh4⟩ := dS_mp hh3
    obtain ⟨p3, rfl, hh5⟩ := dM_mp hh4
    obtain ⟨p4, rfl, hh6⟩ := dS_mp hh5
    unfold demesnelaw04_Same at hh6
    have hd : denFn Try.prog (tab [(17, ram_RAM_Load_en ram_RAM_Load), (32, demesneref01_Load_en demesneref01_Load)]) Try.f14 demesnelaw04_Same_ann [(.pointer p0), (.agg #[(.int .i64 p1), (.slice p2.a p2.len p2.cap), (.map p3)]), (.slice p4.a p4.len p4.cap)] K Kp w.heap := Eq.mp (demesnelaw04_Same_den ram_RAM_Load demesneref01_Load p0 p1 p2 p3 p4 K Kp w.heap) hh6
    have hC : Calling Try.prog (tab [(17, ram_RAM_Load_en ram_RAM_Load), (32, demesneref01_Load_en demesneref01_Load)]) := (Calling.cons (ram_RAM_Load_ok hm) (Calling.cons (demesneref01_Load_ok hm) Calling.nil))
    exact calls_of_den hm hC Try.func14 (by kernel_rfl) (by kernel_rfl) hd
  · exact hh.elim

def demesnelaw04_WalkPlays_ann : Ann := (.seq none .leaf (.seq none .leaf (.seq none (.seq none .leaf (.cond (.seq none .leaf .leaf) .leaf)) (.seq none (.seq none .leaf (.block (.loop ⟨[0, 1, 5, 6], [(7, (.c (.i .i64)))]⟩ (.seq none (.seq none .leaf (.cond .leaf .leaf)) (.seq none (.block (.seq none .leaf (.seq none .leaf (.seq none .leaf (.seq none .leaf (.seq (some ⟨[0, 1, 5, 6, 7, 9, 10, 11, 12, 14, 15], []⟩) (.seq none .leaf (.cond .leaf .leaf)) (.seq none .leaf (.cond (.seq none .leaf .leaf) .leaf)))))))) .leaf))))) (.seq none .leaf .leaf)))))
set_option maxRecDepth 100000 in
theorem demesnelaw04_WalkPlays_den (f_demesnelaw04_Lay : demesnelaw04_Lay_T) (f_demesnelaw04_awake : demesnelaw04_awake_T) (f_walk_Walk : walk_Walk_T) (f_demesneref04_Walk : demesneref04_Walk_T) (f_demesnelaw04_Same : demesnelaw04_Same_T) (p0 : Sl) (p1 : Sl) (K Kp : Value → HP) (h : Hp) : (demesnelaw04_WalkPlays_G f_demesnelaw04_Lay f_demesnelaw04_awake f_walk_Walk f_demesneref04_Walk f_demesnelaw04_Same p0 p1 (fun r0 h => K (.bool r0) h) h) = denFn Try.prog (tab [(10, demesnelaw04_Lay_en f_demesnelaw04_Lay), (11, demesnelaw04_awake_en f_demesnelaw04_awake), (12, walk_Walk_en f_walk_Walk), (13, demesneref04_Walk_en f_demesneref04_Walk), (14, demesnelaw04_Same_en f_demesnelaw04_Same)]) Try.f3 demesnelaw04_WalkPlays_ann [(.slice p0.a p0.len p0.cap), (.slice p1.a p1.len p1.cap)] K Kp h := by kernel_rfl
def demesnelaw04_WalkPlays_en (f : demesnelaw04_WalkPlays_T) : EnT := fun args K _ h => match args with | [v0, v1] => (dS v0 fun p0 => dS v1 fun p1 => f p0 p1 (fun r0 h => K (.bool r0) h) h) | _ => False
set_option maxRecDepth 100000 in
theorem demesnelaw04_WalkPlays_ok (hm : Try.prog.follows .mixedOrders = true) : EntryOK Try.prog 3 (demesnelaw04_WalkPlays_en demesnelaw04_WalkPlays) := by
  refine ⟨Try.call3, fun args K Kp w hh => ?_⟩
  unfold demesnelaw04_WalkPlays_en at hh
  split at hh
  · rename_i v0 v1
    obtain ⟨p0, rfl, hh1⟩ := dS_mp hh
    obtain ⟨p1, rfl, hh2⟩ := dS_mp hh1
    unfold demesnelaw04_WalkPlays at hh2
    have hd : denFn Try.prog (tab [(10, demesnelaw04_Lay_en demesnelaw04_Lay), (11, demesnelaw04_awake_en demesnelaw04_awake), (12, walk_Walk_en walk_Walk), (13, demesneref04_Walk_en demesneref04_Walk), (14, demesnelaw04_Same_en demesnelaw04_Same)]) Try.f3 demesnelaw04_WalkPlays_ann [(.slice p0.a p0.len p0.cap), (.slice p1.a p1.len p1.cap)] K Kp w.heap := Eq.mp (demesnelaw04_WalkPlays_den demesnelaw04_Lay demesnelaw04_awake walk_Walk demesneref04_Walk demesnelaw04_Same p0 p1 K Kp w.heap) hh2
    have hC : Calling Try.prog (tab [(10, demesnelaw04_Lay_en demesnelaw04_Lay), (11, demesnelaw04_awake_en demesnelaw04_awake), (12, walk_Walk_en walk_Walk), (13, demesneref04_Walk_en demesneref04_Walk), (14, demesnelaw04_Same_en demesnelaw04_Same)]) := (Calling.cons (demesnelaw04_Lay_ok hm) (Calling.cons (demesnelaw04_awake_ok hm) (Calling.cons (walk_Walk_ok hm) (Calling.cons (demesneref04_Walk_ok hm) (Calling.cons (demesnelaw04_Same_ok hm) Calling.nil)))))
    exact calls_of_den hm hC Try.func3 (by kernel_rfl) (by kernel_rfl) hd
  · exact hh.elim

def demesnelaw04_WalkMays_ann : Ann := (.seq none .leaf (.seq none (.drawS true [0, 1, 5, 7, 9, 2, 3, 6, 8, 10, 11, 4, 12, 13, 14, 15] []) .leaf))
set_option maxRecDepth 100000 in
theorem demesnelaw04_WalkMays_den (f_demesnelaw04_awake : demesnelaw04_awake_T) (f_walk_May : walk_May_T) (f_demesneref04_May : demesneref04_May_T) (p0 : Bool) (p1 : Bool) (p2 : Bool) (p3 : Bool) (p4 : Bool) (p5 : Bool) (K Kp : Value → HP) (h : Hp) : (demesnelaw04_WalkMays_G f_demesnelaw04_awake f_walk_May f_demesneref04_May p0 p1 p2 p3 p4 p5 (fun r0 h => K (.bool r0) h) h) = denFn Try.prog (tab [(11, demesnelaw04_awake_en f_demesnelaw04_awake), (15, walk_May_en f_walk_May), (16, demesneref04_May_en f_demesneref04_May)]) Try.f4 demesnelaw04_WalkMays_ann [(.agg #[(.bool p0), (.bool p1), (.bool p2)]), (.agg #[(.bool p3), (.bool p4), (.bool p5)])] K Kp h := by kernel_rfl
def demesnelaw04_WalkMays_en (f : demesnelaw04_WalkMays_T) : EnT := fun args K _ h => match args with | [v0, v1] => (dA v0 fun l => match l with | [u0_0, u0_1, u0_2] => (dB u0_0 fun p0 => dB u0_1 fun p1 => dB u0_2 fun p2 => dA v1 fun l => match l with | [u1_0, u1_1, u1_2] => (dB u1_0 fun p3 => dB u1_1 fun p4 => dB u1_2 fun p5 => f p0 p1 p2 p3 p4 p5 (fun r0 h => K (.bool r0) h) h) | _ => False) | _ => False) | _ => False
set_option maxRecDepth 100000 in
theorem demesnelaw04_WalkMays_ok (hm : Try.prog.follows .mixedOrders = true) : EntryOK Try.prog 4 (demesnelaw04_WalkMays_en demesnelaw04_WalkMays) := by
  refine ⟨Try.call4, fun args K Kp w hh => ?_⟩
  unfold demesnelaw04_WalkMays_en at hh
  split at hh
  · rename_i v0 v1
    obtain ⟨lhh1, rfl, hh1⟩ := dA_mp hh
    split at hh1
    case h_2 => exact hh1.elim
    rename_i u0_0 u0_1 u0_2
    obtain ⟨p0, rfl, hh2⟩ := dB_mp hh1
    obtain ⟨p1, rfl, hh3⟩ := dB_mp hh2
    obtain ⟨p2, rfl, hh4⟩ := dB_mp hh3
    obtain ⟨lhh5, rfl, hh5⟩ := dA_mp hh4
    split at hh5
    case h_2 => exact hh5.elim
    rename_i u1_0 u1_1 u1_2
    obtain ⟨p3, rfl, hh6⟩ := dB_mp hh5
    obtain ⟨p4, rfl, hh7⟩ := dB_mp hh6
    obtain ⟨p5, rfl, hh8⟩ := dB_mp hh7
    unfold demesnelaw04_WalkMays at hh8
    have hd : denFn Try.prog (tab [(11, demesnelaw04_awake_en demesnelaw04_awake), (15, walk_May_en walk_May), (16, demesneref04_May_en demesneref04_May)]) Try.f4 demesnelaw04_WalkMays_ann [(.agg #[(.bool p0), (.bool p1), (.bool p2)]), (.agg #[(.bool p3), (.bool p4), (.bool p5)])] K Kp w.heap := Eq.mp (demesnelaw04_WalkMays_den demesnelaw04_awake walk_May demesneref04_May p0 p1 p2 p3 p4 p5 K Kp w.heap) hh8
    have hC : Calling Try.prog (tab [(11, demesnelaw04_awake_en demesnelaw04_awake), (15, walk_May_en walk_May), (16, demesneref04_May_en demesneref04_May)]) := (Calling.cons (demesnelaw04_awake_ok hm) (Calling.cons (walk_May_ok hm) (Calling.cons (demesneref04_May_ok hm) Calling.nil)))
    exact calls_of_den hm hC Try.func4 (by kernel_rfl) (by kernel_rfl) hd
  · exact hh.elim

def demesnelaw04_WalkAgain_ann : Ann := (.seq none .leaf (.seq none .leaf (.seq none (.seq none .leaf (.cond (.seq none .leaf .leaf) .leaf)) (.seq none .leaf (.seq none .leaf (.seq none (.seq none .leaf (.cond (.seq none .leaf .leaf) .leaf)) (.seq (some ⟨[4, 7, 9, 11], [(15, (.c .p))]⟩) .leaf (.seq none .leaf (.seq none (.seq none .leaf (.cond (.seq none .leaf .leaf) .leaf)) (.seq none (.seq none .leaf (.cond (.seq none .leaf .leaf) .leaf)) (.seq none .leaf .leaf)))))))))))
set_option maxRecDepth 100000 in
theorem demesnelaw04_WalkAgain_den (f_demesnelaw04_Lay : demesnelaw04_Lay_T) (f_demesnelaw04_awake : demesnelaw04_awake_T) (f_walk_Walk : walk_Walk_T) (f_walk_May : walk_May_T) (p0 : Sl) (p1 : Int) (p2 : Int) (p3 : Bool) (p4 : Bool) (p5 : Bool) (p6 : Bool) (p7 : Bool) (p8 : Bool) (K Kp : Value → HP) (h : Hp) : (demesnelaw04_WalkAgain_G f_demesnelaw04_Lay f_demesnelaw04_awake f_walk_Walk f_walk_May p0 p1 p2 p3 p4 p5 p6 p7 p8 (fun r0 h => K (.bool r0) h) h) = denFn Try.prog (tab [(10, demesnelaw04_Lay_en f_demesnelaw04_Lay), (11, demesnelaw04_awake_en f_demesnelaw04_awake), (12, walk_Walk_en f_walk_Walk), (15, walk_May_en f_walk_May)]) Try.f5 demesnelaw04_WalkAgain_ann [(.slice p0.a p0.len p0.cap), (.agg #[(.int .i64 p1), (.int .u64 p2), (.bool p3), (.bool p4), (.bool p5)]), (.agg #[(.bool p6), (.bool p7), (.bool p8)])] K Kp h := by kernel_rfl
def demesnelaw04_WalkAgain_en (f : demesnelaw04_WalkAgain_T) : EnT := fun args K _ h => match args with | [v0, v1, v2] => (dS v0 fun p0 => dA v1 fun l => match l with | [u1_0, u1_1, u1_2, u1_3, u1_4] => (dI .i64 u1_0 fun p1 => dI .u64 u1_1 fun p2 => dB u1_2 fun p3 => dB u1_3 fun p4 => dB u1_4 fun p5 => dA v2 fun l => match l with | [u2_0, u2_1, u2_2] => (dB u2_0 fun p6 => dB u2_1 fun p7 => dB u2_2 fun p8 => f p0 p1 p2 p3 p4 p5 p6 p7 p8 (fun r0 h => K (.bool r0) h) h) | _ => False) | _ => False) | _ => False
set_option maxRecDepth 100000 in
theorem demesnelaw04_WalkAgain_ok (hm : Try.prog.follows .mixedOrders = true) : EntryOK Try.prog 5 (demesnelaw04_WalkAgain_en demesnelaw04_WalkAgain) := by
  refine ⟨Try.call5, fun args K Kp w hh => ?_⟩
  unfold demesnelaw04_WalkAgain_en at hh
  split at hh
  · rename_i v0 v1 v2
    obtain ⟨p0, rfl, hh1⟩ := dS_mp hh
    obtain ⟨lhh2, rfl, hh2⟩ := dA_mp hh1
    split at hh2
    case h_2 => exact hh2.elim
    rename_i u1_0 u1_1 u1_2 u1_3 u1_4
    obtain ⟨p1, rfl, hh3⟩ := dI_mp hh2
    obtain ⟨p2, rfl, hh4⟩ := dI_mp hh3
    obtain ⟨p3, rfl, hh5⟩ := dB_mp hh4
    obtain ⟨p4, rfl, hh6⟩ := dB_mp hh5
    obtain ⟨p5, rfl, hh7⟩ := dB_mp hh6
    obtain ⟨lhh8, rfl, hh8⟩ := dA_mp hh7
    split at hh8
    case h_2 => exact hh8.elim
    rename_i u2_0 u2_1 u2_2
    obtain ⟨p6, rfl, hh9⟩ := dB_mp hh8
    obtain ⟨p7, rfl, hh10⟩ := dB_mp hh9
    obtain ⟨p8, rfl, hh11⟩ := dB_mp hh10
    unfold demesnelaw04_WalkAgain at hh11
    have hd : denFn Try.prog (tab [(10, demesnelaw04_Lay_en demesnelaw04_Lay), (11, demesnelaw04_awake_en demesnelaw04_awake), (12, walk_Walk_en walk_Walk), (15, walk_May_en walk_May)]) Try.f5 demesnelaw04_WalkAgain_ann [(.slice p0.a p0.len p0.cap), (.agg #[(.int .i64 p1), (.int .u64 p2), (.bool p3), (.bool p4), (.bool p5)]), (.agg #[(.bool p6), (.bool p7), (.bool p8)])] K Kp w.heap := Eq.mp (demesnelaw04_WalkAgain_den demesnelaw04_Lay demesnelaw04_awake walk_Walk walk_May p0 p1 p2 p3 p4 p5 p6 p7 p8 K Kp w.heap) hh11
    have hC : Calling Try.prog (tab [(10, demesnelaw04_Lay_en demesnelaw04_Lay), (11, demesnelaw04_awake_en demesnelaw04_awake), (12, walk_Walk_en walk_Walk), (15, walk_May_en walk_May)]) := (Calling.cons (demesnelaw04_Lay_ok hm) (Calling.cons (demesnelaw04_awake_ok hm) (Calling.cons (walk_Walk_ok hm) (Calling.cons (walk_May_ok hm) Calling.nil))))
    exact calls_of_den hm hC Try.func5 (by kernel_rfl) (by kernel_rfl) hd
  · exact hh.elim

def demesnelaw04_WalkMarks_ann : Ann := (.seq none .leaf (.seq none .leaf (.seq none (.seq none .leaf (.cond (.seq none .leaf .leaf) .leaf)) (.seq none .leaf (.seq none (.seq none .leaf (.cond (.seq none .leaf .leaf) .leaf)) (.seq none .leaf (.seq none (.seq none .leaf (.cond (.seq none .leaf .leaf) .leaf)) (.seq none .leaf (.seq none .leaf .leaf)))))))))
set_option maxRecDepth 100000 in
theorem demesnelaw04_WalkMarks_den (f_demesnelaw04_Lay : demesnelaw04_Lay_T) (f_demesnelaw04_awake : demesnelaw04_awake_T) (f_walk_Walk : walk_Walk_T) (f_demesnelaw04_Same : demesnelaw04_Same_T) (f_ram_RAM_Load : ram_RAM_Load_T) (p0 : Sl) (p1 : Int) (p2 : Int) (p3 : Bool) (p4 : Bool) (p5 : Bool) (K Kp : Value → HP) (h : Hp) : (demesnelaw04_WalkMarks_G f_demesnelaw04_Lay f_demesnelaw04_awake f_walk_Walk f_demesnelaw04_Same f_ram_RAM_Load p0 p1 p2 p3 p4 p5 (fun r0 h => K (.bool r0) h) h) = denFn Try.prog (tab [(10, demesnelaw04_Lay_en f_demesnelaw04_Lay), (11, demesnelaw04_awake_en f_demesnelaw04_awake), (12, walk_Walk_en f_walk_Walk), (14, demesnelaw04_Same_en f_demesnelaw04_Same), (17, ram_RAM_Load_en f_ram_RAM_Load)]) Try.f6 demesnelaw04_WalkMarks_ann [(.slice p0.a p0.len p0.cap), (.agg #[(.int .i64 p1), (.int .u64 p2), (.bool p3), (.bool p4), (.bool p5)])] K Kp h := by kernel_rfl
def demesnelaw04_WalkMarks_en (f : demesnelaw04_WalkMarks_T) : EnT := fun args K _ h => match args with | [v0, v1] => (dS v0 fun p0 => dA v1 fun l => match l with | [u1_0, u1_1, u1_2, u1_3, u1_4] => (dI .i64 u1_0 fun p1 => dI .u64 u1_1 fun p2 => dB u1_2 fun p3 => dB u1_3 fun p4 => dB u1_4 fun p5 => f p0 p1 p2 p3 p4 p5 (fun r0 h => K (.bool r0) h) h) | _ => False) | _ => False
set_option maxRecDepth 100000 in
theorem demesnelaw04_WalkMarks_ok (hm : Try.prog.follows .mixedOrders = true) : EntryOK Try.prog 6 (demesnelaw04_WalkMarks_en demesnelaw04_WalkMarks) := by
  refine ⟨Try.call6, fun args K Kp w hh => ?_⟩
  unfold demesnelaw04_WalkMarks_en at hh
  split at hh
  · rename_i v0 v1
    obtain ⟨p0, rfl, hh1⟩ := dS_mp hh
    obtain ⟨lhh2, rfl, hh2⟩ := dA_mp hh1
    split at hh2
    case h_2 => exact hh2.elim
    rename_i u1_0 u1_1 u1_2 u1_3 u1_4
    obtain ⟨p1, rfl, hh3⟩ := dI_mp hh2
    obtain ⟨p2, rfl, hh4⟩ := dI_mp hh3
    obtain ⟨p3, rfl, hh5⟩ := dB_mp hh4
    obtain ⟨p4, rfl, hh6⟩ := dB_mp hh5
    obtain ⟨p5, rfl, hh7⟩ := dB_mp hh6
    unfold demesnelaw04_WalkMarks at hh7
    have hd : denFn Try.prog (tab [(10, demesnelaw04_Lay_en demesnelaw04_Lay), (11, demesnelaw04_awake_en demesnelaw04_awake), (12, walk_Walk_en walk_Walk), (14, demesnelaw04_Same_en demesnelaw04_Same), (17, ram_RAM_Load_en ram_RAM_Load)]) Try.f6 demesnelaw04_WalkMarks_ann [(.slice p0.a p0.len p0.cap), (.agg #[(.int .i64 p1), (.int .u64 p2), (.bool p3), (.bool p4), (.bool p5)])] K Kp w.heap := Eq.mp (demesnelaw04_WalkMarks_den demesnelaw04_Lay demesnelaw04_awake walk_Walk demesnelaw04_Same ram_RAM_Load p0 p1 p2 p3 p4 p5 K Kp w.heap) hh7
    have hC : Calling Try.prog (tab [(10, demesnelaw04_Lay_en demesnelaw04_Lay), (11, demesnelaw04_awake_en demesnelaw04_awake), (12, walk_Walk_en walk_Walk), (14, demesnelaw04_Same_en demesnelaw04_Same), (17, ram_RAM_Load_en ram_RAM_Load)]) := (Calling.cons (demesnelaw04_Lay_ok hm) (Calling.cons (demesnelaw04_awake_ok hm) (Calling.cons (walk_Walk_ok hm) (Calling.cons (demesnelaw04_Same_ok hm) (Calling.cons (ram_RAM_Load_ok hm) Calling.nil)))))
    exact calls_of_den hm hC Try.func6 (by kernel_rfl) (by kernel_rfl) hd
  · exact hh.elim

def demesnelaw04_WalkNarrow_ann : Ann := (.seq none .leaf (.seq none (.seq none .leaf (.cond (.seq none .leaf .leaf) .leaf)) (.seq none .leaf (.seq none .leaf (.seq (some ⟨[1, 5, 7], [(8, (.c (.i .i64)))]⟩) (.seq none .leaf (.block (.seq none .leaf (.cond (.seq none .leaf (.seq none .leaf (.cond .leaf .leaf))) (.seq none .leaf (.cond (.seq none .leaf (.seq none .leaf (.cond .leaf .leaf))) (.seq none .leaf (.cond (.seq none .leaf (.seq none .leaf (.cond .leaf .leaf))) (.seq none .leaf (.cond (.seq none .leaf .leaf) .leaf)))))))))) (.seq none .leaf (.seq none (.seq none .leaf (.cond (.seq none .leaf .leaf) .leaf)) (.seq none .leaf (.seq none (.seq none .leaf (.cond (.seq none .leaf .leaf) .leaf)) (.seq none .leaf .leaf))))))))))
set_option maxRecDepth 100000 in
theorem demesnelaw04_WalkNarrow_den (f_demesnelaw04_Lay : demesnelaw04_Lay_T) (f_demesnelaw04_awake : demesnelaw04_awake_T) (f_walk_Walk : walk_Walk_T) (p0 : Int) (p1 : Int) (p2 : Bool) (p3 : Bool) (p4 : Bool) (K Kp : Value → HP) (h : Hp) : (demesnelaw04_WalkNarrow_G f_demesnelaw04_Lay f_demesnelaw04_awake f_walk_Walk p0 p1 p2 p3 p4 (fun r0 h => K (.bool r0) h) h) = denFn Try.prog (tab [(10, demesnelaw04_Lay_en f_demesnelaw04_Lay), (11, demesnelaw04_awake_en f_demesnelaw04_awake), (12, walk_Walk_en f_walk_Walk)]) Try.f7 demesnelaw04_WalkNarrow_ann [(.int .i64 p0), (.int .i64 p1), (.agg #[(.bool p2), (.bool p3), (.bool p4)])] K Kp h := by kernel_rfl
def demesnelaw04_WalkNarrow_en (f : demesnelaw04_WalkNarrow_T) : EnT := fun args K _ h => match args with | [v0, v1, v2] => (dI .i64 v0 fun p0 => dI .i64 v1 fun p1 => dA v2 fun l => match l with | [u2_0, u2_1, u2_2] => (dB u2_0 fun p2 => dB u2_1 fun p3 => dB u2_2 fun p4 => f p0 p1 p2 p3 p4 (fun r0 h => K (.bool r0) h) h) | _ => False) | _ => False
set_option maxRecDepth 100000 in
theorem demesnelaw04_WalkNarrow_ok (hm : Try.prog.follows .mixedOrders = true) : EntryOK Try.prog 7 (demesnelaw04_WalkNarrow_en demesnelaw04_WalkNarrow) := by
  refine ⟨Try.call7, fun args K Kp w hh => ?_⟩
  unfold demesnelaw04_WalkNarrow_en at hh
  split at hh
  · rename_i v0 v1 v2
    obtain ⟨p0, rfl, hh1⟩ := dI_mp hh
    obtain ⟨p1, rfl, hh2⟩ := dI_mp hh1
    obtain ⟨lhh3, rfl, hh3⟩ := dA_mp hh2
    split at hh3
    case h_2 => exact hh3.elim
    rename_i u2_0 u2_1 u2_2
    obtain ⟨p2, rfl, hh4⟩ := dB_mp hh3
    obtain ⟨p3, rfl, hh5⟩ := dB_mp hh4
    obtain ⟨p4, rfl, hh6⟩ := dB_mp hh5
    unfold demesnelaw04_WalkNarrow at hh6
    have hd : denFn Try.prog (tab [(10, demesnelaw04_Lay_en demesnelaw04_Lay), (11, demesnelaw04_awake_en demesnelaw04_awake), (12, walk_Walk_en walk_Walk)]) Try.f7 demesnelaw04_WalkNarrow_ann [(.int .i64 p0), (.int .i64 p1), (.agg #[(.bool p2), (.bool p3), (.bool p4)])] K Kp w.heap := Eq.mp (demesnelaw04_WalkNarrow_den demesnelaw04_Lay demesnelaw04_awake walk_Walk p0 p1 p2 p3 p4 K Kp w.heap) hh6
    have hC : Calling Try.prog (tab [(10, demesnelaw04_Lay_en demesnelaw04_Lay), (11, demesnelaw04_awake_en demesnelaw04_awake), (12, walk_Walk_en walk_Walk)]) := (Calling.cons (demesnelaw04_Lay_ok hm) (Calling.cons (demesnelaw04_awake_ok hm) (Calling.cons (walk_Walk_ok hm) Calling.nil)))
    exact calls_of_den hm hC Try.func7 (by kernel_rfl) (by kernel_rfl) hd
  · exact hh.elim

def demesnelaw04_WalkPages_ann : Ann := (.seq none .leaf (.seq none .leaf (.seq none (.seq none .leaf (.cond (.seq none .leaf .leaf) .leaf)) (.seq none .leaf (.seq none .leaf (.seq none .leaf (.seq none (.seq none .leaf (.cond (.seq none .leaf .leaf) .leaf)) (.seq none .leaf .leaf))))))))
set_option maxRecDepth 100000 in
theorem demesnelaw04_WalkPages_den (f_demesnelaw04_Lay : demesnelaw04_Lay_T) (f_demesnelaw04_awake : demesnelaw04_awake_T) (f_walk_Walk : walk_Walk_T) (p0 : Sl) (p1 : Int) (p2 : Int) (p3 : Bool) (p4 : Bool) (p5 : Bool) (p6 : Int) (K Kp : Value → HP) (h : Hp) : (demesnelaw04_WalkPages_G f_demesnelaw04_Lay f_demesnelaw04_awake f_walk_Walk p0 p1 p2 p3 p4 p5 p6 (fun r0 h => K (.bool r0) h) h) = denFn Try.prog (tab [(10, demesnelaw04_Lay_en f_demesnelaw04_Lay), (11, demesnelaw04_awake_en f_demesnelaw04_awake), (12, walk_Walk_en f_walk_Walk)]) Try.f8 demesnelaw04_WalkPages_ann [(.slice p0.a p0.len p0.cap), (.agg #[(.int .i64 p1), (.int .u64 p2), (.bool p3), (.bool p4), (.bool p5)]), (.int .i64 p6)] K Kp h := by kernel_rfl
def demesnelaw04_WalkPages_en (f : demesnelaw04_WalkPages_T) : EnT := fun args K _ h => match args with | [v0, v1, v2] => (dS v0 fun p0 => dA v1 fun l => match l with | [u1_0, u1_1, u1_2, u1_3, u1_4] => (dI .i64 u1_0 fun p1 => dI .u64 u1_1 fun p2 => dB u1_2 fun p3 => dB u1_3 fun p4 => dB u1_4 fun p5 => dI .i64 v2 fun p6 => f p0 p1 p2 p3 p4 p5 p6 (fun r0 h => K (.bool r0) h) h) | _ => False) | _ => False
set_option maxRecDepth 100000 in
theorem demesnelaw04_WalkPages_ok (hm : Try.prog.follows .mixedOrders = true) : EntryOK Try.prog 8 (demesnelaw04_WalkPages_en demesnelaw04_WalkPages) := by
  refine ⟨Try.call8, fun args K Kp w hh => ?_⟩
  unfold demesnelaw04_WalkPages_en at hh
  split at hh
  · rename_i v0 v1 v2
    obtain ⟨p0, rfl, hh1⟩ := dS_mp hh
    obtain ⟨lhh2, rfl, hh2⟩ := dA_mp hh1
    split at hh2
    case h_2 => exact hh2.elim
    rename_i u1_0 u1_1 u1_2 u1_3 u1_4
    obtain ⟨p1, rfl, hh3⟩ := dI_mp hh2
    obtain ⟨p2, rfl, hh4⟩ := dI_mp hh3
    obtain ⟨p3, rfl, hh5⟩ := dB_mp hh4
    obtain ⟨p4, rfl, hh6⟩ := dB_mp hh5
    obtain ⟨p5, rfl, hh7⟩ := dB_mp hh6
    obtain ⟨p6, rfl, hh8⟩ := dI_mp hh7
    unfold demesnelaw04_WalkPages at hh8
    have hd : denFn Try.prog (tab [(10, demesnelaw04_Lay_en demesnelaw04_Lay), (11, demesnelaw04_awake_en demesnelaw04_awake), (12, walk_Walk_en walk_Walk)]) Try.f8 demesnelaw04_WalkPages_ann [(.slice p0.a p0.len p0.cap), (.agg #[(.int .i64 p1), (.int .u64 p2), (.bool p3), (.bool p4), (.bool p5)]), (.int .i64 p6)] K Kp w.heap := Eq.mp (demesnelaw04_WalkPages_den demesnelaw04_Lay demesnelaw04_awake walk_Walk p0 p1 p2 p3 p4 p5 p6 K Kp w.heap) hh8
    have hC : Calling Try.prog (tab [(10, demesnelaw04_Lay_en demesnelaw04_Lay), (11, demesnelaw04_awake_en demesnelaw04_awake), (12, walk_Walk_en walk_Walk)]) := (Calling.cons (demesnelaw04_Lay_ok hm) (Calling.cons (demesnelaw04_awake_ok hm) (Calling.cons (walk_Walk_ok hm) Calling.nil)))
    exact calls_of_den hm hC Try.func8 (by kernel_rfl) (by kernel_rfl) hd
  · exact hh.elim

def demesnelaw04_WalkLarge_ann : Ann := (.seq none .leaf (.seq none (.seq none .leaf (.cond (.seq none .leaf .leaf) .leaf)) (.seq none .leaf (.seq (some ⟨[0, 1, 2, 7], [(9, (.c (.i .u64)))]⟩) (.seq none .leaf (.cond .leaf .leaf)) (.seq none .leaf (.seq none (.seq none .leaf (.cond (.seq none .leaf .leaf) .leaf)) (.seq none .leaf (.seq none (.seq none .leaf (.cond (.seq none .leaf .leaf) .leaf)) (.seq none .leaf .leaf)))))))))
set_option maxRecDepth 100000 in
theorem demesnelaw04_WalkLarge_den (f_demesnelaw04_Lay : demesnelaw04_Lay_T) (f_demesnelaw04_awake : demesnelaw04_awake_T) (f_walk_Walk : walk_Walk_T) (p0 : Int) (p1 : Int) (p2 : Int) (p3 : Bool) (p4 : Bool) (p5 : Bool) (K Kp : Value → HP) (h : Hp) : (demesnelaw04_WalkLarge_G f_demesnelaw04_Lay f_demesnelaw04_awake f_walk_Walk p0 p1 p2 p3 p4 p5 (fun r0 h => K (.bool r0) h) h) = denFn Try.prog (tab [(10, demesnelaw04_Lay_en f_demesnelaw04_Lay), (11, demesnelaw04_awake_en f_demesnelaw04_awake), (12, walk_Walk_en f_walk_Walk)]) Try.f9 demesnelaw04_WalkLarge_ann [(.int .i64 p0), (.int .i64 p1), (.int .i64 p2), (.agg #[(.bool p3), (.bool p4), (.bool p5)])] K Kp h := by kernel_rfl
def demesnelaw04_WalkLarge_en (f : demesnelaw04_WalkLarge_T) : EnT := fun args K _ h => match args with | [v0, v1, v2, v3] => (dI .i64 v0 fun p0 => dI .i64 v1 fun p1 => dI .i64 v2 fun p2 => dA v3 fun l => match l with | [u3_0, u3_1, u3_2] => (dB u3_0 fun p3 => dB u3_1 fun p4 => dB u3_2 fun p5 => f p0 p1 p2 p3 p4 p5 (fun r0 h => K (.bool r0) h) h) | _ => False) | _ => False
set_option maxRecDepth 100000 in
theorem demesnelaw04_WalkLarge_ok (hm : Try.prog.follows .mixedOrders = true) : EntryOK Try.prog 9 (demesnelaw04_WalkLarge_en demesnelaw04_WalkLarge) := by
  refine ⟨Try.call9, fun args K Kp w hh => ?_⟩
  unfold demesnelaw04_WalkLarge_en at hh
  split at hh
  · rename_i v0 v1 v2 v3
    obtain ⟨p0, rfl, hh1⟩ := dI_mp hh
    obtain ⟨p1, rfl, hh2⟩ := dI_mp hh1
    obtain ⟨p2, rfl, hh3⟩ := dI_mp hh2
    obtain ⟨lhh4, rfl, hh4⟩ := dA_mp hh3
    split at hh4
    case h_2 => exact hh4.elim
    rename_i u3_0 u3_1 u3_2
    obtain ⟨p3, rfl, hh5⟩ := dB_mp hh4
    obtain ⟨p4, rfl, hh6⟩ := dB_mp hh5
    obtain ⟨p5, rfl, hh7⟩ := dB_mp hh6
    unfold demesnelaw04_WalkLarge at hh7
    have hd : denFn Try.prog (tab [(10, demesnelaw04_Lay_en demesnelaw04_Lay), (11, demesnelaw04_awake_en demesnelaw04_awake), (12, walk_Walk_en walk_Walk)]) Try.f9 demesnelaw04_WalkLarge_ann [(.int .i64 p0), (.int .i64 p1), (.int .i64 p2), (.agg #[(.bool p3), (.bool p4), (.bool p5)])] K Kp w.heap := Eq.mp (demesnelaw04_WalkLarge_den demesnelaw04_Lay demesnelaw04_awake walk_Walk p0 p1 p2 p3 p4 p5 K Kp w.heap) hh7
    have hC : Calling Try.prog (tab [(10, demesnelaw04_Lay_en demesnelaw04_Lay), (11, demesnelaw04_awake_en demesnelaw04_awake), (12, walk_Walk_en walk_Walk)]) := (Calling.cons (demesnelaw04_Lay_ok hm) (Calling.cons (demesnelaw04_awake_ok hm) (Calling.cons (walk_Walk_ok hm) Calling.nil)))
    exact calls_of_den hm hC Try.func9 (by kernel_rfl) (by kernel_rfl) hd
  · exact hh.elim

end Go.Dn
