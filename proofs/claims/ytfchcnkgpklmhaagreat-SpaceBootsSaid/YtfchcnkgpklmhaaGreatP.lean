/- Printed by gen3.py: that each function does so. -/
import Derived.Test.YtfchcnkgpklmhaaGreatG
import Derived.Test.YtfchcnkgpklmhaaGreatParseE
import Derived.Test.YtfchcnkgpklmhaaGreatSortE
import Derived.Test.YtfchcnkgpklmhaaGreatProg
import Derived.KernelRfl
import Derived.Ground.GgzProg
namespace Go.Dn
open Go.Proofs Go.Shelf

def demesnelaw06_Cut_ann : AnnA := (.seq none .leaf (.seq (some ⟨[], [(0, (.c .s))], []⟩) (.seq none .leaf (.cond .leaf .leaf)) (.seq none .leaf .leaf)))
set_option maxRecDepth 100000 in
theorem demesnelaw06_Cut_den : demesnelaw06_Cut_W (demesnelaw06_Cut_A) = curS [.c .s] EnR fun vs K Kp A => denFnA Tryz.prog (tabA []) [] Tryz.f28 demesnelaw06_Cut_ann vs K (np false Kp) A := by kernel_rfl
set_option maxRecDepth 100000 in
theorem demesnelaw06_Cut_ok (hm : Tryz.prog.follows .mixedOrders = true) : EntryOK Tryz.prog 28 (upE (enS [.c .s] (demesnelaw06_Cut_W demesnelaw06_Cut_A))) := entA hm callingA_nil Tryz.call28 Tryz.func28 (by kernel_rfl) (by kernel_rfl) false demesnelaw06_Cut_den

def demesnelaw06_Entry_ann : AnnA := (.seq none .leaf (.seq none .leaf (.seq none (.seq none .leaf (.block (.loop ⟨[0, 1, 2, 7], [(8, (.c (.i .i64)))], []⟩ (.seq none (.seq none .leaf (.cond .leaf .leaf)) (.seq none (.block (.seq none .leaf .leaf)) .leaf))))) (.seq none (.seq none .leaf (.block (.loop ⟨[2, 7], [(9, (.c (.i .i64)))], []⟩ (.seq none (.seq none .leaf (.cond .leaf .leaf)) (.seq none (.block .leaf) .leaf))))) (.seq none .leaf .leaf)))))
set_option maxRecDepth 100000 in
theorem demesnelaw06_Entry_den : demesnelaw06_Entry_W (demesnelaw06_Entry_A) = curS [.c (.i .u64), .c (.i .u64), .c (.i .u32)] EnR fun vs K Kp A => denFnA Tryz.prog (tabA []) [] Tryz.f99 demesnelaw06_Entry_ann vs K (np false Kp) A := by kernel_rfl
set_option maxRecDepth 100000 in
theorem demesnelaw06_Entry_ok (hm : Tryz.prog.follows .mixedOrders = true) : EntryOK Tryz.prog 99 (upE (enS [.c (.i .u64), .c (.i .u64), .c (.i .u32)] (demesnelaw06_Entry_W demesnelaw06_Entry_A))) := entA hm callingA_nil Tryz.call99 Tryz.func99 (by kernel_rfl) (by kernel_rfl) false demesnelaw06_Entry_den

def demesnelaw12_Plain_ann : AnnA := (.seq none .leaf (.seq none .leaf .leaf))
set_option maxRecDepth 100000 in
theorem demesnelaw12_Plain_den (f_demesnelaw06_Entry : demesnelaw06_Entry_T) : demesnelaw12_Plain_W (demesnelaw12_Plain_G f_demesnelaw06_Entry) = curS [.c (.i .i64), .c (.i .i64)] EnR fun vs K Kp A => denFnA Tryz.prog (tabA [(99, enS [.c (.i .u64), .c (.i .u64), .c (.i .u32)] (demesnelaw06_Entry_W f_demesnelaw06_Entry))]) [4] Tryz.f41 demesnelaw12_Plain_ann vs K (np false Kp) A := by kernel_rfl
set_option maxRecDepth 100000 in
theorem demesnelaw12_Plain_ok (hm : Tryz.prog.follows .mixedOrders = true) : EntryOK Tryz.prog 41 (upE (enS [.c (.i .i64), .c (.i .i64)] (demesnelaw12_Plain_W demesnelaw12_Plain_A))) := entA hm (callingA_cons (demesnelaw06_Entry_ok hm) callingA_nil) Tryz.call41 Tryz.func41 (by kernel_rfl) (by kernel_rfl) false (demesnelaw12_Plain_den demesnelaw06_Entry_A)

theorem bootmap_Parse_ok (_hm : Tryz.prog.follows .mixedOrders = true) : EntryOK Tryz.prog 128 (upE (enS [.c .s] (bootmap_Parse_W bootmap_Parse_A))) := parse_ok rfl

def bootmap_Area_frames_ann : AnnA := (.seq none .leaf (.seq none (.draw 11) (.seq (some ⟨[1, 2, 4], [(5, (.c (.i .u64))), (6, (.c (.i .u64)))], []⟩) (.seq none .leaf (.cond (.seq none .leaf (.cond .leaf .leaf)) (.seq none .leaf (.cond .leaf .leaf)))) (.seq (some ⟨[1, 4, 5], [(6, (.c (.i .u64)))], []⟩) (.seq none .leaf (.cond .leaf .leaf)) (.seq none .leaf .leaf)))))
set_option maxRecDepth 100000 in
theorem bootmap_Area_frames_den : bootmap_Area_frames_W (bootmap_Area_frames_A) = curS [.agg [(.i .u64), (.i .u64), (.i .u32)], .c (.i .i64)] EnR fun vs K Kp A => denFnA Tryz.prog (tabA []) [2, 4] Tryz.f129 bootmap_Area_frames_ann vs K (np false Kp) A := by kernel_rfl
set_option maxRecDepth 100000 in
theorem bootmap_Area_frames_ok (hm : Tryz.prog.follows .mixedOrders = true) : EntryOK Tryz.prog 129 (upE (enS [.agg [(.i .u64), (.i .u64), (.i .u32)], .c (.i .i64)] (bootmap_Area_frames_W bootmap_Area_frames_A))) := entA hm callingA_nil Tryz.call129 Tryz.func129 (by kernel_rfl) (by kernel_rfl) false bootmap_Area_frames_den

def slices_Clone_api_Range_api_Range_ann : AnnA := (.seq none .leaf (.seq none (.seq none .leaf (.cond (.seq none .leaf .leaf) .leaf)) (.seq none .leaf .leaf)))
set_option maxRecDepth 100000 in
theorem slices_Clone_api_Range_api_Range_den : slices_Clone_api_Range_api_Range_W (slices_Clone_api_Range_api_Range_A) = curS [.c .s] EnR fun vs K Kp A => denFnA Tryz.prog (tabA []) [] Tryz.f194 slices_Clone_api_Range_api_Range_ann vs K (np false Kp) A := by kernel_rfl
set_option maxRecDepth 100000 in
theorem slices_Clone_api_Range_api_Range_ok (hm : Tryz.prog.follows .mixedOrders = true) : EntryOK Tryz.prog 194 (upE (enS [.c .s] (slices_Clone_api_Range_api_Range_W slices_Clone_api_Range_api_Range_A))) := entA hm callingA_nil Tryz.call194 Tryz.func194 (by kernel_rfl) (by kernel_rfl) false slices_Clone_api_Range_api_Range_den

def bootmap_Merge_1_ann : AnnA := (.seq none .leaf (.seq none .leaf .leaf))
set_option maxRecDepth 100000 in
theorem bootmap_Merge_1_den : bootmap_Merge_1_W (bootmap_Merge_1_A) = curS [.agg [(.i .i64), (.i .i64)]] EnR fun vs K Kp A => denFnA Tryz.prog (tabA []) [1] Tryz.f195 bootmap_Merge_1_ann vs K (np false Kp) A := by kernel_rfl
set_option maxRecDepth 100000 in
theorem bootmap_Merge_1_ok (hm : Tryz.prog.follows .mixedOrders = true) : EntryOK Tryz.prog 195 (upE (enS [.agg [(.i .i64), (.i .i64)]] (bootmap_Merge_1_W bootmap_Merge_1_A))) := entA hm callingA_nil Tryz.call195 Tryz.func195 (by kernel_rfl) (by kernel_rfl) false bootmap_Merge_1_den

def slices_IndexFunc_api_Range_api_Range_ann : AnnA := (.seq none .leaf (.seq none (.seq none .leaf (.block (.loop ⟨[0, 1, 7], [(8, (.c (.i .i64)))], []⟩ (.seq none .leaf (.seq none (.cond .leaf .leaf) (.seq none (.block (.seq none .leaf (.seq none .leaf (.cond (.seq none .leaf .leaf) .leaf)))) .leaf)))))) (.seq none .leaf .leaf)))
set_option maxRecDepth 100000 in
theorem slices_IndexFunc_api_Range_api_Range_den (f_bootmap_Merge_1 : bootmap_Merge_1_T) : slices_IndexFunc_api_Range_api_Range_W (slices_IndexFunc_api_Range_api_Range_G f_bootmap_Merge_1) = curS [.c .s, .fn 195 [] []] EnR fun vs K Kp A => denFnA Tryz.prog (tabA [(195, enS [.agg [(.i .i64), (.i .i64)]] (bootmap_Merge_1_W f_bootmap_Merge_1))]) [] Tryz.f211 slices_IndexFunc_api_Range_api_Range_ann vs K (np false Kp) A := by kernel_rfl
set_option maxRecDepth 100000 in
theorem slices_IndexFunc_api_Range_api_Range_ok (hm : Tryz.prog.follows .mixedOrders = true) : EntryOK Tryz.prog 211 (upE (enS [.c .s, .fn 195 [] []] (slices_IndexFunc_api_Range_api_Range_W slices_IndexFunc_api_Range_api_Range_A))) := entA hm (callingA_cons (bootmap_Merge_1_ok hm) callingA_nil) Tryz.call211 Tryz.func211 (by kernel_rfl) (by kernel_rfl) false (slices_IndexFunc_api_Range_api_Range_den bootmap_Merge_1_A)

def slices_DeleteFunc_api_Range_api_Range_ann : AnnA := (.seq none .leaf (.seq none .leaf (.seq none (.seq none .leaf (.cond (.seq none .leaf .leaf) .leaf)) (.seq none (.seq none .leaf (.block (.loop ⟨[0, 1], [(5, (.c (.i .i64))), (6, (.c (.i .i64)))], []⟩ (.seq none (.seq none .leaf (.cond .leaf .leaf)) (.seq (some ⟨[0, 1, 6], [(5, (.c (.i .i64)))], []⟩) (.block (.seq none .leaf (.seq none .leaf (.cond (.seq none .leaf .leaf) .leaf)))) .leaf))))) (.seq none .leaf (.seq none .leaf .leaf))))))
set_option maxRecDepth 100000 in
theorem slices_DeleteFunc_api_Range_api_Range_den (f_slices_IndexFunc_api_Range_api_Range : slices_IndexFunc_api_Range_api_Range_T) (f_bootmap_Merge_1 : bootmap_Merge_1_T) : slices_DeleteFunc_api_Range_api_Range_W (slices_DeleteFunc_api_Range_api_Range_G f_slices_IndexFunc_api_Range_api_Range f_bootmap_Merge_1) = curS [.c .s, .fn 195 [] []] EnR fun vs K Kp A => denFnA Tryz.prog (tabA [(211, enS [.c .s, .fn 195 [] []] (slices_IndexFunc_api_Range_api_Range_W f_slices_IndexFunc_api_Range_api_Range)), (195, enS [.agg [(.i .i64), (.i .i64)]] (bootmap_Merge_1_W f_bootmap_Merge_1))]) [7] Tryz.f193 slices_DeleteFunc_api_Range_api_Range_ann vs K (np false Kp) A := by kernel_rfl
set_option maxRecDepth 100000 in
theorem slices_DeleteFunc_api_Range_api_Range_ok (hm : Tryz.prog.follows .mixedOrders = true) : EntryOK Tryz.prog 193 (upE (enS [.c .s, .fn 195 [] []] (slices_DeleteFunc_api_Range_api_Range_W slices_DeleteFunc_api_Range_api_Range_A))) := entA hm (callingA_cons (slices_IndexFunc_api_Range_api_Range_ok hm) (callingA_cons (bootmap_Merge_1_ok hm) callingA_nil)) Tryz.call193 Tryz.func193 (by kernel_rfl) (by kernel_rfl) false (slices_DeleteFunc_api_Range_api_Range_den slices_IndexFunc_api_Range_api_Range_A bootmap_Merge_1_A)

theorem slices_SortFunc_api_Range_api_Range_ok (_hm : Tryz.prog.follows .mixedOrders = true) : EntryOK Tryz.prog 196 (upE (enS [.c .s, .fn 197 [] []] (slices_SortFunc_api_Range_api_Range_W slices_SortFunc_api_Range_api_Range_A))) := sortRange_ok rfl

def bootmap_Merge_ann : AnnA := (.seq none .leaf (.seq none .leaf (.seq none .leaf (.seq none .leaf (.seq none (.seq none .leaf (.block (.loop ⟨[13, 14], [(4, (.c .s)), (15, (.c (.i .i64)))], []⟩ (.seq none .leaf (.seq none (.cond .leaf .leaf) (.seq (some ⟨[13, 14, 15], [(4, (.c .s))], []⟩) (.block (.seq none .leaf (.seq none (.seq none .leaf (.seq (some ⟨[4, 6, 7, 13, 14, 15], [(33, (.c .b))], []⟩) (.draw 13) (.cond (.seq none (.draw 14) .leaf) .leaf))) .leaf))) .leaf)))))) (.seq none .leaf .leaf))))))
set_option maxRecDepth 100000 in
theorem bootmap_Merge_den (f_slices_Clone_api_Range_api_Range : slices_Clone_api_Range_api_Range_T) (f_slices_DeleteFunc_api_Range_api_Range : slices_DeleteFunc_api_Range_api_Range_T) (f_slices_SortFunc_api_Range_api_Range : slices_SortFunc_api_Range_api_Range_T) : bootmap_Merge_W (bootmap_Merge_G f_slices_Clone_api_Range_api_Range f_slices_DeleteFunc_api_Range_api_Range f_slices_SortFunc_api_Range_api_Range) = curS [.c .s] EnR fun vs K Kp A => denFnA Tryz.prog (tabA [(194, enS [.c .s] (slices_Clone_api_Range_api_Range_W f_slices_Clone_api_Range_api_Range)), (193, enS [.c .s, .fn 195 [] []] (slices_DeleteFunc_api_Range_api_Range_W f_slices_DeleteFunc_api_Range_api_Range)), (196, enS [.c .s, .fn 197 [] []] (slices_SortFunc_api_Range_api_Range_W f_slices_SortFunc_api_Range_api_Range))]) [6] Tryz.f174 bootmap_Merge_ann vs K (np false Kp) A := by kernel_rfl
set_option maxRecDepth 100000 in
theorem bootmap_Merge_ok (hm : Tryz.prog.follows .mixedOrders = true) : EntryOK Tryz.prog 174 (upE (enS [.c .s] (bootmap_Merge_W bootmap_Merge_A))) := entA hm (callingA_cons (slices_Clone_api_Range_api_Range_ok hm) (callingA_cons (slices_DeleteFunc_api_Range_api_Range_ok hm) (callingA_cons (slices_SortFunc_api_Range_api_Range_ok hm) callingA_nil))) Tryz.call174 Tryz.func174 (by kernel_rfl) (by kernel_rfl) false (bootmap_Merge_den slices_Clone_api_Range_api_Range_A slices_DeleteFunc_api_Range_api_Range_A slices_SortFunc_api_Range_api_Range_A)

def bootmap_Less_ann : AnnA := (.seq none .leaf (.seq none .leaf (.seq none .leaf (.seq none (.seq none .leaf (.block (.loop ⟨[6, 15, 16], [(5, (.c .s)), (17, (.c (.i .i64)))], []⟩ (.seq none .leaf (.seq none (.cond .leaf .leaf) (.seq (some ⟨[6, 15, 16, 17], [(5, (.c .s))], []⟩) (.block (.seq none .leaf (.seq none .leaf (.seq none (.seq none .leaf (.block (.loop ⟨[6, 8, 15, 16, 17, 23, 24], [(5, (.c .s)), (9, (.c (.i .i64))), (25, (.c (.i .i64)))], []⟩ (.seq none .leaf (.seq none (.cond .leaf .leaf) (.seq (some ⟨[6, 8, 15, 16, 17, 23, 24, 25], [(5, (.c .s)), (9, (.c (.i .i64)))], []⟩) (.block (.seq none .leaf (.seq none (.seq none .leaf (.cond .leaf .leaf)) (.seq (some ⟨[6, 8, 9, 11, 15, 16, 17, 23, 24, 25], [(5, (.c .s))], []⟩) (.seq none .leaf (.cond .leaf .leaf)) .leaf)))) .leaf)))))) (.seq none .leaf (.cond .leaf .leaf)))))) .leaf)))))) (.seq none .leaf .leaf)))))
set_option maxRecDepth 100000 in
theorem bootmap_Less_den (f_bootmap_Merge : bootmap_Merge_T) : bootmap_Less_W (bootmap_Less_G f_bootmap_Merge) = curS [.c .s, .c .s] EnR fun vs K Kp A => denFnA Tryz.prog (tabA [(174, enS [.c .s] (bootmap_Merge_W f_bootmap_Merge))]) [8, 11] Tryz.f130 bootmap_Less_ann vs K (np false Kp) A := by kernel_rfl
set_option maxRecDepth 100000 in
theorem bootmap_Less_ok (hm : Tryz.prog.follows .mixedOrders = true) : EntryOK Tryz.prog 130 (upE (enS [.c .s, .c .s] (bootmap_Less_W bootmap_Less_A))) := entA hm (callingA_cons (bootmap_Merge_ok hm) callingA_nil) Tryz.call130 Tryz.func130 (by kernel_rfl) (by kernel_rfl) false (bootmap_Less_den bootmap_Merge_A)

def bootmap_Frames_ann : AnnA := (.seq none .leaf (.seq (some ⟨[0, 1, 5], [], []⟩) (.seq none .leaf (.cond (.seq none .leaf .leaf) .leaf)) (.seq none .leaf (.seq none (.seq none .leaf (.cond (.seq none .leaf .leaf) .leaf)) (.seq none .leaf (.seq none .leaf (.seq none (.seq none .leaf (.block (.loop ⟨[1, 50, 51], [(10, (.c .s)), (11, (.c .s)), (52, (.c (.i .i64)))], []⟩ (.seq none .leaf (.seq none (.cond .leaf .leaf) (.seq (some ⟨[1, 50, 51, 52], [(10, (.c .s)), (11, (.c .s))], []⟩) (.block (.seq none .leaf (.seq none .leaf (.seq none .leaf (.cond .leaf .leaf))))) .leaf)))))) (.seq none .leaf (.seq none (.seq none .leaf (.cond (.seq none .leaf .leaf) .leaf)) (.seq none .leaf .leaf))))))))))
set_option maxRecDepth 100000 in
theorem bootmap_Frames_den (f_bootmap_Parse : bootmap_Parse_T) (f_bootmap_Area_frames : bootmap_Area_frames_T) (f_bootmap_Less : bootmap_Less_T) : bootmap_Frames_W (bootmap_Frames_G f_bootmap_Parse f_bootmap_Area_frames f_bootmap_Less) = curS [.c .s, .c (.i .i64), .agg [(.i .i64), (.i .i64)]] EnR fun vs K Kp A => denFnA Tryz.prog (tabA [(128, enS [.c .s] (bootmap_Parse_W f_bootmap_Parse)), (129, enS [.agg [(.i .u64), (.i .u64), (.i .u32)], .c (.i .i64)] (bootmap_Area_frames_W f_bootmap_Area_frames)), (130, enS [.c .s, .c .s] (bootmap_Less_W f_bootmap_Less))]) [5, 13, 14] Tryz.f65 bootmap_Frames_ann vs K (np false Kp) A := by kernel_rfl
set_option maxRecDepth 100000 in
theorem bootmap_Frames_ok (hm : Tryz.prog.follows .mixedOrders = true) : EntryOK Tryz.prog 65 (upE (enS [.c .s, .c (.i .i64), .agg [(.i .i64), (.i .i64)]] (bootmap_Frames_W bootmap_Frames_A))) := entA hm (callingA_cons (bootmap_Parse_ok hm) (callingA_cons (bootmap_Area_frames_ok hm) (callingA_cons (bootmap_Less_ok hm) callingA_nil))) Tryz.call65 Tryz.func65 (by kernel_rfl) (by kernel_rfl) false (bootmap_Frames_den bootmap_Parse_A bootmap_Area_frames_A bootmap_Less_A)

def pcid_Tags_begin_ann : AnnA := .leaf
set_option maxRecDepth 100000 in
theorem pcid_Tags_begin_den : pcid_Tags_begin_W (pcid_Tags_begin_A) = curS [.c .p] EnR fun vs K Kp A => denFnA Tryz.prog (tabA []) [] Tryz.f42 pcid_Tags_begin_ann vs K (np false Kp) A := by kernel_rfl
set_option maxRecDepth 100000 in
theorem pcid_Tags_begin_ok (hm : Tryz.prog.follows .mixedOrders = true) : EntryOK Tryz.prog 42 (upE (enS [.c .p] (pcid_Tags_begin_W pcid_Tags_begin_A))) := entA hm callingA_nil Tryz.call42 Tryz.func42 (by kernel_rfl) (by kernel_rfl) false pcid_Tags_begin_den

def pcid_New_ann : AnnA := (.seq none .leaf (.seq none (.seq none .leaf (.cond (.seq none .leaf .leaf) .leaf)) (.seq none .leaf (.seq none .leaf (.seq none .leaf .leaf)))))
set_option maxRecDepth 100000 in
theorem pcid_New_den (f_pcid_Tags_begin : pcid_Tags_begin_T) : pcid_New_W (pcid_New_G f_pcid_Tags_begin) = curS [.c (.i .i64)] EnR fun vs K Kp A => denFnA Tryz.prog (tabA [(42, enS [.c .p] (pcid_Tags_begin_W f_pcid_Tags_begin))]) [] Tryz.f12 pcid_New_ann vs K (np false Kp) A := by kernel_rfl
set_option maxRecDepth 100000 in
theorem pcid_New_ok (hm : Tryz.prog.follows .mixedOrders = true) : EntryOK Tryz.prog 12 (upE (enS [.c (.i .i64)] (pcid_New_W pcid_New_A))) := entA hm (callingA_cons (pcid_Tags_begin_ok hm) callingA_nil) Tryz.call12 Tryz.func12 (by kernel_rfl) (by kernel_rfl) false (pcid_New_den pcid_Tags_begin_A)

def ram_New_ann : AnnA := (.seq none .leaf (.seq none (.seq none .leaf (.cond (.seq none .leaf .leaf) .leaf)) (.seq (some ⟨[0, 1], [], []⟩) (.seq none .leaf (.cond (.seq none .leaf .leaf) .leaf)) (.seq none (.seq none .leaf (.block (.loop ⟨[0, 1, 17, 18], [(19, (.c (.i .i64)))], []⟩ (.seq none .leaf (.seq none (.cond .leaf .leaf) (.seq none (.block (.seq none .leaf (.seq none .leaf (.cond (.seq none .leaf .leaf) .leaf)))) .leaf)))))) (.seq none .leaf .leaf)))))
set_option maxRecDepth 100000 in
theorem ram_New_den : ram_New_W (ram_New_A) = curS [.c (.i .i64), .c .s] EnR fun vs K Kp A => denFnA Tryz.prog (tabA []) [7] Tryz.f66 ram_New_ann vs K (np false Kp) A := by kernel_rfl
set_option maxRecDepth 100000 in
theorem ram_New_ok (hm : Tryz.prog.follows .mixedOrders = true) : EntryOK Tryz.prog 66 (upE (enS [.c (.i .i64), .c .s] (ram_New_W ram_New_A))) := entA hm callingA_nil Tryz.call66 Tryz.func66 (by kernel_rfl) (by kernel_rfl) false ram_New_den

def buddy_Buddy_add_ann : AnnA := (.seq none (.block (.loop ⟨[0], [(1, (.c (.i .i64))), (2, (.c (.i .i64)))], []⟩ (.seq none (.seq none (.draw 15) (.cond .leaf .leaf)) (.block (.seq none (.draw 10) (.seq none .leaf .leaf)))))) .leaf)
set_option maxRecDepth 100000 in
theorem buddy_Buddy_add_den : buddy_Buddy_add_W (buddy_Buddy_add_A) = curS [.c .p, .c (.i .i64), .c (.i .i64)] EnR fun vs K Kp A => denFnA Tryz.prog (tabA []) [] Tryz.f131 buddy_Buddy_add_ann vs K (np false Kp) A := by kernel_rfl
set_option maxRecDepth 100000 in
theorem buddy_Buddy_add_ok (hm : Tryz.prog.follows .mixedOrders = true) : EntryOK Tryz.prog 131 (upE (enS [.c .p, .c (.i .i64), .c (.i .i64)] (buddy_Buddy_add_W buddy_Buddy_add_A))) := entA hm callingA_nil Tryz.call131 Tryz.func131 (by kernel_rfl) (by kernel_rfl) false buddy_Buddy_add_den

def buddy_New_ann : AnnA := (.seq none .leaf (.seq none (.seq none .leaf (.cond (.seq none .leaf .leaf) .leaf)) (.seq none .leaf (.seq none (.seq none .leaf (.block (.loop ⟨[0, 16, 17], [(4, (.c (.i .i64))), (18, (.c (.i .i64)))], []⟩ (.seq none .leaf (.seq none (.cond .leaf .leaf) (.seq none (.block (.seq none .leaf (.seq none (.seq none .leaf (.cond (.seq none .leaf .leaf) .leaf)) .leaf))) .leaf)))))) (.seq none .leaf (.seq none (.seq none .leaf (.block (.loop ⟨[0, 7], [(44, (.c (.i .i64)))], []⟩ (.seq none .leaf (.seq none (.cond .leaf .leaf) (.seq none (.block (.seq none .leaf .leaf)) .leaf)))))) (.seq none (.seq none .leaf (.block (.loop ⟨[7, 54, 55], [(56, (.c (.i .i64)))], []⟩ (.seq none .leaf (.seq none (.cond .leaf .leaf) (.seq none (.block (.seq none .leaf (.seq none (.seq none .leaf (.block (.loop ⟨[7, 10, 54, 55, 56], [(11, (.c (.i .i64)))], []⟩ (.seq none (.seq none .leaf (.cond .leaf .leaf)) (.block (.seq none .leaf (.seq none (.block (.loop ⟨[7, 10, 11, 54, 55, 56], [(12, (.c (.i .i64)))], []⟩ (.seq none (.seq none (.draw 18) (.cond .leaf .leaf)) (.block .leaf)))) (.seq none .leaf .leaf)))))))) (.draw 12)))) .leaf)))))) (.seq none .leaf .leaf))))))))
set_option maxRecDepth 100000 in
theorem buddy_New_den (f_buddy_Buddy_add : buddy_Buddy_add_T) : buddy_New_W (buddy_New_G f_buddy_Buddy_add) = curS [.c .s] EnR fun vs K Kp A => denFnA Tryz.prog (tabA [(131, enS [.c .p, .c (.i .i64), .c (.i .i64)] (buddy_Buddy_add_W f_buddy_Buddy_add))]) [6, 10] Tryz.f67 buddy_New_ann vs K (np false Kp) A := by kernel_rfl
set_option maxRecDepth 100000 in
theorem buddy_New_ok (hm : Tryz.prog.follows .mixedOrders = true) : EntryOK Tryz.prog 67 (upE (enS [.c .s] (buddy_New_W buddy_New_A))) := entA hm (callingA_cons (buddy_Buddy_add_ok hm) callingA_nil) Tryz.call67 Tryz.func67 (by kernel_rfl) (by kernel_rfl) false (buddy_New_den buddy_Buddy_add_A)

def buddy_Buddy_Free_ann : AnnA := (.seq none .leaf (.seq none .leaf .leaf))
set_option maxRecDepth 100000 in
theorem buddy_Buddy_Free_den : buddy_Buddy_Free_W (buddy_Buddy_Free_A) = curS [.c .p] EnR fun vs K Kp A => denFnA Tryz.prog (tabA []) [] Tryz.f18 buddy_Buddy_Free_ann vs K (np false Kp) A := by kernel_rfl
set_option maxRecDepth 100000 in
theorem buddy_Buddy_Free_ok (hm : Tryz.prog.follows .mixedOrders = true) : EntryOK Tryz.prog 18 (upE (enS [.c .p] (buddy_Buddy_Free_W buddy_Buddy_Free_A))) := entA hm callingA_nil Tryz.call18 Tryz.func18 (by kernel_rfl) (by kernel_rfl) false buddy_Buddy_Free_den

def quota_New_ann : AnnA := (.seq none .leaf (.seq none (.seq none .leaf (.cond (.seq none .leaf .leaf) .leaf)) (.seq none .leaf .leaf)))
set_option maxRecDepth 100000 in
theorem quota_New_den : quota_New_W (quota_New_A) = curS [.c (.i .i64)] EnR fun vs K Kp A => denFnA Tryz.prog (tabA []) [] Tryz.f68 quota_New_ann vs K (np false Kp) A := by kernel_rfl
set_option maxRecDepth 100000 in
theorem quota_New_ok (hm : Tryz.prog.follows .mixedOrders = true) : EntryOK Tryz.prog 68 (upE (enS [.c (.i .i64)] (quota_New_W quota_New_A))) := entA hm callingA_nil Tryz.call68 Tryz.func68 (by kernel_rfl) (by kernel_rfl) false quota_New_den

def space_Machine_purse_ann : AnnA := (.seq none .leaf (.seq none (.draw 14) .leaf))
set_option maxRecDepth 100000 in
theorem space_Machine_purse_den : space_Machine_purse_W (space_Machine_purse_A) = curS [.c .p, .c (.i .i64)] EnR fun vs K Kp A => denFnA Tryz.prog (tabA []) [4] Tryz.f47 space_Machine_purse_ann vs K (np false Kp) A := by kernel_rfl
set_option maxRecDepth 100000 in
theorem space_Machine_purse_ok (hm : Tryz.prog.follows .mixedOrders = true) : EntryOK Tryz.prog 47 (upE (enS [.c .p, .c (.i .i64)] (space_Machine_purse_W space_Machine_purse_A))) := entA hm callingA_nil Tryz.call47 Tryz.func47 (by kernel_rfl) (by kernel_rfl) false space_Machine_purse_den

def quota_Tree_at_ann : AnnA := (.seq none .leaf (.seq none (.seq none .leaf (.cond (.seq none .leaf .leaf) .leaf)) (.seq none .leaf .leaf)))
set_option maxRecDepth 100000 in
theorem quota_Tree_at_den : quota_Tree_at_W (quota_Tree_at_A) = curS [.c .p, .c (.i .i64)] EnR fun vs K Kp A => denFnA Tryz.prog (tabA []) [] Tryz.f74 quota_Tree_at_ann vs K (np false Kp) A := by kernel_rfl
set_option maxRecDepth 100000 in
theorem quota_Tree_at_ok (hm : Tryz.prog.follows .mixedOrders = true) : EntryOK Tryz.prog 74 (upE (enS [.c .p, .c (.i .i64)] (quota_Tree_at_W quota_Tree_at_A))) := entA hm callingA_nil Tryz.call74 Tryz.func74 (by kernel_rfl) (by kernel_rfl) false quota_Tree_at_den

def quota_Tree_Room_ann : AnnA := (.seq none .leaf (.seq none .leaf (.seq none (.seq none .leaf (.cond (.seq none .leaf .leaf) .leaf)) (.seq none (.draw 15) .leaf))))
set_option maxRecDepth 100000 in
theorem quota_Tree_Room_den (f_quota_Tree_at : quota_Tree_at_T) : quota_Tree_Room_W (quota_Tree_Room_G f_quota_Tree_at) = curS [.c .p, .c (.i .i64)] EnR fun vs K Kp A => denFnA Tryz.prog (tabA [(74, enS [.c .p, .c (.i .i64)] (quota_Tree_at_W f_quota_Tree_at))]) [] Tryz.f31 quota_Tree_Room_ann vs K (np false Kp) A := by kernel_rfl
set_option maxRecDepth 100000 in
theorem quota_Tree_Room_ok (hm : Tryz.prog.follows .mixedOrders = true) : EntryOK Tryz.prog 31 (upE (enS [.c .p, .c (.i .i64)] (quota_Tree_Room_W quota_Tree_Room_A))) := entA hm (callingA_cons (quota_Tree_at_ok hm) callingA_nil) Tryz.call31 Tryz.func31 (by kernel_rfl) (by kernel_rfl) false (quota_Tree_Room_den quota_Tree_at_A)

def quota_Tree_Charge_ann : AnnA := (.seq none .leaf (.seq none .leaf (.seq none (.block (.seq none .leaf (.cond (.seq none .leaf .leaf) (.seq none .leaf (.cond (.seq none .leaf .leaf) (.seq none .leaf (.cond (.seq none .leaf .leaf) .leaf))))))) (.seq none .leaf (.seq none .leaf .leaf)))))
set_option maxRecDepth 100000 in
theorem quota_Tree_Charge_den (f_quota_Tree_at : quota_Tree_at_T) (f_quota_Tree_Room : quota_Tree_Room_T) : quota_Tree_Charge_W (quota_Tree_Charge_G f_quota_Tree_at f_quota_Tree_Room) = curS [.c .p, .c (.i .i64), .c (.i .i64)] EnR fun vs K Kp A => denFnA Tryz.prog (tabA [(74, enS [.c .p, .c (.i .i64)] (quota_Tree_at_W f_quota_Tree_at)), (31, enS [.c .p, .c (.i .i64)] (quota_Tree_Room_W f_quota_Tree_Room))]) [] Tryz.f113 quota_Tree_Charge_ann vs K (np false Kp) A := by kernel_rfl
set_option maxRecDepth 100000 in
theorem quota_Tree_Charge_ok (hm : Tryz.prog.follows .mixedOrders = true) : EntryOK Tryz.prog 113 (upE (enS [.c .p, .c (.i .i64), .c (.i .i64)] (quota_Tree_Charge_W quota_Tree_Charge_A))) := entA hm (callingA_cons (quota_Tree_at_ok hm) (callingA_cons (quota_Tree_Room_ok hm) callingA_nil)) Tryz.call113 Tryz.func113 (by kernel_rfl) (by kernel_rfl) false (quota_Tree_Charge_den quota_Tree_at_A quota_Tree_Room_A)

def maps_Keys_map_int_bool_int_bool_ann : AnnA := (.seq none .leaf (.seq none .leaf .leaf))
set_option maxRecDepth 100000 in
theorem maps_Keys_map_int_bool_int_bool_den : maps_Keys_map_int_bool_int_bool_W (maps_Keys_map_int_bool_int_bool_A) = curS [.c .m] EnR fun vs K Kp A => denFnA Tryz.prog (tabA []) [] Tryz.f167 maps_Keys_map_int_bool_int_bool_ann vs K (np false Kp) A := by kernel_rfl
set_option maxRecDepth 100000 in
theorem maps_Keys_map_int_bool_int_bool_ok (hm : Tryz.prog.follows .mixedOrders = true) : EntryOK Tryz.prog 167 (upE (enS [.c .m] (maps_Keys_map_int_bool_int_bool_W maps_Keys_map_int_bool_int_bool_A))) := entA hm callingA_nil Tryz.call167 Tryz.func167 (by kernel_rfl) (by kernel_rfl) false maps_Keys_map_int_bool_int_bool_den

shelf_lay_g SlLaysZI.n8 Ggz 8 at Tryz 136 as slices_Collect_int_l1
shelf_lay_g SlLaysZI.n7 Ggz 7 at Tryz 167 as slices_Collect_int_l2
theorem slices_Collect_int_ok (_hm : Tryz.prog.follows .mixedOrders = true) : EntryOK Tryz.prog 136 (upE (enS [.fn 190 [] [.p]] (slices_Collect_int_W slices_Collect_int_A))) :=
  collect_ok (ρ := slices_Collect_int_l1_ren) (ρ' := slices_Collect_int_l2_ren) slices_Collect_int_l1 { slices_Collect_int_l2 with } rfl rfl rfl rfl

def slices_Min_int_int_ann : AnnA := (.seq none .leaf (.seq (some ⟨[0], [], []⟩) (.seq none .leaf (.cond .leaf .leaf)) (.seq none .leaf (.seq none (.seq none .leaf (.block (.loop ⟨[0], [(3, (.c (.i .i64))), (4, (.c (.i .i64)))], []⟩ (.seq none (.seq none .leaf (.cond .leaf .leaf)) (.seq none (.block .leaf) .leaf))))) (.seq none .leaf .leaf)))))
set_option maxRecDepth 100000 in
theorem slices_Min_int_int_den : slices_Min_int_int_W (slices_Min_int_int_A) = curS [.c .s] EnR fun vs K Kp A => denFnA Tryz.prog (tabA []) [] Tryz.f166 slices_Min_int_int_ann vs K (np false Kp) A := by kernel_rfl
set_option maxRecDepth 100000 in
theorem slices_Min_int_int_ok (hm : Tryz.prog.follows .mixedOrders = true) : EntryOK Tryz.prog 166 (upE (enS [.c .s] (slices_Min_int_int_W slices_Min_int_int_A))) := entA hm callingA_nil Tryz.call166 Tryz.func166 (by kernel_rfl) (by kernel_rfl) false slices_Min_int_int_den

def buddy_Buddy_Take_ann : AnnA := (.seq none .leaf (.seq (some ⟨[0, 1], [], []⟩) (.seq none .leaf (.cond (.seq none .leaf .leaf) .leaf)) (.seq none .leaf (.seq (some ⟨[0, 1], [(6, (.c (.i .i64)))], []⟩) (.block (.loop ⟨[0, 1], [(6, (.c (.i .i64)))], []⟩ (.seq none (.seq none .leaf (.cond .leaf .leaf)) (.block .leaf)))) (.seq none (.seq none .leaf (.cond (.seq none .leaf .leaf) .leaf)) (.seq none .leaf (.seq none .leaf (.seq none (.block (.loop ⟨[0, 1, 7], [(6, (.c (.i .i64)))], []⟩ (.seq none (.seq none .leaf (.cond .leaf .leaf)) (.block (.seq none .leaf (.draw 10)))))) (.seq none .leaf (.seq none (.draw 9) (.seq none .leaf .leaf)))))))))))
set_option maxRecDepth 100000 in
theorem buddy_Buddy_Take_den (f_maps_Keys_map_int_bool_int_bool : maps_Keys_map_int_bool_int_bool_T) (f_slices_Collect_int : slices_Collect_int_T) (f_slices_Min_int_int : slices_Min_int_int_T) : buddy_Buddy_Take_W (buddy_Buddy_Take_G f_maps_Keys_map_int_bool_int_bool f_slices_Collect_int f_slices_Min_int_int) = curS [.c .p, .c (.i .i64)] EnR fun vs K Kp A => denFnA Tryz.prog (tabA [(167, enS [.c .m] (maps_Keys_map_int_bool_int_bool_W f_maps_Keys_map_int_bool_int_bool)), (136, enS [.fn 190 [] [.p]] (slices_Collect_int_W f_slices_Collect_int)), (166, enS [.c .s] (slices_Min_int_int_W f_slices_Min_int_int))]) [] Tryz.f114 buddy_Buddy_Take_ann vs K (np false Kp) A := by kernel_rfl
set_option maxRecDepth 100000 in
theorem buddy_Buddy_Take_ok (hm : Tryz.prog.follows .mixedOrders = true) : EntryOK Tryz.prog 114 (upE (enS [.c .p, .c (.i .i64)] (buddy_Buddy_Take_W buddy_Buddy_Take_A))) := entA hm (callingA_cons (maps_Keys_map_int_bool_int_bool_ok hm) (callingA_cons (slices_Collect_int_ok hm) (callingA_cons (slices_Min_int_int_ok hm) callingA_nil))) Tryz.call114 Tryz.func114 (by kernel_rfl) (by kernel_rfl) false (buddy_Buddy_Take_den maps_Keys_map_int_bool_int_bool_A slices_Collect_int_A slices_Min_int_int_A)

def ram_RAM_Has_ann : AnnA := (.seq none .leaf (.seq none (.seq none .leaf (.cond (.seq none .leaf .leaf) .leaf)) (.seq none (.seq none .leaf (.block (.loop ⟨[1, 20, 21], [(22, (.c (.i .i64)))], []⟩ (.seq none .leaf (.seq none (.cond .leaf .leaf) (.seq none (.block (.seq none .leaf (.seq none .leaf (.cond (.seq none .leaf .leaf) .leaf)))) .leaf)))))) (.seq none .leaf .leaf))))
set_option maxRecDepth 100000 in
theorem ram_RAM_Has_den : ram_RAM_Has_W (ram_RAM_Has_A) = curS [.c .p, .c (.i .i64)] EnR fun vs K Kp A => denFnA Tryz.prog (tabA []) [6] Tryz.f22 ram_RAM_Has_ann vs K (np false Kp) A := by kernel_rfl
set_option maxRecDepth 100000 in
theorem ram_RAM_Has_ok (hm : Tryz.prog.follows .mixedOrders = true) : EntryOK Tryz.prog 22 (upE (enS [.c .p, .c (.i .i64)] (ram_RAM_Has_W ram_RAM_Has_A))) := entA hm callingA_nil Tryz.call22 Tryz.func22 (by kernel_rfl) (by kernel_rfl) false ram_RAM_Has_den

def ram_RAM_Zero_ann : AnnA := (.seq none .leaf (.seq none (.seq none .leaf (.cond (.seq none .leaf .leaf) .leaf)) (.seq none .leaf (.seq none .leaf .leaf))))
set_option maxRecDepth 100000 in
theorem ram_RAM_Zero_den (f_ram_RAM_Has : ram_RAM_Has_T) : ram_RAM_Zero_W (ram_RAM_Zero_G f_ram_RAM_Has) = curS [.c .p, .c (.i .i64)] EnR fun vs K Kp A => denFnA Tryz.prog (tabA [(22, enS [.c .p, .c (.i .i64)] (ram_RAM_Has_W f_ram_RAM_Has))]) [] Tryz.f115 ram_RAM_Zero_ann vs K (np false Kp) A := by kernel_rfl
set_option maxRecDepth 100000 in
theorem ram_RAM_Zero_ok (hm : Tryz.prog.follows .mixedOrders = true) : EntryOK Tryz.prog 115 (upE (enS [.c .p, .c (.i .i64)] (ram_RAM_Zero_W ram_RAM_Zero_A))) := entA hm (callingA_cons (ram_RAM_Has_ok hm) callingA_nil) Tryz.call115 Tryz.func115 (by kernel_rfl) (by kernel_rfl) false (ram_RAM_Zero_den ram_RAM_Has_A)

def buddy_Buddy_Give_ann : AnnA := (.seq none .leaf (.seq none .leaf (.seq none (.seq none .leaf (.cond (.seq none .leaf .leaf) .leaf)) (.seq none .leaf (.seq none (.draw 9) (.seq none .leaf (.seq none .leaf .leaf)))))))
set_option maxRecDepth 100000 in
theorem buddy_Buddy_Give_den (f_buddy_Buddy_add : buddy_Buddy_add_T) : buddy_Buddy_Give_W (buddy_Buddy_Give_G f_buddy_Buddy_add) = curS [.c .p, .c (.i .i64)] EnR fun vs K Kp A => denFnA Tryz.prog (tabA [(131, enS [.c .p, .c (.i .i64), .c (.i .i64)] (buddy_Buddy_add_W f_buddy_Buddy_add))]) [] Tryz.f116 buddy_Buddy_Give_ann vs K (np false Kp) A := by kernel_rfl
set_option maxRecDepth 100000 in
theorem buddy_Buddy_Give_ok (hm : Tryz.prog.follows .mixedOrders = true) : EntryOK Tryz.prog 116 (upE (enS [.c .p, .c (.i .i64)] (buddy_Buddy_Give_W buddy_Buddy_Give_A))) := entA hm (callingA_cons (buddy_Buddy_add_ok hm) callingA_nil) Tryz.call116 Tryz.func116 (by kernel_rfl) (by kernel_rfl) false (buddy_Buddy_Give_den buddy_Buddy_add_A)

def quota_Tree_Credit_ann : AnnA := (.seq none .leaf (.seq none .leaf (.seq none (.block (.seq none .leaf (.cond (.seq none .leaf .leaf) (.seq none .leaf (.cond (.seq none .leaf .leaf) .leaf))))) (.seq none .leaf (.seq none .leaf .leaf)))))
set_option maxRecDepth 100000 in
theorem quota_Tree_Credit_den (f_quota_Tree_at : quota_Tree_at_T) : quota_Tree_Credit_W (quota_Tree_Credit_G f_quota_Tree_at) = curS [.c .p, .c (.i .i64), .c (.i .i64)] EnR fun vs K Kp A => denFnA Tryz.prog (tabA [(74, enS [.c .p, .c (.i .i64)] (quota_Tree_at_W f_quota_Tree_at))]) [] Tryz.f117 quota_Tree_Credit_ann vs K (np false Kp) A := by kernel_rfl
set_option maxRecDepth 100000 in
theorem quota_Tree_Credit_ok (hm : Tryz.prog.follows .mixedOrders = true) : EntryOK Tryz.prog 117 (upE (enS [.c .p, .c (.i .i64), .c (.i .i64)] (quota_Tree_Credit_W quota_Tree_Credit_A))) := entA hm (callingA_cons (quota_Tree_at_ok hm) callingA_nil) Tryz.call117 Tryz.func117 (by kernel_rfl) (by kernel_rfl) false (quota_Tree_Credit_den quota_Tree_at_A)

def table_Purse_Take_ann : AnnA := (.seq none .leaf (.seq none (.seq none .leaf (.seq none .leaf (.cond (.seq none .leaf .leaf) .leaf))) (.seq none .leaf (.seq (some ⟨[1], [(6, (.c (.i .i64)))], []⟩) (.seq none .leaf (.cond (.seq none (.seq none .leaf (.seq none .leaf (.cond (.seq none .leaf .leaf) .leaf))) .leaf) .leaf)) (.seq none .leaf (.seq none .leaf .leaf))))))
set_option maxRecDepth 100000 in
theorem table_Purse_Take_den (f_quota_Tree_Charge : quota_Tree_Charge_T) (f_buddy_Buddy_Take : buddy_Buddy_Take_T) (f_ram_RAM_Zero : ram_RAM_Zero_T) (f_buddy_Buddy_Give : buddy_Buddy_Give_T) (f_quota_Tree_Credit : quota_Tree_Credit_T) : table_Purse_Take_W (table_Purse_Take_G f_quota_Tree_Charge f_buddy_Buddy_Take f_ram_RAM_Zero f_buddy_Buddy_Give f_quota_Tree_Credit) = curS [.agg [.p, .p, .p, (.i .i64)]] EnR fun vs K Kp A => denFnA Tryz.prog (tabA [(113, enS [.c .p, .c (.i .i64), .c (.i .i64)] (quota_Tree_Charge_W f_quota_Tree_Charge)), (114, enS [.c .p, .c (.i .i64)] (buddy_Buddy_Take_W f_buddy_Buddy_Take)), (115, enS [.c .p, .c (.i .i64)] (ram_RAM_Zero_W f_ram_RAM_Zero)), (116, enS [.c .p, .c (.i .i64)] (buddy_Buddy_Give_W f_buddy_Buddy_Give)), (117, enS [.c .p, .c (.i .i64), .c (.i .i64)] (quota_Tree_Credit_W f_quota_Tree_Credit))]) [1] Tryz.f53 table_Purse_Take_ann vs K (np false Kp) A := by kernel_rfl
set_option maxRecDepth 100000 in
theorem table_Purse_Take_ok (hm : Tryz.prog.follows .mixedOrders = true) : EntryOK Tryz.prog 53 (upE (enS [.agg [.p, .p, .p, (.i .i64)]] (table_Purse_Take_W table_Purse_Take_A))) := entA hm (callingA_cons (quota_Tree_Charge_ok hm) (callingA_cons (buddy_Buddy_Take_ok hm) (callingA_cons (ram_RAM_Zero_ok hm) (callingA_cons (buddy_Buddy_Give_ok hm) (callingA_cons (quota_Tree_Credit_ok hm) callingA_nil))))) Tryz.call53 Tryz.func53 (by kernel_rfl) (by kernel_rfl) false (table_Purse_Take_den quota_Tree_Charge_A buddy_Buddy_Take_A ram_RAM_Zero_A buddy_Buddy_Give_A quota_Tree_Credit_A)

def ram_RAM_Frames_ann : AnnA := (.seq none .leaf (.seq none .leaf .leaf))
set_option maxRecDepth 100000 in
theorem ram_RAM_Frames_den : ram_RAM_Frames_W (ram_RAM_Frames_A) = curS [.c .p] EnR fun vs K Kp A => denFnA Tryz.prog (tabA []) [] Tryz.f132 ram_RAM_Frames_ann vs K (np false Kp) A := by kernel_rfl
set_option maxRecDepth 100000 in
theorem ram_RAM_Frames_ok (hm : Tryz.prog.follows .mixedOrders = true) : EntryOK Tryz.prog 132 (upE (enS [.c .p] (ram_RAM_Frames_W ram_RAM_Frames_A))) := entA hm callingA_nil Tryz.call132 Tryz.func132 (by kernel_rfl) (by kernel_rfl) false ram_RAM_Frames_den

def table_Purse_Give_ann : AnnA := (.seq none .leaf (.seq none .leaf .leaf))
set_option maxRecDepth 100000 in
theorem table_Purse_Give_den (f_buddy_Buddy_Give : buddy_Buddy_Give_T) (f_quota_Tree_Credit : quota_Tree_Credit_T) : table_Purse_Give_W (table_Purse_Give_G f_buddy_Buddy_Give f_quota_Tree_Credit) = curS [.agg [.p, .p, .p, (.i .i64)], .c (.i .i64)] EnR fun vs K Kp A => denFnA Tryz.prog (tabA [(116, enS [.c .p, .c (.i .i64)] (buddy_Buddy_Give_W f_buddy_Buddy_Give)), (117, enS [.c .p, .c (.i .i64), .c (.i .i64)] (quota_Tree_Credit_W f_quota_Tree_Credit))]) [2] Tryz.f55 table_Purse_Give_ann vs K (np false Kp) A := by kernel_rfl
set_option maxRecDepth 100000 in
theorem table_Purse_Give_ok (hm : Tryz.prog.follows .mixedOrders = true) : EntryOK Tryz.prog 55 (upE (enS [.agg [.p, .p, .p, (.i .i64)], .c (.i .i64)] (table_Purse_Give_W table_Purse_Give_A))) := entA hm (callingA_cons (buddy_Buddy_Give_ok hm) (callingA_cons (quota_Tree_Credit_ok hm) callingA_nil)) Tryz.call55 Tryz.func55 (by kernel_rfl) (by kernel_rfl) false (table_Purse_Give_den buddy_Buddy_Give_A quota_Tree_Credit_A)

def pte_Entry_flags_ann : AnnA := (.seq none .leaf (.seq none (.draw 25) .leaf))
set_option maxRecDepth 100000 in
theorem pte_Entry_flags_den : pte_Entry_flags_W (pte_Entry_flags_A) = curS [.c .p] EnR fun vs K Kp A => denFnA Tryz.prog (tabA []) [2] Tryz.f187 pte_Entry_flags_ann vs K (np false Kp) A := by kernel_rfl
set_option maxRecDepth 100000 in
theorem pte_Entry_flags_ok (hm : Tryz.prog.follows .mixedOrders = true) : EntryOK Tryz.prog 187 (upE (enS [.c .p] (pte_Entry_flags_W pte_Entry_flags_A))) := entA hm callingA_nil Tryz.call187 Tryz.func187 (by kernel_rfl) (by kernel_rfl) false pte_Entry_flags_den

def pte_places_ann : AnnA := (.seq none .leaf (.seq none .leaf .leaf))
set_option maxRecDepth 100000 in
theorem pte_places_den : pte_places_W (pte_places_A) = curS [] EnR fun vs K Kp A => denFnA Tryz.prog (tabA []) [0] Tryz.f188 pte_places_ann vs K (np false Kp) A := by kernel_rfl
set_option maxRecDepth 100000 in
theorem pte_places_ok (hm : Tryz.prog.follows .mixedOrders = true) : EntryOK Tryz.prog 188 (upE (enS [] (pte_places_W pte_places_A))) := entA hm callingA_nil Tryz.call188 Tryz.func188 (by kernel_rfl) (by kernel_rfl) false pte_places_den

def pte_Pack_ann : AnnA := (.seq none .leaf (.seq (some ⟨[1], [], []⟩) (.seq none .leaf (.cond (.seq none .leaf .leaf) .leaf)) (.seq none .leaf (.seq none (.seq none .leaf (.block (.loop ⟨[19], [(4, (.c (.i .u64))), (20, (.c (.i .i64)))], []⟩ (.seq none .leaf (.seq none (.cond .leaf .leaf) (.seq (some ⟨[19, 20], [(4, (.c (.i .u64)))], []⟩) (.block (.seq none .leaf (.seq none .leaf (.cond .leaf .leaf)))) .leaf)))))) (.seq none .leaf .leaf)))))
set_option maxRecDepth 100000 in
theorem pte_Pack_den (f_pte_Entry_flags : pte_Entry_flags_T) (f_pte_places : pte_places_T) : pte_Pack_W (pte_Pack_G f_pte_Entry_flags f_pte_places) = curS [.agg [.b, .b, .b, .b, .b, .b, .b, .b, (.i .i64)]] EnR fun vs K Kp A => denFnA Tryz.prog (tabA [(187, enS [.c .p] (pte_Entry_flags_W f_pte_Entry_flags)), (188, enS [] (pte_places_W f_pte_places))]) [] Tryz.f158 pte_Pack_ann vs K (np false Kp) A := by kernel_rfl
set_option maxRecDepth 100000 in
theorem pte_Pack_ok (hm : Tryz.prog.follows .mixedOrders = true) : EntryOK Tryz.prog 158 (upE (enS [.agg [.b, .b, .b, .b, .b, .b, .b, .b, (.i .i64)]] (pte_Pack_W pte_Pack_A))) := entA hm (callingA_cons (pte_Entry_flags_ok hm) (callingA_cons (pte_places_ok hm) callingA_nil)) Tryz.call158 Tryz.func158 (by kernel_rfl) (by kernel_rfl) false (pte_Pack_den pte_Entry_flags_A pte_places_A)

def table_place_ann : AnnA := (.seq none .leaf (.seq none .leaf .leaf))
set_option maxRecDepth 100000 in
theorem table_place_den : table_place_W (table_place_A) = curS [.c (.i .i64), .c (.i .i64)] EnR fun vs K Kp A => denFnA Tryz.prog (tabA []) [] Tryz.f159 table_place_ann vs K (np false Kp) A := by kernel_rfl
set_option maxRecDepth 100000 in
theorem table_place_ok (hm : Tryz.prog.follows .mixedOrders = true) : EntryOK Tryz.prog 159 (upE (enS [.c (.i .i64), .c (.i .i64)] (table_place_W table_place_A))) := entA hm callingA_nil Tryz.call159 Tryz.func159 (by kernel_rfl) (by kernel_rfl) false table_place_den

def ram_RAM_check_ann : AnnA := (.seq none .leaf (.seq none (.seq none .leaf (.block (.seq (some ⟨[0, 1, 2], [(9, (.c .b))], []⟩) (.seq none .leaf (.cond .leaf (.seq none .leaf (.cond .leaf (.seq none .leaf (.cond .leaf .leaf)))))) (.cond .leaf (.seq none .leaf .leaf))))) (.seq none .leaf (.seq none (.seq none .leaf (.cond (.seq none .leaf .leaf) .leaf)) (.seq none .leaf .leaf)))))
set_option maxRecDepth 100000 in
theorem ram_RAM_check_den (f_ram_RAM_Has : ram_RAM_Has_T) : ram_RAM_check_W (ram_RAM_check_G f_ram_RAM_Has) = curS [.c .p, .c (.i .u64), .c (.i .i64)] EnR fun vs K Kp A => denFnA Tryz.prog (tabA [(22, enS [.c .p, .c (.i .i64)] (ram_RAM_Has_W f_ram_RAM_Has))]) [] Tryz.f90 ram_RAM_check_ann vs K (np false Kp) A := by kernel_rfl
set_option maxRecDepth 100000 in
theorem ram_RAM_check_ok (hm : Tryz.prog.follows .mixedOrders = true) : EntryOK Tryz.prog 90 (upE (enS [.c .p, .c (.i .u64), .c (.i .i64)] (ram_RAM_check_W ram_RAM_check_A))) := entA hm (callingA_cons (ram_RAM_Has_ok hm) callingA_nil) Tryz.call90 Tryz.func90 (by kernel_rfl) (by kernel_rfl) false (ram_RAM_check_den ram_RAM_Has_A)

def ram_RAM_own_ann : AnnA := (.seq none .leaf (.seq none .leaf (.seq (some ⟨[], [(5, (.c .p))], []⟩) (.seq none .leaf (.cond (.seq none .leaf .leaf) .leaf)) (.seq none .leaf .leaf))))
set_option maxRecDepth 100000 in
theorem ram_RAM_own_den : ram_RAM_own_W (ram_RAM_own_A) = curS [.c .p, .c (.i .i64)] EnR fun vs K Kp A => denFnA Tryz.prog (tabA []) [] Tryz.f91 ram_RAM_own_ann vs K (np false Kp) A := by kernel_rfl
set_option maxRecDepth 100000 in
theorem ram_RAM_own_ok (hm : Tryz.prog.follows .mixedOrders = true) : EntryOK Tryz.prog 91 (upE (enS [.c .p, .c (.i .i64)] (ram_RAM_own_W ram_RAM_own_A))) := entA hm callingA_nil Tryz.call91 Tryz.func91 (by kernel_rfl) (by kernel_rfl) false ram_RAM_own_den

def ram_RAM_Store_ann : AnnA := (.seq none .leaf (.seq none (.seq none .leaf (.seq none .leaf (.cond (.seq none .leaf .leaf) .leaf))) (.seq none (.seq none .leaf (.block (.loop ⟨[0, 1, 3, 19], [(20, (.c (.i .i64)))], []⟩ (.seq none .leaf (.seq none (.cond .leaf .leaf) (.seq none (.block (.seq none .leaf (.seq none .leaf (.drawS [0, 1, 2, 3, 5, 6, 7, 8, 9, 10, 11, 4, 12, 13, 14] [])))) .leaf)))))) (.seq none .leaf .leaf))))
set_option maxRecDepth 100000 in
theorem ram_RAM_Store_den (f_ram_RAM_check : ram_RAM_check_T) (f_ram_RAM_own : ram_RAM_own_T) : ram_RAM_Store_W (ram_RAM_Store_G f_ram_RAM_check f_ram_RAM_own) = curS [.c .p, .c (.i .u64), .c (.i .i64), .c (.i .u64)] EnR fun vs K Kp A => denFnA Tryz.prog (tabA [(90, enS [.c .p, .c (.i .u64), .c (.i .i64)] (ram_RAM_check_W f_ram_RAM_check)), (91, enS [.c .p, .c (.i .i64)] (ram_RAM_own_W f_ram_RAM_own))]) [] Tryz.f35 ram_RAM_Store_ann vs K (np false Kp) A := by kernel_rfl
set_option maxRecDepth 100000 in
theorem ram_RAM_Store_ok (hm : Tryz.prog.follows .mixedOrders = true) : EntryOK Tryz.prog 35 (upE (enS [.c .p, .c (.i .u64), .c (.i .i64), .c (.i .u64)] (ram_RAM_Store_W ram_RAM_Store_A))) := entA hm (callingA_cons (ram_RAM_check_ok hm) (callingA_cons (ram_RAM_own_ok hm) callingA_nil)) Tryz.call35 Tryz.func35 (by kernel_rfl) (by kernel_rfl) false (ram_RAM_Store_den ram_RAM_check_A ram_RAM_own_A)

def table_Purse_put_ann : AnnA := (.seq none .leaf (.seq none .leaf (.drawS [0, 2, 3, 5, 1, 4, 6] [])))
set_option maxRecDepth 100000 in
theorem table_Purse_put_den (f_pte_Pack : pte_Pack_T) (f_table_place : table_place_T) (f_ram_RAM_Store : ram_RAM_Store_T) : table_Purse_put_W (table_Purse_put_G f_pte_Pack f_table_place f_ram_RAM_Store) = curS [.agg [.p, .p, .p, (.i .i64)], .c (.i .i64), .c (.i .i64), .agg [.b, .b, .b, .b, .b, .b, .b, .b, (.i .i64)]] EnR fun vs K Kp A => denFnA Tryz.prog (tabA [(158, enS [.agg [.b, .b, .b, .b, .b, .b, .b, .b, (.i .i64)]] (pte_Pack_W f_pte_Pack)), (159, enS [.c (.i .i64), .c (.i .i64)] (table_place_W f_table_place)), (35, enS [.c .p, .c (.i .u64), .c (.i .i64), .c (.i .u64)] (ram_RAM_Store_W f_ram_RAM_Store))]) [4, 7] Tryz.f102 table_Purse_put_ann vs K (np false Kp) A := by kernel_rfl
set_option maxRecDepth 100000 in
theorem table_Purse_put_ok (hm : Tryz.prog.follows .mixedOrders = true) : EntryOK Tryz.prog 102 (upE (enS [.agg [.p, .p, .p, (.i .i64)], .c (.i .i64), .c (.i .i64), .agg [.b, .b, .b, .b, .b, .b, .b, .b, (.i .i64)]] (table_Purse_put_W table_Purse_put_A))) := entA hm (callingA_cons (pte_Pack_ok hm) (callingA_cons (table_place_ok hm) (callingA_cons (ram_RAM_Store_ok hm) callingA_nil))) Tryz.call102 Tryz.func102 (by kernel_rfl) (by kernel_rfl) false (table_Purse_put_den pte_Pack_A table_place_A ram_RAM_Store_A)

def table_Kernel_ann : AnnA := (.seq none .leaf (.seq none .leaf (.seq none (.seq none .leaf (.cond (.seq none .leaf .leaf) .leaf)) (.seq none .leaf (.seq none (.seq none .leaf (.block (.loop ⟨[1, 4], [(6, (.c .s)), (7, (.c (.i .i64)))], []⟩ (.seq none (.seq none .leaf (.cond .leaf .leaf)) (.seq none (.block (.seq none .leaf (.seq none (.seq none .leaf (.cond (.seq none (.seq none .leaf (.block (.loop ⟨[1, 9, 37, 38], [(39, (.c (.i .i64)))], []⟩ (.seq none .leaf (.seq none (.cond .leaf .leaf) (.seq none (.block (.seq none .leaf .leaf)) .leaf)))))) (.seq none .leaf .leaf)) .leaf)) (.seq none .leaf (.seq none .leaf (.seq none .leaf (.block (.loop ⟨[1, 4, 6, 7, 8], [(12, (.c (.i .i64)))], []⟩ (.seq none (.seq none .leaf (.cond .leaf .leaf)) (.seq none (.block .leaf) .leaf)))))))))) .leaf))))) (.seq none .leaf .leaf))))))
set_option maxRecDepth 100000 in
theorem table_Kernel_den (f_table_Purse_Take : table_Purse_Take_T) (f_ram_RAM_Frames : ram_RAM_Frames_T) (f_table_Purse_Give : table_Purse_Give_T) (f_table_Purse_put : table_Purse_put_T) : table_Kernel_W (table_Kernel_G f_table_Purse_Take f_ram_RAM_Frames f_table_Purse_Give f_table_Purse_put) = curS [.agg [.p, .p, .p, (.i .i64)]] EnR fun vs K Kp A => denFnA Tryz.prog (tabA [(53, enS [.agg [.p, .p, .p, (.i .i64)]] (table_Purse_Take_W f_table_Purse_Take)), (132, enS [.c .p] (ram_RAM_Frames_W f_ram_RAM_Frames)), (55, enS [.agg [.p, .p, .p, (.i .i64)], .c (.i .i64)] (table_Purse_Give_W f_table_Purse_Give)), (102, enS [.agg [.p, .p, .p, (.i .i64)], .c (.i .i64), .c (.i .i64), .agg [.b, .b, .b, .b, .b, .b, .b, .b, (.i .i64)]] (table_Purse_put_W f_table_Purse_put))]) [1] Tryz.f69 table_Kernel_ann vs K (np false Kp) A := by kernel_rfl
set_option maxRecDepth 100000 in
theorem table_Kernel_ok (hm : Tryz.prog.follows .mixedOrders = true) : EntryOK Tryz.prog 69 (upE (enS [.agg [.p, .p, .p, (.i .i64)]] (table_Kernel_W table_Kernel_A))) := entA hm (callingA_cons (table_Purse_Take_ok hm) (callingA_cons (ram_RAM_Frames_ok hm) (callingA_cons (table_Purse_Give_ok hm) (callingA_cons (table_Purse_put_ok hm) callingA_nil)))) Tryz.call69 Tryz.func69 (by kernel_rfl) (by kernel_rfl) false (table_Kernel_den table_Purse_Take_A ram_RAM_Frames_A table_Purse_Give_A table_Purse_put_A)

def space_Boot_ann : AnnA := (.seq none .leaf (.seq none .leaf (.seq none (.seq none .leaf (.cond (.seq none .leaf .leaf) .leaf)) (.seq none .leaf (.seq none (.seq none .leaf (.cond (.seq none .leaf .leaf) .leaf)) (.seq none .leaf (.seq none .leaf (.seq none (.seq none .leaf (.seq none .leaf (.cond (.seq none .leaf .leaf) .leaf))) (.seq none .leaf (.seq none (.seq none .leaf (.seq none .leaf (.cond (.seq none .leaf .leaf) .leaf))) (.seq none .leaf .leaf)))))))))))
set_option maxRecDepth 100000 in
theorem space_Boot_den (f_bootmap_Frames : bootmap_Frames_T) (f_pcid_New : pcid_New_T) (f_ram_New : ram_New_T) (f_buddy_New : buddy_New_T) (f_buddy_Buddy_Free : buddy_Buddy_Free_T) (f_quota_New : quota_New_T) (f_space_Machine_purse : space_Machine_purse_T) (f_table_Kernel : table_Kernel_T) : space_Boot_W (space_Boot_G f_bootmap_Frames f_pcid_New f_ram_New f_buddy_New f_buddy_Buddy_Free f_quota_New f_space_Machine_purse f_table_Kernel) = curS [.agg [(.i .i64), (.i .i64), (.i .i64), (.i .i64), .s]] EnR fun vs K Kp A => denFnA Tryz.prog (tabA [(65, enS [.c .s, .c (.i .i64), .agg [(.i .i64), (.i .i64)]] (bootmap_Frames_W f_bootmap_Frames)), (12, enS [.c (.i .i64)] (pcid_New_W f_pcid_New)), (66, enS [.c (.i .i64), .c .s] (ram_New_W f_ram_New)), (67, enS [.c .s] (buddy_New_W f_buddy_New)), (18, enS [.c .p] (buddy_Buddy_Free_W f_buddy_Buddy_Free)), (68, enS [.c (.i .i64)] (quota_New_W f_quota_New)), (47, enS [.c .p, .c (.i .i64)] (space_Machine_purse_W f_space_Machine_purse)), (69, enS [.agg [.p, .p, .p, (.i .i64)]] (table_Kernel_W f_table_Kernel))]) [1] Tryz.f29 space_Boot_ann vs K (np false Kp) A := by kernel_rfl
set_option maxRecDepth 100000 in
theorem space_Boot_ok (hm : Tryz.prog.follows .mixedOrders = true) : EntryOK Tryz.prog 29 (upE (enS [.agg [(.i .i64), (.i .i64), (.i .i64), (.i .i64), .s]] (space_Boot_W space_Boot_A))) := entA hm (callingA_cons (bootmap_Frames_ok hm) (callingA_cons (pcid_New_ok hm) (callingA_cons (ram_New_ok hm) (callingA_cons (buddy_New_ok hm) (callingA_cons (buddy_Buddy_Free_ok hm) (callingA_cons (quota_New_ok hm) (callingA_cons (space_Machine_purse_ok hm) (callingA_cons (table_Kernel_ok hm) callingA_nil)))))))) Tryz.call29 Tryz.func29 (by kernel_rfl) (by kernel_rfl) false (space_Boot_den bootmap_Frames_A pcid_New_A ram_New_A buddy_New_A buddy_Buddy_Free_A quota_New_A space_Machine_purse_A table_Kernel_A)

def demesnelaw12_Begin_ann : AnnA := (.seq none .leaf (.seq none .leaf (.seq none .leaf .leaf)))
set_option maxRecDepth 100000 in
theorem demesnelaw12_Begin_den (f_demesnelaw12_Plain : demesnelaw12_Plain_T) (f_space_Boot : space_Boot_T) : demesnelaw12_Begin_W (demesnelaw12_Begin_G f_demesnelaw12_Plain f_space_Boot) = curS [.c (.i .i64), .c (.i .i64)] EnR fun vs K Kp A => denFnA Tryz.prog (tabA [(41, enS [.c (.i .i64), .c (.i .i64)] (demesnelaw12_Plain_W f_demesnelaw12_Plain)), (29, enS [.agg [(.i .i64), (.i .i64), (.i .i64), (.i .i64), .s]] (space_Boot_W f_space_Boot))]) [5] Tryz.f11 demesnelaw12_Begin_ann vs K (np false Kp) A := by kernel_rfl
set_option maxRecDepth 100000 in
theorem demesnelaw12_Begin_ok (hm : Tryz.prog.follows .mixedOrders = true) : EntryOK Tryz.prog 11 (upE (enS [.c (.i .i64), .c (.i .i64)] (demesnelaw12_Begin_W demesnelaw12_Begin_A))) := entA hm (callingA_cons (demesnelaw12_Plain_ok hm) (callingA_cons (space_Boot_ok hm) callingA_nil)) Tryz.call11 Tryz.func11 (by kernel_rfl) (by kernel_rfl) false (demesnelaw12_Begin_den demesnelaw12_Plain_A space_Boot_A)

def table_Root_ann : AnnA := (.seq none .leaf (.seq none .leaf (.seq none (.seq none .leaf (.cond (.seq none .leaf .leaf) .leaf)) (.seq none .leaf (.seq none .leaf .leaf)))))
set_option maxRecDepth 100000 in
theorem table_Root_den (f_table_Purse_Take : table_Purse_Take_T) (f_table_Purse_put : table_Purse_put_T) : table_Root_W (table_Root_G f_table_Purse_Take f_table_Purse_put) = curS [.agg [.p, .p, .p, (.i .i64)], .c (.i .i64)] EnR fun vs K Kp A => denFnA Tryz.prog (tabA [(53, enS [.agg [.p, .p, .p, (.i .i64)]] (table_Purse_Take_W f_table_Purse_Take)), (102, enS [.agg [.p, .p, .p, (.i .i64)], .c (.i .i64), .c (.i .i64), .agg [.b, .b, .b, .b, .b, .b, .b, .b, (.i .i64)]] (table_Purse_put_W f_table_Purse_put))]) [2] Tryz.f46 table_Root_ann vs K (np false Kp) A := by kernel_rfl
set_option maxRecDepth 100000 in
theorem table_Root_ok (hm : Tryz.prog.follows .mixedOrders = true) : EntryOK Tryz.prog 46 (upE (enS [.agg [.p, .p, .p, (.i .i64)], .c (.i .i64)] (table_Root_W table_Root_A))) := entA hm (callingA_cons (table_Purse_Take_ok hm) (callingA_cons (table_Purse_put_ok hm) callingA_nil)) Tryz.call46 Tryz.func46 (by kernel_rfl) (by kernel_rfl) false (table_Root_den table_Purse_Take_A table_Purse_put_A)

def space_Machine_Open_ann : AnnA := (.seq none .leaf (.seq none (.seq none .leaf (.cond (.seq none .leaf .leaf) .leaf)) (.seq none (.seq none .leaf (.cond (.seq none .leaf .leaf) .leaf)) (.seq none (.drawS [0, 1, 3, 4, 5, 6, 2, 7, 8, 9, 10, 11, 12] []) (.seq none (.seq none .leaf (.cond (.seq none .leaf .leaf) .leaf)) (.seq none .leaf (.seq none .leaf .leaf)))))))
set_option maxRecDepth 100000 in
theorem space_Machine_Open_den (f_space_Machine_purse : space_Machine_purse_T) (f_table_Root : table_Root_T) : space_Machine_Open_W (space_Machine_Open_G f_space_Machine_purse f_table_Root) = curS [.c .p, .c (.i .i64), .c (.i .i64)] EnR fun vs K Kp A => denFnA Tryz.prog (tabA [(47, enS [.c .p, .c (.i .i64)] (space_Machine_purse_W f_space_Machine_purse)), (46, enS [.agg [.p, .p, .p, (.i .i64)], .c (.i .i64)] (table_Root_W f_table_Root))]) [] Tryz.f17 space_Machine_Open_ann vs K (np false Kp) A := by kernel_rfl
set_option maxRecDepth 100000 in
theorem space_Machine_Open_ok (hm : Tryz.prog.follows .mixedOrders = true) : EntryOK Tryz.prog 17 (upE (enS [.c .p, .c (.i .i64), .c (.i .i64)] (space_Machine_Open_W space_Machine_Open_A))) := entA hm (callingA_cons (space_Machine_purse_ok hm) (callingA_cons (table_Root_ok hm) callingA_nil)) Tryz.call17 Tryz.func17 (by kernel_rfl) (by kernel_rfl) false (space_Machine_Open_den space_Machine_purse_A table_Root_A)

def region_right_ann : AnnA := (.seq none .leaf (.seq none .leaf .leaf))
set_option maxRecDepth 100000 in
theorem region_right_den : region_right_W (region_right_A) = curS [.agg [(.i .i64), (.i .i64)]] EnR fun vs K Kp A => denFnA Tryz.prog (tabA []) [1] Tryz.f103 region_right_ann vs K (np false Kp) A := by kernel_rfl
set_option maxRecDepth 100000 in
theorem region_right_ok (hm : Tryz.prog.follows .mixedOrders = true) : EntryOK Tryz.prog 103 (upE (enS [.agg [(.i .i64), (.i .i64)]] (region_right_W region_right_A))) := entA hm callingA_nil Tryz.call103 Tryz.func103 (by kernel_rfl) (by kernel_rfl) false region_right_den

def region_joins_ann : AnnA := (.seq none .leaf (.seq none .leaf .leaf))
set_option maxRecDepth 100000 in
theorem region_joins_den : region_joins_W (region_joins_A) = curS [.agg [(.i .i64), (.i .i64), .b, .b, .b, (.i .i64)], .agg [(.i .i64), (.i .i64), .b, .b, .b, (.i .i64)]] EnR fun vs K Kp A => denFnA Tryz.prog (tabA []) [2, 3] Tryz.f160 region_joins_ann vs K (np false Kp) A := by kernel_rfl
set_option maxRecDepth 100000 in
theorem region_joins_ok (hm : Tryz.prog.follows .mixedOrders = true) : EntryOK Tryz.prog 160 (upE (enS [.agg [(.i .i64), (.i .i64), .b, .b, .b, (.i .i64)], .agg [(.i .i64), (.i .i64), .b, .b, .b, (.i .i64)]] (region_joins_W region_joins_A))) := entA hm callingA_nil Tryz.call160 Tryz.func160 (by kernel_rfl) (by kernel_rfl) false region_joins_den

def region_Good_ann : AnnA := (.seq none .leaf (.seq none (.seq none .leaf (.cond (.seq none .leaf .leaf) .leaf)) (.seq none (.seq none .leaf (.block (.loop ⟨[0, 8, 9], [(10, (.c (.i .i64)))], []⟩ (.seq none .leaf (.seq none (.cond .leaf .leaf) (.seq none (.block (.seq none .leaf (.seq none (.seq none .leaf (.cond (.seq none .leaf .leaf) .leaf)) (.seq none (.draw 21) (.cond (.seq none .leaf .leaf) .leaf))))) .leaf)))))) (.seq none .leaf .leaf))))
set_option maxRecDepth 100000 in
theorem region_Good_den (f_region_joins : region_joins_T) : region_Good_W (region_Good_G f_region_joins) = curS [.c .s] EnR fun vs K Kp A => denFnA Tryz.prog (tabA [(160, enS [.agg [(.i .i64), (.i .i64), .b, .b, .b, (.i .i64)], .agg [(.i .i64), (.i .i64), .b, .b, .b, (.i .i64)]] (region_joins_W f_region_joins))]) [4] Tryz.f104 region_Good_ann vs K (np false Kp) A := by kernel_rfl
set_option maxRecDepth 100000 in
theorem region_Good_ok (hm : Tryz.prog.follows .mixedOrders = true) : EntryOK Tryz.prog 104 (upE (enS [.c .s] (region_Good_W region_Good_A))) := entA hm (callingA_cons (region_joins_ok hm) callingA_nil) Tryz.call104 Tryz.func104 (by kernel_rfl) (by kernel_rfl) false (region_Good_den region_joins_A)

def slices_Clone_region_List_region_Region_ann : AnnA := (.seq none .leaf (.seq none (.seq none .leaf (.cond (.seq none .leaf .leaf) .leaf)) (.seq none .leaf .leaf)))
set_option maxRecDepth 100000 in
theorem slices_Clone_region_List_region_Region_den : slices_Clone_region_List_region_Region_W (slices_Clone_region_List_region_Region_A) = curS [.c .s] EnR fun vs K Kp A => denFnA Tryz.prog (tabA []) [] Tryz.f60 slices_Clone_region_List_region_Region_ann vs K (np false Kp) A := by kernel_rfl
set_option maxRecDepth 100000 in
theorem slices_Clone_region_List_region_Region_ok (hm : Tryz.prog.follows .mixedOrders = true) : EntryOK Tryz.prog 60 (upE (enS [.c .s] (slices_Clone_region_List_region_Region_W slices_Clone_region_List_region_Region_A))) := entA hm callingA_nil Tryz.call60 Tryz.func60 (by kernel_rfl) (by kernel_rfl) false slices_Clone_region_List_region_Region_den

theorem slices_overlaps_region_Region_ok (_hm : Tryz.prog.follows .mixedOrders = true) : AtOnce Tryz.prog 161 (upE (enS [.c .s, .c .s] (slices_overlaps_region_Region_W slices_overlaps_region_Region_A))) := overlaps_ok (tS := 65) (tR := 4) Tryz.func161 (by kernel_rfl) (by kernel_rfl) (by kernel_rfl) (by kernel_rfl) Tryz.underlying65 (by kernel_rfl)

def slices_Reverse_region_Region_region_Region_ann : AnnA := (.seq none .leaf (.block (.loop ⟨[0], [(2, (.c (.i .i64))), (3, (.c (.i .i64)))], []⟩ (.seq none (.seq none .leaf (.cond .leaf .leaf)) (.seq none (.block (.drawS [0, 1, 2, 3, 4, 5, 6, 8, 9, 10, 7, 11, 12, 13, 14, 15] [])) .leaf)))))
set_option maxRecDepth 100000 in
theorem slices_Reverse_region_Region_region_Region_den : slices_Reverse_region_Region_region_Region_W (slices_Reverse_region_Region_region_Region_A) = curS [.c .s] EnR fun vs K Kp A => denFnA Tryz.prog (tabA []) [] Tryz.f210 slices_Reverse_region_Region_region_Region_ann vs K (np false Kp) A := by kernel_rfl
set_option maxRecDepth 100000 in
theorem slices_Reverse_region_Region_region_Region_ok (hm : Tryz.prog.follows .mixedOrders = true) : EntryOK Tryz.prog 210 (upE (enS [.c .s] (slices_Reverse_region_Region_region_Region_W slices_Reverse_region_Region_region_Region_A))) := entA hm callingA_nil Tryz.call210 Tryz.func210 (by kernel_rfl) (by kernel_rfl) false slices_Reverse_region_Region_region_Region_den

def slices_rotateLeft_region_Region_ann : AnnA := (.seq none .leaf (.seq none .leaf .leaf))
set_option maxRecDepth 100000 in
theorem slices_rotateLeft_region_Region_den (f_slices_Reverse_region_Region_region_Region : slices_Reverse_region_Region_region_Region_T) : slices_rotateLeft_region_Region_W (slices_rotateLeft_region_Region_G f_slices_Reverse_region_Region_region_Region) = curS [.c .s, .c (.i .i64)] EnR fun vs K Kp A => denFnA Tryz.prog (tabA [(210, enS [.c .s] (slices_Reverse_region_Region_region_Region_W f_slices_Reverse_region_Region_region_Region))]) [] Tryz.f189 slices_rotateLeft_region_Region_ann vs K (np false Kp) A := by kernel_rfl
set_option maxRecDepth 100000 in
theorem slices_rotateLeft_region_Region_ok (hm : Tryz.prog.follows .mixedOrders = true) : EntryOK Tryz.prog 189 (upE (enS [.c .s, .c (.i .i64)] (slices_rotateLeft_region_Region_W slices_rotateLeft_region_Region_A))) := entA hm (callingA_cons (slices_Reverse_region_Region_region_Region_ok hm) callingA_nil) Tryz.call189 Tryz.func189 (by kernel_rfl) (by kernel_rfl) false (slices_rotateLeft_region_Region_den slices_Reverse_region_Region_region_Region_A)

def slices_rotateRight_region_Region_ann : AnnA := .leaf
set_option maxRecDepth 100000 in
theorem slices_rotateRight_region_Region_den (f_slices_rotateLeft_region_Region : slices_rotateLeft_region_Region_T) : slices_rotateRight_region_Region_W (slices_rotateRight_region_Region_G f_slices_rotateLeft_region_Region) = curS [.c .s, .c (.i .i64)] EnR fun vs K Kp A => denFnA Tryz.prog (tabA [(189, enS [.c .s, .c (.i .i64)] (slices_rotateLeft_region_Region_W f_slices_rotateLeft_region_Region))]) [] Tryz.f162 slices_rotateRight_region_Region_ann vs K (np false Kp) A := by kernel_rfl
set_option maxRecDepth 100000 in
theorem slices_rotateRight_region_Region_ok (hm : Tryz.prog.follows .mixedOrders = true) : EntryOK Tryz.prog 162 (upE (enS [.c .s, .c (.i .i64)] (slices_rotateRight_region_Region_W slices_rotateRight_region_Region_A))) := entA hm (callingA_cons (slices_rotateLeft_region_Region_ok hm) callingA_nil) Tryz.call162 Tryz.func162 (by kernel_rfl) (by kernel_rfl) false (slices_rotateRight_region_Region_den slices_rotateLeft_region_Region_A)

def slices_Insert_region_List_region_Region_ann : AnnA := (.seq none .leaf (.seq none .leaf (.seq none .leaf (.seq none (.seq none .leaf (.cond (.seq none .leaf .leaf) .leaf)) (.seq none .leaf (.seq none (.seq none .leaf (.cond (.seq none .leaf .leaf) .leaf)) (.seq none (.seq none .leaf (.cond (.seq none .leaf (.seq none .leaf (.seq none (.draw 8) (.seq none .leaf .leaf)))) .leaf)) (.seq none .leaf (.seq none (.seq none .leaf (.cond (.seq none (.draw 8) (.seq none .leaf (.seq none .leaf .leaf))) .leaf)) (.seq none .leaf (.seq none .leaf (.seq none .leaf .leaf))))))))))))
set_option maxRecDepth 100000 in
theorem slices_Insert_region_List_region_Region_den (f_slices_overlaps_region_Region : slices_overlaps_region_Region_T) (f_slices_rotateRight_region_Region : slices_rotateRight_region_Region_T) : slices_Insert_region_List_region_Region_W (slices_Insert_region_List_region_Region_G f_slices_overlaps_region_Region f_slices_rotateRight_region_Region) = curS [.c .s, .c (.i .i64), .c .s] EnR fun vs K Kp A => denFnA Tryz.prog (tabA [(161, enS [.c .s, .c .s] (slices_overlaps_region_Region_W f_slices_overlaps_region_Region)), (162, enS [.c .s, .c (.i .i64)] (slices_rotateRight_region_Region_W f_slices_rotateRight_region_Region))]) [] Tryz.f107 slices_Insert_region_List_region_Region_ann vs K (np false Kp) A := by kernel_rfl
set_option maxRecDepth 100000 in
theorem slices_Insert_region_List_region_Region_ok (hm : Tryz.prog.follows .mixedOrders = true) : EntryOK Tryz.prog 107 (upE (enS [.c .s, .c (.i .i64), .c .s] (slices_Insert_region_List_region_Region_W slices_Insert_region_List_region_Region_A))) := entA hm (callingA_at (slices_overlaps_region_Region_ok hm) (callingA_cons (slices_rotateRight_region_Region_ok hm) callingA_nil)) Tryz.call107 Tryz.func107 (by kernel_rfl) (by kernel_rfl) false (slices_Insert_region_List_region_Region_den slices_overlaps_region_Region_A slices_rotateRight_region_Region_A)

def region_merged_ann : AnnA := (.seq none .leaf (.seq none .leaf (.seq none (.seq none .leaf (.block (.loop ⟨[7, 8], [(3, (.c .s)), (9, (.c (.i .i64)))], []⟩ (.seq none .leaf (.seq none (.cond .leaf .leaf) (.seq (some ⟨[7, 8, 9], [(3, (.c .s))], []⟩) (.block (.seq none .leaf (.seq none (.seq none .leaf (.seq none (.draw 9) (.cond (.seq none .leaf .leaf) .leaf))) .leaf))) .leaf)))))) (.seq none .leaf .leaf))))
set_option maxRecDepth 100000 in
theorem region_merged_den (f_region_joins : region_joins_T) : region_merged_W (region_merged_G f_region_joins) = curS [.c .s] EnR fun vs K Kp A => denFnA Tryz.prog (tabA [(160, enS [.agg [(.i .i64), (.i .i64), .b, .b, .b, (.i .i64)], .agg [(.i .i64), (.i .i64), .b, .b, .b, (.i .i64)]] (region_joins_W f_region_joins))]) [5] Tryz.f106 region_merged_ann vs K (np false Kp) A := by kernel_rfl
set_option maxRecDepth 100000 in
theorem region_merged_ok (hm : Tryz.prog.follows .mixedOrders = true) : EntryOK Tryz.prog 106 (upE (enS [.c .s] (region_merged_W region_merged_A))) := entA hm (callingA_cons (region_joins_ok hm) callingA_nil) Tryz.call106 Tryz.func106 (by kernel_rfl) (by kernel_rfl) false (region_merged_den region_joins_A)

def region_fits_ann : AnnA := (.seq none .leaf (.seq none (.seq none .leaf (.cond (.seq none .leaf .leaf) .leaf)) (.seq none .leaf .leaf)))
set_option maxRecDepth 100000 in
theorem region_fits_den : region_fits_W (region_fits_A) = curS [.c .s] EnR fun vs K Kp A => denFnA Tryz.prog (tabA []) [] Tryz.f105 region_fits_ann vs K (np false Kp) A := by kernel_rfl
set_option maxRecDepth 100000 in
theorem region_fits_ok (hm : Tryz.prog.follows .mixedOrders = true) : EntryOK Tryz.prog 105 (upE (enS [.c .s] (region_fits_W region_fits_A))) := entA hm callingA_nil Tryz.call105 Tryz.func105 (by kernel_rfl) (by kernel_rfl) false region_fits_den

def region_Add_ann : AnnA := (.seq none .leaf (.seq none (.seq none .leaf (.cond (.seq none .leaf .leaf) .leaf)) (.seq none (.seq none .leaf (.cond (.seq none .leaf .leaf) .leaf)) (.seq none .leaf (.seq none (.seq none .leaf (.block (.loop ⟨[0, 3, 16, 17], [(6, (.c (.i .i64))), (18, (.c (.i .i64)))], []⟩ (.seq none .leaf (.seq none (.cond .leaf .leaf) (.seq (some ⟨[0, 3, 16, 17, 18], [(6, (.c (.i .i64)))], []⟩) (.block (.seq none .leaf (.block (.seq none .leaf (.cond .leaf (.seq none .leaf (.cond (.seq none .leaf .leaf) .leaf))))))) .leaf)))))) (.seq none (.drawS [0, 2, 3, 1, 4, 5, 6, 7, 8, 9, 10, 11] []) .leaf))))))
set_option maxRecDepth 100000 in
theorem region_Add_den (f_region_right : region_right_T) (f_region_Good : region_Good_T) (f_slices_Clone_region_List_region_Region : slices_Clone_region_List_region_Region_T) (f_slices_Insert_region_List_region_Region : slices_Insert_region_List_region_Region_T) (f_region_merged : region_merged_T) (f_region_fits : region_fits_T) : region_Add_W (region_Add_G f_region_right f_region_Good f_slices_Clone_region_List_region_Region f_slices_Insert_region_List_region_Region f_region_merged f_region_fits) = curS [.c .s, .agg [(.i .i64), (.i .i64), .b, .b, .b, (.i .i64)]] EnR fun vs K Kp A => denFnA Tryz.prog (tabA [(103, enS [.agg [(.i .i64), (.i .i64)]] (region_right_W f_region_right)), (104, enS [.c .s] (region_Good_W f_region_Good)), (60, enS [.c .s] (slices_Clone_region_List_region_Region_W f_slices_Clone_region_List_region_Region)), (107, enS [.c .s, .c (.i .i64), .c .s] (slices_Insert_region_List_region_Region_W f_slices_Insert_region_List_region_Region)), (106, enS [.c .s] (region_merged_W f_region_merged)), (105, enS [.c .s] (region_fits_W f_region_fits))]) [3, 8] Tryz.f48 region_Add_ann vs K (np false Kp) A := by kernel_rfl
set_option maxRecDepth 100000 in
theorem region_Add_ok (hm : Tryz.prog.follows .mixedOrders = true) : EntryOK Tryz.prog 48 (upE (enS [.c .s, .agg [(.i .i64), (.i .i64), .b, .b, .b, (.i .i64)]] (region_Add_W region_Add_A))) := entA hm (callingA_cons (region_right_ok hm) (callingA_cons (region_Good_ok hm) (callingA_cons (slices_Clone_region_List_region_Region_ok hm) (callingA_cons (slices_Insert_region_List_region_Region_ok hm) (callingA_cons (region_merged_ok hm) (callingA_cons (region_fits_ok hm) callingA_nil)))))) Tryz.call48 Tryz.func48 (by kernel_rfl) (by kernel_rfl) false (region_Add_den region_right_A region_Good_A slices_Clone_region_List_region_Region_A slices_Insert_region_List_region_Region_A region_merged_A region_fits_A)

def space_Machine_Map_ann : AnnA := (.seq none .leaf (.seq none .leaf (.seq none (.seq none .leaf (.cond (.seq none .leaf .leaf) .leaf)) (.seq none (.drawS [0, 1, 2, 3, 4, 5, 6, 7, 8, 9, 10, 11, 12] []) (.seq (some ⟨[11], [], []⟩) (.seq none .leaf (.cond .leaf .leaf)) (.seq none .leaf .leaf))))))
set_option maxRecDepth 100000 in
theorem space_Machine_Map_den (f_region_Add : region_Add_T) : space_Machine_Map_W (space_Machine_Map_G f_region_Add) = curS [.c .p, .c (.i .i64), .agg [(.i .i64), (.i .i64)], .agg [.b, .b, .b]] EnR fun vs K Kp A => denFnA Tryz.prog (tabA [(48, enS [.c .s, .agg [(.i .i64), (.i .i64), .b, .b, .b, (.i .i64)]] (region_Add_W f_region_Add))]) [6, 7] Tryz.f19 space_Machine_Map_ann vs K (np false Kp) A := by kernel_rfl
set_option maxRecDepth 100000 in
theorem space_Machine_Map_ok (hm : Tryz.prog.follows .mixedOrders = true) : EntryOK Tryz.prog 19 (upE (enS [.c .p, .c (.i .i64), .agg [(.i .i64), (.i .i64)], .agg [.b, .b, .b]] (space_Machine_Map_W space_Machine_Map_A))) := entA hm (callingA_cons (region_Add_ok hm) callingA_nil) Tryz.call19 Tryz.func19 (by kernel_rfl) (by kernel_rfl) false (space_Machine_Map_den region_Add_A)

def region_Find_ann : AnnA := (.seq none .leaf (.seq none (.seq none .leaf (.block (.loop ⟨[1, 4, 8, 9], [(10, (.c (.i .i64)))], [(4, (0, (.i .i64))), (4, (1, (.i .i64))), (4, (2, .b)), (4, (3, .b)), (4, (4, .b)), (4, (5, (.i .i64)))]⟩ (.seq none .leaf (.seq none (.cond .leaf .leaf) (.seq none (.block (.seq none .leaf (.seq none .leaf (.cond (.seq none .leaf .leaf) .leaf)))) .leaf)))))) (.seq none .leaf .leaf)))
set_option maxRecDepth 100000 in
theorem region_Find_den : region_Find_W (region_Find_A) = curS [.c .s, .c (.i .i64)] EnR fun vs K Kp A => denFnA Tryz.prog (tabA []) [4, 7] Tryz.f50 region_Find_ann vs K (np false Kp) A := by kernel_rfl
set_option maxRecDepth 100000 in
theorem region_Find_ok (hm : Tryz.prog.follows .mixedOrders = true) : EntryOK Tryz.prog 50 (upE (enS [.c .s, .c (.i .i64)] (region_Find_W region_Find_A))) := entA hm callingA_nil Tryz.call50 Tryz.func50 (by kernel_rfl) (by kernel_rfl) false region_Find_den

def pte_Split_ann : AnnA := (.seq none .leaf (.seq none .leaf (.seq none (.seq none .leaf (.block (.loop ⟨[0, 2, 4], [(6, (.c (.i .i64)))], []⟩ (.seq none .leaf (.seq none (.cond .leaf .leaf) (.seq none (.block (.seq none .leaf .leaf)) .leaf)))))) (.seq none .leaf .leaf))))
set_option maxRecDepth 100000 in
theorem pte_Split_den : pte_Split_W (pte_Split_A) = curS [.c (.i .u64)] EnR fun vs K Kp A => denFnA Tryz.prog (tabA []) [2] Tryz.f165 pte_Split_ann vs K (np false Kp) A := by kernel_rfl
set_option maxRecDepth 100000 in
theorem pte_Split_ok (hm : Tryz.prog.follows .mixedOrders = true) : EntryOK Tryz.prog 165 (upE (enS [.c (.i .u64)] (pte_Split_W pte_Split_A))) := entA hm callingA_nil Tryz.call165 Tryz.func165 (by kernel_rfl) (by kernel_rfl) false pte_Split_den

def table_path_ann : AnnA := (.seq none .leaf (.seq none .leaf (.seq none .leaf .leaf)))
set_option maxRecDepth 100000 in
theorem table_path_den (f_pte_Split : pte_Split_T) : table_path_W (table_path_G f_pte_Split) = curS [.c (.i .i64)] EnR fun vs K Kp A => denFnA Tryz.prog (tabA [(165, enS [.c (.i .u64)] (pte_Split_W f_pte_Split))]) [2, 3] Tryz.f112 table_path_ann vs K (np false Kp) A := by kernel_rfl
set_option maxRecDepth 100000 in
theorem table_path_ok (hm : Tryz.prog.follows .mixedOrders = true) : EntryOK Tryz.prog 112 (upE (enS [.c (.i .i64)] (table_path_W table_path_A))) := entA hm (callingA_cons (pte_Split_ok hm) callingA_nil) Tryz.call112 Tryz.func112 (by kernel_rfl) (by kernel_rfl) false (table_path_den pte_Split_A)

def ram_RAM_Load_ann : AnnA := (.seq none .leaf (.seq none (.seq none .leaf (.seq none .leaf (.cond (.seq none .leaf .leaf) .leaf))) (.seq none .leaf (.seq none (.seq none .leaf (.block (.loop ⟨[0, 1], [(9, (.c (.i .u64))), (10, (.c (.i .i64)))], []⟩ (.seq none (.seq none .leaf (.cond .leaf .leaf)) (.seq (some ⟨[0, 1, 10], [(9, (.c (.i .u64)))], []⟩) (.block (.seq none .leaf (.seq none .leaf (.seq none .leaf (.seq none .leaf (.cond .leaf .leaf)))))) .leaf))))) (.seq none .leaf .leaf)))))
set_option maxRecDepth 100000 in
theorem ram_RAM_Load_den (f_ram_RAM_check : ram_RAM_check_T) : ram_RAM_Load_W (ram_RAM_Load_G f_ram_RAM_check) = curS [.c .p, .c (.i .u64), .c (.i .i64)] EnR fun vs K Kp A => denFnA Tryz.prog (tabA [(90, enS [.c .p, .c (.i .u64), .c (.i .i64)] (ram_RAM_check_W f_ram_RAM_check))]) [] Tryz.f163 ram_RAM_Load_ann vs K (np false Kp) A := by kernel_rfl
set_option maxRecDepth 100000 in
theorem ram_RAM_Load_ok (hm : Tryz.prog.follows .mixedOrders = true) : EntryOK Tryz.prog 163 (upE (enS [.c .p, .c (.i .u64), .c (.i .i64)] (ram_RAM_Load_W ram_RAM_Load_A))) := entA hm (callingA_cons (ram_RAM_check_ok hm) callingA_nil) Tryz.call163 Tryz.func163 (by kernel_rfl) (by kernel_rfl) false (ram_RAM_Load_den ram_RAM_check_A)

def pte_Unpack_ann : AnnA := (.seq none .leaf (.seq none .leaf (.seq none (.seq none .leaf (.block (.loop ⟨[0, 2, 3, 11], [(12, (.c (.i .i64)))], []⟩ (.seq none .leaf (.seq none (.cond .leaf .leaf) (.seq none (.block (.seq none .leaf .leaf)) .leaf)))))) (.seq none .leaf .leaf))))
set_option maxRecDepth 100000 in
theorem pte_Unpack_den (f_pte_Entry_flags : pte_Entry_flags_T) (f_pte_places : pte_places_T) : pte_Unpack_W (pte_Unpack_G f_pte_Entry_flags f_pte_places) = curS [.c (.i .u64)] EnR fun vs K Kp A => denFnA Tryz.prog (tabA [(187, enS [.c .p] (pte_Entry_flags_W f_pte_Entry_flags)), (188, enS [] (pte_places_W f_pte_places))]) [2] Tryz.f164 pte_Unpack_ann vs K (np false Kp) A := by kernel_rfl
set_option maxRecDepth 100000 in
theorem pte_Unpack_ok (hm : Tryz.prog.follows .mixedOrders = true) : EntryOK Tryz.prog 164 (upE (enS [.c (.i .u64)] (pte_Unpack_W pte_Unpack_A))) := entA hm (callingA_cons (pte_Entry_flags_ok hm) (callingA_cons (pte_places_ok hm) callingA_nil)) Tryz.call164 Tryz.func164 (by kernel_rfl) (by kernel_rfl) false (pte_Unpack_den pte_Entry_flags_A pte_places_A)

def table_Purse_get_ann : AnnA := (.seq none .leaf (.seq none (.drawS [0, 2, 3, 1, 4, 5, 6, 7, 8, 9, 10] []) (.seq none .leaf .leaf)))
set_option maxRecDepth 100000 in
theorem table_Purse_get_den (f_table_place : table_place_T) (f_ram_RAM_Load : ram_RAM_Load_T) (f_pte_Unpack : pte_Unpack_T) : table_Purse_get_W (table_Purse_get_G f_table_place f_ram_RAM_Load f_pte_Unpack) = curS [.agg [.p, .p, .p, (.i .i64)], .c (.i .i64), .c (.i .i64)] EnR fun vs K Kp A => denFnA Tryz.prog (tabA [(159, enS [.c (.i .i64), .c (.i .i64)] (table_place_W f_table_place)), (163, enS [.c .p, .c (.i .u64), .c (.i .i64)] (ram_RAM_Load_W f_ram_RAM_Load)), (164, enS [.c (.i .u64)] (pte_Unpack_W f_pte_Unpack))]) [3, 6] Tryz.f111 table_Purse_get_ann vs K (np false Kp) A := by kernel_rfl
set_option maxRecDepth 100000 in
theorem table_Purse_get_ok (hm : Tryz.prog.follows .mixedOrders = true) : EntryOK Tryz.prog 111 (upE (enS [.agg [.p, .p, .p, (.i .i64)], .c (.i .i64), .c (.i .i64)] (table_Purse_get_W table_Purse_get_A))) := entA hm (callingA_cons (table_place_ok hm) (callingA_cons (ram_RAM_Load_ok hm) (callingA_cons (pte_Unpack_ok hm) callingA_nil))) Tryz.call111 Tryz.func111 (by kernel_rfl) (by kernel_rfl) false (table_Purse_get_den table_place_A ram_RAM_Load_A pte_Unpack_A)

def table_Purse_down_ann : AnnA := (.seq none .leaf (.seq none .leaf (.seq none .leaf (.seq (some ⟨[], [(8, (.c .s))], []⟩) (.seq none .leaf (.block (.loop ⟨[3, 7], [(8, (.c .s)), (15, (.c (.i .i64)))], []⟩ (.seq none .leaf (.seq none (.cond .leaf .leaf) (.seq none (.block (.seq none .leaf (.seq none (.drawS [1, 2, 3, 5, 6, 0, 4, 7, 8, 9, 10] [9]) (.seq none (.seq none .leaf (.cond .leaf .leaf)) .leaf)))) .leaf)))))) (.seq none .leaf .leaf)))))
set_option maxRecDepth 100000 in
theorem table_Purse_down_den (f_table_path : table_path_T) (f_table_Purse_get : table_Purse_get_T) : table_Purse_down_W (table_Purse_down_G f_table_path f_table_Purse_get) = curS [.agg [.p, .p, .p, (.i .i64)], .c (.i .i64), .c (.i .i64)] EnR fun vs K Kp A => denFnA Tryz.prog (tabA [(112, enS [.c (.i .i64)] (table_path_W f_table_path)), (111, enS [.agg [.p, .p, .p, (.i .i64)], .c (.i .i64), .c (.i .i64)] (table_Purse_get_W f_table_Purse_get))]) [3, 10] Tryz.f110 table_Purse_down_ann vs K (np false Kp) A := by kernel_rfl
set_option maxRecDepth 100000 in
theorem table_Purse_down_ok (hm : Tryz.prog.follows .mixedOrders = true) : EntryOK Tryz.prog 110 (upE (enS [.agg [.p, .p, .p, (.i .i64)], .c (.i .i64), .c (.i .i64)] (table_Purse_down_W table_Purse_down_A))) := entA hm (callingA_cons (table_path_ok hm) (callingA_cons (table_Purse_get_ok hm) callingA_nil)) Tryz.call110 Tryz.func110 (by kernel_rfl) (by kernel_rfl) false (table_Purse_down_den table_path_A table_Purse_get_A)

def table_Query_ann : AnnA := (.seq none .leaf (.seq (some ⟨[1, 2, 3, 7], [], [(7, (0, .b)), (7, (1, .b)), (7, (2, .b))]⟩) (.seq none .leaf (.cond (.seq none .leaf .leaf) .leaf)) (.seq none .leaf (.seq none (.seq none .leaf (.cond (.seq none .leaf .leaf) .leaf)) (.seq none (.drawS [1, 2, 4, 0, 3, 5, 6, 7, 8, 9] [8]) (.seq none (.seq none .leaf (.cond (.seq none .leaf .leaf) .leaf)) (.seq none (.draw 11) .leaf)))))))
set_option maxRecDepth 100000 in
theorem table_Query_den (f_table_Purse_down : table_Purse_down_T) (f_table_path : table_path_T) (f_table_Purse_get : table_Purse_get_T) : table_Query_W (table_Query_G f_table_Purse_down f_table_path f_table_Purse_get) = curS [.agg [.p, .p, .p, (.i .i64)], .c (.i .i64), .c (.i .i64)] EnR fun vs K Kp A => denFnA Tryz.prog (tabA [(110, enS [.agg [.p, .p, .p, (.i .i64)], .c (.i .i64), .c (.i .i64)] (table_Purse_down_W f_table_Purse_down)), (112, enS [.c (.i .i64)] (table_path_W f_table_path)), (111, enS [.agg [.p, .p, .p, (.i .i64)], .c (.i .i64), .c (.i .i64)] (table_Purse_get_W f_table_Purse_get))]) [3, 7, 10] Tryz.f51 table_Query_ann vs K (np false Kp) A := by kernel_rfl
set_option maxRecDepth 100000 in
theorem table_Query_ok (hm : Tryz.prog.follows .mixedOrders = true) : EntryOK Tryz.prog 51 (upE (enS [.agg [.p, .p, .p, (.i .i64)], .c (.i .i64), .c (.i .i64)] (table_Query_W table_Query_A))) := entA hm (callingA_cons (table_Purse_down_ok hm) (callingA_cons (table_path_ok hm) (callingA_cons (table_Purse_get_ok hm) callingA_nil))) Tryz.call51 Tryz.func51 (by kernel_rfl) (by kernel_rfl) false (table_Query_den table_Purse_down_A table_path_A table_Purse_get_A)

def walk_May_ann : AnnA := (.seq none .leaf (.seq none .leaf .leaf))
set_option maxRecDepth 100000 in
theorem walk_May_den : walk_May_W (walk_May_A) = curS [.agg [.b, .b, .b], .agg [.b, .b, .b]] EnR fun vs K Kp A => denFnA Tryz.prog (tabA []) [2, 3] Tryz.f52 walk_May_ann vs K (np false Kp) A := by kernel_rfl
set_option maxRecDepth 100000 in
theorem walk_May_ok (hm : Tryz.prog.follows .mixedOrders = true) : EntryOK Tryz.prog 52 (upE (enS [.agg [.b, .b, .b], .agg [.b, .b, .b]] (walk_May_W walk_May_A))) := entA hm callingA_nil Tryz.call52 Tryz.func52 (by kernel_rfl) (by kernel_rfl) false walk_May_den

def table_leaf_ann : AnnA := (.seq none .leaf (.seq none .leaf .leaf))
set_option maxRecDepth 100000 in
theorem table_leaf_den : table_leaf_W (table_leaf_A) = curS [.c (.i .i64), .agg [.b, .b, .b]] EnR fun vs K Kp A => denFnA Tryz.prog (tabA []) [3, 4] Tryz.f118 table_leaf_ann vs K (np false Kp) A := by kernel_rfl
set_option maxRecDepth 100000 in
theorem table_leaf_ok (hm : Tryz.prog.follows .mixedOrders = true) : EntryOK Tryz.prog 118 (upE (enS [.c (.i .i64), .agg [.b, .b, .b]] (table_leaf_W table_leaf_A))) := entA hm callingA_nil Tryz.call118 Tryz.func118 (by kernel_rfl) (by kernel_rfl) false table_leaf_den

def table_Map_ann : AnnA := (.seq none .leaf (.seq (some ⟨[1, 2, 3, 5, 9], [], []⟩) (.seq none .leaf (.cond (.seq none .leaf .leaf) .leaf)) (.seq none (.drawS [0, 3, 4, 2, 1, 5, 6, 7, 8] [6]) (.seq (some ⟨[3, 5, 9, 11, 12], [], []⟩) (.seq none (.draw 10) (.cond (.seq none .leaf .leaf) .leaf)) (.seq none .leaf (.seq none (.seq none .leaf (.block (.loop ⟨[3, 5, 9, 11, 12, 56], [(13, (.c .s)), (57, (.c (.i .i64)))], []⟩ (.seq none .leaf (.seq none (.cond .leaf .leaf) (.seq none (.block (.seq none .leaf (.seq none (.seq none .leaf (.cond (.seq none (.seq none .leaf (.block (.loop ⟨[5, 15, 66, 67], [(68, (.c (.i .i64)))], []⟩ (.seq none .leaf (.seq none (.cond .leaf .leaf) (.seq none (.block (.seq none .leaf .leaf)) .leaf)))))) (.seq none .leaf .leaf)) .leaf)) .leaf))) .leaf)))))) (.seq none (.seq none .leaf (.block (.loop ⟨[3, 5, 9, 11, 82, 83], [(12, (.c .s)), (84, (.c (.i .i64)))], []⟩ (.seq none .leaf (.seq none (.cond .leaf .leaf) (.seq none (.block (.seq none .leaf (.seq none .leaf (.seq none (.draw 10) .leaf)))) .leaf)))))) (.seq none (.drawS [1, 2, 4, 6, 0, 3, 5, 7, 8, 9] []) (.seq none .leaf .leaf)))))))))
set_option maxRecDepth 100000 in
theorem table_Map_den (f_table_path : table_path_T) (f_table_Purse_down : table_Purse_down_T) (f_table_Purse_get : table_Purse_get_T) (f_table_Purse_Take : table_Purse_Take_T) (f_table_Purse_Give : table_Purse_Give_T) (f_table_Purse_put : table_Purse_put_T) (f_table_leaf : table_leaf_T) : table_Map_W (table_Map_G f_table_path f_table_Purse_down f_table_Purse_get f_table_Purse_Take f_table_Purse_Give f_table_Purse_put f_table_leaf) = curS [.agg [.p, .p, .p, (.i .i64)], .c (.i .i64), .c (.i .i64), .c (.i .i64), .agg [.b, .b, .b]] EnR fun vs K Kp A => denFnA Tryz.prog (tabA [(112, enS [.c (.i .i64)] (table_path_W f_table_path)), (110, enS [.agg [.p, .p, .p, (.i .i64)], .c (.i .i64), .c (.i .i64)] (table_Purse_down_W f_table_Purse_down)), (111, enS [.agg [.p, .p, .p, (.i .i64)], .c (.i .i64), .c (.i .i64)] (table_Purse_get_W f_table_Purse_get)), (53, enS [.agg [.p, .p, .p, (.i .i64)]] (table_Purse_Take_W f_table_Purse_Take)), (55, enS [.agg [.p, .p, .p, (.i .i64)], .c (.i .i64)] (table_Purse_Give_W f_table_Purse_Give)), (102, enS [.agg [.p, .p, .p, (.i .i64)], .c (.i .i64), .c (.i .i64), .agg [.b, .b, .b, .b, .b, .b, .b, .b, (.i .i64)]] (table_Purse_put_W f_table_Purse_put)), (118, enS [.c (.i .i64), .agg [.b, .b, .b]] (table_leaf_W f_table_leaf))]) [5, 9] Tryz.f54 table_Map_ann vs K (np false Kp) A := by kernel_rfl
set_option maxRecDepth 100000 in
theorem table_Map_ok (hm : Tryz.prog.follows .mixedOrders = true) : EntryOK Tryz.prog 54 (upE (enS [.agg [.p, .p, .p, (.i .i64)], .c (.i .i64), .c (.i .i64), .c (.i .i64), .agg [.b, .b, .b]] (table_Map_W table_Map_A))) := entA hm (callingA_cons (table_path_ok hm) (callingA_cons (table_Purse_down_ok hm) (callingA_cons (table_Purse_get_ok hm) (callingA_cons (table_Purse_Take_ok hm) (callingA_cons (table_Purse_Give_ok hm) (callingA_cons (table_Purse_put_ok hm) (callingA_cons (table_leaf_ok hm) callingA_nil))))))) Tryz.call54 Tryz.func54 (by kernel_rfl) (by kernel_rfl) false (table_Map_den table_path_A table_Purse_down_A table_Purse_get_A table_Purse_Take_A table_Purse_Give_A table_Purse_put_A table_leaf_A)

def space_Machine_Touch_ann : AnnA := (.seq none .leaf (.seq none .leaf (.seq none (.seq none .leaf (.cond (.seq none .leaf .leaf) .leaf)) (.seq none .leaf (.seq none (.seq none .leaf (.block (.loop ⟨[0, 2, 7, 11, 35, 36], [(12, (.c (.i .i64))), (37, (.c (.i .i64)))], []⟩ (.seq none .leaf (.seq none (.cond .leaf .leaf) (.seq (some ⟨[0, 2, 7, 11, 35, 36, 37], [(12, (.c (.i .i64)))], []⟩) (.block (.seq none .leaf (.seq none .leaf (.cond .leaf .leaf)))) .leaf)))))) (.seq (some ⟨[0, 2, 7, 11], [(12, (.c (.i .i64)))], []⟩) (.seq none .leaf (.cond .leaf .leaf)) (.seq none .leaf (.seq none (.seq none .leaf (.cond (.seq none .leaf .leaf) .leaf)) (.seq none .leaf (.seq none (.drawS [1, 2, 3, 5, 0, 4, 6, 7, 8, 9, 10, 11, 12, 13, 14] [11]) (.seq none (.seq none .leaf (.cond (.seq (some ⟨[], [(12, (.c (.i .i64)))], []⟩) (.seq none .leaf (.cond .leaf .leaf)) (.seq none .leaf .leaf)) .leaf)) (.seq none (.seq none .leaf (.cond (.seq none .leaf .leaf) .leaf)) (.seq none .leaf (.seq none (.seq none .leaf (.cond (.seq none .leaf .leaf) .leaf)) (.seq none (.seq none (.draw 9) (.seq none .leaf (.cond (.seq none .leaf (.seq none .leaf .leaf)) .leaf))) (.seq none .leaf .leaf))))))))))))))))
set_option maxRecDepth 100000 in
theorem space_Machine_Touch_den (f_region_Find : region_Find_T) (f_space_Machine_purse : space_Machine_purse_T) (f_table_Query : table_Query_T) (f_walk_May : walk_May_T) (f_table_Purse_Take : table_Purse_Take_T) (f_table_Map : table_Map_T) (f_table_Purse_Give : table_Purse_Give_T) : space_Machine_Touch_W (space_Machine_Touch_G f_region_Find f_space_Machine_purse f_table_Query f_walk_May f_table_Purse_Take f_table_Map f_table_Purse_Give) = curS [.c .p, .c (.i .i64), .c (.i .i64), .agg [.b, .b, .b]] EnR fun vs K Kp A => denFnA Tryz.prog (tabA [(50, enS [.c .s, .c (.i .i64)] (region_Find_W f_region_Find)), (47, enS [.c .p, .c (.i .i64)] (space_Machine_purse_W f_space_Machine_purse)), (51, enS [.agg [.p, .p, .p, (.i .i64)], .c (.i .i64), .c (.i .i64)] (table_Query_W f_table_Query)), (52, enS [.agg [.b, .b, .b], .agg [.b, .b, .b]] (walk_May_W f_walk_May)), (53, enS [.agg [.p, .p, .p, (.i .i64)]] (table_Purse_Take_W f_table_Purse_Take)), (54, enS [.agg [.p, .p, .p, (.i .i64)], .c (.i .i64), .c (.i .i64), .c (.i .i64), .agg [.b, .b, .b]] (table_Map_W f_table_Map)), (55, enS [.agg [.p, .p, .p, (.i .i64)], .c (.i .i64)] (table_Purse_Give_W f_table_Purse_Give))]) [7, 15, 17, 19] Tryz.f21 space_Machine_Touch_ann vs K (np false Kp) A := by kernel_rfl
set_option maxRecDepth 100000 in
theorem space_Machine_Touch_ok (hm : Tryz.prog.follows .mixedOrders = true) : EntryOK Tryz.prog 21 (upE (enS [.c .p, .c (.i .i64), .c (.i .i64), .agg [.b, .b, .b]] (space_Machine_Touch_W space_Machine_Touch_A))) := entA hm (callingA_cons (region_Find_ok hm) (callingA_cons (space_Machine_purse_ok hm) (callingA_cons (table_Query_ok hm) (callingA_cons (walk_May_ok hm) (callingA_cons (table_Purse_Take_ok hm) (callingA_cons (table_Map_ok hm) (callingA_cons (table_Purse_Give_ok hm) callingA_nil))))))) Tryz.call21 Tryz.func21 (by kernel_rfl) (by kernel_rfl) false (space_Machine_Touch_den region_Find_A space_Machine_purse_A table_Query_A walk_May_A table_Purse_Take_A table_Map_A table_Purse_Give_A)

def demesnelaw12_awake_ann : AnnA := (.seq none .leaf (.seq none .leaf (.seq (some ⟨[1], [], []⟩) (.seq none .leaf (.cond (.seq none .leaf .leaf) .leaf)) (.seq none .leaf (.seq none .leaf (.seq none .leaf .leaf))))))
set_option maxRecDepth 100000 in
theorem demesnelaw12_awake_den (f_demesnelaw12_Begin : demesnelaw12_Begin_T) (f_space_Machine_Open : space_Machine_Open_T) (f_space_Machine_Map : space_Machine_Map_T) (f_space_Machine_Touch : space_Machine_Touch_T) (f_quota_Tree_Room : quota_Tree_Room_T) : demesnelaw12_awake_W (demesnelaw12_awake_G f_demesnelaw12_Begin f_space_Machine_Open f_space_Machine_Map f_space_Machine_Touch f_quota_Tree_Room) = curS [] EnR fun vs K Kp A => denFnA Tryz.prog (tabA [(11, enS [.c (.i .i64), .c (.i .i64)] (demesnelaw12_Begin_W f_demesnelaw12_Begin)), (17, enS [.c .p, .c (.i .i64), .c (.i .i64)] (space_Machine_Open_W f_space_Machine_Open)), (19, enS [.c .p, .c (.i .i64), .agg [(.i .i64), (.i .i64)], .agg [.b, .b, .b]] (space_Machine_Map_W f_space_Machine_Map)), (21, enS [.c .p, .c (.i .i64), .c (.i .i64), .agg [.b, .b, .b]] (space_Machine_Touch_W f_space_Machine_Touch)), (31, enS [.c .p, .c (.i .i64)] (quota_Tree_Room_W f_quota_Tree_Room))]) [2] Tryz.f10 demesnelaw12_awake_ann vs K (np false Kp) A := by kernel_rfl
set_option maxRecDepth 100000 in
theorem demesnelaw12_awake_ok (hm : Tryz.prog.follows .mixedOrders = true) : EntryOK Tryz.prog 10 (upE (enS [] (demesnelaw12_awake_W demesnelaw12_awake_A))) := entA hm (callingA_cons (demesnelaw12_Begin_ok hm) (callingA_cons (space_Machine_Open_ok hm) (callingA_cons (space_Machine_Map_ok hm) (callingA_cons (space_Machine_Touch_ok hm) (callingA_cons (quota_Tree_Room_ok hm) callingA_nil))))) Tryz.call10 Tryz.func10 (by kernel_rfl) (by kernel_rfl) false (demesnelaw12_awake_den demesnelaw12_Begin_A space_Machine_Open_A space_Machine_Map_A space_Machine_Touch_A quota_Tree_Room_A)

def demesneref06_number_ann : AnnA := (.seq none .leaf (.seq none .leaf (.seq none (.seq none .leaf (.block (.loop ⟨[0, 6], [(3, (.c (.i .u64))), (7, (.c (.i .i64)))], []⟩ (.seq none .leaf (.seq none (.cond .leaf .leaf) (.seq none (.block (.seq none .leaf .leaf)) .leaf)))))) (.seq none .leaf .leaf))))
set_option maxRecDepth 100000 in
theorem demesneref06_number_den : demesneref06_number_W (demesneref06_number_A) = curS [.c .s] EnR fun vs K Kp A => denFnA Tryz.prog (tabA []) [] Tryz.f133 demesneref06_number_ann vs K (np false Kp) A := by kernel_rfl
set_option maxRecDepth 100000 in
theorem demesneref06_number_ok (hm : Tryz.prog.follows .mixedOrders = true) : EntryOK Tryz.prog 133 (upE (enS [.c .s] (demesneref06_number_W demesneref06_number_A))) := entA hm callingA_nil Tryz.call133 Tryz.func133 (by kernel_rfl) (by kernel_rfl) false demesneref06_number_den

def demesneref06_Parse_ann : AnnA := (.seq none .leaf (.seq none (.seq none .leaf (.cond (.seq none .leaf .leaf) .leaf)) (.seq none (.seq none .leaf (.cond (.seq none .leaf .leaf) .leaf)) (.seq none .leaf (.seq none (.seq none .leaf (.block (.loop ⟨[0], [(4, (.c .s)), (5, (.c (.i .i64)))], []⟩ (.seq none (.seq none .leaf (.cond .leaf .leaf)) (.seq none (.block (.seq none (.drawS [0, 1, 2, 3, 4, 6, 7, 8, 9, 10, 11, 13, 14, 15, 16, 17, 18, 5, 12, 19, 20, 21, 22, 23] [22]) (.seq none (.seq none .leaf (.cond (.seq none .leaf .leaf) .leaf)) .leaf))) .leaf))))) (.seq none .leaf .leaf))))))
set_option maxRecDepth 100000 in
theorem demesneref06_Parse_den (f_demesneref06_number : demesneref06_number_T) : demesneref06_Parse_W (demesneref06_Parse_G f_demesneref06_number) = curS [.c .s] EnR fun vs K Kp A => denFnA Tryz.prog (tabA [(133, enS [.c .s] (demesneref06_number_W f_demesneref06_number))]) [6] Tryz.f70 demesneref06_Parse_ann vs K (np false Kp) A := by kernel_rfl
set_option maxRecDepth 100000 in
theorem demesneref06_Parse_ok (hm : Tryz.prog.follows .mixedOrders = true) : EntryOK Tryz.prog 70 (upE (enS [.c .s] (demesneref06_Parse_W demesneref06_Parse_A))) := entA hm (callingA_cons (demesneref06_number_ok hm) callingA_nil) Tryz.call70 Tryz.func70 (by kernel_rfl) (by kernel_rfl) false (demesneref06_Parse_den demesneref06_number_A)

def demesneref06_whole_ann : AnnA := (.seq none .leaf (.seq none .leaf (.seq (some ⟨[1, 2, 4], [(5, (.c (.i .u64)))], []⟩) (.seq none .leaf (.cond .leaf .leaf)) (.seq none .leaf .leaf))))
set_option maxRecDepth 100000 in
theorem demesneref06_whole_den : demesneref06_whole_W (demesneref06_whole_A) = curS [.agg [(.i .u64), (.i .u64), (.i .u32)], .c (.i .u64)] EnR fun vs K Kp A => denFnA Tryz.prog (tabA []) [2, 4] Tryz.f71 demesneref06_whole_ann vs K (np false Kp) A := by kernel_rfl
set_option maxRecDepth 100000 in
theorem demesneref06_whole_ok (hm : Tryz.prog.follows .mixedOrders = true) : EntryOK Tryz.prog 71 (upE (enS [.agg [(.i .u64), (.i .u64), (.i .u32)], .c (.i .u64)] (demesneref06_whole_W demesneref06_whole_A))) := entA hm callingA_nil Tryz.call71 Tryz.func71 (by kernel_rfl) (by kernel_rfl) false demesneref06_whole_den

def demesneref06_touched_ann : AnnA := (.seq none .leaf (.seq none (.seq none .leaf (.cond (.seq none .leaf .leaf) .leaf)) (.seq none .leaf .leaf)))
set_option maxRecDepth 100000 in
theorem demesneref06_touched_den : demesneref06_touched_W (demesneref06_touched_A) = curS [.agg [(.i .u64), (.i .u64), (.i .u32)], .c (.i .u64)] EnR fun vs K Kp A => denFnA Tryz.prog (tabA []) [2, 4] Tryz.f72 demesneref06_touched_ann vs K (np false Kp) A := by kernel_rfl
set_option maxRecDepth 100000 in
theorem demesneref06_touched_ok (hm : Tryz.prog.follows .mixedOrders = true) : EntryOK Tryz.prog 72 (upE (enS [.agg [(.i .u64), (.i .u64), (.i .u32)], .c (.i .u64)] (demesneref06_touched_W demesneref06_touched_A))) := entA hm callingA_nil Tryz.call72 Tryz.func72 (by kernel_rfl) (by kernel_rfl) false demesneref06_touched_den

def demesneref06_Ends_ann : AnnA := (.seq none .leaf (.seq none .leaf (.seq none (.seq none .leaf (.block (.loop ⟨[19, 20], [(5, (.c .s)), (21, (.c (.i .i64)))], []⟩ (.seq none .leaf (.seq none (.cond .leaf .leaf) (.seq none (.block (.seq none .leaf (.seq none .leaf (.block (.loop ⟨[19, 20, 21, 25, 26], [(5, (.c .s)), (27, (.c (.i .i64)))], []⟩ (.seq none .leaf (.seq none (.cond .leaf .leaf) (.seq none (.block (.seq none .leaf (.seq none .leaf (.block (.loop ⟨[19, 20, 21, 25, 26, 27, 35, 36], [(5, (.c .s)), (37, (.c (.i .i64)))], []⟩ (.seq none .leaf (.seq none (.cond .leaf .leaf) (.seq none (.block (.seq none .leaf (.seq none .leaf (.seq none .leaf (.seq none (.seq none .leaf (.block (.loop ⟨[11, 19, 20, 21, 25, 26, 27, 35, 36, 37, 42, 43], [(12, (.c .s)), (13, (.c .b)), (44, (.c (.i .i64)))], []⟩ (.seq none .leaf (.seq none (.cond .leaf .leaf) (.seq none (.block (.seq none .leaf (.seq (some ⟨[11, 12, 15, 19, 20, 21, 25, 26, 27, 35, 36, 37, 42, 43, 44], [(13, (.c .b))], []⟩) (.seq none .leaf (.cond .leaf .leaf)) (.seq (some ⟨[11, 15, 19, 20, 21, 25, 26, 27, 35, 36, 37, 42, 43, 44], [(12, (.c .s)), (13, (.c .b))], []⟩) (.seq none .leaf (.cond (.seq none .leaf .leaf) .leaf)) .leaf)))) .leaf)))))) (.seq (some ⟨[19, 20, 21, 25, 26, 27, 35, 36, 37], [(12, (.c .s))], []⟩) (.seq none .leaf (.cond .leaf .leaf)) .leaf)))))) .leaf)))))))) .leaf)))))))) .leaf)))))) (.seq none .leaf .leaf))))
set_option maxRecDepth 100000 in
theorem demesneref06_Ends_den : demesneref06_Ends_W (demesneref06_Ends_A) = curS [.c .s, .c .s] EnR fun vs K Kp A => denFnA Tryz.prog (tabA []) [9] Tryz.f134 demesneref06_Ends_ann vs K (np false Kp) A := by kernel_rfl
set_option maxRecDepth 100000 in
theorem demesneref06_Ends_ok (hm : Tryz.prog.follows .mixedOrders = true) : EntryOK Tryz.prog 134 (upE (enS [.c .s, .c .s] (demesneref06_Ends_W demesneref06_Ends_A))) := entA hm callingA_nil Tryz.call134 Tryz.func134 (by kernel_rfl) (by kernel_rfl) false demesneref06_Ends_den

def demesneref06_In_ann : AnnA := (.seq none .leaf (.seq none .leaf .leaf))
set_option maxRecDepth 100000 in
theorem demesneref06_In_den : demesneref06_In_W (demesneref06_In_A) = curS [.agg [(.i .i64), (.i .i64)], .c (.i .i64)] EnR fun vs K Kp A => denFnA Tryz.prog (tabA []) [2] Tryz.f175 demesneref06_In_ann vs K (np false Kp) A := by kernel_rfl
set_option maxRecDepth 100000 in
theorem demesneref06_In_ok (hm : Tryz.prog.follows .mixedOrders = true) : EntryOK Tryz.prog 175 (upE (enS [.agg [(.i .i64), (.i .i64)], .c (.i .i64)] (demesneref06_In_W demesneref06_In_A))) := entA hm callingA_nil Tryz.call175 Tryz.func175 (by kernel_rfl) (by kernel_rfl) false demesneref06_In_den

def demesneref06_Some_ann : AnnA := (.seq none .leaf (.seq none (.seq none .leaf (.block (.loop ⟨[1, 7, 8], [(9, (.c (.i .i64)))], []⟩ (.seq none .leaf (.seq none (.cond .leaf .leaf) (.seq none (.block (.seq none .leaf (.seq none .leaf (.cond (.seq none .leaf .leaf) .leaf)))) .leaf)))))) (.seq none .leaf .leaf)))
set_option maxRecDepth 100000 in
theorem demesneref06_Some_den (f_demesneref06_In : demesneref06_In_T) : demesneref06_Some_W (demesneref06_Some_G f_demesneref06_In) = curS [.c .s, .c (.i .i64)] EnR fun vs K Kp A => denFnA Tryz.prog (tabA [(175, enS [.agg [(.i .i64), (.i .i64)], .c (.i .i64)] (demesneref06_In_W f_demesneref06_In))]) [6] Tryz.f135 demesneref06_Some_ann vs K (np false Kp) A := by kernel_rfl
set_option maxRecDepth 100000 in
theorem demesneref06_Some_ok (hm : Tryz.prog.follows .mixedOrders = true) : EntryOK Tryz.prog 135 (upE (enS [.c .s, .c (.i .i64)] (demesneref06_Some_W demesneref06_Some_A))) := entA hm (callingA_cons (demesneref06_In_ok hm) callingA_nil) Tryz.call135 Tryz.func135 (by kernel_rfl) (by kernel_rfl) false (demesneref06_Some_den demesneref06_In_A)

def demesneref06_Less_ann : AnnA := (.seq none .leaf (.seq none .leaf (.seq none .leaf (.seq none (.seq none .leaf (.block (.loop ⟨[0, 1, 6], [(5, (.c .s)), (7, (.c (.i .i64)))], []⟩ (.seq none (.seq none .leaf (.cond .leaf .leaf)) (.seq (some ⟨[0, 1, 6, 7], [(5, (.c .s))], []⟩) (.block (.seq (some ⟨[0, 1, 5, 6, 7], [], []⟩) (.seq none .leaf (.cond .leaf .leaf)) (.seq none .leaf (.seq none (.draw 15) (.cond .leaf (.drawS [0, 1, 2, 3, 5, 6, 7, 8, 4, 9, 10, 11, 12, 13] [])))))) .leaf))))) (.seq none .leaf .leaf)))))
set_option maxRecDepth 100000 in
theorem demesneref06_Less_den (f_demesneref06_Ends : demesneref06_Ends_T) (f_demesneref06_Some : demesneref06_Some_T) : demesneref06_Less_W (demesneref06_Less_G f_demesneref06_Ends f_demesneref06_Some) = curS [.c .s, .c .s] EnR fun vs K Kp A => denFnA Tryz.prog (tabA [(134, enS [.c .s, .c .s] (demesneref06_Ends_W f_demesneref06_Ends)), (135, enS [.c .s, .c (.i .i64)] (demesneref06_Some_W f_demesneref06_Some))]) [] Tryz.f73 demesneref06_Less_ann vs K (np false Kp) A := by kernel_rfl
set_option maxRecDepth 100000 in
theorem demesneref06_Less_ok (hm : Tryz.prog.follows .mixedOrders = true) : EntryOK Tryz.prog 73 (upE (enS [.c .s, .c .s] (demesneref06_Less_W demesneref06_Less_A))) := entA hm (callingA_cons (demesneref06_Ends_ok hm) (callingA_cons (demesneref06_Some_ok hm) callingA_nil)) Tryz.call73 Tryz.func73 (by kernel_rfl) (by kernel_rfl) false (demesneref06_Less_den demesneref06_Ends_A demesneref06_Some_A)

def demesneref06_Frames_ann : AnnA := (.seq none .leaf (.seq (some ⟨[0, 1, 5], [], []⟩) (.seq none .leaf (.cond (.seq none .leaf .leaf) .leaf)) (.seq none .leaf (.seq none (.seq none .leaf (.cond (.seq none .leaf .leaf) .leaf)) (.seq none (.drawS [1, 0, 3, 2, 4] []) (.seq none (.seq none .leaf (.block (.loop ⟨[1, 50, 51], [(10, (.c .s)), (11, (.c .s)), (52, (.c (.i .i64)))], []⟩ (.seq none .leaf (.seq none (.cond .leaf .leaf) (.seq (some ⟨[1, 50, 51, 52], [(10, (.c .s)), (11, (.c .s))], []⟩) (.block (.seq none .leaf (.seq none .leaf (.cond .leaf .leaf)))) .leaf)))))) (.seq none .leaf (.seq none (.seq none .leaf (.cond (.seq none .leaf .leaf) .leaf)) (.seq none .leaf .leaf)))))))))
set_option maxRecDepth 100000 in
theorem demesneref06_Frames_den (f_demesneref06_Parse : demesneref06_Parse_T) (f_demesneref06_whole : demesneref06_whole_T) (f_demesneref06_touched : demesneref06_touched_T) (f_demesneref06_Less : demesneref06_Less_T) : demesneref06_Frames_W (demesneref06_Frames_G f_demesneref06_Parse f_demesneref06_whole f_demesneref06_touched f_demesneref06_Less) = curS [.c .s, .c (.i .i64), .agg [(.i .i64), (.i .i64)]] EnR fun vs K Kp A => denFnA Tryz.prog (tabA [(70, enS [.c .s] (demesneref06_Parse_W f_demesneref06_Parse)), (71, enS [.agg [(.i .u64), (.i .u64), (.i .u32)], .c (.i .u64)] (demesneref06_whole_W f_demesneref06_whole)), (72, enS [.agg [(.i .u64), (.i .u64), (.i .u32)], .c (.i .u64)] (demesneref06_touched_W f_demesneref06_touched)), (73, enS [.c .s, .c .s] (demesneref06_Less_W f_demesneref06_Less))]) [5, 13] Tryz.f30 demesneref06_Frames_ann vs K (np false Kp) A := by kernel_rfl
set_option maxRecDepth 100000 in
theorem demesneref06_Frames_ok (hm : Tryz.prog.follows .mixedOrders = true) : EntryOK Tryz.prog 30 (upE (enS [.c .s, .c (.i .i64), .agg [(.i .i64), (.i .i64)]] (demesneref06_Frames_W demesneref06_Frames_A))) := entA hm (callingA_cons (demesneref06_Parse_ok hm) (callingA_cons (demesneref06_whole_ok hm) (callingA_cons (demesneref06_touched_ok hm) (callingA_cons (demesneref06_Less_ok hm) callingA_nil)))) Tryz.call30 Tryz.func30 (by kernel_rfl) (by kernel_rfl) false (demesneref06_Frames_den demesneref06_Parse_A demesneref06_whole_A demesneref06_touched_A demesneref06_Less_A)

def maps_Keys_map_int_space_one_int_space_one_ann : AnnA := (.seq none .leaf (.seq none .leaf .leaf))
set_option maxRecDepth 100000 in
theorem maps_Keys_map_int_space_one_int_space_one_den : maps_Keys_map_int_space_one_int_space_one_W (maps_Keys_map_int_space_one_int_space_one_A) = curS [.c .m] EnR fun vs K Kp A => denFnA Tryz.prog (tabA []) [] Tryz.f76 maps_Keys_map_int_space_one_int_space_one_ann vs K (np false Kp) A := by kernel_rfl
set_option maxRecDepth 100000 in
theorem maps_Keys_map_int_space_one_int_space_one_ok (hm : Tryz.prog.follows .mixedOrders = true) : EntryOK Tryz.prog 76 (upE (enS [.c .m] (maps_Keys_map_int_space_one_int_space_one_W maps_Keys_map_int_space_one_int_space_one_A))) := entA hm callingA_nil Tryz.call76 Tryz.func76 (by kernel_rfl) (by kernel_rfl) false maps_Keys_map_int_space_one_int_space_one_den

shelf_lay_g SlLaysZI.n8 Ggz 8 at Tryz 136 as slices_Collect_int_s2_l1
shelf_lay_g SlLaysZI.n7 Ggz 7 at Tryz 76 as slices_Collect_int_s2_l2
theorem slices_Collect_int_s2_ok (_hm : Tryz.prog.follows .mixedOrders = true) : EntryOK Tryz.prog 136 (upE (enS [.fn 138 [] [.p]] (slices_Collect_int_s2_W slices_Collect_int_s2_A))) :=
  collect_ok (ρ := slices_Collect_int_s2_l1_ren) (ρ' := slices_Collect_int_s2_l2_ren) slices_Collect_int_s2_l1 { slices_Collect_int_s2_l2 with } rfl rfl rfl rfl

shelf_lay Lays.n189 Nm 189 at Tryz as slices_Sort_int_int_l
theorem slices_Sort_int_int_ok (_hm : Tryz.prog.follows .mixedOrders = true) : EntryOK Tryz.prog 137 (upE (enS [.c .s] (slices_Sort_int_int_W slices_Sort_int_int_A))) := sortI_ok slices_Sort_int_int_l rfl (enters_of Tryz.func137 (by kernel_rfl) rfl) rfl

def slices_Sorted_int_ann : AnnA := (.seq none .leaf (.seq none .leaf (.seq none .leaf (.seq none .leaf .leaf))))
set_option maxRecDepth 100000 in
theorem slices_Sorted_int_den (f_slices_Collect_int_s2 : slices_Collect_int_s2_T) (f_slices_Sort_int_int : slices_Sort_int_int_T) : slices_Sorted_int_W (slices_Sorted_int_G f_slices_Collect_int_s2 f_slices_Sort_int_int) = curS [.fn 138 [] [.p]] EnR fun vs K Kp A => denFnA Tryz.prog (tabA [(136, enS [.fn 138 [] [.p]] (slices_Collect_int_s2_W f_slices_Collect_int_s2)), (137, enS [.c .s] (slices_Sort_int_int_W f_slices_Sort_int_int))]) [] Tryz.f75 slices_Sorted_int_ann vs K (np false Kp) A := by kernel_rfl
set_option maxRecDepth 100000 in
theorem slices_Sorted_int_ok (hm : Tryz.prog.follows .mixedOrders = true) : EntryOK Tryz.prog 75 (upE (enS [.fn 138 [] [.p]] (slices_Sorted_int_W slices_Sorted_int_A))) := entA hm (callingA_cons (slices_Collect_int_s2_ok hm) (callingA_cons (slices_Sort_int_int_ok hm) callingA_nil)) Tryz.call75 Tryz.func75 (by kernel_rfl) (by kernel_rfl) false (slices_Sorted_int_den slices_Collect_int_s2_A slices_Sort_int_int_A)

def space_Machine_Spaces_ann : AnnA := (.seq none .leaf (.seq none .leaf .leaf))
set_option maxRecDepth 100000 in
theorem space_Machine_Spaces_den (f_maps_Keys_map_int_space_one_int_space_one : maps_Keys_map_int_space_one_int_space_one_T) (f_slices_Sorted_int : slices_Sorted_int_T) : space_Machine_Spaces_W (space_Machine_Spaces_G f_maps_Keys_map_int_space_one_int_space_one f_slices_Sorted_int) = curS [.c .p] EnR fun vs K Kp A => denFnA Tryz.prog (tabA [(76, enS [.c .m] (maps_Keys_map_int_space_one_int_space_one_W f_maps_Keys_map_int_space_one_int_space_one)), (75, enS [.fn 138 [] [.p]] (slices_Sorted_int_W f_slices_Sorted_int))]) [] Tryz.f32 space_Machine_Spaces_ann vs K (np false Kp) A := by kernel_rfl
set_option maxRecDepth 100000 in
theorem space_Machine_Spaces_ok (hm : Tryz.prog.follows .mixedOrders = true) : EntryOK Tryz.prog 32 (upE (enS [.c .p] (space_Machine_Spaces_W space_Machine_Spaces_A))) := entA hm (callingA_cons (maps_Keys_map_int_space_one_int_space_one_ok hm) (callingA_cons (slices_Sorted_int_ok hm) callingA_nil)) Tryz.call32 Tryz.func32 (by kernel_rfl) (by kernel_rfl) false (space_Machine_Spaces_den maps_Keys_map_int_space_one_int_space_one_A slices_Sorted_int_A)

def tlb_TLB_Lines_ann : AnnA := (.seq none .leaf (.seq none .leaf (.seq none (.seq none .leaf (.block (.loop ⟨[11], [(3, (.c .s)), (12, (.c (.i .i64)))], []⟩ (.seq none .leaf (.seq none (.cond .leaf .leaf) (.seq none (.block (.seq none .leaf (.seq none .leaf (.block (.loop ⟨[11, 12, 15], [(3, (.c .s)), (16, (.c (.i .i64)))], []⟩ (.seq none .leaf (.seq none (.cond .leaf .leaf) (.seq (some ⟨[11, 12, 15, 16], [(3, (.c .s))], []⟩) (.block (.seq none .leaf (.seq none .leaf (.cond .leaf .leaf)))) .leaf)))))))) .leaf)))))) (.seq none .leaf .leaf))))
set_option maxRecDepth 100000 in
theorem tlb_TLB_Lines_den : tlb_TLB_Lines_W (tlb_TLB_Lines_A) = curS [.c .p] EnR fun vs K Kp A => denFnA Tryz.prog (tabA []) [5, 7] Tryz.f15 tlb_TLB_Lines_ann vs K (np false Kp) A := by kernel_rfl
set_option maxRecDepth 100000 in
theorem tlb_TLB_Lines_ok (hm : Tryz.prog.follows .mixedOrders = true) : EntryOK Tryz.prog 15 (upE (enS [.c .p] (tlb_TLB_Lines_W tlb_TLB_Lines_A))) := entA hm callingA_nil Tryz.call15 Tryz.func15 (by kernel_rfl) (by kernel_rfl) false tlb_TLB_Lines_den

def pcid_Tags_Owner_ann : AnnA := (.seq none .leaf (.seq none .leaf (.seq none .leaf .leaf)))
set_option maxRecDepth 100000 in
theorem pcid_Tags_Owner_den : pcid_Tags_Owner_W (pcid_Tags_Owner_A) = curS [.c .p, .c (.i .i64)] EnR fun vs K Kp A => denFnA Tryz.prog (tabA []) [] Tryz.f79 pcid_Tags_Owner_ann vs K (np false Kp) A := by kernel_rfl
set_option maxRecDepth 100000 in
theorem pcid_Tags_Owner_ok (hm : Tryz.prog.follows .mixedOrders = true) : EntryOK Tryz.prog 79 (upE (enS [.c .p, .c (.i .i64)] (pcid_Tags_Owner_W pcid_Tags_Owner_A))) := entA hm callingA_nil Tryz.call79 Tryz.func79 (by kernel_rfl) (by kernel_rfl) false pcid_Tags_Owner_den

def space_Machine_Stale_1_ann : AnnA := (.seq none .leaf (.seq none (.drawS [4, 0, 1, 2, 3, 5, 6, 7, 8, 9, 10, 11] []) (.seq none .leaf (.seq (some ⟨[1, 2, 6], [], []⟩) (.seq none .leaf (.cond (.seq none .leaf .leaf) .leaf)) (.seq none (.drawS [1, 2, 3, 6, 7, 8, 10, 0, 4, 9, 11, 5, 12, 13, 14, 15, 16, 17, 18, 19, 20] [17]) (.seq none .leaf .leaf))))))
set_option maxRecDepth 100000 in
theorem space_Machine_Stale_1_den (f_pcid_Tags_Owner : pcid_Tags_Owner_T) (f_space_Machine_purse : space_Machine_purse_T) (f_table_Query : table_Query_T) : space_Machine_Stale_1_W (space_Machine_Stale_1_G f_pcid_Tags_Owner f_space_Machine_purse f_table_Query) = curS [.agg [.b, (.i .i64), (.i .i64), (.i .i64), .b, .b, .b, .b, .b], .c .p] EnR fun vs K Kp A => denFnA Tryz.prog (tabA [(79, enS [.c .p, .c (.i .i64)] (pcid_Tags_Owner_W f_pcid_Tags_Owner)), (47, enS [.c .p, .c (.i .i64)] (space_Machine_purse_W f_space_Machine_purse)), (51, enS [.agg [.p, .p, .p, (.i .i64)], .c (.i .i64), .c (.i .i64)] (table_Query_W f_table_Query))]) [2, 8] Tryz.f78 space_Machine_Stale_1_ann vs K (np false Kp) A := by kernel_rfl
set_option maxRecDepth 100000 in
theorem space_Machine_Stale_1_ok (hm : Tryz.prog.follows .mixedOrders = true) : EntryOK Tryz.prog 78 (upE (enS [.agg [.b, (.i .i64), (.i .i64), (.i .i64), .b, .b, .b, .b, .b], .c .p] (space_Machine_Stale_1_W space_Machine_Stale_1_A))) := entA hm (callingA_cons (pcid_Tags_Owner_ok hm) (callingA_cons (space_Machine_purse_ok hm) (callingA_cons (table_Query_ok hm) callingA_nil))) Tryz.call78 Tryz.func78 (by kernel_rfl) (by kernel_rfl) false (space_Machine_Stale_1_den pcid_Tags_Owner_A space_Machine_purse_A table_Query_A)

def slices_IndexFunc_tlb_Line_tlb_Line_ann : AnnA := (.seq none .leaf (.seq none (.seq none .leaf (.block (.loop ⟨[0, 1, 7], [(8, (.c (.i .i64)))], []⟩ (.seq none .leaf (.seq none (.cond .leaf .leaf) (.seq none (.block (.seq none .leaf (.seq none .leaf (.cond (.seq none .leaf .leaf) .leaf)))) .leaf)))))) (.seq none .leaf .leaf)))
set_option maxRecDepth 100000 in
theorem slices_IndexFunc_tlb_Line_tlb_Line_den (f_space_Machine_Stale_1 : space_Machine_Stale_1_T) : slices_IndexFunc_tlb_Line_tlb_Line_W (slices_IndexFunc_tlb_Line_tlb_Line_G f_space_Machine_Stale_1) = curS [.c .s, .fn 78 [] [.p]] EnR fun vs K Kp A => denFnA Tryz.prog (tabA [(78, enS [.agg [.b, (.i .i64), (.i .i64), (.i .i64), .b, .b, .b, .b, .b], .c .p] (space_Machine_Stale_1_W f_space_Machine_Stale_1))]) [] Tryz.f139 slices_IndexFunc_tlb_Line_tlb_Line_ann vs K (np false Kp) A := by kernel_rfl
set_option maxRecDepth 100000 in
theorem slices_IndexFunc_tlb_Line_tlb_Line_ok (hm : Tryz.prog.follows .mixedOrders = true) : EntryOK Tryz.prog 139 (upE (enS [.c .s, .fn 78 [] [.p]] (slices_IndexFunc_tlb_Line_tlb_Line_W slices_IndexFunc_tlb_Line_tlb_Line_A))) := entA hm (callingA_cons (space_Machine_Stale_1_ok hm) callingA_nil) Tryz.call139 Tryz.func139 (by kernel_rfl) (by kernel_rfl) false (slices_IndexFunc_tlb_Line_tlb_Line_den space_Machine_Stale_1_A)

def slices_DeleteFunc_tlb_Line_tlb_Line_ann : AnnA := (.seq none .leaf (.seq none .leaf (.seq none (.seq none .leaf (.cond (.seq none .leaf .leaf) .leaf)) (.seq none (.seq none .leaf (.block (.loop ⟨[0, 1], [(5, (.c (.i .i64))), (6, (.c (.i .i64)))], []⟩ (.seq none (.seq none .leaf (.cond .leaf .leaf)) (.seq (some ⟨[0, 1, 6], [(5, (.c (.i .i64)))], []⟩) (.block (.seq none .leaf (.seq none .leaf (.cond (.seq none .leaf .leaf) .leaf)))) .leaf))))) (.seq none .leaf (.seq none .leaf .leaf))))))
set_option maxRecDepth 100000 in
theorem slices_DeleteFunc_tlb_Line_tlb_Line_den (f_slices_IndexFunc_tlb_Line_tlb_Line : slices_IndexFunc_tlb_Line_tlb_Line_T) (f_space_Machine_Stale_1 : space_Machine_Stale_1_T) : slices_DeleteFunc_tlb_Line_tlb_Line_W (slices_DeleteFunc_tlb_Line_tlb_Line_G f_slices_IndexFunc_tlb_Line_tlb_Line f_space_Machine_Stale_1) = curS [.c .s, .fn 78 [] [.p]] EnR fun vs K Kp A => denFnA Tryz.prog (tabA [(139, enS [.c .s, .fn 78 [] [.p]] (slices_IndexFunc_tlb_Line_tlb_Line_W f_slices_IndexFunc_tlb_Line_tlb_Line)), (78, enS [.agg [.b, (.i .i64), (.i .i64), (.i .i64), .b, .b, .b, .b, .b], .c .p] (space_Machine_Stale_1_W f_space_Machine_Stale_1))]) [7] Tryz.f77 slices_DeleteFunc_tlb_Line_tlb_Line_ann vs K (np false Kp) A := by kernel_rfl
set_option maxRecDepth 100000 in
theorem slices_DeleteFunc_tlb_Line_tlb_Line_ok (hm : Tryz.prog.follows .mixedOrders = true) : EntryOK Tryz.prog 77 (upE (enS [.c .s, .fn 78 [] [.p]] (slices_DeleteFunc_tlb_Line_tlb_Line_W slices_DeleteFunc_tlb_Line_tlb_Line_A))) := entA hm (callingA_cons (slices_IndexFunc_tlb_Line_tlb_Line_ok hm) (callingA_cons (space_Machine_Stale_1_ok hm) callingA_nil)) Tryz.call77 Tryz.func77 (by kernel_rfl) (by kernel_rfl) false (slices_DeleteFunc_tlb_Line_tlb_Line_den slices_IndexFunc_tlb_Line_tlb_Line_A space_Machine_Stale_1_A)

def space_Machine_Stale_ann : AnnA := (.seq none .leaf (.seq none .leaf .leaf))
set_option maxRecDepth 100000 in
theorem space_Machine_Stale_den (f_tlb_TLB_Lines : tlb_TLB_Lines_T) (f_slices_DeleteFunc_tlb_Line_tlb_Line : slices_DeleteFunc_tlb_Line_tlb_Line_T) : space_Machine_Stale_W (space_Machine_Stale_G f_tlb_TLB_Lines f_slices_DeleteFunc_tlb_Line_tlb_Line) = curS [.c .p] EnR fun vs K Kp A => denFnA Tryz.prog (tabA [(15, enS [.c .p] (tlb_TLB_Lines_W f_tlb_TLB_Lines)), (77, enS [.c .s, .fn 78 [] [.p]] (slices_DeleteFunc_tlb_Line_tlb_Line_W f_slices_DeleteFunc_tlb_Line_tlb_Line))]) [] Tryz.f33 space_Machine_Stale_ann vs K (np false Kp) A := by kernel_rfl
set_option maxRecDepth 100000 in
theorem space_Machine_Stale_ok (hm : Tryz.prog.follows .mixedOrders = true) : EntryOK Tryz.prog 33 (upE (enS [.c .p] (space_Machine_Stale_W space_Machine_Stale_A))) := entA hm (callingA_cons (tlb_TLB_Lines_ok hm) (callingA_cons (slices_DeleteFunc_tlb_Line_tlb_Line_ok hm) callingA_nil)) Tryz.call33 Tryz.func33 (by kernel_rfl) (by kernel_rfl) false (space_Machine_Stale_den tlb_TLB_Lines_A slices_DeleteFunc_tlb_Line_tlb_Line_A)

def demesnelaw12_SpaceBoots_ann : AnnA := (.seq none .leaf (.seq none .leaf (.seq (some ⟨[1], [], []⟩) (.seq none .leaf (.cond (.seq none .leaf .leaf) .leaf)) (.seq none .leaf (.seq none .leaf (.seq none .leaf (.seq none (.seq none .leaf (.block (.loop ⟨[1, 3, 4, 5, 6, 38, 39], [(7, (.c (.i .i64))), (40, (.c (.i .i64)))], []⟩ (.seq none .leaf (.seq none (.cond .leaf .leaf) (.seq none (.block (.seq none .leaf .leaf)) .leaf)))))) (.seq (some ⟨[3, 4, 5, 7], [(6, (.c (.i .i64)))], []⟩) (.seq none .leaf (.cond .leaf .leaf)) (.seq (some ⟨[3, 4, 7], [(6, (.c (.i .i64)))], []⟩) (.seq none .leaf (.cond .leaf .leaf)) (.seq (some ⟨[3, 4, 7], [(6, (.c (.i .i64)))], []⟩) (.seq none .leaf (.cond .leaf .leaf)) (.seq (some ⟨[3, 7], [], []⟩) (.seq none .leaf (.cond (.seq none .leaf .leaf) .leaf)) (.seq none .leaf .leaf))))))))))))
set_option maxRecDepth 100000 in
theorem demesnelaw12_SpaceBoots_den (f_demesnelaw06_Cut : demesnelaw06_Cut_T) (f_demesnelaw12_awake : demesnelaw12_awake_T) (f_space_Boot : space_Boot_T) (f_demesneref06_Frames : demesneref06_Frames_T) (f_buddy_Buddy_Free : buddy_Buddy_Free_T) (f_quota_Tree_Room : quota_Tree_Room_T) (f_space_Machine_Spaces : space_Machine_Spaces_T) (f_space_Machine_Stale : space_Machine_Stale_T) : demesnelaw12_SpaceBoots_W (demesnelaw12_SpaceBoots_G f_demesnelaw06_Cut f_demesnelaw12_awake f_space_Boot f_demesneref06_Frames f_buddy_Buddy_Free f_quota_Tree_Room f_space_Machine_Spaces f_space_Machine_Stale) = curS [.agg [(.i .i64), (.i .i64), (.i .i64), (.i .i64), .s]] EnR fun vs K Kp A => denFnA Tryz.prog (tabA [(28, enS [.c .s] (demesnelaw06_Cut_W f_demesnelaw06_Cut)), (10, enS [] (demesnelaw12_awake_W f_demesnelaw12_awake)), (29, enS [.agg [(.i .i64), (.i .i64), (.i .i64), (.i .i64), .s]] (space_Boot_W f_space_Boot)), (30, enS [.c .s, .c (.i .i64), .agg [(.i .i64), (.i .i64)]] (demesneref06_Frames_W f_demesneref06_Frames)), (18, enS [.c .p] (buddy_Buddy_Free_W f_buddy_Buddy_Free)), (31, enS [.c .p, .c (.i .i64)] (quota_Tree_Room_W f_quota_Tree_Room)), (32, enS [.c .p] (space_Machine_Spaces_W f_space_Machine_Spaces)), (33, enS [.c .p] (space_Machine_Stale_W f_space_Machine_Stale))]) [1, 9] Tryz.f6 demesnelaw12_SpaceBoots_ann vs K (np false Kp) A := by kernel_rfl
set_option maxRecDepth 100000 in
theorem demesnelaw12_SpaceBoots_ok (hm : Tryz.prog.follows .mixedOrders = true) : EntryOK Tryz.prog 6 (upE (enS [.agg [(.i .i64), (.i .i64), (.i .i64), (.i .i64), .s]] (demesnelaw12_SpaceBoots_W demesnelaw12_SpaceBoots_A))) := entA hm (callingA_cons (demesnelaw06_Cut_ok hm) (callingA_cons (demesnelaw12_awake_ok hm) (callingA_cons (space_Boot_ok hm) (callingA_cons (demesneref06_Frames_ok hm) (callingA_cons (buddy_Buddy_Free_ok hm) (callingA_cons (quota_Tree_Room_ok hm) (callingA_cons (space_Machine_Spaces_ok hm) (callingA_cons (space_Machine_Stale_ok hm) callingA_nil)))))))) Tryz.call6 Tryz.func6 (by kernel_rfl) (by kernel_rfl) false (demesnelaw12_SpaceBoots_den demesnelaw06_Cut_A demesnelaw12_awake_A space_Boot_A demesneref06_Frames_A buddy_Buddy_Free_A quota_Tree_Room_A space_Machine_Spaces_A space_Machine_Stale_A)

end Go.Dn
