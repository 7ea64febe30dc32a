/- Printed by gen3.py: that each function does so. -/
import Derived.Test.YtbmolaogibmbiaaGreatG
import Derived.Test.YtbmolaogibmbiaaGreatParseE
import Derived.Test.YtbmolaogibmbiaaGreatSortE
import Derived.Test.YtbmolaogibmbiaaGreatProg
import Derived.KernelRfl
import Derived.Ground.GgzProg
namespace Go.Dn
open Go.Proofs Go.Shelf

def demesnelaw06_Entry_ann : AnnA := (.seq none .leaf (.seq none .leaf (.seq none (.seq none .leaf (.block (.loop ⟨[0, 1, 2, 7], [(8, (.c (.i .i64)))], []⟩ (.seq none (.seq none .leaf (.cond .leaf .leaf)) (.seq none (.block (.seq none .leaf .leaf)) .leaf))))) (.seq none (.seq none .leaf (.block (.loop ⟨[2, 7], [(9, (.c (.i .i64)))], []⟩ (.seq none (.seq none .leaf (.cond .leaf .leaf)) (.seq none (.block .leaf) .leaf))))) (.seq none .leaf .leaf)))))
set_option maxRecDepth 100000 in
theorem demesnelaw06_Entry_den : demesnelaw06_Entry_W (demesnelaw06_Entry_A) = curS [.c (.i .u64), .c (.i .u64), .c (.i .u32)] EnR fun vs K Kp A => denFnA Tryz.prog (tabA []) [] Tryz.f120 demesnelaw06_Entry_ann vs K (np false Kp) A := by kernel_rfl
set_option maxRecDepth 100000 in
theorem demesnelaw06_Entry_ok (hm : Tryz.prog.follows .mixedOrders = true) : EntryOK Tryz.prog 120 (upE (enS [.c (.i .u64), .c (.i .u64), .c (.i .u32)] (demesnelaw06_Entry_W demesnelaw06_Entry_A))) := entA hm callingA_nil Tryz.call120 Tryz.func120 (by kernel_rfl) (by kernel_rfl) false demesnelaw06_Entry_den

def demesnelaw12_Plain_ann : AnnA := (.seq none .leaf (.seq none .leaf .leaf))
set_option maxRecDepth 100000 in
theorem demesnelaw12_Plain_den (f_demesnelaw06_Entry : demesnelaw06_Entry_T) : demesnelaw12_Plain_W (demesnelaw12_Plain_G f_demesnelaw06_Entry) = curS [.c (.i .i64), .c (.i .i64)] EnR fun vs K Kp A => denFnA Tryz.prog (tabA [(120, enS [.c (.i .u64), .c (.i .u64), .c (.i .u32)] (demesnelaw06_Entry_W f_demesnelaw06_Entry))]) [4] Tryz.f58 demesnelaw12_Plain_ann vs K (np false Kp) A := by kernel_rfl
set_option maxRecDepth 100000 in
theorem demesnelaw12_Plain_ok (hm : Tryz.prog.follows .mixedOrders = true) : EntryOK Tryz.prog 58 (upE (enS [.c (.i .i64), .c (.i .i64)] (demesnelaw12_Plain_W demesnelaw12_Plain_A))) := entA hm (callingA_cons (demesnelaw06_Entry_ok hm) callingA_nil) Tryz.call58 Tryz.func58 (by kernel_rfl) (by kernel_rfl) false (demesnelaw12_Plain_den demesnelaw06_Entry_A)

theorem bootmap_Parse_ok (_hm : Tryz.prog.follows .mixedOrders = true) : EntryOK Tryz.prog 178 (upE (enS [.c .s] (bootmap_Parse_W bootmap_Parse_A))) := parse_ok rfl

def bootmap_Area_frames_ann : AnnA := (.seq none .leaf (.seq none (.draw 11) (.seq (some ⟨[1, 2, 4], [(5, (.c (.i .u64))), (6, (.c (.i .u64)))], []⟩) (.seq none .leaf (.cond (.seq none .leaf (.cond .leaf .leaf)) (.seq none .leaf (.cond .leaf .leaf)))) (.seq (some ⟨[1, 4, 5], [(6, (.c (.i .u64)))], []⟩) (.seq none .leaf (.cond .leaf .leaf)) (.seq none .leaf .leaf)))))
set_option maxRecDepth 100000 in
theorem bootmap_Area_frames_den : bootmap_Area_frames_W (bootmap_Area_frames_A) = curS [.agg [(.i .u64), (.i .u64), (.i .u32)], .c (.i .i64)] EnR fun vs K Kp A => denFnA Tryz.prog (tabA []) [2, 4] Tryz.f179 bootmap_Area_frames_ann vs K (np false Kp) A := by kernel_rfl
set_option maxRecDepth 100000 in
theorem bootmap_Area_frames_ok (hm : Tryz.prog.follows .mixedOrders = true) : EntryOK Tryz.prog 179 (upE (enS [.agg [(.i .u64), (.i .u64), (.i .u32)], .c (.i .i64)] (bootmap_Area_frames_W bootmap_Area_frames_A))) := entA hm callingA_nil Tryz.call179 Tryz.func179 (by kernel_rfl) (by kernel_rfl) false bootmap_Area_frames_den

def slices_Clone_api_Range_api_Range_ann : AnnA := (.seq none .leaf (.seq none (.seq none .leaf (.cond (.seq none .leaf .leaf) .leaf)) (.seq none .leaf .leaf)))
set_option maxRecDepth 100000 in
theorem slices_Clone_api_Range_api_Range_den : slices_Clone_api_Range_api_Range_W (slices_Clone_api_Range_api_Range_A) = curS [.c .s] EnR fun vs K Kp A => denFnA Tryz.prog (tabA []) [] Tryz.f223 slices_Clone_api_Range_api_Range_ann vs K (np false Kp) A := by kernel_rfl
set_option maxRecDepth 100000 in
theorem slices_Clone_api_Range_api_Range_ok (hm : Tryz.prog.follows .mixedOrders = true) : EntryOK Tryz.prog 223 (upE (enS [.c .s] (slices_Clone_api_Range_api_Range_W slices_Clone_api_Range_api_Range_A))) := entA hm callingA_nil Tryz.call223 Tryz.func223 (by kernel_rfl) (by kernel_rfl) false slices_Clone_api_Range_api_Range_den

def bootmap_Merge_1_ann : AnnA := (.seq none .leaf (.seq none .leaf .leaf))
set_option maxRecDepth 100000 in
theorem bootmap_Merge_1_den : bootmap_Merge_1_W (bootmap_Merge_1_A) = curS [.agg [(.i .i64), (.i .i64)]] EnR fun vs K Kp A => denFnA Tryz.prog (tabA []) [1] Tryz.f224 bootmap_Merge_1_ann vs K (np false Kp) A := by kernel_rfl
set_option maxRecDepth 100000 in
theorem bootmap_Merge_1_ok (hm : Tryz.prog.follows .mixedOrders = true) : EntryOK Tryz.prog 224 (upE (enS [.agg [(.i .i64), (.i .i64)]] (bootmap_Merge_1_W bootmap_Merge_1_A))) := entA hm callingA_nil Tryz.call224 Tryz.func224 (by kernel_rfl) (by kernel_rfl) false bootmap_Merge_1_den

def slices_IndexFunc_api_Range_api_Range_ann : AnnA := (.seq none .leaf (.seq none (.seq none .leaf (.block (.loop ⟨[0, 1, 7], [(8, (.c (.i .i64)))], []⟩ (.seq none .leaf (.seq none (.cond .leaf .leaf) (.seq none (.block (.seq none .leaf (.seq none .leaf (.cond (.seq none .leaf .leaf) .leaf)))) .leaf)))))) (.seq none .leaf .leaf)))
set_option maxRecDepth 100000 in
theorem slices_IndexFunc_api_Range_api_Range_den (f_bootmap_Merge_1 : bootmap_Merge_1_T) : slices_IndexFunc_api_Range_api_Range_W (slices_IndexFunc_api_Range_api_Range_G f_bootmap_Merge_1) = curS [.c .s, .fn 224 [] []] EnR fun vs K Kp A => denFnA Tryz.prog (tabA [(224, enS [.agg [(.i .i64), (.i .i64)]] (bootmap_Merge_1_W f_bootmap_Merge_1))]) [] Tryz.f229 slices_IndexFunc_api_Range_api_Range_ann vs K (np false Kp) A := by kernel_rfl
set_option maxRecDepth 100000 in
theorem slices_IndexFunc_api_Range_api_Range_ok (hm : Tryz.prog.follows .mixedOrders = true) : EntryOK Tryz.prog 229 (upE (enS [.c .s, .fn 224 [] []] (slices_IndexFunc_api_Range_api_Range_W slices_IndexFunc_api_Range_api_Range_A))) := entA hm (callingA_cons (bootmap_Merge_1_ok hm) callingA_nil) Tryz.call229 Tryz.func229 (by kernel_rfl) (by kernel_rfl) false (slices_IndexFunc_api_Range_api_Range_den bootmap_Merge_1_A)

def slices_DeleteFunc_api_Range_api_Range_ann : AnnA := (.seq none .leaf (.seq none .leaf (.seq none (.seq none .leaf (.cond (.seq none .leaf .leaf) .leaf)) (.seq none (.seq none .leaf (.block (.loop ⟨[0, 1], [(5, (.c (.i .i64))), (6, (.c (.i .i64)))], []⟩ (.seq none (.seq none .leaf (.cond .leaf .leaf)) (.seq (some ⟨[0, 1, 6], [(5, (.c (.i .i64)))], []⟩) (.block (.seq none .leaf (.seq none .leaf (.cond (.seq none .leaf .leaf) .leaf)))) .leaf))))) (.seq none .leaf (.seq none .leaf .leaf))))))
set_option maxRecDepth 100000 in
theorem slices_DeleteFunc_api_Range_api_Range_den (f_slices_IndexFunc_api_Range_api_Range : slices_IndexFunc_api_Range_api_Range_T) (f_bootmap_Merge_1 : bootmap_Merge_1_T) : slices_DeleteFunc_api_Range_api_Range_W (slices_DeleteFunc_api_Range_api_Range_G f_slices_IndexFunc_api_Range_api_Range f_bootmap_Merge_1) = curS [.c .s, .fn 224 [] []] EnR fun vs K Kp A => denFnA Tryz.prog (tabA [(229, enS [.c .s, .fn 224 [] []] (slices_IndexFunc_api_Range_api_Range_W f_slices_IndexFunc_api_Range_api_Range)), (224, enS [.agg [(.i .i64), (.i .i64)]] (bootmap_Merge_1_W f_bootmap_Merge_1))]) [7] Tryz.f222 slices_DeleteFunc_api_Range_api_Range_ann vs K (np false Kp) A := by kernel_rfl
set_option maxRecDepth 100000 in
theorem slices_DeleteFunc_api_Range_api_Range_ok (hm : Tryz.prog.follows .mixedOrders = true) : EntryOK Tryz.prog 222 (upE (enS [.c .s, .fn 224 [] []] (slices_DeleteFunc_api_Range_api_Range_W slices_DeleteFunc_api_Range_api_Range_A))) := entA hm (callingA_cons (slices_IndexFunc_api_Range_api_Range_ok hm) (callingA_cons (bootmap_Merge_1_ok hm) callingA_nil)) Tryz.call222 Tryz.func222 (by kernel_rfl) (by kernel_rfl) false (slices_DeleteFunc_api_Range_api_Range_den slices_IndexFunc_api_Range_api_Range_A bootmap_Merge_1_A)

theorem slices_SortFunc_api_Range_api_Range_ok (_hm : Tryz.prog.follows .mixedOrders = true) : EntryOK Tryz.prog 225 (upE (enS [.c .s, .fn 226 [] []] (slices_SortFunc_api_Range_api_Range_W slices_SortFunc_api_Range_api_Range_A))) := sortRange_ok rfl

def bootmap_Merge_ann : AnnA := (.seq none .leaf (.seq none .leaf (.seq none .leaf (.seq none .leaf (.seq none (.seq none .leaf (.block (.loop ⟨[13, 14], [(4, (.c .s)), (15, (.c (.i .i64)))], []⟩ (.seq none .leaf (.seq none (.cond .leaf .leaf) (.seq (some ⟨[13, 14, 15], [(4, (.c .s))], []⟩) (.block (.seq none .leaf (.seq none (.seq none .leaf (.seq (some ⟨[4, 6, 7, 13, 14, 15], [(33, (.c .b))], []⟩) (.draw 13) (.cond (.seq none (.draw 14) .leaf) .leaf))) .leaf))) .leaf)))))) (.seq none .leaf .leaf))))))
set_option maxRecDepth 100000 in
theorem bootmap_Merge_den (f_slices_Clone_api_Range_api_Range : slices_Clone_api_Range_api_Range_T) (f_slices_DeleteFunc_api_Range_api_Range : slices_DeleteFunc_api_Range_api_Range_T) (f_slices_SortFunc_api_Range_api_Range : slices_SortFunc_api_Range_api_Range_T) : bootmap_Merge_W (bootmap_Merge_G f_slices_Clone_api_Range_api_Range f_slices_DeleteFunc_api_Range_api_Range f_slices_SortFunc_api_Range_api_Range) = curS [.c .s] EnR fun vs K Kp A => denFnA Tryz.prog (tabA [(223, enS [.c .s] (slices_Clone_api_Range_api_Range_W f_slices_Clone_api_Range_api_Range)), (222, enS [.c .s, .fn 224 [] []] (slices_DeleteFunc_api_Range_api_Range_W f_slices_DeleteFunc_api_Range_api_Range)), (225, enS [.c .s, .fn 226 [] []] (slices_SortFunc_api_Range_api_Range_W f_slices_SortFunc_api_Range_api_Range))]) [6] Tryz.f212 bootmap_Merge_ann vs K (np false Kp) A := by kernel_rfl
set_option maxRecDepth 100000 in
theorem bootmap_Merge_ok (hm : Tryz.prog.follows .mixedOrders = true) : EntryOK Tryz.prog 212 (upE (enS [.c .s] (bootmap_Merge_W bootmap_Merge_A))) := entA hm (callingA_cons (slices_Clone_api_Range_api_Range_ok hm) (callingA_cons (slices_DeleteFunc_api_Range_api_Range_ok hm) (callingA_cons (slices_SortFunc_api_Range_api_Range_ok hm) callingA_nil))) Tryz.call212 Tryz.func212 (by kernel_rfl) (by kernel_rfl) false (bootmap_Merge_den slices_Clone_api_Range_api_Range_A slices_DeleteFunc_api_Range_api_Range_A slices_SortFunc_api_Range_api_Range_A)

def bootmap_Less_ann : AnnA := (.seq none .leaf (.seq none .leaf (.seq none .leaf (.seq none (.seq none .leaf (.block (.loop ⟨[6, 15, 16], [(5, (.c .s)), (17, (.c (.i .i64)))], []⟩ (.seq none .leaf (.seq none (.cond .leaf .leaf) (.seq (some ⟨[6, 15, 16, 17], [(5, (.c .s))], []⟩) (.block (.seq none .leaf (.seq none .leaf (.seq none (.seq none .leaf (.block (.loop ⟨[6, 8, 15, 16, 17, 23, 24], [(5, (.c .s)), (9, (.c (.i .i64))), (25, (.c (.i .i64)))], []⟩ (.seq none .leaf (.seq none (.cond .leaf .leaf) (.seq (some ⟨[6, 8, 15, 16, 17, 23, 24, 25], [(5, (.c .s)), (9, (.c (.i .i64)))], []⟩) (.block (.seq none .leaf (.seq none (.seq none .leaf (.cond .leaf .leaf)) (.seq (some ⟨[6, 8, 9, 11, 15, 16, 17, 23, 24, 25], [(5, (.c .s))], []⟩) (.seq none .leaf (.cond .leaf .leaf)) .leaf)))) .leaf)))))) (.seq none .leaf (.cond .leaf .leaf)))))) .leaf)))))) (.seq none .leaf .leaf)))))
set_option maxRecDepth 100000 in
theorem bootmap_Less_den (f_bootmap_Merge : bootmap_Merge_T) : bootmap_Less_W (bootmap_Less_G f_bootmap_Merge) = curS [.c .s, .c .s] EnR fun vs K Kp A => denFnA Tryz.prog (tabA [(212, enS [.c .s] (bootmap_Merge_W f_bootmap_Merge))]) [8, 11] Tryz.f180 bootmap_Less_ann vs K (np false Kp) A := by kernel_rfl
set_option maxRecDepth 100000 in
theorem bootmap_Less_ok (hm : Tryz.prog.follows .mixedOrders = true) : EntryOK Tryz.prog 180 (upE (enS [.c .s, .c .s] (bootmap_Less_W bootmap_Less_A))) := entA hm (callingA_cons (bootmap_Merge_ok hm) callingA_nil) Tryz.call180 Tryz.func180 (by kernel_rfl) (by kernel_rfl) false (bootmap_Less_den bootmap_Merge_A)

def bootmap_Frames_ann : AnnA := (.seq none .leaf (.seq (some ⟨[0, 1, 5], [], []⟩) (.seq none .leaf (.cond (.seq none .leaf .leaf) .leaf)) (.seq none .leaf (.seq none (.seq none .leaf (.cond (.seq none .leaf .leaf) .leaf)) (.seq none .leaf (.seq none .leaf (.seq none (.seq none .leaf (.block (.loop ⟨[1, 50, 51], [(10, (.c .s)), (11, (.c .s)), (52, (.c (.i .i64)))], []⟩ (.seq none .leaf (.seq none (.cond .leaf .leaf) (.seq (some ⟨[1, 50, 51, 52], [(10, (.c .s)), (11, (.c .s))], []⟩) (.block (.seq none .leaf (.seq none .leaf (.seq none .leaf (.cond .leaf .leaf))))) .leaf)))))) (.seq none .leaf (.seq none (.seq none .leaf (.cond (.seq none .leaf .leaf) .leaf)) (.seq none .leaf .leaf))))))))))
set_option maxRecDepth 100000 in
theorem bootmap_Frames_den (f_bootmap_Parse : bootmap_Parse_T) (f_bootmap_Area_frames : bootmap_Area_frames_T) (f_bootmap_Less : bootmap_Less_T) : bootmap_Frames_W (bootmap_Frames_G f_bootmap_Parse f_bootmap_Area_frames f_bootmap_Less) = curS [.c .s, .c (.i .i64), .agg [(.i .i64), (.i .i64)]] EnR fun vs K Kp A => denFnA Tryz.prog (tabA [(178, enS [.c .s] (bootmap_Parse_W f_bootmap_Parse)), (179, enS [.agg [(.i .u64), (.i .u64), (.i .u32)], .c (.i .i64)] (bootmap_Area_frames_W f_bootmap_Area_frames)), (180, enS [.c .s, .c .s] (bootmap_Less_W f_bootmap_Less))]) [5, 13, 14] Tryz.f114 bootmap_Frames_ann vs K (np false Kp) A := by kernel_rfl
set_option maxRecDepth 100000 in
theorem bootmap_Frames_ok (hm : Tryz.prog.follows .mixedOrders = true) : EntryOK Tryz.prog 114 (upE (enS [.c .s, .c (.i .i64), .agg [(.i .i64), (.i .i64)]] (bootmap_Frames_W bootmap_Frames_A))) := entA hm (callingA_cons (bootmap_Parse_ok hm) (callingA_cons (bootmap_Area_frames_ok hm) (callingA_cons (bootmap_Less_ok hm) callingA_nil))) Tryz.call114 Tryz.func114 (by kernel_rfl) (by kernel_rfl) false (bootmap_Frames_den bootmap_Parse_A bootmap_Area_frames_A bootmap_Less_A)

def pcid_Tags_begin_ann : AnnA := .leaf
set_option maxRecDepth 100000 in
theorem pcid_Tags_begin_den : pcid_Tags_begin_W (pcid_Tags_begin_A) = curS [.c .p] EnR fun vs K Kp A => denFnA Tryz.prog (tabA []) [] Tryz.f181 pcid_Tags_begin_ann vs K (np false Kp) A := by kernel_rfl
set_option maxRecDepth 100000 in
theorem pcid_Tags_begin_ok (hm : Tryz.prog.follows .mixedOrders = true) : EntryOK Tryz.prog 181 (upE (enS [.c .p] (pcid_Tags_begin_W pcid_Tags_begin_A))) := entA hm callingA_nil Tryz.call181 Tryz.func181 (by kernel_rfl) (by kernel_rfl) false pcid_Tags_begin_den

def pcid_New_ann : AnnA := (.seq none .leaf (.seq none (.seq none .leaf (.cond (.seq none .leaf .leaf) .leaf)) (.seq none .leaf (.seq none .leaf (.seq none .leaf .leaf)))))
set_option maxRecDepth 100000 in
theorem pcid_New_den (f_pcid_Tags_begin : pcid_Tags_begin_T) : pcid_New_W (pcid_New_G f_pcid_Tags_begin) = curS [.c (.i .i64)] EnR fun vs K Kp A => denFnA Tryz.prog (tabA [(181, enS [.c .p] (pcid_Tags_begin_W f_pcid_Tags_begin))]) [] Tryz.f115 pcid_New_ann vs K (np false Kp) A := by kernel_rfl
set_option maxRecDepth 100000 in
theorem pcid_New_ok (hm : Tryz.prog.follows .mixedOrders = true) : EntryOK Tryz.prog 115 (upE (enS [.c (.i .i64)] (pcid_New_W pcid_New_A))) := entA hm (callingA_cons (pcid_Tags_begin_ok hm) callingA_nil) Tryz.call115 Tryz.func115 (by kernel_rfl) (by kernel_rfl) false (pcid_New_den pcid_Tags_begin_A)

def ram_New_ann : AnnA := (.seq none .leaf (.seq none (.seq none .leaf (.cond (.seq none .leaf .leaf) .leaf)) (.seq (some ⟨[0, 1], [], []⟩) (.seq none .leaf (.cond (.seq none .leaf .leaf) .leaf)) (.seq none (.seq none .leaf (.block (.loop ⟨[0, 1, 17, 18], [(19, (.c (.i .i64)))], []⟩ (.seq none .leaf (.seq none (.cond .leaf .leaf) (.seq none (.block (.seq none .leaf (.seq none .leaf (.cond (.seq none .leaf .leaf) .leaf)))) .leaf)))))) (.seq none .leaf .leaf)))))
set_option maxRecDepth 100000 in
theorem ram_New_den : ram_New_W (ram_New_A) = curS [.c (.i .i64), .c .s] EnR fun vs K Kp A => denFnA Tryz.prog (tabA []) [7] Tryz.f116 ram_New_ann vs K (np false Kp) A := by kernel_rfl
set_option maxRecDepth 100000 in
theorem ram_New_ok (hm : Tryz.prog.follows .mixedOrders = true) : EntryOK Tryz.prog 116 (upE (enS [.c (.i .i64), .c .s] (ram_New_W ram_New_A))) := entA hm callingA_nil Tryz.call116 Tryz.func116 (by kernel_rfl) (by kernel_rfl) false ram_New_den

def buddy_Buddy_add_ann : AnnA := (.seq none (.block (.loop ⟨[0], [(1, (.c (.i .i64))), (2, (.c (.i .i64)))], []⟩ (.seq none (.seq none (.draw 15) (.cond .leaf .leaf)) (.block (.seq none (.draw 10) (.seq none .leaf .leaf)))))) .leaf)
set_option maxRecDepth 100000 in
theorem buddy_Buddy_add_den : buddy_Buddy_add_W (buddy_Buddy_add_A) = curS [.c .p, .c (.i .i64), .c (.i .i64)] EnR fun vs K Kp A => denFnA Tryz.prog (tabA []) [] Tryz.f182 buddy_Buddy_add_ann vs K (np false Kp) A := by kernel_rfl
set_option maxRecDepth 100000 in
theorem buddy_Buddy_add_ok (hm : Tryz.prog.follows .mixedOrders = true) : EntryOK Tryz.prog 182 (upE (enS [.c .p, .c (.i .i64), .c (.i .i64)] (buddy_Buddy_add_W buddy_Buddy_add_A))) := entA hm callingA_nil Tryz.call182 Tryz.func182 (by kernel_rfl) (by kernel_rfl) false buddy_Buddy_add_den

def buddy_New_ann : AnnA := (.seq none .leaf (.seq none (.seq none .leaf (.cond (.seq none .leaf .leaf) .leaf)) (.seq none .leaf (.seq none (.seq none .leaf (.block (.loop ⟨[0, 16, 17], [(4, (.c (.i .i64))), (18, (.c (.i .i64)))], []⟩ (.seq none .leaf (.seq none (.cond .leaf .leaf) (.seq none (.block (.seq none .leaf (.seq none (.seq none .leaf (.cond (.seq none .leaf .leaf) .leaf)) .leaf))) .leaf)))))) (.seq none .leaf (.seq none (.seq none .leaf (.block (.loop ⟨[0, 7], [(44, (.c (.i .i64)))], []⟩ (.seq none .leaf (.seq none (.cond .leaf .leaf) (.seq none (.block (.seq none .leaf .leaf)) .leaf)))))) (.seq none (.seq none .leaf (.block (.loop ⟨[7, 54, 55], [(56, (.c (.i .i64)))], []⟩ (.seq none .leaf (.seq none (.cond .leaf .leaf) (.seq none (.block (.seq none .leaf (.seq none (.seq none .leaf (.block (.loop ⟨[7, 10, 54, 55, 56], [(11, (.c (.i .i64)))], []⟩ (.seq none (.seq none .leaf (.cond .leaf .leaf)) (.block (.seq none .leaf (.seq none (.block (.loop ⟨[7, 10, 11, 54, 55, 56], [(12, (.c (.i .i64)))], []⟩ (.seq none (.seq none (.draw 18) (.cond .leaf .leaf)) (.block .leaf)))) (.seq none .leaf .leaf)))))))) (.draw 12)))) .leaf)))))) (.seq none .leaf .leaf))))))))
set_option maxRecDepth 100000 in
theorem buddy_New_den (f_buddy_Buddy_add : buddy_Buddy_add_T) : buddy_New_W (buddy_New_G f_buddy_Buddy_add) = curS [.c .s] EnR fun vs K Kp A => denFnA Tryz.prog (tabA [(182, enS [.c .p, .c (.i .i64), .c (.i .i64)] (buddy_Buddy_add_W f_buddy_Buddy_add))]) [6, 10] Tryz.f117 buddy_New_ann vs K (np false Kp) A := by kernel_rfl
set_option maxRecDepth 100000 in
theorem buddy_New_ok (hm : Tryz.prog.follows .mixedOrders = true) : EntryOK Tryz.prog 117 (upE (enS [.c .s] (buddy_New_W buddy_New_A))) := entA hm (callingA_cons (buddy_Buddy_add_ok hm) callingA_nil) Tryz.call117 Tryz.func117 (by kernel_rfl) (by kernel_rfl) false (buddy_New_den buddy_Buddy_add_A)

def buddy_Buddy_Free_ann : AnnA := (.seq none .leaf (.seq none .leaf .leaf))
set_option maxRecDepth 100000 in
theorem buddy_Buddy_Free_den : buddy_Buddy_Free_W (buddy_Buddy_Free_A) = curS [.c .p] EnR fun vs K Kp A => denFnA Tryz.prog (tabA []) [] Tryz.f113 buddy_Buddy_Free_ann vs K (np false Kp) A := by kernel_rfl
set_option maxRecDepth 100000 in
theorem buddy_Buddy_Free_ok (hm : Tryz.prog.follows .mixedOrders = true) : EntryOK Tryz.prog 113 (upE (enS [.c .p] (buddy_Buddy_Free_W buddy_Buddy_Free_A))) := entA hm callingA_nil Tryz.call113 Tryz.func113 (by kernel_rfl) (by kernel_rfl) false buddy_Buddy_Free_den

def quota_New_ann : AnnA := (.seq none .leaf (.seq none (.seq none .leaf (.cond (.seq none .leaf .leaf) .leaf)) (.seq none .leaf .leaf)))
set_option maxRecDepth 100000 in
theorem quota_New_den : quota_New_W (quota_New_A) = curS [.c (.i .i64)] EnR fun vs K Kp A => denFnA Tryz.prog (tabA []) [] Tryz.f118 quota_New_ann vs K (np false Kp) A := by kernel_rfl
set_option maxRecDepth 100000 in
theorem quota_New_ok (hm : Tryz.prog.follows .mixedOrders = true) : EntryOK Tryz.prog 118 (upE (enS [.c (.i .i64)] (quota_New_W quota_New_A))) := entA hm callingA_nil Tryz.call118 Tryz.func118 (by kernel_rfl) (by kernel_rfl) false quota_New_den

def space_Machine_purse_ann : AnnA := (.seq none .leaf (.seq none (.draw 14) .leaf))
set_option maxRecDepth 100000 in
theorem space_Machine_purse_den : space_Machine_purse_W (space_Machine_purse_A) = curS [.c .p, .c (.i .i64)] EnR fun vs K Kp A => denFnA Tryz.prog (tabA []) [4] Tryz.f27 space_Machine_purse_ann vs K (np false Kp) A := by kernel_rfl
set_option maxRecDepth 100000 in
theorem space_Machine_purse_ok (hm : Tryz.prog.follows .mixedOrders = true) : EntryOK Tryz.prog 27 (upE (enS [.c .p, .c (.i .i64)] (space_Machine_purse_W space_Machine_purse_A))) := entA hm callingA_nil Tryz.call27 Tryz.func27 (by kernel_rfl) (by kernel_rfl) false space_Machine_purse_den

def quota_Tree_at_ann : AnnA := (.seq none .leaf (.seq none (.seq none .leaf (.cond (.seq none .leaf .leaf) .leaf)) (.seq none .leaf .leaf)))
set_option maxRecDepth 100000 in
theorem quota_Tree_at_den : quota_Tree_at_W (quota_Tree_at_A) = curS [.c .p, .c (.i .i64)] EnR fun vs K Kp A => denFnA Tryz.prog (tabA []) [] Tryz.f171 quota_Tree_at_ann vs K (np false Kp) A := by kernel_rfl
set_option maxRecDepth 100000 in
theorem quota_Tree_at_ok (hm : Tryz.prog.follows .mixedOrders = true) : EntryOK Tryz.prog 171 (upE (enS [.c .p, .c (.i .i64)] (quota_Tree_at_W quota_Tree_at_A))) := entA hm callingA_nil Tryz.call171 Tryz.func171 (by kernel_rfl) (by kernel_rfl) false quota_Tree_at_den

def quota_Tree_Room_ann : AnnA := (.seq none .leaf (.seq none .leaf (.seq none (.seq none .leaf (.cond (.seq none .leaf .leaf) .leaf)) (.seq none (.draw 15) .leaf))))
set_option maxRecDepth 100000 in
theorem quota_Tree_Room_den (f_quota_Tree_at : quota_Tree_at_T) : quota_Tree_Room_W (quota_Tree_Room_G f_quota_Tree_at) = curS [.c .p, .c (.i .i64)] EnR fun vs K Kp A => denFnA Tryz.prog (tabA [(171, enS [.c .p, .c (.i .i64)] (quota_Tree_at_W f_quota_Tree_at))]) [] Tryz.f172 quota_Tree_Room_ann vs K (np false Kp) A := by kernel_rfl
set_option maxRecDepth 100000 in
theorem quota_Tree_Room_ok (hm : Tryz.prog.follows .mixedOrders = true) : EntryOK Tryz.prog 172 (upE (enS [.c .p, .c (.i .i64)] (quota_Tree_Room_W quota_Tree_Room_A))) := entA hm (callingA_cons (quota_Tree_at_ok hm) callingA_nil) Tryz.call172 Tryz.func172 (by kernel_rfl) (by kernel_rfl) false (quota_Tree_Room_den quota_Tree_at_A)

def quota_Tree_Charge_ann : AnnA := (.seq none .leaf (.seq none .leaf (.seq none (.block (.seq none .leaf (.cond (.seq none .leaf .leaf) (.seq none .leaf (.cond (.seq none .leaf .leaf) (.seq none .leaf (.cond (.seq none .leaf .leaf) .leaf))))))) (.seq none .leaf (.seq none .leaf .leaf)))))
set_option maxRecDepth 100000 in
theorem quota_Tree_Charge_den (f_quota_Tree_at : quota_Tree_at_T) (f_quota_Tree_Room : quota_Tree_Room_T) : quota_Tree_Charge_W (quota_Tree_Charge_G f_quota_Tree_at f_quota_Tree_Room) = curS [.c .p, .c (.i .i64), .c (.i .i64)] EnR fun vs K Kp A => denFnA Tryz.prog (tabA [(171, enS [.c .p, .c (.i .i64)] (quota_Tree_at_W f_quota_Tree_at)), (172, enS [.c .p, .c (.i .i64)] (quota_Tree_Room_W f_quota_Tree_Room))]) [] Tryz.f121 quota_Tree_Charge_ann vs K (np false Kp) A := by kernel_rfl
set_option maxRecDepth 100000 in
theorem quota_Tree_Charge_ok (hm : Tryz.prog.follows .mixedOrders = true) : EntryOK Tryz.prog 121 (upE (enS [.c .p, .c (.i .i64), .c (.i .i64)] (quota_Tree_Charge_W quota_Tree_Charge_A))) := entA hm (callingA_cons (quota_Tree_at_ok hm) (callingA_cons (quota_Tree_Room_ok hm) callingA_nil)) Tryz.call121 Tryz.func121 (by kernel_rfl) (by kernel_rfl) false (quota_Tree_Charge_den quota_Tree_at_A quota_Tree_Room_A)

def maps_Keys_map_int_bool_int_bool_ann : AnnA := (.seq none .leaf (.seq none .leaf .leaf))
set_option maxRecDepth 100000 in
theorem maps_Keys_map_int_bool_int_bool_den : maps_Keys_map_int_bool_int_bool_W (maps_Keys_map_int_bool_int_bool_A) = curS [.c .m] EnR fun vs K Kp A => denFnA Tryz.prog (tabA []) [] Tryz.f185 maps_Keys_map_int_bool_int_bool_ann vs K (np false Kp) A := by kernel_rfl
set_option maxRecDepth 100000 in
theorem maps_Keys_map_int_bool_int_bool_ok (hm : Tryz.prog.follows .mixedOrders = true) : EntryOK Tryz.prog 185 (upE (enS [.c .m] (maps_Keys_map_int_bool_int_bool_W maps_Keys_map_int_bool_int_bool_A))) := entA hm callingA_nil Tryz.call185 Tryz.func185 (by kernel_rfl) (by kernel_rfl) false maps_Keys_map_int_bool_int_bool_den

shelf_lay_g SlLaysZI.n8 Ggz 8 at Tryz 96 as slices_Collect_int_l1
shelf_lay_g SlLaysZI.n7 Ggz 7 at Tryz 185 as slices_Collect_int_l2
theorem slices_Collect_int_ok (_hm : Tryz.prog.follows .mixedOrders = true) : EntryOK Tryz.prog 96 (upE (enS [.fn 213 [] [.p]] (slices_Collect_int_W slices_Collect_int_A))) :=
  collect_ok (ρ := slices_Collect_int_l1_ren) (ρ' := slices_Collect_int_l2_ren) slices_Collect_int_l1 { slices_Collect_int_l2 with } rfl rfl rfl rfl

def slices_Min_int_int_ann : AnnA := (.seq none .leaf (.seq (some ⟨[0], [], []⟩) (.seq none .leaf (.cond .leaf .leaf)) (.seq none .leaf (.seq none (.seq none .leaf (.block (.loop ⟨[0], [(3, (.c (.i .i64))), (4, (.c (.i .i64)))], []⟩ (.seq none (.seq none .leaf (.cond .leaf .leaf)) (.seq none (.block .leaf) .leaf))))) (.seq none .leaf .leaf)))))
set_option maxRecDepth 100000 in
theorem slices_Min_int_int_den : slices_Min_int_int_W (slices_Min_int_int_A) = curS [.c .s] EnR fun vs K Kp A => denFnA Tryz.prog (tabA []) [] Tryz.f184 slices_Min_int_int_ann vs K (np false Kp) A := by kernel_rfl
set_option maxRecDepth 100000 in
theorem slices_Min_int_int_ok (hm : Tryz.prog.follows .mixedOrders = true) : EntryOK Tryz.prog 184 (upE (enS [.c .s] (slices_Min_int_int_W slices_Min_int_int_A))) := entA hm callingA_nil Tryz.call184 Tryz.func184 (by kernel_rfl) (by kernel_rfl) false slices_Min_int_int_den

def buddy_Buddy_Take_ann : AnnA := (.seq none .leaf (.seq (some ⟨[0, 1], [], []⟩) (.seq none .leaf (.cond (.seq none .leaf .leaf) .leaf)) (.seq none .leaf (.seq (some ⟨[0, 1], [(6, (.c (.i .i64)))], []⟩) (.block (.loop ⟨[0, 1], [(6, (.c (.i .i64)))], []⟩ (.seq none (.seq none .leaf (.cond .leaf .leaf)) (.block .leaf)))) (.seq none (.seq none .leaf (.cond (.seq none .leaf .leaf) .leaf)) (.seq none .leaf (.seq none .leaf (.seq none (.block (.loop ⟨[0, 1, 7], [(6, (.c (.i .i64)))], []⟩ (.seq none (.seq none .leaf (.cond .leaf .leaf)) (.block (.seq none .leaf (.draw 10)))))) (.seq none .leaf (.seq none (.draw 9) (.seq none .leaf .leaf)))))))))))
set_option maxRecDepth 100000 in
theorem buddy_Buddy_Take_den (f_maps_Keys_map_int_bool_int_bool : maps_Keys_map_int_bool_int_bool_T) (f_slices_Collect_int : slices_Collect_int_T) (f_slices_Min_int_int : slices_Min_int_int_T) : buddy_Buddy_Take_W (buddy_Buddy_Take_G f_maps_Keys_map_int_bool_int_bool f_slices_Collect_int f_slices_Min_int_int) = curS [.c .p, .c (.i .i64)] EnR fun vs K Kp A => denFnA Tryz.prog (tabA [(185, enS [.c .m] (maps_Keys_map_int_bool_int_bool_W f_maps_Keys_map_int_bool_int_bool)), (96, enS [.fn 213 [] [.p]] (slices_Collect_int_W f_slices_Collect_int)), (184, enS [.c .s] (slices_Min_int_int_W f_slices_Min_int_int))]) [] Tryz.f122 buddy_Buddy_Take_ann vs K (np false Kp) A := by kernel_rfl
set_option maxRecDepth 100000 in
theorem buddy_Buddy_Take_ok (hm : Tryz.prog.follows .mixedOrders = true) : EntryOK Tryz.prog 122 (upE (enS [.c .p, .c (.i .i64)] (buddy_Buddy_Take_W buddy_Buddy_Take_A))) := entA hm (callingA_cons (maps_Keys_map_int_bool_int_bool_ok hm) (callingA_cons (slices_Collect_int_ok hm) (callingA_cons (slices_Min_int_int_ok hm) callingA_nil))) Tryz.call122 Tryz.func122 (by kernel_rfl) (by kernel_rfl) false (buddy_Buddy_Take_den maps_Keys_map_int_bool_int_bool_A slices_Collect_int_A slices_Min_int_int_A)

def ram_RAM_Has_ann : AnnA := (.seq none .leaf (.seq none (.seq none .leaf (.cond (.seq none .leaf .leaf) .leaf)) (.seq none (.seq none .leaf (.block (.loop ⟨[1, 20, 21], [(22, (.c (.i .i64)))], []⟩ (.seq none .leaf (.seq none (.cond .leaf .leaf) (.seq none (.block (.seq none .leaf (.seq none .leaf (.cond (.seq none .leaf .leaf) .leaf)))) .leaf)))))) (.seq none .leaf .leaf))))
set_option maxRecDepth 100000 in
theorem ram_RAM_Has_den : ram_RAM_Has_W (ram_RAM_Has_A) = curS [.c .p, .c (.i .i64)] EnR fun vs K Kp A => denFnA Tryz.prog (tabA []) [6] Tryz.f139 ram_RAM_Has_ann vs K (np false Kp) A := by kernel_rfl
set_option maxRecDepth 100000 in
theorem ram_RAM_Has_ok (hm : Tryz.prog.follows .mixedOrders = true) : EntryOK Tryz.prog 139 (upE (enS [.c .p, .c (.i .i64)] (ram_RAM_Has_W ram_RAM_Has_A))) := entA hm callingA_nil Tryz.call139 Tryz.func139 (by kernel_rfl) (by kernel_rfl) false ram_RAM_Has_den

def ram_RAM_Zero_ann : AnnA := (.seq none .leaf (.seq none (.seq none .leaf (.cond (.seq none .leaf .leaf) .leaf)) (.seq none .leaf (.seq none .leaf .leaf))))
set_option maxRecDepth 100000 in
theorem ram_RAM_Zero_den (f_ram_RAM_Has : ram_RAM_Has_T) : ram_RAM_Zero_W (ram_RAM_Zero_G f_ram_RAM_Has) = curS [.c .p, .c (.i .i64)] EnR fun vs K Kp A => denFnA Tryz.prog (tabA [(139, enS [.c .p, .c (.i .i64)] (ram_RAM_Has_W f_ram_RAM_Has))]) [] Tryz.f123 ram_RAM_Zero_ann vs K (np false Kp) A := by kernel_rfl
set_option maxRecDepth 100000 in
theorem ram_RAM_Zero_ok (hm : Tryz.prog.follows .mixedOrders = true) : EntryOK Tryz.prog 123 (upE (enS [.c .p, .c (.i .i64)] (ram_RAM_Zero_W ram_RAM_Zero_A))) := entA hm (callingA_cons (ram_RAM_Has_ok hm) callingA_nil) Tryz.call123 Tryz.func123 (by kernel_rfl) (by kernel_rfl) false (ram_RAM_Zero_den ram_RAM_Has_A)

def buddy_Buddy_Give_ann : AnnA := (.seq none .leaf (.seq none .leaf (.seq none (.seq none .leaf (.cond (.seq none .leaf .leaf) .leaf)) (.seq none .leaf (.seq none (.draw 9) (.seq none .leaf (.seq none .leaf .leaf)))))))
set_option maxRecDepth 100000 in
theorem buddy_Buddy_Give_den (f_buddy_Buddy_add : buddy_Buddy_add_T) : buddy_Buddy_Give_W (buddy_Buddy_Give_G f_buddy_Buddy_add) = curS [.c .p, .c (.i .i64)] EnR fun vs K Kp A => denFnA Tryz.prog (tabA [(182, enS [.c .p, .c (.i .i64), .c (.i .i64)] (buddy_Buddy_add_W f_buddy_Buddy_add))]) [] Tryz.f124 buddy_Buddy_Give_ann vs K (np false Kp) A := by kernel_rfl
set_option maxRecDepth 100000 in
theorem buddy_Buddy_Give_ok (hm : Tryz.prog.follows .mixedOrders = true) : EntryOK Tryz.prog 124 (upE (enS [.c .p, .c (.i .i64)] (buddy_Buddy_Give_W buddy_Buddy_Give_A))) := entA hm (callingA_cons (buddy_Buddy_add_ok hm) callingA_nil) Tryz.call124 Tryz.func124 (by kernel_rfl) (by kernel_rfl) false (buddy_Buddy_Give_den buddy_Buddy_add_A)

def quota_Tree_Credit_ann : AnnA := (.seq none .leaf (.seq none .leaf (.seq none (.block (.seq none .leaf (.cond (.seq none .leaf .leaf) (.seq none .leaf (.cond (.seq none .leaf .leaf) .leaf))))) (.seq none .leaf (.seq none .leaf .leaf)))))
set_option maxRecDepth 100000 in
theorem quota_Tree_Credit_den (f_quota_Tree_at : quota_Tree_at_T) : quota_Tree_Credit_W (quota_Tree_Credit_G f_quota_Tree_at) = curS [.c .p, .c (.i .i64), .c (.i .i64)] EnR fun vs K Kp A => denFnA Tryz.prog (tabA [(171, enS [.c .p, .c (.i .i64)] (quota_Tree_at_W f_quota_Tree_at))]) [] Tryz.f125 quota_Tree_Credit_ann vs K (np false Kp) A := by kernel_rfl
set_option maxRecDepth 100000 in
theorem quota_Tree_Credit_ok (hm : Tryz.prog.follows .mixedOrders = true) : EntryOK Tryz.prog 125 (upE (enS [.c .p, .c (.i .i64), .c (.i .i64)] (quota_Tree_Credit_W quota_Tree_Credit_A))) := entA hm (callingA_cons (quota_Tree_at_ok hm) callingA_nil) Tryz.call125 Tryz.func125 (by kernel_rfl) (by kernel_rfl) false (quota_Tree_Credit_den quota_Tree_at_A)

def table_Purse_Take_ann : AnnA := (.seq none .leaf (.seq none (.seq none .leaf (.seq none .leaf (.cond (.seq none .leaf .leaf) .leaf))) (.seq none .leaf (.seq (some ⟨[1], [(6, (.c (.i .i64)))], []⟩) (.seq none .leaf (.cond (.seq none (.seq none .leaf (.seq none .leaf (.cond (.seq none .leaf .leaf) .leaf))) .leaf) .leaf)) (.seq none .leaf (.seq none .leaf .leaf))))))
set_option maxRecDepth 100000 in
theorem table_Purse_Take_den (f_quota_Tree_Charge : quota_Tree_Charge_T) (f_buddy_Buddy_Take : buddy_Buddy_Take_T) (f_ram_RAM_Zero : ram_RAM_Zero_T) (f_buddy_Buddy_Give : buddy_Buddy_Give_T) (f_quota_Tree_Credit : quota_Tree_Credit_T) : table_Purse_Take_W (table_Purse_Take_G f_quota_Tree_Charge f_buddy_Buddy_Take f_ram_RAM_Zero f_buddy_Buddy_Give f_quota_Tree_Credit) = curS [.agg [.p, .p, .p, (.i .i64)]] EnR fun vs K Kp A => denFnA Tryz.prog (tabA [(121, enS [.c .p, .c (.i .i64), .c (.i .i64)] (quota_Tree_Charge_W f_quota_Tree_Charge)), (122, enS [.c .p, .c (.i .i64)] (buddy_Buddy_Take_W f_buddy_Buddy_Take)), (123, enS [.c .p, .c (.i .i64)] (ram_RAM_Zero_W f_ram_RAM_Zero)), (124, enS [.c .p, .c (.i .i64)] (buddy_Buddy_Give_W f_buddy_Buddy_Give)), (125, enS [.c .p, .c (.i .i64), .c (.i .i64)] (quota_Tree_Credit_W f_quota_Tree_Credit))]) [1] Tryz.f59 table_Purse_Take_ann vs K (np false Kp) A := by kernel_rfl
set_option maxRecDepth 100000 in
theorem table_Purse_Take_ok (hm : Tryz.prog.follows .mixedOrders = true) : EntryOK Tryz.prog 59 (upE (enS [.agg [.p, .p, .p, (.i .i64)]] (table_Purse_Take_W table_Purse_Take_A))) := entA hm (callingA_cons (quota_Tree_Charge_ok hm) (callingA_cons (buddy_Buddy_Take_ok hm) (callingA_cons (ram_RAM_Zero_ok hm) (callingA_cons (buddy_Buddy_Give_ok hm) (callingA_cons (quota_Tree_Credit_ok hm) callingA_nil))))) Tryz.call59 Tryz.func59 (by kernel_rfl) (by kernel_rfl) false (table_Purse_Take_den quota_Tree_Charge_A buddy_Buddy_Take_A ram_RAM_Zero_A buddy_Buddy_Give_A quota_Tree_Credit_A)

def ram_RAM_Frames_ann : AnnA := (.seq none .leaf (.seq none .leaf .leaf))
set_option maxRecDepth 100000 in
theorem ram_RAM_Frames_den : ram_RAM_Frames_W (ram_RAM_Frames_A) = curS [.c .p] EnR fun vs K Kp A => denFnA Tryz.prog (tabA []) [] Tryz.f183 ram_RAM_Frames_ann vs K (np false Kp) A := by kernel_rfl
set_option maxRecDepth 100000 in
theorem ram_RAM_Frames_ok (hm : Tryz.prog.follows .mixedOrders = true) : EntryOK Tryz.prog 183 (upE (enS [.c .p] (ram_RAM_Frames_W ram_RAM_Frames_A))) := entA hm callingA_nil Tryz.call183 Tryz.func183 (by kernel_rfl) (by kernel_rfl) false ram_RAM_Frames_den

def table_Purse_Give_ann : AnnA := (.seq none .leaf (.seq none .leaf .leaf))
set_option maxRecDepth 100000 in
theorem table_Purse_Give_den (f_buddy_Buddy_Give : buddy_Buddy_Give_T) (f_quota_Tree_Credit : quota_Tree_Credit_T) : table_Purse_Give_W (table_Purse_Give_G f_buddy_Buddy_Give f_quota_Tree_Credit) = curS [.agg [.p, .p, .p, (.i .i64)], .c (.i .i64)] EnR fun vs K Kp A => denFnA Tryz.prog (tabA [(124, enS [.c .p, .c (.i .i64)] (buddy_Buddy_Give_W f_buddy_Buddy_Give)), (125, enS [.c .p, .c (.i .i64), .c (.i .i64)] (quota_Tree_Credit_W f_quota_Tree_Credit))]) [2] Tryz.f80 table_Purse_Give_ann vs K (np false Kp) A := by kernel_rfl
set_option maxRecDepth 100000 in
theorem table_Purse_Give_ok (hm : Tryz.prog.follows .mixedOrders = true) : EntryOK Tryz.prog 80 (upE (enS [.agg [.p, .p, .p, (.i .i64)], .c (.i .i64)] (table_Purse_Give_W table_Purse_Give_A))) := entA hm (callingA_cons (buddy_Buddy_Give_ok hm) (callingA_cons (quota_Tree_Credit_ok hm) callingA_nil)) Tryz.call80 Tryz.func80 (by kernel_rfl) (by kernel_rfl) false (table_Purse_Give_den buddy_Buddy_Give_A quota_Tree_Credit_A)

def pte_Entry_flags_ann : AnnA := (.seq none .leaf (.seq none (.draw 25) .leaf))
set_option maxRecDepth 100000 in
theorem pte_Entry_flags_den : pte_Entry_flags_W (pte_Entry_flags_A) = curS [.c .p] EnR fun vs K Kp A => denFnA Tryz.prog (tabA []) [2] Tryz.f186 pte_Entry_flags_ann vs K (np false Kp) A := by kernel_rfl
set_option maxRecDepth 100000 in
theorem pte_Entry_flags_ok (hm : Tryz.prog.follows .mixedOrders = true) : EntryOK Tryz.prog 186 (upE (enS [.c .p] (pte_Entry_flags_W pte_Entry_flags_A))) := entA hm callingA_nil Tryz.call186 Tryz.func186 (by kernel_rfl) (by kernel_rfl) false pte_Entry_flags_den

def pte_places_ann : AnnA := (.seq none .leaf (.seq none .leaf .leaf))
set_option maxRecDepth 100000 in
theorem pte_places_den : pte_places_W (pte_places_A) = curS [] EnR fun vs K Kp A => denFnA Tryz.prog (tabA []) [0] Tryz.f187 pte_places_ann vs K (np false Kp) A := by kernel_rfl
set_option maxRecDepth 100000 in
theorem pte_places_ok (hm : Tryz.prog.follows .mixedOrders = true) : EntryOK Tryz.prog 187 (upE (enS [] (pte_places_W pte_places_A))) := entA hm callingA_nil Tryz.call187 Tryz.func187 (by kernel_rfl) (by kernel_rfl) false pte_places_den

def pte_Pack_ann : AnnA := (.seq none .leaf (.seq (some ⟨[1], [], []⟩) (.seq none .leaf (.cond (.seq none .leaf .leaf) .leaf)) (.seq none .leaf (.seq none (.seq none .leaf (.block (.loop ⟨[19], [(4, (.c (.i .u64))), (20, (.c (.i .i64)))], []⟩ (.seq none .leaf (.seq none (.cond .leaf .leaf) (.seq (some ⟨[19, 20], [(4, (.c (.i .u64)))], []⟩) (.block (.seq none .leaf (.seq none .leaf (.cond .leaf .leaf)))) .leaf)))))) (.seq none .leaf .leaf)))))
set_option maxRecDepth 100000 in
theorem pte_Pack_den (f_pte_Entry_flags : pte_Entry_flags_T) (f_pte_places : pte_places_T) : pte_Pack_W (pte_Pack_G f_pte_Entry_flags f_pte_places) = curS [.agg [.b, .b, .b, .b, .b, .b, .b, .b, (.i .i64)]] EnR fun vs K Kp A => denFnA Tryz.prog (tabA [(186, enS [.c .p] (pte_Entry_flags_W f_pte_Entry_flags)), (187, enS [] (pte_places_W f_pte_places))]) [] Tryz.f126 pte_Pack_ann vs K (np false Kp) A := by kernel_rfl
set_option maxRecDepth 100000 in
theorem pte_Pack_ok (hm : Tryz.prog.follows .mixedOrders = true) : EntryOK Tryz.prog 126 (upE (enS [.agg [.b, .b, .b, .b, .b, .b, .b, .b, (.i .i64)]] (pte_Pack_W pte_Pack_A))) := entA hm (callingA_cons (pte_Entry_flags_ok hm) (callingA_cons (pte_places_ok hm) callingA_nil)) Tryz.call126 Tryz.func126 (by kernel_rfl) (by kernel_rfl) false (pte_Pack_den pte_Entry_flags_A pte_places_A)

def table_place_ann : AnnA := (.seq none .leaf (.seq none .leaf .leaf))
set_option maxRecDepth 100000 in
theorem table_place_den : table_place_W (table_place_A) = curS [.c (.i .i64), .c (.i .i64)] EnR fun vs K Kp A => denFnA Tryz.prog (tabA []) [] Tryz.f127 table_place_ann vs K (np false Kp) A := by kernel_rfl
set_option maxRecDepth 100000 in
theorem table_place_ok (hm : Tryz.prog.follows .mixedOrders = true) : EntryOK Tryz.prog 127 (upE (enS [.c (.i .i64), .c (.i .i64)] (table_place_W table_place_A))) := entA hm callingA_nil Tryz.call127 Tryz.func127 (by kernel_rfl) (by kernel_rfl) false table_place_den

def ram_RAM_check_ann : AnnA := (.seq none .leaf (.seq none (.seq none .leaf (.block (.seq (some ⟨[0, 1, 2], [(9, (.c .b))], []⟩) (.seq none .leaf (.cond .leaf (.seq none .leaf (.cond .leaf (.seq none .leaf (.cond .leaf .leaf)))))) (.cond .leaf (.seq none .leaf .leaf))))) (.seq none .leaf (.seq none (.seq none .leaf (.cond (.seq none .leaf .leaf) .leaf)) (.seq none .leaf .leaf)))))
set_option maxRecDepth 100000 in
theorem ram_RAM_check_den (f_ram_RAM_Has : ram_RAM_Has_T) : ram_RAM_check_W (ram_RAM_check_G f_ram_RAM_Has) = curS [.c .p, .c (.i .u64), .c (.i .i64)] EnR fun vs K Kp A => denFnA Tryz.prog (tabA [(139, enS [.c .p, .c (.i .i64)] (ram_RAM_Has_W f_ram_RAM_Has))]) [] Tryz.f75 ram_RAM_check_ann vs K (np false Kp) A := by kernel_rfl
set_option maxRecDepth 100000 in
theorem ram_RAM_check_ok (hm : Tryz.prog.follows .mixedOrders = true) : EntryOK Tryz.prog 75 (upE (enS [.c .p, .c (.i .u64), .c (.i .i64)] (ram_RAM_check_W ram_RAM_check_A))) := entA hm (callingA_cons (ram_RAM_Has_ok hm) callingA_nil) Tryz.call75 Tryz.func75 (by kernel_rfl) (by kernel_rfl) false (ram_RAM_check_den ram_RAM_Has_A)

def ram_RAM_own_ann : AnnA := (.seq none .leaf (.seq none .leaf (.seq (some ⟨[], [(5, (.c .p))], []⟩) (.seq none .leaf (.cond (.seq none .leaf .leaf) .leaf)) (.seq none .leaf .leaf))))
set_option maxRecDepth 100000 in
theorem ram_RAM_own_den : ram_RAM_own_W (ram_RAM_own_A) = curS [.c .p, .c (.i .i64)] EnR fun vs K Kp A => denFnA Tryz.prog (tabA []) [] Tryz.f76 ram_RAM_own_ann vs K (np false Kp) A := by kernel_rfl
set_option maxRecDepth 100000 in
theorem ram_RAM_own_ok (hm : Tryz.prog.follows .mixedOrders = true) : EntryOK Tryz.prog 76 (upE (enS [.c .p, .c (.i .i64)] (ram_RAM_own_W ram_RAM_own_A))) := entA hm callingA_nil Tryz.call76 Tryz.func76 (by kernel_rfl) (by kernel_rfl) false ram_RAM_own_den

def ram_RAM_Store_ann : AnnA := (.seq none .leaf (.seq none (.seq none .leaf (.seq none .leaf (.cond (.seq none .leaf .leaf) .leaf))) (.seq none (.seq none .leaf (.block (.loop ⟨[0, 1, 3, 19], [(20, (.c (.i .i64)))], []⟩ (.seq none .leaf (.seq none (.cond .leaf .leaf) (.seq none (.block (.seq none .leaf (.seq none .leaf (.drawS [0, 1, 2, 3, 5, 6, 7, 8, 9, 10, 11, 4, 12, 13, 14] [])))) .leaf)))))) (.seq none .leaf .leaf))))
set_option maxRecDepth 100000 in
theorem ram_RAM_Store_den (f_ram_RAM_check : ram_RAM_check_T) (f_ram_RAM_own : ram_RAM_own_T) : ram_RAM_Store_W (ram_RAM_Store_G f_ram_RAM_check f_ram_RAM_own) = curS [.c .p, .c (.i .u64), .c (.i .i64), .c (.i .u64)] EnR fun vs K Kp A => denFnA Tryz.prog (tabA [(75, enS [.c .p, .c (.i .u64), .c (.i .i64)] (ram_RAM_check_W f_ram_RAM_check)), (76, enS [.c .p, .c (.i .i64)] (ram_RAM_own_W f_ram_RAM_own))]) [] Tryz.f32 ram_RAM_Store_ann vs K (np false Kp) A := by kernel_rfl
set_option maxRecDepth 100000 in
theorem ram_RAM_Store_ok (hm : Tryz.prog.follows .mixedOrders = true) : EntryOK Tryz.prog 32 (upE (enS [.c .p, .c (.i .u64), .c (.i .i64), .c (.i .u64)] (ram_RAM_Store_W ram_RAM_Store_A))) := entA hm (callingA_cons (ram_RAM_check_ok hm) (callingA_cons (ram_RAM_own_ok hm) callingA_nil)) Tryz.call32 Tryz.func32 (by kernel_rfl) (by kernel_rfl) false (ram_RAM_Store_den ram_RAM_check_A ram_RAM_own_A)

def table_Purse_put_ann : AnnA := (.seq none .leaf (.seq none .leaf (.drawS [0, 2, 3, 5, 1, 4, 6] [])))
set_option maxRecDepth 100000 in
theorem table_Purse_put_den (f_pte_Pack : pte_Pack_T) (f_table_place : table_place_T) (f_ram_RAM_Store : ram_RAM_Store_T) : table_Purse_put_W (table_Purse_put_G f_pte_Pack f_table_place f_ram_RAM_Store) = curS [.agg [.p, .p, .p, (.i .i64)], .c (.i .i64), .c (.i .i64), .agg [.b, .b, .b, .b, .b, .b, .b, .b, (.i .i64)]] EnR fun vs K Kp A => denFnA Tryz.prog (tabA [(126, enS [.agg [.b, .b, .b, .b, .b, .b, .b, .b, (.i .i64)]] (pte_Pack_W f_pte_Pack)), (127, enS [.c (.i .i64), .c (.i .i64)] (table_place_W f_table_place)), (32, enS [.c .p, .c (.i .u64), .c (.i .i64), .c (.i .u64)] (ram_RAM_Store_W f_ram_RAM_Store))]) [4, 7] Tryz.f60 table_Purse_put_ann vs K (np false Kp) A := by kernel_rfl
set_option maxRecDepth 100000 in
theorem table_Purse_put_ok (hm : Tryz.prog.follows .mixedOrders = true) : EntryOK Tryz.prog 60 (upE (enS [.agg [.p, .p, .p, (.i .i64)], .c (.i .i64), .c (.i .i64), .agg [.b, .b, .b, .b, .b, .b, .b, .b, (.i .i64)]] (table_Purse_put_W table_Purse_put_A))) := entA hm (callingA_cons (pte_Pack_ok hm) (callingA_cons (table_place_ok hm) (callingA_cons (ram_RAM_Store_ok hm) callingA_nil))) Tryz.call60 Tryz.func60 (by kernel_rfl) (by kernel_rfl) false (table_Purse_put_den pte_Pack_A table_place_A ram_RAM_Store_A)

def table_Kernel_ann : AnnA := (.seq none .leaf (.seq none .leaf (.seq none (.seq none .leaf (.cond (.seq none .leaf .leaf) .leaf)) (.seq none .leaf (.seq none (.seq none .leaf (.block (.loop ⟨[1, 4], [(6, (.c .s)), (7, (.c (.i .i64)))], []⟩ (.seq none (.seq none .leaf (.cond .leaf .leaf)) (.seq none (.block (.seq none .leaf (.seq none (.seq none .leaf (.cond (.seq none (.seq none .leaf (.block (.loop ⟨[1, 9, 37, 38], [(39, (.c (.i .i64)))], []⟩ (.seq none .leaf (.seq none (.cond .leaf .leaf) (.seq none (.block (.seq none .leaf .leaf)) .leaf)))))) (.seq none .leaf .leaf)) .leaf)) (.seq none .leaf (.seq none .leaf (.seq none .leaf (.block (.loop ⟨[1, 4, 6, 7, 8], [(12, (.c (.i .i64)))], []⟩ (.seq none (.seq none .leaf (.cond .leaf .leaf)) (.seq none (.block .leaf) .leaf)))))))))) .leaf))))) (.seq none .leaf .leaf))))))
set_option maxRecDepth 100000 in
theorem table_Kernel_den (f_table_Purse_Take : table_Purse_Take_T) (f_ram_RAM_Frames : ram_RAM_Frames_T) (f_table_Purse_Give : table_Purse_Give_T) (f_table_Purse_put : table_Purse_put_T) : table_Kernel_W (table_Kernel_G f_table_Purse_Take f_ram_RAM_Frames f_table_Purse_Give f_table_Purse_put) = curS [.agg [.p, .p, .p, (.i .i64)]] EnR fun vs K Kp A => denFnA Tryz.prog (tabA [(59, enS [.agg [.p, .p, .p, (.i .i64)]] (table_Purse_Take_W f_table_Purse_Take)), (183, enS [.c .p] (ram_RAM_Frames_W f_ram_RAM_Frames)), (80, enS [.agg [.p, .p, .p, (.i .i64)], .c (.i .i64)] (table_Purse_Give_W f_table_Purse_Give)), (60, enS [.agg [.p, .p, .p, (.i .i64)], .c (.i .i64), .c (.i .i64), .agg [.b, .b, .b, .b, .b, .b, .b, .b, (.i .i64)]] (table_Purse_put_W f_table_Purse_put))]) [1] Tryz.f119 table_Kernel_ann vs K (np false Kp) A := by kernel_rfl
set_option maxRecDepth 100000 in
theorem table_Kernel_ok (hm : Tryz.prog.follows .mixedOrders = true) : EntryOK Tryz.prog 119 (upE (enS [.agg [.p, .p, .p, (.i .i64)]] (table_Kernel_W table_Kernel_A))) := entA hm (callingA_cons (table_Purse_Take_ok hm) (callingA_cons (ram_RAM_Frames_ok hm) (callingA_cons (table_Purse_Give_ok hm) (callingA_cons (table_Purse_put_ok hm) callingA_nil)))) Tryz.call119 Tryz.func119 (by kernel_rfl) (by kernel_rfl) false (table_Kernel_den table_Purse_Take_A ram_RAM_Frames_A table_Purse_Give_A table_Purse_put_A)

def space_Boot_ann : AnnA := (.seq none .leaf (.seq none .leaf (.seq none (.seq none .leaf (.cond (.seq none .leaf .leaf) .leaf)) (.seq none .leaf (.seq none (.seq none .leaf (.cond (.seq none .leaf .leaf) .leaf)) (.seq none .leaf (.seq none .leaf (.seq none (.seq none .leaf (.seq none .leaf (.cond (.seq none .leaf .leaf) .leaf))) (.seq none .leaf (.seq none (.seq none .leaf (.seq none .leaf (.cond (.seq none .leaf .leaf) .leaf))) (.seq none .leaf .leaf)))))))))))
set_option maxRecDepth 100000 in
theorem space_Boot_den (f_bootmap_Frames : bootmap_Frames_T) (f_pcid_New : pcid_New_T) (f_ram_New : ram_New_T) (f_buddy_New : buddy_New_T) (f_buddy_Buddy_Free : buddy_Buddy_Free_T) (f_quota_New : quota_New_T) (f_space_Machine_purse : space_Machine_purse_T) (f_table_Kernel : table_Kernel_T) : space_Boot_W (space_Boot_G f_bootmap_Frames f_pcid_New f_ram_New f_buddy_New f_buddy_Buddy_Free f_quota_New f_space_Machine_purse f_table_Kernel) = curS [.agg [(.i .i64), (.i .i64), (.i .i64), (.i .i64), .s]] EnR fun vs K Kp A => denFnA Tryz.prog (tabA [(114, enS [.c .s, .c (.i .i64), .agg [(.i .i64), (.i .i64)]] (bootmap_Frames_W f_bootmap_Frames)), (115, enS [.c (.i .i64)] (pcid_New_W f_pcid_New)), (116, enS [.c (.i .i64), .c .s] (ram_New_W f_ram_New)), (117, enS [.c .s] (buddy_New_W f_buddy_New)), (113, enS [.c .p] (buddy_Buddy_Free_W f_buddy_Buddy_Free)), (118, enS [.c (.i .i64)] (quota_New_W f_quota_New)), (27, enS [.c .p, .c (.i .i64)] (space_Machine_purse_W f_space_Machine_purse)), (119, enS [.agg [.p, .p, .p, (.i .i64)]] (table_Kernel_W f_table_Kernel))]) [1] Tryz.f57 space_Boot_ann vs K (np false Kp) A := by kernel_rfl
set_option maxRecDepth 100000 in
theorem space_Boot_ok (hm : Tryz.prog.follows .mixedOrders = true) : EntryOK Tryz.prog 57 (upE (enS [.agg [(.i .i64), (.i .i64), (.i .i64), (.i .i64), .s]] (space_Boot_W space_Boot_A))) := entA hm (callingA_cons (bootmap_Frames_ok hm) (callingA_cons (pcid_New_ok hm) (callingA_cons (ram_New_ok hm) (callingA_cons (buddy_New_ok hm) (callingA_cons (buddy_Buddy_Free_ok hm) (callingA_cons (quota_New_ok hm) (callingA_cons (space_Machine_purse_ok hm) (callingA_cons (table_Kernel_ok hm) callingA_nil)))))))) Tryz.call57 Tryz.func57 (by kernel_rfl) (by kernel_rfl) false (space_Boot_den bootmap_Frames_A pcid_New_A ram_New_A buddy_New_A buddy_Buddy_Free_A quota_New_A space_Machine_purse_A table_Kernel_A)

def demesnelaw12_Begin_ann : AnnA := (.seq none .leaf (.seq none .leaf (.seq none .leaf .leaf)))
set_option maxRecDepth 100000 in
theorem demesnelaw12_Begin_den (f_demesnelaw12_Plain : demesnelaw12_Plain_T) (f_space_Boot : space_Boot_T) : demesnelaw12_Begin_W (demesnelaw12_Begin_G f_demesnelaw12_Plain f_space_Boot) = curS [.c (.i .i64), .c (.i .i64)] EnR fun vs K Kp A => denFnA Tryz.prog (tabA [(58, enS [.c (.i .i64), .c (.i .i64)] (demesnelaw12_Plain_W f_demesnelaw12_Plain)), (57, enS [.agg [(.i .i64), (.i .i64), (.i .i64), (.i .i64), .s]] (space_Boot_W f_space_Boot))]) [5] Tryz.f24 demesnelaw12_Begin_ann vs K (np false Kp) A := by kernel_rfl
set_option maxRecDepth 100000 in
theorem demesnelaw12_Begin_ok (hm : Tryz.prog.follows .mixedOrders = true) : EntryOK Tryz.prog 24 (upE (enS [.c (.i .i64), .c (.i .i64)] (demesnelaw12_Begin_W demesnelaw12_Begin_A))) := entA hm (callingA_cons (demesnelaw12_Plain_ok hm) (callingA_cons (space_Boot_ok hm) callingA_nil)) Tryz.call24 Tryz.func24 (by kernel_rfl) (by kernel_rfl) false (demesnelaw12_Begin_den demesnelaw12_Plain_A space_Boot_A)

def cpu_New_ann : AnnA := (.seq none .leaf (.seq none .leaf .leaf))
set_option maxRecDepth 100000 in
theorem cpu_New_den : cpu_New_W (cpu_New_A) = curS [.c .p, .c .s] EnR fun vs K Kp A => denFnA Tryz.prog (tabA []) [] Tryz.f25 cpu_New_ann vs K (np false Kp) A := by kernel_rfl
set_option maxRecDepth 100000 in
theorem cpu_New_ok (hm : Tryz.prog.follows .mixedOrders = true) : EntryOK Tryz.prog 25 (upE (enS [.c .p, .c .s] (cpu_New_W cpu_New_A))) := entA hm callingA_nil Tryz.call25 Tryz.func25 (by kernel_rfl) (by kernel_rfl) false cpu_New_den

def demesnelaw13_Begin_ann : AnnA := (.seq none .leaf (.seq none .leaf (.seq none .leaf (.seq none (.seq none .leaf (.cond (.seq none (.draw 2) .leaf) .leaf)) (.seq none .leaf (.seq none (.drawS [0, 2, 3, 4, 1, 5, 6] []) .leaf))))))
set_option maxRecDepth 100000 in
theorem demesnelaw13_Begin_den (f_demesnelaw12_Begin : demesnelaw12_Begin_T) (f_cpu_New : cpu_New_T) : demesnelaw13_Begin_W (demesnelaw13_Begin_G f_demesnelaw12_Begin f_cpu_New) = curS [.c (.i .i64), .c (.i .i64), .c .s] EnR fun vs K Kp A => denFnA Tryz.prog (tabA [(24, enS [.c (.i .i64), .c (.i .i64)] (demesnelaw12_Begin_W f_demesnelaw12_Begin)), (25, enS [.c .p, .c .s] (cpu_New_W f_cpu_New))]) [7, 10, 12] Tryz.f9 demesnelaw13_Begin_ann vs K (np false Kp) A := by kernel_rfl
set_option maxRecDepth 100000 in
theorem demesnelaw13_Begin_ok (hm : Tryz.prog.follows .mixedOrders = true) : EntryOK Tryz.prog 9 (upE (enS [.c (.i .i64), .c (.i .i64), .c .s] (demesnelaw13_Begin_W demesnelaw13_Begin_A))) := entA hm (callingA_cons (demesnelaw12_Begin_ok hm) (callingA_cons (cpu_New_ok hm) callingA_nil)) Tryz.call9 Tryz.func9 (by kernel_rfl) (by kernel_rfl) false (demesnelaw13_Begin_den demesnelaw12_Begin_A cpu_New_A)

def table_Root_ann : AnnA := (.seq none .leaf (.seq none .leaf (.seq none (.seq none .leaf (.cond (.seq none .leaf .leaf) .leaf)) (.seq none .leaf (.seq none .leaf .leaf)))))
set_option maxRecDepth 100000 in
theorem table_Root_den (f_table_Purse_Take : table_Purse_Take_T) (f_table_Purse_put : table_Purse_put_T) : table_Root_W (table_Root_G f_table_Purse_Take f_table_Purse_put) = curS [.agg [.p, .p, .p, (.i .i64)], .c (.i .i64)] EnR fun vs K Kp A => denFnA Tryz.prog (tabA [(59, enS [.agg [.p, .p, .p, (.i .i64)]] (table_Purse_Take_W f_table_Purse_Take)), (60, enS [.agg [.p, .p, .p, (.i .i64)], .c (.i .i64), .c (.i .i64), .agg [.b, .b, .b, .b, .b, .b, .b, .b, (.i .i64)]] (table_Purse_put_W f_table_Purse_put))]) [2] Tryz.f26 table_Root_ann vs K (np false Kp) A := by kernel_rfl
set_option maxRecDepth 100000 in
theorem table_Root_ok (hm : Tryz.prog.follows .mixedOrders = true) : EntryOK Tryz.prog 26 (upE (enS [.agg [.p, .p, .p, (.i .i64)], .c (.i .i64)] (table_Root_W table_Root_A))) := entA hm (callingA_cons (table_Purse_Take_ok hm) (callingA_cons (table_Purse_put_ok hm) callingA_nil)) Tryz.call26 Tryz.func26 (by kernel_rfl) (by kernel_rfl) false (table_Root_den table_Purse_Take_A table_Purse_put_A)

def space_Machine_Open_ann : AnnA := (.seq none .leaf (.seq none (.seq none .leaf (.cond (.seq none .leaf .leaf) .leaf)) (.seq none (.seq none .leaf (.cond (.seq none .leaf .leaf) .leaf)) (.seq none (.drawS [0, 1, 3, 4, 5, 6, 2, 7, 8, 9, 10, 11, 12] []) (.seq none (.seq none .leaf (.cond (.seq none .leaf .leaf) .leaf)) (.seq none .leaf (.seq none .leaf .leaf)))))))
set_option maxRecDepth 100000 in
theorem space_Machine_Open_den (f_space_Machine_purse : space_Machine_purse_T) (f_table_Root : table_Root_T) : space_Machine_Open_W (space_Machine_Open_G f_space_Machine_purse f_table_Root) = curS [.c .p, .c (.i .i64), .c (.i .i64)] EnR fun vs K Kp A => denFnA Tryz.prog (tabA [(27, enS [.c .p, .c (.i .i64)] (space_Machine_purse_W f_space_Machine_purse)), (26, enS [.agg [.p, .p, .p, (.i .i64)], .c (.i .i64)] (table_Root_W f_table_Root))]) [] Tryz.f11 space_Machine_Open_ann vs K (np false Kp) A := by kernel_rfl
set_option maxRecDepth 100000 in
theorem space_Machine_Open_ok (hm : Tryz.prog.follows .mixedOrders = true) : EntryOK Tryz.prog 11 (upE (enS [.c .p, .c (.i .i64), .c (.i .i64)] (space_Machine_Open_W space_Machine_Open_A))) := entA hm (callingA_cons (space_Machine_purse_ok hm) (callingA_cons (table_Root_ok hm) callingA_nil)) Tryz.call11 Tryz.func11 (by kernel_rfl) (by kernel_rfl) false (space_Machine_Open_den space_Machine_purse_A table_Root_A)

def region_right_ann : AnnA := (.seq none .leaf (.seq none .leaf .leaf))
set_option maxRecDepth 100000 in
theorem region_right_den : region_right_W (region_right_A) = curS [.agg [(.i .i64), (.i .i64)]] EnR fun vs K Kp A => denFnA Tryz.prog (tabA []) [1] Tryz.f61 region_right_ann vs K (np false Kp) A := by kernel_rfl
set_option maxRecDepth 100000 in
theorem region_right_ok (hm : Tryz.prog.follows .mixedOrders = true) : EntryOK Tryz.prog 61 (upE (enS [.agg [(.i .i64), (.i .i64)]] (region_right_W region_right_A))) := entA hm callingA_nil Tryz.call61 Tryz.func61 (by kernel_rfl) (by kernel_rfl) false region_right_den

def region_joins_ann : AnnA := (.seq none .leaf (.seq none .leaf .leaf))
set_option maxRecDepth 100000 in
theorem region_joins_den : region_joins_W (region_joins_A) = curS [.agg [(.i .i64), (.i .i64), .b, .b, .b, (.i .i64)], .agg [(.i .i64), (.i .i64), .b, .b, .b, (.i .i64)]] EnR fun vs K Kp A => denFnA Tryz.prog (tabA []) [2, 3] Tryz.f128 region_joins_ann vs K (np false Kp) A := by kernel_rfl
set_option maxRecDepth 100000 in
theorem region_joins_ok (hm : Tryz.prog.follows .mixedOrders = true) : EntryOK Tryz.prog 128 (upE (enS [.agg [(.i .i64), (.i .i64), .b, .b, .b, (.i .i64)], .agg [(.i .i64), (.i .i64), .b, .b, .b, (.i .i64)]] (region_joins_W region_joins_A))) := entA hm callingA_nil Tryz.call128 Tryz.func128 (by kernel_rfl) (by kernel_rfl) false region_joins_den

def region_Good_ann : AnnA := (.seq none .leaf (.seq none (.seq none .leaf (.cond (.seq none .leaf .leaf) .leaf)) (.seq none (.seq none .leaf (.block (.loop ⟨[0, 8, 9], [(10, (.c (.i .i64)))], []⟩ (.seq none .leaf (.seq none (.cond .leaf .leaf) (.seq none (.block (.seq none .leaf (.seq none (.seq none .leaf (.cond (.seq none .leaf .leaf) .leaf)) (.seq none (.draw 21) (.cond (.seq none .leaf .leaf) .leaf))))) .leaf)))))) (.seq none .leaf .leaf))))
set_option maxRecDepth 100000 in
theorem region_Good_den (f_region_joins : region_joins_T) : region_Good_W (region_Good_G f_region_joins) = curS [.c .s] EnR fun vs K Kp A => denFnA Tryz.prog (tabA [(128, enS [.agg [(.i .i64), (.i .i64), .b, .b, .b, (.i .i64)], .agg [(.i .i64), (.i .i64), .b, .b, .b, (.i .i64)]] (region_joins_W f_region_joins))]) [4] Tryz.f62 region_Good_ann vs K (np false Kp) A := by kernel_rfl
set_option maxRecDepth 100000 in
theorem region_Good_ok (hm : Tryz.prog.follows .mixedOrders = true) : EntryOK Tryz.prog 62 (upE (enS [.c .s] (region_Good_W region_Good_A))) := entA hm (callingA_cons (region_joins_ok hm) callingA_nil) Tryz.call62 Tryz.func62 (by kernel_rfl) (by kernel_rfl) false (region_Good_den region_joins_A)

def slices_Clone_region_List_region_Region_ann : AnnA := (.seq none .leaf (.seq none (.seq none .leaf (.cond (.seq none .leaf .leaf) .leaf)) (.seq none .leaf .leaf)))
set_option maxRecDepth 100000 in
theorem slices_Clone_region_List_region_Region_den : slices_Clone_region_List_region_Region_W (slices_Clone_region_List_region_Region_A) = curS [.c .s] EnR fun vs K Kp A => denFnA Tryz.prog (tabA []) [] Tryz.f66 slices_Clone_region_List_region_Region_ann vs K (np false Kp) A := by kernel_rfl
set_option maxRecDepth 100000 in
theorem slices_Clone_region_List_region_Region_ok (hm : Tryz.prog.follows .mixedOrders = true) : EntryOK Tryz.prog 66 (upE (enS [.c .s] (slices_Clone_region_List_region_Region_W slices_Clone_region_List_region_Region_A))) := entA hm callingA_nil Tryz.call66 Tryz.func66 (by kernel_rfl) (by kernel_rfl) false slices_Clone_region_List_region_Region_den

theorem slices_overlaps_region_Region_ok (_hm : Tryz.prog.follows .mixedOrders = true) : AtOnce Tryz.prog 129 (upE (enS [.c .s, .c .s] (slices_overlaps_region_Region_W slices_overlaps_region_Region_A))) := overlaps_ok (tS := 92) (tR := 4) Tryz.func129 (by kernel_rfl) (by kernel_rfl) (by kernel_rfl) (by kernel_rfl) Tryz.underlying92 (by kernel_rfl)

def slices_Reverse_region_Region_region_Region_ann : AnnA := (.seq none .leaf (.block (.loop ⟨[0], [(2, (.c (.i .i64))), (3, (.c (.i .i64)))], []⟩ (.seq none (.seq none .leaf (.cond .leaf .leaf)) (.seq none (.block (.drawS [0, 1, 2, 3, 4, 5, 6, 8, 9, 10, 7, 11, 12, 13, 14, 15] [])) .leaf)))))
set_option maxRecDepth 100000 in
theorem slices_Reverse_region_Region_region_Region_den : slices_Reverse_region_Region_region_Region_W (slices_Reverse_region_Region_region_Region_A) = curS [.c .s] EnR fun vs K Kp A => denFnA Tryz.prog (tabA []) [] Tryz.f214 slices_Reverse_region_Region_region_Region_ann vs K (np false Kp) A := by kernel_rfl
set_option maxRecDepth 100000 in
theorem slices_Reverse_region_Region_region_Region_ok (hm : Tryz.prog.follows .mixedOrders = true) : EntryOK Tryz.prog 214 (upE (enS [.c .s] (slices_Reverse_region_Region_region_Region_W slices_Reverse_region_Region_region_Region_A))) := entA hm callingA_nil Tryz.call214 Tryz.func214 (by kernel_rfl) (by kernel_rfl) false slices_Reverse_region_Region_region_Region_den

def slices_rotateLeft_region_Region_ann : AnnA := (.seq none .leaf (.seq none .leaf .leaf))
set_option maxRecDepth 100000 in
theorem slices_rotateLeft_region_Region_den (f_slices_Reverse_region_Region_region_Region : slices_Reverse_region_Region_region_Region_T) : slices_rotateLeft_region_Region_W (slices_rotateLeft_region_Region_G f_slices_Reverse_region_Region_region_Region) = curS [.c .s, .c (.i .i64)] EnR fun vs K Kp A => denFnA Tryz.prog (tabA [(214, enS [.c .s] (slices_Reverse_region_Region_region_Region_W f_slices_Reverse_region_Region_region_Region))]) [] Tryz.f188 slices_rotateLeft_region_Region_ann vs K (np false Kp) A := by kernel_rfl
set_option maxRecDepth 100000 in
theorem slices_rotateLeft_region_Region_ok (hm : Tryz.prog.follows .mixedOrders = true) : EntryOK Tryz.prog 188 (upE (enS [.c .s, .c (.i .i64)] (slices_rotateLeft_region_Region_W slices_rotateLeft_region_Region_A))) := entA hm (callingA_cons (slices_Reverse_region_Region_region_Region_ok hm) callingA_nil) Tryz.call188 Tryz.func188 (by kernel_rfl) (by kernel_rfl) false (slices_rotateLeft_region_Region_den slices_Reverse_region_Region_region_Region_A)

def slices_rotateRight_region_Region_ann : AnnA := .leaf
set_option maxRecDepth 100000 in
theorem slices_rotateRight_region_Region_den (f_slices_rotateLeft_region_Region : slices_rotateLeft_region_Region_T) : slices_rotateRight_region_Region_W (slices_rotateRight_region_Region_G f_slices_rotateLeft_region_Region) = curS [.c .s, .c (.i .i64)] EnR fun vs K Kp A => denFnA Tryz.prog (tabA [(188, enS [.c .s, .c (.i .i64)] (slices_rotateLeft_region_Region_W f_slices_rotateLeft_region_Region))]) [] Tryz.f130 slices_rotateRight_region_Region_ann vs K (np false Kp) A := by kernel_rfl
set_option maxRecDepth 100000 in
theorem slices_rotateRight_region_Region_ok (hm : Tryz.prog.follows .mixedOrders = true) : EntryOK Tryz.prog 130 (upE (enS [.c .s, .c (.i .i64)] (slices_rotateRight_region_Region_W slices_rotateRight_region_Region_A))) := entA hm (callingA_cons (slices_rotateLeft_region_Region_ok hm) callingA_nil) Tryz.call130 Tryz.func130 (by kernel_rfl) (by kernel_rfl) false (slices_rotateRight_region_Region_den slices_rotateLeft_region_Region_A)

def slices_Insert_region_List_region_Region_ann : AnnA := (.seq none .leaf (.seq none .leaf (.seq none .leaf (.seq none (.seq none .leaf (.cond (.seq none .leaf .leaf) .leaf)) (.seq none .leaf (.seq none (.seq none .leaf (.cond (.seq none .leaf .leaf) .leaf)) (.seq none (.seq none .leaf (.cond (.seq none .leaf (.seq none .leaf (.seq none (.draw 8) (.seq none .leaf .leaf)))) .leaf)) (.seq none .leaf (.seq none (.seq none .leaf (.cond (.seq none (.draw 8) (.seq none .leaf (.seq none .leaf .leaf))) .leaf)) (.seq none .leaf (.seq none .leaf (.seq none .leaf .leaf))))))))))))
set_option maxRecDepth 100000 in
theorem slices_Insert_region_List_region_Region_den (f_slices_overlaps_region_Region : slices_overlaps_region_Region_T) (f_slices_rotateRight_region_Region : slices_rotateRight_region_Region_T) : slices_Insert_region_List_region_Region_W (slices_Insert_region_List_region_Region_G f_slices_overlaps_region_Region f_slices_rotateRight_region_Region) = curS [.c .s, .c (.i .i64), .c .s] EnR fun vs K Kp A => denFnA Tryz.prog (tabA [(129, enS [.c .s, .c .s] (slices_overlaps_region_Region_W f_slices_overlaps_region_Region)), (130, enS [.c .s, .c (.i .i64)] (slices_rotateRight_region_Region_W f_slices_rotateRight_region_Region))]) [] Tryz.f65 slices_Insert_region_List_region_Region_ann vs K (np false Kp) A := by kernel_rfl
set_option maxRecDepth 100000 in
theorem slices_Insert_region_List_region_Region_ok (hm : Tryz.prog.follows .mixedOrders = true) : EntryOK Tryz.prog 65 (upE (enS [.c .s, .c (.i .i64), .c .s] (slices_Insert_region_List_region_Region_W slices_Insert_region_List_region_Region_A))) := entA hm (callingA_at (slices_overlaps_region_Region_ok hm) (callingA_cons (slices_rotateRight_region_Region_ok hm) callingA_nil)) Tryz.call65 Tryz.func65 (by kernel_rfl) (by kernel_rfl) false (slices_Insert_region_List_region_Region_den slices_overlaps_region_Region_A slices_rotateRight_region_Region_A)

def region_merged_ann : AnnA := (.seq none .leaf (.seq none .leaf (.seq none (.seq none .leaf (.block (.loop ⟨[7, 8], [(3, (.c .s)), (9, (.c (.i .i64)))], []⟩ (.seq none .leaf (.seq none (.cond .leaf .leaf) (.seq (some ⟨[7, 8, 9], [(3, (.c .s))], []⟩) (.block (.seq none .leaf (.seq none (.seq none .leaf (.seq none (.draw 9) (.cond (.seq none .leaf .leaf) .leaf))) .leaf))) .leaf)))))) (.seq none .leaf .leaf))))
set_option maxRecDepth 100000 in
theorem region_merged_den (f_region_joins : region_joins_T) : region_merged_W (region_merged_G f_region_joins) = curS [.c .s] EnR fun vs K Kp A => denFnA Tryz.prog (tabA [(128, enS [.agg [(.i .i64), (.i .i64), .b, .b, .b, (.i .i64)], .agg [(.i .i64), (.i .i64), .b, .b, .b, (.i .i64)]] (region_joins_W f_region_joins))]) [5] Tryz.f64 region_merged_ann vs K (np false Kp) A := by kernel_rfl
set_option maxRecDepth 100000 in
theorem region_merged_ok (hm : Tryz.prog.follows .mixedOrders = true) : EntryOK Tryz.prog 64 (upE (enS [.c .s] (region_merged_W region_merged_A))) := entA hm (callingA_cons (region_joins_ok hm) callingA_nil) Tryz.call64 Tryz.func64 (by kernel_rfl) (by kernel_rfl) false (region_merged_den region_joins_A)

def region_fits_ann : AnnA := (.seq none .leaf (.seq none (.seq none .leaf (.cond (.seq none .leaf .leaf) .leaf)) (.seq none .leaf .leaf)))
set_option maxRecDepth 100000 in
theorem region_fits_den : region_fits_W (region_fits_A) = curS [.c .s] EnR fun vs K Kp A => denFnA Tryz.prog (tabA []) [] Tryz.f63 region_fits_ann vs K (np false Kp) A := by kernel_rfl
set_option maxRecDepth 100000 in
theorem region_fits_ok (hm : Tryz.prog.follows .mixedOrders = true) : EntryOK Tryz.prog 63 (upE (enS [.c .s] (region_fits_W region_fits_A))) := entA hm callingA_nil Tryz.call63 Tryz.func63 (by kernel_rfl) (by kernel_rfl) false region_fits_den

def region_Add_ann : AnnA := (.seq none .leaf (.seq none (.seq none .leaf (.cond (.seq none .leaf .leaf) .leaf)) (.seq none (.seq none .leaf (.cond (.seq none .leaf .leaf) .leaf)) (.seq none .leaf (.seq none (.seq none .leaf (.block (.loop ⟨[0, 3, 16, 17], [(6, (.c (.i .i64))), (18, (.c (.i .i64)))], []⟩ (.seq none .leaf (.seq none (.cond .leaf .leaf) (.seq (some ⟨[0, 3, 16, 17, 18], [(6, (.c (.i .i64)))], []⟩) (.block (.seq none .leaf (.block (.seq none .leaf (.cond .leaf (.seq none .leaf (.cond (.seq none .leaf .leaf) .leaf))))))) .leaf)))))) (.seq none (.drawS [0, 2, 3, 1, 4, 5, 6, 7, 8, 9, 10, 11] []) .leaf))))))
set_option maxRecDepth 100000 in
theorem region_Add_den (f_region_right : region_right_T) (f_region_Good : region_Good_T) (f_slices_Clone_region_List_region_Region : slices_Clone_region_List_region_Region_T) (f_slices_Insert_region_List_region_Region : slices_Insert_region_List_region_Region_T) (f_region_merged : region_merged_T) (f_region_fits : region_fits_T) : region_Add_W (region_Add_G f_region_right f_region_Good f_slices_Clone_region_List_region_Region f_slices_Insert_region_List_region_Region f_region_merged f_region_fits) = curS [.c .s, .agg [(.i .i64), (.i .i64), .b, .b, .b, (.i .i64)]] EnR fun vs K Kp A => denFnA Tryz.prog (tabA [(61, enS [.agg [(.i .i64), (.i .i64)]] (region_right_W f_region_right)), (62, enS [.c .s] (region_Good_W f_region_Good)), (66, enS [.c .s] (slices_Clone_region_List_region_Region_W f_slices_Clone_region_List_region_Region)), (65, enS [.c .s, .c (.i .i64), .c .s] (slices_Insert_region_List_region_Region_W f_slices_Insert_region_List_region_Region)), (64, enS [.c .s] (region_merged_W f_region_merged)), (63, enS [.c .s] (region_fits_W f_region_fits))]) [3, 8] Tryz.f28 region_Add_ann vs K (np false Kp) A := by kernel_rfl
set_option maxRecDepth 100000 in
theorem region_Add_ok (hm : Tryz.prog.follows .mixedOrders = true) : EntryOK Tryz.prog 28 (upE (enS [.c .s, .agg [(.i .i64), (.i .i64), .b, .b, .b, (.i .i64)]] (region_Add_W region_Add_A))) := entA hm (callingA_cons (region_right_ok hm) (callingA_cons (region_Good_ok hm) (callingA_cons (slices_Clone_region_List_region_Region_ok hm) (callingA_cons (slices_Insert_region_List_region_Region_ok hm) (callingA_cons (region_merged_ok hm) (callingA_cons (region_fits_ok hm) callingA_nil)))))) Tryz.call28 Tryz.func28 (by kernel_rfl) (by kernel_rfl) false (region_Add_den region_right_A region_Good_A slices_Clone_region_List_region_Region_A slices_Insert_region_List_region_Region_A region_merged_A region_fits_A)

def space_Machine_Map_ann : AnnA := (.seq none .leaf (.seq none .leaf (.seq none (.seq none .leaf (.cond (.seq none .leaf .leaf) .leaf)) (.seq none (.drawS [0, 1, 2, 3, 4, 5, 6, 7, 8, 9, 10, 11, 12] []) (.seq (some ⟨[11], [], []⟩) (.seq none .leaf (.cond .leaf .leaf)) (.seq none .leaf .leaf))))))
set_option maxRecDepth 100000 in
theorem space_Machine_Map_den (f_region_Add : region_Add_T) : space_Machine_Map_W (space_Machine_Map_G f_region_Add) = curS [.c .p, .c (.i .i64), .agg [(.i .i64), (.i .i64)], .agg [.b, .b, .b]] EnR fun vs K Kp A => denFnA Tryz.prog (tabA [(28, enS [.c .s, .agg [(.i .i64), (.i .i64), .b, .b, .b, (.i .i64)]] (region_Add_W f_region_Add))]) [6, 7] Tryz.f12 space_Machine_Map_ann vs K (np false Kp) A := by kernel_rfl
set_option maxRecDepth 100000 in
theorem space_Machine_Map_ok (hm : Tryz.prog.follows .mixedOrders = true) : EntryOK Tryz.prog 12 (upE (enS [.c .p, .c (.i .i64), .agg [(.i .i64), (.i .i64)], .agg [.b, .b, .b]] (space_Machine_Map_W space_Machine_Map_A))) := entA hm (callingA_cons (region_Add_ok hm) callingA_nil) Tryz.call12 Tryz.func12 (by kernel_rfl) (by kernel_rfl) false (space_Machine_Map_den region_Add_A)

def cpu_check_ann : AnnA := (.seq none .leaf (.seq none .leaf (.cond .leaf .leaf)))
set_option maxRecDepth 100000 in
theorem cpu_check_den : cpu_check_W (cpu_check_A) = curS [.c (.i .i64), .agg [(.i .u64), (.i .i64)]] EnR fun vs K Kp A => denFnA Tryz.prog (tabA []) [3] Tryz.f30 cpu_check_ann vs K (np true Kp) A := by kernel_rfl
set_option maxRecDepth 100000 in
theorem cpu_check_ok (hm : Tryz.prog.follows .mixedOrders = true) : EntryOK Tryz.prog 30 (upE (enS [.c (.i .i64), .agg [(.i .u64), (.i .i64)]] (cpu_check_W cpu_check_A))) := entA hm callingA_nil Tryz.call30 Tryz.func30 (by kernel_rfl) (by kernel_rfl) true cpu_check_den

def tlb_TLB_Evict_ann : AnnA := (.seq none .leaf (.seq none (.seq none .leaf (.cond (.seq none .leaf .leaf) .leaf)) (.seq none .leaf (.seq none .leaf .leaf))))
set_option maxRecDepth 100000 in
theorem tlb_TLB_Evict_den : tlb_TLB_Evict_W (tlb_TLB_Evict_A) = curS [.c .p, .c (.i .i64), .c (.i .i64)] EnR fun vs K Kp A => denFnA Tryz.prog (tabA []) [] Tryz.f131 tlb_TLB_Evict_ann vs K (np false Kp) A := by kernel_rfl
set_option maxRecDepth 100000 in
theorem tlb_TLB_Evict_ok (hm : Tryz.prog.follows .mixedOrders = true) : EntryOK Tryz.prog 131 (upE (enS [.c .p, .c (.i .i64), .c (.i .i64)] (tlb_TLB_Evict_W tlb_TLB_Evict_A))) := entA hm callingA_nil Tryz.call131 Tryz.func131 (by kernel_rfl) (by kernel_rfl) false tlb_TLB_Evict_den

def cpu_CPU_choose_ann : AnnA := (.seq none .leaf (.seq none .leaf (.seq (some ⟨[0], [(3, (.c (.i .i64)))], []⟩) (.seq none (.draw 10) (.cond (.seq none (.draw 11) .leaf) .leaf)) (.seq none .leaf (.seq (some ⟨[3], [], []⟩) (.seq none .leaf (.seq none .leaf (.cond .leaf .leaf))) (.seq none .leaf .leaf))))))
set_option maxRecDepth 100000 in
theorem cpu_CPU_choose_den (f_tlb_TLB_Evict : tlb_TLB_Evict_T) : cpu_CPU_choose_W (cpu_CPU_choose_G f_tlb_TLB_Evict) = curS [.c .p] EnR fun vs K Kp A => denFnA Tryz.prog (tabA [(131, enS [.c .p, .c (.i .i64), .c (.i .i64)] (tlb_TLB_Evict_W f_tlb_TLB_Evict))]) [] Tryz.f67 cpu_CPU_choose_ann vs K (np false Kp) A := by kernel_rfl
set_option maxRecDepth 100000 in
theorem cpu_CPU_choose_ok (hm : Tryz.prog.follows .mixedOrders = true) : EntryOK Tryz.prog 67 (upE (enS [.c .p] (cpu_CPU_choose_W cpu_CPU_choose_A))) := entA hm (callingA_cons (tlb_TLB_Evict_ok hm) callingA_nil) Tryz.call67 Tryz.func67 (by kernel_rfl) (by kernel_rfl) false (cpu_CPU_choose_den tlb_TLB_Evict_A)

def space_Machine_Root_ann : AnnA := (.seq none .leaf (.seq none (.seq none .leaf (.seq none .leaf (.cond (.seq none .leaf .leaf) .leaf))) (.seq none .leaf .leaf)))
set_option maxRecDepth 100000 in
theorem space_Machine_Root_den : space_Machine_Root_W (space_Machine_Root_A) = curS [.c .p, .c (.i .i64)] EnR fun vs K Kp A => denFnA Tryz.prog (tabA []) [] Tryz.f68 space_Machine_Root_ann vs K (np false Kp) A := by kernel_rfl
set_option maxRecDepth 100000 in
theorem space_Machine_Root_ok (hm : Tryz.prog.follows .mixedOrders = true) : EntryOK Tryz.prog 68 (upE (enS [.c .p, .c (.i .i64)] (space_Machine_Root_W space_Machine_Root_A))) := entA hm callingA_nil Tryz.call68 Tryz.func68 (by kernel_rfl) (by kernel_rfl) false space_Machine_Root_den

def pcid_Tags_Get_ann : AnnA := (.seq none .leaf (.seq none (.seq none .leaf (.seq none .leaf (.cond (.seq none .leaf .leaf) .leaf))) (.seq none (.draw 10) (.seq (some ⟨[0, 1, 8], [], []⟩) (.seq none .leaf (.cond (.seq none .leaf .leaf) .leaf)) (.seq none .leaf (.seq none .leaf (.seq none (.drawS [0, 1, 2, 4, 5, 6, 7, 9, 10, 11, 3, 8, 12, 13, 14, 15, 16, 17] []) (.seq none .leaf .leaf))))))))
set_option maxRecDepth 100000 in
theorem pcid_Tags_Get_den (f_pcid_Tags_begin : pcid_Tags_begin_T) : pcid_Tags_Get_W (pcid_Tags_Get_G f_pcid_Tags_begin) = curS [.c .p, .c (.i .i64)] EnR fun vs K Kp A => denFnA Tryz.prog (tabA [(181, enS [.c .p] (pcid_Tags_begin_W f_pcid_Tags_begin))]) [] Tryz.f132 pcid_Tags_Get_ann vs K (np false Kp) A := by kernel_rfl
set_option maxRecDepth 100000 in
theorem pcid_Tags_Get_ok (hm : Tryz.prog.follows .mixedOrders = true) : EntryOK Tryz.prog 132 (upE (enS [.c .p, .c (.i .i64)] (pcid_Tags_Get_W pcid_Tags_Get_A))) := entA hm (callingA_cons (pcid_Tags_begin_ok hm) callingA_nil) Tryz.call132 Tryz.func132 (by kernel_rfl) (by kernel_rfl) false (pcid_Tags_Get_den pcid_Tags_begin_A)

def tlb_TLB_All_1_ann : AnnA := (.seq none .leaf (.seq none .leaf .leaf))
set_option maxRecDepth 100000 in
theorem tlb_TLB_All_1_den : tlb_TLB_All_1_W (tlb_TLB_All_1_A) = curS [.agg [.b, (.i .i64), (.i .i64), (.i .i64), .b, .b, .b, .b, .b], .c .p] EnR fun vs K Kp A => denFnA Tryz.prog (tabA []) [2] Tryz.f189 tlb_TLB_All_1_ann vs K (np false Kp) A := by kernel_rfl
set_option maxRecDepth 100000 in
theorem tlb_TLB_All_1_ok (hm : Tryz.prog.follows .mixedOrders = true) : EntryOK Tryz.prog 189 (upE (enS [.agg [.b, (.i .i64), (.i .i64), (.i .i64), .b, .b, .b, .b, .b], .c .p] (tlb_TLB_All_1_W tlb_TLB_All_1_A))) := entA hm callingA_nil Tryz.call189 Tryz.func189 (by kernel_rfl) (by kernel_rfl) false tlb_TLB_All_1_den

def tlb_TLB_drop_ann : AnnA := (.seq none .leaf (.block (.loop ⟨[0, 1], [(6, (.c (.i .i64)))], []⟩ (.seq none .leaf (.seq none (.cond .leaf .leaf) (.seq none (.block (.seq none .leaf (.seq none .leaf (.block (.loop ⟨[0, 1, 4, 6], [(9, (.c (.i .i64)))], []⟩ (.seq none .leaf (.seq none (.cond .leaf .leaf) (.seq (some ⟨[0, 1, 4, 6, 9], [], []⟩) (.block (.seq none .leaf (.seq none .leaf (.cond .leaf .leaf)))) .leaf)))))))) .leaf))))))
set_option maxRecDepth 100000 in
theorem tlb_TLB_drop_den (f_tlb_TLB_All_1 : tlb_TLB_All_1_T) : tlb_TLB_drop_W (tlb_TLB_drop_G f_tlb_TLB_All_1) = curS [.c .p, .fn 189 [] [.p]] EnR fun vs K Kp A => denFnA Tryz.prog (tabA [(189, enS [.agg [.b, (.i .i64), (.i .i64), (.i .i64), .b, .b, .b, .b, .b], .c .p] (tlb_TLB_All_1_W f_tlb_TLB_All_1))]) [] Tryz.f94 tlb_TLB_drop_ann vs K (np false Kp) A := by kernel_rfl
set_option maxRecDepth 100000 in
theorem tlb_TLB_drop_ok (hm : Tryz.prog.follows .mixedOrders = true) : EntryOK Tryz.prog 94 (upE (enS [.c .p, .fn 189 [] [.p]] (tlb_TLB_drop_W tlb_TLB_drop_A))) := entA hm (callingA_cons (tlb_TLB_All_1_ok hm) callingA_nil) Tryz.call94 Tryz.func94 (by kernel_rfl) (by kernel_rfl) false (tlb_TLB_drop_den tlb_TLB_All_1_A)

def tlb_TLB_All_ann : AnnA := (.seq none .leaf .leaf)
set_option maxRecDepth 100000 in
theorem tlb_TLB_All_den (f_tlb_TLB_drop : tlb_TLB_drop_T) : tlb_TLB_All_W (tlb_TLB_All_G f_tlb_TLB_drop) = curS [.c .p, .c .b] EnR fun vs K Kp A => denFnA Tryz.prog (tabA [(94, enS [.c .p, .fn 189 [] [.p]] (tlb_TLB_drop_W f_tlb_TLB_drop))]) [] Tryz.f133 tlb_TLB_All_ann vs K (np false Kp) A := by kernel_rfl
set_option maxRecDepth 100000 in
theorem tlb_TLB_All_ok (hm : Tryz.prog.follows .mixedOrders = true) : EntryOK Tryz.prog 133 (upE (enS [.c .p, .c .b] (tlb_TLB_All_W tlb_TLB_All_A))) := entA hm (callingA_cons (tlb_TLB_drop_ok hm) callingA_nil) Tryz.call133 Tryz.func133 (by kernel_rfl) (by kernel_rfl) false (tlb_TLB_All_den tlb_TLB_drop_A)

def space_Machine_Tag_ann : AnnA := (.seq none .leaf (.seq none .leaf (.seq (some ⟨[5], [], []⟩) (.seq none .leaf (.cond .leaf .leaf)) (.seq none .leaf .leaf))))
set_option maxRecDepth 100000 in
theorem space_Machine_Tag_den (f_pcid_Tags_Get : pcid_Tags_Get_T) (f_tlb_TLB_All : tlb_TLB_All_T) : space_Machine_Tag_W (space_Machine_Tag_G f_pcid_Tags_Get f_tlb_TLB_All) = curS [.c .p, .c (.i .i64)] EnR fun vs K Kp A => denFnA Tryz.prog (tabA [(132, enS [.c .p, .c (.i .i64)] (pcid_Tags_Get_W f_pcid_Tags_Get)), (133, enS [.c .p, .c .b] (tlb_TLB_All_W f_tlb_TLB_All))]) [] Tryz.f69 space_Machine_Tag_ann vs K (np false Kp) A := by kernel_rfl
set_option maxRecDepth 100000 in
theorem space_Machine_Tag_ok (hm : Tryz.prog.follows .mixedOrders = true) : EntryOK Tryz.prog 69 (upE (enS [.c .p, .c (.i .i64)] (space_Machine_Tag_W space_Machine_Tag_A))) := entA hm (callingA_cons (pcid_Tags_Get_ok hm) (callingA_cons (tlb_TLB_All_ok hm) callingA_nil)) Tryz.call69 Tryz.func69 (by kernel_rfl) (by kernel_rfl) false (space_Machine_Tag_den pcid_Tags_Get_A tlb_TLB_All_A)

def tlb_set_ann : AnnA := (.seq none .leaf (.seq none .leaf .leaf))
set_option maxRecDepth 100000 in
theorem tlb_set_den : tlb_set_W (tlb_set_A) = curS [.c (.i .i64)] EnR fun vs K Kp A => denFnA Tryz.prog (tabA []) [] Tryz.f134 tlb_set_ann vs K (np false Kp) A := by kernel_rfl
set_option maxRecDepth 100000 in
theorem tlb_set_ok (hm : Tryz.prog.follows .mixedOrders = true) : EntryOK Tryz.prog 134 (upE (enS [.c (.i .i64)] (tlb_set_W tlb_set_A))) := entA hm callingA_nil Tryz.call134 Tryz.func134 (by kernel_rfl) (by kernel_rfl) false tlb_set_den

def tlb_Line_fits_ann : AnnA := (.seq none .leaf (.seq none .leaf .leaf))
set_option maxRecDepth 100000 in
theorem tlb_Line_fits_den : tlb_Line_fits_W (tlb_Line_fits_A) = curS [.agg [.b, (.i .i64), (.i .i64), (.i .i64), .b, .b, .b, .b, .b], .c (.i .i64), .c (.i .i64)] EnR fun vs K Kp A => denFnA Tryz.prog (tabA []) [3] Tryz.f136 tlb_Line_fits_ann vs K (np false Kp) A := by kernel_rfl
set_option maxRecDepth 100000 in
theorem tlb_Line_fits_ok (hm : Tryz.prog.follows .mixedOrders = true) : EntryOK Tryz.prog 136 (upE (enS [.agg [.b, (.i .i64), (.i .i64), (.i .i64), .b, .b, .b, .b, .b], .c (.i .i64), .c (.i .i64)] (tlb_Line_fits_W tlb_Line_fits_A))) := entA hm callingA_nil Tryz.call136 Tryz.func136 (by kernel_rfl) (by kernel_rfl) false tlb_Line_fits_den

def tlb_TLB_Find_1_ann : AnnA := (.seq none .leaf (.seq none .leaf .leaf))
set_option maxRecDepth 100000 in
theorem tlb_TLB_Find_1_den (f_tlb_Line_fits : tlb_Line_fits_T) : tlb_TLB_Find_1_W (tlb_TLB_Find_1_G f_tlb_Line_fits) = curS [.agg [.b, (.i .i64), (.i .i64), (.i .i64), .b, .b, .b, .b, .b], .c .p, .c .p] EnR fun vs K Kp A => denFnA Tryz.prog (tabA [(136, enS [.agg [.b, (.i .i64), (.i .i64), (.i .i64), .b, .b, .b, .b, .b], .c (.i .i64), .c (.i .i64)] (tlb_Line_fits_W f_tlb_Line_fits))]) [3] Tryz.f135 tlb_TLB_Find_1_ann vs K (np false Kp) A := by kernel_rfl
set_option maxRecDepth 100000 in
theorem tlb_TLB_Find_1_ok (hm : Tryz.prog.follows .mixedOrders = true) : EntryOK Tryz.prog 135 (upE (enS [.agg [.b, (.i .i64), (.i .i64), (.i .i64), .b, .b, .b, .b, .b], .c .p, .c .p] (tlb_TLB_Find_1_W tlb_TLB_Find_1_A))) := entA hm (callingA_cons (tlb_Line_fits_ok hm) callingA_nil) Tryz.call135 Tryz.func135 (by kernel_rfl) (by kernel_rfl) false (tlb_TLB_Find_1_den tlb_Line_fits_A)

def slices_IndexFunc_tlb_Line_tlb_Line_ann : AnnA := (.seq none .leaf (.seq none (.seq none .leaf (.block (.loop ⟨[0, 1, 7], [(8, (.c (.i .i64)))], []⟩ (.seq none .leaf (.seq none (.cond .leaf .leaf) (.seq none (.block (.seq none .leaf (.seq none .leaf (.cond (.seq none .leaf .leaf) .leaf)))) .leaf)))))) (.seq none .leaf .leaf)))
set_option maxRecDepth 100000 in
theorem slices_IndexFunc_tlb_Line_tlb_Line_den (f_tlb_TLB_Find_1 : tlb_TLB_Find_1_T) : slices_IndexFunc_tlb_Line_tlb_Line_W (slices_IndexFunc_tlb_Line_tlb_Line_G f_tlb_TLB_Find_1) = curS [.c .s, .fn 135 [] [.p, .p]] EnR fun vs K Kp A => denFnA Tryz.prog (tabA [(135, enS [.agg [.b, (.i .i64), (.i .i64), (.i .i64), .b, .b, .b, .b, .b], .c .p, .c .p] (tlb_TLB_Find_1_W f_tlb_TLB_Find_1))]) [] Tryz.f86 slices_IndexFunc_tlb_Line_tlb_Line_ann vs K (np false Kp) A := by kernel_rfl
set_option maxRecDepth 100000 in
theorem slices_IndexFunc_tlb_Line_tlb_Line_ok (hm : Tryz.prog.follows .mixedOrders = true) : EntryOK Tryz.prog 86 (upE (enS [.c .s, .fn 135 [] [.p, .p]] (slices_IndexFunc_tlb_Line_tlb_Line_W slices_IndexFunc_tlb_Line_tlb_Line_A))) := entA hm (callingA_cons (tlb_TLB_Find_1_ok hm) callingA_nil) Tryz.call86 Tryz.func86 (by kernel_rfl) (by kernel_rfl) false (slices_IndexFunc_tlb_Line_tlb_Line_den tlb_TLB_Find_1_A)

def tlb_TLB_Find_ann : AnnA := (.seq none .leaf (.seq none (.drawS [0, 3, 4, 1, 2, 5, 6, 7] []) (.seq none (.seq none .leaf (.seq none .leaf (.cond (.seq none .leaf .leaf) .leaf))) (.seq none .leaf .leaf))))
set_option maxRecDepth 100000 in
theorem tlb_TLB_Find_den (f_tlb_set : tlb_set_T) (f_slices_IndexFunc_tlb_Line_tlb_Line : slices_IndexFunc_tlb_Line_tlb_Line_T) : tlb_TLB_Find_W (tlb_TLB_Find_G f_tlb_set f_slices_IndexFunc_tlb_Line_tlb_Line) = curS [.c .p, .c (.i .i64), .c (.i .i64)] EnR fun vs K Kp A => denFnA Tryz.prog (tabA [(134, enS [.c (.i .i64)] (tlb_set_W f_tlb_set)), (86, enS [.c .s, .fn 135 [] [.p, .p]] (slices_IndexFunc_tlb_Line_tlb_Line_W f_slices_IndexFunc_tlb_Line_tlb_Line))]) [6] Tryz.f70 tlb_TLB_Find_ann vs K (np false Kp) A := by kernel_rfl
set_option maxRecDepth 100000 in
theorem tlb_TLB_Find_ok (hm : Tryz.prog.follows .mixedOrders = true) : EntryOK Tryz.prog 70 (upE (enS [.c .p, .c (.i .i64), .c (.i .i64)] (tlb_TLB_Find_W tlb_TLB_Find_A))) := entA hm (callingA_cons (tlb_set_ok hm) (callingA_cons (slices_IndexFunc_tlb_Line_tlb_Line_ok hm) callingA_nil)) Tryz.call70 Tryz.func70 (by kernel_rfl) (by kernel_rfl) false (tlb_TLB_Find_den tlb_set_A slices_IndexFunc_tlb_Line_tlb_Line_A)

def walk_May_ann : AnnA := (.seq none .leaf (.seq none .leaf .leaf))
set_option maxRecDepth 100000 in
theorem walk_May_den : walk_May_W (walk_May_A) = curS [.agg [.b, .b, .b], .agg [.b, .b, .b]] EnR fun vs K Kp A => denFnA Tryz.prog (tabA []) [2, 3] Tryz.f71 walk_May_ann vs K (np false Kp) A := by kernel_rfl
set_option maxRecDepth 100000 in
theorem walk_May_ok (hm : Tryz.prog.follows .mixedOrders = true) : EntryOK Tryz.prog 71 (upE (enS [.agg [.b, .b, .b], .agg [.b, .b, .b]] (walk_May_W walk_May_A))) := entA hm callingA_nil Tryz.call71 Tryz.func71 (by kernel_rfl) (by kernel_rfl) false walk_May_den

def region_Find_ann : AnnA := (.seq none .leaf (.seq none (.seq none .leaf (.block (.loop ⟨[1, 4, 8, 9], [(10, (.c (.i .i64)))], [(4, (0, (.i .i64))), (4, (1, (.i .i64))), (4, (2, .b)), (4, (3, .b)), (4, (4, .b)), (4, (5, (.i .i64)))]⟩ (.seq none .leaf (.seq none (.cond .leaf .leaf) (.seq none (.block (.seq none .leaf (.seq none .leaf (.cond (.seq none .leaf .leaf) .leaf)))) .leaf)))))) (.seq none .leaf .leaf)))
set_option maxRecDepth 100000 in
theorem region_Find_den : region_Find_W (region_Find_A) = curS [.c .s, .c (.i .i64)] EnR fun vs K Kp A => denFnA Tryz.prog (tabA []) [4, 7] Tryz.f34 region_Find_ann vs K (np false Kp) A := by kernel_rfl
set_option maxRecDepth 100000 in
theorem region_Find_ok (hm : Tryz.prog.follows .mixedOrders = true) : EntryOK Tryz.prog 34 (upE (enS [.c .s, .c (.i .i64)] (region_Find_W region_Find_A))) := entA hm callingA_nil Tryz.call34 Tryz.func34 (by kernel_rfl) (by kernel_rfl) false region_Find_den

def pte_Split_ann : AnnA := (.seq none .leaf (.seq none .leaf (.seq none (.seq none .leaf (.block (.loop ⟨[0, 2, 4], [(6, (.c (.i .i64)))], []⟩ (.seq none .leaf (.seq none (.cond .leaf .leaf) (.seq none (.block (.seq none .leaf .leaf)) .leaf)))))) (.seq none .leaf .leaf))))
set_option maxRecDepth 100000 in
theorem pte_Split_den : pte_Split_W (pte_Split_A) = curS [.c (.i .u64)] EnR fun vs K Kp A => denFnA Tryz.prog (tabA []) [2] Tryz.f140 pte_Split_ann vs K (np false Kp) A := by kernel_rfl
set_option maxRecDepth 100000 in
theorem pte_Split_ok (hm : Tryz.prog.follows .mixedOrders = true) : EntryOK Tryz.prog 140 (upE (enS [.c (.i .u64)] (pte_Split_W pte_Split_A))) := entA hm callingA_nil Tryz.call140 Tryz.func140 (by kernel_rfl) (by kernel_rfl) false pte_Split_den

def table_path_ann : AnnA := (.seq none .leaf (.seq none .leaf (.seq none .leaf .leaf)))
set_option maxRecDepth 100000 in
theorem table_path_den (f_pte_Split : pte_Split_T) : table_path_W (table_path_G f_pte_Split) = curS [.c (.i .i64)] EnR fun vs K Kp A => denFnA Tryz.prog (tabA [(140, enS [.c (.i .u64)] (pte_Split_W f_pte_Split))]) [2, 3] Tryz.f79 table_path_ann vs K (np false Kp) A := by kernel_rfl
set_option maxRecDepth 100000 in
theorem table_path_ok (hm : Tryz.prog.follows .mixedOrders = true) : EntryOK Tryz.prog 79 (upE (enS [.c (.i .i64)] (table_path_W table_path_A))) := entA hm (callingA_cons (pte_Split_ok hm) callingA_nil) Tryz.call79 Tryz.func79 (by kernel_rfl) (by kernel_rfl) false (table_path_den pte_Split_A)

def ram_RAM_Load_ann : AnnA := (.seq none .leaf (.seq none (.seq none .leaf (.seq none .leaf (.cond (.seq none .leaf .leaf) .leaf))) (.seq none .leaf (.seq none (.seq none .leaf (.block (.loop ⟨[0, 1], [(9, (.c (.i .u64))), (10, (.c (.i .i64)))], []⟩ (.seq none (.seq none .leaf (.cond .leaf .leaf)) (.seq (some ⟨[0, 1, 10], [(9, (.c (.i .u64)))], []⟩) (.block (.seq none .leaf (.seq none .leaf (.seq none .leaf (.seq none .leaf (.cond .leaf .leaf)))))) .leaf))))) (.seq none .leaf .leaf)))))
set_option maxRecDepth 100000 in
theorem ram_RAM_Load_den (f_ram_RAM_check : ram_RAM_check_T) : ram_RAM_Load_W (ram_RAM_Load_G f_ram_RAM_check) = curS [.c .p, .c (.i .u64), .c (.i .i64)] EnR fun vs K Kp A => denFnA Tryz.prog (tabA [(75, enS [.c .p, .c (.i .u64), .c (.i .i64)] (ram_RAM_check_W f_ram_RAM_check))]) [] Tryz.f33 ram_RAM_Load_ann vs K (np false Kp) A := by kernel_rfl
set_option maxRecDepth 100000 in
theorem ram_RAM_Load_ok (hm : Tryz.prog.follows .mixedOrders = true) : EntryOK Tryz.prog 33 (upE (enS [.c .p, .c (.i .u64), .c (.i .i64)] (ram_RAM_Load_W ram_RAM_Load_A))) := entA hm (callingA_cons (ram_RAM_check_ok hm) callingA_nil) Tryz.call33 Tryz.func33 (by kernel_rfl) (by kernel_rfl) false (ram_RAM_Load_den ram_RAM_check_A)

def pte_Unpack_ann : AnnA := (.seq none .leaf (.seq none .leaf (.seq none (.seq none .leaf (.block (.loop ⟨[0, 2, 3, 11], [(12, (.c (.i .i64)))], []⟩ (.seq none .leaf (.seq none (.cond .leaf .leaf) (.seq none (.block (.seq none .leaf .leaf)) .leaf)))))) (.seq none .leaf .leaf))))
set_option maxRecDepth 100000 in
theorem pte_Unpack_den (f_pte_Entry_flags : pte_Entry_flags_T) (f_pte_places : pte_places_T) : pte_Unpack_W (pte_Unpack_G f_pte_Entry_flags f_pte_places) = curS [.c (.i .u64)] EnR fun vs K Kp A => denFnA Tryz.prog (tabA [(186, enS [.c .p] (pte_Entry_flags_W f_pte_Entry_flags)), (187, enS [] (pte_places_W f_pte_places))]) [2] Tryz.f142 pte_Unpack_ann vs K (np false Kp) A := by kernel_rfl
set_option maxRecDepth 100000 in
theorem pte_Unpack_ok (hm : Tryz.prog.follows .mixedOrders = true) : EntryOK Tryz.prog 142 (upE (enS [.c (.i .u64)] (pte_Unpack_W pte_Unpack_A))) := entA hm (callingA_cons (pte_Entry_flags_ok hm) (callingA_cons (pte_places_ok hm) callingA_nil)) Tryz.call142 Tryz.func142 (by kernel_rfl) (by kernel_rfl) false (pte_Unpack_den pte_Entry_flags_A pte_places_A)

def table_Purse_get_ann : AnnA := (.seq none .leaf (.seq none (.drawS [0, 2, 3, 1, 4, 5, 6, 7, 8, 9, 10] []) (.seq none .leaf .leaf)))
set_option maxRecDepth 100000 in
theorem table_Purse_get_den (f_table_place : table_place_T) (f_ram_RAM_Load : ram_RAM_Load_T) (f_pte_Unpack : pte_Unpack_T) : table_Purse_get_W (table_Purse_get_G f_table_place f_ram_RAM_Load f_pte_Unpack) = curS [.agg [.p, .p, .p, (.i .i64)], .c (.i .i64), .c (.i .i64)] EnR fun vs K Kp A => denFnA Tryz.prog (tabA [(127, enS [.c (.i .i64), .c (.i .i64)] (table_place_W f_table_place)), (33, enS [.c .p, .c (.i .u64), .c (.i .i64)] (ram_RAM_Load_W f_ram_RAM_Load)), (142, enS [.c (.i .u64)] (pte_Unpack_W f_pte_Unpack))]) [3, 6] Tryz.f78 table_Purse_get_ann vs K (np false Kp) A := by kernel_rfl
set_option maxRecDepth 100000 in
theorem table_Purse_get_ok (hm : Tryz.prog.follows .mixedOrders = true) : EntryOK Tryz.prog 78 (upE (enS [.agg [.p, .p, .p, (.i .i64)], .c (.i .i64), .c (.i .i64)] (table_Purse_get_W table_Purse_get_A))) := entA hm (callingA_cons (table_place_ok hm) (callingA_cons (ram_RAM_Load_ok hm) (callingA_cons (pte_Unpack_ok hm) callingA_nil))) Tryz.call78 Tryz.func78 (by kernel_rfl) (by kernel_rfl) false (table_Purse_get_den table_place_A ram_RAM_Load_A pte_Unpack_A)

def table_Purse_down_ann : AnnA := (.seq none .leaf (.seq none .leaf (.seq none .leaf (.seq (some ⟨[], [(8, (.c .s))], []⟩) (.seq none .leaf (.block (.loop ⟨[3, 7], [(8, (.c .s)), (15, (.c (.i .i64)))], []⟩ (.seq none .leaf (.seq none (.cond .leaf .leaf) (.seq none (.block (.seq none .leaf (.seq none (.drawS [1, 2, 3, 5, 6, 0, 4, 7, 8, 9, 10] [9]) (.seq none (.seq none .leaf (.cond .leaf .leaf)) .leaf)))) .leaf)))))) (.seq none .leaf .leaf)))))
set_option maxRecDepth 100000 in
theorem table_Purse_down_den (f_table_path : table_path_T) (f_table_Purse_get : table_Purse_get_T) : table_Purse_down_W (table_Purse_down_G f_table_path f_table_Purse_get) = curS [.agg [.p, .p, .p, (.i .i64)], .c (.i .i64), .c (.i .i64)] EnR fun vs K Kp A => denFnA Tryz.prog (tabA [(79, enS [.c (.i .i64)] (table_path_W f_table_path)), (78, enS [.agg [.p, .p, .p, (.i .i64)], .c (.i .i64), .c (.i .i64)] (table_Purse_get_W f_table_Purse_get))]) [3, 10] Tryz.f77 table_Purse_down_ann vs K (np false Kp) A := by kernel_rfl
set_option maxRecDepth 100000 in
theorem table_Purse_down_ok (hm : Tryz.prog.follows .mixedOrders = true) : EntryOK Tryz.prog 77 (upE (enS [.agg [.p, .p, .p, (.i .i64)], .c (.i .i64), .c (.i .i64)] (table_Purse_down_W table_Purse_down_A))) := entA hm (callingA_cons (table_path_ok hm) (callingA_cons (table_Purse_get_ok hm) callingA_nil)) Tryz.call77 Tryz.func77 (by kernel_rfl) (by kernel_rfl) false (table_Purse_down_den table_path_A table_Purse_get_A)

def table_Query_ann : AnnA := (.seq none .leaf (.seq (some ⟨[1, 2, 3, 7], [], [(7, (0, .b)), (7, (1, .b)), (7, (2, .b))]⟩) (.seq none .leaf (.cond (.seq none .leaf .leaf) .leaf)) (.seq none .leaf (.seq none (.seq none .leaf (.cond (.seq none .leaf .leaf) .leaf)) (.seq none (.drawS [1, 2, 4, 0, 3, 5, 6, 7, 8, 9] [8]) (.seq none (.seq none .leaf (.cond (.seq none .leaf .leaf) .leaf)) (.seq none (.draw 11) .leaf)))))))
set_option maxRecDepth 100000 in
theorem table_Query_den (f_table_Purse_down : table_Purse_down_T) (f_table_path : table_path_T) (f_table_Purse_get : table_Purse_get_T) : table_Query_W (table_Query_G f_table_Purse_down f_table_path f_table_Purse_get) = curS [.agg [.p, .p, .p, (.i .i64)], .c (.i .i64), .c (.i .i64)] EnR fun vs K Kp A => denFnA Tryz.prog (tabA [(77, enS [.agg [.p, .p, .p, (.i .i64)], .c (.i .i64), .c (.i .i64)] (table_Purse_down_W f_table_Purse_down)), (79, enS [.c (.i .i64)] (table_path_W f_table_path)), (78, enS [.agg [.p, .p, .p, (.i .i64)], .c (.i .i64), .c (.i .i64)] (table_Purse_get_W f_table_Purse_get))]) [3, 7, 10] Tryz.f35 table_Query_ann vs K (np false Kp) A := by kernel_rfl
set_option maxRecDepth 100000 in
theorem table_Query_ok (hm : Tryz.prog.follows .mixedOrders = true) : EntryOK Tryz.prog 35 (upE (enS [.agg [.p, .p, .p, (.i .i64)], .c (.i .i64), .c (.i .i64)] (table_Query_W table_Query_A))) := entA hm (callingA_cons (table_Purse_down_ok hm) (callingA_cons (table_path_ok hm) (callingA_cons (table_Purse_get_ok hm) callingA_nil))) Tryz.call35 Tryz.func35 (by kernel_rfl) (by kernel_rfl) false (table_Query_den table_Purse_down_A table_path_A table_Purse_get_A)

def table_leaf_ann : AnnA := (.seq none .leaf (.seq none .leaf .leaf))
set_option maxRecDepth 100000 in
theorem table_leaf_den : table_leaf_W (table_leaf_A) = curS [.c (.i .i64), .agg [.b, .b, .b]] EnR fun vs K Kp A => denFnA Tryz.prog (tabA []) [3, 4] Tryz.f81 table_leaf_ann vs K (np false Kp) A := by kernel_rfl
set_option maxRecDepth 100000 in
theorem table_leaf_ok (hm : Tryz.prog.follows .mixedOrders = true) : EntryOK Tryz.prog 81 (upE (enS [.c (.i .i64), .agg [.b, .b, .b]] (table_leaf_W table_leaf_A))) := entA hm callingA_nil Tryz.call81 Tryz.func81 (by kernel_rfl) (by kernel_rfl) false table_leaf_den

def table_Map_ann : AnnA := (.seq none .leaf (.seq (some ⟨[1, 2, 3, 5, 9], [], []⟩) (.seq none .leaf (.cond (.seq none .leaf .leaf) .leaf)) (.seq none (.drawS [0, 3, 4, 2, 1, 5, 6, 7, 8] [6]) (.seq (some ⟨[3, 5, 9, 11, 12], [], []⟩) (.seq none (.draw 10) (.cond (.seq none .leaf .leaf) .leaf)) (.seq none .leaf (.seq none (.seq none .leaf (.block (.loop ⟨[3, 5, 9, 11, 12, 56], [(13, (.c .s)), (57, (.c (.i .i64)))], []⟩ (.seq none .leaf (.seq none (.cond .leaf .leaf) (.seq none (.block (.seq none .leaf (.seq none (.seq none .leaf (.cond (.seq none (.seq none .leaf (.block (.loop ⟨[5, 15, 66, 67], [(68, (.c (.i .i64)))], []⟩ (.seq none .leaf (.seq none (.cond .leaf .leaf) (.seq none (.block (.seq none .leaf .leaf)) .leaf)))))) (.seq none .leaf .leaf)) .leaf)) .leaf))) .leaf)))))) (.seq none (.seq none .leaf (.block (.loop ⟨[3, 5, 9, 11, 82, 83], [(12, (.c .s)), (84, (.c (.i .i64)))], []⟩ (.seq none .leaf (.seq none (.cond .leaf .leaf) (.seq none (.block (.seq none .leaf (.seq none .leaf (.seq none (.draw 10) .leaf)))) .leaf)))))) (.seq none (.drawS [1, 2, 4, 6, 0, 3, 5, 7, 8, 9] []) (.seq none .leaf .leaf)))))))))
set_option maxRecDepth 100000 in
theorem table_Map_den (f_table_path : table_path_T) (f_table_Purse_down : table_Purse_down_T) (f_table_Purse_get : table_Purse_get_T) (f_table_Purse_Take : table_Purse_Take_T) (f_table_Purse_Give : table_Purse_Give_T) (f_table_Purse_put : table_Purse_put_T) (f_table_leaf : table_leaf_T) : table_Map_W (table_Map_G f_table_path f_table_Purse_down f_table_Purse_get f_table_Purse_Take f_table_Purse_Give f_table_Purse_put f_table_leaf) = curS [.agg [.p, .p, .p, (.i .i64)], .c (.i .i64), .c (.i .i64), .c (.i .i64), .agg [.b, .b, .b]] EnR fun vs K Kp A => denFnA Tryz.prog (tabA [(79, enS [.c (.i .i64)] (table_path_W f_table_path)), (77, enS [.agg [.p, .p, .p, (.i .i64)], .c (.i .i64), .c (.i .i64)] (table_Purse_down_W f_table_Purse_down)), (78, enS [.agg [.p, .p, .p, (.i .i64)], .c (.i .i64), .c (.i .i64)] (table_Purse_get_W f_table_Purse_get)), (59, enS [.agg [.p, .p, .p, (.i .i64)]] (table_Purse_Take_W f_table_Purse_Take)), (80, enS [.agg [.p, .p, .p, (.i .i64)], .c (.i .i64)] (table_Purse_Give_W f_table_Purse_Give)), (60, enS [.agg [.p, .p, .p, (.i .i64)], .c (.i .i64), .c (.i .i64), .agg [.b, .b, .b, .b, .b, .b, .b, .b, (.i .i64)]] (table_Purse_put_W f_table_Purse_put)), (81, enS [.c (.i .i64), .agg [.b, .b, .b]] (table_leaf_W f_table_leaf))]) [5, 9] Tryz.f36 table_Map_ann vs K (np false Kp) A := by kernel_rfl
set_option maxRecDepth 100000 in
theorem table_Map_ok (hm : Tryz.prog.follows .mixedOrders = true) : EntryOK Tryz.prog 36 (upE (enS [.agg [.p, .p, .p, (.i .i64)], .c (.i .i64), .c (.i .i64), .c (.i .i64), .agg [.b, .b, .b]] (table_Map_W table_Map_A))) := entA hm (callingA_cons (table_path_ok hm) (callingA_cons (table_Purse_down_ok hm) (callingA_cons (table_Purse_get_ok hm) (callingA_cons (table_Purse_Take_ok hm) (callingA_cons (table_Purse_Give_ok hm) (callingA_cons (table_Purse_put_ok hm) (callingA_cons (table_leaf_ok hm) callingA_nil))))))) Tryz.call36 Tryz.func36 (by kernel_rfl) (by kernel_rfl) false (table_Map_den table_path_A table_Purse_down_A table_Purse_get_A table_Purse_Take_A table_Purse_Give_A table_Purse_put_A table_leaf_A)

def space_Machine_Touch_ann : AnnA := (.seq none .leaf (.seq none .leaf (.seq none (.seq none .leaf (.cond (.seq none .leaf .leaf) .leaf)) (.seq none .leaf (.seq none (.seq none .leaf (.block (.loop ⟨[0, 2, 7, 11, 35, 36], [(12, (.c (.i .i64))), (37, (.c (.i .i64)))], []⟩ (.seq none .leaf (.seq none (.cond .leaf .leaf) (.seq (some ⟨[0, 2, 7, 11, 35, 36, 37], [(12, (.c (.i .i64)))], []⟩) (.block (.seq none .leaf (.seq none .leaf (.cond .leaf .leaf)))) .leaf)))))) (.seq (some ⟨[0, 2, 7, 11], [(12, (.c (.i .i64)))], []⟩) (.seq none .leaf (.cond .leaf .leaf)) (.seq none .leaf (.seq none (.seq none .leaf (.cond (.seq none .leaf .leaf) .leaf)) (.seq none .leaf (.seq none (.drawS [1, 2, 3, 5, 0, 4, 6, 7, 8, 9, 10, 11, 12, 13, 14] [11]) (.seq none (.seq none .leaf (.cond (.seq (some ⟨[], [(12, (.c (.i .i64)))], []⟩) (.seq none .leaf (.cond .leaf .leaf)) (.seq none .leaf .leaf)) .leaf)) (.seq none (.seq none .leaf (.cond (.seq none .leaf .leaf) .leaf)) (.seq none .leaf (.seq none (.seq none .leaf (.cond (.seq none .leaf .leaf) .leaf)) (.seq none (.seq none (.draw 9) (.seq none .leaf (.cond (.seq none .leaf (.seq none .leaf .leaf)) .leaf))) (.seq none .leaf .leaf))))))))))))))))
set_option maxRecDepth 100000 in
theorem space_Machine_Touch_den (f_region_Find : region_Find_T) (f_space_Machine_purse : space_Machine_purse_T) (f_table_Query : table_Query_T) (f_walk_May : walk_May_T) (f_table_Purse_Take : table_Purse_Take_T) (f_table_Map : table_Map_T) (f_table_Purse_Give : table_Purse_Give_T) : space_Machine_Touch_W (space_Machine_Touch_G f_region_Find f_space_Machine_purse f_table_Query f_walk_May f_table_Purse_Take f_table_Map f_table_Purse_Give) = curS [.c .p, .c (.i .i64), .c (.i .i64), .agg [.b, .b, .b]] EnR fun vs K Kp A => denFnA Tryz.prog (tabA [(34, enS [.c .s, .c (.i .i64)] (region_Find_W f_region_Find)), (27, enS [.c .p, .c (.i .i64)] (space_Machine_purse_W f_space_Machine_purse)), (35, enS [.agg [.p, .p, .p, (.i .i64)], .c (.i .i64), .c (.i .i64)] (table_Query_W f_table_Query)), (71, enS [.agg [.b, .b, .b], .agg [.b, .b, .b]] (walk_May_W f_walk_May)), (59, enS [.agg [.p, .p, .p, (.i .i64)]] (table_Purse_Take_W f_table_Purse_Take)), (36, enS [.agg [.p, .p, .p, (.i .i64)], .c (.i .i64), .c (.i .i64), .c (.i .i64), .agg [.b, .b, .b]] (table_Map_W f_table_Map)), (80, enS [.agg [.p, .p, .p, (.i .i64)], .c (.i .i64)] (table_Purse_Give_W f_table_Purse_Give))]) [7, 15, 17, 19] Tryz.f72 space_Machine_Touch_ann vs K (np false Kp) A := by kernel_rfl
set_option maxRecDepth 100000 in
theorem space_Machine_Touch_ok (hm : Tryz.prog.follows .mixedOrders = true) : EntryOK Tryz.prog 72 (upE (enS [.c .p, .c (.i .i64), .c (.i .i64), .agg [.b, .b, .b]] (space_Machine_Touch_W space_Machine_Touch_A))) := entA hm (callingA_cons (region_Find_ok hm) (callingA_cons (space_Machine_purse_ok hm) (callingA_cons (table_Query_ok hm) (callingA_cons (walk_May_ok hm) (callingA_cons (table_Purse_Take_ok hm) (callingA_cons (table_Map_ok hm) (callingA_cons (table_Purse_Give_ok hm) callingA_nil))))))) Tryz.call72 Tryz.func72 (by kernel_rfl) (by kernel_rfl) false (space_Machine_Touch_den region_Find_A space_Machine_purse_A table_Query_A walk_May_A table_Purse_Take_A table_Map_A table_Purse_Give_A)

def pte_Canonical_ann : AnnA := (.seq none .leaf (.seq none .leaf (.seq none .leaf .leaf)))
set_option maxRecDepth 100000 in
theorem pte_Canonical_den : pte_Canonical_W (pte_Canonical_A) = curS [.c (.i .u64)] EnR fun vs K Kp A => denFnA Tryz.prog (tabA []) [] Tryz.f138 pte_Canonical_ann vs K (np false Kp) A := by kernel_rfl
set_option maxRecDepth 100000 in
theorem pte_Canonical_ok (hm : Tryz.prog.follows .mixedOrders = true) : EntryOK Tryz.prog 138 (upE (enS [.c (.i .u64)] (pte_Canonical_W pte_Canonical_A))) := entA hm callingA_nil Tryz.call138 Tryz.func138 (by kernel_rfl) (by kernel_rfl) false pte_Canonical_den

def walk_walker_fault_ann : AnnA := (.seq (some ⟨[0], [(1, (.c (.i .i64)))], []⟩) (.seq none .leaf (.cond .leaf .leaf)) (.seq (some ⟨[0], [(1, (.c (.i .i64)))], []⟩) (.seq none .leaf (.cond .leaf .leaf)) (.seq (some ⟨[0], [(1, (.c (.i .i64)))], []⟩) (.seq none .leaf (.cond .leaf .leaf)) .leaf)))
set_option maxRecDepth 100000 in
theorem walk_walker_fault_den : walk_walker_fault_W (walk_walker_fault_A) = curS [.c .p, .c (.i .i64)] EnR fun vs K Kp A => denFnA Tryz.prog (tabA []) [] Tryz.f143 walk_walker_fault_ann vs K (np true Kp) A := by kernel_rfl
set_option maxRecDepth 100000 in
theorem walk_walker_fault_ok (hm : Tryz.prog.follows .mixedOrders = true) : EntryOK Tryz.prog 143 (upE (enS [.c .p, .c (.i .i64)] (walk_walker_fault_W walk_walker_fault_A))) := entA hm callingA_nil Tryz.call143 Tryz.func143 (by kernel_rfl) (by kernel_rfl) true walk_walker_fault_den

def pte_Reserved_ann : AnnA := (.seq none .leaf (.seq none (.seq none .leaf (.cond (.seq none .leaf .leaf) .leaf)) (.seq none .leaf (.seq none .leaf (.seq none (.block (.seq none .leaf (.cond (.seq none .leaf .leaf) (.seq none .leaf (.cond (.seq none .leaf .leaf) (.seq none .leaf (.cond (.seq none .leaf .leaf) .leaf))))))) (.seq none .leaf .leaf))))))
set_option maxRecDepth 100000 in
theorem pte_Reserved_den : pte_Reserved_W (pte_Reserved_A) = curS [.c (.i .u64), .c (.i .i64)] EnR fun vs K Kp A => denFnA Tryz.prog (tabA []) [] Tryz.f190 pte_Reserved_ann vs K (np false Kp) A := by kernel_rfl
set_option maxRecDepth 100000 in
theorem pte_Reserved_ok (hm : Tryz.prog.follows .mixedOrders = true) : EntryOK Tryz.prog 190 (upE (enS [.c (.i .u64), .c (.i .i64)] (pte_Reserved_W pte_Reserved_A))) := entA hm callingA_nil Tryz.call190 Tryz.func190 (by kernel_rfl) (by kernel_rfl) false pte_Reserved_den

def walk_walker_entry_ann : AnnA := (.seq none .leaf (.seq none .leaf (.seq none .leaf (.seq (some ⟨[0, 3, 10, 11], [], []⟩) (.seq none .leaf (.cond .leaf .leaf)) (.seq (some ⟨[0, 3, 10, 11], [], []⟩) (.seq none .leaf (.cond .leaf .leaf)) (.seq (some ⟨[0, 10, 11], [], []⟩) (.seq none .leaf (.cond .leaf .leaf)) (.seq none .leaf (.seq (some ⟨[0, 10, 11, 13], [], []⟩) .leaf (.seq (some ⟨[0, 10, 11, 13], [], []⟩) .leaf (.seq none .leaf (.seq none .leaf .leaf)))))))))))
set_option maxRecDepth 100000 in
theorem walk_walker_entry_den (f_ram_RAM_Load : ram_RAM_Load_T) (f_walk_walker_fault : walk_walker_fault_T) (f_pte_Reserved : pte_Reserved_T) (f_pte_Unpack : pte_Unpack_T) : walk_walker_entry_W (walk_walker_entry_G f_ram_RAM_Load f_walk_walker_fault f_pte_Reserved f_pte_Unpack) = curS [.c .p, .c (.i .i64), .c (.i .i64), .c (.i .i64)] EnR fun vs K Kp A => denFnA Tryz.prog (tabA [(33, enS [.c .p, .c (.i .u64), .c (.i .i64)] (ram_RAM_Load_W f_ram_RAM_Load)), (143, enS [.c .p, .c (.i .i64)] (walk_walker_fault_W f_walk_walker_fault)), (190, enS [.c (.i .u64), .c (.i .i64)] (pte_Reserved_W f_pte_Reserved)), (142, enS [.c (.i .u64)] (pte_Unpack_W f_pte_Unpack))]) [13] Tryz.f141 walk_walker_entry_ann vs K (np true Kp) A := by kernel_rfl
set_option maxRecDepth 100000 in
theorem walk_walker_entry_ok (hm : Tryz.prog.follows .mixedOrders = true) : EntryOK Tryz.prog 141 (upE (enS [.c .p, .c (.i .i64), .c (.i .i64), .c (.i .i64)] (walk_walker_entry_W walk_walker_entry_A))) := entA hm (callingA_cons (ram_RAM_Load_ok hm) (callingA_cons (walk_walker_fault_ok hm) (callingA_cons (pte_Reserved_ok hm) (callingA_cons (pte_Unpack_ok hm) callingA_nil)))) Tryz.call141 Tryz.func141 (by kernel_rfl) (by kernel_rfl) true (walk_walker_entry_den ram_RAM_Load_A walk_walker_fault_A pte_Reserved_A pte_Unpack_A)

def walk_mark_ann : AnnA := (.seq none .leaf (.block (.loop ⟨[0, 1, 2, 11, 12], [(13, (.c (.i .i64)))], []⟩ (.seq none .leaf (.seq none (.cond .leaf .leaf) (.seq (some ⟨[0, 1, 2, 11, 12, 13], [], []⟩) (.block (.seq none .leaf (.seq none .leaf (.seq none .leaf (.seq (some ⟨[0, 1, 2, 7, 8, 11, 12, 13], [(10, (.c (.i .u64)))], []⟩) (.seq none .leaf (.cond .leaf .leaf)) (.seq none .leaf (.cond .leaf .leaf))))))) .leaf))))))
set_option maxRecDepth 100000 in
theorem walk_mark_den (f_ram_RAM_Load : ram_RAM_Load_T) (f_ram_RAM_Store : ram_RAM_Store_T) : walk_mark_W (walk_mark_G f_ram_RAM_Load f_ram_RAM_Store) = curS [.c .p, .c .s, .c .b] EnR fun vs K Kp A => denFnA Tryz.prog (tabA [(33, enS [.c .p, .c (.i .u64), .c (.i .i64)] (ram_RAM_Load_W f_ram_RAM_Load)), (32, enS [.c .p, .c (.i .u64), .c (.i .i64), .c (.i .u64)] (ram_RAM_Store_W f_ram_RAM_Store))]) [] Tryz.f144 walk_mark_ann vs K (np false Kp) A := by kernel_rfl
set_option maxRecDepth 100000 in
theorem walk_mark_ok (hm : Tryz.prog.follows .mixedOrders = true) : EntryOK Tryz.prog 144 (upE (enS [.c .p, .c .s, .c .b] (walk_mark_W walk_mark_A))) := entA hm (callingA_cons (ram_RAM_Load_ok hm) (callingA_cons (ram_RAM_Store_ok hm) callingA_nil)) Tryz.call144 Tryz.func144 (by kernel_rfl) (by kernel_rfl) false (walk_mark_den ram_RAM_Load_A ram_RAM_Store_A)

def walk_Walk_1_an : AnnA := (.seq none .leaf (.cond (.draw 0) .leaf))
def walk_Walk_1_ap : AnnA := (.seq none .leaf (.cond (.drawS [0, 1, 3, 2, 4, 5, 6, 7] []) .leaf))
set_option maxRecDepth 100000 in
theorem walk_Walk_1_def (hm : Tryz.prog.follows .mixedOrders = true) : DefOK Tryz.prog 137 (upDn (dnS [.c .p, .c .p, .c .p] walk_Walk_1_nA)) (upDp (dpS [.c .p, .c .p, .c .p] 243 [(.i .u64), (.i .i64), (.i .i64)] walk_Walk_1_pA)) :=
  defA hm callingA_nil (p1 := [3]) (p2 := [3]) (an := walk_Walk_1_an) (ap := walk_Walk_1_ap) Tryz.call137 Tryz.func137 (by kernel_rfl) (by kernel_rfl) (by kernel_rfl) (by kernel_rfl)
def walk_Walk_ann : AnnA := (.seq none .leaf (.seq none .leaf (.seq none (.seq none .leaf (.cond (.seq none .leaf .leaf) .leaf)) (.seq none (.seq none .leaf (.cond (.seq none .leaf .leaf) .leaf)) (.seq none .leaf (.seq none .leaf (.seq none .leaf (.seq none .leaf (.seq (some ⟨[0, 7, 8, 9, 10], [(14, (.c .s))], []⟩) (.seq none .leaf (.block (.loop ⟨[0, 7, 8, 9, 10, 11, 12], [(14, (.c .s)), (15, (.c (.i .i64))), (16, (.c (.i .i64)))], []⟩ (.seq none (.seq none .leaf (.cond .leaf .leaf)) (.seq none (.block (.seq none .leaf (.seq none .leaf (.seq none .leaf (.seq none .leaf (.seq (some ⟨[0, 7, 8, 9, 10, 11, 12, 14, 16, 19], [], []⟩) (.seq none .leaf (.cond .leaf .leaf)) (.seq (some ⟨[0, 7, 8, 9, 10, 11, 12, 14, 16, 19], [], []⟩) (.seq none (.draw 5) (.cond .leaf .leaf)) (.seq none (.draw 17) (.seq none (.seq none .leaf (.cond .leaf .leaf)) .leaf))))))))) .leaf))))) (.seq none .leaf (.seq none .leaf .leaf)))))))))))
set_option maxRecDepth 100000 in
theorem walk_Walk_den (f_pte_Canonical : pte_Canonical_T) (f_ram_RAM_Has : ram_RAM_Has_T) (f_pte_Split : pte_Split_T) (f_walk_walker_entry : walk_walker_entry_T) (f_pte_Unpack : pte_Unpack_T) (f_walk_May : walk_May_T) (f_walk_walker_fault : walk_walker_fault_T) (f_walk_mark : walk_mark_T) (f_walk_Walk_1_n : walk_Walk_1_Tn) (f_walk_Walk_1_p : walk_Walk_1_Tp) : walk_Walk_W (walk_Walk_G f_pte_Canonical f_ram_RAM_Has f_pte_Split f_walk_walker_entry f_pte_Unpack f_walk_May f_walk_walker_fault f_walk_mark f_walk_Walk_1_n (walk_Walk_1_vA f_walk_Walk_1_p)) = curS [.c .p, .c (.i .i64), .c (.i .u64), .agg [.b, .b, .b]] EnR fun vs K Kp A => denFnDA Tryz.prog (tabA [(138, enS [.c (.i .u64)] (pte_Canonical_W f_pte_Canonical)), (139, enS [.c .p, .c (.i .i64)] (ram_RAM_Has_W f_ram_RAM_Has)), (140, enS [.c (.i .u64)] (pte_Split_W f_pte_Split)), (141, enS [.c .p, .c (.i .i64), .c (.i .i64), .c (.i .i64)] (walk_walker_entry_W f_walk_walker_entry)), (142, enS [.c (.i .u64)] (pte_Unpack_W f_pte_Unpack)), (71, enS [.agg [.b, .b, .b], .agg [.b, .b, .b]] (walk_May_W f_walk_May)), (143, enS [.c .p, .c (.i .i64)] (walk_walker_fault_W f_walk_walker_fault)), (144, enS [.c .p, .c .s, .c .b] (walk_mark_W f_walk_mark))]) [7, 19] Tryz.f73 walk_Walk_ann 137 (dnS [.c .p, .c .p, .c .p] f_walk_Walk_1_n) (dpS [.c .p, .c .p, .c .p] 243 [(.i .u64), (.i .i64), (.i .i64)] f_walk_Walk_1_p) vs K (np false Kp) A := by kernel_rfl
set_option maxRecDepth 100000 in
theorem walk_Walk_ok (hm : Tryz.prog.follows .mixedOrders = true) : EntryOK Tryz.prog 73 (upE (enS [.c .p, .c (.i .i64), .c (.i .u64), .agg [.b, .b, .b]] (walk_Walk_W walk_Walk_A))) := entDA hm (callingA_cons (pte_Canonical_ok hm) (callingA_cons (ram_RAM_Has_ok hm) (callingA_cons (pte_Split_ok hm) (callingA_cons (walk_walker_entry_ok hm) (callingA_cons (pte_Unpack_ok hm) (callingA_cons (walk_May_ok hm) (callingA_cons (walk_walker_fault_ok hm) (callingA_cons (walk_mark_ok hm) callingA_nil)))))))) (walk_Walk_1_def hm) Tryz.call73 Tryz.func73 (by kernel_rfl) (by kernel_rfl) false (walk_Walk_den pte_Canonical_A ram_RAM_Has_A pte_Split_A walk_walker_entry_A pte_Unpack_A walk_May_A walk_walker_fault_A walk_mark_A walk_Walk_1_nA walk_Walk_1_pA)

def tlb_TLB_Fill_ann : AnnA := (.seq none .leaf (.seq (some ⟨[0, 1, 5], [], []⟩) (.seq none .leaf (.cond (.seq none .leaf .leaf) .leaf)) (.seq none (.drawS [0, 1, 4, 5, 2, 3, 6, 7] []) (.seq none (.seq none .leaf (.block (.loop ⟨[1, 5, 7], [(47, (.c (.i .i64)))], []⟩ (.seq none .leaf (.seq none (.cond .leaf .leaf) (.seq (some ⟨[1, 5, 7, 47], [], []⟩) (.block (.seq none .leaf (.seq none (.drawS [0, 1, 2, 3, 5, 7, 4, 6, 8, 9, 10, 11, 12, 13, 14, 15, 16, 17, 18, 19, 20, 21, 22, 23, 24, 25, 26, 28, 27, 29, 30, 31, 32] []) (.cond .leaf .leaf)))) .leaf)))))) (.seq none (.draw 5) (.seq none .leaf .leaf))))))
set_option maxRecDepth 100000 in
theorem tlb_TLB_Fill_den (f_tlb_set : tlb_set_T) (f_tlb_Line_fits : tlb_Line_fits_T) : tlb_TLB_Fill_W (tlb_TLB_Fill_G f_tlb_set f_tlb_Line_fits) = curS [.c .p, .c (.i .i64), .agg [.b, (.i .i64), (.i .i64), (.i .i64), .b, .b, .b, .b, .b]] EnR fun vs K Kp A => denFnA Tryz.prog (tabA [(134, enS [.c (.i .i64)] (tlb_set_W f_tlb_set)), (136, enS [.agg [.b, (.i .i64), (.i .i64), (.i .i64), .b, .b, .b, .b, .b], .c (.i .i64), .c (.i .i64)] (tlb_Line_fits_W f_tlb_Line_fits))]) [5] Tryz.f74 tlb_TLB_Fill_ann vs K (np false Kp) A := by kernel_rfl
set_option maxRecDepth 100000 in
theorem tlb_TLB_Fill_ok (hm : Tryz.prog.follows .mixedOrders = true) : EntryOK Tryz.prog 74 (upE (enS [.c .p, .c (.i .i64), .agg [.b, (.i .i64), (.i .i64), (.i .i64), .b, .b, .b, .b, .b]] (tlb_TLB_Fill_W tlb_TLB_Fill_A))) := entA hm (callingA_cons (tlb_set_ok hm) (callingA_cons (tlb_Line_fits_ok hm) callingA_nil)) Tryz.call74 Tryz.func74 (by kernel_rfl) (by kernel_rfl) false (tlb_TLB_Fill_den tlb_set_A tlb_Line_fits_A)

def cpu_CPU_frame_ann : AnnA := (.seq none .leaf (.seq none .leaf (.seq none .leaf (.seq (some ⟨[0, 1, 2, 7, 9, 10], [], []⟩) (.seq none .leaf (.cond .leaf .leaf)) (.seq none .leaf (.seq (some ⟨[0, 1, 2, 7, 9, 10, 12, 13], [], []⟩) (.seq none .leaf (.seq none .leaf (.cond (.seq none .leaf .leaf) .leaf))) (.seq none (.drawS [0, 1, 2, 4, 5, 3, 6, 7, 8, 9, 10, 11, 12, 13, 14] []) (.seq none .leaf (.seq (some ⟨[0, 2, 7, 9, 10, 12, 13, 18, 19], [], [(19, (0, (.i .u64))), (19, (1, (.i .i64)))]⟩) (.seq none .leaf (.cond .leaf .leaf)) (.seq none .leaf (.seq none (.drawS [0, 1, 2, 7, 8, 3, 4, 5, 6, 9, 10, 11, 12, 13, 14, 15, 16, 17, 18] [15]) (.seq none .leaf (.seq (some ⟨[20], [], []⟩) (.seq none .leaf (.cond (.draw 17) .leaf)) (.seq none .leaf .leaf))))))))))))))
set_option maxRecDepth 100000 in
theorem cpu_CPU_frame_den (f_cpu_CPU_choose : cpu_CPU_choose_T) (f_space_Machine_Root : space_Machine_Root_T) (f_cpu_check : cpu_check_T) (f_space_Machine_Tag : space_Machine_Tag_T) (f_tlb_TLB_Find : tlb_TLB_Find_T) (f_walk_May : walk_May_T) (f_space_Machine_Touch : space_Machine_Touch_T) (f_walk_Walk : walk_Walk_T) (f_tlb_TLB_Fill : tlb_TLB_Fill_T) : cpu_CPU_frame_W (cpu_CPU_frame_G f_cpu_CPU_choose f_space_Machine_Root f_cpu_check f_space_Machine_Tag f_tlb_TLB_Find f_walk_May f_space_Machine_Touch f_walk_Walk f_tlb_TLB_Fill) = curS [.c .p, .c (.i .i64), .c (.i .u64), .agg [.b, .b, .b]] EnR fun vs K Kp A => denFnA Tryz.prog (tabA [(67, enS [.c .p] (cpu_CPU_choose_W f_cpu_CPU_choose)), (68, enS [.c .p, .c (.i .i64)] (space_Machine_Root_W f_space_Machine_Root)), (30, enS [.c (.i .i64), .agg [(.i .u64), (.i .i64)]] (cpu_check_W f_cpu_check)), (69, enS [.c .p, .c (.i .i64)] (space_Machine_Tag_W f_space_Machine_Tag)), (70, enS [.c .p, .c (.i .i64), .c (.i .i64)] (tlb_TLB_Find_W f_tlb_TLB_Find)), (71, enS [.agg [.b, .b, .b], .agg [.b, .b, .b]] (walk_May_W f_walk_May)), (72, enS [.c .p, .c (.i .i64), .c (.i .i64), .agg [.b, .b, .b]] (space_Machine_Touch_W f_space_Machine_Touch)), (73, enS [.c .p, .c (.i .i64), .c (.i .u64), .agg [.b, .b, .b]] (walk_Walk_W f_walk_Walk)), (74, enS [.c .p, .c (.i .i64), .agg [.b, (.i .i64), (.i .i64), (.i .i64), .b, .b, .b, .b, .b]] (tlb_TLB_Fill_W f_tlb_TLB_Fill))]) [7, 14, 19, 20] Tryz.f31 cpu_CPU_frame_ann vs K (np true Kp) A := by kernel_rfl
set_option maxRecDepth 100000 in
theorem cpu_CPU_frame_ok (hm : Tryz.prog.follows .mixedOrders = true) : EntryOK Tryz.prog 31 (upE (enS [.c .p, .c (.i .i64), .c (.i .u64), .agg [.b, .b, .b]] (cpu_CPU_frame_W cpu_CPU_frame_A))) := entA hm (callingA_cons (cpu_CPU_choose_ok hm) (callingA_cons (space_Machine_Root_ok hm) (callingA_cons (cpu_check_ok hm) (callingA_cons (space_Machine_Tag_ok hm) (callingA_cons (tlb_TLB_Find_ok hm) (callingA_cons (walk_May_ok hm) (callingA_cons (space_Machine_Touch_ok hm) (callingA_cons (walk_Walk_ok hm) (callingA_cons (tlb_TLB_Fill_ok hm) callingA_nil))))))))) Tryz.call31 Tryz.func31 (by kernel_rfl) (by kernel_rfl) true (cpu_CPU_frame_den cpu_CPU_choose_A space_Machine_Root_A cpu_check_A space_Machine_Tag_A tlb_TLB_Find_A walk_May_A space_Machine_Touch_A walk_Walk_A tlb_TLB_Fill_A)

def cpu_CPU_Do_1_an : AnnA := (.seq none .leaf (.cond (.draw 0) .leaf))
def cpu_CPU_Do_1_ap : AnnA := (.seq none .leaf (.cond (.drawS [0, 2, 1, 3, 4, 5, 6] []) .leaf))
set_option maxRecDepth 100000 in
theorem cpu_CPU_Do_1_def (hm : Tryz.prog.follows .mixedOrders = true) : DefOK Tryz.prog 29 (upDn (dnS [.c .p, .c .p, .c .p] cpu_CPU_Do_1_nA)) (upDp (dpS [.c .p, .c .p, .c .p] 101 [(.i .u64), (.i .i64), (.i .i64)] cpu_CPU_Do_1_pA)) :=
  defA hm callingA_nil (p1 := [3]) (p2 := [3]) (an := cpu_CPU_Do_1_an) (ap := cpu_CPU_Do_1_ap) Tryz.call29 Tryz.func29 (by kernel_rfl) (by kernel_rfl) (by kernel_rfl) (by kernel_rfl)
def cpu_CPU_Do_ann : AnnA := (.seq none .leaf (.seq none .leaf (.seq (some ⟨[0, 1, 2, 3, 4, 5, 12, 13, 14], [], []⟩) (.seq none .leaf (.block (.seq (some ⟨[0, 1, 2, 3, 4, 5, 12, 13, 14], [(20, (.c .b))], []⟩) (.seq none .leaf (.cond .leaf (.seq none .leaf (.cond .leaf (.seq none .leaf (.cond .leaf .leaf)))))) (.cond .leaf .leaf)))) (.seq (some ⟨[0, 1, 2, 3, 4, 5, 12, 13, 14], [], []⟩) (.seq none .leaf (.cond .leaf .leaf)) (.seq none .leaf (.seq none (.seq none .leaf (.cond (.seq none .leaf (.seq none .leaf .leaf)) .leaf)) (.seq none .leaf (.seq none (.drawS [1, 0, 2, 3, 4, 5] []) .leaf))))))))
set_option maxRecDepth 100000 in
theorem cpu_CPU_Do_den (f_cpu_check : cpu_check_T) (f_cpu_CPU_frame : cpu_CPU_frame_T) (f_ram_RAM_Store : ram_RAM_Store_T) (f_ram_RAM_Load : ram_RAM_Load_T) (f_cpu_CPU_Do_1_n : cpu_CPU_Do_1_Tn) (f_cpu_CPU_Do_1_p : cpu_CPU_Do_1_Tp) : cpu_CPU_Do_W (cpu_CPU_Do_G f_cpu_check f_cpu_CPU_frame f_ram_RAM_Store f_ram_RAM_Load f_cpu_CPU_Do_1_n (cpu_CPU_Do_1_vA f_cpu_CPU_Do_1_p)) = curS [.c .p, .c (.i .i64), .c (.i .u64), .c (.i .i64), .c .b, .c (.i .u64)] EnR fun vs K Kp A => denFnDA Tryz.prog (tabA [(30, enS [.c (.i .i64), .agg [(.i .u64), (.i .i64)]] (cpu_check_W f_cpu_check)), (31, enS [.c .p, .c (.i .i64), .c (.i .u64), .agg [.b, .b, .b]] (cpu_CPU_frame_W f_cpu_CPU_frame)), (32, enS [.c .p, .c (.i .u64), .c (.i .i64), .c (.i .u64)] (ram_RAM_Store_W f_ram_RAM_Store)), (33, enS [.c .p, .c (.i .u64), .c (.i .i64)] (ram_RAM_Load_W f_ram_RAM_Load))]) [] Tryz.f13 cpu_CPU_Do_ann 29 (dnS [.c .p, .c .p, .c .p] f_cpu_CPU_Do_1_n) (dpS [.c .p, .c .p, .c .p] 101 [(.i .u64), (.i .i64), (.i .i64)] f_cpu_CPU_Do_1_p) vs K (np false Kp) A := by kernel_rfl
set_option maxRecDepth 100000 in
theorem cpu_CPU_Do_ok (hm : Tryz.prog.follows .mixedOrders = true) : EntryOK Tryz.prog 13 (upE (enS [.c .p, .c (.i .i64), .c (.i .u64), .c (.i .i64), .c .b, .c (.i .u64)] (cpu_CPU_Do_W cpu_CPU_Do_A))) := entDA hm (callingA_cons (cpu_check_ok hm) (callingA_cons (cpu_CPU_frame_ok hm) (callingA_cons (ram_RAM_Store_ok hm) (callingA_cons (ram_RAM_Load_ok hm) callingA_nil)))) (cpu_CPU_Do_1_def hm) Tryz.call13 Tryz.func13 (by kernel_rfl) (by kernel_rfl) false (cpu_CPU_Do_den cpu_check_A cpu_CPU_frame_A ram_RAM_Store_A ram_RAM_Load_A cpu_CPU_Do_1_nA cpu_CPU_Do_1_pA)

def demesnelaw13_awake_ann : AnnA := (.seq none .leaf (.seq none .leaf (.seq (some ⟨[1], [], []⟩) (.seq none .leaf (.cond (.seq none .leaf .leaf) .leaf)) (.seq none .leaf (.seq none .leaf (.seq none .leaf (.seq none .leaf .leaf)))))))
set_option maxRecDepth 100000 in
theorem demesnelaw13_awake_den (f_demesnelaw13_Begin : demesnelaw13_Begin_T) (f_space_Machine_Open : space_Machine_Open_T) (f_space_Machine_Map : space_Machine_Map_T) (f_cpu_CPU_Do : cpu_CPU_Do_T) : demesnelaw13_awake_W (demesnelaw13_awake_G f_demesnelaw13_Begin f_space_Machine_Open f_space_Machine_Map f_cpu_CPU_Do) = curS [] EnR fun vs K Kp A => denFnA Tryz.prog (tabA [(9, enS [.c (.i .i64), .c (.i .i64), .c .s] (demesnelaw13_Begin_W f_demesnelaw13_Begin)), (11, enS [.c .p, .c (.i .i64), .c (.i .i64)] (space_Machine_Open_W f_space_Machine_Open)), (12, enS [.c .p, .c (.i .i64), .agg [(.i .i64), (.i .i64)], .agg [.b, .b, .b]] (space_Machine_Map_W f_space_Machine_Map)), (13, enS [.c .p, .c (.i .i64), .c (.i .u64), .c (.i .i64), .c .b, .c (.i .u64)] (cpu_CPU_Do_W f_cpu_CPU_Do))]) [2, 5, 8, 11] Tryz.f8 demesnelaw13_awake_ann vs K (np false Kp) A := by kernel_rfl
set_option maxRecDepth 100000 in
theorem demesnelaw13_awake_ok (hm : Tryz.prog.follows .mixedOrders = true) : EntryOK Tryz.prog 8 (upE (enS [] (demesnelaw13_awake_W demesnelaw13_awake_A))) := entA hm (callingA_cons (demesnelaw13_Begin_ok hm) (callingA_cons (space_Machine_Open_ok hm) (callingA_cons (space_Machine_Map_ok hm) (callingA_cons (cpu_CPU_Do_ok hm) callingA_nil)))) Tryz.call8 Tryz.func8 (by kernel_rfl) (by kernel_rfl) false (demesnelaw13_awake_den demesnelaw13_Begin_A space_Machine_Open_A space_Machine_Map_A cpu_CPU_Do_A)

def demesnelaw13_few_ann : AnnA := (.seq none .leaf (.seq (some ⟨[], [(0, (.c .s))], []⟩) (.seq none .leaf (.cond .leaf .leaf)) (.seq none .leaf .leaf)))
set_option maxRecDepth 100000 in
theorem demesnelaw13_few_den : demesnelaw13_few_W (demesnelaw13_few_A) = curS [.c .s, .c (.i .i64)] EnR fun vs K Kp A => denFnA Tryz.prog (tabA []) [] Tryz.f10 demesnelaw13_few_ann vs K (np false Kp) A := by kernel_rfl
set_option maxRecDepth 100000 in
theorem demesnelaw13_few_ok (hm : Tryz.prog.follows .mixedOrders = true) : EntryOK Tryz.prog 10 (upE (enS [.c .s, .c (.i .i64)] (demesnelaw13_few_W demesnelaw13_few_A))) := entA hm callingA_nil Tryz.call10 Tryz.func10 (by kernel_rfl) (by kernel_rfl) false demesnelaw13_few_den

def demesnelaw13_CpuSizes_ann : AnnA := (.seq none .leaf (.seq (some ⟨[0, 1, 2, 3, 4], [], []⟩) (.seq none .leaf (.cond (.seq none .leaf .leaf) .leaf)) (.seq none .leaf (.seq (some ⟨[1, 2, 3, 4, 11], [], []⟩) (.seq none .leaf (.cond (.seq none .leaf .leaf) .leaf)) (.seq none .leaf (.seq none .leaf (.seq none .leaf (.seq none (.seq none .leaf (.block (.loop ⟨[2, 3, 4, 11, 14, 17], [(18, (.c (.i .u64))), (19, (.c (.i .i64)))], []⟩ (.seq none (.seq none .leaf (.cond .leaf .leaf)) (.seq none (.block (.seq none .leaf (.seq none (.seq none .leaf (.cond (.seq none .leaf .leaf) .leaf)) .leaf))) .leaf))))) (.seq none .leaf (.seq none .leaf (.seq none .leaf (.seq (some ⟨[2, 17, 18, 25, 26, 28], [(29, (.c (.i .u64)))], []⟩) (.seq none .leaf (.cond (.seq none .leaf .leaf) .leaf)) (.seq none .leaf .leaf)))))))))))))
set_option maxRecDepth 100000 in
theorem demesnelaw13_CpuSizes_den (f_demesnelaw13_awake : demesnelaw13_awake_T) (f_demesnelaw13_few : demesnelaw13_few_T) (f_demesnelaw13_Begin : demesnelaw13_Begin_T) (f_space_Machine_Open : space_Machine_Open_T) (f_space_Machine_Map : space_Machine_Map_T) (f_cpu_CPU_Do : cpu_CPU_Do_T) : demesnelaw13_CpuSizes_W (demesnelaw13_CpuSizes_G f_demesnelaw13_awake f_demesnelaw13_few f_demesnelaw13_Begin f_space_Machine_Open f_space_Machine_Map f_cpu_CPU_Do) = curS [.c .s, .c (.i .i64), .c (.i .u64), .c (.i .u64), .c (.i .i64)] EnR fun vs K Kp A => denFnA Tryz.prog (tabA [(8, enS [] (demesnelaw13_awake_W f_demesnelaw13_awake)), (10, enS [.c .s, .c (.i .i64)] (demesnelaw13_few_W f_demesnelaw13_few)), (9, enS [.c (.i .i64), .c (.i .i64), .c .s] (demesnelaw13_Begin_W f_demesnelaw13_Begin)), (11, enS [.c .p, .c (.i .i64), .c (.i .i64)] (space_Machine_Open_W f_space_Machine_Open)), (12, enS [.c .p, .c (.i .i64), .agg [(.i .i64), (.i .i64)], .agg [.b, .b, .b]] (space_Machine_Map_W f_space_Machine_Map)), (13, enS [.c .p, .c (.i .i64), .c (.i .u64), .c (.i .i64), .c .b, .c (.i .u64)] (cpu_CPU_Do_W f_cpu_CPU_Do))]) [12, 16, 21, 24, 27] Tryz.f3 demesnelaw13_CpuSizes_ann vs K (np false Kp) A := by kernel_rfl
set_option maxRecDepth 100000 in
theorem demesnelaw13_CpuSizes_ok (hm : Tryz.prog.follows .mixedOrders = true) : EntryOK Tryz.prog 3 (upE (enS [.c .s, .c (.i .i64), .c (.i .u64), .c (.i .u64), .c (.i .i64)] (demesnelaw13_CpuSizes_W demesnelaw13_CpuSizes_A))) := entA hm (callingA_cons (demesnelaw13_awake_ok hm) (callingA_cons (demesnelaw13_few_ok hm) (callingA_cons (demesnelaw13_Begin_ok hm) (callingA_cons (space_Machine_Open_ok hm) (callingA_cons (space_Machine_Map_ok hm) (callingA_cons (cpu_CPU_Do_ok hm) callingA_nil)))))) Tryz.call3 Tryz.func3 (by kernel_rfl) (by kernel_rfl) false (demesnelaw13_CpuSizes_den demesnelaw13_awake_A demesnelaw13_few_A demesnelaw13_Begin_A space_Machine_Open_A space_Machine_Map_A cpu_CPU_Do_A)

end Go.Dn
