/- Printed by gen3.py: that each function does so. -/
import Derived.Test.YtaafkchlmndbkaaGreatG
import Derived.Test.YtaafkchlmndbkaaGreatParseE
import Derived.Test.YtaafkchlmndbkaaGreatSortE
import Derived.Test.YtaafkchlmndbkaaGreatSortU
import Derived.Test.YtaafkchlmndbkaaGreatProg
import Derived.KernelRfl
import Derived.Ground.GgzProg
namespace Go.Dn
open Go.Proofs Go.Shelf
set_option maxRecDepth 100000
abbrev PM : Prop := Tryz.prog.follows .mixedOrders = true
abbrev s1 (x y : AnnA) : AnnA := .seq none x y
abbrev s0 (x : AnnA) : AnnA := .seq none .leaf x
abbrev qaa_E (f : qaa_T) : EnA := enS [.c (.i .u64),.c (.i .u64),.c (.i .u32)] (qaa_W f)
abbrev qab_E (f : qab_T) : EnA := enS [.c (.i .i64),.c (.i .i64)] (qab_W f)
abbrev qac_E (f : qac_T) : EnA := enS [.c .s] (qac_W f)
abbrev qad_E (f : qad_T) : EnA := enS [.agg [(.i .u64),(.i .u64),(.i .u32)],.c (.i .i64)] (qad_W f)
abbrev qae_E (f : qae_T) : EnA := enS [.c .s] (qae_W f)
abbrev qaf_E (f : qaf_T) : EnA := enS [.agg [(.i .i64),(.i .i64)]] (qaf_W f)
abbrev qag_E (f : qag_T) : EnA := enS [.c .s,.fn 146 [] []] (qag_W f)
abbrev qah_E (f : qah_T) : EnA := enS [.c .s,.fn 146 [] []] (qah_W f)
abbrev qai_E (f : qai_T) : EnA := enS [.c .s,.fn 148 [] []] (qai_W f)
abbrev qaj_E (f : qaj_T) : EnA := enS [.c .s] (qaj_W f)
abbrev qak_E (f : qak_T) : EnA := enS [.c .s,.c .s] (qak_W f)
abbrev qal_E (f : qal_T) : EnA := enS [.c .s,.c (.i .i64),.agg [(.i .i64),(.i .i64)]] (qal_W f)
abbrev qam_E (f : qam_T) : EnA := enS [.c .p] (qam_W f)
abbrev qan_E (f : qan_T) : EnA := enS [.c (.i .i64)] (qan_W f)
abbrev qao_E (f : qao_T) : EnA := enS [.c (.i .i64),.c .s] (qao_W f)
abbrev qap_E (f : qap_T) : EnA := enS [.c .p,.c (.i .i64),.c (.i .i64)] (qap_W f)
abbrev qaq_E (f : qaq_T) : EnA := enS [.c .s] (qaq_W f)
abbrev qar_E (f : qar_T) : EnA := enS [.c .p] (qar_W f)
abbrev qas_E (f : qas_T) : EnA := enS [.c (.i .i64)] (qas_W f)
abbrev qat_E (f : qat_T) : EnA := enS [.c .p,.c (.i .i64)] (qat_W f)
abbrev qau_E (f : qau_T) : EnA := enS [.c .p,.c (.i .i64)] (qau_W f)
abbrev qav_E (f : qav_T) : EnA := enS [.c .p,.c (.i .i64)] (qav_W f)
abbrev qaw_E (f : qaw_T) : EnA := enS [.c .p,.c (.i .i64),.c (.i .i64)] (qaw_W f)
abbrev qax_E (f : qax_T) : EnA := enS [.c .m] (qax_W f)
abbrev qay_E (f : qay_T) : EnA := enS [.fn 104 [] [.p]] (qay_W f)
abbrev qaz_E (f : qaz_T) : EnA := enS [.c .s] (qaz_W f)
abbrev qba_E (f : qba_T) : EnA := enS [.c .p,.c (.i .i64)] (qba_W f)
abbrev qbb_E (f : qbb_T) : EnA := enS [.c .p,.c (.i .i64)] (qbb_W f)
abbrev qbc_E (f : qbc_T) : EnA := enS [.c .p,.c (.i .i64)] (qbc_W f)
abbrev qbd_E (f : qbd_T) : EnA := enS [.c .p,.c (.i .i64)] (qbd_W f)
abbrev qbe_E (f : qbe_T) : EnA := enS [.c .p,.c (.i .i64),.c (.i .i64)] (qbe_W f)
abbrev qbf_E (f : qbf_T) : EnA := enS [.agg [.p,.p,.p,(.i .i64)]] (qbf_W f)
abbrev qbg_E (f : qbg_T) : EnA := enS [.c .p] (qbg_W f)
abbrev qbh_E (f : qbh_T) : EnA := enS [.agg [.p,.p,.p,(.i .i64)],.c (.i .i64)] (qbh_W f)
abbrev qbi_E (f : qbi_T) : EnA := enS [.c .p] (qbi_W f)
abbrev qbj_E (f : qbj_T) : EnA := enS [] (qbj_W f)
abbrev qbk_E (f : qbk_T) : EnA := enS [.agg [.b,.b,.b,.b,.b,.b,.b,.b,(.i .i64)]] (qbk_W f)
abbrev qbl_E (f : qbl_T) : EnA := enS [.c (.i .i64),.c (.i .i64)] (qbl_W f)
abbrev qbm_E (f : qbm_T) : EnA := enS [.c .p,.c (.i .u64),.c (.i .i64)] (qbm_W f)
abbrev qbn_E (f : qbn_T) : EnA := enS [.c .p,.c (.i .i64)] (qbn_W f)
abbrev qbo_E (f : qbo_T) : EnA := enS [.c .p,.c (.i .u64),.c (.i .i64),.c (.i .u64)] (qbo_W f)
abbrev qbp_E (f : qbp_T) : EnA := enS [.agg [.p,.p,.p,(.i .i64)],.c (.i .i64),.c (.i .i64),.agg [.b,.b,.b,.b,.b,.b,.b,.b,(.i .i64)]] (qbp_W f)
abbrev qbq_E (f : qbq_T) : EnA := enS [.agg [.p,.p,.p,(.i .i64)]] (qbq_W f)
abbrev qbr_E (f : qbr_T) : EnA := enS [.agg [(.i .i64),(.i .i64),(.i .i64),(.i .i64),.s]] (qbr_W f)
abbrev qbs_E (f : qbs_T) : EnA := enS [.c (.i .i64),.c (.i .i64)] (qbs_W f)
abbrev qbt_E (f : qbt_T) : EnA := enS [.agg [.p,.p,.p,(.i .i64)],.c (.i .i64)] (qbt_W f)
abbrev qbu_E (f : qbu_T) : EnA := enS [.c .p,.c (.i .i64),.c (.i .i64)] (qbu_W f)
abbrev qbv_E (f : qbv_T) : EnA := enS [.agg [(.i .i64),(.i .i64)]] (qbv_W f)
abbrev qbw_E (f : qbw_T) : EnA := enS [.agg [(.i .i64),(.i .i64),.b,.b,.b,(.i .i64)],.agg [(.i .i64),(.i .i64),.b,.b,.b,(.i .i64)]] (qbw_W f)
abbrev qbx_E (f : qbx_T) : EnA := enS [.c .s] (qbx_W f)
abbrev qby_E (f : qby_T) : EnA := enS [.c .s] (qby_W f)
abbrev qbz_E (f : qbz_T) : EnA := enS [.c .s,.c .s] (qbz_W f)
abbrev qca_E (f : qca_T) : EnA := enS [.c .s] (qca_W f)
abbrev qcb_E (f : qcb_T) : EnA := enS [.c .s,.c (.i .i64)] (qcb_W f)
abbrev qcc_E (f : qcc_T) : EnA := enS [.c .s,.c (.i .i64)] (qcc_W f)
abbrev qcd_E (f : qcd_T) : EnA := enS [.c .s,.c (.i .i64),.c .s] (qcd_W f)
abbrev qce_E (f : qce_T) : EnA := enS [.c .s] (qce_W f)
abbrev qcf_E (f : qcf_T) : EnA := enS [.c .s] (qcf_W f)
abbrev qcg_E (f : qcg_T) : EnA := enS [.c .s,.agg [(.i .i64),(.i .i64),.b,.b,.b,(.i .i64)]] (qcg_W f)
abbrev qch_E (f : qch_T) : EnA := enS [.c .p,.c (.i .i64),.agg [(.i .i64),(.i .i64)],.agg [.b,.b,.b]] (qch_W f)
abbrev qci_E (f : qci_T) : EnA := enS [.c .s,.c (.i .i64)] (qci_W f)
abbrev qcj_E (f : qcj_T) : EnA := enS [.c (.i .u64)] (qcj_W f)
abbrev qck_E (f : qck_T) : EnA := enS [.c (.i .i64)] (qck_W f)
abbrev qcl_E (f : qcl_T) : EnA := enS [.c .p,.c (.i .u64),.c (.i .i64)] (qcl_W f)
abbrev qcm_E (f : qcm_T) : EnA := enS [.c (.i .u64)] (qcm_W f)
abbrev qcn_E (f : qcn_T) : EnA := enS [.agg [.p,.p,.p,(.i .i64)],.c (.i .i64),.c (.i .i64)] (qcn_W f)
abbrev qco_E (f : qco_T) : EnA := enS [.agg [.p,.p,.p,(.i .i64)],.c (.i .i64),.c (.i .i64)] (qco_W f)
abbrev qcp_E (f : qcp_T) : EnA := enS [.agg [.p,.p,.p,(.i .i64)],.c (.i .i64),.c (.i .i64)] (qcp_W f)
abbrev qcq_E (f : qcq_T) : EnA := enS [.agg [.b,.b,.b],.agg [.b,.b,.b]] (qcq_W f)
abbrev qcr_E (f : qcr_T) : EnA := enS [.c (.i .i64),.agg [.b,.b,.b]] (qcr_W f)
abbrev qcs_E (f : qcs_T) : EnA := enS [.agg [.p,.p,.p,(.i .i64)],.c (.i .i64),.c (.i .i64),.c (.i .i64),.agg [.b,.b,.b]] (qcs_W f)
abbrev qct_E (f : qct_T) : EnA := enS [.c .p,.c (.i .i64),.c (.i .i64),.agg [.b,.b,.b]] (qct_W f)
abbrev qcu_E (f : qcu_T) : EnA := enS [.c .m] (qcu_W f)
abbrev qcv_E (f : qcv_T) : EnA := enS [.fn 100 [] [.p]] (qcv_W f)
abbrev qcw_E (f : qcw_T) : EnA := enS [.c .s] (qcw_W f)
abbrev qcx_E (f : qcx_T) : EnA := enS [.fn 100 [] [.p]] (qcx_W f)
abbrev qcy_E (f : qcy_T) : EnA := enS [.c .p] (qcy_W f)
abbrev qcz_E (f : qcz_T) : EnA := enS [.c .p,.c (.i .i64)] (qcz_W f)
abbrev qda_E (f : qda_T) : EnA := enS [.c (.i .i64),.agg [.b,.b,.b,.b,.b,.b,.b,.b,(.i .i64)],.c .p] (qda_W f)
abbrev qdb_E (f : qdb_T) : EnA := enS [.c .p,.c (.i .i64),.fn 59 [] [.p]] (qdb_W f)
abbrev qdc_E (f : qdc_T) : EnA := enS [.c .p,.c (.i .i64)] (qdc_W f)
abbrev qdd_E (f : qdd_T) : EnA := enS [.c (.i .i64),.agg [.b,.b,.b,.b,.b,.b,.b,.b,(.i .i64)],.c .p] (qdd_W f)
abbrev qde_E (f : qde_T) : EnA := enS [.c .p,.c (.i .i64),.fn 19 [] [.p]] (qde_W f)
abbrev qdf_E (f : qdf_T) : EnA := enS [.c .p,.c (.i .i64)] (qdf_W f)
abbrev qdg_E (f : qdg_T) : EnA := enS [.c .p,.c (.i .i64),.c (.i .i64),.c (.i .i64),.c (.i .i64)] (qdg_W f)
abbrev qdh_E (f : qdh_T) : EnA := enS [.c (.i .i64),.agg [.b,.b,.b,.b,.b,.b,.b,.b,(.i .i64)],.c .p,.c .p,.c .p,.c .p] (qdh_W f)
abbrev qdi_E (f : qdi_T) : EnA := enS [.c .p,.c (.i .i64),.fn 60 [] [.p,.p,.p,.p]] (qdi_W f)
abbrev qdj_E (f : qdj_T) : EnA := enS [.fn 104 [] [.p]] (qdj_W f)
abbrev qdk_E (f : qdk_T) : EnA := enS [.c .p,.c (.i .i64)] (qdk_W f)
abbrev qdl_E (f : qdl_T) : EnA := enS [.c .s,.fn 24 [] []] (qdl_W f)
abbrev qdm_E (f : qdm_T) : EnA := enS [.c .p] (qdm_W f)
abbrev qdn_E (f : qdn_T) : EnA := enS [.c .s] (qdn_W f)
abbrev qdo_E (f : qdo_T) : EnA := enS [.c .m] (qdo_W f)
abbrev qdp_E (f : qdp_T) : EnA := enS [.fn 115 [] [.p]] (qdp_W f)
abbrev qdq_E (f : qdq_T) : EnA := enS [.fn 115 [] [.p]] (qdq_W f)
abbrev qdr_E (f : qdr_T) : EnA := enS [.c .p] (qdr_W f)
abbrev qds_E (f : qds_T) : EnA := enS [.c .p,.c (.i .i64)] (qds_W f)
abbrev qdt_E (f : qdt_T) : EnA := enS [.c .p] (qdt_W f)
abbrev qdu_E (f : qdu_T) : EnA := enS [.c .p,.c (.i .i64)] (qdu_W f)
abbrev qdv_E (f : qdv_T) : EnA := enS [.c .p] (qdv_W f)
abbrev qdw_E (f : qdw_T) : EnA := enS [] (qdw_W f)
abbrev qdx_E (f : qdx_T) : EnA := enS [.agg [(.i .i64),(.i .i64),.b,.b,.b,(.i .i64)],.c .p] (qdx_W f)
abbrev qdy_E (f : qdy_T) : EnA := enS [.c .s,.fn 70 [] [.p]] (qdy_W f)
abbrev qdz_E (f : qdz_T) : EnA := enS [.c .s,.fn 70 [] [.p]] (qdz_W f)
abbrev qea_E (f : qea_T) : EnA := enS [.c .p,.agg [(.i .i64),(.i .i64)]] (qea_W f)
abbrev qeb_E (f : qeb_T) : EnA := enS [.c (.i .i64),.c .p] (qeb_W f)
abbrev qec_E (f : qec_T) : EnA := enS [.agg [.p,.p,.p,(.i .i64)],.c (.i .i64),.c (.i .i64),.c (.i .i64),.fn 72 [] [.p]] (qec_W f)
abbrev qed_E (f : qed_T) : EnA := enS [.agg [.p,.p,.p,(.i .i64)],.c (.i .i64)] (qed_W f)
abbrev qee_E (f : qee_T) : EnA := enS [.c .p,.c (.i .i64)] (qee_W f)
abbrev qef_E (f : qef_T) : EnA := enS [.agg [.p,.p,.p,(.i .i64)],.c (.i .i64),.c (.i .i64)] (qef_W f)
abbrev qeg_E (f : qeg_T) : EnA := enS [.c .p,.c (.i .i64)] (qeg_W f)
abbrev qeh_E (f : qeh_T) : EnA := enS [.agg [.b,(.i .i64),(.i .i64),(.i .i64),.b,.b,.b,.b,.b],.c (.i .i64),.c (.i .i64)] (qeh_W f)
abbrev qei_E (f : qei_T) : EnA := enS [.agg [.b,(.i .i64),(.i .i64),(.i .i64),.b,.b,.b,.b,.b],.c .p,.c .p] (qei_W f)
abbrev qej_E (f : qej_T) : EnA := enS [.c .p,.fn 140 [] [.p,.p]] (qej_W f)
abbrev qek_E (f : qek_T) : EnA := enS [.c .p,.c (.i .i64),.c (.i .i64)] (qek_W f)
abbrev qel_E (f : qel_T) : EnA := enS [.c .p,.c (.i .i64),.c (.i .i64)] (qel_W f)
abbrev qem_E (f : qem_T) : EnA := enS [.c .p,.c (.i .i64),.c .p,.c (.i .i64)] (qem_W f)
abbrev qen_E (f : qen_T) : EnA := enS [.agg [.b,(.i .i64),(.i .i64),(.i .i64),.b,.b,.b,.b,.b],.c .p] (qen_W f)
abbrev qeo_E (f : qeo_T) : EnA := enS [.c .p,.fn 76 [] [.p]] (qeo_W f)
abbrev qep_E (f : qep_T) : EnA := enS [.c .p,.c (.i .i64)] (qep_W f)
abbrev qeq_E (f : qeq_T) : EnA := enS [.c .p,.c (.i .i64)] (qeq_W f)
abbrev qer_E (f : qer_T) : EnA := enS [.agg [.p,.p,.p,(.i .i64)],.c (.i .i64)] (qer_W f)
abbrev qes_E (f : qes_T) : EnA := enS [.c .p,.c (.i .i64)] (qes_W f)
abbrev qet_E (f : qet_T) : EnA := enS [.c (.i .i64)] (qet_W f)
def qaa_ann : AnnA := (s0 (s0 (s1 (s0 (.block (.loop ⟨[0,1,2,7],[(8,(.c (.i .i64)))],[]⟩ (s1 (s0 (.cond .leaf .leaf)) (s1 (.block (s0 .leaf)) .leaf))))) (s1 (s0 (.block (.loop ⟨[2,7],[(9,(.c (.i .i64)))],[]⟩ (s1 (s0 (.cond .leaf .leaf)) (s1 (.block .leaf) .leaf))))) (s0 .leaf)))))
theorem qaa_den : qaa_W (qaa_A) = curS [.c (.i .u64),.c (.i .u64),.c (.i .u32)] EnR fun vs K Kp A => denFnA Tryz.prog (tabA []) [] Tryz.f54 qaa_ann vs K (np false Kp) A := by kernel_rfl
theorem qaa_ok (hm : PM) : EntryOK Tryz.prog 54 (upE (qaa_E qaa_A)) := entA hm callingA_nil Tryz.call54 Tryz.func54 (by kernel_rfl) (by kernel_rfl) false qaa_den
def qab_ann : AnnA := (s0 (s0 .leaf))
theorem qab_den (f_qaa : qaa_T) : qab_W (qab_G f_qaa) = curS [.c (.i .i64),.c (.i .i64)] EnR fun vs K Kp A => denFnA Tryz.prog (tabA [(54,qaa_E f_qaa)]) [4] Tryz.f15 qab_ann vs K (np false Kp) A := by kernel_rfl
theorem qab_ok (hm : PM) : EntryOK Tryz.prog 15 (upE (qab_E qab_A)) := entA hm (callingA_cons (qaa_ok hm) callingA_nil) Tryz.call15 Tryz.func15 (by kernel_rfl) (by kernel_rfl) false (qab_den qaa_A)
theorem qac_ok (_hm : PM) : EntryOK Tryz.prog 92 (upE (qac_E qac_A)) := parse_ok rfl
def qad_ann : AnnA := (s0 (s1 (.draw 11) (.seq (some ⟨[1,2,4],[(5,(.c (.i .u64))),(6,(.c (.i .u64)))],[]⟩) (s0 (.cond (s0 (.cond .leaf .leaf)) (s0 (.cond .leaf .leaf)))) (.seq (some ⟨[1,4,5],[(6,(.c (.i .u64)))],[]⟩) (s0 (.cond .leaf .leaf)) (s0 .leaf)))))
theorem qad_den : qad_W (qad_A) = curS [.agg [(.i .u64),(.i .u64),(.i .u32)],.c (.i .i64)] EnR fun vs K Kp A => denFnA Tryz.prog (tabA []) [2,4] Tryz.f93 qad_ann vs K (np false Kp) A := by kernel_rfl
theorem qad_ok (hm : PM) : EntryOK Tryz.prog 93 (upE (qad_E qad_A)) := entA hm callingA_nil Tryz.call93 Tryz.func93 (by kernel_rfl) (by kernel_rfl) false qad_den
def qae_ann : AnnA := (s0 (s1 (s0 (.cond (s0 .leaf) .leaf)) (s0 .leaf)))
theorem qae_den : qae_W (qae_A) = curS [.c .s] EnR fun vs K Kp A => denFnA Tryz.prog (tabA []) [] Tryz.f145 qae_ann vs K (np false Kp) A := by kernel_rfl
theorem qae_ok (hm : PM) : EntryOK Tryz.prog 145 (upE (qae_E qae_A)) := entA hm callingA_nil Tryz.call145 Tryz.func145 (by kernel_rfl) (by kernel_rfl) false qae_den
def qaf_ann : AnnA := (s0 (s0 .leaf))
theorem qaf_den : qaf_W (qaf_A) = curS [.agg [(.i .i64),(.i .i64)]] EnR fun vs K Kp A => denFnA Tryz.prog (tabA []) [1] Tryz.f146 qaf_ann vs K (np false Kp) A := by kernel_rfl
theorem qaf_ok (hm : PM) : EntryOK Tryz.prog 146 (upE (qaf_E qaf_A)) := entA hm callingA_nil Tryz.call146 Tryz.func146 (by kernel_rfl) (by kernel_rfl) false qaf_den
def qag_ann : AnnA := (s0 (s1 (s0 (.block (.loop ⟨[0,1,7],[(8,(.c (.i .i64)))],[]⟩ (s0 (s1 (.cond .leaf .leaf) (s1 (.block (s0 (s0 (.cond (s0 .leaf) .leaf)))) .leaf)))))) (s0 .leaf)))
theorem qag_den (f_qaf : qaf_T) : qag_W (qag_G f_qaf) = curS [.c .s,.fn 146 [] []] EnR fun vs K Kp A => denFnA Tryz.prog (tabA [(146,qaf_E f_qaf)]) [] Tryz.f160 qag_ann vs K (np false Kp) A := by kernel_rfl
theorem qag_ok (hm : PM) : EntryOK Tryz.prog 160 (upE (qag_E qag_A)) := entA hm (callingA_cons (qaf_ok hm) callingA_nil) Tryz.call160 Tryz.func160 (by kernel_rfl) (by kernel_rfl) false (qag_den qaf_A)
def qah_ann : AnnA := (s0 (s0 (s1 (s0 (.cond (s0 .leaf) .leaf)) (s1 (s0 (.block (.loop ⟨[0,1],[(5,(.c (.i .i64))),(6,(.c (.i .i64)))],[]⟩ (s1 (s0 (.cond .leaf .leaf)) (.seq (some ⟨[0,1,6],[(5,(.c (.i .i64)))],[]⟩) (.block (s0 (s0 (.cond (s0 .leaf) .leaf)))) .leaf))))) (s0 (s0 .leaf))))))
theorem qah_den (f_qag : qag_T) (f_qaf : qaf_T) : qah_W (qah_G f_qag f_qaf) = curS [.c .s,.fn 146 [] []] EnR fun vs K Kp A => denFnA Tryz.prog (tabA [(160,qag_E f_qag),(146,qaf_E f_qaf)]) [7] Tryz.f144 qah_ann vs K (np false Kp) A := by kernel_rfl
theorem qah_ok (hm : PM) : EntryOK Tryz.prog 144 (upE (qah_E qah_A)) := entA hm (callingA_cons (qag_ok hm) (callingA_cons (qaf_ok hm) callingA_nil)) Tryz.call144 Tryz.func144 (by kernel_rfl) (by kernel_rfl) false (qah_den qag_A qaf_A)
theorem qai_ok (_hm : PM) : EntryOK Tryz.prog 147 (upE (qai_E qai_A)) := sortRange_ok rfl
def qaj_ann : AnnA := (s0 (s0 (s0 (s0 (s1 (s0 (.block (.loop ⟨[13,14],[(4,(.c .s)),(15,(.c (.i .i64)))],[]⟩ (s0 (s1 (.cond .leaf .leaf) (.seq (some ⟨[13,14,15],[(4,(.c .s))],[]⟩) (.block (s0 (s1 (s0 (.seq (some ⟨[4,6,7,13,14,15],[(33,(.c .b))],[]⟩) (.draw 13) (.cond (s1 (.draw 14) .leaf) .leaf))) .leaf))) .leaf)))))) (s0 .leaf))))))
theorem qaj_den (f_qae : qae_T) (f_qah : qah_T) (f_qai : qai_T) : qaj_W (qaj_G f_qae f_qah f_qai) = curS [.c .s] EnR fun vs K Kp A => denFnA Tryz.prog (tabA [(145,qae_E f_qae),(144,qah_E f_qah),(147,qai_E f_qai)]) [6] Tryz.f131 qaj_ann vs K (np false Kp) A := by kernel_rfl
theorem qaj_ok (hm : PM) : EntryOK Tryz.prog 131 (upE (qaj_E qaj_A)) := entA hm (callingA_cons (qae_ok hm) (callingA_cons (qah_ok hm) (callingA_cons (qai_ok hm) callingA_nil))) Tryz.call131 Tryz.func131 (by kernel_rfl) (by kernel_rfl) false (qaj_den qae_A qah_A qai_A)
def qak_ann : AnnA := (s0 (s0 (s0 (s1 (s0 (.block (.loop ⟨[6,15,16],[(5,(.c .s)),(17,(.c (.i .i64)))],[]⟩ (s0 (s1 (.cond .leaf .leaf) (.seq (some ⟨[6,15,16,17],[(5,(.c .s))],[]⟩) (.block (s0 (s0 (s1 (s0 (.block (.loop ⟨[6,8,15,16,17,23,24],[(5,(.c .s)),(9,(.c (.i .i64))),(25,(.c (.i .i64)))],[]⟩ (s0 (s1 (.cond .leaf .leaf) (.seq (some ⟨[6,8,15,16,17,23,24,25],[(5,(.c .s)),(9,(.c (.i .i64)))],[]⟩) (.block (s0 (s1 (s0 (.cond .leaf .leaf)) (.seq (some ⟨[6,8,9,11,15,16,17,23,24,25],[(5,(.c .s))],[]⟩) (s0 (.cond .leaf .leaf)) .leaf)))) .leaf)))))) (s0 (.cond .leaf .leaf)))))) .leaf)))))) (s0 .leaf)))))
theorem qak_den (f_qaj : qaj_T) : qak_W (qak_G f_qaj) = curS [.c .s,.c .s] EnR fun vs K Kp A => denFnA Tryz.prog (tabA [(131,qaj_E f_qaj)]) [8,11] Tryz.f94 qak_ann vs K (np false Kp) A := by kernel_rfl
theorem qak_ok (hm : PM) : EntryOK Tryz.prog 94 (upE (qak_E qak_A)) := entA hm (callingA_cons (qaj_ok hm) callingA_nil) Tryz.call94 Tryz.func94 (by kernel_rfl) (by kernel_rfl) false (qak_den qaj_A)
def qal_ann : AnnA := (s0 (.seq (some ⟨[0,1,5],[],[]⟩) (s0 (.cond (s0 .leaf) .leaf)) (s0 (s1 (s0 (.cond (s0 .leaf) .leaf)) (s0 (s0 (s1 (s0 (.block (.loop ⟨[1,50,51],[(10,(.c .s)),(11,(.c .s)),(52,(.c (.i .i64)))],[]⟩ (s0 (s1 (.cond .leaf .leaf) (.seq (some ⟨[1,50,51,52],[(10,(.c .s)),(11,(.c .s))],[]⟩) (.block (s0 (s0 (s0 (.cond .leaf .leaf))))) .leaf)))))) (s0 (s1 (s0 (.cond (s0 .leaf) .leaf)) (s0 .leaf))))))))))
theorem qal_den (f_qac : qac_T) (f_qad : qad_T) (f_qak : qak_T) : qal_W (qal_G f_qac f_qad f_qak) = curS [.c .s,.c (.i .i64),.agg [(.i .i64),(.i .i64)]] EnR fun vs K Kp A => denFnA Tryz.prog (tabA [(92,qac_E f_qac),(93,qad_E f_qad),(94,qak_E f_qak)]) [5,13,14] Tryz.f47 qal_ann vs K (np false Kp) A := by kernel_rfl
theorem qal_ok (hm : PM) : EntryOK Tryz.prog 47 (upE (qal_E qal_A)) := entA hm (callingA_cons (qac_ok hm) (callingA_cons (qad_ok hm) (callingA_cons (qak_ok hm) callingA_nil))) Tryz.call47 Tryz.func47 (by kernel_rfl) (by kernel_rfl) false (qal_den qac_A qad_A qak_A)
def qam_ann : AnnA := .leaf
theorem qam_den : qam_W (qam_A) = curS [.c .p] EnR fun vs K Kp A => denFnA Tryz.prog (tabA []) [] Tryz.f95 qam_ann vs K (np false Kp) A := by kernel_rfl
theorem qam_ok (hm : PM) : EntryOK Tryz.prog 95 (upE (qam_E qam_A)) := entA hm callingA_nil Tryz.call95 Tryz.func95 (by kernel_rfl) (by kernel_rfl) false qam_den
def qan_ann : AnnA := (s0 (s1 (s0 (.cond (s0 .leaf) .leaf)) (s0 (s0 (s0 .leaf)))))
theorem qan_den (f_qam : qam_T) : qan_W (qan_G f_qam) = curS [.c (.i .i64)] EnR fun vs K Kp A => denFnA Tryz.prog (tabA [(95,qam_E f_qam)]) [] Tryz.f48 qan_ann vs K (np false Kp) A := by kernel_rfl
theorem qan_ok (hm : PM) : EntryOK Tryz.prog 48 (upE (qan_E qan_A)) := entA hm (callingA_cons (qam_ok hm) callingA_nil) Tryz.call48 Tryz.func48 (by kernel_rfl) (by kernel_rfl) false (qan_den qam_A)
def qao_ann : AnnA := (s0 (s1 (s0 (.cond (s0 .leaf) .leaf)) (.seq (some ⟨[0,1],[],[]⟩) (s0 (.cond (s0 .leaf) .leaf)) (s1 (s0 (.block (.loop ⟨[0,1,17,18],[(19,(.c (.i .i64)))],[]⟩ (s0 (s1 (.cond .leaf .leaf) (s1 (.block (s0 (s0 (.cond (s0 .leaf) .leaf)))) .leaf)))))) (s0 .leaf)))))
theorem qao_den : qao_W (qao_A) = curS [.c (.i .i64),.c .s] EnR fun vs K Kp A => denFnA Tryz.prog (tabA []) [7] Tryz.f49 qao_ann vs K (np false Kp) A := by kernel_rfl
theorem qao_ok (hm : PM) : EntryOK Tryz.prog 49 (upE (qao_E qao_A)) := entA hm callingA_nil Tryz.call49 Tryz.func49 (by kernel_rfl) (by kernel_rfl) false qao_den
def qap_ann : AnnA := (s1 (.block (.loop ⟨[0],[(1,(.c (.i .i64))),(2,(.c (.i .i64)))],[]⟩ (s1 (s1 (.draw 15) (.cond .leaf .leaf)) (.block (s1 (.draw 10) (s0 .leaf)))))) .leaf)
theorem qap_den : qap_W (qap_A) = curS [.c .p,.c (.i .i64),.c (.i .i64)] EnR fun vs K Kp A => denFnA Tryz.prog (tabA []) [] Tryz.f96 qap_ann vs K (np false Kp) A := by kernel_rfl
theorem qap_ok (hm : PM) : EntryOK Tryz.prog 96 (upE (qap_E qap_A)) := entA hm callingA_nil Tryz.call96 Tryz.func96 (by kernel_rfl) (by kernel_rfl) false qap_den
def qaq_ann : AnnA := (s0 (s1 (s0 (.cond (s0 .leaf) .leaf)) (s0 (s1 (s0 (.block (.loop ⟨[0,16,17],[(4,(.c (.i .i64))),(18,(.c (.i .i64)))],[]⟩ (s0 (s1 (.cond .leaf .leaf) (s1 (.block (s0 (s1 (s0 (.cond (s0 .leaf) .leaf)) .leaf))) .leaf)))))) (s0 (s1 (s0 (.block (.loop ⟨[0,7],[(44,(.c (.i .i64)))],[]⟩ (s0 (s1 (.cond .leaf .leaf) (s1 (.block (s0 .leaf)) .leaf)))))) (s1 (s0 (.block (.loop ⟨[7,54,55],[(56,(.c (.i .i64)))],[]⟩ (s0 (s1 (.cond .leaf .leaf) (s1 (.block (s0 (s1 (s0 (.block (.loop ⟨[7,10,54,55,56],[(11,(.c (.i .i64)))],[]⟩ (s1 (s0 (.cond .leaf .leaf)) (.block (s0 (s1 (.block (.loop ⟨[7,10,11,54,55,56],[(12,(.c (.i .i64)))],[]⟩ (s1 (s1 (.draw 18) (.cond .leaf .leaf)) (.block .leaf)))) (s0 .leaf)))))))) (.draw 12)))) .leaf)))))) (s0 .leaf))))))))
theorem qaq_den (f_qap : qap_T) : qaq_W (qaq_G f_qap) = curS [.c .s] EnR fun vs K Kp A => denFnA Tryz.prog (tabA [(96,qap_E f_qap)]) [6,10] Tryz.f50 qaq_ann vs K (np false Kp) A := by kernel_rfl
theorem qaq_ok (hm : PM) : EntryOK Tryz.prog 50 (upE (qaq_E qaq_A)) := entA hm (callingA_cons (qap_ok hm) callingA_nil) Tryz.call50 Tryz.func50 (by kernel_rfl) (by kernel_rfl) false (qaq_den qap_A)
def qar_ann : AnnA := (s0 (s0 .leaf))
theorem qar_den : qar_W (qar_A) = curS [.c .p] EnR fun vs K Kp A => denFnA Tryz.prog (tabA []) [] Tryz.f52 qar_ann vs K (np false Kp) A := by kernel_rfl
theorem qar_ok (hm : PM) : EntryOK Tryz.prog 52 (upE (qar_E qar_A)) := entA hm callingA_nil Tryz.call52 Tryz.func52 (by kernel_rfl) (by kernel_rfl) false qar_den
def qas_ann : AnnA := (s0 (s1 (s0 (.cond (s0 .leaf) .leaf)) (s0 .leaf)))
theorem qas_den : qas_W (qas_A) = curS [.c (.i .i64)] EnR fun vs K Kp A => denFnA Tryz.prog (tabA []) [] Tryz.f51 qas_ann vs K (np false Kp) A := by kernel_rfl
theorem qas_ok (hm : PM) : EntryOK Tryz.prog 51 (upE (qas_E qas_A)) := entA hm callingA_nil Tryz.call51 Tryz.func51 (by kernel_rfl) (by kernel_rfl) false qas_den
def qat_ann : AnnA := (s0 (s1 (.draw 14) .leaf))
theorem qat_den : qat_W (qat_A) = curS [.c .p,.c (.i .i64)] EnR fun vs K Kp A => denFnA Tryz.prog (tabA []) [4] Tryz.f32 qat_ann vs K (np false Kp) A := by kernel_rfl
theorem qat_ok (hm : PM) : EntryOK Tryz.prog 32 (upE (qat_E qat_A)) := entA hm callingA_nil Tryz.call32 Tryz.func32 (by kernel_rfl) (by kernel_rfl) false qat_den
def qau_ann : AnnA := (s0 (s1 (s0 (.cond (s0 .leaf) .leaf)) (s0 .leaf)))
theorem qau_den : qau_W (qau_A) = curS [.c .p,.c (.i .i64)] EnR fun vs K Kp A => denFnA Tryz.prog (tabA []) [] Tryz.f67 qau_ann vs K (np false Kp) A := by kernel_rfl
theorem qau_ok (hm : PM) : EntryOK Tryz.prog 67 (upE (qau_E qau_A)) := entA hm callingA_nil Tryz.call67 Tryz.func67 (by kernel_rfl) (by kernel_rfl) false qau_den
def qav_ann : AnnA := (s0 (s0 (s1 (s0 (.cond (s0 .leaf) .leaf)) (s1 (.draw 15) .leaf))))
theorem qav_den (f_qau : qau_T) : qav_W (qav_G f_qau) = curS [.c .p,.c (.i .i64)] EnR fun vs K Kp A => denFnA Tryz.prog (tabA [(67,qau_E f_qau)]) [] Tryz.f126 qav_ann vs K (np false Kp) A := by kernel_rfl
theorem qav_ok (hm : PM) : EntryOK Tryz.prog 126 (upE (qav_E qav_A)) := entA hm (callingA_cons (qau_ok hm) callingA_nil) Tryz.call126 Tryz.func126 (by kernel_rfl) (by kernel_rfl) false (qav_den qau_A)
def qaw_ann : AnnA := (s0 (s0 (s1 (.block (s0 (.cond (s0 .leaf) (s0 (.cond (s0 .leaf) (s0 (.cond (s0 .leaf) .leaf))))))) (s0 (s0 .leaf)))))
theorem qaw_den (f_qau : qau_T) (f_qav : qav_T) : qaw_W (qaw_G f_qau f_qav) = curS [.c .p,.c (.i .i64),.c (.i .i64)] EnR fun vs K Kp A => denFnA Tryz.prog (tabA [(67,qau_E f_qau),(126,qav_E f_qav)]) [] Tryz.f86 qaw_ann vs K (np false Kp) A := by kernel_rfl
theorem qaw_ok (hm : PM) : EntryOK Tryz.prog 86 (upE (qaw_E qaw_A)) := entA hm (callingA_cons (qau_ok hm) (callingA_cons (qav_ok hm) callingA_nil)) Tryz.call86 Tryz.func86 (by kernel_rfl) (by kernel_rfl) false (qaw_den qau_A qav_A)
def qax_ann : AnnA := (s0 (s0 .leaf))
theorem qax_den : qax_W (qax_A) = curS [.c .m] EnR fun vs K Kp A => denFnA Tryz.prog (tabA []) [] Tryz.f62 qax_ann vs K (np false Kp) A := by kernel_rfl
theorem qax_ok (hm : PM) : EntryOK Tryz.prog 62 (upE (qax_E qax_A)) := entA hm callingA_nil Tryz.call62 Tryz.func62 (by kernel_rfl) (by kernel_rfl) false qax_den
shelf_lay_g SlLaysZI.n8 Ggz 8 at Tryz 98 as slices_Collect_int_l1
shelf_lay_g SlLaysZI.n7 Ggz 7 at Tryz 62 as slices_Collect_int_l2
theorem qay_ok (_hm : PM) : EntryOK Tryz.prog 98 (upE (qay_E qay_A)) :=
 collect_ok (ρ := slices_Collect_int_l1_ren) (ρ' := slices_Collect_int_l2_ren) slices_Collect_int_l1 { slices_Collect_int_l2 with } rfl rfl rfl rfl
def qaz_ann : AnnA := (s0 (.seq (some ⟨[0],[],[]⟩) (s0 (.cond .leaf .leaf)) (s0 (s1 (s0 (.block (.loop ⟨[0],[(3,(.c (.i .i64))),(4,(.c (.i .i64)))],[]⟩ (s1 (s0 (.cond .leaf .leaf)) (s1 (.block .leaf) .leaf))))) (s0 .leaf)))))
theorem qaz_den : qaz_W (qaz_A) = curS [.c .s] EnR fun vs K Kp A => denFnA Tryz.prog (tabA []) [] Tryz.f127 qaz_ann vs K (np false Kp) A := by kernel_rfl
theorem qaz_ok (hm : PM) : EntryOK Tryz.prog 127 (upE (qaz_E qaz_A)) := entA hm callingA_nil Tryz.call127 Tryz.func127 (by kernel_rfl) (by kernel_rfl) false qaz_den
def qba_ann : AnnA := (s0 (.seq (some ⟨[0,1],[],[]⟩) (s0 (.cond (s0 .leaf) .leaf)) (s0 (.seq (some ⟨[0,1],[(6,(.c (.i .i64)))],[]⟩) (.block (.loop ⟨[0,1],[(6,(.c (.i .i64)))],[]⟩ (s1 (s0 (.cond .leaf .leaf)) (.block .leaf)))) (s1 (s0 (.cond (s0 .leaf) .leaf)) (s0 (s0 (s1 (.block (.loop ⟨[0,1,7],[(6,(.c (.i .i64)))],[]⟩ (s1 (s0 (.cond .leaf .leaf)) (.block (s0 (.draw 10)))))) (s0 (s1 (.draw 9) (s0 .leaf)))))))))))
theorem qba_den (f_qax : qax_T) (f_qay : qay_T) (f_qaz : qaz_T) : qba_W (qba_G f_qax f_qay f_qaz) = curS [.c .p,.c (.i .i64)] EnR fun vs K Kp A => denFnA Tryz.prog (tabA [(62,qax_E f_qax),(98,qay_E f_qay),(127,qaz_E f_qaz)]) [] Tryz.f87 qba_ann vs K (np false Kp) A := by kernel_rfl
theorem qba_ok (hm : PM) : EntryOK Tryz.prog 87 (upE (qba_E qba_A)) := entA hm (callingA_cons (qax_ok hm) (callingA_cons (qay_ok hm) (callingA_cons (qaz_ok hm) callingA_nil))) Tryz.call87 Tryz.func87 (by kernel_rfl) (by kernel_rfl) false (qba_den qax_A qay_A qaz_A)
def qbb_ann : AnnA := (s0 (s1 (s0 (.cond (s0 .leaf) .leaf)) (s1 (s0 (.block (.loop ⟨[1,20,21],[(22,(.c (.i .i64)))],[]⟩ (s0 (s1 (.cond .leaf .leaf) (s1 (.block (s0 (s0 (.cond (s0 .leaf) .leaf)))) .leaf)))))) (s0 .leaf))))
theorem qbb_den : qbb_W (qbb_A) = curS [.c .p,.c (.i .i64)] EnR fun vs K Kp A => denFnA Tryz.prog (tabA []) [6] Tryz.f128 qbb_ann vs K (np false Kp) A := by kernel_rfl
theorem qbb_ok (hm : PM) : EntryOK Tryz.prog 128 (upE (qbb_E qbb_A)) := entA hm callingA_nil Tryz.call128 Tryz.func128 (by kernel_rfl) (by kernel_rfl) false qbb_den
def qbc_ann : AnnA := (s0 (s1 (s0 (.cond (s0 .leaf) .leaf)) (s0 (s0 .leaf))))
theorem qbc_den (f_qbb : qbb_T) : qbc_W (qbc_G f_qbb) = curS [.c .p,.c (.i .i64)] EnR fun vs K Kp A => denFnA Tryz.prog (tabA [(128,qbb_E f_qbb)]) [] Tryz.f88 qbc_ann vs K (np false Kp) A := by kernel_rfl
theorem qbc_ok (hm : PM) : EntryOK Tryz.prog 88 (upE (qbc_E qbc_A)) := entA hm (callingA_cons (qbb_ok hm) callingA_nil) Tryz.call88 Tryz.func88 (by kernel_rfl) (by kernel_rfl) false (qbc_den qbb_A)
def qbd_ann : AnnA := (s0 (s0 (s1 (s0 (.cond (s0 .leaf) .leaf)) (s0 (s1 (.draw 9) (s0 (s0 .leaf)))))))
theorem qbd_den (f_qap : qap_T) : qbd_W (qbd_G f_qap) = curS [.c .p,.c (.i .i64)] EnR fun vs K Kp A => denFnA Tryz.prog (tabA [(96,qap_E f_qap)]) [] Tryz.f89 qbd_ann vs K (np false Kp) A := by kernel_rfl
theorem qbd_ok (hm : PM) : EntryOK Tryz.prog 89 (upE (qbd_E qbd_A)) := entA hm (callingA_cons (qap_ok hm) callingA_nil) Tryz.call89 Tryz.func89 (by kernel_rfl) (by kernel_rfl) false (qbd_den qap_A)
def qbe_ann : AnnA := (s0 (s0 (s1 (.block (s0 (.cond (s0 .leaf) (s0 (.cond (s0 .leaf) .leaf))))) (s0 (s0 .leaf)))))
theorem qbe_den (f_qau : qau_T) : qbe_W (qbe_G f_qau) = curS [.c .p,.c (.i .i64),.c (.i .i64)] EnR fun vs K Kp A => denFnA Tryz.prog (tabA [(67,qau_E f_qau)]) [] Tryz.f90 qbe_ann vs K (np false Kp) A := by kernel_rfl
theorem qbe_ok (hm : PM) : EntryOK Tryz.prog 90 (upE (qbe_E qbe_A)) := entA hm (callingA_cons (qau_ok hm) callingA_nil) Tryz.call90 Tryz.func90 (by kernel_rfl) (by kernel_rfl) false (qbe_den qau_A)
def qbf_ann : AnnA := (s0 (s1 (s0 (s0 (.cond (s0 .leaf) .leaf))) (s0 (.seq (some ⟨[1],[(6,(.c (.i .i64)))],[]⟩) (s0 (.cond (s1 (s0 (s0 (.cond (s0 .leaf) .leaf))) .leaf) .leaf)) (s0 (s0 .leaf))))))
theorem qbf_den (f_qaw : qaw_T) (f_qba : qba_T) (f_qbc : qbc_T) (f_qbd : qbd_T) (f_qbe : qbe_T) : qbf_W (qbf_G f_qaw f_qba f_qbc f_qbd f_qbe) = curS [.agg [.p,.p,.p,(.i .i64)]] EnR fun vs K Kp A => denFnA Tryz.prog (tabA [(86,qaw_E f_qaw),(87,qba_E f_qba),(88,qbc_E f_qbc),(89,qbd_E f_qbd),(90,qbe_E f_qbe)]) [1] Tryz.f44 qbf_ann vs K (np false Kp) A := by kernel_rfl
theorem qbf_ok (hm : PM) : EntryOK Tryz.prog 44 (upE (qbf_E qbf_A)) := entA hm (callingA_cons (qaw_ok hm) (callingA_cons (qba_ok hm) (callingA_cons (qbc_ok hm) (callingA_cons (qbd_ok hm) (callingA_cons (qbe_ok hm) callingA_nil))))) Tryz.call44 Tryz.func44 (by kernel_rfl) (by kernel_rfl) false (qbf_den qaw_A qba_A qbc_A qbd_A qbe_A)
def qbg_ann : AnnA := (s0 (s0 .leaf))
theorem qbg_den : qbg_W (qbg_A) = curS [.c .p] EnR fun vs K Kp A => denFnA Tryz.prog (tabA []) [] Tryz.f97 qbg_ann vs K (np false Kp) A := by kernel_rfl
theorem qbg_ok (hm : PM) : EntryOK Tryz.prog 97 (upE (qbg_E qbg_A)) := entA hm callingA_nil Tryz.call97 Tryz.func97 (by kernel_rfl) (by kernel_rfl) false qbg_den
def qbh_ann : AnnA := (s0 (s0 .leaf))
theorem qbh_den (f_qbd : qbd_T) (f_qbe : qbe_T) : qbh_W (qbh_G f_qbd f_qbe) = curS [.agg [.p,.p,.p,(.i .i64)],.c (.i .i64)] EnR fun vs K Kp A => denFnA Tryz.prog (tabA [(89,qbd_E f_qbd),(90,qbe_E f_qbe)]) [2] Tryz.f46 qbh_ann vs K (np false Kp) A := by kernel_rfl
theorem qbh_ok (hm : PM) : EntryOK Tryz.prog 46 (upE (qbh_E qbh_A)) := entA hm (callingA_cons (qbd_ok hm) (callingA_cons (qbe_ok hm) callingA_nil)) Tryz.call46 Tryz.func46 (by kernel_rfl) (by kernel_rfl) false (qbh_den qbd_A qbe_A)
def qbi_ann : AnnA := (s0 (s1 (.draw 25) .leaf))
theorem qbi_den : qbi_W (qbi_A) = curS [.c .p] EnR fun vs K Kp A => denFnA Tryz.prog (tabA []) [2] Tryz.f102 qbi_ann vs K (np false Kp) A := by kernel_rfl
theorem qbi_ok (hm : PM) : EntryOK Tryz.prog 102 (upE (qbi_E qbi_A)) := entA hm callingA_nil Tryz.call102 Tryz.func102 (by kernel_rfl) (by kernel_rfl) false qbi_den
def qbj_ann : AnnA := (s0 (s0 .leaf))
theorem qbj_den : qbj_W (qbj_A) = curS [] EnR fun vs K Kp A => denFnA Tryz.prog (tabA []) [0] Tryz.f103 qbj_ann vs K (np false Kp) A := by kernel_rfl
theorem qbj_ok (hm : PM) : EntryOK Tryz.prog 103 (upE (qbj_E qbj_A)) := entA hm callingA_nil Tryz.call103 Tryz.func103 (by kernel_rfl) (by kernel_rfl) false qbj_den
def qbk_ann : AnnA := (s0 (.seq (some ⟨[1],[],[]⟩) (s0 (.cond (s0 .leaf) .leaf)) (s0 (s1 (s0 (.block (.loop ⟨[19],[(4,(.c (.i .u64))),(20,(.c (.i .i64)))],[]⟩ (s0 (s1 (.cond .leaf .leaf) (.seq (some ⟨[19,20],[(4,(.c (.i .u64)))],[]⟩) (.block (s0 (s0 (.cond .leaf .leaf)))) .leaf)))))) (s0 .leaf)))))
theorem qbk_den (f_qbi : qbi_T) (f_qbj : qbj_T) : qbk_W (qbk_G f_qbi f_qbj) = curS [.agg [.b,.b,.b,.b,.b,.b,.b,.b,(.i .i64)]] EnR fun vs K Kp A => denFnA Tryz.prog (tabA [(102,qbi_E f_qbi),(103,qbj_E f_qbj)]) [] Tryz.f116 qbk_ann vs K (np false Kp) A := by kernel_rfl
theorem qbk_ok (hm : PM) : EntryOK Tryz.prog 116 (upE (qbk_E qbk_A)) := entA hm (callingA_cons (qbi_ok hm) (callingA_cons (qbj_ok hm) callingA_nil)) Tryz.call116 Tryz.func116 (by kernel_rfl) (by kernel_rfl) false (qbk_den qbi_A qbj_A)
def qbl_ann : AnnA := (s0 (s0 .leaf))
theorem qbl_den : qbl_W (qbl_A) = curS [.c (.i .i64),.c (.i .i64)] EnR fun vs K Kp A => denFnA Tryz.prog (tabA []) [] Tryz.f118 qbl_ann vs K (np false Kp) A := by kernel_rfl
theorem qbl_ok (hm : PM) : EntryOK Tryz.prog 118 (upE (qbl_E qbl_A)) := entA hm callingA_nil Tryz.call118 Tryz.func118 (by kernel_rfl) (by kernel_rfl) false qbl_den
def qbm_ann : AnnA := (s0 (s1 (s0 (.block (.seq (some ⟨[0,1,2],[(9,(.c .b))],[]⟩) (s0 (.cond .leaf (s0 (.cond .leaf (s0 (.cond .leaf .leaf)))))) (.cond .leaf (s0 .leaf))))) (s0 (s1 (s0 (.cond (s0 .leaf) .leaf)) (s0 .leaf)))))
theorem qbm_den (f_qbb : qbb_T) : qbm_W (qbm_G f_qbb) = curS [.c .p,.c (.i .u64),.c (.i .i64)] EnR fun vs K Kp A => denFnA Tryz.prog (tabA [(128,qbb_E f_qbb)]) [] Tryz.f101 qbm_ann vs K (np false Kp) A := by kernel_rfl
theorem qbm_ok (hm : PM) : EntryOK Tryz.prog 101 (upE (qbm_E qbm_A)) := entA hm (callingA_cons (qbb_ok hm) callingA_nil) Tryz.call101 Tryz.func101 (by kernel_rfl) (by kernel_rfl) false (qbm_den qbb_A)
def qbn_ann : AnnA := (s0 (s0 (.seq (some ⟨[],[(5,(.c .p))],[]⟩) (s0 (.cond (s0 .leaf) .leaf)) (s0 .leaf))))
theorem qbn_den : qbn_W (qbn_A) = curS [.c .p,.c (.i .i64)] EnR fun vs K Kp A => denFnA Tryz.prog (tabA []) [] Tryz.f139 qbn_ann vs K (np false Kp) A := by kernel_rfl
theorem qbn_ok (hm : PM) : EntryOK Tryz.prog 139 (upE (qbn_E qbn_A)) := entA hm callingA_nil Tryz.call139 Tryz.func139 (by kernel_rfl) (by kernel_rfl) false qbn_den
def qbo_ann : AnnA := (s0 (s1 (s0 (s0 (.cond (s0 .leaf) .leaf))) (s1 (s0 (.block (.loop ⟨[0,1,3,19],[(20,(.c (.i .i64)))],[]⟩ (s0 (s1 (.cond .leaf .leaf) (s1 (.block (s0 (s0 (.drawS [0,1,2,3,5,6,7,8,9,10,11,4,12,13,14] [])))) .leaf)))))) (s0 .leaf))))
theorem qbo_den (f_qbm : qbm_T) (f_qbn : qbn_T) : qbo_W (qbo_G f_qbm f_qbn) = curS [.c .p,.c (.i .u64),.c (.i .i64),.c (.i .u64)] EnR fun vs K Kp A => denFnA Tryz.prog (tabA [(101,qbm_E f_qbm),(139,qbn_E f_qbn)]) [] Tryz.f117 qbo_ann vs K (np false Kp) A := by kernel_rfl
theorem qbo_ok (hm : PM) : EntryOK Tryz.prog 117 (upE (qbo_E qbo_A)) := entA hm (callingA_cons (qbm_ok hm) (callingA_cons (qbn_ok hm) callingA_nil)) Tryz.call117 Tryz.func117 (by kernel_rfl) (by kernel_rfl) false (qbo_den qbm_A qbn_A)
def qbp_ann : AnnA := (s0 (s0 (.drawS [0,2,3,5,1,4,6] [])))
theorem qbp_den (f_qbk : qbk_T) (f_qbl : qbl_T) (f_qbo : qbo_T) : qbp_W (qbp_G f_qbk f_qbl f_qbo) = curS [.agg [.p,.p,.p,(.i .i64)],.c (.i .i64),.c (.i .i64),.agg [.b,.b,.b,.b,.b,.b,.b,.b,(.i .i64)]] EnR fun vs K Kp A => denFnA Tryz.prog (tabA [(116,qbk_E f_qbk),(118,qbl_E f_qbl),(117,qbo_E f_qbo)]) [4,7] Tryz.f68 qbp_ann vs K (np false Kp) A := by kernel_rfl
theorem qbp_ok (hm : PM) : EntryOK Tryz.prog 68 (upE (qbp_E qbp_A)) := entA hm (callingA_cons (qbk_ok hm) (callingA_cons (qbl_ok hm) (callingA_cons (qbo_ok hm) callingA_nil))) Tryz.call68 Tryz.func68 (by kernel_rfl) (by kernel_rfl) false (qbp_den qbk_A qbl_A qbo_A)
def qbq_ann : AnnA := (s0 (s0 (s1 (s0 (.cond (s0 .leaf) .leaf)) (s0 (s1 (s0 (.block (.loop ⟨[1,4],[(6,(.c .s)),(7,(.c (.i .i64)))],[]⟩ (s1 (s0 (.cond .leaf .leaf)) (s1 (.block (s0 (s1 (s0 (.cond (s1 (s0 (.block (.loop ⟨[1,9,37,38],[(39,(.c (.i .i64)))],[]⟩ (s0 (s1 (.cond .leaf .leaf) (s1 (.block (s0 .leaf)) .leaf)))))) (s0 .leaf)) .leaf)) (s0 (s0 (s0 (.block (.loop ⟨[1,4,6,7,8],[(12,(.c (.i .i64)))],[]⟩ (s1 (s0 (.cond .leaf .leaf)) (s1 (.block .leaf) .leaf)))))))))) .leaf))))) (s0 .leaf))))))
theorem qbq_den (f_qbf : qbf_T) (f_qbg : qbg_T) (f_qbh : qbh_T) (f_qbp : qbp_T) : qbq_W (qbq_G f_qbf f_qbg f_qbh f_qbp) = curS [.agg [.p,.p,.p,(.i .i64)]] EnR fun vs K Kp A => denFnA Tryz.prog (tabA [(44,qbf_E f_qbf),(97,qbg_E f_qbg),(46,qbh_E f_qbh),(68,qbp_E f_qbp)]) [1] Tryz.f53 qbq_ann vs K (np false Kp) A := by kernel_rfl
theorem qbq_ok (hm : PM) : EntryOK Tryz.prog 53 (upE (qbq_E qbq_A)) := entA hm (callingA_cons (qbf_ok hm) (callingA_cons (qbg_ok hm) (callingA_cons (qbh_ok hm) (callingA_cons (qbp_ok hm) callingA_nil)))) Tryz.call53 Tryz.func53 (by kernel_rfl) (by kernel_rfl) false (qbq_den qbf_A qbg_A qbh_A qbp_A)
def qbr_ann : AnnA := (s0 (s0 (s1 (s0 (.cond (s0 .leaf) .leaf)) (s0 (s1 (s0 (.cond (s0 .leaf) .leaf)) (s0 (s0 (s1 (s0 (s0 (.cond (s0 .leaf) .leaf))) (s0 (s1 (s0 (s0 (.cond (s0 .leaf) .leaf))) (s0 .leaf)))))))))))
theorem qbr_den (f_qal : qal_T) (f_qan : qan_T) (f_qao : qao_T) (f_qaq : qaq_T) (f_qar : qar_T) (f_qas : qas_T) (f_qat : qat_T) (f_qbq : qbq_T) : qbr_W (qbr_G f_qal f_qan f_qao f_qaq f_qar f_qas f_qat f_qbq) = curS [.agg [(.i .i64),(.i .i64),(.i .i64),(.i .i64),.s]] EnR fun vs K Kp A => denFnA Tryz.prog (tabA [(47,qal_E f_qal),(48,qan_E f_qan),(49,qao_E f_qao),(50,qaq_E f_qaq),(52,qar_E f_qar),(51,qas_E f_qas),(32,qat_E f_qat),(53,qbq_E f_qbq)]) [1] Tryz.f14 qbr_ann vs K (np false Kp) A := by kernel_rfl
theorem qbr_ok (hm : PM) : EntryOK Tryz.prog 14 (upE (qbr_E qbr_A)) := entA hm (callingA_cons (qal_ok hm) (callingA_cons (qan_ok hm) (callingA_cons (qao_ok hm) (callingA_cons (qaq_ok hm) (callingA_cons (qar_ok hm) (callingA_cons (qas_ok hm) (callingA_cons (qat_ok hm) (callingA_cons (qbq_ok hm) callingA_nil)))))))) Tryz.call14 Tryz.func14 (by kernel_rfl) (by kernel_rfl) false (qbr_den qal_A qan_A qao_A qaq_A qar_A qas_A qat_A qbq_A)
def qbs_ann : AnnA := (s0 (s0 (s0 .leaf)))
theorem qbs_den (f_qab : qab_T) (f_qbr : qbr_T) : qbs_W (qbs_G f_qab f_qbr) = curS [.c (.i .i64),.c (.i .i64)] EnR fun vs K Kp A => denFnA Tryz.prog (tabA [(15,qab_E f_qab),(14,qbr_E f_qbr)]) [5] Tryz.f7 qbs_ann vs K (np false Kp) A := by kernel_rfl
theorem qbs_ok (hm : PM) : EntryOK Tryz.prog 7 (upE (qbs_E qbs_A)) := entA hm (callingA_cons (qab_ok hm) (callingA_cons (qbr_ok hm) callingA_nil)) Tryz.call7 Tryz.func7 (by kernel_rfl) (by kernel_rfl) false (qbs_den qab_A qbr_A)
def qbt_ann : AnnA := (s0 (s0 (s1 (s0 (.cond (s0 .leaf) .leaf)) (s0 (s0 .leaf)))))
theorem qbt_den (f_qbf : qbf_T) (f_qbp : qbp_T) : qbt_W (qbt_G f_qbf f_qbp) = curS [.agg [.p,.p,.p,(.i .i64)],.c (.i .i64)] EnR fun vs K Kp A => denFnA Tryz.prog (tabA [(44,qbf_E f_qbf),(68,qbp_E f_qbp)]) [2] Tryz.f31 qbt_ann vs K (np false Kp) A := by kernel_rfl
theorem qbt_ok (hm : PM) : EntryOK Tryz.prog 31 (upE (qbt_E qbt_A)) := entA hm (callingA_cons (qbf_ok hm) (callingA_cons (qbp_ok hm) callingA_nil)) Tryz.call31 Tryz.func31 (by kernel_rfl) (by kernel_rfl) false (qbt_den qbf_A qbp_A)
def qbu_ann : AnnA := (s0 (s1 (s0 (.cond (s0 .leaf) .leaf)) (s1 (s0 (.cond (s0 .leaf) .leaf)) (s1 (.drawS [0,1,3,4,5,6,2,7,8,9,10,11,12] []) (s1 (s0 (.cond (s0 .leaf) .leaf)) (s0 (s0 .leaf)))))))
theorem qbu_den (f_qat : qat_T) (f_qbt : qbt_T) : qbu_W (qbu_G f_qat f_qbt) = curS [.c .p,.c (.i .i64),.c (.i .i64)] EnR fun vs K Kp A => denFnA Tryz.prog (tabA [(32,qat_E f_qat),(31,qbt_E f_qbt)]) [] Tryz.f10 qbu_ann vs K (np false Kp) A := by kernel_rfl
theorem qbu_ok (hm : PM) : EntryOK Tryz.prog 10 (upE (qbu_E qbu_A)) := entA hm (callingA_cons (qat_ok hm) (callingA_cons (qbt_ok hm) callingA_nil)) Tryz.call10 Tryz.func10 (by kernel_rfl) (by kernel_rfl) false (qbu_den qat_A qbt_A)
def qbv_ann : AnnA := (s0 (s0 .leaf))
theorem qbv_den : qbv_W (qbv_A) = curS [.agg [(.i .i64),(.i .i64)]] EnR fun vs K Kp A => denFnA Tryz.prog (tabA []) [1] Tryz.f77 qbv_ann vs K (np false Kp) A := by kernel_rfl
theorem qbv_ok (hm : PM) : EntryOK Tryz.prog 77 (upE (qbv_E qbv_A)) := entA hm callingA_nil Tryz.call77 Tryz.func77 (by kernel_rfl) (by kernel_rfl) false qbv_den
def qbw_ann : AnnA := (s0 (s0 .leaf))
theorem qbw_den : qbw_W (qbw_A) = curS [.agg [(.i .i64),(.i .i64),.b,.b,.b,(.i .i64)],.agg [(.i .i64),(.i .i64),.b,.b,.b,(.i .i64)]] EnR fun vs K Kp A => denFnA Tryz.prog (tabA []) [2,3] Tryz.f122 qbw_ann vs K (np false Kp) A := by kernel_rfl
theorem qbw_ok (hm : PM) : EntryOK Tryz.prog 122 (upE (qbw_E qbw_A)) := entA hm callingA_nil Tryz.call122 Tryz.func122 (by kernel_rfl) (by kernel_rfl) false qbw_den
def qbx_ann : AnnA := (s0 (s1 (s0 (.cond (s0 .leaf) .leaf)) (s1 (s0 (.block (.loop ⟨[0,8,9],[(10,(.c (.i .i64)))],[]⟩ (s0 (s1 (.cond .leaf .leaf) (s1 (.block (s0 (s1 (s0 (.cond (s0 .leaf) .leaf)) (s1 (.draw 21) (.cond (s0 .leaf) .leaf))))) .leaf)))))) (s0 .leaf))))
theorem qbx_den (f_qbw : qbw_T) : qbx_W (qbx_G f_qbw) = curS [.c .s] EnR fun vs K Kp A => denFnA Tryz.prog (tabA [(122,qbw_E f_qbw)]) [4] Tryz.f78 qbx_ann vs K (np false Kp) A := by kernel_rfl
theorem qbx_ok (hm : PM) : EntryOK Tryz.prog 78 (upE (qbx_E qbx_A)) := entA hm (callingA_cons (qbw_ok hm) callingA_nil) Tryz.call78 Tryz.func78 (by kernel_rfl) (by kernel_rfl) false (qbx_den qbw_A)
def qby_ann : AnnA := (s0 (s1 (s0 (.cond (s0 .leaf) .leaf)) (s0 .leaf)))
theorem qby_den : qby_W (qby_A) = curS [.c .s] EnR fun vs K Kp A => denFnA Tryz.prog (tabA []) [] Tryz.f82 qby_ann vs K (np false Kp) A := by kernel_rfl
theorem qby_ok (hm : PM) : EntryOK Tryz.prog 82 (upE (qby_E qby_A)) := entA hm callingA_nil Tryz.call82 Tryz.func82 (by kernel_rfl) (by kernel_rfl) false qby_den
theorem qbz_ok (_hm : PM) : AtOnce Tryz.prog 123 (upE (qbz_E qbz_A)) := overlaps_ok (tS := 97) (tR := 4) Tryz.func123 (by kernel_rfl) (by kernel_rfl) (by kernel_rfl) (by kernel_rfl) Tryz.underlying97 (by kernel_rfl)
def qca_ann : AnnA := (s0 (.block (.loop ⟨[0],[(2,(.c (.i .i64))),(3,(.c (.i .i64)))],[]⟩ (s1 (s0 (.cond .leaf .leaf)) (s1 (.block (.drawS [0,1,2,3,4,5,6,8,9,10,7,11,12,13,14,15] [])) .leaf)))))
theorem qca_den : qca_W (qca_A) = curS [.c .s] EnR fun vs K Kp A => denFnA Tryz.prog (tabA []) [] Tryz.f159 qca_ann vs K (np false Kp) A := by kernel_rfl
theorem qca_ok (hm : PM) : EntryOK Tryz.prog 159 (upE (qca_E qca_A)) := entA hm callingA_nil Tryz.call159 Tryz.func159 (by kernel_rfl) (by kernel_rfl) false qca_den
def qcb_ann : AnnA := (s0 (s0 .leaf))
theorem qcb_den (f_qca : qca_T) : qcb_W (qcb_G f_qca) = curS [.c .s,.c (.i .i64)] EnR fun vs K Kp A => denFnA Tryz.prog (tabA [(159,qca_E f_qca)]) [] Tryz.f142 qcb_ann vs K (np false Kp) A := by kernel_rfl
theorem qcb_ok (hm : PM) : EntryOK Tryz.prog 142 (upE (qcb_E qcb_A)) := entA hm (callingA_cons (qca_ok hm) callingA_nil) Tryz.call142 Tryz.func142 (by kernel_rfl) (by kernel_rfl) false (qcb_den qca_A)
def qcc_ann : AnnA := .leaf
theorem qcc_den (f_qcb : qcb_T) : qcc_W (qcc_G f_qcb) = curS [.c .s,.c (.i .i64)] EnR fun vs K Kp A => denFnA Tryz.prog (tabA [(142,qcb_E f_qcb)]) [] Tryz.f124 qcc_ann vs K (np false Kp) A := by kernel_rfl
theorem qcc_ok (hm : PM) : EntryOK Tryz.prog 124 (upE (qcc_E qcc_A)) := entA hm (callingA_cons (qcb_ok hm) callingA_nil) Tryz.call124 Tryz.func124 (by kernel_rfl) (by kernel_rfl) false (qcc_den qcb_A)
def qcd_ann : AnnA := (s0 (s0 (s0 (s1 (s0 (.cond (s0 .leaf) .leaf)) (s0 (s1 (s0 (.cond (s0 .leaf) .leaf)) (s1 (s0 (.cond (s0 (s0 (s1 (.draw 8) (s0 .leaf)))) .leaf)) (s0 (s1 (s0 (.cond (s1 (.draw 8) (s0 (s0 .leaf))) .leaf)) (s0 (s0 (s0 .leaf))))))))))))
theorem qcd_den (f_qbz : qbz_T) (f_qcc : qcc_T) : qcd_W (qcd_G f_qbz f_qcc) = curS [.c .s,.c (.i .i64),.c .s] EnR fun vs K Kp A => denFnA Tryz.prog (tabA [(123,qbz_E f_qbz),(124,qcc_E f_qcc)]) [] Tryz.f81 qcd_ann vs K (np false Kp) A := by kernel_rfl
theorem qcd_ok (hm : PM) : EntryOK Tryz.prog 81 (upE (qcd_E qcd_A)) := entA hm (callingA_at (qbz_ok hm) (callingA_cons (qcc_ok hm) callingA_nil)) Tryz.call81 Tryz.func81 (by kernel_rfl) (by kernel_rfl) false (qcd_den qbz_A qcc_A)
def qce_ann : AnnA := (s0 (s0 (s1 (s0 (.block (.loop ⟨[7,8],[(3,(.c .s)),(9,(.c (.i .i64)))],[]⟩ (s0 (s1 (.cond .leaf .leaf) (.seq (some ⟨[7,8,9],[(3,(.c .s))],[]⟩) (.block (s0 (s1 (s0 (s1 (.draw 9) (.cond (s0 .leaf) .leaf))) .leaf))) .leaf)))))) (s0 .leaf))))
theorem qce_den (f_qbw : qbw_T) : qce_W (qce_G f_qbw) = curS [.c .s] EnR fun vs K Kp A => denFnA Tryz.prog (tabA [(122,qbw_E f_qbw)]) [5] Tryz.f80 qce_ann vs K (np false Kp) A := by kernel_rfl
theorem qce_ok (hm : PM) : EntryOK Tryz.prog 80 (upE (qce_E qce_A)) := entA hm (callingA_cons (qbw_ok hm) callingA_nil) Tryz.call80 Tryz.func80 (by kernel_rfl) (by kernel_rfl) false (qce_den qbw_A)
def qcf_ann : AnnA := (s0 (s1 (s0 (.cond (s0 .leaf) .leaf)) (s0 .leaf)))
theorem qcf_den : qcf_W (qcf_A) = curS [.c .s] EnR fun vs K Kp A => denFnA Tryz.prog (tabA []) [] Tryz.f79 qcf_ann vs K (np false Kp) A := by kernel_rfl
theorem qcf_ok (hm : PM) : EntryOK Tryz.prog 79 (upE (qcf_E qcf_A)) := entA hm callingA_nil Tryz.call79 Tryz.func79 (by kernel_rfl) (by kernel_rfl) false qcf_den
def qcg_ann : AnnA := (s0 (s1 (s0 (.cond (s0 .leaf) .leaf)) (s1 (s0 (.cond (s0 .leaf) .leaf)) (s0 (s1 (s0 (.block (.loop ⟨[0,3,16,17],[(6,(.c (.i .i64))),(18,(.c (.i .i64)))],[]⟩ (s0 (s1 (.cond .leaf .leaf) (.seq (some ⟨[0,3,16,17,18],[(6,(.c (.i .i64)))],[]⟩) (.block (s0 (.block (s0 (.cond .leaf (s0 (.cond (s0 .leaf) .leaf))))))) .leaf)))))) (s1 (.drawS [0,2,3,1,4,5,6,7,8,9,10,11] []) .leaf))))))
theorem qcg_den (f_qbv : qbv_T) (f_qbx : qbx_T) (f_qby : qby_T) (f_qcd : qcd_T) (f_qce : qce_T) (f_qcf : qcf_T) : qcg_W (qcg_G f_qbv f_qbx f_qby f_qcd f_qce f_qcf) = curS [.c .s,.agg [(.i .i64),(.i .i64),.b,.b,.b,(.i .i64)]] EnR fun vs K Kp A => denFnA Tryz.prog (tabA [(77,qbv_E f_qbv),(78,qbx_E f_qbx),(82,qby_E f_qby),(81,qcd_E f_qcd),(80,qce_E f_qce),(79,qcf_E f_qcf)]) [3,8] Tryz.f40 qcg_ann vs K (np false Kp) A := by kernel_rfl
theorem qcg_ok (hm : PM) : EntryOK Tryz.prog 40 (upE (qcg_E qcg_A)) := entA hm (callingA_cons (qbv_ok hm) (callingA_cons (qbx_ok hm) (callingA_cons (qby_ok hm) (callingA_cons (qcd_ok hm) (callingA_cons (qce_ok hm) (callingA_cons (qcf_ok hm) callingA_nil)))))) Tryz.call40 Tryz.func40 (by kernel_rfl) (by kernel_rfl) false (qcg_den qbv_A qbx_A qby_A qcd_A qce_A qcf_A)
def qch_ann : AnnA := (s0 (s0 (s1 (s0 (.cond (s0 .leaf) .leaf)) (s1 (.drawS [0,1,2,3,4,5,6,7,8,9,10,11,12] []) (.seq (some ⟨[11],[],[]⟩) (s0 (.cond .leaf .leaf)) (s0 .leaf))))))
theorem qch_den (f_qcg : qcg_T) : qch_W (qch_G f_qcg) = curS [.c .p,.c (.i .i64),.agg [(.i .i64),(.i .i64)],.agg [.b,.b,.b]] EnR fun vs K Kp A => denFnA Tryz.prog (tabA [(40,qcg_E f_qcg)]) [6,7] Tryz.f12 qch_ann vs K (np false Kp) A := by kernel_rfl
theorem qch_ok (hm : PM) : EntryOK Tryz.prog 12 (upE (qch_E qch_A)) := entA hm (callingA_cons (qcg_ok hm) callingA_nil) Tryz.call12 Tryz.func12 (by kernel_rfl) (by kernel_rfl) false (qch_den qcg_A)
def qci_ann : AnnA := (s0 (s1 (s0 (.block (.loop ⟨[1,4,8,9],[(10,(.c (.i .i64)))],[(4,(0,(.i .i64))),(4,(1,(.i .i64))),(4,(2,.b)),(4,(3,.b)),(4,(4,.b)),(4,(5,(.i .i64)))]⟩ (s0 (s1 (.cond .leaf .leaf) (s1 (.block (s0 (s0 (.cond (s0 .leaf) .leaf)))) .leaf)))))) (s0 .leaf)))
theorem qci_den : qci_W (qci_A) = curS [.c .s,.c (.i .i64)] EnR fun vs K Kp A => denFnA Tryz.prog (tabA []) [4,7] Tryz.f41 qci_ann vs K (np false Kp) A := by kernel_rfl
theorem qci_ok (hm : PM) : EntryOK Tryz.prog 41 (upE (qci_E qci_A)) := entA hm callingA_nil Tryz.call41 Tryz.func41 (by kernel_rfl) (by kernel_rfl) false qci_den
def qcj_ann : AnnA := (s0 (s0 (s1 (s0 (.block (.loop ⟨[0,2,4],[(6,(.c (.i .i64)))],[]⟩ (s0 (s1 (.cond .leaf .leaf) (s1 (.block (s0 .leaf)) .leaf)))))) (s0 .leaf))))
theorem qcj_den : qcj_W (qcj_A) = curS [.c (.i .u64)] EnR fun vs K Kp A => denFnA Tryz.prog (tabA []) [2] Tryz.f125 qcj_ann vs K (np false Kp) A := by kernel_rfl
theorem qcj_ok (hm : PM) : EntryOK Tryz.prog 125 (upE (qcj_E qcj_A)) := entA hm callingA_nil Tryz.call125 Tryz.func125 (by kernel_rfl) (by kernel_rfl) false qcj_den
def qck_ann : AnnA := (s0 (s0 (s0 .leaf)))
theorem qck_den (f_qcj : qcj_T) : qck_W (qck_G f_qcj) = curS [.c (.i .i64)] EnR fun vs K Kp A => denFnA Tryz.prog (tabA [(125,qcj_E f_qcj)]) [2,3] Tryz.f85 qck_ann vs K (np false Kp) A := by kernel_rfl
theorem qck_ok (hm : PM) : EntryOK Tryz.prog 85 (upE (qck_E qck_A)) := entA hm (callingA_cons (qcj_ok hm) callingA_nil) Tryz.call85 Tryz.func85 (by kernel_rfl) (by kernel_rfl) false (qck_den qcj_A)
def qcl_ann : AnnA := (s0 (s1 (s0 (s0 (.cond (s0 .leaf) .leaf))) (s0 (s1 (s0 (.block (.loop ⟨[0,1],[(9,(.c (.i .u64))),(10,(.c (.i .i64)))],[]⟩ (s1 (s0 (.cond .leaf .leaf)) (.seq (some ⟨[0,1,10],[(9,(.c (.i .u64)))],[]⟩) (.block (s0 (s0 (s0 (s0 (.cond .leaf .leaf)))))) .leaf))))) (s0 .leaf)))))
theorem qcl_den (f_qbm : qbm_T) : qcl_W (qcl_G f_qbm) = curS [.c .p,.c (.i .u64),.c (.i .i64)] EnR fun vs K Kp A => denFnA Tryz.prog (tabA [(101,qbm_E f_qbm)]) [] Tryz.f57 qcl_ann vs K (np false Kp) A := by kernel_rfl
theorem qcl_ok (hm : PM) : EntryOK Tryz.prog 57 (upE (qcl_E qcl_A)) := entA hm (callingA_cons (qbm_ok hm) callingA_nil) Tryz.call57 Tryz.func57 (by kernel_rfl) (by kernel_rfl) false (qcl_den qbm_A)
def qcm_ann : AnnA := (s0 (s0 (s1 (s0 (.block (.loop ⟨[0,2,3,11],[(12,(.c (.i .i64)))],[]⟩ (s0 (s1 (.cond .leaf .leaf) (s1 (.block (s0 .leaf)) .leaf)))))) (s0 .leaf))))
theorem qcm_den (f_qbi : qbi_T) (f_qbj : qbj_T) : qcm_W (qcm_G f_qbi f_qbj) = curS [.c (.i .u64)] EnR fun vs K Kp A => denFnA Tryz.prog (tabA [(102,qbi_E f_qbi),(103,qbj_E f_qbj)]) [2] Tryz.f58 qcm_ann vs K (np false Kp) A := by kernel_rfl
theorem qcm_ok (hm : PM) : EntryOK Tryz.prog 58 (upE (qcm_E qcm_A)) := entA hm (callingA_cons (qbi_ok hm) (callingA_cons (qbj_ok hm) callingA_nil)) Tryz.call58 Tryz.func58 (by kernel_rfl) (by kernel_rfl) false (qcm_den qbi_A qbj_A)
def qcn_ann : AnnA := (s0 (s1 (.drawS [0,2,3,1,4,5,6,7,8,9,10] []) (s0 .leaf)))
theorem qcn_den (f_qbl : qbl_T) (f_qcl : qcl_T) (f_qcm : qcm_T) : qcn_W (qcn_G f_qbl f_qcl f_qcm) = curS [.agg [.p,.p,.p,(.i .i64)],.c (.i .i64),.c (.i .i64)] EnR fun vs K Kp A => denFnA Tryz.prog (tabA [(118,qbl_E f_qbl),(57,qcl_E f_qcl),(58,qcm_E f_qcm)]) [3,6] Tryz.f84 qcn_ann vs K (np false Kp) A := by kernel_rfl
theorem qcn_ok (hm : PM) : EntryOK Tryz.prog 84 (upE (qcn_E qcn_A)) := entA hm (callingA_cons (qbl_ok hm) (callingA_cons (qcl_ok hm) (callingA_cons (qcm_ok hm) callingA_nil))) Tryz.call84 Tryz.func84 (by kernel_rfl) (by kernel_rfl) false (qcn_den qbl_A qcl_A qcm_A)
def qco_ann : AnnA := (s0 (s0 (s0 (.seq (some ⟨[],[(8,(.c .s))],[]⟩) (s0 (.block (.loop ⟨[3,7],[(8,(.c .s)),(15,(.c (.i .i64)))],[]⟩ (s0 (s1 (.cond .leaf .leaf) (s1 (.block (s0 (s1 (.drawS [1,2,3,5,6,0,4,7,8,9,10] [9]) (s1 (s0 (.cond .leaf .leaf)) .leaf)))) .leaf)))))) (s0 .leaf)))))
theorem qco_den (f_qck : qck_T) (f_qcn : qcn_T) : qco_W (qco_G f_qck f_qcn) = curS [.agg [.p,.p,.p,(.i .i64)],.c (.i .i64),.c (.i .i64)] EnR fun vs K Kp A => denFnA Tryz.prog (tabA [(85,qck_E f_qck),(84,qcn_E f_qcn)]) [3,10] Tryz.f83 qco_ann vs K (np false Kp) A := by kernel_rfl
theorem qco_ok (hm : PM) : EntryOK Tryz.prog 83 (upE (qco_E qco_A)) := entA hm (callingA_cons (qck_ok hm) (callingA_cons (qcn_ok hm) callingA_nil)) Tryz.call83 Tryz.func83 (by kernel_rfl) (by kernel_rfl) false (qco_den qck_A qcn_A)
def qcp_ann : AnnA := (s0 (.seq (some ⟨[1,2,3,7],[],[(7,(0,.b)),(7,(1,.b)),(7,(2,.b))]⟩) (s0 (.cond (s0 .leaf) .leaf)) (s0 (s1 (s0 (.cond (s0 .leaf) .leaf)) (s1 (.drawS [1,2,4,0,3,5,6,7,8,9] [8]) (s1 (s0 (.cond (s0 .leaf) .leaf)) (s1 (.draw 11) .leaf)))))))
theorem qcp_den (f_qco : qco_T) (f_qck : qck_T) (f_qcn : qcn_T) : qcp_W (qcp_G f_qco f_qck f_qcn) = curS [.agg [.p,.p,.p,(.i .i64)],.c (.i .i64),.c (.i .i64)] EnR fun vs K Kp A => denFnA Tryz.prog (tabA [(83,qco_E f_qco),(85,qck_E f_qck),(84,qcn_E f_qcn)]) [3,7,10] Tryz.f42 qcp_ann vs K (np false Kp) A := by kernel_rfl
theorem qcp_ok (hm : PM) : EntryOK Tryz.prog 42 (upE (qcp_E qcp_A)) := entA hm (callingA_cons (qco_ok hm) (callingA_cons (qck_ok hm) (callingA_cons (qcn_ok hm) callingA_nil))) Tryz.call42 Tryz.func42 (by kernel_rfl) (by kernel_rfl) false (qcp_den qco_A qck_A qcn_A)
def qcq_ann : AnnA := (s0 (s0 .leaf))
theorem qcq_den : qcq_W (qcq_A) = curS [.agg [.b,.b,.b],.agg [.b,.b,.b]] EnR fun vs K Kp A => denFnA Tryz.prog (tabA []) [2,3] Tryz.f43 qcq_ann vs K (np false Kp) A := by kernel_rfl
theorem qcq_ok (hm : PM) : EntryOK Tryz.prog 43 (upE (qcq_E qcq_A)) := entA hm callingA_nil Tryz.call43 Tryz.func43 (by kernel_rfl) (by kernel_rfl) false qcq_den
def qcr_ann : AnnA := (s0 (s0 .leaf))
theorem qcr_den : qcr_W (qcr_A) = curS [.c (.i .i64),.agg [.b,.b,.b]] EnR fun vs K Kp A => denFnA Tryz.prog (tabA []) [3,4] Tryz.f91 qcr_ann vs K (np false Kp) A := by kernel_rfl
theorem qcr_ok (hm : PM) : EntryOK Tryz.prog 91 (upE (qcr_E qcr_A)) := entA hm callingA_nil Tryz.call91 Tryz.func91 (by kernel_rfl) (by kernel_rfl) false qcr_den
def qcs_ann : AnnA := (s0 (.seq (some ⟨[1,2,3,5,9],[],[]⟩) (s0 (.cond (s0 .leaf) .leaf)) (s1 (.drawS [0,3,4,2,1,5,6,7,8] [6]) (.seq (some ⟨[3,5,9,11,12],[],[]⟩) (s1 (.draw 10) (.cond (s0 .leaf) .leaf)) (s0 (s1 (s0 (.block (.loop ⟨[3,5,9,11,12,56],[(13,(.c .s)),(57,(.c (.i .i64)))],[]⟩ (s0 (s1 (.cond .leaf .leaf) (s1 (.block (s0 (s1 (s0 (.cond (s1 (s0 (.block (.loop ⟨[5,15,66,67],[(68,(.c (.i .i64)))],[]⟩ (s0 (s1 (.cond .leaf .leaf) (s1 (.block (s0 .leaf)) .leaf)))))) (s0 .leaf)) .leaf)) .leaf))) .leaf)))))) (s1 (s0 (.block (.loop ⟨[3,5,9,11,82,83],[(12,(.c .s)),(84,(.c (.i .i64)))],[]⟩ (s0 (s1 (.cond .leaf .leaf) (s1 (.block (s0 (s0 (s1 (.draw 10) .leaf)))) .leaf)))))) (s1 (.drawS [1,2,4,6,0,3,5,7,8,9] []) (s0 .leaf)))))))))
theorem qcs_den (f_qck : qck_T) (f_qco : qco_T) (f_qcn : qcn_T) (f_qbf : qbf_T) (f_qbh : qbh_T) (f_qbp : qbp_T) (f_qcr : qcr_T) : qcs_W (qcs_G f_qck f_qco f_qcn f_qbf f_qbh f_qbp f_qcr) = curS [.agg [.p,.p,.p,(.i .i64)],.c (.i .i64),.c (.i .i64),.c (.i .i64),.agg [.b,.b,.b]] EnR fun vs K Kp A => denFnA Tryz.prog (tabA [(85,qck_E f_qck),(83,qco_E f_qco),(84,qcn_E f_qcn),(44,qbf_E f_qbf),(46,qbh_E f_qbh),(68,qbp_E f_qbp),(91,qcr_E f_qcr)]) [5,9] Tryz.f45 qcs_ann vs K (np false Kp) A := by kernel_rfl
theorem qcs_ok (hm : PM) : EntryOK Tryz.prog 45 (upE (qcs_E qcs_A)) := entA hm (callingA_cons (qck_ok hm) (callingA_cons (qco_ok hm) (callingA_cons (qcn_ok hm) (callingA_cons (qbf_ok hm) (callingA_cons (qbh_ok hm) (callingA_cons (qbp_ok hm) (callingA_cons (qcr_ok hm) callingA_nil))))))) Tryz.call45 Tryz.func45 (by kernel_rfl) (by kernel_rfl) false (qcs_den qck_A qco_A qcn_A qbf_A qbh_A qbp_A qcr_A)
def qct_ann : AnnA := (s0 (s0 (s1 (s0 (.cond (s0 .leaf) .leaf)) (s0 (s1 (s0 (.block (.loop ⟨[0,2,7,11,35,36],[(12,(.c (.i .i64))),(37,(.c (.i .i64)))],[]⟩ (s0 (s1 (.cond .leaf .leaf) (.seq (some ⟨[0,2,7,11,35,36,37],[(12,(.c (.i .i64)))],[]⟩) (.block (s0 (s0 (.cond .leaf .leaf)))) .leaf)))))) (.seq (some ⟨[0,2,7,11],[(12,(.c (.i .i64)))],[]⟩) (s0 (.cond .leaf .leaf)) (s0 (s1 (s0 (.cond (s0 .leaf) .leaf)) (s0 (s1 (.drawS [1,2,3,5,0,4,6,7,8,9,10,11,12,13,14] [11]) (s1 (s0 (.cond (.seq (some ⟨[],[(12,(.c (.i .i64)))],[]⟩) (s0 (.cond .leaf .leaf)) (s0 .leaf)) .leaf)) (s1 (s0 (.cond (s0 .leaf) .leaf)) (s0 (s1 (s0 (.cond (s0 .leaf) .leaf)) (s1 (s1 (.draw 9) (s0 (.cond (s0 (s0 .leaf)) .leaf))) (s0 .leaf))))))))))))))))
theorem qct_den (f_qci : qci_T) (f_qat : qat_T) (f_qcp : qcp_T) (f_qcq : qcq_T) (f_qbf : qbf_T) (f_qcs : qcs_T) (f_qbh : qbh_T) : qct_W (qct_G f_qci f_qat f_qcp f_qcq f_qbf f_qcs f_qbh) = curS [.c .p,.c (.i .i64),.c (.i .i64),.agg [.b,.b,.b]] EnR fun vs K Kp A => denFnA Tryz.prog (tabA [(41,qci_E f_qci),(32,qat_E f_qat),(42,qcp_E f_qcp),(43,qcq_E f_qcq),(44,qbf_E f_qbf),(45,qcs_E f_qcs),(46,qbh_E f_qbh)]) [7,15,17,19] Tryz.f13 qct_ann vs K (np false Kp) A := by kernel_rfl
theorem qct_ok (hm : PM) : EntryOK Tryz.prog 13 (upE (qct_E qct_A)) := entA hm (callingA_cons (qci_ok hm) (callingA_cons (qat_ok hm) (callingA_cons (qcp_ok hm) (callingA_cons (qcq_ok hm) (callingA_cons (qbf_ok hm) (callingA_cons (qcs_ok hm) (callingA_cons (qbh_ok hm) callingA_nil))))))) Tryz.call13 Tryz.func13 (by kernel_rfl) (by kernel_rfl) false (qct_den qci_A qat_A qcp_A qcq_A qbf_A qcs_A qbh_A)
def qcu_ann : AnnA := (s0 (s0 .leaf))
theorem qcu_den : qcu_W (qcu_A) = curS [.c .m] EnR fun vs K Kp A => denFnA Tryz.prog (tabA []) [] Tryz.f56 qcu_ann vs K (np false Kp) A := by kernel_rfl
theorem qcu_ok (hm : PM) : EntryOK Tryz.prog 56 (upE (qcu_E qcu_A)) := entA hm callingA_nil Tryz.call56 Tryz.func56 (by kernel_rfl) (by kernel_rfl) false qcu_den
shelf_lay_g SlLaysZI.n8 Ggz 8 at Tryz 98 as slices_Collect_int_s2_l1
shelf_lay_g SlLaysZI.n7 Ggz 7 at Tryz 56 as slices_Collect_int_s2_l2
theorem qcv_ok (_hm : PM) : EntryOK Tryz.prog 98 (upE (qcv_E qcv_A)) :=
 collect_ok (ρ := slices_Collect_int_s2_l1_ren) (ρ' := slices_Collect_int_s2_l2_ren) slices_Collect_int_s2_l1 { slices_Collect_int_s2_l2 with } rfl rfl rfl rfl
shelf_lay Lays.n189 Nm 189 at Tryz as slices_Sort_int_int_l
theorem qcw_ok (_hm : PM) : EntryOK Tryz.prog 99 (upE (qcw_E qcw_A)) := sortI_ok slices_Sort_int_int_l rfl (enters_of Tryz.func99 (by kernel_rfl) rfl) rfl
def qcx_ann : AnnA := (s0 (s0 (s0 (s0 .leaf))))
theorem qcx_den (f_qcv : qcv_T) (f_qcw : qcw_T) : qcx_W (qcx_G f_qcv f_qcw) = curS [.fn 100 [] [.p]] EnR fun vs K Kp A => denFnA Tryz.prog (tabA [(98,qcv_E f_qcv),(99,qcw_E f_qcw)]) [] Tryz.f55 qcx_ann vs K (np false Kp) A := by kernel_rfl
theorem qcx_ok (hm : PM) : EntryOK Tryz.prog 55 (upE (qcx_E qcx_A)) := entA hm (callingA_cons (qcv_ok hm) (callingA_cons (qcw_ok hm) callingA_nil)) Tryz.call55 Tryz.func55 (by kernel_rfl) (by kernel_rfl) false (qcx_den qcv_A qcw_A)
def qcy_ann : AnnA := (s0 (s0 .leaf))
theorem qcy_den (f_qcu : qcu_T) (f_qcx : qcx_T) : qcy_W (qcy_G f_qcu f_qcx) = curS [.c .p] EnR fun vs K Kp A => denFnA Tryz.prog (tabA [(56,qcu_E f_qcu),(55,qcx_E f_qcx)]) [] Tryz.f16 qcy_ann vs K (np false Kp) A := by kernel_rfl
theorem qcy_ok (hm : PM) : EntryOK Tryz.prog 16 (upE (qcy_E qcy_A)) := entA hm (callingA_cons (qcu_ok hm) (callingA_cons (qcx_ok hm) callingA_nil)) Tryz.call16 Tryz.func16 (by kernel_rfl) (by kernel_rfl) false (qcy_den qcu_A qcx_A)
def qcz_ann : AnnA := (s0 (s1 (s0 (s0 (.cond (s0 .leaf) .leaf))) (s0 .leaf)))
theorem qcz_den : qcz_W (qcz_A) = curS [.c .p,.c (.i .i64)] EnR fun vs K Kp A => denFnA Tryz.prog (tabA []) [] Tryz.f17 qcz_ann vs K (np false Kp) A := by kernel_rfl
theorem qcz_ok (hm : PM) : EntryOK Tryz.prog 17 (upE (qcz_E qcz_A)) := entA hm callingA_nil Tryz.call17 Tryz.func17 (by kernel_rfl) (by kernel_rfl) false qcz_den
def qda_ann : AnnA := (s0 (.drawS [5,0,1,2,3,4,6,7,8,9,10,11,12] []))
theorem qda_den : qda_W (qda_A) = curS [.c (.i .i64),.agg [.b,.b,.b,.b,.b,.b,.b,.b,(.i .i64)],.c .p] EnR fun vs K Kp A => denFnA Tryz.prog (tabA []) [4] Tryz.f59 qda_ann vs K (np false Kp) A := by kernel_rfl
theorem qda_ok (hm : PM) : EntryOK Tryz.prog 59 (upE (qda_E qda_A)) := entA hm callingA_nil Tryz.call59 Tryz.func59 (by kernel_rfl) (by kernel_rfl) false qda_den
def qdb_ann : AnnA := (s0 (.block (.loop ⟨[0,1,2],[(10,(.c (.i .i64)))],[]⟩ (s0 (s1 (.cond .leaf .leaf) (.seq (some ⟨[0,1,2,10],[],[]⟩) (.block (s0 (s0 (s0 (s0 (.cond .leaf .leaf)))))) .leaf))))))
theorem qdb_den (f_qcl : qcl_T) (f_qcm : qcm_T) (f_qda : qda_T) : qdb_W (qdb_G f_qcl f_qcm f_qda) = curS [.c .p,.c (.i .i64),.fn 59 [] [.p]] EnR fun vs K Kp A => denFnA Tryz.prog (tabA [(57,qcl_E f_qcl),(58,qcm_E f_qcm),(59,qda_E f_qda)]) [9] Tryz.f18 qdb_ann vs K (np false Kp) A := by kernel_rfl
theorem qdb_ok (hm : PM) : EntryOK Tryz.prog 18 (upE (qdb_E qdb_A)) := entA hm (callingA_cons (qcl_ok hm) (callingA_cons (qcm_ok hm) (callingA_cons (qda_ok hm) callingA_nil))) Tryz.call18 Tryz.func18 (by kernel_rfl) (by kernel_rfl) false (qdb_den qcl_A qcm_A qda_A)
def qdc_ann : AnnA := (s0 (s1 (.drawS [5,6,0,1,2,3,4,7,8,9,10,11] []) .leaf))
theorem qdc_den (f_qdb : qdb_T) : qdc_W (qdc_G f_qdb) = curS [.c .p,.c (.i .i64)] EnR fun vs K Kp A => denFnA Tryz.prog (tabA [(18,qdb_E f_qdb)]) [] Tryz.f20 qdc_ann vs K (np false Kp) A := by kernel_rfl
theorem qdc_ok (hm : PM) : EntryOK Tryz.prog 20 (upE (qdc_E qdc_A)) := entA hm (callingA_cons (qdb_ok hm) callingA_nil) Tryz.call20 Tryz.func20 (by kernel_rfl) (by kernel_rfl) false (qdc_den qdb_A)
def qdd_ann : AnnA := (s0 (s0 (.cond .leaf .leaf)))
theorem qdd_den (f_qdc : qdc_T) : qdd_W (qdd_G f_qdc) = curS [.c (.i .i64),.agg [.b,.b,.b,.b,.b,.b,.b,.b,(.i .i64)],.c .p] EnR fun vs K Kp A => denFnA Tryz.prog (tabA [(20,qdc_E f_qdc)]) [4] Tryz.f19 qdd_ann vs K (np false Kp) A := by kernel_rfl
theorem qdd_ok (hm : PM) : EntryOK Tryz.prog 19 (upE (qdd_E qdd_A)) := entA hm (callingA_cons (qdc_ok hm) callingA_nil) Tryz.call19 Tryz.func19 (by kernel_rfl) (by kernel_rfl) false (qdd_den qdc_A)
def qde_ann : AnnA := (s0 (.block (.loop ⟨[0,1,2],[(10,(.c (.i .i64)))],[]⟩ (s0 (s1 (.cond .leaf .leaf) (.seq (some ⟨[0,1,2,10],[],[]⟩) (.block (s0 (s0 (s0 (s0 (.cond .leaf .leaf)))))) .leaf))))))
theorem qde_den (f_qcl : qcl_T) (f_qcm : qcm_T) (f_qdd : qdd_T) : qde_W (qde_G f_qcl f_qcm f_qdd) = curS [.c .p,.c (.i .i64),.fn 19 [] [.p]] EnR fun vs K Kp A => denFnA Tryz.prog (tabA [(57,qcl_E f_qcl),(58,qcm_E f_qcm),(19,qdd_E f_qdd)]) [9] Tryz.f18 qde_ann vs K (np false Kp) A := by kernel_rfl
theorem qde_ok (hm : PM) : EntryOK Tryz.prog 18 (upE (qde_E qde_A)) := entA hm (callingA_cons (qcl_ok hm) (callingA_cons (qcm_ok hm) (callingA_cons (qdd_ok hm) callingA_nil))) Tryz.call18 Tryz.func18 (by kernel_rfl) (by kernel_rfl) false (qde_den qcl_A qcm_A qdd_A)
def qdf_ann : AnnA := (s0 (s1 (s0 (s0 (.cond (s0 .leaf) .leaf))) (s0 .leaf)))
theorem qdf_den (f_qby : qby_T) : qdf_W (qdf_G f_qby) = curS [.c .p,.c (.i .i64)] EnR fun vs K Kp A => denFnA Tryz.prog (tabA [(82,qby_E f_qby)]) [] Tryz.f61 qdf_ann vs K (np false Kp) A := by kernel_rfl
theorem qdf_ok (hm : PM) : EntryOK Tryz.prog 61 (upE (qdf_E qdf_A)) := entA hm (callingA_cons (qby_ok hm) callingA_nil) Tryz.call61 Tryz.func61 (by kernel_rfl) (by kernel_rfl) false (qdf_den qby_A)
def qdh_ann : AnnA := (s0 (.block (s0 (.cond .leaf (s0 (.cond .leaf (s1 (.drawS [8,0,1,2,3,4,6,7,9,5,10,11,12,13,14,15,16] [14]) (.seq (some ⟨[3,4,7],[(29,(.c .b))],[]⟩) .leaf (.cond (.drawS [5,0,1,2,3,4,6,7,8,9,10,11,12,13] []) .leaf)))))))))
theorem qdh_den (f_qdg : qdg_T) (f_qdf : qdf_T) (f_qci : qci_T) : qdh_W (qdh_G f_qdg f_qdf f_qci) = curS [.c (.i .i64),.agg [.b,.b,.b,.b,.b,.b,.b,.b,(.i .i64)],.c .p,.c .p,.c .p,.c .p] EnR fun vs K Kp A => denFnA Tryz.prog (tabA [(21,qdg_E f_qdg),(61,qdf_E f_qdf),(41,qci_E f_qci)]) [7,8] Tryz.f60 qdh_ann vs K (np false Kp) A := by kernel_rfl
theorem audit_looker_tables_1_okm (hm : PM) (f_qdg : qdg_T) (h_audit_looker_tables : EntryOK Tryz.prog 21 (upE (qdg_E f_qdg))) : EntryOK Tryz.prog 60 (upE (enS [.c (.i .i64),.agg [.b,.b,.b,.b,.b,.b,.b,.b,(.i .i64)],.c .p,.c .p,.c .p,.c .p] (qdh_W (audit_looker_tables_1_M f_qdg)))) := entA hm (callingA_cons h_audit_looker_tables (callingA_cons (qdf_ok hm) (callingA_cons (qci_ok hm) callingA_nil))) Tryz.call60 Tryz.func60 (by kernel_rfl) (by kernel_rfl) false (qdh_den f_qdg qdf_A qci_A)
def qdi_ann : AnnA := (s0 (.block (.loop ⟨[0,1,2],[(10,(.c (.i .i64)))],[]⟩ (s0 (s1 (.cond .leaf .leaf) (.seq (some ⟨[0,1,2,10],[],[]⟩) (.block (s0 (s0 (s0 (s0 (.cond .leaf .leaf)))))) .leaf))))))
theorem qdi_den (f_qdg : qdg_T) (f_qcl : qcl_T) (f_qcm : qcm_T) (f_qdh : qdh_T) : qdi_W (qdi_G f_qdg f_qcl f_qcm f_qdh) = curS [.c .p,.c (.i .i64),.fn 60 [] [.p,.p,.p,.p]] EnR fun vs K Kp A => denFnA Tryz.prog (tabA [(21,qdg_E f_qdg),(57,qcl_E f_qcl),(58,qcm_E f_qcm),(60,qdh_E f_qdh)]) [9] Tryz.f18 qdi_ann vs K (np false Kp) A := by kernel_rfl
theorem audit_looker_entries_s3_okm (hm : PM) (f_qdg : qdg_T) (h_audit_looker_tables : EntryOK Tryz.prog 21 (upE (qdg_E f_qdg))) : EntryOK Tryz.prog 18 (upE (enS [.c .p,.c (.i .i64),.fn 60 [] [.p,.p,.p,.p]] (qdi_W (audit_looker_entries_s3_M f_qdg)))) := entA hm (callingA_cons h_audit_looker_tables (callingA_cons (qcl_ok hm) (callingA_cons (qcm_ok hm) (callingA_cons (audit_looker_tables_1_okm hm f_qdg h_audit_looker_tables) callingA_nil)))) Tryz.call18 Tryz.func18 (by kernel_rfl) (by kernel_rfl) false (qdi_den f_qdg qcl_A qcm_A (audit_looker_tables_1_M f_qdg))
def qdg_ann : AnnA := (s0 (s1 (.drawS [5,0,1,2,3,4,6,7,8,9,10,11,12] []) .leaf))
theorem qdg_den (f_qdi : qdi_T) : qdg_W (qdg_G f_qdi) = curS [.c .p,.c (.i .i64),.c (.i .i64),.c (.i .i64),.c (.i .i64)] EnR fun vs K Kp A => denFnA Tryz.prog (tabA [(18,qdi_E f_qdi)]) [] Tryz.f21 qdg_ann vs K (np false Kp) A := by kernel_rfl
theorem audit_looker_tables_okk (hm : PM) : ∀ k,EntryOK Tryz.prog 21 (upE (enS [.c .p,.c (.i .i64),.c (.i .i64),.c (.i .i64),.c (.i .i64)] (qdg_W (qdg_A k))))
 | 0 => ent_no Tryz.call21 (by kernel_rfl)
 | k + 1 => entA hm (callingA_cons (audit_looker_entries_s3_okm hm (qdg_A k) (audit_looker_tables_okk hm k)) callingA_nil) Tryz.call21 Tryz.func21 (by kernel_rfl) (by kernel_rfl) false (qdg_den (audit_looker_entries_s3_M (qdg_A k)))
theorem qdg_ok (hm : PM) : EntryOK Tryz.prog 21 (upE (qdg_E audit_looker_tables_R)) := ent_ex (audit_looker_tables_okk hm) (by kernel_rfl)
def qdj_ann : AnnA := (s0 (s0 (s0 (s0 .leaf))))
theorem qdj_den (f_qay : qay_T) (f_qcw : qcw_T) : qdj_W (qdj_G f_qay f_qcw) = curS [.fn 104 [] [.p]] EnR fun vs K Kp A => denFnA Tryz.prog (tabA [(98,qay_E f_qay),(99,qcw_E f_qcw)]) [] Tryz.f55 qdj_ann vs K (np false Kp) A := by kernel_rfl
theorem qdj_ok (hm : PM) : EntryOK Tryz.prog 55 (upE (qdj_E qdj_A)) := entA hm (callingA_cons (qay_ok hm) (callingA_cons (qcw_ok hm) callingA_nil)) Tryz.call55 Tryz.func55 (by kernel_rfl) (by kernel_rfl) false (qdj_den qay_A qcw_A)
def qdk_ann : AnnA := (s0 (s1 (s0 (.cond (s0 .leaf) .leaf)) (s0 .leaf)))
theorem qdk_den (f_qax : qax_T) (f_qdj : qdj_T) : qdk_W (qdk_G f_qax f_qdj) = curS [.c .p,.c (.i .i64)] EnR fun vs K Kp A => denFnA Tryz.prog (tabA [(62,qax_E f_qax),(55,qdj_E f_qdj)]) [] Tryz.f22 qdk_ann vs K (np false Kp) A := by kernel_rfl
theorem qdk_ok (hm : PM) : EntryOK Tryz.prog 22 (upE (qdk_E qdk_A)) := entA hm (callingA_cons (qax_ok hm) (callingA_cons (qdj_ok hm) callingA_nil)) Tryz.call22 Tryz.func22 (by kernel_rfl) (by kernel_rfl) false (qdk_den qax_A qdj_A)
theorem qdl_ok (hm : PM) : EntryOK Tryz.prog 23 (upE (qdl_E qdl_A)) := sortUse_ok hm rfl
def qdm_ann : AnnA := (s0 (s0 (s1 (s0 (.block (.loop ⟨[0,3,16,17],[(18,(.c (.i .i64)))],[]⟩ (s0 (s1 (.cond .leaf .leaf) (s1 (.block (s0 (s0 (.seq (some ⟨[0,3,5,6,16,17,18],[],[]⟩) (s0 (.cond .leaf .leaf)) .leaf)))) .leaf)))))) (s1 (s0 (.block (.loop ⟨[0,3],[(40,(.c (.i .i64)))],[]⟩ (s0 (s1 (.cond .leaf .leaf) (s1 (.block (s0 (s0 (.block (.loop ⟨[0,3,8,40,48,49],[(50,(.c (.i .i64)))],[]⟩ (s0 (s1 (.cond .leaf .leaf) (s1 (.block (s0 (s0 (.block (.loop ⟨[0,3,8,10,40,48,49,50,55],[(56,(.c (.i .i64)))],[]⟩ (s0 (s1 (.cond .leaf .leaf) (s1 (.block (s0 (.drawS [5,6,7,8,0,1,2,3,4,9,10,11,12,13] []))) .leaf)))))))) .leaf)))))))) .leaf)))))) (s0 (s0 .leaf))))))
theorem qdm_den (f_qcy : qcy_T) (f_qcz : qcz_T) (f_qde : qde_T) (f_qdg : qdg_T) (f_qdk : qdk_T) (f_qdl : qdl_T) : qdm_W (qdm_G f_qcy f_qcz f_qde f_qdg f_qdk f_qdl) = curS [.c .p] EnR fun vs K Kp A => denFnA Tryz.prog (tabA [(16,qcy_E f_qcy),(17,qcz_E f_qcz),(18,qde_E f_qde),(21,qdg_E f_qdg),(22,qdk_E f_qdk),(23,qdl_E f_qdl)]) [] Tryz.f8 qdm_ann vs K (np false Kp) A := by kernel_rfl
theorem qdm_ok (hm : PM) : EntryOK Tryz.prog 8 (upE (qdm_E qdm_A)) := entA hm (callingA_cons (qcy_ok hm) (callingA_cons (qcz_ok hm) (callingA_cons (qde_ok hm) (callingA_cons (qdg_ok hm) (callingA_cons (qdk_ok hm) (callingA_cons (qdl_ok hm) callingA_nil)))))) Tryz.call8 Tryz.func8 (by kernel_rfl) (by kernel_rfl) false (qdm_den qcy_A qcz_A qde_A audit_looker_tables_R qdk_A qdl_A)
def qdn_ann : AnnA := (s0 (s0 (s1 (s0 (.block (.loop ⟨[2,3,6,7],[(8,(.c (.i .i64)))],[]⟩ (s0 (s1 (.cond .leaf .leaf) (s1 (.block (s0 .leaf)) .leaf)))))) (s0 .leaf))))
theorem qdn_den : qdn_W (qdn_A) = curS [.c .s] EnR fun vs K Kp A => denFnA Tryz.prog (tabA []) [2,5] Tryz.f5 qdn_ann vs K (np false Kp) A := by kernel_rfl
theorem qdn_ok (hm : PM) : EntryOK Tryz.prog 5 (upE (qdn_E qdn_A)) := entA hm callingA_nil Tryz.call5 Tryz.func5 (by kernel_rfl) (by kernel_rfl) false qdn_den
def qdo_ann : AnnA := (s0 (s0 .leaf))
theorem qdo_den : qdo_W (qdo_A) = curS [.c .m] EnR fun vs K Kp A => denFnA Tryz.prog (tabA []) [] Tryz.f66 qdo_ann vs K (np false Kp) A := by kernel_rfl
theorem qdo_ok (hm : PM) : EntryOK Tryz.prog 66 (upE (qdo_E qdo_A)) := entA hm callingA_nil Tryz.call66 Tryz.func66 (by kernel_rfl) (by kernel_rfl) false qdo_den
shelf_lay_g SlLaysZI.n8 Ggz 8 at Tryz 98 as slices_Collect_int_s3_l1
shelf_lay_g SlLaysZI.n7 Ggz 7 at Tryz 66 as slices_Collect_int_s3_l2
theorem qdp_ok (_hm : PM) : EntryOK Tryz.prog 98 (upE (qdp_E qdp_A)) :=
 collect_ok (ρ := slices_Collect_int_s3_l1_ren) (ρ' := slices_Collect_int_s3_l2_ren) slices_Collect_int_s3_l1 { slices_Collect_int_s3_l2 with } rfl rfl rfl rfl
def qdq_ann : AnnA := (s0 (s0 (s0 (s0 .leaf))))
theorem qdq_den (f_qdp : qdp_T) (f_qcw : qcw_T) : qdq_W (qdq_G f_qdp f_qcw) = curS [.fn 115 [] [.p]] EnR fun vs K Kp A => denFnA Tryz.prog (tabA [(98,qdp_E f_qdp),(99,qcw_E f_qcw)]) [] Tryz.f55 qdq_ann vs K (np false Kp) A := by kernel_rfl
theorem qdq_ok (hm : PM) : EntryOK Tryz.prog 55 (upE (qdq_E qdq_A)) := entA hm (callingA_cons (qdp_ok hm) (callingA_cons (qcw_ok hm) callingA_nil)) Tryz.call55 Tryz.func55 (by kernel_rfl) (by kernel_rfl) false (qdq_den qdp_A qcw_A)
def qdr_ann : AnnA := (s0 (s0 .leaf))
theorem qdr_den (f_qdo : qdo_T) (f_qdq : qdq_T) : qdr_W (qdr_G f_qdo f_qdq) = curS [.c .p] EnR fun vs K Kp A => denFnA Tryz.prog (tabA [(66,qdo_E f_qdo),(55,qdq_E f_qdq)]) [] Tryz.f27 qdr_ann vs K (np false Kp) A := by kernel_rfl
theorem qdr_ok (hm : PM) : EntryOK Tryz.prog 27 (upE (qdr_E qdr_A)) := entA hm (callingA_cons (qdo_ok hm) (callingA_cons (qdq_ok hm) callingA_nil)) Tryz.call27 Tryz.func27 (by kernel_rfl) (by kernel_rfl) false (qdr_den qdo_A qdq_A)
def qds_ann : AnnA := (s0 (s1 (s0 (s0 (.cond (s0 .leaf) .leaf))) (s0 .leaf)))
theorem qds_den : qds_W (qds_A) = curS [.c .p,.c (.i .i64)] EnR fun vs K Kp A => denFnA Tryz.prog (tabA []) [] Tryz.f28 qds_ann vs K (np false Kp) A := by kernel_rfl
theorem qds_ok (hm : PM) : EntryOK Tryz.prog 28 (upE (qds_E qds_A)) := entA hm callingA_nil Tryz.call28 Tryz.func28 (by kernel_rfl) (by kernel_rfl) false qds_den
def qdt_ann : AnnA := (s0 (s0 (s1 (s0 (.block (.loop ⟨[9,10],[(3,(.c .s)),(11,(.c (.i .i64)))],[]⟩ (s0 (s1 (.cond .leaf .leaf) (.seq (some ⟨[9,10,11],[(3,(.c .s))],[]⟩) (.block (s0 (s0 (.cond .leaf .leaf)))) .leaf)))))) (s0 .leaf))))
theorem qdt_den : qdt_W (qdt_A) = curS [.c .p] EnR fun vs K Kp A => denFnA Tryz.prog (tabA []) [5] Tryz.f29 qdt_ann vs K (np false Kp) A := by kernel_rfl
theorem qdt_ok (hm : PM) : EntryOK Tryz.prog 29 (upE (qdt_E qdt_A)) := entA hm callingA_nil Tryz.call29 Tryz.func29 (by kernel_rfl) (by kernel_rfl) false qdt_den
def qdu_ann : AnnA := (s0 (s1 (s0 (s0 (.cond (s0 .leaf) .leaf))) (s0 .leaf)))
theorem qdu_den (f_qau : qau_T) : qdu_W (qdu_G f_qau) = curS [.c .p,.c (.i .i64)] EnR fun vs K Kp A => denFnA Tryz.prog (tabA [(67,qau_E f_qau)]) [4] Tryz.f30 qdu_ann vs K (np false Kp) A := by kernel_rfl
theorem qdu_ok (hm : PM) : EntryOK Tryz.prog 30 (upE (qdu_E qdu_A)) := entA hm (callingA_cons (qau_ok hm) callingA_nil) Tryz.call30 Tryz.func30 (by kernel_rfl) (by kernel_rfl) false (qdu_den qau_A)
def qdv_ann : AnnA := (s0 (s0 (s1 (s0 (.block (.loop ⟨[0,3],[(4,(.c (.i .i64)))],[]⟩ (s1 (s0 (.cond .leaf .leaf)) (s1 (.block (s1 (.draw 12) (.cond (s0 .leaf) .leaf))) .leaf))))) (s0 (s1 (s0 (.block (.loop ⟨[0,5,40,41],[(6,(.c (.i .i64))),(42,(.c (.i .i64)))],[]⟩ (s0 (s1 (.cond .leaf .leaf) (s1 (.block (s0 .leaf)) .leaf)))))) (.seq (some ⟨[0,6],[],[]⟩) (s0 (.cond (s0 .leaf) .leaf)) (s0 (s1 (s0 (.block (.loop ⟨[0,6,76,77],[(9,(.c (.i .i64))),(78,(.c (.i .i64)))],[]⟩ (s0 (s1 (.cond .leaf .leaf) (s1 (.block (s0 (s0 .leaf))) .leaf)))))) (s1 (s0 (.cond (s0 .leaf) .leaf)) (s0 .leaf))))))))))
theorem qdv_den (f_qdm : qdm_T) (f_qdn : qdn_T) (f_qdr : qdr_T) (f_qds : qds_T) (f_qcy : qcy_T) (f_qdt : qdt_T) (f_qdu : qdu_T) : qdv_W (qdv_G f_qdm f_qdn f_qdr f_qds f_qcy f_qdt f_qdu) = curS [.c .p] EnR fun vs K Kp A => denFnA Tryz.prog (tabA [(8,qdm_E f_qdm),(5,qdn_E f_qdn),(27,qdr_E f_qdr),(28,qds_E f_qds),(16,qcy_E f_qcy),(29,qdt_E f_qdt),(30,qdu_E f_qdu)]) [5,12] Tryz.f9 qdv_ann vs K (np false Kp) A := by kernel_rfl
theorem qdv_ok (hm : PM) : EntryOK Tryz.prog 9 (upE (qdv_E qdv_A)) := entA hm (callingA_cons (qdm_ok hm) (callingA_cons (qdn_ok hm) (callingA_cons (qdr_ok hm) (callingA_cons (qds_ok hm) (callingA_cons (qcy_ok hm) (callingA_cons (qdt_ok hm) (callingA_cons (qdu_ok hm) callingA_nil))))))) Tryz.call9 Tryz.func9 (by kernel_rfl) (by kernel_rfl) false (qdv_den qdm_A qdn_A qdr_A qds_A qcy_A qdt_A qdu_A)
def qdw_ann : AnnA := (s0 (s0 (s1 (s0 (.cond (s0 .leaf) .leaf)) (s0 (s0 .leaf)))))
theorem qdw_den (f_qbs : qbs_T) (f_qbu : qbu_T) (f_qch : qch_T) (f_qct : qct_T) (f_qdm : qdm_T) (f_qdn : qdn_T) (f_qdv : qdv_T) : qdw_W (qdw_G f_qbs f_qbu f_qch f_qct f_qdm f_qdn f_qdv) = curS [] EnR fun vs K Kp A => denFnA Tryz.prog (tabA [(7,qbs_E f_qbs),(10,qbu_E f_qbu),(12,qch_E f_qch),(13,qct_E f_qct),(8,qdm_E f_qdm),(5,qdn_E f_qdn),(9,qdv_E f_qdv)]) [2] Tryz.f6 qdw_ann vs K (np false Kp) A := by kernel_rfl
theorem qdw_ok (hm : PM) : EntryOK Tryz.prog 6 (upE (qdw_E qdw_A)) := entA hm (callingA_cons (qbs_ok hm) (callingA_cons (qbu_ok hm) (callingA_cons (qch_ok hm) (callingA_cons (qct_ok hm) (callingA_cons (qdm_ok hm) (callingA_cons (qdn_ok hm) (callingA_cons (qdv_ok hm) callingA_nil))))))) Tryz.call6 Tryz.func6 (by kernel_rfl) (by kernel_rfl) false (qdw_den qbs_A qbu_A qch_A qct_A qdm_A qdn_A qdv_A)
def qdx_ann : AnnA := (s0 (s0 .leaf))
theorem qdx_den : qdx_W (qdx_A) = curS [.agg [(.i .i64),(.i .i64),.b,.b,.b,(.i .i64)],.c .p] EnR fun vs K Kp A => denFnA Tryz.prog (tabA []) [2] Tryz.f70 qdx_ann vs K (np false Kp) A := by kernel_rfl
theorem qdx_ok (hm : PM) : EntryOK Tryz.prog 70 (upE (qdx_E qdx_A)) := entA hm callingA_nil Tryz.call70 Tryz.func70 (by kernel_rfl) (by kernel_rfl) false qdx_den
def qdy_ann : AnnA := (s0 (s1 (s0 (.block (.loop ⟨[0,1,7],[(8,(.c (.i .i64)))],[]⟩ (s0 (s1 (.cond .leaf .leaf) (s1 (.block (s0 (s0 (.cond (s0 .leaf) .leaf)))) .leaf)))))) (s0 .leaf)))
theorem qdy_den (f_qdx : qdx_T) : qdy_W (qdy_G f_qdx) = curS [.c .s,.fn 70 [] [.p]] EnR fun vs K Kp A => denFnA Tryz.prog (tabA [(70,qdx_E f_qdx)]) [] Tryz.f119 qdy_ann vs K (np false Kp) A := by kernel_rfl
theorem qdy_ok (hm : PM) : EntryOK Tryz.prog 119 (upE (qdy_E qdy_A)) := entA hm (callingA_cons (qdx_ok hm) callingA_nil) Tryz.call119 Tryz.func119 (by kernel_rfl) (by kernel_rfl) false (qdy_den qdx_A)
def qdz_ann : AnnA := (s0 (s0 .leaf))
theorem qdz_den (f_qdy : qdy_T) : qdz_W (qdz_G f_qdy) = curS [.c .s,.fn 70 [] [.p]] EnR fun vs K Kp A => denFnA Tryz.prog (tabA [(119,qdy_E f_qdy)]) [] Tryz.f69 qdz_ann vs K (np false Kp) A := by kernel_rfl
theorem qdz_ok (hm : PM) : EntryOK Tryz.prog 69 (upE (qdz_E qdz_A)) := entA hm (callingA_cons (qdy_ok hm) callingA_nil) Tryz.call69 Tryz.func69 (by kernel_rfl) (by kernel_rfl) false (qdz_den qdy_A)
def qea_ann : AnnA := (s0 (s1 (s0 (.block (.loop ⟨[0,3,10],[],[]⟩ (s0 (s1 (.cond .leaf .leaf) (.block (s0 (s0 (.cond (s0 .leaf) .leaf))))))))) (s0 .leaf)))
theorem qea_den (f_qdz : qdz_T) : qea_W (qea_G f_qdz) = curS [.c .p,.agg [(.i .i64),(.i .i64)]] EnR fun vs K Kp A => denFnA Tryz.prog (tabA [(69,qdz_E f_qdz)]) [] Tryz.f33 qea_ann vs K (np false Kp) A := by kernel_rfl
theorem qea_ok (hm : PM) : EntryOK Tryz.prog 33 (upE (qea_E qea_A)) := entA hm (callingA_cons (qdz_ok hm) callingA_nil) Tryz.call33 Tryz.func33 (by kernel_rfl) (by kernel_rfl) false (qea_den qdz_A)
def qeb_ann : AnnA := .leaf
theorem qeb_den : qeb_W (qeb_A) = curS [.c (.i .i64),.c .p] EnR fun vs K Kp A => denFnA Tryz.prog (tabA []) [] Tryz.f72 qeb_ann vs K (np false Kp) A := by kernel_rfl
theorem qeb_ok (hm : PM) : EntryOK Tryz.prog 72 (upE (qeb_E qeb_A)) := entA hm callingA_nil Tryz.call72 Tryz.func72 (by kernel_rfl) (by kernel_rfl) false qeb_den
def qec_ann : AnnA := (s0 (s0 (.block (.loop ⟨[1,2,3,4,5],[(12,(.c (.i .i64)))],[]⟩ (s0 (s1 (.cond .leaf .leaf) (.seq (some ⟨[1,2,3,4,5,12],[],[]⟩) (.block (s0 (.seq (some ⟨[1,2,3,4,5,10,12],[],[]⟩) (s0 (.cond .leaf .leaf)) (s0 (.block (s0 (.cond .leaf (s0 (.cond .leaf .leaf))))))))) .leaf)))))))
theorem qec_den (f_self : qec_T) (f_qcn : qcn_T) (f_qeb : qeb_T) : qec_W (qec_G f_self f_qcn f_qeb) = curS [.agg [.p,.p,.p,(.i .i64)],.c (.i .i64),.c (.i .i64),.c (.i .i64),.fn 72 [] [.p]] EnR fun vs K Kp A => denFnA Tryz.prog (tabA [(71,qec_E f_self),(84,qcn_E f_qcn),(72,qeb_E f_qeb)]) [5,11] Tryz.f71 qec_ann vs K (np false Kp) A := by kernel_rfl
theorem table_Purse_walk_okk (hm : PM) : ∀ k,EntryOK Tryz.prog 71 (upE (enS [.agg [.p,.p,.p,(.i .i64)],.c (.i .i64),.c (.i .i64),.c (.i .i64),.fn 72 [] [.p]] (qec_W (qec_A k))))
 | 0 => ent_no Tryz.call71 (by kernel_rfl)
 | k + 1 => entA hm (callingA_cons (table_Purse_walk_okk hm k) (callingA_cons (qcn_ok hm) (callingA_cons (qeb_ok hm) callingA_nil))) Tryz.call71 Tryz.func71 (by kernel_rfl) (by kernel_rfl) false (qec_den (qec_A k) qcn_A qeb_A)
theorem qec_ok (hm : PM) : EntryOK Tryz.prog 71 (upE (qec_E table_Purse_walk_R)) := ent_ex (table_Purse_walk_okk hm) (by kernel_rfl)
def qed_ann : AnnA := (s0 (s0 (s0 (s0 .leaf))))
theorem qed_den (f_qec : qec_T) : qed_W (qed_G f_qec) = curS [.agg [.p,.p,.p,(.i .i64)],.c (.i .i64)] EnR fun vs K Kp A => denFnA Tryz.prog (tabA [(71,qec_E f_qec)]) [2] Tryz.f34 qed_ann vs K (np false Kp) A := by kernel_rfl
theorem qed_ok (hm : PM) : EntryOK Tryz.prog 34 (upE (qed_E qed_A)) := entA hm (callingA_cons (qec_ok hm) callingA_nil) Tryz.call34 Tryz.func34 (by kernel_rfl) (by kernel_rfl) false (qed_den table_Purse_walk_R)
def qee_ann : AnnA := (s0 (s0 (s0 .leaf)))
theorem qee_den : qee_W (qee_A) = curS [.c .p,.c (.i .i64)] EnR fun vs K Kp A => denFnA Tryz.prog (tabA []) [] Tryz.f120 qee_ann vs K (np false Kp) A := by kernel_rfl
theorem qee_ok (hm : PM) : EntryOK Tryz.prog 120 (upE (qee_E qee_A)) := entA hm callingA_nil Tryz.call120 Tryz.func120 (by kernel_rfl) (by kernel_rfl) false qee_den
def qef_ann : AnnA := (s0 (s0 (s1 (s0 (.cond (s0 .leaf) .leaf)) (s1 (.drawS [0,3,4,2,1,5,6,7,8] [6]) (s1 (.drawS [0,2,3,5,1,4,6,7,8] []) (s1 (s0 (.block (.loop ⟨[3,8,11,12],[(13,(.c (.i .i64)))],[]⟩ (s1 (s1 (.draw 9) (.cond .leaf .leaf)) (s1 (.block (s1 (.drawS [0,2,3,4,5,7,8,9,1,6,10,11,12] []) (.draw 5))) .leaf))))) (s0 .leaf)))))))
theorem qef_den (f_qcp : qcp_T) (f_qck : qck_T) (f_qco : qco_T) (f_qbl : qbl_T) (f_qbo : qbo_T) (f_qee : qee_T) (f_qbh : qbh_T) : qef_W (qef_G f_qcp f_qck f_qco f_qbl f_qbo f_qee f_qbh) = curS [.agg [.p,.p,.p,(.i .i64)],.c (.i .i64),.c (.i .i64)] EnR fun vs K Kp A => denFnA Tryz.prog (tabA [(42,qcp_E f_qcp),(85,qck_E f_qck),(83,qco_E f_qco),(118,qbl_E f_qbl),(117,qbo_E f_qbo),(120,qee_E f_qee),(46,qbh_E f_qbh)]) [3,9] Tryz.f73 qef_ann vs K (np false Kp) A := by kernel_rfl
theorem qef_ok (hm : PM) : EntryOK Tryz.prog 73 (upE (qef_E qef_A)) := entA hm (callingA_cons (qcp_ok hm) (callingA_cons (qck_ok hm) (callingA_cons (qco_ok hm) (callingA_cons (qbl_ok hm) (callingA_cons (qbo_ok hm) (callingA_cons (qee_ok hm) (callingA_cons (qbh_ok hm) callingA_nil))))))) Tryz.call73 Tryz.func73 (by kernel_rfl) (by kernel_rfl) false (qef_den qcp_A qck_A qco_A qbl_A qbo_A qee_A qbh_A)
def qeg_ann : AnnA := (s0 (s0 (s0 .leaf)))
theorem qeg_den : qeg_W (qeg_A) = curS [.c .p,.c (.i .i64)] EnR fun vs K Kp A => denFnA Tryz.prog (tabA []) [] Tryz.f36 qeg_ann vs K (np false Kp) A := by kernel_rfl
theorem qeg_ok (hm : PM) : EntryOK Tryz.prog 36 (upE (qeg_E qeg_A)) := entA hm callingA_nil Tryz.call36 Tryz.func36 (by kernel_rfl) (by kernel_rfl) false qeg_den
def qeh_ann : AnnA := (s0 (s0 .leaf))
theorem qeh_den : qeh_W (qeh_A) = curS [.agg [.b,(.i .i64),(.i .i64),(.i .i64),.b,.b,.b,.b,.b],.c (.i .i64),.c (.i .i64)] EnR fun vs K Kp A => denFnA Tryz.prog (tabA []) [3] Tryz.f141 qeh_ann vs K (np false Kp) A := by kernel_rfl
theorem qeh_ok (hm : PM) : EntryOK Tryz.prog 141 (upE (qeh_E qeh_A)) := entA hm callingA_nil Tryz.call141 Tryz.func141 (by kernel_rfl) (by kernel_rfl) false qeh_den
def qei_ann : AnnA := (s0 (s0 .leaf))
theorem qei_den (f_qeh : qeh_T) : qei_W (qei_G f_qeh) = curS [.agg [.b,(.i .i64),(.i .i64),(.i .i64),.b,.b,.b,.b,.b],.c .p,.c .p] EnR fun vs K Kp A => denFnA Tryz.prog (tabA [(141,qeh_E f_qeh)]) [3] Tryz.f140 qei_ann vs K (np false Kp) A := by kernel_rfl
theorem qei_ok (hm : PM) : EntryOK Tryz.prog 140 (upE (qei_E qei_A)) := entA hm (callingA_cons (qeh_ok hm) callingA_nil) Tryz.call140 Tryz.func140 (by kernel_rfl) (by kernel_rfl) false (qei_den qeh_A)
def qej_ann : AnnA := (s0 (.block (.loop ⟨[0,1],[(6,(.c (.i .i64)))],[]⟩ (s0 (s1 (.cond .leaf .leaf) (s1 (.block (s0 (s0 (.block (.loop ⟨[0,1,4,6],[(9,(.c (.i .i64)))],[]⟩ (s0 (s1 (.cond .leaf .leaf) (.seq (some ⟨[0,1,4,6,9],[],[]⟩) (.block (s0 (s0 (.cond .leaf .leaf)))) .leaf)))))))) .leaf))))))
theorem qej_den (f_qei : qei_T) : qej_W (qej_G f_qei) = curS [.c .p,.fn 140 [] [.p,.p]] EnR fun vs K Kp A => denFnA Tryz.prog (tabA [(140,qei_E f_qei)]) [] Tryz.f75 qej_ann vs K (np false Kp) A := by kernel_rfl
theorem qej_ok (hm : PM) : EntryOK Tryz.prog 75 (upE (qej_E qej_A)) := entA hm (callingA_cons (qei_ok hm) callingA_nil) Tryz.call75 Tryz.func75 (by kernel_rfl) (by kernel_rfl) false (qej_den qei_A)
def qek_ann : AnnA := (s0 .leaf)
theorem qek_den (f_qej : qej_T) : qek_W (qek_G f_qej) = curS [.c .p,.c (.i .i64),.c (.i .i64)] EnR fun vs K Kp A => denFnA Tryz.prog (tabA [(75,qej_E f_qej)]) [] Tryz.f121 qek_ann vs K (np false Kp) A := by kernel_rfl
theorem qek_ok (hm : PM) : EntryOK Tryz.prog 121 (upE (qek_E qek_A)) := entA hm (callingA_cons (qej_ok hm) callingA_nil) Tryz.call121 Tryz.func121 (by kernel_rfl) (by kernel_rfl) false (qek_den qej_A)
def qel_ann : AnnA := (s0 (s0 (.cond .leaf .leaf)))
theorem qel_den (f_qeg : qeg_T) (f_qek : qek_T) : qel_W (qel_G f_qeg f_qek) = curS [.c .p,.c (.i .i64),.c (.i .i64)] EnR fun vs K Kp A => denFnA Tryz.prog (tabA [(36,qeg_E f_qeg),(121,qek_E f_qek)]) [] Tryz.f74 qel_ann vs K (np false Kp) A := by kernel_rfl
theorem qel_ok (hm : PM) : EntryOK Tryz.prog 74 (upE (qel_E qel_A)) := entA hm (callingA_cons (qeg_ok hm) (callingA_cons (qek_ok hm) callingA_nil)) Tryz.call74 Tryz.func74 (by kernel_rfl) (by kernel_rfl) false (qel_den qeg_A qek_A)
def qem_ann : AnnA := (s0 (s1 (.drawS [0,1,2,3,6,7,8,10,4,9,5,11,12,13,14,15,16] []) (.seq (some ⟨[0,1,3],[],[]⟩) (s0 (.cond .leaf .leaf)) .leaf)))
theorem qem_den (f_qci : qci_T) (f_qat : qat_T) (f_qef : qef_T) (f_qbh : qbh_T) (f_qel : qel_T) : qem_W (qem_G f_qci f_qat f_qef f_qbh f_qel) = curS [.c .p,.c (.i .i64),.c .p,.c (.i .i64)] EnR fun vs K Kp A => denFnA Tryz.prog (tabA [(41,qci_E f_qci),(32,qat_E f_qat),(73,qef_E f_qef),(46,qbh_E f_qbh),(74,qel_E f_qel)]) [8] Tryz.f35 qem_ann vs K (np false Kp) A := by kernel_rfl
theorem qem_ok (hm : PM) : EntryOK Tryz.prog 35 (upE (qem_E qem_A)) := entA hm (callingA_cons (qci_ok hm) (callingA_cons (qat_ok hm) (callingA_cons (qef_ok hm) (callingA_cons (qbh_ok hm) (callingA_cons (qel_ok hm) callingA_nil))))) Tryz.call35 Tryz.func35 (by kernel_rfl) (by kernel_rfl) false (qem_den qci_A qat_A qef_A qbh_A qel_A)
def qen_ann : AnnA := (s0 (s0 .leaf))
theorem qen_den : qen_W (qen_A) = curS [.agg [.b,(.i .i64),(.i .i64),(.i .i64),.b,.b,.b,.b,.b],.c .p] EnR fun vs K Kp A => denFnA Tryz.prog (tabA []) [2] Tryz.f76 qen_ann vs K (np false Kp) A := by kernel_rfl
theorem qen_ok (hm : PM) : EntryOK Tryz.prog 76 (upE (qen_E qen_A)) := entA hm callingA_nil Tryz.call76 Tryz.func76 (by kernel_rfl) (by kernel_rfl) false qen_den
def qeo_ann : AnnA := (s0 (.block (.loop ⟨[0,1],[(6,(.c (.i .i64)))],[]⟩ (s0 (s1 (.cond .leaf .leaf) (s1 (.block (s0 (s0 (.block (.loop ⟨[0,1,4,6],[(9,(.c (.i .i64)))],[]⟩ (s0 (s1 (.cond .leaf .leaf) (.seq (some ⟨[0,1,4,6,9],[],[]⟩) (.block (s0 (s0 (.cond .leaf .leaf)))) .leaf)))))))) .leaf))))))
theorem qeo_den (f_qen : qen_T) : qeo_W (qeo_G f_qen) = curS [.c .p,.fn 76 [] [.p]] EnR fun vs K Kp A => denFnA Tryz.prog (tabA [(76,qen_E f_qen)]) [] Tryz.f75 qeo_ann vs K (np false Kp) A := by kernel_rfl
theorem qeo_ok (hm : PM) : EntryOK Tryz.prog 75 (upE (qeo_E qeo_A)) := entA hm (callingA_cons (qen_ok hm) callingA_nil) Tryz.call75 Tryz.func75 (by kernel_rfl) (by kernel_rfl) false (qeo_den qen_A)
def qep_ann : AnnA := (s0 .leaf)
theorem qep_den (f_qeo : qeo_T) : qep_W (qep_G f_qeo) = curS [.c .p,.c (.i .i64)] EnR fun vs K Kp A => denFnA Tryz.prog (tabA [(75,qeo_E f_qeo)]) [] Tryz.f37 qep_ann vs K (np false Kp) A := by kernel_rfl
theorem qep_ok (hm : PM) : EntryOK Tryz.prog 37 (upE (qep_E qep_A)) := entA hm (callingA_cons (qeo_ok hm) callingA_nil) Tryz.call37 Tryz.func37 (by kernel_rfl) (by kernel_rfl) false (qep_den qeo_A)
def qeq_ann : AnnA := (s0 (s0 (.cond (s0 .leaf) .leaf)))
theorem qeq_den : qeq_W (qeq_A) = curS [.c .p,.c (.i .i64)] EnR fun vs K Kp A => denFnA Tryz.prog (tabA []) [] Tryz.f38 qeq_ann vs K (np false Kp) A := by kernel_rfl
theorem qeq_ok (hm : PM) : EntryOK Tryz.prog 38 (upE (qeq_E qeq_A)) := entA hm callingA_nil Tryz.call38 Tryz.func38 (by kernel_rfl) (by kernel_rfl) false qeq_den
def qer_ann : AnnA := (s0 (s1 (s0 (.cond (s0 .leaf) .leaf)) (s0 (s0 .leaf))))
theorem qer_den (f_qed : qed_T) (f_qbh : qbh_T) : qer_W (qer_G f_qed f_qbh) = curS [.agg [.p,.p,.p,(.i .i64)],.c (.i .i64)] EnR fun vs K Kp A => denFnA Tryz.prog (tabA [(34,qed_E f_qed),(46,qbh_E f_qbh)]) [2] Tryz.f39 qer_ann vs K (np false Kp) A := by kernel_rfl
theorem qer_ok (hm : PM) : EntryOK Tryz.prog 39 (upE (qer_E qer_A)) := entA hm (callingA_cons (qed_ok hm) (callingA_cons (qbh_ok hm) callingA_nil)) Tryz.call39 Tryz.func39 (by kernel_rfl) (by kernel_rfl) false (qer_den qed_A qbh_A)
def qes_ann : AnnA := (s0 (s0 (s1 (s0 (.cond (s0 .leaf) .leaf)) (s1 (s0 (.cond (s0 .leaf) .leaf)) (s0 (s1 (s1 (.drawS [1,2,3,7,0,4,5,6] []) (.block (.loop ⟨[0,1,5,6,33,34],[(35,(.c (.i .i64)))],[]⟩ (s0 (s1 (.cond .leaf .leaf) (s1 (.block (s0 .leaf)) .leaf)))))) (.seq (some ⟨[0,1,5,6],[],[]⟩) (s0 (s0 (.cond .leaf .leaf))) (s0 (s1 (.draw 5) (s0 (s0 .leaf)))))))))))
theorem qes_den (f_qea : qea_T) (f_qat : qat_T) (f_qed : qed_T) (f_qem : qem_T) (f_qeg : qeg_T) (f_qep : qep_T) (f_qeq : qeq_T) (f_qer : qer_T) : qes_W (qes_G f_qea f_qat f_qed f_qem f_qeg f_qep f_qeq f_qer) = curS [.c .p,.c (.i .i64)] EnR fun vs K Kp A => denFnA Tryz.prog (tabA [(33,qea_E f_qea),(32,qat_E f_qat),(34,qed_E f_qed),(35,qem_E f_qem),(36,qeg_E f_qeg),(37,qep_E f_qep),(38,qeq_E f_qeq),(39,qer_E f_qer)]) [6] Tryz.f11 qes_ann vs K (np false Kp) A := by kernel_rfl
theorem qes_ok (hm : PM) : EntryOK Tryz.prog 11 (upE (qes_E qes_A)) := entA hm (callingA_cons (qea_ok hm) (callingA_cons (qat_ok hm) (callingA_cons (qed_ok hm) (callingA_cons (qem_ok hm) (callingA_cons (qeg_ok hm) (callingA_cons (qep_ok hm) (callingA_cons (qeq_ok hm) (callingA_cons (qer_ok hm) callingA_nil)))))))) Tryz.call11 Tryz.func11 (by kernel_rfl) (by kernel_rfl) false (qes_den qea_A qat_A qed_A qem_A qeg_A qep_A qeq_A qer_A)
def qet_ann : AnnA := (s0 (.seq (some ⟨[0],[],[]⟩) (s0 (.cond (s0 .leaf) .leaf)) (s0 (s1 (s0 (.cond (s0 .leaf) .leaf)) (s0 (s0 (s0 (s0 (s0 (s0 (s0 (s0 .leaf))))))))))))
theorem qet_den (f_qdw : qdw_T) (f_qbs : qbs_T) (f_qdm : qdm_T) (f_qdn : qdn_T) (f_qdv : qdv_T) (f_qbu : qbu_T) (f_qes : qes_T) : qet_W (qet_G f_qdw f_qbs f_qdm f_qdn f_qdv f_qbu f_qes) = curS [.c (.i .i64)] EnR fun vs K Kp A => denFnA Tryz.prog (tabA [(6,qdw_E f_qdw),(7,qbs_E f_qbs),(8,qdm_E f_qdm),(5,qdn_E f_qdn),(9,qdv_E f_qdv),(10,qbu_E f_qbu),(11,qes_E f_qes)]) [4,6,9,12] Tryz.f4 qet_ann vs K (np false Kp) A := by kernel_rfl
theorem qet_ok (hm : PM) : EntryOK Tryz.prog 4 (upE (qet_E qet_A)) := entA hm (callingA_cons (qdw_ok hm) (callingA_cons (qbs_ok hm) (callingA_cons (qdm_ok hm) (callingA_cons (qdn_ok hm) (callingA_cons (qdv_ok hm) (callingA_cons (qbu_ok hm) (callingA_cons (qes_ok hm) callingA_nil))))))) Tryz.call4 Tryz.func4 (by kernel_rfl) (by kernel_rfl) false (qet_den qdw_A qbs_A qdm_A qdn_A qdv_A qbu_A qes_A)
end Go.Dn
