/- Printed by gen3.py: that each function does so. -/
import Derived.Test.YtmfmhmipcdgikaaGreatG
import Derived.Test.YtmfmhmipcdgikaaGreatParseE
import Derived.Test.YtmfmhmipcdgikaaGreatSortE
import Derived.Test.YtmfmhmipcdgikaaGreatProg
import Derived.KernelRfl
import Derived.Ground.GgzProg
namespace Go.Dn
open Go.Proofs Go.Shelf
set_option maxRecDepth 100000
abbrev PM:Prop:=Tryz.prog.follows .mixedOrders=true
abbrev s1 (x y:AnnA):AnnA:=.seq none x y
abbrev s0 (x:AnnA):AnnA:=.seq none .leaf x
abbrev qaa_E (f:qaa_T):EnA:=enS [.c (.i .u64),.c (.i .u64),.c (.i .u32)] (qaa_W f)
abbrev qab_E (f:qab_T):EnA:=enS [.c (.i .i64),.c (.i .i64)] (qab_W f)
abbrev qac_E (f:qac_T):EnA:=enS [.c (.i .i64),.c (.i .i64),.c (.i .i64),.c .s] (qac_W f)
abbrev qad_E (f:qad_T):EnA:=enS [.c .s] (qad_W f)
abbrev qae_E (f:qae_T):EnA:=enS [.agg [(.i .u64),(.i .u64),(.i .u32)],.c (.i .i64)] (qae_W f)
abbrev qaf_E (f:qaf_T):EnA:=enS [.c .s] (qaf_W f)
abbrev qag_E (f:qag_T):EnA:=enS [.agg [(.i .i64),(.i .i64)]] (qag_W f)
abbrev qah_E (f:qah_T):EnA:=enS [.c .s,.fn 181 [] []] (qah_W f)
abbrev qai_E (f:qai_T):EnA:=enS [.c .s,.fn 181 [] []] (qai_W f)
abbrev qaj_E (f:qaj_T):EnA:=enS [.c .s,.fn 183 [] []] (qaj_W f)
abbrev qak_E (f:qak_T):EnA:=enS [.c .s] (qak_W f)
abbrev qal_E (f:qal_T):EnA:=enS [.c .s,.c .s] (qal_W f)
abbrev qam_E (f:qam_T):EnA:=enS [.c .s,.c (.i .i64),.agg [(.i .i64),(.i .i64)]] (qam_W f)
abbrev qan_E (f:qan_T):EnA:=enS [.c .p] (qan_W f)
abbrev qao_E (f:qao_T):EnA:=enS [.c (.i .i64)] (qao_W f)
abbrev qap_E (f:qap_T):EnA:=enS [.c (.i .i64),.c .s] (qap_W f)
abbrev qaq_E (f:qaq_T):EnA:=enS [.c .p,.c (.i .i64),.c (.i .i64)] (qaq_W f)
abbrev qar_E (f:qar_T):EnA:=enS [.c .s] (qar_W f)
abbrev qas_E (f:qas_T):EnA:=enS [.c .p] (qas_W f)
abbrev qat_E (f:qat_T):EnA:=enS [.c (.i .i64)] (qat_W f)
abbrev qau_E (f:qau_T):EnA:=enS [.c .p,.c (.i .i64)] (qau_W f)
abbrev qav_E (f:qav_T):EnA:=enS [.c .p,.c (.i .i64)] (qav_W f)
abbrev qaw_E (f:qaw_T):EnA:=enS [.c .p,.c (.i .i64)] (qaw_W f)
abbrev qax_E (f:qax_T):EnA:=enS [.c .p,.c (.i .i64),.c (.i .i64)] (qax_W f)
abbrev qay_E (f:qay_T):EnA:=enS [.c .m] (qay_W f)
abbrev qaz_E (f:qaz_T):EnA:=enS [.fn 224 [] [.p]] (qaz_W f)
abbrev qba_E (f:qba_T):EnA:=enS [.c .s] (qba_W f)
abbrev qbb_E (f:qbb_T):EnA:=enS [.c .p,.c (.i .i64)] (qbb_W f)
abbrev qbc_E (f:qbc_T):EnA:=enS [.c .p,.c (.i .i64)] (qbc_W f)
abbrev qbd_E (f:qbd_T):EnA:=enS [.c .p,.c (.i .i64)] (qbd_W f)
abbrev qbe_E (f:qbe_T):EnA:=enS [.c .p,.c (.i .i64)] (qbe_W f)
abbrev qbf_E (f:qbf_T):EnA:=enS [.c .p,.c (.i .i64),.c (.i .i64)] (qbf_W f)
abbrev qbg_E (f:qbg_T):EnA:=enS [.agg [.p,.p,.p,(.i .i64)]] (qbg_W f)
abbrev qbh_E (f:qbh_T):EnA:=enS [.c .p] (qbh_W f)
abbrev qbi_E (f:qbi_T):EnA:=enS [.agg [.p,.p,.p,(.i .i64)],.c (.i .i64)] (qbi_W f)
abbrev qbj_E (f:qbj_T):EnA:=enS [.c .p] (qbj_W f)
abbrev qbk_E (f:qbk_T):EnA:=enS [] (qbk_W f)
abbrev qbl_E (f:qbl_T):EnA:=enS [.agg [.b,.b,.b,.b,.b,.b,.b,.b,(.i .i64)]] (qbl_W f)
abbrev qbm_E (f:qbm_T):EnA:=enS [.c (.i .i64),.c (.i .i64)] (qbm_W f)
abbrev qbn_E (f:qbn_T):EnA:=enS [.c .p,.c (.i .u64),.c (.i .i64)] (qbn_W f)
abbrev qbo_E (f:qbo_T):EnA:=enS [.c .p,.c (.i .i64)] (qbo_W f)
abbrev qbp_E (f:qbp_T):EnA:=enS [.c .p,.c (.i .u64),.c (.i .i64),.c (.i .u64)] (qbp_W f)
abbrev qbq_E (f:qbq_T):EnA:=enS [.agg [.p,.p,.p,(.i .i64)],.c (.i .i64),.c (.i .i64),.agg [.b,.b,.b,.b,.b,.b,.b,.b,(.i .i64)]] (qbq_W f)
abbrev qbr_E (f:qbr_T):EnA:=enS [.agg [.p,.p,.p,(.i .i64)]] (qbr_W f)
abbrev qbs_E (f:qbs_T):EnA:=enS [.agg [(.i .i64),(.i .i64),(.i .i64),(.i .i64),.s]] (qbs_W f)
abbrev qbt_E (f:qbt_T):EnA:=enS [.c (.i .i64)] (qbt_W f)
abbrev qbu_E (f:qbu_T):EnA:=enS [.c .p,.c .s] (qbu_W f)
abbrev qbv_E (f:qbv_T):EnA:=enS [.agg [(.i .i64),(.i .i64),(.i .i64),(.i .i64),.b]] (qbv_W f)
abbrev qbw_E (f:qbw_T):EnA:=enS [.c .s,.fn 92 [] []] (qbw_W f)
abbrev qbx_E (f:qbx_T):EnA:=enS [.c .s] (qbx_W f)
abbrev qby_E (f:qby_T):EnA:=enS [.c .p,.c (.i .i64),.c (.i .i64)] (qby_W f)
abbrev qbz_E (f:qbz_T):EnA:=enS [.agg [.p,.p,.p,(.i .i64)],.c (.i .i64)] (qbz_W f)
abbrev qca_E (f:qca_T):EnA:=enS [.c .p,.c (.i .i64),.c (.i .i64)] (qca_W f)
abbrev qcb_E (f:qcb_T):EnA:=enS [.c .p,.c (.i .i64)] (qcb_W f)
abbrev qcc_E (f:qcc_T):EnA:=enS [.c .s,.c (.i .i64)] (qcc_W f)
abbrev qcd_E (f:qcd_T):EnA:=enS [.c .s,.c (.i .i64)] (qcd_W f)
abbrev qce_E (f:qce_T):EnA:=enS [.c .s] (qce_W f)
abbrev qcf_E (f:qcf_T):EnA:=enS [.c .p,.c (.i .i64)] (qcf_W f)
abbrev qcg_E (f:qcg_T):EnA:=enS [.c .p,.c (.i .i64),.c (.i .i64),.c (.i .i64)] (qcg_W f)
abbrev qch_E (f:qch_T):EnA:=enS [.agg [(.i .i64),(.i .i64),(.i .i64),(.i .i64),.s,(.i .i64),.s]] (qch_W f)
abbrev qci_E (f:qci_T):EnA:=enS [.c .p] (qci_W f)
abbrev qcj_E (f:qcj_T):EnA:=enS [.c .p,.c (.i .u64)] (qcj_W f)
abbrev qck_E (f:qck_T):EnA:=enS [.c .p,.c (.i .i64)] (qck_W f)
abbrev qcl_E (f:qcl_T):EnA:=enS [.c .p] (qcl_W f)
abbrev qcm_E (f:qcm_T):EnA:=enS [.c .p] (qcm_W f)
abbrev qcn_E (f:qcn_T):EnA:=enS [.c .p,.c .p] (qcn_W f)
abbrev qco_E (f:qco_T):EnA:=enS [.c .p] (qco_W f)
abbrev qcp_E (f:qcp_T):EnA:=enS [.c .p] (qcp_W f)
abbrev qcr_E (f:qcr_T):EnA:=enS [.agg [(.i .u64),(.i .u64),(.i .u64),(.i .u64),(.i .u64),(.i .u64)]] (qcr_W f)
abbrev qcs_E (f:qcs_T):EnA:=enS [.c (.i .i64),.agg [(.i .u64),(.i .i64)]] (qcs_W f)
abbrev qct_E (f:qct_T):EnA:=enS [.c .p,.c (.i .i64),.c (.i .i64)] (qct_W f)
abbrev qcu_E (f:qcu_T):EnA:=enS [.c .p] (qcu_W f)
abbrev qcv_E (f:qcv_T):EnA:=enS [.c .p,.c (.i .i64)] (qcv_W f)
abbrev qcw_E (f:qcw_T):EnA:=enS [.c .p,.c (.i .i64)] (qcw_W f)
abbrev qcx_E (f:qcx_T):EnA:=enS [.agg [.b,(.i .i64),(.i .i64),(.i .i64),.b,.b,.b,.b,.b],.c .p] (qcx_W f)
abbrev qcy_E (f:qcy_T):EnA:=enS [.c .p,.fn 225 [] [.p]] (qcy_W f)
abbrev qcz_E (f:qcz_T):EnA:=enS [.c .p,.c .b] (qcz_W f)
abbrev qda_E (f:qda_T):EnA:=enS [.c .p,.c (.i .i64)] (qda_W f)
abbrev qdb_E (f:qdb_T):EnA:=enS [.c (.i .i64)] (qdb_W f)
abbrev qdc_E (f:qdc_T):EnA:=enS [.agg [.b,(.i .i64),(.i .i64),(.i .i64),.b,.b,.b,.b,.b],.c (.i .i64),.c (.i .i64)] (qdc_W f)
abbrev qdd_E (f:qdd_T):EnA:=enS [.agg [.b,(.i .i64),(.i .i64),(.i .i64),.b,.b,.b,.b,.b],.c .p,.c .p] (qdd_W f)
abbrev qde_E (f:qde_T):EnA:=enS [.c .s,.fn 193 [] [.p,.p]] (qde_W f)
abbrev qdf_E (f:qdf_T):EnA:=enS [.c .p,.c (.i .i64),.c (.i .i64)] (qdf_W f)
abbrev qdg_E (f:qdg_T):EnA:=enS [.agg [.b,.b,.b],.agg [.b,.b,.b]] (qdg_W f)
abbrev qdh_E (f:qdh_T):EnA:=enS [.c .s,.c (.i .i64)] (qdh_W f)
abbrev qdi_E (f:qdi_T):EnA:=enS [.c (.i .u64)] (qdi_W f)
abbrev qdj_E (f:qdj_T):EnA:=enS [.c (.i .i64)] (qdj_W f)
abbrev qdk_E (f:qdk_T):EnA:=enS [.c .p,.c (.i .u64),.c (.i .i64)] (qdk_W f)
abbrev qdl_E (f:qdl_T):EnA:=enS [.c (.i .u64)] (qdl_W f)
abbrev qdm_E (f:qdm_T):EnA:=enS [.agg [.p,.p,.p,(.i .i64)],.c (.i .i64),.c (.i .i64)] (qdm_W f)
abbrev qdn_E (f:qdn_T):EnA:=enS [.agg [.p,.p,.p,(.i .i64)],.c (.i .i64),.c (.i .i64)] (qdn_W f)
abbrev qdo_E (f:qdo_T):EnA:=enS [.agg [.p,.p,.p,(.i .i64)],.c (.i .i64),.c (.i .i64)] (qdo_W f)
abbrev qdp_E (f:qdp_T):EnA:=enS [.c (.i .i64),.agg [.b,.b,.b]] (qdp_W f)
abbrev qdq_E (f:qdq_T):EnA:=enS [.agg [.p,.p,.p,(.i .i64)],.c (.i .i64),.c (.i .i64),.c (.i .i64),.agg [.b,.b,.b]] (qdq_W f)
abbrev qdr_E (f:qdr_T):EnA:=enS [.c .p,.c (.i .i64),.c (.i .i64),.agg [.b,.b,.b]] (qdr_W f)
abbrev qds_E (f:qds_T):EnA:=enS [.c (.i .u64)] (qds_W f)
abbrev qdt_E (f:qdt_T):EnA:=enS [.c .p,.c (.i .i64)] (qdt_W f)
abbrev qdu_E (f:qdu_T):EnA:=enS [.c (.i .u64),.c (.i .i64)] (qdu_W f)
abbrev qdv_E (f:qdv_T):EnA:=enS [.c .p,.c (.i .i64),.c (.i .i64),.c (.i .i64)] (qdv_W f)
abbrev qdw_E (f:qdw_T):EnA:=enS [.c .p,.c .s,.c .b] (qdw_W f)
abbrev qdy_E (f:qdy_T):EnA:=enS [.c .p,.c (.i .i64),.c (.i .u64),.agg [.b,.b,.b]] (qdy_W f)
abbrev qdz_E (f:qdz_T):EnA:=enS [.c .p,.c (.i .i64),.agg [.b,(.i .i64),(.i .i64),(.i .i64),.b,.b,.b,.b,.b]] (qdz_W f)
abbrev qea_E (f:qea_T):EnA:=enS [.c .p,.c (.i .i64),.c (.i .u64),.agg [.b,.b,.b]] (qea_W f)
abbrev qec_E (f:qec_T):EnA:=enS [.c .p,.c (.i .i64),.c (.i .u64),.c (.i .i64),.c .b,.c (.i .u64)] (qec_W f)
abbrev qed_E (f:qed_T):EnA:=enS [.agg [(.i .u64),(.i .u64),(.i .u64),(.i .u64),(.i .i64),(.i .u64),.b,(.i .u64),(.i .i64),(.i .u64),(.i .u64),(.i .u64),(.i .u64)],.agg [(.i .u64),(.i .i64)]] (qed_W f)
abbrev qee_E (f:qee_T):EnA:=enS [.c .p,.c (.i .i64),.agg [(.i .i64),(.i .i64),(.i .i64),.b,.b,.b,(.i .u64),(.i .i64),(.i .u64),(.i .i64),(.i .i64),(.i .i64),(.i .i64)]] (qee_W f)
abbrev qef_E (f:qef_T):EnA:=enS [.agg [(.i .i64),(.i .i64)]] (qef_W f)
abbrev qeg_E (f:qeg_T):EnA:=enS [.agg [(.i .i64),(.i .i64),.b,.b,.b,(.i .i64)],.agg [(.i .i64),(.i .i64),.b,.b,.b,(.i .i64)]] (qeg_W f)
abbrev qeh_E (f:qeh_T):EnA:=enS [.c .s] (qeh_W f)
abbrev qei_E (f:qei_T):EnA:=enS [.c .s] (qei_W f)
abbrev qej_E (f:qej_T):EnA:=enS [.c .s,.c .s] (qej_W f)
abbrev qek_E (f:qek_T):EnA:=enS [.c .s] (qek_W f)
abbrev qel_E (f:qel_T):EnA:=enS [.c .s,.c (.i .i64)] (qel_W f)
abbrev qem_E (f:qem_T):EnA:=enS [.c .s,.c (.i .i64)] (qem_W f)
abbrev qen_E (f:qen_T):EnA:=enS [.c .s,.c (.i .i64),.c .s] (qen_W f)
abbrev qeo_E (f:qeo_T):EnA:=enS [.c .s] (qeo_W f)
abbrev qep_E (f:qep_T):EnA:=enS [.c .s] (qep_W f)
abbrev qeq_E (f:qeq_T):EnA:=enS [.c .s,.agg [(.i .i64),(.i .i64),.b,.b,.b,(.i .i64)]] (qeq_W f)
abbrev qer_E (f:qer_T):EnA:=enS [.c .p,.c (.i .i64),.agg [(.i .i64),(.i .i64)],.agg [.b,.b,.b]] (qer_W f)
abbrev qes_E (f:qes_T):EnA:=enS [.c .p,.c (.i .i64),.agg [(.i .i64),(.i .i64)]] (qes_W f)
abbrev qet_E (f:qet_T):EnA:=enS [.c .p,.c (.i .i64),.agg [(.i .i64),(.i .i64)],.agg [.b,.b,.b]] (qet_W f)
abbrev qeu_E (f:qeu_T):EnA:=enS [.c .p,.c (.i .i64),.agg [(.i .i64),(.i .i64),(.i .i64),.b,.b,.b,(.i .u64),(.i .i64),(.i .u64),(.i .i64),(.i .i64),(.i .i64),(.i .i64)]] (qeu_W f)
abbrev qev_E (f:qev_T):EnA:=enS [.c .p,.c (.i .i64),.c (.i .i64),.c .b] (qev_W f)
abbrev qew_E (f:qew_T):EnA:=enS [.c .p,.c (.i .i64),.c (.i .i64),.c (.i .i64),.c .b] (qew_W f)
abbrev qex_E (f:qex_T):EnA:=enS [.c .p,.c (.i .i64),.agg [(.i .i64),(.i .i64),(.i .i64),.b,.b,.b,(.i .u64),(.i .i64),(.i .u64),(.i .i64),(.i .i64),(.i .i64),(.i .i64)]] (qex_W f)
abbrev qey_E (f:qey_T):EnA:=enS [.c .p,.c (.i .i64),.c (.i .i64),.c (.i .i64)] (qey_W f)
abbrev qez_E (f:qez_T):EnA:=enS [.c .p,.c (.i .i64)] (qez_W f)
abbrev qfa_E (f:qfa_T):EnA:=enS [.c .p,.c (.i .i64),.c (.i .i64),.c (.i .i64),.c (.i .i64),.agg [.b,.b,.b]] (qfa_W f)
abbrev qfb_E (f:qfb_T):EnA:=enS [.c .p,.c (.i .i64),.c (.i .i64)] (qfb_W f)
abbrev qfc_E (f:qfc_T):EnA:=enS [.c .p,.c (.i .i64),.agg [(.i .i64),(.i .i64),(.i .i64),.b,.b,.b,(.i .u64),(.i .i64),(.i .u64),(.i .i64),(.i .i64),(.i .i64),(.i .i64)]] (qfc_W f)
abbrev qfd_E (f:qfd_T):EnA:=enS [.c .p,.agg [(.i .i64),(.i .i64),(.i .i64),.b,.b,(.i .i64)]] (qfd_W f)
abbrev qfe_E (f:qfe_T):EnA:=enS [.c .p,.c (.i .i64),.c (.i .i64)] (qfe_W f)
abbrev qff_E (f:qff_T):EnA:=enS [.c .p,.c (.i .i64),.agg [(.i .i64),(.i .i64),(.i .i64),.b,.b,.b,(.i .u64),(.i .i64),(.i .u64),(.i .i64),(.i .i64),(.i .i64),(.i .i64)]] (qff_W f)
abbrev qfg_E (f:qfg_T):EnA:=enS [.c .p] (qfg_W f)
abbrev qfh_E (f:qfh_T):EnA:=enS [.c .p,.c (.i .i64)] (qfh_W f)
abbrev qfi_E (f:qfi_T):EnA:=enS [.c .p,.c (.i .i64),.agg [(.i .i64),(.i .i64),(.i .i64),.b,.b,.b,(.i .u64),(.i .i64),(.i .u64),(.i .i64),(.i .i64),(.i .i64),(.i .i64)]] (qfi_W f)
abbrev qfj_E (f:qfj_T):EnA:=enS [.agg [(.i .u64),(.i .u64),(.i .u64),(.i .u64),(.i .i64),(.i .u64),.b,(.i .u64),(.i .i64),(.i .u64),(.i .u64),(.i .u64),(.i .u64)],.c (.i .u64)] (qfj_W f)
abbrev qfk_E (f:qfk_T):EnA:=enS [.agg [(.i .u64),(.i .u64),(.i .u64),(.i .u64),(.i .i64),(.i .u64),.b,(.i .u64),(.i .i64),(.i .u64),(.i .u64),(.i .u64),(.i .u64)]] (qfk_W f)
abbrev qfl_E (f:qfl_T):EnA:=enS [.agg [(.i .u64),(.i .u64),(.i .u64),(.i .u64),(.i .i64),(.i .u64),.b,(.i .u64),(.i .i64),(.i .u64),(.i .u64),(.i .u64),(.i .u64)],.c (.i .i64),.c (.i .i64),.c (.i .i64),.c (.i .i64)] (qfl_W f)
abbrev qfm_E (f:qfm_T):EnA:=enS [.c .s] (qfm_W f)
abbrev qfn_E (f:qfn_T):EnA:=enS [.agg [(.i .u64),(.i .u64),(.i .u64),(.i .u64),(.i .i64),(.i .u64),.b,(.i .u64),(.i .i64),(.i .u64),(.i .u64),(.i .u64),(.i .u64)],.c (.i .i64),.c (.i .u64)] (qfn_W f)
abbrev qfo_E (f:qfo_T):EnA:=enS [.c .p,.c (.i .i64),.agg [(.i .i64),(.i .i64),(.i .i64),.b,.b,.b,(.i .u64),(.i .i64),(.i .u64),(.i .i64),(.i .i64),(.i .i64),(.i .i64)]] (qfo_W f)
abbrev qfp_E (f:qfp_T):EnA:=enS [.c .p,.agg [(.i .u64),(.i .u64),(.i .u64),(.i .u64),(.i .u64),(.i .u64)]] (qfp_W f)
abbrev qfq_E (f:qfq_T):EnA:=enS [.c .p] (qfq_W f)
abbrev qfr_E (f:qfr_T):EnA:=enS [] (qfr_W f)
abbrev qfs_E (f:qfs_T):EnA:=enS [.c .p,.c (.i .i64)] (qfs_W f)
abbrev qft_E (f:qft_T):EnA:=enS [.c .p,.c (.i .i64)] (qft_W f)
abbrev qfu_E (f:qfu_T):EnA:=enS [.c (.i .u64),.c (.i .u64),.agg [(.i .u64),(.i .u64),(.i .u64),(.i .u64)],.c .b] (qfu_W f)
def qaa_ann:AnnA:=(s0 (s0 (s1 (s0 (.block (.loop ⟨[0,1,2,7],[(8,(.c (.i .i64)))],[]⟩ (s1 (s0 (.cond .leaf .leaf)) (s1 (.block (s0 .leaf)) .leaf))))) (s1 (s0 (.block (.loop ⟨[2,7],[(9,(.c (.i .i64)))],[]⟩ (s1 (s0 (.cond .leaf .leaf)) (s1 (.block .leaf) .leaf))))) (s0 .leaf)))))
theorem qaa_den:qaa_W (qaa_A)=curS [.c (.i .u64),.c (.i .u64),.c (.i .u32)] EnR fun vs K Kp A=>denFnA Tryz.prog (tabA []) [] Tryz.f55 qaa_ann vs K (np false Kp) A:=by kernel_rfl
theorem qaa_ok (hm:PM):EntryOK Tryz.prog 55 (upE (qaa_E qaa_A)):=entA hm callingA_nil Tryz.call55 Tryz.func55 (by kernel_rfl) (by kernel_rfl) false qaa_den
def qab_ann:AnnA:=(s0 (s0 .leaf))
theorem qab_den (f_qaa:qaa_T):qab_W (qab_G f_qaa)=curS [.c (.i .i64),.c (.i .i64)] EnR fun vs K Kp A=>denFnA Tryz.prog (tabA [(55,qaa_E f_qaa)]) [4] Tryz.f25 qab_ann vs K (np false Kp) A:=by kernel_rfl
theorem qab_ok (hm:PM):EntryOK Tryz.prog 25 (upE (qab_E qab_A)):=entA hm (callingA_cons (qaa_ok hm) callingA_nil) Tryz.call25 Tryz.func25 (by kernel_rfl) (by kernel_rfl) false (qab_den qaa_A)
def qac_ann:AnnA:=(s0 (.seq (some ⟨[0,1,2,8],[(3,(.c .s))],[]⟩) (s0 (.cond .leaf .leaf)) (s0 .leaf)))
theorem qac_den (f_qab:qab_T):qac_W (qac_G f_qab)=curS [.c (.i .i64),.c (.i .i64),.c (.i .i64),.c .s] EnR fun vs K Kp A=>denFnA Tryz.prog (tabA [(25,qab_E f_qab)]) [8] Tryz.f10 qac_ann vs K (np false Kp) A:=by kernel_rfl
theorem qac_ok (hm:PM):EntryOK Tryz.prog 10 (upE (qac_E qac_A)):=entA hm (callingA_cons (qab_ok hm) callingA_nil) Tryz.call10 Tryz.func10 (by kernel_rfl) (by kernel_rfl) false (qac_den qab_A)
theorem qad_ok (_hm:PM):EntryOK Tryz.prog 82 (upE (qad_E qad_A)):=parse_ok rfl
def qae_ann:AnnA:=(s0 (s1 (.draw 11) (.seq (some ⟨[1,2,4],[(5,(.c (.i .u64))),(6,(.c (.i .u64)))],[]⟩) (s0 (.cond (s0 (.cond .leaf .leaf)) (s0 (.cond .leaf .leaf)))) (.seq (some ⟨[1,4,5],[(6,(.c (.i .u64)))],[]⟩) (s0 (.cond .leaf .leaf)) (s0 .leaf)))))
theorem qae_den:qae_W (qae_A)=curS [.agg [(.i .u64),(.i .u64),(.i .u32)],.c (.i .i64)] EnR fun vs K Kp A=>denFnA Tryz.prog (tabA []) [2,4] Tryz.f83 qae_ann vs K (np false Kp) A:=by kernel_rfl
theorem qae_ok (hm:PM):EntryOK Tryz.prog 83 (upE (qae_E qae_A)):=entA hm callingA_nil Tryz.call83 Tryz.func83 (by kernel_rfl) (by kernel_rfl) false qae_den
def qaf_ann:AnnA:=(s0 (s1 (s0 (.cond (s0 .leaf) .leaf)) (s0 .leaf)))
theorem qaf_den:qaf_W (qaf_A)=curS [.c .s] EnR fun vs K Kp A=>denFnA Tryz.prog (tabA []) [] Tryz.f180 qaf_ann vs K (np false Kp) A:=by kernel_rfl
theorem qaf_ok (hm:PM):EntryOK Tryz.prog 180 (upE (qaf_E qaf_A)):=entA hm callingA_nil Tryz.call180 Tryz.func180 (by kernel_rfl) (by kernel_rfl) false qaf_den
def qag_ann:AnnA:=(s0 (s0 .leaf))
theorem qag_den:qag_W (qag_A)=curS [.agg [(.i .i64),(.i .i64)]] EnR fun vs K Kp A=>denFnA Tryz.prog (tabA []) [1] Tryz.f181 qag_ann vs K (np false Kp) A:=by kernel_rfl
theorem qag_ok (hm:PM):EntryOK Tryz.prog 181 (upE (qag_E qag_A)):=entA hm callingA_nil Tryz.call181 Tryz.func181 (by kernel_rfl) (by kernel_rfl) false qag_den
def qah_ann:AnnA:=(s0 (s1 (s0 (.block (.loop ⟨[0,1,7],[(8,(.c (.i .i64)))],[]⟩ (s0 (s1 (.cond .leaf .leaf) (s1 (.block (s0 (s0 (.cond (s0 .leaf) .leaf)))) .leaf)))))) (s0 .leaf)))
theorem qah_den (f_qag:qag_T):qah_W (qah_G f_qag)=curS [.c .s,.fn 181 [] []] EnR fun vs K Kp A=>denFnA Tryz.prog (tabA [(181,qag_E f_qag)]) [] Tryz.f219 qah_ann vs K (np false Kp) A:=by kernel_rfl
theorem qah_ok (hm:PM):EntryOK Tryz.prog 219 (upE (qah_E qah_A)):=entA hm (callingA_cons (qag_ok hm) callingA_nil) Tryz.call219 Tryz.func219 (by kernel_rfl) (by kernel_rfl) false (qah_den qag_A)
def qai_ann:AnnA:=(s0 (s0 (s1 (s0 (.cond (s0 .leaf) .leaf)) (s1 (s0 (.block (.loop ⟨[0,1],[(5,(.c (.i .i64))),(6,(.c (.i .i64)))],[]⟩ (s1 (s0 (.cond .leaf .leaf)) (.seq (some ⟨[0,1,6],[(5,(.c (.i .i64)))],[]⟩) (.block (s0 (s0 (.cond (s0 .leaf) .leaf)))) .leaf))))) (s0 (s0 .leaf))))))
theorem qai_den (f_qah:qah_T) (f_qag:qag_T):qai_W (qai_G f_qah f_qag)=curS [.c .s,.fn 181 [] []] EnR fun vs K Kp A=>denFnA Tryz.prog (tabA [(219,qah_E f_qah),(181,qag_E f_qag)]) [7] Tryz.f179 qai_ann vs K (np false Kp) A:=by kernel_rfl
theorem qai_ok (hm:PM):EntryOK Tryz.prog 179 (upE (qai_E qai_A)):=entA hm (callingA_cons (qah_ok hm) (callingA_cons (qag_ok hm) callingA_nil)) Tryz.call179 Tryz.func179 (by kernel_rfl) (by kernel_rfl) false (qai_den qah_A qag_A)
theorem qaj_ok (_hm:PM):EntryOK Tryz.prog 182 (upE (qaj_E qaj_A)):=sortRange_ok rfl
def qak_ann:AnnA:=(s0 (s0 (s0 (s0 (s1 (s0 (.block (.loop ⟨[13,14],[(4,(.c .s)),(15,(.c (.i .i64)))],[]⟩ (s0 (s1 (.cond .leaf .leaf) (.seq (some ⟨[13,14,15],[(4,(.c .s))],[]⟩) (.block (s0 (s1 (s0 (.seq (some ⟨[4,6,7,13,14,15],[(33,(.c .b))],[]⟩) (.draw 13) (.cond (s1 (.draw 14) .leaf) .leaf))) .leaf))) .leaf)))))) (s0 .leaf))))))
theorem qak_den (f_qaf:qaf_T) (f_qai:qai_T) (f_qaj:qaj_T):qak_W (qak_G f_qaf f_qai f_qaj)=curS [.c .s] EnR fun vs K Kp A=>denFnA Tryz.prog (tabA [(180,qaf_E f_qaf),(179,qai_E f_qai),(182,qaj_E f_qaj)]) [6] Tryz.f131 qak_ann vs K (np false Kp) A:=by kernel_rfl
theorem qak_ok (hm:PM):EntryOK Tryz.prog 131 (upE (qak_E qak_A)):=entA hm (callingA_cons (qaf_ok hm) (callingA_cons (qai_ok hm) (callingA_cons (qaj_ok hm) callingA_nil))) Tryz.call131 Tryz.func131 (by kernel_rfl) (by kernel_rfl) false (qak_den qaf_A qai_A qaj_A)
def qal_ann:AnnA:=(s0 (s0 (s0 (s1 (s0 (.block (.loop ⟨[6,15,16],[(5,(.c .s)),(17,(.c (.i .i64)))],[]⟩ (s0 (s1 (.cond .leaf .leaf) (.seq (some ⟨[6,15,16,17],[(5,(.c .s))],[]⟩) (.block (s0 (s0 (s1 (s0 (.block (.loop ⟨[6,8,15,16,17,23,24],[(5,(.c .s)),(9,(.c (.i .i64))),(25,(.c (.i .i64)))],[]⟩ (s0 (s1 (.cond .leaf .leaf) (.seq (some ⟨[6,8,15,16,17,23,24,25],[(5,(.c .s)),(9,(.c (.i .i64)))],[]⟩) (.block (s0 (s1 (s0 (.cond .leaf .leaf)) (.seq (some ⟨[6,8,9,11,15,16,17,23,24,25],[(5,(.c .s))],[]⟩) (s0 (.cond .leaf .leaf)) .leaf)))) .leaf)))))) (s0 (.cond .leaf .leaf)))))) .leaf)))))) (s0 .leaf)))))
theorem qal_den (f_qak:qak_T):qal_W (qal_G f_qak)=curS [.c .s,.c .s] EnR fun vs K Kp A=>denFnA Tryz.prog (tabA [(131,qak_E f_qak)]) [8,11] Tryz.f84 qal_ann vs K (np false Kp) A:=by kernel_rfl
theorem qal_ok (hm:PM):EntryOK Tryz.prog 84 (upE (qal_E qal_A)):=entA hm (callingA_cons (qak_ok hm) callingA_nil) Tryz.call84 Tryz.func84 (by kernel_rfl) (by kernel_rfl) false (qal_den qak_A)
def qam_ann:AnnA:=(s0 (.seq (some ⟨[0,1,5],[],[]⟩) (s0 (.cond (s0 .leaf) .leaf)) (s0 (s1 (s0 (.cond (s0 .leaf) .leaf)) (s0 (s0 (s1 (s0 (.block (.loop ⟨[1,50,51],[(10,(.c .s)),(11,(.c .s)),(52,(.c (.i .i64)))],[]⟩ (s0 (s1 (.cond .leaf .leaf) (.seq (some ⟨[1,50,51,52],[(10,(.c .s)),(11,(.c .s))],[]⟩) (.block (s0 (s0 (s0 (.cond .leaf .leaf))))) .leaf)))))) (s0 (s1 (s0 (.cond (s0 .leaf) .leaf)) (s0 .leaf))))))))))
theorem qam_den (f_qad:qad_T) (f_qae:qae_T) (f_qal:qal_T):qam_W (qam_G f_qad f_qae f_qal)=curS [.c .s,.c (.i .i64),.agg [(.i .i64),(.i .i64)]] EnR fun vs K Kp A=>denFnA Tryz.prog (tabA [(82,qad_E f_qad),(83,qae_E f_qae),(84,qal_E f_qal)]) [5,13,14] Tryz.f44 qam_ann vs K (np false Kp) A:=by kernel_rfl
theorem qam_ok (hm:PM):EntryOK Tryz.prog 44 (upE (qam_E qam_A)):=entA hm (callingA_cons (qad_ok hm) (callingA_cons (qae_ok hm) (callingA_cons (qal_ok hm) callingA_nil))) Tryz.call44 Tryz.func44 (by kernel_rfl) (by kernel_rfl) false (qam_den qad_A qae_A qal_A)
def qan_ann:AnnA:=.leaf
theorem qan_den:qan_W (qan_A)=curS [.c .p] EnR fun vs K Kp A=>denFnA Tryz.prog (tabA []) [] Tryz.f85 qan_ann vs K (np false Kp) A:=by kernel_rfl
theorem qan_ok (hm:PM):EntryOK Tryz.prog 85 (upE (qan_E qan_A)):=entA hm callingA_nil Tryz.call85 Tryz.func85 (by kernel_rfl) (by kernel_rfl) false qan_den
def qao_ann:AnnA:=(s0 (s1 (s0 (.cond (s0 .leaf) .leaf)) (s0 (s0 (s0 .leaf)))))
theorem qao_den (f_qan:qan_T):qao_W (qao_G f_qan)=curS [.c (.i .i64)] EnR fun vs K Kp A=>denFnA Tryz.prog (tabA [(85,qan_E f_qan)]) [] Tryz.f45 qao_ann vs K (np false Kp) A:=by kernel_rfl
theorem qao_ok (hm:PM):EntryOK Tryz.prog 45 (upE (qao_E qao_A)):=entA hm (callingA_cons (qan_ok hm) callingA_nil) Tryz.call45 Tryz.func45 (by kernel_rfl) (by kernel_rfl) false (qao_den qan_A)
def qap_ann:AnnA:=(s0 (s1 (s0 (.cond (s0 .leaf) .leaf)) (.seq (some ⟨[0,1],[],[]⟩) (s0 (.cond (s0 .leaf) .leaf)) (s1 (s0 (.block (.loop ⟨[0,1,17,18],[(19,(.c (.i .i64)))],[]⟩ (s0 (s1 (.cond .leaf .leaf) (s1 (.block (s0 (s0 (.cond (s0 .leaf) .leaf)))) .leaf)))))) (s0 .leaf)))))
theorem qap_den:qap_W (qap_A)=curS [.c (.i .i64),.c .s] EnR fun vs K Kp A=>denFnA Tryz.prog (tabA []) [7] Tryz.f46 qap_ann vs K (np false Kp) A:=by kernel_rfl
theorem qap_ok (hm:PM):EntryOK Tryz.prog 46 (upE (qap_E qap_A)):=entA hm callingA_nil Tryz.call46 Tryz.func46 (by kernel_rfl) (by kernel_rfl) false qap_den
def qaq_ann:AnnA:=(s1 (.block (.loop ⟨[0],[(1,(.c (.i .i64))),(2,(.c (.i .i64)))],[]⟩ (s1 (s1 (.draw 15) (.cond .leaf .leaf)) (.block (s1 (.draw 10) (s0 .leaf)))))) .leaf)
theorem qaq_den:qaq_W (qaq_A)=curS [.c .p,.c (.i .i64),.c (.i .i64)] EnR fun vs K Kp A=>denFnA Tryz.prog (tabA []) [] Tryz.f86 qaq_ann vs K (np false Kp) A:=by kernel_rfl
theorem qaq_ok (hm:PM):EntryOK Tryz.prog 86 (upE (qaq_E qaq_A)):=entA hm callingA_nil Tryz.call86 Tryz.func86 (by kernel_rfl) (by kernel_rfl) false qaq_den
def qar_ann:AnnA:=(s0 (s1 (s0 (.cond (s0 .leaf) .leaf)) (s0 (s1 (s0 (.block (.loop ⟨[0,16,17],[(4,(.c (.i .i64))),(18,(.c (.i .i64)))],[]⟩ (s0 (s1 (.cond .leaf .leaf) (s1 (.block (s0 (s1 (s0 (.cond (s0 .leaf) .leaf)) .leaf))) .leaf)))))) (s0 (s1 (s0 (.block (.loop ⟨[0,7],[(44,(.c (.i .i64)))],[]⟩ (s0 (s1 (.cond .leaf .leaf) (s1 (.block (s0 .leaf)) .leaf)))))) (s1 (s0 (.block (.loop ⟨[7,54,55],[(56,(.c (.i .i64)))],[]⟩ (s0 (s1 (.cond .leaf .leaf) (s1 (.block (s0 (s1 (s0 (.block (.loop ⟨[7,10,54,55,56],[(11,(.c (.i .i64)))],[]⟩ (s1 (s0 (.cond .leaf .leaf)) (.block (s0 (s1 (.block (.loop ⟨[7,10,11,54,55,56],[(12,(.c (.i .i64)))],[]⟩ (s1 (s1 (.draw 18) (.cond .leaf .leaf)) (.block .leaf)))) (s0 .leaf)))))))) (.draw 12)))) .leaf)))))) (s0 .leaf))))))))
theorem qar_den (f_qaq:qaq_T):qar_W (qar_G f_qaq)=curS [.c .s] EnR fun vs K Kp A=>denFnA Tryz.prog (tabA [(86,qaq_E f_qaq)]) [6,10] Tryz.f47 qar_ann vs K (np false Kp) A:=by kernel_rfl
theorem qar_ok (hm:PM):EntryOK Tryz.prog 47 (upE (qar_E qar_A)):=entA hm (callingA_cons (qaq_ok hm) callingA_nil) Tryz.call47 Tryz.func47 (by kernel_rfl) (by kernel_rfl) false (qar_den qaq_A)
def qas_ann:AnnA:=(s0 (s0 .leaf))
theorem qas_den:qas_W (qas_A)=curS [.c .p] EnR fun vs K Kp A=>denFnA Tryz.prog (tabA []) [] Tryz.f15 qas_ann vs K (np false Kp) A:=by kernel_rfl
theorem qas_ok (hm:PM):EntryOK Tryz.prog 15 (upE (qas_E qas_A)):=entA hm callingA_nil Tryz.call15 Tryz.func15 (by kernel_rfl) (by kernel_rfl) false qas_den
def qat_ann:AnnA:=(s0 (s1 (s0 (.cond (s0 .leaf) .leaf)) (s0 .leaf)))
theorem qat_den:qat_W (qat_A)=curS [.c (.i .i64)] EnR fun vs K Kp A=>denFnA Tryz.prog (tabA []) [] Tryz.f48 qat_ann vs K (np false Kp) A:=by kernel_rfl
theorem qat_ok (hm:PM):EntryOK Tryz.prog 48 (upE (qat_E qat_A)):=entA hm callingA_nil Tryz.call48 Tryz.func48 (by kernel_rfl) (by kernel_rfl) false qat_den
def qau_ann:AnnA:=(s0 (s1 (.draw 14) .leaf))
theorem qau_den:qau_W (qau_A)=curS [.c .p,.c (.i .i64)] EnR fun vs K Kp A=>denFnA Tryz.prog (tabA []) [4] Tryz.f43 qau_ann vs K (np false Kp) A:=by kernel_rfl
theorem qau_ok (hm:PM):EntryOK Tryz.prog 43 (upE (qau_E qau_A)):=entA hm callingA_nil Tryz.call43 Tryz.func43 (by kernel_rfl) (by kernel_rfl) false qau_den
def qav_ann:AnnA:=(s0 (s1 (s0 (.cond (s0 .leaf) .leaf)) (s0 .leaf)))
theorem qav_den:qav_W (qav_A)=curS [.c .p,.c (.i .i64)] EnR fun vs K Kp A=>denFnA Tryz.prog (tabA []) [] Tryz.f54 qav_ann vs K (np false Kp) A:=by kernel_rfl
theorem qav_ok (hm:PM):EntryOK Tryz.prog 54 (upE (qav_E qav_A)):=entA hm callingA_nil Tryz.call54 Tryz.func54 (by kernel_rfl) (by kernel_rfl) false qav_den
def qaw_ann:AnnA:=(s0 (s0 (s1 (s0 (.cond (s0 .leaf) .leaf)) (s1 (.draw 15) .leaf))))
theorem qaw_den (f_qav:qav_T):qaw_W (qaw_G f_qav)=curS [.c .p,.c (.i .i64)] EnR fun vs K Kp A=>denFnA Tryz.prog (tabA [(54,qav_E f_qav)]) [] Tryz.f24 qaw_ann vs K (np false Kp) A:=by kernel_rfl
theorem qaw_ok (hm:PM):EntryOK Tryz.prog 24 (upE (qaw_E qaw_A)):=entA hm (callingA_cons (qav_ok hm) callingA_nil) Tryz.call24 Tryz.func24 (by kernel_rfl) (by kernel_rfl) false (qaw_den qav_A)
def qax_ann:AnnA:=(s0 (s0 (s1 (.block (s0 (.cond (s0 .leaf) (s0 (.cond (s0 .leaf) (s0 (.cond (s0 .leaf) .leaf))))))) (s0 (s0 .leaf)))))
theorem qax_den (f_qav:qav_T) (f_qaw:qaw_T):qax_W (qax_G f_qav f_qaw)=curS [.c .p,.c (.i .i64),.c (.i .i64)] EnR fun vs K Kp A=>denFnA Tryz.prog (tabA [(54,qav_E f_qav),(24,qaw_E f_qaw)]) [] Tryz.f132 qax_ann vs K (np false Kp) A:=by kernel_rfl
theorem qax_ok (hm:PM):EntryOK Tryz.prog 132 (upE (qax_E qax_A)):=entA hm (callingA_cons (qav_ok hm) (callingA_cons (qaw_ok hm) callingA_nil)) Tryz.call132 Tryz.func132 (by kernel_rfl) (by kernel_rfl) false (qax_den qav_A qaw_A)
def qay_ann:AnnA:=(s0 (s0 .leaf))
theorem qay_den:qay_W (qay_A)=curS [.c .m] EnR fun vs K Kp A=>denFnA Tryz.prog (tabA []) [] Tryz.f187 qay_ann vs K (np false Kp) A:=by kernel_rfl
theorem qay_ok (hm:PM):EntryOK Tryz.prog 187 (upE (qay_E qay_A)):=entA hm callingA_nil Tryz.call187 Tryz.func187 (by kernel_rfl) (by kernel_rfl) false qay_den
shelf_lay_g SlLaysZI.n8 Ggz 8 at Tryz 186 as slices_Collect_int_l1
shelf_lay_g SlLaysZI.n7 Ggz 7 at Tryz 187 as slices_Collect_int_l2
theorem qaz_ok (_hm:PM):EntryOK Tryz.prog 186 (upE (qaz_E qaz_A)):=
 collect_ok (ρ:=slices_Collect_int_l1_ren) (ρ':=slices_Collect_int_l2_ren) slices_Collect_int_l1 { slices_Collect_int_l2 with } rfl rfl rfl rfl
def qba_ann:AnnA:=(s0 (.seq (some ⟨[0],[],[]⟩) (s0 (.cond .leaf .leaf)) (s0 (s1 (s0 (.block (.loop ⟨[0],[(3,(.c (.i .i64))),(4,(.c (.i .i64)))],[]⟩ (s1 (s0 (.cond .leaf .leaf)) (s1 (.block .leaf) .leaf))))) (s0 .leaf)))))
theorem qba_den:qba_W (qba_A)=curS [.c .s] EnR fun vs K Kp A=>denFnA Tryz.prog (tabA []) [] Tryz.f185 qba_ann vs K (np false Kp) A:=by kernel_rfl
theorem qba_ok (hm:PM):EntryOK Tryz.prog 185 (upE (qba_E qba_A)):=entA hm callingA_nil Tryz.call185 Tryz.func185 (by kernel_rfl) (by kernel_rfl) false qba_den
def qbb_ann:AnnA:=(s0 (.seq (some ⟨[0,1],[],[]⟩) (s0 (.cond (s0 .leaf) .leaf)) (s0 (.seq (some ⟨[0,1],[(6,(.c (.i .i64)))],[]⟩) (.block (.loop ⟨[0,1],[(6,(.c (.i .i64)))],[]⟩ (s1 (s0 (.cond .leaf .leaf)) (.block .leaf)))) (s1 (s0 (.cond (s0 .leaf) .leaf)) (s0 (s0 (s1 (.block (.loop ⟨[0,1,7],[(6,(.c (.i .i64)))],[]⟩ (s1 (s0 (.cond .leaf .leaf)) (.block (s0 (.draw 10)))))) (s0 (s1 (.draw 9) (s0 .leaf)))))))))))
theorem qbb_den (f_qay:qay_T) (f_qaz:qaz_T) (f_qba:qba_T):qbb_W (qbb_G f_qay f_qaz f_qba)=curS [.c .p,.c (.i .i64)] EnR fun vs K Kp A=>denFnA Tryz.prog (tabA [(187,qay_E f_qay),(186,qaz_E f_qaz),(185,qba_E f_qba)]) [] Tryz.f133 qbb_ann vs K (np false Kp) A:=by kernel_rfl
theorem qbb_ok (hm:PM):EntryOK Tryz.prog 133 (upE (qbb_E qbb_A)):=entA hm (callingA_cons (qay_ok hm) (callingA_cons (qaz_ok hm) (callingA_cons (qba_ok hm) callingA_nil))) Tryz.call133 Tryz.func133 (by kernel_rfl) (by kernel_rfl) false (qbb_den qay_A qaz_A qba_A)
def qbc_ann:AnnA:=(s0 (s1 (s0 (.cond (s0 .leaf) .leaf)) (s1 (s0 (.block (.loop ⟨[1,20,21],[(22,(.c (.i .i64)))],[]⟩ (s0 (s1 (.cond .leaf .leaf) (s1 (.block (s0 (s0 (.cond (s0 .leaf) .leaf)))) .leaf)))))) (s0 .leaf))))
theorem qbc_den:qbc_W (qbc_A)=curS [.c .p,.c (.i .i64)] EnR fun vs K Kp A=>denFnA Tryz.prog (tabA []) [6] Tryz.f188 qbc_ann vs K (np false Kp) A:=by kernel_rfl
theorem qbc_ok (hm:PM):EntryOK Tryz.prog 188 (upE (qbc_E qbc_A)):=entA hm callingA_nil Tryz.call188 Tryz.func188 (by kernel_rfl) (by kernel_rfl) false qbc_den
def qbd_ann:AnnA:=(s0 (s1 (s0 (.cond (s0 .leaf) .leaf)) (s0 (s0 .leaf))))
theorem qbd_den (f_qbc:qbc_T):qbd_W (qbd_G f_qbc)=curS [.c .p,.c (.i .i64)] EnR fun vs K Kp A=>denFnA Tryz.prog (tabA [(188,qbc_E f_qbc)]) [] Tryz.f134 qbd_ann vs K (np false Kp) A:=by kernel_rfl
theorem qbd_ok (hm:PM):EntryOK Tryz.prog 134 (upE (qbd_E qbd_A)):=entA hm (callingA_cons (qbc_ok hm) callingA_nil) Tryz.call134 Tryz.func134 (by kernel_rfl) (by kernel_rfl) false (qbd_den qbc_A)
def qbe_ann:AnnA:=(s0 (s0 (s1 (s0 (.cond (s0 .leaf) .leaf)) (s0 (s1 (.draw 9) (s0 (s0 .leaf)))))))
theorem qbe_den (f_qaq:qaq_T):qbe_W (qbe_G f_qaq)=curS [.c .p,.c (.i .i64)] EnR fun vs K Kp A=>denFnA Tryz.prog (tabA [(86,qaq_E f_qaq)]) [] Tryz.f135 qbe_ann vs K (np false Kp) A:=by kernel_rfl
theorem qbe_ok (hm:PM):EntryOK Tryz.prog 135 (upE (qbe_E qbe_A)):=entA hm (callingA_cons (qaq_ok hm) callingA_nil) Tryz.call135 Tryz.func135 (by kernel_rfl) (by kernel_rfl) false (qbe_den qaq_A)
def qbf_ann:AnnA:=(s0 (s0 (s1 (.block (s0 (.cond (s0 .leaf) (s0 (.cond (s0 .leaf) .leaf))))) (s0 (s0 .leaf)))))
theorem qbf_den (f_qav:qav_T):qbf_W (qbf_G f_qav)=curS [.c .p,.c (.i .i64),.c (.i .i64)] EnR fun vs K Kp A=>denFnA Tryz.prog (tabA [(54,qav_E f_qav)]) [] Tryz.f136 qbf_ann vs K (np false Kp) A:=by kernel_rfl
theorem qbf_ok (hm:PM):EntryOK Tryz.prog 136 (upE (qbf_E qbf_A)):=entA hm (callingA_cons (qav_ok hm) callingA_nil) Tryz.call136 Tryz.func136 (by kernel_rfl) (by kernel_rfl) false (qbf_den qav_A)
def qbg_ann:AnnA:=(s0 (s1 (s0 (s0 (.cond (s0 .leaf) .leaf))) (s0 (.seq (some ⟨[1],[(6,(.c (.i .i64)))],[]⟩) (s0 (.cond (s1 (s0 (s0 (.cond (s0 .leaf) .leaf))) .leaf) .leaf)) (s0 (s0 .leaf))))))
theorem qbg_den (f_qax:qax_T) (f_qbb:qbb_T) (f_qbd:qbd_T) (f_qbe:qbe_T) (f_qbf:qbf_T):qbg_W (qbg_G f_qax f_qbb f_qbd f_qbe f_qbf)=curS [.agg [.p,.p,.p,(.i .i64)]] EnR fun vs K Kp A=>denFnA Tryz.prog (tabA [(132,qax_E f_qax),(133,qbb_E f_qbb),(134,qbd_E f_qbd),(135,qbe_E f_qbe),(136,qbf_E f_qbf)]) [1] Tryz.f87 qbg_ann vs K (np false Kp) A:=by kernel_rfl
theorem qbg_ok (hm:PM):EntryOK Tryz.prog 87 (upE (qbg_E qbg_A)):=entA hm (callingA_cons (qax_ok hm) (callingA_cons (qbb_ok hm) (callingA_cons (qbd_ok hm) (callingA_cons (qbe_ok hm) (callingA_cons (qbf_ok hm) callingA_nil))))) Tryz.call87 Tryz.func87 (by kernel_rfl) (by kernel_rfl) false (qbg_den qax_A qbb_A qbd_A qbe_A qbf_A)
def qbh_ann:AnnA:=(s0 (s0 .leaf))
theorem qbh_den:qbh_W (qbh_A)=curS [.c .p] EnR fun vs K Kp A=>denFnA Tryz.prog (tabA []) [] Tryz.f88 qbh_ann vs K (np false Kp) A:=by kernel_rfl
theorem qbh_ok (hm:PM):EntryOK Tryz.prog 88 (upE (qbh_E qbh_A)):=entA hm callingA_nil Tryz.call88 Tryz.func88 (by kernel_rfl) (by kernel_rfl) false qbh_den
def qbi_ann:AnnA:=(s0 (s0 .leaf))
theorem qbi_den (f_qbe:qbe_T) (f_qbf:qbf_T):qbi_W (qbi_G f_qbe f_qbf)=curS [.agg [.p,.p,.p,(.i .i64)],.c (.i .i64)] EnR fun vs K Kp A=>denFnA Tryz.prog (tabA [(135,qbe_E f_qbe),(136,qbf_E f_qbf)]) [2] Tryz.f89 qbi_ann vs K (np false Kp) A:=by kernel_rfl
theorem qbi_ok (hm:PM):EntryOK Tryz.prog 89 (upE (qbi_E qbi_A)):=entA hm (callingA_cons (qbe_ok hm) (callingA_cons (qbf_ok hm) callingA_nil)) Tryz.call89 Tryz.func89 (by kernel_rfl) (by kernel_rfl) false (qbi_den qbe_A qbf_A)
def qbj_ann:AnnA:=(s0 (s1 (.draw 25) .leaf))
theorem qbj_den:qbj_W (qbj_A)=curS [.c .p] EnR fun vs K Kp A=>denFnA Tryz.prog (tabA []) [2] Tryz.f176 qbj_ann vs K (np false Kp) A:=by kernel_rfl
theorem qbj_ok (hm:PM):EntryOK Tryz.prog 176 (upE (qbj_E qbj_A)):=entA hm callingA_nil Tryz.call176 Tryz.func176 (by kernel_rfl) (by kernel_rfl) false qbj_den
def qbk_ann:AnnA:=(s0 (s0 .leaf))
theorem qbk_den:qbk_W (qbk_A)=curS [] EnR fun vs K Kp A=>denFnA Tryz.prog (tabA []) [0] Tryz.f177 qbk_ann vs K (np false Kp) A:=by kernel_rfl
theorem qbk_ok (hm:PM):EntryOK Tryz.prog 177 (upE (qbk_E qbk_A)):=entA hm callingA_nil Tryz.call177 Tryz.func177 (by kernel_rfl) (by kernel_rfl) false qbk_den
def qbl_ann:AnnA:=(s0 (.seq (some ⟨[1],[],[]⟩) (s0 (.cond (s0 .leaf) .leaf)) (s0 (s1 (s0 (.block (.loop ⟨[19],[(4,(.c (.i .u64))),(20,(.c (.i .i64)))],[]⟩ (s0 (s1 (.cond .leaf .leaf) (.seq (some ⟨[19,20],[(4,(.c (.i .u64)))],[]⟩) (.block (s0 (s0 (.cond .leaf .leaf)))) .leaf)))))) (s0 .leaf)))))
theorem qbl_den (f_qbj:qbj_T) (f_qbk:qbk_T):qbl_W (qbl_G f_qbj f_qbk)=curS [.agg [.b,.b,.b,.b,.b,.b,.b,.b,(.i .i64)]] EnR fun vs K Kp A=>denFnA Tryz.prog (tabA [(176,qbj_E f_qbj),(177,qbk_E f_qbk)]) [] Tryz.f137 qbl_ann vs K (np false Kp) A:=by kernel_rfl
theorem qbl_ok (hm:PM):EntryOK Tryz.prog 137 (upE (qbl_E qbl_A)):=entA hm (callingA_cons (qbj_ok hm) (callingA_cons (qbk_ok hm) callingA_nil)) Tryz.call137 Tryz.func137 (by kernel_rfl) (by kernel_rfl) false (qbl_den qbj_A qbk_A)
def qbm_ann:AnnA:=(s0 (s0 .leaf))
theorem qbm_den:qbm_W (qbm_A)=curS [.c (.i .i64),.c (.i .i64)] EnR fun vs K Kp A=>denFnA Tryz.prog (tabA []) [] Tryz.f126 qbm_ann vs K (np false Kp) A:=by kernel_rfl
theorem qbm_ok (hm:PM):EntryOK Tryz.prog 126 (upE (qbm_E qbm_A)):=entA hm callingA_nil Tryz.call126 Tryz.func126 (by kernel_rfl) (by kernel_rfl) false qbm_den
def qbn_ann:AnnA:=(s0 (s1 (s0 (.block (.seq (some ⟨[0,1,2],[(9,(.c .b))],[]⟩) (s0 (.cond .leaf (s0 (.cond .leaf (s0 (.cond .leaf .leaf)))))) (.cond .leaf (s0 .leaf))))) (s0 (s1 (s0 (.cond (s0 .leaf) .leaf)) (s0 .leaf)))))
theorem qbn_den (f_qbc:qbc_T):qbn_W (qbn_G f_qbc)=curS [.c .p,.c (.i .u64),.c (.i .i64)] EnR fun vs K Kp A=>denFnA Tryz.prog (tabA [(188,qbc_E f_qbc)]) [] Tryz.f147 qbn_ann vs K (np false Kp) A:=by kernel_rfl
theorem qbn_ok (hm:PM):EntryOK Tryz.prog 147 (upE (qbn_E qbn_A)):=entA hm (callingA_cons (qbc_ok hm) callingA_nil) Tryz.call147 Tryz.func147 (by kernel_rfl) (by kernel_rfl) false (qbn_den qbc_A)
def qbo_ann:AnnA:=(s0 (s0 (.seq (some ⟨[],[(5,(.c .p))],[]⟩) (s0 (.cond (s0 .leaf) .leaf)) (s0 .leaf))))
theorem qbo_den:qbo_W (qbo_A)=curS [.c .p,.c (.i .i64)] EnR fun vs K Kp A=>denFnA Tryz.prog (tabA []) [] Tryz.f148 qbo_ann vs K (np false Kp) A:=by kernel_rfl
theorem qbo_ok (hm:PM):EntryOK Tryz.prog 148 (upE (qbo_E qbo_A)):=entA hm callingA_nil Tryz.call148 Tryz.func148 (by kernel_rfl) (by kernel_rfl) false qbo_den
def qbp_ann:AnnA:=(s0 (s1 (s0 (s0 (.cond (s0 .leaf) .leaf))) (s1 (s0 (.block (.loop ⟨[0,1,3,19],[(20,(.c (.i .i64)))],[]⟩ (s0 (s1 (.cond .leaf .leaf) (s1 (.block (s0 (s0 (.drawS [0,1,2,3,5,6,7,8,9,10,11,4,12,13,14] [])))) .leaf)))))) (s0 .leaf))))
theorem qbp_den (f_qbn:qbn_T) (f_qbo:qbo_T):qbp_W (qbp_G f_qbn f_qbo)=curS [.c .p,.c (.i .u64),.c (.i .i64),.c (.i .u64)] EnR fun vs K Kp A=>denFnA Tryz.prog (tabA [(147,qbn_E f_qbn),(148,qbo_E f_qbo)]) [] Tryz.f107 qbp_ann vs K (np false Kp) A:=by kernel_rfl
theorem qbp_ok (hm:PM):EntryOK Tryz.prog 107 (upE (qbp_E qbp_A)):=entA hm (callingA_cons (qbn_ok hm) (callingA_cons (qbo_ok hm) callingA_nil)) Tryz.call107 Tryz.func107 (by kernel_rfl) (by kernel_rfl) false (qbp_den qbn_A qbo_A)
def qbq_ann:AnnA:=(s0 (s0 (.drawS [0,2,3,5,1,4,6] [])))
theorem qbq_den (f_qbl:qbl_T) (f_qbm:qbm_T) (f_qbp:qbp_T):qbq_W (qbq_G f_qbl f_qbm f_qbp)=curS [.agg [.p,.p,.p,(.i .i64)],.c (.i .i64),.c (.i .i64),.agg [.b,.b,.b,.b,.b,.b,.b,.b,(.i .i64)]] EnR fun vs K Kp A=>denFnA Tryz.prog (tabA [(137,qbl_E f_qbl),(126,qbm_E f_qbm),(107,qbp_E f_qbp)]) [4,7] Tryz.f90 qbq_ann vs K (np false Kp) A:=by kernel_rfl
theorem qbq_ok (hm:PM):EntryOK Tryz.prog 90 (upE (qbq_E qbq_A)):=entA hm (callingA_cons (qbl_ok hm) (callingA_cons (qbm_ok hm) (callingA_cons (qbp_ok hm) callingA_nil))) Tryz.call90 Tryz.func90 (by kernel_rfl) (by kernel_rfl) false (qbq_den qbl_A qbm_A qbp_A)
def qbr_ann:AnnA:=(s0 (s0 (s1 (s0 (.cond (s0 .leaf) .leaf)) (s0 (s1 (s0 (.block (.loop ⟨[1,4],[(6,(.c .s)),(7,(.c (.i .i64)))],[]⟩ (s1 (s0 (.cond .leaf .leaf)) (s1 (.block (s0 (s1 (s0 (.cond (s1 (s0 (.block (.loop ⟨[1,9,37,38],[(39,(.c (.i .i64)))],[]⟩ (s0 (s1 (.cond .leaf .leaf) (s1 (.block (s0 .leaf)) .leaf)))))) (s0 .leaf)) .leaf)) (s0 (s0 (s0 (.block (.loop ⟨[1,4,6,7,8],[(12,(.c (.i .i64)))],[]⟩ (s1 (s0 (.cond .leaf .leaf)) (s1 (.block .leaf) .leaf)))))))))) .leaf))))) (s0 .leaf))))))
theorem qbr_den (f_qbg:qbg_T) (f_qbh:qbh_T) (f_qbi:qbi_T) (f_qbq:qbq_T):qbr_W (qbr_G f_qbg f_qbh f_qbi f_qbq)=curS [.agg [.p,.p,.p,(.i .i64)]] EnR fun vs K Kp A=>denFnA Tryz.prog (tabA [(87,qbg_E f_qbg),(88,qbh_E f_qbh),(89,qbi_E f_qbi),(90,qbq_E f_qbq)]) [1] Tryz.f49 qbr_ann vs K (np false Kp) A:=by kernel_rfl
theorem qbr_ok (hm:PM):EntryOK Tryz.prog 49 (upE (qbr_E qbr_A)):=entA hm (callingA_cons (qbg_ok hm) (callingA_cons (qbh_ok hm) (callingA_cons (qbi_ok hm) (callingA_cons (qbq_ok hm) callingA_nil)))) Tryz.call49 Tryz.func49 (by kernel_rfl) (by kernel_rfl) false (qbr_den qbg_A qbh_A qbi_A qbq_A)
def qbs_ann:AnnA:=(s0 (s0 (s1 (s0 (.cond (s0 .leaf) .leaf)) (s0 (s1 (s0 (.cond (s0 .leaf) .leaf)) (s0 (s0 (s1 (s0 (s0 (.cond (s0 .leaf) .leaf))) (s0 (s1 (s0 (s0 (.cond (s0 .leaf) .leaf))) (s0 .leaf)))))))))))
theorem qbs_den (f_qam:qam_T) (f_qao:qao_T) (f_qap:qap_T) (f_qar:qar_T) (f_qas:qas_T) (f_qat:qat_T) (f_qau:qau_T) (f_qbr:qbr_T):qbs_W (qbs_G f_qam f_qao f_qap f_qar f_qas f_qat f_qau f_qbr)=curS [.agg [(.i .i64),(.i .i64),(.i .i64),(.i .i64),.s]] EnR fun vs K Kp A=>denFnA Tryz.prog (tabA [(44,qam_E f_qam),(45,qao_E f_qao),(46,qap_E f_qap),(47,qar_E f_qar),(15,qas_E f_qas),(48,qat_E f_qat),(43,qau_E f_qau),(49,qbr_E f_qbr)]) [1] Tryz.f20 qbs_ann vs K (np false Kp) A:=by kernel_rfl
theorem qbs_ok (hm:PM):EntryOK Tryz.prog 20 (upE (qbs_E qbs_A)):=entA hm (callingA_cons (qam_ok hm) (callingA_cons (qao_ok hm) (callingA_cons (qap_ok hm) (callingA_cons (qar_ok hm) (callingA_cons (qas_ok hm) (callingA_cons (qat_ok hm) (callingA_cons (qau_ok hm) (callingA_cons (qbr_ok hm) callingA_nil)))))))) Tryz.call20 Tryz.func20 (by kernel_rfl) (by kernel_rfl) false (qbs_den qam_A qao_A qap_A qar_A qas_A qat_A qau_A qbr_A)
def qbt_ann:AnnA:=(s0 (s1 (s0 (.cond (s0 .leaf) .leaf)) (s0 .leaf)))
theorem qbt_den:qbt_W (qbt_A)=curS [.c (.i .i64)] EnR fun vs K Kp A=>denFnA Tryz.prog (tabA []) [] Tryz.f21 qbt_ann vs K (np false Kp) A:=by kernel_rfl
theorem qbt_ok (hm:PM):EntryOK Tryz.prog 21 (upE (qbt_E qbt_A)):=entA hm callingA_nil Tryz.call21 Tryz.func21 (by kernel_rfl) (by kernel_rfl) false qbt_den
def qbu_ann:AnnA:=(s0 (s0 .leaf))
theorem qbu_den:qbu_W (qbu_A)=curS [.c .p,.c .s] EnR fun vs K Kp A=>denFnA Tryz.prog (tabA []) [] Tryz.f22 qbu_ann vs K (np false Kp) A:=by kernel_rfl
theorem qbu_ok (hm:PM):EntryOK Tryz.prog 22 (upE (qbu_E qbu_A)):=entA hm callingA_nil Tryz.call22 Tryz.func22 (by kernel_rfl) (by kernel_rfl) false qbu_den
def qbv_ann:AnnA:=(s0 (s0 .leaf))
theorem qbv_den:qbv_W (qbv_A)=curS [.agg [(.i .i64),(.i .i64),(.i .i64),(.i .i64),.b]] EnR fun vs K Kp A=>denFnA Tryz.prog (tabA []) [1] Tryz.f92 qbv_ann vs K (np false Kp) A:=by kernel_rfl
theorem qbv_ok (hm:PM):EntryOK Tryz.prog 92 (upE (qbv_E qbv_A)):=entA hm callingA_nil Tryz.call92 Tryz.func92 (by kernel_rfl) (by kernel_rfl) false qbv_den
def qbw_ann:AnnA:=(s0 (s1 (s0 (.block (.loop ⟨[0,1,7],[(8,(.c (.i .i64)))],[]⟩ (s0 (s1 (.cond .leaf .leaf) (s1 (.block (s0 (s0 (.cond (s0 .leaf) .leaf)))) .leaf)))))) (s0 .leaf)))
theorem qbw_den (f_qbv:qbv_T):qbw_W (qbw_G f_qbv)=curS [.c .s,.fn 92 [] []] EnR fun vs K Kp A=>denFnA Tryz.prog (tabA [(92,qbv_E f_qbv)]) [] Tryz.f91 qbw_ann vs K (np false Kp) A:=by kernel_rfl
theorem qbw_ok (hm:PM):EntryOK Tryz.prog 91 (upE (qbw_E qbw_A)):=entA hm (callingA_cons (qbv_ok hm) callingA_nil) Tryz.call91 Tryz.func91 (by kernel_rfl) (by kernel_rfl) false (qbw_den qbv_A)
def qbx_ann:AnnA:=(s0 (s1 (s0 (.cond (s0 .leaf) .leaf)) (s0 .leaf)))
theorem qbx_den:qbx_W (qbx_A)=curS [.c .s] EnR fun vs K Kp A=>denFnA Tryz.prog (tabA []) [] Tryz.f93 qbx_ann vs K (np false Kp) A:=by kernel_rfl
theorem qbx_ok (hm:PM):EntryOK Tryz.prog 93 (upE (qbx_E qbx_A)):=entA hm callingA_nil Tryz.call93 Tryz.func93 (by kernel_rfl) (by kernel_rfl) false qbx_den
def qby_ann:AnnA:=(s0 (s0 (s1 (s0 (.cond (s0 .leaf) .leaf)) (s1 (s0 (.cond (s0 .leaf) .leaf)) (s1 (s0 (.cond (s0 .leaf) .leaf)) (s0 (.seq (some ⟨[0,1,2,8,10],[],[]⟩) (s0 (.cond (s0 .leaf) .leaf)) (s0 (s0 (s1 (s0 (.cond (s1 (.drawS [0,1,2,3,4,6,5,7,8,9,10,11] []) (s0 .leaf)) .leaf)) (s1 (.draw 7) (s0 .leaf))))))))))))
theorem qby_den (f_qav:qav_T) (f_qaw:qaw_T) (f_qbw:qbw_T) (f_qbx:qbx_T):qby_W (qby_G f_qav f_qaw f_qbw f_qbx)=curS [.c .p,.c (.i .i64),.c (.i .i64)] EnR fun vs K Kp A=>denFnA Tryz.prog (tabA [(54,qav_E f_qav),(24,qaw_E f_qaw),(91,qbw_E f_qbw),(93,qbx_E f_qbx)]) [11] Tryz.f50 qby_ann vs K (np false Kp) A:=by kernel_rfl
theorem qby_ok (hm:PM):EntryOK Tryz.prog 50 (upE (qby_E qby_A)):=entA hm (callingA_cons (qav_ok hm) (callingA_cons (qaw_ok hm) (callingA_cons (qbw_ok hm) (callingA_cons (qbx_ok hm) callingA_nil)))) Tryz.call50 Tryz.func50 (by kernel_rfl) (by kernel_rfl) false (qby_den qav_A qaw_A qbw_A qbx_A)
def qbz_ann:AnnA:=(s0 (s0 (s1 (s0 (.cond (s0 .leaf) .leaf)) (s0 (s0 .leaf)))))
theorem qbz_den (f_qbg:qbg_T) (f_qbq:qbq_T):qbz_W (qbz_G f_qbg f_qbq)=curS [.agg [.p,.p,.p,(.i .i64)],.c (.i .i64)] EnR fun vs K Kp A=>denFnA Tryz.prog (tabA [(87,qbg_E f_qbg),(90,qbq_E f_qbq)]) [2] Tryz.f94 qbz_ann vs K (np false Kp) A:=by kernel_rfl
theorem qbz_ok (hm:PM):EntryOK Tryz.prog 94 (upE (qbz_E qbz_A)):=entA hm (callingA_cons (qbg_ok hm) (callingA_cons (qbq_ok hm) callingA_nil)) Tryz.call94 Tryz.func94 (by kernel_rfl) (by kernel_rfl) false (qbz_den qbg_A qbq_A)
def qca_ann:AnnA:=(s0 (s1 (s0 (.cond (s0 .leaf) .leaf)) (s1 (s0 (.cond (s0 .leaf) .leaf)) (s1 (.drawS [0,1,3,4,5,6,2,7,8,9,10,11,12] []) (s1 (s0 (.cond (s0 .leaf) .leaf)) (s0 (s0 .leaf)))))))
theorem qca_den (f_qau:qau_T) (f_qbz:qbz_T):qca_W (qca_G f_qau f_qbz)=curS [.c .p,.c (.i .i64),.c (.i .i64)] EnR fun vs K Kp A=>denFnA Tryz.prog (tabA [(43,qau_E f_qau),(94,qbz_E f_qbz)]) [] Tryz.f51 qca_ann vs K (np false Kp) A:=by kernel_rfl
theorem qca_ok (hm:PM):EntryOK Tryz.prog 51 (upE (qca_E qca_A)):=entA hm (callingA_cons (qau_ok hm) (callingA_cons (qbz_ok hm) callingA_nil)) Tryz.call51 Tryz.func51 (by kernel_rfl) (by kernel_rfl) false (qca_den qau_A qbz_A)
theorem stub_ok {P:Program} {f:FuncId} {l:List PSh} {F:ArS l EnR} (he:∀ (xs:Array Value) (w:World),(callFunc f xs).run P w = .ok (.enter f xs) w) (hF:F=curS l EnR fun _ _ _ _=>False):EntryOK P f (upE (enS l F)):=by
 subst hF
 exact ⟨he,fun args K Kp w ⟨A,L,KA,KpA,s,hh,h1,h2⟩=>(apS_cur hh).elim⟩
theorem qcb_ok (_hm:PM):EntryOK Tryz.prog 52 (upE (qcb_E qcb_A)):=stub_ok Tryz.call52 rfl
def qcc_ann:AnnA:=(s0 (s1 (s0 (.block (.loop ⟨[0,1,7],[(8,(.c (.i .i64)))],[]⟩ (s0 (s1 (.cond .leaf .leaf) (s1 (.block (s0 (s0 (.cond (s0 .leaf) .leaf)))) .leaf)))))) (s0 .leaf)))
theorem qcc_den:qcc_W (qcc_A)=curS [.c .s,.c (.i .i64)] EnR fun vs K Kp A=>denFnA Tryz.prog (tabA []) [] Tryz.f138 qcc_ann vs K (np false Kp) A:=by kernel_rfl
theorem qcc_ok (hm:PM):EntryOK Tryz.prog 138 (upE (qcc_E qcc_A)):=entA hm callingA_nil Tryz.call138 Tryz.func138 (by kernel_rfl) (by kernel_rfl) false qcc_den
def qcd_ann:AnnA:=(s0 (s0 .leaf))
theorem qcd_den (f_qcc:qcc_T):qcd_W (qcd_G f_qcc)=curS [.c .s,.c (.i .i64)] EnR fun vs K Kp A=>denFnA Tryz.prog (tabA [(138,qcc_E f_qcc)]) [] Tryz.f97 qcd_ann vs K (np false Kp) A:=by kernel_rfl
theorem qcd_ok (hm:PM):EntryOK Tryz.prog 97 (upE (qcd_E qcd_A)):=entA hm (callingA_cons (qcc_ok hm) callingA_nil) Tryz.call97 Tryz.func97 (by kernel_rfl) (by kernel_rfl) false (qcd_den qcc_A)
def qce_ann:AnnA:=(s0 (s1 (s0 (.cond (s0 .leaf) .leaf)) (s0 .leaf)))
theorem qce_den:qce_W (qce_A)=curS [.c .s] EnR fun vs K Kp A=>denFnA Tryz.prog (tabA []) [] Tryz.f77 qce_ann vs K (np false Kp) A:=by kernel_rfl
theorem qce_ok (hm:PM):EntryOK Tryz.prog 77 (upE (qce_E qce_A)):=entA hm callingA_nil Tryz.call77 Tryz.func77 (by kernel_rfl) (by kernel_rfl) false qce_den
def qcf_ann:AnnA:=(s0 (s1 (.block (.seq (some ⟨[0,1],[(5,(.c .b))],[]⟩) (s0 (.cond .leaf .leaf)) (.cond (s0 .leaf) (s0 (.cond (s0 .leaf) .leaf))))) (s0 (s0 .leaf))))
theorem qcf_den (f_qcd:qcd_T) (f_qce:qce_T):qcf_W (qcf_G f_qcd f_qce)=curS [.c .p,.c (.i .i64)] EnR fun vs K Kp A=>denFnA Tryz.prog (tabA [(97,qcd_E f_qcd),(77,qce_E f_qce)]) [] Tryz.f53 qcf_ann vs K (np false Kp) A:=by kernel_rfl
theorem qcf_ok (hm:PM):EntryOK Tryz.prog 53 (upE (qcf_E qcf_A)):=entA hm (callingA_cons (qcd_ok hm) (callingA_cons (qce_ok hm) callingA_nil)) Tryz.call53 Tryz.func53 (by kernel_rfl) (by kernel_rfl) false (qcf_den qcd_A qce_A)
def qcg_ann:AnnA:=(s0 (s0 (s1 (.block (.loop ⟨[0,1,2,3],[(10,(.c (.i .i64)))],[]⟩ (s1 (s0 (.cond .leaf .leaf)) (.block .leaf)))) (s1 (s0 (.cond (s0 .leaf) .leaf)) (s0 (s0 (s1 (s0 (.cond (s0 .leaf) .leaf)) (s1 (s1 (.draw 12) (s0 (.cond (s0 (s0 .leaf)) .leaf))) (s1 (.drawS [0,1,2,4,5,6,7,8,10,3,9,11,12,13] []) (s0 (s0 (s0 .leaf))))))))))))
theorem qcg_den (f_qby:qby_T) (f_qca:qca_T) (f_qcb:qcb_T) (f_qcf:qcf_T):qcg_W (qcg_G f_qby f_qca f_qcb f_qcf)=curS [.c .p,.c (.i .i64),.c (.i .i64),.c (.i .i64)] EnR fun vs K Kp A=>denFnA Tryz.prog (tabA [(50,qby_E f_qby),(51,qca_E f_qca),(52,qcb_E f_qcb),(53,qcf_E f_qcf)]) [] Tryz.f23 qcg_ann vs K (np false Kp) A:=by kernel_rfl
theorem qcg_ok (hm:PM):EntryOK Tryz.prog 23 (upE (qcg_E qcg_A)):=entA hm (callingA_cons (qby_ok hm) (callingA_cons (qca_ok hm) (callingA_cons (qcb_ok hm) (callingA_cons (qcf_ok hm) callingA_nil)))) Tryz.call23 Tryz.func23 (by kernel_rfl) (by kernel_rfl) false (qcg_den qby_A qca_A qcb_A qcf_A)
def qch_ann:AnnA:=(s0 (s0 (s1 (s0 (.cond (s0 .leaf) .leaf)) (s0 (s1 (s0 (.cond (s0 .leaf) .leaf)) (s0 (s1 (s0 (s0 (.cond (s0 .leaf) .leaf))) (s0 .leaf))))))))
theorem qch_den (f_qbs:qbs_T) (f_qbt:qbt_T) (f_qbu:qbu_T) (f_qaw:qaw_T) (f_qcg:qcg_T):qch_W (qch_G f_qbs f_qbt f_qbu f_qaw f_qcg)=curS [.agg [(.i .i64),(.i .i64),(.i .i64),(.i .i64),.s,(.i .i64),.s]] EnR fun vs K Kp A=>denFnA Tryz.prog (tabA [(20,qbs_E f_qbs),(21,qbt_E f_qbt),(22,qbu_E f_qbu),(24,qaw_E f_qaw),(23,qcg_E f_qcg)]) [1] Tryz.f9 qch_ann vs K (np false Kp) A:=by kernel_rfl
theorem qch_ok (hm:PM):EntryOK Tryz.prog 9 (upE (qch_E qch_A)):=entA hm (callingA_cons (qbs_ok hm) (callingA_cons (qbt_ok hm) (callingA_cons (qbu_ok hm) (callingA_cons (qaw_ok hm) (callingA_cons (qcg_ok hm) callingA_nil))))) Tryz.call9 Tryz.func9 (by kernel_rfl) (by kernel_rfl) false (qch_den qbs_A qbt_A qbu_A qaw_A qcg_A)
def qci_ann:AnnA:=(s0 (s1 (s0 (.cond (s0 .leaf) .leaf)) (s0 .leaf)))
theorem qci_den:qci_W (qci_A)=curS [.c .p] EnR fun vs K Kp A=>denFnA Tryz.prog (tabA []) [] Tryz.f26 qci_ann vs K (np false Kp) A:=by kernel_rfl
theorem qci_ok (hm:PM):EntryOK Tryz.prog 26 (upE (qci_E qci_A)):=entA hm callingA_nil Tryz.call26 Tryz.func26 (by kernel_rfl) (by kernel_rfl) false qci_den
def qcj_ann:AnnA:=(s0 (s0 (.seq (some ⟨[5],[],[]⟩) (s0 (s0 (.cond .leaf .leaf))) (s0 .leaf))))
theorem qcj_den:qcj_W (qcj_A)=curS [.c .p,.c (.i .u64)] EnR fun vs K Kp A=>denFnA Tryz.prog (tabA []) [] Tryz.f102 qcj_ann vs K (np true Kp) A:=by kernel_rfl
theorem qcj_ok (hm:PM):EntryOK Tryz.prog 102 (upE (qcj_E qcj_A)):=entA hm callingA_nil Tryz.call102 Tryz.func102 (by kernel_rfl) (by kernel_rfl) true qcj_den
def qck_ann:AnnA:=(s0 (s0 .leaf))
theorem qck_den (f_qcj:qcj_T):qck_W (qck_G f_qcj)=curS [.c .p,.c (.i .i64)] EnR fun vs K Kp A=>denFnA Tryz.prog (tabA [(102,qcj_E f_qcj)]) [] Tryz.f98 qck_ann vs K (np true Kp) A:=by kernel_rfl
theorem qck_ok (hm:PM):EntryOK Tryz.prog 98 (upE (qck_E qck_A)):=entA hm (callingA_cons (qcj_ok hm) callingA_nil) Tryz.call98 Tryz.func98 (by kernel_rfl) (by kernel_rfl) true (qck_den qcj_A)
def qcl_ann:AnnA:=(s0 (s0 (s1 (.drawS [0,3,1,2,4,5,6,7,8] []) (.seq (some ⟨[2,3],[],[]⟩) (s0 (.cond .leaf .leaf)) (s0 .leaf)))))
theorem qcl_den (f_qck:qck_T):qcl_W (qcl_G f_qck)=curS [.c .p] EnR fun vs K Kp A=>denFnA Tryz.prog (tabA [(98,qck_E f_qck)]) [2,3] Tryz.f99 qcl_ann vs K (np true Kp) A:=by kernel_rfl
theorem qcl_ok (hm:PM):EntryOK Tryz.prog 99 (upE (qcl_E qcl_A)):=entA hm (callingA_cons (qck_ok hm) callingA_nil) Tryz.call99 Tryz.func99 (by kernel_rfl) (by kernel_rfl) true (qcl_den qck_A)
def qcm_ann:AnnA:=(s0 (s0 (s0 .leaf)))
theorem qcm_den (f_qcj:qcj_T):qcm_W (qcm_G f_qcj)=curS [.c .p] EnR fun vs K Kp A=>denFnA Tryz.prog (tabA [(102,qcj_E f_qcj)]) [2] Tryz.f100 qcm_ann vs K (np true Kp) A:=by kernel_rfl
theorem qcm_ok (hm:PM):EntryOK Tryz.prog 100 (upE (qcm_E qcm_A)):=entA hm (callingA_cons (qcj_ok hm) callingA_nil) Tryz.call100 Tryz.func100 (by kernel_rfl) (by kernel_rfl) true (qcm_den qcj_A)
def qcn_ann:AnnA:=(s0 (s0 (s1 (.draw 31) (.cond .leaf .leaf))))
theorem qcn_den (f_qcj:qcj_T) (f_qck:qck_T):qcn_W (qcn_G f_qcj f_qck)=curS [.c .p,.c .p] EnR fun vs K Kp A=>denFnA Tryz.prog (tabA [(102,qcj_E f_qcj),(98,qck_E f_qck)]) [] Tryz.f101 qcn_ann vs K (np true Kp) A:=by kernel_rfl
theorem qcn_ok (hm:PM):EntryOK Tryz.prog 101 (upE (qcn_E qcn_A)):=entA hm (callingA_cons (qcj_ok hm) (callingA_cons (qck_ok hm) callingA_nil)) Tryz.call101 Tryz.func101 (by kernel_rfl) (by kernel_rfl) true (qcn_den qcj_A qck_A)
def qco_ann:AnnA:=(s0 (s0 (s0 .leaf)))
theorem qco_den (f_qck:qck_T):qco_W (qco_G f_qck)=curS [.c .p] EnR fun vs K Kp A=>denFnA Tryz.prog (tabA [(98,qck_E f_qck)]) [2] Tryz.f103 qco_ann vs K (np true Kp) A:=by kernel_rfl
theorem qco_ok (hm:PM):EntryOK Tryz.prog 103 (upE (qco_E qco_A)):=entA hm (callingA_cons (qck_ok hm) callingA_nil) Tryz.call103 Tryz.func103 (by kernel_rfl) (by kernel_rfl) true (qco_den qck_A)
def qcp_ann:AnnA:=(s0 (s0 (.seq (some ⟨[0,2,3],[],[]⟩) (s0 (.block (.seq (some ⟨[0,2,3,8],[(11,(.c .b))],[]⟩) (s0 (.cond .leaf .leaf)) (.cond .leaf (s0 (.cond .leaf (s0 (.cond .leaf (s0 (.cond (s0 (s0 (s0 (.cond .leaf .leaf)))) (s0 (.cond (s0 .leaf) (s0 (.cond .leaf (.seq (some ⟨[0,2,3,8],[(71,(.c .b))],[]⟩) (s0 (.cond .leaf .leaf)) (.cond .leaf (s0 (.cond .leaf (s0 (.cond .leaf (s0 (.cond .leaf (s0 (.cond .leaf (.seq (some ⟨[0,2,3],[(110,(.c .b))],[]⟩) (s0 (.cond .leaf (s0 (.cond .leaf .leaf)))) (.cond .leaf .leaf)))))))))))))))))))))))))) (s1 (s0 (.block (.loop ⟨[0,2,3,118],[(119,(.c (.i .i64)))],[]⟩ (s0 (s1 (.cond .leaf .leaf) (s1 (.block .leaf) .leaf)))))) (s0 .leaf)))))
theorem qcp_den (f_qck:qck_T) (f_qcl:qcl_T) (f_qcm:qcm_T) (f_qcn:qcn_T) (f_qcj:qcj_T) (f_qco:qco_T):qcp_W (qcp_G f_qck f_qcl f_qcm f_qcn f_qcj f_qco)=curS [.c .p] EnR fun vs K Kp A=>denFnA Tryz.prog (tabA [(98,qck_E f_qck),(99,qcl_E f_qcl),(100,qcm_E f_qcm),(101,qcn_E f_qcn),(102,qcj_E f_qcj),(103,qco_E f_qco)]) [2] Tryz.f57 qcp_ann vs K (np true Kp) A:=by kernel_rfl
theorem qcp_ok (hm:PM):EntryOK Tryz.prog 57 (upE (qcp_E qcp_A)):=entA hm (callingA_cons (qck_ok hm) (callingA_cons (qcl_ok hm) (callingA_cons (qcm_ok hm) (callingA_cons (qcn_ok hm) (callingA_cons (qcj_ok hm) (callingA_cons (qco_ok hm) callingA_nil)))))) Tryz.call57 Tryz.func57 (by kernel_rfl) (by kernel_rfl) true (qcp_den qck_A qcl_A qcm_A qcn_A qcj_A qco_A)
def call_Read_1_an:AnnA:=(s0 (.cond .leaf .leaf))
def call_Read_1_ap:AnnA:=(s0 (.cond .leaf .leaf))
theorem qcq_def (hm:PM):DefOK Tryz.prog 56 (upDn (dnS [.c .p,.c .p] qcq_nA)) (upDp (dpS [.c .p,.c .p] 158 [] qcq_pA)):=
 defA hm callingA_nil (p1:=[2]) (p2:=[2]) (an:=call_Read_1_an) (ap:=call_Read_1_ap) Tryz.call56 Tryz.func56 (by kernel_rfl) (by kernel_rfl) (by kernel_rfl) (by kernel_rfl)
def qcr_ann:AnnA:=(s0 (s0 (s0 .leaf)))
theorem qcr_den (f_qcp:qcp_T) (f_qcq_n:qcq_Tn) (f_qcq_p:qcq_Tp):qcr_W (qcr_G f_qcp f_qcq_n (qcq_vA f_qcq_p))=curS [.agg [(.i .u64),(.i .u64),(.i .u64),(.i .u64),(.i .u64),(.i .u64)]] EnR fun vs K Kp A=>denFnDA Tryz.prog (tabA [(57,qcp_E f_qcp)]) [] Tryz.f27 qcr_ann 56 (dnS [.c .p,.c .p] f_qcq_n) (dpS [.c .p,.c .p] 158 [] f_qcq_p) vs K (np false Kp) A:=by kernel_rfl
theorem qcr_ok (hm:PM):EntryOK Tryz.prog 27 (upE (qcr_E qcr_A)):=entDA hm (callingA_cons (qcp_ok hm) callingA_nil) (qcq_def hm) Tryz.call27 Tryz.func27 (by kernel_rfl) (by kernel_rfl) false (qcr_den qcp_A qcq_nA qcq_pA)
def qcs_ann:AnnA:=(s0 (s0 (.cond .leaf .leaf)))
theorem qcs_den:qcs_W (qcs_A)=curS [.c (.i .i64),.agg [(.i .u64),(.i .i64)]] EnR fun vs K Kp A=>denFnA Tryz.prog (tabA []) [3] Tryz.f105 qcs_ann vs K (np true Kp) A:=by kernel_rfl
theorem qcs_ok (hm:PM):EntryOK Tryz.prog 105 (upE (qcs_E qcs_A)):=entA hm callingA_nil Tryz.call105 Tryz.func105 (by kernel_rfl) (by kernel_rfl) true qcs_den
def qct_ann:AnnA:=(s0 (s1 (s0 (.cond (s0 .leaf) .leaf)) (s0 (s0 .leaf))))
theorem qct_den:qct_W (qct_A)=curS [.c .p,.c (.i .i64),.c (.i .i64)] EnR fun vs K Kp A=>denFnA Tryz.prog (tabA []) [] Tryz.f189 qct_ann vs K (np false Kp) A:=by kernel_rfl
theorem qct_ok (hm:PM):EntryOK Tryz.prog 189 (upE (qct_E qct_A)):=entA hm callingA_nil Tryz.call189 Tryz.func189 (by kernel_rfl) (by kernel_rfl) false qct_den
def qcu_ann:AnnA:=(s0 (s0 (.seq (some ⟨[0],[(3,(.c (.i .i64)))],[]⟩) (s1 (.draw 10) (.cond (s1 (.draw 11) .leaf) .leaf)) (s0 (.seq (some ⟨[3],[],[]⟩) (s0 (s0 (.cond .leaf .leaf))) (s0 .leaf))))))
theorem qcu_den (f_qct:qct_T):qcu_W (qcu_G f_qct)=curS [.c .p] EnR fun vs K Kp A=>denFnA Tryz.prog (tabA [(189,qct_E f_qct)]) [] Tryz.f139 qcu_ann vs K (np false Kp) A:=by kernel_rfl
theorem qcu_ok (hm:PM):EntryOK Tryz.prog 139 (upE (qcu_E qcu_A)):=entA hm (callingA_cons (qct_ok hm) callingA_nil) Tryz.call139 Tryz.func139 (by kernel_rfl) (by kernel_rfl) false (qcu_den qct_A)
def qcv_ann:AnnA:=(s0 (s1 (s0 (s0 (.cond (s0 .leaf) .leaf))) (s0 .leaf)))
theorem qcv_den:qcv_W (qcv_A)=curS [.c .p,.c (.i .i64)] EnR fun vs K Kp A=>denFnA Tryz.prog (tabA []) [] Tryz.f140 qcv_ann vs K (np false Kp) A:=by kernel_rfl
theorem qcv_ok (hm:PM):EntryOK Tryz.prog 140 (upE (qcv_E qcv_A)):=entA hm callingA_nil Tryz.call140 Tryz.func140 (by kernel_rfl) (by kernel_rfl) false qcv_den
def qcw_ann:AnnA:=(s0 (s1 (s0 (s0 (.cond (s0 .leaf) .leaf))) (s1 (.draw 10) (.seq (some ⟨[0,1,8],[],[]⟩) (s0 (.cond (s0 .leaf) .leaf)) (s0 (s0 (s1 (.drawS [0,1,2,4,5,6,7,9,10,11,3,8,12,13,14,15,16,17] []) (s0 .leaf))))))))
theorem qcw_den (f_qan:qan_T):qcw_W (qcw_G f_qan)=curS [.c .p,.c (.i .i64)] EnR fun vs K Kp A=>denFnA Tryz.prog (tabA [(85,qan_E f_qan)]) [] Tryz.f190 qcw_ann vs K (np false Kp) A:=by kernel_rfl
theorem qcw_ok (hm:PM):EntryOK Tryz.prog 190 (upE (qcw_E qcw_A)):=entA hm (callingA_cons (qan_ok hm) callingA_nil) Tryz.call190 Tryz.func190 (by kernel_rfl) (by kernel_rfl) false (qcw_den qan_A)
def qcx_ann:AnnA:=(s0 (s0 .leaf))
theorem qcx_den:qcx_W (qcx_A)=curS [.agg [.b,(.i .i64),(.i .i64),(.i .i64),.b,.b,.b,.b,.b],.c .p] EnR fun vs K Kp A=>denFnA Tryz.prog (tabA []) [2] Tryz.f225 qcx_ann vs K (np false Kp) A:=by kernel_rfl
theorem qcx_ok (hm:PM):EntryOK Tryz.prog 225 (upE (qcx_E qcx_A)):=entA hm callingA_nil Tryz.call225 Tryz.func225 (by kernel_rfl) (by kernel_rfl) false qcx_den
def qcy_ann:AnnA:=(s0 (.block (.loop ⟨[0,1],[(6,(.c (.i .i64)))],[]⟩ (s0 (s1 (.cond .leaf .leaf) (s1 (.block (s0 (s0 (.block (.loop ⟨[0,1,4,6],[(9,(.c (.i .i64)))],[]⟩ (s0 (s1 (.cond .leaf .leaf) (.seq (some ⟨[0,1,4,6,9],[],[]⟩) (.block (s0 (s0 (.cond .leaf .leaf)))) .leaf)))))))) .leaf))))))
theorem qcy_den (f_qcx:qcx_T):qcy_W (qcy_G f_qcx)=curS [.c .p,.fn 225 [] [.p]] EnR fun vs K Kp A=>denFnA Tryz.prog (tabA [(225,qcx_E f_qcx)]) [] Tryz.f209 qcy_ann vs K (np false Kp) A:=by kernel_rfl
theorem qcy_ok (hm:PM):EntryOK Tryz.prog 209 (upE (qcy_E qcy_A)):=entA hm (callingA_cons (qcx_ok hm) callingA_nil) Tryz.call209 Tryz.func209 (by kernel_rfl) (by kernel_rfl) false (qcy_den qcx_A)
def qcz_ann:AnnA:=(s0 .leaf)
theorem qcz_den (f_qcy:qcy_T):qcz_W (qcz_G f_qcy)=curS [.c .p,.c .b] EnR fun vs K Kp A=>denFnA Tryz.prog (tabA [(209,qcy_E f_qcy)]) [] Tryz.f191 qcz_ann vs K (np false Kp) A:=by kernel_rfl
theorem qcz_ok (hm:PM):EntryOK Tryz.prog 191 (upE (qcz_E qcz_A)):=entA hm (callingA_cons (qcy_ok hm) callingA_nil) Tryz.call191 Tryz.func191 (by kernel_rfl) (by kernel_rfl) false (qcz_den qcy_A)
def qda_ann:AnnA:=(s0 (s0 (.seq (some ⟨[5],[],[]⟩) (s0 (.cond .leaf .leaf)) (s0 .leaf))))
theorem qda_den (f_qcw:qcw_T) (f_qcz:qcz_T):qda_W (qda_G f_qcw f_qcz)=curS [.c .p,.c (.i .i64)] EnR fun vs K Kp A=>denFnA Tryz.prog (tabA [(190,qcw_E f_qcw),(191,qcz_E f_qcz)]) [] Tryz.f141 qda_ann vs K (np false Kp) A:=by kernel_rfl
theorem qda_ok (hm:PM):EntryOK Tryz.prog 141 (upE (qda_E qda_A)):=entA hm (callingA_cons (qcw_ok hm) (callingA_cons (qcz_ok hm) callingA_nil)) Tryz.call141 Tryz.func141 (by kernel_rfl) (by kernel_rfl) false (qda_den qcw_A qcz_A)
def qdb_ann:AnnA:=(s0 (s0 .leaf))
theorem qdb_den:qdb_W (qdb_A)=curS [.c (.i .i64)] EnR fun vs K Kp A=>denFnA Tryz.prog (tabA []) [] Tryz.f192 qdb_ann vs K (np false Kp) A:=by kernel_rfl
theorem qdb_ok (hm:PM):EntryOK Tryz.prog 192 (upE (qdb_E qdb_A)):=entA hm callingA_nil Tryz.call192 Tryz.func192 (by kernel_rfl) (by kernel_rfl) false qdb_den
def qdc_ann:AnnA:=(s0 (s0 .leaf))
theorem qdc_den:qdc_W (qdc_A)=curS [.agg [.b,(.i .i64),(.i .i64),(.i .i64),.b,.b,.b,.b,.b],.c (.i .i64),.c (.i .i64)] EnR fun vs K Kp A=>denFnA Tryz.prog (tabA []) [3] Tryz.f194 qdc_ann vs K (np false Kp) A:=by kernel_rfl
theorem qdc_ok (hm:PM):EntryOK Tryz.prog 194 (upE (qdc_E qdc_A)):=entA hm callingA_nil Tryz.call194 Tryz.func194 (by kernel_rfl) (by kernel_rfl) false qdc_den
def qdd_ann:AnnA:=(s0 (s0 .leaf))
theorem qdd_den (f_qdc:qdc_T):qdd_W (qdd_G f_qdc)=curS [.agg [.b,(.i .i64),(.i .i64),(.i .i64),.b,.b,.b,.b,.b],.c .p,.c .p] EnR fun vs K Kp A=>denFnA Tryz.prog (tabA [(194,qdc_E f_qdc)]) [3] Tryz.f193 qdd_ann vs K (np false Kp) A:=by kernel_rfl
theorem qdd_ok (hm:PM):EntryOK Tryz.prog 193 (upE (qdd_E qdd_A)):=entA hm (callingA_cons (qdc_ok hm) callingA_nil) Tryz.call193 Tryz.func193 (by kernel_rfl) (by kernel_rfl) false (qdd_den qdc_A)
def qde_ann:AnnA:=(s0 (s1 (s0 (.block (.loop ⟨[0,1,7],[(8,(.c (.i .i64)))],[]⟩ (s0 (s1 (.cond .leaf .leaf) (s1 (.block (s0 (s0 (.cond (s0 .leaf) .leaf)))) .leaf)))))) (s0 .leaf)))
theorem qde_den (f_qdd:qdd_T):qde_W (qde_G f_qdd)=curS [.c .s,.fn 193 [] [.p,.p]] EnR fun vs K Kp A=>denFnA Tryz.prog (tabA [(193,qdd_E f_qdd)]) [] Tryz.f78 qde_ann vs K (np false Kp) A:=by kernel_rfl
theorem qde_ok (hm:PM):EntryOK Tryz.prog 78 (upE (qde_E qde_A)):=entA hm (callingA_cons (qdd_ok hm) callingA_nil) Tryz.call78 Tryz.func78 (by kernel_rfl) (by kernel_rfl) false (qde_den qdd_A)
def qdf_ann:AnnA:=(s0 (s1 (.drawS [0,3,4,1,2,5,6,7] []) (s1 (s0 (s0 (.cond (s0 .leaf) .leaf))) (s0 .leaf))))
theorem qdf_den (f_qdb:qdb_T) (f_qde:qde_T):qdf_W (qdf_G f_qdb f_qde)=curS [.c .p,.c (.i .i64),.c (.i .i64)] EnR fun vs K Kp A=>denFnA Tryz.prog (tabA [(192,qdb_E f_qdb),(78,qde_E f_qde)]) [6] Tryz.f142 qdf_ann vs K (np false Kp) A:=by kernel_rfl
theorem qdf_ok (hm:PM):EntryOK Tryz.prog 142 (upE (qdf_E qdf_A)):=entA hm (callingA_cons (qdb_ok hm) (callingA_cons (qde_ok hm) callingA_nil)) Tryz.call142 Tryz.func142 (by kernel_rfl) (by kernel_rfl) false (qdf_den qdb_A qde_A)
def qdg_ann:AnnA:=(s0 (s0 .leaf))
theorem qdg_den:qdg_W (qdg_A)=curS [.agg [.b,.b,.b],.agg [.b,.b,.b]] EnR fun vs K Kp A=>denFnA Tryz.prog (tabA []) [2,3] Tryz.f143 qdg_ann vs K (np false Kp) A:=by kernel_rfl
theorem qdg_ok (hm:PM):EntryOK Tryz.prog 143 (upE (qdg_E qdg_A)):=entA hm callingA_nil Tryz.call143 Tryz.func143 (by kernel_rfl) (by kernel_rfl) false qdg_den
def qdh_ann:AnnA:=(s0 (s1 (s0 (.block (.loop ⟨[1,4,8,9],[(10,(.c (.i .i64)))],[(4,(0,(.i .i64))),(4,(1,(.i .i64))),(4,(2,.b)),(4,(3,.b)),(4,(4,.b)),(4,(5,(.i .i64)))]⟩ (s0 (s1 (.cond .leaf .leaf) (s1 (.block (s0 (s0 (.cond (s0 .leaf) .leaf)))) .leaf)))))) (s0 .leaf)))
theorem qdh_den:qdh_W (qdh_A)=curS [.c .s,.c (.i .i64)] EnR fun vs K Kp A=>denFnA Tryz.prog (tabA []) [4,7] Tryz.f117 qdh_ann vs K (np false Kp) A:=by kernel_rfl
theorem qdh_ok (hm:PM):EntryOK Tryz.prog 117 (upE (qdh_E qdh_A)):=entA hm callingA_nil Tryz.call117 Tryz.func117 (by kernel_rfl) (by kernel_rfl) false qdh_den
def qdi_ann:AnnA:=(s0 (s0 (s1 (s0 (.block (.loop ⟨[0,2,4],[(6,(.c (.i .i64)))],[]⟩ (s0 (s1 (.cond .leaf .leaf) (s1 (.block (s0 .leaf)) .leaf)))))) (s0 .leaf))))
theorem qdi_den:qdi_W (qdi_A)=curS [.c (.i .u64)] EnR fun vs K Kp A=>denFnA Tryz.prog (tabA []) [2] Tryz.f128 qdi_ann vs K (np false Kp) A:=by kernel_rfl
theorem qdi_ok (hm:PM):EntryOK Tryz.prog 128 (upE (qdi_E qdi_A)):=entA hm callingA_nil Tryz.call128 Tryz.func128 (by kernel_rfl) (by kernel_rfl) false qdi_den
def qdj_ann:AnnA:=(s0 (s0 (s0 .leaf)))
theorem qdj_den (f_qdi:qdi_T):qdj_W (qdj_G f_qdi)=curS [.c (.i .i64)] EnR fun vs K Kp A=>denFnA Tryz.prog (tabA [(128,qdi_E f_qdi)]) [2,3] Tryz.f81 qdj_ann vs K (np false Kp) A:=by kernel_rfl
theorem qdj_ok (hm:PM):EntryOK Tryz.prog 81 (upE (qdj_E qdj_A)):=entA hm (callingA_cons (qdi_ok hm) callingA_nil) Tryz.call81 Tryz.func81 (by kernel_rfl) (by kernel_rfl) false (qdj_den qdi_A)
def qdk_ann:AnnA:=(s0 (s1 (s0 (s0 (.cond (s0 .leaf) .leaf))) (s0 (s1 (s0 (.block (.loop ⟨[0,1],[(9,(.c (.i .u64))),(10,(.c (.i .i64)))],[]⟩ (s1 (s0 (.cond .leaf .leaf)) (.seq (some ⟨[0,1,10],[(9,(.c (.i .u64)))],[]⟩) (.block (s0 (s0 (s0 (s0 (.cond .leaf .leaf)))))) .leaf))))) (s0 .leaf)))))
theorem qdk_den (f_qbn:qbn_T):qdk_W (qdk_G f_qbn)=curS [.c .p,.c (.i .u64),.c (.i .i64)] EnR fun vs K Kp A=>denFnA Tryz.prog (tabA [(147,qbn_E f_qbn)]) [] Tryz.f108 qdk_ann vs K (np false Kp) A:=by kernel_rfl
theorem qdk_ok (hm:PM):EntryOK Tryz.prog 108 (upE (qdk_E qdk_A)):=entA hm (callingA_cons (qbn_ok hm) callingA_nil) Tryz.call108 Tryz.func108 (by kernel_rfl) (by kernel_rfl) false (qdk_den qbn_A)
def qdl_ann:AnnA:=(s0 (s0 (s1 (s0 (.block (.loop ⟨[0,2,3,11],[(12,(.c (.i .i64)))],[]⟩ (s0 (s1 (.cond .leaf .leaf) (s1 (.block (s0 .leaf)) .leaf)))))) (s0 .leaf))))
theorem qdl_den (f_qbj:qbj_T) (f_qbk:qbk_T):qdl_W (qdl_G f_qbj f_qbk)=curS [.c (.i .u64)] EnR fun vs K Kp A=>denFnA Tryz.prog (tabA [(176,qbj_E f_qbj),(177,qbk_E f_qbk)]) [2] Tryz.f127 qdl_ann vs K (np false Kp) A:=by kernel_rfl
theorem qdl_ok (hm:PM):EntryOK Tryz.prog 127 (upE (qdl_E qdl_A)):=entA hm (callingA_cons (qbj_ok hm) (callingA_cons (qbk_ok hm) callingA_nil)) Tryz.call127 Tryz.func127 (by kernel_rfl) (by kernel_rfl) false (qdl_den qbj_A qbk_A)
def qdm_ann:AnnA:=(s0 (s1 (.drawS [0,2,3,1,4,5,6,7,8,9,10] []) (s0 .leaf)))
theorem qdm_den (f_qbm:qbm_T) (f_qdk:qdk_T) (f_qdl:qdl_T):qdm_W (qdm_G f_qbm f_qdk f_qdl)=curS [.agg [.p,.p,.p,(.i .i64)],.c (.i .i64),.c (.i .i64)] EnR fun vs K Kp A=>denFnA Tryz.prog (tabA [(126,qbm_E f_qbm),(108,qdk_E f_qdk),(127,qdl_E f_qdl)]) [3,6] Tryz.f80 qdm_ann vs K (np false Kp) A:=by kernel_rfl
theorem qdm_ok (hm:PM):EntryOK Tryz.prog 80 (upE (qdm_E qdm_A)):=entA hm (callingA_cons (qbm_ok hm) (callingA_cons (qdk_ok hm) (callingA_cons (qdl_ok hm) callingA_nil))) Tryz.call80 Tryz.func80 (by kernel_rfl) (by kernel_rfl) false (qdm_den qbm_A qdk_A qdl_A)
def qdn_ann:AnnA:=(s0 (s0 (s0 (.seq (some ⟨[],[(8,(.c .s))],[]⟩) (s0 (.block (.loop ⟨[3,7],[(8,(.c .s)),(15,(.c (.i .i64)))],[]⟩ (s0 (s1 (.cond .leaf .leaf) (s1 (.block (s0 (s1 (.drawS [1,2,3,5,6,0,4,7,8,9,10] [9]) (s1 (s0 (.cond .leaf .leaf)) .leaf)))) .leaf)))))) (s0 .leaf)))))
theorem qdn_den (f_qdj:qdj_T) (f_qdm:qdm_T):qdn_W (qdn_G f_qdj f_qdm)=curS [.agg [.p,.p,.p,(.i .i64)],.c (.i .i64),.c (.i .i64)] EnR fun vs K Kp A=>denFnA Tryz.prog (tabA [(81,qdj_E f_qdj),(80,qdm_E f_qdm)]) [3,10] Tryz.f79 qdn_ann vs K (np false Kp) A:=by kernel_rfl
theorem qdn_ok (hm:PM):EntryOK Tryz.prog 79 (upE (qdn_E qdn_A)):=entA hm (callingA_cons (qdj_ok hm) (callingA_cons (qdm_ok hm) callingA_nil)) Tryz.call79 Tryz.func79 (by kernel_rfl) (by kernel_rfl) false (qdn_den qdj_A qdm_A)
def qdo_ann:AnnA:=(s0 (.seq (some ⟨[1,2,3,7],[],[(7,(0,.b)),(7,(1,.b)),(7,(2,.b))]⟩) (s0 (.cond (s0 .leaf) .leaf)) (s0 (s1 (s0 (.cond (s0 .leaf) .leaf)) (s1 (.drawS [1,2,4,0,3,5,6,7,8,9] [8]) (s1 (s0 (.cond (s0 .leaf) .leaf)) (s1 (.draw 11) .leaf)))))))
theorem qdo_den (f_qdn:qdn_T) (f_qdj:qdj_T) (f_qdm:qdm_T):qdo_W (qdo_G f_qdn f_qdj f_qdm)=curS [.agg [.p,.p,.p,(.i .i64)],.c (.i .i64),.c (.i .i64)] EnR fun vs K Kp A=>denFnA Tryz.prog (tabA [(79,qdn_E f_qdn),(81,qdj_E f_qdj),(80,qdm_E f_qdm)]) [3,7,10] Tryz.f42 qdo_ann vs K (np false Kp) A:=by kernel_rfl
theorem qdo_ok (hm:PM):EntryOK Tryz.prog 42 (upE (qdo_E qdo_A)):=entA hm (callingA_cons (qdn_ok hm) (callingA_cons (qdj_ok hm) (callingA_cons (qdm_ok hm) callingA_nil))) Tryz.call42 Tryz.func42 (by kernel_rfl) (by kernel_rfl) false (qdo_den qdn_A qdj_A qdm_A)
def qdp_ann:AnnA:=(s0 (s0 .leaf))
theorem qdp_den:qdp_W (qdp_A)=curS [.c (.i .i64),.agg [.b,.b,.b]] EnR fun vs K Kp A=>denFnA Tryz.prog (tabA []) [3,4] Tryz.f165 qdp_ann vs K (np false Kp) A:=by kernel_rfl
theorem qdp_ok (hm:PM):EntryOK Tryz.prog 165 (upE (qdp_E qdp_A)):=entA hm callingA_nil Tryz.call165 Tryz.func165 (by kernel_rfl) (by kernel_rfl) false qdp_den
def qdq_ann:AnnA:=(s0 (.seq (some ⟨[1,2,3,5,9],[],[]⟩) (s0 (.cond (s0 .leaf) .leaf)) (s1 (.drawS [0,3,4,2,1,5,6,7,8] [6]) (.seq (some ⟨[3,5,9,11,12],[],[]⟩) (s1 (.draw 10) (.cond (s0 .leaf) .leaf)) (s0 (s1 (s0 (.block (.loop ⟨[3,5,9,11,12,56],[(13,(.c .s)),(57,(.c (.i .i64)))],[]⟩ (s0 (s1 (.cond .leaf .leaf) (s1 (.block (s0 (s1 (s0 (.cond (s1 (s0 (.block (.loop ⟨[5,15,66,67],[(68,(.c (.i .i64)))],[]⟩ (s0 (s1 (.cond .leaf .leaf) (s1 (.block (s0 .leaf)) .leaf)))))) (s0 .leaf)) .leaf)) .leaf))) .leaf)))))) (s1 (s0 (.block (.loop ⟨[3,5,9,11,82,83],[(12,(.c .s)),(84,(.c (.i .i64)))],[]⟩ (s0 (s1 (.cond .leaf .leaf) (s1 (.block (s0 (s0 (s1 (.draw 10) .leaf)))) .leaf)))))) (s1 (.drawS [1,2,4,6,0,3,5,7,8,9] []) (s0 .leaf)))))))))
theorem qdq_den (f_qdj:qdj_T) (f_qdn:qdn_T) (f_qdm:qdm_T) (f_qbg:qbg_T) (f_qbi:qbi_T) (f_qbq:qbq_T) (f_qdp:qdp_T):qdq_W (qdq_G f_qdj f_qdn f_qdm f_qbg f_qbi f_qbq f_qdp)=curS [.agg [.p,.p,.p,(.i .i64)],.c (.i .i64),.c (.i .i64),.c (.i .i64),.agg [.b,.b,.b]] EnR fun vs K Kp A=>denFnA Tryz.prog (tabA [(81,qdj_E f_qdj),(79,qdn_E f_qdn),(80,qdm_E f_qdm),(87,qbg_E f_qbg),(89,qbi_E f_qbi),(90,qbq_E f_qbq),(165,qdp_E f_qdp)]) [5,9] Tryz.f119 qdq_ann vs K (np false Kp) A:=by kernel_rfl
theorem qdq_ok (hm:PM):EntryOK Tryz.prog 119 (upE (qdq_E qdq_A)):=entA hm (callingA_cons (qdj_ok hm) (callingA_cons (qdn_ok hm) (callingA_cons (qdm_ok hm) (callingA_cons (qbg_ok hm) (callingA_cons (qbi_ok hm) (callingA_cons (qbq_ok hm) (callingA_cons (qdp_ok hm) callingA_nil))))))) Tryz.call119 Tryz.func119 (by kernel_rfl) (by kernel_rfl) false (qdq_den qdj_A qdn_A qdm_A qbg_A qbi_A qbq_A qdp_A)
def qdr_ann:AnnA:=(s0 (s0 (s1 (s0 (.cond (s0 .leaf) .leaf)) (s0 (s1 (s0 (.block (.loop ⟨[0,2,7,11,35,36],[(12,(.c (.i .i64))),(37,(.c (.i .i64)))],[]⟩ (s0 (s1 (.cond .leaf .leaf) (.seq (some ⟨[0,2,7,11,35,36,37],[(12,(.c (.i .i64)))],[]⟩) (.block (s0 (s0 (.cond .leaf .leaf)))) .leaf)))))) (.seq (some ⟨[0,2,7,11],[(12,(.c (.i .i64)))],[]⟩) (s0 (.cond .leaf .leaf)) (s0 (s1 (s0 (.cond (s0 .leaf) .leaf)) (s0 (s1 (.drawS [1,2,3,5,0,4,6,7,8,9,10,11,12,13,14] [11]) (s1 (s0 (.cond (.seq (some ⟨[],[(12,(.c (.i .i64)))],[]⟩) (s0 (.cond .leaf .leaf)) (s0 .leaf)) .leaf)) (s1 (s0 (.cond (s0 .leaf) .leaf)) (s0 (s1 (s0 (.cond (s0 .leaf) .leaf)) (s1 (s1 (.draw 9) (s0 (.cond (s0 (s0 .leaf)) .leaf))) (s0 .leaf))))))))))))))))
theorem qdr_den (f_qdh:qdh_T) (f_qau:qau_T) (f_qdo:qdo_T) (f_qdg:qdg_T) (f_qbg:qbg_T) (f_qdq:qdq_T) (f_qbi:qbi_T):qdr_W (qdr_G f_qdh f_qau f_qdo f_qdg f_qbg f_qdq f_qbi)=curS [.c .p,.c (.i .i64),.c (.i .i64),.agg [.b,.b,.b]] EnR fun vs K Kp A=>denFnA Tryz.prog (tabA [(117,qdh_E f_qdh),(43,qau_E f_qau),(42,qdo_E f_qdo),(143,qdg_E f_qdg),(87,qbg_E f_qbg),(119,qdq_E f_qdq),(89,qbi_E f_qbi)]) [7,15,17,19] Tryz.f144 qdr_ann vs K (np false Kp) A:=by kernel_rfl
theorem qdr_ok (hm:PM):EntryOK Tryz.prog 144 (upE (qdr_E qdr_A)):=entA hm (callingA_cons (qdh_ok hm) (callingA_cons (qau_ok hm) (callingA_cons (qdo_ok hm) (callingA_cons (qdg_ok hm) (callingA_cons (qbg_ok hm) (callingA_cons (qdq_ok hm) (callingA_cons (qbi_ok hm) callingA_nil))))))) Tryz.call144 Tryz.func144 (by kernel_rfl) (by kernel_rfl) false (qdr_den qdh_A qau_A qdo_A qdg_A qbg_A qdq_A qbi_A)
def qds_ann:AnnA:=(s0 (s0 (s0 .leaf)))
theorem qds_den:qds_W (qds_A)=curS [.c (.i .u64)] EnR fun vs K Kp A=>denFnA Tryz.prog (tabA []) [] Tryz.f196 qds_ann vs K (np false Kp) A:=by kernel_rfl
theorem qds_ok (hm:PM):EntryOK Tryz.prog 196 (upE (qds_E qds_A)):=entA hm callingA_nil Tryz.call196 Tryz.func196 (by kernel_rfl) (by kernel_rfl) false qds_den
def qdt_ann:AnnA:=(.seq (some ⟨[0],[(1,(.c (.i .i64)))],[]⟩) (s0 (.cond .leaf .leaf)) (.seq (some ⟨[0],[(1,(.c (.i .i64)))],[]⟩) (s0 (.cond .leaf .leaf)) (.seq (some ⟨[0],[(1,(.c (.i .i64)))],[]⟩) (s0 (.cond .leaf .leaf)) .leaf)))
theorem qdt_den:qdt_W (qdt_A)=curS [.c .p,.c (.i .i64)] EnR fun vs K Kp A=>denFnA Tryz.prog (tabA []) [] Tryz.f198 qdt_ann vs K (np true Kp) A:=by kernel_rfl
theorem qdt_ok (hm:PM):EntryOK Tryz.prog 198 (upE (qdt_E qdt_A)):=entA hm callingA_nil Tryz.call198 Tryz.func198 (by kernel_rfl) (by kernel_rfl) true qdt_den
def qdu_ann:AnnA:=(s0 (s1 (s0 (.cond (s0 .leaf) .leaf)) (s0 (s0 (s1 (.block (s0 (.cond (s0 .leaf) (s0 (.cond (s0 .leaf) (s0 (.cond (s0 .leaf) .leaf))))))) (s0 .leaf))))))
theorem qdu_den:qdu_W (qdu_A)=curS [.c (.i .u64),.c (.i .i64)] EnR fun vs K Kp A=>denFnA Tryz.prog (tabA []) [] Tryz.f226 qdu_ann vs K (np false Kp) A:=by kernel_rfl
theorem qdu_ok (hm:PM):EntryOK Tryz.prog 226 (upE (qdu_E qdu_A)):=entA hm callingA_nil Tryz.call226 Tryz.func226 (by kernel_rfl) (by kernel_rfl) false qdu_den
def qdv_ann:AnnA:=(s0 (s0 (s0 (.seq (some ⟨[0,3,10,11],[],[]⟩) (s0 (.cond .leaf .leaf)) (.seq (some ⟨[0,3,10,11],[],[]⟩) (s0 (.cond .leaf .leaf)) (.seq (some ⟨[0,10,11],[],[]⟩) (s0 (.cond .leaf .leaf)) (s0 (.seq (some ⟨[0,10,11,13],[],[]⟩) .leaf (.seq (some ⟨[0,10,11,13],[],[]⟩) .leaf (s0 (s0 .leaf)))))))))))
theorem qdv_den (f_qdk:qdk_T) (f_qdt:qdt_T) (f_qdu:qdu_T) (f_qdl:qdl_T):qdv_W (qdv_G f_qdk f_qdt f_qdu f_qdl)=curS [.c .p,.c (.i .i64),.c (.i .i64),.c (.i .i64)] EnR fun vs K Kp A=>denFnA Tryz.prog (tabA [(108,qdk_E f_qdk),(198,qdt_E f_qdt),(226,qdu_E f_qdu),(127,qdl_E f_qdl)]) [13] Tryz.f197 qdv_ann vs K (np true Kp) A:=by kernel_rfl
theorem qdv_ok (hm:PM):EntryOK Tryz.prog 197 (upE (qdv_E qdv_A)):=entA hm (callingA_cons (qdk_ok hm) (callingA_cons (qdt_ok hm) (callingA_cons (qdu_ok hm) (callingA_cons (qdl_ok hm) callingA_nil)))) Tryz.call197 Tryz.func197 (by kernel_rfl) (by kernel_rfl) true (qdv_den qdk_A qdt_A qdu_A qdl_A)
def qdw_ann:AnnA:=(s0 (.block (.loop ⟨[0,1,2,11,12],[(13,(.c (.i .i64)))],[]⟩ (s0 (s1 (.cond .leaf .leaf) (.seq (some ⟨[0,1,2,11,12,13],[],[]⟩) (.block (s0 (s0 (s0 (.seq (some ⟨[0,1,2,7,8,11,12,13],[(10,(.c (.i .u64)))],[]⟩) (s0 (.cond .leaf .leaf)) (s0 (.cond .leaf .leaf))))))) .leaf))))))
theorem qdw_den (f_qdk:qdk_T) (f_qbp:qbp_T):qdw_W (qdw_G f_qdk f_qbp)=curS [.c .p,.c .s,.c .b] EnR fun vs K Kp A=>denFnA Tryz.prog (tabA [(108,qdk_E f_qdk),(107,qbp_E f_qbp)]) [] Tryz.f199 qdw_ann vs K (np false Kp) A:=by kernel_rfl
theorem qdw_ok (hm:PM):EntryOK Tryz.prog 199 (upE (qdw_E qdw_A)):=entA hm (callingA_cons (qdk_ok hm) (callingA_cons (qbp_ok hm) callingA_nil)) Tryz.call199 Tryz.func199 (by kernel_rfl) (by kernel_rfl) false (qdw_den qdk_A qbp_A)
def walk_Walk_1_an:AnnA:=(s0 (.cond (.draw 0) .leaf))
def walk_Walk_1_ap:AnnA:=(s0 (.cond (.drawS [0,1,3,2,4,5,6,7] []) .leaf))
theorem qdx_def (hm:PM):DefOK Tryz.prog 195 (upDn (dnS [.c .p,.c .p,.c .p] qdx_nA)) (upDp (dpS [.c .p,.c .p,.c .p] 317 [(.i .u64),(.i .i64),(.i .i64)] qdx_pA)):=
 defA hm callingA_nil (p1:=[3]) (p2:=[3]) (an:=walk_Walk_1_an) (ap:=walk_Walk_1_ap) Tryz.call195 Tryz.func195 (by kernel_rfl) (by kernel_rfl) (by kernel_rfl) (by kernel_rfl)
def qdy_ann:AnnA:=(s0 (s0 (s1 (s0 (.cond (s0 .leaf) .leaf)) (s1 (s0 (.cond (s0 .leaf) .leaf)) (s0 (s0 (s0 (s0 (.seq (some ⟨[0,7,8,9,10],[(14,(.c .s))],[]⟩) (s0 (.block (.loop ⟨[0,7,8,9,10,11,12],[(14,(.c .s)),(15,(.c (.i .i64))),(16,(.c (.i .i64)))],[]⟩ (s1 (s0 (.cond .leaf .leaf)) (s1 (.block (s0 (s0 (s0 (s0 (.seq (some ⟨[0,7,8,9,10,11,12,14,16,19],[],[]⟩) (s0 (.cond .leaf .leaf)) (.seq (some ⟨[0,7,8,9,10,11,12,14,16,19],[],[]⟩) (s1 (.draw 5) (.cond .leaf .leaf)) (s1 (.draw 17) (s1 (s0 (.cond .leaf .leaf)) .leaf))))))))) .leaf))))) (s0 (s0 .leaf)))))))))))
theorem qdy_den (f_qds:qds_T) (f_qbc:qbc_T) (f_qdi:qdi_T) (f_qdv:qdv_T) (f_qdl:qdl_T) (f_qdg:qdg_T) (f_qdt:qdt_T) (f_qdw:qdw_T) (f_qdx_n:qdx_Tn) (f_qdx_p:qdx_Tp):qdy_W (qdy_G f_qds f_qbc f_qdi f_qdv f_qdl f_qdg f_qdt f_qdw f_qdx_n (qdx_vA f_qdx_p))=curS [.c .p,.c (.i .i64),.c (.i .u64),.agg [.b,.b,.b]] EnR fun vs K Kp A=>denFnDA Tryz.prog (tabA [(196,qds_E f_qds),(188,qbc_E f_qbc),(128,qdi_E f_qdi),(197,qdv_E f_qdv),(127,qdl_E f_qdl),(143,qdg_E f_qdg),(198,qdt_E f_qdt),(199,qdw_E f_qdw)]) [7,19] Tryz.f145 qdy_ann 195 (dnS [.c .p,.c .p,.c .p] f_qdx_n) (dpS [.c .p,.c .p,.c .p] 317 [(.i .u64),(.i .i64),(.i .i64)] f_qdx_p) vs K (np false Kp) A:=by kernel_rfl
theorem qdy_ok (hm:PM):EntryOK Tryz.prog 145 (upE (qdy_E qdy_A)):=entDA hm (callingA_cons (qds_ok hm) (callingA_cons (qbc_ok hm) (callingA_cons (qdi_ok hm) (callingA_cons (qdv_ok hm) (callingA_cons (qdl_ok hm) (callingA_cons (qdg_ok hm) (callingA_cons (qdt_ok hm) (callingA_cons (qdw_ok hm) callingA_nil)))))))) (qdx_def hm) Tryz.call145 Tryz.func145 (by kernel_rfl) (by kernel_rfl) false (qdy_den qds_A qbc_A qdi_A qdv_A qdl_A qdg_A qdt_A qdw_A qdx_nA qdx_pA)
def qdz_ann:AnnA:=(s0 (.seq (some ⟨[0,1,5],[],[]⟩) (s0 (.cond (s0 .leaf) .leaf)) (s1 (.drawS [0,1,4,5,2,3,6,7] []) (s1 (s0 (.block (.loop ⟨[1,5,7],[(47,(.c (.i .i64)))],[]⟩ (s0 (s1 (.cond .leaf .leaf) (.seq (some ⟨[1,5,7,47],[],[]⟩) (.block (s0 (s1 (.drawS [0,1,2,3,5,7,4,6,8,9,10,11,12,13,14,15,16,17,18,19,20,21,22,23,24,25,26,28,27,29,30,31,32] []) (.cond .leaf .leaf)))) .leaf)))))) (s1 (.draw 5) (s0 .leaf))))))
theorem qdz_den (f_qdb:qdb_T) (f_qdc:qdc_T):qdz_W (qdz_G f_qdb f_qdc)=curS [.c .p,.c (.i .i64),.agg [.b,(.i .i64),(.i .i64),(.i .i64),.b,.b,.b,.b,.b]] EnR fun vs K Kp A=>denFnA Tryz.prog (tabA [(192,qdb_E f_qdb),(194,qdc_E f_qdc)]) [5] Tryz.f146 qdz_ann vs K (np false Kp) A:=by kernel_rfl
theorem qdz_ok (hm:PM):EntryOK Tryz.prog 146 (upE (qdz_E qdz_A)):=entA hm (callingA_cons (qdb_ok hm) (callingA_cons (qdc_ok hm) callingA_nil)) Tryz.call146 Tryz.func146 (by kernel_rfl) (by kernel_rfl) false (qdz_den qdb_A qdc_A)
def qea_ann:AnnA:=(s0 (s0 (s0 (.seq (some ⟨[0,1,2,7,9,10],[],[]⟩) (s0 (.cond .leaf .leaf)) (s0 (.seq (some ⟨[0,1,2,7,9,10,12,13],[],[]⟩) (s0 (s0 (.cond (s0 .leaf) .leaf))) (s1 (.drawS [0,1,2,4,5,3,6,7,8,9,10,11,12,13,14] []) (s0 (.seq (some ⟨[0,2,7,9,10,12,13,18,19],[],[(19,(0,(.i .u64))),(19,(1,(.i .i64)))]⟩) (s0 (.cond .leaf .leaf)) (s0 (s1 (.drawS [0,1,2,7,8,3,4,5,6,9,10,11,12,13,14,15,16,17,18] [15]) (s0 (.seq (some ⟨[20],[],[]⟩) (s0 (.cond (.draw 17) .leaf)) (s0 .leaf))))))))))))))
theorem qea_den (f_qcu:qcu_T) (f_qcv:qcv_T) (f_qcs:qcs_T) (f_qda:qda_T) (f_qdf:qdf_T) (f_qdg:qdg_T) (f_qdr:qdr_T) (f_qdy:qdy_T) (f_qdz:qdz_T):qea_W (qea_G f_qcu f_qcv f_qcs f_qda f_qdf f_qdg f_qdr f_qdy f_qdz)=curS [.c .p,.c (.i .i64),.c (.i .u64),.agg [.b,.b,.b]] EnR fun vs K Kp A=>denFnA Tryz.prog (tabA [(139,qcu_E f_qcu),(140,qcv_E f_qcv),(105,qcs_E f_qcs),(141,qda_E f_qda),(142,qdf_E f_qdf),(143,qdg_E f_qdg),(144,qdr_E f_qdr),(145,qdy_E f_qdy),(146,qdz_E f_qdz)]) [7,14,19,20] Tryz.f106 qea_ann vs K (np true Kp) A:=by kernel_rfl
theorem qea_ok (hm:PM):EntryOK Tryz.prog 106 (upE (qea_E qea_A)):=entA hm (callingA_cons (qcu_ok hm) (callingA_cons (qcv_ok hm) (callingA_cons (qcs_ok hm) (callingA_cons (qda_ok hm) (callingA_cons (qdf_ok hm) (callingA_cons (qdg_ok hm) (callingA_cons (qdr_ok hm) (callingA_cons (qdy_ok hm) (callingA_cons (qdz_ok hm) callingA_nil))))))))) Tryz.call106 Tryz.func106 (by kernel_rfl) (by kernel_rfl) true (qea_den qcu_A qcv_A qcs_A qda_A qdf_A qdg_A qdr_A qdy_A qdz_A)
def cpu_CPU_Do_1_an:AnnA:=(s0 (.cond (.draw 0) .leaf))
def cpu_CPU_Do_1_ap:AnnA:=(s0 (.cond (.drawS [0,2,1,3,4,5,6] []) .leaf))
theorem qeb_def (hm:PM):DefOK Tryz.prog 104 (upDn (dnS [.c .p,.c .p,.c .p] qeb_nA)) (upDp (dpS [.c .p,.c .p,.c .p] 226 [(.i .u64),(.i .i64),(.i .i64)] qeb_pA)):=
 defA hm callingA_nil (p1:=[3]) (p2:=[3]) (an:=cpu_CPU_Do_1_an) (ap:=cpu_CPU_Do_1_ap) Tryz.call104 Tryz.func104 (by kernel_rfl) (by kernel_rfl) (by kernel_rfl) (by kernel_rfl)
def qec_ann:AnnA:=(s0 (s0 (.seq (some ⟨[0,1,2,3,4,5,12,13,14],[],[]⟩) (s0 (.block (.seq (some ⟨[0,1,2,3,4,5,12,13,14],[(20,(.c .b))],[]⟩) (s0 (.cond .leaf (s0 (.cond .leaf (s0 (.cond .leaf .leaf)))))) (.cond .leaf .leaf)))) (.seq (some ⟨[0,1,2,3,4,5,12,13,14],[],[]⟩) (s0 (.cond .leaf .leaf)) (s0 (s1 (s0 (.cond (s0 (s0 .leaf)) .leaf)) (s0 (s1 (.drawS [1,0,2,3,4,5] []) .leaf))))))))
theorem qec_den (f_qcs:qcs_T) (f_qea:qea_T) (f_qbp:qbp_T) (f_qdk:qdk_T) (f_qeb_n:qeb_Tn) (f_qeb_p:qeb_Tp):qec_W (qec_G f_qcs f_qea f_qbp f_qdk f_qeb_n (qeb_vA f_qeb_p))=curS [.c .p,.c (.i .i64),.c (.i .u64),.c (.i .i64),.c .b,.c (.i .u64)] EnR fun vs K Kp A=>denFnDA Tryz.prog (tabA [(105,qcs_E f_qcs),(106,qea_E f_qea),(107,qbp_E f_qbp),(108,qdk_E f_qdk)]) [] Tryz.f58 qec_ann 104 (dnS [.c .p,.c .p,.c .p] f_qeb_n) (dpS [.c .p,.c .p,.c .p] 226 [(.i .u64),(.i .i64),(.i .i64)] f_qeb_p) vs K (np false Kp) A:=by kernel_rfl
theorem qec_ok (hm:PM):EntryOK Tryz.prog 58 (upE (qec_E qec_A)):=entDA hm (callingA_cons (qcs_ok hm) (callingA_cons (qea_ok hm) (callingA_cons (qbp_ok hm) (callingA_cons (qdk_ok hm) callingA_nil)))) (qeb_def hm) Tryz.call58 Tryz.func58 (by kernel_rfl) (by kernel_rfl) false (qec_den qcs_A qea_A qbp_A qdk_A qeb_nA qeb_pA)
def qed_ann:AnnA:=(s0 (s1 (.block (s0 (.cond (s0 .leaf) (s0 (.cond (s0 .leaf) .leaf))))) (s1 (.drawS [1,0,2,3,4,5,6,7,8] []) (s0 (s0 .leaf)))))
theorem qed_den:qed_W (qed_A)=curS [.agg [(.i .u64),(.i .u64),(.i .u64),(.i .u64),(.i .i64),(.i .u64),.b,(.i .u64),(.i .i64),(.i .u64),(.i .u64),(.i .u64),(.i .u64)],.agg [(.i .u64),(.i .i64)]] EnR fun vs K Kp A=>denFnA Tryz.prog (tabA []) [2,4] Tryz.f59 qed_ann vs K (np false Kp) A:=by kernel_rfl
theorem qed_ok (hm:PM):EntryOK Tryz.prog 59 (upE (qed_E qed_A)):=entA hm callingA_nil Tryz.call59 Tryz.func59 (by kernel_rfl) (by kernel_rfl) false qed_den
def qee_ann:AnnA:=(s0 (s0 (s1 (.drawS [0,1,2,4,5,6,8,10,12,15,3,7,9,11,13,14,16,17,18,19,20,21,22,23,24,25] [22]) (s0 (.seq (some ⟨[6,11],[],[(11,(5,.b))]⟩) (s0 (.cond (s1 (.drawS [0,1,2,3,4,5,6,7,8,9,10,11] [9]) .leaf) .leaf)) (s0 .leaf))))))
theorem qee_den (f_qec:qec_T) (f_qed:qed_T):qee_W (qee_G f_qec f_qed)=curS [.c .p,.c (.i .i64),.agg [(.i .i64),(.i .i64),(.i .i64),.b,.b,.b,(.i .u64),(.i .i64),(.i .u64),(.i .i64),(.i .i64),(.i .i64),(.i .i64)]] EnR fun vs K Kp A=>denFnA Tryz.prog (tabA [(58,qec_E f_qec),(59,qed_E f_qed)]) [5,6,9,11,12] Tryz.f28 qee_ann vs K (np false Kp) A:=by kernel_rfl
theorem qee_ok (hm:PM):EntryOK Tryz.prog 28 (upE (qee_E qee_A)):=entA hm (callingA_cons (qec_ok hm) (callingA_cons (qed_ok hm) callingA_nil)) Tryz.call28 Tryz.func28 (by kernel_rfl) (by kernel_rfl) false (qee_den qec_A qed_A)
def qef_ann:AnnA:=(s0 (s0 .leaf))
theorem qef_den:qef_W (qef_A)=curS [.agg [(.i .i64),(.i .i64)]] EnR fun vs K Kp A=>denFnA Tryz.prog (tabA []) [1] Tryz.f149 qef_ann vs K (np false Kp) A:=by kernel_rfl
theorem qef_ok (hm:PM):EntryOK Tryz.prog 149 (upE (qef_E qef_A)):=entA hm callingA_nil Tryz.call149 Tryz.func149 (by kernel_rfl) (by kernel_rfl) false qef_den
def qeg_ann:AnnA:=(s0 (s0 .leaf))
theorem qeg_den:qeg_W (qeg_A)=curS [.agg [(.i .i64),(.i .i64),.b,.b,.b,(.i .i64)],.agg [(.i .i64),(.i .i64),.b,.b,.b,(.i .i64)]] EnR fun vs K Kp A=>denFnA Tryz.prog (tabA []) [2,3] Tryz.f200 qeg_ann vs K (np false Kp) A:=by kernel_rfl
theorem qeg_ok (hm:PM):EntryOK Tryz.prog 200 (upE (qeg_E qeg_A)):=entA hm callingA_nil Tryz.call200 Tryz.func200 (by kernel_rfl) (by kernel_rfl) false qeg_den
def qeh_ann:AnnA:=(s0 (s1 (s0 (.cond (s0 .leaf) .leaf)) (s1 (s0 (.block (.loop ⟨[0,8,9],[(10,(.c (.i .i64)))],[]⟩ (s0 (s1 (.cond .leaf .leaf) (s1 (.block (s0 (s1 (s0 (.cond (s0 .leaf) .leaf)) (s1 (.draw 21) (.cond (s0 .leaf) .leaf))))) .leaf)))))) (s0 .leaf))))
theorem qeh_den (f_qeg:qeg_T):qeh_W (qeh_G f_qeg)=curS [.c .s] EnR fun vs K Kp A=>denFnA Tryz.prog (tabA [(200,qeg_E f_qeg)]) [4] Tryz.f150 qeh_ann vs K (np false Kp) A:=by kernel_rfl
theorem qeh_ok (hm:PM):EntryOK Tryz.prog 150 (upE (qeh_E qeh_A)):=entA hm (callingA_cons (qeg_ok hm) callingA_nil) Tryz.call150 Tryz.func150 (by kernel_rfl) (by kernel_rfl) false (qeh_den qeg_A)
def qei_ann:AnnA:=(s0 (s1 (s0 (.cond (s0 .leaf) .leaf)) (s0 .leaf)))
theorem qei_den:qei_W (qei_A)=curS [.c .s] EnR fun vs K Kp A=>denFnA Tryz.prog (tabA []) [] Tryz.f154 qei_ann vs K (np false Kp) A:=by kernel_rfl
theorem qei_ok (hm:PM):EntryOK Tryz.prog 154 (upE (qei_E qei_A)):=entA hm callingA_nil Tryz.call154 Tryz.func154 (by kernel_rfl) (by kernel_rfl) false qei_den
theorem qej_ok (_hm:PM):AtOnce Tryz.prog 201 (upE (qej_E qej_A)):=overlaps_ok (tS:=126) (tR:=4) Tryz.func201 (by kernel_rfl) (by kernel_rfl) (by kernel_rfl) (by kernel_rfl) Tryz.underlying126 (by kernel_rfl)
def qek_ann:AnnA:=(s0 (.block (.loop ⟨[0],[(2,(.c (.i .i64))),(3,(.c (.i .i64)))],[]⟩ (s1 (s0 (.cond .leaf .leaf)) (s1 (.block (.drawS [0,1,2,3,4,5,6,8,9,10,7,11,12,13,14,15] [])) .leaf)))))
theorem qek_den:qek_W (qek_A)=curS [.c .s] EnR fun vs K Kp A=>denFnA Tryz.prog (tabA []) [] Tryz.f242 qek_ann vs K (np false Kp) A:=by kernel_rfl
theorem qek_ok (hm:PM):EntryOK Tryz.prog 242 (upE (qek_E qek_A)):=entA hm callingA_nil Tryz.call242 Tryz.func242 (by kernel_rfl) (by kernel_rfl) false qek_den
def qel_ann:AnnA:=(s0 (s0 .leaf))
theorem qel_den (f_qek:qek_T):qel_W (qel_G f_qek)=curS [.c .s,.c (.i .i64)] EnR fun vs K Kp A=>denFnA Tryz.prog (tabA [(242,qek_E f_qek)]) [] Tryz.f227 qel_ann vs K (np false Kp) A:=by kernel_rfl
theorem qel_ok (hm:PM):EntryOK Tryz.prog 227 (upE (qel_E qel_A)):=entA hm (callingA_cons (qek_ok hm) callingA_nil) Tryz.call227 Tryz.func227 (by kernel_rfl) (by kernel_rfl) false (qel_den qek_A)
def qem_ann:AnnA:=.leaf
theorem qem_den (f_qel:qel_T):qem_W (qem_G f_qel)=curS [.c .s,.c (.i .i64)] EnR fun vs K Kp A=>denFnA Tryz.prog (tabA [(227,qel_E f_qel)]) [] Tryz.f202 qem_ann vs K (np false Kp) A:=by kernel_rfl
theorem qem_ok (hm:PM):EntryOK Tryz.prog 202 (upE (qem_E qem_A)):=entA hm (callingA_cons (qel_ok hm) callingA_nil) Tryz.call202 Tryz.func202 (by kernel_rfl) (by kernel_rfl) false (qem_den qel_A)
def qen_ann:AnnA:=(s0 (s0 (s0 (s1 (s0 (.cond (s0 .leaf) .leaf)) (s0 (s1 (s0 (.cond (s0 .leaf) .leaf)) (s1 (s0 (.cond (s0 (s0 (s1 (.draw 8) (s0 .leaf)))) .leaf)) (s0 (s1 (s0 (.cond (s1 (.draw 8) (s0 (s0 .leaf))) .leaf)) (s0 (s0 (s0 .leaf))))))))))))
theorem qen_den (f_qej:qej_T) (f_qem:qem_T):qen_W (qen_G f_qej f_qem)=curS [.c .s,.c (.i .i64),.c .s] EnR fun vs K Kp A=>denFnA Tryz.prog (tabA [(201,qej_E f_qej),(202,qem_E f_qem)]) [] Tryz.f153 qen_ann vs K (np false Kp) A:=by kernel_rfl
theorem qen_ok (hm:PM):EntryOK Tryz.prog 153 (upE (qen_E qen_A)):=entA hm (callingA_at (qej_ok hm) (callingA_cons (qem_ok hm) callingA_nil)) Tryz.call153 Tryz.func153 (by kernel_rfl) (by kernel_rfl) false (qen_den qej_A qem_A)
def qeo_ann:AnnA:=(s0 (s0 (s1 (s0 (.block (.loop ⟨[7,8],[(3,(.c .s)),(9,(.c (.i .i64)))],[]⟩ (s0 (s1 (.cond .leaf .leaf) (.seq (some ⟨[7,8,9],[(3,(.c .s))],[]⟩) (.block (s0 (s1 (s0 (s1 (.draw 9) (.cond (s0 .leaf) .leaf))) .leaf))) .leaf)))))) (s0 .leaf))))
theorem qeo_den (f_qeg:qeg_T):qeo_W (qeo_G f_qeg)=curS [.c .s] EnR fun vs K Kp A=>denFnA Tryz.prog (tabA [(200,qeg_E f_qeg)]) [5] Tryz.f152 qeo_ann vs K (np false Kp) A:=by kernel_rfl
theorem qeo_ok (hm:PM):EntryOK Tryz.prog 152 (upE (qeo_E qeo_A)):=entA hm (callingA_cons (qeg_ok hm) callingA_nil) Tryz.call152 Tryz.func152 (by kernel_rfl) (by kernel_rfl) false (qeo_den qeg_A)
def qep_ann:AnnA:=(s0 (s1 (s0 (.cond (s0 .leaf) .leaf)) (s0 .leaf)))
theorem qep_den:qep_W (qep_A)=curS [.c .s] EnR fun vs K Kp A=>denFnA Tryz.prog (tabA []) [] Tryz.f151 qep_ann vs K (np false Kp) A:=by kernel_rfl
theorem qep_ok (hm:PM):EntryOK Tryz.prog 151 (upE (qep_E qep_A)):=entA hm callingA_nil Tryz.call151 Tryz.func151 (by kernel_rfl) (by kernel_rfl) false qep_den
def qeq_ann:AnnA:=(s0 (s1 (s0 (.cond (s0 .leaf) .leaf)) (s1 (s0 (.cond (s0 .leaf) .leaf)) (s0 (s1 (s0 (.block (.loop ⟨[0,3,16,17],[(6,(.c (.i .i64))),(18,(.c (.i .i64)))],[]⟩ (s0 (s1 (.cond .leaf .leaf) (.seq (some ⟨[0,3,16,17,18],[(6,(.c (.i .i64)))],[]⟩) (.block (s0 (.block (s0 (.cond .leaf (s0 (.cond (s0 .leaf) .leaf))))))) .leaf)))))) (s1 (.drawS [0,2,3,1,4,5,6,7,8,9,10,11] []) .leaf))))))
theorem qeq_den (f_qef:qef_T) (f_qeh:qeh_T) (f_qei:qei_T) (f_qen:qen_T) (f_qeo:qeo_T) (f_qep:qep_T):qeq_W (qeq_G f_qef f_qeh f_qei f_qen f_qeo f_qep)=curS [.c .s,.agg [(.i .i64),(.i .i64),.b,.b,.b,(.i .i64)]] EnR fun vs K Kp A=>denFnA Tryz.prog (tabA [(149,qef_E f_qef),(150,qeh_E f_qeh),(154,qei_E f_qei),(153,qen_E f_qen),(152,qeo_E f_qeo),(151,qep_E f_qep)]) [3,8] Tryz.f109 qeq_ann vs K (np false Kp) A:=by kernel_rfl
theorem qeq_ok (hm:PM):EntryOK Tryz.prog 109 (upE (qeq_E qeq_A)):=entA hm (callingA_cons (qef_ok hm) (callingA_cons (qeh_ok hm) (callingA_cons (qei_ok hm) (callingA_cons (qen_ok hm) (callingA_cons (qeo_ok hm) (callingA_cons (qep_ok hm) callingA_nil)))))) Tryz.call109 Tryz.func109 (by kernel_rfl) (by kernel_rfl) false (qeq_den qef_A qeh_A qei_A qen_A qeo_A qep_A)
def qer_ann:AnnA:=(s0 (s0 (s1 (s0 (.cond (s0 .leaf) .leaf)) (s1 (.drawS [0,1,2,3,4,5,6,7,8,9,10,11,12] []) (.seq (some ⟨[11],[],[]⟩) (s0 (.cond .leaf .leaf)) (s0 .leaf))))))
theorem qer_den (f_qeq:qeq_T):qer_W (qer_G f_qeq)=curS [.c .p,.c (.i .i64),.agg [(.i .i64),(.i .i64)],.agg [.b,.b,.b]] EnR fun vs K Kp A=>denFnA Tryz.prog (tabA [(109,qeq_E f_qeq)]) [6,7] Tryz.f60 qer_ann vs K (np false Kp) A:=by kernel_rfl
theorem qer_ok (hm:PM):EntryOK Tryz.prog 60 (upE (qer_E qer_A)):=entA hm (callingA_cons (qeq_ok hm) callingA_nil) Tryz.call60 Tryz.func60 (by kernel_rfl) (by kernel_rfl) false (qer_den qeq_A)
theorem qes_ok (_hm:PM):EntryOK Tryz.prog 61 (upE (qes_E qes_A)):=stub_ok Tryz.call61 rfl
theorem qet_ok (_hm:PM):EntryOK Tryz.prog 62 (upE (qet_E qet_A)):=stub_ok Tryz.call62 rfl
def qeu_ann:AnnA:=(s0 (s1 (.draw 18) (s1 (s0 (.block (s0 (.cond (s0 .leaf) (s0 (.cond (s0 .leaf) .leaf)))))) (s0 .leaf))))
theorem qeu_den (f_qer:qer_T) (f_qes:qes_T) (f_qet:qet_T):qeu_W (qeu_G f_qer f_qes f_qet)=curS [.c .p,.c (.i .i64),.agg [(.i .i64),(.i .i64),(.i .i64),.b,.b,.b,(.i .u64),(.i .i64),(.i .u64),(.i .i64),(.i .i64),(.i .i64),(.i .i64)]] EnR fun vs K Kp A=>denFnA Tryz.prog (tabA [(60,qer_E f_qer),(61,qes_E f_qes),(62,qet_E f_qet)]) [5] Tryz.f29 qeu_ann vs K (np false Kp) A:=by kernel_rfl
theorem qeu_ok (hm:PM):EntryOK Tryz.prog 29 (upE (qeu_E qeu_A)):=entA hm (callingA_cons (qer_ok hm) (callingA_cons (qes_ok hm) (callingA_cons (qet_ok hm) callingA_nil))) Tryz.call29 Tryz.func29 (by kernel_rfl) (by kernel_rfl) false (qeu_den qer_A qes_A qet_A)
theorem qev_ok (_hm:PM):EntryOK Tryz.prog 63 (upE (qev_E qev_A)):=stub_ok Tryz.call63 rfl
theorem qew_ok (_hm:PM):EntryOK Tryz.prog 64 (upE (qew_E qew_A)):=stub_ok Tryz.call64 rfl
def qex_ann:AnnA:=(s0 (s1 (.draw 15) (.seq (some ⟨[0,1,5,8,9],[],[]⟩) (s1 (.draw 14) (.cond (s0 .leaf) .leaf)) (s1 (s1 (.draw 11) (s0 (.cond (s0 .leaf) .leaf))) (s1 (.drawS [0,1,2,3,4,5,7,9,10,6,8,11,12,13,14,15,16,17] []) (s0 .leaf))))))
theorem qex_den (f_qev:qev_T) (f_qew:qew_T):qex_W (qex_G f_qev f_qew)=curS [.c .p,.c (.i .i64),.agg [(.i .i64),(.i .i64),(.i .i64),.b,.b,.b,(.i .u64),(.i .i64),(.i .u64),(.i .i64),(.i .i64),(.i .i64),(.i .i64)]] EnR fun vs K Kp A=>denFnA Tryz.prog (tabA [(63,qev_E f_qev),(64,qew_E f_qew)]) [5] Tryz.f30 qex_ann vs K (np false Kp) A:=by kernel_rfl
theorem qex_ok (hm:PM):EntryOK Tryz.prog 30 (upE (qex_E qex_A)):=entA hm (callingA_cons (qev_ok hm) (callingA_cons (qew_ok hm) callingA_nil)) Tryz.call30 Tryz.func30 (by kernel_rfl) (by kernel_rfl) false (qex_den qev_A qew_A)
theorem qey_ok (_hm:PM):EntryOK Tryz.prog 65 (upE (qey_E qey_A)):=stub_ok Tryz.call65 rfl
theorem qez_ok (_hm:PM):EntryOK Tryz.prog 66 (upE (qez_E qez_A)):=stub_ok Tryz.call66 rfl
theorem qfa_ok (_hm:PM):EntryOK Tryz.prog 67 (upE (qfa_E qfa_A)):=stub_ok Tryz.call67 rfl
theorem qfb_ok (_hm:PM):EntryOK Tryz.prog 68 (upE (qfb_E qfb_A)):=stub_ok Tryz.call68 rfl
def qfc_ann:AnnA:=(s0 (s1 (s1 (.draw 9) (s0 (.cond (s0 .leaf) .leaf))) (s1 (.drawS [0,1,2,3,4,5,6,7,8,9,10,11] [9]) (s1 (.draw 33) (.seq (some ⟨[11],[],[]⟩) (s0 (.cond (.draw 6) .leaf)) (s0 .leaf))))))
theorem qfc_den (f_qey:qey_T) (f_qez:qez_T) (f_qfa:qfa_T) (f_qfb:qfb_T):qfc_W (qfc_G f_qey f_qez f_qfa f_qfb)=curS [.c .p,.c (.i .i64),.agg [(.i .i64),(.i .i64),(.i .i64),.b,.b,.b,(.i .u64),(.i .i64),(.i .u64),(.i .i64),(.i .i64),(.i .i64),(.i .i64)]] EnR fun vs K Kp A=>denFnA Tryz.prog (tabA [(65,qey_E f_qey),(66,qez_E f_qez),(67,qfa_E f_qfa),(68,qfb_E f_qfb)]) [5,9] Tryz.f31 qfc_ann vs K (np false Kp) A:=by kernel_rfl
theorem qfc_ok (hm:PM):EntryOK Tryz.prog 31 (upE (qfc_E qfc_A)):=entA hm (callingA_cons (qey_ok hm) (callingA_cons (qez_ok hm) (callingA_cons (qfa_ok hm) (callingA_cons (qfb_ok hm) callingA_nil)))) Tryz.call31 Tryz.func31 (by kernel_rfl) (by kernel_rfl) false (qfc_den qey_A qez_A qfa_A qfb_A)
theorem qfd_ok (_hm:PM):EntryOK Tryz.prog 70 (upE (qfd_E qfd_A)):=stub_ok Tryz.call70 rfl
theorem qfe_ok (_hm:PM):EntryOK Tryz.prog 69 (upE (qfe_E qfe_A)):=stub_ok Tryz.call69 rfl
def qff_ann:AnnA:=(s0 (s0 (s1 (s0 (.cond .leaf .leaf)) (s0 (.seq (some ⟨[10],[],[]⟩) (s0 (.cond .leaf .leaf)) (s0 .leaf))))))
theorem qff_den (f_qfb:qfb_T) (f_qfd:qfd_T) (f_qfe:qfe_T):qff_W (qff_G f_qfb f_qfd f_qfe)=curS [.c .p,.c (.i .i64),.agg [(.i .i64),(.i .i64),(.i .i64),.b,.b,.b,(.i .u64),(.i .i64),(.i .u64),(.i .i64),(.i .i64),(.i .i64),(.i .i64)]] EnR fun vs K Kp A=>denFnA Tryz.prog (tabA [(68,qfb_E f_qfb),(70,qfd_E f_qfd),(69,qfe_E f_qfe)]) [5,9] Tryz.f32 qff_ann vs K (np false Kp) A:=by kernel_rfl
theorem qff_ok (hm:PM):EntryOK Tryz.prog 32 (upE (qff_E qff_A)):=entA hm (callingA_cons (qfb_ok hm) (callingA_cons (qfd_ok hm) (callingA_cons (qfe_ok hm) callingA_nil))) Tryz.call32 Tryz.func32 (by kernel_rfl) (by kernel_rfl) false (qff_den qfb_A qfd_A qfe_A)
theorem qfg_ok (_hm:PM):EntryOK Tryz.prog 71 (upE (qfg_E qfg_A)):=stub_ok Tryz.call71 rfl
theorem qfh_ok (_hm:PM):EntryOK Tryz.prog 72 (upE (qfh_E qfh_A)):=stub_ok Tryz.call72 rfl
def qfi_ann:AnnA:=(s0 (.seq (some ⟨[],[],[]⟩) (.block (s0 (.cond (s1 (.drawS [0,1,2,3,4,6,11,5,7,8,9,10,12,13,14,15,16,17,18] []) (s0 .leaf)) (s0 (.cond .leaf (s0 (.cond (s0 .leaf) .leaf))))))) (s0 .leaf)))
theorem qfi_den (f_qcg:qcg_T) (f_qfg:qfg_T) (f_qfh:qfh_T):qfi_W (qfi_G f_qcg f_qfg f_qfh)=curS [.c .p,.c (.i .i64),.agg [(.i .i64),(.i .i64),(.i .i64),.b,.b,.b,(.i .u64),(.i .i64),(.i .u64),(.i .i64),(.i .i64),(.i .i64),(.i .i64)]] EnR fun vs K Kp A=>denFnA Tryz.prog (tabA [(23,qcg_E f_qcg),(71,qfg_E f_qfg),(72,qfh_E f_qfh)]) [5] Tryz.f33 qfi_ann vs K (np false Kp) A:=by kernel_rfl
theorem qfi_ok (hm:PM):EntryOK Tryz.prog 33 (upE (qfi_E qfi_A)):=entA hm (callingA_cons (qcg_ok hm) (callingA_cons (qfg_ok hm) (callingA_cons (qfh_ok hm) callingA_nil))) Tryz.call33 Tryz.func33 (by kernel_rfl) (by kernel_rfl) false (qfi_den qcg_A qfg_A qfh_A)
def qfj_ann:AnnA:=(s0 (s1 (s0 (.cond (s0 .leaf) .leaf)) (s0 (s0 .leaf))))
theorem qfj_den:qfj_W (qfj_A)=curS [.agg [(.i .u64),(.i .u64),(.i .u64),(.i .u64),(.i .i64),(.i .u64),.b,(.i .u64),(.i .i64),(.i .u64),(.i .u64),(.i .u64),(.i .u64)],.c (.i .u64)] EnR fun vs K Kp A=>denFnA Tryz.prog (tabA []) [2,4] Tryz.f73 qfj_ann vs K (np false Kp) A:=by kernel_rfl
theorem qfj_ok (hm:PM):EntryOK Tryz.prog 73 (upE (qfj_E qfj_A)):=entA hm callingA_nil Tryz.call73 Tryz.func73 (by kernel_rfl) (by kernel_rfl) false qfj_den
def qfk_ann:AnnA:=(s0 (s1 (s0 (.cond (s0 .leaf) .leaf)) (s0 (s0 .leaf))))
theorem qfk_den:qfk_W (qfk_A)=curS [.agg [(.i .u64),(.i .u64),(.i .u64),(.i .u64),(.i .i64),(.i .u64),.b,(.i .u64),(.i .i64),(.i .u64),(.i .u64),(.i .u64),(.i .u64)]] EnR fun vs K Kp A=>denFnA Tryz.prog (tabA []) [1,2] Tryz.f74 qfk_ann vs K (np false Kp) A:=by kernel_rfl
theorem qfk_ok (hm:PM):EntryOK Tryz.prog 74 (upE (qfk_E qfk_A)):=entA hm callingA_nil Tryz.call74 Tryz.func74 (by kernel_rfl) (by kernel_rfl) false qfk_den
theorem qfl_ok (_hm:PM):EntryOK Tryz.prog 75 (upE (qfl_E qfl_A)):=stub_ok Tryz.call75 rfl
def qfm_ann:AnnA:=(s0 (s1 (s0 (.block (.loop ⟨[5,6],[(7,(.c (.i .i64)))],[]⟩ (s0 (s1 (.cond .leaf .leaf) (s1 (.block (s0 (s0 (.cond (s0 .leaf) .leaf)))) .leaf)))))) (s0 .leaf)))
theorem qfm_den:qfm_W (qfm_A)=curS [.c .s] EnR fun vs K Kp A=>denFnA Tryz.prog (tabA []) [] Tryz.f124 qfm_ann vs K (np false Kp) A:=by kernel_rfl
theorem qfm_ok (hm:PM):EntryOK Tryz.prog 124 (upE (qfm_E qfm_A)):=entA hm callingA_nil Tryz.call124 Tryz.func124 (by kernel_rfl) (by kernel_rfl) false qfm_den
def qfn_ann:AnnA:=(s0 (s1 (s0 (.cond (s0 .leaf) .leaf)) (s0 (s0 .leaf))))
theorem qfn_den (f_qfm:qfm_T):qfn_W (qfn_G f_qfm)=curS [.agg [(.i .u64),(.i .u64),(.i .u64),(.i .u64),(.i .i64),(.i .u64),.b,(.i .u64),(.i .i64),(.i .u64),(.i .u64),(.i .u64),(.i .u64)],.c (.i .i64),.c (.i .u64)] EnR fun vs K Kp A=>denFnA Tryz.prog (tabA [(124,qfm_E f_qfm)]) [6] Tryz.f76 qfn_ann vs K (np false Kp) A:=by kernel_rfl
theorem qfn_ok (hm:PM):EntryOK Tryz.prog 76 (upE (qfn_E qfn_A)):=entA hm (callingA_cons (qfm_ok hm) callingA_nil) Tryz.call76 Tryz.func76 (by kernel_rfl) (by kernel_rfl) false (qfn_den qfm_A)
def qfo_ann:AnnA:=(s0 (s0 (s0 (.seq (some ⟨[],[(9,(.c (.i .i64)))],[]⟩) (s0 (.block (s0 (.cond (.drawS [0,1,2,3,5,4,6,7,8,9,10,11,12,13,14] []) (s0 (.cond .leaf (s0 (.cond (.drawS [0,1,2,3,5,7,9,11,4,6,8,10,12,13,14,15,16,17,18,19,20] []) (.drawS [0,1,2,3,5,7,4,6,8,9,10,11,12,13,14,15,16] []))))))))) (s0 .leaf)))))
theorem qfo_den (f_qfj:qfj_T) (f_qfk:qfk_T) (f_qfl:qfl_T) (f_qfn:qfn_T):qfo_W (qfo_G f_qfj f_qfk f_qfl f_qfn)=curS [.c .p,.c (.i .i64),.agg [(.i .i64),(.i .i64),(.i .i64),.b,.b,.b,(.i .u64),(.i .i64),(.i .u64),(.i .i64),(.i .i64),(.i .i64),(.i .i64)]] EnR fun vs K Kp A=>denFnA Tryz.prog (tabA [(73,qfj_E f_qfj),(74,qfk_E f_qfk),(75,qfl_E f_qfl),(76,qfn_E f_qfn)]) [5] Tryz.f34 qfo_ann vs K (np false Kp) A:=by kernel_rfl
theorem qfo_ok (hm:PM):EntryOK Tryz.prog 34 (upE (qfo_E qfo_A)):=entA hm (callingA_cons (qfj_ok hm) (callingA_cons (qfk_ok hm) (callingA_cons (qfl_ok hm) (callingA_cons (qfn_ok hm) callingA_nil)))) Tryz.call34 Tryz.func34 (by kernel_rfl) (by kernel_rfl) false (qfo_den qfj_A qfk_A qfl_A qfn_A)
def qfp_ann:AnnA:=(s0 (s1 (s0 (.cond (s0 .leaf) .leaf)) (s0 (s0 (s1 (s0 (.cond (s0 .leaf) .leaf)) (.seq (some ⟨[0,4,5,7],[],[(4,(0,(.i .i64))),(4,(1,(.i .u64))),(4,(2,(.i .i64))),(4,(3,(.i .u64))),(4,(4,(.i .i64))),(4,(5,.b))]⟩) (s0 (.cond (s0 .leaf) .leaf)) (s0 (.seq (some ⟨[4,9],[],[(9,(1,(.i .u64))),(9,(2,(.i .i64)))]⟩) (s0 (.block (.seq (some ⟨[0,4,5,7,9,49],[(59,(.c .b))],[]⟩) (s0 (.cond .leaf (s0 (.cond .leaf .leaf)))) (.cond .leaf (s0 (.cond .leaf (s0 (.cond .leaf (.seq (some ⟨[0,4,5,7,9,49],[(94,(.c .b))],[]⟩) (s0 (.cond .leaf .leaf)) (.cond .leaf (.seq (some ⟨[0,4,5,7,9],[(106,(.c .b))],[]⟩) (s0 (.cond .leaf (s0 (.cond .leaf .leaf)))) (.cond .leaf .leaf)))))))))))) (s0 .leaf)))))))))
theorem qfp_den (f_qci:qci_T) (f_qcr:qcr_T) (f_qee:qee_T) (f_qeu:qeu_T) (f_qex:qex_T) (f_qfc:qfc_T) (f_qff:qff_T) (f_qfi:qfi_T) (f_qfo:qfo_T):qfp_W (qfp_G f_qci f_qcr f_qee f_qeu f_qex f_qfc f_qff f_qfi f_qfo)=curS [.c .p,.agg [(.i .u64),(.i .u64),(.i .u64),(.i .u64),(.i .u64),(.i .u64)]] EnR fun vs K Kp A=>denFnA Tryz.prog (tabA [(26,qci_E f_qci),(27,qcr_E f_qcr),(28,qee_E f_qee),(29,qeu_E f_qeu),(30,qex_E f_qex),(31,qfc_E f_qfc),(32,qff_E f_qff),(33,qfi_E f_qfi),(34,qfo_E f_qfo)]) [3,4,7,9] Tryz.f11 qfp_ann vs K (np false Kp) A:=by kernel_rfl
theorem qfp_ok (hm:PM):EntryOK Tryz.prog 11 (upE (qfp_E qfp_A)):=entA hm (callingA_cons (qci_ok hm) (callingA_cons (qcr_ok hm) (callingA_cons (qee_ok hm) (callingA_cons (qeu_ok hm) (callingA_cons (qex_ok hm) (callingA_cons (qfc_ok hm) (callingA_cons (qff_ok hm) (callingA_cons (qfi_ok hm) (callingA_cons (qfo_ok hm) callingA_nil))))))))) Tryz.call11 Tryz.func11 (by kernel_rfl) (by kernel_rfl) false (qfp_den qci_A qcr_A qee_A qeu_A qex_A qfc_A qff_A qfi_A qfo_A)
def qfq_ann:AnnA:=(s0 (s1 (s0 (.cond (s0 .leaf) .leaf)) (s0 (s0 .leaf))))
theorem qfq_den (f_qci:qci_T):qfq_W (qfq_G f_qci)=curS [.c .p] EnR fun vs K Kp A=>denFnA Tryz.prog (tabA [(26,qci_E f_qci)]) [] Tryz.f16 qfq_ann vs K (np false Kp) A:=by kernel_rfl
theorem qfq_ok (hm:PM):EntryOK Tryz.prog 16 (upE (qfq_E qfq_A)):=entA hm (callingA_cons (qci_ok hm) callingA_nil) Tryz.call16 Tryz.func16 (by kernel_rfl) (by kernel_rfl) false (qfq_den qci_A)
def qfr_ann:AnnA:=(s0 (s0 (.seq (some ⟨[1],[],[]⟩) (s0 (.cond (s0 .leaf) .leaf)) (s0 (s0 (s0 (s0 (s0 .leaf))))))))
theorem qfr_den (f_qac:qac_T) (f_qch:qch_T) (f_qfp:qfp_T) (f_qfq:qfq_T):qfr_W (qfr_G f_qac f_qch f_qfp f_qfq)=curS [] EnR fun vs K Kp A=>denFnA Tryz.prog (tabA [(10,qac_E f_qac),(9,qch_E f_qch),(11,qfp_E f_qfp),(16,qfq_E f_qfq)]) [3,4,5,6] Tryz.f8 qfr_ann vs K (np false Kp) A:=by kernel_rfl
theorem qfr_ok (hm:PM):EntryOK Tryz.prog 8 (upE (qfr_E qfr_A)):=entA hm (callingA_cons (qac_ok hm) (callingA_cons (qch_ok hm) (callingA_cons (qfp_ok hm) (callingA_cons (qfq_ok hm) callingA_nil)))) Tryz.call8 Tryz.func8 (by kernel_rfl) (by kernel_rfl) false (qfr_den qac_A qch_A qfp_A qfq_A)
def qfs_ann:AnnA:=(s0 (s1 (s0 (s0 (.cond (s0 .leaf) .leaf))) (s0 .leaf)))
theorem qfs_den (f_qav:qav_T):qfs_W (qfs_G f_qav)=curS [.c .p,.c (.i .i64)] EnR fun vs K Kp A=>denFnA Tryz.prog (tabA [(54,qav_E f_qav)]) [4] Tryz.f35 qfs_ann vs K (np false Kp) A:=by kernel_rfl
theorem qfs_ok (hm:PM):EntryOK Tryz.prog 35 (upE (qfs_E qfs_A)):=entA hm (callingA_cons (qav_ok hm) callingA_nil) Tryz.call35 Tryz.func35 (by kernel_rfl) (by kernel_rfl) false (qfs_den qav_A)
def qft_ann:AnnA:=(s0 (s0 (s1 (s0 (.cond (s0 .leaf) .leaf)) (s1 (.drawS [0,1,2,10,11,12,3,4,5,6,7,8,9,13,14,15,16,17,18,19,20] [18]) (s1 (.drawS [0,1,2,4,5,6,8,10,12,13,14,22,23,24,27,28,29,3,7,9,11,15,16,17,18,19,20,21,25,30,26,31,32,33] []) .leaf)))))
theorem qft_den (f_qfs:qfs_T) (f_qaw:qaw_T):qft_W (qft_G f_qfs f_qaw)=curS [.c .p,.c (.i .i64)] EnR fun vs K Kp A=>denFnA Tryz.prog (tabA [(35,qfs_E f_qfs),(24,qaw_E f_qaw)]) [4,7] Tryz.f12 qft_ann vs K (np false Kp) A:=by kernel_rfl
theorem qft_ok (hm:PM):EntryOK Tryz.prog 12 (upE (qft_E qft_A)):=entA hm (callingA_cons (qfs_ok hm) (callingA_cons (qaw_ok hm) callingA_nil)) Tryz.call12 Tryz.func12 (by kernel_rfl) (by kernel_rfl) false (qft_den qfs_A qaw_A)
def qfu_ann:AnnA:=(s0 (.seq (some ⟨[0,1,3,6],[],[]⟩) (s0 (.cond (s0 .leaf) .leaf)) (s0 (s0 (.seq (some ⟨[0,1,3,6,9],[],[]⟩) (s0 (.cond (s0 .leaf) .leaf)) (s1 (s0 (.block (.loop ⟨[0,1,3,9,52],[(53,(.c (.i .i64)))],[]⟩ (s0 (s1 (.cond .leaf .leaf) (s1 (.block (s0 .leaf)) .leaf)))))) (s0 (s0 (s0 (.seq (some ⟨[1,9,13,15],[(16,(.c (.i .i64)))],[(15,(0,(.i .u64))),(15,(1,(.i .u64))),(15,(2,(.i .u64))),(15,(3,(.i .u64))),(15,(4,(.i .u64))),(15,(5,(.i .u64)))]⟩) (s0 (.cond .leaf .leaf)) (s0 (s0 (s0 (s0 (s0 (s0 (s0 (.seq (some ⟨[1,13,16,18,21,22],[],[]⟩) (s0 (.cond (s0 .leaf) .leaf)) (s0 .leaf)))))))))))))))))))
theorem qfu_den (f_qfr:qfr_T) (f_qac:qac_T) (f_qch:qch_T) (f_qfp:qfp_T) (f_qft:qft_T):qfu_W (qfu_G f_qfr f_qac f_qch f_qfp f_qft)=curS [.c (.i .u64),.c (.i .u64),.agg [(.i .u64),(.i .u64),(.i .u64),(.i .u64)],.c .b] EnR fun vs K Kp A=>denFnA Tryz.prog (tabA [(8,qfr_E f_qfr),(10,qac_E f_qac),(9,qch_E f_qch),(11,qfp_E f_qfp),(12,qft_E f_qft)]) [6,13,15,17,18,20,21,22,24,25] Tryz.f3 qfu_ann vs K (np false Kp) A:=by kernel_rfl
theorem qfu_ok (hm:PM):EntryOK Tryz.prog 3 (upE (qfu_E qfu_A)):=entA hm (callingA_cons (qfr_ok hm) (callingA_cons (qac_ok hm) (callingA_cons (qch_ok hm) (callingA_cons (qfp_ok hm) (callingA_cons (qft_ok hm) callingA_nil))))) Tryz.call3 Tryz.func3 (by kernel_rfl) (by kernel_rfl) false (qfu_den qfr_A qac_A qch_A qfp_A qft_A)
end Go.Dn
