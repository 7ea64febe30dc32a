/- Printed by gen3.py: that each function does so. -/
import Derived.Test.YtmfmhmipcdgikaaGreatG
import Derived.Test.YtmfmhmipcdgikaaGreatParseE
import Derived.Test.YtmfmhmipcdgikaaGreatSortE
import Derived.Test.YtmfmhmipcdgikaaGreatProg
import Derived.KernelRfl
import Derived.Ground.GgzProg
namespace Go.Dn
open Go.Proofs Go.Shelf
set_option maxRecDepth 100000
abbrev PM:Prop:=Tryz.prog.follows .mixedOrders=true
abbrev s1 (x y:AnnA):AnnA:=.seq none x y
abbrev s0 (x:AnnA):AnnA:=.seq none .leaf x
abbrev DR {l:List PSh} (t:List (FuncId × EnA)) (d:List Nat) (f:Func) (a:AnnA) (b:Bool):aW l EnR:=kL l EnR λvs K Kp A=>aB4 Tryz.prog (oP t) d f a vs K (np b Kp) A
abbrev EO (n:FuncId) (E:EnA):Prop:=bA Tryz.prog n (k8 E)
theorem EA (hm:PM) {t:List (FuncId × EnA)} (hC:cG Tryz.prog (nI (oP t))) {f:FuncId} {fn:Func} {pm:List Nat} {ann:AnnA} {l:List PSh} {F:aW l EnR} (he:∀ (xs:Array Value) (w:World),(callFunc f xs).run Tryz.prog w = .ok (.enter f xs) w) (hf:Tryz.prog.funcs[f]? = some fn) (b0:Bool) (hF:F=DR t pm fn ann b0) (hb:fn.body.isSome=true:=by kernel_rfl) (hn:Nat.ble l.length fn.ntmps=true:=by kernel_rfl):EO f (bB l F):=aJY hm hC he hf hb hn b0 hF
abbrev qaa_E (f:qaa_T):EnA:=bB _ (qaa_W f)
abbrev qab_E (f:qab_T):EnA:=bB _ (qab_W f)
abbrev qac_E (f:qac_T):EnA:=bB _ (qac_W f)
abbrev qad_E (f:qad_T):EnA:=bB _ (qad_W f)
abbrev qae_E (f:qae_T):EnA:=bB _ (qae_W f)
abbrev qaf_E (f:qaf_T):EnA:=bB _ (qaf_W f)
abbrev qag_E (f:qag_T):EnA:=bB _ (qag_W f)
abbrev qah_E (f:qah_T):EnA:=bB _ (qah_W f)
abbrev qai_E (f:qai_T):EnA:=bB _ (qai_W f)
abbrev qaj_E (f:qaj_T):EnA:=bB _ (qaj_W f)
abbrev qak_E (f:qak_T):EnA:=bB _ (qak_W f)
abbrev qal_E (f:qal_T):EnA:=bB _ (qal_W f)
abbrev qam_E (f:qam_T):EnA:=bB _ (qam_W f)
abbrev qan_E (f:qan_T):EnA:=bB _ (qan_W f)
abbrev qao_E (f:qao_T):EnA:=bB _ (qao_W f)
abbrev qap_E (f:qap_T):EnA:=bB _ (qap_W f)
abbrev qaq_E (f:qaq_T):EnA:=bB _ (qaq_W f)
abbrev qar_E (f:qar_T):EnA:=bB _ (qar_W f)
abbrev qas_E (f:qas_T):EnA:=bB _ (qas_W f)
abbrev qat_E (f:qat_T):EnA:=bB _ (qat_W f)
abbrev qau_E (f:qau_T):EnA:=bB _ (qau_W f)
abbrev qav_E (f:qav_T):EnA:=bB _ (qav_W f)
abbrev qaw_E (f:qaw_T):EnA:=bB _ (qaw_W f)
abbrev qax_E (f:qax_T):EnA:=bB _ (qax_W f)
abbrev qay_E (f:qay_T):EnA:=bB _ (qay_W f)
abbrev qaz_E (f:qaz_T):EnA:=bB _ (qaz_W f)
abbrev qba_E (f:qba_T):EnA:=bB _ (qba_W f)
abbrev qbb_E (f:qbb_T):EnA:=bB _ (qbb_W f)
abbrev qbc_E (f:qbc_T):EnA:=bB _ (qbc_W f)
abbrev qbd_E (f:qbd_T):EnA:=bB _ (qbd_W f)
abbrev qbe_E (f:qbe_T):EnA:=bB _ (qbe_W f)
abbrev qbf_E (f:qbf_T):EnA:=bB _ (qbf_W f)
abbrev qbg_E (f:qbg_T):EnA:=bB _ (qbg_W f)
abbrev qbh_E (f:qbh_T):EnA:=bB _ (qbh_W f)
abbrev qbi_E (f:qbi_T):EnA:=bB _ (qbi_W f)
abbrev qbj_E (f:qbj_T):EnA:=bB _ (qbj_W f)
abbrev qbk_E (f:qbk_T):EnA:=bB _ (qbk_W f)
abbrev qbl_E (f:qbl_T):EnA:=bB _ (qbl_W f)
abbrev qbm_E (f:qbm_T):EnA:=bB _ (qbm_W f)
abbrev qbn_E (f:qbn_T):EnA:=bB _ (qbn_W f)
abbrev qbo_E (f:qbo_T):EnA:=bB _ (qbo_W f)
abbrev qbp_E (f:qbp_T):EnA:=bB _ (qbp_W f)
abbrev qbq_E (f:qbq_T):EnA:=bB _ (qbq_W f)
abbrev qbr_E (f:qbr_T):EnA:=bB _ (qbr_W f)
abbrev qbs_E (f:qbs_T):EnA:=bB _ (qbs_W f)
abbrev qbt_E (f:qbt_T):EnA:=bB _ (qbt_W f)
abbrev qbu_E (f:qbu_T):EnA:=bB _ (qbu_W f)
abbrev qbv_E (f:qbv_T):EnA:=bB _ (qbv_W f)
abbrev qbw_E (f:qbw_T):EnA:=bB _ (qbw_W f)
abbrev qbx_E (f:qbx_T):EnA:=bB _ (qbx_W f)
abbrev qby_E (f:qby_T):EnA:=bB _ (qby_W f)
abbrev qbz_E (f:qbz_T):EnA:=bB _ (qbz_W f)
abbrev qca_E (f:qca_T):EnA:=bB _ (qca_W f)
abbrev qcb_E (f:qcb_T):EnA:=bB _ (qcb_W f)
abbrev qcc_E (f:qcc_T):EnA:=bB _ (qcc_W f)
abbrev qcd_E (f:qcd_T):EnA:=bB _ (qcd_W f)
abbrev qce_E (f:qce_T):EnA:=bB _ (qce_W f)
abbrev qcf_E (f:qcf_T):EnA:=bB _ (qcf_W f)
abbrev qcg_E (f:qcg_T):EnA:=bB _ (qcg_W f)
abbrev qch_E (f:qch_T):EnA:=bB _ (qch_W f)
abbrev qci_E (f:qci_T):EnA:=bB _ (qci_W f)
abbrev qcj_E (f:qcj_T):EnA:=bB _ (qcj_W f)
abbrev qck_E (f:qck_T):EnA:=bB _ (qck_W f)
abbrev qcl_E (f:qcl_T):EnA:=bB _ (qcl_W f)
abbrev qcm_E (f:qcm_T):EnA:=bB _ (qcm_W f)
abbrev qcn_E (f:qcn_T):EnA:=bB _ (qcn_W f)
abbrev qco_E (f:qco_T):EnA:=bB _ (qco_W f)
abbrev qcp_E (f:qcp_T):EnA:=bB _ (qcp_W f)
abbrev qcq_E (f:qcq_T):EnA:=bB _ (qcq_W f)
abbrev qcr_E (f:qcr_T):EnA:=bB _ (qcr_W f)
abbrev qcs_E (f:qcs_T):EnA:=bB _ (qcs_W f)
abbrev qcu_E (f:qcu_T):EnA:=bB _ (qcu_W f)
abbrev qcv_E (f:qcv_T):EnA:=bB _ (qcv_W f)
abbrev qcw_E (f:qcw_T):EnA:=bB _ (qcw_W f)
abbrev qcx_E (f:qcx_T):EnA:=bB _ (qcx_W f)
abbrev qcy_E (f:qcy_T):EnA:=bB _ (qcy_W f)
abbrev qcz_E (f:qcz_T):EnA:=bB _ (qcz_W f)
abbrev qda_E (f:qda_T):EnA:=bB _ (qda_W f)
abbrev qdb_E (f:qdb_T):EnA:=bB _ (qdb_W f)
abbrev qdc_E (f:qdc_T):EnA:=bB _ (qdc_W f)
abbrev qdd_E (f:qdd_T):EnA:=bB _ (qdd_W f)
abbrev qde_E (f:qde_T):EnA:=bB _ (qde_W f)
abbrev qdf_E (f:qdf_T):EnA:=bB _ (qdf_W f)
abbrev qdg_E (f:qdg_T):EnA:=bB _ (qdg_W f)
abbrev qdh_E (f:qdh_T):EnA:=bB _ (qdh_W f)
abbrev qdi_E (f:qdi_T):EnA:=bB _ (qdi_W f)
abbrev qdj_E (f:qdj_T):EnA:=bB _ (qdj_W f)
abbrev qdk_E (f:qdk_T):EnA:=bB _ (qdk_W f)
abbrev qdl_E (f:qdl_T):EnA:=bB _ (qdl_W f)
abbrev qdm_E (f:qdm_T):EnA:=bB _ (qdm_W f)
abbrev qdn_E (f:qdn_T):EnA:=bB _ (qdn_W f)
abbrev qdo_E (f:qdo_T):EnA:=bB _ (qdo_W f)
abbrev qdp_E (f:qdp_T):EnA:=bB _ (qdp_W f)
abbrev qdq_E (f:qdq_T):EnA:=bB _ (qdq_W f)
abbrev qdr_E (f:qdr_T):EnA:=bB _ (qdr_W f)
abbrev qds_E (f:qds_T):EnA:=bB _ (qds_W f)
abbrev qdt_E (f:qdt_T):EnA:=bB _ (qdt_W f)
abbrev qdu_E (f:qdu_T):EnA:=bB _ (qdu_W f)
abbrev qdv_E (f:qdv_T):EnA:=bB _ (qdv_W f)
abbrev qdw_E (f:qdw_T):EnA:=bB _ (qdw_W f)
abbrev qdx_E (f:qdx_T):EnA:=bB _ (qdx_W f)
abbrev qdy_E (f:qdy_T):EnA:=bB _ (qdy_W f)
abbrev qdz_E (f:qdz_T):EnA:=bB _ (qdz_W f)
abbrev qeb_E (f:qeb_T):EnA:=bB _ (qeb_W f)
abbrev qec_E (f:qec_T):EnA:=bB _ (qec_W f)
abbrev qed_E (f:qed_T):EnA:=bB _ (qed_W f)
abbrev qef_E (f:qef_T):EnA:=bB _ (qef_W f)
abbrev qeg_E (f:qeg_T):EnA:=bB _ (qeg_W f)
abbrev qeh_E (f:qeh_T):EnA:=bB _ (qeh_W f)
abbrev qei_E (f:qei_T):EnA:=bB _ (qei_W f)
abbrev qej_E (f:qej_T):EnA:=bB _ (qej_W f)
abbrev qek_E (f:qek_T):EnA:=bB _ (qek_W f)
abbrev qel_E (f:qel_T):EnA:=bB _ (qel_W f)
abbrev qem_E (f:qem_T):EnA:=bB _ (qem_W f)
abbrev qen_E (f:qen_T):EnA:=bB _ (qen_W f)
abbrev qeo_E (f:qeo_T):EnA:=bB _ (qeo_W f)
abbrev qep_E (f:qep_T):EnA:=bB _ (qep_W f)
abbrev qeq_E (f:qeq_T):EnA:=bB _ (qeq_W f)
abbrev qer_E (f:qer_T):EnA:=bB _ (qer_W f)
abbrev qes_E (f:qes_T):EnA:=bB _ (qes_W f)
abbrev qet_E (f:qet_T):EnA:=bB _ (qet_W f)
abbrev qeu_E (f:qeu_T):EnA:=bB _ (qeu_W f)
abbrev qev_E (f:qev_T):EnA:=bB _ (qev_W f)
abbrev qew_E (f:qew_T):EnA:=bB _ (qew_W f)
abbrev qex_E (f:qex_T):EnA:=bB _ (qex_W f)
abbrev qey_E (f:qey_T):EnA:=bB _ (qey_W f)
abbrev qez_E (f:qez_T):EnA:=bB _ (qez_W f)
abbrev qfa_E (f:qfa_T):EnA:=bB _ (qfa_W f)
abbrev qfb_E (f:qfb_T):EnA:=bB _ (qfb_W f)
abbrev qfc_E (f:qfc_T):EnA:=bB _ (qfc_W f)
abbrev qfd_E (f:qfd_T):EnA:=bB _ (qfd_W f)
abbrev qfe_E (f:qfe_T):EnA:=bB _ (qfe_W f)
abbrev qff_E (f:qff_T):EnA:=bB _ (qff_W f)
abbrev qfg_E (f:qfg_T):EnA:=bB _ (qfg_W f)
abbrev qfh_E (f:qfh_T):EnA:=bB _ (qfh_W f)
abbrev qfi_E (f:qfi_T):EnA:=bB _ (qfi_W f)
abbrev qfj_E (f:qfj_T):EnA:=bB _ (qfj_W f)
abbrev qfk_E (f:qfk_T):EnA:=bB _ (qfk_W f)
abbrev qfl_E (f:qfl_T):EnA:=bB _ (qfl_W f)
abbrev qfm_E (f:qfm_T):EnA:=bB _ (qfm_W f)
abbrev qfn_E (f:qfn_T):EnA:=bB _ (qfn_W f)
abbrev qfo_E (f:qfo_T):EnA:=bB _ (qfo_W f)
abbrev qfp_E (f:qfp_T):EnA:=bB _ (qfp_W f)
abbrev qfq_E (f:qfq_T):EnA:=bB _ (qfq_W f)
abbrev qfr_E (f:qfr_T):EnA:=bB _ (qfr_W f)
abbrev qfs_E (f:qfs_T):EnA:=bB _ (qfs_W f)
abbrev qft_E (f:qft_T):EnA:=bB _ (qft_W f)
abbrev qfu_E (f:qfu_T):EnA:=bB _ (qfu_W f)
abbrev qfv_E (f:qfv_T):EnA:=bB _ (qfv_W f)
abbrev qfw_E (f:qfw_T):EnA:=bB _ (qfw_W f)
abbrev qfx_E (f:qfx_T):EnA:=bB _ (qfx_W f)
abbrev qfy_E (f:qfy_T):EnA:=bB _ (qfy_W f)
abbrev qfz_E (f:qfz_T):EnA:=bB _ (qfz_W f)
abbrev qga_E (f:qga_T):EnA:=bB _ (qga_W f)
abbrev qgb_E (f:qgb_T):EnA:=bB _ (qgb_W f)
abbrev qgc_E (f:qgc_T):EnA:=bB _ (qgc_W f)
abbrev qgd_E (f:qgd_T):EnA:=bB _ (qgd_W f)
abbrev qge_E (f:qge_T):EnA:=bB _ (qge_W f)
abbrev qgf_E (f:qgf_T):EnA:=bB _ (qgf_W f)
abbrev qgg_E (f:qgg_T):EnA:=bB _ (qgg_W f)
abbrev qgh_E (f:qgh_T):EnA:=bB _ (qgh_W f)
abbrev qgi_E (f:qgi_T):EnA:=bB _ (qgi_W f)
abbrev qgj_E (f:qgj_T):EnA:=bB _ (qgj_W f)
def qaa_ann:AnnA:=(s0 (s0 (s1 (s0 (.block (.loop ⟨[0,1,2,7],[(8,(.c (.i .i64)))],[]⟩ (s1 (s0 (.cond .leaf .leaf)) (s1 (.block (s0 .leaf)) .leaf))))) (s1 (s0 (.block (.loop ⟨[2,7],[(9,(.c (.i .i64)))],[]⟩ (s1 (s0 (.cond .leaf .leaf)) (s1 (.block .leaf) .leaf))))) (s0 .leaf)))))
theorem qaa_den:qaa_W (qaa_A)=DR [] [] Tryz.f55 qaa_ann false:=by kernel_rfl
theorem qaa_ok (hm:PM):EO 55 (qaa_E qaa_A):=EA hm aD Tryz.call55 Tryz.func55 false qaa_den
def qab_ann:AnnA:=(s0 (s0 .leaf))
theorem qab_den (f_qaa:qaa_T):qab_W (qab_G f_qaa)=DR [(55,qaa_E f_qaa)] [4] Tryz.f25 qab_ann false:=by kernel_rfl
theorem qab_ok (hm:PM):EO 25 (qab_E qab_A):=EA hm (aA (qaa_ok hm) aD) Tryz.call25 Tryz.func25 false (qab_den qaa_A)
def qac_ann:AnnA:=(s0 (.seq (some ⟨[0,1,2,8],[(3,(.c .s))],[]⟩) (s0 (.cond .leaf .leaf)) (s0 .leaf)))
theorem qac_den (f_qab:qab_T):qac_W (qac_G f_qab)=DR [(25,qab_E f_qab)] [8] Tryz.f10 qac_ann false:=by kernel_rfl
theorem qac_ok (hm:PM):EO 10 (qac_E qac_A):=EA hm (aA (qab_ok hm) aD) Tryz.call10 Tryz.func10 false (qac_den qab_A)
theorem qad_ok (_hm:PM):bA Tryz.prog 82 (k8 (qad_E qad_A)):=aFY rfl
def qae_ann:AnnA:=(s0 (s1 (.draw 11) (.seq (some ⟨[1,2,4],[(5,(.c (.i .u64))),(6,(.c (.i .u64)))],[]⟩) (s0 (.cond (s0 (.cond .leaf .leaf)) (s0 (.cond .leaf .leaf)))) (.seq (some ⟨[1,4,5],[(6,(.c (.i .u64)))],[]⟩) (s0 (.cond .leaf .leaf)) (s0 .leaf)))))
theorem qae_den:qae_W (qae_A)=DR [] [2,4] Tryz.f83 qae_ann false:=by kernel_rfl
theorem qae_ok (hm:PM):EO 83 (qae_E qae_A):=EA hm aD Tryz.call83 Tryz.func83 false qae_den
def qaf_ann:AnnA:=(s0 (s1 (s0 (.cond (s0 .leaf) .leaf)) (s0 .leaf)))
theorem qaf_den:qaf_W (qaf_A)=DR [] [] Tryz.f180 qaf_ann false:=by kernel_rfl
theorem qaf_ok (hm:PM):EO 180 (qaf_E qaf_A):=EA hm aD Tryz.call180 Tryz.func180 false qaf_den
def qag_ann:AnnA:=(s0 (s0 .leaf))
theorem qag_den:qag_W (qag_A)=DR [] [1] Tryz.f181 qag_ann false:=by kernel_rfl
theorem qag_ok (hm:PM):EO 181 (qag_E qag_A):=EA hm aD Tryz.call181 Tryz.func181 false qag_den
def qah_ann:AnnA:=(s0 (s1 (s0 (.block (.loop ⟨[0,1,7],[(8,(.c (.i .i64)))],[]⟩ (s0 (s1 (.cond .leaf .leaf) (s1 (.block (s0 (s0 (.cond (s0 .leaf) .leaf)))) .leaf)))))) (s0 .leaf)))
theorem qah_den (f_qag:qag_T):qah_W (qah_G f_qag)=DR [(181,qag_E f_qag)] [] Tryz.f219 qah_ann false:=by kernel_rfl
theorem qah_ok (hm:PM):EO 219 (qah_E qah_A):=EA hm (aA (qag_ok hm) aD) Tryz.call219 Tryz.func219 false (qah_den qag_A)
def qai_ann:AnnA:=(s0 (s0 (s1 (s0 (.cond (s0 .leaf) .leaf)) (s1 (s0 (.block (.loop ⟨[0,1],[(5,(.c (.i .i64))),(6,(.c (.i .i64)))],[]⟩ (s1 (s0 (.cond .leaf .leaf)) (.seq (some ⟨[0,1,6],[(5,(.c (.i .i64)))],[]⟩) (.block (s0 (s0 (.cond (s0 .leaf) .leaf)))) .leaf))))) (s0 (s0 .leaf))))))
theorem qai_den (f_qah:qah_T) (f_qag:qag_T):qai_W (qai_G f_qah f_qag)=DR [(219,qah_E f_qah),(181,qag_E f_qag)] [7] Tryz.f179 qai_ann false:=by kernel_rfl
theorem qai_ok (hm:PM):EO 179 (qai_E qai_A):=EA hm (aA (qah_ok hm) (aA (qag_ok hm) aD)) Tryz.call179 Tryz.func179 false (qai_den qah_A qag_A)
theorem qaj_ok (_hm:PM):bA Tryz.prog 182 (k8 (qaj_E qaj_A)):=aAv rfl
def qak_ann:AnnA:=(s0 (s0 (s0 (s0 (s1 (s0 (.block (.loop ⟨[13,14],[(4,(.c .s)),(15,(.c (.i .i64)))],[]⟩ (s0 (s1 (.cond .leaf .leaf) (.seq (some ⟨[13,14,15],[(4,(.c .s))],[]⟩) (.block (s0 (s1 (s0 (.seq (some ⟨[4,6,7,13,14,15],[(33,(.c .b))],[]⟩) (.draw 13) (.cond (s1 (.draw 14) .leaf) .leaf))) .leaf))) .leaf)))))) (s0 .leaf))))))
theorem qak_den (f_qaf:qaf_T) (f_qai:qai_T) (f_qaj:qaj_T):qak_W (qak_G f_qaf f_qai f_qaj)=DR [(180,qaf_E f_qaf),(179,qai_E f_qai),(182,qaj_E f_qaj)] [6] Tryz.f131 qak_ann false:=by kernel_rfl
theorem qak_ok (hm:PM):EO 131 (qak_E qak_A):=EA hm (aA (qaf_ok hm) (aA (qai_ok hm) (aA (qaj_ok hm) aD))) Tryz.call131 Tryz.func131 false (qak_den qaf_A qai_A qaj_A)
def qal_ann:AnnA:=(s0 (s0 (s0 (s1 (s0 (.block (.loop ⟨[6,15,16],[(5,(.c .s)),(17,(.c (.i .i64)))],[]⟩ (s0 (s1 (.cond .leaf .leaf) (.seq (some ⟨[6,15,16,17],[(5,(.c .s))],[]⟩) (.block (s0 (s0 (s1 (s0 (.block (.loop ⟨[6,8,15,16,17,23,24],[(5,(.c .s)),(9,(.c (.i .i64))),(25,(.c (.i .i64)))],[]⟩ (s0 (s1 (.cond .leaf .leaf) (.seq (some ⟨[6,8,15,16,17,23,24,25],[(5,(.c .s)),(9,(.c (.i .i64)))],[]⟩) (.block (s0 (s1 (s0 (.cond .leaf .leaf)) (.seq (some ⟨[6,8,9,11,15,16,17,23,24,25],[(5,(.c .s))],[]⟩) (s0 (.cond .leaf .leaf)) .leaf)))) .leaf)))))) (s0 (.cond .leaf .leaf)))))) .leaf)))))) (s0 .leaf)))))
theorem qal_den (f_qak:qak_T):qal_W (qal_G f_qak)=DR [(131,qak_E f_qak)] [8,11] Tryz.f84 qal_ann false:=by kernel_rfl
theorem qal_ok (hm:PM):EO 84 (qal_E qal_A):=EA hm (aA (qak_ok hm) aD) Tryz.call84 Tryz.func84 false (qal_den qak_A)
def qam_ann:AnnA:=(s0 (.seq (some ⟨[0,1,5],[],[]⟩) (s0 (.cond (s0 .leaf) .leaf)) (s0 (s1 (s0 (.cond (s0 .leaf) .leaf)) (s0 (s0 (s1 (s0 (.block (.loop ⟨[1,50,51],[(10,(.c .s)),(11,(.c .s)),(52,(.c (.i .i64)))],[]⟩ (s0 (s1 (.cond .leaf .leaf) (.seq (some ⟨[1,50,51,52],[(10,(.c .s)),(11,(.c .s))],[]⟩) (.block (s0 (s0 (s0 (.cond .leaf .leaf))))) .leaf)))))) (s0 (s1 (s0 (.cond (s0 .leaf) .leaf)) (s0 .leaf))))))))))
theorem qam_den (f_qad:qad_T) (f_qae:qae_T) (f_qal:qal_T):qam_W (qam_G f_qad f_qae f_qal)=DR [(82,qad_E f_qad),(83,qae_E f_qae),(84,qal_E f_qal)] [5,13,14] Tryz.f44 qam_ann false:=by kernel_rfl
theorem qam_ok (hm:PM):EO 44 (qam_E qam_A):=EA hm (aA (qad_ok hm) (aA (qae_ok hm) (aA (qal_ok hm) aD))) Tryz.call44 Tryz.func44 false (qam_den qad_A qae_A qal_A)
def qan_ann:AnnA:=.leaf
theorem qan_den:qan_W (qan_A)=DR [] [] Tryz.f85 qan_ann false:=by kernel_rfl
theorem qan_ok (hm:PM):EO 85 (qan_E qan_A):=EA hm aD Tryz.call85 Tryz.func85 false qan_den
def qao_ann:AnnA:=(s0 (s1 (s0 (.cond (s0 .leaf) .leaf)) (s0 (s0 (s0 .leaf)))))
theorem qao_den (f_qan:qan_T):qao_W (qao_G f_qan)=DR [(85,qan_E f_qan)] [] Tryz.f45 qao_ann false:=by kernel_rfl
theorem qao_ok (hm:PM):EO 45 (qao_E qao_A):=EA hm (aA (qan_ok hm) aD) Tryz.call45 Tryz.func45 false (qao_den qan_A)
def qap_ann:AnnA:=(s0 (s1 (s0 (.cond (s0 .leaf) .leaf)) (.seq (some ⟨[0,1],[],[]⟩) (s0 (.cond (s0 .leaf) .leaf)) (s1 (s0 (.block (.loop ⟨[0,1,17,18],[(19,(.c (.i .i64)))],[]⟩ (s0 (s1 (.cond .leaf .leaf) (s1 (.block (s0 (s0 (.cond (s0 .leaf) .leaf)))) .leaf)))))) (s0 .leaf)))))
theorem qap_den:qap_W (qap_A)=DR [] [7] Tryz.f46 qap_ann false:=by kernel_rfl
theorem qap_ok (hm:PM):EO 46 (qap_E qap_A):=EA hm aD Tryz.call46 Tryz.func46 false qap_den
def qaq_ann:AnnA:=(s1 (.block (.loop ⟨[0],[(1,(.c (.i .i64))),(2,(.c (.i .i64)))],[]⟩ (s1 (s1 (.draw 15) (.cond .leaf .leaf)) (.block (s1 (.draw 10) (s0 .leaf)))))) .leaf)
theorem qaq_den:qaq_W (qaq_A)=DR [] [] Tryz.f86 qaq_ann false:=by kernel_rfl
theorem qaq_ok (hm:PM):EO 86 (qaq_E qaq_A):=EA hm aD Tryz.call86 Tryz.func86 false qaq_den
def qar_ann:AnnA:=(s0 (s1 (s0 (.cond (s0 .leaf) .leaf)) (s0 (s1 (s0 (.block (.loop ⟨[0,16,17],[(4,(.c (.i .i64))),(18,(.c (.i .i64)))],[]⟩ (s0 (s1 (.cond .leaf .leaf) (s1 (.block (s0 (s1 (s0 (.cond (s0 .leaf) .leaf)) .leaf))) .leaf)))))) (s0 (s1 (s0 (.block (.loop ⟨[0,7],[(44,(.c (.i .i64)))],[]⟩ (s0 (s1 (.cond .leaf .leaf) (s1 (.block (s0 .leaf)) .leaf)))))) (s1 (s0 (.block (.loop ⟨[7,54,55],[(56,(.c (.i .i64)))],[]⟩ (s0 (s1 (.cond .leaf .leaf) (s1 (.block (s0 (s1 (s0 (.block (.loop ⟨[7,10,54,55,56],[(11,(.c (.i .i64)))],[]⟩ (s1 (s0 (.cond .leaf .leaf)) (.block (s0 (s1 (.block (.loop ⟨[7,10,11,54,55,56],[(12,(.c (.i .i64)))],[]⟩ (s1 (s1 (.draw 18) (.cond .leaf .leaf)) (.block .leaf)))) (s0 .leaf)))))))) (.draw 12)))) .leaf)))))) (s0 .leaf))))))))
theorem qar_den (f_qaq:qaq_T):qar_W (qar_G f_qaq)=DR [(86,qaq_E f_qaq)] [6,10] Tryz.f47 qar_ann false:=by kernel_rfl
theorem qar_ok (hm:PM):EO 47 (qar_E qar_A):=EA hm (aA (qaq_ok hm) aD) Tryz.call47 Tryz.func47 false (qar_den qaq_A)
def qas_ann:AnnA:=(s0 (s0 .leaf))
theorem qas_den:qas_W (qas_A)=DR [] [] Tryz.f15 qas_ann false:=by kernel_rfl
theorem qas_ok (hm:PM):EO 15 (qas_E qas_A):=EA hm aD Tryz.call15 Tryz.func15 false qas_den
def qat_ann:AnnA:=(s0 (s1 (s0 (.cond (s0 .leaf) .leaf)) (s0 .leaf)))
theorem qat_den:qat_W (qat_A)=DR [] [] Tryz.f48 qat_ann false:=by kernel_rfl
theorem qat_ok (hm:PM):EO 48 (qat_E qat_A):=EA hm aD Tryz.call48 Tryz.func48 false qat_den
def qau_ann:AnnA:=(s0 (s1 (.draw 14) .leaf))
theorem qau_den:qau_W (qau_A)=DR [] [4] Tryz.f43 qau_ann false:=by kernel_rfl
theorem qau_ok (hm:PM):EO 43 (qau_E qau_A):=EA hm aD Tryz.call43 Tryz.func43 false qau_den
def qav_ann:AnnA:=(s0 (s1 (s0 (.cond (s0 .leaf) .leaf)) (s0 .leaf)))
theorem qav_den:qav_W (qav_A)=DR [] [] Tryz.f54 qav_ann false:=by kernel_rfl
theorem qav_ok (hm:PM):EO 54 (qav_E qav_A):=EA hm aD Tryz.call54 Tryz.func54 false qav_den
def qaw_ann:AnnA:=(s0 (s0 (s1 (s0 (.cond (s0 .leaf) .leaf)) (s1 (.draw 15) .leaf))))
theorem qaw_den (f_qav:qav_T):qaw_W (qaw_G f_qav)=DR [(54,qav_E f_qav)] [] Tryz.f24 qaw_ann false:=by kernel_rfl
theorem qaw_ok (hm:PM):EO 24 (qaw_E qaw_A):=EA hm (aA (qav_ok hm) aD) Tryz.call24 Tryz.func24 false (qaw_den qav_A)
def qax_ann:AnnA:=(s0 (s0 (s1 (.block (s0 (.cond (s0 .leaf) (s0 (.cond (s0 .leaf) (s0 (.cond (s0 .leaf) .leaf))))))) (s0 (s0 .leaf)))))
theorem qax_den (f_qav:qav_T) (f_qaw:qaw_T):qax_W (qax_G f_qav f_qaw)=DR [(54,qav_E f_qav),(24,qaw_E f_qaw)] [] Tryz.f132 qax_ann false:=by kernel_rfl
theorem qax_ok (hm:PM):EO 132 (qax_E qax_A):=EA hm (aA (qav_ok hm) (aA (qaw_ok hm) aD)) Tryz.call132 Tryz.func132 false (qax_den qav_A qaw_A)
def qay_ann:AnnA:=(s0 (s0 .leaf))
theorem qay_den:qay_W (qay_A)=DR [] [] Tryz.f187 qay_ann false:=by kernel_rfl
theorem qay_ok (hm:PM):EO 187 (qay_E qay_A):=EA hm aD Tryz.call187 Tryz.func187 false qay_den
shelf_lay_g SlLaysZI.n8 Ggz 8 at Tryz 186 as slices_Collect_int_l1
shelf_lay_g SlLaysZI.n7 Ggz 7 at Tryz 187 as slices_Collect_int_l2
theorem qaz_ok (_hm:PM):bA Tryz.prog 186 (k8 (qaz_E qaz_A)):=
 uJ (ρ:=slices_Collect_int_l1_ren) (ρ':=slices_Collect_int_l2_ren) slices_Collect_int_l1 { slices_Collect_int_l2 with } rfl rfl rfl rfl
def qba_ann:AnnA:=(s0 (.seq (some ⟨[0],[],[]⟩) (s0 (.cond .leaf .leaf)) (s0 (s1 (s0 (.block (.loop ⟨[0],[(3,(.c (.i .i64))),(4,(.c (.i .i64)))],[]⟩ (s1 (s0 (.cond .leaf .leaf)) (s1 (.block .leaf) .leaf))))) (s0 .leaf)))))
theorem qba_den:qba_W (qba_A)=DR [] [] Tryz.f185 qba_ann false:=by kernel_rfl
theorem qba_ok (hm:PM):EO 185 (qba_E qba_A):=EA hm aD Tryz.call185 Tryz.func185 false qba_den
def qbb_ann:AnnA:=(s0 (.seq (some ⟨[0,1],[],[]⟩) (s0 (.cond (s0 .leaf) .leaf)) (s0 (.seq (some ⟨[0,1],[(6,(.c (.i .i64)))],[]⟩) (.block (.loop ⟨[0,1],[(6,(.c (.i .i64)))],[]⟩ (s1 (s0 (.cond .leaf .leaf)) (.block .leaf)))) (s1 (s0 (.cond (s0 .leaf) .leaf)) (s0 (s0 (s1 (.block (.loop ⟨[0,1,7],[(6,(.c (.i .i64)))],[]⟩ (s1 (s0 (.cond .leaf .leaf)) (.block (s0 (.draw 10)))))) (s0 (s1 (.draw 9) (s0 .leaf)))))))))))
theorem qbb_den (f_qay:qay_T) (f_qaz:qaz_T) (f_qba:qba_T):qbb_W (qbb_G f_qay f_qaz f_qba)=DR [(187,qay_E f_qay),(186,qaz_E f_qaz),(185,qba_E f_qba)] [] Tryz.f133 qbb_ann false:=by kernel_rfl
theorem qbb_ok (hm:PM):EO 133 (qbb_E qbb_A):=EA hm (aA (qay_ok hm) (aA (qaz_ok hm) (aA (qba_ok hm) aD))) Tryz.call133 Tryz.func133 false (qbb_den qay_A qaz_A qba_A)
def qbc_ann:AnnA:=(s0 (s1 (s0 (.cond (s0 .leaf) .leaf)) (s1 (s0 (.block (.loop ⟨[1,20,21],[(22,(.c (.i .i64)))],[]⟩ (s0 (s1 (.cond .leaf .leaf) (s1 (.block (s0 (s0 (.cond (s0 .leaf) .leaf)))) .leaf)))))) (s0 .leaf))))
theorem qbc_den:qbc_W (qbc_A)=DR [] [6] Tryz.f188 qbc_ann false:=by kernel_rfl
theorem qbc_ok (hm:PM):EO 188 (qbc_E qbc_A):=EA hm aD Tryz.call188 Tryz.func188 false qbc_den
def qbd_ann:AnnA:=(s0 (s1 (s0 (.cond (s0 .leaf) .leaf)) (s0 (s0 .leaf))))
theorem qbd_den (f_qbc:qbc_T):qbd_W (qbd_G f_qbc)=DR [(188,qbc_E f_qbc)] [] Tryz.f134 qbd_ann false:=by kernel_rfl
theorem qbd_ok (hm:PM):EO 134 (qbd_E qbd_A):=EA hm (aA (qbc_ok hm) aD) Tryz.call134 Tryz.func134 false (qbd_den qbc_A)
def qbe_ann:AnnA:=(s0 (s0 (s1 (s0 (.cond (s0 .leaf) .leaf)) (s0 (s1 (.draw 9) (s0 (s0 .leaf)))))))
theorem qbe_den (f_qaq:qaq_T):qbe_W (qbe_G f_qaq)=DR [(86,qaq_E f_qaq)] [] Tryz.f135 qbe_ann false:=by kernel_rfl
theorem qbe_ok (hm:PM):EO 135 (qbe_E qbe_A):=EA hm (aA (qaq_ok hm) aD) Tryz.call135 Tryz.func135 false (qbe_den qaq_A)
def qbf_ann:AnnA:=(s0 (s0 (s1 (.block (s0 (.cond (s0 .leaf) (s0 (.cond (s0 .leaf) .leaf))))) (s0 (s0 .leaf)))))
theorem qbf_den (f_qav:qav_T):qbf_W (qbf_G f_qav)=DR [(54,qav_E f_qav)] [] Tryz.f136 qbf_ann false:=by kernel_rfl
theorem qbf_ok (hm:PM):EO 136 (qbf_E qbf_A):=EA hm (aA (qav_ok hm) aD) Tryz.call136 Tryz.func136 false (qbf_den qav_A)
def qbg_ann:AnnA:=(s0 (s1 (s0 (s0 (.cond (s0 .leaf) .leaf))) (s0 (.seq (some ⟨[1],[(6,(.c (.i .i64)))],[]⟩) (s0 (.cond (s1 (s0 (s0 (.cond (s0 .leaf) .leaf))) .leaf) .leaf)) (s0 (s0 .leaf))))))
theorem qbg_den (f_qax:qax_T) (f_qbb:qbb_T) (f_qbd:qbd_T) (f_qbe:qbe_T) (f_qbf:qbf_T):qbg_W (qbg_G f_qax f_qbb f_qbd f_qbe f_qbf)=DR [(132,qax_E f_qax),(133,qbb_E f_qbb),(134,qbd_E f_qbd),(135,qbe_E f_qbe),(136,qbf_E f_qbf)] [1] Tryz.f87 qbg_ann false:=by kernel_rfl
theorem qbg_ok (hm:PM):EO 87 (qbg_E qbg_A):=EA hm (aA (qax_ok hm) (aA (qbb_ok hm) (aA (qbd_ok hm) (aA (qbe_ok hm) (aA (qbf_ok hm) aD))))) Tryz.call87 Tryz.func87 false (qbg_den qax_A qbb_A qbd_A qbe_A qbf_A)
def qbh_ann:AnnA:=(s0 (s0 .leaf))
theorem qbh_den:qbh_W (qbh_A)=DR [] [] Tryz.f88 qbh_ann false:=by kernel_rfl
theorem qbh_ok (hm:PM):EO 88 (qbh_E qbh_A):=EA hm aD Tryz.call88 Tryz.func88 false qbh_den
def qbi_ann:AnnA:=(s0 (s0 .leaf))
theorem qbi_den (f_qbe:qbe_T) (f_qbf:qbf_T):qbi_W (qbi_G f_qbe f_qbf)=DR [(135,qbe_E f_qbe),(136,qbf_E f_qbf)] [2] Tryz.f89 qbi_ann false:=by kernel_rfl
theorem qbi_ok (hm:PM):EO 89 (qbi_E qbi_A):=EA hm (aA (qbe_ok hm) (aA (qbf_ok hm) aD)) Tryz.call89 Tryz.func89 false (qbi_den qbe_A qbf_A)
def qbj_ann:AnnA:=(s0 (s1 (.draw 25) .leaf))
theorem qbj_den:qbj_W (qbj_A)=DR [] [2] Tryz.f176 qbj_ann false:=by kernel_rfl
theorem qbj_ok (hm:PM):EO 176 (qbj_E qbj_A):=EA hm aD Tryz.call176 Tryz.func176 false qbj_den
def qbk_ann:AnnA:=(s0 (s0 .leaf))
theorem qbk_den:qbk_W (qbk_A)=DR [] [0] Tryz.f177 qbk_ann false:=by kernel_rfl
theorem qbk_ok (hm:PM):EO 177 (qbk_E qbk_A):=EA hm aD Tryz.call177 Tryz.func177 false qbk_den
def qbl_ann:AnnA:=(s0 (.seq (some ⟨[1],[],[]⟩) (s0 (.cond (s0 .leaf) .leaf)) (s0 (s1 (s0 (.block (.loop ⟨[19],[(4,(.c (.i .u64))),(20,(.c (.i .i64)))],[]⟩ (s0 (s1 (.cond .leaf .leaf) (.seq (some ⟨[19,20],[(4,(.c (.i .u64)))],[]⟩) (.block (s0 (s0 (.cond .leaf .leaf)))) .leaf)))))) (s0 .leaf)))))
theorem qbl_den (f_qbj:qbj_T) (f_qbk:qbk_T):qbl_W (qbl_G f_qbj f_qbk)=DR [(176,qbj_E f_qbj),(177,qbk_E f_qbk)] [] Tryz.f137 qbl_ann false:=by kernel_rfl
theorem qbl_ok (hm:PM):EO 137 (qbl_E qbl_A):=EA hm (aA (qbj_ok hm) (aA (qbk_ok hm) aD)) Tryz.call137 Tryz.func137 false (qbl_den qbj_A qbk_A)
def qbm_ann:AnnA:=(s0 (s0 .leaf))
theorem qbm_den:qbm_W (qbm_A)=DR [] [] Tryz.f126 qbm_ann false:=by kernel_rfl
theorem qbm_ok (hm:PM):EO 126 (qbm_E qbm_A):=EA hm aD Tryz.call126 Tryz.func126 false qbm_den
def qbn_ann:AnnA:=(s0 (s1 (s0 (.block (.seq (some ⟨[0,1,2],[(9,(.c .b))],[]⟩) (s0 (.cond .leaf (s0 (.cond .leaf (s0 (.cond .leaf .leaf)))))) (.cond .leaf (s0 .leaf))))) (s0 (s1 (s0 (.cond (s0 .leaf) .leaf)) (s0 .leaf)))))
theorem qbn_den (f_qbc:qbc_T):qbn_W (qbn_G f_qbc)=DR [(188,qbc_E f_qbc)] [] Tryz.f147 qbn_ann false:=by kernel_rfl
theorem qbn_ok (hm:PM):EO 147 (qbn_E qbn_A):=EA hm (aA (qbc_ok hm) aD) Tryz.call147 Tryz.func147 false (qbn_den qbc_A)
def qbo_ann:AnnA:=(s0 (s0 (.seq (some ⟨[],[(5,(.c .p))],[]⟩) (s0 (.cond (s0 .leaf) .leaf)) (s0 .leaf))))
theorem qbo_den:qbo_W (qbo_A)=DR [] [] Tryz.f148 qbo_ann false:=by kernel_rfl
theorem qbo_ok (hm:PM):EO 148 (qbo_E qbo_A):=EA hm aD Tryz.call148 Tryz.func148 false qbo_den
def qbp_ann:AnnA:=(s0 (s1 (s0 (s0 (.cond (s0 .leaf) .leaf))) (s1 (s0 (.block (.loop ⟨[0,1,3,19],[(20,(.c (.i .i64)))],[]⟩ (s0 (s1 (.cond .leaf .leaf) (s1 (.block (s0 (s0 (.drawS [0,1,2,3,5,6,7,8,9,10,11,4,12,13,14] [])))) .leaf)))))) (s0 .leaf))))
theorem qbp_den (f_qbn:qbn_T) (f_qbo:qbo_T):qbp_W (qbp_G f_qbn f_qbo)=DR [(147,qbn_E f_qbn),(148,qbo_E f_qbo)] [] Tryz.f107 qbp_ann false:=by kernel_rfl
theorem qbp_ok (hm:PM):EO 107 (qbp_E qbp_A):=EA hm (aA (qbn_ok hm) (aA (qbo_ok hm) aD)) Tryz.call107 Tryz.func107 false (qbp_den qbn_A qbo_A)
def qbq_ann:AnnA:=(s0 (s0 (.drawS [0,2,3,5,1,4,6] [])))
theorem qbq_den (f_qbl:qbl_T) (f_qbm:qbm_T) (f_qbp:qbp_T):qbq_W (qbq_G f_qbl f_qbm f_qbp)=DR [(137,qbl_E f_qbl),(126,qbm_E f_qbm),(107,qbp_E f_qbp)] [4,7] Tryz.f90 qbq_ann false:=by kernel_rfl
theorem qbq_ok (hm:PM):EO 90 (qbq_E qbq_A):=EA hm (aA (qbl_ok hm) (aA (qbm_ok hm) (aA (qbp_ok hm) aD))) Tryz.call90 Tryz.func90 false (qbq_den qbl_A qbm_A qbp_A)
def qbr_ann:AnnA:=(s0 (s0 (s1 (s0 (.cond (s0 .leaf) .leaf)) (s0 (s1 (s0 (.block (.loop ⟨[1,4],[(6,(.c .s)),(7,(.c (.i .i64)))],[]⟩ (s1 (s0 (.cond .leaf .leaf)) (s1 (.block (s0 (s1 (s0 (.cond (s1 (s0 (.block (.loop ⟨[1,9,37,38],[(39,(.c (.i .i64)))],[]⟩ (s0 (s1 (.cond .leaf .leaf) (s1 (.block (s0 .leaf)) .leaf)))))) (s0 .leaf)) .leaf)) (s0 (s0 (s0 (.block (.loop ⟨[1,4,6,7,8],[(12,(.c (.i .i64)))],[]⟩ (s1 (s0 (.cond .leaf .leaf)) (s1 (.block .leaf) .leaf)))))))))) .leaf))))) (s0 .leaf))))))
theorem qbr_den (f_qbg:qbg_T) (f_qbh:qbh_T) (f_qbi:qbi_T) (f_qbq:qbq_T):qbr_W (qbr_G f_qbg f_qbh f_qbi f_qbq)=DR [(87,qbg_E f_qbg),(88,qbh_E f_qbh),(89,qbi_E f_qbi),(90,qbq_E f_qbq)] [1] Tryz.f49 qbr_ann false:=by kernel_rfl
theorem qbr_ok (hm:PM):EO 49 (qbr_E qbr_A):=EA hm (aA (qbg_ok hm) (aA (qbh_ok hm) (aA (qbi_ok hm) (aA (qbq_ok hm) aD)))) Tryz.call49 Tryz.func49 false (qbr_den qbg_A qbh_A qbi_A qbq_A)
def qbs_ann:AnnA:=(s0 (s0 (s1 (s0 (.cond (s0 .leaf) .leaf)) (s0 (s1 (s0 (.cond (s0 .leaf) .leaf)) (s0 (s0 (s1 (s0 (s0 (.cond (s0 .leaf) .leaf))) (s0 (s1 (s0 (s0 (.cond (s0 .leaf) .leaf))) (s0 .leaf)))))))))))
theorem qbs_den (f_qam:qam_T) (f_qao:qao_T) (f_qap:qap_T) (f_qar:qar_T) (f_qas:qas_T) (f_qat:qat_T) (f_qau:qau_T) (f_qbr:qbr_T):qbs_W (qbs_G f_qam f_qao f_qap f_qar f_qas f_qat f_qau f_qbr)=DR [(44,qam_E f_qam),(45,qao_E f_qao),(46,qap_E f_qap),(47,qar_E f_qar),(15,qas_E f_qas),(48,qat_E f_qat),(43,qau_E f_qau),(49,qbr_E f_qbr)] [1] Tryz.f20 qbs_ann false:=by kernel_rfl
theorem qbs_ok (hm:PM):EO 20 (qbs_E qbs_A):=EA hm (aA (qam_ok hm) (aA (qao_ok hm) (aA (qap_ok hm) (aA (qar_ok hm) (aA (qas_ok hm) (aA (qat_ok hm) (aA (qau_ok hm) (aA (qbr_ok hm) aD)))))))) Tryz.call20 Tryz.func20 false (qbs_den qam_A qao_A qap_A qar_A qas_A qat_A qau_A qbr_A)
def qbt_ann:AnnA:=(s0 (s1 (s0 (.cond (s0 .leaf) .leaf)) (s0 .leaf)))
theorem qbt_den:qbt_W (qbt_A)=DR [] [] Tryz.f21 qbt_ann false:=by kernel_rfl
theorem qbt_ok (hm:PM):EO 21 (qbt_E qbt_A):=EA hm aD Tryz.call21 Tryz.func21 false qbt_den
def qbu_ann:AnnA:=(s0 (s0 .leaf))
theorem qbu_den:qbu_W (qbu_A)=DR [] [] Tryz.f22 qbu_ann false:=by kernel_rfl
theorem qbu_ok (hm:PM):EO 22 (qbu_E qbu_A):=EA hm aD Tryz.call22 Tryz.func22 false qbu_den
def qbv_ann:AnnA:=(s0 (s0 .leaf))
theorem qbv_den:qbv_W (qbv_A)=DR [] [1] Tryz.f92 qbv_ann false:=by kernel_rfl
theorem qbv_ok (hm:PM):EO 92 (qbv_E qbv_A):=EA hm aD Tryz.call92 Tryz.func92 false qbv_den
def qbw_ann:AnnA:=(s0 (s1 (s0 (.block (.loop ⟨[0,1,7],[(8,(.c (.i .i64)))],[]⟩ (s0 (s1 (.cond .leaf .leaf) (s1 (.block (s0 (s0 (.cond (s0 .leaf) .leaf)))) .leaf)))))) (s0 .leaf)))
theorem qbw_den (f_qbv:qbv_T):qbw_W (qbw_G f_qbv)=DR [(92,qbv_E f_qbv)] [] Tryz.f91 qbw_ann false:=by kernel_rfl
theorem qbw_ok (hm:PM):EO 91 (qbw_E qbw_A):=EA hm (aA (qbv_ok hm) aD) Tryz.call91 Tryz.func91 false (qbw_den qbv_A)
def qbx_ann:AnnA:=(s0 (s1 (s0 (.cond (s0 .leaf) .leaf)) (s0 .leaf)))
theorem qbx_den:qbx_W (qbx_A)=DR [] [] Tryz.f93 qbx_ann false:=by kernel_rfl
theorem qbx_ok (hm:PM):EO 93 (qbx_E qbx_A):=EA hm aD Tryz.call93 Tryz.func93 false qbx_den
def qby_ann:AnnA:=(s0 (s0 (s1 (s0 (.cond (s0 .leaf) .leaf)) (s1 (s0 (.cond (s0 .leaf) .leaf)) (s1 (s0 (.cond (s0 .leaf) .leaf)) (s0 (.seq (some ⟨[0,1,2,8,10],[],[]⟩) (s0 (.cond (s0 .leaf) .leaf)) (s0 (s0 (s1 (s0 (.cond (s1 (.drawS [0,1,2,3,4,6,5,7,8,9,10,11] []) (s0 .leaf)) .leaf)) (s1 (.draw 7) (s0 .leaf))))))))))))
theorem qby_den (f_qav:qav_T) (f_qaw:qaw_T) (f_qbw:qbw_T) (f_qbx:qbx_T):qby_W (qby_G f_qav f_qaw f_qbw f_qbx)=DR [(54,qav_E f_qav),(24,qaw_E f_qaw),(91,qbw_E f_qbw),(93,qbx_E f_qbx)] [11] Tryz.f50 qby_ann false:=by kernel_rfl
theorem qby_ok (hm:PM):EO 50 (qby_E qby_A):=EA hm (aA (qav_ok hm) (aA (qaw_ok hm) (aA (qbw_ok hm) (aA (qbx_ok hm) aD)))) Tryz.call50 Tryz.func50 false (qby_den qav_A qaw_A qbw_A qbx_A)
def qbz_ann:AnnA:=(s0 (s0 (s1 (s0 (.cond (s0 .leaf) .leaf)) (s0 (s0 .leaf)))))
theorem qbz_den (f_qbg:qbg_T) (f_qbq:qbq_T):qbz_W (qbz_G f_qbg f_qbq)=DR [(87,qbg_E f_qbg),(90,qbq_E f_qbq)] [2] Tryz.f94 qbz_ann false:=by kernel_rfl
theorem qbz_ok (hm:PM):EO 94 (qbz_E qbz_A):=EA hm (aA (qbg_ok hm) (aA (qbq_ok hm) aD)) Tryz.call94 Tryz.func94 false (qbz_den qbg_A qbq_A)
def qca_ann:AnnA:=(s0 (s1 (s0 (.cond (s0 .leaf) .leaf)) (s1 (s0 (.cond (s0 .leaf) .leaf)) (s1 (.drawS [0,1,3,4,5,6,2,7,8,9,10,11,12] []) (s1 (s0 (.cond (s0 .leaf) .leaf)) (s0 (s0 .leaf)))))))
theorem qca_den (f_qau:qau_T) (f_qbz:qbz_T):qca_W (qca_G f_qau f_qbz)=DR [(43,qau_E f_qau),(94,qbz_E f_qbz)] [] Tryz.f51 qca_ann false:=by kernel_rfl
theorem qca_ok (hm:PM):EO 51 (qca_E qca_A):=EA hm (aA (qau_ok hm) (aA (qbz_ok hm) aD)) Tryz.call51 Tryz.func51 false (qca_den qau_A qbz_A)
def qcb_ann:AnnA:=(s0 (s0 .leaf))
theorem qcb_den:qcb_W (qcb_A)=DR [] [2] Tryz.f95 qcb_ann false:=by kernel_rfl
theorem qcb_ok (hm:PM):EO 95 (qcb_E qcb_A):=EA hm aD Tryz.call95 Tryz.func95 false qcb_den
def qcc_ann:AnnA:=(s0 (s1 (s0 (.block (.loop ⟨[0,1,7],[(8,(.c (.i .i64)))],[]⟩ (s0 (s1 (.cond .leaf .leaf) (s1 (.block (s0 (s0 (.cond (s0 .leaf) .leaf)))) .leaf)))))) (s0 .leaf)))
theorem qcc_den (f_qcb:qcb_T):qcc_W (qcc_G f_qcb)=DR [(95,qcb_E f_qcb)] [] Tryz.f91 qcc_ann false:=by kernel_rfl
theorem qcc_ok (hm:PM):EO 91 (qcc_E qcc_A):=EA hm (aA (qcb_ok hm) aD) Tryz.call91 Tryz.func91 false (qcc_den qcb_A)
def qcd_ann:AnnA:=(s0 (s0 .leaf))
theorem qcd_den (f_qcc:qcc_T):qcd_W (qcd_G f_qcc)=DR [(91,qcc_E f_qcc)] [] Tryz.f96 qcd_ann false:=by kernel_rfl
theorem qcd_ok (hm:PM):EO 96 (qcd_E qcd_A):=EA hm (aA (qcc_ok hm) aD) Tryz.call96 Tryz.func96 false (qcd_den qcc_A)
def qce_ann:AnnA:=(s0 (s0 (.seq (some ⟨[0,3,5],[],[]⟩) (s0 (.cond (s0 .leaf) .leaf)) (s0 (s1 (s0 (.cond (s0 .leaf) .leaf)) (s1 (.draw 18) (s0 (s0 .leaf))))))))
theorem qce_den (f_qav:qav_T) (f_qcd:qcd_T):qce_W (qce_G f_qav f_qcd)=DR [(54,qav_E f_qav),(96,qcd_E f_qcd)] [] Tryz.f52 qce_ann false:=by kernel_rfl
theorem qce_ok (hm:PM):EO 52 (qce_E qce_A):=EA hm (aA (qav_ok hm) (aA (qcd_ok hm) aD)) Tryz.call52 Tryz.func52 false (qce_den qav_A qcd_A)
def qcf_ann:AnnA:=(s0 (s1 (s0 (.block (.loop ⟨[0,1,7],[(8,(.c (.i .i64)))],[]⟩ (s0 (s1 (.cond .leaf .leaf) (s1 (.block (s0 (s0 (.cond (s0 .leaf) .leaf)))) .leaf)))))) (s0 .leaf)))
theorem qcf_den:qcf_W (qcf_A)=DR [] [] Tryz.f138 qcf_ann false:=by kernel_rfl
theorem qcf_ok (hm:PM):EO 138 (qcf_E qcf_A):=EA hm aD Tryz.call138 Tryz.func138 false qcf_den
def qcg_ann:AnnA:=(s0 (s0 .leaf))
theorem qcg_den (f_qcf:qcf_T):qcg_W (qcg_G f_qcf)=DR [(138,qcf_E f_qcf)] [] Tryz.f97 qcg_ann false:=by kernel_rfl
theorem qcg_ok (hm:PM):EO 97 (qcg_E qcg_A):=EA hm (aA (qcf_ok hm) aD) Tryz.call97 Tryz.func97 false (qcg_den qcf_A)
def qch_ann:AnnA:=(s0 (s1 (s0 (.cond (s0 .leaf) .leaf)) (s0 .leaf)))
theorem qch_den:qch_W (qch_A)=DR [] [] Tryz.f77 qch_ann false:=by kernel_rfl
theorem qch_ok (hm:PM):EO 77 (qch_E qch_A):=EA hm aD Tryz.call77 Tryz.func77 false qch_den
def qci_ann:AnnA:=(s0 (s1 (.block (.seq (some ⟨[0,1],[(5,(.c .b))],[]⟩) (s0 (.cond .leaf .leaf)) (.cond (s0 .leaf) (s0 (.cond (s0 .leaf) .leaf))))) (s0 (s0 .leaf))))
theorem qci_den (f_qcg:qcg_T) (f_qch:qch_T):qci_W (qci_G f_qcg f_qch)=DR [(97,qcg_E f_qcg),(77,qch_E f_qch)] [] Tryz.f53 qci_ann false:=by kernel_rfl
theorem qci_ok (hm:PM):EO 53 (qci_E qci_A):=EA hm (aA (qcg_ok hm) (aA (qch_ok hm) aD)) Tryz.call53 Tryz.func53 false (qci_den qcg_A qch_A)
def qcj_ann:AnnA:=(s0 (s0 (s1 (.block (.loop ⟨[0,1,2,3],[(10,(.c (.i .i64)))],[]⟩ (s1 (s0 (.cond .leaf .leaf)) (.block .leaf)))) (s1 (s0 (.cond (s0 .leaf) .leaf)) (s0 (s0 (s1 (s0 (.cond (s0 .leaf) .leaf)) (s1 (s1 (.draw 12) (s0 (.cond (s0 (s0 .leaf)) .leaf))) (s1 (.drawS [0,1,2,4,5,6,7,8,10,3,9,11,12,13] []) (s0 (s0 (s0 .leaf))))))))))))
theorem qcj_den (f_qby:qby_T) (f_qca:qca_T) (f_qce:qce_T) (f_qci:qci_T):qcj_W (qcj_G f_qby f_qca f_qce f_qci)=DR [(50,qby_E f_qby),(51,qca_E f_qca),(52,qce_E f_qce),(53,qci_E f_qci)] [] Tryz.f23 qcj_ann false:=by kernel_rfl
theorem qcj_ok (hm:PM):EO 23 (qcj_E qcj_A):=EA hm (aA (qby_ok hm) (aA (qca_ok hm) (aA (qce_ok hm) (aA (qci_ok hm) aD)))) Tryz.call23 Tryz.func23 false (qcj_den qby_A qca_A qce_A qci_A)
def qck_ann:AnnA:=(s0 (s0 (s1 (s0 (.cond (s0 .leaf) .leaf)) (s0 (s1 (s0 (.cond (s0 .leaf) .leaf)) (s0 (s1 (s0 (s0 (.cond (s0 .leaf) .leaf))) (s0 .leaf))))))))
theorem qck_den (f_qbs:qbs_T) (f_qbt:qbt_T) (f_qbu:qbu_T) (f_qaw:qaw_T) (f_qcj:qcj_T):qck_W (qck_G f_qbs f_qbt f_qbu f_qaw f_qcj)=DR [(20,qbs_E f_qbs),(21,qbt_E f_qbt),(22,qbu_E f_qbu),(24,qaw_E f_qaw),(23,qcj_E f_qcj)] [1] Tryz.f9 qck_ann false:=by kernel_rfl
theorem qck_ok (hm:PM):EO 9 (qck_E qck_A):=EA hm (aA (qbs_ok hm) (aA (qbt_ok hm) (aA (qbu_ok hm) (aA (qaw_ok hm) (aA (qcj_ok hm) aD))))) Tryz.call9 Tryz.func9 false (qck_den qbs_A qbt_A qbu_A qaw_A qcj_A)
def qcl_ann:AnnA:=(s0 (s1 (s0 (.cond (s0 .leaf) .leaf)) (s0 .leaf)))
theorem qcl_den:qcl_W (qcl_A)=DR [] [] Tryz.f26 qcl_ann false:=by kernel_rfl
theorem qcl_ok (hm:PM):EO 26 (qcl_E qcl_A):=EA hm aD Tryz.call26 Tryz.func26 false qcl_den
def qcm_ann:AnnA:=(s0 (s0 (.seq (some ⟨[5],[],[]⟩) (s0 (s0 (.cond .leaf .leaf))) (s0 .leaf))))
theorem qcm_den:qcm_W (qcm_A)=DR [] [] Tryz.f102 qcm_ann true:=by kernel_rfl
theorem qcm_ok (hm:PM):EO 102 (qcm_E qcm_A):=EA hm aD Tryz.call102 Tryz.func102 true qcm_den
def qcn_ann:AnnA:=(s0 (s0 .leaf))
theorem qcn_den (f_qcm:qcm_T):qcn_W (qcn_G f_qcm)=DR [(102,qcm_E f_qcm)] [] Tryz.f98 qcn_ann true:=by kernel_rfl
theorem qcn_ok (hm:PM):EO 98 (qcn_E qcn_A):=EA hm (aA (qcm_ok hm) aD) Tryz.call98 Tryz.func98 true (qcn_den qcm_A)
def qco_ann:AnnA:=(s0 (s0 (s1 (.drawS [0,3,1,2,4,5,6,7,8] []) (.seq (some ⟨[2,3],[],[]⟩) (s0 (.cond .leaf .leaf)) (s0 .leaf)))))
theorem qco_den (f_qcn:qcn_T):qco_W (qco_G f_qcn)=DR [(98,qcn_E f_qcn)] [2,3] Tryz.f99 qco_ann true:=by kernel_rfl
theorem qco_ok (hm:PM):EO 99 (qco_E qco_A):=EA hm (aA (qcn_ok hm) aD) Tryz.call99 Tryz.func99 true (qco_den qcn_A)
def qcp_ann:AnnA:=(s0 (s0 (s0 .leaf)))
theorem qcp_den (f_qcm:qcm_T):qcp_W (qcp_G f_qcm)=DR [(102,qcm_E f_qcm)] [2] Tryz.f100 qcp_ann true:=by kernel_rfl
theorem qcp_ok (hm:PM):EO 100 (qcp_E qcp_A):=EA hm (aA (qcm_ok hm) aD) Tryz.call100 Tryz.func100 true (qcp_den qcm_A)
def qcq_ann:AnnA:=(s0 (s0 (s1 (.draw 31) (.cond .leaf .leaf))))
theorem qcq_den (f_qcm:qcm_T) (f_qcn:qcn_T):qcq_W (qcq_G f_qcm f_qcn)=DR [(102,qcm_E f_qcm),(98,qcn_E f_qcn)] [] Tryz.f101 qcq_ann true:=by kernel_rfl
theorem qcq_ok (hm:PM):EO 101 (qcq_E qcq_A):=EA hm (aA (qcm_ok hm) (aA (qcn_ok hm) aD)) Tryz.call101 Tryz.func101 true (qcq_den qcm_A qcn_A)
def qcr_ann:AnnA:=(s0 (s0 (s0 .leaf)))
theorem qcr_den (f_qcn:qcn_T):qcr_W (qcr_G f_qcn)=DR [(98,qcn_E f_qcn)] [2] Tryz.f103 qcr_ann true:=by kernel_rfl
theorem qcr_ok (hm:PM):EO 103 (qcr_E qcr_A):=EA hm (aA (qcn_ok hm) aD) Tryz.call103 Tryz.func103 true (qcr_den qcn_A)
def qcs_ann:AnnA:=(s0 (s0 (.seq (some ⟨[0,2,3],[],[]⟩) (s0 (.block (.seq (some ⟨[0,2,3,8],[(11,(.c .b))],[]⟩) (s0 (.cond .leaf .leaf)) (.cond .leaf (s0 (.cond .leaf (s0 (.cond .leaf (s0 (.cond (s0 (s0 (s0 (.cond .leaf .leaf)))) (s0 (.cond (s0 .leaf) (s0 (.cond .leaf (.seq (some ⟨[0,2,3,8],[(71,(.c .b))],[]⟩) (s0 (.cond .leaf .leaf)) (.cond .leaf (s0 (.cond .leaf (s0 (.cond .leaf (s0 (.cond .leaf (s0 (.cond .leaf (.seq (some ⟨[0,2,3],[(110,(.c .b))],[]⟩) (s0 (.cond .leaf (s0 (.cond .leaf .leaf)))) (.cond .leaf .leaf)))))))))))))))))))))))))) (s1 (s0 (.block (.loop ⟨[0,2,3,118],[(119,(.c (.i .i64)))],[]⟩ (s0 (s1 (.cond .leaf .leaf) (s1 (.block .leaf) .leaf)))))) (s0 .leaf)))))
theorem qcs_den (f_qcn:qcn_T) (f_qco:qco_T) (f_qcp:qcp_T) (f_qcq:qcq_T) (f_qcm:qcm_T) (f_qcr:qcr_T):qcs_W (qcs_G f_qcn f_qco f_qcp f_qcq f_qcm f_qcr)=DR [(98,qcn_E f_qcn),(99,qco_E f_qco),(100,qcp_E f_qcp),(101,qcq_E f_qcq),(102,qcm_E f_qcm),(103,qcr_E f_qcr)] [2] Tryz.f57 qcs_ann true:=by kernel_rfl
theorem qcs_ok (hm:PM):EO 57 (qcs_E qcs_A):=EA hm (aA (qcn_ok hm) (aA (qco_ok hm) (aA (qcp_ok hm) (aA (qcq_ok hm) (aA (qcm_ok hm) (aA (qcr_ok hm) aD)))))) Tryz.call57 Tryz.func57 true (qcs_den qcn_A qco_A qcp_A qcq_A qcm_A qcr_A)
def uZ:AnnA:=(s0 (.cond .leaf .leaf))
def vN:AnnA:=(s0 (.cond .leaf .leaf))
theorem qct_def (hm:PM):uT Tryz.prog 56 (aFC (dnS [.c .p,.c .p] qct_nA)) (aGU (dpS [.c .p,.c .p] 158 [] qct_pA)):=
 aKL hm aD (p1:=[2]) (p2:=[2]) (an:=uZ) (ap:=vN) Tryz.call56 Tryz.func56 (by kernel_rfl) (by kernel_rfl) (by kernel_rfl) (by kernel_rfl)
def qcu_ann:AnnA:=(s0 (s0 (s0 .leaf)))
theorem qcu_den (f_qcs:qcs_T) (f_qct_n:qct_Tn) (f_qct_p:qct_Tp):qcu_W (qcu_G f_qcs f_qct_n (qct_vA f_qct_p))=kL [.agg [(.i .u64),(.i .u64),(.i .u64),(.i .u64),(.i .u64),(.i .u64)]] EnR λvs K Kp A=>pG Tryz.prog (oP [(57,qcs_E f_qcs)]) [] Tryz.f27 qcu_ann 56 (dnS [.c .p,.c .p] f_qct_n) (dpS [.c .p,.c .p] 158 [] f_qct_p) vs K (np false Kp) A:=by kernel_rfl
theorem qcu_ok (hm:PM):bA Tryz.prog 27 (k8 (qcu_E qcu_A)):=aGB hm (aA (qcs_ok hm) aD) (qct_def hm) Tryz.call27 Tryz.func27 (by kernel_rfl) (by kernel_rfl) false (qcu_den qcs_A qct_nA qct_pA)
def qcv_ann:AnnA:=(s0 (s0 (.cond .leaf .leaf)))
theorem qcv_den:qcv_W (qcv_A)=DR [] [3] Tryz.f105 qcv_ann true:=by kernel_rfl
theorem qcv_ok (hm:PM):EO 105 (qcv_E qcv_A):=EA hm aD Tryz.call105 Tryz.func105 true qcv_den
def qcw_ann:AnnA:=(s0 (s1 (s0 (.cond (s0 .leaf) .leaf)) (s0 (s0 .leaf))))
theorem qcw_den:qcw_W (qcw_A)=DR [] [] Tryz.f189 qcw_ann false:=by kernel_rfl
theorem qcw_ok (hm:PM):EO 189 (qcw_E qcw_A):=EA hm aD Tryz.call189 Tryz.func189 false qcw_den
def qcx_ann:AnnA:=(s0 (s0 (.seq (some ⟨[0],[(3,(.c (.i .i64)))],[]⟩) (s1 (.draw 10) (.cond (s1 (.draw 11) .leaf) .leaf)) (s0 (.seq (some ⟨[3],[],[]⟩) (s0 (s0 (.cond .leaf .leaf))) (s0 .leaf))))))
theorem qcx_den (f_qcw:qcw_T):qcx_W (qcx_G f_qcw)=DR [(189,qcw_E f_qcw)] [] Tryz.f139 qcx_ann false:=by kernel_rfl
theorem qcx_ok (hm:PM):EO 139 (qcx_E qcx_A):=EA hm (aA (qcw_ok hm) aD) Tryz.call139 Tryz.func139 false (qcx_den qcw_A)
def qcy_ann:AnnA:=(s0 (s1 (s0 (s0 (.cond (s0 .leaf) .leaf))) (s0 .leaf)))
theorem qcy_den:qcy_W (qcy_A)=DR [] [] Tryz.f140 qcy_ann false:=by kernel_rfl
theorem qcy_ok (hm:PM):EO 140 (qcy_E qcy_A):=EA hm aD Tryz.call140 Tryz.func140 false qcy_den
def qcz_ann:AnnA:=(s0 (s1 (s0 (s0 (.cond (s0 .leaf) .leaf))) (s1 (.draw 10) (.seq (some ⟨[0,1,8],[],[]⟩) (s0 (.cond (s0 .leaf) .leaf)) (s0 (s0 (s1 (.drawS [0,1,2,4,5,6,7,9,10,11,3,8,12,13,14,15,16,17] []) (s0 .leaf))))))))
theorem qcz_den (f_qan:qan_T):qcz_W (qcz_G f_qan)=DR [(85,qan_E f_qan)] [] Tryz.f190 qcz_ann false:=by kernel_rfl
theorem qcz_ok (hm:PM):EO 190 (qcz_E qcz_A):=EA hm (aA (qan_ok hm) aD) Tryz.call190 Tryz.func190 false (qcz_den qan_A)
def qda_ann:AnnA:=(s0 (s0 .leaf))
theorem qda_den:qda_W (qda_A)=DR [] [2] Tryz.f225 qda_ann false:=by kernel_rfl
theorem qda_ok (hm:PM):EO 225 (qda_E qda_A):=EA hm aD Tryz.call225 Tryz.func225 false qda_den
def qdb_ann:AnnA:=(s0 (.block (.loop ⟨[0,1],[(6,(.c (.i .i64)))],[]⟩ (s0 (s1 (.cond .leaf .leaf) (s1 (.block (s0 (s0 (.block (.loop ⟨[0,1,4,6],[(9,(.c (.i .i64)))],[]⟩ (s0 (s1 (.cond .leaf .leaf) (.seq (some ⟨[0,1,4,6,9],[],[]⟩) (.block (s0 (s0 (.cond .leaf .leaf)))) .leaf)))))))) .leaf))))))
theorem qdb_den (f_qda:qda_T):qdb_W (qdb_G f_qda)=DR [(225,qda_E f_qda)] [] Tryz.f209 qdb_ann false:=by kernel_rfl
theorem qdb_ok (hm:PM):EO 209 (qdb_E qdb_A):=EA hm (aA (qda_ok hm) aD) Tryz.call209 Tryz.func209 false (qdb_den qda_A)
def qdc_ann:AnnA:=(s0 .leaf)
theorem qdc_den (f_qdb:qdb_T):qdc_W (qdc_G f_qdb)=DR [(209,qdb_E f_qdb)] [] Tryz.f191 qdc_ann false:=by kernel_rfl
theorem qdc_ok (hm:PM):EO 191 (qdc_E qdc_A):=EA hm (aA (qdb_ok hm) aD) Tryz.call191 Tryz.func191 false (qdc_den qdb_A)
def qdd_ann:AnnA:=(s0 (s0 (.seq (some ⟨[5],[],[]⟩) (s0 (.cond .leaf .leaf)) (s0 .leaf))))
theorem qdd_den (f_qcz:qcz_T) (f_qdc:qdc_T):qdd_W (qdd_G f_qcz f_qdc)=DR [(190,qcz_E f_qcz),(191,qdc_E f_qdc)] [] Tryz.f141 qdd_ann false:=by kernel_rfl
theorem qdd_ok (hm:PM):EO 141 (qdd_E qdd_A):=EA hm (aA (qcz_ok hm) (aA (qdc_ok hm) aD)) Tryz.call141 Tryz.func141 false (qdd_den qcz_A qdc_A)
def qde_ann:AnnA:=(s0 (s0 .leaf))
theorem qde_den:qde_W (qde_A)=DR [] [] Tryz.f192 qde_ann false:=by kernel_rfl
theorem qde_ok (hm:PM):EO 192 (qde_E qde_A):=EA hm aD Tryz.call192 Tryz.func192 false qde_den
def qdf_ann:AnnA:=(s0 (s0 .leaf))
theorem qdf_den:qdf_W (qdf_A)=DR [] [3] Tryz.f194 qdf_ann false:=by kernel_rfl
theorem qdf_ok (hm:PM):EO 194 (qdf_E qdf_A):=EA hm aD Tryz.call194 Tryz.func194 false qdf_den
def qdg_ann:AnnA:=(s0 (s0 .leaf))
theorem qdg_den (f_qdf:qdf_T):qdg_W (qdg_G f_qdf)=DR [(194,qdf_E f_qdf)] [3] Tryz.f193 qdg_ann false:=by kernel_rfl
theorem qdg_ok (hm:PM):EO 193 (qdg_E qdg_A):=EA hm (aA (qdf_ok hm) aD) Tryz.call193 Tryz.func193 false (qdg_den qdf_A)
def qdh_ann:AnnA:=(s0 (s1 (s0 (.block (.loop ⟨[0,1,7],[(8,(.c (.i .i64)))],[]⟩ (s0 (s1 (.cond .leaf .leaf) (s1 (.block (s0 (s0 (.cond (s0 .leaf) .leaf)))) .leaf)))))) (s0 .leaf)))
theorem qdh_den (f_qdg:qdg_T):qdh_W (qdh_G f_qdg)=DR [(193,qdg_E f_qdg)] [] Tryz.f78 qdh_ann false:=by kernel_rfl
theorem qdh_ok (hm:PM):EO 78 (qdh_E qdh_A):=EA hm (aA (qdg_ok hm) aD) Tryz.call78 Tryz.func78 false (qdh_den qdg_A)
def qdi_ann:AnnA:=(s0 (s1 (.drawS [0,3,4,1,2,5,6,7] []) (s1 (s0 (s0 (.cond (s0 .leaf) .leaf))) (s0 .leaf))))
theorem qdi_den (f_qde:qde_T) (f_qdh:qdh_T):qdi_W (qdi_G f_qde f_qdh)=DR [(192,qde_E f_qde),(78,qdh_E f_qdh)] [6] Tryz.f142 qdi_ann false:=by kernel_rfl
theorem qdi_ok (hm:PM):EO 142 (qdi_E qdi_A):=EA hm (aA (qde_ok hm) (aA (qdh_ok hm) aD)) Tryz.call142 Tryz.func142 false (qdi_den qde_A qdh_A)
def qdj_ann:AnnA:=(s0 (s0 .leaf))
theorem qdj_den:qdj_W (qdj_A)=DR [] [2,3] Tryz.f143 qdj_ann false:=by kernel_rfl
theorem qdj_ok (hm:PM):EO 143 (qdj_E qdj_A):=EA hm aD Tryz.call143 Tryz.func143 false qdj_den
def qdk_ann:AnnA:=(s0 (s1 (s0 (.block (.loop ⟨[1,4,8,9],[(10,(.c (.i .i64)))],[(4,(0,(.i .i64))),(4,(1,(.i .i64))),(4,(2,.b)),(4,(3,.b)),(4,(4,.b)),(4,(5,(.i .i64)))]⟩ (s0 (s1 (.cond .leaf .leaf) (s1 (.block (s0 (s0 (.cond (s0 .leaf) .leaf)))) .leaf)))))) (s0 .leaf)))
theorem qdk_den:qdk_W (qdk_A)=DR [] [4,7] Tryz.f117 qdk_ann false:=by kernel_rfl
theorem qdk_ok (hm:PM):EO 117 (qdk_E qdk_A):=EA hm aD Tryz.call117 Tryz.func117 false qdk_den
def qdl_ann:AnnA:=(s0 (s0 (s1 (s0 (.block (.loop ⟨[0,2,4],[(6,(.c (.i .i64)))],[]⟩ (s0 (s1 (.cond .leaf .leaf) (s1 (.block (s0 .leaf)) .leaf)))))) (s0 .leaf))))
theorem qdl_den:qdl_W (qdl_A)=DR [] [2] Tryz.f128 qdl_ann false:=by kernel_rfl
theorem qdl_ok (hm:PM):EO 128 (qdl_E qdl_A):=EA hm aD Tryz.call128 Tryz.func128 false qdl_den
def qdm_ann:AnnA:=(s0 (s0 (s0 .leaf)))
theorem qdm_den (f_qdl:qdl_T):qdm_W (qdm_G f_qdl)=DR [(128,qdl_E f_qdl)] [2,3] Tryz.f81 qdm_ann false:=by kernel_rfl
theorem qdm_ok (hm:PM):EO 81 (qdm_E qdm_A):=EA hm (aA (qdl_ok hm) aD) Tryz.call81 Tryz.func81 false (qdm_den qdl_A)
def qdn_ann:AnnA:=(s0 (s1 (s0 (s0 (.cond (s0 .leaf) .leaf))) (s0 (s1 (s0 (.block (.loop ⟨[0,1],[(9,(.c (.i .u64))),(10,(.c (.i .i64)))],[]⟩ (s1 (s0 (.cond .leaf .leaf)) (.seq (some ⟨[0,1,10],[(9,(.c (.i .u64)))],[]⟩) (.block (s0 (s0 (s0 (s0 (.cond .leaf .leaf)))))) .leaf))))) (s0 .leaf)))))
theorem qdn_den (f_qbn:qbn_T):qdn_W (qdn_G f_qbn)=DR [(147,qbn_E f_qbn)] [] Tryz.f108 qdn_ann false:=by kernel_rfl
theorem qdn_ok (hm:PM):EO 108 (qdn_E qdn_A):=EA hm (aA (qbn_ok hm) aD) Tryz.call108 Tryz.func108 false (qdn_den qbn_A)
def qdo_ann:AnnA:=(s0 (s0 (s1 (s0 (.block (.loop ⟨[0,2,3,11],[(12,(.c (.i .i64)))],[]⟩ (s0 (s1 (.cond .leaf .leaf) (s1 (.block (s0 .leaf)) .leaf)))))) (s0 .leaf))))
theorem qdo_den (f_qbj:qbj_T) (f_qbk:qbk_T):qdo_W (qdo_G f_qbj f_qbk)=DR [(176,qbj_E f_qbj),(177,qbk_E f_qbk)] [2] Tryz.f127 qdo_ann false:=by kernel_rfl
theorem qdo_ok (hm:PM):EO 127 (qdo_E qdo_A):=EA hm (aA (qbj_ok hm) (aA (qbk_ok hm) aD)) Tryz.call127 Tryz.func127 false (qdo_den qbj_A qbk_A)
def qdp_ann:AnnA:=(s0 (s1 (.drawS [0,2,3,1,4,5,6,7,8,9,10] []) (s0 .leaf)))
theorem qdp_den (f_qbm:qbm_T) (f_qdn:qdn_T) (f_qdo:qdo_T):qdp_W (qdp_G f_qbm f_qdn f_qdo)=DR [(126,qbm_E f_qbm),(108,qdn_E f_qdn),(127,qdo_E f_qdo)] [3,6] Tryz.f80 qdp_ann false:=by kernel_rfl
theorem qdp_ok (hm:PM):EO 80 (qdp_E qdp_A):=EA hm (aA (qbm_ok hm) (aA (qdn_ok hm) (aA (qdo_ok hm) aD))) Tryz.call80 Tryz.func80 false (qdp_den qbm_A qdn_A qdo_A)
def qdq_ann:AnnA:=(s0 (s0 (s0 (.seq (some ⟨[],[(8,(.c .s))],[]⟩) (s0 (.block (.loop ⟨[3,7],[(8,(.c .s)),(15,(.c (.i .i64)))],[]⟩ (s0 (s1 (.cond .leaf .leaf) (s1 (.block (s0 (s1 (.drawS [1,2,3,5,6,0,4,7,8,9,10] [9]) (s1 (s0 (.cond .leaf .leaf)) .leaf)))) .leaf)))))) (s0 .leaf)))))
theorem qdq_den (f_qdm:qdm_T) (f_qdp:qdp_T):qdq_W (qdq_G f_qdm f_qdp)=DR [(81,qdm_E f_qdm),(80,qdp_E f_qdp)] [3,10] Tryz.f79 qdq_ann false:=by kernel_rfl
theorem qdq_ok (hm:PM):EO 79 (qdq_E qdq_A):=EA hm (aA (qdm_ok hm) (aA (qdp_ok hm) aD)) Tryz.call79 Tryz.func79 false (qdq_den qdm_A qdp_A)
def qdr_ann:AnnA:=(s0 (.seq (some ⟨[1,2,3,7],[],[(7,(0,.b)),(7,(1,.b)),(7,(2,.b))]⟩) (s0 (.cond (s0 .leaf) .leaf)) (s0 (s1 (s0 (.cond (s0 .leaf) .leaf)) (s1 (.drawS [1,2,4,0,3,5,6,7,8,9] [8]) (s1 (s0 (.cond (s0 .leaf) .leaf)) (s1 (.draw 11) .leaf)))))))
theorem qdr_den (f_qdq:qdq_T) (f_qdm:qdm_T) (f_qdp:qdp_T):qdr_W (qdr_G f_qdq f_qdm f_qdp)=DR [(79,qdq_E f_qdq),(81,qdm_E f_qdm),(80,qdp_E f_qdp)] [3,7,10] Tryz.f42 qdr_ann false:=by kernel_rfl
theorem qdr_ok (hm:PM):EO 42 (qdr_E qdr_A):=EA hm (aA (qdq_ok hm) (aA (qdm_ok hm) (aA (qdp_ok hm) aD))) Tryz.call42 Tryz.func42 false (qdr_den qdq_A qdm_A qdp_A)
def qds_ann:AnnA:=(s0 (s0 .leaf))
theorem qds_den:qds_W (qds_A)=DR [] [3,4] Tryz.f165 qds_ann false:=by kernel_rfl
theorem qds_ok (hm:PM):EO 165 (qds_E qds_A):=EA hm aD Tryz.call165 Tryz.func165 false qds_den
def qdt_ann:AnnA:=(s0 (.seq (some ⟨[1,2,3,5,9],[],[]⟩) (s0 (.cond (s0 .leaf) .leaf)) (s1 (.drawS [0,3,4,2,1,5,6,7,8] [6]) (.seq (some ⟨[3,5,9,11,12],[],[]⟩) (s1 (.draw 10) (.cond (s0 .leaf) .leaf)) (s0 (s1 (s0 (.block (.loop ⟨[3,5,9,11,12,56],[(13,(.c .s)),(57,(.c (.i .i64)))],[]⟩ (s0 (s1 (.cond .leaf .leaf) (s1 (.block (s0 (s1 (s0 (.cond (s1 (s0 (.block (.loop ⟨[5,15,66,67],[(68,(.c (.i .i64)))],[]⟩ (s0 (s1 (.cond .leaf .leaf) (s1 (.block (s0 .leaf)) .leaf)))))) (s0 .leaf)) .leaf)) .leaf))) .leaf)))))) (s1 (s0 (.block (.loop ⟨[3,5,9,11,82,83],[(12,(.c .s)),(84,(.c (.i .i64)))],[]⟩ (s0 (s1 (.cond .leaf .leaf) (s1 (.block (s0 (s0 (s1 (.draw 10) .leaf)))) .leaf)))))) (s1 (.drawS [1,2,4,6,0,3,5,7,8,9] []) (s0 .leaf)))))))))
theorem qdt_den (f_qdm:qdm_T) (f_qdq:qdq_T) (f_qdp:qdp_T) (f_qbg:qbg_T) (f_qbi:qbi_T) (f_qbq:qbq_T) (f_qds:qds_T):qdt_W (qdt_G f_qdm f_qdq f_qdp f_qbg f_qbi f_qbq f_qds)=DR [(81,qdm_E f_qdm),(79,qdq_E f_qdq),(80,qdp_E f_qdp),(87,qbg_E f_qbg),(89,qbi_E f_qbi),(90,qbq_E f_qbq),(165,qds_E f_qds)] [5,9] Tryz.f119 qdt_ann false:=by kernel_rfl
theorem qdt_ok (hm:PM):EO 119 (qdt_E qdt_A):=EA hm (aA (qdm_ok hm) (aA (qdq_ok hm) (aA (qdp_ok hm) (aA (qbg_ok hm) (aA (qbi_ok hm) (aA (qbq_ok hm) (aA (qds_ok hm) aD))))))) Tryz.call119 Tryz.func119 false (qdt_den qdm_A qdq_A qdp_A qbg_A qbi_A qbq_A qds_A)
def qdu_ann:AnnA:=(s0 (s0 (s1 (s0 (.cond (s0 .leaf) .leaf)) (s0 (s1 (s0 (.block (.loop ⟨[0,2,7,11,35,36],[(12,(.c (.i .i64))),(37,(.c (.i .i64)))],[]⟩ (s0 (s1 (.cond .leaf .leaf) (.seq (some ⟨[0,2,7,11,35,36,37],[(12,(.c (.i .i64)))],[]⟩) (.block (s0 (s0 (.cond .leaf .leaf)))) .leaf)))))) (.seq (some ⟨[0,2,7,11],[(12,(.c (.i .i64)))],[]⟩) (s0 (.cond .leaf .leaf)) (s0 (s1 (s0 (.cond (s0 .leaf) .leaf)) (s0 (s1 (.drawS [1,2,3,5,0,4,6,7,8,9,10,11,12,13,14] [11]) (s1 (s0 (.cond (.seq (some ⟨[],[(12,(.c (.i .i64)))],[]⟩) (s0 (.cond .leaf .leaf)) (s0 .leaf)) .leaf)) (s1 (s0 (.cond (s0 .leaf) .leaf)) (s0 (s1 (s0 (.cond (s0 .leaf) .leaf)) (s1 (s1 (.draw 9) (s0 (.cond (s0 (s0 .leaf)) .leaf))) (s0 .leaf))))))))))))))))
theorem qdu_den (f_qdk:qdk_T) (f_qau:qau_T) (f_qdr:qdr_T) (f_qdj:qdj_T) (f_qbg:qbg_T) (f_qdt:qdt_T) (f_qbi:qbi_T):qdu_W (qdu_G f_qdk f_qau f_qdr f_qdj f_qbg f_qdt f_qbi)=DR [(117,qdk_E f_qdk),(43,qau_E f_qau),(42,qdr_E f_qdr),(143,qdj_E f_qdj),(87,qbg_E f_qbg),(119,qdt_E f_qdt),(89,qbi_E f_qbi)] [7,15,17,19] Tryz.f144 qdu_ann false:=by kernel_rfl
theorem qdu_ok (hm:PM):EO 144 (qdu_E qdu_A):=EA hm (aA (qdk_ok hm) (aA (qau_ok hm) (aA (qdr_ok hm) (aA (qdj_ok hm) (aA (qbg_ok hm) (aA (qdt_ok hm) (aA (qbi_ok hm) aD))))))) Tryz.call144 Tryz.func144 false (qdu_den qdk_A qau_A qdr_A qdj_A qbg_A qdt_A qbi_A)
def qdv_ann:AnnA:=(s0 (s0 (s0 .leaf)))
theorem qdv_den:qdv_W (qdv_A)=DR [] [] Tryz.f196 qdv_ann false:=by kernel_rfl
theorem qdv_ok (hm:PM):EO 196 (qdv_E qdv_A):=EA hm aD Tryz.call196 Tryz.func196 false qdv_den
def qdw_ann:AnnA:=(.seq (some ⟨[0],[(1,(.c (.i .i64)))],[]⟩) (s0 (.cond .leaf .leaf)) (.seq (some ⟨[0],[(1,(.c (.i .i64)))],[]⟩) (s0 (.cond .leaf .leaf)) (.seq (some ⟨[0],[(1,(.c (.i .i64)))],[]⟩) (s0 (.cond .leaf .leaf)) .leaf)))
theorem qdw_den:qdw_W (qdw_A)=DR [] [] Tryz.f198 qdw_ann true:=by kernel_rfl
theorem qdw_ok (hm:PM):EO 198 (qdw_E qdw_A):=EA hm aD Tryz.call198 Tryz.func198 true qdw_den
def qdx_ann:AnnA:=(s0 (s1 (s0 (.cond (s0 .leaf) .leaf)) (s0 (s0 (s1 (.block (s0 (.cond (s0 .leaf) (s0 (.cond (s0 .leaf) (s0 (.cond (s0 .leaf) .leaf))))))) (s0 .leaf))))))
theorem qdx_den:qdx_W (qdx_A)=DR [] [] Tryz.f226 qdx_ann false:=by kernel_rfl
theorem qdx_ok (hm:PM):EO 226 (qdx_E qdx_A):=EA hm aD Tryz.call226 Tryz.func226 false qdx_den
def qdy_ann:AnnA:=(s0 (s0 (s0 (.seq (some ⟨[0,3,10,11],[],[]⟩) (s0 (.cond .leaf .leaf)) (.seq (some ⟨[0,3,10,11],[],[]⟩) (s0 (.cond .leaf .leaf)) (.seq (some ⟨[0,10,11],[],[]⟩) (s0 (.cond .leaf .leaf)) (s0 (.seq (some ⟨[0,10,11,13],[],[]⟩) .leaf (.seq (some ⟨[0,10,11,13],[],[]⟩) .leaf (s0 (s0 .leaf)))))))))))
theorem qdy_den (f_qdn:qdn_T) (f_qdw:qdw_T) (f_qdx:qdx_T) (f_qdo:qdo_T):qdy_W (qdy_G f_qdn f_qdw f_qdx f_qdo)=DR [(108,qdn_E f_qdn),(198,qdw_E f_qdw),(226,qdx_E f_qdx),(127,qdo_E f_qdo)] [13] Tryz.f197 qdy_ann true:=by kernel_rfl
theorem qdy_ok (hm:PM):EO 197 (qdy_E qdy_A):=EA hm (aA (qdn_ok hm) (aA (qdw_ok hm) (aA (qdx_ok hm) (aA (qdo_ok hm) aD)))) Tryz.call197 Tryz.func197 true (qdy_den qdn_A qdw_A qdx_A qdo_A)
def qdz_ann:AnnA:=(s0 (.block (.loop ⟨[0,1,2,11,12],[(13,(.c (.i .i64)))],[]⟩ (s0 (s1 (.cond .leaf .leaf) (.seq (some ⟨[0,1,2,11,12,13],[],[]⟩) (.block (s0 (s0 (s0 (.seq (some ⟨[0,1,2,7,8,11,12,13],[(10,(.c (.i .u64)))],[]⟩) (s0 (.cond .leaf .leaf)) (s0 (.cond .leaf .leaf))))))) .leaf))))))
theorem qdz_den (f_qdn:qdn_T) (f_qbp:qbp_T):qdz_W (qdz_G f_qdn f_qbp)=DR [(108,qdn_E f_qdn),(107,qbp_E f_qbp)] [] Tryz.f199 qdz_ann false:=by kernel_rfl
theorem qdz_ok (hm:PM):EO 199 (qdz_E qdz_A):=EA hm (aA (qdn_ok hm) (aA (qbp_ok hm) aD)) Tryz.call199 Tryz.func199 false (qdz_den qdn_A qbp_A)
def wC:AnnA:=(s0 (.cond (.draw 0) .leaf))
def vC:AnnA:=(s0 (.cond (.drawS [0,1,3,2,4,5,6,7] []) .leaf))
theorem qea_def (hm:PM):uT Tryz.prog 195 (aFC (dnS [.c .p,.c .p,.c .p] qea_nA)) (aGU (dpS [.c .p,.c .p,.c .p] 317 [(.i .u64),(.i .i64),(.i .i64)] qea_pA)):=
 aKL hm aD (p1:=[3]) (p2:=[3]) (an:=wC) (ap:=vC) Tryz.call195 Tryz.func195 (by kernel_rfl) (by kernel_rfl) (by kernel_rfl) (by kernel_rfl)
def qeb_ann:AnnA:=(s0 (s0 (s1 (s0 (.cond (s0 .leaf) .leaf)) (s1 (s0 (.cond (s0 .leaf) .leaf)) (s0 (s0 (s0 (s0 (.seq (some ⟨[0,7,8,9,10],[(14,(.c .s))],[]⟩) (s0 (.block (.loop ⟨[0,7,8,9,10,11,12],[(14,(.c .s)),(15,(.c (.i .i64))),(16,(.c (.i .i64)))],[]⟩ (s1 (s0 (.cond .leaf .leaf)) (s1 (.block (s0 (s0 (s0 (s0 (.seq (some ⟨[0,7,8,9,10,11,12,14,16,19],[],[]⟩) (s0 (.cond .leaf .leaf)) (.seq (some ⟨[0,7,8,9,10,11,12,14,16,19],[],[]⟩) (s1 (.draw 5) (.cond .leaf .leaf)) (s1 (.draw 17) (s1 (s0 (.cond .leaf .leaf)) .leaf))))))))) .leaf))))) (s0 (s0 .leaf)))))))))))
theorem qeb_den (f_qdv:qdv_T) (f_qbc:qbc_T) (f_qdl:qdl_T) (f_qdy:qdy_T) (f_qdo:qdo_T) (f_qdj:qdj_T) (f_qdw:qdw_T) (f_qdz:qdz_T) (f_qea_n:qea_Tn) (f_qea_p:qea_Tp):qeb_W (qeb_G f_qdv f_qbc f_qdl f_qdy f_qdo f_qdj f_qdw f_qdz f_qea_n (qea_vA f_qea_p))=kL [.c .p,.c (.i .i64),.c (.i .u64),.agg [.b,.b,.b]] EnR λvs K Kp A=>pG Tryz.prog (oP [(196,qdv_E f_qdv),(188,qbc_E f_qbc),(128,qdl_E f_qdl),(197,qdy_E f_qdy),(127,qdo_E f_qdo),(143,qdj_E f_qdj),(198,qdw_E f_qdw),(199,qdz_E f_qdz)]) [7,19] Tryz.f145 qeb_ann 195 (dnS [.c .p,.c .p,.c .p] f_qea_n) (dpS [.c .p,.c .p,.c .p] 317 [(.i .u64),(.i .i64),(.i .i64)] f_qea_p) vs K (np false Kp) A:=by kernel_rfl
theorem qeb_ok (hm:PM):bA Tryz.prog 145 (k8 (qeb_E qeb_A)):=aGB hm (aA (qdv_ok hm) (aA (qbc_ok hm) (aA (qdl_ok hm) (aA (qdy_ok hm) (aA (qdo_ok hm) (aA (qdj_ok hm) (aA (qdw_ok hm) (aA (qdz_ok hm) aD)))))))) (qea_def hm) Tryz.call145 Tryz.func145 (by kernel_rfl) (by kernel_rfl) false (qeb_den qdv_A qbc_A qdl_A qdy_A qdo_A qdj_A qdw_A qdz_A qea_nA qea_pA)
def qec_ann:AnnA:=(s0 (.seq (some ⟨[0,1,5],[],[]⟩) (s0 (.cond (s0 .leaf) .leaf)) (s1 (.drawS [0,1,4,5,2,3,6,7] []) (s1 (s0 (.block (.loop ⟨[1,5,7],[(47,(.c (.i .i64)))],[]⟩ (s0 (s1 (.cond .leaf .leaf) (.seq (some ⟨[1,5,7,47],[],[]⟩) (.block (s0 (s1 (.drawS [0,1,2,3,5,7,4,6,8,9,10,11,12,13,14,15,16,17,18,19,20,21,22,23,24,25,26,28,27,29,30,31,32] []) (.cond .leaf .leaf)))) .leaf)))))) (s1 (.draw 5) (s0 .leaf))))))
theorem qec_den (f_qde:qde_T) (f_qdf:qdf_T):qec_W (qec_G f_qde f_qdf)=DR [(192,qde_E f_qde),(194,qdf_E f_qdf)] [5] Tryz.f146 qec_ann false:=by kernel_rfl
theorem qec_ok (hm:PM):EO 146 (qec_E qec_A):=EA hm (aA (qde_ok hm) (aA (qdf_ok hm) aD)) Tryz.call146 Tryz.func146 false (qec_den qde_A qdf_A)
def qed_ann:AnnA:=(s0 (s0 (s0 (.seq (some ⟨[0,1,2,7,9,10],[],[]⟩) (s0 (.cond .leaf .leaf)) (s0 (.seq (some ⟨[0,1,2,7,9,10,12,13],[],[]⟩) (s0 (s0 (.cond (s0 .leaf) .leaf))) (s1 (.drawS [0,1,2,4,5,3,6,7,8,9,10,11,12,13,14] []) (s0 (.seq (some ⟨[0,2,7,9,10,12,13,18,19],[],[(19,(0,(.i .u64))),(19,(1,(.i .i64)))]⟩) (s0 (.cond .leaf .leaf)) (s0 (s1 (.drawS [0,1,2,7,8,3,4,5,6,9,10,11,12,13,14,15,16,17,18] [15]) (s0 (.seq (some ⟨[20],[],[]⟩) (s0 (.cond (.draw 17) .leaf)) (s0 .leaf))))))))))))))
theorem qed_den (f_qcx:qcx_T) (f_qcy:qcy_T) (f_qcv:qcv_T) (f_qdd:qdd_T) (f_qdi:qdi_T) (f_qdj:qdj_T) (f_qdu:qdu_T) (f_qeb:qeb_T) (f_qec:qec_T):qed_W (qed_G f_qcx f_qcy f_qcv f_qdd f_qdi f_qdj f_qdu f_qeb f_qec)=DR [(139,qcx_E f_qcx),(140,qcy_E f_qcy),(105,qcv_E f_qcv),(141,qdd_E f_qdd),(142,qdi_E f_qdi),(143,qdj_E f_qdj),(144,qdu_E f_qdu),(145,qeb_E f_qeb),(146,qec_E f_qec)] [7,14,19,20] Tryz.f106 qed_ann true:=by kernel_rfl
theorem qed_ok (hm:PM):EO 106 (qed_E qed_A):=EA hm (aA (qcx_ok hm) (aA (qcy_ok hm) (aA (qcv_ok hm) (aA (qdd_ok hm) (aA (qdi_ok hm) (aA (qdj_ok hm) (aA (qdu_ok hm) (aA (qeb_ok hm) (aA (qec_ok hm) aD))))))))) Tryz.call106 Tryz.func106 true (qed_den qcx_A qcy_A qcv_A qdd_A qdi_A qdj_A qdu_A qeb_A qec_A)
def tG:AnnA:=(s0 (.cond (.draw 0) .leaf))
def tF:AnnA:=(s0 (.cond (.drawS [0,2,1,3,4,5,6] []) .leaf))
theorem qee_def (hm:PM):uT Tryz.prog 104 (aFC (dnS [.c .p,.c .p,.c .p] qee_nA)) (aGU (dpS [.c .p,.c .p,.c .p] 226 [(.i .u64),(.i .i64),(.i .i64)] qee_pA)):=
 aKL hm aD (p1:=[3]) (p2:=[3]) (an:=tG) (ap:=tF) Tryz.call104 Tryz.func104 (by kernel_rfl) (by kernel_rfl) (by kernel_rfl) (by kernel_rfl)
def qef_ann:AnnA:=(s0 (s0 (.seq (some ⟨[0,1,2,3,4,5,12,13,14],[],[]⟩) (s0 (.block (.seq (some ⟨[0,1,2,3,4,5,12,13,14],[(20,(.c .b))],[]⟩) (s0 (.cond .leaf (s0 (.cond .leaf (s0 (.cond .leaf .leaf)))))) (.cond .leaf .leaf)))) (.seq (some ⟨[0,1,2,3,4,5,12,13,14],[],[]⟩) (s0 (.cond .leaf .leaf)) (s0 (s1 (s0 (.cond (s0 (s0 .leaf)) .leaf)) (s0 (s1 (.drawS [1,0,2,3,4,5] []) .leaf))))))))
theorem qef_den (f_qcv:qcv_T) (f_qed:qed_T) (f_qbp:qbp_T) (f_qdn:qdn_T) (f_qee_n:qee_Tn) (f_qee_p:qee_Tp):qef_W (qef_G f_qcv f_qed f_qbp f_qdn f_qee_n (qee_vA f_qee_p))=kL [.c .p,.c (.i .i64),.c (.i .u64),.c (.i .i64),.c .b,.c (.i .u64)] EnR λvs K Kp A=>pG Tryz.prog (oP [(105,qcv_E f_qcv),(106,qed_E f_qed),(107,qbp_E f_qbp),(108,qdn_E f_qdn)]) [] Tryz.f58 qef_ann 104 (dnS [.c .p,.c .p,.c .p] f_qee_n) (dpS [.c .p,.c .p,.c .p] 226 [(.i .u64),(.i .i64),(.i .i64)] f_qee_p) vs K (np false Kp) A:=by kernel_rfl
theorem qef_ok (hm:PM):bA Tryz.prog 58 (k8 (qef_E qef_A)):=aGB hm (aA (qcv_ok hm) (aA (qed_ok hm) (aA (qbp_ok hm) (aA (qdn_ok hm) aD)))) (qee_def hm) Tryz.call58 Tryz.func58 (by kernel_rfl) (by kernel_rfl) false (qef_den qcv_A qed_A qbp_A qdn_A qee_nA qee_pA)
def qeg_ann:AnnA:=(s0 (s1 (.block (s0 (.cond (s0 .leaf) (s0 (.cond (s0 .leaf) .leaf))))) (s1 (.drawS [1,0,2,3,4,5,6,7,8] []) (s0 (s0 .leaf)))))
theorem qeg_den:qeg_W (qeg_A)=DR [] [2,4] Tryz.f59 qeg_ann false:=by kernel_rfl
theorem qeg_ok (hm:PM):EO 59 (qeg_E qeg_A):=EA hm aD Tryz.call59 Tryz.func59 false qeg_den
def qeh_ann:AnnA:=(s0 (s0 (s1 (.drawS [0,1,2,4,5,6,8,10,12,15,3,7,9,11,13,14,16,17,18,19,20,21,22,23,24,25] [22]) (s0 (.seq (some ⟨[6,11],[],[(11,(5,.b))]⟩) (s0 (.cond (s1 (.drawS [0,1,2,3,4,5,6,7,8,9,10,11] [9]) .leaf) .leaf)) (s0 .leaf))))))
theorem qeh_den (f_qef:qef_T) (f_qeg:qeg_T):qeh_W (qeh_G f_qef f_qeg)=DR [(58,qef_E f_qef),(59,qeg_E f_qeg)] [5,6,9,11,12] Tryz.f28 qeh_ann false:=by kernel_rfl
theorem qeh_ok (hm:PM):EO 28 (qeh_E qeh_A):=EA hm (aA (qef_ok hm) (aA (qeg_ok hm) aD)) Tryz.call28 Tryz.func28 false (qeh_den qef_A qeg_A)
def qei_ann:AnnA:=(s0 (s0 .leaf))
theorem qei_den:qei_W (qei_A)=DR [] [1] Tryz.f149 qei_ann false:=by kernel_rfl
theorem qei_ok (hm:PM):EO 149 (qei_E qei_A):=EA hm aD Tryz.call149 Tryz.func149 false qei_den
def qej_ann:AnnA:=(s0 (s0 .leaf))
theorem qej_den:qej_W (qej_A)=DR [] [2,3] Tryz.f200 qej_ann false:=by kernel_rfl
theorem qej_ok (hm:PM):EO 200 (qej_E qej_A):=EA hm aD Tryz.call200 Tryz.func200 false qej_den
def qek_ann:AnnA:=(s0 (s1 (s0 (.cond (s0 .leaf) .leaf)) (s1 (s0 (.block (.loop ⟨[0,8,9],[(10,(.c (.i .i64)))],[]⟩ (s0 (s1 (.cond .leaf .leaf) (s1 (.block (s0 (s1 (s0 (.cond (s0 .leaf) .leaf)) (s1 (.draw 21) (.cond (s0 .leaf) .leaf))))) .leaf)))))) (s0 .leaf))))
theorem qek_den (f_qej:qej_T):qek_W (qek_G f_qej)=DR [(200,qej_E f_qej)] [4] Tryz.f150 qek_ann false:=by kernel_rfl
theorem qek_ok (hm:PM):EO 150 (qek_E qek_A):=EA hm (aA (qej_ok hm) aD) Tryz.call150 Tryz.func150 false (qek_den qej_A)
def qel_ann:AnnA:=(s0 (s1 (s0 (.cond (s0 .leaf) .leaf)) (s0 .leaf)))
theorem qel_den:qel_W (qel_A)=DR [] [] Tryz.f154 qel_ann false:=by kernel_rfl
theorem qel_ok (hm:PM):EO 154 (qel_E qel_A):=EA hm aD Tryz.call154 Tryz.func154 false qel_den
theorem qem_ok (_hm:PM):aCU Tryz.prog 201 (k8 (qem_E qem_A)):=overlaps_ok (tS:=126) (tR:=4) Tryz.func201 (by kernel_rfl) (by kernel_rfl) (by kernel_rfl) (by kernel_rfl) Tryz.underlying126 (by kernel_rfl)
theorem gK {P:Program} {f:FuncId} {l:List PSh} {F:aW l EnR} (he:∀ (xs:Array Value) (w:World),(callFunc f xs).run P w = .ok (.enter f xs) w) (hF:F=kL l EnR λ_ _ _ _=>False):bA P f (k8 (bB l F)):=by
 subst hF;exact ⟨he,λargs K Kp w ⟨A,L,KA,KpA,s,hh,h1,h2⟩=>(gF hh).elim⟩
theorem qen_ok (_hm:PM):bA Tryz.prog 202 (k8 (qen_E qen_A)):=gK Tryz.call202 rfl
def qeo_ann:AnnA:=(s0 (s0 (s0 (s1 (s0 (.cond (s0 .leaf) .leaf)) (s0 (s1 (s0 (.cond (s0 .leaf) .leaf)) (s1 (s0 (.cond (s0 (s0 (s1 (.draw 8) (s0 .leaf)))) .leaf)) (s0 (s1 (s0 (.cond (s1 (.draw 8) (s0 (s0 .leaf))) .leaf)) (s0 (s0 (s0 .leaf))))))))))))
theorem qeo_den (f_qem:qem_T) (f_qen:qen_T):qeo_W (qeo_G f_qem f_qen)=DR [(201,qem_E f_qem),(202,qen_E f_qen)] [] Tryz.f153 qeo_ann false:=by kernel_rfl
theorem qeo_ok (hm:PM):EO 153 (qeo_E qeo_A):=EA hm (aAF (qem_ok hm) (aA (qen_ok hm) aD)) Tryz.call153 Tryz.func153 false (qeo_den qem_A qen_A)
def qep_ann:AnnA:=(s0 (s0 (s1 (s0 (.block (.loop ⟨[7,8],[(3,(.c .s)),(9,(.c (.i .i64)))],[]⟩ (s0 (s1 (.cond .leaf .leaf) (.seq (some ⟨[7,8,9],[(3,(.c .s))],[]⟩) (.block (s0 (s1 (s0 (s1 (.draw 9) (.cond (s0 .leaf) .leaf))) .leaf))) .leaf)))))) (s0 .leaf))))
theorem qep_den (f_qej:qej_T):qep_W (qep_G f_qej)=DR [(200,qej_E f_qej)] [5] Tryz.f152 qep_ann false:=by kernel_rfl
theorem qep_ok (hm:PM):EO 152 (qep_E qep_A):=EA hm (aA (qej_ok hm) aD) Tryz.call152 Tryz.func152 false (qep_den qej_A)
def qeq_ann:AnnA:=(s0 (s1 (s0 (.cond (s0 .leaf) .leaf)) (s0 .leaf)))
theorem qeq_den:qeq_W (qeq_A)=DR [] [] Tryz.f151 qeq_ann false:=by kernel_rfl
theorem qeq_ok (hm:PM):EO 151 (qeq_E qeq_A):=EA hm aD Tryz.call151 Tryz.func151 false qeq_den
def qer_ann:AnnA:=(s0 (s1 (s0 (.cond (s0 .leaf) .leaf)) (s1 (s0 (.cond (s0 .leaf) .leaf)) (s0 (s1 (s0 (.block (.loop ⟨[0,3,16,17],[(6,(.c (.i .i64))),(18,(.c (.i .i64)))],[]⟩ (s0 (s1 (.cond .leaf .leaf) (.seq (some ⟨[0,3,16,17,18],[(6,(.c (.i .i64)))],[]⟩) (.block (s0 (.block (s0 (.cond .leaf (s0 (.cond (s0 .leaf) .leaf))))))) .leaf)))))) (s1 (.drawS [0,2,3,1,4,5,6,7,8,9,10,11] []) .leaf))))))
theorem qer_den (f_qei:qei_T) (f_qek:qek_T) (f_qel:qel_T) (f_qeo:qeo_T) (f_qep:qep_T) (f_qeq:qeq_T):qer_W (qer_G f_qei f_qek f_qel f_qeo f_qep f_qeq)=DR [(149,qei_E f_qei),(150,qek_E f_qek),(154,qel_E f_qel),(153,qeo_E f_qeo),(152,qep_E f_qep),(151,qeq_E f_qeq)] [3,8] Tryz.f109 qer_ann false:=by kernel_rfl
theorem qer_ok (hm:PM):EO 109 (qer_E qer_A):=EA hm (aA (qei_ok hm) (aA (qek_ok hm) (aA (qel_ok hm) (aA (qeo_ok hm) (aA (qep_ok hm) (aA (qeq_ok hm) aD)))))) Tryz.call109 Tryz.func109 false (qer_den qei_A qek_A qel_A qeo_A qep_A qeq_A)
def qes_ann:AnnA:=(s0 (s0 (s1 (s0 (.cond (s0 .leaf) .leaf)) (s1 (.drawS [0,1,2,3,4,5,6,7,8,9,10,11,12] []) (.seq (some ⟨[11],[],[]⟩) (s0 (.cond .leaf .leaf)) (s0 .leaf))))))
theorem qes_den (f_qer:qer_T):qes_W (qes_G f_qer)=DR [(109,qer_E f_qer)] [6,7] Tryz.f60 qes_ann false:=by kernel_rfl
theorem qes_ok (hm:PM):EO 60 (qes_E qes_A):=EA hm (aA (qer_ok hm) aD) Tryz.call60 Tryz.func60 false (qes_den qer_A)
theorem qet_ok (_hm:PM):bA Tryz.prog 61 (k8 (qet_E qet_A)):=gK Tryz.call61 rfl
theorem qeu_ok (_hm:PM):bA Tryz.prog 62 (k8 (qeu_E qeu_A)):=gK Tryz.call62 rfl
def qev_ann:AnnA:=(s0 (s1 (.draw 18) (s1 (s0 (.block (s0 (.cond (s0 .leaf) (s0 (.cond (s0 .leaf) .leaf)))))) (s0 .leaf))))
theorem qev_den (f_qes:qes_T) (f_qet:qet_T) (f_qeu:qeu_T):qev_W (qev_G f_qes f_qet f_qeu)=DR [(60,qes_E f_qes),(61,qet_E f_qet),(62,qeu_E f_qeu)] [5] Tryz.f29 qev_ann false:=by kernel_rfl
theorem qev_ok (hm:PM):EO 29 (qev_E qev_A):=EA hm (aA (qes_ok hm) (aA (qet_ok hm) (aA (qeu_ok hm) aD))) Tryz.call29 Tryz.func29 false (qev_den qes_A qet_A qeu_A)
theorem qew_ok (_hm:PM):bA Tryz.prog 30 (k8 (qew_E qew_A)):=gK Tryz.call30 rfl
theorem qex_ok (_hm:PM):bA Tryz.prog 31 (k8 (qex_E qex_A)):=gK Tryz.call31 rfl
theorem qey_ok (_hm:PM):bA Tryz.prog 32 (k8 (qey_E qey_A)):=gK Tryz.call32 rfl
def qez_ann:AnnA:=(s0 (s0 (s0 (.cond (.drawS [0,1,2,3,7,8,9,4,5,10,11,12,6,13,14,15,16,17] []) .leaf))))
theorem qez_den (f_qch:qch_T):qez_W (qez_G f_qch)=DR [(77,qch_E f_qch)] [] Tryz.f71 qez_ann false:=by kernel_rfl
theorem qez_ok (hm:PM):EO 71 (qez_E qez_A):=EA hm (aA (qch_ok hm) aD) Tryz.call71 Tryz.func71 false (qez_den qch_A)
def qfa_ann:AnnA:=(s0 (s0 .leaf))
theorem qfa_den:qfa_W (qfa_A)=DR [] [] Tryz.f212 qfa_ann false:=by kernel_rfl
theorem qfa_ok (hm:PM):EO 212 (qfa_E qfa_A):=EA hm aD Tryz.call212 Tryz.func212 false qfa_den
shelf_lay_g SlLaysZI.n8 Ggz 8 at Tryz 186 as slices_Collect_int_s2_l1
shelf_lay_g SlLaysZI.n7 Ggz 7 at Tryz 212 as slices_Collect_int_s2_l2
theorem qfb_ok (_hm:PM):bA Tryz.prog 186 (k8 (qfb_E qfb_A)):=
 uJ (ρ:=slices_Collect_int_s2_l1_ren) (ρ':=slices_Collect_int_s2_l2_ren) slices_Collect_int_s2_l1 { slices_Collect_int_s2_l2 with } rfl rfl rfl rfl
shelf_lay Lays.n189 Nm 189 at Tryz as slices_Sort_int_int_l
theorem qfc_ok (_hm:PM):bA Tryz.prog 228 (k8 (qfc_E qfc_A)):=aHd slices_Sort_int_int_l rfl (enters_of Tryz.func228 (by kernel_rfl) rfl) rfl
def qfd_ann:AnnA:=(s0 (s0 (s0 (s0 .leaf))))
theorem qfd_den (f_qfb:qfb_T) (f_qfc:qfc_T):qfd_W (qfd_G f_qfb f_qfc)=DR [(186,qfb_E f_qfb),(228,qfc_E f_qfc)] [] Tryz.f211 qfd_ann false:=by kernel_rfl
theorem qfd_ok (hm:PM):EO 211 (qfd_E qfd_A):=EA hm (aA (qfb_ok hm) (aA (qfc_ok hm) aD)) Tryz.call211 Tryz.func211 false (qfd_den qfb_A qfc_A)
def qfe_ann:AnnA:=(s0 (s0 (s1 (s0 (.block (.loop ⟨[0,1,14,15],[(5,(.c .s)),(16,(.c (.i .i64)))],[]⟩ (s0 (s1 (.cond .leaf .leaf) (.seq (some ⟨[0,1,14,15,16],[(5,(.c .s))],[]⟩) (.block (s0 (s0 (s0 (.cond .leaf .leaf))))) .leaf)))))) (s0 .leaf))))
theorem qfe_den (f_qfa:qfa_T) (f_qfd:qfd_T):qfe_W (qfe_G f_qfa f_qfd)=DR [(212,qfa_E f_qfa),(211,qfd_E f_qfd)] [8] Tryz.f168 qfe_ann false:=by kernel_rfl
theorem qfe_ok (hm:PM):EO 168 (qfe_E qfe_A):=EA hm (aA (qfa_ok hm) (aA (qfd_ok hm) aD)) Tryz.call168 Tryz.func168 false (qfe_den qfa_A qfd_A)
def qff_ann:AnnA:=(s0 (s0 (s1 (s0 (.block (.loop ⟨[0,10,11],[(5,(.c .s)),(12,(.c (.i .i64)))],[]⟩ (s0 (s1 (.cond .leaf .leaf) (s1 (.block (s0 (s0 .leaf))) .leaf)))))) (s0 .leaf))))
theorem qff_den (f_qfe:qfe_T):qff_W (qff_G f_qfe)=DR [(168,qfe_E f_qfe)] [] Tryz.f121 qff_ann false:=by kernel_rfl
theorem qff_ok (hm:PM):EO 121 (qff_E qff_A):=EA hm (aA (qfe_ok hm) aD) Tryz.call121 Tryz.func121 false (qff_den qfe_A)
theorem qfg_ok (_hm:PM):bA Tryz.prog 70 (k8 (qfg_E qfg_A)):=gK Tryz.call70 rfl
def qfh_ann:AnnA:=(s0 (s0 .leaf))
theorem qfh_den:qfh_W (qfh_A)=DR [] [2] Tryz.f158 qfh_ann false:=by kernel_rfl
theorem qfh_ok (hm:PM):EO 158 (qfh_E qfh_A):=EA hm aD Tryz.call158 Tryz.func158 false qfh_den
def qfi_ann:AnnA:=(s0 (s1 (s0 (.block (.loop ⟨[0,1,7],[(8,(.c (.i .i64)))],[]⟩ (s0 (s1 (.cond .leaf .leaf) (s1 (.block (s0 (s0 (.cond (s0 .leaf) .leaf)))) .leaf)))))) (s0 .leaf)))
theorem qfi_den (f_qfh:qfh_T):qfi_W (qfi_G f_qfh)=DR [(158,qfh_E f_qfh)] [] Tryz.f204 qfi_ann false:=by kernel_rfl
theorem qfi_ok (hm:PM):EO 204 (qfi_E qfi_A):=EA hm (aA (qfh_ok hm) aD) Tryz.call204 Tryz.func204 false (qfi_den qfh_A)
def qfj_ann:AnnA:=(s0 (s0 .leaf))
theorem qfj_den (f_qfi:qfi_T):qfj_W (qfj_G f_qfi)=DR [(204,qfi_E f_qfi)] [] Tryz.f157 qfj_ann false:=by kernel_rfl
theorem qfj_ok (hm:PM):EO 157 (qfj_E qfj_A):=EA hm (aA (qfi_ok hm) aD) Tryz.call157 Tryz.func157 false (qfj_den qfi_A)
def qfk_ann:AnnA:=(s0 (s1 (s0 (.block (.loop ⟨[0,3,10],[],[]⟩ (s0 (s1 (.cond .leaf .leaf) (.block (s0 (s0 (.cond (s0 .leaf) .leaf))))))))) (s0 .leaf)))
theorem qfk_den (f_qfj:qfj_T):qfk_W (qfk_G f_qfj)=DR [(157,qfj_E f_qfj)] [] Tryz.f111 qfk_ann false:=by kernel_rfl
theorem qfk_ok (hm:PM):EO 111 (qfk_E qfk_A):=EA hm (aA (qfj_ok hm) aD) Tryz.call111 Tryz.func111 false (qfk_den qfj_A)
def qfl_ann:AnnA:=.leaf
theorem qfl_den:qfl_W (qfl_A)=DR [] [] Tryz.f207 qfl_ann false:=by kernel_rfl
theorem qfl_ok (hm:PM):EO 207 (qfl_E qfl_A):=EA hm aD Tryz.call207 Tryz.func207 false qfl_den
def qfm_ann:AnnA:=(s0 (s0 (.block (.loop ⟨[1,2,3,4,5],[(12,(.c (.i .i64)))],[]⟩ (s0 (s1 (.cond .leaf .leaf) (.seq (some ⟨[1,2,3,4,5,12],[],[]⟩) (.block (s0 (.seq (some ⟨[1,2,3,4,5,10,12],[],[]⟩) (s0 (.cond .leaf .leaf)) (s0 (.block (s0 (.cond .leaf (s0 (.cond .leaf .leaf))))))))) .leaf)))))))
theorem qfm_den (f_self:qfm_T) (f_qdp:qdp_T) (f_qfl:qfl_T):qfm_W (qfm_G f_self f_qdp f_qfl)=DR [(206,qfm_E f_self),(80,qdp_E f_qdp),(207,qfl_E f_qfl)] [5,11] Tryz.f206 qfm_ann false:=by kernel_rfl
theorem fX (hm:PM):∀ k,bA Tryz.prog 206 (k8 (bB [.agg [.p,.p,.p,(.i .i64)],.c (.i .i64),.c (.i .i64),.c (.i .i64),.fn 207 [] [.p]] (qfm_W (qfm_A k))))
 | 0=>aFr Tryz.call206 (by kernel_rfl)
 | k+1=>aJY hm (aA (fX hm k) (aA (qdp_ok hm) (aA (qfl_ok hm) aD))) Tryz.call206 Tryz.func206 (by kernel_rfl) (by kernel_rfl) false (qfm_den (qfm_A k) qdp_A qfl_A)
theorem qfm_ok (hm:PM):bA Tryz.prog 206 (k8 (qfm_E eG)):=aGr (fX hm) (by kernel_rfl)
def qfn_ann:AnnA:=(s0 (s0 (s0 (s0 .leaf))))
theorem qfn_den (f_qfm:qfm_T):qfn_W (qfn_G f_qfm)=DR [(206,qfm_E f_qfm)] [2] Tryz.f160 qfn_ann false:=by kernel_rfl
theorem qfn_ok (hm:PM):EO 160 (qfn_E qfn_A):=EA hm (aA (qfm_ok hm) aD) Tryz.call160 Tryz.func160 false (qfn_den eG)
theorem qfo_ok (_hm:PM):bA Tryz.prog 113 (k8 (qfo_E qfo_A)):=gK Tryz.call113 rfl
def qfp_ann:AnnA:=(s0 (s0 (s0 .leaf)))
theorem qfp_den:qfp_W (qfp_A)=DR [] [] Tryz.f166 qfp_ann false:=by kernel_rfl
theorem qfp_ok (hm:PM):EO 166 (qfp_E qfp_A):=EA hm aD Tryz.call166 Tryz.func166 false qfp_den
def qfq_ann:AnnA:=(s0 (s0 .leaf))
theorem qfq_den:qfq_W (qfq_A)=DR [] [2] Tryz.f213 qfq_ann false:=by kernel_rfl
theorem qfq_ok (hm:PM):EO 213 (qfq_E qfq_A):=EA hm aD Tryz.call213 Tryz.func213 false qfq_den
def qfr_ann:AnnA:=(s0 (.block (.loop ⟨[0,1],[(6,(.c (.i .i64)))],[]⟩ (s0 (s1 (.cond .leaf .leaf) (s1 (.block (s0 (s0 (.block (.loop ⟨[0,1,4,6],[(9,(.c (.i .i64)))],[]⟩ (s0 (s1 (.cond .leaf .leaf) (.seq (some ⟨[0,1,4,6,9],[],[]⟩) (.block (s0 (s0 (.cond .leaf .leaf)))) .leaf)))))))) .leaf))))))
theorem qfr_den (f_qfq:qfq_T):qfr_W (qfr_G f_qfq)=DR [(213,qfq_E f_qfq)] [] Tryz.f209 qfr_ann false:=by kernel_rfl
theorem qfr_ok (hm:PM):EO 209 (qfr_E qfr_A):=EA hm (aA (qfq_ok hm) aD) Tryz.call209 Tryz.func209 false (qfr_den qfq_A)
def qfs_ann:AnnA:=(s0 .leaf)
theorem qfs_den (f_qfr:qfr_T):qfs_W (qfs_G f_qfr)=DR [(209,qfr_E f_qfr)] [] Tryz.f169 qfs_ann false:=by kernel_rfl
theorem qfs_ok (hm:PM):EO 169 (qfs_E qfs_A):=EA hm (aA (qfr_ok hm) aD) Tryz.call169 Tryz.func169 false (qfs_den qfr_A)
def qft_ann:AnnA:=(s0 (s0 (.cond (s0 .leaf) .leaf)))
theorem qft_den:qft_W (qft_A)=DR [] [] Tryz.f170 qft_ann false:=by kernel_rfl
theorem qft_ok (hm:PM):EO 170 (qft_E qft_A):=EA hm aD Tryz.call170 Tryz.func170 false qft_den
def qfu_ann:AnnA:=(s0 (s1 (s0 (.cond (s0 .leaf) .leaf)) (s0 (s0 .leaf))))
theorem qfu_den (f_qfn:qfn_T) (f_qbi:qbi_T):qfu_W (qfu_G f_qfn f_qbi)=DR [(160,qfn_E f_qfn),(89,qbi_E f_qbi)] [2] Tryz.f171 qfu_ann false:=by kernel_rfl
theorem qfu_ok (hm:PM):EO 171 (qfu_E qfu_A):=EA hm (aA (qfn_ok hm) (aA (qbi_ok hm) aD)) Tryz.call171 Tryz.func171 false (qfu_den qfn_A qbi_A)
def qfv_ann:AnnA:=(s0 (s0 (s1 (s0 (.cond (s0 .leaf) .leaf)) (s1 (s0 (.cond (s0 .leaf) .leaf)) (s0 (s1 (s1 (.drawS [1,2,3,7,0,4,5,6] []) (.block (.loop ⟨[0,1,5,6,33,34],[(35,(.c (.i .i64)))],[]⟩ (s0 (s1 (.cond .leaf .leaf) (s1 (.block (s0 .leaf)) .leaf)))))) (.seq (some ⟨[0,1,5,6],[],[]⟩) (s0 (s0 (.cond .leaf .leaf))) (s0 (s1 (.draw 5) (s0 (s0 .leaf)))))))))))
theorem qfv_den (f_qfk:qfk_T) (f_qau:qau_T) (f_qfn:qfn_T) (f_qfo:qfo_T) (f_qfp:qfp_T) (f_qfs:qfs_T) (f_qft:qft_T) (f_qfu:qfu_T):qfv_W (qfv_G f_qfk f_qau f_qfn f_qfo f_qfp f_qfs f_qft f_qfu)=DR [(111,qfk_E f_qfk),(43,qau_E f_qau),(160,qfn_E f_qfn),(113,qfo_E f_qfo),(166,qfp_E f_qfp),(169,qfs_E f_qfs),(170,qft_E f_qft),(171,qfu_E f_qfu)] [6] Tryz.f122 qfv_ann false:=by kernel_rfl
theorem qfv_ok (hm:PM):EO 122 (qfv_E qfv_A):=EA hm (aA (qfk_ok hm) (aA (qau_ok hm) (aA (qfn_ok hm) (aA (qfo_ok hm) (aA (qfp_ok hm) (aA (qfs_ok hm) (aA (qft_ok hm) (aA (qfu_ok hm) aD)))))))) Tryz.call122 Tryz.func122 false (qfv_den qfk_A qau_A qfn_A qfo_A qfp_A qfs_A qft_A qfu_A)
def qfw_ann:AnnA:=(s0 (s0 (s1 (s0 (.cond (s0 .leaf) .leaf)) (s0 (s1 (.draw 6) (s0 (s0 .leaf)))))))
theorem qfw_den:qfw_W (qfw_A)=DR [] [] Tryz.f172 qfw_ann false:=by kernel_rfl
theorem qfw_ok (hm:PM):EO 172 (qfw_E qfw_A):=EA hm aD Tryz.call172 Tryz.func172 false qfw_den
def qfx_ann:AnnA:=(s0 (s0 (s1 (s0 (.cond (s0 .leaf) .leaf)) (.seq (some ⟨[0,5],[],[]⟩) (s0 (.cond .leaf .leaf)) (s0 (s0 .leaf))))))
theorem qfx_den (f_qcf:qcf_T) (f_qch:qch_T) (f_qfw:qfw_T):qfx_W (qfx_G f_qcf f_qch f_qfw)=DR [(138,qcf_E f_qcf),(77,qch_E f_qch),(172,qfw_E f_qfw)] [] Tryz.f123 qfx_ann false:=by kernel_rfl
theorem qfx_ok (hm:PM):EO 123 (qfx_E qfx_A):=EA hm (aA (qcf_ok hm) (aA (qch_ok hm) (aA (qfw_ok hm) aD))) Tryz.call123 Tryz.func123 false (qfx_den qcf_A qch_A qfw_A)
def qfy_ann:AnnA:=(s1 (s0 (.block (.loop ⟨[0,1],[(9,(.c (.i .i64)))],[]⟩ (s0 (s1 (.cond .leaf .leaf) (.seq (some ⟨[0,1,9],[],[]⟩) (.block (s0 (s0 (s0 (.cond .leaf .leaf))))) .leaf)))))) (s1 (s0 (.block (.loop ⟨[0,1,40,41],[(42,(.c (.i .i64)))],[]⟩ (s0 (s1 (.cond .leaf .leaf) (s1 (.block (s0 .leaf)) .leaf)))))) (s0 (s1 (.draw 11) (s1 (.draw 14) (s0 .leaf))))))
theorem qfy_den (f_self:qfy_T) (f_qff:qff_T) (f_qfg:qfg_T) (f_qfv:qfv_T) (f_qce:qce_T) (f_qfx:qfx_T):qfy_W (qfy_G f_self f_qff f_qfg f_qfv f_qce f_qfx)=DR [(72,qfy_E f_self),(121,qff_E f_qff),(70,qfg_E f_qfg),(122,qfv_E f_qfv),(52,qce_E f_qce),(123,qfx_E f_qfx)] [7] Tryz.f72 qfy_ann false:=by kernel_rfl
theorem fF (hm:PM):∀ k,bA Tryz.prog 72 (k8 (bB [.c .p,.c (.i .i64)] (qfy_W (qfy_A k))))
 | 0=>aFr Tryz.call72 (by kernel_rfl)
 | k+1=>aJY hm (aA (fF hm k) (aA (qff_ok hm) (aA (qfg_ok hm) (aA (qfv_ok hm) (aA (qce_ok hm) (aA (qfx_ok hm) aD)))))) Tryz.call72 Tryz.func72 (by kernel_rfl) (by kernel_rfl) false (qfy_den (qfy_A k) qff_A qfg_A qfv_A qce_A qfx_A)
theorem qfy_ok (hm:PM):bA Tryz.prog 72 (k8 (qfy_E dT)):=aGr (fF hm) (by kernel_rfl)
def qfz_ann:AnnA:=(s0 (.seq (some ⟨[],[],[]⟩) (.block (s0 (.cond (s1 (.drawS [0,1,2,3,4,6,11,5,7,8,9,10,12,13,14,15,16,17,18] []) (s0 .leaf)) (s0 (.cond .leaf (s0 (.cond (s0 .leaf) .leaf))))))) (s0 .leaf)))
theorem qfz_den (f_qcj:qcj_T) (f_qez:qez_T) (f_qfy:qfy_T):qfz_W (qfz_G f_qcj f_qez f_qfy)=DR [(23,qcj_E f_qcj),(71,qez_E f_qez),(72,qfy_E f_qfy)] [5] Tryz.f33 qfz_ann false:=by kernel_rfl
theorem qfz_ok (hm:PM):EO 33 (qfz_E qfz_A):=EA hm (aA (qcj_ok hm) (aA (qez_ok hm) (aA (qfy_ok hm) aD))) Tryz.call33 Tryz.func33 false (qfz_den qcj_A qez_A dT)
theorem qga_ok (_hm:PM):bA Tryz.prog 34 (k8 (qga_E qga_A)):=gK Tryz.call34 rfl
def qgb_ann:AnnA:=(s0 (s1 (s0 (.cond (s0 .leaf) .leaf)) (s0 (s0 (s1 (s0 (.cond (s0 .leaf) .leaf)) (.seq (some ⟨[0,4,5,7],[],[(4,(0,(.i .i64))),(4,(1,(.i .u64))),(4,(2,(.i .i64))),(4,(3,(.i .u64))),(4,(4,(.i .i64))),(4,(5,.b))]⟩) (s0 (.cond (s0 .leaf) .leaf)) (s0 (.seq (some ⟨[4,9],[],[(9,(1,(.i .u64))),(9,(2,(.i .i64)))]⟩) (s0 (.block (.seq (some ⟨[0,4,5,7,9,49],[(59,(.c .b))],[]⟩) (s0 (.cond .leaf (s0 (.cond .leaf .leaf)))) (.cond .leaf (s0 (.cond .leaf (s0 (.cond .leaf (.seq (some ⟨[0,4,5,7,9,49],[(94,(.c .b))],[]⟩) (s0 (.cond .leaf .leaf)) (.cond .leaf (.seq (some ⟨[0,4,5,7,9],[(106,(.c .b))],[]⟩) (s0 (.cond .leaf (s0 (.cond .leaf .leaf)))) (.cond .leaf .leaf)))))))))))) (s0 .leaf)))))))))
theorem qgb_den (f_qcl:qcl_T) (f_qcu:qcu_T) (f_qeh:qeh_T) (f_qev:qev_T) (f_qew:qew_T) (f_qex:qex_T) (f_qey:qey_T) (f_qfz:qfz_T) (f_qga:qga_T):qgb_W (qgb_G f_qcl f_qcu f_qeh f_qev f_qew f_qex f_qey f_qfz f_qga)=DR [(26,qcl_E f_qcl),(27,qcu_E f_qcu),(28,qeh_E f_qeh),(29,qev_E f_qev),(30,qew_E f_qew),(31,qex_E f_qex),(32,qey_E f_qey),(33,qfz_E f_qfz),(34,qga_E f_qga)] [3,4,7,9] Tryz.f11 qgb_ann false:=by kernel_rfl
theorem qgb_ok (hm:PM):EO 11 (qgb_E qgb_A):=EA hm (aA (qcl_ok hm) (aA (qcu_ok hm) (aA (qeh_ok hm) (aA (qev_ok hm) (aA (qew_ok hm) (aA (qex_ok hm) (aA (qey_ok hm) (aA (qfz_ok hm) (aA (qga_ok hm) aD))))))))) Tryz.call11 Tryz.func11 false (qgb_den qcl_A qcu_A qeh_A qev_A qew_A qex_A qey_A qfz_A qga_A)
def qgc_ann:AnnA:=(s0 (s1 (s0 (.cond (s0 .leaf) .leaf)) (s0 (s0 .leaf))))
theorem qgc_den (f_qcl:qcl_T):qgc_W (qgc_G f_qcl)=DR [(26,qcl_E f_qcl)] [] Tryz.f16 qgc_ann false:=by kernel_rfl
theorem qgc_ok (hm:PM):EO 16 (qgc_E qgc_A):=EA hm (aA (qcl_ok hm) aD) Tryz.call16 Tryz.func16 false (qgc_den qcl_A)
def qgd_ann:AnnA:=(s0 (s0 (.seq (some ⟨[1],[],[]⟩) (s0 (.cond (s0 .leaf) .leaf)) (s0 (s0 (s0 (s0 (s0 .leaf))))))))
theorem qgd_den (f_qac:qac_T) (f_qck:qck_T) (f_qgb:qgb_T) (f_qgc:qgc_T):qgd_W (qgd_G f_qac f_qck f_qgb f_qgc)=DR [(10,qac_E f_qac),(9,qck_E f_qck),(11,qgb_E f_qgb),(16,qgc_E f_qgc)] [3,4,5,6] Tryz.f8 qgd_ann false:=by kernel_rfl
theorem qgd_ok (hm:PM):EO 8 (qgd_E qgd_A):=EA hm (aA (qac_ok hm) (aA (qck_ok hm) (aA (qgb_ok hm) (aA (qgc_ok hm) aD)))) Tryz.call8 Tryz.func8 false (qgd_den qac_A qck_A qgb_A qgc_A)
def qge_ann:AnnA:=(s0 (s1 (s0 (.cond (s0 .leaf) .leaf)) (s0 .leaf)))
theorem qge_den:qge_W (qge_A)=DR [] [] Tryz.f14 qge_ann false:=by kernel_rfl
theorem qge_ok (hm:PM):EO 14 (qge_E qge_A):=EA hm aD Tryz.call14 Tryz.func14 false qge_den
def qgf_ann:AnnA:=(s0 (s1 (s0 (s0 (.cond (s0 .leaf) .leaf))) (s0 .leaf)))
theorem qgf_den (f_qav:qav_T):qgf_W (qgf_G f_qav)=DR [(54,qav_E f_qav)] [4] Tryz.f35 qgf_ann false:=by kernel_rfl
theorem qgf_ok (hm:PM):EO 35 (qgf_E qgf_A):=EA hm (aA (qav_ok hm) aD) Tryz.call35 Tryz.func35 false (qgf_den qav_A)
def qgg_ann:AnnA:=(s0 (s0 (s1 (s0 (.cond (s0 .leaf) .leaf)) (s1 (.drawS [0,1,2,10,11,12,3,4,5,6,7,8,9,13,14,15,16,17,18,19,20] [18]) (s1 (.drawS [0,1,2,4,5,6,8,10,12,13,14,22,23,24,27,28,29,3,7,9,11,15,16,17,18,19,20,21,25,30,26,31,32,33] []) .leaf)))))
theorem qgg_den (f_qgf:qgf_T) (f_qaw:qaw_T):qgg_W (qgg_G f_qgf f_qaw)=DR [(35,qgf_E f_qgf),(24,qaw_E f_qaw)] [4,7] Tryz.f12 qgg_ann false:=by kernel_rfl
theorem qgg_ok (hm:PM):EO 12 (qgg_E qgg_A):=EA hm (aA (qgf_ok hm) (aA (qaw_ok hm) aD)) Tryz.call12 Tryz.func12 false (qgg_den qgf_A qaw_A)
def qgh_ann:AnnA:=(s0 (s0 .leaf))
theorem qgh_den (f_qch:qch_T):qgh_W (qgh_G f_qch)=DR [(77,qch_E f_qch)] [] Tryz.f36 qgh_ann false:=by kernel_rfl
theorem qgh_ok (hm:PM):EO 36 (qgh_E qgh_A):=EA hm (aA (qch_ok hm) aD) Tryz.call36 Tryz.func36 false (qgh_den qch_A)
def qgi_ann:AnnA:=(s0 (s1 (s0 (.cond (s0 .leaf) .leaf)) (s0 .leaf)))
theorem qgi_den (f_qgh:qgh_T):qgi_W (qgi_G f_qgh)=DR [(36,qgh_E f_qgh)] [] Tryz.f13 qgi_ann false:=by kernel_rfl
theorem qgi_ok (hm:PM):EO 13 (qgi_E qgi_A):=EA hm (aA (qgh_ok hm) aD) Tryz.call13 Tryz.func13 false (qgi_den qgh_A)
def qgj_ann:AnnA:=(s0 (.seq (some ⟨[0,1],[],[]⟩) (s0 (.cond (s0 .leaf) .leaf)) (s0 (.seq (some ⟨[0,1,5],[],[]⟩) (s0 (.cond (s0 .leaf) .leaf)) (s0 (s1 (s0 (.block (.loop ⟨[0,1,5,7],[(8,(.c (.i .i64)))],[]⟩ (s1 (s0 (.cond .leaf .leaf)) (s1 (.block (s1 (s0 (.block (.loop ⟨[0,1,5,7,8],[(9,(.c (.i .i64)))],[]⟩ (s1 (s0 (.cond .leaf .leaf)) (s1 (.block .leaf) .leaf))))) (s0 (s0 (.cond (s0 .leaf) .leaf))))) .leaf))))) (.seq (some ⟨[0,1,5,7],[],[]⟩) (s0 (.block (.loop ⟨[0,1,5,7],[(11,(.c (.i .i64)))],[]⟩ (s1 (s0 (.cond .leaf .leaf)) (s1 (.block .leaf) .leaf))))) (s0 (s1 (s0 (.block (.loop ⟨[0,1,5,7,12],[(13,(.c (.i .i64)))],[]⟩ (s1 (s0 (.cond .leaf .leaf)) (s1 (.block (s0 (s0 (.cond (s0 .leaf) .leaf)))) .leaf))))) (s0 .leaf))))))))))
theorem qgj_den (f_qgd:qgd_T) (f_qac:qac_T) (f_qck:qck_T) (f_qge:qge_T) (f_qas:qas_T) (f_qgc:qgc_T) (f_qgb:qgb_T) (f_qgg:qgg_T) (f_qgi:qgi_T):qgj_W (qgj_G f_qgd f_qac f_qck f_qge f_qas f_qgc f_qgb f_qgg f_qgi)=DR [(8,qgd_E f_qgd),(10,qac_E f_qac),(9,qck_E f_qck),(14,qge_E f_qge),(15,qas_E f_qas),(16,qgc_E f_qgc),(11,qgb_E f_qgb),(12,qgg_E f_qgg),(13,qgi_E f_qgi)] [10,12,14] Tryz.f5 qgj_ann false:=by kernel_rfl
theorem qgj_ok (hm:PM):EO 5 (qgj_E qgj_A):=EA hm (aA (qgd_ok hm) (aA (qac_ok hm) (aA (qck_ok hm) (aA (qge_ok hm) (aA (qas_ok hm) (aA (qgc_ok hm) (aA (qgb_ok hm) (aA (qgg_ok hm) (aA (qgi_ok hm) aD))))))))) Tryz.call5 Tryz.func5 false (qgj_den qgd_A qac_A qck_A qge_A qas_A qgc_A qgb_A qgg_A qgi_A)
end Go.Dn
