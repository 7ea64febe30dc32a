/- Printed by gen3.py: that each function does so. -/
import Derived.Test.YtfnkdpmbpgffbaaGreatG
import Derived.Test.YtfnkdpmbpgffbaaGreatParseE
import Derived.Test.YtfnkdpmbpgffbaaGreatSortE
import Derived.Test.YtfnkdpmbpgffbaaGreatProg
import Derived.KernelRfl
import Derived.Ground.GgzProg
namespace Go.Dn
open Go.Proofs Go.Shelf
set_option maxRecDepth 100000
abbrev PM:Prop:=Tryz.prog.follows .mixedOrders=true
abbrev za:AnnA:=.leaf
abbrev zb (x y:AnnA):AnnA:=.cond x y
abbrev zd (x:AnnA):AnnA:=.block x
abbrev zh:Sh:=.c (.i .i64)
abbrev zi:Sh:=.c .s
abbrev zj:Sh:=.c .b
abbrev zk:Sh:=.c .p
abbrev zl:Sh:=.c (.i .u64)
abbrev zm {l:List PSh} (F:aX l EnR):EnA:=bC _ F
abbrev zf (j:JoinA) (x:AnnA):AnnA:=.loop j x
abbrev zg (j:JoinA) (x y:AnnA):AnnA:=.seq (some j) x y
abbrev s1 (x y:AnnA):AnnA:=.seq none x y
abbrev s0 (x:AnnA):AnnA:=.seq none za x
abbrev DR {l:List PSh} (t:List (FuncId × EnA)) (d:List Nat) (f:Func) (a:AnnA) (b:Bool):aX l EnR:=vH l EnR λvs K Kp A=>aDF Tryz.prog (vI t) d f a vs K (np b Kp) A
class KO (n:FuncId) (E:EnA):Prop where
 k:PM->cL Tryz.prog n (y5 E)
abbrev EO {l:List PSh} (n:FuncId) (F:aX l EnR):Prop:=KO n (bC l F)
class KL (t:List (FuncId × EnA)):Prop where
 k:PM->eT Tryz.prog (qX (vI t))
instance:KL []:=⟨λ_=>aD⟩
instance {n E t} [a:KO n E] [b:KL t]:KL ((n,E)::t):=⟨λhm=>aA (a.k hm) (b.k hm)⟩
class KW (n:FuncId) (E:EnA):Prop where
 k:PM->aDR Tryz.prog n (y5 E)
abbrev KV {l:List PSh} (n:FuncId) (F:aX l EnR):Prop:=KW n (bC l F)
instance {n E t} [a:KW n E] [b:KL t]:KL ((n,E)::t):=⟨λhm=>aDc (a.k hm) (b.k hm)⟩
theorem EA {t:List (FuncId × EnA)} {f:FuncId} {fn:Func} {pm:List Nat} {ann:AnnA} {l:List PSh} {F:aX l EnR} {b0:Bool} (hF:F=DR t pm fn ann b0) [c:KL t] (he:∀ (xs:Array Value) (w:World),(callFunc f xs).run Tryz.prog w = .ok (.enter f xs) w:=by exact λ_ _=>rfl) (hf:Tryz.prog.funcs[f]? = some fn:=by kernel_rfl) (hb:fn.body.isSome=true:=by kernel_rfl) (hn:Nat.ble l.length fn.ntmps=true:=by kernel_rfl):EO f F:=⟨λhm=>aM1 hm (c.k hm) he hf hb hn b0 hF⟩
variable (f_qaa:qaa_T) (f_qab:qab_T) (f_qac:qac_T) (f_qad:qad_T) (f_qae:qae_T) (f_qaf:qaf_T) (f_qag:qag_T) (f_qah:qah_T) (f_qai:qai_T) (f_qaj:qaj_T) (f_qak:qak_T) (f_qal:qal_T) (f_qam:qam_T) (f_qan:qan_T) (f_qao:qao_T) (f_qap:qap_T) (f_qaq:qaq_T) (f_qar:qar_T) (f_qas:qas_T) (f_qat:qat_T) (f_qau:qau_T) (f_qav:qav_T) (f_qaw:qaw_T) (f_qax:qax_T) (f_qay:qay_T) (f_qaz:qaz_T) (f_qba:qba_T) (f_qbb:qbb_T) (f_qbc:qbc_T) (f_qbd:qbd_T) (f_qbe:qbe_T) (f_qbf:qbf_T) (f_qbg:qbg_T) (f_qbh:qbh_T) (f_qbi:qbi_T) (f_qbj:qbj_T) (f_qbk:qbk_T) (f_qbl:qbl_T) (f_qbm:qbm_T) (f_qbn:qbn_T) (f_qbo:qbo_T) (f_qbp:qbp_T) (f_qbq:qbq_T) (f_qbr:qbr_T) (f_qbs:qbs_T) (f_qbt:qbt_T) (f_qbu:qbu_T) (f_qbv:qbv_T) (f_qbw:qbw_T) (f_qbx:qbx_T) (f_qby:qby_T) (f_qbz:qbz_T) (f_qca:qca_T) (f_qcb:qcb_T) (f_qcc:qcc_T) (f_qcd:qcd_T) (f_qce:qce_T) (f_qcf:qcf_T) (f_qcg:qcg_T) (f_qch:qch_T) (f_qci:qci_T) (f_qcj:qcj_T) (f_qck:qck_T) (f_qcl:qcl_T) (f_qcm:qcm_T) (f_qcn:qcn_T) (f_qco:qco_T) (f_qcp:qcp_T) (f_qcq:qcq_T) (f_qcr:qcr_T) (f_qcs:qcs_T) (f_qct:qct_T) (f_qcu:qcu_T) (f_qcv:qcv_T) (f_qcw:qcw_T) (f_qcx:qcx_T) (f_qcy:qcy_T) (f_qcz:qcz_T) (f_qda:qda_T) (f_qdb:qdb_T) (f_qdc:qdc_T) (f_qdd:qdd_T) (f_qde:qde_T) (f_qdf:qdf_T) (f_qdg:qdg_T) (f_qdh:qdh_T) (f_qdi:qdi_T) (f_qdj:qdj_T) (f_qdk:qdk_T) (f_qdl:qdl_T) (f_qdm:qdm_T) (f_qdn:qdn_T) (f_qdo:qdo_T) (f_qdp:qdp_T) (f_qdq:qdq_T) (f_qdr:qdr_T) (f_qds:qds_T) (f_qdt:qdt_T) (f_qdu:qdu_T) (f_qdv:qdv_T) (f_qdw:qdw_T) (f_qdx:qdx_T) (f_qdy:qdy_T) (f_qdz:qdz_T) (f_qea:qea_T) (f_qeb:qeb_T) (f_qec:qec_T) (f_qed:qed_T) (f_qee:qee_T) (f_qef:qef_T) (f_qeg:qeg_T) (f_qeh:qeh_T) (f_qei:qei_T) (f_qej:qej_T) (f_qek:qek_T) (f_qel:qel_T) (f_qem:qem_T) (f_qen:qen_T) (f_qeo:qeo_T) (f_qep:qep_T) (f_qeq:qeq_T) (f_qer:qer_T) (f_qes:qes_T) (f_qet:qet_T) (f_qeu:qeu_T) (f_qev:qev_T) (f_qew:qew_T) (f_qex:qex_T) (f_qey:qey_T) (f_qez:qez_T) (f_qfa:qfa_T) (f_qfb:qfb_T) (f_qfc:qfc_T) (f_qfd:qfd_T) (f_qfe:qfe_T) (f_qff:qff_T) (f_qfg:qfg_T) (f_qfh:qfh_T) (f_qfi:qfi_T) (f_qfj:qfj_T) (f_qfk:qfk_T) (f_qfl:qfl_T) (f_qfm:qfm_T) (f_qfn:qfn_T) (f_qfo:qfo_T) (f_qfp:qfp_T) (f_qfq:qfq_T) (f_qfr:qfr_T) (f_qfs:qfs_T) (f_qft:qft_T) (f_qfu:qfu_T) (f_qfv:qfv_T) (f_qfw:qfw_T) (f_qfx:qfx_T) (f_qfy:qfy_T) (f_qfz:qfz_T) (f_qga:qga_T) (f_qgb:qgb_T) (f_qgc:qgc_T) (f_qgd:qgd_T) (f_qge:qge_T) (f_qgf:qgf_T) (f_qgg:qgg_T) (f_qgh:qgh_T) (f_qgi:qgi_T) (f_qgj:qgj_T) (f_qgk:qgk_T) (f_qgl:qgl_T)
theorem qaa_d:qaa_W qaa_A=DR [] [] Tryz.f71 (s0 (s0 (s1 (s0 (zd (zf ⟨[0,1,2,7],[(8,zh)],[]⟩ (s1 (s0 (zb za za)) (s1 (zd (s0 za)) za))))) (s1 (s0 (zd (zf ⟨[2,7],[(9,zh)],[]⟩ (s1 (s0 (zb za za)) (s1 (zd za) za))))) (s0 za))))) false:=by kernel_rfl
instance qaa_ok:EO 71 (qaa_W qaa_A):=EA qaa_d
theorem qab_d:qab_W (qab_G f_qaa)=DR [(71,zm (qaa_W f_qaa))] [4] Tryz.f23 (s0 (s0 za)) false:=by kernel_rfl
instance qab_ok:EO 23 (qab_W qab_A):=EA (qab_d ..)
instance qac_ok:EO 123 (qac_W qac_A):=⟨λ_=>aH5 rfl⟩
theorem qad_d:qad_W qad_A=DR [] [2,4] Tryz.f124 (s0 (s1 (.draw 11) (zg ⟨[1,2,4],[(5,zl),(6,zl)],[]⟩ (s0 (zb (s0 (zb za za)) (s0 (zb za za)))) (zg ⟨[1,4,5],[(6,zl)],[]⟩ (s0 (zb za za)) (s0 za))))) false:=by kernel_rfl
instance qad_ok:EO 124 (qad_W qad_A):=EA qad_d
theorem qae_d:qae_W qae_A=DR [] [] Tryz.f192 (s0 (s1 (s0 (zb (s0 za) za)) (s0 za))) false:=by kernel_rfl
instance qae_ok:EO 192 (qae_W qae_A):=EA qae_d
theorem qaf_d:qaf_W qaf_A=DR [] [1] Tryz.f193 (s0 (s0 za)) false:=by kernel_rfl
instance qaf_ok:EO 193 (qaf_W qaf_A):=EA qaf_d
theorem qag_d:qag_W (qag_G f_qaf)=DR [(193,zm (qaf_W f_qaf))] [] Tryz.f204 (s0 (s1 (s0 (zd (zf ⟨[0,1,7],[(8,zh)],[]⟩ (s0 (s1 (zb za za) (s1 (zd (s0 (s0 (zb (s0 za) za)))) za)))))) (s0 za))) false:=by kernel_rfl
instance qag_ok:EO 204 (qag_W qag_A):=EA (qag_d ..)
theorem qah_d:qah_W (qah_G f_qaf f_qag)=DR [(204,zm (qag_W f_qag)),(193,zm (qaf_W f_qaf))] [7] Tryz.f191 (s0 (s0 (s1 (s0 (zb (s0 za) za)) (s1 (s0 (zd (zf ⟨[0,1],[(5,zh),(6,zh)],[]⟩ (s1 (s0 (zb za za)) (zg ⟨[0,1,6],[(5,zh)],[]⟩ (zd (s0 (s0 (zb (s0 za) za)))) za))))) (s0 (s0 za)))))) false:=by kernel_rfl
instance qah_ok:EO 191 (qah_W qah_A):=EA (qah_d ..)
instance qai_ok:EO 194 (qai_W qai_A):=⟨λ_=>aBC rfl⟩
theorem qaj_d:qaj_W (qaj_G f_qae f_qah f_qai)=DR [(192,zm (qae_W f_qae)),(191,zm (qah_W f_qah)),(194,zm (qai_W f_qai))] [6] Tryz.f168 (s0 (s0 (s0 (s0 (s1 (s0 (zd (zf ⟨[13,14],[(4,zi),(15,zh)],[]⟩ (s0 (s1 (zb za za) (zg ⟨[13,14,15],[(4,zi)],[]⟩ (zd (s0 (s1 (s0 (zg ⟨[4,6,7,13,14,15],[(33,zj)],[]⟩ (.draw 13) (zb (s1 (.draw 14) za) za))) za))) za)))))) (s0 za)))))) false:=by kernel_rfl
instance qaj_ok:EO 168 (qaj_W qaj_A):=EA (qaj_d ..)
theorem qak_d:qak_W (qak_G f_qaj)=DR [(168,zm (qaj_W f_qaj))] [8,11] Tryz.f125 (s0 (s0 (s0 (s1 (s0 (zd (zf ⟨[6,15,16],[(5,zi),(17,zh)],[]⟩ (s0 (s1 (zb za za) (zg ⟨[6,15,16,17],[(5,zi)],[]⟩ (zd (s0 (s0 (s1 (s0 (zd (zf ⟨[6,8,15,16,17,23,24],[(5,zi),(9,zh),(25,zh)],[]⟩ (s0 (s1 (zb za za) (zg ⟨[6,8,15,16,17,23,24,25],[(5,zi),(9,zh)],[]⟩ (zd (s0 (s1 (s0 (zb za za)) (zg ⟨[6,8,9,11,15,16,17,23,24,25],[(5,zi)],[]⟩ (s0 (zb za za)) za)))) za)))))) (s0 (zb za za)))))) za)))))) (s0 za))))) false:=by kernel_rfl
instance qak_ok:EO 125 (qak_W qak_A):=EA (qak_d ..)
theorem qal_d:qal_W (qal_G f_qac f_qad f_qak)=DR [(123,zm (qac_W f_qac)),(124,zm (qad_W f_qad)),(125,zm (qak_W f_qak))] [5,13,14] Tryz.f65 (s0 (zg ⟨[0,1,5],[],[]⟩ (s0 (zb (s0 za) za)) (s0 (s1 (s0 (zb (s0 za) za)) (s0 (s0 (s1 (s0 (zd (zf ⟨[1,50,51],[(10,zi),(11,zi),(52,zh)],[]⟩ (s0 (s1 (zb za za) (zg ⟨[1,50,51,52],[(10,zi),(11,zi)],[]⟩ (zd (s0 (s0 (s0 (zb za za))))) za)))))) (s0 (s1 (s0 (zb (s0 za) za)) (s0 za)))))))))) false:=by kernel_rfl
instance qal_ok:EO 65 (qal_W qal_A):=EA (qal_d ..)
theorem qam_d:qam_W qam_A=DR [] [] Tryz.f126 za false:=by kernel_rfl
instance qam_ok:EO 126 (qam_W qam_A):=EA qam_d
theorem qan_d:qan_W (qan_G f_qam)=DR [(126,zm (qam_W f_qam))] [] Tryz.f66 (s0 (s1 (s0 (zb (s0 za) za)) (s0 (s0 (s0 za))))) false:=by kernel_rfl
instance qan_ok:EO 66 (qan_W qan_A):=EA (qan_d ..)
theorem qao_d:qao_W qao_A=DR [] [7] Tryz.f67 (s0 (s1 (s0 (zb (s0 za) za)) (zg ⟨[0,1],[],[]⟩ (s0 (zb (s0 za) za)) (s1 (s0 (zd (zf ⟨[0,1,17,18],[(19,zh)],[]⟩ (s0 (s1 (zb za za) (s1 (zd (s0 (s0 (zb (s0 za) za)))) za)))))) (s0 za))))) false:=by kernel_rfl
instance qao_ok:EO 67 (qao_W qao_A):=EA qao_d
theorem qap_d:qap_W qap_A=DR [] [] Tryz.f127 (s1 (zd (zf ⟨[0],[(1,zh),(2,zh)],[]⟩ (s1 (s1 (.draw 15) (zb za za)) (zd (s1 (.draw 10) (s0 za)))))) za) false:=by kernel_rfl
instance qap_ok:EO 127 (qap_W qap_A):=EA qap_d
theorem qaq_d:qaq_W (qaq_G f_qap)=DR [(127,zm (qap_W f_qap))] [6,10] Tryz.f68 (s0 (s1 (s0 (zb (s0 za) za)) (s0 (s1 (s0 (zd (zf ⟨[0,16,17],[(4,zh),(18,zh)],[]⟩ (s0 (s1 (zb za za) (s1 (zd (s0 (s1 (s0 (zb (s0 za) za)) za))) za)))))) (s0 (s1 (s0 (zd (zf ⟨[0,7],[(44,zh)],[]⟩ (s0 (s1 (zb za za) (s1 (zd (s0 za)) za)))))) (s1 (s0 (zd (zf ⟨[7,54,55],[(56,zh)],[]⟩ (s0 (s1 (zb za za) (s1 (zd (s0 (s1 (s0 (zd (zf ⟨[7,10,54,55,56],[(11,zh)],[]⟩ (s1 (s0 (zb za za)) (zd (s0 (s1 (zd (zf ⟨[7,10,11,54,55,56],[(12,zh)],[]⟩ (s1 (s1 (.draw 18) (zb za za)) (zd za)))) (s0 za)))))))) (.draw 12)))) za)))))) (s0 za)))))))) false:=by kernel_rfl
instance qaq_ok:EO 68 (qaq_W qaq_A):=EA (qaq_d ..)
theorem qar_d:qar_W qar_A=DR [] [] Tryz.f8 (s0 (s0 za)) false:=by kernel_rfl
instance qar_ok:EO 8 (qar_W qar_A):=EA qar_d
theorem qas_d:qas_W qas_A=DR [] [] Tryz.f69 (s0 (s1 (s0 (zb (s0 za) za)) (s0 za))) false:=by kernel_rfl
instance qas_ok:EO 69 (qas_W qas_A):=EA qas_d
theorem qat_d:qat_W qat_A=DR [] [4] Tryz.f43 (s0 (s1 (.draw 14) za)) false:=by kernel_rfl
instance qat_ok:EO 43 (qat_W qat_A):=EA qat_d
theorem qau_d:qau_W qau_A=DR [] [] Tryz.f97 (s0 (s1 (s0 (zb (s0 za) za)) (s0 za))) false:=by kernel_rfl
instance qau_ok:EO 97 (qau_W qau_A):=EA qau_d
theorem qav_d:qav_W (qav_G f_qau)=DR [(97,zm (qau_W f_qau))] [] Tryz.f55 (s0 (s0 (s1 (s0 (zb (s0 za) za)) (s1 (.draw 15) za)))) false:=by kernel_rfl
instance qav_ok:EO 55 (qav_W qav_A):=EA (qav_d ..)
theorem qaw_d:qaw_W (qaw_G f_qau f_qav)=DR [(97,zm (qau_W f_qau)),(55,zm (qav_W f_qav))] [] Tryz.f106 (s0 (s0 (s1 (zd (s0 (zb (s0 za) (s0 (zb (s0 za) (s0 (zb (s0 za) za))))))) (s0 (s0 za))))) false:=by kernel_rfl
instance qaw_ok:EO 106 (qaw_W qaw_A):=EA (qaw_d ..)
theorem qax_d:qax_W qax_A=DR [] [] Tryz.f160 (s0 (s0 za)) false:=by kernel_rfl
instance qax_ok:EO 160 (qax_W qax_A):=EA qax_d
shelf_lay_g SlLaysZI.n8 Ggz 8 at Tryz 72 as slices_Collect_int_l1
shelf_lay_g SlLaysZI.n7 Ggz 7 at Tryz 160 as slices_Collect_int_l2
instance qay_ok:EO 72 (qay_W qay_A):=⟨λ_=>xG (ρ:=slices_Collect_int_l1_ren) (ρ':=slices_Collect_int_l2_ren) slices_Collect_int_l1 { slices_Collect_int_l2 with } rfl rfl rfl rfl⟩
theorem qaz_d:qaz_W qaz_A=DR [] [] Tryz.f159 (s0 (zg ⟨[0],[],[]⟩ (s0 (zb za za)) (s0 (s1 (s0 (zd (zf ⟨[0],[(3,zh),(4,zh)],[]⟩ (s1 (s0 (zb za za)) (s1 (zd za) za))))) (s0 za))))) false:=by kernel_rfl
instance qaz_ok:EO 159 (qaz_W qaz_A):=EA qaz_d
theorem qba_d:qba_W (qba_G f_qax f_qay f_qaz)=DR [(160,zm (qax_W f_qax)),(72,zm (qay_W f_qay)),(159,zm (qaz_W f_qaz))] [] Tryz.f107 (s0 (zg ⟨[0,1],[],[]⟩ (s0 (zb (s0 za) za)) (s0 (zg ⟨[0,1],[(6,zh)],[]⟩ (zd (zf ⟨[0,1],[(6,zh)],[]⟩ (s1 (s0 (zb za za)) (zd za)))) (s1 (s0 (zb (s0 za) za)) (s0 (s0 (s1 (zd (zf ⟨[0,1,7],[(6,zh)],[]⟩ (s1 (s0 (zb za za)) (zd (s0 (.draw 10)))))) (s0 (s1 (.draw 9) (s0 za))))))))))) false:=by kernel_rfl
instance qba_ok:EO 107 (qba_W qba_A):=EA (qba_d ..)
theorem qbb_d:qbb_W qbb_A=DR [] [6] Tryz.f20 (s0 (s1 (s0 (zb (s0 za) za)) (s1 (s0 (zd (zf ⟨[1,20,21],[(22,zh)],[]⟩ (s0 (s1 (zb za za) (s1 (zd (s0 (s0 (zb (s0 za) za)))) za)))))) (s0 za)))) false:=by kernel_rfl
instance qbb_ok:EO 20 (qbb_W qbb_A):=EA qbb_d
theorem qbc_d:qbc_W (qbc_G f_qbb)=DR [(20,zm (qbb_W f_qbb))] [] Tryz.f108 (s0 (s1 (s0 (zb (s0 za) za)) (s0 (s0 za)))) false:=by kernel_rfl
instance qbc_ok:EO 108 (qbc_W qbc_A):=EA (qbc_d ..)
theorem qbd_d:qbd_W (qbd_G f_qap)=DR [(127,zm (qap_W f_qap))] [] Tryz.f109 (s0 (s0 (s1 (s0 (zb (s0 za) za)) (s0 (s1 (.draw 9) (s0 (s0 za))))))) false:=by kernel_rfl
instance qbd_ok:EO 109 (qbd_W qbd_A):=EA (qbd_d ..)
theorem qbe_d:qbe_W (qbe_G f_qau)=DR [(97,zm (qau_W f_qau))] [] Tryz.f110 (s0 (s0 (s1 (zd (s0 (zb (s0 za) (s0 (zb (s0 za) za))))) (s0 (s0 za))))) false:=by kernel_rfl
instance qbe_ok:EO 110 (qbe_W qbe_A):=EA (qbe_d ..)
theorem qbf_d:qbf_W (qbf_G f_qaw f_qba f_qbc f_qbd f_qbe)=DR [(106,zm (qaw_W f_qaw)),(107,zm (qba_W f_qba)),(108,zm (qbc_W f_qbc)),(109,zm (qbd_W f_qbd)),(110,zm (qbe_W f_qbe))] [1] Tryz.f45 (s0 (s1 (s0 (s0 (zb (s0 za) za))) (s0 (zg ⟨[1],[(6,zh)],[]⟩ (s0 (zb (s1 (s0 (s0 (zb (s0 za) za))) za) za)) (s0 (s0 za)))))) false:=by kernel_rfl
instance qbf_ok:EO 45 (qbf_W qbf_A):=EA (qbf_d ..)
theorem qbg_d:qbg_W qbg_A=DR [] [] Tryz.f128 (s0 (s0 za)) false:=by kernel_rfl
instance qbg_ok:EO 128 (qbg_W qbg_A):=EA qbg_d
theorem qbh_d:qbh_W (qbh_G f_qbd f_qbe)=DR [(109,zm (qbd_W f_qbd)),(110,zm (qbe_W f_qbe))] [2] Tryz.f47 (s0 (s0 za)) false:=by kernel_rfl
instance qbh_ok:EO 47 (qbh_W qbh_A):=EA (qbh_d ..)
theorem qbi_d:qbi_W qbi_A=DR [] [2] Tryz.f115 (s0 (s1 (.draw 25) za)) false:=by kernel_rfl
instance qbi_ok:EO 115 (qbi_W qbi_A):=EA qbi_d
theorem qbj_d:qbj_W qbj_A=DR [] [0] Tryz.f116 (s0 (s0 za)) false:=by kernel_rfl
instance qbj_ok:EO 116 (qbj_W qbj_A):=EA qbj_d
theorem qbk_d:qbk_W (qbk_G f_qbi f_qbj)=DR [(115,zm (qbi_W f_qbi)),(116,zm (qbj_W f_qbj))] [] Tryz.f161 (s0 (zg ⟨[1],[],[]⟩ (s0 (zb (s0 za) za)) (s0 (s1 (s0 (zd (zf ⟨[19],[(4,zl),(20,zh)],[]⟩ (s0 (s1 (zb za za) (zg ⟨[19,20],[(4,zl)],[]⟩ (zd (s0 (s0 (zb za za)))) za)))))) (s0 za))))) false:=by kernel_rfl
instance qbk_ok:EO 161 (qbk_W qbk_A):=EA (qbk_d ..)
theorem qbl_d:qbl_W qbl_A=DR [] [] Tryz.f158 (s0 (s0 za)) false:=by kernel_rfl
instance qbl_ok:EO 158 (qbl_W qbl_A):=EA qbl_d
theorem qbm_d:qbm_W (qbm_G f_qbb)=DR [(20,zm (qbb_W f_qbb))] [] Tryz.f56 (s0 (s1 (s0 (zd (zg ⟨[0,1,2],[(9,zj)],[]⟩ (s0 (zb za (s0 (zb za (s0 (zb za za)))))) (zb za (s0 za))))) (s0 (s1 (s0 (zb (s0 za) za)) (s0 za))))) false:=by kernel_rfl
instance qbm_ok:EO 56 (qbm_W qbm_A):=EA (qbm_d ..)
theorem qbn_d:qbn_W qbn_A=DR [] [] Tryz.f57 (s0 (s0 (zg ⟨[],[(5,zk)],[]⟩ (s0 (zb (s0 za) za)) (s0 za)))) false:=by kernel_rfl
instance qbn_ok:EO 57 (qbn_W qbn_A):=EA qbn_d
theorem qbo_d:qbo_W (qbo_G f_qbm f_qbn)=DR [(56,zm (qbm_W f_qbm)),(57,zm (qbn_W f_qbn))] [] Tryz.f15 (s0 (s1 (s0 (s0 (zb (s0 za) za))) (s1 (s0 (zd (zf ⟨[0,1,3,19],[(20,zh)],[]⟩ (s0 (s1 (zb za za) (s1 (zd (s0 (s0 (.drawS [0,1,2,3,5,6,7,8,9,10,11,4,12,13,14] [])))) za)))))) (s0 za)))) false:=by kernel_rfl
instance qbo_ok:EO 15 (qbo_W qbo_A):=EA (qbo_d ..)
theorem qbp_d:qbp_W (qbp_G f_qbk f_qbl f_qbo)=DR [(161,zm (qbk_W f_qbk)),(158,zm (qbl_W f_qbl)),(15,zm (qbo_W f_qbo))] [4,7] Tryz.f111 (s0 (s0 (.drawS [0,2,3,5,1,4,6] []))) false:=by kernel_rfl
instance qbp_ok:EO 111 (qbp_W qbp_A):=EA (qbp_d ..)
theorem qbq_d:qbq_W (qbq_G f_qbf f_qbg f_qbh f_qbp)=DR [(45,zm (qbf_W f_qbf)),(128,zm (qbg_W f_qbg)),(47,zm (qbh_W f_qbh)),(111,zm (qbp_W f_qbp))] [1] Tryz.f70 (s0 (s0 (s1 (s0 (zb (s0 za) za)) (s0 (s1 (s0 (zd (zf ⟨[1,4],[(6,zi),(7,zh)],[]⟩ (s1 (s0 (zb za za)) (s1 (zd (s0 (s1 (s0 (zb (s1 (s0 (zd (zf ⟨[1,9,37,38],[(39,zh)],[]⟩ (s0 (s1 (zb za za) (s1 (zd (s0 za)) za)))))) (s0 za)) za)) (s0 (s0 (s0 (zd (zf ⟨[1,4,6,7,8],[(12,zh)],[]⟩ (s1 (s0 (zb za za)) (s1 (zd za) za)))))))))) za))))) (s0 za)))))) false:=by kernel_rfl
instance qbq_ok:EO 70 (qbq_W qbq_A):=EA (qbq_d ..)
theorem qbr_d:qbr_W (qbr_G f_qal f_qan f_qao f_qaq f_qar f_qas f_qat f_qbq)=DR [(65,zm (qal_W f_qal)),(66,zm (qan_W f_qan)),(67,zm (qao_W f_qao)),(68,zm (qaq_W f_qaq)),(8,zm (qar_W f_qar)),(69,zm (qas_W f_qas)),(43,zm (qat_W f_qat)),(70,zm (qbq_W f_qbq))] [1] Tryz.f22 (s0 (s0 (s1 (s0 (zb (s0 za) za)) (s0 (s1 (s0 (zb (s0 za) za)) (s0 (s0 (s1 (s0 (s0 (zb (s0 za) za))) (s0 (s1 (s0 (s0 (zb (s0 za) za))) (s0 za))))))))))) false:=by kernel_rfl
instance qbr_ok:EO 22 (qbr_W qbr_A):=EA (qbr_d ..)
theorem qbs_d:qbs_W (qbs_G f_qab f_qbr)=DR [(23,zm (qab_W f_qab)),(22,zm (qbr_W f_qbr))] [5] Tryz.f6 (s0 (s0 (s0 za))) false:=by kernel_rfl
instance qbs_ok:EO 6 (qbs_W qbs_A):=EA (qbs_d ..)
theorem qbt_d:qbt_W qbt_A=DR [] [] Tryz.f25 (s0 (s0 za)) false:=by kernel_rfl
instance qbt_ok:EO 25 (qbt_W qbt_A):=EA qbt_d
shelf_lay_g SlLaysZI.n8 Ggz 8 at Tryz 72 as slices_Collect_int_s2_l1
shelf_lay_g SlLaysZI.n7 Ggz 7 at Tryz 25 as slices_Collect_int_s2_l2
instance qbu_ok:EO 72 (qbu_W qbu_A):=⟨λ_=>xG (ρ:=slices_Collect_int_s2_l1_ren) (ρ':=slices_Collect_int_s2_l2_ren) slices_Collect_int_s2_l1 { slices_Collect_int_s2_l2 with } rfl rfl rfl rfl⟩
shelf_lay Lays.n189 Nm 189 at Tryz as slices_Sort_int_int_l
instance qbv_ok:EO 73 (qbv_W qbv_A):=⟨λ_=>aIl slices_Sort_int_int_l rfl (enters_of Tryz.func73 (by kernel_rfl) rfl) rfl⟩
theorem qbw_d:qbw_W (qbw_G f_qbu f_qbv)=DR [(72,zm (qbu_W f_qbu)),(73,zm (qbv_W f_qbv))] [] Tryz.f24 (s0 (s0 (s0 (s0 za)))) false:=by kernel_rfl
instance qbw_ok:EO 24 (qbw_W qbw_A):=EA (qbw_d ..)
theorem qbx_d:qbx_W (qbx_G f_qbt f_qbw)=DR [(25,zm (qbt_W f_qbt)),(24,zm (qbw_W f_qbw))] [] Tryz.f7 (s0 (s0 za)) false:=by kernel_rfl
instance qbx_ok:EO 7 (qbx_W qbx_A):=EA (qbx_d ..)
theorem qby_d:qby_W (qby_G f_qbf f_qbp)=DR [(45,zm (qbf_W f_qbf)),(111,zm (qbp_W f_qbp))] [2] Tryz.f75 (s0 (s0 (s1 (s0 (zb (s0 za) za)) (s0 (s0 za))))) false:=by kernel_rfl
instance qby_ok:EO 75 (qby_W qby_A):=EA (qby_d ..)
theorem qbz_d:qbz_W (qbz_G f_qat f_qby)=DR [(43,zm (qat_W f_qat)),(75,zm (qby_W f_qby))] [] Tryz.f26 (s0 (s1 (s0 (zb (s0 za) za)) (s1 (s0 (zb (s0 za) za)) (s1 (.drawS [0,1,3,4,5,6,2,7,8,9,10,11,12] []) (s1 (s0 (zb (s0 za) za)) (s0 (s0 za))))))) false:=by kernel_rfl
instance qbz_ok:EO 26 (qbz_W qbz_A):=EA (qbz_d ..)
theorem qca_d:qca_W qca_A=DR [] [2,4,7] Tryz.f17 (s0 (s1 (s0 (zd (zf ⟨[1,4,9,10],[(11,zh)],[(4,(0,(.i .i64))),(4,(1,(.i .i64))),(4,(2,.s)),(4,(3,.s))]⟩ (s0 (s1 (zb za za) (s1 (zd (s0 (s0 (zb (s0 za) za)))) za)))))) (s0 za))) false:=by kernel_rfl
instance qca_ok:EO 17 (qca_W qca_A):=EA qca_d
theorem qcb_d:qcb_W qcb_A=DR [] [1,5] Tryz.f120 (s0 (s0 (s1 (s0 (zd (zf ⟨[8,9],[(3,zi),(10,zh)],[]⟩ (s0 (s1 (zb za za) (s1 (zd (s0 za)) za)))))) (s0 za)))) false:=by kernel_rfl
instance qcb_ok:EO 120 (qcb_W qcb_A):=EA qcb_d
theorem qcc_d:qcc_W qcc_A=DR [] [] Tryz.f156 (s0 (s0 (s1 (s0 (zd (zf ⟨[0,8,9],[(3,zh),(10,zh)],[]⟩ (s0 (s1 (zb za za) (s1 (zd (s0 (s0 (zd (zf ⟨[0,4,5,8,9,10,15,16],[(3,zh),(17,zh)],[]⟩ (s0 (s1 (zb za za) (zg ⟨[0,4,5,8,9,10,15,16,17],[(3,zh)],[]⟩ (zd (s0 (s1 (.draw 15) (zb za za)))) za)))))))) za)))))) (s0 za)))) false:=by kernel_rfl
instance qcc_ok:EO 156 (qcc_W qcc_A):=EA qcc_d
theorem qcd_d:qcd_W qcd_A=DR [] [4,7] Tryz.f58 (s0 (s1 (s0 (zd (zf ⟨[1,4,8,9],[(10,zh)],[(4,(0,(.i .i64))),(4,(1,(.i .i64))),(4,(2,.b)),(4,(3,.b)),(4,(4,.b)),(4,(5,(.i .i64)))]⟩ (s0 (s1 (zb za za) (s1 (zd (s0 (s0 (zb (s0 za) za)))) za)))))) (s0 za))) false:=by kernel_rfl
instance qcd_ok:EO 58 (qcd_W qcd_A):=EA qcd_d
theorem qce_d:qce_W (qce_G f_qcb f_qcc f_qcd)=DR [(120,zm (qcb_W f_qcb)),(156,zm (qcc_W f_qcc)),(58,zm (qcd_W f_qcd))] [1,5,6] Tryz.f96 (s0 (s0 (s1 (s0 (zd (zf ⟨[1,12,13],[(3,zh),(14,zh)],[]⟩ (s0 (s1 (zb za za) (zg ⟨[1,12,13,14],[(3,zh)],[]⟩ (zd (s0 (s0 (s0 (zb za za))))) za)))))) (s0 za)))) false:=by kernel_rfl
instance qce_ok:EO 96 (qce_W qce_A):=EA (qce_d ..)
theorem qcf_d:qcf_W qcf_A=DR [] [4,7] Tryz.f101 (s0 (s1 (s0 (zd (zf ⟨[1,4,8,9],[(10,zh)],[(4,(0,(.i .i64))),(4,(1,(.i .i64))),(4,(2,(.i .i64))),(4,(3,(.i .i64)))]⟩ (s0 (s1 (zb za za) (s1 (zd (s0 (s0 (zb (s0 za) za)))) za)))))) (s0 za))) false:=by kernel_rfl
instance qcf_ok:EO 101 (qcf_W qcf_A):=EA qcf_d
theorem qcg_d:qcg_W qcg_A=DR [] [7] Tryz.f157 (s0 (s0 (s1 (s0 (zd (zf ⟨[1,8,9],[(5,zh),(10,zh)],[]⟩ (s0 (s1 (zb za za) (zg ⟨[1,8,9,10],[(5,zh)],[]⟩ (zd (s0 (s0 (zb za za)))) za)))))) (s0 za)))) false:=by kernel_rfl
instance qcg_ok:EO 157 (qcg_W qcg_A):=EA qcg_d
theorem qch_d:qch_W (qch_G f_qcf f_qcg)=DR [(101,zm (qcf_W f_qcf)),(157,zm (qcg_W f_qcg))] [5] Tryz.f102 (s0 (s0 (s1 (s0 (zb (s0 za) za)) (s1 (.drawS [0,2,5,6,1,3,4,7,8,9] []) za)))) false:=by kernel_rfl
instance qch_ok:EO 102 (qch_W qch_A):=EA (qch_d ..)
theorem qci_d:qci_W qci_A=DR [] [2,3,4,8] Tryz.f82 (s0 (s0 (s0 (s1 (s0 (zd (zf ⟨[2,3,4,11,12],[(5,zi),(6,zj),(13,zh)],[]⟩ (s0 (s1 (zb za za) (zg ⟨[2,3,4,11,12,13],[(5,zi),(6,zj)],[]⟩ (zd (s0 (zg ⟨[2,3,4,8,11,12,13],[(5,zi),(6,zj)],[]⟩ (s0 (zb (s0 za) za)) (s0 (zb za za))))) za)))))) (zg ⟨[2,4],[(5,zi)],[]⟩ (s0 (zb za za)) (s0 (s0 za))))))) false:=by kernel_rfl
instance qci_ok:EO 82 (qci_W qci_A):=EA qci_d
theorem qcj_d:qcj_W qcj_A=DR [] [9] Tryz.f95 (s0 (s0 (s1 (s0 (zd (zf ⟨[1,2,11,12],[(7,zi),(13,zh)],[]⟩ (s0 (s1 (zb za za) (s1 (zd (s0 (zg ⟨[1,2,7,9,11,12,13],[],[(9,(3,(.i .i64)))]⟩ (s0 (zb za za)) za))) za)))))) (s0 za)))) false:=by kernel_rfl
instance qcj_ok:EO 95 (qcj_W qcj_A):=EA qcj_d
theorem qck_d:qck_W (qck_G f_qca f_qce f_qcf f_qch f_qci f_qcj)=DR [(17,zm (qca_W f_qca)),(96,zm (qce_W f_qce)),(101,zm (qcf_W f_qcf)),(102,zm (qch_W f_qch)),(82,zm (qci_W f_qci)),(95,zm (qcj_W f_qcj))] [2,3,4,6,9,11] Tryz.f62 (s0 (s0 (s0 (zg ⟨[2,3,4],[(8,zh)],[]⟩ (s0 (zb za za)) (s0 (s1 (s0 (zb (s0 za) za)) (s1 (s0 (zb (s0 za) za)) (s0 (s0 (s0 za)))))))))) false:=by kernel_rfl
instance qck_ok:EO 62 (qck_W qck_A):=EA (qck_d ..)
theorem qcl_d:qcl_W (qcl_G f_qca f_qck)=DR [(17,zm (qca_W f_qca)),(62,zm (qck_W f_qck))] [3,6,8] Tryz.f27 (s0 (s1 (s0 (zb (s0 za) za)) (s1 (s0 (s0 (zb (s0 za) za))) (s0 za)))) false:=by kernel_rfl
instance qcl_ok:EO 27 (qcl_W qcl_A):=EA (qcl_d ..)
theorem qcm_d:qcm_W qcm_A=DR [] [1] Tryz.f132 (s0 (s0 za)) false:=by kernel_rfl
instance qcm_ok:EO 132 (qcm_W qcm_A):=EA qcm_d
theorem qcn_d:qcn_W qcn_A=DR [] [2,3] Tryz.f180 (s0 (s0 za)) false:=by kernel_rfl
instance qcn_ok:EO 180 (qcn_W qcn_A):=EA qcn_d
theorem qco_d:qco_W (qco_G f_qcn)=DR [(180,zm (qcn_W f_qcn))] [4] Tryz.f133 (s0 (s1 (s0 (zb (s0 za) za)) (s1 (s0 (zd (zf ⟨[0,8,9],[(10,zh)],[]⟩ (s0 (s1 (zb za za) (s1 (zd (s0 (s1 (s0 (zb (s0 za) za)) (s1 (.draw 21) (zb (s0 za) za))))) za)))))) (s0 za)))) false:=by kernel_rfl
instance qco_ok:EO 133 (qco_W qco_A):=EA (qco_d ..)
theorem qcp_d:qcp_W qcp_A=DR [] [] Tryz.f137 (s0 (s1 (s0 (zb (s0 za) za)) (s0 za))) false:=by kernel_rfl
instance qcp_ok:EO 137 (qcp_W qcp_A):=EA qcp_d
instance qcq_ok:KV 181 (qcq_W qcq_A):=⟨λ_=>overlaps_ok (tS:=117) (tR:=4) Tryz.func181 (by kernel_rfl) (by kernel_rfl) (by kernel_rfl) (by kernel_rfl) Tryz.underlying117 (by kernel_rfl)⟩
theorem qcr_d:qcr_W qcr_A=DR [] [] Tryz.f207 (s0 (zd (zf ⟨[0],[(2,zh),(3,zh)],[]⟩ (s1 (s0 (zb za za)) (s1 (zd (.drawS [0,1,2,3,4,5,6,8,9,10,7,11,12,13,14,15] [])) za))))) false:=by kernel_rfl
instance qcr_ok:EO 207 (qcr_W qcr_A):=EA qcr_d
theorem qcs_d:qcs_W (qcs_G f_qcr)=DR [(207,zm (qcr_W f_qcr))] [] Tryz.f203 (s0 (s0 za)) false:=by kernel_rfl
instance qcs_ok:EO 203 (qcs_W qcs_A):=EA (qcs_d ..)
theorem qct_d:qct_W (qct_G f_qcs)=DR [(203,zm (qcs_W f_qcs))] [] Tryz.f182 za false:=by kernel_rfl
instance qct_ok:EO 182 (qct_W qct_A):=EA (qct_d ..)
theorem qcu_d:qcu_W (qcu_G f_qcq f_qct)=DR [(181,zm (qcq_W f_qcq)),(182,zm (qct_W f_qct))] [] Tryz.f136 (s0 (s0 (s0 (s1 (s0 (zb (s0 za) za)) (s0 (s1 (s0 (zb (s0 za) za)) (s1 (s0 (zb (s0 (s0 (s1 (.draw 8) (s0 za)))) za)) (s0 (s1 (s0 (zb (s1 (.draw 8) (s0 (s0 za))) za)) (s0 (s0 (s0 za)))))))))))) false:=by kernel_rfl
instance qcu_ok:EO 136 (qcu_W qcu_A):=EA (qcu_d ..)
theorem qcv_d:qcv_W (qcv_G f_qcn)=DR [(180,zm (qcn_W f_qcn))] [5] Tryz.f135 (s0 (s0 (s1 (s0 (zd (zf ⟨[7,8],[(3,zi),(9,zh)],[]⟩ (s0 (s1 (zb za za) (zg ⟨[7,8,9],[(3,zi)],[]⟩ (zd (s0 (s1 (s0 (s1 (.draw 9) (zb (s0 za) za))) za))) za)))))) (s0 za)))) false:=by kernel_rfl
instance qcv_ok:EO 135 (qcv_W qcv_A):=EA (qcv_d ..)
theorem qcw_d:qcw_W qcw_A=DR [] [] Tryz.f134 (s0 (s1 (s0 (zb (s0 za) za)) (s0 za))) false:=by kernel_rfl
instance qcw_ok:EO 134 (qcw_W qcw_A):=EA qcw_d
theorem qcx_d:qcx_W (qcx_G f_qcm f_qco f_qcp f_qcu f_qcv f_qcw)=DR [(132,zm (qcm_W f_qcm)),(133,zm (qco_W f_qco)),(137,zm (qcp_W f_qcp)),(136,zm (qcu_W f_qcu)),(135,zm (qcv_W f_qcv)),(134,zm (qcw_W f_qcw))] [3,8] Tryz.f76 (s0 (s1 (s0 (zb (s0 za) za)) (s1 (s0 (zb (s0 za) za)) (s0 (s1 (s0 (zd (zf ⟨[0,3,16,17],[(6,zh),(18,zh)],[]⟩ (s0 (s1 (zb za za) (zg ⟨[0,3,16,17,18],[(6,zh)],[]⟩ (zd (s0 (zd (s0 (zb za (s0 (zb (s0 za) za))))))) za)))))) (s1 (.drawS [0,2,3,1,4,5,6,7,8,9,10,11] []) za)))))) false:=by kernel_rfl
instance qcx_ok:EO 76 (qcx_W qcx_A):=EA (qcx_d ..)
theorem qcy_d:qcy_W (qcy_G f_qcx)=DR [(76,zm (qcx_W f_qcx))] [6,7] Tryz.f28 (s0 (s0 (s1 (s0 (zb (s0 za) za)) (s1 (.drawS [0,1,2,3,4,5,6,7,8,9,10,11,12] []) (zg ⟨[11],[],[]⟩ (s0 (zb za za)) (s0 za)))))) false:=by kernel_rfl
instance qcy_ok:EO 28 (qcy_W qcy_A):=EA (qcy_d ..)
theorem qcz_d:qcz_W qcz_A=DR [] [] Tryz.f138 (s0 (s0 za)) false:=by kernel_rfl
instance qcz_ok:EO 138 (qcz_W qcz_A):=EA qcz_d
theorem qda_d:qda_W qda_A=DR [] [5,6] Tryz.f139 (s0 (s0 (s1 (s0 (zd (zf ⟨[0,10,11],[(3,zj),(12,zh)],[]⟩ (s0 (s1 (zb za za) (zg ⟨[0,10,11,12],[(3,zj)],[]⟩ (zd (s0 (zg ⟨[0,4,5,10,11,12],[(3,zj)],[]⟩ za (s0 (zb (s0 za) za))))) za)))))) (s0 za)))) false:=by kernel_rfl
instance qda_ok:EO 139 (qda_W qda_A):=EA qda_d
theorem qdb_d:qdb_W qdb_A=DR [] [9] Tryz.f140 (s0 (s0 (s1 (s0 (zd (zf ⟨[1,2,12,13],[(7,zh),(14,zh)],[]⟩ (s0 (s1 (zb za za) (zg ⟨[1,2,12,13,14],[(7,zh)],[]⟩ (zd (s0 (s1 (.draw 10) (s0 (zb za za))))) za)))))) (s0 za)))) false:=by kernel_rfl
instance qdb_ok:EO 140 (qdb_W qdb_A):=EA qdb_d
theorem qdc_d:qdc_W qdc_A=DR [] [10] Tryz.f141 (s0 (s0 (s0 (s1 (s0 (zd (zf ⟨[7,21,22],[(8,zi),(23,zh)],[]⟩ (s0 (s1 (zb za za) (s1 (zd (s0 (.drawS [0,1,5,2,6,3,4,7,8,9] []))) za)))))) (s1 (s0 (zd (zf ⟨[37,38],[(7,zi),(39,zh)],[]⟩ (s0 (s1 (zb za za) (s1 (zd (s0 (s0 (s0 (s1 (s0 (zd (zf ⟨[12,37,38,39,44,45],[(13,zi),(14,zj),(46,zh)],[]⟩ (s0 (s1 (zb za za) (s1 (zd (s0 (zg ⟨[12,16,37,38,39,44,45,46],[(13,zi),(14,zj)],[]⟩ (zg ⟨[12,13,14,16,37,38,39,44,45,46],[(56,zj)],[]⟩ za (zb (zg ⟨[12,16,37,38,39,44,45,46],[(13,zi)],[]⟩ (s0 (zb za za)) za) za)) za))) za)))))) (zg ⟨[37,38,39],[(13,zi)],[]⟩ (s0 (zb za za)) za)))))) za)))))) (s0 za)))))) false:=by kernel_rfl
instance qdc_ok:EO 141 (qdc_W qdc_A):=EA qdc_d
theorem qdd_d:qdd_W (qdd_G f_qcd f_qdc)=DR [(141,zm (qdc_W f_qdc)),(58,zm (qcd_W f_qcd))] [9,14] Tryz.f80 (s0 (s0 (s0 (s1 (s0 (zd (zf ⟨[0,1,2,3,9,12],[(11,zi),(13,zh)],[]⟩ (s1 (s0 (zb za za)) (zg ⟨[0,1,2,3,9,12,13],[(11,zi)],[]⟩ (zd (s0 (zg ⟨[0,1,2,3,9,11,12,13,14],[(15,zj)],[(14,(0,(.i .i64))),(14,(1,(.i .i64))),(14,(2,.b)),(14,(3,.b)),(14,(4,.b)),(14,(5,(.i .i64)))]⟩ (s0 (zb (s0 (zd (s0 (zb za (s0 (zb za (s0 (zb za za)))))))) za)) (s1 (s0 (zb za za)) (s0 (s0 (s0 (s1 (.draw 35) (zb za za))))))))) za))))) (s0 za))))) false:=by kernel_rfl
instance qdd_ok:EO 80 (qdd_W qdd_A):=EA (qdd_d ..)
theorem qde_d:qde_W (qde_G f_qcz f_qda f_qdb f_qdd)=DR [(138,zm (qcz_W f_qcz)),(139,zm (qda_W f_qda)),(140,zm (qdb_W f_qdb)),(80,zm (qdd_W f_qdd))] [9] Tryz.f77 (s0 (s1 (s0 (zb (s0 za) za)) (s1 (s0 (zb (s0 za) za)) (s1 (s0 (zb (s0 za) za)) (s1 (s0 (zb (s0 za) za)) (s1 (s0 (zb (s0 za) za)) (s0 za))))))) false:=by kernel_rfl
instance qde_ok:EO 77 (qde_W qde_A):=EA (qde_d ..)
theorem qdf_d:qdf_W (qdf_G f_qcd)=DR [(58,zm (qcd_W f_qcd))] [3,8,9] Tryz.f78 (s0 (s1 (s0 (zd (zf ⟨[1,2,3,12,13],[(14,zh)],[]⟩ (s0 (s1 (zb za za) (s1 (zd (s0 (s0 (s0 (zb (s0 za) za))))) za)))))) (s0 za))) false:=by kernel_rfl
instance qdf_ok:EO 78 (qdf_W qdf_A):=EA (qdf_d ..)
theorem qdg_d:qdg_W qdg_A=DR [] [3,6,9] Tryz.f79 (s0 (s0 (s1 (s0 (zd (zf ⟨[1,2,3,6,12,13],[(7,zi),(14,zh)],[]⟩ (s0 (s1 (zb za za) (zg ⟨[1,2,3,6,12,13,14],[(7,zi)],[]⟩ (zd (s0 (s0 (zb za za)))) za)))))) (s0 (s0 za))))) false:=by kernel_rfl
instance qdg_ok:EO 79 (qdg_W qdg_A):=EA qdg_d
theorem qdh_d:qdh_W (qdh_G f_qce f_qci f_qcj)=DR [(82,zm (qci_W f_qci)),(96,zm (qce_W f_qce)),(95,zm (qcj_W f_qcj))] [3,4,5,6,8] Tryz.f81 (s0 (s0 (s1 (.drawS [0,2,1,3,4,6,5,7,8,9,10,11] []) (s0 za)))) false:=by kernel_rfl
instance qdh_ok:EO 81 (qdh_W qdh_A):=EA (qdh_d ..)
theorem qdi_d:qdi_W (qdi_G f_qca f_qci f_qdd f_qde f_qdf f_qdg f_qdh)=DR [(17,zm (qca_W f_qca)),(77,zm (qde_W f_qde)),(78,zm (qdf_W f_qdf)),(79,zm (qdg_W f_qdg)),(80,zm (qdd_W f_qdd)),(81,zm (qdh_W f_qdh)),(82,zm (qci_W f_qci))] [6,11,12,14,16,18] Tryz.f29 (s0 (s0 (s1 (s0 (zb (s0 za) za)) (s0 (s1 (s0 (s0 (zb (s0 za) za))) (zg ⟨[2,3,4,6,12,14,16],[],[(12,(0,.s)),(12,(1,.s)),(12,(2,(.i .i64)))]⟩ (s0 (zb (s0 za) za)) (s1 (s0 (zb (s0 (s0 (s0 za))) za)) (s0 (s0 za))))))))) false:=by kernel_rfl
instance qdi_ok:EO 29 (qdi_W qdi_A):=EA (qdi_d ..)
theorem qdj_d:qdj_W qdj_A=DR [] [3,4] Tryz.f183 (s0 (s1 (.drawS [0,1,2,3,4,5] []) (s0 (s0 (s0 (s1 (.drawS [0,1,2,3,4,5] []) za)))))) false:=by kernel_rfl
instance qdj_ok:EO 183 (qdj_W qdj_A):=EA qdj_d
theorem qdk_d:qdk_W qdk_A=DR [] [1,2] Tryz.f143 (s0 (s0 za)) false:=by kernel_rfl
instance qdk_ok:EO 143 (qdk_W qdk_A):=EA qdk_d
theorem qdl_d:qdl_W (qdl_G f_qcv f_qdj f_qdk)=DR [(183,zm (qdj_W f_qdj)),(143,zm (qdk_W f_qdk)),(135,zm (qcv_W f_qcv))] [4,9,10,11,12,13] Tryz.f142 (s0 (s0 (s1 (s0 (zd (zf ⟨[2,4,15,16],[(7,zi),(17,zh)],[]⟩ (s0 (s1 (zb za za) (zg ⟨[2,4,15,16,17],[(7,zi)],[]⟩ (zd (s0 (s0 (s1 (s0 (zb (s0 za) za)) (zg ⟨[2,4,11,12,15,16,17],[(7,zi)],[]⟩ (s0 (zb za za)) (zg ⟨[2,4,12,15,16,17],[(7,zi)],[]⟩ (s0 (s0 (zb za za))) (s0 (zb za za)))))))) za)))))) (s0 za)))) false:=by kernel_rfl
instance qdl_ok:EO 142 (qdl_W qdl_A):=EA (qdl_d ..)
theorem qdm_d:qdm_W (qdm_G f_qcm f_qco f_qcw f_qdl)=DR [(132,zm (qcm_W f_qcm)),(133,zm (qco_W f_qco)),(142,zm (qdl_W f_qdl)),(134,zm (qcw_W f_qcw))] [3] Tryz.f83 (s0 (s1 (s0 (zb (s0 za) za)) (s1 (s0 (zb (s0 za) za)) (s0 za)))) false:=by kernel_rfl
instance qdm_ok:EO 83 (qdm_W qdm_A):=EA (qdm_d ..)
theorem qdn_d:qdn_W qdn_A=DR [] [2] Tryz.f145 (s0 (s0 za)) false:=by kernel_rfl
instance qdn_ok:EO 145 (qdn_W qdn_A):=EA qdn_d
theorem qdo_d:qdo_W (qdo_G f_qdn)=DR [(145,zm (qdn_W f_qdn))] [] Tryz.f184 (s0 (s1 (s0 (zd (zf ⟨[0,1,7],[(8,zh)],[]⟩ (s0 (s1 (zb za za) (s1 (zd (s0 (s0 (zb (s0 za) za)))) za)))))) (s0 za))) false:=by kernel_rfl
instance qdo_ok:EO 184 (qdo_W qdo_A):=EA (qdo_d ..)
theorem qdp_d:qdp_W (qdp_G f_qdo)=DR [(184,zm (qdo_W f_qdo))] [] Tryz.f144 (s0 (s0 za)) false:=by kernel_rfl
instance qdp_ok:EO 144 (qdp_W qdp_A):=EA (qdp_d ..)
theorem qdq_d:qdq_W (qdq_G f_qdp)=DR [(144,zm (qdp_W f_qdp))] [] Tryz.f84 (s0 (s1 (s0 (zd (zf ⟨[0,3,10],[],[]⟩ (s0 (s1 (zb za za) (zd (s0 (s0 (zb (s0 za) za))))))))) (s0 za))) false:=by kernel_rfl
instance qdq_ok:EO 84 (qdq_W qdq_A):=EA (qdq_d ..)
theorem qdr_d:qdr_W (qdr_G f_qbm)=DR [(56,zm (qbm_W f_qbm))] [] Tryz.f113 (s0 (s1 (s0 (s0 (zb (s0 za) za))) (s0 (s1 (s0 (zd (zf ⟨[0,1],[(9,zl),(10,zh)],[]⟩ (s1 (s0 (zb za za)) (zg ⟨[0,1,10],[(9,zl)],[]⟩ (zd (s0 (s0 (s0 (s0 (zb za za)))))) za))))) (s0 za))))) false:=by kernel_rfl
instance qdr_ok:EO 113 (qdr_W qdr_A):=EA (qdr_d ..)
theorem qds_d:qds_W (qds_G f_qbi f_qbj)=DR [(115,zm (qbi_W f_qbi)),(116,zm (qbj_W f_qbj))] [2] Tryz.f52 (s0 (s0 (s1 (s0 (zd (zf ⟨[0,2,3,11],[(12,zh)],[]⟩ (s0 (s1 (zb za za) (s1 (zd (s0 za)) za)))))) (s0 za)))) false:=by kernel_rfl
instance qds_ok:EO 52 (qds_W qds_A):=EA (qds_d ..)
theorem qdt_d:qdt_W (qdt_G f_qbl f_qdr f_qds)=DR [(158,zm (qbl_W f_qbl)),(113,zm (qdr_W f_qdr)),(52,zm (qds_W f_qds))] [3,6] Tryz.f104 (s0 (s1 (.drawS [0,2,3,1,4,5,6,7,8,9,10] []) (s0 za))) false:=by kernel_rfl
instance qdt_ok:EO 104 (qdt_W qdt_A):=EA (qdt_d ..)
theorem qdu_d:qdu_W qdu_A=DR [] [] Tryz.f153 za false:=by kernel_rfl
instance qdu_ok:EO 153 (qdu_W qdu_A):=EA qdu_d
theorem qdv_d (f_self:qdv_T) (f_qdt:qdt_T) (f_qdu:qdu_T):qdv_W (qdv_G f_self f_qdt f_qdu)=DR [(152,zm (qdv_W f_self)),(104,zm (qdt_W f_qdt)),(153,zm (qdu_W f_qdu))] [5,11] Tryz.f152 (s0 (s0 (zd (zf ⟨[1,2,3,4,5],[(12,zh)],[]⟩ (s0 (s1 (zb za za) (zg ⟨[1,2,3,4,5,12],[],[]⟩ (zd (s0 (zg ⟨[1,2,3,4,5,10,12],[],[]⟩ (s0 (zb za za)) (s0 (zd (s0 (zb za (s0 (zb za za))))))))) za))))))) false:=by kernel_rfl
theorem gK (hm:PM):∀ k,cL Tryz.prog 152 (y5 (bC [.agg [.p,.p,.p,(.i .i64)],.c (.i .i64),.c (.i .i64),.c (.i .i64),.fn 153 [] [.p]] (qdv_W (qdv_A k))))
 | 0=>aLT Tryz.call152 (by kernel_rfl)
 | k+1=>aM1 hm (aA (gK hm k) (aA (qdt_ok.k hm) (aA (qdu_ok.k hm) aD))) Tryz.call152 Tryz.func152 (by kernel_rfl) (by kernel_rfl) false (qdv_d (qdv_A k) qdt_A qdu_A)
instance qdv_ok:EO 152 (qdv_W fB):=⟨λhm=>aLs (gK hm) (by kernel_rfl)⟩
theorem qdw_d:qdw_W (qdw_G f_qdv)=DR [(152,zm (qdv_W f_qdv))] [2] Tryz.f90 (s0 (s0 (s0 (s0 za)))) false:=by kernel_rfl
instance qdw_ok:EO 90 (qdw_W qdw_A):=EA (qdw_d ..)
theorem qdx_d:qdx_W qdx_A=DR [] [] Tryz.f147 (s0 (s0 za)) false:=by kernel_rfl
instance qdx_ok:EO 147 (qdx_W qdx_A):=EA qdx_d
theorem qdy_d:qdy_W (qdy_G f_qdx)=DR [(147,zm (qdx_W f_qdx))] [] Tryz.f185 (s0 (s1 (s0 (zd (zf ⟨[0,1,7],[(8,zh)],[]⟩ (s0 (s1 (zb za za) (s1 (zd (s0 (s0 (zb (s0 za) za)))) za)))))) (s0 za))) false:=by kernel_rfl
instance qdy_ok:EO 185 (qdy_W qdy_A):=EA (qdy_d ..)
theorem qdz_d:qdz_W (qdz_G f_qdx f_qdy)=DR [(185,zm (qdy_W f_qdy)),(147,zm (qdx_W f_qdx))] [] Tryz.f146 (s0 (s0 (s1 (s0 (zb (s0 za) za)) (s1 (s0 (zd (zf ⟨[0,1],[(5,zh),(6,zh)],[]⟩ (s1 (s0 (zb za za)) (zg ⟨[0,1,6],[(5,zh)],[]⟩ (zd (s0 (s0 (zb (s0 za) za)))) za))))) (s0 (s0 za)))))) false:=by kernel_rfl
instance qdz_ok:EO 146 (qdz_W qdz_A):=EA (qdz_d ..)
theorem qea_d:qea_W (qea_G f_qat f_qdw f_qdz)=DR [(43,zm (qat_W f_qat)),(90,zm (qdw_W f_qdw)),(146,zm (qdz_W f_qdz))] [] Tryz.f85 (s0 (s1 (.drawS [0,1,2,3,6,7,8,11,4,9,5,10,12,13] []) za)) false:=by kernel_rfl
instance qea_ok:EO 85 (qea_W qea_A):=EA (qea_d ..)
theorem qeb_d:qeb_W qeb_A=DR [] [4,7] Tryz.f42 (s0 (s1 (s0 (zd (zf ⟨[1,4,8,9],[(10,zh)],[(4,(0,(.i .i64))),(4,(1,(.i .i64))),(4,(2,.b)),(4,(3,.b)),(4,(4,.b)),(4,(5,(.i .i64)))]⟩ (s0 (s1 (zb za za) (s1 (zd (s0 (s0 (zb (s0 za) za)))) za)))))) (s0 za))) false:=by kernel_rfl
instance qeb_ok:EO 42 (qeb_W qeb_A):=EA qeb_d
theorem qec_d:qec_W qec_A=DR [] [2] Tryz.f50 (s0 (s0 (s1 (s0 (zd (zf ⟨[0,2,4],[(6,zh)],[]⟩ (s0 (s1 (zb za za) (s1 (zd (s0 za)) za)))))) (s0 za)))) false:=by kernel_rfl
instance qec_ok:EO 50 (qec_W qec_A):=EA qec_d
theorem qed_d:qed_W (qed_G f_qec)=DR [(50,zm (qec_W f_qec))] [2,3] Tryz.f105 (s0 (s0 (s0 za))) false:=by kernel_rfl
instance qed_ok:EO 105 (qed_W qed_A):=EA (qed_d ..)
theorem qee_d:qee_W (qee_G f_qdt f_qed)=DR [(105,zm (qed_W f_qed)),(104,zm (qdt_W f_qdt))] [3,10] Tryz.f103 (s0 (s0 (s0 (zg ⟨[],[(8,zi)],[]⟩ (s0 (zd (zf ⟨[3,7],[(8,zi),(15,zh)],[]⟩ (s0 (s1 (zb za za) (s1 (zd (s0 (s1 (.drawS [1,2,3,5,6,0,4,7,8,9,10] [9]) (s1 (s0 (zb za za)) za)))) za)))))) (s0 za))))) false:=by kernel_rfl
instance qee_ok:EO 103 (qee_W qee_A):=EA (qee_d ..)
theorem qef_d:qef_W (qef_G f_qdt f_qed f_qee)=DR [(103,zm (qee_W f_qee)),(105,zm (qed_W f_qed)),(104,zm (qdt_W f_qdt))] [3,7,10] Tryz.f44 (s0 (zg ⟨[1,2,3,7],[],[(7,(0,.b)),(7,(1,.b)),(7,(2,.b))]⟩ (s0 (zb (s0 za) za)) (s0 (s1 (s0 (zb (s0 za) za)) (s1 (.drawS [1,2,4,0,3,5,6,7,8,9] [8]) (s1 (s0 (zb (s0 za) za)) (s1 (.draw 11) za))))))) false:=by kernel_rfl
instance qef_ok:EO 44 (qef_W qef_A):=EA (qef_d ..)
theorem qeg_d:qeg_W qeg_A=DR [] [] Tryz.f21 (s0 (s0 (s0 za))) false:=by kernel_rfl
instance qeg_ok:EO 21 (qeg_W qeg_A):=EA qeg_d
theorem qeh_d:qeh_W (qeh_G f_qbh f_qbl f_qbo f_qed f_qee f_qef f_qeg)=DR [(44,zm (qef_W f_qef)),(105,zm (qed_W f_qed)),(103,zm (qee_W f_qee)),(158,zm (qbl_W f_qbl)),(15,zm (qbo_W f_qbo)),(21,zm (qeg_W f_qeg)),(47,zm (qbh_W f_qbh))] [3,9] Tryz.f148 (s0 (s0 (s1 (s0 (zb (s0 za) za)) (s1 (.drawS [0,3,4,2,1,5,6,7,8] [6]) (s1 (.drawS [0,2,3,5,1,4,6,7,8] []) (s1 (s0 (zd (zf ⟨[3,8,11,12],[(13,zh)],[]⟩ (s1 (s1 (.draw 9) (zb za za)) (s1 (zd (s1 (.drawS [0,2,3,4,5,7,8,9,1,6,10,11,12] []) (.draw 5))) za))))) (s0 za))))))) false:=by kernel_rfl
instance qeh_ok:EO 148 (qeh_W qeh_A):=EA (qeh_d ..)
theorem qei_d:qei_W qei_A=DR [] [] Tryz.f91 (s0 (s0 (s0 za))) false:=by kernel_rfl
instance qei_ok:EO 91 (qei_W qei_A):=EA qei_d
theorem qej_d:qej_W qej_A=DR [] [3] Tryz.f187 (s0 (s0 za)) false:=by kernel_rfl
instance qej_ok:EO 187 (qej_W qej_A):=EA qej_d
theorem qek_d:qek_W (qek_G f_qej)=DR [(187,zm (qej_W f_qej))] [3] Tryz.f186 (s0 (s0 za)) false:=by kernel_rfl
instance qek_ok:EO 186 (qek_W qek_A):=EA (qek_d ..)
theorem qel_d:qel_W (qel_G f_qek)=DR [(186,zm (qek_W f_qek))] [] Tryz.f154 (s0 (zd (zf ⟨[0,1],[(6,zh)],[]⟩ (s0 (s1 (zb za za) (s1 (zd (s0 (s0 (zd (zf ⟨[0,1,4,6],[(9,zh)],[]⟩ (s0 (s1 (zb za za) (zg ⟨[0,1,4,6,9],[],[]⟩ (zd (s0 (s0 (zb za za)))) za)))))))) za)))))) false:=by kernel_rfl
instance qel_ok:EO 154 (qel_W qel_A):=EA (qel_d ..)
theorem qem_d:qem_W (qem_G f_qel)=DR [(154,zm (qel_W f_qel))] [] Tryz.f151 (s0 za) false:=by kernel_rfl
instance qem_ok:EO 151 (qem_W qem_A):=EA (qem_d ..)
theorem qen_d:qen_W (qen_G f_qei f_qem)=DR [(91,zm (qei_W f_qei)),(151,zm (qem_W f_qem))] [] Tryz.f89 (s0 (s0 (zb za za))) false:=by kernel_rfl
instance qen_ok:EO 89 (qen_W qen_A):=EA (qen_d ..)
theorem qeo_d:qeo_W (qeo_G f_qat f_qbh f_qeb f_qeh f_qen)=DR [(42,zm (qeb_W f_qeb)),(43,zm (qat_W f_qat)),(148,zm (qeh_W f_qeh)),(47,zm (qbh_W f_qbh)),(89,zm (qen_W f_qen))] [8] Tryz.f86 (s0 (s1 (.drawS [0,1,2,3,6,7,8,10,4,9,5,11,12,13,14,15,16] []) (zg ⟨[0,1,3],[],[]⟩ (s0 (zb za za)) za))) false:=by kernel_rfl
instance qeo_ok:EO 86 (qeo_W qeo_A):=EA (qeo_d ..)
theorem qep_d:qep_W (qep_G f_qdm f_qdq f_qea f_qeo)=DR [(83,zm (qdm_W f_qdm)),(84,zm (qdq_W f_qdq)),(85,zm (qea_W f_qea)),(86,zm (qeo_W f_qeo))] [5] Tryz.f30 (s0 (s0 (s1 (s0 (zb (s0 za) za)) (s1 (.drawS [0,1,2,3,4,5,6,7,8,9,10] []) (s1 (s0 (zb (s0 za) za)) (s1 (s0 (zb (s0 za) za)) (s1 (s0 (zd (zf ⟨[0,1,7,8,38,39],[(40,zh)],[]⟩ (s0 (s1 (zb za za) (s1 (zd (s0 za)) za)))))) (s0 (s0 za))))))))) false:=by kernel_rfl
instance qep_ok:EO 30 (qep_W qep_A):=EA (qep_d ..)
theorem qeq_d:qeq_W qeq_A=DR [] [3,7] Tryz.f149 (s0 (s0 (s1 (s0 (zd (zf ⟨[3,8,9],[(5,zh),(10,zh)],[]⟩ (s0 (s1 (zb za za) (s1 (zd (s0 za)) za)))))) (s0 za)))) false:=by kernel_rfl
instance qeq_ok:EO 149 (qeq_W qeq_A):=EA qeq_d
theorem qer_d:qer_W qer_A=DR [] [2,3] Tryz.f150 (s0 (s0 (s0 za))) false:=by kernel_rfl
instance qer_ok:EO 150 (qer_W qer_A):=EA qer_d
theorem qes_d:qes_W (qes_G f_qcv f_qdj f_qer)=DR [(183,zm (qdj_W f_qdj)),(150,zm (qer_W f_qer)),(135,zm (qcv_W f_qcv))] [4,9,10,11,12,13] Tryz.f142 (s0 (s0 (s1 (s0 (zd (zf ⟨[2,4,15,16],[(7,zi),(17,zh)],[]⟩ (s0 (s1 (zb za za) (zg ⟨[2,4,15,16,17],[(7,zi)],[]⟩ (zd (s0 (s0 (s1 (s0 (zb (s0 za) za)) (zg ⟨[2,4,11,12,15,16,17],[(7,zi)],[]⟩ (s0 (zb za za)) (zg ⟨[2,4,12,15,16,17],[(7,zi)],[]⟩ (s0 (s0 (zb za za))) (s0 (zb za za)))))))) za)))))) (s0 za)))) false:=by kernel_rfl
instance qes_ok:EO 142 (qes_W qes_A):=EA (qes_d ..)
theorem qet_d:qet_W (qet_G f_qcm f_qco f_qcw f_qeq f_qes)=DR [(132,zm (qcm_W f_qcm)),(133,zm (qco_W f_qco)),(149,zm (qeq_W f_qeq)),(142,zm (qes_W f_qes)),(134,zm (qcw_W f_qcw))] [4] Tryz.f87 (s0 (s1 (s0 (zb (s0 za) za)) (s1 (s0 (zb (s0 za) za)) (s1 (s1 (.drawS [0,3,5,1,4,6,7,2,8] []) (zb (s0 za) za)) (s0 za))))) false:=by kernel_rfl
instance qet_ok:EO 87 (qet_W qet_A):=EA (qet_d ..)
theorem qeu_d:qeu_W qeu_A=DR [] [3,4] Tryz.f112 (s0 (s0 za)) false:=by kernel_rfl
instance qeu_ok:EO 112 (qeu_W qeu_A):=EA qeu_d
theorem qev_d:qev_W (qev_G f_qbp f_qed f_qee f_qef f_qeu)=DR [(44,zm (qef_W f_qef)),(103,zm (qee_W f_qee)),(105,zm (qed_W f_qed)),(112,zm (qeu_W f_qeu)),(111,zm (qbp_W f_qbp))] [4,7,10] Tryz.f88 (s0 (s0 (s1 (s0 (zb (s0 za) za)) (s1 (.drawS [2,3,7,10,0,1,11,4,5,6,8,9,12,13] []) (s0 za))))) false:=by kernel_rfl
instance qev_ok:EO 88 (qev_W qev_A):=EA (qev_d ..)
theorem qew_d:qew_W (qew_G f_qat f_qdq f_qea f_qen f_qet f_qev)=DR [(87,zm (qet_W f_qet)),(84,zm (qdq_W f_qdq)),(85,zm (qea_W f_qea)),(43,zm (qat_W f_qat)),(88,zm (qev_W f_qev)),(89,zm (qen_W f_qen))] [6,7] Tryz.f31 (s0 (s0 (s1 (s0 (zb (s0 za) za)) (s1 (.drawS [0,1,2,3,4,5,6,7,8,9,10,11] []) (s1 (s0 (zb (s0 za) za)) (s1 (s0 (zb (s0 za) za)) (s0 (s1 (s0 (zd (zf ⟨[0,1,7,9,45,46],[(47,zh)],[]⟩ (s0 (s1 (zb za za) (s1 (zd (s0 (s1 (.drawS [0,1,2,3,6,7,8,10,4,9,11,5,12] []) za))) za)))))) (s0 za))))))))) false:=by kernel_rfl
instance qew_ok:EO 31 (qew_W qew_A):=EA (qew_d ..)
theorem qex_d:qex_W qex_A=DR [] [2,3] Tryz.f13 (s0 (s0 za)) false:=by kernel_rfl
instance qex_ok:EO 13 (qex_W qex_A):=EA qex_d
theorem qey_d:qey_W (qey_G f_qbf f_qbh f_qbp f_qdt f_qed f_qee f_qeu)=DR [(105,zm (qed_W f_qed)),(103,zm (qee_W f_qee)),(104,zm (qdt_W f_qdt)),(45,zm (qbf_W f_qbf)),(47,zm (qbh_W f_qbh)),(111,zm (qbp_W f_qbp)),(112,zm (qeu_W f_qeu))] [5,9] Tryz.f46 (s0 (zg ⟨[1,2,3,5,9],[],[]⟩ (s0 (zb (s0 za) za)) (s1 (.drawS [0,3,4,2,1,5,6,7,8] [6]) (zg ⟨[3,5,9,11,12],[],[]⟩ (s1 (.draw 10) (zb (s0 za) za)) (s0 (s1 (s0 (zd (zf ⟨[3,5,9,11,12,56],[(13,zi),(57,zh)],[]⟩ (s0 (s1 (zb za za) (s1 (zd (s0 (s1 (s0 (zb (s1 (s0 (zd (zf ⟨[5,15,66,67],[(68,zh)],[]⟩ (s0 (s1 (zb za za) (s1 (zd (s0 za)) za)))))) (s0 za)) za)) za))) za)))))) (s1 (s0 (zd (zf ⟨[3,5,9,11,82,83],[(12,zi),(84,zh)],[]⟩ (s0 (s1 (zb za za) (s1 (zd (s0 (s0 (s1 (.draw 10) za)))) za)))))) (s1 (.drawS [1,2,4,6,0,3,5,7,8,9] []) (s0 za))))))))) false:=by kernel_rfl
instance qey_ok:EO 46 (qey_W qey_A):=EA (qey_d ..)
theorem qez_d:qez_W (qez_G f_qat f_qbf f_qbh f_qeb f_qef f_qex f_qey)=DR [(42,zm (qeb_W f_qeb)),(43,zm (qat_W f_qat)),(44,zm (qef_W f_qef)),(13,zm (qex_W f_qex)),(45,zm (qbf_W f_qbf)),(46,zm (qey_W f_qey)),(47,zm (qbh_W f_qbh))] [7,15,17,19] Tryz.f11 (s0 (s0 (s1 (s0 (zb (s0 za) za)) (s0 (s1 (s0 (zd (zf ⟨[0,2,7,11,35,36],[(12,zh),(37,zh)],[]⟩ (s0 (s1 (zb za za) (zg ⟨[0,2,7,11,35,36,37],[(12,zh)],[]⟩ (zd (s0 (s0 (zb za za)))) za)))))) (zg ⟨[0,2,7,11],[(12,zh)],[]⟩ (s0 (zb za za)) (s0 (s1 (s0 (zb (s0 za) za)) (s0 (s1 (.drawS [1,2,3,5,0,4,6,7,8,9,10,11,12,13,14] [11]) (s1 (s0 (zb (zg ⟨[],[(12,zh)],[]⟩ (s0 (zb za za)) (s0 za)) za)) (s1 (s0 (zb (s0 za) za)) (s0 (s1 (s0 (zb (s0 za) za)) (s1 (s1 (.draw 9) (s0 (zb (s0 (s0 za)) za))) (s0 za)))))))))))))))) false:=by kernel_rfl
instance qez_ok:EO 11 (qez_W qez_A):=EA (qez_d ..)
theorem qfa_d:qfa_W qfa_A=DR [] [1] Tryz.f59 (s0 (s0 (zg ⟨[1],[(3,zh)],[]⟩ (s0 (zb za za)) (zg ⟨[1],[(3,zh)],[]⟩ (s0 (zb za za)) (zg ⟨[],[(3,zh)],[]⟩ (s0 (zb za za)) (s0 za)))))) false:=by kernel_rfl
instance qfa_ok:EO 59 (qfa_W qfa_A):=EA qfa_d
theorem qfb_d:qfb_W qfb_A=DR [] [2,4,7] Tryz.f60 (s0 (s1 (s0 (zd (zf ⟨[1,4,9,10],[(11,zh)],[(4,(0,(.i .i64))),(4,(1,(.i .i64))),(4,(2,(.i .i64)))]⟩ (s0 (s1 (zb za za) (s1 (zd (s0 (s0 (zb (s0 za) za)))) za)))))) (s0 za))) false:=by kernel_rfl
instance qfb_ok:EO 60 (qfb_W qfb_A):=EA qfb_d
theorem qfc_d:qfc_W qfc_A=DR [] [7] Tryz.f61 (s0 (s1 (s0 (zb (s0 za) za)) (s1 (s0 (zb (s0 za) za)) (s0 za)))) false:=by kernel_rfl
instance qfc_ok:EO 61 (qfc_W qfc_A):=EA qfc_d
theorem qfd_d:qfd_W qfd_A=DR [] [2,3,4,8] Tryz.f63 (s0 (s0 (s0 (s1 (s0 (zd (zf ⟨[2,3,4,11,12],[(5,zi),(6,zj),(13,zh)],[]⟩ (s0 (s1 (zb za za) (zg ⟨[2,3,4,11,12,13],[(5,zi),(6,zj)],[]⟩ (zd (s0 (zg ⟨[2,3,4,8,11,12,13],[(5,zi),(6,zj)],[]⟩ (s0 (zb (s0 za) za)) (s0 (zb za za))))) za)))))) (zg ⟨[2,4],[(5,zi)],[]⟩ (s0 (zb za za)) (s0 (s0 za))))))) false:=by kernel_rfl
instance qfd_ok:EO 63 (qfd_W qfd_A):=EA qfd_d
theorem qfe_d:qfe_W (qfe_G f_qca f_qcd f_qck f_qfa f_qfb f_qfc f_qfd)=DR [(17,zm (qca_W f_qca)),(58,zm (qcd_W f_qcd)),(59,zm (qfa_W f_qfa)),(60,zm (qfb_W f_qfb)),(61,zm (qfc_W f_qfc)),(63,zm (qfd_W f_qfd)),(62,zm (qck_W f_qck))] [4,7,8,12,14] Tryz.f16 (s0 (s0 (s1 (s0 (zb (s0 za) za)) (s0 (s1 (s0 (zb (s1 (.drawS [0,1,2,3,4,5,6] []) za) za)) (s0 (s1 (s0 (zb (s1 (s0 (zb (s1 (.drawS [0,1,2,3,4,5,6,7] []) za) za)) (s1 (.drawS [0,1,2,3,4,5,6] []) za)) za)) (s1 (s0 (zb (s1 (.drawS [1,0,2,3,4,5,6] []) za) za)) (s1 (.drawS [2,3,0,1,4,5,6,7,8,9,10,11,12,13,14] [12]) (s1 (s0 (zb (s0 za) za)) (s0 (s1 (.drawS [1,0,2,3,4,5,6] []) za)))))))))))) false:=by kernel_rfl
instance qfe_ok:EO 16 (qfe_W qfe_A):=EA (qfe_d ..)
theorem qff_d:qff_W (qff_G f_qat f_qeb f_qef)=DR [(42,zm (qeb_W f_qeb)),(43,zm (qat_W f_qat)),(44,zm (qef_W f_qef))] [10,13] Tryz.f32 (s0 (s0 (s1 (s0 (zb (s0 za) za)) (s0 (s1 (s1 (.drawS [0,1,2,3,6,7,8,10,4,9,5,11,12,13,14,15,16,17,18,19] [16]) (s0 (zb (s0 za) za))) (s1 (s0 (zb (s0 za) za)) (s0 za))))))) false:=by kernel_rfl
instance qff_ok:EO 32 (qff_W qff_A):=EA (qff_d ..)
theorem qfg_d:qfg_W (qfg_G f_qca f_qcd f_qfb)=DR [(17,zm (qca_W f_qca)),(58,zm (qcd_W f_qcd)),(60,zm (qfb_W f_qfb))] [4,9,11,13] Tryz.f33 (s0 (s0 (s0 (s0 (s1 (s0 (zb (s0 za) za)) (s1 (s0 (zb (s0 za) za)) (s0 za))))))) false:=by kernel_rfl
instance qfg_ok:EO 33 (qfg_W qfg_A):=EA (qfg_d ..)
theorem qfh_d:qfh_W (qfh_G f_qat f_qcx f_qeb f_qef f_qey)=DR [(42,zm (qeb_W f_qeb)),(43,zm (qat_W f_qat)),(44,zm (qef_W f_qef)),(76,zm (qcx_W f_qcx)),(46,zm (qey_W f_qey))] [11,15,18] Tryz.f34 (s0 (s1 (.draw 14) (zg ⟨[0,2,4,11,13,14],[],[]⟩ (s0 (zb (s0 za) za)) (s0 (s1 (.drawS [0,1,2,3,6,7,8,10,4,9,5,11,12,13,14,15,16,17,18,19] [16]) (zg ⟨[0,2,4,11,13,14,15,17],[],[]⟩ (s0 (zb (s0 za) za)) (zg ⟨[0,2,4,11,13,14,17],[],[]⟩ (s0 (zb (s0 za) za)) (s1 (.drawS [0,1,2,4,5,6,7,3,8,9,10,11,12,13,14,15] []) (s1 (s0 (zb (s0 za) za)) (s1 (s1 (.drawS [0,1,2,3,6,7,8,10,11,4,9,12,5,13,14] []) (s0 (zb (s0 za) za))) (s0 (s0 (s0 za))))))))))))) false:=by kernel_rfl
instance qfh_ok:EO 34 (qfh_W qfh_A):=EA (qfh_d ..)
theorem qfi_d:qfi_W (qfi_G f_qca f_qcd f_qci f_qck f_qdd f_qde f_qfb f_qfd)=DR [(17,zm (qca_W f_qca)),(58,zm (qcd_W f_qcd)),(60,zm (qfb_W f_qfb)),(77,zm (qde_W f_qde)),(80,zm (qdd_W f_qdd)),(63,zm (qfd_W f_qfd)),(62,zm (qck_W f_qck)),(82,zm (qci_W f_qci))] [6,11,12,14,16,18,20,22,24] Tryz.f35 (s0 (s0 (s0 (s0 (s0 (zg ⟨[1,4,6,11,12,14,16,18,20],[],[(12,(0,.s)),(12,(1,.s)),(12,(2,(.i .i64)))]⟩ (s0 (zb (s0 za) za)) (zg ⟨[1,4,6,11,12,14,16,20],[],[(12,(0,.s)),(12,(1,.s)),(12,(2,(.i .i64)))]⟩ (s0 (zb (s0 za) za)) (zg ⟨[1,4,6,11,12,14,16,20],[],[(12,(0,.s)),(12,(1,.s)),(12,(2,(.i .i64)))]⟩ (s0 (zb (s0 za) za)) (s0 (s1 (s0 (s0 (zb (s0 za) za))) (s0 (s1 (.drawS [2,3,0,1,4,5,6,7,8,9,10,11,12,13] [11]) (s1 (s0 (zb (s0 za) za)) (s0 (s0 (s1 (.drawS [0,1,2,3,4,5,6] []) za)))))))))))))))) false:=by kernel_rfl
instance qfi_ok:EO 35 (qfi_W qfi_A):=EA (qfi_d ..)
theorem qfj_d:qfj_W (qfj_G f_qat f_qdm f_qeb f_qef f_qeo)=DR [(43,zm (qat_W f_qat)),(44,zm (qef_W f_qef)),(42,zm (qeb_W f_qeb)),(86,zm (qeo_W f_qeo)),(83,zm (qdm_W f_qdm))] [14,17,19] Tryz.f36 (s0 (s1 (.draw 14) (zg ⟨[0,2,3,4,11,12],[],[]⟩ (s0 (zb (s0 za) za)) (s1 (.drawS [0,1,2,3,6,7,8,10,4,9,5,11,12,13,14,15,16,17,18,19] [16]) (s1 (.drawS [0,1,2,3,6,7,8,10,4,9,5,11,12,13,14,15,16,17,18,19] [16]) (zg ⟨[0,2,3,4,11,12],[],[]⟩ (s0 (s0 (zb (s0 za) za))) (s0 (s0 (zg ⟨[],[],[]⟩ (s0 (s0 (zb za za))) (s0 za)))))))))) false:=by kernel_rfl
instance qfj_ok:EO 36 (qfj_W qfj_A):=EA (qfj_d ..)
theorem qfk_d:qfk_W (qfk_G f_qca f_qcd f_qci f_qdd f_qdg f_qdh f_qfb f_qfd)=DR [(17,zm (qca_W f_qca)),(60,zm (qfb_W f_qfb)),(58,zm (qcd_W f_qcd)),(79,zm (qdg_W f_qdg)),(80,zm (qdd_W f_qdd)),(81,zm (qdh_W f_qdh)),(63,zm (qfd_W f_qfd)),(82,zm (qci_W f_qci))] [5,10,12,14,16,18,20,22,23] Tryz.f37 (s0 (s0 (s0 (s0 (s0 (s0 (zg ⟨[1,4,5,10,12,14,16],[],[(10,(0,.s)),(10,(1,.s)),(10,(2,(.i .i64)))]⟩ (s0 (zb (s0 za) za)) (s0 (s0 (s0 (s0 (s0 (s1 (.drawS [0,1,2,3,4,5,6] []) za))))))))))))) false:=by kernel_rfl
instance qfk_ok:EO 37 (qfk_W qfk_A):=EA (qfk_d ..)
theorem qfl_d:qfl_W qfl_A=DR [] [2] Tryz.f155 (s0 (s0 za)) false:=by kernel_rfl
instance qfl_ok:EO 155 (qfl_W qfl_A):=EA qfl_d
theorem qfm_d:qfm_W (qfm_G f_qfl)=DR [(155,zm (qfl_W f_qfl))] [] Tryz.f154 (s0 (zd (zf ⟨[0,1],[(6,zh)],[]⟩ (s0 (s1 (zb za za) (s1 (zd (s0 (s0 (zd (zf ⟨[0,1,4,6],[(9,zh)],[]⟩ (s0 (s1 (zb za za) (zg ⟨[0,1,4,6,9],[],[]⟩ (zd (s0 (s0 (zb za za)))) za)))))))) za)))))) false:=by kernel_rfl
instance qfm_ok:EO 154 (qfm_W qfm_A):=EA (qfm_d ..)
theorem qfn_d:qfn_W (qfn_G f_qfm)=DR [(154,zm (qfm_W f_qfm))] [] Tryz.f92 (s0 za) false:=by kernel_rfl
instance qfn_ok:EO 92 (qfn_W qfn_A):=EA (qfn_d ..)
theorem qfo_d:qfo_W qfo_A=DR [] [] Tryz.f93 (s0 (s0 (zb (s0 za) za))) false:=by kernel_rfl
instance qfo_ok:EO 93 (qfo_W qfo_A):=EA qfo_d
theorem qfp_d:qfp_W (qfp_G f_qbh f_qdw)=DR [(90,zm (qdw_W f_qdw)),(47,zm (qbh_W f_qbh))] [2] Tryz.f94 (s0 (s1 (s0 (zb (s0 za) za)) (s0 (s0 za)))) false:=by kernel_rfl
instance qfp_ok:EO 94 (qfp_W qfp_A):=EA (qfp_d ..)
theorem qfq_d:qfq_W (qfq_G f_qat f_qdq f_qdw f_qei f_qeo f_qfn f_qfo f_qfp)=DR [(84,zm (qdq_W f_qdq)),(43,zm (qat_W f_qat)),(90,zm (qdw_W f_qdw)),(86,zm (qeo_W f_qeo)),(91,zm (qei_W f_qei)),(92,zm (qfn_W f_qfn)),(93,zm (qfo_W f_qfo)),(94,zm (qfp_W f_qfp))] [6] Tryz.f38 (s0 (s0 (s1 (s0 (zb (s0 za) za)) (s1 (s0 (zb (s0 za) za)) (s0 (s1 (s1 (.drawS [1,2,3,7,0,4,5,6] []) (zd (zf ⟨[0,1,5,6,33,34],[(35,zh)],[]⟩ (s0 (s1 (zb za za) (s1 (zd (s0 za)) za)))))) (zg ⟨[0,1,5,6],[],[]⟩ (s0 (s0 (zb za za))) (s0 (s1 (.draw 5) (s0 (s0 za))))))))))) false:=by kernel_rfl
instance qfq_ok:EO 38 (qfq_W qfq_A):=EA (qfq_d ..)
theorem qfr_d:qfr_W (qfr_G f_qca f_qce f_qcj f_qdf)=DR [(17,zm (qca_W f_qca)),(78,zm (qdf_W f_qdf)),(96,zm (qce_W f_qce)),(95,zm (qcj_W f_qcj))] [2,4,6,8,10] Tryz.f39 (s0 (s0 (s1 (s0 (zb (s0 za) za)) (s1 (s0 (zb (s0 za) za)) (s0 (s0 (s1 (s0 (zd (zf ⟨[1,2,4,6,8,27,28],[(29,zh)],[(8,(0,.s))]⟩ (s0 (s1 (zb za za) (zg ⟨[1,2,4,6,8,27,28,29],[],[(8,(0,.s))]⟩ (zd (s0 (s0 (zb za za)))) za)))))) (s1 (.drawS [0,2,1,3,4,5,6,7,8,9] []) (s0 za))))))))) false:=by kernel_rfl
instance qfr_ok:EO 39 (qfr_W qfr_A):=EA (qfr_d ..)
theorem qfs_d:qfs_W qfs_A=DR [] [1] Tryz.f99 (s0 (s0 za)) false:=by kernel_rfl
instance qfs_ok:EO 99 (qfs_W qfs_A):=EA qfs_d
theorem qft_d:qft_W (qft_G f_qfs)=DR [(99,zm (qfs_W f_qfs))] [] Tryz.f98 (s0 (s1 (s0 (zd (zf ⟨[0,1,7],[(8,zh)],[]⟩ (s0 (s1 (zb za za) (s1 (zd (s0 (s0 (zb (s0 za) za)))) za)))))) (s0 za))) false:=by kernel_rfl
instance qft_ok:EO 98 (qft_W qft_A):=EA (qft_d ..)
theorem qfu_d:qfu_W qfu_A=DR [] [] Tryz.f100 (s0 (s1 (s0 (zb (s0 za) za)) (s0 za))) false:=by kernel_rfl
instance qfu_ok:EO 100 (qfu_W qfu_A):=EA qfu_d
theorem qfv_d:qfv_W (qfv_G f_qau f_qav f_qft f_qfu)=DR [(97,zm (qau_W f_qau)),(55,zm (qav_W f_qav)),(98,zm (qft_W f_qft)),(100,zm (qfu_W f_qfu))] [11] Tryz.f40 (s0 (s0 (s1 (s0 (zb (s0 za) za)) (s1 (s0 (zb (s0 za) za)) (s1 (s0 (zb (s0 za) za)) (s0 (zg ⟨[0,1,2,8,10],[],[]⟩ (s0 (zb (s0 za) za)) (s0 (s0 (s1 (s0 (zb (s1 (.drawS [0,1,2,3,4,6,5,7,8,9,10,11] []) (s0 za)) za)) (s1 (.draw 7) (s0 za)))))))))))) false:=by kernel_rfl
instance qfv_ok:EO 40 (qfv_W qfv_A):=EA (qfv_d ..)
theorem qfw_d:qfw_W (qfw_G f_qcf f_qch)=DR [(101,zm (qcf_W f_qcf)),(102,zm (qch_W f_qch))] [9,13,17,19] Tryz.f41 (s0 (s0 (s1 (s0 (zb (s0 za) za)) (s1 (s0 (zb (s0 za) za)) (s1 (s0 (zb (s0 za) za)) (s1 (s0 (zb (s0 za) za)) (s0 (s1 (s0 (zd (zf ⟨[0,1,2],[(11,zh),(12,zh)],[]⟩ (s1 (s0 (zb za za)) (zg ⟨[0,1,2,12],[(11,zh)],[]⟩ (zd (s0 (s0 (zb za za)))) za))))) (s0 (s1 (s0 (zd (zf ⟨[0,1,2,11,58,59],[(15,zi),(60,zh)],[]⟩ (s0 (s1 (zb za za) (zg ⟨[0,1,2,11,58,59,60],[(15,zi)],[]⟩ (zd (s0 (s0 (zb za za)))) za)))))) (s0 (s1 (s0 (zd (zf ⟨[11,80,81],[(15,zi),(82,zh)],[]⟩ (s0 (s1 (zb za za) (zg ⟨[11,80,81,82],[(15,zi)],[]⟩ (zd (s0 (s0 (zb za za)))) za)))))) (s0 za))))))))))))) false:=by kernel_rfl
instance qfw_ok:EO 41 (qfw_W qfw_A):=EA (qfw_d ..)
theorem qfx_d:qfx_W (qfx_G f_qbz f_qcl f_qcy f_qdi f_qep f_qew f_qez f_qfe f_qff f_qfg f_qfh f_qfi f_qfj f_qfk f_qfq f_qfr f_qfv f_qfw)=DR [(26,zm (qbz_W f_qbz)),(27,zm (qcl_W f_qcl)),(28,zm (qcy_W f_qcy)),(29,zm (qdi_W f_qdi)),(30,zm (qep_W f_qep)),(31,zm (qew_W f_qew)),(11,zm (qez_W f_qez)),(16,zm (qfe_W f_qfe)),(32,zm (qff_W f_qff)),(33,zm (qfg_W f_qfg)),(34,zm (qfh_W f_qfh)),(35,zm (qfi_W f_qfi)),(36,zm (qfj_W f_qfj)),(37,zm (qfk_W f_qfk)),(38,zm (qfq_W f_qfq)),(39,zm (qfr_W f_qfr)),(40,zm (qfv_W f_qfv)),(41,zm (qfw_W f_qfw))] [2,3,4,8,9,13] Tryz.f9 (s0 (s0 (s0 (s0 (zg ⟨[2,4,9],[(6,zh),(7,zh)],[(9,(0,.s)),(9,(1,.s)),(9,(2,(.i .i64))),(4,(0,.p)),(4,(1,.s)),(4,(2,.s)),(4,(3,(.i .i64))),(4,(4,.m))]⟩ (s0 (zd (s0 (zb (s0 za) (s0 (zb (s0 za) (s0 (zb (s0 za) (s0 (zb (s0 za) (s0 (zb (s0 (s0 (s1 (s0 (zb (s0 za) za)) (zg ⟨[2,4,6,7,9,13],[],[(4,(0,.p)),(4,(1,.s)),(4,(2,.s)),(4,(3,(.i .i64))),(4,(4,.m))]⟩ (s0 (zb (zg ⟨[2,4,6,7,9,10,13,14],[],[]⟩ (s0 (zb za za)) (s0 (zb (s0 za) za))) za)) za)))) (s0 (zb (s1 (s1 (.drawS [0,2,4,6,7,10,12,14,16,17,1,3,5,8,11,13,15,18,9,19,20] []) (zb (s0 za) za)) (s0 za)) (s0 (zb (s0 za) (s0 (zb (s0 za) (s0 (zb (s1 (.drawS [0,5,7,1,2,3,4,6,8,9,10,11,12,13,14] []) (s0 (s0 (s0 (zb (s0 za) za))))) za)))))))))))))))))))) (s0 (s0 za))))))) false:=by kernel_rfl
instance qfx_ok:EO 9 (qfx_W qfx_A):=EA (qfx_d ..)
theorem qfy_d:qfy_W (qfy_G f_qav f_qbs f_qbz f_qcy f_qez)=DR [(6,zm (qbs_W f_qbs)),(26,zm (qbz_W f_qbz)),(28,zm (qcy_W f_qcy)),(11,zm (qez_W f_qez)),(55,zm (qav_W f_qav))] [2] Tryz.f14 (s0 (s0 (zg ⟨[1],[],[]⟩ (s0 (zb (s0 za) za)) (s0 (s0 (s0 za)))))) false:=by kernel_rfl
instance qfy_ok:EO 14 (qfy_W qfy_A):=EA (qfy_d ..)
theorem qfz_d:qfz_W (qfz_G f_qfb)=DR [(60,zm (qfb_W f_qfb))] [2,5] Tryz.f18 (s0 (s0 (s0 za))) false:=by kernel_rfl
instance qfz_ok:EO 18 (qfz_W qfz_A):=EA (qfz_d ..)
theorem qga_d:qga_W (qga_G f_qcp)=DR [(137,zm (qcp_W f_qcp))] [] Tryz.f117 (s0 (s1 (s0 (s0 (zb (s0 za) za))) (s0 za))) false:=by kernel_rfl
instance qga_ok:EO 117 (qga_W qga_A):=EA (qga_d ..)
theorem qgb_d:qgb_W (qgb_G f_qat f_qdw)=DR [(43,zm (qat_W f_qat)),(90,zm (qdw_W f_qdw))] [] Tryz.f119 (s0 (s1 (s0 (s0 (zb (s1 (.drawS [0,1,2,3,6,7,8,4,9,5,10,11] []) za) za))) (s0 za))) false:=by kernel_rfl
instance qgb_ok:EO 119 (qgb_W qgb_A):=EA (qgb_d ..)
theorem qgc_d:qgc_W qgc_A=DR [] [] Tryz.f118 (s0 (s1 (s0 (zb (s0 za) za)) (s1 (s0 (zd (zf ⟨[0,1,12],[(13,zh)],[]⟩ (s0 (s1 (zb za za) (s1 (zd (s0 (s1 (.draw 9) (zb (s0 za) za)))) za)))))) (s0 za)))) false:=by kernel_rfl
instance qgc_ok:EO 118 (qgc_W qgc_A):=EA qgc_d
theorem qgd_d:qgd_W (qgd_G f_qau)=DR [(97,zm (qau_W f_qau))] [4] Tryz.f121 (s0 (s1 (s0 (s0 (zb (s0 za) za))) (s0 za))) false:=by kernel_rfl
instance qgd_ok:EO 121 (qgd_W qgd_A):=EA (qgd_d ..)
theorem qge_d:qge_W qge_A=DR [] [5,7] Tryz.f163 (s0 (s0 (s1 (s0 (zd (zf ⟨[11],[(3,zi),(12,zh)],[]⟩ (s0 (s1 (zb za za) (s1 (zd (s0 (s0 (zd (zf ⟨[11,12,15],[(3,zi),(16,zh)],[]⟩ (s0 (s1 (zb za za) (zg ⟨[11,12,15,16],[(3,zi)],[]⟩ (zd (s0 (s0 (zb za za)))) za)))))))) za)))))) (s0 za)))) false:=by kernel_rfl
instance qge_ok:EO 163 (qge_W qge_A):=EA qge_d
theorem qgf_d:qgf_W qgf_A=DR [] [] Tryz.f165 (s0 (s0 (s0 za))) false:=by kernel_rfl
instance qgf_ok:EO 165 (qgf_W qgf_A):=EA qgf_d
theorem qgg_d:qgg_W (qgg_G f_qat f_qef f_qgf)=DR [(165,zm (qgf_W f_qgf)),(43,zm (qat_W f_qat)),(44,zm (qef_W f_qef))] [2,8] Tryz.f164 (s0 (s1 (.drawS [4,0,1,2,3,5,6,7,8,9,10,11] []) (s0 (zg ⟨[1,2,6],[],[]⟩ (s0 (zb (s0 za) za)) (s1 (.drawS [1,2,3,6,7,8,10,0,4,9,11,5,12,13,14,15,16,17,18,19,20] [17]) (s0 za)))))) false:=by kernel_rfl
instance qgg_ok:EO 164 (qgg_W qgg_A):=EA (qgg_d ..)
theorem qgh_d:qgh_W (qgh_G f_qgg)=DR [(164,zm (qgg_W f_qgg))] [] Tryz.f189 (s0 (s1 (s0 (zd (zf ⟨[0,1,7],[(8,zh)],[]⟩ (s0 (s1 (zb za za) (s1 (zd (s0 (s0 (zb (s0 za) za)))) za)))))) (s0 za))) false:=by kernel_rfl
instance qgh_ok:EO 189 (qgh_W qgh_A):=EA (qgh_d ..)
theorem qgi_d:qgi_W (qgi_G f_qgg f_qgh)=DR [(189,zm (qgh_W f_qgh)),(164,zm (qgg_W f_qgg))] [7] Tryz.f162 (s0 (s0 (s1 (s0 (zb (s0 za) za)) (s1 (s0 (zd (zf ⟨[0,1],[(5,zh),(6,zh)],[]⟩ (s1 (s0 (zb za za)) (zg ⟨[0,1,6],[(5,zh)],[]⟩ (zd (s0 (s0 (zb (s0 za) za)))) za))))) (s0 (s0 za)))))) false:=by kernel_rfl
instance qgi_ok:EO 162 (qgi_W qgi_A):=EA (qgi_d ..)
theorem qgj_d:qgj_W (qgj_G f_qge f_qgi)=DR [(163,zm (qge_W f_qge)),(162,zm (qgi_W f_qgi))] [] Tryz.f122 (s0 (s0 za)) false:=by kernel_rfl
instance qgj_ok:EO 122 (qgj_W qgj_A):=EA (qgj_d ..)
theorem qgk_d:qgk_W (qgk_G f_qar f_qbx f_qcb f_qga f_qgb f_qgc f_qgd f_qgj)=DR [(117,zm (qga_W f_qga)),(119,zm (qgb_W f_qgb)),(120,zm (qcb_W f_qcb)),(118,zm (qgc_W f_qgc)),(121,zm (qgd_W f_qgd)),(7,zm (qbx_W f_qbx)),(8,zm (qar_W f_qar)),(122,zm (qgj_W f_qgj))] [1,5,8,11,12] Tryz.f64 (s0 (s0 (s1 (s0 (zd (zf ⟨[1,17,18],[(3,zi),(19,zh)],[]⟩ (s0 (s1 (zb za za) (s1 (zd (s0 (s0 (s0 (zg ⟨[1,3,5,6,17,18,19],[],[]⟩ (s1 (.drawS [0,2,1,3,4,5,6,7,9,8,10,12,11,13,14,15,16] []) (zb (s0 za) za)) (s0 (zd (zf ⟨[1,3,5,17,18,19,50,51],[(52,zh)],[]⟩ (s0 (s1 (zb za za) (s1 (zd (s0 (s1 (.draw 17) (zb (s0 za) za)))) za))))))))))) za)))))) (s0 (s1 (s0 (zd (zf ⟨[1,3,78,79],[(9,zh),(80,zh)],[]⟩ (s0 (s1 (zb za za) (s1 (zd (s0 (s1 (.drawS [0,5,1,2,3,4,6,7,8,9,10,11,12,13] [11]) (s1 (s0 (zb (s0 za) za)) za)))) za)))))) (s1 (.drawS [0,3,1,2,4,5,6,12,13,18,7,8,9,10,14,15,16,17,19,11,20,21,22,23,24,25,26,27,28,29] []) za)))))) false:=by kernel_rfl
instance qgk_ok:EO 64 (qgk_W qgk_A):=EA (qgk_d ..)
theorem qgl_d:qgl_W (qgl_G f_qgk)=DR [(64,zm (qgk_W f_qgk))] [1] Tryz.f19 (s0 (s1 (s0 (zb (s0 za) za)) (s0 za))) false:=by kernel_rfl
instance qgl_ok:EO 19 (qgl_W qgl_A):=EA (qgl_d ..)
theorem qgm_d:qgm_W (qgm_G f_qar f_qbb f_qbo f_qbs f_qca f_qeg f_qez f_qfe f_qfx f_qfy f_qfz f_qgl)=DR [(14,zm (qfy_W f_qfy)),(6,zm (qbs_W f_qbs)),(9,zm (qfx_W f_qfx)),(11,zm (qez_W f_qez)),(15,zm (qbo_W f_qbo)),(16,zm (qfe_W f_qfe)),(8,zm (qar_W f_qar)),(17,zm (qca_W f_qca)),(18,zm (qfz_W f_qfz)),(19,zm (qgl_W f_qgl)),(20,zm (qbb_W f_qbb)),(21,zm (qeg_W f_qeg))] [12,14,16,21,26] Tryz.f4 (s0 (zg ⟨[0,1,2,3,4],[],[]⟩ (s0 (zb (s0 za) za)) (s0 (s1 (s0 (zb (s0 za) za)) (s0 (zg ⟨[2,3,11,14],[],[(14,(0,.p)),(14,(1,.s)),(14,(2,.s)),(14,(3,(.i .i64))),(14,(4,.m))]⟩ (s0 (zd (zf ⟨[1,2,3,4,11,14],[(15,zh)],[(14,(0,.p)),(14,(1,.s)),(14,(2,.s)),(14,(3,(.i .i64))),(14,(4,.m))]⟩ (zg ⟨[1,2,3,4,11,14,15],[],[]⟩ (s0 (zb za za)) (zg ⟨[1,2,3,4,11,14,15],[],[(14,(0,.p)),(14,(1,.s)),(14,(2,.s)),(14,(3,(.i .i64))),(14,(4,.m))]⟩ (zd (s1 (.drawS [1,2,3,0,4,5,6,7,8,9,10,11] [9]) (s0 (s1 (.drawS [0,1,2,3,4,6,7,8,9,11,5,10,12,13,14,15,16,17,18,19] []) (s0 (zb (s0 (s1 (.drawS [0,2,3,4,5,7,8,9,10,12,1,6,11,13,14,15,16,17,18,19,20,21,22,23] [19]) za)) za)))))) za))))) (s0 (s0 (s0 (s0 (s1 (s0 (zb (s0 za) za)) (s0 za)))))))))))) false:=by kernel_rfl
instance qgm_ok:EO 4 (qgm_W qgm_A):=EA (qgm_d ..)
end Go.Dn
