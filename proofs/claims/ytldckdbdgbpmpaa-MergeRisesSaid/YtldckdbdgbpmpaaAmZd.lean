/- Proved here: numbers as bits, arguments as data, and from a contract of a law to its walk. No condition. -/
import Derived.Test.YtldckdbdgbpmpaaAmZa
import Derived.IntWalk
import Derived.OpenShut
import Derived.Deep.Slices
import Derived.Below
import Derived.DataShut
import Derived.WalkKit
import Derived.ProofKit
import Derived.ShutString
import Derived.ChangeOld
import Derived.Carry
set_option linter.unusedSimpArgs false
set_option linter.unusedVariables false
namespace Go.AM
open Go

/-! the equations that the walk rewrites by, in lots -/
theorem am1 : type_of% (And.intro @Go.AM.undP.eq_1 (And.intro @Go.undef.eq_1 (And.intro @Go.AM.beqT (And.intro @Go.AM.beqF (And.intro @Int.cast_ofNat_Int (And.intro @Go.AM.litsOf.eq_1 (And.intro @List.size_toArray.{0} (And.intro @List.replicate_zero.{0} (And.intro @Go.AM.plc.eq_1 (And.intro @Go.AM.plc.eq_2 (And.intro @Go.AM.sig.eq_1 (And.intro @Go.AM.ren.eq_1 (And.intro @Go.AM.ren.eq_2 (And.intro @Go.AM.ren.eq_3 (And.intro @Go.AM.ren.eq_4 (And.intro @Go.AM.ren.eq_5 (And.intro @Go.AM.ren.eq_6 (And.intro @Go.AM.ren.eq_7 (And.intro @Go.AM.ren.eq_8 (And.intro @Go.AM.ren.eq_9 (And.intro @Go.AM.ren.eq_10 (And.intro @Go.AM.ren.eq_11 (And.intro @Go.AM.ren.eq_12 (@Go.AM.rens.eq_1)))))))))))))))))))))))) := And.intro @Go.AM.undP.eq_1 (And.intro @Go.undef.eq_1 (And.intro @Go.AM.beqT (And.intro @Go.AM.beqF (And.intro @Int.cast_ofNat_Int (And.intro @Go.AM.litsOf.eq_1 (And.intro @List.size_toArray.{0} (And.intro @List.replicate_zero.{0} (And.intro @Go.AM.plc.eq_1 (And.intro @Go.AM.plc.eq_2 (And.intro @Go.AM.sig.eq_1 (And.intro @Go.AM.ren.eq_1 (And.intro @Go.AM.ren.eq_2 (And.intro @Go.AM.ren.eq_3 (And.intro @Go.AM.ren.eq_4 (And.intro @Go.AM.ren.eq_5 (And.intro @Go.AM.ren.eq_6 (And.intro @Go.AM.ren.eq_7 (And.intro @Go.AM.ren.eq_8 (And.intro @Go.AM.ren.eq_9 (And.intro @Go.AM.ren.eq_10 (And.intro @Go.AM.ren.eq_11 (And.intro @Go.AM.ren.eq_12 (@Go.AM.rens.eq_1)))))))))))))))))))))))
theorem am2 : type_of% (And.intro @Go.AM.rens.eq_2 (And.intro @Go.AM.renRow.eq_1 (And.intro @Go.AM.renRow.eq_2 (And.intro @Go.AM.renRow.eq_3 (And.intro @Go.AM.renRow.eq_4 (And.intro @Go.AM.aw_skip (And.intro @Go.AM.aw_reg (And.intro @Go.AM.aw_regD (And.intro @Go.AM.aw_seq (And.intro @Go.AM.aw_block (And.intro @Go.AM.aw_loop (And.intro @Go.AM.aw_exit (And.intro @Go.AM.aw_ret (And.intro @Go.AM.aw_cond (And.intro @Go.AM.thenQ_normal (And.intro @Go.AM.thenQ_exit (And.intro @Go.AM.thenQ_ret (And.intro @Go.AM.blockQ_normal (And.intro @Go.AM.blockQ_ret (And.intro @Go.AM.blockQ_exit (And.intro @Go.AM.aops_nil (And.intro @Go.AM.aops_cons (And.intro @Go.AM.aops_guard (@Go.AM.aopsD_nil)))))))))))))))))))))))) := And.intro @Go.AM.rens.eq_2 (And.intro @Go.AM.renRow.eq_1 (And.intro @Go.AM.renRow.eq_2 (And.intro @Go.AM.renRow.eq_3 (And.intro @Go.AM.renRow.eq_4 (And.intro @Go.AM.aw_skip (And.intro @Go.AM.aw_reg (And.intro @Go.AM.aw_regD (And.intro @Go.AM.aw_seq (And.intro @Go.AM.aw_block (And.intro @Go.AM.aw_loop (And.intro @Go.AM.aw_exit (And.intro @Go.AM.aw_ret (And.intro @Go.AM.aw_cond (And.intro @Go.AM.thenQ_normal (And.intro @Go.AM.thenQ_exit (And.intro @Go.AM.thenQ_ret (And.intro @Go.AM.blockQ_normal (And.intro @Go.AM.blockQ_ret (And.intro @Go.AM.blockQ_exit (And.intro @Go.AM.aops_nil (And.intro @Go.AM.aops_cons (And.intro @Go.AM.aops_guard (@Go.AM.aopsD_nil)))))))))))))))))))))))
theorem am3 : type_of% (And.intro @Go.AM.aopsD_cons (And.intro @Go.AM.aopsD_guard (And.intro @Go.AM.aopE_b (And.intro @Go.AM.aopE_call (And.intro @Go.AM.isB_move (And.intro @Go.AM.isB_assign (And.intro @Go.AM.isB_pick (And.intro @Go.AM.isB_alloc (And.intro @Go.AM.isB_box (And.intro @Go.AM.isB_build (And.intro @Go.AM.isB_buildSlice (And.intro @Go.AM.isB_load (And.intro @Go.AM.isB_store (And.intro @Go.AM.isB_nilCheck (And.intro @Go.AM.isB_binOp (And.intro @Go.AM.isB_unOp (And.intro @Go.AM.isB_convert (And.intro @Go.AM.isB_makeInterface (And.intro @Go.AM.isB_makeFunc (And.intro @Go.AM.isB_makeSlice (And.intro @Go.AM.isB_slice (And.intro @Go.AM.isB_fieldAddr (And.intro @Go.AM.isB_indexAddr (@Go.AM.isB_index)))))))))))))))))))))))) := And.intro @Go.AM.aopsD_cons (And.intro @Go.AM.aopsD_guard (And.intro @Go.AM.aopE_b (And.intro @Go.AM.aopE_call (And.intro @Go.AM.isB_move (And.intro @Go.AM.isB_assign (And.intro @Go.AM.isB_pick (And.intro @Go.AM.isB_alloc (And.intro @Go.AM.isB_box (And.intro @Go.AM.isB_build (And.intro @Go.AM.isB_buildSlice (And.intro @Go.AM.isB_load (And.intro @Go.AM.isB_store (And.intro @Go.AM.isB_nilCheck (And.intro @Go.AM.isB_binOp (And.intro @Go.AM.isB_unOp (And.intro @Go.AM.isB_convert (And.intro @Go.AM.isB_makeInterface (And.intro @Go.AM.isB_makeFunc (And.intro @Go.AM.isB_makeSlice (And.intro @Go.AM.isB_slice (And.intro @Go.AM.isB_fieldAddr (And.intro @Go.AM.isB_indexAddr (@Go.AM.isB_index)))))))))))))))))))))))
theorem am4 : type_of% (And.intro @Go.AM.isB_extract (And.intro @Go.AM.isB_field (And.intro @Go.AM.isB_clen (And.intro @Go.AM.isB_ccap (And.intro @Go.AM.isB_cappend (And.intro @Go.AM.isB_cmin (And.intro @Go.AM.isB_cmax (And.intro @Go.AM.fpB_some (And.intro @Go.AM.fpB_none (And.intro @Go.AM.irO.eq_1 (And.intro @Go.AM.irO.eq_2 (And.intro @Go.AM.irO.eq_3 (And.intro @Go.AM.irO.eq_4 (And.intro @Go.AM.irO.eq_5 (And.intro @Go.AM.irO.eq_6 (And.intro @Go.AM.irO.eq_7 (And.intro @Go.AM.irO.eq_8 (And.intro @Go.AM.irO.eq_9 (And.intro @Go.AM.irO.eq_10 (And.intro @Go.AM.irO.eq_11 (And.intro @Go.AM.irO.eq_12 (And.intro @Go.AM.irO.eq_13 (And.intro @Go.AM.irO.eq_14 (@Go.AM.irO.eq_15)))))))))))))))))))))))) := And.intro @Go.AM.isB_extract (And.intro @Go.AM.isB_field (And.intro @Go.AM.isB_clen (And.intro @Go.AM.isB_ccap (And.intro @Go.AM.isB_cappend (And.intro @Go.AM.isB_cmin (And.intro @Go.AM.isB_cmax (And.intro @Go.AM.fpB_some (And.intro @Go.AM.fpB_none (And.intro @Go.AM.irO.eq_1 (And.intro @Go.AM.irO.eq_2 (And.intro @Go.AM.irO.eq_3 (And.intro @Go.AM.irO.eq_4 (And.intro @Go.AM.irO.eq_5 (And.intro @Go.AM.irO.eq_6 (And.intro @Go.AM.irO.eq_7 (And.intro @Go.AM.irO.eq_8 (And.intro @Go.AM.irO.eq_9 (And.intro @Go.AM.irO.eq_10 (And.intro @Go.AM.irO.eq_11 (And.intro @Go.AM.irO.eq_12 (And.intro @Go.AM.irO.eq_13 (And.intro @Go.AM.irO.eq_14 (@Go.AM.irO.eq_15)))))))))))))))))))))))
theorem am5 : type_of% (And.intro @Go.AM.iwO.eq_1 (And.intro @Go.AM.iwO.eq_2 (And.intro @Go.AM.iwO.eq_3 (And.intro @Go.AM.iwO.eq_4 (And.intro @Go.AM.iwO.eq_5 (And.intro @Go.AM.iwO.eq_6 (And.intro @Go.AM.iwO.eq_7 (And.intro @Go.AM.iwO.eq_8 (And.intro @Go.AM.ids.eq_1 (And.intro @Go.AM.ids.eq_2 (And.intro @Go.AM.ids.eq_3 (And.intro @Go.AM.ids.eq_4 (And.intro @Go.AM.ids.eq_5 (And.intro @Go.AM.ids.eq_6 (And.intro @Go.AM.ids.eq_7 (And.intro @Go.AM.ids.eq_8 (And.intro @Go.AM.ids.eq_9 (And.intro @Go.AM.ids.eq_10 (And.intro @Go.AM.ids.eq_11 (And.intro @Go.AM.ids.eq_12 (And.intro @Go.AM.idss.eq_1 (And.intro @Go.AM.idss.eq_2 (And.intro @Go.AM.idsRow.eq_1 (@Go.AM.idsRow.eq_2)))))))))))))))))))))))) := And.intro @Go.AM.iwO.eq_1 (And.intro @Go.AM.iwO.eq_2 (And.intro @Go.AM.iwO.eq_3 (And.intro @Go.AM.iwO.eq_4 (And.intro @Go.AM.iwO.eq_5 (And.intro @Go.AM.iwO.eq_6 (And.intro @Go.AM.iwO.eq_7 (And.intro @Go.AM.iwO.eq_8 (And.intro @Go.AM.ids.eq_1 (And.intro @Go.AM.ids.eq_2 (And.intro @Go.AM.ids.eq_3 (And.intro @Go.AM.ids.eq_4 (And.intro @Go.AM.ids.eq_5 (And.intro @Go.AM.ids.eq_6 (And.intro @Go.AM.ids.eq_7 (And.intro @Go.AM.ids.eq_8 (And.intro @Go.AM.ids.eq_9 (And.intro @Go.AM.ids.eq_10 (And.intro @Go.AM.ids.eq_11 (And.intro @Go.AM.ids.eq_12 (And.intro @Go.AM.idss.eq_1 (And.intro @Go.AM.idss.eq_2 (And.intro @Go.AM.idsRow.eq_1 (@Go.AM.idsRow.eq_2)))))))))))))))))))))))
theorem am6 : type_of% (And.intro @Go.AM.idsRow.eq_3 (And.intro @Go.AM.idsRow.eq_4 (And.intro @Go.AM.put_some (And.intro @Go.AM.put_none (And.intro @Go.AM.K1_some (And.intro @Go.AM.K1_none (And.intro @Go.AM.K1o_some (And.intro @Go.AM.K2o_some (And.intro @Go.AM.KE_some (And.intro @Go.AM.dlt_some (And.intro @Go.AM.dlt_none (And.intro @Go.AM.aop_move (And.intro @Go.AM.aop_assign (And.intro @Go.AM.aop_pick (And.intro @Go.AM.aop_alloc (And.intro @Go.AM.aop_box (And.intro @Go.AM.aop_build (And.intro @Go.AM.aop_buildSlice (And.intro @Go.AM.aop_load (And.intro @Go.AM.aop_store (And.intro @Go.AM.aop_nil (And.intro @Go.AM.aop_bin (And.intro @Go.AM.aop_un (@Go.AM.aop_conv)))))))))))))))))))))))) := And.intro @Go.AM.idsRow.eq_3 (And.intro @Go.AM.idsRow.eq_4 (And.intro @Go.AM.put_some (And.intro @Go.AM.put_none (And.intro @Go.AM.K1_some (And.intro @Go.AM.K1_none (And.intro @Go.AM.K1o_some (And.intro @Go.AM.K2o_some (And.intro @Go.AM.KE_some (And.intro @Go.AM.dlt_some (And.intro @Go.AM.dlt_none (And.intro @Go.AM.aop_move (And.intro @Go.AM.aop_assign (And.intro @Go.AM.aop_pick (And.intro @Go.AM.aop_alloc (And.intro @Go.AM.aop_box (And.intro @Go.AM.aop_build (And.intro @Go.AM.aop_buildSlice (And.intro @Go.AM.aop_load (And.intro @Go.AM.aop_store (And.intro @Go.AM.aop_nil (And.intro @Go.AM.aop_bin (And.intro @Go.AM.aop_un (@Go.AM.aop_conv)))))))))))))))))))))))
theorem am7 : type_of% (And.intro @Go.AM.aop_makeSlice (And.intro @Go.AM.aop_slice (And.intro @Go.AM.aop_fieldAddr (And.intro @Go.AM.aop_indexAddr (And.intro @Go.AM.aop_index (And.intro @Go.AM.aop_extract (And.intro @Go.AM.aop_field (And.intro @Go.AM.evFld.eq_1 (And.intro @Go.AM.evFld.eq_2 (And.intro @Go.AM.aop_typeAssert (And.intro @Go.AM.isB_typeAssert (And.intro @Go.AM.evTA.eq_1 (And.intro @Go.AM.evTA.eq_2 (And.intro @Go.AM.aop_invH (And.intro @Go.AM.methOf.eq_1 (And.intro @Go.AM.aop_makeFunc (And.intro @Go.AM.aop_makeInterface (And.intro @Go.AM.aop_len (And.intro @Go.AM.aop_min (And.intro @Go.AM.aop_max (And.intro @Go.AM.aop_append (And.intro @Go.AM.aop_lookup (And.intro @Go.AM.aop_mapUpdate (@Go.AM.aop_delete)))))))))))))))))))))))) := And.intro @Go.AM.aop_makeSlice (And.intro @Go.AM.aop_slice (And.intro @Go.AM.aop_fieldAddr (And.intro @Go.AM.aop_indexAddr (And.intro @Go.AM.aop_index (And.intro @Go.AM.aop_extract (And.intro @Go.AM.aop_field (And.intro @Go.AM.evFld.eq_1 (And.intro @Go.AM.evFld.eq_2 (And.intro @Go.AM.aop_typeAssert (And.intro @Go.AM.isB_typeAssert (And.intro @Go.AM.evTA.eq_1 (And.intro @Go.AM.evTA.eq_2 (And.intro @Go.AM.aop_invH (And.intro @Go.AM.methOf.eq_1 (And.intro @Go.AM.aop_makeFunc (And.intro @Go.AM.aop_makeInterface (And.intro @Go.AM.aop_len (And.intro @Go.AM.aop_min (And.intro @Go.AM.aop_max (And.intro @Go.AM.aop_append (And.intro @Go.AM.aop_lookup (And.intro @Go.AM.aop_mapUpdate (@Go.AM.aop_delete)))))))))))))))))))))))
theorem am8 : type_of% (And.intro @Go.AM.aop_mmake (And.intro @Go.AM.isB_lookup (And.intro @Go.AM.isB_mapUpdate (And.intro @Go.AM.isB_cdelete (And.intro @Go.AM.evLook.eq_1 (And.intro @Go.AM.evLook.eq_2 (And.intro @Go.AM.evMset.eq_1 (And.intro @Go.AM.evMset.eq_2 (And.intro @Go.AM.evMdel.eq_1 (And.intro @Go.AM.evMdel.eq_2 (And.intro @Go.AM.evMmake.eq_1 (And.intro @Go.AM.kdOf.eq_1 (And.intro @Go.AM.keyOf.eq_1 (And.intro @Go.AM.keyOf.eq_2 (And.intro @Go.AM.keyOf.eq_3 (And.intro @Go.AM.keyOf.eq_4 (And.intro @Go.AM.keyTy.eq_1 (And.intro @Go.AM.keyTy.eq_2 (And.intro @Go.AM.MKey.kd.eq_1 (And.intro @Go.AM.MKey.kd.eq_2 (And.intro @Go.AM.MKey.kd.eq_3 (And.intro @Go.AM.okTup.eq_1 (And.intro @Go.AM.TK.isMap.eq_1 (@Go.AM.TK.isMap.eq_2)))))))))))))))))))))))) := And.intro @Go.AM.aop_mmake (And.intro @Go.AM.isB_lookup (And.intro @Go.AM.isB_mapUpdate (And.intro @Go.AM.isB_cdelete (And.intro @Go.AM.evLook.eq_1 (And.intro @Go.AM.evLook.eq_2 (And.intro @Go.AM.evMset.eq_1 (And.intro @Go.AM.evMset.eq_2 (And.intro @Go.AM.evMdel.eq_1 (And.intro @Go.AM.evMdel.eq_2 (And.intro @Go.AM.evMmake.eq_1 (And.intro @Go.AM.kdOf.eq_1 (And.intro @Go.AM.keyOf.eq_1 (And.intro @Go.AM.keyOf.eq_2 (And.intro @Go.AM.keyOf.eq_3 (And.intro @Go.AM.keyOf.eq_4 (And.intro @Go.AM.keyTy.eq_1 (And.intro @Go.AM.keyTy.eq_2 (And.intro @Go.AM.MKey.kd.eq_1 (And.intro @Go.AM.MKey.kd.eq_2 (And.intro @Go.AM.MKey.kd.eq_3 (And.intro @Go.AM.okTup.eq_1 (And.intro @Go.AM.TK.isMap.eq_1 (@Go.AM.TK.isMap.eq_2)))))))))))))))))))))))
theorem am9 : type_of% (And.intro @Go.AM.aop_callH (And.intro @Go.AM.aopH_app (And.intro @Go.AM.aopF_app (And.intro @Go.AM.aopG_app (And.intro @Go.AM.aopsK_app (And.intro @Go.AM.chkK_app (And.intro @Go.AM.fpC.eq_1 (And.intro @Go.AM.idsPlc.eq_1 (And.intro @Go.AM.idsPlc.eq_2 (And.intro @Go.AM.upd_apply (And.intro @Go.AM.ev.eq_1 (And.intro @Go.AM.ev.eq_2 (And.intro @Go.AM.ev.eq_3 (And.intro @Go.AM.ev.eq_4 (And.intro @Go.AM.lk.eq_1 (And.intro @Go.AM.lk.eq_2 (And.intro @Go.AM.ofVal.eq_1 (And.intro @Go.AM.ofVal.eq_2 (And.intro @Go.AM.evLen.eq_1 (And.intro @Go.AM.evLen.eq_2 (And.intro @Go.AM.evLen.eq_3 (And.intro @Go.AM.bxLen.eq_1 (And.intro @Go.AM.bxLen.eq_2 (@Go.AM.bxLen.eq_3)))))))))))))))))))))))) := And.intro @Go.AM.aop_callH (And.intro @Go.AM.aopH_app (And.intro @Go.AM.aopF_app (And.intro @Go.AM.aopG_app (And.intro @Go.AM.aopsK_app (And.intro @Go.AM.chkK_app (And.intro @Go.AM.fpC.eq_1 (And.intro @Go.AM.idsPlc.eq_1 (And.intro @Go.AM.idsPlc.eq_2 (And.intro @Go.AM.upd_apply (And.intro @Go.AM.ev.eq_1 (And.intro @Go.AM.ev.eq_2 (And.intro @Go.AM.ev.eq_3 (And.intro @Go.AM.ev.eq_4 (And.intro @Go.AM.lk.eq_1 (And.intro @Go.AM.lk.eq_2 (And.intro @Go.AM.ofVal.eq_1 (And.intro @Go.AM.ofVal.eq_2 (And.intro @Go.AM.evLen.eq_1 (And.intro @Go.AM.evLen.eq_2 (And.intro @Go.AM.evLen.eq_3 (And.intro @Go.AM.bxLen.eq_1 (And.intro @Go.AM.bxLen.eq_2 (@Go.AM.bxLen.eq_3)))))))))))))))))))))))
theorem am10 : type_of% (And.intro @Go.AM.bxLen.eq_4 (And.intro @Go.AM.viewOf.eq_1 (And.intro @Go.AM.viewOf.eq_2 (And.intro @Go.AM.viewOf.eq_3 (And.intro @Go.AM.viewOf.eq_4 (And.intro @Go.AM.tyIs.eq_1 (And.intro @Go.AM.TK.isSl.eq_1 (And.intro @Go.AM.TK.isSl.eq_2 (And.intro @Go.AM.TK.isStr.eq_1 (And.intro @Go.AM.TK.isStr.eq_2 (And.intro @Go.AM.TK.isBool.eq_1 (And.intro @Go.AM.TK.isBool.eq_2 (And.intro @Go.AM.TK.isPtr.eq_1 (And.intro @Go.AM.TK.isPtr.eq_2 (And.intro @Go.AM.TK.agg.eq_1 (And.intro @Go.AM.TK.agg.eq_2 (And.intro @Go.AM.TK.agg.eq_3 (And.intro @Go.AM.evBinP.eq_1 (And.intro @Go.AM.evBinP.eq_2 (And.intro @Go.AM.evBinP.eq_3 (And.intro @Go.AM.evBinP.eq_4 (And.intro @Go.AM.evBinP.eq_5 (And.intro @Go.AM.evBinP.eq_6 (@Go.AM.evBinP.eq_7)))))))))))))))))))))))) := And.intro @Go.AM.bxLen.eq_4 (And.intro @Go.AM.viewOf.eq_1 (And.intro @Go.AM.viewOf.eq_2 (And.intro @Go.AM.viewOf.eq_3 (And.intro @Go.AM.viewOf.eq_4 (And.intro @Go.AM.tyIs.eq_1 (And.intro @Go.AM.TK.isSl.eq_1 (And.intro @Go.AM.TK.isSl.eq_2 (And.intro @Go.AM.TK.isStr.eq_1 (And.intro @Go.AM.TK.isStr.eq_2 (And.intro @Go.AM.TK.isBool.eq_1 (And.intro @Go.AM.TK.isBool.eq_2 (And.intro @Go.AM.TK.isPtr.eq_1 (And.intro @Go.AM.TK.isPtr.eq_2 (And.intro @Go.AM.TK.agg.eq_1 (And.intro @Go.AM.TK.agg.eq_2 (And.intro @Go.AM.TK.agg.eq_3 (And.intro @Go.AM.evBinP.eq_1 (And.intro @Go.AM.evBinP.eq_2 (And.intro @Go.AM.evBinP.eq_3 (And.intro @Go.AM.evBinP.eq_4 (And.intro @Go.AM.evBinP.eq_5 (And.intro @Go.AM.evBinP.eq_6 (@Go.AM.evBinP.eq_7)))))))))))))))))))))))
theorem am11 : type_of% (And.intro @Go.AM.evBinP.eq_8 (And.intro @Go.AM.evBin.eq_1 (And.intro @Go.AM.evBin.eq_2 (And.intro @Go.AM.evBin.eq_3 (And.intro @Go.AM.evBin.eq_4 (And.intro @Go.AM.evBin.eq_5 (And.intro @Go.AM.evInt.eq_1 (And.intro @Go.AM.evInt.eq_2 (And.intro @Go.AM.evInt.eq_3 (And.intro @Go.AM.evInt.eq_4 (And.intro @Go.AM.evInt.eq_5 (And.intro @Go.AM.evInt.eq_6 (And.intro @Go.AM.evInt.eq_7 (And.intro @Go.AM.evInt.eq_8 (And.intro @Go.AM.evInt.eq_9 (And.intro @Go.AM.evInt.eq_10 (And.intro @Go.AM.evInt.eq_11 (And.intro @Go.AM.evInt.eq_12 (And.intro @Go.AM.evInt.eq_13 (And.intro @Go.AM.evInt.eq_14 (And.intro @Go.AM.evInt.eq_15 (And.intro @Go.AM.evInt.eq_16 (And.intro @Go.AM.evStr.eq_1 (@Go.AM.evStr.eq_2)))))))))))))))))))))))) := And.intro @Go.AM.evBinP.eq_8 (And.intro @Go.AM.evBin.eq_1 (And.intro @Go.AM.evBin.eq_2 (And.intro @Go.AM.evBin.eq_3 (And.intro @Go.AM.evBin.eq_4 (And.intro @Go.AM.evBin.eq_5 (And.intro @Go.AM.evInt.eq_1 (And.intro @Go.AM.evInt.eq_2 (And.intro @Go.AM.evInt.eq_3 (And.intro @Go.AM.evInt.eq_4 (And.intro @Go.AM.evInt.eq_5 (And.intro @Go.AM.evInt.eq_6 (And.intro @Go.AM.evInt.eq_7 (And.intro @Go.AM.evInt.eq_8 (And.intro @Go.AM.evInt.eq_9 (And.intro @Go.AM.evInt.eq_10 (And.intro @Go.AM.evInt.eq_11 (And.intro @Go.AM.evInt.eq_12 (And.intro @Go.AM.evInt.eq_13 (And.intro @Go.AM.evInt.eq_14 (And.intro @Go.AM.evInt.eq_15 (And.intro @Go.AM.evInt.eq_16 (And.intro @Go.AM.evStr.eq_1 (@Go.AM.evStr.eq_2)))))))))))))))))))))))
theorem am12 : type_of% (And.intro @Go.AM.evStr.eq_3 (And.intro @Go.AM.evStr.eq_4 (And.intro @Go.AM.evStr.eq_5 (And.intro @Go.AM.evStr.eq_6 (And.intro @Go.AM.evStr.eq_7 (And.intro @Go.AM.evStr.eq_8 (And.intro @Go.AM.evEqn.eq_1 (And.intro @Go.AM.evEqn.eq_2 (And.intro @Go.AM.evEqn.eq_3 (And.intro @Go.AM.evUn.eq_1 (And.intro @Go.AM.evUn.eq_2 (And.intro @Go.AM.evUn.eq_3 (And.intro @Go.AM.evUn.eq_4 (And.intro @Go.AM.evConv.eq_1 (And.intro @Go.AM.evConv.eq_2 (And.intro @Go.AM.evConv.eq_3 (And.intro @Go.AM.evConv.eq_4 (And.intro @Go.AM.evConvId.eq_1 (And.intro @Go.AM.evConvId.eq_2 (And.intro @Go.AM.evMake.eq_1 (And.intro @Go.AM.evMake.eq_2 (And.intro @Go.AM.evMake.eq_3 (And.intro @Go.AM.makeRow.eq_1 (@Go.AM.makeRow.eq_2)))))))))))))))))))))))) := And.intro @Go.AM.evStr.eq_3 (And.intro @Go.AM.evStr.eq_4 (And.intro @Go.AM.evStr.eq_5 (And.intro @Go.AM.evStr.eq_6 (And.intro @Go.AM.evStr.eq_7 (And.intro @Go.AM.evStr.eq_8 (And.intro @Go.AM.evEqn.eq_1 (And.intro @Go.AM.evEqn.eq_2 (And.intro @Go.AM.evEqn.eq_3 (And.intro @Go.AM.evUn.eq_1 (And.intro @Go.AM.evUn.eq_2 (And.intro @Go.AM.evUn.eq_3 (And.intro @Go.AM.evUn.eq_4 (And.intro @Go.AM.evConv.eq_1 (And.intro @Go.AM.evConv.eq_2 (And.intro @Go.AM.evConv.eq_3 (And.intro @Go.AM.evConv.eq_4 (And.intro @Go.AM.evConvId.eq_1 (And.intro @Go.AM.evConvId.eq_2 (And.intro @Go.AM.evMake.eq_1 (And.intro @Go.AM.evMake.eq_2 (And.intro @Go.AM.evMake.eq_3 (And.intro @Go.AM.makeRow.eq_1 (@Go.AM.makeRow.eq_2)))))))))))))))))))))))
theorem am13 : type_of% (And.intro @Go.AM.isBytes.eq_1 (And.intro @Go.AM.evSl.eq_1 (And.intro @Go.AM.evSl.eq_2 (And.intro @Go.AM.evSl.eq_3 (And.intro @Go.AM.evSl.eq_4 (And.intro @Go.AM.evSl.eq_5 (And.intro @Go.AM.evSl.eq_6 (And.intro @Go.AM.bdV.eq_1 (And.intro @Go.AM.bdV.eq_2 (And.intro @Go.AM.evIdx.eq_1 (And.intro @Go.AM.evLoad.eq_1 (And.intro @Go.AM.evStore.eq_1 (And.intro @Go.AM.evNil.eq_1 (And.intro @Go.AM.evNil.eq_2 (And.intro @Go.AM.evNil.eq_3 (And.intro @Go.AM.evNil.eq_4 (And.intro @Go.AM.evField.eq_1 (And.intro @Go.AM.evOff.eq_1 (And.intro @Go.AM.evOff.eq_2 (And.intro @Go.AM.evOff.eq_3 (And.intro @Go.AM.evOff.eq_4 (And.intro @Go.AM.evExtract.eq_1 (And.intro @Go.AM.evExtract.eq_2 (@Go.AM.evBox.eq_1)))))))))))))))))))))))) := And.intro @Go.AM.isBytes.eq_1 (And.intro @Go.AM.evSl.eq_1 (And.intro @Go.AM.evSl.eq_2 (And.intro @Go.AM.evSl.eq_3 (And.intro @Go.AM.evSl.eq_4 (And.intro @Go.AM.evSl.eq_5 (And.intro @Go.AM.evSl.eq_6 (And.intro @Go.AM.bdV.eq_1 (And.intro @Go.AM.bdV.eq_2 (And.intro @Go.AM.evIdx.eq_1 (And.intro @Go.AM.evLoad.eq_1 (And.intro @Go.AM.evStore.eq_1 (And.intro @Go.AM.evNil.eq_1 (And.intro @Go.AM.evNil.eq_2 (And.intro @Go.AM.evNil.eq_3 (And.intro @Go.AM.evNil.eq_4 (And.intro @Go.AM.evField.eq_1 (And.intro @Go.AM.evOff.eq_1 (And.intro @Go.AM.evOff.eq_2 (And.intro @Go.AM.evOff.eq_3 (And.intro @Go.AM.evOff.eq_4 (And.intro @Go.AM.evExtract.eq_1 (And.intro @Go.AM.evExtract.eq_2 (@Go.AM.evBox.eq_1)))))))))))))))))))))))
theorem am14 : type_of% (And.intro @Go.AM.evAlloc.eq_1 (And.intro @Go.AM.evBuild.eq_1 (And.intro @Go.AM.evBS.eq_1 (And.intro @Go.AM.evApp.eq_1 (And.intro @Go.AM.evAppB.eq_1 (And.intro @Go.AM.baseB.eq_1 (And.intro @Go.AM.baseB.eq_2 (And.intro @Go.AM.baseB.eq_3 (And.intro @Go.AM.srcB.eq_1 (And.intro @Go.AM.srcB.eq_2 (And.intro @Go.AM.effAppB.eq_1 (And.intro @Go.AM.effAppB.eq_2 (And.intro @Go.AM.bsEl.eq_1 (And.intro @Go.AM.bsEl.eq_2 (And.intro @Go.AM.bsEl.eq_3 (And.intro @Go.AM.bsEl.eq_4 (And.intro @Go.AM.bsEl.eq_5 (And.intro @Go.AM.bsP.eq_1 (And.intro @Go.AM.bsP.eq_2 (And.intro @Go.AM.fillP.eq_1 (And.intro @Go.AM.fillP.eq_2 (And.intro @Go.AM.splice.eq_1 (And.intro @Go.AM.cellsP.eq_1 (@Go.AM.cellsP.eq_2)))))))))))))))))))))))) := And.intro @Go.AM.evAlloc.eq_1 (And.intro @Go.AM.evBuild.eq_1 (And.intro @Go.AM.evBS.eq_1 (And.intro @Go.AM.evApp.eq_1 (And.intro @Go.AM.evAppB.eq_1 (And.intro @Go.AM.baseB.eq_1 (And.intro @Go.AM.baseB.eq_2 (And.intro @Go.AM.baseB.eq_3 (And.intro @Go.AM.srcB.eq_1 (And.intro @Go.AM.srcB.eq_2 (And.intro @Go.AM.effAppB.eq_1 (And.intro @Go.AM.effAppB.eq_2 (And.intro @Go.AM.bsEl.eq_1 (And.intro @Go.AM.bsEl.eq_2 (And.intro @Go.AM.bsEl.eq_3 (And.intro @Go.AM.bsEl.eq_4 (And.intro @Go.AM.bsEl.eq_5 (And.intro @Go.AM.bsP.eq_1 (And.intro @Go.AM.bsP.eq_2 (And.intro @Go.AM.fillP.eq_1 (And.intro @Go.AM.fillP.eq_2 (And.intro @Go.AM.splice.eq_1 (And.intro @Go.AM.cellsP.eq_1 (@Go.AM.cellsP.eq_2)))))))))))))))))))))))
theorem am15 : type_of% (And.intro @Go.AM.cellsP.eq_3 (And.intro @Go.AM.cellsP.eq_4 (And.intro @Go.AM.cellsP.eq_5 (And.intro @Go.AM.cellsP.eq_6 (And.intro @Go.AM.cellsP.eq_7 (And.intro @Go.AM.cellsP.eq_8 (And.intro @Go.AM.cellsP.eq_9 (And.intro @Go.AM.cellsP.eq_10 (And.intro @Go.AM.cellsP.eq_11 (And.intro @Go.AM.getC.eq_1 (And.intro @Go.AM.getC.eq_2 (And.intro @Go.AM.getC.eq_3 (And.intro @Go.AM.getC.eq_4 (And.intro @Go.AM.putC.eq_1 (And.intro @Go.AM.putC.eq_2 (And.intro @Go.AM.putC.eq_3 (And.intro @Go.AM.allD.eq_1 (And.intro @Go.AM.allD.eq_2 (And.intro @Go.AM.allD.eq_3 (And.intro @Go.AM.mkAgg.eq_1 (And.intro @Go.AM.aliveP.eq_1 (And.intro @Go.AM.aliveP.eq_2 (And.intro @Go.AM.aliveP.eq_3 (@Go.AM.aliveP.eq_4)))))))))))))))))))))))) := And.intro @Go.AM.cellsP.eq_3 (And.intro @Go.AM.cellsP.eq_4 (And.intro @Go.AM.cellsP.eq_5 (And.intro @Go.AM.cellsP.eq_6 (And.intro @Go.AM.cellsP.eq_7 (And.intro @Go.AM.cellsP.eq_8 (And.intro @Go.AM.cellsP.eq_9 (And.intro @Go.AM.cellsP.eq_10 (And.intro @Go.AM.cellsP.eq_11 (And.intro @Go.AM.getC.eq_1 (And.intro @Go.AM.getC.eq_2 (And.intro @Go.AM.getC.eq_3 (And.intro @Go.AM.getC.eq_4 (And.intro @Go.AM.putC.eq_1 (And.intro @Go.AM.putC.eq_2 (And.intro @Go.AM.putC.eq_3 (And.intro @Go.AM.allD.eq_1 (And.intro @Go.AM.allD.eq_2 (And.intro @Go.AM.allD.eq_3 (And.intro @Go.AM.mkAgg.eq_1 (And.intro @Go.AM.aliveP.eq_1 (And.intro @Go.AM.aliveP.eq_2 (And.intro @Go.AM.aliveP.eq_3 (@Go.AM.aliveP.eq_4)))))))))))))))))))))))
theorem am16 : type_of% (And.intro @Go.AM.alive.eq_1 (And.intro @Go.AM.alive.eq_2 (And.intro @Go.AM.notIface.eq_1 (And.intro @Go.AM.baseEl.eq_1 (And.intro @Go.AM.baseEl.eq_2 (And.intro @Go.AM.baseEl.eq_3 (And.intro @Go.AM.baseEl.eq_4 (And.intro @Go.AM.srcEl.eq_1 (And.intro @Go.AM.srcEl.eq_2 (And.intro @Go.AM.srcEl.eq_3 (And.intro @Go.AM.strOf_encB (And.intro @Go.AM.effNew.eq_1 (And.intro @Go.AM.effSet.eq_1 (And.intro @Go.AM.effApp.eq_1 (And.intro @Go.AM.effApp.eq_2 (And.intro @Go.AM.St.after.eq_1 (And.intro @Go.AM.updRows.eq_1 (And.intro @Go.AM.updRows.eq_2 (And.intro @Go.AM.lrows.eq_1 (And.intro @Go.AM.yieldP.eq_1 (And.intro @Go.AM.oc.eq_1 (And.intro @Go.AM.oc.eq_2 (And.intro @Go.AM.oc.eq_3 (@Go.AM.mkSt.eq_1)))))))))))))))))))))))) := And.intro @Go.AM.alive.eq_1 (And.intro @Go.AM.alive.eq_2 (And.intro @Go.AM.notIface.eq_1 (And.intro @Go.AM.baseEl.eq_1 (And.intro @Go.AM.baseEl.eq_2 (And.intro @Go.AM.baseEl.eq_3 (And.intro @Go.AM.baseEl.eq_4 (And.intro @Go.AM.srcEl.eq_1 (And.intro @Go.AM.srcEl.eq_2 (And.intro @Go.AM.srcEl.eq_3 (And.intro @Go.AM.strOf_encB (And.intro @Go.AM.effNew.eq_1 (And.intro @Go.AM.effSet.eq_1 (And.intro @Go.AM.effApp.eq_1 (And.intro @Go.AM.effApp.eq_2 (And.intro @Go.AM.St.after.eq_1 (And.intro @Go.AM.updRows.eq_1 (And.intro @Go.AM.updRows.eq_2 (And.intro @Go.AM.lrows.eq_1 (And.intro @Go.AM.yieldP.eq_1 (And.intro @Go.AM.oc.eq_1 (And.intro @Go.AM.oc.eq_2 (And.intro @Go.AM.oc.eq_3 (@Go.AM.mkSt.eq_1)))))))))))))))))))))))
theorem am17 : type_of% (And.intro @Go.Value.cells.eq_1 (And.intro @Go.Value.cells.eq_2 (And.intro @List.length_map.{0,0} (And.intro @List.length_append.{0} (And.intro @List.length_nil.{0} (And.intro @List.length_cons.{0} (And.intro @List.getElem?_map.{0,0} (And.intro @List.getElem?_toArray.{0} (And.intro @List.getElem?_cons_zero.{0} (And.intro @List.getElem?_cons_succ.{0} (And.intro @List.getD_cons_zero.{0} (And.intro @List.getD_cons_succ.{0} (And.intro @List.map_cons.{0,0} (And.intro @List.map_nil.{0,0} (And.intro @List.toList_toArray.{0} (And.intro @List.all_cons.{0} (And.intro @List.all_nil.{0} (And.intro @List.flatMap_cons.{0,0} (And.intro @List.flatMap_nil.{0,0} (And.intro @List.reverse_cons.{0} (And.intro @List.reverse_nil.{0} (And.intro @Bool.and_true (And.intro @Bool.true_and (@Bool.and_self)))))))))))))))))))))))) := And.intro @Go.Value.cells.eq_1 (And.intro @Go.Value.cells.eq_2 (And.intro @List.length_map.{0,0} (And.intro @List.length_append.{0} (And.intro @List.length_nil.{0} (And.intro @List.length_cons.{0} (And.intro @List.getElem?_map.{0,0} (And.intro @List.getElem?_toArray.{0} (And.intro @List.getElem?_cons_zero.{0} (And.intro @List.getElem?_cons_succ.{0} (And.intro @List.getD_cons_zero.{0} (And.intro @List.getD_cons_succ.{0} (And.intro @List.map_cons.{0,0} (And.intro @List.map_nil.{0,0} (And.intro @List.toList_toArray.{0} (And.intro @List.all_cons.{0} (And.intro @List.all_nil.{0} (And.intro @List.flatMap_cons.{0,0} (And.intro @List.flatMap_nil.{0,0} (And.intro @List.reverse_cons.{0} (And.intro @List.reverse_nil.{0} (And.intro @Bool.and_true (And.intro @Bool.true_and (@Bool.and_self)))))))))))))))))))))))
theorem am18 : type_of% (And.intro @List.take_succ_cons.{0} (And.intro @List.take_zero.{0} (And.intro @List.drop_succ_cons.{0} (And.intro @List.drop_zero.{0} (And.intro @List.nil_append.{0} (And.intro @List.cons_append.{0} (And.intro @List.append_eq.{0} (And.intro @List.append_nil.{0} (And.intro @Option.map_some.{0,0} (And.intro @Option.map_none.{0,0} (And.intro @Option.some_or.{0} (And.intro @Option.none_or.{0} (And.intro @Option.bind_some.{0,0} (And.intro @Option.getD_some.{0} (And.intro @Option.getD_none.{0} (And.intro @Option.isNone_some.{0} (And.intro @Option.isSome_some.{0} (And.intro @Option.isSome_none.{0} (And.intro @Option.isNone_none.{0} (And.intro @Bool.or_true (And.intro @Bool.or_false (And.intro @Bool.not_true (And.intro @Bool.not_false (@Bool.false_eq_true)))))))))))))))))))))))) := And.intro @List.take_succ_cons.{0} (And.intro @List.take_zero.{0} (And.intro @List.drop_succ_cons.{0} (And.intro @List.drop_zero.{0} (And.intro @List.nil_append.{0} (And.intro @List.cons_append.{0} (And.intro @List.append_eq.{0} (And.intro @List.append_nil.{0} (And.intro @Option.map_some.{0,0} (And.intro @Option.map_none.{0,0} (And.intro @Option.some_or.{0} (And.intro @Option.none_or.{0} (And.intro @Option.bind_some.{0,0} (And.intro @Option.getD_some.{0} (And.intro @Option.getD_none.{0} (And.intro @Option.isNone_some.{0} (And.intro @Option.isSome_some.{0} (And.intro @Option.isSome_none.{0} (And.intro @Option.isNone_none.{0} (And.intro @Bool.or_true (And.intro @Bool.or_false (And.intro @Bool.not_true (And.intro @Bool.not_false (@Bool.false_eq_true)))))))))))))))))))))))
theorem am19 : type_of% (And.intro @Nat.zero_add (And.intro @Nat.add_zero (And.intro @Nat.lt_irrefl (And.intro @true_and (And.intro @and_true (And.intro @if_true.{1} (And.intro @if_false.{1} (And.intro @Nat.succ_ne_self (And.intro @Int.toNat_natCast (And.intro @beq_self_eq_true.{0} (And.intro @decide_true (And.intro @decide_false (And.intro @List.length_set.{0} (And.intro @Nat.zero_lt_succ (And.intro @Nat.not_lt_zero (And.intro @Nat.le_refl (And.intro @and_self (And.intro @List.isEmpty_cons.{0} (And.intro @List.isEmpty_nil.{0} (And.intro @Go.AM.argRegs.eq_1 (And.intro @Go.AM.argRegs.eq_2 (And.intro @Go.AM.aop_range (And.intro @Go.AM.aop_next (@Go.AM.aop_clear)))))))))))))))))))))))) := And.intro @Nat.zero_add (And.intro @Nat.add_zero (And.intro @Nat.lt_irrefl (And.intro @true_and (And.intro @and_true (And.intro @if_true.{1} (And.intro @if_false.{1} (And.intro @Nat.succ_ne_self (And.intro @Int.toNat_natCast (And.intro @beq_self_eq_true.{0} (And.intro @decide_true (And.intro @decide_false (And.intro @List.length_set.{0} (And.intro @Nat.zero_lt_succ (And.intro @Nat.not_lt_zero (And.intro @Nat.le_refl (And.intro @and_self (And.intro @List.isEmpty_cons.{0} (And.intro @List.isEmpty_nil.{0} (And.intro @Go.AM.argRegs.eq_1 (And.intro @Go.AM.argRegs.eq_2 (And.intro @Go.AM.aop_range (And.intro @Go.AM.aop_next (@Go.AM.aop_clear)))))))))))))))))))))))
theorem am20 : type_of% (And.intro @Go.AM.evRange.eq_1 (And.intro @Go.AM.evRange.eq_2 (And.intro @Go.AM.evRange.eq_3 (And.intro @Go.AM.evNext.eq_1 (And.intro @Go.AM.evNext.eq_2 (And.intro @Go.AM.evClear.eq_1 (And.intro @Go.AM.evClear.eq_2 (And.intro @Go.AM.zeroEl.eq_1 (And.intro @Go.AM.eqLits.eq_1 (And.intro @Go.AM.eqLits.eq_2 (And.intro @Go.AM.eqLits.eq_3 (And.intro @Go.AM.eqK.eq_1 (And.intro @Go.AM.eqK.eq_2 (And.intro @Go.AM.eqK.eq_3 (And.intro @Go.AM.eqK.eq_4 (And.intro @Go.AM.TK.isSl0.eq_1 (And.intro @Go.AM.TK.isSl0.eq_2 (And.intro @Go.AM.frzRows_app (And.intro @Go.AM.frzRow.eq_1 (And.intro @Go.AM.frzRow.eq_2 (And.intro @Go.AM.frzRow.eq_3 (And.intro @Go.AM.frz.eq_1 (And.intro @Go.AM.frz.eq_2 (@Go.AM.frz.eq_3)))))))))))))))))))))))) := And.intro @Go.AM.evRange.eq_1 (And.intro @Go.AM.evRange.eq_2 (And.intro @Go.AM.evRange.eq_3 (And.intro @Go.AM.evNext.eq_1 (And.intro @Go.AM.evNext.eq_2 (And.intro @Go.AM.evClear.eq_1 (And.intro @Go.AM.evClear.eq_2 (And.intro @Go.AM.zeroEl.eq_1 (And.intro @Go.AM.eqLits.eq_1 (And.intro @Go.AM.eqLits.eq_2 (And.intro @Go.AM.eqLits.eq_3 (And.intro @Go.AM.eqK.eq_1 (And.intro @Go.AM.eqK.eq_2 (And.intro @Go.AM.eqK.eq_3 (And.intro @Go.AM.eqK.eq_4 (And.intro @Go.AM.TK.isSl0.eq_1 (And.intro @Go.AM.TK.isSl0.eq_2 (And.intro @Go.AM.frzRows_app (And.intro @Go.AM.frzRow.eq_1 (And.intro @Go.AM.frzRow.eq_2 (And.intro @Go.AM.frzRow.eq_3 (And.intro @Go.AM.frz.eq_1 (And.intro @Go.AM.frz.eq_2 (@Go.AM.frz.eq_3)))))))))))))))))))))))
theorem am21 : type_of% (And.intro @Go.AM.frz.eq_4 (And.intro @Go.AM.frz.eq_5 (And.intro @Go.AM.frz.eq_6 (And.intro @Go.AM.frz.eq_7 (And.intro @Go.AM.frz.eq_8 (And.intro @Go.AM.frz.eq_9 (And.intro @Go.AM.frz.eq_10 (And.intro @Go.AM.frz.eq_11 (And.intro @Go.AM.frz.eq_12 (And.intro @Go.AM.frzs.eq_1 (And.intro @Go.AM.frzs.eq_2 (And.intro @List.mem_cons.{0} (And.intro @List.not_mem_nil.{0} (And.intro @or_false (And.intro @false_or (And.intro @or_true (And.intro @true_or (And.intro @ne_eq.{1} (@not_false_eq_true))))))))))))))))))) := And.intro @Go.AM.frz.eq_4 (And.intro @Go.AM.frz.eq_5 (And.intro @Go.AM.frz.eq_6 (And.intro @Go.AM.frz.eq_7 (And.intro @Go.AM.frz.eq_8 (And.intro @Go.AM.frz.eq_9 (And.intro @Go.AM.frz.eq_10 (And.intro @Go.AM.frz.eq_11 (And.intro @Go.AM.frz.eq_12 (And.intro @Go.AM.frzs.eq_1 (And.intro @Go.AM.frzs.eq_2 (And.intro @List.mem_cons.{0} (And.intro @List.not_mem_nil.{0} (And.intro @or_false (And.intro @false_or (And.intro @or_true (And.intro @true_or (And.intro @ne_eq.{1} (@not_false_eq_true))))))))))))))))))
theorem am : type_of% (And.intro am1 (And.intro am2 (And.intro am3 (And.intro am4 (And.intro am5 (And.intro am6 (And.intro am7 (And.intro am8 (And.intro am9 (And.intro am10 (And.intro am11 (And.intro am12 (And.intro am13 (And.intro am14 (And.intro am15 (And.intro am16 (And.intro am17 (And.intro am18 (And.intro am19 (And.intro am20 (am21))))))))))))))))))))) := And.intro am1 (And.intro am2 (And.intro am3 (And.intro am4 (And.intro am5 (And.intro am6 (And.intro am7 (And.intro am8 (And.intro am9 (And.intro am10 (And.intro am11 (And.intro am12 (And.intro am13 (And.intro am14 (And.intro am15 (And.intro am16 (And.intro am17 (And.intro am18 (And.intro am19 (And.intro am20 (am21))))))))))))))))))))
end Go.AM

namespace Go.AM
open Go

/-! ## numbers as bits -/
def w8 (x : BitVec 8) : PV := .d (.lit (.int .u8 x.toNat))
def w32 (x : BitVec 32) : PV := .d (.lit (.int .u32 x.toNat))
def w64 (x : BitVec 64) : PV := .d (.lit (.int .u64 x.toNat))

theorem toNat_u8 (b : UInt8) : ((b.toNat : Nat) : Int) = ((b.toBitVec.toNat : Nat) : Int) := rfl

theorem ofInt_bv {n : Nat} (x : BitVec n) : BitVec.ofInt n (x.toNat : Int) = x := by simp

section
variable (a b : BitVec 32) (c d : BitVec 64) (e f : BitVec 8)
theorem x32 : evBits .xor .u32 a.toNat b.toNat = (a ^^^ b).toNat := by
  have h := (a ^^^ b).isLt
  show IntKind.u32.wrap ((BitVec.ofInt 32 (a.toNat : Int) ^^^ BitVec.ofInt 32 (b.toNat : Int)).toNat : Int) = _
  rw [ofInt_bv, ofInt_bv, IntKind.wrap_u32]; omega
theorem x64 : evBits .xor .u64 c.toNat d.toNat = (c ^^^ d).toNat := by
  have h := (c ^^^ d).isLt
  show IntKind.u64.wrap ((BitVec.ofInt 64 (c.toNat : Int) ^^^ BitVec.ofInt 64 (d.toNat : Int)).toNat : Int) = _
  rw [ofInt_bv, ofInt_bv, IntKind.wrap_u64]; omega
theorem x8 : evBits .xor .u8 e.toNat f.toNat = (e ^^^ f).toNat := by
  have h := (e ^^^ f).isLt
  show IntKind.u8.wrap ((BitVec.ofInt 8 (e.toNat : Int) ^^^ BitVec.ofInt 8 (f.toNat : Int)).toNat : Int) = _
  rw [ofInt_bv, ofInt_bv, IntKind.wrap_u8]; omega
theorem o32 : evBits .or .u32 a.toNat b.toNat = (a ||| b).toNat := by
  have h := (a ||| b).isLt
  show IntKind.u32.wrap ((BitVec.ofInt 32 (a.toNat : Int) ||| BitVec.ofInt 32 (b.toNat : Int)).toNat : Int) = _
  rw [ofInt_bv, ofInt_bv, IntKind.wrap_u32]; omega
theorem o64 : evBits .or .u64 c.toNat d.toNat = (c ||| d).toNat := by
  have h := (c ||| d).isLt
  show IntKind.u64.wrap ((BitVec.ofInt 64 (c.toNat : Int) ||| BitVec.ofInt 64 (d.toNat : Int)).toNat : Int) = _
  rw [ofInt_bv, ofInt_bv, IntKind.wrap_u64]; omega
theorem o8 : evBits .or .u8 e.toNat f.toNat = (e ||| f).toNat := by
  have h := (e ||| f).isLt
  show IntKind.u8.wrap ((BitVec.ofInt 8 (e.toNat : Int) ||| BitVec.ofInt 8 (f.toNat : Int)).toNat : Int) = _
  rw [ofInt_bv, ofInt_bv, IntKind.wrap_u8]; omega
theorem n32 : evBits .and .u32 a.toNat b.toNat = (a &&& b).toNat := by
  have h := (a &&& b).isLt
  show IntKind.u32.wrap ((BitVec.ofInt 32 (a.toNat : Int) &&& BitVec.ofInt 32 (b.toNat : Int)).toNat : Int) = _
  rw [ofInt_bv, ofInt_bv, IntKind.wrap_u32]; omega
theorem n64 : evBits .and .u64 c.toNat d.toNat = (c &&& d).toNat := by
  have h := (c &&& d).isLt
  show IntKind.u64.wrap ((BitVec.ofInt 64 (c.toNat : Int) &&& BitVec.ofInt 64 (d.toNat : Int)).toNat : Int) = _
  rw [ofInt_bv, ofInt_bv, IntKind.wrap_u64]; omega
theorem n8 : evBits .and .u8 e.toNat f.toNat = (e &&& f).toNat := by
  have h := (e &&& f).isLt
  show IntKind.u8.wrap ((BitVec.ofInt 8 (e.toNat : Int) &&& BitVec.ofInt 8 (f.toNat : Int)).toNat : Int) = _
  rw [ofInt_bv, ofInt_bv, IntKind.wrap_u8]; omega
theorem sl32 (n : Nat) : IntKind.u32.wrap ((a.toNat : Int) * 2 ^ min n IntKind.u32.bits) = (a <<< n).toNat := by
  show IntKind.u32.wrap ((a.toNat : Int) * 2 ^ min n 32) = _
  rw [IntKind.wrap_u32]
  by_cases h : n ≤ 32
  · rw [Nat.min_eq_left h]
    simp only [BitVec.toNat_shiftLeft, Nat.shiftLeft_eq]
    have : ((a.toNat : Int) * 2 ^ n) = ((a.toNat * 2 ^ n : Nat) : Int) := by simp
    rw [this]; omega
  · rw [Nat.min_eq_right (by omega), BitVec.shiftLeft_eq_zero (by omega)]
    have : (2 : Int) ^ 32 = 4294967296 := by decide
    rw [this]; simp
theorem sl64 (n : Nat) : IntKind.u64.wrap ((c.toNat : Int) * 2 ^ min n IntKind.u64.bits) = (c <<< n).toNat := by
  show IntKind.u64.wrap ((c.toNat : Int) * 2 ^ min n 64) = _
  rw [IntKind.wrap_u64]
  by_cases h : n ≤ 64
  · rw [Nat.min_eq_left h]
    simp only [BitVec.toNat_shiftLeft, Nat.shiftLeft_eq]
    have : ((c.toNat : Int) * 2 ^ n) = ((c.toNat * 2 ^ n : Nat) : Int) := by simp
    rw [this]; omega
  · rw [Nat.min_eq_right (by omega), BitVec.shiftLeft_eq_zero (by omega)]
    have : (2 : Int) ^ 64 = 18446744073709551616 := by decide
    rw [this]; simp
theorem sl8 (n : Nat) : IntKind.u8.wrap ((e.toNat : Int) * 2 ^ min n IntKind.u8.bits) = (e <<< n).toNat := by
  show IntKind.u8.wrap ((e.toNat : Int) * 2 ^ min n 8) = _
  rw [IntKind.wrap_u8]
  by_cases h : n ≤ 8
  · rw [Nat.min_eq_left h]
    simp only [BitVec.toNat_shiftLeft, Nat.shiftLeft_eq]
    have : ((e.toNat : Int) * 2 ^ n) = ((e.toNat * 2 ^ n : Nat) : Int) := by simp
    rw [this]; omega
  · rw [Nat.min_eq_right (by omega), BitVec.shiftLeft_eq_zero (by omega)]
    have : (2 : Int) ^ 8 = 256 := by decide
    rw [this]; simp
theorem fdiv_nat (x n : Nat) : ((x : Int).fdiv (2 ^ n)) = ((x >>> n : Nat) : Int) := by
  rw [Nat.shiftRight_eq_div_pow, Int.fdiv_eq_ediv_of_nonneg _ (by exact_mod_cast Nat.zero_le _)]
  simp
theorem sr32 (n : Nat) : ((a.toNat : Int).fdiv (2 ^ min n IntKind.u32.bits)) = (a >>> n).toNat := by
  show ((a.toNat : Int).fdiv (2 ^ min n 32)) = _
  rw [fdiv_nat]
  by_cases h : n ≤ 32
  · rw [Nat.min_eq_left h]; simp
  · rw [Nat.min_eq_right (by omega), BitVec.ushiftRight_eq_zero (by omega), Nat.shiftRight_eq_div_pow, Nat.div_eq_of_lt a.isLt]; simp
theorem sr64 (n : Nat) : ((c.toNat : Int).fdiv (2 ^ min n IntKind.u64.bits)) = (c >>> n).toNat := by
  show ((c.toNat : Int).fdiv (2 ^ min n 64)) = _
  rw [fdiv_nat]
  by_cases h : n ≤ 64
  · rw [Nat.min_eq_left h]; simp
  · rw [Nat.min_eq_right (by omega), BitVec.ushiftRight_eq_zero (by omega), Nat.shiftRight_eq_div_pow, Nat.div_eq_of_lt c.isLt]; simp
theorem sr8 (n : Nat) : ((e.toNat : Int).fdiv (2 ^ min n IntKind.u8.bits)) = (e >>> n).toNat := by
  show ((e.toNat : Int).fdiv (2 ^ min n 8)) = _
  rw [fdiv_nat]
  by_cases h : n ≤ 8
  · rw [Nat.min_eq_left h]; simp
  · rw [Nat.min_eq_right (by omega), BitVec.ushiftRight_eq_zero (by omega), Nat.shiftRight_eq_div_pow, Nat.div_eq_of_lt e.isLt]; simp
theorem m32 : IntKind.u32.wrap ((a.toNat : Int) * b.toNat) = (a * b).toNat := by
  rw [IntKind.wrap_u32, BitVec.toNat_mul, ← Int.natCast_mul]; omega
theorem m64 : IntKind.u64.wrap ((c.toNat : Int) * d.toNat) = (c * d).toNat := by
  rw [IntKind.wrap_u64, BitVec.toNat_mul, ← Int.natCast_mul]; omega
theorem a32 : IntKind.u32.wrap ((a.toNat : Int) + b.toNat) = (a + b).toNat := by
  rw [IntKind.wrap_u32, BitVec.toNat_add]; omega
theorem a64 : IntKind.u64.wrap ((c.toNat : Int) + d.toNat) = (c + d).toNat := by
  rw [IntKind.wrap_u64, BitVec.toNat_add]; omega
theorem c8_32 : IntKind.u32.wrap (e.toNat : Int) = (e.setWidth 32).toNat := by
  rw [IntKind.wrap_u32, BitVec.toNat_setWidth]; omega
theorem c8_64 : IntKind.u64.wrap (e.toNat : Int) = (e.setWidth 64).toNat := by
  rw [IntKind.wrap_u64, BitVec.toNat_setWidth]; omega
theorem c64_8 : IntKind.u8.wrap (c.toNat : Int) = (c.setWidth 8).toNat := by
  rw [IntKind.wrap_u8, BitVec.toNat_setWidth]; omega
theorem c32_8 : IntKind.u8.wrap (a.toNat : Int) = (a.setWidth 8).toNat := by
  rw [IntKind.wrap_u8, BitVec.toNat_setWidth]; omega
theorem c64_32 : IntKind.u32.wrap (c.toNat : Int) = (c.setWidth 32).toNat := by
  rw [IntKind.wrap_u32, BitVec.toNat_setWidth]; omega
theorem c32_64 : IntKind.u64.wrap (a.toNat : Int) = (a.setWidth 64).toNat := by
  rw [IntKind.wrap_u64, BitVec.toNat_setWidth]; omega
theorem not32 : evBits .xor .u32 (if IntKind.u32.signed then -1 else IntKind.u32.max) a.toNat = (~~~ a).toNat := by
  have e1 : (if IntKind.u32.signed then (-1 : Int) else IntKind.u32.max) = ((BitVec.allOnes 32).toNat : Nat) := by decide
  rw [e1, x32, BitVec.allOnes_xor]
theorem not64 : evBits .xor .u64 (if IntKind.u64.signed then -1 else IntKind.u64.max) c.toNat = (~~~ c).toNat := by
  have e1 : (if IntKind.u64.signed then (-1 : Int) else IntKind.u64.max) = ((BitVec.allOnes 64).toNat : Nat) := by decide
  rw [e1, x64, BitVec.allOnes_xor]
theorem cb_32 (x : UInt8) : IntKind.u32.wrap (x.toNat : Int) = (x.toBitVec.setWidth 32).toNat := c8_32 _
theorem cb_64 (x : UInt8) : IntKind.u64.wrap (x.toNat : Int) = (x.toBitVec.setWidth 64).toNat := c8_64 _
end

/-! ## texts as lists -/
theorem bl_toList (l : List UInt8) : (⟨⟨l⟩⟩ : ByteArray).toList = l := by
  rw [ByteArray.toList_eq]
theorem bl_size (l : List UInt8) : (⟨⟨l⟩⟩ : ByteArray).size = l.length := rfl
theorem bl_app (l m : List UInt8) : (⟨⟨l⟩⟩ : ByteArray) ++ ⟨⟨m⟩⟩ = ⟨⟨l ++ m⟩⟩ := by
  apply ByteArray.ext; simp
theorem bl_extract (l : List UInt8) (i j : Nat) : (⟨⟨l⟩⟩ : ByteArray).extract i j = ⟨⟨(l.take j).drop i⟩⟩ := by
  apply ByteArray.ext; simp [List.drop_take]
end Go.AM

namespace Go.AM
open Go Go.ChangeShapes Go.WideShapes Go.Deep

/-! ## arguments that come in, as Lean's own data -/
inductive DTy where
  | bool | u8 | int (k : IntKind) | str | sl (e : DTy) | un | pr (a b : DTy) | arr (n : Nat) (e : DTy)

def DTy.El : DTy → Type
  | .bool => Bool
  | .u8 => UInt8
  | .int _ => Int
  | .str => List UInt8
  | .sl e => List e.El
  | .un => Unit
  | .pr a b => a.El × b.El
  | .arr _ e => List e.El

/-- how many cells -/
def DTy.size : DTy → Nat
  | .un => 0
  | .pr a b => a.size + b.size
  | .arr n e => n * e.size
  | _ => 1

def DTy.enc : (D : DTy) → D.El → List DV
  | .bool, b => [.lit (.bool b)]
  | .u8, b => [.lit (.int .u8 (UInt8.toNat b))]
  | .int k, n => [.lit (.int k n)]
  | .str, s => [.lit (.string ⟨⟨s⟩⟩)]
  | .sl e, l => [.sl e.size (l.map e.enc)]
  | .un, _ => []
  | .pr a b, x => a.enc x.1 ++ b.enc x.2
  | .arr _ e, l => (l.map e.enc).flatten

def DTy.ok : (D : DTy) → D.El → Prop
  | .bool, _ => True
  | .u8, _ => True
  | .int k, n => (Lit.int k n).wf = true
  | .str, s => List.length s ≤ 9223372036854775807
  | .sl e, l => @List.length e.El l ≤ 9223372036854775807 ∧ ∀ x : e.El, @Membership.mem e.El (List e.El) _ l x → e.ok x
  | .un, _ => True
  | .pr a b, x => a.ok x.1 ∧ b.ok x.2
  | .arr n e, l => @List.length e.El l = n ∧ ∀ x : e.El, @Membership.mem e.El (List e.El) _ l x → e.ok x

mutual
/-- the type t is so made -/
def TyD (P : Program) : DTy → TypeId → Prop
  | .bool, t => P.underlying t = some .bool ∧ P.cellsOf t = 1
  | .u8, t => P.underlying t = some (.int .u8) ∧ P.cellsOf t = 1
  | .int k, t => P.underlying t = some (.int k) ∧ P.cellsOf t = 1
  | .str, t => P.underlying t = some .string ∧ P.cellsOf t = 1
  | .sl e, t => ∃ et, P.underlying t = some (.slice et) ∧ P.cellsOf t = 1 ∧ TyD P e et
  | .un, t => ∃ fs, P.underlying t = some (.struct fs) ∧ P.cellsOf t = 0 ∧ fs.toList = []
  | .pr a b, t => ∃ fs, P.underlying t = some (.struct fs) ∧ P.cellsOf t = a.size + b.size ∧ FldD P (.pr a b) 0 fs.toList
  | .arr n e, t => ∃ et, P.underlying t = some (.array n et) ∧ P.cellsOf t = n * e.size ∧ TyD P e et
def FldD (P : Program) : DTy → Nat → List Field → Prop
  | .un, _, fs => fs = []
  | .pr a b, off, fs => ∃ f fs', fs = f :: fs' ∧ f.offset = off ∧ TyD P a f.type ∧ FldD P b (off + a.size) fs'
  | _, _, _ => False
end

theorem TyD.size {P : Program} : ∀ {D : DTy} {t : TypeId}, TyD P D t → P.cellsOf t = D.size
  | .bool, _, h => by unfold TyD at h; exact h.2
  | .u8, _, h => by unfold TyD at h; exact h.2
  | .int _, _, h => by unfold TyD at h; exact h.2
  | .str, _, h => by unfold TyD at h; exact h.2
  | .sl _, _, h => by unfold TyD at h; obtain ⟨_, _, h, _⟩ := h; exact h
  | .un, _, h => by unfold TyD at h; obtain ⟨_, _, h, _⟩ := h; exact h
  | .pr _ _, _, h => by unfold TyD at h; obtain ⟨_, _, h, _⟩ := h; exact h
  | .arr _ _, _, h => by unfold TyD at h; obtain ⟨_, _, h, _⟩ := h; exact h

def X0 : Nat → Prop := fun _ => False

theorem reps_append' {w : World} {X : Nat → Prop} : ∀ {xs ys : List DV} {us vs : List Value}, reps w X xs us → reps w X ys vs → reps w X (xs ++ ys) (us ++ vs)
  | [], ys, us, vs, h, k => by unfold reps at h; subst h; exact k
  | c :: cs, ys, us, vs, h, k => by
    unfold reps at h
    obtain ⟨u, us', rfl, h2, h3, h4⟩ := h
    simp only [List.cons_append]
    unfold reps
    exact ⟨u, us' ++ vs, rfl, h2, h3, reps_append' h4 k⟩

section
variable {H : Type} {enc : TypeId × Value → H} {P : Program} {w : World} {base : Nat} {spare : Nat → Bool} {held : Bool}

theorem reps_one {d : DV} {v : Value} (ho : oc v = true) (h : rep w X0 d v) : reps w X0 [d] [v] := by
  unfold reps; exact ⟨v, [], rfl, ho, h, by simp [reps]⟩

theorem repss_of {sz : Nat} {C : Nat → List Value} {D : Nat → List DV} : ∀ (l : List Nat), (∀ i ∈ l, (C i).length = sz ∧ reps w X0 (D i) (C i)) → repss w X0 sz (l.map D) (l.flatMap C)
  | [], _ => by simp [repss]
  | i :: l, h => by
    simp only [List.map_cons, List.flatMap_cons]
    unfold repss
    exact ⟨C i, _, rfl, (h i (by simp)).1, (h i (by simp)).2, repss_of l fun j hj => h j (by simp [hj])⟩

theorem flatMap_get {sz : Nat} {C : Nat → List Value} : ∀ (n k : Nat), (∀ i, (C i).length = sz) → ∀ j u, ((List.range' k n).flatMap C)[j]? = some u → j < n * sz ∧ (C (k + j / sz))[j % sz]? = some u
  | 0, k, _, j, u, h => by simp at h
  | n + 1, k, hC, j, u, h => by
    simp only [List.range'_succ, List.flatMap_cons] at h
    rw [List.getElem?_append] at h
    split at h
    · rename_i hj
      rw [hC k] at hj
      refine ⟨by rw [Nat.add_mul]; omega, ?_⟩
      rw [Nat.div_eq_of_lt hj, Nat.mod_eq_of_lt hj]; exact h
    · rename_i hj
      rw [hC k] at hj h
      obtain ⟨h1, h2⟩ := flatMap_get n (k + 1) hC (j - sz) u h
      have hsz : 0 < sz := by
        rcases Nat.eq_zero_or_pos sz with h0 | h0
        · subst h0; omega
        · exact h0
      refine ⟨by rw [Nat.add_mul]; omega, ?_⟩
      have e1 : j / sz = (j - sz) / sz + 1 := by rw [← Nat.add_div_right _ hsz]; congr 1; omega
      have e2 : j % sz = (j - sz) % sz := by rw [← Nat.add_mod_right (j - sz) sz]; congr 1; omega
      rw [e1, e2, show k + ((j - sz) / sz + 1) = k + 1 + (j - sz) / sz from by omega]
      exact h2

mutual
theorem open_data : ∀ (D : DTy) {t : TypeId} {fuel : Nat} {cs : List Value} {x : DataW H × List MemPlace}, TyD P D t → DataW.trod enc P w base spare held fuel t cs = some x → ∃ a : D.El, reps w X0 (D.enc a) cs ∧ D.ok a
  | .bool, t, fuel, cs, x, ht, h => by
    unfold TyD at ht
    obtain ⟨b, rfl, _⟩ := DataW.trod_bool ht.1 h
    exact ⟨b, reps_one rfl (by simp [rep]), trivial⟩
  | .u8, t, fuel, cs, x, ht, h => by
    unfold TyD at ht
    obtain ⟨n, rfl, _, hw⟩ := DataW.trod_int ht.1 h
    have hn : 0 ≤ n ∧ n ≤ 255 := by
      have := (Lit.wf_int_iff .u8 n).1 hw
      simpa [IntKind.min, IntKind.max, IntKind.signed, IntKind.bits] using this
    refine ⟨UInt8.ofNat n.toNat, reps_one rfl ?_, trivial⟩
    have e : (UInt8.ofNat n.toNat).toNat = n.toNat := by simp; omega
    simp only [rep]
    show Value.int .u8 n = .int .u8 ((UInt8.ofNat n.toNat).toNat : Int)
    rw [e]; congr 1; omega
  | .int k, t, fuel, cs, x, ht, h => by
    unfold TyD at ht
    obtain ⟨n, rfl, _, hw⟩ := DataW.trod_int ht.1 h
    exact ⟨n, reps_one rfl (by simp [rep]), hw⟩
  | .str, t, fuel, cs, x, ht, h => by
    unfold TyD at ht
    obtain ⟨s, rfl, _, hs⟩ := DataW.trod_string ht.1 h
    exact ⟨s.data.toList, reps_one rfl (by simp [rep]), by show s.data.toList.length ≤ _; unfold maxLen at hs; rw [Array.length_toList]; exact hs⟩
  | .sl e, t, fuel, cs, x, ht, h => by
    unfold TyD at ht
    obtain ⟨et, h1, _, h2⟩ := ht
    rcases open_slice h1 h with ⟨rfl, _⟩ | ⟨a, len, cap, m, n, Dd, Pl, rfl, _, hl, hm, hmm, _, hx⟩
    · refine ⟨[], reps_one rfl ?_, ⟨Nat.zero_le _, fun x hx => by cases hx⟩⟩
      simp only [rep]
      exact ⟨none, 0, [], rfl, Nat.le_refl _, Nat.zero_le _, by simp [repss], fun h => absurd rfl h⟩
    · have hlm : len ≤ m := by rw [hmm]; split <;> omega
      have hex : ∀ i, i < len → ∃ q : List Value × e.El, (w.cells? base (a.add (i * P.cellsOf et)) (P.cellsOf et) = some q.1) ∧ reps w X0 (e.enc q.2) q.1 ∧ e.ok q.2 := fun i hi => by
        obtain ⟨cs', c1, c2⟩ := hx i (by omega)
        obtain ⟨y, y1, y2⟩ := open_data e h2 c2
        exact ⟨(cs', y), c1, y1, y2⟩
      have hsz := h2.size
      cases len with
      | zero =>
        refine ⟨[], reps_one rfl ?_, ⟨Nat.zero_le _, fun x hx => by cases hx⟩⟩
        simp only [rep]
        exact ⟨some a, cap, [], rfl, Nat.zero_le _, hm, by simp [repss], fun h => absurd rfl h⟩
      | succ len0 =>
        obtain ⟨q0, _⟩ := hex 0 (by omega)
        haveI : Inhabited (List Value × e.El) := ⟨q0⟩
        obtain ⟨q, hq⟩ := choose_lt hex
        have hC : ∀ i, i < len0 + 1 → (q i).1.length = e.size := fun i hi => by
          rw [(World.cells?_some (hq i hi).1).2.1, hsz]
        refine ⟨(List.range (len0 + 1)).map fun i => (q i).2, reps_one rfl ?_, ⟨?_, fun x hx => ?_⟩⟩
        · simp only [rep]
          refine ⟨some a, cap, (List.range (len0 + 1)).flatMap fun i => (q i).1, ?_, by simpa using hl, hm, ?_, fun hne => ?_⟩
          · simp
          · have := repss_of (w := w) (sz := e.size) (C := fun i => (q i).1) (D := fun i => e.enc (q i).2) (List.range (len0 + 1)) fun i hi => ⟨hC i (List.mem_range.1 hi), (hq i (List.mem_range.1 hi)).2.1⟩
            simpa [List.map_map, Function.comp_def] using this
          · -- its place
            have hget : ∀ j u, ((List.range (len0 + 1)).flatMap fun i => (q i).1)[j]? = some u → w.cell? (a.add j) = some u := fun j u hu => by
              let C' : Nat → List Value := fun i => if i < len0 + 1 then (q i).1 else List.replicate e.size undef
              have hC' : ∀ i, (C' i).length = e.size := fun i => by
                simp only [C']; split
                · rename_i hi; exact hC i hi
                · simp
              have heq : ((List.range (len0 + 1)).flatMap fun i => (q i).1) = (List.range' 0 (len0 + 1)).flatMap C' := by
                rw [← List.range_eq_range', List.flatMap_def, List.flatMap_def]
                congr 1
                exact List.map_congr_left fun i hi => by simp only [C']; rw [if_pos (List.mem_range.1 hi)]
              rw [heq] at hu
              obtain ⟨g1, g2⟩ := flatMap_get (len0 + 1) 0 hC' j u hu
              rw [Nat.zero_add] at g2
              have hsp : 0 < e.size := by
                rcases Nat.eq_zero_or_pos e.size with h0 | h0
                · rw [h0] at g1; omega
                · exact h0
              have hdiv : j / e.size < len0 + 1 := (Nat.div_lt_iff_lt_mul hsp).2 g1
              simp only [C'] at g2
              rw [if_pos hdiv] at g2
              have hcc := (World.cells?_some (hq (j / e.size) hdiv).1).2.2 (j % e.size) (by rw [hsz]; exact Nat.mod_lt _ hsp)
              rw [add_add, g2, hsz] at hcc
              rw [show j / e.size * e.size + j % e.size = j from by rw [Nat.mul_comm]; exact Nat.div_add_mod j e.size] at hcc
              exact hcc
            have hc0 : ∃ u, ((List.range (len0 + 1)).flatMap fun i => (q i).1)[0]? = some u := by
              cases hh : ((List.range (len0 + 1)).flatMap fun i => (q i).1) with
              | nil => exact absurd hh hne
              | cons u us => exact ⟨u, rfl⟩
            obtain ⟨u, hu⟩ := hc0
            have hcell := hget 0 u hu
            obtain ⟨b, off, spot⟩ := a
            have hspot : spot = none := by simpa [Addr.add] using World.cell?_spot hcell
            subst hspot
            refine ⟨b, off, rfl, fun h => h, fun j u' hu' => ?_⟩
            have := hget j u' hu'
            rwa [Addr.add_lit] at this
        · show ((List.range (len0 + 1)).map fun i => (q i).2).length ≤ _
          simp [maxLen] at hm ⊢; omega
        · obtain ⟨i, hi, rfl⟩ := List.mem_map.1 hx
          exact (hq i (List.mem_range.1 hi)).2.2
  | .un, t, fuel, cs, x, ht, h => by
    unfold TyD at ht
    obtain ⟨fs, h1, h2, h3⟩ := ht
    obtain ⟨xs, n, _, _, hcs, _⟩ := DataW.trod_struct h1 h
    have : cs = [] := List.eq_nil_of_length_eq_zero (by rw [hcs, h2])
    subst this
    exact ⟨(), by simp [DTy.enc, reps], trivial⟩
  | .pr a b, t, fuel, cs, x, ht, h => by
    unfold TyD at ht
    obtain ⟨fs, h1, h2, h3⟩ := ht
    obtain ⟨xs, n, _, _, hcs, hxl, hxs⟩ := DataW.trod_struct h1 h
    have := open_fields (.pr a b) (off := 0) (fs := fs.toList) (n := n) (cs := cs) (x := xs) h3 (fun i f hf => by
      have hf' : fs[i]? = some f := by simpa using hf
      have hlt : i < xs.length := by rw [hxl]; exact (Array.getElem?_eq_some_iff.1 hf').1
      exact ⟨xs[i], by rw [hxs i f hf', List.getElem?_eq_getElem hlt]⟩) (by rw [hcs, h2]; simp [DTy.size])
    simpa using this
  | .arr k e, t, fuel, cs, x, ht, h => by
    unfold TyD at ht
    obtain ⟨et, h1, h2, h3⟩ := ht
    obtain ⟨xs, n, _, _, hcs, hxl, hxs⟩ := DataW.trod_array h1 h
    have hsz := h3.size
    have hex : ∀ i, i < k → ∃ y : e.El, reps w X0 (e.enc y) ((cs.drop (i * e.size)).take e.size) ∧ e.ok y := fun i hi => by
      have := hxs i hi
      rw [List.getElem?_eq_getElem (by omega)] at this
      obtain ⟨y, y1, y2⟩ := open_data e h3 this
      rw [hsz] at y1
      exact ⟨y, y1, y2⟩
    have aux : ∀ (j : Nat) (cs : List Value), cs.length = j * e.size → (∀ i, i < j → ∃ y : e.El, reps w X0 (e.enc y) ((cs.drop (i * e.size)).take e.size) ∧ e.ok y) →
        ∃ l : List e.El, l.length = j ∧ reps w X0 ((l.map e.enc).flatten) cs ∧ ∀ x ∈ l, e.ok x := by
      intro j
      induction j with
      | zero => intro cs hc _; exact ⟨[], rfl, by simp [reps]; exact List.eq_nil_of_length_eq_zero (by simpa using hc), by simp⟩
      | succ j ih =>
        intro cs hc he
        obtain ⟨y, y1, y2⟩ := he 0 (by omega)
        simp only [Nat.zero_mul, List.drop_zero] at y1
        obtain ⟨l, l1, l2, l3⟩ := ih (cs.drop e.size) (by rw [List.length_drop, hc, Nat.add_mul]; omega) (fun i hi => by
          obtain ⟨z, z1, z2⟩ := he (i + 1) (by omega)
          refine ⟨z, ?_, z2⟩
          rw [List.drop_drop, Nat.add_comm, ← Nat.succ_mul]; exact z1)
        refine ⟨y :: l, by simp [l1], ?_, fun x hx => by
          rcases List.mem_cons.1 hx with rfl | hx
          · exact y2
          · exact l3 x hx⟩
        simp only [List.map_cons, List.flatten_cons]
        have := reps_append' y1 l2
        rwa [List.take_append_drop] at this
    obtain ⟨l, l1, l2, l3⟩ := aux k cs (by rw [hcs, h2]) hex
    exact ⟨l, l2, l1, l3⟩
theorem open_fields : ∀ (D : DTy) {off : Nat} {fs : List Field} {n : Nat} {cs : List Value} {x : List (DataW H × List MemPlace)}, FldD P D off fs →
    (∀ (i : Nat) (f : Field), fs[i]? = some f → ∃ y, DataW.trod enc P w base spare held n f.type ((cs.drop f.offset).take (P.cellsOf f.type)) = some y) → cs.length = off + D.size →
    ∃ a : D.El, reps w X0 (D.enc a) (cs.drop off) ∧ D.ok a
  | .un, off, fs, n, cs, x, ht, h, hl => by
    refine ⟨(), ?_, trivial⟩
    simp only [DTy.size, Nat.add_zero] at hl
    rw [← hl, List.drop_length]; simp [DTy.enc, reps]
  | .pr a b, off, fs, n, cs, x, ht, h, hl => by
    unfold FldD at ht
    obtain ⟨f, fs', rfl, rfl, h2, h3⟩ := ht
    obtain ⟨y, hy⟩ := h 0 f rfl
    obtain ⟨p, p1, p2⟩ := open_data a h2 hy
    obtain ⟨q, q1, q2⟩ := open_fields b (cs := cs) (n := n) (x := x) h3 (fun i g hg => h (i + 1) g (by simpa using hg)) (by rw [hl]; simp only [DTy.size]; omega)
    refine ⟨(p, q), ?_, p2, q2⟩
    have := reps_append' p1 q1
    rw [h2.size] at this
    rw [show List.drop (f.offset + a.size) cs = (cs.drop f.offset).drop a.size from by rw [List.drop_drop]] at this
    rw [List.take_append_drop] at this
    exact this
  | .bool, _, _, _, _, _, ht, _, _ => by simp [FldD] at ht
  | .u8, _, _, _, _, _, ht, _, _ => by simp [FldD] at ht
  | .int _, _, _, _, _, _, ht, _, _ => by simp [FldD] at ht
  | .str, _, _, _, _, _, ht, _, _ => by simp [FldD] at ht
  | .sl _, _, _, _, _, _, ht, _, _ => by simp [FldD] at ht
  | .arr _ _, _, _, _, _, _, ht, _, _ => by simp [FldD] at ht
end
end
end Go.AM

namespace Go.AM
open Go Go.ChangeShapes Go.WideShapes Go.RowKit

/-! ## from a contract to a law's statement -/
def base0 (w : World) : Base := { w0 := w, L := fun _ => False, X0 := X0, kl := 0, loc := fun _ => ⟨none, 0⟩, rows0 := lrows [] }

theorem mem0 (w : World) (β : Nat → Loc) : Mem (base0 w) β X0 w (lrows []) 0 :=
  ⟨fun i => trivial, fun i j b hi => by simp [lrows, rblk] at hi, fun i _ => by simp [lrows], fun i => trivial, rfl, rfl, rfl, Nat.le_refl _, fun b _ _ => rfl, fun b _ h => h, fun i b hi => by simp [lrows, rblk] at hi,
    fun b _ h _ => h, Nat.le_refl _, fun i hi => absurd hi (Nat.not_lt_zero _)⟩

theorem law_walk {P : Program} {f : FuncId} {ps : List PV} (h : AFun P f ps [] (.d (.lit (.bool true))) []) {w : World} {vs : List Value} (hp : repPs (lrows []) (fun _ => ⟨none, 0⟩) w X0 ps vs) :
    Calls P f vs.toArray w fun e w' => e = .returned (.bool true) ∧ Below w.heap.size w w' := by
  refine (h (base0 w) (fun _ => ⟨none, 0⟩) X0 w vs rfl rfl (mem0 w _) hp).mono fun e w' ⟨v, β', X', h1, hm, h2, _⟩ => ?_
  unfold repP rep at h2
  subst h2
  exact ⟨h1, hm.os, hm.tape, hm.output, hm.size, fun b hb => hm.keep b hb (fun h => h)⟩

def DTy.flat : DTy → Bool | .un | .pr _ _ | .arr _ _ => true | _ => false

/-- an argument -/
def argP (D : DTy) (a : D.El) : PV := if D.flat then .d (.agg (D.enc a)) else .d ((D.enc a).headD (.lit undef))

theorem open_arg {H : Type} {enc : TypeId × Value → H} {P : Program} {W : World} {base b0 : Nat} {sp : Nat → Bool} {held : Bool} {r : Reach} {D : DTy} {t : TypeId} {v : Value} {d : DataW H} {p : List MemPlace} (ht : TyD P D t)
    (hval : Value.okWide P W r b0 t v) (h : DataW.Trod enc P W base sp held t v d p) : ∃ a : D.El, repP (lrows []) (fun _ => ⟨none, 0⟩) W X0 (argP D a) v ∧ D.ok a := by
  obtain ⟨fuel, hf⟩ := h
  obtain ⟨a, h1, h2⟩ := open_data D ht hf
  refine ⟨a, ?_, h2⟩
  have one : D.flat = false → v.cells.toList = [v] → repP (lrows []) (fun _ => ⟨none, 0⟩) W X0 (argP D a) v := fun hfl hc => by
    unfold argP
    rw [hfl]
    rw [hc] at h1
    cases he : D.enc a with
    | nil => rw [he] at h1; simp [reps] at h1
    | cons x xs =>
      rw [he] at h1
      unfold reps at h1
      obtain ⟨u, us, e, _, h3, _⟩ := h1
      simp only [List.cons.injEq] at e
      obtain ⟨rfl, _⟩ := e
      simp only [List.headD_cons]
      unfold repP
      exact h3
  have many : D.flat = true → ∀ cs, v = .agg cs → repP (lrows []) (fun _ => ⟨none, 0⟩) W X0 (argP D a) v := fun hfl cs hc => by
    unfold argP
    rw [hfl]
    subst hc
    simp only [if_true]
    unfold repP rep
    exact ⟨cs.toList, by simp, by simpa [Value.cells] using h1⟩
  cases D with
  | bool => unfold TyD at ht; obtain ⟨b, rfl⟩ := okWide_bool ht.1 hval; exact one rfl rfl
  | u8 => unfold TyD at ht; obtain ⟨b, rfl⟩ := okWide_int ht.1 hval; exact one rfl rfl
  | int k => unfold TyD at ht; obtain ⟨b, rfl⟩ := okWide_int ht.1 hval; exact one rfl rfl
  | str => unfold TyD at ht; obtain ⟨b, rfl⟩ := okWide_string ht.1 hval; exact one rfl rfl
  | sl e => unfold TyD at ht; obtain ⟨et, h3, _⟩ := ht; obtain ⟨_, _, _, rfl⟩ := okWide_slice h3 hval; exact one rfl rfl
  | un =>
    unfold TyD at ht
    obtain ⟨fs, h3, _⟩ := ht
    unfold Value.okWide at hval
    rw [h3] at hval
    obtain ⟨cs, rfl, _⟩ := hval
    exact many rfl _ rfl
  | pr x y =>
    unfold TyD at ht
    obtain ⟨fs, h3, _⟩ := ht
    unfold Value.okWide at hval
    rw [h3] at hval
    obtain ⟨cs, rfl, _⟩ := hval
    exact many rfl _ rfl
  | arr n e =>
    unfold TyD at ht
    obtain ⟨et, h3, _⟩ := ht
    unfold Value.okWide at hval
    rw [h3] at hval
    obtain ⟨cs, rfl, _⟩ := hval
    exact many rfl _ rfl

theorem trod_lt' {H : Type} {enc : TypeId × Value → H} {P : Program} {W : World} {base : Nat} {sp : Nat → Bool} {held : Bool} {t : TypeId} {v : Value} {d : DataW H} {p : List MemPlace} (h : DataW.Trod enc P W base sp held t v d p) :
    ∀ x ∈ p, x.block < W.heap.size := by obtain ⟨m, hm⟩ := h; exact DataW.trod_lt m _ _ _ hm
end Go.AM
