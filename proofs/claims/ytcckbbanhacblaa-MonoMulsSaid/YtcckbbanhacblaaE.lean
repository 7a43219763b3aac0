/- The program's types. -/
import Derived.Test.YtcckbbanhacblaaLvt
set_option linter.unusedVariables false
set_option maxRecDepth 100000
namespace Go.Proofs.Ytcckbbanhacblaa.Lv
open Go Go.RowKit
def gv0 : Nat → D := fun g => .gl g
noncomputable def E : Ctx := ⟨Try.prog, fun t => tiOf Try.prog t, gv0, fun _ => rfl, by kernel_rfl, fun _ => true⟩
theorem E_P : E.P = Try.prog := rfl
theorem tt_0 : E.tt 0 = ⟨false, 1, 0, .oth, true, .unk, false⟩ := by kernel_rfl
theorem tt_1 : E.tt 1 = ⟨false, 1, 8, .fn, true, .nilf, false⟩ := by kernel_rfl
theorem tt_2 : E.tt 2 = ⟨false, 1, 8, .int .i64, true, .int .i64 0, false⟩ := by kernel_rfl
theorem tt_3 : E.tt 3 = ⟨false, 1, 8, .int .i64, true, .int .i64 0, false⟩ := by kernel_rfl
theorem tt_4 : E.tt 4 = ⟨false, 1, 1, .bool, true, .bool false, false⟩ := by kernel_rfl
theorem tt_5 : E.tt 5 = ⟨false, 1, 1, .int .u8, true, .int .u8 0, false⟩ := by kernel_rfl
theorem tt_6 : E.tt 6 = ⟨false, 1, 1, .int .u8, true, .int .u8 0, false⟩ := by kernel_rfl
theorem tt_7 : E.tt 7 = ⟨true, 4, 24, .strct [(0, 2), (1, 3), (2, 4), (3, 6)], true, .agg [.int .i64 0, .int .i64 0, .bool false, .int .u8 0], true⟩ := by kernel_rfl
theorem tt_8 : E.tt 8 = ⟨true, 4, 24, .strct [(0, 2), (1, 3), (2, 4), (3, 6)], true, .agg [.int .i64 0, .int .i64 0, .bool false, .int .u8 0], true⟩ := by kernel_rfl
theorem tt_9 : E.tt 9 = ⟨false, 1, 16, .string, true, .str [], false⟩ := by kernel_rfl
theorem tt_10 : E.tt 10 = ⟨false, 1, 16, .string, true, .str [], false⟩ := by kernel_rfl
theorem tt_11 : E.tt 11 = ⟨false, 1, 16, .string, true, .str [], false⟩ := by kernel_rfl
theorem tt_12 : E.tt 12 = ⟨false, 1, 8, .int .u64, true, .int .u64 0, false⟩ := by kernel_rfl
theorem tt_13 : E.tt 13 = ⟨true, 2, 24, .strct [(0, 9), (1, 12)], true, .agg [.str [], .int .u64 0], false⟩ := by kernel_rfl
theorem tt_14 : E.tt 14 = ⟨true, 2, 24, .strct [(0, 9), (1, 12)], true, .agg [.str [], .int .u64 0], false⟩ := by kernel_rfl
theorem tt_15 : E.tt 15 = ⟨false, 1, 8, .ptr 74, true, .nilp, false⟩ := by kernel_rfl
theorem tt_16 : E.tt 16 = ⟨false, 1, 8, .ptr 77, true, .nilp, false⟩ := by kernel_rfl
theorem tt_17 : E.tt 17 = ⟨false, 1, 8, .ptr 86, true, .nilp, false⟩ := by kernel_rfl
theorem tt_18 : E.tt 18 = ⟨true, 1, 8, .strct [(0, 17)], true, .agg [.nilp], false⟩ := by kernel_rfl
theorem tt_19 : E.tt 19 = ⟨true, 1, 8, .strct [(0, 17)], true, .agg [.nilp], false⟩ := by kernel_rfl
theorem tt_20 : E.tt 20 = ⟨false, 1, 16, .oth, true, .unk, false⟩ := by kernel_rfl
theorem tt_21 : E.tt 21 = ⟨false, 1, 4, .int .i32, true, .int .i32 0, false⟩ := by kernel_rfl
theorem tt_22 : E.tt 22 = ⟨true, 3, 3, .arr 3 5, true, .agg [.int .u8 0, .int .u8 0, .int .u8 0], true⟩ := by kernel_rfl
theorem tt_23 : E.tt 23 = ⟨true, 3, 3, .arr 3 5, true, .agg [.int .u8 0, .int .u8 0, .int .u8 0], true⟩ := by kernel_rfl
theorem tt_24 : E.tt 24 = ⟨false, 1, 8, .fn, true, .nilf, false⟩ := by kernel_rfl
theorem tt_25 : E.tt 25 = ⟨false, 1, 8, .fn, true, .nilf, false⟩ := by kernel_rfl
theorem tt_26 : E.tt 26 = ⟨false, 1, 0, .oth, true, .unk, false⟩ := by kernel_rfl
theorem tt_27 : E.tt 27 = ⟨false, 1, 8, .fn, true, .nilf, false⟩ := by kernel_rfl
theorem tt_28 : E.tt 28 = ⟨false, 1, 8, .fn, true, .nilf, false⟩ := by kernel_rfl
theorem tt_29 : E.tt 29 = ⟨false, 1, 8, .fn, true, .nilf, false⟩ := by kernel_rfl
theorem tt_30 : E.tt 30 = ⟨false, 1, 8, .fn, true, .nilf, false⟩ := by kernel_rfl
theorem tt_31 : E.tt 31 = ⟨false, 1, 24, .slc 23, true, .nils, false⟩ := by kernel_rfl
theorem tt_32 : E.tt 32 = ⟨false, 1, 8, .fn, true, .nilf, false⟩ := by kernel_rfl
theorem tt_33 : E.tt 33 = ⟨false, 1, 8, .fn, true, .nilf, false⟩ := by kernel_rfl
theorem tt_34 : E.tt 34 = ⟨false, 1, 8, .fn, true, .nilf, false⟩ := by kernel_rfl
theorem tt_35 : E.tt 35 = ⟨false, 1, 8, .fn, true, .nilf, false⟩ := by kernel_rfl
theorem tt_36 : E.tt 36 = ⟨false, 1, 8, .fn, true, .nilf, false⟩ := by kernel_rfl
theorem tt_37 : E.tt 37 = ⟨false, 1, 8, .fn, true, .nilf, false⟩ := by kernel_rfl
theorem tt_38 : E.tt 38 = ⟨false, 1, 24, .slc 5, true, .nils, false⟩ := by kernel_rfl
theorem tt_39 : E.tt 39 = ⟨false, 1, 8, .fn, true, .nilf, false⟩ := by kernel_rfl
theorem tt_40 : E.tt 40 = ⟨false, 1, 8, .fn, true, .nilf, false⟩ := by kernel_rfl
theorem tt_41 : E.tt 41 = ⟨false, 1, 8, .fn, true, .nilf, false⟩ := by kernel_rfl
theorem tt_42 : E.tt 42 = ⟨false, 1, 8, .fn, true, .nilf, false⟩ := by kernel_rfl
theorem tt_43 : E.tt 43 = ⟨false, 1, 24, .slc 3, true, .nils, false⟩ := by kernel_rfl
theorem tt_44 : E.tt 44 = ⟨false, 1, 8, .fn, true, .nilf, false⟩ := by kernel_rfl
theorem tt_45 : E.tt 45 = ⟨false, 1, 8, .fn, true, .nilf, false⟩ := by kernel_rfl
theorem tt_46 : E.tt 46 = ⟨false, 1, 8, .fn, true, .nilf, false⟩ := by kernel_rfl
theorem tt_47 : E.tt 47 = ⟨false, 1, 8, .fn, true, .nilf, false⟩ := by kernel_rfl
theorem tt_48 : E.tt 48 = ⟨false, 1, 8, .fn, true, .nilf, false⟩ := by kernel_rfl
theorem tt_49 : E.tt 49 = ⟨false, 1, 8, .int .u64, true, .int .u64 0, false⟩ := by kernel_rfl
theorem tt_50 : E.tt 50 = ⟨false, 1, 8, .fn, true, .nilf, false⟩ := by kernel_rfl
theorem tt_51 : E.tt 51 = ⟨false, 1, 8, .fn, true, .nilf, false⟩ := by kernel_rfl
theorem tt_52 : E.tt 52 = ⟨false, 1, 8, .int .i64, true, .int .i64 0, false⟩ := by kernel_rfl
theorem tt_53 : E.tt 53 = ⟨false, 1, 0, .oth, true, .unk, false⟩ := by kernel_rfl
theorem tt_54 : E.tt 54 = ⟨false, 1, 8, .fn, true, .nilf, false⟩ := by kernel_rfl
theorem tt_55 : E.tt 55 = ⟨false, 1, 8, .fn, true, .nilf, false⟩ := by kernel_rfl
theorem tt_56 : E.tt 56 = ⟨false, 1, 8, .fn, true, .nilf, false⟩ := by kernel_rfl
theorem tt_57 : E.tt 57 = ⟨false, 1, 0, .oth, true, .unk, false⟩ := by kernel_rfl
theorem tt_58 : E.tt 58 = ⟨false, 1, 8, .fn, true, .nilf, false⟩ := by kernel_rfl
theorem tt_59 : E.tt 59 = ⟨false, 1, 8, .fn, true, .nilf, false⟩ := by kernel_rfl
theorem tt_60 : E.tt 60 = ⟨false, 1, 4, .int .u32, true, .int .u32 0, false⟩ := by kernel_rfl
theorem tt_61 : E.tt 61 = ⟨false, 1, 8, .fn, true, .nilf, false⟩ := by kernel_rfl
theorem tt_62 : E.tt 62 = ⟨false, 1, 8, .int .u64, true, .int .u64 0, false⟩ := by kernel_rfl
theorem tt_63 : E.tt 63 = ⟨false, 1, 8, .int .u64, true, .int .u64 0, false⟩ := by kernel_rfl
theorem tt_64 : E.tt 64 = ⟨false, 1, 8, .fn, true, .nilf, false⟩ := by kernel_rfl
theorem tt_65 : E.tt 65 = ⟨false, 1, 8, .fn, true, .nilf, false⟩ := by kernel_rfl
theorem tt_66 : E.tt 66 = ⟨false, 1, 8, .fn, true, .nilf, false⟩ := by kernel_rfl
theorem tt_67 : E.tt 67 = ⟨false, 1, 8, .ptr 3, true, .nilp, false⟩ := by kernel_rfl
theorem tt_68 : E.tt 68 = ⟨false, 1, 8, .fn, true, .nilf, false⟩ := by kernel_rfl
theorem tt_69 : E.tt 69 = ⟨false, 1, 8, .ptr 63, true, .nilp, false⟩ := by kernel_rfl
theorem tt_70 : E.tt 70 = ⟨false, 1, 0, .oth, true, .unk, false⟩ := by kernel_rfl
theorem tt_71 : E.tt 71 = ⟨false, 1, 8, .fn, true, .nilf, false⟩ := by kernel_rfl
theorem tt_72 : E.tt 72 = ⟨false, 1, 8, .fn, true, .nilf, false⟩ := by kernel_rfl
theorem tt_73 : E.tt 73 = ⟨true, 4, 40, .strct [(0, 17), (1, 17), (2, 17), (3, 9)], true, .agg [.nilp, .nilp, .nilp, .str []], false⟩ := by kernel_rfl
theorem tt_74 : E.tt 74 = ⟨true, 4, 40, .strct [(0, 17), (1, 17), (2, 17), (3, 9)], true, .agg [.nilp, .nilp, .nilp, .str []], false⟩ := by kernel_rfl
theorem tt_75 : E.tt 75 = ⟨true, 0, 0, .arr 0 16, true, .agg [], true⟩ := by kernel_rfl
theorem tt_76 : E.tt 76 = ⟨true, 0, 0, .strct [(0, 75)], true, .agg [], false⟩ := by kernel_rfl
theorem tt_77 : E.tt 77 = ⟨true, 0, 0, .strct [(0, 75)], true, .agg [], false⟩ := by kernel_rfl
theorem tt_78 : E.tt 78 = ⟨false, 1, 8, .fn, true, .nilf, false⟩ := by kernel_rfl
theorem tt_79 : E.tt 79 = ⟨false, 1, 1, .int .u8, true, .int .u8 0, false⟩ := by kernel_rfl
theorem tt_80 : E.tt 80 = ⟨false, 1, 1, .int .u8, true, .int .u8 0, false⟩ := by kernel_rfl
theorem tt_81 : E.tt 81 = ⟨false, 1, 8, .fn, true, .nilf, false⟩ := by kernel_rfl
theorem tt_82 : E.tt 82 = ⟨false, 1, 8, .ptr 5, true, .nilp, false⟩ := by kernel_rfl
theorem tt_83 : E.tt 83 = ⟨false, 1, 4, .int .i32, true, .int .i32 0, false⟩ := by kernel_rfl
theorem tt_84 : E.tt 84 = ⟨false, 1, 4, .int .i32, true, .int .i32 0, false⟩ := by kernel_rfl
theorem tt_85 : E.tt 85 = ⟨true, 11, 48, .strct [(0, 12), (1, 12), (2, 60), (3, 79), (4, 5), (5, 5), (6, 80), (7, 81), (8, 82), (9, 83), (10, 84)], true, .agg [.int .u64 0, .int .u64 0, .int .u32 0, .int .u8 0, .int .u8 0, .int .u8 0, .int .u8 0, .nilf, .nilp, .int .i32 0, .int .i32 0], false⟩ := by kernel_rfl
theorem tt_86 : E.tt 86 = ⟨true, 11, 48, .strct [(0, 12), (1, 12), (2, 60), (3, 79), (4, 5), (5, 5), (6, 80), (7, 81), (8, 82), (9, 83), (10, 84)], true, .agg [.int .u64 0, .int .u64 0, .int .u32 0, .int .u8 0, .int .u8 0, .int .u8 0, .int .u8 0, .nilf, .nilp, .int .i32 0, .int .i32 0], false⟩ := by kernel_rfl
theorem tt_87 : E.tt 87 = ⟨false, 1, 8, .oth, true, .nilp, false⟩ := by kernel_rfl
attribute [go_sem] AW_skip AW_seq AW_region AW_drawn AW_drawnC AW_drawnN AW_cond AW_block AW_loop AW_exit AW_ret thn_normal thn_exit thn_ret blk_normal blk_exit blk_ret AR_nil AR_cons AT_eq AX_eq ork_some ork_none_ef KP_eq KT_eq put_some put_none gd_tt gd_ff gd_tf gd_ft gd_tup cnd_t cnd_f retQ_normal retQ_ret init_eq ev_tmp ev_const ev_global ev_func upd_eq AW_rf bmid_eq rnd_normal rnd_ret rnd_exit pv ef_box ef_alloc ef_store ef_make ef_bslice ef_append ef_conv ef_eql KV_eq KR_eq resD one' imp imps impB kp_nil pos_nil nof_eq kp_eq HLe_nil HLe EnvLe look BLe refs refss flat flats frz St.frz mx Option.isSome_some Option.isSome_none cl cls ofVal ofVals asAgg_agg cellsOf part rd ldd cur ork_grd grd_true bits_u64 bits_u32 bits_u8 bits_i64 bits_i32 min_pos fdiv_lit shr_lit wrap_i64 wrap_i32 wrap_u64 wrap_u32 wrap_u8 bin un lenD bds cutD conv mm one_int one_bool one_str one_nilp one_nils one_nilm one_nilf one_ro one_ra one_ad one_fn one_vs one_gl one_agg one_tup one_unk one_sl one_el chk wr lookB up srcOf fits over nbad isU8 u8Of bits List.getD_cons_zero List.getD_cons_succ List.getD_nil List.map_cons List.map_nil List.all_cons List.all_nil List.cons_append List.nil_append List.append_nil List.length_cons List.length_nil List.take_succ_cons List.take_zero List.take_nil List.drop_succ_cons List.drop_zero List.drop_nil List.getElem?_cons_zero List.getElem?_cons_succ List.getElem?_nil List.head?_cons List.getElem?_toArray Option.bind_some Option.bind_none Option.map_some Option.map_none Bool.and_true Bool.true_and Bool.false_and Bool.and_false Bool.or_true Bool.true_or Bool.false_or Bool.or_false Bool.not_true Bool.not_false beq_self_eq_true and_true true_and and_false false_and ne_eq not_true_eq_false not_false_eq_true if_true if_false Bool.false_eq_true Nat.add_eq_zero_iff Nat.zero_add Nat.add_zero Nat.one_ne_zero Nat.zero_ne_one List.range_succ List.range_zero decide_true decide_false decide_eq_true_eq decide_eq_false_iff_not Nat.sub_zero Int.toNat_zero Nat.zero_le Int.toNat_natCast Int.cast_ofNat_Int noFz Onw Frs kn elt slen eqOr eqD eqL Nat.max_eq_left Nat.max_eq_right givOk List.contains_nil List.contains_cons aft mrg ex exD exDs exB impH pos fsOf refB List.flatMap_cons List.flatMap_nil List.length_singleton List.isEmpty_cons List.isEmpty_nil LeV_self Le_self LesV_self lim_tt lim_gv
attribute [go_sem] tt_0 tt_1 tt_2 tt_3 tt_4 tt_5 tt_6 tt_7 tt_8 tt_9 tt_10 tt_11 tt_12 tt_13 tt_14 tt_15 tt_16 tt_17 tt_18 tt_19 tt_20 tt_21 tt_22 tt_23 tt_24 tt_25 tt_26 tt_27 tt_28 tt_29 tt_30 tt_31 tt_32 tt_33 tt_34 tt_35 tt_36 tt_37 tt_38 tt_39 tt_40 tt_41 tt_42 tt_43 tt_44 tt_45 tt_46 tt_47 tt_48 tt_49 tt_50 tt_51 tt_52 tt_53 tt_54 tt_55 tt_56 tt_57 tt_58 tt_59 tt_60 tt_61 tt_62 tt_63 tt_64 tt_65 tt_66 tt_67 tt_68 tt_69 tt_70 tt_71 tt_72 tt_73 tt_74 tt_75 tt_76 tt_77 tt_78 tt_79 tt_80 tt_81 tt_82 tt_83 tt_84 tt_85 tt_86 tt_87 
end Go.Proofs.Ytcckbbanhacblaa.Lv
