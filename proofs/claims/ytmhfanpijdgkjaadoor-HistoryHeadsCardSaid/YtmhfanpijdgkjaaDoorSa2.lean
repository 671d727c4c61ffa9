/- PRINTED: clean texts -/
import Derived.Test.YtmhfanpijdgkjaaDoorSa
namespace Go.Proofs.YtmhfanpijdgkjaaDoor
open Go.X
set_option maxRecDepth 100000
-- syngraph/history.put
def sh_history_put (t0 t1 : Value) (H : Heap) (R : Value → Heap → Prop) : Prop :=
  Mpu (lenV t1) fun t8 =>
  Mcall prg f_wire_Out_Int [t0, t8] H fun t9 h1 =>
  Mpu (lenV t1) fun t11 =>
  L1 (fun k2 => fun t12_2 h3 =>
    Mpu (binV .no .lss t12_2 t11) fun t13 =>
    Mcd t13 (
      Mpu (ixS 37 t1 t12_2) fun t14 =>
      Mpu (ldN 37 h3 t14) fun t15 =>
      Mnew h3 T_history_Item (zcells prg T_history_Item) fun t5 h4 =>
      Mwr (stN 37 h4 t5 t15) fun h5 =>
      Mpu (fld 0 t5) fun t17 =>
      Mpu (ld1 h5 t17) fun t18 =>
      Mpu (fld 1 t5) fun t20 =>
      Mpu (ldN 4 h5 t20) fun t21 =>
      Mpu (fld 5 t5) fun t24 =>
      Mpu (ldN 32 h5 t24) fun t25 =>
      Mcall prg f_wire_Out_Text [t0, t18] h5 fun t19 h6 =>
      Mre [(ldN 32 h6 t24, t25), (ldN 4 h6 t20, t21)] (
      Mcall prg f_version_Version_Show [t21] h6 fun t22 h7 =>
      Mre [(ldN 32 h7 t24, t25)] (
      Mcall prg f_wire_Out_Text [t19, t22] h7 fun t23 h8 =>
      Mre [(ldN 32 h8 t24, t25)] (
      Mcall prg f_wire_Out_Hash [t23, t25] h8 fun t26 h9 =>
      Mpu (binV .no .add t12_2 (.int .i64 1)) fun t27 =>
      k2 t27 h9)))) (
      R (.tuple #[]) h3)) ((.int .i64 0)) h1
theorem sh_history_put_chk : fchk prg [12] Tryd.f81 2 = true := by kernel_rfl
theorem sh_history_put_den (t0 t1 : Value) (H : Heap) (R : Value → Heap → Prop) : fden prg [12] Tryd.f81 [t0, t1] H R = sh_history_put t0 t1 H R := by kernel_rfl
theorem sh_history_put_calls {t0 t1 : Value} {H : Heap} {R : Value → Heap → Prop} (h : sh_history_put t0 t1 H R) : HCalls prg f_history_put [t0, t1] H R :=
  calls_of Tryd.func81 sh_history_put_chk (by rw [sh_history_put_den]; exact h)

-- (*syngraph/wire.Out).Hash
def sh_wire_Out_Hash (t0 t1 : Value) (H : Heap) (R : Value → Heap → Prop) : Prop :=
  Mnew H T_sha_Hash (some (Value.cells t1)) fun t3 h1 =>
  Mpu (nck t0) fun t7 =>
  Mpu (fld 0 t7) fun t8 =>
  Mpu (ld1 h1 t8) fun t9 =>
  Mpu (slA 32 1 t3 none none none) fun t10 =>
  Mapp T_uint8 1 1 h1 t9 t10 fun t11 h2 =>
  Mpu (nck t0) fun t12 =>
  Mpu (fld 0 t12) fun t13 =>
  Mwr (st1 h2 t13 t11) fun h3 =>
  R t0 h3
theorem sh_wire_Out_Hash_chk : fchk prg [] Tryd.f82 2 = true := by kernel_rfl
theorem sh_wire_Out_Hash_den (t0 t1 : Value) (H : Heap) (R : Value → Heap → Prop) : fden prg [] Tryd.f82 [t0, t1] H R = sh_wire_Out_Hash t0 t1 H R := by kernel_rfl
theorem sh_wire_Out_Hash_calls {t0 t1 : Value} {H : Heap} {R : Value → Heap → Prop} (h : sh_wire_Out_Hash t0 t1 H R) : HCalls prg f_wire_Out_Hash [t0, t1] H R :=
  calls_of Tryd.func82 sh_wire_Out_Hash_chk (by rw [sh_wire_Out_Hash_den]; exact h)

-- (*syngraph/wire.Out).All
def sh_wire_Out_All (t0 : Value) (H : Heap) (R : Value → Heap → Prop) : Prop :=
  Mpu (nck t0) fun t4 =>
  Mpu (fld 0 t4) fun t5 =>
  Mpu (ld1 H t5) fun t6 =>
  Mcall prg f_bytes_Clone [t6] H fun t7 h1 =>
  R t7 h1
theorem sh_wire_Out_All_chk : fchk prg [] Tryd.f83 1 = true := by kernel_rfl
theorem sh_wire_Out_All_den (t0 : Value) (H : Heap) (R : Value → Heap → Prop) : fden prg [] Tryd.f83 [t0] H R = sh_wire_Out_All t0 H R := by kernel_rfl
theorem sh_wire_Out_All_calls {t0 : Value} {H : Heap} {R : Value → Heap → Prop} (h : sh_wire_Out_All t0 H R) : HCalls prg f_wire_Out_All [t0] H R :=
  calls_of Tryd.func83 sh_wire_Out_All_chk (by rw [sh_wire_Out_All_den]; exact h)

-- (*syngraph/history.History).At
def sh_history_History_At (t0 t1 : Value) (H : Heap) (R : Value → Heap → Prop) : Prop :=
  Mnew H T_history_Record (zcells prg T_history_Record) fun t4 h1 =>
  Mpu (binV .no .lss t1 (.int .i64 0)) fun t7 =>
  J1 (fun k2 => Mif t7 false (
      Mpu (nck t0) fun t11 =>
      Mpu (fld 0 t11) fun t12 =>
      Mpu (ld1 h1 t12) fun t13 =>
      Mpu (lenV t13) fun t14 =>
      Mpu (binV .no .geq t1 t14) fun t15 =>
      k2 t15 h1) (
      k2 undef h1)) fun t15_2 h3 =>
  Mpu (pickV t7 (.bool true) t15_2) fun t16 =>
  Mcd t16 (
    Mpu (buildV prg T_history_Record []) fun t17 =>
    Mwr (stN 36 h3 t4 t17) fun h4 =>
    Mpu (ldN 36 h4 t4) fun r5 =>
    R (.tuple #[r5, (.bool false)]) h4) (
    Mpu (nck t0) fun t19 =>
    Mpu (fld 0 t19) fun t20 =>
    Mpu (ld1 h3 t20) fun t21 =>
    Mpu (ixS 36 t21 t1) fun t23 =>
    Mpu (ldN 36 h3 t23) fun t24 =>
    Mcall prg f_history_Record_copied [t24] h3 fun t25 h6 =>
    Mwr (stN 36 h6 t4 t25) fun h7 =>
    Mpu (ldN 36 h7 t4) fun r8 =>
    R (.tuple #[r8, (.bool true)]) h7)
theorem sh_history_History_At_chk : fchk prg [15] Tryd.f84 2 = true := by kernel_rfl
theorem sh_history_History_At_den (t0 t1 : Value) (H : Heap) (R : Value → Heap → Prop) : fden prg [15] Tryd.f84 [t0, t1] H R = sh_history_History_At t0 t1 H R := by kernel_rfl
theorem sh_history_History_At_calls {t0 t1 : Value} {H : Heap} {R : Value → Heap → Prop} (h : sh_history_History_At t0 t1 H R) : HCalls prg f_history_History_At [t0, t1] H R :=
  calls_of Tryd.func84 sh_history_History_At_chk (by rw [sh_history_History_At_den]; exact h)

-- internal/strconv.Itoa
def sh_internal_strconv_Itoa (t0 : Value) (H : Heap) (R : Value → Heap → Prop) : Prop :=
  Mcall prg f_internal_strconv_FormatInt [t0, (.int .i64 10)] H fun t4 h1 =>
  R t4 h1
theorem sh_internal_strconv_Itoa_chk : fchk prg [] Tryd.f85 1 = true := by kernel_rfl
theorem sh_internal_strconv_Itoa_den (t0 : Value) (H : Heap) (R : Value → Heap → Prop) : fden prg [] Tryd.f85 [t0] H R = sh_internal_strconv_Itoa t0 H R := by kernel_rfl
theorem sh_internal_strconv_Itoa_calls {t0 : Value} {H : Heap} {R : Value → Heap → Prop} (h : sh_internal_strconv_Itoa t0 H R) : HCalls prg f_internal_strconv_Itoa [t0] H R :=
  calls_of Tryd.func85 sh_internal_strconv_Itoa_chk (by rw [sh_internal_strconv_Itoa_den]; exact h)

-- (*strings.Builder).Grow
def sh_strings_Builder_Grow (t0 t1 : Value) (H : Heap) (R : Value → Heap → Prop) : Prop :=
  Mcall prg f_strings_Builder_copyCheck [t0] H fun t5 h1 =>
  J0 (fun k2 =>
    Mpu (binV .no .lss t1 (.int .i64 0)) fun t7 =>
    Mcd t7 (
      Mpu (mkI prg T_string (.string ⟨#[115, 116, 114, 105, 110, 103, 115, 46, 66, 117, 105, 108, 100, 101, 114, 46, 71, 114, 111, 119, 58, 32, 110, 101, 103, 97, 116, 105, 118, 101, 32, 99, 111, 117, 110, 116]⟩)) fun t8 =>
      False) (
      k2 h1)) fun h3 =>
  Mpu (nck t0) fun t10 =>
  Mpu (fld 1 t10) fun t11 =>
  Mpu (ld1 h3 t11) fun t12 =>
  Mpu (capV t12) fun t13 =>
  Mpu (nck t0) fun t15 =>
  Mpu (fld 1 t15) fun t16 =>
  Mpu (ld1 h3 t16) fun t17 =>
  Mpu (lenV t17) fun t18 =>
  Mpu (binV .no .sub t13 t18) fun t19 =>
  Mpu (binV .no .lss t19 t1) fun t21 =>
  Mcd t21 (
    Mcall prg f_strings_Builder_grow [t0, t1] h3 fun t24 h4 =>
    R (.tuple #[]) h4) (
    R (.tuple #[]) h3)
theorem sh_strings_Builder_Grow_chk : fchk prg [] Tryd.f86 2 = true := by kernel_rfl
theorem sh_strings_Builder_Grow_den (t0 t1 : Value) (H : Heap) (R : Value → Heap → Prop) : fden prg [] Tryd.f86 [t0, t1] H R = sh_strings_Builder_Grow t0 t1 H R := by kernel_rfl
theorem sh_strings_Builder_Grow_calls {t0 t1 : Value} {H : Heap} {R : Value → Heap → Prop} (h : sh_strings_Builder_Grow t0 t1 H R) : HCalls prg f_strings_Builder_Grow [t0, t1] H R :=
  calls_of Tryd.func86 sh_strings_Builder_Grow_chk (by rw [sh_strings_Builder_Grow_den]; exact h)

-- (*strings.Builder).WriteString
def sh_strings_Builder_WriteString (t0 t1 : Value) (H : Heap) (R : Value → Heap → Prop) : Prop :=
  Mcall prg f_strings_Builder_copyCheck [t0] H fun t7 h1 =>
  Mpu (nck t0) fun t10 =>
  Mpu (fld 1 t10) fun t11 =>
  Mpu (ld1 h1 t11) fun t12 =>
  Mapp T_uint8 1 1 h1 t12 t1 fun t14 h2 =>
  Mpu (nck t0) fun t15 =>
  Mpu (fld 1 t15) fun t16 =>
  Mwr (st1 h2 t16 t14) fun h3 =>
  Mpu (lenT t1) fun t18 =>
  R (.tuple #[t18, (.nilIface)]) h3
theorem sh_strings_Builder_WriteString_chk : fchk prg [] Tryd.f87 2 = true := by kernel_rfl
theorem sh_strings_Builder_WriteString_den (t0 t1 : Value) (H : Heap) (R : Value → Heap → Prop) : fden prg [] Tryd.f87 [t0, t1] H R = sh_strings_Builder_WriteString t0 t1 H R := by kernel_rfl
theorem sh_strings_Builder_WriteString_calls {t0 t1 : Value} {H : Heap} {R : Value → Heap → Prop} (h : sh_strings_Builder_WriteString t0 t1 H R) : HCalls prg f_strings_Builder_WriteString [t0, t1] H R :=
  calls_of Tryd.func87 sh_strings_Builder_WriteString_chk (by rw [sh_strings_Builder_WriteString_den]; exact h)

-- (*strings.Builder).String
def sh_strings_Builder_String (t0 : Value) (H : Heap) (R : Value → Heap → Prop) : Prop :=
  Mpu (nck t0) fun t4 =>
  Mpu (fld 1 t4) fun t5 =>
  Mpu (ld1 H t5) fun t6 =>
  Mpu (usd t6) fun t7 =>
  Mpu (nck t0) fun t9 =>
  Mpu (fld 1 t9) fun t10 =>
  Mpu (ld1 H t10) fun t11 =>
  Mpu (lenV t11) fun t12 =>
  Msem prg (Builtin.unsafeString_ #[170, 3] 0 #[t7, t12]) H fun t13 h1 =>
  R t13 h1
theorem sh_strings_Builder_String_chk : fchk prg [] Tryd.f88 1 = true := by kernel_rfl
theorem sh_strings_Builder_String_den (t0 : Value) (H : Heap) (R : Value → Heap → Prop) : fden prg [] Tryd.f88 [t0] H R = sh_strings_Builder_String t0 H R := by kernel_rfl
theorem sh_strings_Builder_String_calls {t0 : Value} {H : Heap} {R : Value → Heap → Prop} (h : sh_strings_Builder_String t0 H R) : HCalls prg f_strings_Builder_String [t0] H R :=
  calls_of Tryd.func88 sh_strings_Builder_String_chk (by rw [sh_strings_Builder_String_den]; exact h)

-- slices.Clone[[]syngraph/history.Item,syngraph/history.Item]
def sh_slices_Clone_S_history_Item_history_Item (t0 : Value) (H : Heap) (R : Value → Heap → Prop) : Prop :=
  Mpu (binV .slc .eql t0 (.slice none 0 0)) fun t4 =>
  Mcd t4 (
    R (.slice none 0 0) H) (
    Mnews H T_history_Item 0 (bslV prg T_history_Item 0 []) fun t5 h1 =>
    Mapp T_history_Item 37 88 h1 t5 t0 fun t7 h2 =>
    R t7 h2)
theorem sh_slices_Clone_S_history_Item_history_Item_chk : fchk prg [] Tryd.f89 1 = true := by kernel_rfl
theorem sh_slices_Clone_S_history_Item_history_Item_den (t0 : Value) (H : Heap) (R : Value → Heap → Prop) : fden prg [] Tryd.f89 [t0] H R = sh_slices_Clone_S_history_Item_history_Item t0 H R := by kernel_rfl
theorem sh_slices_Clone_S_history_Item_history_Item_calls {t0 : Value} {H : Heap} {R : Value → Heap → Prop} (h : sh_slices_Clone_S_history_Item_history_Item t0 H R) : HCalls prg f_slices_Clone_S_history_Item_history_Item [t0] H R :=
  calls_of Tryd.func89 sh_slices_Clone_S_history_Item_history_Item_chk (by rw [sh_slices_Clone_S_history_Item_history_Item_den]; exact h)

-- (*syngraph/sha.Digest).block
def sh_sha_Digest_block (t0 t1 : Value) (H : Heap) (R : Value → Heap → Prop) : Prop :=
  Mnew H T_A64_uint32 (zcells prg T_A64_uint32) fun t4 h1 =>
  J1 (fun k2 =>
    L1 (fun k4 => fun t17_2 h5 =>
      Mpu (binV .no .lss t17_2 (.int .i64 64)) fun t18 =>
      Mcd t18 (
        J0 (fun k6 =>
          Mpu (binV .no .lss t17_2 (.int .i64 16)) fun t21 =>
          Mcd t21 (
            Mpu (binV .no .mul (.int .i64 4) t17_2) fun t25 =>
            Mpu (slS 1 t1 (some t25) none none) fun t26 =>
            Mcall prg f_sha_word [t26] h5 fun t27 h8 =>
            Mpu (ixA 64 1 t4 t17_2) fun t28 =>
            Mwr (st1 h8 t28 t27) fun h9 =>
            k6 h9) (
            Mpu (binV .no .sub t17_2 (.int .i64 15)) fun t30 =>
            Mpu (ixA 64 1 t4 t30) fun t31 =>
            Mpu (ld1 h5 t31) fun t32 =>
            Mpu (binV .no .sub t17_2 (.int .i64 2)) fun t34 =>
            Mpu (ixA 64 1 t4 t34) fun t35 =>
            Mpu (ld1 h5 t35) fun t36 =>
            Mcall prg f_sha_right [t32, (.int .i64 7)] h5 fun t38 h10 =>
            Mcall prg f_sha_right [t32, (.int .i64 18)] h10 fun t40 h11 =>
            Mpu (binV .no .xor t38 t40) fun t41 =>
            Mpu (binV .no .shr t32 (.int .u64 3)) fun t43 =>
            Mpu (binV .no .xor t41 t43) fun t44 =>
            Mcall prg f_sha_right [t36, (.int .i64 17)] h11 fun t46 h12 =>
            Mcall prg f_sha_right [t36, (.int .i64 19)] h12 fun t48 h13 =>
            Mpu (binV .no .xor t46 t48) fun t49 =>
            Mpu (binV .no .shr t36 (.int .u64 10)) fun t51 =>
            Mpu (binV .no .xor t49 t51) fun t52 =>
            Mpu (binV .no .sub t17_2 (.int .i64 7)) fun t56 =>
            Mpu (ixA 64 1 t4 t56) fun t57 =>
            Mpu (ld1 h13 t57) fun t58 =>
            Mpu (binV .no .add t52 t58) fun t59 =>
            Mpu (binV .no .add t59 t44) fun t61 =>
            Mpu (binV .no .sub t17_2 (.int .i64 16)) fun t63 =>
            Mpu (ixA 64 1 t4 t63) fun t64 =>
            Mpu (ld1 h13 t64) fun t65 =>
            Mpu (binV .no .add t61 t65) fun t66 =>
            Mpu (ixA 64 1 t4 t17_2) fun t67 =>
            Mwr (st1 h13 t67 t66) fun h14 =>
            k6 h14)) fun h7 =>
        Mpu (binV .no .add t17_2 (.int .i64 1)) fun t68 =>
        k4 t68 h7) (
        k2 t17_2 h5)) ((.int .i64 0)) h1) fun t17_4 h3 =>
  Mpu (nck t0) fun t70 =>
  Mpu (fld 0 t70) fun t71 =>
  Mpu (ldN 8 h3 t71) fun t72 =>
  Mnew h3 T_A8_uint32 (zcells prg T_A8_uint32) fun t10 h15 =>
  Mwr (stN 8 h15 t10 t72) fun h16 =>
  J1 (fun k17 =>
    L1 (fun k19 => fun t73_2 h20 =>
      Mpu (binV .no .lss t73_2 (.int .i64 64)) fun t74 =>
      Mcd t74 (
        Mpu (ixA 8 1 t10 (.int .i64 0)) fun t76 =>
        Mpu (ld1 h20 t76) fun t77 =>
        Mpu (ixA 8 1 t10 (.int .i64 4)) fun t78 =>
        Mpu (ld1 h20 t78) fun t79 =>
        Mpu (ixA 8 1 t10 (.int .i64 7)) fun t80 =>
        Mpu (ld1 h20 t80) fun t81 =>
        Mpu (ixA 8 1 t10 (.int .i64 5)) fun t92 =>
        Mpu (ld1 h20 t92) fun t93 =>
        Mpu (binV .no .and t79 t93) fun t94 =>
        Mpu (unV .xor t79) fun t96 =>
        Mpu (ixA 8 1 t10 (.int .i64 6)) fun t97 =>
        Mpu (ld1 h20 t97) fun t98 =>
        Mpu (binV .no .and t96 t98) fun t99 =>
        Mpu (binV .no .xor t94 t99) fun t100 =>
        Mpu (ixA 64 1 (.pointer (some ⟨g_sha_table, 0, none⟩)) t73_2) fun t103 =>
        Mpu (ld1 h20 t103) fun t104 =>
        Mpu (ixA 64 1 t4 t73_2) fun t107 =>
        Mpu (ld1 h20 t107) fun t108 =>
        Mcall prg f_sha_right [t79, (.int .i64 6)] h20 fun t83 h21 =>
        Mre [(ld1 h21 t107, t108), (ld1 h21 t103, t104), (ld1 h21 t97, t98), (ld1 h21 t92, t93), (ld1 h21 t80, t81)] (
        Mcall prg f_sha_right [t79, (.int .i64 11)] h21 fun t85 h22 =>
        Mre [(ld1 h22 t107, t108), (ld1 h22 t103, t104), (ld1 h22 t97, t98), (ld1 h22 t92, t93), (ld1 h22 t80, t81)] (
        Mpu (binV .no .xor t83 t85) fun t86 =>
        Mcall prg f_sha_right [t79, (.int .i64 25)] h22 fun t88 h23 =>
        Mre [(ld1 h23 t107, t108), (ld1 h23 t103, t104), (ld1 h23 t97, t98), (ld1 h23 t92, t93), (ld1 h23 t80, t81)] (
        Mpu (binV .no .xor t86 t88) fun t89 =>
        Mpu (binV .no .add t81 t89) fun t90 =>
        Mpu (binV .no .add t90 t100) fun t101 =>
        Mpu (binV .no .add t101 t104) fun t105 =>
        Mpu (binV .no .add t105 t108) fun t109 =>
        Mpu (ixA 8 1 t10 (.int .i64 1)) fun t119 =>
        Mpu (ld1 h23 t119) fun t120 =>
        Mpu (binV .no .and t77 t120) fun t121 =>
        Mpu (ixA 8 1 t10 (.int .i64 2)) fun t123 =>
        Mpu (ld1 h23 t123) fun t124 =>
        Mpu (binV .no .and t77 t124) fun t125 =>
        Mpu (binV .no .xor t121 t125) fun t126 =>
        Mpu (ixA 8 1 t10 (.int .i64 1)) fun t127 =>
        Mpu (ld1 h23 t127) fun t128 =>
        Mpu (ixA 8 1 t10 (.int .i64 2)) fun t129 =>
        Mpu (ld1 h23 t129) fun t130 =>
        Mpu (binV .no .and t128 t130) fun t131 =>
        Mpu (binV .no .xor t126 t131) fun t132 =>
        Mcall prg f_sha_right [t77, (.int .i64 2)] h23 fun t111 h24 =>
        Mre [(ld1 h24 t129, t130), (ld1 h24 t127, t128), (ld1 h24 t123, t124), (ld1 h24 t119, t120)] (
        Mcall prg f_sha_right [t77, (.int .i64 13)] h24 fun t113 h25 =>
        Mre [(ld1 h25 t129, t130), (ld1 h25 t127, t128), (ld1 h25 t123, t124), (ld1 h25 t119, t120)] (
        Mpu (binV .no .xor t111 t113) fun t114 =>
        Mcall prg f_sha_right [t77, (.int .i64 22)] h25 fun t116 h26 =>
        Mre [(ld1 h26 t129, t130), (ld1 h26 t127, t128), (ld1 h26 t123, t124), (ld1 h26 t119, t120)] (
        Mpu (binV .no .xor t114 t116) fun t117 =>
        Mpu (binV .no .add t117 t132) fun t133 =>
        Mpu (slA 8 1 t10 (some (.int .i64 1)) none none) fun t134 =>
        Mpu (slA 8 1 t10 none (some (.int .i64 7)) none) fun t135 =>
        Mcopy 1 h26 t134 t135 fun t136 h27 =>
        Mpu (ixA 8 1 t10 (.int .i64 4)) fun t137 =>
        Mpu (ld1 h27 t137) fun t138 =>
        Mpu (binV .no .add t138 t109) fun t140 =>
        Mpu (ixA 8 1 t10 (.int .i64 4)) fun t141 =>
        Mwr (st1 h27 t141 t140) fun h28 =>
        Mpu (binV .no .add t109 t133) fun t144 =>
        Mpu (ixA 8 1 t10 (.int .i64 0)) fun t145 =>
        Mwr (st1 h28 t145 t144) fun h29 =>
        Mpu (binV .no .add t73_2 (.int .i64 1)) fun t146 =>
        k19 t146 h29))))))) (
        k17 t73_2 h20)) ((.int .i64 0)) h16) fun t73_4 h18 =>
  L1 (fun k30 => fun t147_2 h31 =>
    Mpu (binV .no .lss t147_2 (.int .i64 8)) fun t148 =>
    Mcd t148 (
      Mpu (nck t0) fun t152 =>
      Mpu (fld 0 t152) fun t153 =>
      Mpu (ixA 8 1 t153 t147_2) fun t154 =>
      Mpu (ld1 h31 t154) fun t155 =>
      Mpu (ixA 8 1 t10 t147_2) fun t157 =>
      Mpu (ld1 h31 t157) fun t158 =>
      Mpu (binV .no .add t155 t158) fun t159 =>
      Mpu (nck t0) fun t160 =>
      Mpu (fld 0 t160) fun t161 =>
      Mpu (ixA 8 1 t161 t147_2) fun t162 =>
      Mwr (st1 h31 t162 t159) fun h32 =>
      Mpu (binV .no .add t147_2 (.int .i64 1)) fun t163 =>
      k30 t163 h32) (
      R (.tuple #[]) h31)) ((.int .i64 0)) h18
theorem sh_sha_Digest_block_chk : fchk prg [17, 73, 147] Tryd.f95 2 = true := by kernel_rfl
theorem sh_sha_Digest_block_den (t0 t1 : Value) (H : Heap) (R : Value → Heap → Prop) : fden prg [17, 73, 147] Tryd.f95 [t0, t1] H R = sh_sha_Digest_block t0 t1 H R := by kernel_rfl
theorem sh_sha_Digest_block_calls {t0 t1 : Value} {H : Heap} {R : Value → Heap → Prop} (h : sh_sha_Digest_block t0 t1 H R) : HCalls prg f_sha_Digest_block [t0, t1] H R :=
  calls_of Tryd.func95 sh_sha_Digest_block_chk (by rw [sh_sha_Digest_block_den]; exact h)

-- (*syngraph/sha.Digest).Copy
def sh_sha_Digest_Copy (t0 : Value) (H : Heap) (R : Value → Heap → Prop) : Prop :=
  Mpu (nck t0) fun t5 =>
  Mpu (ldN 10 H t5) fun t6 =>
  Mnew H T_sha_Digest (zcells prg T_sha_Digest) fun t3 h1 =>
  Mwr (stN 10 h1 t3 t6) fun h2 =>
  Mpu (nck t0) fun t8 =>
  Mpu (fld 8 t8) fun t9 =>
  Mpu (ld1 h2 t9) fun t10 =>
  Mcall prg f_bytes_Clone [t10] h2 fun t11 h3 =>
  Mpu (fld 8 t3) fun t12 =>
  Mwr (st1 h3 t12 t11) fun h4 =>
  R t3 h4
theorem sh_sha_Digest_Copy_chk : fchk prg [] Tryd.f96 1 = true := by kernel_rfl
theorem sh_sha_Digest_Copy_den (t0 : Value) (H : Heap) (R : Value → Heap → Prop) : fden prg [] Tryd.f96 [t0] H R = sh_sha_Digest_Copy t0 H R := by kernel_rfl
theorem sh_sha_Digest_Copy_calls {t0 : Value} {H : Heap} {R : Value → Heap → Prop} (h : sh_sha_Digest_Copy t0 H R) : HCalls prg f_sha_Digest_Copy [t0] H R :=
  calls_of Tryd.func96 sh_sha_Digest_Copy_chk (by rw [sh_sha_Digest_Copy_den]; exact h)

-- strings.trimLeftByte
def sh_strings_trimLeftByte (t0 t1 : Value) (H : Heap) (R : Value → Heap → Prop) : Prop :=
  J2 (fun k1 =>
    L1 (fun k3 => fun t0_2 h4 =>
      Mpu (lenT t0_2) fun t6 =>
      Mpu (binV .no .gtr t6 (.int .i64 0)) fun t7 =>
      J1 (fun k5 => Mif t7 true (
          Mpu (ixT t0_2 (.int .i64 0)) fun t10 =>
          Mpu (binV .no .eql t10 t1) fun t12 =>
          k5 t12 h4) (
          k5 undef h4)) fun t12_2 h6 =>
      Mpu (pickV t7 t12_2 (.bool false)) fun t13 =>
      Mcd t13 (
        Mpu (slT t0_2 (some (.int .i64 1)) none) fun t15 =>
        k3 t15 h6) (
        k1 t0_2 t12_2 h6)) (t0) H) fun t0_4 t12_3 h2 =>
  R t0_4 h2
theorem sh_strings_trimLeftByte_chk : fchk prg [0, 12] Tryd.f97 2 = true := by kernel_rfl
theorem sh_strings_trimLeftByte_den (t0 t1 : Value) (H : Heap) (R : Value → Heap → Prop) : fden prg [0, 12] Tryd.f97 [t0, t1] H R = sh_strings_trimLeftByte t0 t1 H R := by kernel_rfl
theorem sh_strings_trimLeftByte_calls {t0 t1 : Value} {H : Heap} {R : Value → Heap → Prop} (h : sh_strings_trimLeftByte t0 t1 H R) : HCalls prg f_strings_trimLeftByte [t0, t1] H R :=
  calls_of Tryd.func97 sh_strings_trimLeftByte_chk (by rw [sh_strings_trimLeftByte_den]; exact h)

-- strings.trimRightByte
def sh_strings_trimRightByte (t0 t1 : Value) (H : Heap) (R : Value → Heap → Prop) : Prop :=
  J2 (fun k1 =>
    L1 (fun k3 => fun t0_2 h4 =>
      Mpu (lenT t0_2) fun t6 =>
      Mpu (binV .no .gtr t6 (.int .i64 0)) fun t7 =>
      J1 (fun k5 => Mif t7 true (
          Mpu (lenT t0_2) fun t11 =>
          Mpu (binV .no .sub t11 (.int .i64 1)) fun t12 =>
          Mpu (ixT t0_2 t12) fun t13 =>
          Mpu (binV .no .eql t13 t1) fun t15 =>
          k5 t15 h4) (
          k5 undef h4)) fun t15_2 h6 =>
      Mpu (pickV t7 t15_2 (.bool false)) fun t16 =>
      Mcd t16 (
        Mpu (lenT t0_2) fun t19 =>
        Mpu (binV .no .sub t19 (.int .i64 1)) fun t20 =>
        Mpu (slT t0_2 none (some t20)) fun t21 =>
        k3 t21 h6) (
        k1 t0_2 t15_2 h6)) (t0) H) fun t0_4 t15_3 h2 =>
  R t0_4 h2
theorem sh_strings_trimRightByte_chk : fchk prg [0, 15] Tryd.f98 2 = true := by kernel_rfl
theorem sh_strings_trimRightByte_den (t0 t1 : Value) (H : Heap) (R : Value → Heap → Prop) : fden prg [0, 15] Tryd.f98 [t0, t1] H R = sh_strings_trimRightByte t0 t1 H R := by kernel_rfl
theorem sh_strings_trimRightByte_calls {t0 t1 : Value} {H : Heap} {R : Value → Heap → Prop} (h : sh_strings_trimRightByte t0 t1 H R) : HCalls prg f_strings_trimRightByte [t0, t1] H R :=
  calls_of Tryd.func98 sh_strings_trimRightByte_chk (by rw [sh_strings_trimRightByte_den]; exact h)

end Go.Proofs.YtmhfanpijdgkjaaDoor
