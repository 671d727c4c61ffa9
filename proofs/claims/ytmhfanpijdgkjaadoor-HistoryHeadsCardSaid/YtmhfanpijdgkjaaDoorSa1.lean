/- PRINTED: clean texts -/
import Derived.Test.YtmhfanpijdgkjaaDoorSa
namespace Go.Proofs.YtmhfanpijdgkjaaDoor
open Go.X
set_option maxRecDepth 100000
-- (syngraph/history.Record).Bytes
def sh_history_Record_Bytes (t0 : Value) (H : Heap) (R : Value → Heap → Prop) : Prop :=
  Mnew H T_history_Record (some (Value.cells t0)) fun t1 h1 =>
  Mpu (buildV prg T_wire_Out []) fun t4 =>
  Mnew h1 T_wire_Out (some (Value.cells t4)) fun t5 h2 =>
  Mpu (fld 0 t1) fun t7 =>
  Mpu (ld1 h2 t7) fun t8 =>
  Mcall prg f_wire_Out_Int [t5, t8] h2 fun t9 h3 =>
  Mpu (fld 1 t1) fun t11 =>
  Mpu (ld1 h3 t11) fun t12 =>
  Mcall prg f_history_put [t5, t12] h3 fun t13 h4 =>
  Mpu (fld 2 t1) fun t15 =>
  Mpu (ld1 h4 t15) fun t16 =>
  Mcall prg f_history_put [t5, t16] h4 fun t17 h5 =>
  Mpu (fld 3 t1) fun t19 =>
  Mpu (fld 0 t19) fun t20 =>
  Mpu (ld1 h5 t20) fun t21 =>
  Mpu (fld 3 t1) fun t23 =>
  Mpu (fld 1 t23) fun t24 =>
  Mpu (ldN 32 h5 t24) fun t25 =>
  Mcall prg f_wire_Out_Int [t5, t21] h5 fun t22 h6 =>
  Mre [(ldN 32 h6 t24, t25)] (
  Mcall prg f_wire_Out_Hash [t22, t25] h6 fun t26 h7 =>
  Mcall prg f_wire_Out_All [t26] h7 fun t27 h8 =>
  R t27 h8)
theorem sh_history_Record_Bytes_chk : fchk prg [] Tryd.f48 1 = true := by kernel_rfl
theorem sh_history_Record_Bytes_den (t0 : Value) (H : Heap) (R : Value → Heap → Prop) : fden prg [] Tryd.f48 [t0] H R = sh_history_Record_Bytes t0 H R := by kernel_rfl
theorem sh_history_Record_Bytes_calls {t0 : Value} {H : Heap} {R : Value → Heap → Prop} (h : sh_history_Record_Bytes t0 H R) : HCalls prg f_history_Record_Bytes [t0] H R :=
  calls_of Tryd.func48 sh_history_Record_Bytes_chk (by rw [sh_history_Record_Bytes_den]; exact h)

-- (*syngraph/history.History).Now
def sh_history_History_Now (t0 : Value) (H : Heap) (R : Value → Heap → Prop) : Prop :=
  Mcall prg f_history_History_Len [t0] H fun t8 h1 =>
  Mpu (binV .no .sub t8 (.int .i64 1)) fun t9 =>
  Mcall prg f_history_History_At [t0, t9] h1 fun t10 h2 =>
  Mpu (extV 0 t10) fun t11 =>
  Mpu (extV 1 t10) fun t12 =>
  Mnew h2 T_history_Record (zcells prg T_history_Record) fun t3 h3 =>
  Mwr (stN 36 h3 t3 t11) fun h4 =>
  Mpu (fld 2 t3) fun t13 =>
  Mpu (ld1 h4 t13) fun t14 =>
  R t14 h4
theorem sh_history_History_Now_chk : fchk prg [] Tryd.f49 1 = true := by kernel_rfl
theorem sh_history_History_Now_den (t0 : Value) (H : Heap) (R : Value → Heap → Prop) : fden prg [] Tryd.f49 [t0] H R = sh_history_History_Now t0 H R := by kernel_rfl
theorem sh_history_History_Now_calls {t0 : Value} {H : Heap} {R : Value → Heap → Prop} (h : sh_history_History_Now t0 H R) : HCalls prg f_history_History_Now [t0] H R :=
  calls_of Tryd.func49 sh_history_History_Now_chk (by rw [sh_history_History_Now_den]; exact h)

-- strconv.Itoa
def sh_strconv_Itoa (t0 : Value) (H : Heap) (R : Value → Heap → Prop) : Prop :=
  Mcall prg f_internal_strconv_Itoa [t0] H fun t4 h1 =>
  R t4 h1
theorem sh_strconv_Itoa_chk : fchk prg [] Tryd.f51 1 = true := by kernel_rfl
theorem sh_strconv_Itoa_den (t0 : Value) (H : Heap) (R : Value → Heap → Prop) : fden prg [] Tryd.f51 [t0] H R = sh_strconv_Itoa t0 H R := by kernel_rfl
theorem sh_strconv_Itoa_calls {t0 : Value} {H : Heap} {R : Value → Heap → Prop} (h : sh_strconv_Itoa t0 H R) : HCalls prg f_strconv_Itoa [t0] H R :=
  calls_of Tryd.func51 sh_strconv_Itoa_chk (by rw [sh_strconv_Itoa_den]; exact h)

-- strings.Join
def sh_strings_Join (t0 t1 : Value) (H : Heap) (R : Value → Heap → Prop) : Prop :=
  Mpu (lenV t0) fun t12 =>
  Mpu (binV .no .eql t12 (.int .i64 0)) fun t14 =>
  Mcd t14 (
    R (.string ⟨#[]⟩) H) (
    Mpu (binV .no .eql t12 (.int .i64 1)) fun t16 =>
    Mcd t16 (
      Mpu (ixS 1 t0 (.int .i64 0)) fun t18 =>
      Mpu (ld1 H t18) fun t19 =>
      R t19 H) (
      J1 (fun k1 =>
        Mpu (lenT t1) fun t21 =>
        Mpu (binV .no .gtr t21 (.int .i64 0)) fun t22 =>
        Mcd t22 (
          J0 (fun k3 =>
            Mpu (lenT t1) fun t24 =>
            Mpu (lenV t0) fun t26 =>
            Mpu (binV .no .sub t26 (.int .i64 1)) fun t27 =>
            Mpu (binV .no .quo (.int .i64 9223372036854775807) t27) fun t28 =>
            Mpu (binV .no .geq t24 t28) fun t29 =>
            Mcd t29 (
              Mpu (mkI prg T_string (.string ⟨#[115, 116, 114, 105, 110, 103, 115, 58, 32, 74, 111, 105, 110, 32, 111, 117, 116, 112, 117, 116, 32, 108, 101, 110, 103, 116, 104, 32, 111, 118, 101, 114, 102, 108, 111, 119]⟩)) fun t30 =>
              False) (
              k3 H)) fun h4 =>
          Mpu (lenT t1) fun t33 =>
          Mpu (lenV t0) fun t35 =>
          Mpu (binV .no .sub t35 (.int .i64 1)) fun t36 =>
          Mpu (binV .no .mul t33 t36) fun t37 =>
          Mpu (binV .no .add (.int .i64 0) t37) fun t38 =>
          k1 t38 h4) (
          k1 (.int .i64 0) H)) fun t5_3 h2 =>
      J2 (fun k5 =>
        Mpu (lenV t0) fun t40 =>
        L2 (fun k7 => fun t5_4 t41_2 h8 =>
          Mpu (binV .no .lss t41_2 t40) fun t42 =>
          Mcd t42 (
            Mpu (ixS 1 t0 t41_2) fun t43 =>
            Mpu (ld1 h8 t43) fun t44 =>
            J0 (fun k9 =>
              Mpu (lenT t44) fun t46 =>
              Mpu (binV .no .sub (.int .i64 9223372036854775807) t5_4) fun t48 =>
              Mpu (binV .no .gtr t46 t48) fun t49 =>
              Mcd t49 (
                Mpu (mkI prg T_string (.string ⟨#[115, 116, 114, 105, 110, 103, 115, 58, 32, 74, 111, 105, 110, 32, 111, 117, 116, 112, 117, 116, 32, 108, 101, 110, 103, 116, 104, 32, 111, 118, 101, 114, 102, 108, 111, 119]⟩)) fun t50 =>
                False) (
                k9 h8)) fun h10 =>
            Mpu (lenT t44) fun t53 =>
            Mpu (binV .no .add t5_4 t53) fun t54 =>
            Mpu (binV .no .add t41_2 (.int .i64 1)) fun t55 =>
            k7 t54 t55 h10) (
            k5 t5_4 t41_2 h8)) (t5_3) ((.int .i64 0)) h2) fun t5_6 t41_4 h6 =>
      Mnew h6 T_strings_Builder (zcells prg T_strings_Builder) fun t8 h11 =>
      Mcall prg f_strings_Builder_Grow [t8, t5_6] h11 fun t57 h12 =>
      Mpu (ixS 1 t0 (.int .i64 0)) fun t59 =>
      Mpu (ld1 h12 t59) fun t60 =>
      Mcall prg f_strings_Builder_WriteString [t8, t60] h12 fun t61 h13 =>
      J1 (fun k14 =>
        Mpu (slS 1 t0 (some (.int .i64 1)) none none) fun t63 =>
        Mpu (lenV t63) fun t64 =>
        L1 (fun k16 => fun t65_2 h17 =>
          Mpu (binV .no .lss t65_2 t64) fun t66 =>
          Mcd t66 (
            Mpu (ixS 1 t63 t65_2) fun t67 =>
            Mpu (ld1 h17 t67) fun t68 =>
            Mcall prg f_strings_Builder_WriteString [t8, t1] h17 fun t70 h18 =>
            Mcall prg f_strings_Builder_WriteString [t8, t68] h18 fun t72 h19 =>
            Mpu (binV .no .add t65_2 (.int .i64 1)) fun t73 =>
            k16 t73 h19) (
            k14 t65_2 h17)) ((.int .i64 0)) h13) fun t65_4 h15 =>
      Mcall prg f_strings_Builder_String [t8] h15 fun t74 h20 =>
      R t74 h20))
theorem sh_strings_Join_chk : fchk prg [5, 41, 65] Tryd.f52 2 = true := by kernel_rfl
theorem sh_strings_Join_den (t0 t1 : Value) (H : Heap) (R : Value → Heap → Prop) : fden prg [5, 41, 65] Tryd.f52 [t0, t1] H R = sh_strings_Join t0 t1 H R := by kernel_rfl
theorem sh_strings_Join_calls {t0 t1 : Value} {H : Heap} {R : Value → Heap → Prop} (h : sh_strings_Join t0 t1 H R) : HCalls prg f_strings_Join [t0, t1] H R :=
  calls_of Tryd.func52 sh_strings_Join_chk (by rw [sh_strings_Join_den]; exact h)

-- (syngraph/history.Record).copied
def sh_history_Record_copied (t0 : Value) (H : Heap) (R : Value → Heap → Prop) : Prop :=
  Mnew H T_history_Record (some (Value.cells t0)) fun t1 h1 =>
  Mnew h1 T_history_Record (zcells prg T_history_Record) fun t2 h2 =>
  Mpu (fld 1 t1) fun t3 =>
  Mpu (ld1 h2 t3) fun t4 =>
  Mpu (fld 2 t1) fun t6 =>
  Mpu (ld1 h2 t6) fun t7 =>
  Mcall prg f_slices_Clone_S_history_Item_history_Item [t4] h2 fun t5 h3 =>
  Mre [(ld1 h3 t6, t7)] (
  Mpu (fld 1 t1) fun t9 =>
  Mcall prg f_slices_Clone_S_history_Item_history_Item [t7] h3 fun t8 h4 =>
  Mwr (st1 h4 t9 t5) fun h5 =>
  Mpu (fld 2 t1) fun t10 =>
  Mwr (st1 h5 t10 t8) fun h6 =>
  Mpu (ldN 36 h6 t1) fun t11 =>
  Mwr (stN 36 h6 t2 t11) fun h7 =>
  Mpu (ldN 36 h7 t2) fun r8 =>
  R r8 h7)
theorem sh_history_Record_copied_chk : fchk prg [] Tryd.f54 1 = true := by kernel_rfl
theorem sh_history_Record_copied_den (t0 : Value) (H : Heap) (R : Value → Heap → Prop) : fden prg [] Tryd.f54 [t0] H R = sh_history_Record_copied t0 H R := by kernel_rfl
theorem sh_history_Record_copied_calls {t0 : Value} {H : Heap} {R : Value → Heap → Prop} (h : sh_history_Record_copied t0 H R) : HCalls prg f_history_Record_copied [t0] H R :=
  calls_of Tryd.func54 sh_history_Record_copied_chk (by rw [sh_history_Record_copied_den]; exact h)

-- syngraph/sha.New
def sh_sha_New (H : Heap) (R : Value → Heap → Prop) : Prop :=
  Mpu (ldN 8 H (.pointer (some ⟨g_sha_begin, 0, none⟩))) fun t1 =>
  Mpu (buildV prg T_sha_Digest [(0, t1)]) fun t2 =>
  Mnew H T_sha_Digest (some (Value.cells t2)) fun t3 h1 =>
  R t3 h1
theorem sh_sha_New_chk : fchk prg [] Tryd.f62 0 = true := by kernel_rfl
theorem sh_sha_New_den (H : Heap) (R : Value → Heap → Prop) : fden prg [] Tryd.f62 [] H R = sh_sha_New H R := by kernel_rfl
theorem sh_sha_New_calls {H : Heap} {R : Value → Heap → Prop} (h : sh_sha_New H R) : HCalls prg f_sha_New [] H R :=
  calls_of Tryd.func62 sh_sha_New_chk (by rw [sh_sha_New_den]; exact h)

-- (*syngraph/sha.Digest).Write
def sh_sha_Digest_Write (t0 t1 : Value) (H : Heap) (R : Value → Heap → Prop) : Prop :=
  Mpu (nck t0) fun t6 =>
  Mpu (fld 9 t6) fun t7 =>
  Mpu (ld1 H t7) fun t8 =>
  Mpu (lenV t1) fun t10 =>
  Mpu (binV .no .add t8 t10) fun t11 =>
  Mpu (nck t0) fun t12 =>
  Mpu (fld 9 t12) fun t13 =>
  Mwr (st1 H t13 t11) fun h1 =>
  J1 (fun k2 =>
    Mpu (nck t0) fun t15 =>
    Mpu (fld 8 t15) fun t16 =>
    Mpu (ld1 h1 t16) fun t17 =>
    Mpu (lenV t17) fun t18 =>
    Mpu (binV .no .gtr t18 (.int .i64 0)) fun t19 =>
    Mcd t19 (
      Mpu (nck t0) fun t21 =>
      Mpu (fld 8 t21) fun t22 =>
      Mpu (ld1 h1 t22) fun t23 =>
      Mpu (lenV t23) fun t24 =>
      Mpu (binV .no .sub (.int .i64 64) t24) fun t25 =>
      Mpu (lenV t1) fun t27 =>
      Mpu (minV true [t25, t27]) fun t28 =>
      Mpu (nck t0) fun t31 =>
      Mpu (fld 8 t31) fun t32 =>
      Mpu (ld1 h1 t32) fun t33 =>
      Mpu (slS 1 t1 none (some t28) none) fun t36 =>
      Mapp T_uint8 1 1 h1 t33 t36 fun t37 h4 =>
      Mpu (nck t0) fun t38 =>
      Mpu (fld 8 t38) fun t39 =>
      Mwr (st1 h4 t39 t37) fun h5 =>
      Mpu (slS 1 t1 (some t28) none none) fun t42 =>
      Mpu (nck t0) fun t44 =>
      Mpu (fld 8 t44) fun t45 =>
      Mpu (ld1 h5 t45) fun t46 =>
      Mpu (lenV t46) fun t47 =>
      Mpu (binV .no .lss t47 (.int .i64 64)) fun t48 =>
      Mcd t48 (
        R (.tuple #[]) h5) (
        Mpu (nck t0) fun t51 =>
        Mpu (fld 8 t51) fun t52 =>
        Mpu (ld1 h5 t52) fun t53 =>
        Mcall prg f_sha_Digest_block [t0, t53] h5 fun t54 h6 =>
        Mpu (nck t0) fun t57 =>
        Mpu (fld 8 t57) fun t58 =>
        Mpu (ld1 h6 t58) fun t59 =>
        Mpu (slS 1 t59 none (some (.int .i64 0)) none) fun t60 =>
        Mpu (nck t0) fun t61 =>
        Mpu (fld 8 t61) fun t62 =>
        Mwr (st1 h6 t62 t60) fun h7 =>
        k2 t42 h7)) (
      k2 t1 h1)) fun t1_3 h3 =>
  J1 (fun k8 =>
    L1 (fun k10 => fun t1_4 h11 =>
      Mpu (lenV t1_4) fun t64 =>
      Mpu (binV .no .geq t64 (.int .i64 64)) fun t65 =>
      Mcd t65 (
        Mpu (slS 1 t1_4 none (some (.int .i64 64)) none) fun t70 =>
        Mcall prg f_sha_Digest_block [t0, t70] h11 fun t71 h12 =>
        Mpu (slS 1 t1_4 (some (.int .i64 64)) none none) fun t67 =>
        k10 t67 h12) (
        k8 t1_4 h11)) (t1_3) h3) fun t1_6 h9 =>
  Mpu (nck t0) fun t74 =>
  Mpu (fld 8 t74) fun t75 =>
  Mpu (ld1 h9 t75) fun t76 =>
  Mapp T_uint8 1 1 h9 t76 t1_6 fun t78 h13 =>
  Mpu (nck t0) fun t79 =>
  Mpu (fld 8 t79) fun t80 =>
  Mwr (st1 h13 t80 t78) fun h14 =>
  R (.tuple #[]) h14
theorem sh_sha_Digest_Write_chk : fchk prg [1] Tryd.f63 2 = true := by kernel_rfl
theorem sh_sha_Digest_Write_den (t0 t1 : Value) (H : Heap) (R : Value → Heap → Prop) : fden prg [1] Tryd.f63 [t0, t1] H R = sh_sha_Digest_Write t0 t1 H R := by kernel_rfl
theorem sh_sha_Digest_Write_calls {t0 t1 : Value} {H : Heap} {R : Value → Heap → Prop} (h : sh_sha_Digest_Write t0 t1 H R) : HCalls prg f_sha_Digest_Write [t0, t1] H R :=
  calls_of Tryd.func63 sh_sha_Digest_Write_chk (by rw [sh_sha_Digest_Write_den]; exact h)

-- (*syngraph/sha.Digest).Sum
def sh_sha_Digest_Sum (t0 : Value) (H : Heap) (R : Value → Heap → Prop) : Prop :=
  Mnew H T_sha_Hash (zcells prg T_sha_Hash) fun t2 h1 =>
  Mcall prg f_sha_Digest_Copy [t0] h1 fun t11 h2 =>
  Mpu (nck t0) fun t13 =>
  Mpu (fld 9 t13) fun t14 =>
  Mpu (ld1 h2 t14) fun t15 =>
  Mpu (cvI .u64 t15) fun t16 =>
  Mpu (binV .no .mul t16 (.int .u64 8)) fun t17 =>
  Mnews h2 T_uint8 1 (bslV prg T_uint8 1 [(0, (.int .u8 128))]) fun t18 h3 =>
  J1 (fun k4 =>
    L1 (fun k6 => fun t5_2 h7 =>
      Mpu (nck t0) fun t20 =>
      Mpu (fld 9 t20) fun t21 =>
      Mpu (ld1 h7 t21) fun t22 =>
      Mpu (lenV t5_2) fun t24 =>
      Mpu (binV .no .add t22 t24) fun t25 =>
      Mpu (binV .no .add t25 (.int .i64 8)) fun t26 =>
      Mpu (binV .no .rem t26 (.int .i64 64)) fun t27 =>
      Mpu (binV .no .neq t27 (.int .i64 0)) fun t28 =>
      Mcd t28 (
        Mnews h7 T_uint8 1 (bslV prg T_uint8 1 [(0, (.int .u8 0))]) fun t30 h8 =>
        Mapp T_uint8 1 1 h8 t5_2 t30 fun t31 h9 =>
        k6 t31 h9) (
        k4 t5_2 h7)) (t18) h3) fun t5_4 h5 =>
  J2 (fun k10 =>
    L2 (fun k12 => fun t5_5 t6_2 h13 =>
      Mpu (binV .no .geq t6_2 (.int .i64 0)) fun t33 =>
      Mcd t33 (
        Mpu (binV .no .mul (.int .i64 8) t6_2) fun t39 =>
        Mpu (binV .no .shr t17 t39) fun t40 =>
        Mpu (cvI .u8 t40) fun t41 =>
        Mnews h13 T_uint8 1 (bslV prg T_uint8 1 [(0, t41)]) fun t42 h14 =>
        Mapp T_uint8 1 1 h14 t5_5 t42 fun t43 h15 =>
        Mpu (binV .no .sub t6_2 (.int .i64 1)) fun t35 =>
        k12 t43 t35 h15) (
        k10 t5_5 t6_2 h13)) (t5_4) ((.int .i64 7)) h5) fun t5_7 t6_4 h11 =>
  Mcall prg f_sha_Digest_Write [t11, t5_7] h11 fun t46 h16 =>
  Mnew h16 T_sha_Hash (zcells prg T_sha_Hash) fun t7 h17 =>
  J1 (fun k18 =>
    Mpu (nck t11) fun t48 =>
    Mpu (fld 0 t48) fun t49 =>
    Mpu (ldN 8 h17 t49) fun t50 =>
    L1 (fun k20 => fun t51_2 h21 =>
      Mpu (binV .no .lss t51_2 (.int .i64 8)) fun t52 =>
      Mcd t52 (
        Mpu (ixV 8 false 1 t50 t51_2) fun t54 =>
        Mpu (binV .no .mul (.int .i64 4) t51_2) fun t56 =>
        Mpu (binV .no .mul (.int .i64 4) t51_2) fun t58 =>
        Mpu (binV .no .add t58 (.int .i64 1)) fun t59 =>
        Mpu (binV .no .mul (.int .i64 4) t51_2) fun t61 =>
        Mpu (binV .no .add t61 (.int .i64 2)) fun t62 =>
        Mpu (binV .no .mul (.int .i64 4) t51_2) fun t64 =>
        Mpu (binV .no .add t64 (.int .i64 3)) fun t65 =>
        Mpu (binV .no .shr t54 (.int .u64 24)) fun t67 =>
        Mpu (cvI .u8 t67) fun t68 =>
        Mpu (binV .no .shr t54 (.int .u64 16)) fun t70 =>
        Mpu (cvI .u8 t70) fun t71 =>
        Mpu (binV .no .shr t54 (.int .u64 8)) fun t73 =>
        Mpu (cvI .u8 t73) fun t74 =>
        Mpu (cvI .u8 t54) fun t76 =>
        Mpu (ixA 32 1 t7 t56) fun t77 =>
        Mwr (st1 h21 t77 t68) fun h22 =>
        Mpu (ixA 32 1 t7 t59) fun t78 =>
        Mwr (st1 h22 t78 t71) fun h23 =>
        Mpu (ixA 32 1 t7 t62) fun t79 =>
        Mwr (st1 h23 t79 t74) fun h24 =>
        Mpu (ixA 32 1 t7 t65) fun t80 =>
        Mwr (st1 h24 t80 t76) fun h25 =>
        Mpu (binV .no .add t51_2 (.int .i64 1)) fun t81 =>
        k20 t81 h25) (
        k18 t51_2 h21)) ((.int .i64 0)) h17) fun t51_4 h19 =>
  Mpu (ldN 32 h19 t7) fun t82 =>
  Mwr (stN 32 h19 t2 t82) fun h26 =>
  Mpu (ldN 32 h26 t2) fun r27 =>
  R r27 h26
theorem sh_sha_Digest_Sum_chk : fchk prg [5, 6, 51] Tryd.f64 1 = true := by kernel_rfl
theorem sh_sha_Digest_Sum_den (t0 : Value) (H : Heap) (R : Value → Heap → Prop) : fden prg [5, 6, 51] Tryd.f64 [t0] H R = sh_sha_Digest_Sum t0 H R := by kernel_rfl
theorem sh_sha_Digest_Sum_calls {t0 : Value} {H : Heap} {R : Value → Heap → Prop} (h : sh_sha_Digest_Sum t0 H R) : HCalls prg f_sha_Digest_Sum [t0] H R :=
  calls_of Tryd.func64 sh_sha_Digest_Sum_chk (by rw [sh_sha_Digest_Sum_den]; exact h)

-- strings.Trim
def sh_strings_Trim (t0 t1 : Value) (H : Heap) (R : Value → Heap → Prop) : Prop :=
  Mpu (binV .no .eql t0 (.string ⟨#[]⟩)) fun t8 =>
  J1 (fun k1 => Mif t8 false (
      Mpu (binV .no .eql t1 (.string ⟨#[]⟩)) fun t11 =>
      k1 t11 H) (
      k1 undef H)) fun t11_2 h2 =>
  Mpu (pickV t8 (.bool true) t11_2) fun t12 =>
  Mcd t12 (
    R t0 h2) (
    Mpu (lenT t1) fun t15 =>
    Mpu (binV .no .eql t15 (.int .i64 1)) fun t16 =>
    J1 (fun k3 => Mif t16 true (
        Mpu (ixT t1 (.int .i64 0)) fun t19 =>
        Mpu (binV .no .lss t19 (.int .u8 128)) fun t20 =>
        k3 t20 h2) (
        k3 undef h2)) fun t20_2 h4 =>
    Mpu (pickV t16 t20_2 (.bool false)) fun t21 =>
    Mcd t21 (
      Mpu (ixT t1 (.int .i64 0)) fun t24 =>
      Mpu (ixT t1 (.int .i64 0)) fun t27 =>
      Mcall prg f_strings_trimRightByte [t0, t24] h4 fun t25 h5 =>
      Mcall prg f_strings_trimLeftByte [t25, t27] h5 fun t28 h6 =>
      R t28 h6) (
      Mcall prg f_strings_makeASCIISet [t1] h4 fun t31 h7 =>
      Mpu (extV 0 t31) fun t32 =>
      Mpu (extV 1 t31) fun t33 =>
      Mnew h7 T_strings_asciiSet (zcells prg T_strings_asciiSet) fun t5 h8 =>
      Mwr (stN 256 h8 t5 t32) fun h9 =>
      Mcd t33 (
        Mcall prg f_strings_trimRightASCII [t0, t5] h9 fun t36 h10 =>
        Mcall prg f_strings_trimLeftASCII [t36, t5] h10 fun t37 h11 =>
        R t37 h11) (
        Mcall prg f_strings_trimRightUnicode [t0, t1] h9 fun t40 h12 =>
        Mcall prg f_strings_trimLeftUnicode [t40, t1] h12 fun t42 h13 =>
        R t42 h13)))
theorem sh_strings_Trim_chk : fchk prg [11, 20] Tryd.f65 2 = true := by kernel_rfl
theorem sh_strings_Trim_den (t0 t1 : Value) (H : Heap) (R : Value → Heap → Prop) : fden prg [11, 20] Tryd.f65 [t0, t1] H R = sh_strings_Trim t0 t1 H R := by kernel_rfl
theorem sh_strings_Trim_calls {t0 t1 : Value} {H : Heap} {R : Value → Heap → Prop} (h : sh_strings_Trim t0 t1 H R) : HCalls prg f_strings_Trim [t0, t1] H R :=
  calls_of Tryd.func65 sh_strings_Trim_chk (by rw [sh_strings_Trim_den]; exact h)

-- syngraph/manifest.Name
def sh_manifest_Name (t0 : Value) (H : Heap) (R : Value → Heap → Prop) : Prop :=
  Mpu (binV .no .neq t0 (.string ⟨#[]⟩)) fun t4 =>
  J1 (fun k1 => Mif t4 true (
      Mpu (lenT t0) fun t7 =>
      Mpu (binV .no .leq t7 (.int .i64 32)) fun t8 =>
      k1 t8 H) (
      k1 undef H)) fun t8_2 h2 =>
  Mpu (pickV t4 t8_2 (.bool false)) fun t9 =>
  J1 (fun k3 => Mif t9 true (
      Mcall prg f_strings_Trim [t0, (.string ⟨#[97, 98, 99, 100, 101, 102, 103, 104, 105, 106, 107, 108, 109, 110, 111, 112, 113, 114, 115, 116, 117, 118, 119, 120, 121, 122, 48, 49, 50, 51, 52, 53, 54, 55, 56, 57, 45]⟩)] h2 fun t12 h4 =>
      Mpu (binV .no .eql t12 (.string ⟨#[]⟩)) fun t13 =>
      k3 t13 h4) (
      k3 undef h2)) fun t13_2 h5 =>
  Mpu (pickV t9 t13_2 (.bool false)) fun t14 =>
  J1 (fun k6 => Mif t14 true (
      Mpu (ixT t0 (.int .i64 0)) fun t17 =>
      Mcall prg f_strings_IndexByte [(.string ⟨#[97, 98, 99, 100, 101, 102, 103, 104, 105, 106, 107, 108, 109, 110, 111, 112, 113, 114, 115, 116, 117, 118, 119, 120, 121, 122]⟩), t17] h5 fun t18 h7 =>
      Mpu (binV .no .geq t18 (.int .i64 0)) fun t19 =>
      k6 t19 h7) (
      k6 undef h5)) fun t19_2 h8 =>
  Mpu (pickV t14 t19_2 (.bool false)) fun t20 =>
  R t20 h8
theorem sh_manifest_Name_chk : fchk prg [8, 13, 19] Tryd.f77 1 = true := by kernel_rfl
theorem sh_manifest_Name_den (t0 : Value) (H : Heap) (R : Value → Heap → Prop) : fden prg [8, 13, 19] Tryd.f77 [t0] H R = sh_manifest_Name t0 H R := by kernel_rfl
theorem sh_manifest_Name_calls {t0 : Value} {H : Heap} {R : Value → Heap → Prop} (h : sh_manifest_Name t0 H R) : HCalls prg f_manifest_Name [t0] H R :=
  calls_of Tryd.func77 sh_manifest_Name_chk (by rw [sh_manifest_Name_den]; exact h)

-- slices.Equal[[]syngraph/history.Item,syngraph/history.Item]
def sh_slices_Equal_S_history_Item_history_Item (t0 t1 : Value) (H : Heap) (R : Value → Heap → Prop) : Prop :=
  Mpu (lenV t0) fun t7 =>
  Mpu (lenV t1) fun t9 =>
  Mpu (binV .no .neq t7 t9) fun t10 =>
  Mcd t10 (
    R (.bool false) H) (
    J1 (fun k1 =>
      Mpu (lenV t0) fun t12 =>
      L1 (fun k3 => fun t13_2 h4 =>
        Mpu (binV .no .lss t13_2 t12) fun t14 =>
        Mcd t14 (
          Mpu (ixS 37 t0 t13_2) fun t18 =>
          Mpu (ldN 37 h4 t18) fun t19 =>
          Mpu (ixS 37 t1 t13_2) fun t22 =>
          Mpu (ldN 37 h4 t22) fun t23 =>
          Mpu (binV (eqK prg T_history_Item) .neq t19 t23) fun t24 =>
          Mcd t24 (
            R (.bool false) h4) (
            Mpu (binV .no .add t13_2 (.int .i64 1)) fun t25 =>
            k3 t25 h4)) (
          k1 t13_2 h4)) ((.int .i64 0)) H) fun t13_4 h2 =>
    R (.bool true) h2)
theorem sh_slices_Equal_S_history_Item_history_Item_chk : fchk prg [13] Tryd.f78 2 = true := by kernel_rfl
theorem sh_slices_Equal_S_history_Item_history_Item_den (t0 t1 : Value) (H : Heap) (R : Value → Heap → Prop) : fden prg [13] Tryd.f78 [t0, t1] H R = sh_slices_Equal_S_history_Item_history_Item t0 t1 H R := by kernel_rfl
theorem sh_slices_Equal_S_history_Item_history_Item_calls {t0 t1 : Value} {H : Heap} {R : Value → Heap → Prop} (h : sh_slices_Equal_S_history_Item_history_Item t0 t1 H R) : HCalls prg f_slices_Equal_S_history_Item_history_Item [t0, t1] H R :=
  calls_of Tryd.func78 sh_slices_Equal_S_history_Item_history_Item_chk (by rw [sh_slices_Equal_S_history_Item_history_Item_den]; exact h)

-- syngraph/tag.sum
def sh_tag_sum (t0 t1 : Value) (H : Heap) (R : Value → Heap → Prop) : Prop :=
  Mnew H T_sha_Hash (zcells prg T_sha_Hash) fun t4 h1 =>
  Mcall prg f_sha_New [] h1 fun t8 h2 =>
  Mpu (cvI .u8 t0) fun t11 =>
  Mnews h2 T_uint8 1 (bslV prg T_uint8 1 [(0, t11)]) fun t12 h3 =>
  Mcall prg f_sha_Digest_Write [t8, t12] h3 fun t13 h4 =>
  J1 (fun k5 =>
    Mpu (lenV t1) fun t15 =>
    L1 (fun k7 => fun t16_2 h8 =>
      Mpu (binV .no .lss t16_2 t15) fun t17 =>
      Mcd t17 (
        Mpu (ixS 1 t1 t16_2) fun t18 =>
        Mpu (ld1 h8 t18) fun t19 =>
        Mcall prg f_sha_Digest_Write [t8, t19] h8 fun t22 h9 =>
        Mpu (binV .no .add t16_2 (.int .i64 1)) fun t23 =>
        k7 t23 h9) (
        k5 t16_2 h8)) ((.int .i64 0)) h4) fun t16_4 h6 =>
  Mcall prg f_sha_Digest_Sum [t8] h6 fun t25 h10 =>
  Mwr (stN 32 h10 t4 t25) fun h11 =>
  Mpu (ldN 32 h11 t4) fun r12 =>
  R r12 h11
theorem sh_tag_sum_chk : fchk prg [16] Tryd.f79 2 = true := by kernel_rfl
theorem sh_tag_sum_den (t0 t1 : Value) (H : Heap) (R : Value → Heap → Prop) : fden prg [16] Tryd.f79 [t0, t1] H R = sh_tag_sum t0 t1 H R := by kernel_rfl
theorem sh_tag_sum_calls {t0 t1 : Value} {H : Heap} {R : Value → Heap → Prop} (h : sh_tag_sum t0 t1 H R) : HCalls prg f_tag_sum [t0, t1] H R :=
  calls_of Tryd.func79 sh_tag_sum_chk (by rw [sh_tag_sum_den]; exact h)

-- (*syngraph/wire.Out).Int
def sh_wire_Out_Int (t0 t1 : Value) (H : Heap) (R : Value → Heap → Prop) : Prop :=
  Mcall prg f_wire_Out_number [t0, t1, (.int .i64 8)] H fun t7 h1 =>
  R t0 h1
theorem sh_wire_Out_Int_chk : fchk prg [] Tryd.f80 2 = true := by kernel_rfl
theorem sh_wire_Out_Int_den (t0 t1 : Value) (H : Heap) (R : Value → Heap → Prop) : fden prg [] Tryd.f80 [t0, t1] H R = sh_wire_Out_Int t0 t1 H R := by kernel_rfl
theorem sh_wire_Out_Int_calls {t0 t1 : Value} {H : Heap} {R : Value → Heap → Prop} (h : sh_wire_Out_Int t0 t1 H R) : HCalls prg f_wire_Out_Int [t0, t1] H R :=
  calls_of Tryd.func80 sh_wire_Out_Int_chk (by rw [sh_wire_Out_Int_den]; exact h)

end Go.Proofs.YtmhfanpijdgkjaaDoor
