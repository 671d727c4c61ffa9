/- JOINED: Sa3 Sa4 Sa5 -/
import Derived.Test.YtconalffokhplaaGreatDoorGE
set_option linter.unusedSimpArgs false
set_option linter.unusedVariables false
/- PRINTED: clean texts -/
namespace Go.Proofs.YtconalffokhplaaGreatDoor
open Go.X
set_option maxRecDepth 100000
-- strings.makeASCIISet
def sh_strings_makeASCIISet (t0 : Value) (H : Heap) (R : Value → Heap → Prop) : Prop :=
  Mnew H T_strings_asciiSet (zcells prg T_strings_asciiSet) fun t2 h1 =>
  J1 (fun k2 =>
    L1 (fun k4 => fun t4_2 h5 =>
      Mpu (lenT t0) fun t8 =>
      Mpu (binV .no .lss t4_2 t8) fun t9 =>
      Mcd t9 (
        Mpu (ixT t0 t4_2) fun t14 =>
        Mpu (binV .no .geq t14 (.int .u8 128)) fun t16 =>
        Mcd t16 (
          Mpu (ldN 256 h5 t2) fun t17 =>
          Mwr (stN 256 h5 t2 t17) fun h6 =>
          Mpu (ldN 256 h6 t2) fun r7 =>
          R (.tuple #[r7, (.bool false)]) h6) (
          Mpu (ixA 256 1 t2 t14) fun t19 =>
          Mwr (st1 h5 t19 (.bool true)) fun h8 =>
          Mpu (binV .no .add t4_2 (.int .i64 1)) fun t11 =>
          k4 t11 h8)) (
        k2 t4_2 h5)) ((.int .i64 0)) h1) fun t4_4 h3 =>
  Mpu (ldN 256 h3 t2) fun t20 =>
  Mwr (stN 256 h3 t2 t20) fun h9 =>
  Mpu (ldN 256 h9 t2) fun r10 =>
  R (.tuple #[r10, (.bool true)]) h9
theorem sh_strings_makeASCIISet_chk : fchkF prg [4] Tryz.f52 1 = true := by kernel_rfl
theorem sh_strings_makeASCIISet_den (t0 : Value) (H : Heap) (R : Value → Heap → Prop) : fdenF prg [4] Tryz.f52 [t0] H R = sh_strings_makeASCIISet t0 H R := by kernel_rfl
theorem sh_strings_makeASCIISet_calls {t0 : Value} {H : Heap} {R : Value → Heap → Prop} (h : sh_strings_makeASCIISet t0 H R) : HCalls prg f_strings_makeASCIISet [t0] H R :=
  calls_ofF Tryz.func52 sh_strings_makeASCIISet_chk (by rw [sh_strings_makeASCIISet_den]; exact h)

-- strings.trimLeftASCII
def sh_strings_trimLeftASCII (t0 t1 : Value) (H : Heap) (R : Value → Heap → Prop) : Prop :=
  J1 (fun k1 =>
    L1 (fun k3 => fun t0_2 h4 =>
      Mpu (lenT t0_2) fun t6 =>
      Mpu (binV .no .gtr t6 (.int .i64 0)) fun t7 =>
      Mcd t7 (
        Mpu (ixT t0_2 (.int .i64 0)) fun t10 =>
        Mcall prg f_strings_asciiSet_contains [t1, t10] h4 fun t11 h5 =>
        Mpu (unV .not t11) fun t12 =>
        Mcd t12 (
          k1 t0_2 h5) (
          Mpu (slT t0_2 (some (.int .i64 1)) none) fun t14 =>
          k3 t14 h5)) (
        k1 t0_2 h4)) (t0) H) fun t0_4 h2 =>
  R t0_4 h2
theorem sh_strings_trimLeftASCII_chk : fchkF prg [0] Tryz.f53 2 = true := by kernel_rfl
theorem sh_strings_trimLeftASCII_den (t0 t1 : Value) (H : Heap) (R : Value → Heap → Prop) : fdenF prg [0] Tryz.f53 [t0, t1] H R = sh_strings_trimLeftASCII t0 t1 H R := by kernel_rfl
theorem sh_strings_trimLeftASCII_calls {t0 t1 : Value} {H : Heap} {R : Value → Heap → Prop} (h : sh_strings_trimLeftASCII t0 t1 H R) : HCalls prg f_strings_trimLeftASCII [t0, t1] H R :=
  calls_ofF Tryz.func53 sh_strings_trimLeftASCII_chk (by rw [sh_strings_trimLeftASCII_den]; exact h)

-- strings.trimRightASCII
def sh_strings_trimRightASCII (t0 t1 : Value) (H : Heap) (R : Value → Heap → Prop) : Prop :=
  J1 (fun k1 =>
    L1 (fun k3 => fun t0_2 h4 =>
      Mpu (lenT t0_2) fun t6 =>
      Mpu (binV .no .gtr t6 (.int .i64 0)) fun t7 =>
      Mcd t7 (
        Mpu (lenT t0_2) fun t11 =>
        Mpu (binV .no .sub t11 (.int .i64 1)) fun t12 =>
        Mpu (ixT t0_2 t12) fun t13 =>
        Mcall prg f_strings_asciiSet_contains [t1, t13] h4 fun t14 h5 =>
        Mpu (unV .not t14) fun t15 =>
        Mcd t15 (
          k1 t0_2 h5) (
          Mpu (lenT t0_2) fun t18 =>
          Mpu (binV .no .sub t18 (.int .i64 1)) fun t19 =>
          Mpu (slT t0_2 none (some t19)) fun t20 =>
          k3 t20 h5)) (
        k1 t0_2 h4)) (t0) H) fun t0_4 h2 =>
  R t0_4 h2
theorem sh_strings_trimRightASCII_chk : fchkF prg [0] Tryz.f54 2 = true := by kernel_rfl
theorem sh_strings_trimRightASCII_den (t0 t1 : Value) (H : Heap) (R : Value → Heap → Prop) : fdenF prg [0] Tryz.f54 [t0, t1] H R = sh_strings_trimRightASCII t0 t1 H R := by kernel_rfl
theorem sh_strings_trimRightASCII_calls {t0 t1 : Value} {H : Heap} {R : Value → Heap → Prop} (h : sh_strings_trimRightASCII t0 t1 H R) : HCalls prg f_strings_trimRightASCII [t0, t1] H R :=
  calls_ofF Tryz.func54 sh_strings_trimRightASCII_chk (by rw [sh_strings_trimRightASCII_den]; exact h)

-- strings.trimLeftUnicode
def sh_strings_trimLeftUnicode (t0 t1 : Value) (H : Heap) (R : Value → Heap → Prop) : Prop :=
  J1 (fun k1 =>
    L1 (fun k3 => fun t0_2 h4 =>
      Mpu (lenT t0_2) fun t8 =>
      Mpu (binV .no .gtr t8 (.int .i64 0)) fun t9 =>
      Mcd t9 (
        Mcall prg f_unicode_utf8_DecodeRuneInString [t0_2] h4 fun t12 h5 =>
        Mpu (extV 0 t12) fun t13 =>
        Mpu (extV 1 t12) fun t14 =>
        Mcall prg f_strings_ContainsRune [t1, t13] h5 fun t17 h6 =>
        Mpu (unV .not t17) fun t18 =>
        Mcd t18 (
          k1 t0_2 h6) (
          Mpu (slT t0_2 (some t14) none) fun t21 =>
          k3 t21 h6)) (
        k1 t0_2 h4)) (t0) H) fun t0_4 h2 =>
  R t0_4 h2
theorem sh_strings_trimLeftUnicode_chk : fchkF prg [0] Tryz.f55 2 = true := by kernel_rfl
theorem sh_strings_trimLeftUnicode_den (t0 t1 : Value) (H : Heap) (R : Value → Heap → Prop) : fdenF prg [0] Tryz.f55 [t0, t1] H R = sh_strings_trimLeftUnicode t0 t1 H R := by kernel_rfl
theorem sh_strings_trimLeftUnicode_calls {t0 t1 : Value} {H : Heap} {R : Value → Heap → Prop} (h : sh_strings_trimLeftUnicode t0 t1 H R) : HCalls prg f_strings_trimLeftUnicode [t0, t1] H R :=
  calls_ofF Tryz.func55 sh_strings_trimLeftUnicode_chk (by rw [sh_strings_trimLeftUnicode_den]; exact h)

-- strings.trimRightUnicode
def sh_strings_trimRightUnicode (t0 t1 : Value) (H : Heap) (R : Value → Heap → Prop) : Prop :=
  J1 (fun k1 =>
    L1 (fun k3 => fun t0_2 h4 =>
      Mpu (lenT t0_2) fun t8 =>
      Mpu (binV .no .gtr t8 (.int .i64 0)) fun t9 =>
      Mcd t9 (
        Mpu (lenT t0_2) fun t12 =>
        Mpu (binV .no .sub t12 (.int .i64 1)) fun t13 =>
        Mpu (ixT t0_2 t13) fun t14 =>
        Mpu (cvI .i32 t14) fun t15 =>
        J2 (fun k5 =>
          Mpu (binV .no .geq t15 (.int .i32 128)) fun t17 =>
          Mcd t17 (
            Mcall prg f_unicode_utf8_DecodeLastRuneInString [t0_2] h4 fun t20 h7 =>
            Mpu (extV 0 t20) fun t21 =>
            Mpu (extV 1 t20) fun t22 =>
            k5 t21 t22 h7) (
            k5 t15 (.int .i64 1) h4)) fun t5_3 t6_3 h6 =>
        Mcall prg f_strings_ContainsRune [t1, t5_3] h6 fun t25 h8 =>
        Mpu (unV .not t25) fun t26 =>
        Mcd t26 (
          k1 t0_2 h8) (
          Mpu (lenT t0_2) fun t29 =>
          Mpu (binV .no .sub t29 t6_3) fun t31 =>
          Mpu (slT t0_2 none (some t31)) fun t32 =>
          k3 t32 h8)) (
        k1 t0_2 h4)) (t0) H) fun t0_4 h2 =>
  R t0_4 h2
theorem sh_strings_trimRightUnicode_chk : fchkF prg [0, 5, 6] Tryz.f56 2 = true := by kernel_rfl
theorem sh_strings_trimRightUnicode_den (t0 t1 : Value) (H : Heap) (R : Value → Heap → Prop) : fdenF prg [0, 5, 6] Tryz.f56 [t0, t1] H R = sh_strings_trimRightUnicode t0 t1 H R := by kernel_rfl
theorem sh_strings_trimRightUnicode_calls {t0 t1 : Value} {H : Heap} {R : Value → Heap → Prop} (h : sh_strings_trimRightUnicode t0 t1 H R) : HCalls prg f_strings_trimRightUnicode [t0, t1] H R :=
  calls_ofF Tryz.func56 sh_strings_trimRightUnicode_chk (by rw [sh_strings_trimRightUnicode_den]; exact h)

-- strings.IndexByte
def sh_strings_IndexByte (t0 t1 : Value) (H : Heap) (R : Value → Heap → Prop) : Prop :=
  Mcall prg f_internal_stringslite_IndexByte [t0, t1] H fun t7 h1 =>
  R t7 h1
theorem sh_strings_IndexByte_chk : fchkF prg [] Tryz.f32 2 = true := by kernel_rfl
theorem sh_strings_IndexByte_den (t0 t1 : Value) (H : Heap) (R : Value → Heap → Prop) : fdenF prg [] Tryz.f32 [t0, t1] H R = sh_strings_IndexByte t0 t1 H R := by kernel_rfl
theorem sh_strings_IndexByte_calls {t0 t1 : Value} {H : Heap} {R : Value → Heap → Prop} (h : sh_strings_IndexByte t0 t1 H R) : HCalls prg f_strings_IndexByte [t0, t1] H R :=
  calls_ofF Tryz.func32 sh_strings_IndexByte_chk (by rw [sh_strings_IndexByte_den]; exact h)

-- bytes.Clone
def sh_bytes_Clone (t0 : Value) (H : Heap) (R : Value → Heap → Prop) : Prop :=
  Mpu (binV .slc .eql t0 (.slice none 0 0)) fun t4 =>
  Mcd t4 (
    R (.slice none 0 0) H) (
    Mnews H T_uint8 0 (bslV prg T_uint8 0 []) fun t5 h1 =>
    Mapp T_uint8 1 1 h1 t5 t0 fun t7 h2 =>
    R t7 h2)
theorem sh_bytes_Clone_chk : fchkF prg [] Tryz.f126 1 = true := by kernel_rfl
theorem sh_bytes_Clone_den (t0 : Value) (H : Heap) (R : Value → Heap → Prop) : fdenF prg [] Tryz.f126 [t0] H R = sh_bytes_Clone t0 H R := by kernel_rfl
theorem sh_bytes_Clone_calls {t0 : Value} {H : Heap} {R : Value → Heap → Prop} (h : sh_bytes_Clone t0 H R) : HCalls prg f_bytes_Clone [t0] H R :=
  calls_ofF Tryz.func126 sh_bytes_Clone_chk (by rw [sh_bytes_Clone_den]; exact h)

-- internal/strconv.FormatInt
def sh_internal_strconv_FormatInt (t0 t1 : Value) (H : Heap) (R : Value → Heap → Prop) : Prop :=
  Mpu (binV .no .eql t1 (.int .i64 10)) fun t11 =>
  Mcd t11 (
    Mpu (binV .no .leq (.int .i64 0) t0) fun t13 =>
    J1 (fun k1 => Mif t13 true (
        Mpu (binV .no .lss t0 (.int .i64 100)) fun t16 =>
        k1 t16 H) (
        k1 undef H)) fun t16_2 h2 =>
    Mpu (pickV t13 t16_2 (.bool false)) fun t17 =>
    Mcd t17 (
      Mcall prg f_internal_strconv_small [t0] h2 fun t19 h3 =>
      R t19 h3) (
      Mnew h2 T_A24_uint8 (zcells prg T_A24_uint8) fun t5 h4 =>
      Mpu (cvI .u64 t0) fun t21 =>
      J1 (fun k5 =>
        Mpu (binV .no .lss t0 (.int .i64 0)) fun t23 =>
        Mcd t23 (
          Mpu (unV .neg t21) fun t25 =>
          k5 t25 h4) (
          k5 t21 h4)) fun t6_3 h6 =>
      Mcall prg f_internal_strconv_numDigits [t6_3] h6 fun t27 h7 =>
      Mpu (binV .no .add (.int .i64 1) t27) fun t29 =>
      Mpu (slA 24 1 t5 (some (.int .i64 1)) (some t29) none) fun t30 =>
      Mcall prg f_internal_strconv_formatBase10 [t30, t6_3] h7 fun t32 h8 =>
      Mpu (binV .no .lss t0 (.int .i64 0)) fun t34 =>
      Mcd t34 (
        Mpu (ixA 24 1 t5 (.int .i64 0)) fun t35 =>
        Mwr (st1 h8 t35 (.int .u8 45)) fun h9 =>
        Mpu (binV .no .add (.int .i64 1) t27) fun t37 =>
        Mpu (slA 24 1 t5 none (some t37) none) fun t38 =>
        Mpu (b2s h9 t38) fun t39 =>
        R t39 h9) (
        Mpu (binV .no .add (.int .i64 1) t27) fun t41 =>
        Mpu (slA 24 1 t5 (some (.int .i64 1)) (some t41) none) fun t42 =>
        Mpu (b2s h8 t42) fun t43 =>
        R t43 h8))) (
    Mpu (cvI .u64 t0) fun t46 =>
    Mpu (binV .no .lss t0 (.int .i64 0)) fun t49 =>
    Mcall prg f_internal_strconv_formatBits [(.slice none 0 0), t46, t1, t49, (.bool false)] H fun t50 h10 =>
    Mpu (extV 0 t50) fun t51 =>
    Mpu (extV 1 t50) fun t52 =>
    R t52 h10)
theorem sh_internal_strconv_FormatInt_chk : fchkF prg [6, 16] Tryz.f123 2 = true := by kernel_rfl
theorem sh_internal_strconv_FormatInt_den (t0 t1 : Value) (H : Heap) (R : Value → Heap → Prop) : fdenF prg [6, 16] Tryz.f123 [t0, t1] H R = sh_internal_strconv_FormatInt t0 t1 H R := by kernel_rfl
theorem sh_internal_strconv_FormatInt_calls {t0 t1 : Value} {H : Heap} {R : Value → Heap → Prop} (h : sh_internal_strconv_FormatInt t0 t1 H R) : HCalls prg f_internal_strconv_FormatInt [t0, t1] H R :=
  calls_ofF Tryz.func123 sh_internal_strconv_FormatInt_chk (by rw [sh_internal_strconv_FormatInt_den]; exact h)

-- (*strings.Builder).copyCheck
def sh_strings_Builder_copyCheck (t0 : Value) (H : Heap) (R : Value → Heap → Prop) : Prop :=
  Mpu (nck t0) fun t3 =>
  Mpu (fld 0 t3) fun t4 =>
  Mpu (ld1 H t4) fun t5 =>
  Mpu (binV .ptr .eql t5 (.pointer none)) fun t6 =>
  Mcd t6 (
    Msem prg (convert T_P_strings_Builder T_unsafe_Pointer t0) H fun t9 h1 =>
    Msem prg (xtV prg f_internal_abi_NoEscape #[t9]) h1 fun t10 h2 =>
    Msem prg (convert T_unsafe_Pointer T_P_strings_Builder t10) h2 fun t11 h3 =>
    Mpu (nck t0) fun t12 =>
    Mpu (fld 0 t12) fun t13 =>
    Mwr (st1 h3 t13 t11) fun h4 =>
    R (.tuple #[]) h4) (
    Mpu (nck t0) fun t15 =>
    Mpu (fld 0 t15) fun t16 =>
    Mpu (ld1 H t16) fun t17 =>
    Mpu (binV .ptr .neq t17 t0) fun t19 =>
    Mcd t19 (
      False) (
      R (.tuple #[]) H))
theorem sh_strings_Builder_copyCheck_chk : fchkF prg [] Tryz.f81 1 = true := by kernel_rfl
theorem sh_strings_Builder_copyCheck_den (t0 : Value) (H : Heap) (R : Value → Heap → Prop) : fdenF prg [] Tryz.f81 [t0] H R = sh_strings_Builder_copyCheck t0 H R := by kernel_rfl
theorem sh_strings_Builder_copyCheck_calls {t0 : Value} {H : Heap} {R : Value → Heap → Prop} (h : sh_strings_Builder_copyCheck t0 H R) : HCalls prg f_strings_Builder_copyCheck [t0] H R :=
  calls_ofF Tryz.func81 sh_strings_Builder_copyCheck_chk (by rw [sh_strings_Builder_copyCheck_den]; exact h)

-- (*strings.Builder).grow
def sh_strings_Builder_grow (t0 t1 : Value) (H : Heap) (R : Value → Heap → Prop) : Prop :=
  Mpu (nck t0) fun t6 =>
  Mpu (fld 1 t6) fun t7 =>
  Mpu (ld1 H t7) fun t8 =>
  Mpu (capV t8) fun t9 =>
  Mpu (binV .no .mul (.int .i64 2) t9) fun t10 =>
  Mpu (binV .no .add t10 t1) fun t12 =>
  Mpu (nck t0) fun t15 =>
  Mpu (fld 1 t15) fun t16 =>
  Mpu (ld1 H t16) fun t17 =>
  Mpu (lenV t17) fun t18 =>
  Msem prg (xtV prg f_internal_bytealg_MakeNoZero #[t12]) H fun t13 h1 =>
  Mre [(ld1 h1 t16, t17)] (
  Mpu (slS 1 t13 none (some t18) none) fun t19 =>
  Mpu (nck t0) fun t22 =>
  Mpu (fld 1 t22) fun t23 =>
  Mpu (ld1 h1 t23) fun t24 =>
  Mcopy 1 h1 t19 t24 fun t25 h2 =>
  Mpu (nck t0) fun t28 =>
  Mpu (fld 1 t28) fun t29 =>
  Mwr (st1 h2 t29 t19) fun h3 =>
  R (.tuple #[]) h3)
theorem sh_strings_Builder_grow_chk : fchkF prg [] Tryz.f82 2 = true := by kernel_rfl
theorem sh_strings_Builder_grow_den (t0 t1 : Value) (H : Heap) (R : Value → Heap → Prop) : fdenF prg [] Tryz.f82 [t0, t1] H R = sh_strings_Builder_grow t0 t1 H R := by kernel_rfl
theorem sh_strings_Builder_grow_calls {t0 t1 : Value} {H : Heap} {R : Value → Heap → Prop} (h : sh_strings_Builder_grow t0 t1 H R) : HCalls prg f_strings_Builder_grow [t0, t1] H R :=
  calls_ofF Tryz.func82 sh_strings_Builder_grow_chk (by rw [sh_strings_Builder_grow_den]; exact h)

-- syngraph/sha.word
def sh_sha_word (t0 : Value) (H : Heap) (R : Value → Heap → Prop) : Prop :=
  Mpu (ixS 1 t0 (.int .i64 0)) fun t4 =>
  Mpu (ld1 H t4) fun t5 =>
  Mpu (cvI .u32 t5) fun t6 =>
  Mpu (binV .no .shl t6 (.int .u64 24)) fun t7 =>
  Mpu (ixS 1 t0 (.int .i64 1)) fun t9 =>
  Mpu (ld1 H t9) fun t10 =>
  Mpu (cvI .u32 t10) fun t11 =>
  Mpu (binV .no .shl t11 (.int .u64 16)) fun t12 =>
  Mpu (binV .no .or t7 t12) fun t13 =>
  Mpu (ixS 1 t0 (.int .i64 2)) fun t15 =>
  Mpu (ld1 H t15) fun t16 =>
  Mpu (cvI .u32 t16) fun t17 =>
  Mpu (binV .no .shl t17 (.int .u64 8)) fun t18 =>
  Mpu (binV .no .or t13 t18) fun t19 =>
  Mpu (ixS 1 t0 (.int .i64 3)) fun t21 =>
  Mpu (ld1 H t21) fun t22 =>
  Mpu (cvI .u32 t22) fun t23 =>
  Mpu (binV .no .or t19 t23) fun t24 =>
  R t24 H
theorem sh_sha_word_chk : fchkF prg [] Tryz.f124 1 = true := by kernel_rfl
theorem sh_sha_word_den (t0 : Value) (H : Heap) (R : Value → Heap → Prop) : fdenF prg [] Tryz.f124 [t0] H R = sh_sha_word t0 H R := by kernel_rfl
theorem sh_sha_word_calls {t0 : Value} {H : Heap} {R : Value → Heap → Prop} (h : sh_sha_word t0 H R) : HCalls prg f_sha_word [t0] H R :=
  calls_ofF Tryz.func124 sh_sha_word_chk (by rw [sh_sha_word_den]; exact h)

end Go.Proofs.YtconalffokhplaaGreatDoor
/- PRINTED: clean texts -/
namespace Go.Proofs.YtconalffokhplaaGreatDoor
open Go.X
set_option maxRecDepth 100000
-- syngraph/sha.right
def sh_sha_right (t0 t1 : Value) (H : Heap) (R : Value → Heap → Prop) : Prop :=
  Mpu (unV .neg t1) fun t7 =>
  Mcall prg f_math_bits_RotateLeft32 [t0, t7] H fun t8 h1 =>
  R t8 h1
theorem sh_sha_right_chk : fchkF prg [] Tryz.f125 2 = true := by kernel_rfl
theorem sh_sha_right_den (t0 t1 : Value) (H : Heap) (R : Value → Heap → Prop) : fdenF prg [] Tryz.f125 [t0, t1] H R = sh_sha_right t0 t1 H R := by kernel_rfl
theorem sh_sha_right_calls {t0 t1 : Value} {H : Heap} {R : Value → Heap → Prop} (h : sh_sha_right t0 t1 H R) : HCalls prg f_sha_right [t0, t1] H R :=
  calls_ofF Tryz.func125 sh_sha_right_chk (by rw [sh_sha_right_den]; exact h)

-- (*strings.asciiSet).contains
def sh_strings_asciiSet_contains (t0 t1 : Value) (H : Heap) (R : Value → Heap → Prop) : Prop :=
  Mpu (nck t0) fun t7 =>
  Mpu (ixA 256 1 t7 t1) fun t8 =>
  Mpu (ld1 H t8) fun t9 =>
  R t9 H
theorem sh_strings_asciiSet_contains_chk : fchkF prg [] Tryz.f84 2 = true := by kernel_rfl
theorem sh_strings_asciiSet_contains_den (t0 t1 : Value) (H : Heap) (R : Value → Heap → Prop) : fdenF prg [] Tryz.f84 [t0, t1] H R = sh_strings_asciiSet_contains t0 t1 H R := by kernel_rfl
theorem sh_strings_asciiSet_contains_calls {t0 t1 : Value} {H : Heap} {R : Value → Heap → Prop} (h : sh_strings_asciiSet_contains t0 t1 H R) : HCalls prg f_strings_asciiSet_contains [t0, t1] H R :=
  calls_ofF Tryz.func84 sh_strings_asciiSet_contains_chk (by rw [sh_strings_asciiSet_contains_den]; exact h)

-- unicode/utf8.DecodeRuneInString
def sh_unicode_utf8_DecodeRuneInString (t0 : Value) (H : Heap) (R : Value → Heap → Prop) : Prop :=
  Mpu (binV .no .neq t0 (.string ⟨#[]⟩)) fun t5 =>
  J1 (fun k1 => Mif t5 true (
      Mpu (ixT t0 (.int .i64 0)) fun t8 =>
      Mpu (binV .no .lss t8 (.int .u8 128)) fun t9 =>
      k1 t9 H) (
      k1 undef H)) fun t9_2 h2 =>
  Mpu (pickV t5 t9_2 (.bool false)) fun t10 =>
  Mcd t10 (
    Mpu (ixT t0 (.int .i64 0)) fun t12 =>
    Mpu (cvI .i32 t12) fun t13 =>
    R (.tuple #[t13, (.int .i64 1)]) h2) (
    Mcall prg f_unicode_utf8_decodeRuneInStringSlow [t0] h2 fun t16 h3 =>
    Mpu (extV 0 t16) fun t17 =>
    Mpu (extV 1 t16) fun t18 =>
    R (.tuple #[t17, t18]) h3)
theorem sh_unicode_utf8_DecodeRuneInString_chk : fchkF prg [9] Tryz.f85 1 = true := by kernel_rfl
theorem sh_unicode_utf8_DecodeRuneInString_den (t0 : Value) (H : Heap) (R : Value → Heap → Prop) : fdenF prg [9] Tryz.f85 [t0] H R = sh_unicode_utf8_DecodeRuneInString t0 H R := by kernel_rfl
theorem sh_unicode_utf8_DecodeRuneInString_calls {t0 : Value} {H : Heap} {R : Value → Heap → Prop} (h : sh_unicode_utf8_DecodeRuneInString t0 H R) : HCalls prg f_unicode_utf8_DecodeRuneInString [t0] H R :=
  calls_ofF Tryz.func85 sh_unicode_utf8_DecodeRuneInString_chk (by rw [sh_unicode_utf8_DecodeRuneInString_den]; exact h)

-- strings.ContainsRune
def sh_strings_ContainsRune (t0 t1 : Value) (H : Heap) (R : Value → Heap → Prop) : Prop :=
  Mcall prg f_strings_IndexRune [t0, t1] H fun t7 h1 =>
  Mpu (binV .no .geq t7 (.int .i64 0)) fun t8 =>
  R t8 h1
theorem sh_strings_ContainsRune_chk : fchkF prg [] Tryz.f86 2 = true := by kernel_rfl
theorem sh_strings_ContainsRune_den (t0 t1 : Value) (H : Heap) (R : Value → Heap → Prop) : fdenF prg [] Tryz.f86 [t0, t1] H R = sh_strings_ContainsRune t0 t1 H R := by kernel_rfl
theorem sh_strings_ContainsRune_calls {t0 t1 : Value} {H : Heap} {R : Value → Heap → Prop} (h : sh_strings_ContainsRune t0 t1 H R) : HCalls prg f_strings_ContainsRune [t0, t1] H R :=
  calls_ofF Tryz.func86 sh_strings_ContainsRune_chk (by rw [sh_strings_ContainsRune_den]; exact h)

-- unicode/utf8.DecodeLastRuneInString
def sh_unicode_utf8_DecodeLastRuneInString (t0 : Value) (H : Heap) (R : Value → Heap → Prop) : Prop :=
  Mpu (lenT t0) fun t8 =>
  Mpu (binV .no .eql t8 (.int .i64 0)) fun t10 =>
  Mcd t10 (
    R (.tuple #[(.int .i32 65533), (.int .i64 0)]) H) (
    Mpu (binV .no .sub t8 (.int .i64 1)) fun t12 =>
    Mpu (ixT t0 t12) fun t15 =>
    Mpu (cvI .i32 t15) fun t16 =>
    Mpu (binV .no .lss t16 (.int .i32 128)) fun t18 =>
    Mcd t18 (
      R (.tuple #[t16, (.int .i64 1)]) H) (
      Mpu (binV .no .sub t8 (.int .i64 4)) fun t21 =>
      Mpu (minV false [t21, (.int .i64 0)]) fun t22 =>
      J1 (fun k1 =>
        Mpu (binV .no .sub t12 (.int .i64 1)) fun t24 =>
        L1 (fun k3 => fun t5_3 h4 =>
          Mpu (binV .no .geq t5_3 t22) fun t27 =>
          Mcd t27 (
            Mpu (ixT t0 t5_3) fun t32 =>
            Mcall prg f_unicode_utf8_RuneStart [t32] h4 fun t33 h5 =>
            Mcd t33 (
              k1 t5_3 h5) (
              Mpu (binV .no .sub t5_3 (.int .i64 1)) fun t29 =>
              k3 t29 h5)) (
            k1 t5_3 h4)) (t24) H) fun t5_5 h2 =>
      J1 (fun k6 =>
        Mpu (binV .no .lss t5_5 (.int .i64 0)) fun t35 =>
        Mcd t35 (
          k6 (.int .i64 0) h2) (
          k6 t5_5 h2)) fun t5_7 h7 =>
      Mpu (slT t0 (some t5_7) (some t8)) fun t40 =>
      Mcall prg f_unicode_utf8_DecodeRuneInString [t40] h7 fun t41 h8 =>
      Mpu (extV 0 t41) fun t42 =>
      Mpu (extV 1 t41) fun t43 =>
      Mpu (binV .no .add t5_7 t43) fun t46 =>
      Mpu (binV .no .neq t46 t8) fun t48 =>
      Mcd t48 (
        R (.tuple #[(.int .i32 65533), (.int .i64 1)]) h8) (
        R (.tuple #[t42, t43]) h8)))
theorem sh_unicode_utf8_DecodeLastRuneInString_chk : fchkF prg [5] Tryz.f87 1 = true := by kernel_rfl
theorem sh_unicode_utf8_DecodeLastRuneInString_den (t0 : Value) (H : Heap) (R : Value → Heap → Prop) : fdenF prg [5] Tryz.f87 [t0] H R = sh_unicode_utf8_DecodeLastRuneInString t0 H R := by kernel_rfl
theorem sh_unicode_utf8_DecodeLastRuneInString_calls {t0 : Value} {H : Heap} {R : Value → Heap → Prop} (h : sh_unicode_utf8_DecodeLastRuneInString t0 H R) : HCalls prg f_unicode_utf8_DecodeLastRuneInString [t0] H R :=
  calls_ofF Tryz.func87 sh_unicode_utf8_DecodeLastRuneInString_chk (by rw [sh_unicode_utf8_DecodeLastRuneInString_den]; exact h)

-- internal/stringslite.IndexByte
def sh_internal_stringslite_IndexByte (t0 t1 : Value) (H : Heap) (R : Value → Heap → Prop) : Prop :=
  Msem prg (xtV prg f_internal_bytealg_IndexByteString #[t0, t1]) H fun t7 h1 =>
  R t7 h1
theorem sh_internal_stringslite_IndexByte_chk : fchkF prg [] Tryz.f57 2 = true := by kernel_rfl
theorem sh_internal_stringslite_IndexByte_den (t0 t1 : Value) (H : Heap) (R : Value → Heap → Prop) : fdenF prg [] Tryz.f57 [t0, t1] H R = sh_internal_stringslite_IndexByte t0 t1 H R := by kernel_rfl
theorem sh_internal_stringslite_IndexByte_calls {t0 t1 : Value} {H : Heap} {R : Value → Heap → Prop} (h : sh_internal_stringslite_IndexByte t0 t1 H R) : HCalls prg f_internal_stringslite_IndexByte [t0, t1] H R :=
  calls_ofF Tryz.func57 sh_internal_stringslite_IndexByte_chk (by rw [sh_internal_stringslite_IndexByte_den]; exact h)

-- internal/strconv.small
def sh_internal_strconv_small (t0 : Value) (H : Heap) (R : Value → Heap → Prop) : Prop :=
  Mpu (binV .no .lss t0 (.int .i64 10)) fun t4 =>
  Mcd t4 (
    Mpu (binV .no .add t0 (.int .i64 1)) fun t7 =>
    Mpu (slT (.string ⟨#[48, 49, 50, 51, 52, 53, 54, 55, 56, 57, 97, 98, 99, 100, 101, 102, 103, 104, 105, 106, 107, 108, 109, 110, 111, 112, 113, 114, 115, 116, 117, 118, 119, 120, 121, 122]⟩) (some t0) (some t7)) fun t8 =>
    R t8 H) (
    Mpu (binV .no .mul t0 (.int .i64 2)) fun t10 =>
    Mpu (binV .no .mul t0 (.int .i64 2)) fun t12 =>
    Mpu (binV .no .add t12 (.int .i64 2)) fun t13 =>
    Mpu (slT (.string ⟨#[48, 48, 48, 49, 48, 50, 48, 51, 48, 52, 48, 53, 48, 54, 48, 55, 48, 56, 48, 57, 49, 48, 49, 49, 49, 50, 49, 51, 49, 52, 49, 53, 49, 54, 49, 55, 49, 56, 49, 57, 50, 48, 50, 49, 50, 50, 50, 51, 50, 52, 50, 53, 50, 54, 50, 55, 50, 56, 50, 57, 51, 48, 51, 49, 51, 50, 51, 51, 51, 52, 51, 53, 51, 54, 51, 55, 51, 56, 51, 57, 52, 48, 52, 49, 52, 50, 52, 51, 52, 52, 52, 53, 52, 54, 52, 55, 52, 56, 52, 57, 53, 48, 53, 49, 53, 50, 53, 51, 53, 52, 53, 53, 53, 54, 53, 55, 53, 56, 53, 57, 54, 48, 54, 49, 54, 50, 54, 51, 54, 52, 54, 53, 54, 54, 54, 55, 54, 56, 54, 57, 55, 48, 55, 49, 55, 50, 55, 51, 55, 52, 55, 53, 55, 54, 55, 55, 55, 56, 55, 57, 56, 48, 56, 49, 56, 50, 56, 51, 56, 52, 56, 53, 56, 54, 56, 55, 56, 56, 56, 57, 57, 48, 57, 49, 57, 50, 57, 51, 57, 52, 57, 53, 57, 54, 57, 55, 57, 56, 57, 57]⟩) (some t10) (some t13)) fun t14 =>
    R t14 H)
theorem sh_internal_strconv_small_chk : fchkF prg [] Tryz.f138 1 = true := by kernel_rfl
theorem sh_internal_strconv_small_den (t0 : Value) (H : Heap) (R : Value → Heap → Prop) : fdenF prg [] Tryz.f138 [t0] H R = sh_internal_strconv_small t0 H R := by kernel_rfl
theorem sh_internal_strconv_small_calls {t0 : Value} {H : Heap} {R : Value → Heap → Prop} (h : sh_internal_strconv_small t0 H R) : HCalls prg f_internal_strconv_small [t0] H R :=
  calls_ofF Tryz.func138 sh_internal_strconv_small_chk (by rw [sh_internal_strconv_small_den]; exact h)

-- internal/strconv.numDigits
def sh_internal_strconv_numDigits (t0 : Value) (H : Heap) (R : Value → Heap → Prop) : Prop :=
  Mcall prg f_math_bits_Len64 [t0] H fun t5 h1 =>
  Mcall prg f_internal_strconv_log10Pow2 [t5] h1 fun t6 h2 =>
  Mpu (ixA 20 1 (.pointer (some ⟨g_internal_strconv_uint64pow10, 0, none⟩)) t6) fun t10 =>
  Mpu (ld1 h2 t10) fun t11 =>
  Mpu (binV .no .geq t0 t11) fun t12 =>
  Mcall prg f_internal_strconv_bool2_int [t12] h2 fun t13 h3 =>
  Mpu (binV .no .add t6 t13) fun t14 =>
  R t14 h3
theorem sh_internal_strconv_numDigits_chk : fchkF prg [] Tryz.f139 1 = true := by kernel_rfl
theorem sh_internal_strconv_numDigits_den (t0 : Value) (H : Heap) (R : Value → Heap → Prop) : fdenF prg [] Tryz.f139 [t0] H R = sh_internal_strconv_numDigits t0 H R := by kernel_rfl
theorem sh_internal_strconv_numDigits_calls {t0 : Value} {H : Heap} {R : Value → Heap → Prop} (h : sh_internal_strconv_numDigits t0 H R) : HCalls prg f_internal_strconv_numDigits [t0] H R :=
  calls_ofF Tryz.func139 sh_internal_strconv_numDigits_chk (by rw [sh_internal_strconv_numDigits_den]; exact h)

-- internal/strconv.formatBase10
def sh_internal_strconv_formatBase10 (t0 t1 : Value) (H : Heap) (R : Value → Heap → Prop) : Prop :=
  Mpu (lenV t0) fun t18 =>
  J2 (fun k1 =>
    L2 (fun k3 => fun t1_2 t4_2 h4 =>
      Mpu (binV .no .geq t4_2 (.int .i64 8)) fun t20 =>
      Mcd t20 (
        Mpu (binV .no .rem t1_2 (.int .u64 100000000)) fun t22 =>
        Mpu (cvI .u32 t22) fun t23 =>
        Mpu (binV .no .quo t1_2 (.int .u64 100000000)) fun t25 =>
        Mpu (binV .no .quo t23 (.int .u32 10000)) fun t27 =>
        Mpu (binV .no .rem t23 (.int .u32 10000)) fun t29 =>
        Mpu (binV .no .quo t29 (.int .u32 100)) fun t31 =>
        Mpu (binV .no .mul t31 (.int .u32 2)) fun t32 =>
        Mpu (binV .no .rem t29 (.int .u32 100)) fun t34 =>
        Mpu (binV .no .mul t34 (.int .u32 2)) fun t35 =>
        Mpu (binV .no .quo t27 (.int .u32 100)) fun t37 =>
        Mpu (binV .no .mul t37 (.int .u32 2)) fun t38 =>
        Mpu (binV .no .rem t27 (.int .u32 100)) fun t40 =>
        Mpu (binV .no .mul t40 (.int .u32 2)) fun t41 =>
        Mpu (binV .no .sub t4_2 (.int .i64 1)) fun t44 =>
        Mpu (binV .no .sub t4_2 (.int .i64 2)) fun t47 =>
        Mpu (binV .no .add t35 (.int .u32 1)) fun t49 =>
        Mpu (ixT (.string ⟨#[48, 48, 48, 49, 48, 50, 48, 51, 48, 52, 48, 53, 48, 54, 48, 55, 48, 56, 48, 57, 49, 48, 49, 49, 49, 50, 49, 51, 49, 52, 49, 53, 49, 54, 49, 55, 49, 56, 49, 57, 50, 48, 50, 49, 50, 50, 50, 51, 50, 52, 50, 53, 50, 54, 50, 55, 50, 56, 50, 57, 51, 48, 51, 49, 51, 50, 51, 51, 51, 52, 51, 53, 51, 54, 51, 55, 51, 56, 51, 57, 52, 48, 52, 49, 52, 50, 52, 51, 52, 52, 52, 53, 52, 54, 52, 55, 52, 56, 52, 57, 53, 48, 53, 49, 53, 50, 53, 51, 53, 52, 53, 53, 53, 54, 53, 55, 53, 56, 53, 57, 54, 48, 54, 49, 54, 50, 54, 51, 54, 52, 54, 53, 54, 54, 54, 55, 54, 56, 54, 57, 55, 48, 55, 49, 55, 50, 55, 51, 55, 52, 55, 53, 55, 54, 55, 55, 55, 56, 55, 57, 56, 48, 56, 49, 56, 50, 56, 51, 56, 52, 56, 53, 56, 54, 56, 55, 56, 56, 56, 57, 57, 48, 57, 49, 57, 50, 57, 51, 57, 52, 57, 53, 57, 54, 57, 55, 57, 56, 57, 57]⟩) t49) fun t50 =>
        Mpu (ixT (.string ⟨#[48, 48, 48, 49, 48, 50, 48, 51, 48, 52, 48, 53, 48, 54, 48, 55, 48, 56, 48, 57, 49, 48, 49, 49, 49, 50, 49, 51, 49, 52, 49, 53, 49, 54, 49, 55, 49, 56, 49, 57, 50, 48, 50, 49, 50, 50, 50, 51, 50, 52, 50, 53, 50, 54, 50, 55, 50, 56, 50, 57, 51, 48, 51, 49, 51, 50, 51, 51, 51, 52, 51, 53, 51, 54, 51, 55, 51, 56, 51, 57, 52, 48, 52, 49, 52, 50, 52, 51, 52, 52, 52, 53, 52, 54, 52, 55, 52, 56, 52, 57, 53, 48, 53, 49, 53, 50, 53, 51, 53, 52, 53, 53, 53, 54, 53, 55, 53, 56, 53, 57, 54, 48, 54, 49, 54, 50, 54, 51, 54, 52, 54, 53, 54, 54, 54, 55, 54, 56, 54, 57, 55, 48, 55, 49, 55, 50, 55, 51, 55, 52, 55, 53, 55, 54, 55, 55, 55, 56, 55, 57, 56, 48, 56, 49, 56, 50, 56, 51, 56, 52, 56, 53, 56, 54, 56, 55, 56, 56, 56, 57, 57, 48, 57, 49, 57, 50, 57, 51, 57, 52, 57, 53, 57, 54, 57, 55, 57, 56, 57, 57]⟩) t35) fun t52 =>
        Mpu (ixS 1 t0 t44) fun t53 =>
        Mwr (st1 h4 t53 t50) fun h5 =>
        Mpu (ixS 1 t0 t47) fun t54 =>
        Mwr (st1 h5 t54 t52) fun h6 =>
        Mpu (binV .no .sub t4_2 (.int .i64 3)) fun t57 =>
        Mpu (binV .no .sub t4_2 (.int .i64 4)) fun t60 =>
        Mpu (binV .no .add t32 (.int .u32 1)) fun t62 =>
        Mpu (ixT (.string ⟨#[48, 48, 48, 49, 48, 50, 48, 51, 48, 52, 48, 53, 48, 54, 48, 55, 48, 56, 48, 57, 49, 48, 49, 49, 49, 50, 49, 51, 49, 52, 49, 53, 49, 54, 49, 55, 49, 56, 49, 57, 50, 48, 50, 49, 50, 50, 50, 51, 50, 52, 50, 53, 50, 54, 50, 55, 50, 56, 50, 57, 51, 48, 51, 49, 51, 50, 51, 51, 51, 52, 51, 53, 51, 54, 51, 55, 51, 56, 51, 57, 52, 48, 52, 49, 52, 50, 52, 51, 52, 52, 52, 53, 52, 54, 52, 55, 52, 56, 52, 57, 53, 48, 53, 49, 53, 50, 53, 51, 53, 52, 53, 53, 53, 54, 53, 55, 53, 56, 53, 57, 54, 48, 54, 49, 54, 50, 54, 51, 54, 52, 54, 53, 54, 54, 54, 55, 54, 56, 54, 57, 55, 48, 55, 49, 55, 50, 55, 51, 55, 52, 55, 53, 55, 54, 55, 55, 55, 56, 55, 57, 56, 48, 56, 49, 56, 50, 56, 51, 56, 52, 56, 53, 56, 54, 56, 55, 56, 56, 56, 57, 57, 48, 57, 49, 57, 50, 57, 51, 57, 52, 57, 53, 57, 54, 57, 55, 57, 56, 57, 57]⟩) t62) fun t63 =>
        Mpu (ixT (.string ⟨#[48, 48, 48, 49, 48, 50, 48, 51, 48, 52, 48, 53, 48, 54, 48, 55, 48, 56, 48, 57, 49, 48, 49, 49, 49, 50, 49, 51, 49, 52, 49, 53, 49, 54, 49, 55, 49, 56, 49, 57, 50, 48, 50, 49, 50, 50, 50, 51, 50, 52, 50, 53, 50, 54, 50, 55, 50, 56, 50, 57, 51, 48, 51, 49, 51, 50, 51, 51, 51, 52, 51, 53, 51, 54, 51, 55, 51, 56, 51, 57, 52, 48, 52, 49, 52, 50, 52, 51, 52, 52, 52, 53, 52, 54, 52, 55, 52, 56, 52, 57, 53, 48, 53, 49, 53, 50, 53, 51, 53, 52, 53, 53, 53, 54, 53, 55, 53, 56, 53, 57, 54, 48, 54, 49, 54, 50, 54, 51, 54, 52, 54, 53, 54, 54, 54, 55, 54, 56, 54, 57, 55, 48, 55, 49, 55, 50, 55, 51, 55, 52, 55, 53, 55, 54, 55, 55, 55, 56, 55, 57, 56, 48, 56, 49, 56, 50, 56, 51, 56, 52, 56, 53, 56, 54, 56, 55, 56, 56, 56, 57, 57, 48, 57, 49, 57, 50, 57, 51, 57, 52, 57, 53, 57, 54, 57, 55, 57, 56, 57, 57]⟩) t32) fun t65 =>
        Mpu (ixS 1 t0 t57) fun t66 =>
        Mwr (st1 h6 t66 t63) fun h7 =>
        Mpu (ixS 1 t0 t60) fun t67 =>
        Mwr (st1 h7 t67 t65) fun h8 =>
        Mpu (binV .no .sub t4_2 (.int .i64 5)) fun t70 =>
        Mpu (binV .no .sub t4_2 (.int .i64 6)) fun t73 =>
        Mpu (binV .no .add t41 (.int .u32 1)) fun t75 =>
        Mpu (ixT (.string ⟨#[48, 48, 48, 49, 48, 50, 48, 51, 48, 52, 48, 53, 48, 54, 48, 55, 48, 56, 48, 57, 49, 48, 49, 49, 49, 50, 49, 51, 49, 52, 49, 53, 49, 54, 49, 55, 49, 56, 49, 57, 50, 48, 50, 49, 50, 50, 50, 51, 50, 52, 50, 53, 50, 54, 50, 55, 50, 56, 50, 57, 51, 48, 51, 49, 51, 50, 51, 51, 51, 52, 51, 53, 51, 54, 51, 55, 51, 56, 51, 57, 52, 48, 52, 49, 52, 50, 52, 51, 52, 52, 52, 53, 52, 54, 52, 55, 52, 56, 52, 57, 53, 48, 53, 49, 53, 50, 53, 51, 53, 52, 53, 53, 53, 54, 53, 55, 53, 56, 53, 57, 54, 48, 54, 49, 54, 50, 54, 51, 54, 52, 54, 53, 54, 54, 54, 55, 54, 56, 54, 57, 55, 48, 55, 49, 55, 50, 55, 51, 55, 52, 55, 53, 55, 54, 55, 55, 55, 56, 55, 57, 56, 48, 56, 49, 56, 50, 56, 51, 56, 52, 56, 53, 56, 54, 56, 55, 56, 56, 56, 57, 57, 48, 57, 49, 57, 50, 57, 51, 57, 52, 57, 53, 57, 54, 57, 55, 57, 56, 57, 57]⟩) t75) fun t76 =>
        Mpu (ixT (.string ⟨#[48, 48, 48, 49, 48, 50, 48, 51, 48, 52, 48, 53, 48, 54, 48, 55, 48, 56, 48, 57, 49, 48, 49, 49, 49, 50, 49, 51, 49, 52, 49, 53, 49, 54, 49, 55, 49, 56, 49, 57, 50, 48, 50, 49, 50, 50, 50, 51, 50, 52, 50, 53, 50, 54, 50, 55, 50, 56, 50, 57, 51, 48, 51, 49, 51, 50, 51, 51, 51, 52, 51, 53, 51, 54, 51, 55, 51, 56, 51, 57, 52, 48, 52, 49, 52, 50, 52, 51, 52, 52, 52, 53, 52, 54, 52, 55, 52, 56, 52, 57, 53, 48, 53, 49, 53, 50, 53, 51, 53, 52, 53, 53, 53, 54, 53, 55, 53, 56, 53, 57, 54, 48, 54, 49, 54, 50, 54, 51, 54, 52, 54, 53, 54, 54, 54, 55, 54, 56, 54, 57, 55, 48, 55, 49, 55, 50, 55, 51, 55, 52, 55, 53, 55, 54, 55, 55, 55, 56, 55, 57, 56, 48, 56, 49, 56, 50, 56, 51, 56, 52, 56, 53, 56, 54, 56, 55, 56, 56, 56, 57, 57, 48, 57, 49, 57, 50, 57, 51, 57, 52, 57, 53, 57, 54, 57, 55, 57, 56, 57, 57]⟩) t41) fun t78 =>
        Mpu (ixS 1 t0 t70) fun t79 =>
        Mwr (st1 h8 t79 t76) fun h9 =>
        Mpu (ixS 1 t0 t73) fun t80 =>
        Mwr (st1 h9 t80 t78) fun h10 =>
        Mpu (binV .no .sub t4_2 (.int .i64 7)) fun t83 =>
        Mpu (binV .no .sub t4_2 (.int .i64 8)) fun t86 =>
        Mpu (binV .no .add t38 (.int .u32 1)) fun t88 =>
        Mpu (ixT (.string ⟨#[48, 48, 48, 49, 48, 50, 48, 51, 48, 52, 48, 53, 48, 54, 48, 55, 48, 56, 48, 57, 49, 48, 49, 49, 49, 50, 49, 51, 49, 52, 49, 53, 49, 54, 49, 55, 49, 56, 49, 57, 50, 48, 50, 49, 50, 50, 50, 51, 50, 52, 50, 53, 50, 54, 50, 55, 50, 56, 50, 57, 51, 48, 51, 49, 51, 50, 51, 51, 51, 52, 51, 53, 51, 54, 51, 55, 51, 56, 51, 57, 52, 48, 52, 49, 52, 50, 52, 51, 52, 52, 52, 53, 52, 54, 52, 55, 52, 56, 52, 57, 53, 48, 53, 49, 53, 50, 53, 51, 53, 52, 53, 53, 53, 54, 53, 55, 53, 56, 53, 57, 54, 48, 54, 49, 54, 50, 54, 51, 54, 52, 54, 53, 54, 54, 54, 55, 54, 56, 54, 57, 55, 48, 55, 49, 55, 50, 55, 51, 55, 52, 55, 53, 55, 54, 55, 55, 55, 56, 55, 57, 56, 48, 56, 49, 56, 50, 56, 51, 56, 52, 56, 53, 56, 54, 56, 55, 56, 56, 56, 57, 57, 48, 57, 49, 57, 50, 57, 51, 57, 52, 57, 53, 57, 54, 57, 55, 57, 56, 57, 57]⟩) t88) fun t89 =>
        Mpu (ixT (.string ⟨#[48, 48, 48, 49, 48, 50, 48, 51, 48, 52, 48, 53, 48, 54, 48, 55, 48, 56, 48, 57, 49, 48, 49, 49, 49, 50, 49, 51, 49, 52, 49, 53, 49, 54, 49, 55, 49, 56, 49, 57, 50, 48, 50, 49, 50, 50, 50, 51, 50, 52, 50, 53, 50, 54, 50, 55, 50, 56, 50, 57, 51, 48, 51, 49, 51, 50, 51, 51, 51, 52, 51, 53, 51, 54, 51, 55, 51, 56, 51, 57, 52, 48, 52, 49, 52, 50, 52, 51, 52, 52, 52, 53, 52, 54, 52, 55, 52, 56, 52, 57, 53, 48, 53, 49, 53, 50, 53, 51, 53, 52, 53, 53, 53, 54, 53, 55, 53, 56, 53, 57, 54, 48, 54, 49, 54, 50, 54, 51, 54, 52, 54, 53, 54, 54, 54, 55, 54, 56, 54, 57, 55, 48, 55, 49, 55, 50, 55, 51, 55, 52, 55, 53, 55, 54, 55, 55, 55, 56, 55, 57, 56, 48, 56, 49, 56, 50, 56, 51, 56, 52, 56, 53, 56, 54, 56, 55, 56, 56, 56, 57, 57, 48, 57, 49, 57, 50, 57, 51, 57, 52, 57, 53, 57, 54, 57, 55, 57, 56, 57, 57]⟩) t38) fun t91 =>
        Mpu (ixS 1 t0 t83) fun t92 =>
        Mwr (st1 h10 t92 t89) fun h11 =>
        Mpu (ixS 1 t0 t86) fun t93 =>
        Mwr (st1 h11 t93 t91) fun h12 =>
        Mpu (binV .no .sub t4_2 (.int .i64 8)) fun t95 =>
        k3 t25 t95 h12) (
        k1 t1_2 t4_2 h4)) (t1) (t18) H) fun t1_4 t4_4 h2 =>
  Mpu (cvI .u32 t1_4) fun t97 =>
  J2 (fun k13 =>
    Mpu (binV .no .geq t4_4 (.int .i64 4)) fun t99 =>
    Mcd t99 (
      Mpu (binV .no .rem t97 (.int .u32 10000)) fun t101 =>
      Mpu (binV .no .quo t97 (.int .u32 10000)) fun t103 =>
      Mpu (binV .no .quo t101 (.int .u32 100)) fun t105 =>
      Mpu (binV .no .mul t105 (.int .u32 2)) fun t106 =>
      Mpu (binV .no .rem t101 (.int .u32 100)) fun t108 =>
      Mpu (binV .no .mul t108 (.int .u32 2)) fun t109 =>
      Mpu (binV .no .sub t4_4 (.int .i64 1)) fun t112 =>
      Mpu (binV .no .sub t4_4 (.int .i64 2)) fun t115 =>
      Mpu (binV .no .add t109 (.int .u32 1)) fun t117 =>
      Mpu (ixT (.string ⟨#[48, 48, 48, 49, 48, 50, 48, 51, 48, 52, 48, 53, 48, 54, 48, 55, 48, 56, 48, 57, 49, 48, 49, 49, 49, 50, 49, 51, 49, 52, 49, 53, 49, 54, 49, 55, 49, 56, 49, 57, 50, 48, 50, 49, 50, 50, 50, 51, 50, 52, 50, 53, 50, 54, 50, 55, 50, 56, 50, 57, 51, 48, 51, 49, 51, 50, 51, 51, 51, 52, 51, 53, 51, 54, 51, 55, 51, 56, 51, 57, 52, 48, 52, 49, 52, 50, 52, 51, 52, 52, 52, 53, 52, 54, 52, 55, 52, 56, 52, 57, 53, 48, 53, 49, 53, 50, 53, 51, 53, 52, 53, 53, 53, 54, 53, 55, 53, 56, 53, 57, 54, 48, 54, 49, 54, 50, 54, 51, 54, 52, 54, 53, 54, 54, 54, 55, 54, 56, 54, 57, 55, 48, 55, 49, 55, 50, 55, 51, 55, 52, 55, 53, 55, 54, 55, 55, 55, 56, 55, 57, 56, 48, 56, 49, 56, 50, 56, 51, 56, 52, 56, 53, 56, 54, 56, 55, 56, 56, 56, 57, 57, 48, 57, 49, 57, 50, 57, 51, 57, 52, 57, 53, 57, 54, 57, 55, 57, 56, 57, 57]⟩) t117) fun t118 =>
      Mpu (ixT (.string ⟨#[48, 48, 48, 49, 48, 50, 48, 51, 48, 52, 48, 53, 48, 54, 48, 55, 48, 56, 48, 57, 49, 48, 49, 49, 49, 50, 49, 51, 49, 52, 49, 53, 49, 54, 49, 55, 49, 56, 49, 57, 50, 48, 50, 49, 50, 50, 50, 51, 50, 52, 50, 53, 50, 54, 50, 55, 50, 56, 50, 57, 51, 48, 51, 49, 51, 50, 51, 51, 51, 52, 51, 53, 51, 54, 51, 55, 51, 56, 51, 57, 52, 48, 52, 49, 52, 50, 52, 51, 52, 52, 52, 53, 52, 54, 52, 55, 52, 56, 52, 57, 53, 48, 53, 49, 53, 50, 53, 51, 53, 52, 53, 53, 53, 54, 53, 55, 53, 56, 53, 57, 54, 48, 54, 49, 54, 50, 54, 51, 54, 52, 54, 53, 54, 54, 54, 55, 54, 56, 54, 57, 55, 48, 55, 49, 55, 50, 55, 51, 55, 52, 55, 53, 55, 54, 55, 55, 55, 56, 55, 57, 56, 48, 56, 49, 56, 50, 56, 51, 56, 52, 56, 53, 56, 54, 56, 55, 56, 56, 56, 57, 57, 48, 57, 49, 57, 50, 57, 51, 57, 52, 57, 53, 57, 54, 57, 55, 57, 56, 57, 57]⟩) t109) fun t120 =>
      Mpu (ixS 1 t0 t112) fun t121 =>
      Mwr (st1 h2 t121 t118) fun h15 =>
      Mpu (ixS 1 t0 t115) fun t122 =>
      Mwr (st1 h15 t122 t120) fun h16 =>
      Mpu (binV .no .sub t4_4 (.int .i64 3)) fun t125 =>
      Mpu (binV .no .sub t4_4 (.int .i64 4)) fun t128 =>
      Mpu (binV .no .add t106 (.int .u32 1)) fun t130 =>
      Mpu (ixT (.string ⟨#[48, 48, 48, 49, 48, 50, 48, 51, 48, 52, 48, 53, 48, 54, 48, 55, 48, 56, 48, 57, 49, 48, 49, 49, 49, 50, 49, 51, 49, 52, 49, 53, 49, 54, 49, 55, 49, 56, 49, 57, 50, 48, 50, 49, 50, 50, 50, 51, 50, 52, 50, 53, 50, 54, 50, 55, 50, 56, 50, 57, 51, 48, 51, 49, 51, 50, 51, 51, 51, 52, 51, 53, 51, 54, 51, 55, 51, 56, 51, 57, 52, 48, 52, 49, 52, 50, 52, 51, 52, 52, 52, 53, 52, 54, 52, 55, 52, 56, 52, 57, 53, 48, 53, 49, 53, 50, 53, 51, 53, 52, 53, 53, 53, 54, 53, 55, 53, 56, 53, 57, 54, 48, 54, 49, 54, 50, 54, 51, 54, 52, 54, 53, 54, 54, 54, 55, 54, 56, 54, 57, 55, 48, 55, 49, 55, 50, 55, 51, 55, 52, 55, 53, 55, 54, 55, 55, 55, 56, 55, 57, 56, 48, 56, 49, 56, 50, 56, 51, 56, 52, 56, 53, 56, 54, 56, 55, 56, 56, 56, 57, 57, 48, 57, 49, 57, 50, 57, 51, 57, 52, 57, 53, 57, 54, 57, 55, 57, 56, 57, 57]⟩) t130) fun t131 =>
      Mpu (ixT (.string ⟨#[48, 48, 48, 49, 48, 50, 48, 51, 48, 52, 48, 53, 48, 54, 48, 55, 48, 56, 48, 57, 49, 48, 49, 49, 49, 50, 49, 51, 49, 52, 49, 53, 49, 54, 49, 55, 49, 56, 49, 57, 50, 48, 50, 49, 50, 50, 50, 51, 50, 52, 50, 53, 50, 54, 50, 55, 50, 56, 50, 57, 51, 48, 51, 49, 51, 50, 51, 51, 51, 52, 51, 53, 51, 54, 51, 55, 51, 56, 51, 57, 52, 48, 52, 49, 52, 50, 52, 51, 52, 52, 52, 53, 52, 54, 52, 55, 52, 56, 52, 57, 53, 48, 53, 49, 53, 50, 53, 51, 53, 52, 53, 53, 53, 54, 53, 55, 53, 56, 53, 57, 54, 48, 54, 49, 54, 50, 54, 51, 54, 52, 54, 53, 54, 54, 54, 55, 54, 56, 54, 57, 55, 48, 55, 49, 55, 50, 55, 51, 55, 52, 55, 53, 55, 54, 55, 55, 55, 56, 55, 57, 56, 48, 56, 49, 56, 50, 56, 51, 56, 52, 56, 53, 56, 54, 56, 55, 56, 56, 56, 57, 57, 48, 57, 49, 57, 50, 57, 51, 57, 52, 57, 53, 57, 54, 57, 55, 57, 56, 57, 57]⟩) t106) fun t133 =>
      Mpu (ixS 1 t0 t125) fun t134 =>
      Mwr (st1 h16 t134 t131) fun h17 =>
      Mpu (ixS 1 t0 t128) fun t135 =>
      Mwr (st1 h17 t135 t133) fun h18 =>
      Mpu (binV .no .sub t4_4 (.int .i64 4)) fun t137 =>
      k13 t137 t103 h18) (
      k13 t4_4 t97 h2)) fun t4_6 t12_3 h14 =>
  J2 (fun k19 =>
    Mpu (binV .no .geq t4_6 (.int .i64 2)) fun t139 =>
    Mcd t139 (
      Mpu (binV .no .rem t12_3 (.int .u32 100)) fun t141 =>
      Mpu (binV .no .mul t141 (.int .u32 2)) fun t142 =>
      Mpu (binV .no .quo t12_3 (.int .u32 100)) fun t144 =>
      Mpu (binV .no .sub t4_6 (.int .i64 1)) fun t147 =>
      Mpu (binV .no .sub t4_6 (.int .i64 2)) fun t150 =>
      Mpu (binV .no .add t142 (.int .u32 1)) fun t152 =>
      Mpu (ixT (.string ⟨#[48, 48, 48, 49, 48, 50, 48, 51, 48, 52, 48, 53, 48, 54, 48, 55, 48, 56, 48, 57, 49, 48, 49, 49, 49, 50, 49, 51, 49, 52, 49, 53, 49, 54, 49, 55, 49, 56, 49, 57, 50, 48, 50, 49, 50, 50, 50, 51, 50, 52, 50, 53, 50, 54, 50, 55, 50, 56, 50, 57, 51, 48, 51, 49, 51, 50, 51, 51, 51, 52, 51, 53, 51, 54, 51, 55, 51, 56, 51, 57, 52, 48, 52, 49, 52, 50, 52, 51, 52, 52, 52, 53, 52, 54, 52, 55, 52, 56, 52, 57, 53, 48, 53, 49, 53, 50, 53, 51, 53, 52, 53, 53, 53, 54, 53, 55, 53, 56, 53, 57, 54, 48, 54, 49, 54, 50, 54, 51, 54, 52, 54, 53, 54, 54, 54, 55, 54, 56, 54, 57, 55, 48, 55, 49, 55, 50, 55, 51, 55, 52, 55, 53, 55, 54, 55, 55, 55, 56, 55, 57, 56, 48, 56, 49, 56, 50, 56, 51, 56, 52, 56, 53, 56, 54, 56, 55, 56, 56, 56, 57, 57, 48, 57, 49, 57, 50, 57, 51, 57, 52, 57, 53, 57, 54, 57, 55, 57, 56, 57, 57]⟩) t152) fun t153 =>
      Mpu (ixT (.string ⟨#[48, 48, 48, 49, 48, 50, 48, 51, 48, 52, 48, 53, 48, 54, 48, 55, 48, 56, 48, 57, 49, 48, 49, 49, 49, 50, 49, 51, 49, 52, 49, 53, 49, 54, 49, 55, 49, 56, 49, 57, 50, 48, 50, 49, 50, 50, 50, 51, 50, 52, 50, 53, 50, 54, 50, 55, 50, 56, 50, 57, 51, 48, 51, 49, 51, 50, 51, 51, 51, 52, 51, 53, 51, 54, 51, 55, 51, 56, 51, 57, 52, 48, 52, 49, 52, 50, 52, 51, 52, 52, 52, 53, 52, 54, 52, 55, 52, 56, 52, 57, 53, 48, 53, 49, 53, 50, 53, 51, 53, 52, 53, 53, 53, 54, 53, 55, 53, 56, 53, 57, 54, 48, 54, 49, 54, 50, 54, 51, 54, 52, 54, 53, 54, 54, 54, 55, 54, 56, 54, 57, 55, 48, 55, 49, 55, 50, 55, 51, 55, 52, 55, 53, 55, 54, 55, 55, 55, 56, 55, 57, 56, 48, 56, 49, 56, 50, 56, 51, 56, 52, 56, 53, 56, 54, 56, 55, 56, 56, 56, 57, 57, 48, 57, 49, 57, 50, 57, 51, 57, 52, 57, 53, 57, 54, 57, 55, 57, 56, 57, 57]⟩) t142) fun t155 =>
      Mpu (ixS 1 t0 t147) fun t156 =>
      Mwr (st1 h14 t156 t153) fun h21 =>
      Mpu (ixS 1 t0 t150) fun t157 =>
      Mwr (st1 h21 t157 t155) fun h22 =>
      Mpu (binV .no .sub t4_6 (.int .i64 2)) fun t159 =>
      k19 t159 t144 h22) (
      k19 t4_6 t12_3 h14)) fun t4_8 t12_5 h20 =>
  Mpu (binV .no .gtr t4_8 (.int .i64 0)) fun t161 =>
  Mcd t161 (
    Mpu (binV .no .add (.int .u32 48) t12_5) fun t164 =>
    Mpu (cvI .u8 t164) fun t165 =>
    Mpu (ixS 1 t0 (.int .i64 0)) fun t166 =>
    Mwr (st1 h20 t166 t165) fun h23 =>
    R (.tuple #[]) h23) (
    R (.tuple #[]) h20)
theorem sh_internal_strconv_formatBase10_chk : fchkF prg [1, 4, 12] Tryz.f140 2 = true := by kernel_rfl
theorem sh_internal_strconv_formatBase10_den (t0 t1 : Value) (H : Heap) (R : Value → Heap → Prop) : fdenF prg [1, 4, 12] Tryz.f140 [t0, t1] H R = sh_internal_strconv_formatBase10 t0 t1 H R := by kernel_rfl
theorem sh_internal_strconv_formatBase10_calls {t0 t1 : Value} {H : Heap} {R : Value → Heap → Prop} (h : sh_internal_strconv_formatBase10 t0 t1 H R) : HCalls prg f_internal_strconv_formatBase10 [t0, t1] H R :=
  calls_ofF Tryz.func140 sh_internal_strconv_formatBase10_chk (by rw [sh_internal_strconv_formatBase10_den]; exact h)

-- internal/strconv.formatBits
def sh_internal_strconv_formatBits (t0 t1 t2 t3 t4 : Value) (H : Heap) (R : Value → Heap → Prop) : Prop :=
  J2 (fun k1 =>
    Mpu (binV .no .lss t2 (.int .i64 2)) fun t20 =>
    J1 (fun k3 => Mif t20 false (
        Mpu (binV .no .eql t2 (.int .i64 10)) fun t23 =>
        k3 t23 H) (
        k3 undef H)) fun t23_2 h4 =>
    Mpu (pickV t20 (.bool true) t23_2) fun t24 =>
    J1 (fun k5 => Mif t24 false (
        Mpu (binV .no .gtr t2 (.int .i64 36)) fun t27 =>
        k5 t27 h4) (
        k5 undef h4)) fun t27_2 h6 =>
    Mpu (pickV t24 (.bool true) t27_2) fun t28 =>
    Mcd t28 (
      Mpu (mkI prg T_string (.string ⟨#[115, 116, 114, 99, 111, 110, 118, 58, 32, 105, 108, 108, 101, 103, 97, 108, 32, 65, 112, 112, 101, 110, 100, 73, 110, 116, 47, 70, 111, 114, 109, 97, 116, 73, 110, 116, 32, 98, 97, 115, 101]⟩)) fun t29 =>
      False) (
      k1 t23_2 t27_2 h6)) fun t23_3 t27_3 h2 =>
  Mnew h2 T_A65_uint8 (zcells prg T_A65_uint8) fun t12 h7 =>
  J1 (fun k8 =>
    Mcd t3 (
      Mpu (unV .neg t1) fun t32 =>
      k8 t32 h7) (
      k8 t1 h7)) fun t1_3 h9 =>
  J2 (fun k10 =>
    Mcall prg f_internal_strconv_isPowerOfTwo [t2] h9 fun t34 h12 =>
    Mcd t34 (
      Mpu (cvI .u64 t2) fun t36 =>
      Mcall prg f_math_bits_TrailingZeros [t36] h12 fun t37 h13 =>
      Mpu (cvI .u64 t37) fun t38 =>
      Mpu (cvI .u64 t2) fun t40 =>
      Mpu (cvI .u64 t2) fun t42 =>
      Mpu (binV .no .sub t42 (.int .u64 1)) fun t43 =>
      J2 (fun k14 =>
        L2 (fun k16 => fun t1_4 t13_2 h17 =>
          Mpu (binV .no .geq t1_4 t40) fun t46 =>
          Mcd t46 (
            Mpu (binV .no .sub t13_2 (.int .i64 1)) fun t48 =>
            Mpu (binV .no .and t1_4 t43) fun t52 =>
            Mpu (ixT (.string ⟨#[48, 49, 50, 51, 52, 53, 54, 55, 56, 57, 97, 98, 99, 100, 101, 102, 103, 104, 105, 106, 107, 108, 109, 110, 111, 112, 113, 114, 115, 116, 117, 118, 119, 120, 121, 122]⟩) t52) fun t53 =>
            Mpu (ixA 65 1 t12 t48) fun t54 =>
            Mwr (st1 h17 t54 t53) fun h18 =>
            Mpu (binV .no .shr t1_4 t38) fun t57 =>
            k16 t57 t48 h18) (
            k14 t1_4 t13_2 h17)) (t1_3) ((.int .i64 65)) h13) fun t1_6 t13_4 h15 =>
      Mpu (binV .no .sub t13_4 (.int .i64 1)) fun t59 =>
      Mpu (ixT (.string ⟨#[48, 49, 50, 51, 52, 53, 54, 55, 56, 57, 97, 98, 99, 100, 101, 102, 103, 104, 105, 106, 107, 108, 109, 110, 111, 112, 113, 114, 115, 116, 117, 118, 119, 120, 121, 122]⟩) t1_6) fun t62 =>
      Mpu (ixA 65 1 t12 t59) fun t63 =>
      Mwr (st1 h15 t63 t62) fun h19 =>
      k10 t1_6 t59 h19) (
      Mpu (cvI .u64 t2) fun t65 =>
      J2 (fun k20 =>
        L2 (fun k22 => fun t1_7 t13_6 h23 =>
          Mpu (binV .no .geq t1_7 t65) fun t68 =>
          Mcd t68 (
            Mpu (binV .no .sub t13_6 (.int .i64 1)) fun t70 =>
            Mpu (binV .no .quo t1_7 t65) fun t73 =>
            Mpu (binV .no .mul t73 t65) fun t78 =>
            Mpu (binV .no .sub t1_7 t78) fun t79 =>
            Mpu (ixT (.string ⟨#[48, 49, 50, 51, 52, 53, 54, 55, 56, 57, 97, 98, 99, 100, 101, 102, 103, 104, 105, 106, 107, 108, 109, 110, 111, 112, 113, 114, 115, 116, 117, 118, 119, 120, 121, 122]⟩) t79) fun t80 =>
            Mpu (ixA 65 1 t12 t70) fun t81 =>
            Mwr (st1 h23 t81 t80) fun h24 =>
            k22 t73 t70 h24) (
            k20 t1_7 t13_6 h23)) (t1_3) ((.int .i64 65)) h12) fun t1_9 t13_8 h21 =>
      Mpu (binV .no .sub t13_8 (.int .i64 1)) fun t84 =>
      Mpu (ixT (.string ⟨#[48, 49, 50, 51, 52, 53, 54, 55, 56, 57, 97, 98, 99, 100, 101, 102, 103, 104, 105, 106, 107, 108, 109, 110, 111, 112, 113, 114, 115, 116, 117, 118, 119, 120, 121, 122]⟩) t1_9) fun t87 =>
      Mpu (ixA 65 1 t12 t84) fun t88 =>
      Mwr (st1 h21 t88 t87) fun h25 =>
      k10 t1_9 t84 h25)) fun t1_10 t13_10 h11 =>
  J1 (fun k26 =>
    Mcd t3 (
      Mpu (binV .no .sub t13_10 (.int .i64 1)) fun t91 =>
      Mpu (ixA 65 1 t12 t91) fun t93 =>
      Mwr (st1 h11 t93 (.int .u8 45)) fun h28 =>
      k26 t91 h28) (
      k26 t13_10 h11)) fun t13_12 h27 =>
  Mcd t4 (
    Mpu (slA 65 1 t12 (some t13_12) none none) fun t97 =>
    Mapp T_uint8 1 1 h27 t0 t97 fun t98 h29 =>
    R (.tuple #[t98, (.string ⟨#[]⟩)]) h29) (
    Mpu (slA 65 1 t12 (some t13_12) none none) fun t100 =>
    Mpu (b2s h27 t100) fun t101 =>
    R (.tuple #[(.slice none 0 0), t101]) h27)
theorem sh_internal_strconv_formatBits_chk : fchkF prg [1, 13, 23, 27] Tryz.f141 5 = true := by kernel_rfl
theorem sh_internal_strconv_formatBits_den (t0 t1 t2 t3 t4 : Value) (H : Heap) (R : Value → Heap → Prop) : fdenF prg [1, 13, 23, 27] Tryz.f141 [t0, t1, t2, t3, t4] H R = sh_internal_strconv_formatBits t0 t1 t2 t3 t4 H R := by kernel_rfl
theorem sh_internal_strconv_formatBits_calls {t0 t1 t2 t3 t4 : Value} {H : Heap} {R : Value → Heap → Prop} (h : sh_internal_strconv_formatBits t0 t1 t2 t3 t4 H R) : HCalls prg f_internal_strconv_formatBits [t0, t1, t2, t3, t4] H R :=
  calls_ofF Tryz.func141 sh_internal_strconv_formatBits_chk (by rw [sh_internal_strconv_formatBits_den]; exact h)

-- math/bits.RotateLeft32
def sh_math_bits_RotateLeft32 (t0 t1 : Value) (H : Heap) (R : Value → Heap → Prop) : Prop :=
  Mpu (cvI .u64 t1) fun t7 =>
  Mpu (binV .no .and t7 (.int .u64 31)) fun t8 =>
  Mpu (binV .no .shl t0 t8) fun t11 =>
  Mpu (binV .no .sub (.int .u64 32) t8) fun t14 =>
  Mpu (binV .no .shr t0 t14) fun t15 =>
  Mpu (binV .no .or t11 t15) fun t16 =>
  R t16 H
theorem sh_math_bits_RotateLeft32_chk : fchkF prg [] Tryz.f142 2 = true := by kernel_rfl
theorem sh_math_bits_RotateLeft32_den (t0 t1 : Value) (H : Heap) (R : Value → Heap → Prop) : fdenF prg [] Tryz.f142 [t0, t1] H R = sh_math_bits_RotateLeft32 t0 t1 H R := by kernel_rfl
theorem sh_math_bits_RotateLeft32_calls {t0 t1 : Value} {H : Heap} {R : Value → Heap → Prop} (h : sh_math_bits_RotateLeft32 t0 t1 H R) : HCalls prg f_math_bits_RotateLeft32 [t0, t1] H R :=
  calls_ofF Tryz.func142 sh_math_bits_RotateLeft32_chk (by rw [sh_math_bits_RotateLeft32_den]; exact h)

-- unicode/utf8.decodeRuneInStringSlow
def sh_unicode_utf8_decodeRuneInStringSlow (t0 : Value) (H : Heap) (R : Value → Heap → Prop) : Prop :=
  Mpu (lenT t0) fun t14 =>
  Mpu (binV .no .lss t14 (.int .i64 1)) fun t16 =>
  Mcd t16 (
    R (.tuple #[(.int .i32 65533), (.int .i64 0)]) H) (
    Mpu (ixT t0 (.int .i64 0)) fun t18 =>
    Mpu (ixA 256 1 (.pointer (some ⟨g_unicode_utf8_first, 0, none⟩)) t18) fun t20 =>
    Mpu (ld1 H t20) fun t21 =>
    Mpu (binV .no .geq t21 (.int .u8 240)) fun t23 =>
    Mcd t23 (
      Mpu (cvI .i32 t21) fun t25 =>
      Mpu (binV .no .shl t25 (.int .u64 31)) fun t26 =>
      Mpu (binV .no .shr t26 (.int .u64 31)) fun t27 =>
      Mpu (ixT t0 (.int .i64 0)) fun t29 =>
      Mpu (cvI .i32 t29) fun t30 =>
      Mpu (binV .no .andNot t30 t27) fun t32 =>
      Mpu (binV .no .and (.int .i32 65533) t27) fun t34 =>
      Mpu (binV .no .or t32 t34) fun t35 =>
      R (.tuple #[t35, (.int .i64 1)]) H) (
      Mpu (binV .no .and t21 (.int .u8 7)) fun t37 =>
      Mpu (cvI .i64 t37) fun t38 =>
      Mpu (binV .no .shr t21 (.int .u64 4)) fun t40 =>
      Mpu (ixA 16 2 (.pointer (some ⟨g_unicode_utf8_acceptRanges, 0, none⟩)) t40) fun t41 =>
      Mpu (ldN 2 H t41) fun t42 =>
      Mnew H T_utf8_acceptRange (zcells prg T_utf8_acceptRange) fun t9 h1 =>
      Mwr (stN 2 h1 t9 t42) fun h2 =>
      Mpu (binV .no .lss t14 t38) fun t45 =>
      Mcd t45 (
        R (.tuple #[(.int .i32 65533), (.int .i64 1)]) h2) (
        Mpu (ixT t0 (.int .i64 1)) fun t47 =>
        Mpu (fld 0 t9) fun t49 =>
        Mpu (ld1 h2 t49) fun t50 =>
        Mpu (binV .no .lss t47 t50) fun t51 =>
        J1 (fun k3 => Mif t51 false (
            Mpu (fld 1 t9) fun t53 =>
            Mpu (ld1 h2 t53) fun t54 =>
            Mpu (binV .no .lss t54 t47) fun t56 =>
            k3 t56 h2) (
            k3 undef h2)) fun t56_2 h4 =>
        Mpu (pickV t51 (.bool true) t56_2) fun t57 =>
        Mcd t57 (
          R (.tuple #[(.int .i32 65533), (.int .i64 1)]) h4) (
          Mpu (binV .no .leq t38 (.int .i64 2)) fun t59 =>
          Mcd t59 (
            Mpu (binV .no .and t18 (.int .u8 31)) fun t61 =>
            Mpu (cvI .i32 t61) fun t62 =>
            Mpu (binV .no .shl t62 (.int .u64 6)) fun t63 =>
            Mpu (binV .no .and t47 (.int .u8 63)) fun t65 =>
            Mpu (cvI .i32 t65) fun t66 =>
            Mpu (binV .no .or t63 t66) fun t67 =>
            R (.tuple #[t67, (.int .i64 2)]) h4) (
            Mpu (ixT t0 (.int .i64 2)) fun t69 =>
            Mpu (binV .no .lss t69 (.int .u8 128)) fun t71 =>
            J1 (fun k5 => Mif t71 false (
                Mpu (binV .no .lss (.int .u8 191) t69) fun t74 =>
                k5 t74 h4) (
                k5 undef h4)) fun t74_2 h6 =>
            Mpu (pickV t71 (.bool true) t74_2) fun t75 =>
            Mcd t75 (
              R (.tuple #[(.int .i32 65533), (.int .i64 1)]) h6) (
              Mpu (binV .no .leq t38 (.int .i64 3)) fun t77 =>
              Mcd t77 (
                Mpu (binV .no .and t18 (.int .u8 15)) fun t79 =>
                Mpu (cvI .i32 t79) fun t80 =>
                Mpu (binV .no .shl t80 (.int .u64 12)) fun t81 =>
                Mpu (binV .no .and t47 (.int .u8 63)) fun t83 =>
                Mpu (cvI .i32 t83) fun t84 =>
                Mpu (binV .no .shl t84 (.int .u64 6)) fun t85 =>
                Mpu (binV .no .or t81 t85) fun t86 =>
                Mpu (binV .no .and t69 (.int .u8 63)) fun t88 =>
                Mpu (cvI .i32 t88) fun t89 =>
                Mpu (binV .no .or t86 t89) fun t90 =>
                R (.tuple #[t90, (.int .i64 3)]) h6) (
                Mpu (ixT t0 (.int .i64 3)) fun t92 =>
                Mpu (binV .no .lss t92 (.int .u8 128)) fun t94 =>
                J1 (fun k7 => Mif t94 false (
                    Mpu (binV .no .lss (.int .u8 191) t92) fun t97 =>
                    k7 t97 h6) (
                    k7 undef h6)) fun t97_2 h8 =>
                Mpu (pickV t94 (.bool true) t97_2) fun t98 =>
                Mcd t98 (
                  R (.tuple #[(.int .i32 65533), (.int .i64 1)]) h8) (
                  Mpu (binV .no .and t18 (.int .u8 7)) fun t100 =>
                  Mpu (cvI .i32 t100) fun t101 =>
                  Mpu (binV .no .shl t101 (.int .u64 18)) fun t102 =>
                  Mpu (binV .no .and t47 (.int .u8 63)) fun t104 =>
                  Mpu (cvI .i32 t104) fun t105 =>
                  Mpu (binV .no .shl t105 (.int .u64 12)) fun t106 =>
                  Mpu (binV .no .or t102 t106) fun t107 =>
                  Mpu (binV .no .and t69 (.int .u8 63)) fun t109 =>
                  Mpu (cvI .i32 t109) fun t110 =>
                  Mpu (binV .no .shl t110 (.int .u64 6)) fun t111 =>
                  Mpu (binV .no .or t107 t111) fun t112 =>
                  Mpu (binV .no .and t92 (.int .u8 63)) fun t114 =>
                  Mpu (cvI .i32 t114) fun t115 =>
                  Mpu (binV .no .or t112 t115) fun t116 =>
                  R (.tuple #[t116, (.int .i64 4)]) h8))))))))
theorem sh_unicode_utf8_decodeRuneInStringSlow_chk : fchkF prg [56, 74, 97] Tryz.f112 1 = true := by kernel_rfl
theorem sh_unicode_utf8_decodeRuneInStringSlow_den (t0 : Value) (H : Heap) (R : Value → Heap → Prop) : fdenF prg [56, 74, 97] Tryz.f112 [t0] H R = sh_unicode_utf8_decodeRuneInStringSlow t0 H R := by kernel_rfl
theorem sh_unicode_utf8_decodeRuneInStringSlow_calls {t0 : Value} {H : Heap} {R : Value → Heap → Prop} (h : sh_unicode_utf8_decodeRuneInStringSlow t0 H R) : HCalls prg f_unicode_utf8_decodeRuneInStringSlow [t0] H R :=
  calls_ofF Tryz.func112 sh_unicode_utf8_decodeRuneInStringSlow_chk (by rw [sh_unicode_utf8_decodeRuneInStringSlow_den]; exact h)

end Go.Proofs.YtconalffokhplaaGreatDoor
/- PRINTED: clean texts -/
namespace Go.Proofs.YtconalffokhplaaGreatDoor
open Go.X
set_option maxRecDepth 100000
-- unicode/utf8.RuneStart
def sh_unicode_utf8_RuneStart (t0 : Value) (H : Heap) (R : Value → Heap → Prop) : Prop :=
  Mpu (binV .no .and t0 (.int .u8 192)) fun t4 =>
  Mpu (binV .no .neq t4 (.int .u8 128)) fun t5 =>
  R t5 H
theorem sh_unicode_utf8_RuneStart_chk : fchkF prg [] Tryz.f114 1 = true := by kernel_rfl
theorem sh_unicode_utf8_RuneStart_den (t0 : Value) (H : Heap) (R : Value → Heap → Prop) : fdenF prg [] Tryz.f114 [t0] H R = sh_unicode_utf8_RuneStart t0 H R := by kernel_rfl
theorem sh_unicode_utf8_RuneStart_calls {t0 : Value} {H : Heap} {R : Value → Heap → Prop} (h : sh_unicode_utf8_RuneStart t0 H R) : HCalls prg f_unicode_utf8_RuneStart [t0] H R :=
  calls_ofF Tryz.func114 sh_unicode_utf8_RuneStart_chk (by rw [sh_unicode_utf8_RuneStart_den]; exact h)

-- internal/bytealg.Cutover
def sh_internal_bytealg_Cutover (t0 : Value) (H : Heap) (R : Value → Heap → Prop) : Prop :=
  Mpu (binV .no .add t0 (.int .i64 16)) fun t4 =>
  Mpu (binV .no .quo t4 (.int .i64 8)) fun t5 =>
  R t5 H
theorem sh_internal_bytealg_Cutover_chk : fchkF prg [] Tryz.f100 1 = true := by kernel_rfl
theorem sh_internal_bytealg_Cutover_den (t0 : Value) (H : Heap) (R : Value → Heap → Prop) : fdenF prg [] Tryz.f100 [t0] H R = sh_internal_bytealg_Cutover t0 H R := by kernel_rfl
theorem sh_internal_bytealg_Cutover_calls {t0 : Value} {H : Heap} {R : Value → Heap → Prop} (h : sh_internal_bytealg_Cutover t0 H R) : HCalls prg f_internal_bytealg_Cutover [t0] H R :=
  calls_ofF Tryz.func100 sh_internal_bytealg_Cutover_chk (by rw [sh_internal_bytealg_Cutover_den]; exact h)

-- internal/strconv.log10Pow2
def sh_internal_strconv_log10Pow2 (t0 : Value) (H : Heap) (R : Value → Heap → Prop) : Prop :=
  Mpu (binV .no .mul t0 (.int .i64 78913)) fun t4 =>
  Mpu (binV .no .shr t4 (.int .u64 18)) fun t5 =>
  R t5 H
theorem sh_internal_strconv_log10Pow2_chk : fchkF prg [] Tryz.f147 1 = true := by kernel_rfl
theorem sh_internal_strconv_log10Pow2_den (t0 : Value) (H : Heap) (R : Value → Heap → Prop) : fdenF prg [] Tryz.f147 [t0] H R = sh_internal_strconv_log10Pow2 t0 H R := by kernel_rfl
theorem sh_internal_strconv_log10Pow2_calls {t0 : Value} {H : Heap} {R : Value → Heap → Prop} (h : sh_internal_strconv_log10Pow2 t0 H R) : HCalls prg f_internal_strconv_log10Pow2 [t0] H R :=
  calls_ofF Tryz.func147 sh_internal_strconv_log10Pow2_chk (by rw [sh_internal_strconv_log10Pow2_den]; exact h)

-- math/bits.Len64
def sh_math_bits_Len64 (t0 : Value) (H : Heap) (R : Value → Heap → Prop) : Prop :=
  J2 (fun k1 =>
    Mpu (binV .no .geq t0 (.int .u64 4294967296)) fun t4 =>
    Mcd t4 (
      Mpu (binV .no .shr t0 (.int .u64 32)) fun t6 =>
      k1 t6 (.int .i64 32) H) (
      k1 t0 (.int .i64 0) H)) fun t0_3 t2_3 h2 =>
  J2 (fun k3 =>
    Mpu (binV .no .geq t0_3 (.int .u64 65536)) fun t8 =>
    Mcd t8 (
      Mpu (binV .no .shr t0_3 (.int .u64 16)) fun t10 =>
      Mpu (binV .no .add t2_3 (.int .i64 16)) fun t12 =>
      k3 t10 t12 h2) (
      k3 t0_3 t2_3 h2)) fun t0_5 t2_5 h4 =>
  J2 (fun k5 =>
    Mpu (binV .no .geq t0_5 (.int .u64 256)) fun t14 =>
    Mcd t14 (
      Mpu (binV .no .shr t0_5 (.int .u64 8)) fun t16 =>
      Mpu (binV .no .add t2_5 (.int .i64 8)) fun t18 =>
      k5 t16 t18 h4) (
      k5 t0_5 t2_5 h4)) fun t0_7 t2_7 h6 =>
  Mpu (cvI .u8 t0_7) fun t21 =>
  Mpu (ixT (.string ⟨#[0, 1, 2, 2, 3, 3, 3, 3, 4, 4, 4, 4, 4, 4, 4, 4, 5, 5, 5, 5, 5, 5, 5, 5, 5, 5, 5, 5, 5, 5, 5, 5, 6, 6, 6, 6, 6, 6, 6, 6, 6, 6, 6, 6, 6, 6, 6, 6, 6, 6, 6, 6, 6, 6, 6, 6, 6, 6, 6, 6, 6, 6, 6, 6, 7, 7, 7, 7, 7, 7, 7, 7, 7, 7, 7, 7, 7, 7, 7, 7, 7, 7, 7, 7, 7, 7, 7, 7, 7, 7, 7, 7, 7, 7, 7, 7, 7, 7, 7, 7, 7, 7, 7, 7, 7, 7, 7, 7, 7, 7, 7, 7, 7, 7, 7, 7, 7, 7, 7, 7, 7, 7, 7, 7, 7, 7, 7, 7, 8, 8, 8, 8, 8, 8, 8, 8, 8, 8, 8, 8, 8, 8, 8, 8, 8, 8, 8, 8, 8, 8, 8, 8, 8, 8, 8, 8, 8, 8, 8, 8, 8, 8, 8, 8, 8, 8, 8, 8, 8, 8, 8, 8, 8, 8, 8, 8, 8, 8, 8, 8, 8, 8, 8, 8, 8, 8, 8, 8, 8, 8, 8, 8, 8, 8, 8, 8, 8, 8, 8, 8, 8, 8, 8, 8, 8, 8, 8, 8, 8, 8, 8, 8, 8, 8, 8, 8, 8, 8, 8, 8, 8, 8, 8, 8, 8, 8, 8, 8, 8, 8, 8, 8, 8, 8, 8, 8, 8, 8, 8, 8, 8, 8, 8, 8, 8, 8, 8, 8, 8, 8, 8, 8, 8, 8, 8, 8]⟩) t21) fun t22 =>
  Mpu (cvI .i64 t22) fun t23 =>
  Mpu (binV .no .add t2_7 t23) fun t24 =>
  R t24 h6
theorem sh_math_bits_Len64_chk : fchkF prg [0, 2] Tryz.f148 1 = true := by kernel_rfl
theorem sh_math_bits_Len64_den (t0 : Value) (H : Heap) (R : Value → Heap → Prop) : fdenF prg [0, 2] Tryz.f148 [t0] H R = sh_math_bits_Len64 t0 H R := by kernel_rfl
theorem sh_math_bits_Len64_calls {t0 : Value} {H : Heap} {R : Value → Heap → Prop} (h : sh_math_bits_Len64 t0 H R) : HCalls prg f_math_bits_Len64 [t0] H R :=
  calls_ofF Tryz.func148 sh_math_bits_Len64_chk (by rw [sh_math_bits_Len64_den]; exact h)

-- internal/strconv.bool2[int]
def sh_internal_strconv_bool2_int (t0 : Value) (H : Heap) (R : Value → Heap → Prop) : Prop :=
  Mcd t0 (
    R (.int .i64 1) H) (
    R (.int .i64 0) H)
theorem sh_internal_strconv_bool2_int_chk : fchkF prg [] Tryz.f149 1 = true := by kernel_rfl
theorem sh_internal_strconv_bool2_int_den (t0 : Value) (H : Heap) (R : Value → Heap → Prop) : fdenF prg [] Tryz.f149 [t0] H R = sh_internal_strconv_bool2_int t0 H R := by kernel_rfl
theorem sh_internal_strconv_bool2_int_calls {t0 : Value} {H : Heap} {R : Value → Heap → Prop} (h : sh_internal_strconv_bool2_int t0 H R) : HCalls prg f_internal_strconv_bool2_int [t0] H R :=
  calls_ofF Tryz.func149 sh_internal_strconv_bool2_int_chk (by rw [sh_internal_strconv_bool2_int_den]; exact h)

-- internal/strconv.isPowerOfTwo
def sh_internal_strconv_isPowerOfTwo (t0 : Value) (H : Heap) (R : Value → Heap → Prop) : Prop :=
  Mpu (binV .no .sub t0 (.int .i64 1)) fun t5 =>
  Mpu (binV .no .and t0 t5) fun t6 =>
  Mpu (binV .no .eql t6 (.int .i64 0)) fun t7 =>
  R t7 H
theorem sh_internal_strconv_isPowerOfTwo_chk : fchkF prg [] Tryz.f150 1 = true := by kernel_rfl
theorem sh_internal_strconv_isPowerOfTwo_den (t0 : Value) (H : Heap) (R : Value → Heap → Prop) : fdenF prg [] Tryz.f150 [t0] H R = sh_internal_strconv_isPowerOfTwo t0 H R := by kernel_rfl
theorem sh_internal_strconv_isPowerOfTwo_calls {t0 : Value} {H : Heap} {R : Value → Heap → Prop} (h : sh_internal_strconv_isPowerOfTwo t0 H R) : HCalls prg f_internal_strconv_isPowerOfTwo [t0] H R :=
  calls_ofF Tryz.func150 sh_internal_strconv_isPowerOfTwo_chk (by rw [sh_internal_strconv_isPowerOfTwo_den]; exact h)

-- math/bits.TrailingZeros
def sh_math_bits_TrailingZeros (t0 : Value) (H : Heap) (R : Value → Heap → Prop) : Prop :=
  Mcd (.bool false) (
    Mpu (cvI .u32 t0) fun t4 =>
    Mcall prg f_math_bits_TrailingZeros32 [t4] H fun t5 h1 =>
    R t5 h1) (
    Mcall prg f_math_bits_TrailingZeros64 [t0] H fun t7 h2 =>
    R t7 h2)
theorem sh_math_bits_TrailingZeros_chk : fchkF prg [] Tryz.f151 1 = true := by kernel_rfl
theorem sh_math_bits_TrailingZeros_den (t0 : Value) (H : Heap) (R : Value → Heap → Prop) : fdenF prg [] Tryz.f151 [t0] H R = sh_math_bits_TrailingZeros t0 H R := by kernel_rfl
theorem sh_math_bits_TrailingZeros_calls {t0 : Value} {H : Heap} {R : Value → Heap → Prop} (h : sh_math_bits_TrailingZeros t0 H R) : HCalls prg f_math_bits_TrailingZeros [t0] H R :=
  calls_ofF Tryz.func151 sh_math_bits_TrailingZeros_chk (by rw [sh_math_bits_TrailingZeros_den]; exact h)

-- unicode/utf8.ValidRune
def sh_unicode_utf8_ValidRune (t0 : Value) (H : Heap) (R : Value → Heap → Prop) : Prop :=
  Mpu (binV .no .leq (.int .i32 0) t0) fun t5 =>
  J1 (fun k1 => Mif t5 true (
      Mpu (binV .no .lss t0 (.int .i32 55296)) fun t8 =>
      k1 t8 H) (
      k1 undef H)) fun t8_2 h2 =>
  Mpu (pickV t5 t8_2 (.bool false)) fun t9 =>
  Mcd t9 (
    R (.bool true) h2) (
    Mpu (binV .no .lss (.int .i32 57343) t0) fun t12 =>
    J1 (fun k3 => Mif t12 true (
        Mpu (binV .no .leq t0 (.int .i32 1114111)) fun t15 =>
        k3 t15 h2) (
        k3 undef h2)) fun t15_2 h4 =>
    Mpu (pickV t12 t15_2 (.bool false)) fun t16 =>
    Mcd t16 (
      R (.bool true) h4) (
      R (.bool false) h4))
theorem sh_unicode_utf8_ValidRune_chk : fchkF prg [8, 15] Tryz.f135 1 = true := by kernel_rfl
theorem sh_unicode_utf8_ValidRune_den (t0 : Value) (H : Heap) (R : Value → Heap → Prop) : fdenF prg [8, 15] Tryz.f135 [t0] H R = sh_unicode_utf8_ValidRune t0 H R := by kernel_rfl
theorem sh_unicode_utf8_ValidRune_calls {t0 : Value} {H : Heap} {R : Value → Heap → Prop} (h : sh_unicode_utf8_ValidRune t0 H R) : HCalls prg f_unicode_utf8_ValidRune [t0] H R :=
  calls_ofF Tryz.func135 sh_unicode_utf8_ValidRune_chk (by rw [sh_unicode_utf8_ValidRune_den]; exact h)

-- math/bits.TrailingZeros32
def sh_math_bits_TrailingZeros32 (t0 : Value) (H : Heap) (R : Value → Heap → Prop) : Prop :=
  Mpu (binV .no .eql t0 (.int .u32 0)) fun t4 =>
  Mcd t4 (
    R (.int .i64 32) H) (
    Mpu (unV .neg t0) fun t7 =>
    Mpu (binV .no .and t0 t7) fun t8 =>
    Mpu (binV .no .mul t8 (.int .u32 125613361)) fun t9 =>
    Mpu (binV .no .shr t9 (.int .u64 27)) fun t10 =>
    Mpu (ixA 32 1 (.pointer (some ⟨g_math_bits_deBruijn32tab, 0, none⟩)) t10) fun t11 =>
    Mpu (ld1 H t11) fun t12 =>
    Mpu (cvI .i64 t12) fun t13 =>
    R t13 H)
theorem sh_math_bits_TrailingZeros32_chk : fchkF prg [] Tryz.f154 1 = true := by kernel_rfl
theorem sh_math_bits_TrailingZeros32_den (t0 : Value) (H : Heap) (R : Value → Heap → Prop) : fdenF prg [] Tryz.f154 [t0] H R = sh_math_bits_TrailingZeros32 t0 H R := by kernel_rfl
theorem sh_math_bits_TrailingZeros32_calls {t0 : Value} {H : Heap} {R : Value → Heap → Prop} (h : sh_math_bits_TrailingZeros32 t0 H R) : HCalls prg f_math_bits_TrailingZeros32 [t0] H R :=
  calls_ofF Tryz.func154 sh_math_bits_TrailingZeros32_chk (by rw [sh_math_bits_TrailingZeros32_den]; exact h)

-- math/bits.TrailingZeros64
def sh_math_bits_TrailingZeros64 (t0 : Value) (H : Heap) (R : Value → Heap → Prop) : Prop :=
  Mpu (binV .no .eql t0 (.int .u64 0)) fun t4 =>
  Mcd t4 (
    R (.int .i64 64) H) (
    Mpu (unV .neg t0) fun t7 =>
    Mpu (binV .no .and t0 t7) fun t8 =>
    Mpu (binV .no .mul t8 (.int .u64 285870213051353865)) fun t9 =>
    Mpu (binV .no .shr t9 (.int .u64 58)) fun t10 =>
    Mpu (ixA 64 1 (.pointer (some ⟨g_math_bits_deBruijn64tab, 0, none⟩)) t10) fun t11 =>
    Mpu (ld1 H t11) fun t12 =>
    Mpu (cvI .i64 t12) fun t13 =>
    R t13 H)
theorem sh_math_bits_TrailingZeros64_chk : fchkF prg [] Tryz.f155 1 = true := by kernel_rfl
theorem sh_math_bits_TrailingZeros64_den (t0 : Value) (H : Heap) (R : Value → Heap → Prop) : fdenF prg [] Tryz.f155 [t0] H R = sh_math_bits_TrailingZeros64 t0 H R := by kernel_rfl
theorem sh_math_bits_TrailingZeros64_calls {t0 : Value} {H : Heap} {R : Value → Heap → Prop} (h : sh_math_bits_TrailingZeros64 t0 H R) : HCalls prg f_math_bits_TrailingZeros64 [t0] H R :=
  calls_ofF Tryz.func155 sh_math_bits_TrailingZeros64_chk (by rw [sh_math_bits_TrailingZeros64_den]; exact h)

end Go.Proofs.YtconalffokhplaaGreatDoor
