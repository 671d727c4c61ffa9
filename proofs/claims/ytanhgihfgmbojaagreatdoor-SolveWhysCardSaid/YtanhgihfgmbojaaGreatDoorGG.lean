/- JOINED: Sa3 Sa4 Sa5 -/
import Derived.Test.YtanhgihfgmbojaaGreatDoorGE
set_option linter.unusedSimpArgs false
set_option linter.unusedVariables false
/- PRINTED: clean texts -/
namespace Go.Proofs.YtanhgihfgmbojaaGreatDoor
open Go.X
set_option maxRecDepth 100000
-- strings.makeASCIISet
def sh_strings_makeASCIISet (t0 : Value) (H : Heap) (R : Value → Heap → Prop) : Prop :=
  Mnew H T_strings_asciiSet (zcells prg T_strings_asciiSet) fun t2 h1 =>
  J1 (fun k2 =>
    L1 (fun k4 => fun t4_2 h5 =>
      Mpu (lenT t0) fun t8 =>
      Mpu (binV .no .lss t4_2 t8) fun t9 =>
      Mcd t9 (
        Mpu (ixT t0 t4_2) fun t14 =>
        Mpu (binV .no .geq t14 (.int .u8 128)) fun t16 =>
        Mcd t16 (
          Mpu (ldN 256 h5 t2) fun t17 =>
          Mwr (stN 256 h5 t2 t17) fun h6 =>
          Mpu (ldN 256 h6 t2) fun r7 =>
          R (.tuple #[r7, (.bool false)]) h6) (
          Mpu (ixA 256 1 t2 t14) fun t19 =>
          Mwr (st1 h5 t19 (.bool true)) fun h8 =>
          Mpu (binV .no .add t4_2 (.int .i64 1)) fun t11 =>
          k4 t11 h8)) (
        k2 t4_2 h5)) ((.int .i64 0)) h1) fun t4_4 h3 =>
  Mpu (ldN 256 h3 t2) fun t20 =>
  Mwr (stN 256 h3 t2 t20) fun h9 =>
  Mpu (ldN 256 h9 t2) fun r10 =>
  R (.tuple #[r10, (.bool true)]) h9
theorem sh_strings_makeASCIISet_chk : fchkF prg [4] Tryz.f102 1 = true := by kernel_rfl
theorem sh_strings_makeASCIISet_den (t0 : Value) (H : Heap) (R : Value → Heap → Prop) : fdenF prg [4] Tryz.f102 [t0] H R = sh_strings_makeASCIISet t0 H R := by kernel_rfl
theorem sh_strings_makeASCIISet_calls {t0 : Value} {H : Heap} {R : Value → Heap → Prop} (h : sh_strings_makeASCIISet t0 H R) : HCalls prg f_strings_makeASCIISet [t0] H R :=
  calls_ofF Tryz.func102 sh_strings_makeASCIISet_chk (by rw [sh_strings_makeASCIISet_den]; exact h)

-- strings.trimLeftASCII
def sh_strings_trimLeftASCII (t0 t1 : Value) (H : Heap) (R : Value → Heap → Prop) : Prop :=
  J1 (fun k1 =>
    L1 (fun k3 => fun t0_2 h4 =>
      Mpu (lenT t0_2) fun t6 =>
      Mpu (binV .no .gtr t6 (.int .i64 0)) fun t7 =>
      Mcd t7 (
        Mpu (ixT t0_2 (.int .i64 0)) fun t10 =>
        Mcall prg f_strings_asciiSet_contains [t1, t10] h4 fun t11 h5 =>
        Mpu (unV .not t11) fun t12 =>
        Mcd t12 (
          k1 t0_2 h5) (
          Mpu (slT t0_2 (some (.int .i64 1)) none) fun t14 =>
          k3 t14 h5)) (
        k1 t0_2 h4)) (t0) H) fun t0_4 h2 =>
  R t0_4 h2
theorem sh_strings_trimLeftASCII_chk : fchkF prg [0] Tryz.f103 2 = true := by kernel_rfl
theorem sh_strings_trimLeftASCII_den (t0 t1 : Value) (H : Heap) (R : Value → Heap → Prop) : fdenF prg [0] Tryz.f103 [t0, t1] H R = sh_strings_trimLeftASCII t0 t1 H R := by kernel_rfl
theorem sh_strings_trimLeftASCII_calls {t0 t1 : Value} {H : Heap} {R : Value → Heap → Prop} (h : sh_strings_trimLeftASCII t0 t1 H R) : HCalls prg f_strings_trimLeftASCII [t0, t1] H R :=
  calls_ofF Tryz.func103 sh_strings_trimLeftASCII_chk (by rw [sh_strings_trimLeftASCII_den]; exact h)

-- strings.trimRightASCII
def sh_strings_trimRightASCII (t0 t1 : Value) (H : Heap) (R : Value → Heap → Prop) : Prop :=
  J1 (fun k1 =>
    L1 (fun k3 => fun t0_2 h4 =>
      Mpu (lenT t0_2) fun t6 =>
      Mpu (binV .no .gtr t6 (.int .i64 0)) fun t7 =>
      Mcd t7 (
        Mpu (lenT t0_2) fun t11 =>
        Mpu (binV .no .sub t11 (.int .i64 1)) fun t12 =>
        Mpu (ixT t0_2 t12) fun t13 =>
        Mcall prg f_strings_asciiSet_contains [t1, t13] h4 fun t14 h5 =>
        Mpu (unV .not t14) fun t15 =>
        Mcd t15 (
          k1 t0_2 h5) (
          Mpu (lenT t0_2) fun t18 =>
          Mpu (binV .no .sub t18 (.int .i64 1)) fun t19 =>
          Mpu (slT t0_2 none (some t19)) fun t20 =>
          k3 t20 h5)) (
        k1 t0_2 h4)) (t0) H) fun t0_4 h2 =>
  R t0_4 h2
theorem sh_strings_trimRightASCII_chk : fchkF prg [0] Tryz.f104 2 = true := by kernel_rfl
theorem sh_strings_trimRightASCII_den (t0 t1 : Value) (H : Heap) (R : Value → Heap → Prop) : fdenF prg [0] Tryz.f104 [t0, t1] H R = sh_strings_trimRightASCII t0 t1 H R := by kernel_rfl
theorem sh_strings_trimRightASCII_calls {t0 t1 : Value} {H : Heap} {R : Value → Heap → Prop} (h : sh_strings_trimRightASCII t0 t1 H R) : HCalls prg f_strings_trimRightASCII [t0, t1] H R :=
  calls_ofF Tryz.func104 sh_strings_trimRightASCII_chk (by rw [sh_strings_trimRightASCII_den]; exact h)

-- strings.trimLeftUnicode
-- strings.trimRightUnicode
-- strings.IndexByte
def sh_strings_IndexByte (t0 t1 : Value) (H : Heap) (R : Value → Heap → Prop) : Prop :=
  Mcall prg f_internal_stringslite_IndexByte [t0, t1] H fun t7 h1 =>
  R t7 h1
theorem sh_strings_IndexByte_chk : fchkF prg [] Tryz.f69 2 = true := by kernel_rfl
theorem sh_strings_IndexByte_den (t0 t1 : Value) (H : Heap) (R : Value → Heap → Prop) : fdenF prg [] Tryz.f69 [t0, t1] H R = sh_strings_IndexByte t0 t1 H R := by kernel_rfl
theorem sh_strings_IndexByte_calls {t0 t1 : Value} {H : Heap} {R : Value → Heap → Prop} (h : sh_strings_IndexByte t0 t1 H R) : HCalls prg f_strings_IndexByte [t0, t1] H R :=
  calls_ofF Tryz.func69 sh_strings_IndexByte_chk (by rw [sh_strings_IndexByte_den]; exact h)

-- internal/strconv.FormatInt
def sh_internal_strconv_FormatInt (t0 t1 : Value) (H : Heap) (R : Value → Heap → Prop) : Prop :=
  Mpu (binV .no .eql t1 (.int .i64 10)) fun t11 =>
  Mcd t11 (
    Mpu (binV .no .leq (.int .i64 0) t0) fun t13 =>
    J1 (fun k1 => Mif t13 true (
        Mpu (binV .no .lss t0 (.int .i64 100)) fun t16 =>
        k1 t16 H) (
        k1 undef H)) fun t16_2 h2 =>
    Mpu (pickV t13 t16_2 (.bool false)) fun t17 =>
    Mcd t17 (
      Mcall prg f_internal_strconv_small [t0] h2 fun t19 h3 =>
      R t19 h3) (
      Mnew h2 T_A24_uint8 (zcells prg T_A24_uint8) fun t5 h4 =>
      Mpu (cvI .u64 t0) fun t21 =>
      J1 (fun k5 =>
        Mpu (binV .no .lss t0 (.int .i64 0)) fun t23 =>
        Mcd t23 (
          Mpu (unV .neg t21) fun t25 =>
          k5 t25 h4) (
          k5 t21 h4)) fun t6_3 h6 =>
      Mcall prg f_internal_strconv_numDigits [t6_3] h6 fun t27 h7 =>
      Mpu (binV .no .add (.int .i64 1) t27) fun t29 =>
      Mpu (slA 24 1 t5 (some (.int .i64 1)) (some t29) none) fun t30 =>
      Mcall prg f_internal_strconv_formatBase10 [t30, t6_3] h7 fun t32 h8 =>
      Mpu (binV .no .lss t0 (.int .i64 0)) fun t34 =>
      Mcd t34 (
        Mpu (ixA 24 1 t5 (.int .i64 0)) fun t35 =>
        Mwr (st1 h8 t35 (.int .u8 45)) fun h9 =>
        Mpu (binV .no .add (.int .i64 1) t27) fun t37 =>
        Mpu (slA 24 1 t5 none (some t37) none) fun t38 =>
        Mpu (b2s h9 t38) fun t39 =>
        R t39 h9) (
        Mpu (binV .no .add (.int .i64 1) t27) fun t41 =>
        Mpu (slA 24 1 t5 (some (.int .i64 1)) (some t41) none) fun t42 =>
        Mpu (b2s h8 t42) fun t43 =>
        R t43 h8))) (
    Mpu (cvI .u64 t0) fun t46 =>
    Mpu (binV .no .lss t0 (.int .i64 0)) fun t49 =>
    Mcall prg f_internal_strconv_formatBits [(.slice none 0 0), t46, t1, t49, (.bool false)] H fun t50 h10 =>
    Mpu (extV 0 t50) fun t51 =>
    Mpu (extV 1 t50) fun t52 =>
    R t52 h10)
theorem sh_internal_strconv_FormatInt_chk : fchkF prg [6, 16] Tryz.f165 2 = true := by kernel_rfl
theorem sh_internal_strconv_FormatInt_den (t0 t1 : Value) (H : Heap) (R : Value → Heap → Prop) : fdenF prg [6, 16] Tryz.f165 [t0, t1] H R = sh_internal_strconv_FormatInt t0 t1 H R := by kernel_rfl
theorem sh_internal_strconv_FormatInt_calls {t0 t1 : Value} {H : Heap} {R : Value → Heap → Prop} (h : sh_internal_strconv_FormatInt t0 t1 H R) : HCalls prg f_internal_strconv_FormatInt [t0, t1] H R :=
  calls_ofF Tryz.func165 sh_internal_strconv_FormatInt_chk (by rw [sh_internal_strconv_FormatInt_den]; exact h)

-- (*strings.Builder).copyCheck
def sh_strings_Builder_copyCheck (t0 : Value) (H : Heap) (R : Value → Heap → Prop) : Prop :=
  Mpu (nck t0) fun t3 =>
  Mpu (fld 0 t3) fun t4 =>
  Mpu (ld1 H t4) fun t5 =>
  Mpu (binV .ptr .eql t5 (.pointer none)) fun t6 =>
  Mcd t6 (
    Msem prg (convert T_P_strings_Builder T_unsafe_Pointer t0) H fun t9 h1 =>
    Msem prg (xtV prg f_internal_abi_NoEscape #[t9]) h1 fun t10 h2 =>
    Msem prg (convert T_unsafe_Pointer T_P_strings_Builder t10) h2 fun t11 h3 =>
    Mpu (nck t0) fun t12 =>
    Mpu (fld 0 t12) fun t13 =>
    Mwr (st1 h3 t13 t11) fun h4 =>
    R (.tuple #[]) h4) (
    Mpu (nck t0) fun t15 =>
    Mpu (fld 0 t15) fun t16 =>
    Mpu (ld1 H t16) fun t17 =>
    Mpu (binV .ptr .neq t17 t0) fun t19 =>
    Mcd t19 (
      False) (
      R (.tuple #[]) H))
theorem sh_strings_Builder_copyCheck_chk : fchkF prg [] Tryz.f166 1 = true := by kernel_rfl
theorem sh_strings_Builder_copyCheck_den (t0 : Value) (H : Heap) (R : Value → Heap → Prop) : fdenF prg [] Tryz.f166 [t0] H R = sh_strings_Builder_copyCheck t0 H R := by kernel_rfl
theorem sh_strings_Builder_copyCheck_calls {t0 : Value} {H : Heap} {R : Value → Heap → Prop} (h : sh_strings_Builder_copyCheck t0 H R) : HCalls prg f_strings_Builder_copyCheck [t0] H R :=
  calls_ofF Tryz.func166 sh_strings_Builder_copyCheck_chk (by rw [sh_strings_Builder_copyCheck_den]; exact h)

-- (*strings.Builder).grow
def sh_strings_Builder_grow (t0 t1 : Value) (H : Heap) (R : Value → Heap → Prop) : Prop :=
  Mpu (nck t0) fun t6 =>
  Mpu (fld 1 t6) fun t7 =>
  Mpu (ld1 H t7) fun t8 =>
  Mpu (capV t8) fun t9 =>
  Mpu (binV .no .mul (.int .i64 2) t9) fun t10 =>
  Mpu (binV .no .add t10 t1) fun t12 =>
  Mpu (nck t0) fun t15 =>
  Mpu (fld 1 t15) fun t16 =>
  Mpu (ld1 H t16) fun t17 =>
  Mpu (lenV t17) fun t18 =>
  Msem prg (xtV prg f_internal_bytealg_MakeNoZero #[t12]) H fun t13 h1 =>
  Mre [(ld1 h1 t16, t17)] (
  Mpu (slS 1 t13 none (some t18) none) fun t19 =>
  Mpu (nck t0) fun t22 =>
  Mpu (fld 1 t22) fun t23 =>
  Mpu (ld1 h1 t23) fun t24 =>
  Mcopy 1 h1 t19 t24 fun t25 h2 =>
  Mpu (nck t0) fun t28 =>
  Mpu (fld 1 t28) fun t29 =>
  Mwr (st1 h2 t29 t19) fun h3 =>
  R (.tuple #[]) h3)
theorem sh_strings_Builder_grow_chk : fchkF prg [] Tryz.f167 2 = true := by kernel_rfl
theorem sh_strings_Builder_grow_den (t0 t1 : Value) (H : Heap) (R : Value → Heap → Prop) : fdenF prg [] Tryz.f167 [t0, t1] H R = sh_strings_Builder_grow t0 t1 H R := by kernel_rfl
theorem sh_strings_Builder_grow_calls {t0 t1 : Value} {H : Heap} {R : Value → Heap → Prop} (h : sh_strings_Builder_grow t0 t1 H R) : HCalls prg f_strings_Builder_grow [t0, t1] H R :=
  calls_ofF Tryz.func167 sh_strings_Builder_grow_chk (by rw [sh_strings_Builder_grow_den]; exact h)

end Go.Proofs.YtanhgihfgmbojaaGreatDoor

/- PRINTED: clean texts -/
namespace Go.Proofs.YtanhgihfgmbojaaGreatDoor
open Go.X
set_option maxRecDepth 100000
-- (*strings.asciiSet).contains
def sh_strings_asciiSet_contains (t0 t1 : Value) (H : Heap) (R : Value → Heap → Prop) : Prop :=
  Mpu (nck t0) fun t7 =>
  Mpu (ixA 256 1 t7 t1) fun t8 =>
  Mpu (ld1 H t8) fun t9 =>
  R t9 H
theorem sh_strings_asciiSet_contains_chk : fchkF prg [] Tryz.f130 2 = true := by kernel_rfl
theorem sh_strings_asciiSet_contains_den (t0 t1 : Value) (H : Heap) (R : Value → Heap → Prop) : fdenF prg [] Tryz.f130 [t0, t1] H R = sh_strings_asciiSet_contains t0 t1 H R := by kernel_rfl
theorem sh_strings_asciiSet_contains_calls {t0 t1 : Value} {H : Heap} {R : Value → Heap → Prop} (h : sh_strings_asciiSet_contains t0 t1 H R) : HCalls prg f_strings_asciiSet_contains [t0, t1] H R :=
  calls_ofF Tryz.func130 sh_strings_asciiSet_contains_chk (by rw [sh_strings_asciiSet_contains_den]; exact h)

-- unicode/utf8.DecodeRuneInString
-- strings.ContainsRune
-- unicode/utf8.DecodeLastRuneInString
-- internal/stringslite.IndexByte
def sh_internal_stringslite_IndexByte (t0 t1 : Value) (H : Heap) (R : Value → Heap → Prop) : Prop :=
  Msem prg (xtV prg f_internal_bytealg_IndexByteString #[t0, t1]) H fun t7 h1 =>
  R t7 h1
theorem sh_internal_stringslite_IndexByte_chk : fchkF prg [] Tryz.f107 2 = true := by kernel_rfl
theorem sh_internal_stringslite_IndexByte_den (t0 t1 : Value) (H : Heap) (R : Value → Heap → Prop) : fdenF prg [] Tryz.f107 [t0, t1] H R = sh_internal_stringslite_IndexByte t0 t1 H R := by kernel_rfl
theorem sh_internal_stringslite_IndexByte_calls {t0 t1 : Value} {H : Heap} {R : Value → Heap → Prop} (h : sh_internal_stringslite_IndexByte t0 t1 H R) : HCalls prg f_internal_stringslite_IndexByte [t0, t1] H R :=
  calls_ofF Tryz.func107 sh_internal_stringslite_IndexByte_chk (by rw [sh_internal_stringslite_IndexByte_den]; exact h)

-- internal/strconv.small
def sh_internal_strconv_small (t0 : Value) (H : Heap) (R : Value → Heap → Prop) : Prop :=
  Mpu (binV .no .lss t0 (.int .i64 10)) fun t4 =>
  Mcd t4 (
    Mpu (binV .no .add t0 (.int .i64 1)) fun t7 =>
    Mpu (slT (.string ⟨#[48, 49, 50, 51, 52, 53, 54, 55, 56, 57, 97, 98, 99, 100, 101, 102, 103, 104, 105, 106, 107, 108, 109, 110, 111, 112, 113, 114, 115, 116, 117, 118, 119, 120, 121, 122]⟩) (some t0) (some t7)) fun t8 =>
    R t8 H) (
    Mpu (binV .no .mul t0 (.int .i64 2)) fun t10 =>
    Mpu (binV .no .mul t0 (.int .i64 2)) fun t12 =>
    Mpu (binV .no .add t12 (.int .i64 2)) fun t13 =>
    Mpu (slT (.string ⟨#[48, 48, 48, 49, 48, 50, 48, 51, 48, 52, 48, 53, 48, 54, 48, 55, 48, 56, 48, 57, 49, 48, 49, 49, 49, 50, 49, 51, 49, 52, 49, 53, 49, 54, 49, 55, 49, 56, 49, 57, 50, 48, 50, 49, 50, 50, 50, 51, 50, 52, 50, 53, 50, 54, 50, 55, 50, 56, 50, 57, 51, 48, 51, 49, 51, 50, 51, 51, 51, 52, 51, 53, 51, 54, 51, 55, 51, 56, 51, 57, 52, 48, 52, 49, 52, 50, 52, 51, 52, 52, 52, 53, 52, 54, 52, 55, 52, 56, 52, 57, 53, 48, 53, 49, 53, 50, 53, 51, 53, 52, 53, 53, 53, 54, 53, 55, 53, 56, 53, 57, 54, 48, 54, 49, 54, 50, 54, 51, 54, 52, 54, 53, 54, 54, 54, 55, 54, 56, 54, 57, 55, 48, 55, 49, 55, 50, 55, 51, 55, 52, 55, 53, 55, 54, 55, 55, 55, 56, 55, 57, 56, 48, 56, 49, 56, 50, 56, 51, 56, 52, 56, 53, 56, 54, 56, 55, 56, 56, 56, 57, 57, 48, 57, 49, 57, 50, 57, 51, 57, 52, 57, 53, 57, 54, 57, 55, 57, 56, 57, 57]⟩) (some t10) (some t13)) fun t14 =>
    R t14 H)
theorem sh_internal_strconv_small_chk : fchkF prg [] Tryz.f173 1 = true := by kernel_rfl
theorem sh_internal_strconv_small_den (t0 : Value) (H : Heap) (R : Value → Heap → Prop) : fdenF prg [] Tryz.f173 [t0] H R = sh_internal_strconv_small t0 H R := by kernel_rfl
theorem sh_internal_strconv_small_calls {t0 : Value} {H : Heap} {R : Value → Heap → Prop} (h : sh_internal_strconv_small t0 H R) : HCalls prg f_internal_strconv_small [t0] H R :=
  calls_ofF Tryz.func173 sh_internal_strconv_small_chk (by rw [sh_internal_strconv_small_den]; exact h)

-- internal/strconv.numDigits
def sh_internal_strconv_numDigits (t0 : Value) (H : Heap) (R : Value → Heap → Prop) : Prop :=
  Mcall prg f_math_bits_Len64 [t0] H fun t5 h1 =>
  Mcall prg f_internal_strconv_log10Pow2 [t5] h1 fun t6 h2 =>
  Mpu (ixA 20 1 (.pointer (some ⟨g_internal_strconv_uint64pow10, 0, none⟩)) t6) fun t10 =>
  Mpu (ld1 h2 t10) fun t11 =>
  Mpu (binV .no .geq t0 t11) fun t12 =>
  Mcall prg f_internal_strconv_bool2_int [t12] h2 fun t13 h3 =>
  Mpu (binV .no .add t6 t13) fun t14 =>
  R t14 h3
theorem sh_internal_strconv_numDigits_chk : fchkF prg [] Tryz.f174 1 = true := by kernel_rfl
theorem sh_internal_strconv_numDigits_den (t0 : Value) (H : Heap) (R : Value → Heap → Prop) : fdenF prg [] Tryz.f174 [t0] H R = sh_internal_strconv_numDigits t0 H R := by kernel_rfl
theorem sh_internal_strconv_numDigits_calls {t0 : Value} {H : Heap} {R : Value → Heap → Prop} (h : sh_internal_strconv_numDigits t0 H R) : HCalls prg f_internal_strconv_numDigits [t0] H R :=
  calls_ofF Tryz.func174 sh_internal_strconv_numDigits_chk (by rw [sh_internal_strconv_numDigits_den]; exact h)

-- internal/strconv.formatBase10
def sh_internal_strconv_formatBase10 (t0 t1 : Value) (H : Heap) (R : Value → Heap → Prop) : Prop :=
  Mpu (lenV t0) fun t18 =>
  J2 (fun k1 =>
    L2 (fun k3 => fun t1_2 t4_2 h4 =>
      Mpu (binV .no .geq t4_2 (.int .i64 8)) fun t20 =>
      Mcd t20 (
        Mpu (binV .no .rem t1_2 (.int .u64 100000000)) fun t22 =>
        Mpu (cvI .u32 t22) fun t23 =>
        Mpu (binV .no .quo t1_2 (.int .u64 100000000)) fun t25 =>
        Mpu (binV .no .quo t23 (.int .u32 10000)) fun t27 =>
        Mpu (binV .no .rem t23 (.int .u32 10000)) fun t29 =>
        Mpu (binV .no .quo t29 (.int .u32 100)) fun t31 =>
        Mpu (binV .no .mul t31 (.int .u32 2)) fun t32 =>
        Mpu (binV .no .rem t29 (.int .u32 100)) fun t34 =>
        Mpu (binV .no .mul t34 (.int .u32 2)) fun t35 =>
        Mpu (binV .no .quo t27 (.int .u32 100)) fun t37 =>
        Mpu (binV .no .mul t37 (.int .u32 2)) fun t38 =>
        Mpu (binV .no .rem t27 (.int .u32 100)) fun t40 =>
        Mpu (binV .no .mul t40 (.int .u32 2)) fun t41 =>
        Mpu (binV .no .sub t4_2 (.int .i64 1)) fun t44 =>
        Mpu (binV .no .sub t4_2 (.int .i64 2)) fun t47 =>
        Mpu (binV .no .add t35 (.int .u32 1)) fun t49 =>
        Mpu (ixT (.string ⟨#[48, 48, 48, 49, 48, 50, 48, 51, 48, 52, 48, 53, 48, 54, 48, 55, 48, 56, 48, 57, 49, 48, 49, 49, 49, 50, 49, 51, 49, 52, 49, 53, 49, 54, 49, 55, 49, 56, 49, 57, 50, 48, 50, 49, 50, 50, 50, 51, 50, 52, 50, 53, 50, 54, 50, 55, 50, 56, 50, 57, 51, 48, 51, 49, 51, 50, 51, 51, 51, 52, 51, 53, 51, 54, 51, 55, 51, 56, 51, 57, 52, 48, 52, 49, 52, 50, 52, 51, 52, 52, 52, 53, 52, 54, 52, 55, 52, 56, 52, 57, 53, 48, 53, 49, 53, 50, 53, 51, 53, 52, 53, 53, 53, 54, 53, 55, 53, 56, 53, 57, 54, 48, 54, 49, 54, 50, 54, 51, 54, 52, 54, 53, 54, 54, 54, 55, 54, 56, 54, 57, 55, 48, 55, 49, 55, 50, 55, 51, 55, 52, 55, 53, 55, 54, 55, 55, 55, 56, 55, 57, 56, 48, 56, 49, 56, 50, 56, 51, 56, 52, 56, 53, 56, 54, 56, 55, 56, 56, 56, 57, 57, 48, 57, 49, 57, 50, 57, 51, 57, 52, 57, 53, 57, 54, 57, 55, 57, 56, 57, 57]⟩) t49) fun t50 =>
        Mpu (ixT (.string ⟨#[48, 48, 48, 49, 48, 50, 48, 51, 48, 52, 48, 53, 48, 54, 48, 55, 48, 56, 48, 57, 49, 48, 49, 49, 49, 50, 49, 51, 49, 52, 49, 53, 49, 54, 49, 55, 49, 56, 49, 57, 50, 48, 50, 49, 50, 50, 50, 51, 50, 52, 50, 53, 50, 54, 50, 55, 50, 56, 50, 57, 51, 48, 51, 49, 51, 50, 51, 51, 51, 52, 51, 53, 51, 54, 51, 55, 51, 56, 51, 57, 52, 48, 52, 49, 52, 50, 52, 51, 52, 52, 52, 53, 52, 54, 52, 55, 52, 56, 52, 57, 53, 48, 53, 49, 53, 50, 53, 51, 53, 52, 53, 53, 53, 54, 53, 55, 53, 56, 53, 57, 54, 48, 54, 49, 54, 50, 54, 51, 54, 52, 54, 53, 54, 54, 54, 55, 54, 56, 54, 57, 55, 48, 55, 49, 55, 50, 55, 51, 55, 52, 55, 53, 55, 54, 55, 55, 55, 56, 55, 57, 56, 48, 56, 49, 56, 50, 56, 51, 56, 52, 56, 53, 56, 54, 56, 55, 56, 56, 56, 57, 57, 48, 57, 49, 57, 50, 57, 51, 57, 52, 57, 53, 57, 54, 57, 55, 57, 56, 57, 57]⟩) t35) fun t52 =>
        Mpu (ixS 1 t0 t44) fun t53 =>
        Mwr (st1 h4 t53 t50) fun h5 =>
        Mpu (ixS 1 t0 t47) fun t54 =>
        Mwr (st1 h5 t54 t52) fun h6 =>
        Mpu (binV .no .sub t4_2 (.int .i64 3)) fun t57 =>
        Mpu (binV .no .sub t4_2 (.int .i64 4)) fun t60 =>
        Mpu (binV .no .add t32 (.int .u32 1)) fun t62 =>
        Mpu (ixT (.string ⟨#[48, 48, 48, 49, 48, 50, 48, 51, 48, 52, 48, 53, 48, 54, 48, 55, 48, 56, 48, 57, 49, 48, 49, 49, 49, 50, 49, 51, 49, 52, 49, 53, 49, 54, 49, 55, 49, 56, 49, 57, 50, 48, 50, 49, 50, 50, 50, 51, 50, 52, 50, 53, 50, 54, 50, 55, 50, 56, 50, 57, 51, 48, 51, 49, 51, 50, 51, 51, 51, 52, 51, 53, 51, 54, 51, 55, 51, 56, 51, 57, 52, 48, 52, 49, 52, 50, 52, 51, 52, 52, 52, 53, 52, 54, 52, 55, 52, 56, 52, 57, 53, 48, 53, 49, 53, 50, 53, 51, 53, 52, 53, 53, 53, 54, 53, 55, 53, 56, 53, 57, 54, 48, 54, 49, 54, 50, 54, 51, 54, 52, 54, 53, 54, 54, 54, 55, 54, 56, 54, 57, 55, 48, 55, 49, 55, 50, 55, 51, 55, 52, 55, 53, 55, 54, 55, 55, 55, 56, 55, 57, 56, 48, 56, 49, 56, 50, 56, 51, 56, 52, 56, 53, 56, 54, 56, 55, 56, 56, 56, 57, 57, 48, 57, 49, 57, 50, 57, 51, 57, 52, 57, 53, 57, 54, 57, 55, 57, 56, 57, 57]⟩) t62) fun t63 =>
        Mpu (ixT (.string ⟨#[48, 48, 48, 49, 48, 50, 48, 51, 48, 52, 48, 53, 48, 54, 48, 55, 48, 56, 48, 57, 49, 48, 49, 49, 49, 50, 49, 51, 49, 52, 49, 53, 49, 54, 49, 55, 49, 56, 49, 57, 50, 48, 50, 49, 50, 50, 50, 51, 50, 52, 50, 53, 50, 54, 50, 55, 50, 56, 50, 57, 51, 48, 51, 49, 51, 50, 51, 51, 51, 52, 51, 53, 51, 54, 51, 55, 51, 56, 51, 57, 52, 48, 52, 49, 52, 50, 52, 51, 52, 52, 52, 53, 52, 54, 52, 55, 52, 56, 52, 57, 53, 48, 53, 49, 53, 50, 53, 51, 53, 52, 53, 53, 53, 54, 53, 55, 53, 56, 53, 57, 54, 48, 54, 49, 54, 50, 54, 51, 54, 52, 54, 53, 54, 54, 54, 55, 54, 56, 54, 57, 55, 48, 55, 49, 55, 50, 55, 51, 55, 52, 55, 53, 55, 54, 55, 55, 55, 56, 55, 57, 56, 48, 56, 49, 56, 50, 56, 51, 56, 52, 56, 53, 56, 54, 56, 55, 56, 56, 56, 57, 57, 48, 57, 49, 57, 50, 57, 51, 57, 52, 57, 53, 57, 54, 57, 55, 57, 56, 57, 57]⟩) t32) fun t65 =>
        Mpu (ixS 1 t0 t57) fun t66 =>
        Mwr (st1 h6 t66 t63) fun h7 =>
        Mpu (ixS 1 t0 t60) fun t67 =>
        Mwr (st1 h7 t67 t65) fun h8 =>
        Mpu (binV .no .sub t4_2 (.int .i64 5)) fun t70 =>
        Mpu (binV .no .sub t4_2 (.int .i64 6)) fun t73 =>
        Mpu (binV .no .add t41 (.int .u32 1)) fun t75 =>
        Mpu (ixT (.string ⟨#[48, 48, 48, 49, 48, 50, 48, 51, 48, 52, 48, 53, 48, 54, 48, 55, 48, 56, 48, 57, 49, 48, 49, 49, 49, 50, 49, 51, 49, 52, 49, 53, 49, 54, 49, 55, 49, 56, 49, 57, 50, 48, 50, 49, 50, 50, 50, 51, 50, 52, 50, 53, 50, 54, 50, 55, 50, 56, 50, 57, 51, 48, 51, 49, 51, 50, 51, 51, 51, 52, 51, 53, 51, 54, 51, 55, 51, 56, 51, 57, 52, 48, 52, 49, 52, 50, 52, 51, 52, 52, 52, 53, 52, 54, 52, 55, 52, 56, 52, 57, 53, 48, 53, 49, 53, 50, 53, 51, 53, 52, 53, 53, 53, 54, 53, 55, 53, 56, 53, 57, 54, 48, 54, 49, 54, 50, 54, 51, 54, 52, 54, 53, 54, 54, 54, 55, 54, 56, 54, 57, 55, 48, 55, 49, 55, 50, 55, 51, 55, 52, 55, 53, 55, 54, 55, 55, 55, 56, 55, 57, 56, 48, 56, 49, 56, 50, 56, 51, 56, 52, 56, 53, 56, 54, 56, 55, 56, 56, 56, 57, 57, 48, 57, 49, 57, 50, 57, 51, 57, 52, 57, 53, 57, 54, 57, 55, 57, 56, 57, 57]⟩) t75) fun t76 =>
        Mpu (ixT (.string ⟨#[48, 48, 48, 49, 48, 50, 48, 51, 48, 52, 48, 53, 48, 54, 48, 55, 48, 56, 48, 57, 49, 48, 49, 49, 49, 50, 49, 51, 49, 52, 49, 53, 49, 54, 49, 55, 49, 56, 49, 57, 50, 48, 50, 49, 50, 50, 50, 51, 50, 52, 50, 53, 50, 54, 50, 55, 50, 56, 50, 57, 51, 48, 51, 49, 51, 50, 51, 51, 51, 52, 51, 53, 51, 54, 51, 55, 51, 56, 51, 57, 52, 48, 52, 49, 52, 50, 52, 51, 52, 52, 52, 53, 52, 54, 52, 55, 52, 56, 52, 57, 53, 48, 53, 49, 53, 50, 53, 51, 53, 52, 53, 53, 53, 54, 53, 55, 53, 56, 53, 57, 54, 48, 54, 49, 54, 50, 54, 51, 54, 52, 54, 53, 54, 54, 54, 55, 54, 56, 54, 57, 55, 48, 55, 49, 55, 50, 55, 51, 55, 52, 55, 53, 55, 54, 55, 55, 55, 56, 55, 57, 56, 48, 56, 49, 56, 50, 56, 51, 56, 52, 56, 53, 56, 54, 56, 55, 56, 56, 56, 57, 57, 48, 57, 49, 57, 50, 57, 51, 57, 52, 57, 53, 57, 54, 57, 55, 57, 56, 57, 57]⟩) t41) fun t78 =>
        Mpu (ixS 1 t0 t70) fun t79 =>
        Mwr (st1 h8 t79 t76) fun h9 =>
        Mpu (ixS 1 t0 t73) fun t80 =>
        Mwr (st1 h9 t80 t78) fun h10 =>
        Mpu (binV .no .sub t4_2 (.int .i64 7)) fun t83 =>
        Mpu (binV .no .sub t4_2 (.int .i64 8)) fun t86 =>
        Mpu (binV .no .add t38 (.int .u32 1)) fun t88 =>
        Mpu (ixT (.string ⟨#[48, 48, 48, 49, 48, 50, 48, 51, 48, 52, 48, 53, 48, 54, 48, 55, 48, 56, 48, 57, 49, 48, 49, 49, 49, 50, 49, 51, 49, 52, 49, 53, 49, 54, 49, 55, 49, 56, 49, 57, 50, 48, 50, 49, 50, 50, 50, 51, 50, 52, 50, 53, 50, 54, 50, 55, 50, 56, 50, 57, 51, 48, 51, 49, 51, 50, 51, 51, 51, 52, 51, 53, 51, 54, 51, 55, 51, 56, 51, 57, 52, 48, 52, 49, 52, 50, 52, 51, 52, 52, 52, 53, 52, 54, 52, 55, 52, 56, 52, 57, 53, 48, 53, 49, 53, 50, 53, 51, 53, 52, 53, 53, 53, 54, 53, 55, 53, 56, 53, 57, 54, 48, 54, 49, 54, 50, 54, 51, 54, 52, 54, 53, 54, 54, 54, 55, 54, 56, 54, 57, 55, 48, 55, 49, 55, 50, 55, 51, 55, 52, 55, 53, 55, 54, 55, 55, 55, 56, 55, 57, 56, 48, 56, 49, 56, 50, 56, 51, 56, 52, 56, 53, 56, 54, 56, 55, 56, 56, 56, 57, 57, 48, 57, 49, 57, 50, 57, 51, 57, 52, 57, 53, 57, 54, 57, 55, 57, 56, 57, 57]⟩) t88) fun t89 =>
        Mpu (ixT (.string ⟨#[48, 48, 48, 49, 48, 50, 48, 51, 48, 52, 48, 53, 48, 54, 48, 55, 48, 56, 48, 57, 49, 48, 49, 49, 49, 50, 49, 51, 49, 52, 49, 53, 49, 54, 49, 55, 49, 56, 49, 57, 50, 48, 50, 49, 50, 50, 50, 51, 50, 52, 50, 53, 50, 54, 50, 55, 50, 56, 50, 57, 51, 48, 51, 49, 51, 50, 51, 51, 51, 52, 51, 53, 51, 54, 51, 55, 51, 56, 51, 57, 52, 48, 52, 49, 52, 50, 52, 51, 52, 52, 52, 53, 52, 54, 52, 55, 52, 56, 52, 57, 53, 48, 53, 49, 53, 50, 53, 51, 53, 52, 53, 53, 53, 54, 53, 55, 53, 56, 53, 57, 54, 48, 54, 49, 54, 50, 54, 51, 54, 52, 54, 53, 54, 54, 54, 55, 54, 56, 54, 57, 55, 48, 55, 49, 55, 50, 55, 51, 55, 52, 55, 53, 55, 54, 55, 55, 55, 56, 55, 57, 56, 48, 56, 49, 56, 50, 56, 51, 56, 52, 56, 53, 56, 54, 56, 55, 56, 56, 56, 57, 57, 48, 57, 49, 57, 50, 57, 51, 57, 52, 57, 53, 57, 54, 57, 55, 57, 56, 57, 57]⟩) t38) fun t91 =>
        Mpu (ixS 1 t0 t83) fun t92 =>
        Mwr (st1 h10 t92 t89) fun h11 =>
        Mpu (ixS 1 t0 t86) fun t93 =>
        Mwr (st1 h11 t93 t91) fun h12 =>
        Mpu (binV .no .sub t4_2 (.int .i64 8)) fun t95 =>
        k3 t25 t95 h12) (
        k1 t1_2 t4_2 h4)) (t1) (t18) H) fun t1_4 t4_4 h2 =>
  Mpu (cvI .u32 t1_4) fun t97 =>
  J2 (fun k13 =>
    Mpu (binV .no .geq t4_4 (.int .i64 4)) fun t99 =>
    Mcd t99 (
      Mpu (binV .no .rem t97 (.int .u32 10000)) fun t101 =>
      Mpu (binV .no .quo t97 (.int .u32 10000)) fun t103 =>
      Mpu (binV .no .quo t101 (.int .u32 100)) fun t105 =>
      Mpu (binV .no .mul t105 (.int .u32 2)) fun t106 =>
      Mpu (binV .no .rem t101 (.int .u32 100)) fun t108 =>
      Mpu (binV .no .mul t108 (.int .u32 2)) fun t109 =>
      Mpu (binV .no .sub t4_4 (.int .i64 1)) fun t112 =>
      Mpu (binV .no .sub t4_4 (.int .i64 2)) fun t115 =>
      Mpu (binV .no .add t109 (.int .u32 1)) fun t117 =>
      Mpu (ixT (.string ⟨#[48, 48, 48, 49, 48, 50, 48, 51, 48, 52, 48, 53, 48, 54, 48, 55, 48, 56, 48, 57, 49, 48, 49, 49, 49, 50, 49, 51, 49, 52, 49, 53, 49, 54, 49, 55, 49, 56, 49, 57, 50, 48, 50, 49, 50, 50, 50, 51, 50, 52, 50, 53, 50, 54, 50, 55, 50, 56, 50, 57, 51, 48, 51, 49, 51, 50, 51, 51, 51, 52, 51, 53, 51, 54, 51, 55, 51, 56, 51, 57, 52, 48, 52, 49, 52, 50, 52, 51, 52, 52, 52, 53, 52, 54, 52, 55, 52, 56, 52, 57, 53, 48, 53, 49, 53, 50, 53, 51, 53, 52, 53, 53, 53, 54, 53, 55, 53, 56, 53, 57, 54, 48, 54, 49, 54, 50, 54, 51, 54, 52, 54, 53, 54, 54, 54, 55, 54, 56, 54, 57, 55, 48, 55, 49, 55, 50, 55, 51, 55, 52, 55, 53, 55, 54, 55, 55, 55, 56, 55, 57, 56, 48, 56, 49, 56, 50, 56, 51, 56, 52, 56, 53, 56, 54, 56, 55, 56, 56, 56, 57, 57, 48, 57, 49, 57, 50, 57, 51, 57, 52, 57, 53, 57, 54, 57, 55, 57, 56, 57, 57]⟩) t117) fun t118 =>
      Mpu (ixT (.string ⟨#[48, 48, 48, 49, 48, 50, 48, 51, 48, 52, 48, 53, 48, 54, 48, 55, 48, 56, 48, 57, 49, 48, 49, 49, 49, 50, 49, 51, 49, 52, 49, 53, 49, 54, 49, 55, 49, 56, 49, 57, 50, 48, 50, 49, 50, 50, 50, 51, 50, 52, 50, 53, 50, 54, 50, 55, 50, 56, 50, 57, 51, 48, 51, 49, 51, 50, 51, 51, 51, 52, 51, 53, 51, 54, 51, 55, 51, 56, 51, 57, 52, 48, 52, 49, 52, 50, 52, 51, 52, 52, 52, 53, 52, 54, 52, 55, 52, 56, 52, 57, 53, 48, 53, 49, 53, 50, 53, 51, 53, 52, 53, 53, 53, 54, 53, 55, 53, 56, 53, 57, 54, 48, 54, 49, 54, 50, 54, 51, 54, 52, 54, 53, 54, 54, 54, 55, 54, 56, 54, 57, 55, 48, 55, 49, 55, 50, 55, 51, 55, 52, 55, 53, 55, 54, 55, 55, 55, 56, 55, 57, 56, 48, 56, 49, 56, 50, 56, 51, 56, 52, 56, 53, 56, 54, 56, 55, 56, 56, 56, 57, 57, 48, 57, 49, 57, 50, 57, 51, 57, 52, 57, 53, 57, 54, 57, 55, 57, 56, 57, 57]⟩) t109) fun t120 =>
      Mpu (ixS 1 t0 t112) fun t121 =>
      Mwr (st1 h2 t121 t118) fun h15 =>
      Mpu (ixS 1 t0 t115) fun t122 =>
      Mwr (st1 h15 t122 t120) fun h16 =>
      Mpu (binV .no .sub t4_4 (.int .i64 3)) fun t125 =>
      Mpu (binV .no .sub t4_4 (.int .i64 4)) fun t128 =>
      Mpu (binV .no .add t106 (.int .u32 1)) fun t130 =>
      Mpu (ixT (.string ⟨#[48, 48, 48, 49, 48, 50, 48, 51, 48, 52, 48, 53, 48, 54, 48, 55, 48, 56, 48, 57, 49, 48, 49, 49, 49, 50, 49, 51, 49, 52, 49, 53, 49, 54, 49, 55, 49, 56, 49, 57, 50, 48, 50, 49, 50, 50, 50, 51, 50, 52, 50, 53, 50, 54, 50, 55, 50, 56, 50, 57, 51, 48, 51, 49, 51, 50, 51, 51, 51, 52, 51, 53, 51, 54, 51, 55, 51, 56, 51, 57, 52, 48, 52, 49, 52, 50, 52, 51, 52, 52, 52, 53, 52, 54, 52, 55, 52, 56, 52, 57, 53, 48, 53, 49, 53, 50, 53, 51, 53, 52, 53, 53, 53, 54, 53, 55, 53, 56, 53, 57, 54, 48, 54, 49, 54, 50, 54, 51, 54, 52, 54, 53, 54, 54, 54, 55, 54, 56, 54, 57, 55, 48, 55, 49, 55, 50, 55, 51, 55, 52, 55, 53, 55, 54, 55, 55, 55, 56, 55, 57, 56, 48, 56, 49, 56, 50, 56, 51, 56, 52, 56, 53, 56, 54, 56, 55, 56, 56, 56, 57, 57, 48, 57, 49, 57, 50, 57, 51, 57, 52, 57, 53, 57, 54, 57, 55, 57, 56, 57, 57]⟩) t130) fun t131 =>
      Mpu (ixT (.string ⟨#[48, 48, 48, 49, 48, 50, 48, 51, 48, 52, 48, 53, 48, 54, 48, 55, 48, 56, 48, 57, 49, 48, 49, 49, 49, 50, 49, 51, 49, 52, 49, 53, 49, 54, 49, 55, 49, 56, 49, 57, 50, 48, 50, 49, 50, 50, 50, 51, 50, 52, 50, 53, 50, 54, 50, 55, 50, 56, 50, 57, 51, 48, 51, 49, 51, 50, 51, 51, 51, 52, 51, 53, 51, 54, 51, 55, 51, 56, 51, 57, 52, 48, 52, 49, 52, 50, 52, 51, 52, 52, 52, 53, 52, 54, 52, 55, 52, 56, 52, 57, 53, 48, 53, 49, 53, 50, 53, 51, 53, 52, 53, 53, 53, 54, 53, 55, 53, 56, 53, 57, 54, 48, 54, 49, 54, 50, 54, 51, 54, 52, 54, 53, 54, 54, 54, 55, 54, 56, 54, 57, 55, 48, 55, 49, 55, 50, 55, 51, 55, 52, 55, 53, 55, 54, 55, 55, 55, 56, 55, 57, 56, 48, 56, 49, 56, 50, 56, 51, 56, 52, 56, 53, 56, 54, 56, 55, 56, 56, 56, 57, 57, 48, 57, 49, 57, 50, 57, 51, 57, 52, 57, 53, 57, 54, 57, 55, 57, 56, 57, 57]⟩) t106) fun t133 =>
      Mpu (ixS 1 t0 t125) fun t134 =>
      Mwr (st1 h16 t134 t131) fun h17 =>
      Mpu (ixS 1 t0 t128) fun t135 =>
      Mwr (st1 h17 t135 t133) fun h18 =>
      Mpu (binV .no .sub t4_4 (.int .i64 4)) fun t137 =>
      k13 t137 t103 h18) (
      k13 t4_4 t97 h2)) fun t4_6 t12_3 h14 =>
  J2 (fun k19 =>
    Mpu (binV .no .geq t4_6 (.int .i64 2)) fun t139 =>
    Mcd t139 (
      Mpu (binV .no .rem t12_3 (.int .u32 100)) fun t141 =>
      Mpu (binV .no .mul t141 (.int .u32 2)) fun t142 =>
      Mpu (binV .no .quo t12_3 (.int .u32 100)) fun t144 =>
      Mpu (binV .no .sub t4_6 (.int .i64 1)) fun t147 =>
      Mpu (binV .no .sub t4_6 (.int .i64 2)) fun t150 =>
      Mpu (binV .no .add t142 (.int .u32 1)) fun t152 =>
      Mpu (ixT (.string ⟨#[48, 48, 48, 49, 48, 50, 48, 51, 48, 52, 48, 53, 48, 54, 48, 55, 48, 56, 48, 57, 49, 48, 49, 49, 49, 50, 49, 51, 49, 52, 49, 53, 49, 54, 49, 55, 49, 56, 49, 57, 50, 48, 50, 49, 50, 50, 50, 51, 50, 52, 50, 53, 50, 54, 50, 55, 50, 56, 50, 57, 51, 48, 51, 49, 51, 50, 51, 51, 51, 52, 51, 53, 51, 54, 51, 55, 51, 56, 51, 57, 52, 48, 52, 49, 52, 50, 52, 51, 52, 52, 52, 53, 52, 54, 52, 55, 52, 56, 52, 57, 53, 48, 53, 49, 53, 50, 53, 51, 53, 52, 53, 53, 53, 54, 53, 55, 53, 56, 53, 57, 54, 48, 54, 49, 54, 50, 54, 51, 54, 52, 54, 53, 54, 54, 54, 55, 54, 56, 54, 57, 55, 48, 55, 49, 55, 50, 55, 51, 55, 52, 55, 53, 55, 54, 55, 55, 55, 56, 55, 57, 56, 48, 56, 49, 56, 50, 56, 51, 56, 52, 56, 53, 56, 54, 56, 55, 56, 56, 56, 57, 57, 48, 57, 49, 57, 50, 57, 51, 57, 52, 57, 53, 57, 54, 57, 55, 57, 56, 57, 57]⟩) t152) fun t153 =>
      Mpu (ixT (.string ⟨#[48, 48, 48, 49, 48, 50, 48, 51, 48, 52, 48, 53, 48, 54, 48, 55, 48, 56, 48, 57, 49, 48, 49, 49, 49, 50, 49, 51, 49, 52, 49, 53, 49, 54, 49, 55, 49, 56, 49, 57, 50, 48, 50, 49, 50, 50, 50, 51, 50, 52, 50, 53, 50, 54, 50, 55, 50, 56, 50, 57, 51, 48, 51, 49, 51, 50, 51, 51, 51, 52, 51, 53, 51, 54, 51, 55, 51, 56, 51, 57, 52, 48, 52, 49, 52, 50, 52, 51, 52, 52, 52, 53, 52, 54, 52, 55, 52, 56, 52, 57, 53, 48, 53, 49, 53, 50, 53, 51, 53, 52, 53, 53, 53, 54, 53, 55, 53, 56, 53, 57, 54, 48, 54, 49, 54, 50, 54, 51, 54, 52, 54, 53, 54, 54, 54, 55, 54, 56, 54, 57, 55, 48, 55, 49, 55, 50, 55, 51, 55, 52, 55, 53, 55, 54, 55, 55, 55, 56, 55, 57, 56, 48, 56, 49, 56, 50, 56, 51, 56, 52, 56, 53, 56, 54, 56, 55, 56, 56, 56, 57, 57, 48, 57, 49, 57, 50, 57, 51, 57, 52, 57, 53, 57, 54, 57, 55, 57, 56, 57, 57]⟩) t142) fun t155 =>
      Mpu (ixS 1 t0 t147) fun t156 =>
      Mwr (st1 h14 t156 t153) fun h21 =>
      Mpu (ixS 1 t0 t150) fun t157 =>
      Mwr (st1 h21 t157 t155) fun h22 =>
      Mpu (binV .no .sub t4_6 (.int .i64 2)) fun t159 =>
      k19 t159 t144 h22) (
      k19 t4_6 t12_3 h14)) fun t4_8 t12_5 h20 =>
  Mpu (binV .no .gtr t4_8 (.int .i64 0)) fun t161 =>
  Mcd t161 (
    Mpu (binV .no .add (.int .u32 48) t12_5) fun t164 =>
    Mpu (cvI .u8 t164) fun t165 =>
    Mpu (ixS 1 t0 (.int .i64 0)) fun t166 =>
    Mwr (st1 h20 t166 t165) fun h23 =>
    R (.tuple #[]) h23) (
    R (.tuple #[]) h20)
theorem sh_internal_strconv_formatBase10_chk : fchkF prg [1, 4, 12] Tryz.f175 2 = true := by kernel_rfl
theorem sh_internal_strconv_formatBase10_den (t0 t1 : Value) (H : Heap) (R : Value → Heap → Prop) : fdenF prg [1, 4, 12] Tryz.f175 [t0, t1] H R = sh_internal_strconv_formatBase10 t0 t1 H R := by kernel_rfl
theorem sh_internal_strconv_formatBase10_calls {t0 t1 : Value} {H : Heap} {R : Value → Heap → Prop} (h : sh_internal_strconv_formatBase10 t0 t1 H R) : HCalls prg f_internal_strconv_formatBase10 [t0, t1] H R :=
  calls_ofF Tryz.func175 sh_internal_strconv_formatBase10_chk (by rw [sh_internal_strconv_formatBase10_den]; exact h)

-- internal/strconv.formatBits
-- unicode/utf8.decodeRuneInStringSlow
end Go.Proofs.YtanhgihfgmbojaaGreatDoor

/- PRINTED: clean texts -/
namespace Go.Proofs.YtanhgihfgmbojaaGreatDoor
open Go.X
set_option maxRecDepth 100000
-- unicode/utf8.RuneStart
-- internal/bytealg.Cutover
-- internal/strconv.log10Pow2
def sh_internal_strconv_log10Pow2 (t0 : Value) (H : Heap) (R : Value → Heap → Prop) : Prop :=
  Mpu (binV .no .mul t0 (.int .i64 78913)) fun t4 =>
  Mpu (binV .no .shr t4 (.int .u64 18)) fun t5 =>
  R t5 H
theorem sh_internal_strconv_log10Pow2_chk : fchkF prg [] Tryz.f179 1 = true := by kernel_rfl
theorem sh_internal_strconv_log10Pow2_den (t0 : Value) (H : Heap) (R : Value → Heap → Prop) : fdenF prg [] Tryz.f179 [t0] H R = sh_internal_strconv_log10Pow2 t0 H R := by kernel_rfl
theorem sh_internal_strconv_log10Pow2_calls {t0 : Value} {H : Heap} {R : Value → Heap → Prop} (h : sh_internal_strconv_log10Pow2 t0 H R) : HCalls prg f_internal_strconv_log10Pow2 [t0] H R :=
  calls_ofF Tryz.func179 sh_internal_strconv_log10Pow2_chk (by rw [sh_internal_strconv_log10Pow2_den]; exact h)

-- math/bits.Len64
def sh_math_bits_Len64 (t0 : Value) (H : Heap) (R : Value → Heap → Prop) : Prop :=
  J2 (fun k1 =>
    Mpu (binV .no .geq t0 (.int .u64 4294967296)) fun t4 =>
    Mcd t4 (
      Mpu (binV .no .shr t0 (.int .u64 32)) fun t6 =>
      k1 t6 (.int .i64 32) H) (
      k1 t0 (.int .i64 0) H)) fun t0_3 t2_3 h2 =>
  J2 (fun k3 =>
    Mpu (binV .no .geq t0_3 (.int .u64 65536)) fun t8 =>
    Mcd t8 (
      Mpu (binV .no .shr t0_3 (.int .u64 16)) fun t10 =>
      Mpu (binV .no .add t2_3 (.int .i64 16)) fun t12 =>
      k3 t10 t12 h2) (
      k3 t0_3 t2_3 h2)) fun t0_5 t2_5 h4 =>
  J2 (fun k5 =>
    Mpu (binV .no .geq t0_5 (.int .u64 256)) fun t14 =>
    Mcd t14 (
      Mpu (binV .no .shr t0_5 (.int .u64 8)) fun t16 =>
      Mpu (binV .no .add t2_5 (.int .i64 8)) fun t18 =>
      k5 t16 t18 h4) (
      k5 t0_5 t2_5 h4)) fun t0_7 t2_7 h6 =>
  Mpu (cvI .u8 t0_7) fun t21 =>
  Mpu (ixT (.string ⟨#[0, 1, 2, 2, 3, 3, 3, 3, 4, 4, 4, 4, 4, 4, 4, 4, 5, 5, 5, 5, 5, 5, 5, 5, 5, 5, 5, 5, 5, 5, 5, 5, 6, 6, 6, 6, 6, 6, 6, 6, 6, 6, 6, 6, 6, 6, 6, 6, 6, 6, 6, 6, 6, 6, 6, 6, 6, 6, 6, 6, 6, 6, 6, 6, 7, 7, 7, 7, 7, 7, 7, 7, 7, 7, 7, 7, 7, 7, 7, 7, 7, 7, 7, 7, 7, 7, 7, 7, 7, 7, 7, 7, 7, 7, 7, 7, 7, 7, 7, 7, 7, 7, 7, 7, 7, 7, 7, 7, 7, 7, 7, 7, 7, 7, 7, 7, 7, 7, 7, 7, 7, 7, 7, 7, 7, 7, 7, 7, 8, 8, 8, 8, 8, 8, 8, 8, 8, 8, 8, 8, 8, 8, 8, 8, 8, 8, 8, 8, 8, 8, 8, 8, 8, 8, 8, 8, 8, 8, 8, 8, 8, 8, 8, 8, 8, 8, 8, 8, 8, 8, 8, 8, 8, 8, 8, 8, 8, 8, 8, 8, 8, 8, 8, 8, 8, 8, 8, 8, 8, 8, 8, 8, 8, 8, 8, 8, 8, 8, 8, 8, 8, 8, 8, 8, 8, 8, 8, 8, 8, 8, 8, 8, 8, 8, 8, 8, 8, 8, 8, 8, 8, 8, 8, 8, 8, 8, 8, 8, 8, 8, 8, 8, 8, 8, 8, 8, 8, 8, 8, 8, 8, 8, 8, 8, 8, 8, 8, 8, 8, 8, 8, 8, 8, 8, 8, 8]⟩) t21) fun t22 =>
  Mpu (cvI .i64 t22) fun t23 =>
  Mpu (binV .no .add t2_7 t23) fun t24 =>
  R t24 h6
theorem sh_math_bits_Len64_chk : fchkF prg [0, 2] Tryz.f126 1 = true := by kernel_rfl
theorem sh_math_bits_Len64_den (t0 : Value) (H : Heap) (R : Value → Heap → Prop) : fdenF prg [0, 2] Tryz.f126 [t0] H R = sh_math_bits_Len64 t0 H R := by kernel_rfl
theorem sh_math_bits_Len64_calls {t0 : Value} {H : Heap} {R : Value → Heap → Prop} (h : sh_math_bits_Len64 t0 H R) : HCalls prg f_math_bits_Len64 [t0] H R :=
  calls_ofF Tryz.func126 sh_math_bits_Len64_chk (by rw [sh_math_bits_Len64_den]; exact h)

-- internal/strconv.bool2[int]
def sh_internal_strconv_bool2_int (t0 : Value) (H : Heap) (R : Value → Heap → Prop) : Prop :=
  Mcd t0 (
    R (.int .i64 1) H) (
    R (.int .i64 0) H)
theorem sh_internal_strconv_bool2_int_chk : fchkF prg [] Tryz.f180 1 = true := by kernel_rfl
theorem sh_internal_strconv_bool2_int_den (t0 : Value) (H : Heap) (R : Value → Heap → Prop) : fdenF prg [] Tryz.f180 [t0] H R = sh_internal_strconv_bool2_int t0 H R := by kernel_rfl
theorem sh_internal_strconv_bool2_int_calls {t0 : Value} {H : Heap} {R : Value → Heap → Prop} (h : sh_internal_strconv_bool2_int t0 H R) : HCalls prg f_internal_strconv_bool2_int [t0] H R :=
  calls_ofF Tryz.func180 sh_internal_strconv_bool2_int_chk (by rw [sh_internal_strconv_bool2_int_den]; exact h)

-- internal/strconv.isPowerOfTwo
-- math/bits.TrailingZeros
-- unicode/utf8.ValidRune
-- math/bits.TrailingZeros32
-- math/bits.TrailingZeros64
end Go.Proofs.YtanhgihfgmbojaaGreatDoor

