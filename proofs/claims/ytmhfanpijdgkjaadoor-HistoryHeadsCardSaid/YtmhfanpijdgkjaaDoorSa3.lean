/- PRINTED: clean texts -/
import Derived.Test.YtmhfanpijdgkjaaDoorSa
namespace Go.Proofs.YtmhfanpijdgkjaaDoor
open Go.X
set_option maxRecDepth 100000
-- strings.makeASCIISet
def sh_strings_makeASCIISet (t0 : Value) (H : Heap) (R : Value → Heap → Prop) : Prop :=
  Mnew H T_strings_asciiSet (zcells prg T_strings_asciiSet) fun t2 h1 =>
  J1 (fun k2 =>
    L1 (fun k4 => fun t4_2 h5 =>
      Mpu (lenT t0) fun t8 =>
      Mpu (binV .no .lss t4_2 t8) fun t9 =>
      Mcd t9 (
        Mpu (ixT t0 t4_2) fun t14 =>
        Mpu (binV .no .geq t14 (.int .u8 128)) fun t16 =>
        Mcd t16 (
          Mpu (ldN 256 h5 t2) fun t17 =>
          Mwr (stN 256 h5 t2 t17) fun h6 =>
          Mpu (ldN 256 h6 t2) fun r7 =>
          R (.tuple #[r7, (.bool false)]) h6) (
          Mpu (ixA 256 1 t2 t14) fun t19 =>
          Mwr (st1 h5 t19 (.bool true)) fun h8 =>
          Mpu (binV .no .add t4_2 (.int .i64 1)) fun t11 =>
          k4 t11 h8)) (
        k2 t4_2 h5)) ((.int .i64 0)) h1) fun t4_4 h3 =>
  Mpu (ldN 256 h3 t2) fun t20 =>
  Mwr (stN 256 h3 t2 t20) fun h9 =>
  Mpu (ldN 256 h9 t2) fun r10 =>
  R (.tuple #[r10, (.bool true)]) h9
theorem sh_strings_makeASCIISet_chk : fchk prg [4] Tryd.f99 1 = true := by kernel_rfl
theorem sh_strings_makeASCIISet_den (t0 : Value) (H : Heap) (R : Value → Heap → Prop) : fden prg [4] Tryd.f99 [t0] H R = sh_strings_makeASCIISet t0 H R := by kernel_rfl
theorem sh_strings_makeASCIISet_calls {t0 : Value} {H : Heap} {R : Value → Heap → Prop} (h : sh_strings_makeASCIISet t0 H R) : HCalls prg f_strings_makeASCIISet [t0] H R :=
  calls_of Tryd.func99 sh_strings_makeASCIISet_chk (by rw [sh_strings_makeASCIISet_den]; exact h)

-- strings.trimLeftASCII
def sh_strings_trimLeftASCII (t0 t1 : Value) (H : Heap) (R : Value → Heap → Prop) : Prop :=
  J1 (fun k1 =>
    L1 (fun k3 => fun t0_2 h4 =>
      Mpu (lenT t0_2) fun t6 =>
      Mpu (binV .no .gtr t6 (.int .i64 0)) fun t7 =>
      Mcd t7 (
        Mpu (ixT t0_2 (.int .i64 0)) fun t10 =>
        Mcall prg f_strings_asciiSet_contains [t1, t10] h4 fun t11 h5 =>
        Mpu (unV .not t11) fun t12 =>
        Mcd t12 (
          k1 t0_2 h5) (
          Mpu (slT t0_2 (some (.int .i64 1)) none) fun t14 =>
          k3 t14 h5)) (
        k1 t0_2 h4)) (t0) H) fun t0_4 h2 =>
  R t0_4 h2
theorem sh_strings_trimLeftASCII_chk : fchk prg [0] Tryd.f100 2 = true := by kernel_rfl
theorem sh_strings_trimLeftASCII_den (t0 t1 : Value) (H : Heap) (R : Value → Heap → Prop) : fden prg [0] Tryd.f100 [t0, t1] H R = sh_strings_trimLeftASCII t0 t1 H R := by kernel_rfl
theorem sh_strings_trimLeftASCII_calls {t0 t1 : Value} {H : Heap} {R : Value → Heap → Prop} (h : sh_strings_trimLeftASCII t0 t1 H R) : HCalls prg f_strings_trimLeftASCII [t0, t1] H R :=
  calls_of Tryd.func100 sh_strings_trimLeftASCII_chk (by rw [sh_strings_trimLeftASCII_den]; exact h)

-- strings.trimRightASCII
def sh_strings_trimRightASCII (t0 t1 : Value) (H : Heap) (R : Value → Heap → Prop) : Prop :=
  J1 (fun k1 =>
    L1 (fun k3 => fun t0_2 h4 =>
      Mpu (lenT t0_2) fun t6 =>
      Mpu (binV .no .gtr t6 (.int .i64 0)) fun t7 =>
      Mcd t7 (
        Mpu (lenT t0_2) fun t11 =>
        Mpu (binV .no .sub t11 (.int .i64 1)) fun t12 =>
        Mpu (ixT t0_2 t12) fun t13 =>
        Mcall prg f_strings_asciiSet_contains [t1, t13] h4 fun t14 h5 =>
        Mpu (unV .not t14) fun t15 =>
        Mcd t15 (
          k1 t0_2 h5) (
          Mpu (lenT t0_2) fun t18 =>
          Mpu (binV .no .sub t18 (.int .i64 1)) fun t19 =>
          Mpu (slT t0_2 none (some t19)) fun t20 =>
          k3 t20 h5)) (
        k1 t0_2 h4)) (t0) H) fun t0_4 h2 =>
  R t0_4 h2
theorem sh_strings_trimRightASCII_chk : fchk prg [0] Tryd.f101 2 = true := by kernel_rfl
theorem sh_strings_trimRightASCII_den (t0 t1 : Value) (H : Heap) (R : Value → Heap → Prop) : fden prg [0] Tryd.f101 [t0, t1] H R = sh_strings_trimRightASCII t0 t1 H R := by kernel_rfl
theorem sh_strings_trimRightASCII_calls {t0 t1 : Value} {H : Heap} {R : Value → Heap → Prop} (h : sh_strings_trimRightASCII t0 t1 H R) : HCalls prg f_strings_trimRightASCII [t0, t1] H R :=
  calls_of Tryd.func101 sh_strings_trimRightASCII_chk (by rw [sh_strings_trimRightASCII_den]; exact h)

-- strings.trimLeftUnicode
def sh_strings_trimLeftUnicode (t0 t1 : Value) (H : Heap) (R : Value → Heap → Prop) : Prop :=
  J1 (fun k1 =>
    L1 (fun k3 => fun t0_2 h4 =>
      Mpu (lenT t0_2) fun t8 =>
      Mpu (binV .no .gtr t8 (.int .i64 0)) fun t9 =>
      Mcd t9 (
        Mcall prg f_unicode_utf8_DecodeRuneInString [t0_2] h4 fun t12 h5 =>
        Mpu (extV 0 t12) fun t13 =>
        Mpu (extV 1 t12) fun t14 =>
        Mcall prg f_strings_ContainsRune [t1, t13] h5 fun t17 h6 =>
        Mpu (unV .not t17) fun t18 =>
        Mcd t18 (
          k1 t0_2 h6) (
          Mpu (slT t0_2 (some t14) none) fun t21 =>
          k3 t21 h6)) (
        k1 t0_2 h4)) (t0) H) fun t0_4 h2 =>
  R t0_4 h2
theorem sh_strings_trimLeftUnicode_chk : fchk prg [0] Tryd.f102 2 = true := by kernel_rfl
theorem sh_strings_trimLeftUnicode_den (t0 t1 : Value) (H : Heap) (R : Value → Heap → Prop) : fden prg [0] Tryd.f102 [t0, t1] H R = sh_strings_trimLeftUnicode t0 t1 H R := by kernel_rfl
theorem sh_strings_trimLeftUnicode_calls {t0 t1 : Value} {H : Heap} {R : Value → Heap → Prop} (h : sh_strings_trimLeftUnicode t0 t1 H R) : HCalls prg f_strings_trimLeftUnicode [t0, t1] H R :=
  calls_of Tryd.func102 sh_strings_trimLeftUnicode_chk (by rw [sh_strings_trimLeftUnicode_den]; exact h)

-- strings.trimRightUnicode
def sh_strings_trimRightUnicode (t0 t1 : Value) (H : Heap) (R : Value → Heap → Prop) : Prop :=
  J1 (fun k1 =>
    L1 (fun k3 => fun t0_2 h4 =>
      Mpu (lenT t0_2) fun t8 =>
      Mpu (binV .no .gtr t8 (.int .i64 0)) fun t9 =>
      Mcd t9 (
        Mpu (lenT t0_2) fun t12 =>
        Mpu (binV .no .sub t12 (.int .i64 1)) fun t13 =>
        Mpu (ixT t0_2 t13) fun t14 =>
        Mpu (cvI .i32 t14) fun t15 =>
        J2 (fun k5 =>
          Mpu (binV .no .geq t15 (.int .i32 128)) fun t17 =>
          Mcd t17 (
            Mcall prg f_unicode_utf8_DecodeLastRuneInString [t0_2] h4 fun t20 h7 =>
            Mpu (extV 0 t20) fun t21 =>
            Mpu (extV 1 t20) fun t22 =>
            k5 t21 t22 h7) (
            k5 t15 (.int .i64 1) h4)) fun t5_3 t6_3 h6 =>
        Mcall prg f_strings_ContainsRune [t1, t5_3] h6 fun t25 h8 =>
        Mpu (unV .not t25) fun t26 =>
        Mcd t26 (
          k1 t0_2 h8) (
          Mpu (lenT t0_2) fun t29 =>
          Mpu (binV .no .sub t29 t6_3) fun t31 =>
          Mpu (slT t0_2 none (some t31)) fun t32 =>
          k3 t32 h8)) (
        k1 t0_2 h4)) (t0) H) fun t0_4 h2 =>
  R t0_4 h2
theorem sh_strings_trimRightUnicode_chk : fchk prg [0, 5, 6] Tryd.f103 2 = true := by kernel_rfl
theorem sh_strings_trimRightUnicode_den (t0 t1 : Value) (H : Heap) (R : Value → Heap → Prop) : fden prg [0, 5, 6] Tryd.f103 [t0, t1] H R = sh_strings_trimRightUnicode t0 t1 H R := by kernel_rfl
theorem sh_strings_trimRightUnicode_calls {t0 t1 : Value} {H : Heap} {R : Value → Heap → Prop} (h : sh_strings_trimRightUnicode t0 t1 H R) : HCalls prg f_strings_trimRightUnicode [t0, t1] H R :=
  calls_of Tryd.func103 sh_strings_trimRightUnicode_chk (by rw [sh_strings_trimRightUnicode_den]; exact h)

-- strings.IndexByte
def sh_strings_IndexByte (t0 t1 : Value) (H : Heap) (R : Value → Heap → Prop) : Prop :=
  Mcall prg f_internal_stringslite_IndexByte [t0, t1] H fun t7 h1 =>
  R t7 h1
theorem sh_strings_IndexByte_chk : fchk prg [] Tryd.f113 2 = true := by kernel_rfl
theorem sh_strings_IndexByte_den (t0 t1 : Value) (H : Heap) (R : Value → Heap → Prop) : fden prg [] Tryd.f113 [t0, t1] H R = sh_strings_IndexByte t0 t1 H R := by kernel_rfl
theorem sh_strings_IndexByte_calls {t0 t1 : Value} {H : Heap} {R : Value → Heap → Prop} (h : sh_strings_IndexByte t0 t1 H R) : HCalls prg f_strings_IndexByte [t0, t1] H R :=
  calls_of Tryd.func113 sh_strings_IndexByte_chk (by rw [sh_strings_IndexByte_den]; exact h)

-- (*syngraph/wire.Out).number
def sh_wire_Out_number (t0 t1 t2 : Value) (H : Heap) (R : Value → Heap → Prop) : Prop :=
  L1 (fun k1 => fun t8_2 h2 =>
    Mpu (binV .no .lss t8_2 t2) fun t9 =>
    Mcd t9 (
      Mpu (nck t0) fun t13 =>
      Mpu (fld 0 t13) fun t14 =>
      Mpu (ld1 h2 t14) fun t15 =>
      Mpu (binV .no .sub t2 (.int .i64 1)) fun t18 =>
      Mpu (binV .no .sub t18 t8_2) fun t20 =>
      Mpu (binV .no .mul (.int .i64 8) t20) fun t21 =>
      Mpu (binV .no .shr t1 t21) fun t22 =>
      Mpu (cvI .u8 t22) fun t23 =>
      Mnews h2 T_uint8 1 (bslV prg T_uint8 1 [(0, t23)]) fun t24 h3 =>
      Mre [(ld1 h3 t14, t15)] (
      Mapp T_uint8 1 1 h3 t15 t24 fun t25 h4 =>
      Mpu (nck t0) fun t26 =>
      Mpu (fld 0 t26) fun t27 =>
      Mwr (st1 h4 t27 t25) fun h5 =>
      Mpu (binV .no .add t8_2 (.int .i64 1)) fun t28 =>
      k1 t28 h5)) (
      R (.tuple #[]) h2)) ((.int .i64 0)) H
theorem sh_wire_Out_number_chk : fchk prg [8] Tryd.f114 3 = true := by kernel_rfl
theorem sh_wire_Out_number_den (t0 t1 t2 : Value) (H : Heap) (R : Value → Heap → Prop) : fden prg [8] Tryd.f114 [t0, t1, t2] H R = sh_wire_Out_number t0 t1 t2 H R := by kernel_rfl
theorem sh_wire_Out_number_calls {t0 t1 t2 : Value} {H : Heap} {R : Value → Heap → Prop} (h : sh_wire_Out_number t0 t1 t2 H R) : HCalls prg f_wire_Out_number [t0, t1, t2] H R :=
  calls_of Tryd.func114 sh_wire_Out_number_chk (by rw [sh_wire_Out_number_den]; exact h)

-- (*syngraph/wire.Out).Text
def sh_wire_Out_Text (t0 t1 : Value) (H : Heap) (R : Value → Heap → Prop) : Prop :=
  Ms2b T_uint8 H t1 fun t7 h1 =>
  Mcall prg f_wire_Out_Bytes [t0, t7] h1 fun t8 h2 =>
  R t8 h2
theorem sh_wire_Out_Text_chk : fchk prg [] Tryd.f115 2 = true := by kernel_rfl
theorem sh_wire_Out_Text_den (t0 t1 : Value) (H : Heap) (R : Value → Heap → Prop) : fden prg [] Tryd.f115 [t0, t1] H R = sh_wire_Out_Text t0 t1 H R := by kernel_rfl
theorem sh_wire_Out_Text_calls {t0 t1 : Value} {H : Heap} {R : Value → Heap → Prop} (h : sh_wire_Out_Text t0 t1 H R) : HCalls prg f_wire_Out_Text [t0, t1] H R :=
  calls_of Tryd.func115 sh_wire_Out_Text_chk (by rw [sh_wire_Out_Text_den]; exact h)

-- bytes.Clone
def sh_bytes_Clone (t0 : Value) (H : Heap) (R : Value → Heap → Prop) : Prop :=
  Mpu (binV .slc .eql t0 (.slice none 0 0)) fun t4 =>
  Mcd t4 (
    R (.slice none 0 0) H) (
    Mnews H T_uint8 0 (bslV prg T_uint8 0 []) fun t5 h1 =>
    Mapp T_uint8 1 1 h1 t5 t0 fun t7 h2 =>
    R t7 h2)
theorem sh_bytes_Clone_chk : fchk prg [] Tryd.f116 1 = true := by kernel_rfl
theorem sh_bytes_Clone_den (t0 : Value) (H : Heap) (R : Value → Heap → Prop) : fden prg [] Tryd.f116 [t0] H R = sh_bytes_Clone t0 H R := by kernel_rfl
theorem sh_bytes_Clone_calls {t0 : Value} {H : Heap} {R : Value → Heap → Prop} (h : sh_bytes_Clone t0 H R) : HCalls prg f_bytes_Clone [t0] H R :=
  calls_of Tryd.func116 sh_bytes_Clone_chk (by rw [sh_bytes_Clone_den]; exact h)

-- internal/strconv.FormatInt
def sh_internal_strconv_FormatInt (t0 t1 : Value) (H : Heap) (R : Value → Heap → Prop) : Prop :=
  Mpu (binV .no .eql t1 (.int .i64 10)) fun t11 =>
  Mcd t11 (
    Mpu (binV .no .leq (.int .i64 0) t0) fun t13 =>
    J1 (fun k1 => Mif t13 true (
        Mpu (binV .no .lss t0 (.int .i64 100)) fun t16 =>
        k1 t16 H) (
        k1 undef H)) fun t16_2 h2 =>
    Mpu (pickV t13 t16_2 (.bool false)) fun t17 =>
    Mcd t17 (
      Mcall prg f_internal_strconv_small [t0] h2 fun t19 h3 =>
      R t19 h3) (
      Mnew h2 T_A24_uint8 (zcells prg T_A24_uint8) fun t5 h4 =>
      Mpu (cvI .u64 t0) fun t21 =>
      J1 (fun k5 =>
        Mpu (binV .no .lss t0 (.int .i64 0)) fun t23 =>
        Mcd t23 (
          Mpu (unV .neg t21) fun t25 =>
          k5 t25 h4) (
          k5 t21 h4)) fun t6_3 h6 =>
      Mcall prg f_internal_strconv_numDigits [t6_3] h6 fun t27 h7 =>
      Mpu (binV .no .add (.int .i64 1) t27) fun t29 =>
      Mpu (slA 24 1 t5 (some (.int .i64 1)) (some t29) none) fun t30 =>
      Mcall prg f_internal_strconv_formatBase10 [t30, t6_3] h7 fun t32 h8 =>
      Mpu (binV .no .lss t0 (.int .i64 0)) fun t34 =>
      Mcd t34 (
        Mpu (ixA 24 1 t5 (.int .i64 0)) fun t35 =>
        Mwr (st1 h8 t35 (.int .u8 45)) fun h9 =>
        Mpu (binV .no .add (.int .i64 1) t27) fun t37 =>
        Mpu (slA 24 1 t5 none (some t37) none) fun t38 =>
        Mpu (b2s h9 t38) fun t39 =>
        R t39 h9) (
        Mpu (binV .no .add (.int .i64 1) t27) fun t41 =>
        Mpu (slA 24 1 t5 (some (.int .i64 1)) (some t41) none) fun t42 =>
        Mpu (b2s h8 t42) fun t43 =>
        R t43 h8))) (
    Mpu (cvI .u64 t0) fun t46 =>
    Mpu (binV .no .lss t0 (.int .i64 0)) fun t49 =>
    Mcall prg f_internal_strconv_formatBits [(.slice none 0 0), t46, t1, t49, (.bool false)] H fun t50 h10 =>
    Mpu (extV 0 t50) fun t51 =>
    Mpu (extV 1 t50) fun t52 =>
    R t52 h10)
theorem sh_internal_strconv_FormatInt_chk : fchk prg [6, 16] Tryd.f117 2 = true := by kernel_rfl
theorem sh_internal_strconv_FormatInt_den (t0 t1 : Value) (H : Heap) (R : Value → Heap → Prop) : fden prg [6, 16] Tryd.f117 [t0, t1] H R = sh_internal_strconv_FormatInt t0 t1 H R := by kernel_rfl
theorem sh_internal_strconv_FormatInt_calls {t0 t1 : Value} {H : Heap} {R : Value → Heap → Prop} (h : sh_internal_strconv_FormatInt t0 t1 H R) : HCalls prg f_internal_strconv_FormatInt [t0, t1] H R :=
  calls_of Tryd.func117 sh_internal_strconv_FormatInt_chk (by rw [sh_internal_strconv_FormatInt_den]; exact h)

-- (*strings.Builder).copyCheck
def sh_strings_Builder_copyCheck (t0 : Value) (H : Heap) (R : Value → Heap → Prop) : Prop :=
  Mpu (nck t0) fun t3 =>
  Mpu (fld 0 t3) fun t4 =>
  Mpu (ld1 H t4) fun t5 =>
  Mpu (binV .ptr .eql t5 (.pointer none)) fun t6 =>
  Mcd t6 (
    Msem prg (convert T_P_strings_Builder T_unsafe_Pointer t0) H fun t9 h1 =>
    Msem prg (xtV prg f_internal_abi_NoEscape #[t9]) h1 fun t10 h2 =>
    Msem prg (convert T_unsafe_Pointer T_P_strings_Builder t10) h2 fun t11 h3 =>
    Mpu (nck t0) fun t12 =>
    Mpu (fld 0 t12) fun t13 =>
    Mwr (st1 h3 t13 t11) fun h4 =>
    R (.tuple #[]) h4) (
    Mpu (nck t0) fun t15 =>
    Mpu (fld 0 t15) fun t16 =>
    Mpu (ld1 H t16) fun t17 =>
    Mpu (binV .ptr .neq t17 t0) fun t19 =>
    Mcd t19 (
      False) (
      R (.tuple #[]) H))
theorem sh_strings_Builder_copyCheck_chk : fchk prg [] Tryd.f118 1 = true := by kernel_rfl
theorem sh_strings_Builder_copyCheck_den (t0 : Value) (H : Heap) (R : Value → Heap → Prop) : fden prg [] Tryd.f118 [t0] H R = sh_strings_Builder_copyCheck t0 H R := by kernel_rfl
theorem sh_strings_Builder_copyCheck_calls {t0 : Value} {H : Heap} {R : Value → Heap → Prop} (h : sh_strings_Builder_copyCheck t0 H R) : HCalls prg f_strings_Builder_copyCheck [t0] H R :=
  calls_of Tryd.func118 sh_strings_Builder_copyCheck_chk (by rw [sh_strings_Builder_copyCheck_den]; exact h)

-- (*strings.Builder).grow
def sh_strings_Builder_grow (t0 t1 : Value) (H : Heap) (R : Value → Heap → Prop) : Prop :=
  Mpu (nck t0) fun t6 =>
  Mpu (fld 1 t6) fun t7 =>
  Mpu (ld1 H t7) fun t8 =>
  Mpu (capV t8) fun t9 =>
  Mpu (binV .no .mul (.int .i64 2) t9) fun t10 =>
  Mpu (binV .no .add t10 t1) fun t12 =>
  Mpu (nck t0) fun t15 =>
  Mpu (fld 1 t15) fun t16 =>
  Mpu (ld1 H t16) fun t17 =>
  Mpu (lenV t17) fun t18 =>
  Msem prg (xtV prg f_internal_bytealg_MakeNoZero #[t12]) H fun t13 h1 =>
  Mre [(ld1 h1 t16, t17)] (
  Mpu (slS 1 t13 none (some t18) none) fun t19 =>
  Mpu (nck t0) fun t22 =>
  Mpu (fld 1 t22) fun t23 =>
  Mpu (ld1 h1 t23) fun t24 =>
  Mcopy 1 h1 t19 t24 fun t25 h2 =>
  Mpu (nck t0) fun t28 =>
  Mpu (fld 1 t28) fun t29 =>
  Mwr (st1 h2 t29 t19) fun h3 =>
  R (.tuple #[]) h3)
theorem sh_strings_Builder_grow_chk : fchk prg [] Tryd.f119 2 = true := by kernel_rfl
theorem sh_strings_Builder_grow_den (t0 t1 : Value) (H : Heap) (R : Value → Heap → Prop) : fden prg [] Tryd.f119 [t0, t1] H R = sh_strings_Builder_grow t0 t1 H R := by kernel_rfl
theorem sh_strings_Builder_grow_calls {t0 t1 : Value} {H : Heap} {R : Value → Heap → Prop} (h : sh_strings_Builder_grow t0 t1 H R) : HCalls prg f_strings_Builder_grow [t0, t1] H R :=
  calls_of Tryd.func119 sh_strings_Builder_grow_chk (by rw [sh_strings_Builder_grow_den]; exact h)

-- syngraph/sha.word
def sh_sha_word (t0 : Value) (H : Heap) (R : Value → Heap → Prop) : Prop :=
  Mpu (ixS 1 t0 (.int .i64 0)) fun t4 =>
  Mpu (ld1 H t4) fun t5 =>
  Mpu (cvI .u32 t5) fun t6 =>
  Mpu (binV .no .shl t6 (.int .u64 24)) fun t7 =>
  Mpu (ixS 1 t0 (.int .i64 1)) fun t9 =>
  Mpu (ld1 H t9) fun t10 =>
  Mpu (cvI .u32 t10) fun t11 =>
  Mpu (binV .no .shl t11 (.int .u64 16)) fun t12 =>
  Mpu (binV .no .or t7 t12) fun t13 =>
  Mpu (ixS 1 t0 (.int .i64 2)) fun t15 =>
  Mpu (ld1 H t15) fun t16 =>
  Mpu (cvI .u32 t16) fun t17 =>
  Mpu (binV .no .shl t17 (.int .u64 8)) fun t18 =>
  Mpu (binV .no .or t13 t18) fun t19 =>
  Mpu (ixS 1 t0 (.int .i64 3)) fun t21 =>
  Mpu (ld1 H t21) fun t22 =>
  Mpu (cvI .u32 t22) fun t23 =>
  Mpu (binV .no .or t19 t23) fun t24 =>
  R t24 H
theorem sh_sha_word_chk : fchk prg [] Tryd.f121 1 = true := by kernel_rfl
theorem sh_sha_word_den (t0 : Value) (H : Heap) (R : Value → Heap → Prop) : fden prg [] Tryd.f121 [t0] H R = sh_sha_word t0 H R := by kernel_rfl
theorem sh_sha_word_calls {t0 : Value} {H : Heap} {R : Value → Heap → Prop} (h : sh_sha_word t0 H R) : HCalls prg f_sha_word [t0] H R :=
  calls_of Tryd.func121 sh_sha_word_chk (by rw [sh_sha_word_den]; exact h)

end Go.Proofs.YtmhfanpijdgkjaaDoor
