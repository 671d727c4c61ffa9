/- PRINTED: clean texts -/
import Derived.Test.YtmhfanpijdgkjaaDoorSa
namespace Go.Proofs.YtmhfanpijdgkjaaDoor
open Go.X
set_option maxRecDepth 100000
-- unicode/utf8.RuneStart
def sh_unicode_utf8_RuneStart (t0 : Value) (H : Heap) (R : Value → Heap → Prop) : Prop :=
  Mpu (binV .no .and t0 (.int .u8 192)) fun t4 =>
  Mpu (binV .no .neq t4 (.int .u8 128)) fun t5 =>
  R t5 H
theorem sh_unicode_utf8_RuneStart_chk : fchk prg [] Tryd.f150 1 = true := by kernel_rfl
theorem sh_unicode_utf8_RuneStart_den (t0 : Value) (H : Heap) (R : Value → Heap → Prop) : fden prg [] Tryd.f150 [t0] H R = sh_unicode_utf8_RuneStart t0 H R := by kernel_rfl
theorem sh_unicode_utf8_RuneStart_calls {t0 : Value} {H : Heap} {R : Value → Heap → Prop} (h : sh_unicode_utf8_RuneStart t0 H R) : HCalls prg f_unicode_utf8_RuneStart [t0] H R :=
  calls_of Tryd.func150 sh_unicode_utf8_RuneStart_chk (by rw [sh_unicode_utf8_RuneStart_den]; exact h)

-- internal/bytealg.Cutover
def sh_internal_bytealg_Cutover (t0 : Value) (H : Heap) (R : Value → Heap → Prop) : Prop :=
  Mpu (binV .no .add t0 (.int .i64 16)) fun t4 =>
  Mpu (binV .no .quo t4 (.int .i64 8)) fun t5 =>
  R t5 H
theorem sh_internal_bytealg_Cutover_chk : fchk prg [] Tryd.f152 1 = true := by kernel_rfl
theorem sh_internal_bytealg_Cutover_den (t0 : Value) (H : Heap) (R : Value → Heap → Prop) : fden prg [] Tryd.f152 [t0] H R = sh_internal_bytealg_Cutover t0 H R := by kernel_rfl
theorem sh_internal_bytealg_Cutover_calls {t0 : Value} {H : Heap} {R : Value → Heap → Prop} (h : sh_internal_bytealg_Cutover t0 H R) : HCalls prg f_internal_bytealg_Cutover [t0] H R :=
  calls_of Tryd.func152 sh_internal_bytealg_Cutover_chk (by rw [sh_internal_bytealg_Cutover_den]; exact h)

-- (*syngraph/wire.Out).count
def sh_wire_Out_count (t0 t1 : Value) (H : Heap) (R : Value → Heap → Prop) : Prop :=
  Mcall prg f_wire_Out_number [t0, t1, (.int .i64 4)] H fun t6 h1 =>
  R (.tuple #[]) h1
theorem sh_wire_Out_count_chk : fchk prg [] Tryd.f158 2 = true := by kernel_rfl
theorem sh_wire_Out_count_den (t0 t1 : Value) (H : Heap) (R : Value → Heap → Prop) : fden prg [] Tryd.f158 [t0, t1] H R = sh_wire_Out_count t0 t1 H R := by kernel_rfl
theorem sh_wire_Out_count_calls {t0 t1 : Value} {H : Heap} {R : Value → Heap → Prop} (h : sh_wire_Out_count t0 t1 H R) : HCalls prg f_wire_Out_count [t0, t1] H R :=
  calls_of Tryd.func158 sh_wire_Out_count_chk (by rw [sh_wire_Out_count_den]; exact h)

-- internal/strconv.log10Pow2
def sh_internal_strconv_log10Pow2 (t0 : Value) (H : Heap) (R : Value → Heap → Prop) : Prop :=
  Mpu (binV .no .mul t0 (.int .i64 78913)) fun t4 =>
  Mpu (binV .no .shr t4 (.int .u64 18)) fun t5 =>
  R t5 H
theorem sh_internal_strconv_log10Pow2_chk : fchk prg [] Tryd.f159 1 = true := by kernel_rfl
theorem sh_internal_strconv_log10Pow2_den (t0 : Value) (H : Heap) (R : Value → Heap → Prop) : fden prg [] Tryd.f159 [t0] H R = sh_internal_strconv_log10Pow2 t0 H R := by kernel_rfl
theorem sh_internal_strconv_log10Pow2_calls {t0 : Value} {H : Heap} {R : Value → Heap → Prop} (h : sh_internal_strconv_log10Pow2 t0 H R) : HCalls prg f_internal_strconv_log10Pow2 [t0] H R :=
  calls_of Tryd.func159 sh_internal_strconv_log10Pow2_chk (by rw [sh_internal_strconv_log10Pow2_den]; exact h)

-- math/bits.Len64
def sh_math_bits_Len64 (t0 : Value) (H : Heap) (R : Value → Heap → Prop) : Prop :=
  J2 (fun k1 =>
    Mpu (binV .no .geq t0 (.int .u64 4294967296)) fun t4 =>
    Mcd t4 (
      Mpu (binV .no .shr t0 (.int .u64 32)) fun t6 =>
      k1 t6 (.int .i64 32) H) (
      k1 t0 (.int .i64 0) H)) fun t0_3 t2_3 h2 =>
  J2 (fun k3 =>
    Mpu (binV .no .geq t0_3 (.int .u64 65536)) fun t8 =>
    Mcd t8 (
      Mpu (binV .no .shr t0_3 (.int .u64 16)) fun t10 =>
      Mpu (binV .no .add t2_3 (.int .i64 16)) fun t12 =>
      k3 t10 t12 h2) (
      k3 t0_3 t2_3 h2)) fun t0_5 t2_5 h4 =>
  J2 (fun k5 =>
    Mpu (binV .no .geq t0_5 (.int .u64 256)) fun t14 =>
    Mcd t14 (
      Mpu (binV .no .shr t0_5 (.int .u64 8)) fun t16 =>
      Mpu (binV .no .add t2_5 (.int .i64 8)) fun t18 =>
      k5 t16 t18 h4) (
      k5 t0_5 t2_5 h4)) fun t0_7 t2_7 h6 =>
  Mpu (cvI .u8 t0_7) fun t21 =>
  Mpu (ixT (.string ⟨#[0, 1, 2, 2, 3, 3, 3, 3, 4, 4, 4, 4, 4, 4, 4, 4, 5, 5, 5, 5, 5, 5, 5, 5, 5, 5, 5, 5, 5, 5, 5, 5, 6, 6, 6, 6, 6, 6, 6, 6, 6, 6, 6, 6, 6, 6, 6, 6, 6, 6, 6, 6, 6, 6, 6, 6, 6, 6, 6, 6, 6, 6, 6, 6, 7, 7, 7, 7, 7, 7, 7, 7, 7, 7, 7, 7, 7, 7, 7, 7, 7, 7, 7, 7, 7, 7, 7, 7, 7, 7, 7, 7, 7, 7, 7, 7, 7, 7, 7, 7, 7, 7, 7, 7, 7, 7, 7, 7, 7, 7, 7, 7, 7, 7, 7, 7, 7, 7, 7, 7, 7, 7, 7, 7, 7, 7, 7, 7, 8, 8, 8, 8, 8, 8, 8, 8, 8, 8, 8, 8, 8, 8, 8, 8, 8, 8, 8, 8, 8, 8, 8, 8, 8, 8, 8, 8, 8, 8, 8, 8, 8, 8, 8, 8, 8, 8, 8, 8, 8, 8, 8, 8, 8, 8, 8, 8, 8, 8, 8, 8, 8, 8, 8, 8, 8, 8, 8, 8, 8, 8, 8, 8, 8, 8, 8, 8, 8, 8, 8, 8, 8, 8, 8, 8, 8, 8, 8, 8, 8, 8, 8, 8, 8, 8, 8, 8, 8, 8, 8, 8, 8, 8, 8, 8, 8, 8, 8, 8, 8, 8, 8, 8, 8, 8, 8, 8, 8, 8, 8, 8, 8, 8, 8, 8, 8, 8, 8, 8, 8, 8, 8, 8, 8, 8, 8, 8]⟩) t21) fun t22 =>
  Mpu (cvI .i64 t22) fun t23 =>
  Mpu (binV .no .add t2_7 t23) fun t24 =>
  R t24 h6
theorem sh_math_bits_Len64_chk : fchk prg [0, 2] Tryd.f160 1 = true := by kernel_rfl
theorem sh_math_bits_Len64_den (t0 : Value) (H : Heap) (R : Value → Heap → Prop) : fden prg [0, 2] Tryd.f160 [t0] H R = sh_math_bits_Len64 t0 H R := by kernel_rfl
theorem sh_math_bits_Len64_calls {t0 : Value} {H : Heap} {R : Value → Heap → Prop} (h : sh_math_bits_Len64 t0 H R) : HCalls prg f_math_bits_Len64 [t0] H R :=
  calls_of Tryd.func160 sh_math_bits_Len64_chk (by rw [sh_math_bits_Len64_den]; exact h)

-- internal/strconv.bool2[int]
def sh_internal_strconv_bool2_int (t0 : Value) (H : Heap) (R : Value → Heap → Prop) : Prop :=
  Mcd t0 (
    R (.int .i64 1) H) (
    R (.int .i64 0) H)
theorem sh_internal_strconv_bool2_int_chk : fchk prg [] Tryd.f161 1 = true := by kernel_rfl
theorem sh_internal_strconv_bool2_int_den (t0 : Value) (H : Heap) (R : Value → Heap → Prop) : fden prg [] Tryd.f161 [t0] H R = sh_internal_strconv_bool2_int t0 H R := by kernel_rfl
theorem sh_internal_strconv_bool2_int_calls {t0 : Value} {H : Heap} {R : Value → Heap → Prop} (h : sh_internal_strconv_bool2_int t0 H R) : HCalls prg f_internal_strconv_bool2_int [t0] H R :=
  calls_of Tryd.func161 sh_internal_strconv_bool2_int_chk (by rw [sh_internal_strconv_bool2_int_den]; exact h)

-- internal/strconv.isPowerOfTwo
def sh_internal_strconv_isPowerOfTwo (t0 : Value) (H : Heap) (R : Value → Heap → Prop) : Prop :=
  Mpu (binV .no .sub t0 (.int .i64 1)) fun t5 =>
  Mpu (binV .no .and t0 t5) fun t6 =>
  Mpu (binV .no .eql t6 (.int .i64 0)) fun t7 =>
  R t7 H
theorem sh_internal_strconv_isPowerOfTwo_chk : fchk prg [] Tryd.f162 1 = true := by kernel_rfl
theorem sh_internal_strconv_isPowerOfTwo_den (t0 : Value) (H : Heap) (R : Value → Heap → Prop) : fden prg [] Tryd.f162 [t0] H R = sh_internal_strconv_isPowerOfTwo t0 H R := by kernel_rfl
theorem sh_internal_strconv_isPowerOfTwo_calls {t0 : Value} {H : Heap} {R : Value → Heap → Prop} (h : sh_internal_strconv_isPowerOfTwo t0 H R) : HCalls prg f_internal_strconv_isPowerOfTwo [t0] H R :=
  calls_of Tryd.func162 sh_internal_strconv_isPowerOfTwo_chk (by rw [sh_internal_strconv_isPowerOfTwo_den]; exact h)

-- math/bits.TrailingZeros
def sh_math_bits_TrailingZeros (t0 : Value) (H : Heap) (R : Value → Heap → Prop) : Prop :=
  Mcd (.bool false) (
    Mpu (cvI .u32 t0) fun t4 =>
    Mcall prg f_math_bits_TrailingZeros32 [t4] H fun t5 h1 =>
    R t5 h1) (
    Mcall prg f_math_bits_TrailingZeros64 [t0] H fun t7 h2 =>
    R t7 h2)
theorem sh_math_bits_TrailingZeros_chk : fchk prg [] Tryd.f163 1 = true := by kernel_rfl
theorem sh_math_bits_TrailingZeros_den (t0 : Value) (H : Heap) (R : Value → Heap → Prop) : fden prg [] Tryd.f163 [t0] H R = sh_math_bits_TrailingZeros t0 H R := by kernel_rfl
theorem sh_math_bits_TrailingZeros_calls {t0 : Value} {H : Heap} {R : Value → Heap → Prop} (h : sh_math_bits_TrailingZeros t0 H R) : HCalls prg f_math_bits_TrailingZeros [t0] H R :=
  calls_of Tryd.func163 sh_math_bits_TrailingZeros_chk (by rw [sh_math_bits_TrailingZeros_den]; exact h)

-- unicode/utf8.ValidRune
def sh_unicode_utf8_ValidRune (t0 : Value) (H : Heap) (R : Value → Heap → Prop) : Prop :=
  Mpu (binV .no .leq (.int .i32 0) t0) fun t5 =>
  J1 (fun k1 => Mif t5 true (
      Mpu (binV .no .lss t0 (.int .i32 55296)) fun t8 =>
      k1 t8 H) (
      k1 undef H)) fun t8_2 h2 =>
  Mpu (pickV t5 t8_2 (.bool false)) fun t9 =>
  Mcd t9 (
    R (.bool true) h2) (
    Mpu (binV .no .lss (.int .i32 57343) t0) fun t12 =>
    J1 (fun k3 => Mif t12 true (
        Mpu (binV .no .leq t0 (.int .i32 1114111)) fun t15 =>
        k3 t15 h2) (
        k3 undef h2)) fun t15_2 h4 =>
    Mpu (pickV t12 t15_2 (.bool false)) fun t16 =>
    Mcd t16 (
      R (.bool true) h4) (
      R (.bool false) h4))
theorem sh_unicode_utf8_ValidRune_chk : fchk prg [8, 15] Tryd.f164 1 = true := by kernel_rfl
theorem sh_unicode_utf8_ValidRune_den (t0 : Value) (H : Heap) (R : Value → Heap → Prop) : fden prg [8, 15] Tryd.f164 [t0] H R = sh_unicode_utf8_ValidRune t0 H R := by kernel_rfl
theorem sh_unicode_utf8_ValidRune_calls {t0 : Value} {H : Heap} {R : Value → Heap → Prop} (h : sh_unicode_utf8_ValidRune t0 H R) : HCalls prg f_unicode_utf8_ValidRune [t0] H R :=
  calls_of Tryd.func164 sh_unicode_utf8_ValidRune_chk (by rw [sh_unicode_utf8_ValidRune_den]; exact h)

-- math/bits.TrailingZeros32
def sh_math_bits_TrailingZeros32 (t0 : Value) (H : Heap) (R : Value → Heap → Prop) : Prop :=
  Mpu (binV .no .eql t0 (.int .u32 0)) fun t4 =>
  Mcd t4 (
    R (.int .i64 32) H) (
    Mpu (unV .neg t0) fun t7 =>
    Mpu (binV .no .and t0 t7) fun t8 =>
    Mpu (binV .no .mul t8 (.int .u32 125613361)) fun t9 =>
    Mpu (binV .no .shr t9 (.int .u64 27)) fun t10 =>
    Mpu (ixA 32 1 (.pointer (some ⟨g_math_bits_deBruijn32tab, 0, none⟩)) t10) fun t11 =>
    Mpu (ld1 H t11) fun t12 =>
    Mpu (cvI .i64 t12) fun t13 =>
    R t13 H)
theorem sh_math_bits_TrailingZeros32_chk : fchk prg [] Tryd.f168 1 = true := by kernel_rfl
theorem sh_math_bits_TrailingZeros32_den (t0 : Value) (H : Heap) (R : Value → Heap → Prop) : fden prg [] Tryd.f168 [t0] H R = sh_math_bits_TrailingZeros32 t0 H R := by kernel_rfl
theorem sh_math_bits_TrailingZeros32_calls {t0 : Value} {H : Heap} {R : Value → Heap → Prop} (h : sh_math_bits_TrailingZeros32 t0 H R) : HCalls prg f_math_bits_TrailingZeros32 [t0] H R :=
  calls_of Tryd.func168 sh_math_bits_TrailingZeros32_chk (by rw [sh_math_bits_TrailingZeros32_den]; exact h)

-- math/bits.TrailingZeros64
def sh_math_bits_TrailingZeros64 (t0 : Value) (H : Heap) (R : Value → Heap → Prop) : Prop :=
  Mpu (binV .no .eql t0 (.int .u64 0)) fun t4 =>
  Mcd t4 (
    R (.int .i64 64) H) (
    Mpu (unV .neg t0) fun t7 =>
    Mpu (binV .no .and t0 t7) fun t8 =>
    Mpu (binV .no .mul t8 (.int .u64 285870213051353865)) fun t9 =>
    Mpu (binV .no .shr t9 (.int .u64 58)) fun t10 =>
    Mpu (ixA 64 1 (.pointer (some ⟨g_math_bits_deBruijn64tab, 0, none⟩)) t10) fun t11 =>
    Mpu (ld1 H t11) fun t12 =>
    Mpu (cvI .i64 t12) fun t13 =>
    R t13 H)
theorem sh_math_bits_TrailingZeros64_chk : fchk prg [] Tryd.f169 1 = true := by kernel_rfl
theorem sh_math_bits_TrailingZeros64_den (t0 : Value) (H : Heap) (R : Value → Heap → Prop) : fden prg [] Tryd.f169 [t0] H R = sh_math_bits_TrailingZeros64 t0 H R := by kernel_rfl
theorem sh_math_bits_TrailingZeros64_calls {t0 : Value} {H : Heap} {R : Value → Heap → Prop} (h : sh_math_bits_TrailingZeros64 t0 H R) : HCalls prg f_math_bits_TrailingZeros64 [t0] H R :=
  calls_of Tryd.func169 sh_math_bits_TrailingZeros64_chk (by rw [sh_math_bits_TrailingZeros64_den]; exact h)

end Go.Proofs.YtmhfanpijdgkjaaDoor
