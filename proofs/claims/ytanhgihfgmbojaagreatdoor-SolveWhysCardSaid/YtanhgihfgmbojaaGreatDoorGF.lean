/- JOINED: Sa0 Sa1 Sa2 -/
import Derived.Test.YtanhgihfgmbojaaGreatDoorGE
set_option linter.unusedSimpArgs false
set_option linter.unusedVariables false
/- PRINTED: clean texts -/
namespace Go.Proofs.YtanhgihfgmbojaaGreatDoor
open Go.X
set_option maxRecDepth 100000
-- (syngraph/version.Version).Show
def sh_version_Version_Show (t0 : Value) (H : Heap) (R : Value → Heap → Prop) : Prop :=
  Mnew H T_version_Version (some (Value.cells t0)) fun t1 h1 =>
  Mpu (ldN 4 h1 t1) fun t7 =>
  Mcall prg f_version_Version_Right [t7] h1 fun t8 h2 =>
  Mpu (unV .not t8) fun t9 =>
  Mcd t9 (
    R (.string ⟨#[]⟩) h2) (
    J2 (fun k3 =>
      Mpu (fld 0 t1) fun t10 =>
      Mpu (ldN 3 h2 t10) fun t11 =>
      L2 (fun k5 => fun t3_2 t12_2 h6 =>
        Mpu (binV .no .lss t12_2 (.int .i64 3)) fun t13 =>
        Mcd t13 (
          Mpu (ixV 3 false 1 t11 t12_2) fun t14 =>
          Mcall prg f_strconv_Itoa [t14] h6 fun t17 h7 =>
          Mnews h7 T_string 1 (bslV prg T_string 1 [(0, t17)]) fun t18 h8 =>
          Mapp T_string 1 16 h8 t3_2 t18 fun t19 h9 =>
          Mpu (binV .no .add t12_2 (.int .i64 1)) fun t20 =>
          k5 t19 t20 h9) (
          k3 t3_2 t12_2 h6)) ((.slice none 0 0)) ((.int .i64 0)) h2) fun t3_4 t12_4 h4 =>
    Mcall prg f_strings_Join [t3_4, (.string ⟨#[46]⟩)] h4 fun t22 h10 =>
    J1 (fun k11 =>
      Mpu (fld 3 t1) fun t23 =>
      Mpu (ld1 h10 t23) fun t24 =>
      Mpu (binV .no .neq t24 (.string ⟨#[]⟩)) fun t25 =>
      Mcd t25 (
        Mpu (fld 3 t1) fun t27 =>
        Mpu (ld1 h10 t27) fun t28 =>
        Mpu (binV .no .add (.string ⟨#[45]⟩) t28) fun t29 =>
        Mpu (binV .no .add t22 t29) fun t30 =>
        k11 t30 h10) (
        k11 t22 h10)) fun t6_3 h12 =>
    R t6_3 h12)
theorem sh_version_Version_Show_chk : fchkF prg [3, 6, 12] Tryz.f84 1 = true := by kernel_rfl
theorem sh_version_Version_Show_den (t0 : Value) (H : Heap) (R : Value → Heap → Prop) : fdenF prg [3, 6, 12] Tryz.f84 [t0] H R = sh_version_Version_Show t0 H R := by kernel_rfl
theorem sh_version_Version_Show_calls {t0 : Value} {H : Heap} {R : Value → Heap → Prop} (h : sh_version_Version_Show t0 H R) : HCalls prg f_version_Version_Show [t0] H R :=
  calls_ofF Tryz.func84 sh_version_Version_Show_chk (by rw [sh_version_Version_Show_den]; exact h)

-- (syngraph/version.Version).Right
def sh_version_Version_Right (t0 : Value) (H : Heap) (R : Value → Heap → Prop) : Prop :=
  Mnew H T_version_Version (some (Value.cells t0)) fun t1 h1 =>
  J1 (fun k2 =>
    Mpu (fld 0 t1) fun t5 =>
    Mpu (ldN 3 h1 t5) fun t6 =>
    L1 (fun k4 => fun t7_2 h5 =>
      Mpu (binV .no .lss t7_2 (.int .i64 3)) fun t8 =>
      Mcd t8 (
        Mpu (ixV 3 false 1 t6 t7_2) fun t9 =>
        Mpu (binV .no .lss t9 (.int .i64 0)) fun t11 =>
        J1 (fun k6 => Mif t11 false (
            Mpu (binV .no .gtr t9 (.int .i64 999999)) fun t14 =>
            k6 t14 h5) (
            k6 undef h5)) fun t14_2 h7 =>
        Mpu (pickV t11 (.bool true) t14_2) fun t15 =>
        Mcd t15 (
          R (.bool false) h7) (
          Mpu (binV .no .add t7_2 (.int .i64 1)) fun t16 =>
          k4 t16 h7)) (
        k2 t7_2 h5)) ((.int .i64 0)) h1) fun t7_4 h3 =>
  Mpu (fld 3 t1) fun t17 =>
  Mpu (ld1 h3 t17) fun t18 =>
  Mpu (lenT t18) fun t19 =>
  Mpu (binV .no .leq t19 (.int .i64 16)) fun t20 =>
  J1 (fun k8 => Mif t20 true (
      Mpu (fld 3 t1) fun t22 =>
      Mpu (ld1 h3 t22) fun t23 =>
      Mcall prg f_strings_Trim [t23, (.string ⟨#[97, 98, 99, 100, 101, 102, 103, 104, 105, 106, 107, 108, 109, 110, 111, 112, 113, 114, 115, 116, 117, 118, 119, 120, 121, 122, 48, 49, 50, 51, 52, 53, 54, 55, 56, 57]⟩)] h3 fun t24 h9 =>
      Mpu (binV .no .eql t24 (.string ⟨#[]⟩)) fun t25 =>
      k8 t25 h9) (
      k8 undef h3)) fun t25_2 h10 =>
  Mpu (pickV t20 t25_2 (.bool false)) fun t26 =>
  R t26 h10
theorem sh_version_Version_Right_chk : fchkF prg [7, 14, 25] Tryz.f58 1 = true := by kernel_rfl
theorem sh_version_Version_Right_den (t0 : Value) (H : Heap) (R : Value → Heap → Prop) : fdenF prg [7, 14, 25] Tryz.f58 [t0] H R = sh_version_Version_Right t0 H R := by kernel_rfl
theorem sh_version_Version_Right_calls {t0 : Value} {H : Heap} {R : Value → Heap → Prop} (h : sh_version_Version_Right t0 H R) : HCalls prg f_version_Version_Right [t0] H R :=
  calls_ofF Tryz.func58 sh_version_Version_Right_chk (by rw [sh_version_Version_Right_den]; exact h)

end Go.Proofs.YtanhgihfgmbojaaGreatDoor

/- PRINTED: clean texts -/
namespace Go.Proofs.YtanhgihfgmbojaaGreatDoor
open Go.X
set_option maxRecDepth 100000
-- strconv.Itoa
def sh_strconv_Itoa (t0 : Value) (H : Heap) (R : Value → Heap → Prop) : Prop :=
  Mcall prg f_internal_strconv_Itoa [t0] H fun t4 h1 =>
  R t4 h1
theorem sh_strconv_Itoa_chk : fchkF prg [] Tryz.f114 1 = true := by kernel_rfl
theorem sh_strconv_Itoa_den (t0 : Value) (H : Heap) (R : Value → Heap → Prop) : fdenF prg [] Tryz.f114 [t0] H R = sh_strconv_Itoa t0 H R := by kernel_rfl
theorem sh_strconv_Itoa_calls {t0 : Value} {H : Heap} {R : Value → Heap → Prop} (h : sh_strconv_Itoa t0 H R) : HCalls prg f_strconv_Itoa [t0] H R :=
  calls_ofF Tryz.func114 sh_strconv_Itoa_chk (by rw [sh_strconv_Itoa_den]; exact h)

-- strings.Join
def sh_strings_Join (t0 t1 : Value) (H : Heap) (R : Value → Heap → Prop) : Prop :=
  Mpu (lenV t0) fun t12 =>
  Mpu (binV .no .eql t12 (.int .i64 0)) fun t14 =>
  Mcd t14 (
    R (.string ⟨#[]⟩) H) (
    Mpu (binV .no .eql t12 (.int .i64 1)) fun t16 =>
    Mcd t16 (
      Mpu (ixS 1 t0 (.int .i64 0)) fun t18 =>
      Mpu (ld1 H t18) fun t19 =>
      R t19 H) (
      J1 (fun k1 =>
        Mpu (lenT t1) fun t21 =>
        Mpu (binV .no .gtr t21 (.int .i64 0)) fun t22 =>
        Mcd t22 (
          J0 (fun k3 =>
            Mpu (lenT t1) fun t24 =>
            Mpu (lenV t0) fun t26 =>
            Mpu (binV .no .sub t26 (.int .i64 1)) fun t27 =>
            Mpu (binV .no .quo (.int .i64 9223372036854775807) t27) fun t28 =>
            Mpu (binV .no .geq t24 t28) fun t29 =>
            Mcd t29 (
              Mpu (mkI prg T_string (.string ⟨#[115, 116, 114, 105, 110, 103, 115, 58, 32, 74, 111, 105, 110, 32, 111, 117, 116, 112, 117, 116, 32, 108, 101, 110, 103, 116, 104, 32, 111, 118, 101, 114, 102, 108, 111, 119]⟩)) fun t30 =>
              False) (
              k3 H)) fun h4 =>
          Mpu (lenT t1) fun t33 =>
          Mpu (lenV t0) fun t35 =>
          Mpu (binV .no .sub t35 (.int .i64 1)) fun t36 =>
          Mpu (binV .no .mul t33 t36) fun t37 =>
          Mpu (binV .no .add (.int .i64 0) t37) fun t38 =>
          k1 t38 h4) (
          k1 (.int .i64 0) H)) fun t5_3 h2 =>
      J2 (fun k5 =>
        Mpu (lenV t0) fun t40 =>
        L2 (fun k7 => fun t5_4 t41_2 h8 =>
          Mpu (binV .no .lss t41_2 t40) fun t42 =>
          Mcd t42 (
            Mpu (ixS 1 t0 t41_2) fun t43 =>
            Mpu (ld1 h8 t43) fun t44 =>
            J0 (fun k9 =>
              Mpu (lenT t44) fun t46 =>
              Mpu (binV .no .sub (.int .i64 9223372036854775807) t5_4) fun t48 =>
              Mpu (binV .no .gtr t46 t48) fun t49 =>
              Mcd t49 (
                Mpu (mkI prg T_string (.string ⟨#[115, 116, 114, 105, 110, 103, 115, 58, 32, 74, 111, 105, 110, 32, 111, 117, 116, 112, 117, 116, 32, 108, 101, 110, 103, 116, 104, 32, 111, 118, 101, 114, 102, 108, 111, 119]⟩)) fun t50 =>
                False) (
                k9 h8)) fun h10 =>
            Mpu (lenT t44) fun t53 =>
            Mpu (binV .no .add t5_4 t53) fun t54 =>
            Mpu (binV .no .add t41_2 (.int .i64 1)) fun t55 =>
            k7 t54 t55 h10) (
            k5 t5_4 t41_2 h8)) (t5_3) ((.int .i64 0)) h2) fun t5_6 t41_4 h6 =>
      Mnew h6 T_strings_Builder (zcells prg T_strings_Builder) fun t8 h11 =>
      Mcall prg f_strings_Builder_Grow [t8, t5_6] h11 fun t57 h12 =>
      Mpu (ixS 1 t0 (.int .i64 0)) fun t59 =>
      Mpu (ld1 h12 t59) fun t60 =>
      Mcall prg f_strings_Builder_WriteString [t8, t60] h12 fun t61 h13 =>
      J1 (fun k14 =>
        Mpu (slS 1 t0 (some (.int .i64 1)) none none) fun t63 =>
        Mpu (lenV t63) fun t64 =>
        L1 (fun k16 => fun t65_2 h17 =>
          Mpu (binV .no .lss t65_2 t64) fun t66 =>
          Mcd t66 (
            Mpu (ixS 1 t63 t65_2) fun t67 =>
            Mpu (ld1 h17 t67) fun t68 =>
            Mcall prg f_strings_Builder_WriteString [t8, t1] h17 fun t70 h18 =>
            Mcall prg f_strings_Builder_WriteString [t8, t68] h18 fun t72 h19 =>
            Mpu (binV .no .add t65_2 (.int .i64 1)) fun t73 =>
            k16 t73 h19) (
            k14 t65_2 h17)) ((.int .i64 0)) h13) fun t65_4 h15 =>
      Mcall prg f_strings_Builder_String [t8] h15 fun t74 h20 =>
      R t74 h20))
theorem sh_strings_Join_chk : fchkF prg [5, 41, 65] Tryz.f115 2 = true := by kernel_rfl
theorem sh_strings_Join_den (t0 t1 : Value) (H : Heap) (R : Value → Heap → Prop) : fdenF prg [5, 41, 65] Tryz.f115 [t0, t1] H R = sh_strings_Join t0 t1 H R := by kernel_rfl
theorem sh_strings_Join_calls {t0 t1 : Value} {H : Heap} {R : Value → Heap → Prop} (h : sh_strings_Join t0 t1 H R) : HCalls prg f_strings_Join [t0, t1] H R :=
  calls_ofF Tryz.func115 sh_strings_Join_chk (by rw [sh_strings_Join_den]; exact h)

-- strings.Trim
def sh_strings_Trim (t0 t1 : Value) (H : Heap) (R : Value → Heap → Prop) : Prop :=
  Mpu (binV .no .eql t0 (.string ⟨#[]⟩)) fun t8 =>
  J1 (fun k1 => Mif t8 false (
      Mpu (binV .no .eql t1 (.string ⟨#[]⟩)) fun t11 =>
      k1 t11 H) (
      k1 undef H)) fun t11_2 h2 =>
  Mpu (pickV t8 (.bool true) t11_2) fun t12 =>
  Mcd t12 (
    R t0 h2) (
    Mpu (lenT t1) fun t15 =>
    Mpu (binV .no .eql t15 (.int .i64 1)) fun t16 =>
    J1 (fun k3 => Mif t16 true (
        Mpu (ixT t1 (.int .i64 0)) fun t19 =>
        Mpu (binV .no .lss t19 (.int .u8 128)) fun t20 =>
        k3 t20 h2) (
        k3 undef h2)) fun t20_2 h4 =>
    Mpu (pickV t16 t20_2 (.bool false)) fun t21 =>
    Mcd t21 (
      Mpu (ixT t1 (.int .i64 0)) fun t24 =>
      Mpu (ixT t1 (.int .i64 0)) fun t27 =>
      Mcall prg f_strings_trimRightByte [t0, t24] h4 fun t25 h5 =>
      Mcall prg f_strings_trimLeftByte [t25, t27] h5 fun t28 h6 =>
      R t28 h6) (
      Mcall prg f_strings_makeASCIISet [t1] h4 fun t31 h7 =>
      Mpu (extV 0 t31) fun t32 =>
      Mpu (extV 1 t31) fun t33 =>
      Mnew h7 T_strings_asciiSet (zcells prg T_strings_asciiSet) fun t5 h8 =>
      Mwr (stN 256 h8 t5 t32) fun h9 =>
      Mcd t33 (
        Mcall prg f_strings_trimRightASCII [t0, t5] h9 fun t36 h10 =>
        Mcall prg f_strings_trimLeftASCII [t36, t5] h10 fun t37 h11 =>
        R t37 h11) (
        Mcall prg f_strings_trimRightUnicode [t0, t1] h9 fun t40 h12 =>
        Mcall prg f_strings_trimLeftUnicode [t40, t1] h12 fun t42 h13 =>
        R t42 h13)))
theorem sh_strings_Trim_chk : fchkF prg [11, 20] Tryz.f68 2 = true := by kernel_rfl
theorem sh_strings_Trim_den (t0 t1 : Value) (H : Heap) (R : Value → Heap → Prop) : fdenF prg [11, 20] Tryz.f68 [t0, t1] H R = sh_strings_Trim t0 t1 H R := by kernel_rfl
theorem sh_strings_Trim_calls {t0 t1 : Value} {H : Heap} {R : Value → Heap → Prop} (h : sh_strings_Trim t0 t1 H R) : HCalls prg f_strings_Trim [t0, t1] H R :=
  calls_ofF Tryz.func68 sh_strings_Trim_chk (by rw [sh_strings_Trim_den]; exact h)

-- syngraph/manifest.Name
def sh_manifest_Name (t0 : Value) (H : Heap) (R : Value → Heap → Prop) : Prop :=
  Mpu (binV .no .neq t0 (.string ⟨#[]⟩)) fun t4 =>
  J1 (fun k1 => Mif t4 true (
      Mpu (lenT t0) fun t7 =>
      Mpu (binV .no .leq t7 (.int .i64 32)) fun t8 =>
      k1 t8 H) (
      k1 undef H)) fun t8_2 h2 =>
  Mpu (pickV t4 t8_2 (.bool false)) fun t9 =>
  J1 (fun k3 => Mif t9 true (
      Mcall prg f_strings_Trim [t0, (.string ⟨#[97, 98, 99, 100, 101, 102, 103, 104, 105, 106, 107, 108, 109, 110, 111, 112, 113, 114, 115, 116, 117, 118, 119, 120, 121, 122, 48, 49, 50, 51, 52, 53, 54, 55, 56, 57, 45]⟩)] h2 fun t12 h4 =>
      Mpu (binV .no .eql t12 (.string ⟨#[]⟩)) fun t13 =>
      k3 t13 h4) (
      k3 undef h2)) fun t13_2 h5 =>
  Mpu (pickV t9 t13_2 (.bool false)) fun t14 =>
  J1 (fun k6 => Mif t14 true (
      Mpu (ixT t0 (.int .i64 0)) fun t17 =>
      Mcall prg f_strings_IndexByte [(.string ⟨#[97, 98, 99, 100, 101, 102, 103, 104, 105, 106, 107, 108, 109, 110, 111, 112, 113, 114, 115, 116, 117, 118, 119, 120, 121, 122]⟩), t17] h5 fun t18 h7 =>
      Mpu (binV .no .geq t18 (.int .i64 0)) fun t19 =>
      k6 t19 h7) (
      k6 undef h5)) fun t19_2 h8 =>
  Mpu (pickV t14 t19_2 (.bool false)) fun t20 =>
  R t20 h8
theorem sh_manifest_Name_chk : fchkF prg [8, 13, 19] Tryz.f36 1 = true := by kernel_rfl
theorem sh_manifest_Name_den (t0 : Value) (H : Heap) (R : Value → Heap → Prop) : fdenF prg [8, 13, 19] Tryz.f36 [t0] H R = sh_manifest_Name t0 H R := by kernel_rfl
theorem sh_manifest_Name_calls {t0 : Value} {H : Heap} {R : Value → Heap → Prop} (h : sh_manifest_Name t0 H R) : HCalls prg f_manifest_Name [t0] H R :=
  calls_ofF Tryz.func36 sh_manifest_Name_chk (by rw [sh_manifest_Name_den]; exact h)

end Go.Proofs.YtanhgihfgmbojaaGreatDoor

/- PRINTED: clean texts -/
namespace Go.Proofs.YtanhgihfgmbojaaGreatDoor
open Go.X
set_option maxRecDepth 100000
-- internal/strconv.Itoa
def sh_internal_strconv_Itoa (t0 : Value) (H : Heap) (R : Value → Heap → Prop) : Prop :=
  Mcall prg f_internal_strconv_FormatInt [t0, (.int .i64 10)] H fun t4 h1 =>
  R t4 h1
theorem sh_internal_strconv_Itoa_chk : fchkF prg [] Tryz.f144 1 = true := by kernel_rfl
theorem sh_internal_strconv_Itoa_den (t0 : Value) (H : Heap) (R : Value → Heap → Prop) : fdenF prg [] Tryz.f144 [t0] H R = sh_internal_strconv_Itoa t0 H R := by kernel_rfl
theorem sh_internal_strconv_Itoa_calls {t0 : Value} {H : Heap} {R : Value → Heap → Prop} (h : sh_internal_strconv_Itoa t0 H R) : HCalls prg f_internal_strconv_Itoa [t0] H R :=
  calls_ofF Tryz.func144 sh_internal_strconv_Itoa_chk (by rw [sh_internal_strconv_Itoa_den]; exact h)

-- (*strings.Builder).Grow
def sh_strings_Builder_Grow (t0 t1 : Value) (H : Heap) (R : Value → Heap → Prop) : Prop :=
  Mcall prg f_strings_Builder_copyCheck [t0] H fun t5 h1 =>
  J0 (fun k2 =>
    Mpu (binV .no .lss t1 (.int .i64 0)) fun t7 =>
    Mcd t7 (
      Mpu (mkI prg T_string (.string ⟨#[115, 116, 114, 105, 110, 103, 115, 46, 66, 117, 105, 108, 100, 101, 114, 46, 71, 114, 111, 119, 58, 32, 110, 101, 103, 97, 116, 105, 118, 101, 32, 99, 111, 117, 110, 116]⟩)) fun t8 =>
      False) (
      k2 h1)) fun h3 =>
  Mpu (nck t0) fun t10 =>
  Mpu (fld 1 t10) fun t11 =>
  Mpu (ld1 h3 t11) fun t12 =>
  Mpu (capV t12) fun t13 =>
  Mpu (nck t0) fun t15 =>
  Mpu (fld 1 t15) fun t16 =>
  Mpu (ld1 h3 t16) fun t17 =>
  Mpu (lenV t17) fun t18 =>
  Mpu (binV .no .sub t13 t18) fun t19 =>
  Mpu (binV .no .lss t19 t1) fun t21 =>
  Mcd t21 (
    Mcall prg f_strings_Builder_grow [t0, t1] h3 fun t24 h4 =>
    R (.tuple #[]) h4) (
    R (.tuple #[]) h3)
theorem sh_strings_Builder_Grow_chk : fchkF prg [] Tryz.f145 2 = true := by kernel_rfl
theorem sh_strings_Builder_Grow_den (t0 t1 : Value) (H : Heap) (R : Value → Heap → Prop) : fdenF prg [] Tryz.f145 [t0, t1] H R = sh_strings_Builder_Grow t0 t1 H R := by kernel_rfl
theorem sh_strings_Builder_Grow_calls {t0 t1 : Value} {H : Heap} {R : Value → Heap → Prop} (h : sh_strings_Builder_Grow t0 t1 H R) : HCalls prg f_strings_Builder_Grow [t0, t1] H R :=
  calls_ofF Tryz.func145 sh_strings_Builder_Grow_chk (by rw [sh_strings_Builder_Grow_den]; exact h)

-- (*strings.Builder).WriteString
def sh_strings_Builder_WriteString (t0 t1 : Value) (H : Heap) (R : Value → Heap → Prop) : Prop :=
  Mcall prg f_strings_Builder_copyCheck [t0] H fun t7 h1 =>
  Mpu (nck t0) fun t10 =>
  Mpu (fld 1 t10) fun t11 =>
  Mpu (ld1 h1 t11) fun t12 =>
  Mapp T_uint8 1 1 h1 t12 t1 fun t14 h2 =>
  Mpu (nck t0) fun t15 =>
  Mpu (fld 1 t15) fun t16 =>
  Mwr (st1 h2 t16 t14) fun h3 =>
  Mpu (lenT t1) fun t18 =>
  R (.tuple #[t18, (.nilIface)]) h3
theorem sh_strings_Builder_WriteString_chk : fchkF prg [] Tryz.f146 2 = true := by kernel_rfl
theorem sh_strings_Builder_WriteString_den (t0 t1 : Value) (H : Heap) (R : Value → Heap → Prop) : fdenF prg [] Tryz.f146 [t0, t1] H R = sh_strings_Builder_WriteString t0 t1 H R := by kernel_rfl
theorem sh_strings_Builder_WriteString_calls {t0 t1 : Value} {H : Heap} {R : Value → Heap → Prop} (h : sh_strings_Builder_WriteString t0 t1 H R) : HCalls prg f_strings_Builder_WriteString [t0, t1] H R :=
  calls_ofF Tryz.func146 sh_strings_Builder_WriteString_chk (by rw [sh_strings_Builder_WriteString_den]; exact h)

-- (*strings.Builder).String
def sh_strings_Builder_String (t0 : Value) (H : Heap) (R : Value → Heap → Prop) : Prop :=
  Mpu (nck t0) fun t4 =>
  Mpu (fld 1 t4) fun t5 =>
  Mpu (ld1 H t5) fun t6 =>
  Mpu (usd t6) fun t7 =>
  Mpu (nck t0) fun t9 =>
  Mpu (fld 1 t9) fun t10 =>
  Mpu (ld1 H t10) fun t11 =>
  Mpu (lenV t11) fun t12 =>
  Msem prg (Builtin.unsafeString_ #[207, 3] 0 #[t7, t12]) H fun t13 h1 =>
  R t13 h1
theorem sh_strings_Builder_String_chk : fchkF prg [] Tryz.f147 1 = true := by kernel_rfl
theorem sh_strings_Builder_String_den (t0 : Value) (H : Heap) (R : Value → Heap → Prop) : fdenF prg [] Tryz.f147 [t0] H R = sh_strings_Builder_String t0 H R := by kernel_rfl
theorem sh_strings_Builder_String_calls {t0 : Value} {H : Heap} {R : Value → Heap → Prop} (h : sh_strings_Builder_String t0 H R) : HCalls prg f_strings_Builder_String [t0] H R :=
  calls_ofF Tryz.func147 sh_strings_Builder_String_chk (by rw [sh_strings_Builder_String_den]; exact h)

-- strings.trimLeftByte
-- strings.trimRightByte
end Go.Proofs.YtanhgihfgmbojaaGreatDoor

