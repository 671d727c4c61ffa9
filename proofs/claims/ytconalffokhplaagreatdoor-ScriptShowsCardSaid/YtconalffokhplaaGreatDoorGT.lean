/- JOINED: Si3 Si4 -/
import Derived.Test.YtconalffokhplaaGreatDoorGE
set_option linter.unusedSimpArgs false
set_option linter.unusedVariables false
/- PRINTED: clean texts -/
namespace Go.Proofs.YtconalffokhplaaGreatDoor
open Go.X
set_option maxRecDepth 100000
-- (*syngraph/script.Line).read
def sh_script_Line_read (t0 t1 t2 : Value) (H : Heap) (R : Value → Heap → Prop) : Prop :=
  J1 (fun k1 =>
    Mpu (binV .no .eql t1 (.int .u8 110)) fun t12 =>
    Mcd t12 (
      Mcall prg f_script_number [t2] H fun t16 h3 =>
      Mpu (extV 0 t16) fun t17 =>
      Mpu (extV 1 t16) fun t18 =>
      Mpu (nck t0) fun t19 =>
      Mpu (fld 0 t19) fun t20 =>
      Mpu (fld 1 t20) fun t21 =>
      Mwr (st1 h3 t21 t17) fun h4 =>
      k1 t18 h4) (
      Mpu (binV .no .eql t1 (.int .u8 97)) fun t23 =>
      Mcd t23 (
        Mcall prg f_script_number [t2] H fun t27 h5 =>
        Mpu (extV 0 t27) fun t28 =>
        Mpu (extV 1 t27) fun t29 =>
        Mpu (nck t0) fun t30 =>
        Mpu (fld 0 t30) fun t31 =>
        Mpu (fld 2 t31) fun t32 =>
        Mwr (st1 h5 t32 t28) fun h6 =>
        k1 t29 h6) (
        Mpu (binV .no .eql t1 (.int .u8 115)) fun t34 =>
        Mcd t34 (
          Mcall prg f_script_name [t2] H fun t38 h7 =>
          Mpu (nck t0) fun t39 =>
          Mpu (fld 0 t39) fun t40 =>
          Mpu (fld 3 t40) fun t41 =>
          Mwr (st1 h7 t41 t2) fun h8 =>
          k1 t38 h8) (
          Mpu (binV .no .eql t1 (.int .u8 119)) fun t43 =>
          Mcd t43 (
            Mcall prg f_version_ParseWant [t2] H fun t46 h9 =>
            Mpu (extV 0 t46) fun t47 =>
            Mpu (extV 1 t46) fun t48 =>
            Mnew h9 T_version_Want (zcells prg T_version_Want) fun t8 h10 =>
            Mwr (stN 5 h10 t8 t47) fun h11 =>
            Mpu (ldN 5 h11 t8) fun t50 =>
            Mpu (binV .no .eql t48 (.int .i64 0)) fun t52 =>
            Mpu (nck t0) fun t53 =>
            Mpu (fld 0 t53) fun t54 =>
            Mpu (fld 4 t54) fun t55 =>
            Mwr (stN 5 h11 t55 t50) fun h12 =>
            k1 t52 h12) (
            Mpu (binV .no .eql t1 (.int .u8 100)) fun t57 =>
            Mcd t57 (
              Mcall prg f_script_data [t2] H fun t61 h13 =>
              Mpu (extV 0 t61) fun t62 =>
              Mpu (extV 1 t61) fun t63 =>
              Mpu (nck t0) fun t64 =>
              Mpu (fld 0 t64) fun t65 =>
              Mpu (fld 9 t65) fun t66 =>
              Mwr (st1 h13 t66 t62) fun h14 =>
              k1 t63 h14) (
              Mpu (binV .no .eql t1 (.int .u8 108)) fun t68 =>
              Mcd t68 (
                Mcall prg f_script_list [t2] H fun t72 h15 =>
                Mpu (extV 0 t72) fun t73 =>
                Mpu (extV 1 t72) fun t74 =>
                Mpu (nck t0) fun t75 =>
                Mpu (fld 0 t75) fun t76 =>
                Mpu (fld 10 t76) fun t77 =>
                Mwr (st1 h15 t77 t73) fun h16 =>
                k1 t74 h16) (
                k1 (.bool false) H))))))) fun t7_8 h2 =>
  R t7_8 h2
theorem sh_script_Line_read_chk : fchkF prg [7] Tryz.f41 3 = true := by kernel_rfl
theorem sh_script_Line_read_den (t0 t1 t2 : Value) (H : Heap) (R : Value → Heap → Prop) : fdenF prg [7] Tryz.f41 [t0, t1, t2] H R = sh_script_Line_read t0 t1 t2 H R := by kernel_rfl
theorem sh_script_Line_read_calls {t0 t1 t2 : Value} {H : Heap} {R : Value → Heap → Prop} (h : sh_script_Line_read t0 t1 t2 H R) : HCalls prg f_script_Line_read [t0, t1, t2] H R :=
  calls_ofF Tryz.func41 sh_script_Line_read_chk (by rw [sh_script_Line_read_den]; exact h)

-- (syngraph/script.Line).show
def sh_script_Line_show (t0 t1 : Value) (H : Heap) (R : Value → Heap → Prop) : Prop :=
  Mnew H T_script_Line (some (Value.cells t0)) fun t2 h1 =>
  Mpu (binV .no .eql t1 (.int .u8 110)) fun t10 =>
  Mcd t10 (
    Mpu (fld 0 t2) fun t11 =>
    Mpu (fld 1 t11) fun t12 =>
    Mpu (ld1 h1 t12) fun t13 =>
    Mcall prg f_strconv_Itoa [t13] h1 fun t14 h2 =>
    R t14 h2) (
    Mpu (binV .no .eql t1 (.int .u8 97)) fun t16 =>
    Mcd t16 (
      Mpu (fld 0 t2) fun t17 =>
      Mpu (fld 2 t17) fun t18 =>
      Mpu (ld1 h1 t18) fun t19 =>
      Mcall prg f_strconv_Itoa [t19] h1 fun t20 h3 =>
      R t20 h3) (
      Mpu (binV .no .eql t1 (.int .u8 115)) fun t22 =>
      Mcd t22 (
        Mpu (fld 0 t2) fun t23 =>
        Mpu (fld 3 t23) fun t24 =>
        Mpu (ld1 h1 t24) fun t25 =>
        R t25 h1) (
        Mpu (binV .no .eql t1 (.int .u8 119)) fun t27 =>
        Mcd t27 (
          Mpu (fld 0 t2) fun t28 =>
          Mpu (fld 4 t28) fun t29 =>
          Mpu (ldN 5 h1 t29) fun t30 =>
          Mcall prg f_version_Want_Show [t30] h1 fun t31 h4 =>
          R t31 h4) (
          Mpu (binV .no .eql t1 (.int .u8 100)) fun t33 =>
          Mcd t33 (
            Mpu (fld 0 t2) fun t34 =>
            Mpu (fld 9 t34) fun t35 =>
            Mpu (ld1 h1 t35) fun t36 =>
            Mcall prg f_script_digits [t36] h1 fun t37 h5 =>
            R t37 h5) (
            J2 (fun k6 =>
              Mpu (fld 0 t2) fun t38 =>
              Mpu (fld 10 t38) fun t39 =>
              Mpu (ld1 h1 t39) fun t40 =>
              Mpu (lenV t40) fun t41 =>
              L2 (fun k8 => fun t5_2 t42_2 h9 =>
                Mpu (binV .no .lss t42_2 t41) fun t43 =>
                Mcd t43 (
                  Mpu (ixS 1 t40 t42_2) fun t44 =>
                  Mpu (ld1 h9 t44) fun t45 =>
                  Mcall prg f_strconv_Itoa [t45] h9 fun t48 h10 =>
                  Mnews h10 T_string 1 (bslV prg T_string 1 [(0, t48)]) fun t49 h11 =>
                  Mapp T_string 1 16 h11 t5_2 t49 fun t50 h12 =>
                  Mpu (binV .no .add t42_2 (.int .i64 1)) fun t51 =>
                  k8 t50 t51 h12) (
                  k6 t5_2 t42_2 h9)) ((.slice none 0 0)) ((.int .i64 0)) h1) fun t5_4 t42_4 h7 =>
            Mcall prg f_strings_Join [t5_4, (.string ⟨#[44]⟩)] h7 fun t53 h13 =>
            R t53 h13)))))
theorem sh_script_Line_show_chk : fchkF prg [5, 42] Tryz.f48 2 = true := by kernel_rfl
theorem sh_script_Line_show_den (t0 t1 : Value) (H : Heap) (R : Value → Heap → Prop) : fdenF prg [5, 42] Tryz.f48 [t0, t1] H R = sh_script_Line_show t0 t1 H R := by kernel_rfl
theorem sh_script_Line_show_calls {t0 t1 : Value} {H : Heap} {R : Value → Heap → Prop} (h : sh_script_Line_show t0 t1 H R) : HCalls prg f_script_Line_show [t0, t1] H R :=
  calls_ofF Tryz.func48 sh_script_Line_show_chk (by rw [sh_script_Line_show_den]; exact h)

-- strings.Lines
-- (*syngraph/manifest.Manifest).read
-- strings.TrimSuffix
-- (syngraph/manifest.Manifest).Right
-- syngraph/manifest.line
-- (syngraph/sha.Hash).Show
-- strings.explode
-- strings.Count
def sh_strings_Count (t0 t1 : Value) (H : Heap) (R : Value → Heap → Prop) : Prop :=
  Mpu (lenT t1) fun t8 =>
  Mpu (binV .no .eql t8 (.int .i64 0)) fun t9 =>
  Mcd t9 (
    Mcall prg f_unicode_utf8_RuneCountInString [t0] H fun t11 h1 =>
    Mpu (binV .no .add t11 (.int .i64 1)) fun t12 =>
    R t12 h1) (
    Mpu (lenT t1) fun t14 =>
    Mpu (binV .no .eql t14 (.int .i64 1)) fun t15 =>
    Mcd t15 (
      Mpu (ixT t1 (.int .i64 0)) fun t18 =>
      Msem prg (xtV prg f_internal_bytealg_CountString #[t0, t18]) H fun t19 h2 =>
      R t19 h2) (
      L2 (fun k3 => fun t0_2 t5_2 h4 =>
        Mcall prg f_strings_Index [t0_2, t1] h4 fun t22 h5 =>
        Mpu (binV .no .eql t22 (.int .i64 (-1))) fun t24 =>
        Mcd t24 (
          R t5_2 h5) (
          Mpu (binV .no .add t5_2 (.int .i64 1)) fun t27 =>
          Mpu (lenT t1) fun t31 =>
          Mpu (binV .no .add t22 t31) fun t32 =>
          Mpu (slT t0_2 (some t32) none) fun t33 =>
          k3 t33 t27 h5)) (t0) ((.int .i64 0)) H))
theorem sh_strings_Count_chk : fchkF prg [0, 5] Tryz.f71 2 = true := by kernel_rfl
theorem sh_strings_Count_den (t0 t1 : Value) (H : Heap) (R : Value → Heap → Prop) : fdenF prg [0, 5] Tryz.f71 [t0, t1] H R = sh_strings_Count t0 t1 H R := by kernel_rfl
theorem sh_strings_Count_calls {t0 t1 : Value} {H : Heap} {R : Value → Heap → Prop} (h : sh_strings_Count t0 t1 H R) : HCalls prg f_strings_Count [t0, t1] H R :=
  calls_ofF Tryz.func71 sh_strings_Count_chk (by rw [sh_strings_Count_den]; exact h)

end Go.Proofs.YtconalffokhplaaGreatDoor

/- PRINTED: clean texts -/
namespace Go.Proofs.YtconalffokhplaaGreatDoor
open Go.X
set_option maxRecDepth 100000
-- syngraph/script.number
def sh_script_number (t0 : Value) (H : Heap) (R : Value → Heap → Prop) : Prop :=
  Mcall prg f_strconv_Atoi [t0] H fun t8 h1 =>
  Mpu (extV 0 t8) fun t9 =>
  Mpu (extV 1 t8) fun t10 =>
  Mpu (binV (.ifc (intB prg) true) .eql t10 (.nilIface)) fun t13 =>
  J1 (fun k2 => Mif t13 true (
      Mpu (lenT t0) fun t16 =>
      Mpu (binV .no .leq t16 (.int .i64 9)) fun t17 =>
      k2 t17 h1) (
      k2 undef h1)) fun t17_2 h3 =>
  Mpu (pickV t13 t17_2 (.bool false)) fun t18 =>
  J1 (fun k4 => Mif t18 true (
      Mpu (binV .no .geq t9 (.int .i64 0)) fun t21 =>
      k4 t21 h3) (
      k4 undef h3)) fun t21_2 h5 =>
  Mpu (pickV t18 t21_2 (.bool false)) fun t22 =>
  J1 (fun k6 => Mif t22 true (
      Mcall prg f_strconv_Itoa [t9] h5 fun t25 h7 =>
      Mpu (binV .no .eql t25 t0) fun t27 =>
      k6 t27 h7) (
      k6 undef h5)) fun t27_2 h8 =>
  Mpu (pickV t22 t27_2 (.bool false)) fun t28 =>
  R (.tuple #[t9, t28]) h8
theorem sh_script_number_chk : fchkF prg [17, 21, 27] Tryz.f72 1 = true := by kernel_rfl
theorem sh_script_number_den (t0 : Value) (H : Heap) (R : Value → Heap → Prop) : fdenF prg [17, 21, 27] Tryz.f72 [t0] H R = sh_script_number t0 H R := by kernel_rfl
theorem sh_script_number_calls {t0 : Value} {H : Heap} {R : Value → Heap → Prop} (h : sh_script_number t0 H R) : HCalls prg f_script_number [t0] H R :=
  calls_ofF Tryz.func72 sh_script_number_chk (by rw [sh_script_number_den]; exact h)

-- syngraph/script.name
def sh_script_name (t0 : Value) (H : Heap) (R : Value → Heap → Prop) : Prop :=
  Mpu (binV .no .neq t0 (.string ⟨#[]⟩)) fun t4 =>
  J1 (fun k1 => Mif t4 true (
      Mpu (lenT t0) fun t7 =>
      Mpu (binV .no .leq t7 (.int .i64 64)) fun t8 =>
      k1 t8 H) (
      k1 undef H)) fun t8_2 h2 =>
  Mpu (pickV t4 t8_2 (.bool false)) fun t9 =>
  J1 (fun k3 => Mif t9 true (
      Mcall prg f_strings_Contains [t0, (.string ⟨#[32]⟩)] h2 fun t12 h4 =>
      Mpu (unV .not t12) fun t13 =>
      k3 t13 h4) (
      k3 undef h2)) fun t13_2 h5 =>
  Mpu (pickV t9 t13_2 (.bool false)) fun t14 =>
  J1 (fun k6 => Mif t14 true (
      Mcall prg f_strings_Contains [t0, (.string ⟨#[10]⟩)] h5 fun t17 h7 =>
      Mpu (unV .not t17) fun t18 =>
      k6 t18 h7) (
      k6 undef h5)) fun t18_2 h8 =>
  Mpu (pickV t14 t18_2 (.bool false)) fun t19 =>
  R t19 h8
theorem sh_script_name_chk : fchkF prg [8, 13, 18] Tryz.f73 1 = true := by kernel_rfl
theorem sh_script_name_den (t0 : Value) (H : Heap) (R : Value → Heap → Prop) : fdenF prg [8, 13, 18] Tryz.f73 [t0] H R = sh_script_name t0 H R := by kernel_rfl
theorem sh_script_name_calls {t0 : Value} {H : Heap} {R : Value → Heap → Prop} (h : sh_script_name t0 H R) : HCalls prg f_script_name [t0] H R :=
  calls_ofF Tryz.func73 sh_script_name_chk (by rw [sh_script_name_den]; exact h)

-- syngraph/script.data
def sh_script_data (t0 : Value) (H : Heap) (R : Value → Heap → Prop) : Prop :=
  Mpu (binV .no .eql t0 (.string ⟨#[45]⟩)) fun t7 =>
  Mcd t7 (
    R (.tuple #[(.slice none 0 0), (.bool true)]) H) (
    Mpu (binV .no .eql t0 (.string ⟨#[]⟩)) fun t9 =>
    J1 (fun k1 => Mif t9 false (
        Mpu (lenT t0) fun t12 =>
        Mpu (binV .no .rem t12 (.int .i64 2)) fun t13 =>
        Mpu (binV .no .neq t13 (.int .i64 0)) fun t14 =>
        k1 t14 H) (
        k1 undef H)) fun t14_2 h2 =>
    Mpu (pickV t9 (.bool true) t14_2) fun t15 =>
    J1 (fun k3 => Mif t15 false (
        Mcall prg f_strings_Trim [t0, (.string ⟨#[48, 49, 50, 51, 52, 53, 54, 55, 56, 57, 97, 98, 99, 100, 101, 102]⟩)] h2 fun t18 h4 =>
        Mpu (binV .no .neq t18 (.string ⟨#[]⟩)) fun t19 =>
        k3 t19 h4) (
        k3 undef h2)) fun t19_2 h5 =>
    Mpu (pickV t15 (.bool true) t19_2) fun t20 =>
    Mcd t20 (
      R (.tuple #[(.slice none 0 0), (.bool false)]) h5) (
      J2 (fun k6 =>
        L2 (fun k8 => fun t4_2 t5_2 h9 =>
          Mpu (lenT t0) fun t23 =>
          Mpu (binV .no .lss t5_2 t23) fun t24 =>
          Mcd t24 (
            Mpu (ixT t0 t5_2) fun t30 =>
            Mpu (binV .no .add t5_2 (.int .i64 1)) fun t35 =>
            Mpu (ixT t0 t35) fun t36 =>
            Mcall prg f_strings_IndexByte [(.string ⟨#[48, 49, 50, 51, 52, 53, 54, 55, 56, 57, 97, 98, 99, 100, 101, 102]⟩), t30] h9 fun t31 h10 =>
            Mpu (binV .no .shl t31 (.int .u64 4)) fun t32 =>
            Mcall prg f_strings_IndexByte [(.string ⟨#[48, 49, 50, 51, 52, 53, 54, 55, 56, 57, 97, 98, 99, 100, 101, 102]⟩), t36] h10 fun t37 h11 =>
            Mpu (binV .no .or t32 t37) fun t38 =>
            Mpu (cvI .u8 t38) fun t39 =>
            Mnews h11 T_uint8 1 (bslV prg T_uint8 1 [(0, t39)]) fun t40 h12 =>
            Mapp T_uint8 1 1 h12 t4_2 t40 fun t41 h13 =>
            Mpu (binV .no .add t5_2 (.int .i64 2)) fun t26 =>
            k8 t41 t26 h13) (
            k6 t4_2 t5_2 h9)) ((.slice none 0 0)) ((.int .i64 0)) h5) fun t4_4 t5_4 h7 =>
      R (.tuple #[t4_4, (.bool true)]) h7))
theorem sh_script_data_chk : fchkF prg [4, 5, 14, 19] Tryz.f74 1 = true := by kernel_rfl
theorem sh_script_data_den (t0 : Value) (H : Heap) (R : Value → Heap → Prop) : fdenF prg [4, 5, 14, 19] Tryz.f74 [t0] H R = sh_script_data t0 H R := by kernel_rfl
theorem sh_script_data_calls {t0 : Value} {H : Heap} {R : Value → Heap → Prop} (h : sh_script_data t0 H R) : HCalls prg f_script_data [t0] H R :=
  calls_ofF Tryz.func74 sh_script_data_chk (by rw [sh_script_data_den]; exact h)

-- syngraph/script.list
def sh_script_list (t0 : Value) (H : Heap) (R : Value → Heap → Prop) : Prop :=
  Mnew H T_S_int (zcells prg T_S_int) fun t2 h1 =>
  Mnew h1 T_bool (zcells prg T_bool) fun t3 h2 =>
  Mnew h2 T_S_int (zcells prg T_S_int) fun t4 h3 =>
  Mcall prg f_strings_SplitSeq [t0, (.string ⟨#[44]⟩)] h3 fun t9 h4 =>
  Mrange prg H.size t9 h4 (fun a5 h6 k7 => a5.length = 1 ∧ (
      Mbeg (h4.size + 1) h6 fun h10 =>
      Mcall prg f_script_number [(a5.getD 0 undef)] h10 fun t13 h11 =>
      Mpu (extV 0 t13) fun t14 =>
      Mpu (extV 1 t13) fun t15 =>
      Mpu (unV .not t15) fun t17 =>
      Mcd t17 (
        Mwr (st1 h11 t2 (.slice none 0 0)) fun h12 =>
        Mwr (st1 h12 t3 (.bool false)) fun h13 =>
        k7 (some Code.ret) h13) (
        Mpu (ld1 h11 t4) fun t18 =>
        Mnews h11 T_int 1 (bslV prg T_int 1 [(0, t14)]) fun t20 h14 =>
        Mapp T_int 1 8 h14 t18 t20 fun t21 h15 =>
        Mwr (st1 h15 t4 t21) fun h16 =>
        k7 none h16))) fun j8 h9 =>
    (j8 = none ∧ (
      Mpu (ld1 h9 t4) fun t22 =>
      Mwr (st1 h9 t2 t22) fun h17 =>
      Mwr (st1 h17 t3 (.bool true)) fun h18 =>
      Mcl H.size h18 fun h19 =>
      Mpu (ld1 h19 t2) fun r20 =>
      Mpu (ld1 h19 t3) fun r21 =>
      R (.tuple #[r20, r21]) h19)) ∨
    (j8 = some Code.ret ∧ (
      Mcl H.size h9 fun h22 =>
      Mpu (ld1 h22 t2) fun r23 =>
      Mpu (ld1 h22 t3) fun r24 =>
      R (.tuple #[r23, r24]) h22))
theorem sh_script_list_chk : fchkF prg [] Tryz.f75 1 = true := by kernel_rfl
theorem sh_script_list_den (t0 : Value) (H : Heap) (R : Value → Heap → Prop) : fdenF prg [] Tryz.f75 [t0] H R = sh_script_list t0 H R := by kernel_rfl
theorem sh_script_list_calls {t0 : Value} {H : Heap} {R : Value → Heap → Prop} (h : sh_script_list t0 H R) : HCalls prg f_script_list [t0] H R :=
  calls_ofF Tryz.func75 sh_script_list_chk (by rw [sh_script_list_den]; exact h)

-- syngraph/script.digits
def sh_script_digits (t0 : Value) (H : Heap) (R : Value → Heap → Prop) : Prop :=
  Mpu (lenV t0) fun t7 =>
  Mpu (binV .no .eql t7 (.int .i64 0)) fun t8 =>
  Mcd t8 (
    R (.string ⟨#[45]⟩) H) (
    J2 (fun k1 =>
      Mpu (lenV t0) fun t10 =>
      L2 (fun k3 => fun t3_2 t11_2 h4 =>
        Mpu (binV .no .lss t11_2 t10) fun t12 =>
        Mcd t12 (
          Mpu (ixS 1 t0 t11_2) fun t13 =>
          Mpu (ld1 h4 t13) fun t14 =>
          Mpu (binV .no .shr t14 (.int .u64 4)) fun t17 =>
          Mpu (ixT (.string ⟨#[48, 49, 50, 51, 52, 53, 54, 55, 56, 57, 97, 98, 99, 100, 101, 102]⟩) t17) fun t18 =>
          Mpu (binV .no .and t14 (.int .u8 15)) fun t20 =>
          Mpu (ixT (.string ⟨#[48, 49, 50, 51, 52, 53, 54, 55, 56, 57, 97, 98, 99, 100, 101, 102]⟩) t20) fun t21 =>
          Mnews h4 T_uint8 2 (bslV prg T_uint8 2 [(0, t18), (1, t21)]) fun t22 h5 =>
          Mapp T_uint8 1 1 h5 t3_2 t22 fun t23 h6 =>
          Mpu (binV .no .add t11_2 (.int .i64 1)) fun t24 =>
          k3 t23 t24 h6) (
          k1 t3_2 t11_2 h4)) ((.slice none 0 0)) ((.int .i64 0)) H) fun t3_4 t11_4 h2 =>
    Mpu (b2s h2 t3_4) fun t26 =>
    R t26 h2)
theorem sh_script_digits_chk : fchkF prg [3, 11] Tryz.f83 1 = true := by kernel_rfl
theorem sh_script_digits_den (t0 : Value) (H : Heap) (R : Value → Heap → Prop) : fdenF prg [3, 11] Tryz.f83 [t0] H R = sh_script_digits t0 H R := by kernel_rfl
theorem sh_script_digits_calls {t0 : Value} {H : Heap} {R : Value → Heap → Prop} (h : sh_script_digits t0 H R) : HCalls prg f_script_digits [t0] H R :=
  calls_ofF Tryz.func83 sh_script_digits_chk (by rw [sh_script_digits_den]; exact h)

-- strings.Lines$1
-- (*syngraph/manifest.Manifest).read$1
-- syngraph/sha.Parse
-- internal/stringslite.TrimSuffix
-- (syngraph/manifest.Manifest).deps
end Go.Proofs.YtconalffokhplaaGreatDoor

