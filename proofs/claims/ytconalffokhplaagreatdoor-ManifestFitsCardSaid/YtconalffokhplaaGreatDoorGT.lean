/- JOINED: Si3 Si4 Si5 Si6 Sz -/
import Derived.Test.YtconalffokhplaaGreatDoorGE
import Derived.Test.YtconalffokhplaaGreatDoorGF
import Derived.Test.YtconalffokhplaaGreatDoorGG
import Derived.Test.YtconalffokhplaaGreatDoorGS
import Derived.Test.YtconalffokhplaaGreatDoorGR
import Derived.Test.YtconalffokhplaaGreatDoorGQ
set_option linter.unusedSimpArgs false
set_option linter.unusedVariables false
/- PRINTED: clean texts -/
namespace Go.Proofs.YtconalffokhplaaGreatDoor
open Go.X
set_option maxRecDepth 100000
-- (*syngraph/script.Line).read
def sh_script_Line_read (t0 t1 t2 : Value) (H : Heap) (R : Value → Heap → Prop) : Prop :=
  J1 (fun k1 =>
    Mpu (binV .no .eql t1 (.int .u8 110)) fun t12 =>
    Mcd t12 (
      Mcall prg f_script_number [t2] H fun t16 h3 =>
      Mpu (extV 0 t16) fun t17 =>
      Mpu (extV 1 t16) fun t18 =>
      Mpu (nck t0) fun t19 =>
      Mpu (fld 0 t19) fun t20 =>
      Mpu (fld 1 t20) fun t21 =>
      Mwr (st1 h3 t21 t17) fun h4 =>
      k1 t18 h4) (
      Mpu (binV .no .eql t1 (.int .u8 97)) fun t23 =>
      Mcd t23 (
        Mcall prg f_script_number [t2] H fun t27 h5 =>
        Mpu (extV 0 t27) fun t28 =>
        Mpu (extV 1 t27) fun t29 =>
        Mpu (nck t0) fun t30 =>
        Mpu (fld 0 t30) fun t31 =>
        Mpu (fld 2 t31) fun t32 =>
        Mwr (st1 h5 t32 t28) fun h6 =>
        k1 t29 h6) (
        Mpu (binV .no .eql t1 (.int .u8 115)) fun t34 =>
        Mcd t34 (
          Mcall prg f_script_name [t2] H fun t38 h7 =>
          Mpu (nck t0) fun t39 =>
          Mpu (fld 0 t39) fun t40 =>
          Mpu (fld 3 t40) fun t41 =>
          Mwr (st1 h7 t41 t2) fun h8 =>
          k1 t38 h8) (
          Mpu (binV .no .eql t1 (.int .u8 119)) fun t43 =>
          Mcd t43 (
            Mcall prg f_version_ParseWant [t2] H fun t46 h9 =>
            Mpu (extV 0 t46) fun t47 =>
            Mpu (extV 1 t46) fun t48 =>
            Mnew h9 T_version_Want (zcells prg T_version_Want) fun t8 h10 =>
            Mwr (stN 5 h10 t8 t47) fun h11 =>
            Mpu (ldN 5 h11 t8) fun t50 =>
            Mpu (binV .no .eql t48 (.int .i64 0)) fun t52 =>
            Mpu (nck t0) fun t53 =>
            Mpu (fld 0 t53) fun t54 =>
            Mpu (fld 4 t54) fun t55 =>
            Mwr (stN 5 h11 t55 t50) fun h12 =>
            k1 t52 h12) (
            Mpu (binV .no .eql t1 (.int .u8 100)) fun t57 =>
            Mcd t57 (
              Mcall prg f_script_data [t2] H fun t61 h13 =>
              Mpu (extV 0 t61) fun t62 =>
              Mpu (extV 1 t61) fun t63 =>
              Mpu (nck t0) fun t64 =>
              Mpu (fld 0 t64) fun t65 =>
              Mpu (fld 9 t65) fun t66 =>
              Mwr (st1 h13 t66 t62) fun h14 =>
              k1 t63 h14) (
              Mpu (binV .no .eql t1 (.int .u8 108)) fun t68 =>
              Mcd t68 (
                Mcall prg f_script_list [t2] H fun t72 h15 =>
                Mpu (extV 0 t72) fun t73 =>
                Mpu (extV 1 t72) fun t74 =>
                Mpu (nck t0) fun t75 =>
                Mpu (fld 0 t75) fun t76 =>
                Mpu (fld 10 t76) fun t77 =>
                Mwr (st1 h15 t77 t73) fun h16 =>
                k1 t74 h16) (
                k1 (.bool false) H))))))) fun t7_8 h2 =>
  R t7_8 h2
theorem sh_script_Line_read_chk : fchkF prg [7] Tryz.f41 3 = true := by kernel_rfl
theorem sh_script_Line_read_den (t0 t1 t2 : Value) (H : Heap) (R : Value → Heap → Prop) : fdenF prg [7] Tryz.f41 [t0, t1, t2] H R = sh_script_Line_read t0 t1 t2 H R := by kernel_rfl
theorem sh_script_Line_read_calls {t0 t1 t2 : Value} {H : Heap} {R : Value → Heap → Prop} (h : sh_script_Line_read t0 t1 t2 H R) : HCalls prg f_script_Line_read [t0, t1, t2] H R :=
  calls_ofF Tryz.func41 sh_script_Line_read_chk (by rw [sh_script_Line_read_den]; exact h)

-- (syngraph/script.Line).show
def sh_script_Line_show (t0 t1 : Value) (H : Heap) (R : Value → Heap → Prop) : Prop :=
  Mnew H T_script_Line (some (Value.cells t0)) fun t2 h1 =>
  Mpu (binV .no .eql t1 (.int .u8 110)) fun t10 =>
  Mcd t10 (
    Mpu (fld 0 t2) fun t11 =>
    Mpu (fld 1 t11) fun t12 =>
    Mpu (ld1 h1 t12) fun t13 =>
    Mcall prg f_strconv_Itoa [t13] h1 fun t14 h2 =>
    R t14 h2) (
    Mpu (binV .no .eql t1 (.int .u8 97)) fun t16 =>
    Mcd t16 (
      Mpu (fld 0 t2) fun t17 =>
      Mpu (fld 2 t17) fun t18 =>
      Mpu (ld1 h1 t18) fun t19 =>
      Mcall prg f_strconv_Itoa [t19] h1 fun t20 h3 =>
      R t20 h3) (
      Mpu (binV .no .eql t1 (.int .u8 115)) fun t22 =>
      Mcd t22 (
        Mpu (fld 0 t2) fun t23 =>
        Mpu (fld 3 t23) fun t24 =>
        Mpu (ld1 h1 t24) fun t25 =>
        R t25 h1) (
        Mpu (binV .no .eql t1 (.int .u8 119)) fun t27 =>
        Mcd t27 (
          Mpu (fld 0 t2) fun t28 =>
          Mpu (fld 4 t28) fun t29 =>
          Mpu (ldN 5 h1 t29) fun t30 =>
          Mcall prg f_version_Want_Show [t30] h1 fun t31 h4 =>
          R t31 h4) (
          Mpu (binV .no .eql t1 (.int .u8 100)) fun t33 =>
          Mcd t33 (
            Mpu (fld 0 t2) fun t34 =>
            Mpu (fld 9 t34) fun t35 =>
            Mpu (ld1 h1 t35) fun t36 =>
            Mcall prg f_script_digits [t36] h1 fun t37 h5 =>
            R t37 h5) (
            J2 (fun k6 =>
              Mpu (fld 0 t2) fun t38 =>
              Mpu (fld 10 t38) fun t39 =>
              Mpu (ld1 h1 t39) fun t40 =>
              Mpu (lenV t40) fun t41 =>
              L2 (fun k8 => fun t5_2 t42_2 h9 =>
                Mpu (binV .no .lss t42_2 t41) fun t43 =>
                Mcd t43 (
                  Mpu (ixS 1 t40 t42_2) fun t44 =>
                  Mpu (ld1 h9 t44) fun t45 =>
                  Mcall prg f_strconv_Itoa [t45] h9 fun t48 h10 =>
                  Mnews h10 T_string 1 (bslV prg T_string 1 [(0, t48)]) fun t49 h11 =>
                  Mapp T_string 1 16 h11 t5_2 t49 fun t50 h12 =>
                  Mpu (binV .no .add t42_2 (.int .i64 1)) fun t51 =>
                  k8 t50 t51 h12) (
                  k6 t5_2 t42_2 h9)) ((.slice none 0 0)) ((.int .i64 0)) h1) fun t5_4 t42_4 h7 =>
            Mcall prg f_strings_Join [t5_4, (.string ⟨#[44]⟩)] h7 fun t53 h13 =>
            R t53 h13)))))
theorem sh_script_Line_show_chk : fchkF prg [5, 42] Tryz.f48 2 = true := by kernel_rfl
theorem sh_script_Line_show_den (t0 t1 : Value) (H : Heap) (R : Value → Heap → Prop) : fdenF prg [5, 42] Tryz.f48 [t0, t1] H R = sh_script_Line_show t0 t1 H R := by kernel_rfl
theorem sh_script_Line_show_calls {t0 t1 : Value} {H : Heap} {R : Value → Heap → Prop} (h : sh_script_Line_show t0 t1 H R) : HCalls prg f_script_Line_show [t0, t1] H R :=
  calls_ofF Tryz.func48 sh_script_Line_show_chk (by rw [sh_script_Line_show_den]; exact h)

-- strings.Lines
def sh_strings_Lines (t0 : Value) (H : Heap) (R : Value → Heap → Prop) : Prop :=
  Mnew H T_string (some (Value.cells t0)) fun t1 h1 =>
  R (.func (.func f_strings_Lines_1) #[] #[t1]) h1
theorem sh_strings_Lines_chk : fchkF prg [] Tryz.f58 1 = true := by kernel_rfl
theorem sh_strings_Lines_den (t0 : Value) (H : Heap) (R : Value → Heap → Prop) : fdenF prg [] Tryz.f58 [t0] H R = sh_strings_Lines t0 H R := by kernel_rfl
theorem sh_strings_Lines_calls {t0 : Value} {H : Heap} {R : Value → Heap → Prop} (h : sh_strings_Lines t0 H R) : HCalls prg f_strings_Lines [t0] H R :=
  calls_ofF Tryz.func58 sh_strings_Lines_chk (by rw [sh_strings_Lines_den]; exact h)

-- (*syngraph/manifest.Manifest).read
def sh_manifest_Manifest_read (t0 t1 : Value) (H : Heap) (R : Value → Heap → Prop) : Prop :=
  Mnew H T_S_string (some (Value.cells t1)) fun t3 h1 =>
  Mpu (ld1 h1 t3) fun t10 =>
  Mpu (ixS 1 t10 (.int .i64 0)) fun t11 =>
  Mpu (ld1 h1 t11) fun t12 =>
  Mpu (binV .no .eql t12 (.string ⟨#[112, 97, 99, 107, 97, 103, 101]⟩)) fun t14 =>
  Mcd t14 (
    Mcallv prg (.func (.func f_manifest_Manifest_read_1) #[] #[t3]) [(.int .i64 1)] h1 fun t17 h2 =>
    Mpu (nck t0) fun t18 =>
    Mpu (fld 0 t18) fun t19 =>
    Mwr (st1 h2 t19 t17) fun h3 =>
    Mcallv prg (.func (.func f_manifest_Manifest_read_1) #[] #[t3]) [(.int .i64 2)] h3 fun t23 h4 =>
    Mcall prg f_version_Parse [t23] h4 fun t24 h5 =>
    Mpu (extV 0 t24) fun t25 =>
    Mpu (extV 1 t24) fun t26 =>
    Mpu (nck t0) fun t27 =>
    Mpu (fld 1 t27) fun t28 =>
    Mwr (stN 4 h5 t28 t25) fun h6 =>
    R (.tuple #[]) h6) (
    J1 (fun k7 =>
      Mpu (binV .no .eql t12 (.string ⟨#[110, 101, 101, 100, 115]⟩)) fun t30 =>
      Mcd t30 (
        k7 t30 h1) (
        Mpu (binV .no .eql t12 (.string ⟨#[114, 101, 102, 117, 115, 101, 115]⟩)) fun t31 =>
        k7 t31 h1)) fun t29_3 h8 =>
    Mcd t29_3 (
      Mcallv prg (.func (.func f_manifest_Manifest_read_1) #[] #[t3]) [(.int .i64 2)] h8 fun t34 h9 =>
      Mcall prg f_version_ParseWant [t34] h9 fun t35 h10 =>
      Mpu (extV 0 t35) fun t36 =>
      Mpu (extV 1 t35) fun t37 =>
      Mnew h10 T_version_Want (zcells prg T_version_Want) fun t5 h11 =>
      Mwr (stN 5 h11 t5 t36) fun h12 =>
      J1 (fun k13 =>
        Mpu (ldN 5 h12 t5) fun t40 =>
        ((
          Mcallv prg (.func (.func f_manifest_Manifest_read_1) #[] #[t3]) [(.int .i64 1)] h12 fun t39 h14 =>
          Mre [(ldN 5 h14 t5, t40)] (
          Mpu (buildV prg T_manifest_Dep [(0, t39), (1, t40)]) fun t41 =>
          Mnew h14 T_manifest_Dep (zcells prg T_manifest_Dep) fun t7 h15 =>
          Mre [(ldN 5 h15 t5, t40)] (
          Mwr (stN 6 h15 t7 t41) fun h16 =>
          k13 t7 h16))) ∧ (
          Mnew h12 T_manifest_Dep (zcells prg T_manifest_Dep) fun t7_2 h17 =>
          Mre [(ldN 5 h17 t5, t40)] (
          Mcallv prg (.func (.func f_manifest_Manifest_read_1) #[] #[t3]) [(.int .i64 1)] h17 fun t39_2 h18 =>
          Mre [(ldN 5 h18 t5, t40)] (
          Mpu (buildV prg T_manifest_Dep [(0, t39_2), (1, t40)]) fun t41_2 =>
          Mwr (stN 6 h18 t7_2 t41_2) fun h19 =>
          k13 t7_2 h19))))) fun t7_3 h20 =>
      Mpu (ld1 h20 t3) fun t42 =>
      Mpu (ixS 1 t42 (.int .i64 0)) fun t43 =>
      Mpu (ld1 h20 t43) fun t44 =>
      Mpu (binV .no .eql t44 (.string ⟨#[110, 101, 101, 100, 115]⟩)) fun t45 =>
      Mcd t45 (
        Mpu (nck t0) fun t48 =>
        Mpu (fld 5 t48) fun t49 =>
        Mpu (ld1 h20 t49) fun t50 =>
        Mpu (ldN 6 h20 t7_3) fun t51 =>
        Mnews h20 T_manifest_Dep 1 (bslV prg T_manifest_Dep 1 [(0, t51)]) fun t52 h21 =>
        Mre [(ld1 h21 t49, t50)] (
        Mapp T_manifest_Dep 6 72 h21 t50 t52 fun t53 h22 =>
        Mpu (nck t0) fun t54 =>
        Mpu (fld 5 t54) fun t55 =>
        Mwr (st1 h22 t55 t53) fun h23 =>
        R (.tuple #[]) h23)) (
        Mpu (nck t0) fun t58 =>
        Mpu (fld 6 t58) fun t59 =>
        Mpu (ld1 h20 t59) fun t60 =>
        Mpu (ldN 6 h20 t7_3) fun t61 =>
        Mnews h20 T_manifest_Dep 1 (bslV prg T_manifest_Dep 1 [(0, t61)]) fun t62 h24 =>
        Mre [(ld1 h24 t59, t60)] (
        Mapp T_manifest_Dep 6 72 h24 t60 t62 fun t63 h25 =>
        Mpu (nck t0) fun t64 =>
        Mpu (fld 6 t64) fun t65 =>
        Mwr (st1 h25 t65 t63) fun h26 =>
        R (.tuple #[]) h26))) (
      Mpu (binV .no .eql t12 (.string ⟨#[102, 105, 108, 101]⟩)) fun t67 =>
      Mcd t67 (
        Mcallv prg (.func (.func f_manifest_Manifest_read_1) #[] #[t3]) [(.int .i64 1)] h8 fun t69 h27 =>
        Mpu (buildV prg T_manifest_File [(0, t69)]) fun t70 =>
        Mnew h27 T_manifest_File (zcells prg T_manifest_File) fun t8 h28 =>
        Mwr (stN 34 h28 t8 t70) fun h29 =>
        Mcallv prg (.func (.func f_manifest_Manifest_read_1) #[] #[t3]) [(.int .i64 2)] h29 fun t73 h30 =>
        Mcall prg f_strconv_Atoi [t73] h30 fun t74 h31 =>
        Mpu (extV 0 t74) fun t75 =>
        Mpu (extV 1 t74) fun t76 =>
        Mpu (fld 33 t8) fun t77 =>
        Mwr (st1 h31 t77 t75) fun h32 =>
        Mcallv prg (.func (.func f_manifest_Manifest_read_1) #[] #[t3]) [(.int .i64 3)] h32 fun t80 h33 =>
        Mcall prg f_sha_Parse [t80] h33 fun t81 h34 =>
        Mpu (extV 0 t81) fun t82 =>
        Mpu (extV 1 t81) fun t83 =>
        Mpu (fld 1 t8) fun t84 =>
        Mwr (stN 32 h34 t84 t82) fun h35 =>
        Mpu (nck t0) fun t87 =>
        Mpu (fld 7 t87) fun t88 =>
        Mpu (ld1 h35 t88) fun t89 =>
        Mpu (ldN 34 h35 t8) fun t90 =>
        Mnews h35 T_manifest_File 1 (bslV prg T_manifest_File 1 [(0, t90)]) fun t91 h36 =>
        Mre [(ld1 h36 t88, t89)] (
        Mapp T_manifest_File 34 56 h36 t89 t91 fun t92 h37 =>
        Mpu (nck t0) fun t93 =>
        Mpu (fld 7 t93) fun t94 =>
        Mwr (st1 h37 t94 t92) fun h38 =>
        R (.tuple #[]) h38)) (
        R (.tuple #[]) h8)))
theorem sh_manifest_Manifest_read_chk : fchkF prg [7, 29] Tryz.f59 2 = true := by kernel_rfl
theorem sh_manifest_Manifest_read_den (t0 t1 : Value) (H : Heap) (R : Value → Heap → Prop) : fdenF prg [7, 29] Tryz.f59 [t0, t1] H R = sh_manifest_Manifest_read t0 t1 H R := by kernel_rfl
theorem sh_manifest_Manifest_read_calls {t0 t1 : Value} {H : Heap} {R : Value → Heap → Prop} (h : sh_manifest_Manifest_read t0 t1 H R) : HCalls prg f_manifest_Manifest_read [t0, t1] H R :=
  calls_ofF Tryz.func59 sh_manifest_Manifest_read_chk (by rw [sh_manifest_Manifest_read_den]; exact h)

-- strings.TrimSuffix
def sh_strings_TrimSuffix (t0 t1 : Value) (H : Heap) (R : Value → Heap → Prop) : Prop :=
  Mcall prg f_internal_stringslite_TrimSuffix [t0, t1] H fun t7 h1 =>
  R t7 h1
theorem sh_strings_TrimSuffix_chk : fchkF prg [] Tryz.f60 2 = true := by kernel_rfl
theorem sh_strings_TrimSuffix_den (t0 t1 : Value) (H : Heap) (R : Value → Heap → Prop) : fdenF prg [] Tryz.f60 [t0, t1] H R = sh_strings_TrimSuffix t0 t1 H R := by kernel_rfl
theorem sh_strings_TrimSuffix_calls {t0 t1 : Value} {H : Heap} {R : Value → Heap → Prop} (h : sh_strings_TrimSuffix t0 t1 H R) : HCalls prg f_strings_TrimSuffix [t0, t1] H R :=
  calls_ofF Tryz.func60 sh_strings_TrimSuffix_chk (by rw [sh_strings_TrimSuffix_den]; exact h)

-- (syngraph/manifest.Manifest).Right
def sh_manifest_Manifest_Right (t0 : Value) (H : Heap) (R : Value → Heap → Prop) : Prop :=
  Mnew H T_manifest_Manifest (some (Value.cells t0)) fun t1 h1 =>
  Mpu (fld 0 t1) fun t3 =>
  Mpu (ld1 h1 t3) fun t4 =>
  Mcall prg f_manifest_Name [t4] h1 fun t5 h2 =>
  J1 (fun k3 => Mif t5 true (
      Mpu (fld 1 t1) fun t7 =>
      Mpu (ldN 4 h2 t7) fun t8 =>
      Mcall prg f_version_Version_Right [t8] h2 fun t9 h4 =>
      k3 t9 h4) (
      k3 undef h2)) fun t9_2 h5 =>
  Mpu (pickV t5 t9_2 (.bool false)) fun t10 =>
  J1 (fun k6 => Mif t10 true (
      Mpu (ldN 8 h5 t1) fun t12 =>
      Mpu (fld 5 t1) fun t13 =>
      Mpu (ld1 h5 t13) fun t14 =>
      Mcall prg f_manifest_Manifest_deps [t12, t14] h5 fun t15 h7 =>
      k6 t15 h7) (
      k6 undef h5)) fun t15_2 h8 =>
  Mpu (pickV t10 t15_2 (.bool false)) fun t16 =>
  J1 (fun k9 => Mif t16 true (
      Mpu (ldN 8 h8 t1) fun t18 =>
      Mpu (fld 6 t1) fun t19 =>
      Mpu (ld1 h8 t19) fun t20 =>
      Mcall prg f_manifest_Manifest_deps [t18, t20] h8 fun t21 h10 =>
      k9 t21 h10) (
      k9 undef h8)) fun t21_2 h11 =>
  Mpu (pickV t16 t21_2 (.bool false)) fun t22 =>
  J1 (fun k12 => Mif t22 true (
      Mpu (ldN 8 h11 t1) fun t24 =>
      Mcall prg f_manifest_Manifest_files [t24] h11 fun t25 h13 =>
      k12 t25 h13) (
      k12 undef h11)) fun t25_2 h14 =>
  Mpu (pickV t22 t25_2 (.bool false)) fun t26 =>
  R t26 h14
theorem sh_manifest_Manifest_Right_chk : fchkF prg [9, 15, 21, 25] Tryz.f61 1 = true := by kernel_rfl
theorem sh_manifest_Manifest_Right_den (t0 : Value) (H : Heap) (R : Value → Heap → Prop) : fdenF prg [9, 15, 21, 25] Tryz.f61 [t0] H R = sh_manifest_Manifest_Right t0 H R := by kernel_rfl
theorem sh_manifest_Manifest_Right_calls {t0 : Value} {H : Heap} {R : Value → Heap → Prop} (h : sh_manifest_Manifest_Right t0 H R) : HCalls prg f_manifest_Manifest_Right [t0] H R :=
  calls_ofF Tryz.func61 sh_manifest_Manifest_Right_chk (by rw [sh_manifest_Manifest_Right_den]; exact h)

-- syngraph/manifest.line
def sh_manifest_line (t0 : Value) (H : Heap) (R : Value → Heap → Prop) : Prop :=
  Mcall prg f_strings_Join [t0, (.string ⟨#[32]⟩)] H fun t4 h1 =>
  Mpu (binV .no .add t4 (.string ⟨#[10]⟩)) fun t5 =>
  R t5 h1
theorem sh_manifest_line_chk : fchkF prg [] Tryz.f62 1 = true := by kernel_rfl
theorem sh_manifest_line_den (t0 : Value) (H : Heap) (R : Value → Heap → Prop) : fdenF prg [] Tryz.f62 [t0] H R = sh_manifest_line t0 H R := by kernel_rfl
theorem sh_manifest_line_calls {t0 : Value} {H : Heap} {R : Value → Heap → Prop} (h : sh_manifest_line t0 H R) : HCalls prg f_manifest_line [t0] H R :=
  calls_ofF Tryz.func62 sh_manifest_line_chk (by rw [sh_manifest_line_den]; exact h)

-- (syngraph/sha.Hash).Show
def sh_sha_Hash_Show (t0 : Value) (H : Heap) (R : Value → Heap → Prop) : Prop :=
  Mnew H T_sha_Hash (some (Value.cells t0)) fun t1 h1 =>
  J2 (fun k2 =>
    Mpu (ldN 32 h1 t1) fun t6 =>
    L2 (fun k4 => fun t3_2 t7_2 h5 =>
      Mpu (binV .no .lss t7_2 (.int .i64 32)) fun t8 =>
      Mcd t8 (
        Mpu (ixV 32 false 1 t6 t7_2) fun t9 =>
        Mpu (binV .no .shr t9 (.int .u64 4)) fun t12 =>
        Mpu (ixT (.string ⟨#[48, 49, 50, 51, 52, 53, 54, 55, 56, 57, 97, 98, 99, 100, 101, 102]⟩) t12) fun t13 =>
        Mpu (binV .no .and t9 (.int .u8 15)) fun t15 =>
        Mpu (ixT (.string ⟨#[48, 49, 50, 51, 52, 53, 54, 55, 56, 57, 97, 98, 99, 100, 101, 102]⟩) t15) fun t16 =>
        Mnews h5 T_uint8 2 (bslV prg T_uint8 2 [(0, t13), (1, t16)]) fun t17 h6 =>
        Mapp T_uint8 1 1 h6 t3_2 t17 fun t18 h7 =>
        Mpu (binV .no .add t7_2 (.int .i64 1)) fun t19 =>
        k4 t18 t19 h7) (
        k2 t3_2 t7_2 h5)) ((.slice none 0 0)) ((.int .i64 0)) h1) fun t3_4 t7_4 h3 =>
  Mpu (b2s h3 t3_4) fun t21 =>
  R t21 h3
theorem sh_sha_Hash_Show_chk : fchkF prg [3, 7] Tryz.f65 1 = true := by kernel_rfl
theorem sh_sha_Hash_Show_den (t0 : Value) (H : Heap) (R : Value → Heap → Prop) : fdenF prg [3, 7] Tryz.f65 [t0] H R = sh_sha_Hash_Show t0 H R := by kernel_rfl
theorem sh_sha_Hash_Show_calls {t0 : Value} {H : Heap} {R : Value → Heap → Prop} (h : sh_sha_Hash_Show t0 H R) : HCalls prg f_sha_Hash_Show [t0] H R :=
  calls_ofF Tryz.func65 sh_sha_Hash_Show_chk (by rw [sh_sha_Hash_Show_den]; exact h)

-- strings.explode
def sh_strings_explode (t0 t1 : Value) (H : Heap) (R : Value → Heap → Prop) : Prop :=
  Mcall prg f_unicode_utf8_RuneCountInString [t0] H fun t11 h1 =>
  J2 (fun k2 =>
    Mpu (binV .no .lss t1 (.int .i64 0)) fun t13 =>
    J1 (fun k4 => Mif t13 false (
        Mpu (binV .no .gtr t1 t11) fun t17 =>
        k4 t17 h1) (
        k4 undef h1)) fun t17_2 h5 =>
    Mpu (pickV t13 (.bool true) t17_2) fun t18 =>
    Mcd t18 (
      k2 t11 t17_2 h5) (
      k2 t1 t17_2 h5)) fun t1_3 t17_3 h3 =>
  Mmks prg h3 T_string t1_3 t1_3 fun t21 h6 =>
  J2 (fun k7 =>
    L2 (fun k9 => fun t0_2 t7_2 h10 =>
      Mpu (binV .no .sub t1_3 (.int .i64 1)) fun t24 =>
      Mpu (binV .no .lss t7_2 t24) fun t25 =>
      Mcd t25 (
        Mcall prg f_unicode_utf8_DecodeRuneInString [t0_2] h10 fun t30 h11 =>
        Mpu (extV 0 t30) fun t31 =>
        Mpu (extV 1 t30) fun t32 =>
        Mpu (slT t0_2 none (some t32)) fun t37 =>
        Mpu (ixS 1 t21 t7_2) fun t38 =>
        Mwr (st1 h11 t38 t37) fun h12 =>
        Mpu (slT t0_2 (some t32) none) fun t41 =>
        Mpu (binV .no .add t7_2 (.int .i64 1)) fun t27 =>
        k9 t41 t27 h12) (
        k7 t0_2 t7_2 h10)) (t0) ((.int .i64 0)) h6) fun t0_4 t7_4 h8 =>
  J0 (fun k13 =>
    Mpu (binV .no .gtr t1_3 (.int .i64 0)) fun t43 =>
    Mcd t43 (
      Mpu (binV .no .sub t1_3 (.int .i64 1)) fun t46 =>
      Mpu (ixS 1 t21 t46) fun t48 =>
      Mwr (st1 h8 t48 t0_4) fun h15 =>
      k13 h15) (
      k13 h8)) fun h14 =>
  R t21 h14
theorem sh_strings_explode_chk : fchkF prg [0, 1, 7, 17] Tryz.f70 2 = true := by kernel_rfl
theorem sh_strings_explode_den (t0 t1 : Value) (H : Heap) (R : Value → Heap → Prop) : fdenF prg [0, 1, 7, 17] Tryz.f70 [t0, t1] H R = sh_strings_explode t0 t1 H R := by kernel_rfl
theorem sh_strings_explode_calls {t0 t1 : Value} {H : Heap} {R : Value → Heap → Prop} (h : sh_strings_explode t0 t1 H R) : HCalls prg f_strings_explode [t0, t1] H R :=
  calls_ofF Tryz.func70 sh_strings_explode_chk (by rw [sh_strings_explode_den]; exact h)

-- strings.Count
def sh_strings_Count (t0 t1 : Value) (H : Heap) (R : Value → Heap → Prop) : Prop :=
  Mpu (lenT t1) fun t8 =>
  Mpu (binV .no .eql t8 (.int .i64 0)) fun t9 =>
  Mcd t9 (
    Mcall prg f_unicode_utf8_RuneCountInString [t0] H fun t11 h1 =>
    Mpu (binV .no .add t11 (.int .i64 1)) fun t12 =>
    R t12 h1) (
    Mpu (lenT t1) fun t14 =>
    Mpu (binV .no .eql t14 (.int .i64 1)) fun t15 =>
    Mcd t15 (
      Mpu (ixT t1 (.int .i64 0)) fun t18 =>
      Msem prg (xtV prg f_internal_bytealg_CountString #[t0, t18]) H fun t19 h2 =>
      R t19 h2) (
      L2 (fun k3 => fun t0_2 t5_2 h4 =>
        Mcall prg f_strings_Index [t0_2, t1] h4 fun t22 h5 =>
        Mpu (binV .no .eql t22 (.int .i64 (-1))) fun t24 =>
        Mcd t24 (
          R t5_2 h5) (
          Mpu (binV .no .add t5_2 (.int .i64 1)) fun t27 =>
          Mpu (lenT t1) fun t31 =>
          Mpu (binV .no .add t22 t31) fun t32 =>
          Mpu (slT t0_2 (some t32) none) fun t33 =>
          k3 t33 t27 h5)) (t0) ((.int .i64 0)) H))
theorem sh_strings_Count_chk : fchkF prg [0, 5] Tryz.f71 2 = true := by kernel_rfl
theorem sh_strings_Count_den (t0 t1 : Value) (H : Heap) (R : Value → Heap → Prop) : fdenF prg [0, 5] Tryz.f71 [t0, t1] H R = sh_strings_Count t0 t1 H R := by kernel_rfl
theorem sh_strings_Count_calls {t0 t1 : Value} {H : Heap} {R : Value → Heap → Prop} (h : sh_strings_Count t0 t1 H R) : HCalls prg f_strings_Count [t0, t1] H R :=
  calls_ofF Tryz.func71 sh_strings_Count_chk (by rw [sh_strings_Count_den]; exact h)

end Go.Proofs.YtconalffokhplaaGreatDoor
/- PRINTED: clean texts -/
namespace Go.Proofs.YtconalffokhplaaGreatDoor
open Go.X
set_option maxRecDepth 100000
-- syngraph/script.number
def sh_script_number (t0 : Value) (H : Heap) (R : Value → Heap → Prop) : Prop :=
  Mcall prg f_strconv_Atoi [t0] H fun t8 h1 =>
  Mpu (extV 0 t8) fun t9 =>
  Mpu (extV 1 t8) fun t10 =>
  Mpu (binV (.ifc (intB prg) true) .eql t10 (.nilIface)) fun t13 =>
  J1 (fun k2 => Mif t13 true (
      Mpu (lenT t0) fun t16 =>
      Mpu (binV .no .leq t16 (.int .i64 9)) fun t17 =>
      k2 t17 h1) (
      k2 undef h1)) fun t17_2 h3 =>
  Mpu (pickV t13 t17_2 (.bool false)) fun t18 =>
  J1 (fun k4 => Mif t18 true (
      Mpu (binV .no .geq t9 (.int .i64 0)) fun t21 =>
      k4 t21 h3) (
      k4 undef h3)) fun t21_2 h5 =>
  Mpu (pickV t18 t21_2 (.bool false)) fun t22 =>
  J1 (fun k6 => Mif t22 true (
      Mcall prg f_strconv_Itoa [t9] h5 fun t25 h7 =>
      Mpu (binV .no .eql t25 t0) fun t27 =>
      k6 t27 h7) (
      k6 undef h5)) fun t27_2 h8 =>
  Mpu (pickV t22 t27_2 (.bool false)) fun t28 =>
  R (.tuple #[t9, t28]) h8
theorem sh_script_number_chk : fchkF prg [17, 21, 27] Tryz.f72 1 = true := by kernel_rfl
theorem sh_script_number_den (t0 : Value) (H : Heap) (R : Value → Heap → Prop) : fdenF prg [17, 21, 27] Tryz.f72 [t0] H R = sh_script_number t0 H R := by kernel_rfl
theorem sh_script_number_calls {t0 : Value} {H : Heap} {R : Value → Heap → Prop} (h : sh_script_number t0 H R) : HCalls prg f_script_number [t0] H R :=
  calls_ofF Tryz.func72 sh_script_number_chk (by rw [sh_script_number_den]; exact h)

-- syngraph/script.name
def sh_script_name (t0 : Value) (H : Heap) (R : Value → Heap → Prop) : Prop :=
  Mpu (binV .no .neq t0 (.string ⟨#[]⟩)) fun t4 =>
  J1 (fun k1 => Mif t4 true (
      Mpu (lenT t0) fun t7 =>
      Mpu (binV .no .leq t7 (.int .i64 64)) fun t8 =>
      k1 t8 H) (
      k1 undef H)) fun t8_2 h2 =>
  Mpu (pickV t4 t8_2 (.bool false)) fun t9 =>
  J1 (fun k3 => Mif t9 true (
      Mcall prg f_strings_Contains [t0, (.string ⟨#[32]⟩)] h2 fun t12 h4 =>
      Mpu (unV .not t12) fun t13 =>
      k3 t13 h4) (
      k3 undef h2)) fun t13_2 h5 =>
  Mpu (pickV t9 t13_2 (.bool false)) fun t14 =>
  J1 (fun k6 => Mif t14 true (
      Mcall prg f_strings_Contains [t0, (.string ⟨#[10]⟩)] h5 fun t17 h7 =>
      Mpu (unV .not t17) fun t18 =>
      k6 t18 h7) (
      k6 undef h5)) fun t18_2 h8 =>
  Mpu (pickV t14 t18_2 (.bool false)) fun t19 =>
  R t19 h8
theorem sh_script_name_chk : fchkF prg [8, 13, 18] Tryz.f73 1 = true := by kernel_rfl
theorem sh_script_name_den (t0 : Value) (H : Heap) (R : Value → Heap → Prop) : fdenF prg [8, 13, 18] Tryz.f73 [t0] H R = sh_script_name t0 H R := by kernel_rfl
theorem sh_script_name_calls {t0 : Value} {H : Heap} {R : Value → Heap → Prop} (h : sh_script_name t0 H R) : HCalls prg f_script_name [t0] H R :=
  calls_ofF Tryz.func73 sh_script_name_chk (by rw [sh_script_name_den]; exact h)

-- syngraph/script.data
def sh_script_data (t0 : Value) (H : Heap) (R : Value → Heap → Prop) : Prop :=
  Mpu (binV .no .eql t0 (.string ⟨#[45]⟩)) fun t7 =>
  Mcd t7 (
    R (.tuple #[(.slice none 0 0), (.bool true)]) H) (
    Mpu (binV .no .eql t0 (.string ⟨#[]⟩)) fun t9 =>
    J1 (fun k1 => Mif t9 false (
        Mpu (lenT t0) fun t12 =>
        Mpu (binV .no .rem t12 (.int .i64 2)) fun t13 =>
        Mpu (binV .no .neq t13 (.int .i64 0)) fun t14 =>
        k1 t14 H) (
        k1 undef H)) fun t14_2 h2 =>
    Mpu (pickV t9 (.bool true) t14_2) fun t15 =>
    J1 (fun k3 => Mif t15 false (
        Mcall prg f_strings_Trim [t0, (.string ⟨#[48, 49, 50, 51, 52, 53, 54, 55, 56, 57, 97, 98, 99, 100, 101, 102]⟩)] h2 fun t18 h4 =>
        Mpu (binV .no .neq t18 (.string ⟨#[]⟩)) fun t19 =>
        k3 t19 h4) (
        k3 undef h2)) fun t19_2 h5 =>
    Mpu (pickV t15 (.bool true) t19_2) fun t20 =>
    Mcd t20 (
      R (.tuple #[(.slice none 0 0), (.bool false)]) h5) (
      J2 (fun k6 =>
        L2 (fun k8 => fun t4_2 t5_2 h9 =>
          Mpu (lenT t0) fun t23 =>
          Mpu (binV .no .lss t5_2 t23) fun t24 =>
          Mcd t24 (
            Mpu (ixT t0 t5_2) fun t30 =>
            Mpu (binV .no .add t5_2 (.int .i64 1)) fun t35 =>
            Mpu (ixT t0 t35) fun t36 =>
            Mcall prg f_strings_IndexByte [(.string ⟨#[48, 49, 50, 51, 52, 53, 54, 55, 56, 57, 97, 98, 99, 100, 101, 102]⟩), t30] h9 fun t31 h10 =>
            Mpu (binV .no .shl t31 (.int .u64 4)) fun t32 =>
            Mcall prg f_strings_IndexByte [(.string ⟨#[48, 49, 50, 51, 52, 53, 54, 55, 56, 57, 97, 98, 99, 100, 101, 102]⟩), t36] h10 fun t37 h11 =>
            Mpu (binV .no .or t32 t37) fun t38 =>
            Mpu (cvI .u8 t38) fun t39 =>
            Mnews h11 T_uint8 1 (bslV prg T_uint8 1 [(0, t39)]) fun t40 h12 =>
            Mapp T_uint8 1 1 h12 t4_2 t40 fun t41 h13 =>
            Mpu (binV .no .add t5_2 (.int .i64 2)) fun t26 =>
            k8 t41 t26 h13) (
            k6 t4_2 t5_2 h9)) ((.slice none 0 0)) ((.int .i64 0)) h5) fun t4_4 t5_4 h7 =>
      R (.tuple #[t4_4, (.bool true)]) h7))
theorem sh_script_data_chk : fchkF prg [4, 5, 14, 19] Tryz.f74 1 = true := by kernel_rfl
theorem sh_script_data_den (t0 : Value) (H : Heap) (R : Value → Heap → Prop) : fdenF prg [4, 5, 14, 19] Tryz.f74 [t0] H R = sh_script_data t0 H R := by kernel_rfl
theorem sh_script_data_calls {t0 : Value} {H : Heap} {R : Value → Heap → Prop} (h : sh_script_data t0 H R) : HCalls prg f_script_data [t0] H R :=
  calls_ofF Tryz.func74 sh_script_data_chk (by rw [sh_script_data_den]; exact h)

-- syngraph/script.list
def sh_script_list (t0 : Value) (H : Heap) (R : Value → Heap → Prop) : Prop :=
  Mnew H T_S_int (zcells prg T_S_int) fun t2 h1 =>
  Mnew h1 T_bool (zcells prg T_bool) fun t3 h2 =>
  Mnew h2 T_S_int (zcells prg T_S_int) fun t4 h3 =>
  Mcall prg f_strings_SplitSeq [t0, (.string ⟨#[44]⟩)] h3 fun t9 h4 =>
  Mrange prg H.size t9 h4 (fun a5 h6 k7 => a5.length = 1 ∧ (
      Mbeg (h4.size + 1) h6 fun h10 =>
      Mcall prg f_script_number [(a5.getD 0 undef)] h10 fun t13 h11 =>
      Mpu (extV 0 t13) fun t14 =>
      Mpu (extV 1 t13) fun t15 =>
      Mpu (unV .not t15) fun t17 =>
      Mcd t17 (
        Mwr (st1 h11 t2 (.slice none 0 0)) fun h12 =>
        Mwr (st1 h12 t3 (.bool false)) fun h13 =>
        k7 (some Code.ret) h13) (
        Mpu (ld1 h11 t4) fun t18 =>
        Mnews h11 T_int 1 (bslV prg T_int 1 [(0, t14)]) fun t20 h14 =>
        Mapp T_int 1 8 h14 t18 t20 fun t21 h15 =>
        Mwr (st1 h15 t4 t21) fun h16 =>
        k7 none h16))) fun j8 h9 =>
    (j8 = none ∧ (
      Mpu (ld1 h9 t4) fun t22 =>
      Mwr (st1 h9 t2 t22) fun h17 =>
      Mwr (st1 h17 t3 (.bool true)) fun h18 =>
      Mcl H.size h18 fun h19 =>
      Mpu (ld1 h19 t2) fun r20 =>
      Mpu (ld1 h19 t3) fun r21 =>
      R (.tuple #[r20, r21]) h19)) ∨
    (j8 = some Code.ret ∧ (
      Mcl H.size h9 fun h22 =>
      Mpu (ld1 h22 t2) fun r23 =>
      Mpu (ld1 h22 t3) fun r24 =>
      R (.tuple #[r23, r24]) h22))
theorem sh_script_list_chk : fchkF prg [] Tryz.f75 1 = true := by kernel_rfl
theorem sh_script_list_den (t0 : Value) (H : Heap) (R : Value → Heap → Prop) : fdenF prg [] Tryz.f75 [t0] H R = sh_script_list t0 H R := by kernel_rfl
theorem sh_script_list_calls {t0 : Value} {H : Heap} {R : Value → Heap → Prop} (h : sh_script_list t0 H R) : HCalls prg f_script_list [t0] H R :=
  calls_ofF Tryz.func75 sh_script_list_chk (by rw [sh_script_list_den]; exact h)

-- syngraph/script.digits
def sh_script_digits (t0 : Value) (H : Heap) (R : Value → Heap → Prop) : Prop :=
  Mpu (lenV t0) fun t7 =>
  Mpu (binV .no .eql t7 (.int .i64 0)) fun t8 =>
  Mcd t8 (
    R (.string ⟨#[45]⟩) H) (
    J2 (fun k1 =>
      Mpu (lenV t0) fun t10 =>
      L2 (fun k3 => fun t3_2 t11_2 h4 =>
        Mpu (binV .no .lss t11_2 t10) fun t12 =>
        Mcd t12 (
          Mpu (ixS 1 t0 t11_2) fun t13 =>
          Mpu (ld1 h4 t13) fun t14 =>
          Mpu (binV .no .shr t14 (.int .u64 4)) fun t17 =>
          Mpu (ixT (.string ⟨#[48, 49, 50, 51, 52, 53, 54, 55, 56, 57, 97, 98, 99, 100, 101, 102]⟩) t17) fun t18 =>
          Mpu (binV .no .and t14 (.int .u8 15)) fun t20 =>
          Mpu (ixT (.string ⟨#[48, 49, 50, 51, 52, 53, 54, 55, 56, 57, 97, 98, 99, 100, 101, 102]⟩) t20) fun t21 =>
          Mnews h4 T_uint8 2 (bslV prg T_uint8 2 [(0, t18), (1, t21)]) fun t22 h5 =>
          Mapp T_uint8 1 1 h5 t3_2 t22 fun t23 h6 =>
          Mpu (binV .no .add t11_2 (.int .i64 1)) fun t24 =>
          k3 t23 t24 h6) (
          k1 t3_2 t11_2 h4)) ((.slice none 0 0)) ((.int .i64 0)) H) fun t3_4 t11_4 h2 =>
    Mpu (b2s h2 t3_4) fun t26 =>
    R t26 h2)
theorem sh_script_digits_chk : fchkF prg [3, 11] Tryz.f83 1 = true := by kernel_rfl
theorem sh_script_digits_den (t0 : Value) (H : Heap) (R : Value → Heap → Prop) : fdenF prg [3, 11] Tryz.f83 [t0] H R = sh_script_digits t0 H R := by kernel_rfl
theorem sh_script_digits_calls {t0 : Value} {H : Heap} {R : Value → Heap → Prop} (h : sh_script_digits t0 H R) : HCalls prg f_script_digits [t0] H R :=
  calls_ofF Tryz.func83 sh_script_digits_chk (by rw [sh_script_digits_den]; exact h)

-- strings.Lines$1
def sh_strings_Lines_1 (t0 t1 : Value) (H : Heap) (R : Value → Heap → Prop) : Prop :=
  L0 (fun k1 => fun h2 =>
    Mpu (ld1 h2 t1) fun t5 =>
    Mpu (lenT t5) fun t6 =>
    Mpu (binV .no .gtr t6 (.int .i64 0)) fun t7 =>
    Mcd t7 (
      J1 (fun k3 =>
        Mpu (ld1 h2 t1) fun t8 =>
        Mcall prg f_strings_IndexByte [t8, (.int .u8 10)] h2 fun t9 h5 =>
        Mpu (binV .no .geq t9 (.int .i64 0)) fun t11 =>
        Mcd t11 (
          Mpu (ld1 h5 t1) fun t12 =>
          Mpu (binV .no .add t9 (.int .i64 1)) fun t14 =>
          Mpu (slT t12 none (some t14)) fun t15 =>
          Mpu (ld1 h5 t1) fun t16 =>
          Mpu (binV .no .add t9 (.int .i64 1)) fun t18 =>
          Mpu (slT t16 (some t18) none) fun t19 =>
          Mwr (st1 h5 t1 t19) fun h6 =>
          k3 t15 h6) (
          Mpu (ld1 h5 t1) fun t20 =>
          Mwr (st1 h5 t1 (.string ⟨#[]⟩)) fun h7 =>
          k3 t20 h7)) fun t3_4 h4 =>
      Mcallv prg t0 [t3_4] h4 fun t23 h8 =>
      Mpu (unV .not t23) fun t24 =>
      Mcd t24 (
        R (.tuple #[]) h8) (
        k1 h8)) (
      R (.tuple #[]) h2))  H
theorem sh_strings_Lines_1_chk : fchkF prg [3] Tryz.f89 2 = true := by kernel_rfl
theorem sh_strings_Lines_1_den (t0 t1 : Value) (H : Heap) (R : Value → Heap → Prop) : fdenF prg [3] Tryz.f89 [t0, t1] H R = sh_strings_Lines_1 t0 t1 H R := by kernel_rfl
theorem sh_strings_Lines_1_calls {t0 t1 : Value} {H : Heap} {R : Value → Heap → Prop} (h : sh_strings_Lines_1 t0 t1 H R) : HCalls prg f_strings_Lines_1 [t0, t1] H R :=
  calls_ofF Tryz.func89 sh_strings_Lines_1_chk (by rw [sh_strings_Lines_1_den]; exact h)

-- (*syngraph/manifest.Manifest).read$1
def sh_manifest_Manifest_read_1 (t0 t1 : Value) (H : Heap) (R : Value → Heap → Prop) : Prop :=
  Mpu (ld1 H t1) fun t5 =>
  Mpu (lenV t5) fun t6 =>
  Mpu (binV .no .lss t0 t6) fun t7 =>
  Mcd t7 (
    Mpu (ld1 H t1) fun t8 =>
    Mpu (ixS 1 t8 t0) fun t10 =>
    Mpu (ld1 H t10) fun t11 =>
    R t11 H) (
    R (.string ⟨#[]⟩) H)
theorem sh_manifest_Manifest_read_1_chk : fchkF prg [] Tryz.f90 2 = true := by kernel_rfl
theorem sh_manifest_Manifest_read_1_den (t0 t1 : Value) (H : Heap) (R : Value → Heap → Prop) : fdenF prg [] Tryz.f90 [t0, t1] H R = sh_manifest_Manifest_read_1 t0 t1 H R := by kernel_rfl
theorem sh_manifest_Manifest_read_1_calls {t0 t1 : Value} {H : Heap} {R : Value → Heap → Prop} (h : sh_manifest_Manifest_read_1 t0 t1 H R) : HCalls prg f_manifest_Manifest_read_1 [t0, t1] H R :=
  calls_ofF Tryz.func90 sh_manifest_Manifest_read_1_chk (by rw [sh_manifest_Manifest_read_1_den]; exact h)

-- syngraph/sha.Parse
def sh_sha_Parse (t0 : Value) (H : Heap) (R : Value → Heap → Prop) : Prop :=
  Mnew H T_sha_Hash (zcells prg T_sha_Hash) fun t2 h1 =>
  Mnew h1 T_sha_Hash (zcells prg T_sha_Hash) fun t4 h2 =>
  Mpu (lenT t0) fun t9 =>
  Mpu (binV .no .neq t9 (.int .i64 64)) fun t10 =>
  Mcd t10 (
    Mpu (buildV prg T_sha_Hash []) fun t11 =>
    Mwr (stN 32 h2 t2 t11) fun h3 =>
    Mpu (ldN 32 h3 t2) fun r4 =>
    R (.tuple #[r4, (.int .i64 10)]) h3) (
    J1 (fun k5 =>
      L1 (fun k7 => fun t12_2 h8 =>
        Mpu (binV .no .lss t12_2 (.int .i64 32)) fun t13 =>
        Mcd t13 (
          Mpu (binV .no .mul (.int .i64 2) t12_2) fun t17 =>
          Mpu (ixT t0 t17) fun t18 =>
          Mpu (binV .no .mul (.int .i64 2) t12_2) fun t22 =>
          Mpu (binV .no .add t22 (.int .i64 1)) fun t23 =>
          Mpu (ixT t0 t23) fun t24 =>
          Mcall prg f_sha_half [t18] h8 fun t19 h9 =>
          Mcall prg f_sha_half [t24] h9 fun t25 h10 =>
          Mpu (binV .no .lss t19 (.int .i64 0)) fun t27 =>
          J1 (fun k11 => Mif t27 false (
              Mpu (binV .no .lss t25 (.int .i64 0)) fun t30 =>
              k11 t30 h10) (
              k11 undef h10)) fun t30_2 h12 =>
          Mpu (pickV t27 (.bool true) t30_2) fun t31 =>
          Mcd t31 (
            Mpu (buildV prg T_sha_Hash []) fun t32 =>
            Mwr (stN 32 h12 t2 t32) fun h13 =>
            Mpu (ldN 32 h13 t2) fun r14 =>
            R (.tuple #[r14, (.int .i64 10)]) h13) (
            Mpu (binV .no .shl t19 (.int .u64 4)) fun t35 =>
            Mpu (binV .no .or t35 t25) fun t37 =>
            Mpu (cvI .u8 t37) fun t38 =>
            Mpu (ixA 32 1 t4 t12_2) fun t39 =>
            Mwr (st1 h12 t39 t38) fun h15 =>
            Mpu (binV .no .add t12_2 (.int .i64 1)) fun t40 =>
            k7 t40 h15)) (
          k5 t12_2 h8)) ((.int .i64 0)) h2) fun t12_4 h6 =>
    Mpu (ldN 32 h6 t4) fun t41 =>
    Mwr (stN 32 h6 t2 t41) fun h16 =>
    Mpu (ldN 32 h16 t2) fun r17 =>
    R (.tuple #[r17, (.int .i64 0)]) h16)
theorem sh_sha_Parse_chk : fchkF prg [12, 30] Tryz.f91 1 = true := by kernel_rfl
theorem sh_sha_Parse_den (t0 : Value) (H : Heap) (R : Value → Heap → Prop) : fdenF prg [12, 30] Tryz.f91 [t0] H R = sh_sha_Parse t0 H R := by kernel_rfl
theorem sh_sha_Parse_calls {t0 : Value} {H : Heap} {R : Value → Heap → Prop} (h : sh_sha_Parse t0 H R) : HCalls prg f_sha_Parse [t0] H R :=
  calls_ofF Tryz.func91 sh_sha_Parse_chk (by rw [sh_sha_Parse_den]; exact h)

-- internal/stringslite.TrimSuffix
def sh_internal_stringslite_TrimSuffix (t0 t1 : Value) (H : Heap) (R : Value → Heap → Prop) : Prop :=
  Mcall prg f_internal_stringslite_HasSuffix [t0, t1] H fun t7 h1 =>
  Mcd t7 (
    Mpu (lenT t0) fun t10 =>
    Mpu (lenT t1) fun t12 =>
    Mpu (binV .no .sub t10 t12) fun t13 =>
    Mpu (slT t0 none (some t13)) fun t14 =>
    R t14 h1) (
    R t0 h1)
theorem sh_internal_stringslite_TrimSuffix_chk : fchkF prg [] Tryz.f92 2 = true := by kernel_rfl
theorem sh_internal_stringslite_TrimSuffix_den (t0 t1 : Value) (H : Heap) (R : Value → Heap → Prop) : fdenF prg [] Tryz.f92 [t0, t1] H R = sh_internal_stringslite_TrimSuffix t0 t1 H R := by kernel_rfl
theorem sh_internal_stringslite_TrimSuffix_calls {t0 t1 : Value} {H : Heap} {R : Value → Heap → Prop} (h : sh_internal_stringslite_TrimSuffix t0 t1 H R) : HCalls prg f_internal_stringslite_TrimSuffix [t0, t1] H R :=
  calls_ofF Tryz.func92 sh_internal_stringslite_TrimSuffix_chk (by rw [sh_internal_stringslite_TrimSuffix_den]; exact h)

-- (syngraph/manifest.Manifest).deps
def sh_manifest_Manifest_deps (t0 t1 : Value) (H : Heap) (R : Value → Heap → Prop) : Prop :=
  Mnew H T_manifest_Manifest (some (Value.cells t0)) fun t2 h1 =>
  J1 (fun k2 =>
    Mpu (lenV t1) fun t8 =>
    L1 (fun k4 => fun t9_2 h5 =>
      Mpu (binV .no .lss t9_2 t8) fun t10 =>
      Mcd t10 (
        Mpu (ixS 6 t1 t9_2) fun t11 =>
        Mpu (ldN 6 h5 t11) fun t12 =>
        Mnew h5 T_manifest_Dep (zcells prg T_manifest_Dep) fun t6 h6 =>
        Mwr (stN 6 h6 t6 t12) fun h7 =>
        Mpu (fld 0 t6) fun t13 =>
        Mpu (ld1 h7 t13) fun t14 =>
        Mcall prg f_manifest_Name [t14] h7 fun t15 h8 =>
        Mpu (unV .not t15) fun t16 =>
        J1 (fun k9 => Mif t16 false (
            Mpu (fld 0 t6) fun t18 =>
            Mpu (ld1 h8 t18) fun t19 =>
            Mpu (fld 0 t2) fun t20 =>
            Mpu (ld1 h8 t20) fun t21 =>
            Mpu (binV .no .eql t19 t21) fun t22 =>
            k9 t22 h8) (
            k9 undef h8)) fun t22_2 h10 =>
        Mpu (pickV t16 (.bool true) t22_2) fun t23 =>
        J1 (fun k11 => Mif t23 false (
            Mpu (fld 1 t6) fun t25 =>
            Mpu (ldN 5 h10 t25) fun t26 =>
            Mcall prg f_version_Want_Right [t26] h10 fun t27 h12 =>
            Mpu (unV .not t27) fun t28 =>
            k11 t28 h12) (
            k11 undef h10)) fun t28_2 h13 =>
        Mpu (pickV t23 (.bool true) t28_2) fun t29 =>
        Mcd t29 (
          R (.bool false) h13) (
          Mpu (binV .no .add t9_2 (.int .i64 1)) fun t30 =>
          k4 t30 h13)) (
        k2 t9_2 h5)) ((.int .i64 0)) h1) fun t9_4 h3 =>
  Mpu (lenV t1) fun t32 =>
  Mpu (binV .no .leq t32 (.int .i64 16)) fun t33 =>
  J1 (fun k14 => Mif t33 true (
      Mcall prg f_manifest_rising_manifest_Dep [t1, (.func (.func f_manifest_Dep_name) #[] #[])] h3 fun t36 h15 =>
      k14 t36 h15) (
      k14 undef h3)) fun t36_2 h16 =>
  Mpu (pickV t33 t36_2 (.bool false)) fun t37 =>
  R t37 h16
theorem sh_manifest_Manifest_deps_chk : fchkF prg [9, 22, 28, 36] Tryz.f94 2 = true := by kernel_rfl
theorem sh_manifest_Manifest_deps_den (t0 t1 : Value) (H : Heap) (R : Value → Heap → Prop) : fdenF prg [9, 22, 28, 36] Tryz.f94 [t0, t1] H R = sh_manifest_Manifest_deps t0 t1 H R := by kernel_rfl
theorem sh_manifest_Manifest_deps_calls {t0 t1 : Value} {H : Heap} {R : Value → Heap → Prop} (h : sh_manifest_Manifest_deps t0 t1 H R) : HCalls prg f_manifest_Manifest_deps [t0, t1] H R :=
  calls_ofF Tryz.func94 sh_manifest_Manifest_deps_chk (by rw [sh_manifest_Manifest_deps_den]; exact h)

end Go.Proofs.YtconalffokhplaaGreatDoor
/- PRINTED: clean texts -/
namespace Go.Proofs.YtconalffokhplaaGreatDoor
open Go.X
set_option maxRecDepth 100000
-- (syngraph/manifest.Manifest).files
def sh_manifest_Manifest_files (t0 : Value) (H : Heap) (R : Value → Heap → Prop) : Prop :=
  Mnew H T_manifest_Manifest (some (Value.cells t0)) fun t1 h1 =>
  Mpu (fld 7 t1) fun t7 =>
  Mpu (ld1 h1 t7) fun t8 =>
  Mpu (lenV t8) fun t9 =>
  Mpu (binV .no .gtr t9 (.int .i64 64)) fun t10 =>
  J1 (fun k2 => Mif t10 false (
      Mpu (fld 7 t1) fun t12 =>
      Mpu (ld1 h1 t12) fun t13 =>
      Mcall prg f_manifest_rising_manifest_File [t13, (.func (.func f_manifest_File_name) #[] #[])] h1 fun t14 h3 =>
      Mpu (unV .not t14) fun t15 =>
      k2 t15 h3) (
      k2 undef h1)) fun t15_2 h4 =>
  Mpu (pickV t10 (.bool true) t15_2) fun t16 =>
  Mcd t16 (
    R (.bool false) h4) (
    J1 (fun k5 =>
      Mpu (fld 7 t1) fun t17 =>
      Mpu (ld1 h4 t17) fun t18 =>
      Mpu (lenV t18) fun t19 =>
      L1 (fun k7 => fun t20_2 h8 =>
        Mpu (binV .no .lss t20_2 t19) fun t21 =>
        Mcd t21 (
          J4 (fun k9 =>
            Mpu (ixS 34 t18 t20_2) fun t23 =>
            Mpu (ldN 34 h8 t23) fun t24 =>
            Mnew h8 T_manifest_File (zcells prg T_manifest_File) fun t4 h11 =>
            Mwr (stN 34 h11 t4 t24) fun h12 =>
            Mpu (fld 0 t4) fun t25 =>
            Mpu (ld1 h12 t25) fun t26 =>
            Mcall prg f_files_Name [t26] h12 fun t27 h13 =>
            Mpu (unV .not t27) fun t28 =>
            J1 (fun k14 => Mif t28 false (
                Mpu (fld 0 t4) fun t30 =>
                Mpu (ld1 h13 t30) fun t31 =>
                Mcall prg f_manifest_under [t31, (.string ⟨#[118, 97, 114]⟩)] h13 fun t32 h15 =>
                k14 t32 h15) (
                k14 undef h13)) fun t32_2 h16 =>
            Mpu (pickV t28 (.bool true) t32_2) fun t33 =>
            J1 (fun k17 => Mif t33 false (
                Mpu (fld 33 t4) fun t35 =>
                Mpu (ld1 h16 t35) fun t36 =>
                Mpu (binV .no .lss t36 (.int .i64 0)) fun t37 =>
                k17 t37 h16) (
                k17 undef h16)) fun t37_2 h18 =>
            Mpu (pickV t33 (.bool true) t37_2) fun t38 =>
            J1 (fun k19 => Mif t38 false (
                Mpu (fld 33 t4) fun t40 =>
                Mpu (ld1 h18 t40) fun t41 =>
                Mpu (binV .no .gtr t41 (.int .i64 1048576)) fun t42 =>
                k19 t42 h18) (
                k19 undef h18)) fun t42_2 h20 =>
            Mpu (pickV t38 (.bool true) t42_2) fun t43 =>
            Mcd t43 (
              R (.bool false) h20) (
              Mpu (fld 7 t1) fun t44 =>
              Mpu (ld1 h20 t44) fun t45 =>
              Mpu (lenV t45) fun t46 =>
              L1 (fun k21 => fun t47_2 h22 =>
                Mpu (binV .no .lss t47_2 t46) fun t48 =>
                Mcd t48 (
                  Mpu (ixS 34 t45 t47_2) fun t50 =>
                  Mpu (ldN 34 h22 t50) fun t51 =>
                  Mnew h22 T_manifest_File (zcells prg T_manifest_File) fun t6 h23 =>
                  Mwr (stN 34 h23 t6 t51) fun h24 =>
                  Mpu (binV .no .neq t20_2 t47_2) fun t54 =>
                  J1 (fun k25 => Mif t54 true (
                      Mpu (fld 0 t6) fun t56 =>
                      Mpu (ld1 h24 t56) fun t57 =>
                      Mpu (fld 0 t4) fun t58 =>
                      Mpu (ld1 h24 t58) fun t59 =>
                      Mcall prg f_manifest_under [t57, t59] h24 fun t60 h26 =>
                      k25 t60 h26) (
                      k25 undef h24)) fun t60_2 h27 =>
                  Mpu (pickV t54 t60_2 (.bool false)) fun t61 =>
                  Mcd t61 (
                    R (.bool false) h27) (
                    Mpu (binV .no .add t47_2 (.int .i64 1)) fun t62 =>
                    k21 t62 h27)) (
                  k9 t32_2 t37_2 t42_2 t47_2 h22)) ((.int .i64 0)) h20)) fun t32_3 t37_3 t42_3 t47_4 h10 =>
          Mpu (binV .no .add t20_2 (.int .i64 1)) fun t63 =>
          k7 t63 h10) (
          k5 t20_2 h8)) ((.int .i64 0)) h4) fun t20_4 h6 =>
    R (.bool true) h6)
theorem sh_manifest_Manifest_files_chk : fchkF prg [15, 20, 32, 37, 42, 47, 60] Tryz.f95 1 = true := by kernel_rfl
theorem sh_manifest_Manifest_files_den (t0 : Value) (H : Heap) (R : Value → Heap → Prop) : fdenF prg [15, 20, 32, 37, 42, 47, 60] Tryz.f95 [t0] H R = sh_manifest_Manifest_files t0 H R := by kernel_rfl
theorem sh_manifest_Manifest_files_calls {t0 : Value} {H : Heap} {R : Value → Heap → Prop} (h : sh_manifest_Manifest_files t0 H R) : HCalls prg f_manifest_Manifest_files [t0] H R :=
  calls_ofF Tryz.func95 sh_manifest_Manifest_files_chk (by rw [sh_manifest_Manifest_files_den]; exact h)

-- internal/stringslite.HasSuffix
def sh_internal_stringslite_HasSuffix (t0 t1 : Value) (H : Heap) (R : Value → Heap → Prop) : Prop :=
  Mpu (lenT t0) fun t6 =>
  Mpu (lenT t1) fun t8 =>
  Mpu (binV .no .geq t6 t8) fun t9 =>
  J1 (fun k1 => Mif t9 true (
      Mpu (lenT t0) fun t13 =>
      Mpu (lenT t1) fun t15 =>
      Mpu (binV .no .sub t13 t15) fun t16 =>
      Mpu (slT t0 (some t16) none) fun t17 =>
      Mpu (binV .no .eql t17 t1) fun t19 =>
      k1 t19 H) (
      k1 undef H)) fun t19_2 h2 =>
  Mpu (pickV t9 t19_2 (.bool false)) fun t20 =>
  R t20 h2
theorem sh_internal_stringslite_HasSuffix_chk : fchkF prg [19] Tryz.f116 2 = true := by kernel_rfl
theorem sh_internal_stringslite_HasSuffix_den (t0 t1 : Value) (H : Heap) (R : Value → Heap → Prop) : fdenF prg [19] Tryz.f116 [t0, t1] H R = sh_internal_stringslite_HasSuffix t0 t1 H R := by kernel_rfl
theorem sh_internal_stringslite_HasSuffix_calls {t0 t1 : Value} {H : Heap} {R : Value → Heap → Prop} (h : sh_internal_stringslite_HasSuffix t0 t1 H R) : HCalls prg f_internal_stringslite_HasSuffix [t0, t1] H R :=
  calls_ofF Tryz.func116 sh_internal_stringslite_HasSuffix_chk (by rw [sh_internal_stringslite_HasSuffix_den]; exact h)

-- syngraph/manifest.rising[syngraph/manifest.Dep]
def sh_manifest_rising_manifest_Dep (t0 t1 : Value) (H : Heap) (R : Value → Heap → Prop) : Prop :=
  J1 (fun k1 =>
    L1 (fun k3 => fun t5_2 h4 =>
      Mpu (lenV t0) fun t8 =>
      Mpu (binV .no .lss t5_2 t8) fun t9 =>
      Mcd t9 (
        Mpu (binV .no .sub t5_2 (.int .i64 1)) fun t15 =>
        Mpu (ixS 6 t0 t15) fun t16 =>
        Mpu (ldN 6 h4 t16) fun t17 =>
        Mpu (ixS 6 t0 t5_2) fun t22 =>
        Mpu (ldN 6 h4 t22) fun t23 =>
        Mcallv prg t1 [t17] h4 fun t18 h5 =>
        Mre [(ldN 6 h5 t22, t23)] (
        Mcallv prg t1 [t23] h5 fun t24 h6 =>
        Mpu (binV .no .geq t18 t24) fun t25 =>
        Mcd t25 (
          R (.bool false) h6) (
          Mpu (binV .no .add t5_2 (.int .i64 1)) fun t11 =>
          k3 t11 h6))) (
        k1 t5_2 h4)) ((.int .i64 1)) H) fun t5_4 h2 =>
  R (.bool true) h2
theorem sh_manifest_rising_manifest_Dep_chk : fchkF prg [5] Tryz.f117 2 = true := by kernel_rfl
theorem sh_manifest_rising_manifest_Dep_den (t0 t1 : Value) (H : Heap) (R : Value → Heap → Prop) : fdenF prg [5] Tryz.f117 [t0, t1] H R = sh_manifest_rising_manifest_Dep t0 t1 H R := by kernel_rfl
theorem sh_manifest_rising_manifest_Dep_calls {t0 t1 : Value} {H : Heap} {R : Value → Heap → Prop} (h : sh_manifest_rising_manifest_Dep t0 t1 H R) : HCalls prg f_manifest_rising_manifest_Dep [t0, t1] H R :=
  calls_ofF Tryz.func117 sh_manifest_rising_manifest_Dep_chk (by rw [sh_manifest_rising_manifest_Dep_den]; exact h)

-- (syngraph/manifest.Dep).name
def sh_manifest_Dep_name (t0 : Value) (H : Heap) (R : Value → Heap → Prop) : Prop :=
  Mnew H T_manifest_Dep (some (Value.cells t0)) fun t1 h1 =>
  Mpu (fld 0 t1) fun t3 =>
  Mpu (ld1 h1 t3) fun t4 =>
  R t4 h1
theorem sh_manifest_Dep_name_chk : fchkF prg [] Tryz.f118 1 = true := by kernel_rfl
theorem sh_manifest_Dep_name_den (t0 : Value) (H : Heap) (R : Value → Heap → Prop) : fdenF prg [] Tryz.f118 [t0] H R = sh_manifest_Dep_name t0 H R := by kernel_rfl
theorem sh_manifest_Dep_name_calls {t0 : Value} {H : Heap} {R : Value → Heap → Prop} (h : sh_manifest_Dep_name t0 H R) : HCalls prg f_manifest_Dep_name [t0] H R :=
  calls_ofF Tryz.func118 sh_manifest_Dep_name_chk (by rw [sh_manifest_Dep_name_den]; exact h)

-- syngraph/manifest.rising[syngraph/manifest.File]
def sh_manifest_rising_manifest_File (t0 t1 : Value) (H : Heap) (R : Value → Heap → Prop) : Prop :=
  J1 (fun k1 =>
    L1 (fun k3 => fun t5_2 h4 =>
      Mpu (lenV t0) fun t8 =>
      Mpu (binV .no .lss t5_2 t8) fun t9 =>
      Mcd t9 (
        Mpu (binV .no .sub t5_2 (.int .i64 1)) fun t15 =>
        Mpu (ixS 34 t0 t15) fun t16 =>
        Mpu (ldN 34 h4 t16) fun t17 =>
        Mpu (ixS 34 t0 t5_2) fun t22 =>
        Mpu (ldN 34 h4 t22) fun t23 =>
        Mcallv prg t1 [t17] h4 fun t18 h5 =>
        Mre [(ldN 34 h5 t22, t23)] (
        Mcallv prg t1 [t23] h5 fun t24 h6 =>
        Mpu (binV .no .geq t18 t24) fun t25 =>
        Mcd t25 (
          R (.bool false) h6) (
          Mpu (binV .no .add t5_2 (.int .i64 1)) fun t11 =>
          k3 t11 h6))) (
        k1 t5_2 h4)) ((.int .i64 1)) H) fun t5_4 h2 =>
  R (.bool true) h2
theorem sh_manifest_rising_manifest_File_chk : fchkF prg [5] Tryz.f119 2 = true := by kernel_rfl
theorem sh_manifest_rising_manifest_File_den (t0 t1 : Value) (H : Heap) (R : Value → Heap → Prop) : fdenF prg [5] Tryz.f119 [t0, t1] H R = sh_manifest_rising_manifest_File t0 t1 H R := by kernel_rfl
theorem sh_manifest_rising_manifest_File_calls {t0 t1 : Value} {H : Heap} {R : Value → Heap → Prop} (h : sh_manifest_rising_manifest_File t0 t1 H R) : HCalls prg f_manifest_rising_manifest_File [t0, t1] H R :=
  calls_ofF Tryz.func119 sh_manifest_rising_manifest_File_chk (by rw [sh_manifest_rising_manifest_File_den]; exact h)

-- (syngraph/manifest.File).name
def sh_manifest_File_name (t0 : Value) (H : Heap) (R : Value → Heap → Prop) : Prop :=
  Mnew H T_manifest_File (some (Value.cells t0)) fun t1 h1 =>
  Mpu (fld 0 t1) fun t3 =>
  Mpu (ld1 h1 t3) fun t4 =>
  R t4 h1
theorem sh_manifest_File_name_chk : fchkF prg [] Tryz.f120 1 = true := by kernel_rfl
theorem sh_manifest_File_name_den (t0 : Value) (H : Heap) (R : Value → Heap → Prop) : fdenF prg [] Tryz.f120 [t0] H R = sh_manifest_File_name t0 H R := by kernel_rfl
theorem sh_manifest_File_name_calls {t0 : Value} {H : Heap} {R : Value → Heap → Prop} (h : sh_manifest_File_name t0 H R) : HCalls prg f_manifest_File_name [t0] H R :=
  calls_ofF Tryz.func120 sh_manifest_File_name_chk (by rw [sh_manifest_File_name_den]; exact h)

-- syngraph/files.Name
def sh_files_Name (t0 : Value) (H : Heap) (R : Value → Heap → Prop) : Prop :=
  Mnew H T_bool (zcells prg T_bool) fun t2 h1 =>
  Mpu (binV .no .eql t0 (.string ⟨#[]⟩)) fun t5 =>
  J1 (fun k2 => Mif t5 false (
      Mpu (lenT t0) fun t8 =>
      Mpu (binV .no .gtr t8 (.int .i64 64)) fun t9 =>
      k2 t9 h1) (
      k2 undef h1)) fun t9_2 h3 =>
  Mpu (pickV t5 (.bool true) t9_2) fun t10 =>
  Mcd t10 (
    Mwr (st1 h3 t2 (.bool false)) fun h4 =>
    Mcl H.size h4 fun h5 =>
    Mpu (ld1 h5 t2) fun r6 =>
    R r6 h5) (
    Mcall prg f_strings_SplitSeq [t0, (.string ⟨#[47]⟩)] h3 fun t12 h7 =>
    Mrange prg H.size t12 h7 (fun a8 h9 k10 => a8.length = 1 ∧ (
        Mbeg (h7.size + 1) h9 fun h13 =>
        Mpu (binV .no .eql (a8.getD 0 undef) (.string ⟨#[]⟩)) fun t15 =>
        J1 (fun k14 => Mif t15 false (
            Mpu (binV .no .eql (a8.getD 0 undef) (.string ⟨#[46]⟩)) fun t18 =>
            k14 t18 h13) (
            k14 undef h13)) fun t18_2 h15 =>
        Mpu (pickV t15 (.bool true) t18_2) fun t19 =>
        J1 (fun k16 => Mif t19 false (
            Mpu (binV .no .eql (a8.getD 0 undef) (.string ⟨#[46, 46]⟩)) fun t22 =>
            k16 t22 h15) (
            k16 undef h15)) fun t22_2 h17 =>
        Mpu (pickV t19 (.bool true) t22_2) fun t23 =>
        J1 (fun k18 => Mif t23 false (
            Mcall prg f_strings_Trim [(a8.getD 0 undef), (.string ⟨#[97, 98, 99, 100, 101, 102, 103, 104, 105, 106, 107, 108, 109, 110, 111, 112, 113, 114, 115, 116, 117, 118, 119, 120, 121, 122, 48, 49, 50, 51, 52, 53, 54, 55, 56, 57, 46, 95, 45]⟩)] h17 fun t26 h19 =>
            Mpu (binV .no .neq t26 (.string ⟨#[]⟩)) fun t27 =>
            k18 t27 h19) (
            k18 undef h17)) fun t27_2 h20 =>
        Mpu (pickV t23 (.bool true) t27_2) fun t28 =>
        Mcd t28 (
          Mwr (st1 h20 t2 (.bool false)) fun h21 =>
          k10 (some Code.ret) h21) (
          k10 none h20))) fun j11 h12 =>
      (j11 = none ∧ (
        Mwr (st1 h12 t2 (.bool true)) fun h22 =>
        Mcl H.size h22 fun h23 =>
        Mpu (ld1 h23 t2) fun r24 =>
        R r24 h23)) ∨
      (j11 = some Code.ret ∧ (
        Mcl H.size h12 fun h25 =>
        Mpu (ld1 h25 t2) fun r26 =>
        R r26 h25)))
theorem sh_files_Name_chk : fchkF prg [9, 18, 22, 27] Tryz.f121 1 = true := by kernel_rfl
theorem sh_files_Name_den (t0 : Value) (H : Heap) (R : Value → Heap → Prop) : fdenF prg [9, 18, 22, 27] Tryz.f121 [t0] H R = sh_files_Name t0 H R := by kernel_rfl
theorem sh_files_Name_calls {t0 : Value} {H : Heap} {R : Value → Heap → Prop} (h : sh_files_Name t0 H R) : HCalls prg f_files_Name [t0] H R :=
  calls_ofF Tryz.func121 sh_files_Name_chk (by rw [sh_files_Name_den]; exact h)

end Go.Proofs.YtconalffokhplaaGreatDoor
/- PRINTED: clean texts -/
namespace Go.Proofs.YtconalffokhplaaGreatDoor
open Go.X
set_option maxRecDepth 100000
-- syngraph/manifest.under
def sh_manifest_under (t0 t1 : Value) (H : Heap) (R : Value → Heap → Prop) : Prop :=
  Mpu (binV .no .eql t0 t1) fun t7 =>
  J1 (fun k1 => Mif t7 false (
      Mpu (binV .no .add t1 (.string ⟨#[47]⟩)) fun t11 =>
      Mcall prg f_strings_HasPrefix [t0, t11] H fun t12 h2 =>
      k1 t12 h2) (
      k1 undef H)) fun t12_2 h3 =>
  Mpu (pickV t7 (.bool true) t12_2) fun t13 =>
  R t13 h3
theorem sh_manifest_under_chk : fchkF prg [12] Tryz.f122 2 = true := by kernel_rfl
theorem sh_manifest_under_den (t0 t1 : Value) (H : Heap) (R : Value → Heap → Prop) : fdenF prg [12] Tryz.f122 [t0, t1] H R = sh_manifest_under t0 t1 H R := by kernel_rfl
theorem sh_manifest_under_calls {t0 t1 : Value} {H : Heap} {R : Value → Heap → Prop} (h : sh_manifest_under t0 t1 H R) : HCalls prg f_manifest_under [t0, t1] H R :=
  calls_ofF Tryz.func122 sh_manifest_under_chk (by rw [sh_manifest_under_den]; exact h)

-- bytes.IndexByte
def sh_bytes_IndexByte (t0 t1 : Value) (H : Heap) (R : Value → Heap → Prop) : Prop :=
  Msem prg (xtV prg f_internal_bytealg_IndexByte #[t0, t1]) H fun t7 h1 =>
  R t7 h1
theorem sh_bytes_IndexByte_chk : fchkF prg [] Tryz.f136 2 = true := by kernel_rfl
theorem sh_bytes_IndexByte_den (t0 t1 : Value) (H : Heap) (R : Value → Heap → Prop) : fdenF prg [] Tryz.f136 [t0, t1] H R = sh_bytes_IndexByte t0 t1 H R := by kernel_rfl
theorem sh_bytes_IndexByte_calls {t0 t1 : Value} {H : Heap} {R : Value → Heap → Prop} (h : sh_bytes_IndexByte t0 t1 H R) : HCalls prg f_bytes_IndexByte [t0, t1] H R :=
  calls_ofF Tryz.func136 sh_bytes_IndexByte_chk (by rw [sh_bytes_IndexByte_den]; exact h)

-- strings.HasPrefix
def sh_strings_HasPrefix (t0 t1 : Value) (H : Heap) (R : Value → Heap → Prop) : Prop :=
  Mcall prg f_internal_stringslite_HasPrefix [t0, t1] H fun t7 h1 =>
  R t7 h1
theorem sh_strings_HasPrefix_chk : fchkF prg [] Tryz.f137 2 = true := by kernel_rfl
theorem sh_strings_HasPrefix_den (t0 t1 : Value) (H : Heap) (R : Value → Heap → Prop) : fdenF prg [] Tryz.f137 [t0, t1] H R = sh_strings_HasPrefix t0 t1 H R := by kernel_rfl
theorem sh_strings_HasPrefix_calls {t0 t1 : Value} {H : Heap} {R : Value → Heap → Prop} (h : sh_strings_HasPrefix t0 t1 H R) : HCalls prg f_strings_HasPrefix [t0, t1] H R :=
  calls_ofF Tryz.func137 sh_strings_HasPrefix_chk (by rw [sh_strings_HasPrefix_den]; exact h)

end Go.Proofs.YtconalffokhplaaGreatDoor
/- ALL CLEAN TEXTS -/
