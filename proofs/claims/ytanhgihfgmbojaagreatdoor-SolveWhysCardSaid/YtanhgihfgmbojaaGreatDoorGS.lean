/- JOINED: Sd0 Sd1 Sd2 Sd3 Sd4 -/
import Derived.Test.YtanhgihfgmbojaaGreatDoorGE
set_option linter.unusedSimpArgs false
set_option linter.unusedVariables false
/- PRINTED: clean texts -/
namespace Go.Proofs.YtanhgihfgmbojaaGreatDoor
open Go.X
set_option maxRecDepth 100000
-- syngraph/syngraphref18.Less
-- (syngraph/version.Version).Cmp
def sh_version_Version_Cmp (t0 t1 : Value) (H : Heap) (R : Value → Heap → Prop) : Prop :=
  Mnew H T_version_Version (some (Value.cells t0)) fun t2 h1 =>
  Mnew h1 T_version_Version (some (Value.cells t1)) fun t3 h2 =>
  Mpu (fld 0 t2) fun t6 =>
  Mpu (slA 3 1 t6 none none none) fun t7 =>
  Mpu (fld 0 t3) fun t8 =>
  Mpu (slA 3 1 t8 none none none) fun t9 =>
  Mcall prg f_slices_Compare_S_int_int [t7, t9] h2 fun t10 h3 =>
  Mpu (binV .no .neq t10 (.int .i64 0)) fun t12 =>
  Mcd t12 (
    R t10 h3) (
    Mpu (fld 3 t2) fun t14 =>
    Mpu (ld1 h3 t14) fun t15 =>
    Mpu (binV .no .eql t15 (.string ⟨#[]⟩)) fun t16 =>
    Mpu (fld 3 t3) fun t17 =>
    Mpu (ld1 h3 t17) fun t18 =>
    Mpu (binV .no .eql t18 (.string ⟨#[]⟩)) fun t19 =>
    Mpu (binV .bool .neq t16 t19) fun t20 =>
    Mcd t20 (
      Mpu (fld 3 t3) fun t21 =>
      Mpu (ld1 h3 t21) fun t22 =>
      Mpu (fld 3 t2) fun t23 =>
      Mpu (ld1 h3 t23) fun t24 =>
      Mcall prg f_strings_Compare [t22, t24] h3 fun t25 h4 =>
      R t25 h4) (
      Mpu (fld 3 t2) fun t26 =>
      Mpu (ld1 h3 t26) fun t27 =>
      Mpu (fld 3 t3) fun t28 =>
      Mpu (ld1 h3 t28) fun t29 =>
      Mcall prg f_strings_Compare [t27, t29] h3 fun t30 h5 =>
      R t30 h5))
theorem sh_version_Version_Cmp_chk : fchkF prg [] Tryz.f57 2 = true := by kernel_rfl
theorem sh_version_Version_Cmp_den (t0 t1 : Value) (H : Heap) (R : Value → Heap → Prop) : fdenF prg [] Tryz.f57 [t0, t1] H R = sh_version_Version_Cmp t0 t1 H R := by kernel_rfl
theorem sh_version_Version_Cmp_calls {t0 t1 : Value} {H : Heap} {R : Value → Heap → Prop} (h : sh_version_Version_Cmp t0 t1 H R) : HCalls prg f_version_Version_Cmp [t0, t1] H R :=
  calls_ofF Tryz.func57 sh_version_Version_Cmp_chk (by rw [sh_version_Version_Cmp_den]; exact h)

-- syngraph/version.Parse
def sh_version_Parse (t0 : Value) (H : Heap) (R : Value → Heap → Prop) : Prop :=
  Mnew H T_version_Version (zcells prg T_version_Version) fun t2 h1 =>
  Mnew h1 T_api_Errno (zcells prg T_api_Errno) fun t3 h2 =>
  Mnew h2 T_version_Version (zcells prg T_version_Version) fun t4 h3 =>
  Mcall prg f_strings_Cut [t0, (.string ⟨#[45]⟩)] h3 fun t12 h4 =>
  Mpu (extV 0 t12) fun t13 =>
  Mpu (extV 1 t12) fun t14 =>
  Mpu (extV 2 t12) fun t15 =>
  Mpu (fld 3 t4) fun t17 =>
  Mwr (st1 h4 t17 t14) fun h5 =>
  Mnew h5 T_int (zcells prg T_int) fun t8 h6 =>
  Mwr (st1 h6 t8 (.int .i64 0)) fun h7 =>
  Mcall prg f_strings_SplitSeq [t13, (.string ⟨#[46]⟩)] h7 fun t19 h8 =>
  Mrange prg H.size t19 h8 (fun a9 h10 k11 => a9.length = 1 ∧ (
      Mbeg (h8.size + 1) h10 fun h14 =>
      Mpu (ld1 h14 t8) fun t21 =>
      Mpu (binV .no .eql t21 (.int .i64 3)) fun t22 =>
      Mcd t22 (
        Mpu (buildV prg T_version_Version []) fun t23 =>
        Mwr (stN 4 h14 t2 t23) fun h15 =>
        Mwr (st1 h15 t3 (.int .i64 10)) fun h16 =>
        k11 (some Code.ret) h16) (
        Mpu (ld1 h14 t8) fun t25 =>
        Mpu (fld 0 t4) fun t30 =>
        Mcall prg f_strconv_Atoi [(a9.getD 0 undef)] h14 fun t27 h17 =>
        Mre [(ld1 h17 t8, t25)] (
        Mpu (extV 0 t27) fun t28 =>
        Mpu (extV 1 t27) fun t29 =>
        Mpu (ixA 3 1 t30 t25) fun t31 =>
        Mwr (st1 h17 t31 t28) fun h18 =>
        Mpu (ld1 h18 t8) fun t32 =>
        Mpu (binV .no .add t32 (.int .i64 1)) fun t33 =>
        Mwr (st1 h18 t8 t33) fun h19 =>
        k11 none h19)))) fun j12 h13 =>
    (j12 = none ∧ (
      Mpu (binV .no .eql t0 (.string ⟨#[]⟩)) fun t35 =>
      J1 (fun k20 => Mif t35 false (
          Mpu (ldN 4 h13 t4) fun t37 =>
          Mcall prg f_version_Version_Show [t37] h13 fun t38 h21 =>
          Mpu (binV .no .neq t38 t0) fun t40 =>
          k20 t40 h21) (
          k20 undef h13)) fun t40_2 h22 =>
      Mpu (pickV t35 (.bool true) t40_2) fun t41 =>
      Mcd t41 (
        Mpu (buildV prg T_version_Version []) fun t42 =>
        Mwr (stN 4 h22 t2 t42) fun h23 =>
        Mwr (st1 h23 t3 (.int .i64 10)) fun h24 =>
        Mcl H.size h24 fun h25 =>
        Mpu (ldN 4 h25 t2) fun r26 =>
        Mpu (ld1 h25 t3) fun r27 =>
        R (.tuple #[r26, r27]) h25) (
        Mpu (ldN 4 h22 t4) fun t43 =>
        Mwr (stN 4 h22 t2 t43) fun h28 =>
        Mwr (st1 h28 t3 (.int .i64 0)) fun h29 =>
        Mcl H.size h29 fun h30 =>
        Mpu (ldN 4 h30 t2) fun r31 =>
        Mpu (ld1 h30 t3) fun r32 =>
        R (.tuple #[r31, r32]) h30))) ∨
    (j12 = some Code.ret ∧ (
      Mcl H.size h13 fun h33 =>
      Mpu (ldN 4 h33 t2) fun r34 =>
      Mpu (ld1 h33 t3) fun r35 =>
      R (.tuple #[r34, r35]) h33))
theorem sh_version_Parse_chk : fchkF prg [40] Tryz.f51 1 = true := by kernel_rfl
theorem sh_version_Parse_den (t0 : Value) (H : Heap) (R : Value → Heap → Prop) : fdenF prg [40] Tryz.f51 [t0] H R = sh_version_Parse t0 H R := by kernel_rfl
theorem sh_version_Parse_calls {t0 : Value} {H : Heap} {R : Value → Heap → Prop} (h : sh_version_Parse t0 H R) : HCalls prg f_version_Parse [t0] H R :=
  calls_ofF Tryz.func51 sh_version_Parse_chk (by rw [sh_version_Parse_den]; exact h)

end Go.Proofs.YtanhgihfgmbojaaGreatDoor

/- PRINTED: clean texts -/
namespace Go.Proofs.YtanhgihfgmbojaaGreatDoor
open Go.X
set_option maxRecDepth 100000
-- syngraph/version.ParseWant
def sh_version_ParseWant (t0 : Value) (H : Heap) (R : Value → Heap → Prop) : Prop :=
  Mnew H T_version_Want (zcells prg T_version_Want) fun t2 h1 =>
  J1 (fun k2 =>
    Mpu (ldN 8 h1 (.pointer (some ⟨g_version_ops, 0, none⟩))) fun t9 =>
    L1 (fun k4 => fun t10_2 h5 =>
      Mpu (binV .no .lss t10_2 (.int .i64 8)) fun t11 =>
      Mcd t11 (
        Mpu (ixV 8 false 1 t9 t10_2) fun t12 =>
        Mcall prg f_strings_CutPrefix [t0, t12] h5 fun t16 h6 =>
        Mpu (extV 0 t16) fun t17 =>
        Mpu (extV 1 t16) fun t18 =>
        Mpu (unV .not t18) fun t20 =>
        Mcd t20 (
          Mpu (binV .no .add t10_2 (.int .i64 1)) fun t36 =>
          k4 t36 h6) (
          Mpu (buildV prg T_version_Want [(0, t12)]) fun t22 =>
          Mnew h6 T_version_Want (zcells prg T_version_Want) fun t8 h7 =>
          Mwr (stN 5 h7 t8 t22) fun h8 =>
          J0 (fun k9 =>
            Mpu (binV .no .neq t12 (.string ⟨#[42]⟩)) fun t24 =>
            Mcd t24 (
              Mcall prg f_version_Parse [t17] h8 fun t27 h11 =>
              Mpu (extV 0 t27) fun t28 =>
              Mpu (extV 1 t27) fun t29 =>
              Mpu (fld 1 t8) fun t30 =>
              Mwr (stN 4 h11 t30 t28) fun h12 =>
              k9 h12) (
              k9 h8)) fun h10 =>
          Mpu (ldN 5 h10 t8) fun t31 =>
          Mcall prg f_version_Want_Show [t31] h10 fun t32 h13 =>
          Mpu (binV .no .eql t32 t0) fun t34 =>
          Mcd t34 (
            Mpu (ldN 5 h13 t8) fun t35 =>
            Mwr (stN 5 h13 t2 t35) fun h14 =>
            Mpu (ldN 5 h14 t2) fun r15 =>
            R (.tuple #[r15, (.int .i64 0)]) h14) (
            k2 t10_2 h13))) (
        k2 t10_2 h5)) ((.int .i64 0)) h1) fun t10_4 h3 =>
  Mpu (buildV prg T_version_Want []) fun t37 =>
  Mwr (stN 5 h3 t2 t37) fun h16 =>
  Mpu (ldN 5 h16 t2) fun r17 =>
  R (.tuple #[r17, (.int .i64 10)]) h16
theorem sh_version_ParseWant_chk : fchkF prg [10] Tryz.f52 1 = true := by kernel_rfl
theorem sh_version_ParseWant_den (t0 : Value) (H : Heap) (R : Value → Heap → Prop) : fdenF prg [10] Tryz.f52 [t0] H R = sh_version_ParseWant t0 H R := by kernel_rfl
theorem sh_version_ParseWant_calls {t0 : Value} {H : Heap} {R : Value → Heap → Prop} (h : sh_version_ParseWant t0 H R) : HCalls prg f_version_ParseWant [t0] H R :=
  calls_ofF Tryz.func52 sh_version_ParseWant_chk (by rw [sh_version_ParseWant_den]; exact h)

-- (syngraph/version.Want).Right
def sh_version_Want_Right (t0 : Value) (H : Heap) (R : Value → Heap → Prop) : Prop :=
  Mnew H T_version_Want (some (Value.cells t0)) fun t1 h1 =>
  Mpu (fld 0 t1) fun t3 =>
  Mpu (ld1 h1 t3) fun t4 =>
  Mpu (binV .no .eql t4 (.string ⟨#[42]⟩)) fun t5 =>
  Mcd t5 (
    Mpu (fld 1 t1) fun t6 =>
    Mpu (ldN 4 h1 t6) fun t7 =>
    Mpu (buildV prg T_version_Version []) fun t8 =>
    Mpu (binV (eqK prg T_version_Version) .eql t7 t8) fun t9 =>
    R t9 h1) (
    Mpu (slA 8 1 (.pointer (some ⟨g_version_ops, 0, none⟩)) none none none) fun t10 =>
    Mpu (fld 0 t1) fun t11 =>
    Mpu (ld1 h1 t11) fun t12 =>
    Mcall prg f_slices_Contains_S_string_string [t10, t12] h1 fun t13 h2 =>
    J1 (fun k3 => Mif t13 true (
        Mpu (fld 1 t1) fun t15 =>
        Mpu (ldN 4 h2 t15) fun t16 =>
        Mcall prg f_version_Version_Right [t16] h2 fun t17 h4 =>
        k3 t17 h4) (
        k3 undef h2)) fun t17_2 h5 =>
    Mpu (pickV t13 t17_2 (.bool false)) fun t18 =>
    R t18 h5)
theorem sh_version_Want_Right_chk : fchkF prg [17] Tryz.f37 1 = true := by kernel_rfl
theorem sh_version_Want_Right_den (t0 : Value) (H : Heap) (R : Value → Heap → Prop) : fdenF prg [17] Tryz.f37 [t0] H R = sh_version_Want_Right t0 H R := by kernel_rfl
theorem sh_version_Want_Right_calls {t0 : Value} {H : Heap} {R : Value → Heap → Prop} (h : sh_version_Want_Right t0 H R) : HCalls prg f_version_Want_Right [t0] H R :=
  calls_ofF Tryz.func37 sh_version_Want_Right_chk (by rw [sh_version_Want_Right_den]; exact h)

-- (syngraph/version.Want).Show
def sh_version_Want_Show (t0 : Value) (H : Heap) (R : Value → Heap → Prop) : Prop :=
  Mnew H T_version_Want (some (Value.cells t0)) fun t1 h1 =>
  Mpu (ldN 5 h1 t1) fun t4 =>
  Mcall prg f_version_Want_Right [t4] h1 fun t5 h2 =>
  Mpu (unV .not t5) fun t6 =>
  Mcd t6 (
    R (.string ⟨#[]⟩) h2) (
    Mpu (fld 0 t1) fun t8 =>
    Mpu (ld1 h2 t8) fun t9 =>
    Mpu (binV .no .eql t9 (.string ⟨#[42]⟩)) fun t10 =>
    Mcd t10 (
      R (.string ⟨#[42]⟩) h2) (
      Mpu (fld 0 t1) fun t11 =>
      Mpu (ld1 h2 t11) fun t12 =>
      Mpu (fld 1 t1) fun t13 =>
      Mpu (ldN 4 h2 t13) fun t14 =>
      Mcall prg f_version_Version_Show [t14] h2 fun t15 h3 =>
      Mre [(ld1 h3 t11, t12)] (
      Mpu (binV .no .add t12 t15) fun t16 =>
      R t16 h3)))
theorem sh_version_Want_Show_chk : fchkF prg [] Tryz.f86 1 = true := by kernel_rfl
theorem sh_version_Want_Show_den (t0 : Value) (H : Heap) (R : Value → Heap → Prop) : fdenF prg [] Tryz.f86 [t0] H R = sh_version_Want_Show t0 H R := by kernel_rfl
theorem sh_version_Want_Show_calls {t0 : Value} {H : Heap} {R : Value → Heap → Prop} (h : sh_version_Want_Show t0 H R) : HCalls prg f_version_Want_Show [t0] H R :=
  calls_ofF Tryz.func86 sh_version_Want_Show_chk (by rw [sh_version_Want_Show_den]; exact h)

-- (syngraph/version.Want).Fits
def sh_version_Want_Fits (t0 t1 : Value) (H : Heap) (R : Value → Heap → Prop) : Prop :=
  Mnew H T_version_Want (some (Value.cells t0)) fun t2 h1 =>
  Mnew h1 T_version_Version (some (Value.cells t1)) fun t3 h2 =>
  Mpu (ldN 5 h2 t2) fun t6 =>
  Mcall prg f_version_Want_Right [t6] h2 fun t7 h3 =>
  Mpu (unV .not t7) fun t8 =>
  J1 (fun k4 => Mif t8 false (
      Mpu (ldN 4 h3 t3) fun t10 =>
      Mcall prg f_version_Version_Right [t10] h3 fun t11 h5 =>
      Mpu (unV .not t11) fun t12 =>
      k4 t12 h5) (
      k4 undef h3)) fun t12_2 h6 =>
  Mpu (pickV t8 (.bool true) t12_2) fun t13 =>
  Mcd t13 (
    R (.bool false) h6) (
    Mpu (ldN 4 h6 t3) fun t14 =>
    Mpu (fld 1 t2) fun t15 =>
    Mpu (ldN 4 h6 t15) fun t16 =>
    Mcall prg f_version_Version_Cmp [t14, t16] h6 fun t17 h7 =>
    Mpu (fld 0 t2) fun t18 =>
    Mpu (ld1 h7 t18) fun t19 =>
    Mpu (binV .no .eql t19 (.string ⟨#[61]⟩)) fun t21 =>
    Mcd t21 (
      Mpu (binV .no .eql t17 (.int .i64 0)) fun t23 =>
      R t23 h7) (
      Mpu (binV .no .eql t19 (.string ⟨#[33, 61]⟩)) fun t25 =>
      Mcd t25 (
        Mpu (binV .no .neq t17 (.int .i64 0)) fun t27 =>
        R t27 h7) (
        Mpu (binV .no .eql t19 (.string ⟨#[60]⟩)) fun t29 =>
        Mcd t29 (
          Mpu (binV .no .lss t17 (.int .i64 0)) fun t31 =>
          R t31 h7) (
          Mpu (binV .no .eql t19 (.string ⟨#[60, 61]⟩)) fun t33 =>
          Mcd t33 (
            Mpu (binV .no .leq t17 (.int .i64 0)) fun t35 =>
            R t35 h7) (
            Mpu (binV .no .eql t19 (.string ⟨#[62]⟩)) fun t37 =>
            Mcd t37 (
              Mpu (binV .no .gtr t17 (.int .i64 0)) fun t39 =>
              R t39 h7) (
              Mpu (binV .no .eql t19 (.string ⟨#[62, 61]⟩)) fun t41 =>
              Mcd t41 (
                Mpu (binV .no .geq t17 (.int .i64 0)) fun t43 =>
                R t43 h7) (
                Mpu (binV .no .eql t19 (.string ⟨#[94]⟩)) fun t45 =>
                Mcd t45 (
                  Mpu (binV .no .geq t17 (.int .i64 0)) fun t47 =>
                  J1 (fun k8 => Mif t47 true (
                      Mpu (fld 1 t2) fun t49 =>
                      Mpu (ldN 4 h7 t49) fun t50 =>
                      Mpu (ldN 4 h7 t3) fun t51 =>
                      Mcall prg f_version_near [t50, t51] h7 fun t52 h9 =>
                      k8 t52 h9) (
                      k8 undef h7)) fun t52_2 h10 =>
                  Mpu (pickV t47 t52_2 (.bool false)) fun t53 =>
                  R t53 h10) (
                  R (.bool true) h7))))))))
theorem sh_version_Want_Fits_chk : fchkF prg [12, 52] Tryz.f30 2 = true := by kernel_rfl
theorem sh_version_Want_Fits_den (t0 t1 : Value) (H : Heap) (R : Value → Heap → Prop) : fdenF prg [12, 52] Tryz.f30 [t0, t1] H R = sh_version_Want_Fits t0 t1 H R := by kernel_rfl
theorem sh_version_Want_Fits_calls {t0 t1 : Value} {H : Heap} {R : Value → Heap → Prop} (h : sh_version_Want_Fits t0 t1 H R) : HCalls prg f_version_Want_Fits [t0, t1] H R :=
  calls_ofF Tryz.func30 sh_version_Want_Fits_chk (by rw [sh_version_Want_Fits_den]; exact h)

-- syngraph/syngraphref18.Fits
-- slices.Compare[[]int,int]
def sh_slices_Compare_S_int_int (t0 t1 : Value) (H : Heap) (R : Value → Heap → Prop) : Prop :=
  J1 (fun k1 =>
    Mpu (lenV t0) fun t10 =>
    L1 (fun k3 => fun t11_2 h4 =>
      Mpu (binV .no .lss t11_2 t10) fun t12 =>
      Mcd t12 (
        Mpu (ixS 1 t0 t11_2) fun t14 =>
        Mpu (ld1 h4 t14) fun t15 =>
        Mpu (lenV t1) fun t18 =>
        Mpu (binV .no .geq t11_2 t18) fun t19 =>
        Mcd t19 (
          R (.int .i64 1) h4) (
          Mpu (ixS 1 t1 t11_2) fun t22 =>
          Mpu (ld1 h4 t22) fun t23 =>
          Mcall prg f_cmp_Compare_int [t15, t23] h4 fun t26 h5 =>
          Mpu (binV .no .neq t26 (.int .i64 0)) fun t28 =>
          Mcd t28 (
            R t26 h5) (
            Mpu (binV .no .add t11_2 (.int .i64 1)) fun t30 =>
            k3 t30 h5))) (
        k1 t11_2 h4)) ((.int .i64 0)) H) fun t11_4 h2 =>
  Mpu (lenV t0) fun t32 =>
  Mpu (lenV t1) fun t34 =>
  Mpu (binV .no .lss t32 t34) fun t35 =>
  Mcd t35 (
    R (.int .i64 (-1)) h2) (
    R (.int .i64 0) h2)
theorem sh_slices_Compare_S_int_int_chk : fchkF prg [11] Tryz.f89 2 = true := by kernel_rfl
theorem sh_slices_Compare_S_int_int_den (t0 t1 : Value) (H : Heap) (R : Value → Heap → Prop) : fdenF prg [11] Tryz.f89 [t0, t1] H R = sh_slices_Compare_S_int_int t0 t1 H R := by kernel_rfl
theorem sh_slices_Compare_S_int_int_calls {t0 t1 : Value} {H : Heap} {R : Value → Heap → Prop} (h : sh_slices_Compare_S_int_int t0 t1 H R) : HCalls prg f_slices_Compare_S_int_int [t0, t1] H R :=
  calls_ofF Tryz.func89 sh_slices_Compare_S_int_int_chk (by rw [sh_slices_Compare_S_int_int_den]; exact h)

-- strings.Compare
def sh_strings_Compare (t0 t1 : Value) (H : Heap) (R : Value → Heap → Prop) : Prop :=
  Mcall prg f_internal_bytealg_CompareString [t0, t1] H fun t7 h1 =>
  R t7 h1
theorem sh_strings_Compare_chk : fchkF prg [] Tryz.f90 2 = true := by kernel_rfl
theorem sh_strings_Compare_den (t0 t1 : Value) (H : Heap) (R : Value → Heap → Prop) : fdenF prg [] Tryz.f90 [t0, t1] H R = sh_strings_Compare t0 t1 H R := by kernel_rfl
theorem sh_strings_Compare_calls {t0 t1 : Value} {H : Heap} {R : Value → Heap → Prop} (h : sh_strings_Compare t0 t1 H R) : HCalls prg f_strings_Compare [t0, t1] H R :=
  calls_ofF Tryz.func90 sh_strings_Compare_chk (by rw [sh_strings_Compare_den]; exact h)

-- strings.Cut
def sh_strings_Cut (t0 t1 : Value) (H : Heap) (R : Value → Heap → Prop) : Prop :=
  Mcall prg f_internal_stringslite_Cut [t0, t1] H fun t9 h1 =>
  Mpu (extV 0 t9) fun t10 =>
  Mpu (extV 1 t9) fun t11 =>
  Mpu (extV 2 t9) fun t12 =>
  R (.tuple #[t10, t11, t12]) h1
theorem sh_strings_Cut_chk : fchkF prg [] Tryz.f81 2 = true := by kernel_rfl
theorem sh_strings_Cut_den (t0 t1 : Value) (H : Heap) (R : Value → Heap → Prop) : fdenF prg [] Tryz.f81 [t0, t1] H R = sh_strings_Cut t0 t1 H R := by kernel_rfl
theorem sh_strings_Cut_calls {t0 t1 : Value} {H : Heap} {R : Value → Heap → Prop} (h : sh_strings_Cut t0 t1 H R) : HCalls prg f_strings_Cut [t0, t1] H R :=
  calls_ofF Tryz.func81 sh_strings_Cut_chk (by rw [sh_strings_Cut_den]; exact h)

end Go.Proofs.YtanhgihfgmbojaaGreatDoor

/- PRINTED: clean texts -/
namespace Go.Proofs.YtanhgihfgmbojaaGreatDoor
open Go.X
set_option maxRecDepth 100000
-- strings.SplitSeq
def sh_strings_SplitSeq (t0 t1 : Value) (H : Heap) (R : Value → Heap → Prop) : Prop :=
  Mcall prg f_strings_splitSeq [t0, t1, (.int .i64 0)] H fun t7 h1 =>
  R t7 h1
theorem sh_strings_SplitSeq_chk : fchkF prg [] Tryz.f82 2 = true := by kernel_rfl
theorem sh_strings_SplitSeq_den (t0 t1 : Value) (H : Heap) (R : Value → Heap → Prop) : fdenF prg [] Tryz.f82 [t0, t1] H R = sh_strings_SplitSeq t0 t1 H R := by kernel_rfl
theorem sh_strings_SplitSeq_calls {t0 t1 : Value} {H : Heap} {R : Value → Heap → Prop} (h : sh_strings_SplitSeq t0 t1 H R) : HCalls prg f_strings_SplitSeq [t0, t1] H R :=
  calls_ofF Tryz.func82 sh_strings_SplitSeq_chk (by rw [sh_strings_SplitSeq_den]; exact h)

-- strconv.Atoi
def sh_strconv_Atoi (t0 : Value) (H : Heap) (R : Value → Heap → Prop) : Prop :=
  Mcall prg f_internal_strconv_Atoi [t0] H fun t8 h1 =>
  Mpu (extV 0 t8) fun t9 =>
  Mpu (extV 1 t8) fun t10 =>
  Mpu (binV (.ifc (intB prg) true) .neq t10 (.nilIface)) fun t12 =>
  Mcd t12 (
    Mcall prg f_strconv_toError [(.string ⟨#[65, 116, 111, 105]⟩), t0, (.int .i64 0), (.int .i64 0), t10] h1 fun t16 h2 =>
    R (.tuple #[t9, t16]) h2) (
    R (.tuple #[t9, (.nilIface)]) h1)
theorem sh_strconv_Atoi_chk : fchkF prg [] Tryz.f83 1 = true := by kernel_rfl
theorem sh_strconv_Atoi_den (t0 : Value) (H : Heap) (R : Value → Heap → Prop) : fdenF prg [] Tryz.f83 [t0] H R = sh_strconv_Atoi t0 H R := by kernel_rfl
theorem sh_strconv_Atoi_calls {t0 : Value} {H : Heap} {R : Value → Heap → Prop} (h : sh_strconv_Atoi t0 H R) : HCalls prg f_strconv_Atoi [t0] H R :=
  calls_ofF Tryz.func83 sh_strconv_Atoi_chk (by rw [sh_strconv_Atoi_den]; exact h)

-- strings.CutPrefix
def sh_strings_CutPrefix (t0 t1 : Value) (H : Heap) (R : Value → Heap → Prop) : Prop :=
  Mcall prg f_internal_stringslite_CutPrefix [t0, t1] H fun t8 h1 =>
  Mpu (extV 0 t8) fun t9 =>
  Mpu (extV 1 t8) fun t10 =>
  R (.tuple #[t9, t10]) h1
theorem sh_strings_CutPrefix_chk : fchkF prg [] Tryz.f85 2 = true := by kernel_rfl
theorem sh_strings_CutPrefix_den (t0 t1 : Value) (H : Heap) (R : Value → Heap → Prop) : fdenF prg [] Tryz.f85 [t0, t1] H R = sh_strings_CutPrefix t0 t1 H R := by kernel_rfl
theorem sh_strings_CutPrefix_calls {t0 t1 : Value} {H : Heap} {R : Value → Heap → Prop} (h : sh_strings_CutPrefix t0 t1 H R) : HCalls prg f_strings_CutPrefix [t0, t1] H R :=
  calls_ofF Tryz.func85 sh_strings_CutPrefix_chk (by rw [sh_strings_CutPrefix_den]; exact h)

-- slices.Contains[[]string,string]
def sh_slices_Contains_S_string_string (t0 t1 : Value) (H : Heap) (R : Value → Heap → Prop) : Prop :=
  Mcall prg f_slices_Index_S_string_string [t0, t1] H fun t7 h1 =>
  Mpu (binV .no .geq t7 (.int .i64 0)) fun t8 =>
  R t8 h1
theorem sh_slices_Contains_S_string_string_chk : fchkF prg [] Tryz.f49 2 = true := by kernel_rfl
theorem sh_slices_Contains_S_string_string_den (t0 t1 : Value) (H : Heap) (R : Value → Heap → Prop) : fdenF prg [] Tryz.f49 [t0, t1] H R = sh_slices_Contains_S_string_string t0 t1 H R := by kernel_rfl
theorem sh_slices_Contains_S_string_string_calls {t0 t1 : Value} {H : Heap} {R : Value → Heap → Prop} (h : sh_slices_Contains_S_string_string t0 t1 H R) : HCalls prg f_slices_Contains_S_string_string [t0, t1] H R :=
  calls_ofF Tryz.func49 sh_slices_Contains_S_string_string_chk (by rw [sh_slices_Contains_S_string_string_den]; exact h)

-- syngraph/version.near
def sh_version_near (t0 t1 : Value) (H : Heap) (R : Value → Heap → Prop) : Prop :=
  Mnew H T_version_Version (some (Value.cells t0)) fun t2 h1 =>
  Mnew h1 T_version_Version (some (Value.cells t1)) fun t3 h2 =>
  J1 (fun k3 =>
    Mpu (fld 0 t2) fun t6 =>
    Mpu (ixA 3 1 t6 (.int .i64 0)) fun t7 =>
    Mpu (ld1 h2 t7) fun t8 =>
    Mpu (binV .no .eql t8 (.int .i64 0)) fun t9 =>
    Mcd t9 (
      k3 (.int .i64 2) h2) (
      k3 (.int .i64 1) h2)) fun t5_3 h4 =>
  Mpu (fld 0 t2) fun t10 =>
  Mpu (slA 3 1 t10 none (some t5_3) none) fun t12 =>
  Mpu (fld 0 t3) fun t13 =>
  Mpu (slA 3 1 t13 none (some t5_3) none) fun t15 =>
  Mcall prg f_slices_Equal_S_int_int [t12, t15] h4 fun t16 h5 =>
  R t16 h5
theorem sh_version_near_chk : fchkF prg [5] Tryz.f59 2 = true := by kernel_rfl
theorem sh_version_near_den (t0 t1 : Value) (H : Heap) (R : Value → Heap → Prop) : fdenF prg [5] Tryz.f59 [t0, t1] H R = sh_version_near t0 t1 H R := by kernel_rfl
theorem sh_version_near_calls {t0 t1 : Value} {H : Heap} {R : Value → Heap → Prop} (h : sh_version_near t0 t1 H R) : HCalls prg f_version_near [t0, t1] H R :=
  calls_ofF Tryz.func59 sh_version_near_chk (by rw [sh_version_near_den]; exact h)

-- cmp.Compare[int]
def sh_cmp_Compare_int (t0 t1 : Value) (H : Heap) (R : Value → Heap → Prop) : Prop :=
  Mcall prg f_cmp_isNaN_int [t0] H fun t8 h1 =>
  Mcall prg f_cmp_isNaN_int [t1] h1 fun t10 h2 =>
  Mcd t8 (
    Mcd t10 (
      R (.int .i64 0) h2) (
      R (.int .i64 (-1)) h2)) (
    Mcd t10 (
      R (.int .i64 1) h2) (
      Mpu (binV .no .lss t0 t1) fun t16 =>
      Mcd t16 (
        R (.int .i64 (-1)) h2) (
        Mpu (binV .no .gtr t0 t1) fun t19 =>
        Mcd t19 (
          R (.int .i64 1) h2) (
          R (.int .i64 0) h2))))
theorem sh_cmp_Compare_int_chk : fchkF prg [] Tryz.f127 2 = true := by kernel_rfl
theorem sh_cmp_Compare_int_den (t0 t1 : Value) (H : Heap) (R : Value → Heap → Prop) : fdenF prg [] Tryz.f127 [t0, t1] H R = sh_cmp_Compare_int t0 t1 H R := by kernel_rfl
theorem sh_cmp_Compare_int_calls {t0 t1 : Value} {H : Heap} {R : Value → Heap → Prop} (h : sh_cmp_Compare_int t0 t1 H R) : HCalls prg f_cmp_Compare_int [t0, t1] H R :=
  calls_ofF Tryz.func127 sh_cmp_Compare_int_chk (by rw [sh_cmp_Compare_int_den]; exact h)

-- internal/bytealg.CompareString
def sh_internal_bytealg_CompareString (t0 t1 : Value) (H : Heap) (R : Value → Heap → Prop) : Prop :=
  Msem prg (xtV prg f_internal_bytealg_abigen_runtime_cmpstring #[t0, t1]) H fun t7 h1 =>
  R t7 h1
theorem sh_internal_bytealg_CompareString_chk : fchkF prg [] Tryz.f128 2 = true := by kernel_rfl
theorem sh_internal_bytealg_CompareString_den (t0 t1 : Value) (H : Heap) (R : Value → Heap → Prop) : fdenF prg [] Tryz.f128 [t0, t1] H R = sh_internal_bytealg_CompareString t0 t1 H R := by kernel_rfl
theorem sh_internal_bytealg_CompareString_calls {t0 t1 : Value} {H : Heap} {R : Value → Heap → Prop} (h : sh_internal_bytealg_CompareString t0 t1 H R) : HCalls prg f_internal_bytealg_CompareString [t0, t1] H R :=
  calls_ofF Tryz.func128 sh_internal_bytealg_CompareString_chk (by rw [sh_internal_bytealg_CompareString_den]; exact h)

-- internal/stringslite.Cut
def sh_internal_stringslite_Cut (t0 t1 : Value) (H : Heap) (R : Value → Heap → Prop) : Prop :=
  Mcall prg f_internal_stringslite_Index [t0, t1] H fun t10 h1 =>
  Mpu (binV .no .geq t10 (.int .i64 0)) fun t12 =>
  Mcd t12 (
    Mpu (slT t0 none (some t10)) fun t15 =>
    Mpu (lenT t1) fun t19 =>
    Mpu (binV .no .add t10 t19) fun t20 =>
    Mpu (slT t0 (some t20) none) fun t21 =>
    R (.tuple #[t15, t21, (.bool true)]) h1) (
    R (.tuple #[t0, (.string ⟨#[]⟩), (.bool false)]) h1)
theorem sh_internal_stringslite_Cut_chk : fchkF prg [] Tryz.f110 2 = true := by kernel_rfl
theorem sh_internal_stringslite_Cut_den (t0 t1 : Value) (H : Heap) (R : Value → Heap → Prop) : fdenF prg [] Tryz.f110 [t0, t1] H R = sh_internal_stringslite_Cut t0 t1 H R := by kernel_rfl
theorem sh_internal_stringslite_Cut_calls {t0 t1 : Value} {H : Heap} {R : Value → Heap → Prop} (h : sh_internal_stringslite_Cut t0 t1 H R) : HCalls prg f_internal_stringslite_Cut [t0, t1] H R :=
  calls_ofF Tryz.func110 sh_internal_stringslite_Cut_chk (by rw [sh_internal_stringslite_Cut_den]; exact h)

-- strings.splitSeq
def sh_strings_splitSeq (t0 t1 t2 : Value) (H : Heap) (R : Value → Heap → Prop) : Prop :=
  Mnew H T_string (some (Value.cells t0)) fun t3 h1 =>
  Mnew h1 T_string (some (Value.cells t1)) fun t4 h2 =>
  Mnew h2 T_int (some (Value.cells t2)) fun t5 h3 =>
  R (.func (.func f_strings_splitSeq_1) #[] #[t4, t3, t5]) h3
theorem sh_strings_splitSeq_chk : fchkF prg [] Tryz.f111 3 = true := by kernel_rfl
theorem sh_strings_splitSeq_den (t0 t1 t2 : Value) (H : Heap) (R : Value → Heap → Prop) : fdenF prg [] Tryz.f111 [t0, t1, t2] H R = sh_strings_splitSeq t0 t1 t2 H R := by kernel_rfl
theorem sh_strings_splitSeq_calls {t0 t1 t2 : Value} {H : Heap} {R : Value → Heap → Prop} (h : sh_strings_splitSeq t0 t1 t2 H R) : HCalls prg f_strings_splitSeq [t0, t1, t2] H R :=
  calls_ofF Tryz.func111 sh_strings_splitSeq_chk (by rw [sh_strings_splitSeq_den]; exact h)

-- internal/strconv.Atoi
def sh_internal_strconv_Atoi (t0 : Value) (H : Heap) (R : Value → Heap → Prop) : Prop :=
  Mpu (lenT t0) fun t12 =>
  J9 (fun k1 =>
    J1 (fun k3 => Mif (.bool false) true (
        Mpu (binV .no .lss (.int .i64 0) t12) fun t15 =>
        k3 t15 H) (
        k3 undef H)) fun t16_2 h4 =>
    J1 (fun k5 => Mif t16_2 true (
        Mpu (binV .no .lss t12 (.int .i64 10)) fun t18 =>
        k5 t18 h4) (
        k5 undef h4)) fun t18_2 h6 =>
    J1 (fun k7 => Mif (.bool false) true (
        Mpu (pickV t16_2 t18_2 (.bool false)) fun t19 =>
        k7 t19 h6) (
        k7 undef h6)) fun t19_2 h8 =>
    Mpu (pickV (.bool false) t19_2 (.bool false)) fun t20 =>
    J1 (fun k9 => Mif t20 false (
        k9 (.bool true) h8) (
        k9 undef h8)) fun t22_2 h10 =>
    J1 (fun k11 => Mif t22_2 true (
        Mpu (binV .no .lss (.int .i64 0) t12) fun t24 =>
        k11 t24 h10) (
        k11 undef h10)) fun t25_2 h12 =>
    J1 (fun k13 => Mif t25_2 true (
        Mpu (binV .no .lss t12 (.int .i64 19)) fun t27 =>
        k13 t27 h12) (
        k13 undef h12)) fun t27_2 h14 =>
    J1 (fun k15 => Mif t22_2 true (
        Mpu (pickV t25_2 t27_2 (.bool false)) fun t28 =>
        k15 t28 h14) (
        k15 undef h14)) fun t28_2 h16 =>
    J1 (fun k17 => Mif t20 false (
        Mpu (pickV t22_2 t28_2 (.bool false)) fun t29 =>
        k17 t29 h16) (
        k17 undef h16)) fun t29_2 h18 =>
    Mpu (pickV t20 (.bool true) t29_2) fun t30 =>
    Mcd t30 (
      J2 (fun k19 =>
        Mpu (ixT t0 (.int .i64 0)) fun t33 =>
        Mpu (binV .no .eql t33 (.int .u8 45)) fun t34 =>
        J1 (fun k21 => Mif t34 false (
            Mpu (ixT t0 (.int .i64 0)) fun t37 =>
            Mpu (binV .no .eql t37 (.int .u8 43)) fun t38 =>
            k21 t38 h18) (
            k21 undef h18)) fun t38_2 h22 =>
        Mpu (pickV t34 (.bool true) t38_2) fun t39 =>
        Mcd t39 (
          Mpu (slT t0 (some (.int .i64 1)) none) fun t41 =>
          Mpu (lenT t41) fun t43 =>
          Mpu (binV .no .lss t43 (.int .i64 1)) fun t44 =>
          Mcd t44 (
            Mpu (mkI prg T_strconv_Error (.int .i64 2)) fun t45 =>
            R (.tuple #[(.int .i64 0), t45]) h22) (
            k19 t41 t38_2 h22)) (
          k19 t0 t38_2 h22)) fun t0_3 t38_3 h20 =>
      J2 (fun k23 =>
        Ms2b T_uint8 h20 t0_3 fun t47 h25 =>
        Mpu (lenV t47) fun t48 =>
        L2 (fun k26 => fun t6_2 t49_2 h27 =>
          Mpu (binV .no .lss t49_2 t48) fun t50 =>
          Mcd t50 (
            Mpu (ixS 1 t47 t49_2) fun t51 =>
            Mpu (ld1 h27 t51) fun t52 =>
            Mpu (binV .no .sub t52 (.int .u8 48)) fun t54 =>
            Mpu (binV .no .gtr t54 (.int .u8 9)) fun t56 =>
            Mcd t56 (
              Mpu (mkI prg T_strconv_Error (.int .i64 2)) fun t57 =>
              R (.tuple #[(.int .i64 0), t57]) h27) (
              Mpu (binV .no .mul t6_2 (.int .i64 10)) fun t59 =>
              Mpu (cvI .i64 t54) fun t61 =>
              Mpu (binV .no .add t59 t61) fun t62 =>
              Mpu (binV .no .add t49_2 (.int .i64 1)) fun t63 =>
              k26 t62 t63 h27)) (
            k23 t6_2 t49_2 h27)) ((.int .i64 0)) ((.int .i64 0)) h25) fun t6_4 t49_4 h24 =>
      J1 (fun k28 =>
        Mpu (ixT t0 (.int .i64 0)) fun t65 =>
        Mpu (binV .no .eql t65 (.int .u8 45)) fun t66 =>
        Mcd t66 (
          Mpu (unV .neg t6_4) fun t68 =>
          k28 t68 h24) (
          k28 t6_4 h24)) fun t6_6 h29 =>
      R (.tuple #[t6_6, (.nilIface)]) h29) (
      k1 t0 t16_2 t18_2 t19_2 t22_2 t25_2 t27_2 t28_2 t29_2 h18)) fun t0_4 t16_3 t18_3 t19_3 t22_3 t25_3 t27_3 t28_3 t29_3 h2 =>
  Mcall prg f_internal_strconv_ParseInt [t0_4, (.int .i64 10), (.int .i64 0)] h2 fun t72 h30 =>
  Mpu (extV 0 t72) fun t73 =>
  Mpu (extV 1 t72) fun t74 =>
  R (.tuple #[t73, t74]) h30
theorem sh_internal_strconv_Atoi_chk : fchkF prg [0, 6, 16, 18, 19, 22, 25, 27, 28, 29, 38, 49] Tryz.f112 1 = true := by kernel_rfl
theorem sh_internal_strconv_Atoi_den (t0 : Value) (H : Heap) (R : Value → Heap → Prop) : fdenF prg [0, 6, 16, 18, 19, 22, 25, 27, 28, 29, 38, 49] Tryz.f112 [t0] H R = sh_internal_strconv_Atoi t0 H R := by kernel_rfl
theorem sh_internal_strconv_Atoi_calls {t0 : Value} {H : Heap} {R : Value → Heap → Prop} (h : sh_internal_strconv_Atoi t0 H R) : HCalls prg f_internal_strconv_Atoi [t0] H R :=
  calls_ofF Tryz.func112 sh_internal_strconv_Atoi_chk (by rw [sh_internal_strconv_Atoi_den]; exact h)

end Go.Proofs.YtanhgihfgmbojaaGreatDoor

/- PRINTED: clean texts -/
namespace Go.Proofs.YtanhgihfgmbojaaGreatDoor
open Go.X
set_option maxRecDepth 100000
-- strconv.toError
def sh_strconv_toError (t0 t1 t2 t3 t4 : Value) (H : Heap) (R : Value → Heap → Prop) : Prop :=
  Mpu (mkI prg T_strconv_Error (.int .i64 2)) fun t13 =>
  Mpu (binV (.ifc (intB prg) false) .eql t4 t13) fun t14 =>
  Mcd t14 (
    Mcall prg f_strconv_syntaxError [t0, t1] H fun t17 h1 =>
    Mpu (mkI prg T_P_strconv_NumError t17) fun t18 =>
    R t18 h1) (
    Mpu (mkI prg T_strconv_Error (.int .i64 1)) fun t20 =>
    Mpu (binV (.ifc (intB prg) false) .eql t4 t20) fun t21 =>
    Mcd t21 (
      Mcall prg f_strconv_rangeError [t0, t1] H fun t24 h2 =>
      Mpu (mkI prg T_P_strconv_NumError t24) fun t25 =>
      R t25 h2) (
      Mpu (mkI prg T_strconv_Error (.int .i64 3)) fun t27 =>
      Mpu (binV (.ifc (intB prg) false) .eql t4 t27) fun t28 =>
      Mcd t28 (
        Mcall prg f_strconv_baseError [t0, t1, t2] H fun t32 h3 =>
        Mpu (mkI prg T_P_strconv_NumError t32) fun t33 =>
        R t33 h3) (
        Mpu (mkI prg T_strconv_Error (.int .i64 4)) fun t35 =>
        Mpu (binV (.ifc (intB prg) false) .eql t4 t35) fun t36 =>
        Mcd t36 (
          Mcall prg f_strconv_bitSizeError [t0, t1, t3] H fun t40 h4 =>
          Mpu (mkI prg T_P_strconv_NumError t40) fun t41 =>
          R t41 h4) (
          R t4 H))))
theorem sh_strconv_toError_chk : fchkF prg [] Tryz.f113 5 = true := by kernel_rfl
theorem sh_strconv_toError_den (t0 t1 t2 t3 t4 : Value) (H : Heap) (R : Value → Heap → Prop) : fdenF prg [] Tryz.f113 [t0, t1, t2, t3, t4] H R = sh_strconv_toError t0 t1 t2 t3 t4 H R := by kernel_rfl
theorem sh_strconv_toError_calls {t0 t1 t2 t3 t4 : Value} {H : Heap} {R : Value → Heap → Prop} (h : sh_strconv_toError t0 t1 t2 t3 t4 H R) : HCalls prg f_strconv_toError [t0, t1, t2, t3, t4] H R :=
  calls_ofF Tryz.func113 sh_strconv_toError_chk (by rw [sh_strconv_toError_den]; exact h)

-- internal/stringslite.CutPrefix
def sh_internal_stringslite_CutPrefix (t0 t1 : Value) (H : Heap) (R : Value → Heap → Prop) : Prop :=
  Mcall prg f_internal_stringslite_HasPrefix [t0, t1] H fun t8 h1 =>
  Mpu (unV .not t8) fun t9 =>
  Mcd t9 (
    R (.tuple #[t0, (.bool false)]) h1) (
    Mpu (lenT t1) fun t13 =>
    Mpu (slT t0 (some t13) none) fun t14 =>
    R (.tuple #[t14, (.bool true)]) h1)
theorem sh_internal_stringslite_CutPrefix_chk : fchkF prg [] Tryz.f116 2 = true := by kernel_rfl
theorem sh_internal_stringslite_CutPrefix_den (t0 t1 : Value) (H : Heap) (R : Value → Heap → Prop) : fdenF prg [] Tryz.f116 [t0, t1] H R = sh_internal_stringslite_CutPrefix t0 t1 H R := by kernel_rfl
theorem sh_internal_stringslite_CutPrefix_calls {t0 t1 : Value} {H : Heap} {R : Value → Heap → Prop} (h : sh_internal_stringslite_CutPrefix t0 t1 H R) : HCalls prg f_internal_stringslite_CutPrefix [t0, t1] H R :=
  calls_ofF Tryz.func116 sh_internal_stringslite_CutPrefix_chk (by rw [sh_internal_stringslite_CutPrefix_den]; exact h)

-- slices.Index[[]string,string]
def sh_slices_Index_S_string_string (t0 t1 : Value) (H : Heap) (R : Value → Heap → Prop) : Prop :=
  J1 (fun k1 =>
    Mpu (lenV t0) fun t7 =>
    L1 (fun k3 => fun t8_2 h4 =>
      Mpu (binV .no .lss t8_2 t7) fun t9 =>
      Mcd t9 (
        Mpu (ixS 1 t0 t8_2) fun t14 =>
        Mpu (ld1 h4 t14) fun t15 =>
        Mpu (binV .no .eql t1 t15) fun t16 =>
        Mcd t16 (
          R t8_2 h4) (
          Mpu (binV .no .add t8_2 (.int .i64 1)) fun t18 =>
          k3 t18 h4)) (
        k1 t8_2 h4)) ((.int .i64 0)) H) fun t8_4 h2 =>
  R (.int .i64 (-1)) h2
theorem sh_slices_Index_S_string_string_chk : fchkF prg [8] Tryz.f78 2 = true := by kernel_rfl
theorem sh_slices_Index_S_string_string_den (t0 t1 : Value) (H : Heap) (R : Value → Heap → Prop) : fdenF prg [8] Tryz.f78 [t0, t1] H R = sh_slices_Index_S_string_string t0 t1 H R := by kernel_rfl
theorem sh_slices_Index_S_string_string_calls {t0 t1 : Value} {H : Heap} {R : Value → Heap → Prop} (h : sh_slices_Index_S_string_string t0 t1 H R) : HCalls prg f_slices_Index_S_string_string [t0, t1] H R :=
  calls_ofF Tryz.func78 sh_slices_Index_S_string_string_chk (by rw [sh_slices_Index_S_string_string_den]; exact h)

-- slices.Equal[[]int,int]
def sh_slices_Equal_S_int_int (t0 t1 : Value) (H : Heap) (R : Value → Heap → Prop) : Prop :=
  Mpu (lenV t0) fun t7 =>
  Mpu (lenV t1) fun t9 =>
  Mpu (binV .no .neq t7 t9) fun t10 =>
  Mcd t10 (
    R (.bool false) H) (
    J1 (fun k1 =>
      Mpu (lenV t0) fun t12 =>
      L1 (fun k3 => fun t13_2 h4 =>
        Mpu (binV .no .lss t13_2 t12) fun t14 =>
        Mcd t14 (
          Mpu (ixS 1 t0 t13_2) fun t18 =>
          Mpu (ld1 h4 t18) fun t19 =>
          Mpu (ixS 1 t1 t13_2) fun t22 =>
          Mpu (ld1 h4 t22) fun t23 =>
          Mpu (binV .no .neq t19 t23) fun t24 =>
          Mcd t24 (
            R (.bool false) h4) (
            Mpu (binV .no .add t13_2 (.int .i64 1)) fun t25 =>
            k3 t25 h4)) (
          k1 t13_2 h4)) ((.int .i64 0)) H) fun t13_4 h2 =>
    R (.bool true) h2)
theorem sh_slices_Equal_S_int_int_chk : fchkF prg [13] Tryz.f91 2 = true := by kernel_rfl
theorem sh_slices_Equal_S_int_int_den (t0 t1 : Value) (H : Heap) (R : Value → Heap → Prop) : fdenF prg [13] Tryz.f91 [t0, t1] H R = sh_slices_Equal_S_int_int t0 t1 H R := by kernel_rfl
theorem sh_slices_Equal_S_int_int_calls {t0 t1 : Value} {H : Heap} {R : Value → Heap → Prop} (h : sh_slices_Equal_S_int_int t0 t1 H R) : HCalls prg f_slices_Equal_S_int_int [t0, t1] H R :=
  calls_ofF Tryz.func91 sh_slices_Equal_S_int_int_chk (by rw [sh_slices_Equal_S_int_int_den]; exact h)

-- cmp.isNaN[int]
def sh_cmp_isNaN_int (t0 : Value) (H : Heap) (R : Value → Heap → Prop) : Prop :=
  Mpu (binV .no .neq t0 t0) fun t5 =>
  R t5 H
theorem sh_cmp_isNaN_int_chk : fchkF prg [] Tryz.f154 1 = true := by kernel_rfl
theorem sh_cmp_isNaN_int_den (t0 : Value) (H : Heap) (R : Value → Heap → Prop) : fdenF prg [] Tryz.f154 [t0] H R = sh_cmp_isNaN_int t0 H R := by kernel_rfl
theorem sh_cmp_isNaN_int_calls {t0 : Value} {H : Heap} {R : Value → Heap → Prop} (h : sh_cmp_isNaN_int t0 H R) : HCalls prg f_cmp_isNaN_int [t0] H R :=
  calls_ofF Tryz.func154 sh_cmp_isNaN_int_chk (by rw [sh_cmp_isNaN_int_den]; exact h)

-- internal/stringslite.Index
def sh_internal_stringslite_Index (t0 t1 : Value) (H : Heap) (R : Value → Heap → Prop) : Prop :=
  Mpu (lenT t1) fun t15 =>
  Mpu (binV .no .eql t15 (.int .i64 0)) fun t18 =>
  J1 (fun k1 => Mif t18 false (
      Mpu (binV .no .eql t1 t0) fun t22 =>
      k1 t22 H) (
      k1 undef H)) fun t22_2 h2 =>
  Mpu (pickV t18 (.bool true) t22_2) fun t23 =>
  Mcd t23 (
    R (.int .i64 0) h2) (
    Mpu (binV .no .eql t15 (.int .i64 1)) fun t26 =>
    Mcd t26 (
      Mpu (ixT t1 (.int .i64 0)) fun t29 =>
      Mcall prg f_internal_stringslite_IndexByte [t0, t29] h2 fun t30 h3 =>
      R t30 h3) (
      Mpu (lenT t0) fun t34 =>
      Mpu (binV .no .geq t15 t34) fun t35 =>
      Mcd t35 (
        R (.int .i64 (-1)) h2) (
        Mpu (ld1 h2 (.pointer (some ⟨g_internal_bytealg_MaxLen, 0, none⟩))) fun t38 =>
        Mpu (binV .no .leq t15 t38) fun t39 =>
        J1 (fun k4 => Mif t39 true (
            Mpu (lenT t0) fun t42 =>
            Mpu (binV .no .leq t42 (.int .i64 64)) fun t43 =>
            k4 t43 h2) (
            k4 undef h2)) fun t43_2 h5 =>
        Mpu (pickV t39 t43_2 (.bool false)) fun t44 =>
        Mcd t44 (
          Msem prg (xtV prg f_internal_bytealg_IndexString #[t0, t1]) h5 fun t47 h6 =>
          R t47 h6) (
          Mpu (ixT t1 (.int .i64 0)) fun t49 =>
          Mpu (ixT t1 (.int .i64 1)) fun t51 =>
          Mpu (lenT t0) fun t53 =>
          Mpu (binV .no .sub t53 t15) fun t55 =>
          Mpu (binV .no .add t55 (.int .i64 1)) fun t56 =>
          J2 (fun k7 =>
            L2 (fun k9 => fun t8_2 t10_2 h10 =>
              Mpu (binV .no .lss t8_2 t56) fun t59 =>
              Mcd t59 (
                J1 (fun k11 =>
                  Mpu (ixT t0 t8_2) fun t62 =>
                  Mpu (binV .no .neq t62 t49) fun t64 =>
                  Mcd t64 (
                    Mpu (binV .no .add t8_2 (.int .i64 1)) fun t67 =>
                    Mpu (slT t0 (some t67) (some t56)) fun t69 =>
                    Mcall prg f_internal_stringslite_IndexByte [t69, t49] h10 fun t71 h13 =>
                    Mpu (binV .no .lss t71 (.int .i64 0)) fun t73 =>
                    Mcd t73 (
                      R (.int .i64 (-1)) h13) (
                      Mpu (binV .no .add t71 (.int .i64 1)) fun t76 =>
                      Mpu (binV .no .add t8_2 t76) fun t77 =>
                      k11 t77 h13)) (
                    k11 t8_2 h10)) fun t8_4 h12 =>
                Mpu (binV .no .add t8_4 (.int .i64 1)) fun t80 =>
                Mpu (ixT t0 t80) fun t81 =>
                Mpu (binV .no .eql t81 t51) fun t83 =>
                J1 (fun k14 => Mif t83 true (
                    Mpu (binV .no .add t8_4 t15) fun t89 =>
                    Mpu (slT t0 (some t8_4) (some t89)) fun t90 =>
                    Mpu (binV .no .eql t90 t1) fun t92 =>
                    k14 t92 h12) (
                    k14 undef h12)) fun t92_2 h15 =>
                Mpu (pickV t83 t92_2 (.bool false)) fun t93 =>
                Mcd t93 (
                  R t8_4 h15) (
                  Mpu (binV .no .add t8_4 (.int .i64 1)) fun t96 =>
                  Mpu (binV .no .add t10_2 (.int .i64 1)) fun t98 =>
                  Mpu (ld1 h15 (.pointer (some ⟨g_internal_bytealg_MaxLen, 0, none⟩))) fun t100 =>
                  Mpu (binV .no .leq t15 t100) fun t101 =>
                  J1 (fun k16 => Mif t101 true (
                      Mcall prg f_internal_bytealg_Cutover [t96] h15 fun t105 h17 =>
                      Mpu (binV .no .gtr t98 t105) fun t106 =>
                      k16 t106 h17) (
                      k16 undef h15)) fun t106_2 h18 =>
                  Mpu (pickV t101 t106_2 (.bool false)) fun t107 =>
                  Mcd t107 (
                    Mpu (slT t0 (some t96) none) fun t110 =>
                    Msem prg (xtV prg f_internal_bytealg_IndexString #[t110, t1]) h18 fun t112 h19 =>
                    Mpu (binV .no .geq t112 (.int .i64 0)) fun t114 =>
                    Mcd t114 (
                      Mpu (binV .no .add t112 t96) fun t117 =>
                      R t117 h19) (
                      R (.int .i64 (-1)) h19)) (
                    Mpu (ld1 h18 (.pointer (some ⟨g_internal_bytealg_MaxLen, 0, none⟩))) fun t119 =>
                    Mpu (binV .no .gtr t15 t119) fun t120 =>
                    J1 (fun k20 => Mif t120 true (
                        Mpu (binV .no .shr t96 (.int .u64 4)) fun t124 =>
                        Mpu (binV .no .add (.int .i64 4) t124) fun t125 =>
                        Mpu (binV .no .geq t98 t125) fun t126 =>
                        k20 t126 h18) (
                        k20 undef h18)) fun t126_2 h21 =>
                    Mpu (pickV t120 t126_2 (.bool false)) fun t127 =>
                    J1 (fun k22 => Mif t127 true (
                        Mpu (binV .no .lss t96 t56) fun t131 =>
                        k22 t131 h21) (
                        k22 undef h21)) fun t131_2 h23 =>
                    Mpu (pickV t127 t131_2 (.bool false)) fun t132 =>
                    Mcd t132 (
                      Mpu (slT t0 (some t96) none) fun t135 =>
                      Mcall prg f_internal_bytealg_IndexRabinKarp_string [t135, t1] h23 fun t137 h24 =>
                      Mpu (binV .no .lss t137 (.int .i64 0)) fun t139 =>
                      Mcd t139 (
                        R (.int .i64 (-1)) h24) (
                        Mpu (binV .no .add t96 t137) fun t142 =>
                        R t142 h24)) (
                      k9 t96 t98 h23)))) (
                k7 t8_2 t10_2 h10)) ((.int .i64 0)) ((.int .i64 0)) h5) fun t8_6 t10_4 h8 =>
          R (.int .i64 (-1)) h8))))
theorem sh_internal_stringslite_Index_chk : fchkF prg [8, 10, 22, 43, 92, 106, 126, 131] Tryz.f136 2 = true := by kernel_rfl
theorem sh_internal_stringslite_Index_den (t0 t1 : Value) (H : Heap) (R : Value → Heap → Prop) : fdenF prg [8, 10, 22, 43, 92, 106, 126, 131] Tryz.f136 [t0, t1] H R = sh_internal_stringslite_Index t0 t1 H R := by kernel_rfl
theorem sh_internal_stringslite_Index_calls {t0 t1 : Value} {H : Heap} {R : Value → Heap → Prop} (h : sh_internal_stringslite_Index t0 t1 H R) : HCalls prg f_internal_stringslite_Index [t0, t1] H R :=
  calls_ofF Tryz.func136 sh_internal_stringslite_Index_chk (by rw [sh_internal_stringslite_Index_den]; exact h)

-- strings.splitSeq$1
def sh_strings_splitSeq_1 (t0 t1 t2 t3 : Value) (H : Heap) (R : Value → Heap → Prop) : Prop :=
  J0 (fun k1 =>
    Mpu (ld1 H t1) fun t9 =>
    Mpu (lenT t9) fun t10 =>
    Mpu (binV .no .eql t10 (.int .i64 0)) fun t11 =>
    Mcd t11 (
      J0 (fun k3 =>
        L0 (fun k5 => fun h6 =>
          Mpu (ld1 h6 t2) fun t12 =>
          Mpu (lenT t12) fun t13 =>
          Mpu (binV .no .gtr t13 (.int .i64 0)) fun t14 =>
          Mcd t14 (
            Mpu (ld1 h6 t2) fun t16 =>
            Mcall prg f_unicode_utf8_DecodeRuneInString [t16] h6 fun t17 h7 =>
            Mpu (extV 0 t17) fun t18 =>
            Mpu (extV 1 t17) fun t19 =>
            Mpu (ld1 h7 t2) fun t21 =>
            Mpu (slT t21 none (some t19)) fun t23 =>
            Mcallv prg t0 [t23] h7 fun t24 h8 =>
            Mpu (unV .not t24) fun t25 =>
            Mcd t25 (
              R (.tuple #[]) h8) (
              Mpu (ld1 h8 t2) fun t26 =>
              Mpu (slT t26 (some t19) none) fun t28 =>
              Mwr (st1 h8 t2 t28) fun h9 =>
              k5 h9)) (
            k3 h6))  H) fun h4 =>
      R (.tuple #[]) h4) (
      k1 H)) fun h2 =>
  J0 (fun k10 =>
    L0 (fun k12 => fun h13 =>
      Mpu (ld1 h13 t2) fun t29 =>
      Mpu (ld1 h13 t1) fun t30 =>
      Mcall prg f_strings_Index [t29, t30] h13 fun t31 h14 =>
      Mpu (binV .no .lss t31 (.int .i64 0)) fun t33 =>
      Mcd t33 (
        k10 h14) (
        Mpu (ld1 h14 t2) fun t34 =>
        Mpu (ld1 h14 t3) fun t36 =>
        Mpu (binV .no .add t31 t36) fun t37 =>
        Mpu (slT t34 none (some t37)) fun t38 =>
        Mcallv prg t0 [t38] h14 fun t41 h15 =>
        Mpu (unV .not t41) fun t42 =>
        Mcd t42 (
          R (.tuple #[]) h15) (
          Mpu (ld1 h15 t2) fun t43 =>
          Mpu (ld1 h15 t1) fun t45 =>
          Mpu (lenT t45) fun t46 =>
          Mpu (binV .no .add t31 t46) fun t47 =>
          Mpu (slT t43 (some t47) none) fun t48 =>
          Mwr (st1 h15 t2 t48) fun h16 =>
          k12 h16)))  h2) fun h11 =>
  Mpu (ld1 h11 t2) fun t50 =>
  Mcallv prg t0 [t50] h11 fun t51 h17 =>
  R (.tuple #[]) h17
theorem sh_strings_splitSeq_1_chk : fchkF prg [] Tryz.f137 4 = true := by kernel_rfl
theorem sh_strings_splitSeq_1_den (t0 t1 t2 t3 : Value) (H : Heap) (R : Value → Heap → Prop) : fdenF prg [] Tryz.f137 [t0, t1, t2, t3] H R = sh_strings_splitSeq_1 t0 t1 t2 t3 H R := by kernel_rfl
theorem sh_strings_splitSeq_1_calls {t0 t1 t2 t3 : Value} {H : Heap} {R : Value → Heap → Prop} (h : sh_strings_splitSeq_1 t0 t1 t2 t3 H R) : HCalls prg f_strings_splitSeq_1 [t0, t1, t2, t3] H R :=
  calls_ofF Tryz.func137 sh_strings_splitSeq_1_chk (by rw [sh_strings_splitSeq_1_den]; exact h)

-- strings.Index
def sh_strings_Index (t0 t1 : Value) (H : Heap) (R : Value → Heap → Prop) : Prop :=
  Mcall prg f_internal_stringslite_Index [t0, t1] H fun t7 h1 =>
  R t7 h1
theorem sh_strings_Index_chk : fchkF prg [] Tryz.f138 2 = true := by kernel_rfl
theorem sh_strings_Index_den (t0 t1 : Value) (H : Heap) (R : Value → Heap → Prop) : fdenF prg [] Tryz.f138 [t0, t1] H R = sh_strings_Index t0 t1 H R := by kernel_rfl
theorem sh_strings_Index_calls {t0 t1 : Value} {H : Heap} {R : Value → Heap → Prop} (h : sh_strings_Index t0 t1 H R) : HCalls prg f_strings_Index [t0, t1] H R :=
  calls_ofF Tryz.func138 sh_strings_Index_chk (by rw [sh_strings_Index_den]; exact h)

-- internal/strconv.ParseInt
def sh_internal_strconv_ParseInt (t0 t1 t2 : Value) (H : Heap) (R : Value → Heap → Prop) : Prop :=
  Mpu (binV .no .eql t0 (.string ⟨#[]⟩)) fun t13 =>
  Mcd t13 (
    Mpu (mkI prg T_strconv_Error (.int .i64 2)) fun t14 =>
    R (.tuple #[(.int .i64 0), t14]) H) (
    J2 (fun k1 =>
      Mpu (ixT t0 (.int .i64 0)) fun t16 =>
      Mpu (binV .no .eql t16 (.int .u8 43)) fun t18 =>
      Mcd t18 (
        Mpu (slT t0 (some (.int .i64 1)) none) fun t20 =>
        k1 t20 (.bool false) H) (
        Mpu (binV .no .eql t16 (.int .u8 45)) fun t22 =>
        Mcd t22 (
          Mpu (slT t0 (some (.int .i64 1)) none) fun t24 =>
          k1 t24 (.bool true) H) (
          k1 t0 (.bool false) H))) fun t0_4 t8_3 h2 =>
    Mcall prg f_internal_strconv_ParseUint [t0_4, t1, t2] h2 fun t29 h3 =>
    Mpu (extV 0 t29) fun t30 =>
    Mpu (extV 1 t29) fun t31 =>
    Mpu (binV (.ifc (intB prg) true) .neq t31 (.nilIface)) fun t33 =>
    J1 (fun k4 => Mif t33 true (
        Mpu (mkI prg T_strconv_Error (.int .i64 1)) fun t36 =>
        Mpu (binV (.ifc (intB prg) false) .neq t31 t36) fun t37 =>
        k4 t37 h3) (
        k4 undef h3)) fun t37_2 h5 =>
    Mpu (pickV t33 t37_2 (.bool false)) fun t38 =>
    Mcd t38 (
      R (.tuple #[(.int .i64 0), t31]) h5) (
      J1 (fun k6 =>
        Mpu (binV .no .eql t2 (.int .i64 0)) fun t41 =>
        Mcd t41 (
          k6 (.int .i64 64) h5) (
          k6 t2 h5)) fun t2_3 h7 =>
      Mpu (binV .no .sub t2_3 (.int .i64 1)) fun t43 =>
      Mpu (cvI .u64 t43) fun t44 =>
      Mpu (binV .no .shl (.int .u64 1) t44) fun t45 =>
      Mpu (unV .not t8_3) fun t47 =>
      J1 (fun k8 => Mif t47 true (
          Mpu (binV .no .geq t30 t45) fun t51 =>
          k8 t51 h7) (
          k8 undef h7)) fun t51_2 h9 =>
      Mpu (pickV t47 t51_2 (.bool false)) fun t52 =>
      Mcd t52 (
        Mpu (binV .no .sub t45 (.int .u64 1)) fun t54 =>
        Mpu (cvI .i64 t54) fun t55 =>
        Mpu (mkI prg T_strconv_Error (.int .i64 1)) fun t56 =>
        R (.tuple #[t55, t56]) h9) (
        J1 (fun k10 => Mif t8_3 true (
            Mpu (binV .no .gtr t30 t45) fun t61 =>
            k10 t61 h9) (
            k10 undef h9)) fun t61_2 h11 =>
        Mpu (pickV t8_3 t61_2 (.bool false)) fun t62 =>
        Mcd t62 (
          Mpu (cvI .i64 t45) fun t64 =>
          Mpu (unV .neg t64) fun t65 =>
          Mpu (mkI prg T_strconv_Error (.int .i64 1)) fun t66 =>
          R (.tuple #[t65, t66]) h11) (
          Mpu (cvI .i64 t30) fun t68 =>
          J1 (fun k12 =>
            Mcd t8_3 (
              Mpu (unV .neg t68) fun t71 =>
              k12 t71 h11) (
              k12 t68 h11)) fun t11_3 h13 =>
          R (.tuple #[t11_3, (.nilIface)]) h13))))
theorem sh_internal_strconv_ParseInt_chk : fchkF prg [0, 2, 8, 11, 37, 51, 61] Tryz.f139 3 = true := by kernel_rfl
theorem sh_internal_strconv_ParseInt_den (t0 t1 t2 : Value) (H : Heap) (R : Value → Heap → Prop) : fdenF prg [0, 2, 8, 11, 37, 51, 61] Tryz.f139 [t0, t1, t2] H R = sh_internal_strconv_ParseInt t0 t1 t2 H R := by kernel_rfl
theorem sh_internal_strconv_ParseInt_calls {t0 t1 t2 : Value} {H : Heap} {R : Value → Heap → Prop} (h : sh_internal_strconv_ParseInt t0 t1 t2 H R) : HCalls prg f_internal_strconv_ParseInt [t0, t1, t2] H R :=
  calls_ofF Tryz.func139 sh_internal_strconv_ParseInt_chk (by rw [sh_internal_strconv_ParseInt_den]; exact h)

-- strconv.syntaxError
def sh_strconv_syntaxError (t0 t1 : Value) (H : Heap) (R : Value → Heap → Prop) : Prop :=
  Mpu (ld1 H (.pointer (some ⟨g_strconv_ErrSyntax, 0, none⟩))) fun t8 =>
  Mcall prg f_internal_stringslite_Clone [t1] H fun t7 h1 =>
  Mre [(ld1 h1 (.pointer (some ⟨g_strconv_ErrSyntax, 0, none⟩)), t8)] (
  Mpu (buildV prg T_strconv_NumError [(0, t0), (1, t7), (2, t8)]) fun t9 =>
  Mnew h1 T_strconv_NumError (some (Value.cells t9)) fun t10 h2 =>
  R t10 h2)
theorem sh_strconv_syntaxError_chk : fchkF prg [] Tryz.f140 2 = true := by kernel_rfl
theorem sh_strconv_syntaxError_den (t0 t1 : Value) (H : Heap) (R : Value → Heap → Prop) : fdenF prg [] Tryz.f140 [t0, t1] H R = sh_strconv_syntaxError t0 t1 H R := by kernel_rfl
theorem sh_strconv_syntaxError_calls {t0 t1 : Value} {H : Heap} {R : Value → Heap → Prop} (h : sh_strconv_syntaxError t0 t1 H R) : HCalls prg f_strconv_syntaxError [t0, t1] H R :=
  calls_ofF Tryz.func140 sh_strconv_syntaxError_chk (by rw [sh_strconv_syntaxError_den]; exact h)

-- strconv.rangeError
def sh_strconv_rangeError (t0 t1 : Value) (H : Heap) (R : Value → Heap → Prop) : Prop :=
  Mpu (ld1 H (.pointer (some ⟨g_strconv_ErrRange, 0, none⟩))) fun t8 =>
  Mcall prg f_internal_stringslite_Clone [t1] H fun t7 h1 =>
  Mre [(ld1 h1 (.pointer (some ⟨g_strconv_ErrRange, 0, none⟩)), t8)] (
  Mpu (buildV prg T_strconv_NumError [(0, t0), (1, t7), (2, t8)]) fun t9 =>
  Mnew h1 T_strconv_NumError (some (Value.cells t9)) fun t10 h2 =>
  R t10 h2)
theorem sh_strconv_rangeError_chk : fchkF prg [] Tryz.f141 2 = true := by kernel_rfl
theorem sh_strconv_rangeError_den (t0 t1 : Value) (H : Heap) (R : Value → Heap → Prop) : fdenF prg [] Tryz.f141 [t0, t1] H R = sh_strconv_rangeError t0 t1 H R := by kernel_rfl
theorem sh_strconv_rangeError_calls {t0 t1 : Value} {H : Heap} {R : Value → Heap → Prop} (h : sh_strconv_rangeError t0 t1 H R) : HCalls prg f_strconv_rangeError [t0, t1] H R :=
  calls_ofF Tryz.func141 sh_strconv_rangeError_chk (by rw [sh_strconv_rangeError_den]; exact h)

-- strconv.baseError
end Go.Proofs.YtanhgihfgmbojaaGreatDoor

/- PRINTED: clean texts -/
namespace Go.Proofs.YtanhgihfgmbojaaGreatDoor
open Go.X
set_option maxRecDepth 100000
-- strconv.bitSizeError
-- internal/stringslite.HasPrefix
def sh_internal_stringslite_HasPrefix (t0 t1 : Value) (H : Heap) (R : Value → Heap → Prop) : Prop :=
  Mpu (lenT t0) fun t6 =>
  Mpu (lenT t1) fun t8 =>
  Mpu (binV .no .geq t6 t8) fun t9 =>
  J1 (fun k1 => Mif t9 true (
      Mpu (lenT t1) fun t13 =>
      Mpu (slT t0 none (some t13)) fun t14 =>
      Mpu (binV .no .eql t14 t1) fun t16 =>
      k1 t16 H) (
      k1 undef H)) fun t16_2 h2 =>
  Mpu (pickV t9 t16_2 (.bool false)) fun t17 =>
  R t17 h2
theorem sh_internal_stringslite_HasPrefix_chk : fchkF prg [16] Tryz.f148 2 = true := by kernel_rfl
theorem sh_internal_stringslite_HasPrefix_den (t0 t1 : Value) (H : Heap) (R : Value → Heap → Prop) : fdenF prg [16] Tryz.f148 [t0, t1] H R = sh_internal_stringslite_HasPrefix t0 t1 H R := by kernel_rfl
theorem sh_internal_stringslite_HasPrefix_calls {t0 t1 : Value} {H : Heap} {R : Value → Heap → Prop} (h : sh_internal_stringslite_HasPrefix t0 t1 H R) : HCalls prg f_internal_stringslite_HasPrefix [t0, t1] H R :=
  calls_ofF Tryz.func148 sh_internal_stringslite_HasPrefix_chk (by rw [sh_internal_stringslite_HasPrefix_den]; exact h)

-- internal/bytealg.IndexRabinKarp[string]
-- internal/strconv.ParseUint
def sh_internal_strconv_ParseUint (t0 t1 t2 : Value) (H : Heap) (R : Value → Heap → Prop) : Prop :=
  Mpu (binV .no .eql t0 (.string ⟨#[]⟩)) fun t19 =>
  Mcd t19 (
    Mpu (mkI prg T_strconv_Error (.int .i64 2)) fun t20 =>
    R (.tuple #[(.int .u64 0), t20]) H) (
    Mpu (binV .no .eql t1 (.int .i64 0)) fun t22 =>
    J3 (fun k1 =>
      Mpu (binV .no .leq (.int .i64 2) t1) fun t27 =>
      J1 (fun k3 => Mif t27 true (
          Mpu (binV .no .leq t1 (.int .i64 36)) fun t30 =>
          k3 t30 H) (
          k3 undef H)) fun t30_2 h4 =>
      Mpu (pickV t27 t30_2 (.bool false)) fun t31 =>
      Mcd t31 (
        k1 t0 t1 t30_2 h4) (
        Mpu (binV .no .eql t1 (.int .i64 0)) fun t34 =>
        Mcd t34 (
          Mpu (ixT t0 (.int .i64 0)) fun t36 =>
          Mpu (binV .no .eql t36 (.int .u8 48)) fun t37 =>
          Mcd t37 (
            Mpu (lenT t0) fun t42 =>
            Mpu (binV .no .geq t42 (.int .i64 3)) fun t43 =>
            J1 (fun k5 => Mif t43 true (
                Mpu (ixT t0 (.int .i64 1)) fun t46 =>
                Mcall prg f_internal_strconv_lower [t46] h4 fun t47 h6 =>
                Mpu (binV .no .eql t47 (.int .u8 98)) fun t48 =>
                k5 t48 h6) (
                k5 undef h4)) fun t48_2 h7 =>
            Mpu (pickV t43 t48_2 (.bool false)) fun t49 =>
            Mcd t49 (
              Mpu (slT t0 (some (.int .i64 2)) none) fun t51 =>
              k1 t51 (.int .i64 2) t30_2 h7) (
              Mpu (lenT t0) fun t54 =>
              Mpu (binV .no .geq t54 (.int .i64 3)) fun t55 =>
              J1 (fun k8 => Mif t55 true (
                  Mpu (ixT t0 (.int .i64 1)) fun t58 =>
                  Mcall prg f_internal_strconv_lower [t58] h7 fun t59 h9 =>
                  Mpu (binV .no .eql t59 (.int .u8 111)) fun t60 =>
                  k8 t60 h9) (
                  k8 undef h7)) fun t60_2 h10 =>
              Mpu (pickV t55 t60_2 (.bool false)) fun t61 =>
              Mcd t61 (
                Mpu (slT t0 (some (.int .i64 2)) none) fun t63 =>
                k1 t63 (.int .i64 8) t30_2 h10) (
                Mpu (lenT t0) fun t66 =>
                Mpu (binV .no .geq t66 (.int .i64 3)) fun t67 =>
                J1 (fun k11 => Mif t67 true (
                    Mpu (ixT t0 (.int .i64 1)) fun t70 =>
                    Mcall prg f_internal_strconv_lower [t70] h10 fun t71 h12 =>
                    Mpu (binV .no .eql t71 (.int .u8 120)) fun t72 =>
                    k11 t72 h12) (
                    k11 undef h10)) fun t72_2 h13 =>
                Mpu (pickV t67 t72_2 (.bool false)) fun t73 =>
                Mcd t73 (
                  Mpu (slT t0 (some (.int .i64 2)) none) fun t75 =>
                  k1 t75 (.int .i64 16) t30_2 h13) (
                  Mpu (slT t0 (some (.int .i64 1)) none) fun t39 =>
                  k1 t39 (.int .i64 8) t30_2 h13)))) (
            k1 t0 (.int .i64 10) t30_2 h4)) (
          Mpu (mkI prg T_strconv_Error (.int .i64 3)) fun t24 =>
          R (.tuple #[(.int .u64 0), t24]) h4))) fun t0_6 t1_7 t30_3 h2 =>
    J1 (fun k14 =>
      Mpu (binV .no .eql t2 (.int .i64 0)) fun t77 =>
      Mcd t77 (
        k14 (.int .i64 64) h2) (
        Mpu (binV .no .lss t2 (.int .i64 0)) fun t79 =>
        J1 (fun k16 => Mif t79 false (
            Mpu (binV .no .gtr t2 (.int .i64 64)) fun t82 =>
            k16 t82 h2) (
            k16 undef h2)) fun t82_2 h17 =>
        Mpu (pickV t79 (.bool true) t82_2) fun t83 =>
        Mcd t83 (
          Mpu (mkI prg T_strconv_Error (.int .i64 4)) fun t84 =>
          R (.tuple #[(.int .u64 0), t84]) h17) (
          k14 t2 h17))) fun t2_3 h15 =>
    J1 (fun k18 =>
      Mpu (binV .no .eql t1_7 (.int .i64 10)) fun t91 =>
      Mcd t91 (
        k18 (.int .u64 1844674407370955162) h15) (
        Mpu (binV .no .eql t1_7 (.int .i64 16)) fun t93 =>
        Mcd t93 (
          k18 (.int .u64 1152921504606846976) h15) (
          Mpu (cvI .u64 t1_7) fun t87 =>
          Mpu (binV .no .quo (.int .u64 18446744073709551615) t87) fun t88 =>
          Mpu (binV .no .add t88 (.int .u64 1)) fun t89 =>
          k18 t89 h15))) fun t10_5 h19 =>
    Mpu (cvI .u64 t2_3) fun t95 =>
    Mpu (binV .no .shl (.int .u64 1) t95) fun t96 =>
    Mpu (binV .no .sub t96 (.int .u64 1)) fun t97 =>
    J3 (fun k20 =>
      Ms2b T_uint8 h19 t0_6 fun t99 h22 =>
      Mpu (lenV t99) fun t100 =>
      L3 (fun k23 => fun t12_2 t13_2 t101_2 h24 =>
        Mpu (binV .no .lss t101_2 t100) fun t102 =>
        Mcd t102 (
          J4 (fun k25 =>
            Mpu (ixS 1 t99 t101_2) fun t103 =>
            Mpu (ld1 h24 t103) fun t104 =>
            J4 (fun k27 =>
              Mpu (binV .no .eql t104 (.int .u8 95)) fun t108 =>
              J1 (fun k29 => Mif t108 true (
                  k29 t22 h24) (
                  k29 undef h24)) fun t110_2 h30 =>
              Mpu (pickV t108 t110_2 (.bool false)) fun t111 =>
              Mcd t111 (
                k25 (.bool true) t13_2 (.int .u8 0) t110_2 h30) (
                Mpu (binV .no .leq (.int .u8 48) t104) fun t114 =>
                J1 (fun k31 => Mif t114 true (
                    Mpu (binV .no .leq t104 (.int .u8 57)) fun t117 =>
                    k31 t117 h30) (
                    k31 undef h30)) fun t117_2 h32 =>
                Mpu (pickV t114 t117_2 (.bool false)) fun t118 =>
                Mcd t118 (
                  Mpu (binV .no .sub t104 (.int .u8 48)) fun t120 =>
                  k27 t12_2 t120 t110_2 t117_2 h32) (
                  Mcall prg f_internal_strconv_lower [t104] h32 fun t123 h33 =>
                  Mpu (binV .no .leq (.int .u8 97) t123) fun t124 =>
                  J1 (fun k34 => Mif t124 true (
                      Mcall prg f_internal_strconv_lower [t104] h33 fun t127 h35 =>
                      Mpu (binV .no .leq t127 (.int .u8 122)) fun t128 =>
                      k34 t128 h35) (
                      k34 undef h33)) fun t128_2 h36 =>
                  Mpu (pickV t124 t128_2 (.bool false)) fun t129 =>
                  Mcd t129 (
                    Mcall prg f_internal_strconv_lower [t104] h36 fun t131 h37 =>
                    Mpu (binV .no .sub t131 (.int .u8 97)) fun t132 =>
                    Mpu (binV .no .add t132 (.int .u8 10)) fun t133 =>
                    k27 t12_2 t133 t110_2 t117_2 h37) (
                    Mpu (mkI prg T_strconv_Error (.int .i64 2)) fun t105 =>
                    R (.tuple #[(.int .u64 0), t105]) h36)))) fun t12_4 t16_4 t110_3 t117_3 h28 =>
            Mpu (cvI .u8 t1_7) fun t136 =>
            Mpu (binV .no .geq t16_4 t136) fun t137 =>
            Mcd t137 (
              Mpu (mkI prg T_strconv_Error (.int .i64 2)) fun t138 =>
              R (.tuple #[(.int .u64 0), t138]) h28) (
              Mpu (binV .no .geq t13_2 t10_5) fun t141 =>
              Mcd t141 (
                Mpu (mkI prg T_strconv_Error (.int .i64 1)) fun t143 =>
                R (.tuple #[t97, t143]) h28) (
                Mpu (cvI .u64 t1_7) fun t146 =>
                Mpu (binV .no .mul t13_2 t146) fun t147 =>
                Mpu (cvI .u64 t16_4) fun t150 =>
                Mpu (binV .no .add t147 t150) fun t151 =>
                Mpu (binV .no .lss t151 t147) fun t154 =>
                J1 (fun k38 => Mif t154 false (
                    Mpu (binV .no .gtr t151 t97) fun t158 =>
                    k38 t158 h28) (
                    k38 undef h28)) fun t158_2 h39 =>
                Mpu (pickV t154 (.bool true) t158_2) fun t159 =>
                Mcd t159 (
                  Mpu (mkI prg T_strconv_Error (.int .i64 1)) fun t161 =>
                  R (.tuple #[t97, t161]) h39) (
                  k25 t12_4 t151 t16_4 t110_3 h39)))) fun t12_5 t13_5 t16_5 t110_4 h26 =>
          Mpu (binV .no .add t101_2 (.int .i64 1)) fun t163 =>
          k23 t12_5 t13_5 t163 h26) (
          k20 t12_2 t13_2 t101_2 h24)) ((.bool false)) ((.int .u64 0)) ((.int .i64 0)) h22) fun t12_6 t13_6 t101_4 h21 =>
    J1 (fun k40 => Mif t12_6 true (
        Mcall prg f_internal_strconv_underscoreOK [t0] h21 fun t167 h41 =>
        Mpu (unV .not t167) fun t168 =>
        k40 t168 h41) (
        k40 undef h21)) fun t168_2 h42 =>
    Mpu (pickV t12_6 t168_2 (.bool false)) fun t169 =>
    Mcd t169 (
      Mpu (mkI prg T_strconv_Error (.int .i64 2)) fun t170 =>
      R (.tuple #[(.int .u64 0), t170]) h42) (
      R (.tuple #[t13_6, (.nilIface)]) h42))
theorem sh_internal_strconv_ParseUint_chk : fchkF prg [0, 1, 2, 10, 12, 13, 16, 30, 48, 60, 72, 82, 101, 110, 117, 128, 158, 168] Tryz.f162 3 = true := by kernel_rfl
theorem sh_internal_strconv_ParseUint_den (t0 t1 t2 : Value) (H : Heap) (R : Value → Heap → Prop) : fdenF prg [0, 1, 2, 10, 12, 13, 16, 30, 48, 60, 72, 82, 101, 110, 117, 128, 158, 168] Tryz.f162 [t0, t1, t2] H R = sh_internal_strconv_ParseUint t0 t1 t2 H R := by kernel_rfl
theorem sh_internal_strconv_ParseUint_calls {t0 t1 t2 : Value} {H : Heap} {R : Value → Heap → Prop} (h : sh_internal_strconv_ParseUint t0 t1 t2 H R) : HCalls prg f_internal_strconv_ParseUint [t0, t1, t2] H R :=
  calls_ofF Tryz.func162 sh_internal_strconv_ParseUint_chk (by rw [sh_internal_strconv_ParseUint_den]; exact h)

-- internal/stringslite.Clone
def sh_internal_stringslite_Clone (t0 : Value) (H : Heap) (R : Value → Heap → Prop) : Prop :=
  Mpu (lenT t0) fun t5 =>
  Mpu (binV .no .eql t5 (.int .i64 0)) fun t6 =>
  Mcd t6 (
    R (.string ⟨#[]⟩) H) (
    Mpu (lenT t0) fun t8 =>
    Mmks prg H T_uint8 t8 t8 fun t9 h1 =>
    Mcopy 1 h1 t9 t0 fun t12 h2 =>
    Mpu (ixS 1 t9 (.int .i64 0)) fun t14 =>
    Mpu (lenV t9) fun t16 =>
    Msem prg (Builtin.unsafeString_ #[207, 3] 0 #[t14, t16]) h2 fun t17 h3 =>
    R t17 h3)
theorem sh_internal_stringslite_Clone_chk : fchkF prg [] Tryz.f163 1 = true := by kernel_rfl
theorem sh_internal_stringslite_Clone_den (t0 : Value) (H : Heap) (R : Value → Heap → Prop) : fdenF prg [] Tryz.f163 [t0] H R = sh_internal_stringslite_Clone t0 H R := by kernel_rfl
theorem sh_internal_stringslite_Clone_calls {t0 : Value} {H : Heap} {R : Value → Heap → Prop} (h : sh_internal_stringslite_Clone t0 H R) : HCalls prg f_internal_stringslite_Clone [t0] H R :=
  calls_ofF Tryz.func163 sh_internal_stringslite_Clone_chk (by rw [sh_internal_stringslite_Clone_den]; exact h)

-- errors.New
-- internal/bytealg.hashStr[string]
-- internal/strconv.lower
def sh_internal_strconv_lower (t0 : Value) (H : Heap) (R : Value → Heap → Prop) : Prop :=
  Mpu (binV .no .or t0 (.int .u8 32)) fun t4 =>
  R t4 H
theorem sh_internal_strconv_lower_chk : fchkF prg [] Tryz.f171 1 = true := by kernel_rfl
theorem sh_internal_strconv_lower_den (t0 : Value) (H : Heap) (R : Value → Heap → Prop) : fdenF prg [] Tryz.f171 [t0] H R = sh_internal_strconv_lower t0 H R := by kernel_rfl
theorem sh_internal_strconv_lower_calls {t0 : Value} {H : Heap} {R : Value → Heap → Prop} (h : sh_internal_strconv_lower t0 H R) : HCalls prg f_internal_strconv_lower [t0] H R :=
  calls_ofF Tryz.func171 sh_internal_strconv_lower_chk (by rw [sh_internal_strconv_lower_den]; exact h)

-- internal/strconv.underscoreOK
end Go.Proofs.YtanhgihfgmbojaaGreatDoor

