/- JOINED: Sj4 Sj5 Sj6 -/
import Derived.Test.YtanhgihfgmbojaaGreatDoorGE
set_option linter.unusedSimpArgs false
set_option linter.unusedVariables false
/- PRINTED: clean texts -/
namespace Go.Proofs.YtanhgihfgmbojaaGreatDoor
open Go.X
set_option maxRecDepth 100000
-- (syngraph/solve.Problem).ready
-- slices.Delete[[]int,int]
-- syngraph/syngraphref20.names
-- slices.Insert[[]string,string]
def sh_slices_Insert_S_string_string (t0 t1 t2 : Value) (H : Heap) (R : Value → Heap → Prop) : Prop :=
  Mpu (slS 1 t0 (some t1) none none) fun t12 =>
  Mpu (lenV t2) fun t14 =>
  Mpu (binV .no .eql t14 (.int .i64 0)) fun t16 =>
  Mcd t16 (
    R t0 H) (
    Mpu (lenV t0) fun t19 =>
    Mpu (binV .no .eql t1 t19) fun t22 =>
    Mcd t22 (
      Mapp T_string 1 16 H t0 t2 fun t25 h1 =>
      R t25 h1) (
      Mpu (binV .no .add t19 t14) fun t28 =>
      Mpu (capV t0) fun t30 =>
      Mpu (binV .no .gtr t28 t30) fun t31 =>
      Mcd t31 (
        Mpu (slS 1 t0 none (some t1) none) fun t34 =>
        Mpu (binV .no .add t19 t14) fun t37 =>
        Mpu (binV .no .sub t37 t1) fun t39 =>
        Mapz T_string 1 16 H t34 t39 (zcells prg T_string) fun t40 h2 =>
        Mpu (slS 1 t40 (some t1) none none) fun t43 =>
        Mcopy 1 h2 t43 t2 fun t45 h3 =>
        Mpu (binV .no .add t1 t14) fun t49 =>
        Mpu (slS 1 t40 (some t49) none none) fun t50 =>
        Mpu (slS 1 t0 (some t1) none none) fun t53 =>
        Mcopy 1 h3 t50 t53 fun t54 h4 =>
        R t40 h4) (
        Mpu (binV .no .add t19 t14) fun t59 =>
        Mpu (slS 1 t0 none (some t59) none) fun t60 =>
        Mpu (binV .no .add t1 t14) fun t65 =>
        Mpu (slS 1 t60 (some t65) none none) fun t66 =>
        Msem prg (xtV prg f_slices_overlaps_string #[t2, t66]) H fun t67 h5 =>
        Mpu (unV .not t67) fun t68 =>
        Mcd t68 (
          Mpu (binV .no .add t1 t14) fun t72 =>
          Mpu (slS 1 t60 (some t72) none none) fun t73 =>
          Mpu (slS 1 t60 (some t1) none none) fun t76 =>
          Mcopy 1 h5 t73 t76 fun t77 h6 =>
          Mpu (slS 1 t60 (some t1) none none) fun t80 =>
          Mcopy 1 h6 t80 t2 fun t82 h7 =>
          R t60 h7) (
          Mpu (slS 1 t60 (some t19) none none) fun t86 =>
          Mcopy 1 h5 t86 t2 fun t88 h8 =>
          Mpu (slS 1 t60 (some t1) none none) fun t91 =>
          Mcall prg f_slices_rotateRight_string [t91, t14] h8 fun t93 h9 =>
          R t60 h9))))
theorem sh_slices_Insert_S_string_string_chk : fchkF prg [] Tryz.f50 3 = true := by kernel_rfl
theorem sh_slices_Insert_S_string_string_den (t0 t1 t2 : Value) (H : Heap) (R : Value → Heap → Prop) : fdenF prg [] Tryz.f50 [t0, t1, t2] H R = sh_slices_Insert_S_string_string t0 t1 t2 H R := by kernel_rfl
theorem sh_slices_Insert_S_string_string_calls {t0 t1 t2 : Value} {H : Heap} {R : Value → Heap → Prop} (h : sh_slices_Insert_S_string_string t0 t1 t2 H R) : HCalls prg f_slices_Insert_S_string_string [t0, t1, t2] H R :=
  calls_ofF Tryz.func50 sh_slices_Insert_S_string_string_chk (by rw [sh_slices_Insert_S_string_string_den]; exact h)

-- slices.IndexFunc[[]int,int]
def sh_slices_IndexFunc_S_int_int (t0 t1 : Value) (H : Heap) (R : Value → Heap → Prop) : Prop :=
  J1 (fun k1 =>
    Mpu (lenV t0) fun t7 =>
    L1 (fun k3 => fun t8_2 h4 =>
      Mpu (binV .no .lss t8_2 t7) fun t9 =>
      Mcd t9 (
        Mpu (ixS 1 t0 t8_2) fun t14 =>
        Mpu (ld1 h4 t14) fun t15 =>
        Mcallv prg t1 [t15] h4 fun t16 h5 =>
        Mcd t16 (
          R t8_2 h5) (
          Mpu (binV .no .add t8_2 (.int .i64 1)) fun t18 =>
          k3 t18 h5)) (
        k1 t8_2 h4)) ((.int .i64 0)) H) fun t8_4 h2 =>
  R (.int .i64 (-1)) h2
theorem sh_slices_IndexFunc_S_int_int_chk : fchkF prg [8] Tryz.f53 2 = true := by kernel_rfl
theorem sh_slices_IndexFunc_S_int_int_den (t0 t1 : Value) (H : Heap) (R : Value → Heap → Prop) : fdenF prg [8] Tryz.f53 [t0, t1] H R = sh_slices_IndexFunc_S_int_int t0 t1 H R := by kernel_rfl
theorem sh_slices_IndexFunc_S_int_int_calls {t0 t1 : Value} {H : Heap} {R : Value → Heap → Prop} (h : sh_slices_IndexFunc_S_int_int t0 t1 H R) : HCalls prg f_slices_IndexFunc_S_int_int [t0, t1] H R :=
  calls_ofF Tryz.func53 sh_slices_IndexFunc_S_int_int_chk (by rw [sh_slices_IndexFunc_S_int_int_den]; exact h)

-- (syngraph/solve.Problem).of$1
def sh_solve_Problem_of_1 (t0 t1 t2 : Value) (H : Heap) (R : Value → Heap → Prop) : Prop :=
  Mpu (fld 0 t1) fun t5 =>
  Mpu (ld1 H t5) fun t6 =>
  Mpu (ixS 8 t6 t0) fun t8 =>
  Mpu (fld 0 t8) fun t9 =>
  Mpu (ld1 H t9) fun t10 =>
  Mpu (ld1 H t2) fun t11 =>
  Mpu (binV .no .eql t10 t11) fun t12 =>
  R t12 H
theorem sh_solve_Problem_of_1_chk : fchkF prg [] Tryz.f54 3 = true := by kernel_rfl
theorem sh_solve_Problem_of_1_den (t0 t1 t2 : Value) (H : Heap) (R : Value → Heap → Prop) : fdenF prg [] Tryz.f54 [t0, t1, t2] H R = sh_solve_Problem_of_1 t0 t1 t2 H R := by kernel_rfl
theorem sh_solve_Problem_of_1_calls {t0 t1 t2 : Value} {H : Heap} {R : Value → Heap → Prop} (h : sh_solve_Problem_of_1 t0 t1 t2 H R) : HCalls prg f_solve_Problem_of_1 [t0, t1, t2] H R :=
  calls_ofF Tryz.func54 sh_solve_Problem_of_1_chk (by rw [sh_solve_Problem_of_1_den]; exact h)

-- slices.SortFunc[[]int,int]
def sh_slices_SortFunc_S_int_int (t0 t1 : Value) (H : Heap) (R : Value → Heap → Prop) : Prop :=
  Mpu (lenV t0) fun t6 =>
  Mpu (cvI .u64 t6) fun t10 =>
  Mcall prg f_math_bits_Len [t10] H fun t11 h1 =>
  Mcall prg f_slices_pdqsortCmpFunc_int [t0, (.int .i64 0), t6, t11, t1] h1 fun t13 h2 =>
  R (.tuple #[]) h2
theorem sh_slices_SortFunc_S_int_int_chk : fchkF prg [] Tryz.f55 2 = true := by kernel_rfl
theorem sh_slices_SortFunc_S_int_int_den (t0 t1 : Value) (H : Heap) (R : Value → Heap → Prop) : fdenF prg [] Tryz.f55 [t0, t1] H R = sh_slices_SortFunc_S_int_int t0 t1 H R := by kernel_rfl
theorem sh_slices_SortFunc_S_int_int_calls {t0 t1 : Value} {H : Heap} {R : Value → Heap → Prop} (h : sh_slices_SortFunc_S_int_int t0 t1 H R) : HCalls prg f_slices_SortFunc_S_int_int [t0, t1] H R :=
  calls_ofF Tryz.func55 sh_slices_SortFunc_S_int_int_chk (by rw [sh_slices_SortFunc_S_int_int_den]; exact h)

-- (syngraph/solve.Problem).newest$1
def sh_solve_Problem_newest_1 (t0 t1 t2 : Value) (H : Heap) (R : Value → Heap → Prop) : Prop :=
  Mpu (fld 0 t2) fun t6 =>
  Mpu (ld1 H t6) fun t7 =>
  Mpu (ixS 8 t7 t1) fun t9 =>
  Mpu (fld 1 t9) fun t10 =>
  Mpu (ldN 4 H t10) fun t11 =>
  Mpu (fld 0 t2) fun t12 =>
  Mpu (ld1 H t12) fun t13 =>
  Mpu (ixS 8 t13 t0) fun t15 =>
  Mpu (fld 1 t15) fun t16 =>
  Mpu (ldN 4 H t16) fun t17 =>
  Mcall prg f_version_Version_Cmp [t11, t17] H fun t18 h1 =>
  R t18 h1
theorem sh_solve_Problem_newest_1_chk : fchkF prg [] Tryz.f56 3 = true := by kernel_rfl
theorem sh_solve_Problem_newest_1_den (t0 t1 t2 : Value) (H : Heap) (R : Value → Heap → Prop) : fdenF prg [] Tryz.f56 [t0, t1, t2] H R = sh_solve_Problem_newest_1 t0 t1 t2 H R := by kernel_rfl
theorem sh_solve_Problem_newest_1_calls {t0 t1 t2 : Value} {H : Heap} {R : Value → Heap → Prop} (h : sh_solve_Problem_newest_1 t0 t1 t2 H R) : HCalls prg f_solve_Problem_newest_1 [t0, t1, t2] H R :=
  calls_ofF Tryz.func56 sh_solve_Problem_newest_1_chk (by rw [sh_solve_Problem_newest_1_den]; exact h)

-- (syngraph/solve.Problem).sorted$1
def sh_solve_Problem_sorted_1 (t0 t1 t2 : Value) (H : Heap) (R : Value → Heap → Prop) : Prop :=
  Mpu (fld 0 t2) fun t6 =>
  Mpu (ld1 H t6) fun t7 =>
  Mpu (ixS 8 t7 t0) fun t9 =>
  Mpu (fld 0 t9) fun t10 =>
  Mpu (ld1 H t10) fun t11 =>
  Mpu (fld 0 t2) fun t12 =>
  Mpu (ld1 H t12) fun t13 =>
  Mpu (ixS 8 t13 t1) fun t15 =>
  Mpu (fld 0 t15) fun t16 =>
  Mpu (ld1 H t16) fun t17 =>
  Mcall prg f_cmp_Compare_string [t11, t17] H fun t18 h1 =>
  R t18 h1
theorem sh_solve_Problem_sorted_1_chk : fchkF prg [] Tryz.f60 3 = true := by kernel_rfl
theorem sh_solve_Problem_sorted_1_den (t0 t1 t2 : Value) (H : Heap) (R : Value → Heap → Prop) : fdenF prg [] Tryz.f60 [t0, t1, t2] H R = sh_solve_Problem_sorted_1 t0 t1 t2 H R := by kernel_rfl
theorem sh_solve_Problem_sorted_1_calls {t0 t1 t2 : Value} {H : Heap} {R : Value → Heap → Prop} (h : sh_solve_Problem_sorted_1 t0 t1 t2 H R) : HCalls prg f_solve_Problem_sorted_1 [t0, t1, t2] H R :=
  calls_ofF Tryz.func60 sh_solve_Problem_sorted_1_chk (by rw [sh_solve_Problem_sorted_1_den]; exact h)

-- cmp.Compare[string]
def sh_cmp_Compare_string (t0 t1 : Value) (H : Heap) (R : Value → Heap → Prop) : Prop :=
  Mcall prg f_cmp_isNaN_string [t0] H fun t8 h1 =>
  Mcall prg f_cmp_isNaN_string [t1] h1 fun t10 h2 =>
  Mcd t8 (
    Mcd t10 (
      R (.int .i64 0) h2) (
      R (.int .i64 (-1)) h2)) (
    Mcd t10 (
      R (.int .i64 1) h2) (
      Mpu (binV .no .lss t0 t1) fun t16 =>
      Mcd t16 (
        R (.int .i64 (-1)) h2) (
        Mpu (binV .no .gtr t0 t1) fun t19 =>
        Mcd t19 (
          R (.int .i64 1) h2) (
          R (.int .i64 0) h2))))
theorem sh_cmp_Compare_string_chk : fchkF prg [] Tryz.f61 2 = true := by kernel_rfl
theorem sh_cmp_Compare_string_den (t0 t1 : Value) (H : Heap) (R : Value → Heap → Prop) : fdenF prg [] Tryz.f61 [t0, t1] H R = sh_cmp_Compare_string t0 t1 H R := by kernel_rfl
theorem sh_cmp_Compare_string_calls {t0 t1 : Value} {H : Heap} {R : Value → Heap → Prop} (h : sh_cmp_Compare_string t0 t1 H R) : HCalls prg f_cmp_Compare_string [t0, t1] H R :=
  calls_ofF Tryz.func61 sh_cmp_Compare_string_chk (by rw [sh_cmp_Compare_string_den]; exact h)

end Go.Proofs.YtanhgihfgmbojaaGreatDoor

/- PRINTED: clean texts -/
namespace Go.Proofs.YtanhgihfgmbojaaGreatDoor
open Go.X
set_option maxRecDepth 100000
-- slices.ContainsFunc[[]int,int]
def sh_slices_ContainsFunc_S_int_int (t0 t1 : Value) (H : Heap) (R : Value → Heap → Prop) : Prop :=
  Mcall prg f_slices_IndexFunc_S_int_int [t0, t1] H fun t7 h1 =>
  Mpu (binV .no .geq t7 (.int .i64 0)) fun t8 =>
  R t8 h1
theorem sh_slices_ContainsFunc_S_int_int_chk : fchkF prg [] Tryz.f62 2 = true := by kernel_rfl
theorem sh_slices_ContainsFunc_S_int_int_den (t0 t1 : Value) (H : Heap) (R : Value → Heap → Prop) : fdenF prg [] Tryz.f62 [t0, t1] H R = sh_slices_ContainsFunc_S_int_int t0 t1 H R := by kernel_rfl
theorem sh_slices_ContainsFunc_S_int_int_calls {t0 t1 : Value} {H : Heap} {R : Value → Heap → Prop} (h : sh_slices_ContainsFunc_S_int_int t0 t1 H R) : HCalls prg f_slices_ContainsFunc_S_int_int [t0, t1] H R :=
  calls_ofF Tryz.func62 sh_slices_ContainsFunc_S_int_int_chk (by rw [sh_slices_ContainsFunc_S_int_int_den]; exact h)

-- (syngraph/solve.Problem).clash$1
def sh_solve_Problem_clash_1 (t0 t1 t2 : Value) (H : Heap) (R : Value → Heap → Prop) : Prop :=
  Mpu (fld 0 t1) fun t5 =>
  Mpu (ld1 H t5) fun t6 =>
  Mpu (ixS 8 t6 t0) fun t8 =>
  Mpu (ldN 8 H t8) fun t9 =>
  Mpu (fld 0 t1) fun t10 =>
  Mpu (ld1 H t10) fun t11 =>
  Mpu (ld1 H t2) fun t12 =>
  Mpu (ixS 8 t11 t12) fun t13 =>
  Mpu (ldN 8 H t13) fun t14 =>
  Mcall prg f_solve_refuses [t9, t14] H fun t15 h1 =>
  J1 (fun k2 => Mif t15 false (
      Mpu (fld 0 t1) fun t17 =>
      Mpu (ld1 h1 t17) fun t18 =>
      Mpu (ld1 h1 t2) fun t19 =>
      Mpu (ixS 8 t18 t19) fun t20 =>
      Mpu (ldN 8 h1 t20) fun t21 =>
      Mpu (fld 0 t1) fun t22 =>
      Mpu (ld1 h1 t22) fun t23 =>
      Mpu (ixS 8 t23 t0) fun t25 =>
      Mpu (ldN 8 h1 t25) fun t26 =>
      Mcall prg f_solve_refuses [t21, t26] h1 fun t27 h3 =>
      k2 t27 h3) (
      k2 undef h1)) fun t27_2 h4 =>
  Mpu (pickV t15 (.bool true) t27_2) fun t28 =>
  R t28 h4
theorem sh_solve_Problem_clash_1_chk : fchkF prg [27] Tryz.f63 3 = true := by kernel_rfl
theorem sh_solve_Problem_clash_1_den (t0 t1 t2 : Value) (H : Heap) (R : Value → Heap → Prop) : fdenF prg [27] Tryz.f63 [t0, t1, t2] H R = sh_solve_Problem_clash_1 t0 t1 t2 H R := by kernel_rfl
theorem sh_solve_Problem_clash_1_calls {t0 t1 t2 : Value} {H : Heap} {R : Value → Heap → Prop} (h : sh_solve_Problem_clash_1 t0 t1 t2 H R) : HCalls prg f_solve_Problem_clash_1 [t0, t1, t2] H R :=
  calls_ofF Tryz.func63 sh_solve_Problem_clash_1_chk (by rw [sh_solve_Problem_clash_1_den]; exact h)

-- syngraph/solve.refuses
def sh_solve_refuses (t0 t1 : Value) (H : Heap) (R : Value → Heap → Prop) : Prop :=
  Mnew H T_manifest_Manifest (some (Value.cells t0)) fun t2 h1 =>
  Mnew h1 T_manifest_Manifest (some (Value.cells t1)) fun t3 h2 =>
  Mpu (fld 6 t2) fun t5 =>
  Mpu (ld1 h2 t5) fun t6 =>
  Mcall prg f_slices_ContainsFunc_S_manifest_Dep_manifest_Dep [t6, (.func (.func f_solve_refuses_1) #[] #[t3])] h2 fun t8 h3 =>
  R t8 h3
theorem sh_solve_refuses_chk : fchkF prg [] Tryz.f64 2 = true := by kernel_rfl
theorem sh_solve_refuses_den (t0 t1 : Value) (H : Heap) (R : Value → Heap → Prop) : fdenF prg [] Tryz.f64 [t0, t1] H R = sh_solve_refuses t0 t1 H R := by kernel_rfl
theorem sh_solve_refuses_calls {t0 t1 : Value} {H : Heap} {R : Value → Heap → Prop} (h : sh_solve_refuses t0 t1 H R) : HCalls prg f_solve_refuses [t0, t1] H R :=
  calls_ofF Tryz.func64 sh_solve_refuses_chk (by rw [sh_solve_refuses_den]; exact h)

-- slices.Grow[[]syngraph/manifest.Dep,syngraph/manifest.Dep]
def sh_slices_Grow_S_manifest_Dep_manifest_Dep (t0 t1 : Value) (H : Heap) (R : Value → Heap → Prop) : Prop :=
  J0 (fun k1 =>
    Mpu (binV .no .lss t1 (.int .i64 0)) fun t6 =>
    Mcd t6 (
      Mpu (mkI prg T_string (.string ⟨#[99, 97, 110, 110, 111, 116, 32, 98, 101, 32, 110, 101, 103, 97, 116, 105, 118, 101]⟩)) fun t7 =>
      False) (
      k1 H)) fun h2 =>
  J1 (fun k3 =>
    Mpu (capV t0) fun t10 =>
    Mpu (lenV t0) fun t12 =>
    Mpu (binV .no .sub t10 t12) fun t13 =>
    Mpu (binV .no .sub t1 t13) fun t14 =>
    Mpu (binV .no .gtr t14 (.int .i64 0)) fun t16 =>
    Mcd t16 (
      Mpu (capV t0) fun t19 =>
      Mpu (slS 6 t0 none (some t19) none) fun t20 =>
      Mapz T_manifest_Dep 6 72 h2 t20 t14 (zcells prg T_manifest_Dep) fun t22 h5 =>
      Mpu (lenV t0) fun t24 =>
      Mpu (slS 6 t22 none (some t24) none) fun t25 =>
      k3 t25 h5) (
      k3 t0 h2)) fun t0_3 h4 =>
  R t0_3 h4
theorem sh_slices_Grow_S_manifest_Dep_manifest_Dep_chk : fchkF prg [0] Tryz.f65 2 = true := by kernel_rfl
theorem sh_slices_Grow_S_manifest_Dep_manifest_Dep_den (t0 t1 : Value) (H : Heap) (R : Value → Heap → Prop) : fdenF prg [0] Tryz.f65 [t0, t1] H R = sh_slices_Grow_S_manifest_Dep_manifest_Dep t0 t1 H R := by kernel_rfl
theorem sh_slices_Grow_S_manifest_Dep_manifest_Dep_calls {t0 t1 : Value} {H : Heap} {R : Value → Heap → Prop} (h : sh_slices_Grow_S_manifest_Dep_manifest_Dep t0 t1 H R) : HCalls prg f_slices_Grow_S_manifest_Dep_manifest_Dep [t0, t1] H R :=
  calls_ofF Tryz.func65 sh_slices_Grow_S_manifest_Dep_manifest_Dep_chk (by rw [sh_slices_Grow_S_manifest_Dep_manifest_Dep_den]; exact h)

-- (syngraph/manifest.Manifest).deps
def sh_manifest_Manifest_deps (t0 t1 : Value) (H : Heap) (R : Value → Heap → Prop) : Prop :=
  Mnew H T_manifest_Manifest (some (Value.cells t0)) fun t2 h1 =>
  J1 (fun k2 =>
    Mpu (lenV t1) fun t8 =>
    L1 (fun k4 => fun t9_2 h5 =>
      Mpu (binV .no .lss t9_2 t8) fun t10 =>
      Mcd t10 (
        Mpu (ixS 6 t1 t9_2) fun t11 =>
        Mpu (ldN 6 h5 t11) fun t12 =>
        Mnew h5 T_manifest_Dep (zcells prg T_manifest_Dep) fun t6 h6 =>
        Mwr (stN 6 h6 t6 t12) fun h7 =>
        Mpu (fld 0 t6) fun t13 =>
        Mpu (ld1 h7 t13) fun t14 =>
        Mcall prg f_manifest_Name [t14] h7 fun t15 h8 =>
        Mpu (unV .not t15) fun t16 =>
        J1 (fun k9 => Mif t16 false (
            Mpu (fld 0 t6) fun t18 =>
            Mpu (ld1 h8 t18) fun t19 =>
            Mpu (fld 0 t2) fun t20 =>
            Mpu (ld1 h8 t20) fun t21 =>
            Mpu (binV .no .eql t19 t21) fun t22 =>
            k9 t22 h8) (
            k9 undef h8)) fun t22_2 h10 =>
        Mpu (pickV t16 (.bool true) t22_2) fun t23 =>
        J1 (fun k11 => Mif t23 false (
            Mpu (fld 1 t6) fun t25 =>
            Mpu (ldN 5 h10 t25) fun t26 =>
            Mcall prg f_version_Want_Right [t26] h10 fun t27 h12 =>
            Mpu (unV .not t27) fun t28 =>
            k11 t28 h12) (
            k11 undef h10)) fun t28_2 h13 =>
        Mpu (pickV t23 (.bool true) t28_2) fun t29 =>
        Mcd t29 (
          R (.bool false) h13) (
          Mpu (binV .no .add t9_2 (.int .i64 1)) fun t30 =>
          k4 t30 h13)) (
        k2 t9_2 h5)) ((.int .i64 0)) h1) fun t9_4 h3 =>
  Mpu (lenV t1) fun t32 =>
  Mpu (binV .no .leq t32 (.int .i64 16)) fun t33 =>
  J1 (fun k14 => Mif t33 true (
      Mcall prg f_manifest_rising_manifest_Dep [t1, (.func (.func f_manifest_Dep_name) #[] #[])] h3 fun t36 h15 =>
      k14 t36 h15) (
      k14 undef h3)) fun t36_2 h16 =>
  Mpu (pickV t33 t36_2 (.bool false)) fun t37 =>
  R t37 h16
theorem sh_manifest_Manifest_deps_chk : fchkF prg [9, 22, 28, 36] Tryz.f66 2 = true := by kernel_rfl
theorem sh_manifest_Manifest_deps_den (t0 t1 : Value) (H : Heap) (R : Value → Heap → Prop) : fdenF prg [9, 22, 28, 36] Tryz.f66 [t0, t1] H R = sh_manifest_Manifest_deps t0 t1 H R := by kernel_rfl
theorem sh_manifest_Manifest_deps_calls {t0 t1 : Value} {H : Heap} {R : Value → Heap → Prop} (h : sh_manifest_Manifest_deps t0 t1 H R) : HCalls prg f_manifest_Manifest_deps [t0, t1] H R :=
  calls_ofF Tryz.func66 sh_manifest_Manifest_deps_chk (by rw [sh_manifest_Manifest_deps_den]; exact h)

-- (syngraph/manifest.Manifest).files
def sh_manifest_Manifest_files (t0 : Value) (H : Heap) (R : Value → Heap → Prop) : Prop :=
  Mnew H T_manifest_Manifest (some (Value.cells t0)) fun t1 h1 =>
  Mpu (fld 7 t1) fun t7 =>
  Mpu (ld1 h1 t7) fun t8 =>
  Mpu (lenV t8) fun t9 =>
  Mpu (binV .no .gtr t9 (.int .i64 64)) fun t10 =>
  J1 (fun k2 => Mif t10 false (
      Mpu (fld 7 t1) fun t12 =>
      Mpu (ld1 h1 t12) fun t13 =>
      Mcall prg f_manifest_rising_manifest_File [t13, (.func (.func f_manifest_File_name) #[] #[])] h1 fun t14 h3 =>
      Mpu (unV .not t14) fun t15 =>
      k2 t15 h3) (
      k2 undef h1)) fun t15_2 h4 =>
  Mpu (pickV t10 (.bool true) t15_2) fun t16 =>
  Mcd t16 (
    R (.bool false) h4) (
    J1 (fun k5 =>
      Mpu (fld 7 t1) fun t17 =>
      Mpu (ld1 h4 t17) fun t18 =>
      Mpu (lenV t18) fun t19 =>
      L1 (fun k7 => fun t20_2 h8 =>
        Mpu (binV .no .lss t20_2 t19) fun t21 =>
        Mcd t21 (
          J4 (fun k9 =>
            Mpu (ixS 34 t18 t20_2) fun t23 =>
            Mpu (ldN 34 h8 t23) fun t24 =>
            Mnew h8 T_manifest_File (zcells prg T_manifest_File) fun t4 h11 =>
            Mwr (stN 34 h11 t4 t24) fun h12 =>
            Mpu (fld 0 t4) fun t25 =>
            Mpu (ld1 h12 t25) fun t26 =>
            Mcall prg f_files_Name [t26] h12 fun t27 h13 =>
            Mpu (unV .not t27) fun t28 =>
            J1 (fun k14 => Mif t28 false (
                Mpu (fld 0 t4) fun t30 =>
                Mpu (ld1 h13 t30) fun t31 =>
                Mcall prg f_manifest_under [t31, (.string ⟨#[118, 97, 114]⟩)] h13 fun t32 h15 =>
                k14 t32 h15) (
                k14 undef h13)) fun t32_2 h16 =>
            Mpu (pickV t28 (.bool true) t32_2) fun t33 =>
            J1 (fun k17 => Mif t33 false (
                Mpu (fld 33 t4) fun t35 =>
                Mpu (ld1 h16 t35) fun t36 =>
                Mpu (binV .no .lss t36 (.int .i64 0)) fun t37 =>
                k17 t37 h16) (
                k17 undef h16)) fun t37_2 h18 =>
            Mpu (pickV t33 (.bool true) t37_2) fun t38 =>
            J1 (fun k19 => Mif t38 false (
                Mpu (fld 33 t4) fun t40 =>
                Mpu (ld1 h18 t40) fun t41 =>
                Mpu (binV .no .gtr t41 (.int .i64 1048576)) fun t42 =>
                k19 t42 h18) (
                k19 undef h18)) fun t42_2 h20 =>
            Mpu (pickV t38 (.bool true) t42_2) fun t43 =>
            Mcd t43 (
              R (.bool false) h20) (
              Mpu (fld 7 t1) fun t44 =>
              Mpu (ld1 h20 t44) fun t45 =>
              Mpu (lenV t45) fun t46 =>
              L1 (fun k21 => fun t47_2 h22 =>
                Mpu (binV .no .lss t47_2 t46) fun t48 =>
                Mcd t48 (
                  Mpu (ixS 34 t45 t47_2) fun t50 =>
                  Mpu (ldN 34 h22 t50) fun t51 =>
                  Mnew h22 T_manifest_File (zcells prg T_manifest_File) fun t6 h23 =>
                  Mwr (stN 34 h23 t6 t51) fun h24 =>
                  Mpu (binV .no .neq t20_2 t47_2) fun t54 =>
                  J1 (fun k25 => Mif t54 true (
                      Mpu (fld 0 t6) fun t56 =>
                      Mpu (ld1 h24 t56) fun t57 =>
                      Mpu (fld 0 t4) fun t58 =>
                      Mpu (ld1 h24 t58) fun t59 =>
                      Mcall prg f_manifest_under [t57, t59] h24 fun t60 h26 =>
                      k25 t60 h26) (
                      k25 undef h24)) fun t60_2 h27 =>
                  Mpu (pickV t54 t60_2 (.bool false)) fun t61 =>
                  Mcd t61 (
                    R (.bool false) h27) (
                    Mpu (binV .no .add t47_2 (.int .i64 1)) fun t62 =>
                    k21 t62 h27)) (
                  k9 t32_2 t37_2 t42_2 t47_2 h22)) ((.int .i64 0)) h20)) fun t32_3 t37_3 t42_3 t47_4 h10 =>
          Mpu (binV .no .add t20_2 (.int .i64 1)) fun t63 =>
          k7 t63 h10) (
          k5 t20_2 h8)) ((.int .i64 0)) h4) fun t20_4 h6 =>
    R (.bool true) h6)
theorem sh_manifest_Manifest_files_chk : fchkF prg [15, 20, 32, 37, 42, 47, 60] Tryz.f67 1 = true := by kernel_rfl
theorem sh_manifest_Manifest_files_den (t0 : Value) (H : Heap) (R : Value → Heap → Prop) : fdenF prg [15, 20, 32, 37, 42, 47, 60] Tryz.f67 [t0] H R = sh_manifest_Manifest_files t0 H R := by kernel_rfl
theorem sh_manifest_Manifest_files_calls {t0 : Value} {H : Heap} {R : Value → Heap → Prop} (h : sh_manifest_Manifest_files t0 H R) : HCalls prg f_manifest_Manifest_files [t0] H R :=
  calls_ofF Tryz.func67 sh_manifest_Manifest_files_chk (by rw [sh_manifest_Manifest_files_den]; exact h)

-- slices.IndexFunc[[]syngraph/manifest.Manifest,syngraph/manifest.Manifest]
def sh_slices_IndexFunc_S_manifest_Manifest_manifest_Manifest (t0 t1 : Value) (H : Heap) (R : Value → Heap → Prop) : Prop :=
  J1 (fun k1 =>
    Mpu (lenV t0) fun t7 =>
    L1 (fun k3 => fun t8_2 h4 =>
      Mpu (binV .no .lss t8_2 t7) fun t9 =>
      Mcd t9 (
        Mpu (ixS 8 t0 t8_2) fun t14 =>
        Mpu (ldN 8 h4 t14) fun t15 =>
        Mcallv prg t1 [t15] h4 fun t16 h5 =>
        Mcd t16 (
          R t8_2 h5) (
          Mpu (binV .no .add t8_2 (.int .i64 1)) fun t18 =>
          k3 t18 h5)) (
        k1 t8_2 h4)) ((.int .i64 0)) H) fun t8_4 h2 =>
  R (.int .i64 (-1)) h2
theorem sh_slices_IndexFunc_S_manifest_Manifest_manifest_Manifest_chk : fchkF prg [8] Tryz.f70 2 = true := by kernel_rfl
theorem sh_slices_IndexFunc_S_manifest_Manifest_manifest_Manifest_den (t0 t1 : Value) (H : Heap) (R : Value → Heap → Prop) : fdenF prg [8] Tryz.f70 [t0, t1] H R = sh_slices_IndexFunc_S_manifest_Manifest_manifest_Manifest t0 t1 H R := by kernel_rfl
theorem sh_slices_IndexFunc_S_manifest_Manifest_manifest_Manifest_calls {t0 t1 : Value} {H : Heap} {R : Value → Heap → Prop} (h : sh_slices_IndexFunc_S_manifest_Manifest_manifest_Manifest t0 t1 H R) : HCalls prg f_slices_IndexFunc_S_manifest_Manifest_manifest_Manifest [t0, t1] H R :=
  calls_ofF Tryz.func70 sh_slices_IndexFunc_S_manifest_Manifest_manifest_Manifest_chk (by rw [sh_slices_IndexFunc_S_manifest_Manifest_manifest_Manifest_den]; exact h)

-- slices.Index[[]int,int]
-- (syngraph/solve.Problem).asked$1
def sh_solve_Problem_asked_1 (t0 t1 t2 : Value) (H : Heap) (R : Value → Heap → Prop) : Prop :=
  J1 (fun k1 =>
    Mpu (fld 1 t1) fun t10 =>
    Mpu (ld1 H t10) fun t11 =>
    Mpu (lenV t11) fun t12 =>
    L1 (fun k3 => fun t13_2 h4 =>
      Mpu (binV .no .lss t13_2 t12) fun t14 =>
      Mcd t14 (
        Mpu (ixS 6 t11 t13_2) fun t15 =>
        Mpu (ldN 6 h4 t15) fun t16 =>
        Mnew h4 T_manifest_Dep (zcells prg T_manifest_Dep) fun t5 h5 =>
        Mwr (stN 6 h5 t5 t16) fun h6 =>
        Mpu (ldN 6 h6 t5) fun t18 =>
        Mcallv prg t0 [t18] h6 fun t19 h7 =>
        Mpu (unV .not t19) fun t20 =>
        Mcd t20 (
          R (.tuple #[]) h7) (
          Mpu (binV .no .add t13_2 (.int .i64 1)) fun t21 =>
          k3 t21 h7)) (
        k1 t13_2 h4)) ((.int .i64 0)) H) fun t13_4 h2 =>
  Mpu (ld1 h2 t2) fun t22 =>
  Mpu (lenV t22) fun t23 =>
  L1 (fun k8 => fun t24_2 h9 =>
    Mpu (binV .no .lss t24_2 t23) fun t25 =>
    Mcd t25 (
      J1 (fun k10 =>
        Mpu (ixS 1 t22 t24_2) fun t26 =>
        Mpu (ld1 h9 t26) fun t27 =>
        Mpu (fld 0 t1) fun t28 =>
        Mpu (ld1 h9 t28) fun t29 =>
        Mpu (ixS 8 t29 t27) fun t31 =>
        Mpu (fld 5 t31) fun t32 =>
        Mpu (ld1 h9 t32) fun t33 =>
        Mpu (lenV t33) fun t34 =>
        L1 (fun k12 => fun t35_2 h13 =>
          Mpu (binV .no .lss t35_2 t34) fun t36 =>
          Mcd t36 (
            Mpu (ixS 6 t33 t35_2) fun t37 =>
            Mpu (ldN 6 h13 t37) fun t38 =>
            Mnew h13 T_manifest_Dep (zcells prg T_manifest_Dep) fun t9 h14 =>
            Mwr (stN 6 h14 t9 t38) fun h15 =>
            Mpu (ldN 6 h15 t9) fun t40 =>
            Mcallv prg t0 [t40] h15 fun t41 h16 =>
            Mpu (unV .not t41) fun t42 =>
            Mcd t42 (
              R (.tuple #[]) h16) (
              Mpu (binV .no .add t35_2 (.int .i64 1)) fun t43 =>
              k12 t43 h16)) (
            k10 t35_2 h13)) ((.int .i64 0)) h9) fun t35_4 h11 =>
      Mpu (binV .no .add t24_2 (.int .i64 1)) fun t44 =>
      k8 t44 h11) (
      R (.tuple #[]) h9)) ((.int .i64 0)) h2
theorem sh_solve_Problem_asked_1_chk : fchkF prg [13, 24, 35] Tryz.f74 3 = true := by kernel_rfl
theorem sh_solve_Problem_asked_1_den (t0 t1 t2 : Value) (H : Heap) (R : Value → Heap → Prop) : fdenF prg [13, 24, 35] Tryz.f74 [t0, t1, t2] H R = sh_solve_Problem_asked_1 t0 t1 t2 H R := by kernel_rfl
theorem sh_solve_Problem_asked_1_calls {t0 t1 t2 : Value} {H : Heap} {R : Value → Heap → Prop} (h : sh_solve_Problem_asked_1 t0 t1 t2 H R) : HCalls prg f_solve_Problem_asked_1 [t0, t1, t2] H R :=
  calls_ofF Tryz.func74 sh_solve_Problem_asked_1_chk (by rw [sh_solve_Problem_asked_1_den]; exact h)

-- (syngraph/solve.Problem).ready$1
end Go.Proofs.YtanhgihfgmbojaaGreatDoor

/- PRINTED: clean texts -/
namespace Go.Proofs.YtanhgihfgmbojaaGreatDoor
open Go.X
set_option maxRecDepth 100000
-- slices.ContainsFunc[[]syngraph/manifest.Dep,syngraph/manifest.Dep]
def sh_slices_ContainsFunc_S_manifest_Dep_manifest_Dep (t0 t1 : Value) (H : Heap) (R : Value → Heap → Prop) : Prop :=
  Mcall prg f_slices_IndexFunc_S_manifest_Dep_manifest_Dep [t0, t1] H fun t7 h1 =>
  Mpu (binV .no .geq t7 (.int .i64 0)) fun t8 =>
  R t8 h1
theorem sh_slices_ContainsFunc_S_manifest_Dep_manifest_Dep_chk : fchkF prg [] Tryz.f76 2 = true := by kernel_rfl
theorem sh_slices_ContainsFunc_S_manifest_Dep_manifest_Dep_den (t0 t1 : Value) (H : Heap) (R : Value → Heap → Prop) : fdenF prg [] Tryz.f76 [t0, t1] H R = sh_slices_ContainsFunc_S_manifest_Dep_manifest_Dep t0 t1 H R := by kernel_rfl
theorem sh_slices_ContainsFunc_S_manifest_Dep_manifest_Dep_calls {t0 t1 : Value} {H : Heap} {R : Value → Heap → Prop} (h : sh_slices_ContainsFunc_S_manifest_Dep_manifest_Dep t0 t1 H R) : HCalls prg f_slices_ContainsFunc_S_manifest_Dep_manifest_Dep [t0, t1] H R :=
  calls_ofF Tryz.func76 sh_slices_ContainsFunc_S_manifest_Dep_manifest_Dep_chk (by rw [sh_slices_ContainsFunc_S_manifest_Dep_manifest_Dep_den]; exact h)

-- (syngraph/solve.Problem).ready$1$1
-- slices.rotateRight[string]
-- slices.pdqsortCmpFunc[int]
def sh_slices_pdqsortCmpFunc_int (t0 t1 t2 t3 t4 : Value) (H : Heap) (R : Value → Heap → Prop) : Prop :=
  L5 (fun k1 => fun t1_2 t2_2 t3_2 t10_2 t11_2 h2 =>
    Mpu (binV .no .sub t2_2 t1_2) fun t23 =>
    Mpu (binV .no .leq t23 (.int .i64 12)) fun t25 =>
    Mcd t25 (
      Mcall prg f_slices_insertionSortCmpFunc_int [t0, t1_2, t2_2, t4] h2 fun t30 h3 =>
      R (.tuple #[]) h3) (
      Mpu (binV .no .eql t3_2 (.int .i64 0)) fun t32 =>
      Mcd t32 (
        Mcall prg f_slices_heapSortCmpFunc_int [t0, t1_2, t2_2, t4] h2 fun t37 h4 =>
        R (.tuple #[]) h4) (
        J1 (fun k5 =>
          Mpu (unV .not t10_2) fun t39 =>
          Mcd t39 (
            Mcall prg f_slices_breakPatternsCmpFunc_int [t0, t1_2, t2_2, t4] h2 fun t44 h7 =>
            Mpu (binV .no .sub t3_2 (.int .i64 1)) fun t46 =>
            k5 t46 h7) (
            k5 t3_2 h2)) fun t3_4 h6 =>
        Mcall prg f_slices_choosePivotCmpFunc_int [t0, t1_2, t2_2, t4] h6 fun t52 h8 =>
        Mpu (extV 0 t52) fun t53 =>
        Mpu (extV 1 t52) fun t54 =>
        J2 (fun k9 =>
          Mpu (binV .no .eql t54 (.int .i64 2)) fun t56 =>
          Mcd t56 (
            Mcall prg f_slices_reverseRangeCmpFunc_int [t0, t1_2, t2_2, t4] h8 fun t61 h11 =>
            Mpu (binV .no .sub t2_2 (.int .i64 1)) fun t63 =>
            Mpu (binV .no .sub t53 t1_2) fun t66 =>
            Mpu (binV .no .sub t63 t66) fun t67 =>
            k9 t67 (.int .i64 1) h11) (
            k9 t53 t54 h8)) fun t13_3 t14_3 h10 =>
        J2 (fun k12 =>
          J1 (fun k14 => Mif t10_2 true (
              k14 t11_2 h10) (
              k14 undef h10)) fun t70_2 h15 =>
          Mpu (pickV t10_2 t70_2 (.bool false)) fun t71 =>
          J1 (fun k16 => Mif t71 true (
              Mpu (binV .no .eql t14_3 (.int .i64 1)) fun t74 =>
              k16 t74 h15) (
              k16 undef h15)) fun t74_2 h17 =>
          Mpu (pickV t71 t74_2 (.bool false)) fun t75 =>
          Mcd t75 (
            Mcall prg f_slices_partialInsertionSortCmpFunc_int [t0, t1_2, t2_2, t4] h17 fun t80 h18 =>
            Mcd t80 (
              R (.tuple #[]) h18) (
              k12 t70_2 t74_2 h18)) (
            k12 t70_2 t74_2 h17)) fun t70_3 t74_3 h13 =>
        Mpu (binV .no .gtr t1_2 (.int .i64 0)) fun t82 =>
        J1 (fun k19 => Mif t82 true (
            Mpu (binV .no .sub t1_2 (.int .i64 1)) fun t87 =>
            Mpu (ixS 1 t0 t87) fun t88 =>
            Mpu (ld1 h13 t88) fun t89 =>
            Mpu (ixS 1 t0 t13_3) fun t92 =>
            Mpu (ld1 h13 t92) fun t93 =>
            Mcallv prg t4 [t89, t93] h13 fun t94 h20 =>
            Mpu (binV .no .lss t94 (.int .i64 0)) fun t95 =>
            Mpu (unV .not t95) fun t96 =>
            k19 t96 h20) (
            k19 undef h13)) fun t96_2 h21 =>
        Mpu (pickV t82 t96_2 (.bool false)) fun t97 =>
        Mcd t97 (
          Mcall prg f_slices_partitionEqualCmpFunc_int [t0, t1_2, t2_2, t13_3, t4] h21 fun t103 h22 =>
          k1 t103 t2_2 t3_4 t10_2 t11_2 h22) (
          Mcall prg f_slices_partitionCmpFunc_int [t0, t1_2, t2_2, t13_3, t4] h21 fun t111 h23 =>
          Mpu (extV 0 t111) fun t112 =>
          Mpu (extV 1 t111) fun t113 =>
          Mpu (binV .no .sub t112 t1_2) fun t117 =>
          Mpu (binV .no .sub t2_2 t112) fun t120 =>
          Mpu (binV .no .quo t23 (.int .i64 8)) fun t122 =>
          Mpu (binV .no .lss t117 t120) fun t125 =>
          Mcd t125 (
            Mpu (binV .no .geq t117 t122) fun t128 =>
            Mcall prg f_slices_pdqsortCmpFunc_int [t0, t1_2, t112, t3_4, t4] h23 fun t134 h24 =>
            Mpu (binV .no .add t112 (.int .i64 1)) fun t136 =>
            k1 t136 t2_2 t3_4 t128 t113 h24) (
            Mpu (binV .no .geq t120 t122) fun t139 =>
            Mpu (binV .no .add t112 (.int .i64 1)) fun t142 =>
            Mcall prg f_slices_pdqsortCmpFunc_int [t0, t142, t2_2, t3_4, t4] h23 fun t146 h25 =>
            k1 t1_2 t112 t3_4 t139 t113 h25))))) (t1) (t2) (t3) ((.bool true)) ((.bool true)) H
theorem sh_slices_pdqsortCmpFunc_int_chk : fchkF prg [1, 2, 3, 10, 11, 13, 14, 70, 74, 96] Tryz.f87 5 = true := by kernel_rfl
theorem sh_slices_pdqsortCmpFunc_int_den (t0 t1 t2 t3 t4 : Value) (H : Heap) (R : Value → Heap → Prop) : fdenF prg [1, 2, 3, 10, 11, 13, 14, 70, 74, 96] Tryz.f87 [t0, t1, t2, t3, t4] H R = sh_slices_pdqsortCmpFunc_int t0 t1 t2 t3 t4 H R := by kernel_rfl
theorem sh_slices_pdqsortCmpFunc_int_calls {t0 t1 t2 t3 t4 : Value} {H : Heap} {R : Value → Heap → Prop} (h : sh_slices_pdqsortCmpFunc_int t0 t1 t2 t3 t4 H R) : HCalls prg f_slices_pdqsortCmpFunc_int [t0, t1, t2, t3, t4] H R :=
  calls_ofF Tryz.func87 sh_slices_pdqsortCmpFunc_int_chk (by rw [sh_slices_pdqsortCmpFunc_int_den]; exact h)

-- math/bits.Len
def sh_math_bits_Len (t0 : Value) (H : Heap) (R : Value → Heap → Prop) : Prop :=
  Mcd (.bool false) (
    Mpu (cvI .u32 t0) fun t4 =>
    Mcall prg f_math_bits_Len32 [t4] H fun t5 h1 =>
    R t5 h1) (
    Mcall prg f_math_bits_Len64 [t0] H fun t7 h2 =>
    R t7 h2)
theorem sh_math_bits_Len_chk : fchkF prg [] Tryz.f88 1 = true := by kernel_rfl
theorem sh_math_bits_Len_den (t0 : Value) (H : Heap) (R : Value → Heap → Prop) : fdenF prg [] Tryz.f88 [t0] H R = sh_math_bits_Len t0 H R := by kernel_rfl
theorem sh_math_bits_Len_calls {t0 : Value} {H : Heap} {R : Value → Heap → Prop} (h : sh_math_bits_Len t0 H R) : HCalls prg f_math_bits_Len [t0] H R :=
  calls_ofF Tryz.func88 sh_math_bits_Len_chk (by rw [sh_math_bits_Len_den]; exact h)

-- cmp.isNaN[string]
def sh_cmp_isNaN_string (t0 : Value) (H : Heap) (R : Value → Heap → Prop) : Prop :=
  Mpu (binV .no .neq t0 t0) fun t5 =>
  R t5 H
theorem sh_cmp_isNaN_string_chk : fchkF prg [] Tryz.f92 1 = true := by kernel_rfl
theorem sh_cmp_isNaN_string_den (t0 : Value) (H : Heap) (R : Value → Heap → Prop) : fdenF prg [] Tryz.f92 [t0] H R = sh_cmp_isNaN_string t0 H R := by kernel_rfl
theorem sh_cmp_isNaN_string_calls {t0 : Value} {H : Heap} {R : Value → Heap → Prop} (h : sh_cmp_isNaN_string t0 H R) : HCalls prg f_cmp_isNaN_string [t0] H R :=
  calls_ofF Tryz.func92 sh_cmp_isNaN_string_chk (by rw [sh_cmp_isNaN_string_den]; exact h)

-- syngraph/solve.refuses$1
def sh_solve_refuses_1 (t0 t1 : Value) (H : Heap) (R : Value → Heap → Prop) : Prop :=
  Mnew H T_manifest_Dep (some (Value.cells t0)) fun t2 h1 =>
  Mpu (fld 0 t2) fun t4 =>
  Mpu (ld1 h1 t4) fun t5 =>
  Mpu (fld 0 t1) fun t6 =>
  Mpu (ld1 h1 t6) fun t7 =>
  Mpu (binV .no .eql t5 t7) fun t8 =>
  J1 (fun k2 => Mif t8 true (
      Mpu (fld 1 t2) fun t10 =>
      Mpu (ldN 5 h1 t10) fun t11 =>
      Mpu (fld 1 t1) fun t12 =>
      Mpu (ldN 4 h1 t12) fun t13 =>
      Mcall prg f_version_Want_Fits [t11, t13] h1 fun t14 h3 =>
      k2 t14 h3) (
      k2 undef h1)) fun t14_2 h4 =>
  Mpu (pickV t8 t14_2 (.bool false)) fun t15 =>
  R t15 h4
theorem sh_solve_refuses_1_chk : fchkF prg [14] Tryz.f93 2 = true := by kernel_rfl
theorem sh_solve_refuses_1_den (t0 t1 : Value) (H : Heap) (R : Value → Heap → Prop) : fdenF prg [14] Tryz.f93 [t0, t1] H R = sh_solve_refuses_1 t0 t1 H R := by kernel_rfl
theorem sh_solve_refuses_1_calls {t0 t1 : Value} {H : Heap} {R : Value → Heap → Prop} (h : sh_solve_refuses_1 t0 t1 H R) : HCalls prg f_solve_refuses_1 [t0, t1] H R :=
  calls_ofF Tryz.func93 sh_solve_refuses_1_chk (by rw [sh_solve_refuses_1_den]; exact h)

-- syngraph/manifest.rising[syngraph/manifest.Dep]
def sh_manifest_rising_manifest_Dep (t0 t1 : Value) (H : Heap) (R : Value → Heap → Prop) : Prop :=
  J1 (fun k1 =>
    L1 (fun k3 => fun t5_2 h4 =>
      Mpu (lenV t0) fun t8 =>
      Mpu (binV .no .lss t5_2 t8) fun t9 =>
      Mcd t9 (
        Mpu (binV .no .sub t5_2 (.int .i64 1)) fun t15 =>
        Mpu (ixS 6 t0 t15) fun t16 =>
        Mpu (ldN 6 h4 t16) fun t17 =>
        Mpu (ixS 6 t0 t5_2) fun t22 =>
        Mpu (ldN 6 h4 t22) fun t23 =>
        Mcallv prg t1 [t17] h4 fun t18 h5 =>
        Mre [(ldN 6 h5 t22, t23)] (
        Mcallv prg t1 [t23] h5 fun t24 h6 =>
        Mpu (binV .no .geq t18 t24) fun t25 =>
        Mcd t25 (
          R (.bool false) h6) (
          Mpu (binV .no .add t5_2 (.int .i64 1)) fun t11 =>
          k3 t11 h6))) (
        k1 t5_2 h4)) ((.int .i64 1)) H) fun t5_4 h2 =>
  R (.bool true) h2
theorem sh_manifest_rising_manifest_Dep_chk : fchkF prg [5] Tryz.f94 2 = true := by kernel_rfl
theorem sh_manifest_rising_manifest_Dep_den (t0 t1 : Value) (H : Heap) (R : Value → Heap → Prop) : fdenF prg [5] Tryz.f94 [t0, t1] H R = sh_manifest_rising_manifest_Dep t0 t1 H R := by kernel_rfl
theorem sh_manifest_rising_manifest_Dep_calls {t0 t1 : Value} {H : Heap} {R : Value → Heap → Prop} (h : sh_manifest_rising_manifest_Dep t0 t1 H R) : HCalls prg f_manifest_rising_manifest_Dep [t0, t1] H R :=
  calls_ofF Tryz.func94 sh_manifest_rising_manifest_Dep_chk (by rw [sh_manifest_rising_manifest_Dep_den]; exact h)

-- (syngraph/manifest.Dep).name
def sh_manifest_Dep_name (t0 : Value) (H : Heap) (R : Value → Heap → Prop) : Prop :=
  Mnew H T_manifest_Dep (some (Value.cells t0)) fun t1 h1 =>
  Mpu (fld 0 t1) fun t3 =>
  Mpu (ld1 h1 t3) fun t4 =>
  R t4 h1
theorem sh_manifest_Dep_name_chk : fchkF prg [] Tryz.f95 1 = true := by kernel_rfl
theorem sh_manifest_Dep_name_den (t0 : Value) (H : Heap) (R : Value → Heap → Prop) : fdenF prg [] Tryz.f95 [t0] H R = sh_manifest_Dep_name t0 H R := by kernel_rfl
theorem sh_manifest_Dep_name_calls {t0 : Value} {H : Heap} {R : Value → Heap → Prop} (h : sh_manifest_Dep_name t0 H R) : HCalls prg f_manifest_Dep_name [t0] H R :=
  calls_ofF Tryz.func95 sh_manifest_Dep_name_chk (by rw [sh_manifest_Dep_name_den]; exact h)

-- syngraph/manifest.rising[syngraph/manifest.File]
def sh_manifest_rising_manifest_File (t0 t1 : Value) (H : Heap) (R : Value → Heap → Prop) : Prop :=
  J1 (fun k1 =>
    L1 (fun k3 => fun t5_2 h4 =>
      Mpu (lenV t0) fun t8 =>
      Mpu (binV .no .lss t5_2 t8) fun t9 =>
      Mcd t9 (
        Mpu (binV .no .sub t5_2 (.int .i64 1)) fun t15 =>
        Mpu (ixS 34 t0 t15) fun t16 =>
        Mpu (ldN 34 h4 t16) fun t17 =>
        Mpu (ixS 34 t0 t5_2) fun t22 =>
        Mpu (ldN 34 h4 t22) fun t23 =>
        Mcallv prg t1 [t17] h4 fun t18 h5 =>
        Mre [(ldN 34 h5 t22, t23)] (
        Mcallv prg t1 [t23] h5 fun t24 h6 =>
        Mpu (binV .no .geq t18 t24) fun t25 =>
        Mcd t25 (
          R (.bool false) h6) (
          Mpu (binV .no .add t5_2 (.int .i64 1)) fun t11 =>
          k3 t11 h6))) (
        k1 t5_2 h4)) ((.int .i64 1)) H) fun t5_4 h2 =>
  R (.bool true) h2
theorem sh_manifest_rising_manifest_File_chk : fchkF prg [5] Tryz.f96 2 = true := by kernel_rfl
theorem sh_manifest_rising_manifest_File_den (t0 t1 : Value) (H : Heap) (R : Value → Heap → Prop) : fdenF prg [5] Tryz.f96 [t0, t1] H R = sh_manifest_rising_manifest_File t0 t1 H R := by kernel_rfl
theorem sh_manifest_rising_manifest_File_calls {t0 t1 : Value} {H : Heap} {R : Value → Heap → Prop} (h : sh_manifest_rising_manifest_File t0 t1 H R) : HCalls prg f_manifest_rising_manifest_File [t0, t1] H R :=
  calls_ofF Tryz.func96 sh_manifest_rising_manifest_File_chk (by rw [sh_manifest_rising_manifest_File_den]; exact h)

end Go.Proofs.YtanhgihfgmbojaaGreatDoor

