/- JOINED: Sj0 Sj1 Sj2 Sj3 -/
import Derived.Test.YtanhgihfgmbojaaGreatDoorGE
set_option linter.unusedSimpArgs false
set_option linter.unusedVariables false
/- PRINTED: clean texts -/
namespace Go.Proofs.YtanhgihfgmbojaaGreatDoor
open Go.X
set_option maxRecDepth 100000
-- syngraph/syngraphlaw20.SolveFinds
-- syngraph/syngraphlaw20.SolveBounds
-- syngraph/syngraphlaw20.SolveRight
-- syngraph/syngraphlaw20.SolveChoices
-- syngraph/syngraphlaw20.SolveOrders
-- syngraph/syngraphlaw20.SolveWhys
def sh_syngraphlaw20_SolveWhys (t0 t1 : Value) (H : Heap) (R : Value → Heap → Prop) : Prop :=
  Mnew H T_solve_Problem (some (Value.cells t0)) fun t2 h1 =>
  Mpu (ldN 3 h1 t2) fun t13 =>
  Mcall prg f_syngraphlaw20_small [t13] h1 fun t14 h2 =>
  Mpu (unV .not t14) fun t15 =>
  J1 (fun k3 => Mif t15 false (
      Mpu (lenT t1) fun t18 =>
      Mpu (binV .no .gtr t18 (.int .i64 50)) fun t19 =>
      k3 t19 h2) (
      k3 undef h2)) fun t19_2 h4 =>
  Mpu (pickV t15 (.bool true) t19_2) fun t20 =>
  Mcd t20 (
    Mcall prg f_syngraphlaw20_awake [] h4 fun t21 h5 =>
    R t21 h5) (
    Mpu (ldN 3 h4 t2) fun t23 =>
    Mcall prg f_solve_Solve [t23] h4 fun t24 h6 =>
    Mpu (extV 0 t24) fun t25 =>
    Mpu (extV 1 t24) fun t26 =>
    Mpu (extV 2 t24) fun t27 =>
    Mpu (ldN 3 h6 t2) fun t28 =>
    Mcall prg f_solve_Why [t28, t25, t1] h6 fun t31 h7 =>
    Mpu (binV .no .neq t27 (.int .i64 0)) fun t33 =>
    J1 (fun k8 => Mif t33 false (
        Mpu (ldN 3 h7 t2) fun t35 =>
        Mcall prg f_solve_Right [t35, t25] h7 fun t37 h9 =>
        Mpu (unV .not t37) fun t38 =>
        k8 t38 h9) (
        k8 undef h7)) fun t38_2 h10 =>
    Mpu (pickV t33 (.bool true) t38_2) fun t39 =>
    Mcd t39 (
      Mpu (lenV t31) fun t41 =>
      Mpu (binV .no .eql t41 (.int .i64 0)) fun t42 =>
      J1 (fun k11 => Mif t42 true (
          Mcall prg f_syngraphlaw20_awake [] h10 fun t44 h12 =>
          k11 t44 h12) (
          k11 undef h10)) fun t44_2 h13 =>
      Mpu (pickV t42 t44_2 (.bool false)) fun t45 =>
      R t45 h13) (
      J1 (fun k14 =>
        L1 (fun k16 => fun t9_2 h17 =>
          Mpu (lenV t25) fun t48 =>
          Mpu (minV true [t48, (.int .i64 6)]) fun t49 =>
          Mpu (binV .no .leq t9_2 t49) fun t50 =>
          Mcd t50 (
            J0 (fun k18 =>
              Mpu (fld 0 t2) fun t54 =>
              Mpu (ld1 h17 t54) fun t55 =>
              Mpu (fld 1 t2) fun t57 =>
              Mpu (ld1 h17 t57) fun t58 =>
              Mcall prg f_syngraphlaw20_packages [t55] h17 fun t56 h20 =>
              Mre [(ld1 h20 t57, t58)] (
              Mcall prg f_syngraphlaw20_deps [t58] h20 fun t59 h21 =>
              Mcall prg f_syngraphref20_Why [t56, t59, t25, t1, t9_2] h21 fun t63 h22 =>
              Mpu (extV 0 t63) fun t64 =>
              Mpu (extV 1 t63) fun t65 =>
              Mpu (unV .not t65) fun t67 =>
              Mcd t67 (
                k18 h22) (
                Mpu (lenV t31) fun t69 =>
                Mpu (lenV t64) fun t71 =>
                Mpu (binV .no .neq t69 t71) fun t72 =>
                Mcd t72 (
                  R (.bool false) h22) (
                  J1 (fun k23 =>
                    Mpu (lenV t31) fun t74 =>
                    L1 (fun k25 => fun t75_2 h26 =>
                      Mpu (binV .no .lss t75_2 t74) fun t76 =>
                      Mcd t76 (
                        Mpu (ixS 1 t31 t75_2) fun t80 =>
                        Mpu (ld1 h26 t80) fun t81 =>
                        Mpu (ixS 1 t64 t75_2) fun t84 =>
                        Mpu (ld1 h26 t84) fun t85 =>
                        Mpu (binV .no .neq t81 t85) fun t86 =>
                        Mcd t86 (
                          R (.bool false) h26) (
                          Mpu (binV .no .add t75_2 (.int .i64 1)) fun t87 =>
                          k25 t87 h26)) (
                        k23 t75_2 h26)) ((.int .i64 0)) h22) fun t75_4 h24 =>
                  Mcall prg f_syngraphlaw20_awake [] h24 fun t88 h27 =>
                  R t88 h27)))) fun h19 =>
            Mpu (binV .no .add t9_2 (.int .i64 1)) fun t52 =>
            k16 t52 h19) (
            k14 t9_2 h17)) ((.int .i64 1)) h10) fun t9_4 h15 =>
      Mpu (lenV t31) fun t90 =>
      Mpu (binV .no .eql t90 (.int .i64 0)) fun t91 =>
      J1 (fun k28 => Mif t91 false (
          Mpu (lenV t31) fun t94 =>
          Mpu (binV .no .gtr t94 (.int .i64 6)) fun t95 =>
          k28 t95 h15) (
          k28 undef h15)) fun t96_2 h29 =>
      J1 (fun k30 => Mif t96_2 true (
          Mpu (lenV t31) fun t98 =>
          Mpu (lenV t25) fun t100 =>
          Mpu (binV .no .leq t98 t100) fun t101 =>
          k30 t101 h29) (
          k30 undef h29)) fun t101_2 h31 =>
      J1 (fun k32 => Mif t91 false (
          Mpu (pickV t96_2 t101_2 (.bool false)) fun t102 =>
          k32 t102 h31) (
          k32 undef h31)) fun t102_2 h33 =>
      Mpu (pickV t91 (.bool true) t102_2) fun t103 =>
      J1 (fun k34 => Mif t103 true (
          Mcall prg f_syngraphlaw20_awake [] h33 fun t105 h35 =>
          k34 t105 h35) (
          k34 undef h33)) fun t105_2 h36 =>
      Mpu (pickV t103 t105_2 (.bool false)) fun t106 =>
      R t106 h36))
theorem sh_syngraphlaw20_SolveWhys_chk : fchkF prg [9, 19, 38, 44, 75, 96, 101, 102, 105] Tryz.f8 2 = true := by kernel_rfl
theorem sh_syngraphlaw20_SolveWhys_den (t0 t1 : Value) (H : Heap) (R : Value → Heap → Prop) : fdenF prg [9, 19, 38, 44, 75, 96, 101, 102, 105] Tryz.f8 [t0, t1] H R = sh_syngraphlaw20_SolveWhys t0 t1 H R := by kernel_rfl
theorem sh_syngraphlaw20_SolveWhys_calls {t0 t1 : Value} {H : Heap} {R : Value → Heap → Prop} (h : sh_syngraphlaw20_SolveWhys t0 t1 H R) : HCalls prg f_syngraphlaw20_SolveWhys [t0, t1] H R :=
  calls_ofF Tryz.func8 sh_syngraphlaw20_SolveWhys_chk (by rw [sh_syngraphlaw20_SolveWhys_den]; exact h)

-- syngraph/syngraphlaw20.small
def sh_syngraphlaw20_small (t0 : Value) (H : Heap) (R : Value → Heap → Prop) : Prop :=
  Mnew H T_solve_Problem (some (Value.cells t0)) fun t1 h1 =>
  J1 (fun k2 =>
    Mpu (fld 0 t1) fun t5 =>
    Mpu (ld1 h1 t5) fun t6 =>
    Mpu (lenV t6) fun t7 =>
    L1 (fun k4 => fun t8_2 h5 =>
      Mpu (binV .no .lss t8_2 t7) fun t9 =>
      Mcd t9 (
        Mpu (ixS 8 t6 t8_2) fun t10 =>
        Mpu (ldN 8 h5 t10) fun t11 =>
        Mnew h5 T_manifest_Manifest (zcells prg T_manifest_Manifest) fun t4 h6 =>
        Mwr (stN 8 h6 t4 t11) fun h7 =>
        Mpu (fld 5 t4) fun t12 =>
        Mpu (ld1 h7 t12) fun t13 =>
        Mpu (lenV t13) fun t14 =>
        Mpu (binV .no .gtr t14 (.int .i64 6)) fun t15 =>
        J1 (fun k8 => Mif t15 false (
            Mpu (fld 6 t4) fun t17 =>
            Mpu (ld1 h7 t17) fun t18 =>
            Mpu (lenV t18) fun t19 =>
            Mpu (binV .no .gtr t19 (.int .i64 6)) fun t20 =>
            k8 t20 h7) (
            k8 undef h7)) fun t20_2 h9 =>
        Mpu (pickV t15 (.bool true) t20_2) fun t21 =>
        J1 (fun k10 => Mif t21 false (
            Mpu (fld 7 t4) fun t23 =>
            Mpu (ld1 h9 t23) fun t24 =>
            Mpu (lenV t24) fun t25 =>
            Mpu (binV .no .gtr t25 (.int .i64 6)) fun t26 =>
            k10 t26 h9) (
            k10 undef h9)) fun t26_2 h11 =>
        Mpu (pickV t21 (.bool true) t26_2) fun t27 =>
        J1 (fun k12 => Mif t27 false (
            Mpu (fld 0 t4) fun t29 =>
            Mpu (ld1 h11 t29) fun t30 =>
            Mpu (lenT t30) fun t31 =>
            Mpu (binV .no .gtr t31 (.int .i64 40)) fun t32 =>
            k12 t32 h11) (
            k12 undef h11)) fun t32_2 h13 =>
        Mpu (pickV t27 (.bool true) t32_2) fun t33 =>
        Mcd t33 (
          R (.bool false) h13) (
          Mpu (binV .no .add t8_2 (.int .i64 1)) fun t34 =>
          k4 t34 h13)) (
        k2 t8_2 h5)) ((.int .i64 0)) h1) fun t8_4 h3 =>
  Mpu (fld 0 t1) fun t35 =>
  Mpu (ld1 h3 t35) fun t36 =>
  Mpu (lenV t36) fun t37 =>
  Mpu (binV .no .leq t37 (.int .i64 12)) fun t38 =>
  J1 (fun k14 => Mif t38 true (
      Mpu (fld 1 t1) fun t40 =>
      Mpu (ld1 h3 t40) fun t41 =>
      Mpu (lenV t41) fun t42 =>
      Mpu (binV .no .leq t42 (.int .i64 8)) fun t43 =>
      k14 t43 h3) (
      k14 undef h3)) fun t43_2 h15 =>
  Mpu (pickV t38 t43_2 (.bool false)) fun t44 =>
  J1 (fun k16 => Mif t44 true (
      Mpu (fld 2 t1) fun t46 =>
      Mpu (ld1 h15 t46) fun t47 =>
      Mpu (binV .no .leq t47 (.int .i64 3000)) fun t48 =>
      k16 t48 h15) (
      k16 undef h15)) fun t48_2 h17 =>
  Mpu (pickV t44 t48_2 (.bool false)) fun t49 =>
  R t49 h17
theorem sh_syngraphlaw20_small_chk : fchkF prg [8, 20, 26, 32, 43, 48] Tryz.f9 1 = true := by kernel_rfl
theorem sh_syngraphlaw20_small_den (t0 : Value) (H : Heap) (R : Value → Heap → Prop) : fdenF prg [8, 20, 26, 32, 43, 48] Tryz.f9 [t0] H R = sh_syngraphlaw20_small t0 H R := by kernel_rfl
theorem sh_syngraphlaw20_small_calls {t0 : Value} {H : Heap} {R : Value → Heap → Prop} (h : sh_syngraphlaw20_small t0 H R) : HCalls prg f_syngraphlaw20_small [t0] H R :=
  calls_ofF Tryz.func9 sh_syngraphlaw20_small_chk (by rw [sh_syngraphlaw20_small_den]; exact h)

-- syngraph/syngraphlaw20.awake
def sh_syngraphlaw20_awake (H : Heap) (R : Value → Heap → Prop) : Prop :=
  Mcall prg f_syngraphlaw20_want [(.string ⟨#[98]⟩), (.string ⟨#[94, 49, 46, 48, 46, 48]⟩)] H fun t5 h1 =>
  Mnews h1 T_manifest_Dep 1 (bslV prg T_manifest_Dep 1 [(0, t5)]) fun t6 h2 =>
  Mcall prg f_syngraphlaw20_pack [(.string ⟨#[97]⟩), (.string ⟨#[49, 46, 48, 46, 48]⟩), t6] h2 fun t7 h3 =>
  Mcall prg f_syngraphlaw20_pack [(.string ⟨#[98]⟩), (.string ⟨#[49, 46, 49, 46, 48]⟩), (.slice none 0 0)] h3 fun t8 h4 =>
  Mcall prg f_syngraphlaw20_pack [(.string ⟨#[98]⟩), (.string ⟨#[50, 46, 48, 46, 48]⟩), (.slice none 0 0)] h4 fun t9 h5 =>
  Mnews h5 T_manifest_Manifest 3 (bslV prg T_manifest_Manifest 3 [(0, t7), (1, t8), (2, t9)]) fun t10 h6 =>
  Mcall prg f_syngraphlaw20_want [(.string ⟨#[97]⟩), (.string ⟨#[42]⟩)] h6 fun t11 h7 =>
  Mnews h7 T_manifest_Dep 1 (bslV prg T_manifest_Dep 1 [(0, t11)]) fun t12 h8 =>
  Mpu (buildV prg T_solve_Problem [(0, t10), (1, t12), (2, (.int .i64 9))]) fun t13 =>
  Mnew h8 T_solve_Problem (zcells prg T_solve_Problem) fun t1 h9 =>
  Mwr (stN 3 h9 t1 t13) fun h10 =>
  Mpu (ldN 3 h10 t1) fun t15 =>
  Mcall prg f_solve_Solve [t15] h10 fun t16 h11 =>
  Mpu (extV 0 t16) fun t17 =>
  Mpu (extV 1 t16) fun t18 =>
  Mpu (extV 2 t16) fun t19 =>
  Mpu (binV .no .eql t19 (.int .i64 0)) fun t21 =>
  J1 (fun k12 => Mif t21 true (
      Mpu (binV .no .eql t18 (.int .i64 2)) fun t24 =>
      k12 t24 h11) (
      k12 undef h11)) fun t24_2 h13 =>
  Mpu (pickV t21 t24_2 (.bool false)) fun t25 =>
  J1 (fun k14 => Mif t25 true (
      Mpu (lenV t17) fun t28 =>
      Mpu (binV .no .eql t28 (.int .i64 2)) fun t29 =>
      k14 t29 h13) (
      k14 undef h13)) fun t29_2 h15 =>
  Mpu (pickV t25 t29_2 (.bool false)) fun t30 =>
  J1 (fun k16 => Mif t30 true (
      Mpu (ixS 1 t17 (.int .i64 0)) fun t33 =>
      Mpu (ld1 h15 t33) fun t34 =>
      Mpu (binV .no .eql t34 (.int .i64 0)) fun t35 =>
      k16 t35 h15) (
      k16 undef h15)) fun t35_2 h17 =>
  Mpu (pickV t30 t35_2 (.bool false)) fun t36 =>
  J1 (fun k18 => Mif t36 true (
      Mpu (ixS 1 t17 (.int .i64 1)) fun t39 =>
      Mpu (ld1 h17 t39) fun t40 =>
      Mpu (binV .no .eql t40 (.int .i64 1)) fun t41 =>
      k18 t41 h17) (
      k18 undef h17)) fun t41_2 h19 =>
  Mpu (pickV t36 t41_2 (.bool false)) fun t42 =>
  J1 (fun k20 => Mif t42 true (
      Mpu (ldN 3 h19 t1) fun t44 =>
      Mcall prg f_solve_Right [t44, t17] h19 fun t46 h21 =>
      k20 t46 h21) (
      k20 undef h19)) fun t46_2 h22 =>
  Mpu (pickV t42 t46_2 (.bool false)) fun t47 =>
  R t47 h22
theorem sh_syngraphlaw20_awake_chk : fchkF prg [24, 29, 35, 41, 46] Tryz.f10 0 = true := by kernel_rfl
theorem sh_syngraphlaw20_awake_den (H : Heap) (R : Value → Heap → Prop) : fdenF prg [24, 29, 35, 41, 46] Tryz.f10 [] H R = sh_syngraphlaw20_awake H R := by kernel_rfl
theorem sh_syngraphlaw20_awake_calls {H : Heap} {R : Value → Heap → Prop} (h : sh_syngraphlaw20_awake H R) : HCalls prg f_syngraphlaw20_awake [] H R :=
  calls_ofF Tryz.func10 sh_syngraphlaw20_awake_chk (by rw [sh_syngraphlaw20_awake_den]; exact h)

-- syngraph/solve.Solve
def sh_solve_Solve (t0 : Value) (H : Heap) (R : Value → Heap → Prop) : Prop :=
  Mnew H T_solve_Problem (some (Value.cells t0)) fun t1 h1 =>
  Mpu (ldN 3 h1 t1) fun t14 =>
  Mcall prg f_solve_Problem_Check [t14] h1 fun t15 h2 =>
  Mpu (binV .no .neq t15 (.int .i64 0)) fun t17 =>
  Mcd t17 (
    R (.tuple #[(.slice none 0 0), (.int .i64 0), t15]) h2) (
    Mpu (fld 1 t1) fun t19 =>
    Mpu (ld1 h2 t19) fun t20 =>
    Mcall prg f_slices_Clone_S_manifest_Dep_manifest_Dep [t20] h2 fun t21 h3 =>
    L4 (fun k4 => fun t2_3 t3_3 t6_2 t7_2 h5 =>
      J3 (fun k6 =>
        L3 (fun k8 => fun t6_3 t7_3 t8_2 h9 =>
          Mpu (lenV t6_3) fun t23 =>
          Mpu (binV .no .gtr t23 (.int .i64 0)) fun t24 =>
          Mcd t24 (
            Mpu (ixS 6 t6_3 (.int .i64 0)) fun t26 =>
            Mpu (ldN 6 h9 t26) fun t27 =>
            Mnew h9 T_manifest_Dep (zcells prg T_manifest_Dep) fun t9 h10 =>
            Mwr (stN 6 h10 t9 t27) fun h11 =>
            Mpu (ldN 3 h11 t1) fun t29 =>
            Mpu (fld 0 t9) fun t31 =>
            Mpu (ld1 h11 t31) fun t32 =>
            Mcall prg f_solve_Problem_of [t29, t2_3, t32] h11 fun t33 h12 =>
            Mpu (extV 0 t33) fun t34 =>
            Mpu (extV 1 t33) fun t35 =>
            Mpu (unV .not t35) fun t38 =>
            Mcd t38 (
              Mpu (slS 6 t6_3 (some (.int .i64 1)) none none) fun t42 =>
              Mpu (ldN 3 h12 t1) fun t43 =>
              Mpu (ldN 6 h12 t9) fun t44 =>
              Mcall prg f_solve_Problem_newest [t43, t44] h12 fun t45 h13 =>
              Mpu (buildV prg T_solve_point [(0, t2_3), (1, t42), (2, t45)]) fun t46 =>
              Mnews h13 T_solve_point 1 (bslV prg T_solve_point 1 [(0, t46)]) fun t47 h14 =>
              Mapp T_solve_point 3 72 h14 t7_3 t47 fun t48 h15 =>
              k6 t6_3 t48 (.bool true) h15) (
              Mpu (fld 1 t9) fun t50 =>
              Mpu (ldN 5 h12 t50) fun t51 =>
              Mpu (fld 0 t1) fun t52 =>
              Mpu (ld1 h12 t52) fun t53 =>
              Mpu (ixS 8 t53 t34) fun t55 =>
              Mpu (fld 1 t55) fun t56 =>
              Mpu (ldN 4 h12 t56) fun t57 =>
              Mcall prg f_version_Want_Fits [t51, t57] h12 fun t58 h16 =>
              Mpu (unV .not t58) fun t59 =>
              Mcd t59 (
                k6 t6_3 t7_3 (.bool true) h16) (
                Mpu (slS 6 t6_3 (some (.int .i64 1)) none none) fun t61 =>
                k8 t61 t7_3 t8_2 h16))) (
            k6 t6_3 t7_3 t8_2 h9)) (t6_2) (t7_2) ((.bool false)) h5) fun t6_5 t7_5 t8_5 h7 =>
      Mpu (unV .not t8_5) fun t63 =>
      Mcd t63 (
        Mpu (ldN 3 h7 t1) fun t64 =>
        Mcall prg f_solve_Problem_sorted [t64, t2_3] h7 fun t66 h17 =>
        R (.tuple #[t66, t3_3, (.int .i64 0)]) h17) (
        J4 (fun k18 =>
          L4 (fun k20 => fun t2_5 t3_5 t6_6 t7_6 h21 =>
            Mpu (lenV t7_6) fun t69 =>
            Mpu (binV .no .gtr t69 (.int .i64 0)) fun t70 =>
            Mcd t70 (
              Mpu (lenV t7_6) fun t73 =>
              Mpu (binV .no .sub t73 (.int .i64 1)) fun t74 =>
              Mpu (ixS 3 t7_6 t74) fun t75 =>
              Mpu (nck t75) fun t77 =>
              Mpu (fld 2 t77) fun t78 =>
              Mpu (ld1 h21 t78) fun t79 =>
              Mpu (lenV t79) fun t80 =>
              Mpu (binV .no .eql t80 (.int .i64 0)) fun t81 =>
              Mcd t81 (
                Mpu (lenV t7_6) fun t84 =>
                Mpu (binV .no .sub t84 (.int .i64 1)) fun t85 =>
                Mpu (slS 3 t7_6 none (some t85) none) fun t86 =>
                k20 t2_5 t3_5 t6_6 t86 h21) (
                Mpu (fld 2 t1) fun t88 =>
                Mpu (ld1 h21 t88) fun t89 =>
                Mpu (binV .no .eql t3_5 t89) fun t90 =>
                Mcd t90 (
                  R (.tuple #[(.slice none 0 0), t3_5, (.int .i64 42)]) h21) (
                  Mpu (nck t75) fun t93 =>
                  Mpu (fld 2 t93) fun t94 =>
                  Mpu (ld1 h21 t94) fun t95 =>
                  Mpu (ixS 1 t95 (.int .i64 0)) fun t96 =>
                  Mpu (ld1 h21 t96) fun t97 =>
                  Mpu (nck t75) fun t100 =>
                  Mpu (fld 2 t100) fun t101 =>
                  Mpu (ld1 h21 t101) fun t102 =>
                  Mpu (slS 1 t102 (some (.int .i64 1)) none none) fun t103 =>
                  Mpu (nck t75) fun t104 =>
                  Mpu (fld 2 t104) fun t105 =>
                  Mwr (st1 h21 t105 t103) fun h22 =>
                  Mpu (binV .no .add t3_5 (.int .i64 1)) fun t107 =>
                  Mpu (ldN 3 h22 t1) fun t108 =>
                  Mpu (nck t75) fun t110 =>
                  Mpu (fld 0 t110) fun t111 =>
                  Mpu (ld1 h22 t111) fun t112 =>
                  Mcall prg f_solve_Problem_clash [t108, t112, t97] h22 fun t114 h23 =>
                  Mcd t114 (
                    k20 t2_5 t107 t6_6 t7_6 h23) (
                    Mpu (nck t75) fun t116 =>
                    Mpu (fld 0 t116) fun t117 =>
                    Mpu (ld1 h23 t117) fun t118 =>
                    Mcall prg f_slices_Clone_S_int_int [t118] h23 fun t119 h24 =>
                    Mnews h24 T_int 1 (bslV prg T_int 1 [(0, t97)]) fun t121 h25 =>
                    Mapp T_int 1 8 h25 t119 t121 fun t122 h26 =>
                    Mpu (nck t75) fun t124 =>
                    Mpu (fld 1 t124) fun t125 =>
                    Mpu (ld1 h26 t125) fun t126 =>
                    Mpu (fld 0 t1) fun t127 =>
                    Mpu (ld1 h26 t127) fun t128 =>
                    Mpu (ixS 8 t128 t97) fun t130 =>
                    Mpu (fld 5 t130) fun t131 =>
                    Mpu (ld1 h26 t131) fun t132 =>
                    Mnews h26 T_S_manifest_Dep 2 (bslV prg T_S_manifest_Dep 2 [(0, t126), (1, t132)]) fun t133 h27 =>
                    Mcall prg f_slices_Concat_S_manifest_Dep_manifest_Dep [t133] h27 fun t134 h28 =>
                    k4 t122 t107 t134 t7_6 h28)))) (
              k18 t2_5 t3_5 t6_6 t7_6 h21)) (t2_3) (t3_3) (t6_5) (t7_5) h7) fun t2_8 t3_8 t6_8 t7_8 h19 =>
        R (.tuple #[(.slice none 0 0), t3_8, (.int .i64 40)]) h19)) ((.slice none 0 0)) ((.int .i64 0)) (t21) ((.slice none 0 0)) h3)
theorem sh_solve_Solve_chk : fchkF prg [2, 3, 6, 7, 8] Tryz.f11 1 = true := by kernel_rfl
theorem sh_solve_Solve_den (t0 : Value) (H : Heap) (R : Value → Heap → Prop) : fdenF prg [2, 3, 6, 7, 8] Tryz.f11 [t0] H R = sh_solve_Solve t0 H R := by kernel_rfl
theorem sh_solve_Solve_calls {t0 : Value} {H : Heap} {R : Value → Heap → Prop} (h : sh_solve_Solve t0 H R) : HCalls prg f_solve_Solve [t0] H R :=
  calls_ofF Tryz.func11 sh_solve_Solve_chk (by rw [sh_solve_Solve_den]; exact h)

-- syngraph/syngraphlaw20.right
end Go.Proofs.YtanhgihfgmbojaaGreatDoor

/- PRINTED: clean texts -/
namespace Go.Proofs.YtanhgihfgmbojaaGreatDoor
open Go.X
set_option maxRecDepth 100000
-- (syngraph/solve.Problem).Check
def sh_solve_Problem_Check (t0 : Value) (H : Heap) (R : Value → Heap → Prop) : Prop :=
  Mnew H T_solve_Problem (some (Value.cells t0)) fun t1 h1 =>
  Mpu (fld 0 t1) fun t8 =>
  Mpu (ld1 h1 t8) fun t9 =>
  Mpu (lenV t9) fun t10 =>
  Mpu (binV .no .gtr t10 (.int .i64 256)) fun t11 =>
  J1 (fun k2 => Mif t11 false (
      Mpu (fld 1 t1) fun t13 =>
      Mpu (ld1 h1 t13) fun t14 =>
      Mpu (lenV t14) fun t15 =>
      Mpu (binV .no .gtr t15 (.int .i64 64)) fun t16 =>
      k2 t16 h1) (
      k2 undef h1)) fun t16_2 h3 =>
  Mpu (pickV t11 (.bool true) t16_2) fun t17 =>
  J1 (fun k4 => Mif t17 false (
      Mpu (fld 2 t1) fun t19 =>
      Mpu (ld1 h3 t19) fun t20 =>
      Mpu (binV .no .lss t20 (.int .i64 0)) fun t21 =>
      k4 t21 h3) (
      k4 undef h3)) fun t21_2 h5 =>
  Mpu (pickV t17 (.bool true) t21_2) fun t22 =>
  J1 (fun k6 => Mif t22 false (
      Mpu (fld 2 t1) fun t24 =>
      Mpu (ld1 h5 t24) fun t25 =>
      Mpu (binV .no .gtr t25 (.int .i64 65536)) fun t26 =>
      k6 t26 h5) (
      k6 undef h5)) fun t26_2 h7 =>
  Mpu (pickV t22 (.bool true) t26_2) fun t27 =>
  Mcd t27 (
    R (.int .i64 10) h7) (
    J1 (fun k8 =>
      Mpu (fld 0 t1) fun t28 =>
      Mpu (ld1 h7 t28) fun t29 =>
      Mpu (lenV t29) fun t30 =>
      L1 (fun k10 => fun t31_2 h11 =>
        Mpu (binV .no .lss t31_2 t30) fun t32 =>
        Mcd t32 (
          Mpu (ixS 8 t29 t31_2) fun t34 =>
          Mpu (ldN 8 h11 t34) fun t35 =>
          Mnew h11 T_manifest_Manifest (zcells prg T_manifest_Manifest) fun t4 h12 =>
          Mwr (stN 8 h12 t4 t35) fun h13 =>
          Mpu (fld 0 t1) fun t36 =>
          Mpu (ld1 h13 t36) fun t37 =>
          Mpu (slS 8 t37 none (some t31_2) none) fun t39 =>
          Mcall prg f_slices_ContainsFunc_S_manifest_Manifest_manifest_Manifest [t39, (.func (.func f_solve_Problem_Check_1) #[] #[t4])] h13 fun t41 h14 =>
          Mpu (ldN 8 h14 t4) fun t42 =>
          Mcall prg f_manifest_Manifest_Right [t42] h14 fun t43 h15 =>
          Mpu (unV .not t43) fun t44 =>
          J1 (fun k16 => Mif t44 false (
              k16 t41 h15) (
              k16 undef h15)) fun t46_2 h17 =>
          Mpu (pickV t44 (.bool true) t46_2) fun t47 =>
          Mcd t47 (
            R (.int .i64 10) h17) (
            Mpu (binV .no .add t31_2 (.int .i64 1)) fun t48 =>
            k10 t48 h17)) (
          k8 t31_2 h11)) ((.int .i64 0)) h7) fun t31_4 h9 =>
    J1 (fun k18 =>
      Mpu (fld 1 t1) fun t49 =>
      Mpu (ld1 h9 t49) fun t50 =>
      Mpu (lenV t50) fun t51 =>
      L1 (fun k20 => fun t52_2 h21 =>
        Mpu (binV .no .lss t52_2 t51) fun t53 =>
        Mcd t53 (
          Mpu (ixS 6 t50 t52_2) fun t54 =>
          Mpu (ldN 6 h21 t54) fun t55 =>
          Mnew h21 T_manifest_Dep (zcells prg T_manifest_Dep) fun t7 h22 =>
          Mwr (stN 6 h22 t7 t55) fun h23 =>
          Mpu (fld 0 t7) fun t56 =>
          Mpu (ld1 h23 t56) fun t57 =>
          Mcall prg f_manifest_Name [t57] h23 fun t58 h24 =>
          Mpu (unV .not t58) fun t59 =>
          J1 (fun k25 => Mif t59 false (
              Mpu (fld 1 t7) fun t61 =>
              Mpu (ldN 5 h24 t61) fun t62 =>
              Mcall prg f_version_Want_Right [t62] h24 fun t63 h26 =>
              Mpu (unV .not t63) fun t64 =>
              k25 t64 h26) (
              k25 undef h24)) fun t64_2 h27 =>
          Mpu (pickV t59 (.bool true) t64_2) fun t65 =>
          Mcd t65 (
            R (.int .i64 10) h27) (
            Mpu (binV .no .add t52_2 (.int .i64 1)) fun t66 =>
            k20 t66 h27)) (
          k18 t52_2 h21)) ((.int .i64 0)) h9) fun t52_4 h19 =>
    R (.int .i64 0) h19)
theorem sh_solve_Problem_Check_chk : fchkF prg [16, 21, 26, 31, 46, 52, 64] Tryz.f13 1 = true := by kernel_rfl
theorem sh_solve_Problem_Check_den (t0 : Value) (H : Heap) (R : Value → Heap → Prop) : fdenF prg [16, 21, 26, 31, 46, 52, 64] Tryz.f13 [t0] H R = sh_solve_Problem_Check t0 H R := by kernel_rfl
theorem sh_solve_Problem_Check_calls {t0 : Value} {H : Heap} {R : Value → Heap → Prop} (h : sh_solve_Problem_Check t0 H R) : HCalls prg f_solve_Problem_Check [t0] H R :=
  calls_ofF Tryz.func13 sh_solve_Problem_Check_chk (by rw [sh_solve_Problem_Check_den]; exact h)

-- syngraph/syngraphlaw20.packages
def sh_syngraphlaw20_packages (t0 : Value) (H : Heap) (R : Value → Heap → Prop) : Prop :=
  J2 (fun k1 =>
    Mpu (lenV t0) fun t7 =>
    L2 (fun k3 => fun t3_2 t8_2 h4 =>
      Mpu (binV .no .lss t8_2 t7) fun t9 =>
      Mcd t9 (
        Mpu (ixS 8 t0 t8_2) fun t10 =>
        Mpu (ldN 8 h4 t10) fun t11 =>
        Mnew h4 T_manifest_Manifest (zcells prg T_manifest_Manifest) fun t5 h5 =>
        Mwr (stN 8 h5 t5 t11) fun h6 =>
        Mpu (fld 0 t5) fun t13 =>
        Mpu (ld1 h6 t13) fun t14 =>
        Mpu (fld 1 t5) fun t15 =>
        Mpu (ldN 4 h6 t15) fun t16 =>
        Mpu (fld 5 t5) fun t18 =>
        Mpu (ld1 h6 t18) fun t19 =>
        Mpu (fld 6 t5) fun t21 =>
        Mpu (ld1 h6 t21) fun t22 =>
        Mcall prg f_syngraphlaw20_version1 [t16] h6 fun t17 h7 =>
        Mre [(ld1 h7 t21, t22), (ld1 h7 t18, t19), (ld1 h7 t13, t14)] (
        Mcall prg f_syngraphlaw20_deps [t19] h7 fun t20 h8 =>
        Mre [(ld1 h8 t21, t22), (ld1 h8 t13, t14)] (
        Mcall prg f_syngraphlaw20_deps [t22] h8 fun t23 h9 =>
        Mre [(ld1 h9 t13, t14)] (
        Mpu (buildV prg T_syngraphref20_Package [(0, t14), (1, t17), (2, t20), (3, t23)]) fun t24 =>
        Mnews h9 T_syngraphref20_Package 1 (bslV prg T_syngraphref20_Package 1 [(0, t24)]) fun t25 h10 =>
        Mapp T_syngraphref20_Package 7 104 h10 t3_2 t25 fun t26 h11 =>
        Mpu (binV .no .add t8_2 (.int .i64 1)) fun t27 =>
        k3 t26 t27 h11)))) (
        k1 t3_2 t8_2 h4)) ((.slice none 0 0)) ((.int .i64 0)) H) fun t3_4 t8_4 h2 =>
  R t3_4 h2
theorem sh_syngraphlaw20_packages_chk : fchkF prg [3, 8] Tryz.f14 1 = true := by kernel_rfl
theorem sh_syngraphlaw20_packages_den (t0 : Value) (H : Heap) (R : Value → Heap → Prop) : fdenF prg [3, 8] Tryz.f14 [t0] H R = sh_syngraphlaw20_packages t0 H R := by kernel_rfl
theorem sh_syngraphlaw20_packages_calls {t0 : Value} {H : Heap} {R : Value → Heap → Prop} (h : sh_syngraphlaw20_packages t0 H R) : HCalls prg f_syngraphlaw20_packages [t0] H R :=
  calls_ofF Tryz.func14 sh_syngraphlaw20_packages_chk (by rw [sh_syngraphlaw20_packages_den]; exact h)

-- (*syngraph/syngraphref20.Find).Solve
-- syngraph/syngraphlaw20.deps
def sh_syngraphlaw20_deps (t0 : Value) (H : Heap) (R : Value → Heap → Prop) : Prop :=
  J2 (fun k1 =>
    Mpu (lenV t0) fun t7 =>
    L2 (fun k3 => fun t3_2 t8_2 h4 =>
      Mpu (binV .no .lss t8_2 t7) fun t9 =>
      Mcd t9 (
        Mpu (ixS 6 t0 t8_2) fun t10 =>
        Mpu (ldN 6 h4 t10) fun t11 =>
        Mnew h4 T_manifest_Dep (zcells prg T_manifest_Dep) fun t5 h5 =>
        Mwr (stN 6 h5 t5 t11) fun h6 =>
        Mpu (fld 0 t5) fun t13 =>
        Mpu (ld1 h6 t13) fun t14 =>
        Mpu (fld 1 t5) fun t15 =>
        Mpu (fld 0 t15) fun t16 =>
        Mpu (ld1 h6 t16) fun t17 =>
        Mpu (fld 1 t5) fun t18 =>
        Mpu (fld 1 t18) fun t19 =>
        Mpu (ldN 4 h6 t19) fun t20 =>
        Mcall prg f_syngraphlaw20_version1 [t20] h6 fun t21 h7 =>
        Mre [(ld1 h7 t16, t17), (ld1 h7 t13, t14)] (
        Mpu (buildV prg T_syngraphref20_Dep [(0, t14), (1, t17), (2, t21)]) fun t22 =>
        Mnews h7 T_syngraphref20_Dep 1 (bslV prg T_syngraphref20_Dep 1 [(0, t22)]) fun t23 h8 =>
        Mapp T_syngraphref20_Dep 6 72 h8 t3_2 t23 fun t24 h9 =>
        Mpu (binV .no .add t8_2 (.int .i64 1)) fun t25 =>
        k3 t24 t25 h9)) (
        k1 t3_2 t8_2 h4)) ((.slice none 0 0)) ((.int .i64 0)) H) fun t3_4 t8_4 h2 =>
  R t3_4 h2
theorem sh_syngraphlaw20_deps_chk : fchkF prg [3, 8] Tryz.f16 1 = true := by kernel_rfl
theorem sh_syngraphlaw20_deps_den (t0 : Value) (H : Heap) (R : Value → Heap → Prop) : fdenF prg [3, 8] Tryz.f16 [t0] H R = sh_syngraphlaw20_deps t0 H R := by kernel_rfl
theorem sh_syngraphlaw20_deps_calls {t0 : Value} {H : Heap} {R : Value → Heap → Prop} (h : sh_syngraphlaw20_deps t0 H R) : HCalls prg f_syngraphlaw20_deps [t0] H R :=
  calls_ofF Tryz.func16 sh_syngraphlaw20_deps_chk (by rw [sh_syngraphlaw20_deps_den]; exact h)

-- syngraph/solve.Needed
-- syngraph/solve.Right
def sh_solve_Right (t0 t1 : Value) (H : Heap) (R : Value → Heap → Prop) : Prop :=
  Mnew H T_solve_Problem (some (Value.cells t0)) fun t2 h1 =>
  Mnew h1 T_S_int (some (Value.cells t1)) fun t3 h2 =>
  Mnew h2 T_bool (zcells prg T_bool) fun t4 h3 =>
  Mpu (ldN 3 h3 t2) fun t12 =>
  Mcall prg f_solve_Problem_Check [t12] h3 fun t13 h4 =>
  Mpu (binV .no .neq t13 (.int .i64 0)) fun t14 =>
  Mcd t14 (
    Mwr (st1 h4 t4 (.bool false)) fun h5 =>
    Mcl H.size h5 fun h6 =>
    Mpu (ld1 h6 t4) fun r7 =>
    R r7 h6) (
    J1 (fun k8 =>
      Mpu (ld1 h4 t3) fun t15 =>
      Mpu (lenV t15) fun t16 =>
      L1 (fun k10 => fun t17_2 h11 =>
        Mpu (binV .no .lss t17_2 t16) fun t18 =>
        Mcd t18 (
          Mpu (ixS 1 t15 t17_2) fun t20 =>
          Mpu (ld1 h11 t20) fun t21 =>
          Mpu (binV .no .lss t21 (.int .i64 0)) fun t23 =>
          J1 (fun k12 => Mif t23 false (
              Mpu (fld 0 t2) fun t26 =>
              Mpu (ld1 h11 t26) fun t27 =>
              Mpu (lenV t27) fun t28 =>
              Mpu (binV .no .geq t21 t28) fun t29 =>
              k12 t29 h11) (
              k12 undef h11)) fun t29_2 h13 =>
          Mpu (pickV t23 (.bool true) t29_2) fun t30 =>
          Mcd t30 (
            Mwr (st1 h13 t4 (.bool false)) fun h14 =>
            Mcl H.size h14 fun h15 =>
            Mpu (ld1 h15 t4) fun r16 =>
            R r16 h15) (
            Mpu (ldN 3 h13 t2) fun t32 =>
            Mpu (ld1 h13 t3) fun t33 =>
            Mpu (slS 1 t33 none (some t17_2) none) fun t35 =>
            Mpu (fld 0 t2) fun t36 =>
            Mpu (ld1 h13 t36) fun t37 =>
            Mpu (ixS 8 t37 t21) fun t39 =>
            Mpu (fld 0 t39) fun t40 =>
            Mpu (ld1 h13 t40) fun t41 =>
            Mcall prg f_solve_Problem_of [t32, t35, t41] h13 fun t42 h17 =>
            Mpu (extV 0 t42) fun t43 =>
            Mpu (extV 1 t42) fun t44 =>
            J1 (fun k18 => Mif t44 false (
                Mpu (ldN 3 h17 t2) fun t47 =>
                Mpu (ld1 h17 t3) fun t48 =>
                Mpu (slS 1 t48 none (some t17_2) none) fun t50 =>
                Mcall prg f_solve_Problem_clash [t47, t50, t21] h17 fun t52 h19 =>
                k18 t52 h19) (
                k18 undef h17)) fun t52_2 h20 =>
            Mpu (pickV t44 (.bool true) t52_2) fun t53 =>
            Mcd t53 (
              Mwr (st1 h20 t4 (.bool false)) fun h21 =>
              Mcl H.size h21 fun h22 =>
              Mpu (ld1 h22 t4) fun r23 =>
              R r23 h22) (
              Mpu (binV .no .add t17_2 (.int .i64 1)) fun t54 =>
              k10 t54 h20))) (
          k8 t17_2 h11)) ((.int .i64 0)) h4) fun t17_4 h9 =>
    Mpu (ldN 3 h9 t2) fun t55 =>
    Mpu (ld1 h9 t3) fun t56 =>
    Mcall prg f_solve_Problem_asked [t55, t56] h9 fun t57 h24 =>
    Mrange prg H.size t57 h24 (fun a25 h26 k27 => a25.length = 1 ∧ (
        Mnew h26 T_manifest_Dep (zcells prg T_manifest_Dep) fun t9 h30 =>
        Mwr (stN 6 h30 t9 (a25.getD 0 undef)) fun h31 =>
        Mbeg (h24.size + 1) h31 fun h32 =>
        Mpu (ldN 3 h32 t2) fun t60 =>
        Mpu (ld1 h32 t3) fun t61 =>
        Mpu (fld 0 t9) fun t62 =>
        Mpu (ld1 h32 t62) fun t63 =>
        Mcall prg f_solve_Problem_of [t60, t61, t63] h32 fun t64 h33 =>
        Mpu (extV 0 t64) fun t65 =>
        Mpu (extV 1 t64) fun t66 =>
        Mpu (unV .not t66) fun t68 =>
        J1 (fun k34 => Mif t68 false (
            Mpu (fld 1 t9) fun t70 =>
            Mpu (ldN 5 h33 t70) fun t71 =>
            Mpu (fld 0 t2) fun t72 =>
            Mpu (ld1 h33 t72) fun t73 =>
            Mpu (ixS 8 t73 t65) fun t75 =>
            Mpu (fld 1 t75) fun t76 =>
            Mpu (ldN 4 h33 t76) fun t77 =>
            Mcall prg f_version_Want_Fits [t71, t77] h33 fun t78 h35 =>
            Mpu (unV .not t78) fun t79 =>
            k34 t79 h35) (
            k34 undef h33)) fun t79_2 h36 =>
        Mpu (pickV t68 (.bool true) t79_2) fun t80 =>
        Mcd t80 (
          Mwr (st1 h36 t4 (.bool false)) fun h37 =>
          k27 (some Code.ret) h37) (
          k27 none h36))) fun j28 h29 =>
      (j28 = none ∧ (
        Mwr (st1 h29 t4 (.bool true)) fun h38 =>
        Mcl H.size h38 fun h39 =>
        Mpu (ld1 h39 t4) fun r40 =>
        R r40 h39)) ∨
      (j28 = some Code.ret ∧ (
        Mcl H.size h29 fun h41 =>
        Mpu (ld1 h41 t4) fun r42 =>
        R r42 h41)))
theorem sh_solve_Right_chk : fchkF prg [17, 29, 52, 79] Tryz.f18 2 = true := by kernel_rfl
theorem sh_solve_Right_den (t0 t1 : Value) (H : Heap) (R : Value → Heap → Prop) : fdenF prg [17, 29, 52, 79] Tryz.f18 [t0, t1] H R = sh_solve_Right t0 t1 H R := by kernel_rfl
theorem sh_solve_Right_calls {t0 t1 : Value} {H : Heap} {R : Value → Heap → Prop} (h : sh_solve_Right t0 t1 H R) : HCalls prg f_solve_Right [t0, t1] H R :=
  calls_ofF Tryz.func18 sh_solve_Right_chk (by rw [sh_solve_Right_den]; exact h)

-- syngraph/syngraphref20.Right
-- syngraph/solve.Order
-- syngraph/syngraphref20.Order
-- syngraph/syngraphlaw20.sorted
end Go.Proofs.YtanhgihfgmbojaaGreatDoor

/- PRINTED: clean texts -/
namespace Go.Proofs.YtanhgihfgmbojaaGreatDoor
open Go.X
set_option maxRecDepth 100000
-- syngraph/solve.Why
def sh_solve_Why (t0 t1 t2 : Value) (H : Heap) (R : Value → Heap → Prop) : Prop :=
  Mnew H T_solve_Problem (some (Value.cells t0)) fun t3 h1 =>
  Mpu (ldN 3 h1 t3) fun t24 =>
  Mcall prg f_solve_Right [t24, t1] h1 fun t26 h2 =>
  Mpu (unV .not t26) fun t27 =>
  Mcd t27 (
    R (.slice none 0 0) h2) (
    Msem prg (Instr.makeMap T_map_string_string none) h2 fun t28 h3 =>
    J2 (fun k4 =>
      Mpu (fld 1 t3) fun t29 =>
      Mpu (ld1 h3 t29) fun t30 =>
      Mpu (lenV t30) fun t31 =>
      L2 (fun k6 => fun t8_2 t32_2 h7 =>
        Mpu (binV .no .lss t32_2 t31) fun t33 =>
        Mcd t33 (
          J1 (fun k8 =>
            Mpu (ixS 6 t30 t32_2) fun t34 =>
            Mpu (ldN 6 h7 t34) fun t35 =>
            Mnew h7 T_manifest_Dep (zcells prg T_manifest_Dep) fun t10 h10 =>
            Mwr (stN 6 h10 t10 t35) fun h11 =>
            Mpu (fld 0 t10) fun t38 =>
            Mpu (ld1 h11 t38) fun t39 =>
            Msem prg (Instr.lookup T_map_string_string t28 t39 true) h11 fun t40 h12 =>
            Mpu (extV 0 t40) fun t41 =>
            Mpu (extV 1 t40) fun t42 =>
            Mpu (unV .not t42) fun t44 =>
            Mcd t44 (
              Mpu (fld 0 t10) fun t46 =>
              Mpu (ld1 h12 t46) fun t47 =>
              Msu prg (Instr.mapUpdate T_map_string_string t28 t47 (.string ⟨#[]⟩)) h12 fun t_ h13 =>
              Mpu (fld 0 t10) fun t49 =>
              Mpu (ld1 h13 t49) fun t50 =>
              Mnews h13 T_string 1 (bslV prg T_string 1 [(0, t50)]) fun t51 h14 =>
              Mapp T_string 1 16 h14 t8_2 t51 fun t52 h15 =>
              k8 t52 h15) (
              k8 t8_2 h12)) fun t8_4 h9 =>
          Mpu (binV .no .add t32_2 (.int .i64 1)) fun t53 =>
          k6 t8_4 t53 h9) (
          k4 t8_2 t32_2 h7)) ((.slice none 0 0)) ((.int .i64 0)) h3) fun t8_5 t32_4 h5 =>
    J2 (fun k16 =>
      L1 (fun k18 => fun t8_6 h19 =>
        Mpu (lenV t8_6) fun t55 =>
        Mpu (binV .no .gtr t55 (.int .i64 0)) fun t56 =>
        J1 (fun k20 => Mif t56 true (
            Mcall prg f_slices_Contains_S_string_string [t8_6, t2] h19 fun t60 h21 =>
            Mpu (unV .not t60) fun t61 =>
            k20 t61 h21) (
            k20 undef h19)) fun t61_2 h22 =>
        Mpu (pickV t56 t61_2 (.bool false)) fun t62 =>
        Mcd t62 (
          J2 (fun k23 =>
            Mpu (lenV t8_6) fun t64 =>
            L2 (fun k25 => fun t13_2 t65_2 h26 =>
              Mpu (binV .no .lss t65_2 t64) fun t66 =>
              Mcd t66 (
                J2 (fun k27 =>
                  Mpu (ixS 1 t8_6 t65_2) fun t67 =>
                  Mpu (ld1 h26 t67) fun t68 =>
                  Mpu (ldN 3 h26 t3) fun t70 =>
                  Mcall prg f_solve_Problem_of [t70, t1, t68] h26 fun t73 h29 =>
                  Mpu (extV 0 t73) fun t74 =>
                  Mpu (extV 1 t73) fun t75 =>
                  Mpu (fld 0 t3) fun t76 =>
                  Mpu (ld1 h29 t76) fun t77 =>
                  Mpu (ixS 8 t77 t74) fun t79 =>
                  Mpu (fld 5 t79) fun t80 =>
                  Mpu (ld1 h29 t80) fun t81 =>
                  Mpu (lenV t81) fun t82 =>
                  L2 (fun k30 => fun t13_3 t83_2 h31 =>
                    Mpu (binV .no .lss t83_2 t82) fun t84 =>
                    Mcd t84 (
                      J1 (fun k32 =>
                        Mpu (ixS 6 t81 t83_2) fun t85 =>
                        Mpu (ldN 6 h31 t85) fun t86 =>
                        Mnew h31 T_manifest_Dep (zcells prg T_manifest_Dep) fun t19 h34 =>
                        Mwr (stN 6 h34 t19 t86) fun h35 =>
                        Mpu (fld 0 t19) fun t89 =>
                        Mpu (ld1 h35 t89) fun t90 =>
                        Msem prg (Instr.lookup T_map_string_string t28 t90 true) h35 fun t91 h36 =>
                        Mpu (extV 0 t91) fun t92 =>
                        Mpu (extV 1 t91) fun t93 =>
                        Mpu (unV .not t93) fun t95 =>
                        Mcd t95 (
                          Mpu (fld 0 t19) fun t97 =>
                          Mpu (ld1 h36 t97) fun t98 =>
                          Msu prg (Instr.mapUpdate T_map_string_string t28 t98 t68) h36 fun t_ h37 =>
                          Mpu (fld 0 t19) fun t101 =>
                          Mpu (ld1 h37 t101) fun t102 =>
                          Mnews h37 T_string 1 (bslV prg T_string 1 [(0, t102)]) fun t103 h38 =>
                          Mapp T_string 1 16 h38 t13_3 t103 fun t104 h39 =>
                          k32 t104 h39) (
                          k32 t13_3 h36)) fun t13_5 h33 =>
                      Mpu (binV .no .add t83_2 (.int .i64 1)) fun t105 =>
                      k30 t13_5 t105 h33) (
                      k27 t13_3 t83_2 h31)) (t13_2) ((.int .i64 0)) h29) fun t13_6 t83_4 h28 =>
                Mpu (binV .no .add t65_2 (.int .i64 1)) fun t106 =>
                k25 t13_6 t106 h28) (
                k23 t13_2 t65_2 h26)) ((.slice none 0 0)) ((.int .i64 0)) h22) fun t13_7 t65_4 h24 =>
          k18 t13_7 h24) (
          k16 t8_6 t61_2 h22)) (t8_5) h5) fun t8_8 t61_3 h17 =>
    Mpu (lenV t8_8) fun t109 =>
    Mpu (binV .no .eql t109 (.int .i64 0)) fun t110 =>
    Mcd t110 (
      R (.slice none 0 0) h17) (
      J2 (fun k40 =>
        L2 (fun k42 => fun t22_2 t23_2 h43 =>
          Mpu (binV .no .neq t23_2 (.string ⟨#[]⟩)) fun t113 =>
          Mcd t113 (
            Mnews h43 T_string 1 (bslV prg T_string 1 [(0, t23_2)]) fun t119 h44 =>
            Mcall prg f_slices_Insert_S_string_string [t22_2, (.int .i64 0), t119] h44 fun t120 h45 =>
            Msem prg (Instr.lookup T_map_string_string t28 t23_2 false) h45 fun t116 h46 =>
            k42 t120 t116 h46) (
            k40 t22_2 t23_2 h43)) ((.slice none 0 0)) (t2) h17) fun t22_4 t23_4 h41 =>
      R t22_4 h41))
theorem sh_solve_Why_chk : fchkF prg [8, 13, 22, 23, 32, 61, 65, 83] Tryz.f23 3 = true := by kernel_rfl
theorem sh_solve_Why_den (t0 t1 t2 : Value) (H : Heap) (R : Value → Heap → Prop) : fdenF prg [8, 13, 22, 23, 32, 61, 65, 83] Tryz.f23 [t0, t1, t2] H R = sh_solve_Why t0 t1 t2 H R := by kernel_rfl
theorem sh_solve_Why_calls {t0 t1 t2 : Value} {H : Heap} {R : Value → Heap → Prop} (h : sh_solve_Why t0 t1 t2 H R) : HCalls prg f_solve_Why [t0, t1, t2] H R :=
  calls_ofF Tryz.func23 sh_solve_Why_chk (by rw [sh_solve_Why_den]; exact h)

-- syngraph/syngraphref20.Why
def sh_syngraphref20_Why (t0 t1 t2 t3 t4 : Value) (H : Heap) (R : Value → Heap → Prop) : Prop :=
  J1 (fun k1 =>
    L1 (fun k3 => fun t12_2 h4 =>
      Mpu (lenV t1) fun t18 =>
      Mpu (binV .no .lss t12_2 t18) fun t19 =>
      Mcd t19 (
        J0 (fun k5 =>
          Mpu (binV .no .eql t4 (.int .i64 1)) fun t23 =>
          Mcd t23 (
            Mpu (ixS 6 t1 t12_2) fun t26 =>
            Mpu (fld 0 t26) fun t27 =>
            Mpu (ld1 h4 t27) fun t28 =>
            Mpu (binV .no .eql t28 t3) fun t30 =>
            Mcd t30 (
              Mnews h4 T_string 1 (bslV prg T_string 1 [(0, t3)]) fun t32 h7 =>
              R (.tuple #[t32, (.bool true)]) h7) (
              k5 h4)) (
            L1 (fun k8 => fun t13_2 h9 =>
              Mpu (lenV t2) fun t35 =>
              Mpu (binV .no .lss t13_2 t35) fun t36 =>
              Mcd t36 (
                J0 (fun k10 =>
                  Mpu (ixS 1 t2 t13_2) fun t42 =>
                  Mpu (ld1 h9 t42) fun t43 =>
                  Mpu (ixS 7 t0 t43) fun t44 =>
                  Mpu (fld 0 t44) fun t45 =>
                  Mpu (ld1 h9 t45) fun t46 =>
                  Mpu (ixS 6 t1 t12_2) fun t49 =>
                  Mpu (fld 0 t49) fun t50 =>
                  Mpu (ld1 h9 t50) fun t51 =>
                  Mpu (binV .no .neq t46 t51) fun t52 =>
                  Mcd t52 (
                    k10 h9) (
                    Mpu (ixS 1 t2 t13_2) fun t58 =>
                    Mpu (ld1 h9 t58) fun t59 =>
                    Mpu (ixS 7 t0 t59) fun t60 =>
                    Mpu (fld 5 t60) fun t61 =>
                    Mpu (ld1 h9 t61) fun t62 =>
                    Mpu (binV .no .sub t4 (.int .i64 1)) fun t66 =>
                    Mcall prg f_syngraphref20_Why [t0, t62, t2, t3, t66] h9 fun t67 h12 =>
                    Mpu (extV 0 t67) fun t68 =>
                    Mpu (extV 1 t67) fun t69 =>
                    Mcd t69 (
                      Mpu (ixS 6 t1 t12_2) fun t73 =>
                      Mpu (fld 0 t73) fun t74 =>
                      Mpu (ld1 h12 t74) fun t75 =>
                      Mnews h12 T_string 1 (bslV prg T_string 1 [(0, t75)]) fun t76 h13 =>
                      Mapp T_string 1 16 h13 t76 t68 fun t78 h14 =>
                      R (.tuple #[t78, (.bool true)]) h14) (
                      k10 h12))) fun h11 =>
                Mpu (binV .no .add t13_2 (.int .i64 1)) fun t38 =>
                k8 t38 h11) (
                k5 h9)) ((.int .i64 0)) h4)) fun h6 =>
        Mpu (binV .no .add t12_2 (.int .i64 1)) fun t21 =>
        k3 t21 h6) (
        k1 t12_2 h4)) ((.int .i64 0)) H) fun t12_4 h2 =>
  R (.tuple #[(.slice none 0 0), (.bool false)]) h2
theorem sh_syngraphref20_Why_chk : fchkF prg [12, 13] Tryz.f24 5 = true := by kernel_rfl
theorem sh_syngraphref20_Why_den (t0 t1 t2 t3 t4 : Value) (H : Heap) (R : Value → Heap → Prop) : fdenF prg [12, 13] Tryz.f24 [t0, t1, t2, t3, t4] H R = sh_syngraphref20_Why t0 t1 t2 t3 t4 H R := by kernel_rfl
theorem sh_syngraphref20_Why_calls {t0 t1 t2 t3 t4 : Value} {H : Heap} {R : Value → Heap → Prop} (h : sh_syngraphref20_Why t0 t1 t2 t3 t4 H R) : HCalls prg f_syngraphref20_Why [t0, t1, t2, t3, t4] H R :=
  calls_ofF Tryz.func24 sh_syngraphref20_Why_chk (by rw [sh_syngraphref20_Why_den]; exact h)

-- syngraph/syngraphlaw20.pack
def sh_syngraphlaw20_pack (t0 t1 t2 : Value) (H : Heap) (R : Value → Heap → Prop) : Prop :=
  Mnew H T_manifest_Manifest (zcells prg T_manifest_Manifest) fun t6 h1 =>
  Mcall prg f_version_Parse [t1] h1 fun t11 h2 =>
  Mpu (extV 0 t11) fun t12 =>
  Mpu (extV 1 t11) fun t13 =>
  Mnew h2 T_version_Version (zcells prg T_version_Version) fun t7 h3 =>
  Mwr (stN 4 h3 t7 t12) fun h4 =>
  Mpu (ldN 4 h4 t7) fun t15 =>
  Mpu (buildV prg T_manifest_Manifest [(0, t0), (1, t15), (2, t2)]) fun t17 =>
  Mwr (stN 8 h4 t6 t17) fun h5 =>
  Mpu (ldN 8 h5 t6) fun r6 =>
  R r6 h5
theorem sh_syngraphlaw20_pack_chk : fchkF prg [] Tryz.f25 3 = true := by kernel_rfl
theorem sh_syngraphlaw20_pack_den (t0 t1 t2 : Value) (H : Heap) (R : Value → Heap → Prop) : fdenF prg [] Tryz.f25 [t0, t1, t2] H R = sh_syngraphlaw20_pack t0 t1 t2 H R := by kernel_rfl
theorem sh_syngraphlaw20_pack_calls {t0 t1 t2 : Value} {H : Heap} {R : Value → Heap → Prop} (h : sh_syngraphlaw20_pack t0 t1 t2 H R) : HCalls prg f_syngraphlaw20_pack [t0, t1, t2] H R :=
  calls_ofF Tryz.func25 sh_syngraphlaw20_pack_chk (by rw [sh_syngraphlaw20_pack_den]; exact h)

-- syngraph/syngraphlaw20.want
def sh_syngraphlaw20_want (t0 t1 : Value) (H : Heap) (R : Value → Heap → Prop) : Prop :=
  Mnew H T_manifest_Dep (zcells prg T_manifest_Dep) fun t4 h1 =>
  Mcall prg f_version_ParseWant [t1] h1 fun t9 h2 =>
  Mpu (extV 0 t9) fun t10 =>
  Mpu (extV 1 t9) fun t11 =>
  Mnew h2 T_version_Want (zcells prg T_version_Want) fun t5 h3 =>
  Mwr (stN 5 h3 t5 t10) fun h4 =>
  Mpu (ldN 5 h4 t5) fun t13 =>
  Mpu (buildV prg T_manifest_Dep [(0, t0), (1, t13)]) fun t14 =>
  Mwr (stN 6 h4 t4 t14) fun h5 =>
  Mpu (ldN 6 h5 t4) fun r6 =>
  R r6 h5
theorem sh_syngraphlaw20_want_chk : fchkF prg [] Tryz.f26 2 = true := by kernel_rfl
theorem sh_syngraphlaw20_want_den (t0 t1 : Value) (H : Heap) (R : Value → Heap → Prop) : fdenF prg [] Tryz.f26 [t0, t1] H R = sh_syngraphlaw20_want t0 t1 H R := by kernel_rfl
theorem sh_syngraphlaw20_want_calls {t0 t1 : Value} {H : Heap} {R : Value → Heap → Prop} (h : sh_syngraphlaw20_want t0 t1 H R) : HCalls prg f_syngraphlaw20_want [t0, t1] H R :=
  calls_ofF Tryz.func26 sh_syngraphlaw20_want_chk (by rw [sh_syngraphlaw20_want_den]; exact h)

-- slices.Clone[[]syngraph/manifest.Dep,syngraph/manifest.Dep]
def sh_slices_Clone_S_manifest_Dep_manifest_Dep (t0 : Value) (H : Heap) (R : Value → Heap → Prop) : Prop :=
  Mpu (binV .slc .eql t0 (.slice none 0 0)) fun t4 =>
  Mcd t4 (
    R (.slice none 0 0) H) (
    Mnews H T_manifest_Dep 0 (bslV prg T_manifest_Dep 0 []) fun t5 h1 =>
    Mapp T_manifest_Dep 6 72 h1 t5 t0 fun t7 h2 =>
    R t7 h2)
theorem sh_slices_Clone_S_manifest_Dep_manifest_Dep_chk : fchkF prg [] Tryz.f27 1 = true := by kernel_rfl
theorem sh_slices_Clone_S_manifest_Dep_manifest_Dep_den (t0 : Value) (H : Heap) (R : Value → Heap → Prop) : fdenF prg [] Tryz.f27 [t0] H R = sh_slices_Clone_S_manifest_Dep_manifest_Dep t0 H R := by kernel_rfl
theorem sh_slices_Clone_S_manifest_Dep_manifest_Dep_calls {t0 : Value} {H : Heap} {R : Value → Heap → Prop} (h : sh_slices_Clone_S_manifest_Dep_manifest_Dep t0 H R) : HCalls prg f_slices_Clone_S_manifest_Dep_manifest_Dep [t0] H R :=
  calls_ofF Tryz.func27 sh_slices_Clone_S_manifest_Dep_manifest_Dep_chk (by rw [sh_slices_Clone_S_manifest_Dep_manifest_Dep_den]; exact h)

-- (syngraph/solve.Problem).of
def sh_solve_Problem_of (t0 t1 t2 : Value) (H : Heap) (R : Value → Heap → Prop) : Prop :=
  Mnew H T_solve_Problem (some (Value.cells t0)) fun t3 h1 =>
  Mnew h1 T_string (some (Value.cells t2)) fun t5 h2 =>
  Mcall prg f_slices_IndexFunc_S_int_int [t1, (.func (.func f_solve_Problem_of_1) #[] #[t3, t5])] h2 fun t11 h3 =>
  Mpu (binV .no .lss t11 (.int .i64 0)) fun t13 =>
  Mcd t13 (
    R (.tuple #[(.int .i64 0), (.bool false)]) h3) (
    Mpu (ixS 1 t1 t11) fun t16 =>
    Mpu (ld1 h3 t16) fun t17 =>
    R (.tuple #[t17, (.bool true)]) h3)
theorem sh_solve_Problem_of_chk : fchkF prg [] Tryz.f28 3 = true := by kernel_rfl
theorem sh_solve_Problem_of_den (t0 t1 t2 : Value) (H : Heap) (R : Value → Heap → Prop) : fdenF prg [] Tryz.f28 [t0, t1, t2] H R = sh_solve_Problem_of t0 t1 t2 H R := by kernel_rfl
theorem sh_solve_Problem_of_calls {t0 t1 t2 : Value} {H : Heap} {R : Value → Heap → Prop} (h : sh_solve_Problem_of t0 t1 t2 H R) : HCalls prg f_solve_Problem_of [t0, t1, t2] H R :=
  calls_ofF Tryz.func28 sh_solve_Problem_of_chk (by rw [sh_solve_Problem_of_den]; exact h)

-- (syngraph/solve.Problem).newest
def sh_solve_Problem_newest (t0 t1 : Value) (H : Heap) (R : Value → Heap → Prop) : Prop :=
  Mnew H T_solve_Problem (some (Value.cells t0)) fun t2 h1 =>
  Mnew h1 T_manifest_Dep (some (Value.cells t1)) fun t3 h2 =>
  J2 (fun k3 =>
    Mpu (fld 0 t2) fun t8 =>
    Mpu (ld1 h2 t8) fun t9 =>
    Mpu (lenV t9) fun t10 =>
    L2 (fun k5 => fun t5_2 t11_2 h6 =>
      Mpu (binV .no .lss t11_2 t10) fun t12 =>
      Mcd t12 (
        J2 (fun k7 =>
          Mpu (ixS 8 t9 t11_2) fun t14 =>
          Mpu (ldN 8 h6 t14) fun t15 =>
          Mnew h6 T_manifest_Manifest (zcells prg T_manifest_Manifest) fun t7 h9 =>
          Mwr (stN 8 h9 t7 t15) fun h10 =>
          Mpu (fld 0 t7) fun t16 =>
          Mpu (ld1 h10 t16) fun t17 =>
          Mpu (fld 0 t3) fun t18 =>
          Mpu (ld1 h10 t18) fun t19 =>
          Mpu (binV .no .eql t17 t19) fun t20 =>
          J1 (fun k11 => Mif t20 true (
              Mpu (fld 1 t3) fun t22 =>
              Mpu (ldN 5 h10 t22) fun t23 =>
              Mpu (fld 1 t7) fun t24 =>
              Mpu (ldN 4 h10 t24) fun t25 =>
              Mcall prg f_version_Want_Fits [t23, t25] h10 fun t26 h12 =>
              k11 t26 h12) (
              k11 undef h10)) fun t26_2 h13 =>
          Mpu (pickV t20 t26_2 (.bool false)) fun t27 =>
          Mcd t27 (
            Mnews h13 T_int 1 (bslV prg T_int 1 [(0, t11_2)]) fun t30 h14 =>
            Mapp T_int 1 8 h14 t5_2 t30 fun t31 h15 =>
            k7 t31 t26_2 h15) (
            k7 t5_2 t26_2 h13)) fun t5_4 t26_3 h8 =>
        Mpu (binV .no .add t11_2 (.int .i64 1)) fun t32 =>
        k5 t5_4 t32 h8) (
        k3 t5_2 t11_2 h6)) ((.slice none 0 0)) ((.int .i64 0)) h2) fun t5_5 t11_4 h4 =>
  Mcall prg f_slices_SortFunc_S_int_int [t5_5, (.func (.func f_solve_Problem_newest_1) #[] #[t2])] h4 fun t35 h16 =>
  R t5_5 h16
theorem sh_solve_Problem_newest_chk : fchkF prg [5, 11, 26] Tryz.f29 2 = true := by kernel_rfl
theorem sh_solve_Problem_newest_den (t0 t1 : Value) (H : Heap) (R : Value → Heap → Prop) : fdenF prg [5, 11, 26] Tryz.f29 [t0, t1] H R = sh_solve_Problem_newest t0 t1 H R := by kernel_rfl
theorem sh_solve_Problem_newest_calls {t0 t1 : Value} {H : Heap} {R : Value → Heap → Prop} (h : sh_solve_Problem_newest t0 t1 H R) : HCalls prg f_solve_Problem_newest [t0, t1] H R :=
  calls_ofF Tryz.func29 sh_solve_Problem_newest_chk (by rw [sh_solve_Problem_newest_den]; exact h)

-- (syngraph/solve.Problem).sorted
def sh_solve_Problem_sorted (t0 t1 : Value) (H : Heap) (R : Value → Heap → Prop) : Prop :=
  Mnew H T_solve_Problem (some (Value.cells t0)) fun t2 h1 =>
  Mcall prg f_slices_Clone_S_int_int [t1] h1 fun t7 h2 =>
  Mcall prg f_slices_SortFunc_S_int_int [t7, (.func (.func f_solve_Problem_sorted_1) #[] #[t2])] h2 fun t10 h3 =>
  R t7 h3
theorem sh_solve_Problem_sorted_chk : fchkF prg [] Tryz.f31 2 = true := by kernel_rfl
theorem sh_solve_Problem_sorted_den (t0 t1 : Value) (H : Heap) (R : Value → Heap → Prop) : fdenF prg [] Tryz.f31 [t0, t1] H R = sh_solve_Problem_sorted t0 t1 H R := by kernel_rfl
theorem sh_solve_Problem_sorted_calls {t0 t1 : Value} {H : Heap} {R : Value → Heap → Prop} (h : sh_solve_Problem_sorted t0 t1 H R) : HCalls prg f_solve_Problem_sorted [t0, t1] H R :=
  calls_ofF Tryz.func31 sh_solve_Problem_sorted_chk (by rw [sh_solve_Problem_sorted_den]; exact h)

-- (syngraph/solve.Problem).clash
def sh_solve_Problem_clash (t0 t1 t2 : Value) (H : Heap) (R : Value → Heap → Prop) : Prop :=
  Mnew H T_solve_Problem (some (Value.cells t0)) fun t3 h1 =>
  Mnew h1 T_int (some (Value.cells t2)) fun t5 h2 =>
  Mcall prg f_slices_ContainsFunc_S_int_int [t1, (.func (.func f_solve_Problem_clash_1) #[] #[t3, t5])] h2 fun t9 h3 =>
  R t9 h3
theorem sh_solve_Problem_clash_chk : fchkF prg [] Tryz.f32 3 = true := by kernel_rfl
theorem sh_solve_Problem_clash_den (t0 t1 t2 : Value) (H : Heap) (R : Value → Heap → Prop) : fdenF prg [] Tryz.f32 [t0, t1, t2] H R = sh_solve_Problem_clash t0 t1 t2 H R := by kernel_rfl
theorem sh_solve_Problem_clash_calls {t0 t1 t2 : Value} {H : Heap} {R : Value → Heap → Prop} (h : sh_solve_Problem_clash t0 t1 t2 H R) : HCalls prg f_solve_Problem_clash [t0, t1, t2] H R :=
  calls_ofF Tryz.func32 sh_solve_Problem_clash_chk (by rw [sh_solve_Problem_clash_den]; exact h)

-- slices.Clone[[]int,int]
def sh_slices_Clone_S_int_int (t0 : Value) (H : Heap) (R : Value → Heap → Prop) : Prop :=
  Mpu (binV .slc .eql t0 (.slice none 0 0)) fun t4 =>
  Mcd t4 (
    R (.slice none 0 0) H) (
    Mnews H T_int 0 (bslV prg T_int 0 []) fun t5 h1 =>
    Mapp T_int 1 8 h1 t5 t0 fun t7 h2 =>
    R t7 h2)
theorem sh_slices_Clone_S_int_int_chk : fchkF prg [] Tryz.f33 1 = true := by kernel_rfl
theorem sh_slices_Clone_S_int_int_den (t0 : Value) (H : Heap) (R : Value → Heap → Prop) : fdenF prg [] Tryz.f33 [t0] H R = sh_slices_Clone_S_int_int t0 H R := by kernel_rfl
theorem sh_slices_Clone_S_int_int_calls {t0 : Value} {H : Heap} {R : Value → Heap → Prop} (h : sh_slices_Clone_S_int_int t0 H R) : HCalls prg f_slices_Clone_S_int_int [t0] H R :=
  calls_ofF Tryz.func33 sh_slices_Clone_S_int_int_chk (by rw [sh_slices_Clone_S_int_int_den]; exact h)

end Go.Proofs.YtanhgihfgmbojaaGreatDoor

/- PRINTED: clean texts -/
namespace Go.Proofs.YtanhgihfgmbojaaGreatDoor
open Go.X
set_option maxRecDepth 100000
-- slices.Concat[[]syngraph/manifest.Dep,syngraph/manifest.Dep]
def sh_slices_Concat_S_manifest_Dep_manifest_Dep (t0 : Value) (H : Heap) (R : Value → Heap → Prop) : Prop :=
  J2 (fun k1 =>
    Mpu (lenV t0) fun t10 =>
    L2 (fun k3 => fun t3_2 t11_2 h4 =>
      Mpu (binV .no .lss t11_2 t10) fun t12 =>
      Mcd t12 (
        J1 (fun k5 =>
          Mpu (ixS 1 t0 t11_2) fun t13 =>
          Mpu (ld1 h4 t13) fun t14 =>
          Mpu (lenV t14) fun t17 =>
          Mpu (binV .no .add t3_2 t17) fun t18 =>
          Mpu (binV .no .lss t18 (.int .i64 0)) fun t20 =>
          Mcd t20 (
            Mpu (mkI prg T_string (.string ⟨#[108, 101, 110, 32, 111, 117, 116, 32, 111, 102, 32, 114, 97, 110, 103, 101]⟩)) fun t21 =>
            False) (
            k5 t18 h4)) fun t3_4 h6 =>
        Mpu (binV .no .add t11_2 (.int .i64 1)) fun t22 =>
        k3 t3_4 t22 h6) (
        k1 t3_2 t11_2 h4)) ((.int .i64 0)) ((.int .i64 0)) H) fun t3_5 t11_4 h2 =>
  Mcall prg f_slices_Grow_S_manifest_Dep_manifest_Dep [(.slice none 0 0), t3_5] h2 fun t24 h7 =>
  J2 (fun k8 =>
    Mpu (lenV t0) fun t26 =>
    L2 (fun k10 => fun t6_2 t27_2 h11 =>
      Mpu (binV .no .lss t27_2 t26) fun t28 =>
      Mcd t28 (
        Mpu (ixS 1 t0 t27_2) fun t29 =>
        Mpu (ld1 h11 t29) fun t30 =>
        Mapp T_manifest_Dep 6 72 h11 t6_2 t30 fun t33 h12 =>
        Mpu (binV .no .add t27_2 (.int .i64 1)) fun t34 =>
        k10 t33 t34 h12) (
        k8 t6_2 t27_2 h11)) (t24) ((.int .i64 0)) h7) fun t6_4 t27_4 h9 =>
  R t6_4 h9
theorem sh_slices_Concat_S_manifest_Dep_manifest_Dep_chk : fchkF prg [3, 6, 11, 27] Tryz.f34 1 = true := by kernel_rfl
theorem sh_slices_Concat_S_manifest_Dep_manifest_Dep_den (t0 : Value) (H : Heap) (R : Value → Heap → Prop) : fdenF prg [3, 6, 11, 27] Tryz.f34 [t0] H R = sh_slices_Concat_S_manifest_Dep_manifest_Dep t0 H R := by kernel_rfl
theorem sh_slices_Concat_S_manifest_Dep_manifest_Dep_calls {t0 : Value} {H : Heap} {R : Value → Heap → Prop} (h : sh_slices_Concat_S_manifest_Dep_manifest_Dep t0 H R) : HCalls prg f_slices_Concat_S_manifest_Dep_manifest_Dep [t0] H R :=
  calls_ofF Tryz.func34 sh_slices_Concat_S_manifest_Dep_manifest_Dep_chk (by rw [sh_slices_Concat_S_manifest_Dep_manifest_Dep_den]; exact h)

-- (syngraph/manifest.Manifest).Right
def sh_manifest_Manifest_Right (t0 : Value) (H : Heap) (R : Value → Heap → Prop) : Prop :=
  Mnew H T_manifest_Manifest (some (Value.cells t0)) fun t1 h1 =>
  Mpu (fld 0 t1) fun t3 =>
  Mpu (ld1 h1 t3) fun t4 =>
  Mcall prg f_manifest_Name [t4] h1 fun t5 h2 =>
  J1 (fun k3 => Mif t5 true (
      Mpu (fld 1 t1) fun t7 =>
      Mpu (ldN 4 h2 t7) fun t8 =>
      Mcall prg f_version_Version_Right [t8] h2 fun t9 h4 =>
      k3 t9 h4) (
      k3 undef h2)) fun t9_2 h5 =>
  Mpu (pickV t5 t9_2 (.bool false)) fun t10 =>
  J1 (fun k6 => Mif t10 true (
      Mpu (ldN 8 h5 t1) fun t12 =>
      Mpu (fld 5 t1) fun t13 =>
      Mpu (ld1 h5 t13) fun t14 =>
      Mcall prg f_manifest_Manifest_deps [t12, t14] h5 fun t15 h7 =>
      k6 t15 h7) (
      k6 undef h5)) fun t15_2 h8 =>
  Mpu (pickV t10 t15_2 (.bool false)) fun t16 =>
  J1 (fun k9 => Mif t16 true (
      Mpu (ldN 8 h8 t1) fun t18 =>
      Mpu (fld 6 t1) fun t19 =>
      Mpu (ld1 h8 t19) fun t20 =>
      Mcall prg f_manifest_Manifest_deps [t18, t20] h8 fun t21 h10 =>
      k9 t21 h10) (
      k9 undef h8)) fun t21_2 h11 =>
  Mpu (pickV t16 t21_2 (.bool false)) fun t22 =>
  J1 (fun k12 => Mif t22 true (
      Mpu (ldN 8 h11 t1) fun t24 =>
      Mcall prg f_manifest_Manifest_files [t24] h11 fun t25 h13 =>
      k12 t25 h13) (
      k12 undef h11)) fun t25_2 h14 =>
  Mpu (pickV t22 t25_2 (.bool false)) fun t26 =>
  R t26 h14
theorem sh_manifest_Manifest_Right_chk : fchkF prg [9, 15, 21, 25] Tryz.f35 1 = true := by kernel_rfl
theorem sh_manifest_Manifest_Right_den (t0 : Value) (H : Heap) (R : Value → Heap → Prop) : fdenF prg [9, 15, 21, 25] Tryz.f35 [t0] H R = sh_manifest_Manifest_Right t0 H R := by kernel_rfl
theorem sh_manifest_Manifest_Right_calls {t0 : Value} {H : Heap} {R : Value → Heap → Prop} (h : sh_manifest_Manifest_Right t0 H R) : HCalls prg f_manifest_Manifest_Right [t0] H R :=
  calls_ofF Tryz.func35 sh_manifest_Manifest_Right_chk (by rw [sh_manifest_Manifest_Right_den]; exact h)

-- slices.ContainsFunc[[]syngraph/manifest.Manifest,syngraph/manifest.Manifest]
def sh_slices_ContainsFunc_S_manifest_Manifest_manifest_Manifest (t0 t1 : Value) (H : Heap) (R : Value → Heap → Prop) : Prop :=
  Mcall prg f_slices_IndexFunc_S_manifest_Manifest_manifest_Manifest [t0, t1] H fun t7 h1 =>
  Mpu (binV .no .geq t7 (.int .i64 0)) fun t8 =>
  R t8 h1
theorem sh_slices_ContainsFunc_S_manifest_Manifest_manifest_Manifest_chk : fchkF prg [] Tryz.f38 2 = true := by kernel_rfl
theorem sh_slices_ContainsFunc_S_manifest_Manifest_manifest_Manifest_den (t0 t1 : Value) (H : Heap) (R : Value → Heap → Prop) : fdenF prg [] Tryz.f38 [t0, t1] H R = sh_slices_ContainsFunc_S_manifest_Manifest_manifest_Manifest t0 t1 H R := by kernel_rfl
theorem sh_slices_ContainsFunc_S_manifest_Manifest_manifest_Manifest_calls {t0 t1 : Value} {H : Heap} {R : Value → Heap → Prop} (h : sh_slices_ContainsFunc_S_manifest_Manifest_manifest_Manifest t0 t1 H R) : HCalls prg f_slices_ContainsFunc_S_manifest_Manifest_manifest_Manifest [t0, t1] H R :=
  calls_ofF Tryz.func38 sh_slices_ContainsFunc_S_manifest_Manifest_manifest_Manifest_chk (by rw [sh_slices_ContainsFunc_S_manifest_Manifest_manifest_Manifest_den]; exact h)

-- (syngraph/solve.Problem).Check$1
def sh_solve_Problem_Check_1 (t0 t1 : Value) (H : Heap) (R : Value → Heap → Prop) : Prop :=
  Mnew H T_manifest_Manifest (some (Value.cells t0)) fun t2 h1 =>
  Mpu (fld 0 t2) fun t4 =>
  Mpu (ld1 h1 t4) fun t5 =>
  Mpu (fld 0 t1) fun t6 =>
  Mpu (ld1 h1 t6) fun t7 =>
  Mpu (binV .no .eql t5 t7) fun t8 =>
  J1 (fun k2 => Mif t8 true (
      Mpu (fld 1 t2) fun t10 =>
      Mpu (ldN 4 h1 t10) fun t11 =>
      Mpu (fld 1 t1) fun t12 =>
      Mpu (ldN 4 h1 t12) fun t13 =>
      Mpu (binV (eqK prg T_version_Version) .eql t11 t13) fun t14 =>
      k2 t14 h1) (
      k2 undef h1)) fun t14_2 h3 =>
  Mpu (pickV t8 t14_2 (.bool false)) fun t15 =>
  R t15 h3
theorem sh_solve_Problem_Check_1_chk : fchkF prg [14] Tryz.f39 2 = true := by kernel_rfl
theorem sh_solve_Problem_Check_1_den (t0 t1 : Value) (H : Heap) (R : Value → Heap → Prop) : fdenF prg [14] Tryz.f39 [t0, t1] H R = sh_solve_Problem_Check_1 t0 t1 H R := by kernel_rfl
theorem sh_solve_Problem_Check_1_calls {t0 t1 : Value} {H : Heap} {R : Value → Heap → Prop} (h : sh_solve_Problem_Check_1 t0 t1 H R) : HCalls prg f_solve_Problem_Check_1 [t0, t1] H R :=
  calls_ofF Tryz.func39 sh_solve_Problem_Check_1_chk (by rw [sh_solve_Problem_Check_1_den]; exact h)

-- syngraph/syngraphlaw20.version1
def sh_syngraphlaw20_version1 (t0 : Value) (H : Heap) (R : Value → Heap → Prop) : Prop :=
  Mnew H T_version_Version (some (Value.cells t0)) fun t1 h1 =>
  Mnew h1 T_syngraphref18_Version (zcells prg T_syngraphref18_Version) fun t2 h2 =>
  Mpu (fld 0 t1) fun t3 =>
  Mpu (ldN 3 h2 t3) fun t4 =>
  Mpu (fld 3 t1) fun t5 =>
  Mpu (ld1 h2 t5) fun t6 =>
  Mpu (buildV prg T_syngraphref18_Version [(0, t4), (1, t6)]) fun t7 =>
  Mwr (stN 4 h2 t2 t7) fun h3 =>
  Mpu (ldN 4 h3 t2) fun r4 =>
  R r4 h3
theorem sh_syngraphlaw20_version1_chk : fchkF prg [] Tryz.f40 1 = true := by kernel_rfl
theorem sh_syngraphlaw20_version1_den (t0 : Value) (H : Heap) (R : Value → Heap → Prop) : fdenF prg [] Tryz.f40 [t0] H R = sh_syngraphlaw20_version1 t0 H R := by kernel_rfl
theorem sh_syngraphlaw20_version1_calls {t0 : Value} {H : Heap} {R : Value → Heap → Prop} (h : sh_syngraphlaw20_version1 t0 H R) : HCalls prg f_syngraphlaw20_version1 [t0] H R :=
  calls_ofF Tryz.func40 sh_syngraphlaw20_version1_chk (by rw [sh_syngraphlaw20_version1_den]; exact h)

-- syngraph/syngraphref20.fits
-- (*syngraph/syngraphref20.Find).newest
-- syngraph/syngraphref20.refuses
-- slices.Contains[[]int,int]
-- (syngraph/solve.Problem).asked
def sh_solve_Problem_asked (t0 t1 : Value) (H : Heap) (R : Value → Heap → Prop) : Prop :=
  Mnew H T_solve_Problem (some (Value.cells t0)) fun t2 h1 =>
  Mnew h1 T_S_int (some (Value.cells t1)) fun t3 h2 =>
  R (.func (.func f_solve_Problem_asked_1) #[] #[t2, t3]) h2
theorem sh_solve_Problem_asked_chk : fchkF prg [] Tryz.f45 2 = true := by kernel_rfl
theorem sh_solve_Problem_asked_den (t0 t1 : Value) (H : Heap) (R : Value → Heap → Prop) : fdenF prg [] Tryz.f45 [t0, t1] H R = sh_solve_Problem_asked t0 t1 H R := by kernel_rfl
theorem sh_solve_Problem_asked_calls {t0 t1 : Value} {H : Heap} {R : Value → Heap → Prop} (h : sh_solve_Problem_asked t0 t1 H R) : HCalls prg f_solve_Problem_asked [t0, t1] H R :=
  calls_ofF Tryz.func45 sh_solve_Problem_asked_chk (by rw [sh_solve_Problem_asked_den]; exact h)

end Go.Proofs.YtanhgihfgmbojaaGreatDoor

