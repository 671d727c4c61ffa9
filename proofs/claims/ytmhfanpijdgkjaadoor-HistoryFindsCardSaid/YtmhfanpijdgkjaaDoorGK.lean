/- JOINED: Sb0 Sb1 Sb2 Sb3 Sb4 -/
import Derived.Test.YtmhfanpijdgkjaaDoorGE
set_option linter.unusedSimpArgs false
set_option linter.unusedVariables false
/- PRINTED: clean texts -/
namespace Go.Proofs.YtmhfanpijdgkjaaDoor
open Go.X
set_option maxRecDepth 100000
-- syngraph/syngraphlaw22.small
def sh_syngraphlaw22_small (t0 : Value) (H : Heap) (R : Value → Heap → Prop) : Prop :=
  Mnew H T_history_Record (some (Value.cells t0)) fun t1 h1 =>
  J1 (fun k2 =>
    Mpu (fld 1 t1) fun t7 =>
    Mpu (ld1 h1 t7) fun t8 =>
    Mpu (fld 2 t1) fun t9 =>
    Mpu (ld1 h1 t9) fun t10 =>
    Mnews h1 T_S_history_Item 2 (bslV prg T_S_history_Item 2 [(0, t8), (1, t10)]) fun t11 h4 =>
    Mpu (lenV t11) fun t12 =>
    L1 (fun k5 => fun t13_2 h6 =>
      Mpu (binV .no .lss t13_2 t12) fun t14 =>
      Mcd t14 (
        J1 (fun k7 =>
          Mpu (ixS 1 t11 t13_2) fun t15 =>
          Mpu (ld1 h6 t15) fun t16 =>
          Mpu (lenV t16) fun t18 =>
          L1 (fun k9 => fun t19_2 h10 =>
            Mpu (binV .no .lss t19_2 t18) fun t20 =>
            Mcd t20 (
              Mpu (ixS 37 t16 t19_2) fun t21 =>
              Mpu (ldN 37 h10 t21) fun t22 =>
              Mnew h10 T_history_Item (zcells prg T_history_Item) fun t6 h11 =>
              Mwr (stN 37 h11 t6 t22) fun h12 =>
              Mpu (fld 0 t6) fun t23 =>
              Mpu (ld1 h12 t23) fun t24 =>
              Mpu (lenT t24) fun t25 =>
              Mpu (binV .no .gtr t25 (.int .i64 100)) fun t26 =>
              J1 (fun k13 => Mif t26 false (
                  Mpu (fld 1 t6) fun t28 =>
                  Mpu (fld 3 t28) fun t29 =>
                  Mpu (ld1 h12 t29) fun t30 =>
                  Mpu (lenT t30) fun t31 =>
                  Mpu (binV .no .gtr t31 (.int .i64 100)) fun t32 =>
                  k13 t32 h12) (
                  k13 undef h12)) fun t32_2 h14 =>
              Mpu (pickV t26 (.bool true) t32_2) fun t33 =>
              Mcd t33 (
                R (.bool false) h14) (
                Mpu (binV .no .add t19_2 (.int .i64 1)) fun t34 =>
                k9 t34 h14)) (
              k7 t19_2 h10)) ((.int .i64 0)) h6) fun t19_4 h8 =>
        Mpu (binV .no .add t13_2 (.int .i64 1)) fun t35 =>
        k5 t35 h8) (
        k2 t13_2 h6)) ((.int .i64 0)) h4) fun t13_4 h3 =>
  Mpu (fld 1 t1) fun t36 =>
  Mpu (ld1 h3 t36) fun t37 =>
  Mpu (lenV t37) fun t38 =>
  Mpu (binV .no .leq t38 (.int .i64 20)) fun t39 =>
  J1 (fun k15 => Mif t39 true (
      Mpu (fld 2 t1) fun t41 =>
      Mpu (ld1 h3 t41) fun t42 =>
      Mpu (lenV t42) fun t43 =>
      Mpu (binV .no .leq t43 (.int .i64 20)) fun t44 =>
      k15 t44 h3) (
      k15 undef h3)) fun t44_2 h16 =>
  Mpu (pickV t39 t44_2 (.bool false)) fun t45 =>
  R t45 h16
theorem sh_syngraphlaw22_small_chk : fchkF prg [13, 19, 32, 44] Tryd.f16 1 = true := by kernel_rfl
theorem sh_syngraphlaw22_small_den (t0 : Value) (H : Heap) (R : Value → Heap → Prop) : fdenF prg [13, 19, 32, 44] Tryd.f16 [t0] H R = sh_syngraphlaw22_small t0 H R := by kernel_rfl
theorem sh_syngraphlaw22_small_calls {t0 : Value} {H : Heap} {R : Value → Heap → Prop} (h : sh_syngraphlaw22_small t0 H R) : HCalls prg f_syngraphlaw22_small [t0] H R :=
  calls_ofF Tryd.func16 sh_syngraphlaw22_small_chk (by rw [sh_syngraphlaw22_small_den]; exact h)

end Go.Proofs.YtmhfanpijdgkjaaDoor
/- PRINTED: clean texts -/
namespace Go.Proofs.YtmhfanpijdgkjaaDoor
open Go.X
set_option maxRecDepth 100000
-- syngraph/history.Diff
def sh_history_Diff (t0 t1 : Value) (H : Heap) (R : Value → Heap → Prop) : Prop :=
  Mcall prg f_history_inOrder [t0] H fun t7 h1 =>
  Mpu (unV .not t7) fun t8 =>
  J1 (fun k2 => Mif t8 false (
      Mcall prg f_history_inOrder [t1] h1 fun t11 h3 =>
      Mpu (unV .not t11) fun t12 =>
      k2 t12 h3) (
      k2 undef h1)) fun t12_2 h4 =>
  Mpu (pickV t8 (.bool true) t12_2) fun t13 =>
  Mcd t13 (
    R (.slice none 0 0) h4) (
    J3 (fun k5 =>
      L3 (fun k7 => fun t0_2 t1_2 t5_2 h8 =>
        Mpu (lenV t0_2) fun t15 =>
        Mpu (lenV t1_2) fun t17 =>
        Mpu (binV .no .add t15 t17) fun t18 =>
        Mpu (binV .no .gtr t18 (.int .i64 0)) fun t19 =>
        Mcd t19 (
          Mpu (lenV t0_2) fun t51 =>
          Mpu (binV .no .eql t51 (.int .i64 0)) fun t52 =>
          J1 (fun k9 => Mif t52 false (
              Mpu (lenV t1_2) fun t55 =>
              Mpu (binV .no .gtr t55 (.int .i64 0)) fun t56 =>
              k9 t56 h8) (
              k9 undef h8)) fun t57_2 h10 =>
          J1 (fun k11 => Mif t57_2 true (
              Mpu (ixS 37 t1_2 (.int .i64 0)) fun t59 =>
              Mpu (fld 0 t59) fun t60 =>
              Mpu (ld1 h10 t60) fun t61 =>
              Mpu (ixS 37 t0_2 (.int .i64 0)) fun t63 =>
              Mpu (fld 0 t63) fun t64 =>
              Mpu (ld1 h10 t64) fun t65 =>
              Mpu (binV .no .lss t61 t65) fun t66 =>
              k11 t66 h10) (
              k11 undef h10)) fun t66_2 h12 =>
          J1 (fun k13 => Mif t52 false (
              Mpu (pickV t57_2 t66_2 (.bool false)) fun t67 =>
              k13 t67 h12) (
              k13 undef h12)) fun t67_2 h14 =>
          Mpu (pickV t52 (.bool true) t67_2) fun t68 =>
          Mcd t68 (
            Mpu (ixS 37 t1_2 (.int .i64 0)) fun t71 =>
            Mpu (fld 0 t71) fun t72 =>
            Mpu (ld1 h14 t72) fun t73 =>
            Mpu (ixS 37 t1_2 (.int .i64 0)) fun t75 =>
            Mpu (fld 1 t75) fun t76 =>
            Mpu (ldN 4 h14 t76) fun t77 =>
            Mcall prg f_version_Version_Show [t77] h14 fun t78 h15 =>
            Mre [(ld1 h15 t72, t73)] (
            Mpu (buildV prg T_history_Step [(0, t73), (2, t78)]) fun t79 =>
            Mnews h15 T_history_Step 1 (bslV prg T_history_Step 1 [(0, t79)]) fun t80 h16 =>
            Mapp T_history_Step 3 48 h16 t5_2 t80 fun t81 h17 =>
            Mpu (slS 37 t1_2 (some (.int .i64 1)) none none) fun t83 =>
            k7 t0_2 t83 t81 h17)) (
            Mpu (lenV t1_2) fun t86 =>
            Mpu (binV .no .eql t86 (.int .i64 0)) fun t87 =>
            J1 (fun k18 => Mif t87 false (
                Mpu (ixS 37 t0_2 (.int .i64 0)) fun t90 =>
                Mpu (fld 0 t90) fun t91 =>
                Mpu (ld1 h14 t91) fun t92 =>
                Mpu (ixS 37 t1_2 (.int .i64 0)) fun t94 =>
                Mpu (fld 0 t94) fun t95 =>
                Mpu (ld1 h14 t95) fun t96 =>
                Mpu (binV .no .lss t92 t96) fun t97 =>
                k18 t97 h14) (
                k18 undef h14)) fun t97_2 h19 =>
            Mpu (pickV t87 (.bool true) t97_2) fun t98 =>
            Mcd t98 (
              Mpu (ixS 37 t0_2 (.int .i64 0)) fun t101 =>
              Mpu (fld 0 t101) fun t102 =>
              Mpu (ld1 h19 t102) fun t103 =>
              Mpu (ixS 37 t0_2 (.int .i64 0)) fun t105 =>
              Mpu (fld 1 t105) fun t106 =>
              Mpu (ldN 4 h19 t106) fun t107 =>
              Mcall prg f_version_Version_Show [t107] h19 fun t108 h20 =>
              Mre [(ld1 h20 t102, t103)] (
              Mpu (buildV prg T_history_Step [(0, t103), (1, t108)]) fun t109 =>
              Mnews h20 T_history_Step 1 (bslV prg T_history_Step 1 [(0, t109)]) fun t110 h21 =>
              Mapp T_history_Step 3 48 h21 t5_2 t110 fun t111 h22 =>
              Mpu (slS 37 t0_2 (some (.int .i64 1)) none none) fun t113 =>
              k7 t113 t1_2 t111 h22)) (
              J1 (fun k23 =>
                Mpu (ixS 37 t0_2 (.int .i64 0)) fun t21 =>
                Mpu (ldN 37 h19 t21) fun t22 =>
                Mpu (ixS 37 t1_2 (.int .i64 0)) fun t24 =>
                Mpu (ldN 37 h19 t24) fun t25 =>
                Mpu (binV (eqK prg T_history_Item) .neq t22 t25) fun t26 =>
                Mcd t26 (
                  Mpu (ixS 37 t0_2 (.int .i64 0)) fun t29 =>
                  Mpu (fld 0 t29) fun t30 =>
                  Mpu (ld1 h19 t30) fun t31 =>
                  Mpu (ixS 37 t0_2 (.int .i64 0)) fun t33 =>
                  Mpu (fld 1 t33) fun t34 =>
                  Mpu (ldN 4 h19 t34) fun t35 =>
                  Mpu (ixS 37 t1_2 (.int .i64 0)) fun t38 =>
                  Mpu (fld 1 t38) fun t39 =>
                  Mpu (ldN 4 h19 t39) fun t40 =>
                  Mcall prg f_version_Version_Show [t35] h19 fun t36 h25 =>
                  Mre [(ldN 4 h25 t39, t40), (ld1 h25 t30, t31)] (
                  Mcall prg f_version_Version_Show [t40] h25 fun t41 h26 =>
                  Mre [(ld1 h26 t30, t31)] (
                  Mpu (buildV prg T_history_Step [(0, t31), (1, t36), (2, t41)]) fun t42 =>
                  Mnews h26 T_history_Step 1 (bslV prg T_history_Step 1 [(0, t42)]) fun t43 h27 =>
                  Mapp T_history_Step 3 48 h27 t5_2 t43 fun t44 h28 =>
                  k23 t44 h28))) (
                  k23 t5_2 h19)) fun t5_6 h24 =>
              Mpu (slS 37 t0_2 (some (.int .i64 1)) none none) fun t46 =>
              Mpu (slS 37 t1_2 (some (.int .i64 1)) none none) fun t48 =>
              k7 t46 t48 t5_6 h24))) (
          k5 t0_2 t1_2 t5_2 h8)) (t0) (t1) ((.slice none 0 0)) h4) fun t0_5 t1_5 t5_7 h6 =>
    R t5_7 h6)
theorem sh_history_Diff_chk : fchkF prg [0, 1, 5, 12, 57, 66, 67, 97] Tryd.f17 2 = true := by kernel_rfl
theorem sh_history_Diff_den (t0 t1 : Value) (H : Heap) (R : Value → Heap → Prop) : fdenF prg [0, 1, 5, 12, 57, 66, 67, 97] Tryd.f17 [t0, t1] H R = sh_history_Diff t0 t1 H R := by kernel_rfl
theorem sh_history_Diff_calls {t0 t1 : Value} {H : Heap} {R : Value → Heap → Prop} (h : sh_history_Diff t0 t1 H R) : HCalls prg f_history_Diff [t0, t1] H R :=
  calls_ofF Tryd.func17 sh_history_Diff_chk (by rw [sh_history_Diff_den]; exact h)

end Go.Proofs.YtmhfanpijdgkjaaDoor
/- PRINTED: clean texts -/
namespace Go.Proofs.YtmhfanpijdgkjaaDoor
open Go.X
set_option maxRecDepth 100000
-- syngraph/syngraphlaw22.at
def sh_syngraphlaw22_at (t0 t1 : Value) (H : Heap) (R : Value → Heap → Prop) : Prop :=
  J1 (fun k1 =>
    Mpu (lenV t0) fun t8 =>
    L1 (fun k3 => fun t9_2 h4 =>
      Mpu (binV .no .lss t9_2 t8) fun t10 =>
      Mcd t10 (
        Mpu (ixS 37 t0 t9_2) fun t12 =>
        Mpu (ldN 37 h4 t12) fun t13 =>
        Mnew h4 T_history_Item (zcells prg T_history_Item) fun t6 h5 =>
        Mwr (stN 37 h5 t6 t13) fun h6 =>
        Mpu (fld 0 t6) fun t14 =>
        Mpu (ld1 h6 t14) fun t15 =>
        Mpu (binV .no .eql t15 t1) fun t17 =>
        Mcd t17 (
          R t9_2 h6) (
          Mpu (binV .no .add t9_2 (.int .i64 1)) fun t19 =>
          k3 t19 h6)) (
        k1 t9_2 h4)) ((.int .i64 0)) H) fun t9_4 h2 =>
  R (.int .i64 (-1)) h2
theorem sh_syngraphlaw22_at_chk : fchkF prg [9] Tryd.f18 2 = true := by kernel_rfl
theorem sh_syngraphlaw22_at_den (t0 t1 : Value) (H : Heap) (R : Value → Heap → Prop) : fdenF prg [9] Tryd.f18 [t0, t1] H R = sh_syngraphlaw22_at t0 t1 H R := by kernel_rfl
theorem sh_syngraphlaw22_at_calls {t0 t1 : Value} {H : Heap} {R : Value → Heap → Prop} (h : sh_syngraphlaw22_at t0 t1 H R) : HCalls prg f_syngraphlaw22_at [t0, t1] H R :=
  calls_ofF Tryd.func18 sh_syngraphlaw22_at_chk (by rw [sh_syngraphlaw22_at_den]; exact h)

end Go.Proofs.YtmhfanpijdgkjaaDoor
/- PRINTED: clean texts -/
namespace Go.Proofs.YtmhfanpijdgkjaaDoor
open Go.X
set_option maxRecDepth 100000
-- syngraph/history.inOrder
def sh_history_inOrder (t0 : Value) (H : Heap) (R : Value → Heap → Prop) : Prop :=
  J1 (fun k1 =>
    L1 (fun k3 => fun t3_2 h4 =>
      Mpu (lenV t0) fun t6 =>
      Mpu (binV .no .lss t3_2 t6) fun t7 =>
      Mcd t7 (
        Mpu (binV .no .sub t3_2 (.int .i64 1)) fun t12 =>
        Mpu (ixS 37 t0 t12) fun t13 =>
        Mpu (fld 0 t13) fun t14 =>
        Mpu (ld1 h4 t14) fun t15 =>
        Mpu (ixS 37 t0 t3_2) fun t18 =>
        Mpu (fld 0 t18) fun t19 =>
        Mpu (ld1 h4 t19) fun t20 =>
        Mpu (binV .no .geq t15 t20) fun t21 =>
        Mcd t21 (
          R (.bool false) h4) (
          Mpu (binV .no .add t3_2 (.int .i64 1)) fun t9 =>
          k3 t9 h4)) (
        k1 t3_2 h4)) ((.int .i64 1)) H) fun t3_4 h2 =>
  R (.bool true) h2
theorem sh_history_inOrder_chk : fchkF prg [3] Tryd.f50 1 = true := by kernel_rfl
theorem sh_history_inOrder_den (t0 : Value) (H : Heap) (R : Value → Heap → Prop) : fdenF prg [3] Tryd.f50 [t0] H R = sh_history_inOrder t0 H R := by kernel_rfl
theorem sh_history_inOrder_calls {t0 : Value} {H : Heap} {R : Value → Heap → Prop} (h : sh_history_inOrder t0 H R) : HCalls prg f_history_inOrder [t0] H R :=
  calls_ofF Tryd.func50 sh_history_inOrder_chk (by rw [sh_history_inOrder_den]; exact h)

end Go.Proofs.YtmhfanpijdgkjaaDoor
/- PRINTED: clean texts -/
namespace Go.Proofs.YtmhfanpijdgkjaaDoor
open Go.X
set_option maxRecDepth 100000
-- syngraph/syngraphlaw22.HistoryDiffs
def sh_syngraphlaw22_HistoryDiffs (t0 t1 : Value) (H : Heap) (R : Value → Heap → Prop) : Prop :=
  Mpu (buildV prg T_history_Record [(1, t0), (2, t1)]) fun t25 =>
  Mcall prg f_syngraphlaw22_small [t25] H fun t26 h1 =>
  Mpu (unV .not t26) fun t27 =>
  Mcd t27 (
    Mcall prg f_syngraphlaw22_awake [] h1 fun t28 h2 =>
    R t28 h2) (
    J2 (fun k3 =>
      Mnews h1 T_S_history_Item 2 (bslV prg T_S_history_Item 2 [(0, t0), (1, t1)]) fun t31 h5 =>
      Mpu (lenV t31) fun t32 =>
      L2 (fun k6 => fun t5_2 t33_2 h7 =>
        Mpu (binV .no .lss t33_2 t32) fun t34 =>
        Mcd t34 (
          J2 (fun k8 =>
            Mpu (ixS 1 t31 t33_2) fun t35 =>
            Mpu (ld1 h7 t35) fun t36 =>
            Mpu (lenV t36) fun t38 =>
            L2 (fun k10 => fun t5_3 t39_2 h11 =>
              Mpu (binV .no .lss t39_2 t38) fun t40 =>
              Mcd t40 (
                J1 (fun k12 => Mif t5_3 true (
                    Mpu (binV .no .eql t39_2 (.int .i64 0)) fun t45 =>
                    k12 t45 h11) (
                    k12 undef h11)) fun t46_2 h13 =>
                J1 (fun k14 => Mif t46_2 false (
                    Mpu (binV .no .sub t39_2 (.int .i64 1)) fun t49 =>
                    Mpu (ixS 37 t36 t49) fun t50 =>
                    Mpu (fld 0 t50) fun t51 =>
                    Mpu (ld1 h13 t51) fun t52 =>
                    Mpu (ixS 37 t36 t39_2) fun t55 =>
                    Mpu (fld 0 t55) fun t56 =>
                    Mpu (ld1 h13 t56) fun t57 =>
                    Mpu (binV .no .lss t52 t57) fun t58 =>
                    k14 t58 h13) (
                    k14 undef h13)) fun t58_2 h15 =>
                J1 (fun k16 => Mif t5_3 true (
                    Mpu (pickV t46_2 (.bool true) t58_2) fun t59 =>
                    k16 t59 h15) (
                    k16 undef h15)) fun t59_2 h17 =>
                Mpu (pickV t5_3 t59_2 (.bool false)) fun t60 =>
                Mpu (binV .no .add t39_2 (.int .i64 1)) fun t61 =>
                k10 t60 t61 h17) (
                k8 t5_3 t39_2 h11)) (t5_2) ((.int .i64 0)) h7) fun t5_5 t39_4 h9 =>
          Mpu (binV .no .add t33_2 (.int .i64 1)) fun t62 =>
          k6 t5_5 t62 h9) (
          k3 t5_2 t33_2 h7)) ((.bool true)) ((.int .i64 0)) h5) fun t5_6 t33_4 h4 =>
    Mcall prg f_history_Diff [t0, t1] h4 fun t65 h18 =>
    Mcall prg f_history_Diff [t1, t0] h18 fun t68 h19 =>
    Mpu (unV .not t5_6) fun t70 =>
    Mcd t70 (
      Mpu (lenV t65) fun t72 =>
      Mpu (binV .no .eql t72 (.int .i64 0)) fun t73 =>
      J1 (fun k20 => Mif t73 true (
          Mpu (lenV t68) fun t76 =>
          Mpu (binV .no .eql t76 (.int .i64 0)) fun t77 =>
          k20 t77 h19) (
          k20 undef h19)) fun t77_2 h21 =>
      Mpu (pickV t73 t77_2 (.bool false)) fun t78 =>
      J1 (fun k22 => Mif t78 true (
          Mcall prg f_syngraphlaw22_awake [] h21 fun t80 h23 =>
          k22 t80 h23) (
          k22 undef h21)) fun t80_2 h24 =>
      Mpu (pickV t78 t80_2 (.bool false)) fun t81 =>
      R t81 h24) (
      J2 (fun k25 =>
        Mpu (lenV t0) fun t83 =>
        L2 (fun k27 => fun t11_2 t84_2 h28 =>
          Mpu (binV .no .lss t84_2 t83) fun t85 =>
          Mcd t85 (
            J2 (fun k29 =>
              Mpu (ixS 37 t0 t84_2) fun t86 =>
              Mpu (ldN 37 h28 t86) fun t87 =>
              Mnew h28 T_history_Item (zcells prg T_history_Item) fun t13 h31 =>
              Mwr (stN 37 h31 t13 t87) fun h32 =>
              Mpu (fld 0 t13) fun t89 =>
              Mpu (ld1 h32 t89) fun t90 =>
              Mcall prg f_syngraphlaw22_at [t1, t90] h32 fun t91 h33 =>
              Mpu (binV .no .lss t91 (.int .i64 0)) fun t93 =>
              J1 (fun k34 => Mif t93 false (
                  Mpu (ixS 37 t1 t91) fun t97 =>
                  Mpu (ldN 37 h33 t97) fun t98 =>
                  Mpu (ldN 37 h33 t13) fun t99 =>
                  Mpu (binV (eqK prg T_history_Item) .neq t98 t99) fun t100 =>
                  k34 t100 h33) (
                  k34 undef h33)) fun t100_2 h35 =>
              Mpu (pickV t93 (.bool true) t100_2) fun t101 =>
              Mcd t101 (
                Mpu (binV .no .add t11_2 (.int .i64 1)) fun t103 =>
                k29 t103 t100_2 h35) (
                k29 t11_2 t100_2 h35)) fun t11_4 t100_3 h30 =>
            Mpu (binV .no .add t84_2 (.int .i64 1)) fun t104 =>
            k27 t11_4 t104 h30) (
            k25 t11_2 t84_2 h28)) ((.int .i64 0)) ((.int .i64 0)) h19) fun t11_5 t84_4 h26 =>
      J2 (fun k36 =>
        Mpu (lenV t1) fun t106 =>
        L2 (fun k38 => fun t11_6 t107_2 h39 =>
          Mpu (binV .no .lss t107_2 t106) fun t108 =>
          Mcd t108 (
            J1 (fun k40 =>
              Mpu (ixS 37 t1 t107_2) fun t109 =>
              Mpu (ldN 37 h39 t109) fun t110 =>
              Mnew h39 T_history_Item (zcells prg T_history_Item) fun t16 h42 =>
              Mwr (stN 37 h42 t16 t110) fun h43 =>
              Mpu (fld 0 t16) fun t112 =>
              Mpu (ld1 h43 t112) fun t113 =>
              Mcall prg f_syngraphlaw22_at [t0, t113] h43 fun t114 h44 =>
              Mpu (binV .no .lss t114 (.int .i64 0)) fun t115 =>
              Mcd t115 (
                Mpu (binV .no .add t11_6 (.int .i64 1)) fun t117 =>
                k40 t117 h44) (
                k40 t11_6 h44)) fun t11_8 h41 =>
            Mpu (binV .no .add t107_2 (.int .i64 1)) fun t118 =>
            k38 t11_8 t118 h41) (
            k36 t11_6 t107_2 h39)) (t11_5) ((.int .i64 0)) h26) fun t11_9 t107_4 h37 =>
      Mpu (lenV t65) fun t120 =>
      Mpu (binV .no .neq t120 t11_9) fun t122 =>
      J1 (fun k45 => Mif t122 false (
          Mpu (lenV t68) fun t125 =>
          Mpu (binV .no .neq t125 t11_9) fun t127 =>
          k45 t127 h37) (
          k45 undef h37)) fun t127_2 h46 =>
      Mpu (pickV t122 (.bool true) t127_2) fun t128 =>
      Mcd t128 (
        R (.bool false) h46) (
        J1 (fun k47 =>
          Mpu (lenV t65) fun t130 =>
          L1 (fun k49 => fun t131_2 h50 =>
            Mpu (binV .no .lss t131_2 t130) fun t132 =>
            Mcd t132 (
              Mpu (ixS 3 t65 t131_2) fun t134 =>
              Mpu (ldN 3 h50 t134) fun t135 =>
              Mnew h50 T_history_Step (zcells prg T_history_Step) fun t18 h51 =>
              Mwr (stN 3 h51 t18 t135) fun h52 =>
              Mpu (fld 0 t18) fun t137 =>
              Mpu (ld1 h52 t137) fun t138 =>
              Mpu (fld 0 t18) fun t141 =>
              Mpu (ld1 h52 t141) fun t142 =>
              Mcall prg f_syngraphlaw22_at [t0, t138] h52 fun t139 h53 =>
              Mre [(ld1 h53 t141, t142)] (
              Mcall prg f_syngraphlaw22_at [t1, t142] h53 fun t143 h54 =>
              J1 (fun k55 =>
                Mpu (binV .no .geq t139 (.int .i64 0)) fun t145 =>
                Mcd t145 (
                  Mpu (ixS 37 t0 t139) fun t148 =>
                  Mpu (fld 1 t148) fun t149 =>
                  Mpu (ldN 4 h54 t149) fun t150 =>
                  Mcall prg f_version_Version_Show [t150] h54 fun t151 h57 =>
                  k55 t151 h57) (
                  k55 (.string ⟨#[]⟩) h54)) fun t21_3 h56 =>
              J1 (fun k58 =>
                Mpu (binV .no .geq t143 (.int .i64 0)) fun t153 =>
                Mcd t153 (
                  Mpu (ixS 37 t1 t143) fun t156 =>
                  Mpu (fld 1 t156) fun t157 =>
                  Mpu (ldN 4 h56 t157) fun t158 =>
                  Mcall prg f_version_Version_Show [t158] h56 fun t159 h60 =>
                  k58 t159 h60) (
                  k58 (.string ⟨#[]⟩) h56)) fun t22_3 h59 =>
              Mpu (binV .no .lss t139 (.int .i64 0)) fun t161 =>
              J1 (fun k61 => Mif t161 true (
                  Mpu (binV .no .lss t143 (.int .i64 0)) fun t164 =>
                  k61 t164 h59) (
                  k61 undef h59)) fun t164_2 h62 =>
              Mpu (pickV t161 t164_2 (.bool false)) fun t165 =>
              J1 (fun k63 => Mif t165 false (
                  Mpu (fld 1 t18) fun t167 =>
                  Mpu (ld1 h62 t167) fun t168 =>
                  Mpu (binV .no .neq t168 t21_3) fun t170 =>
                  k63 t170 h62) (
                  k63 undef h62)) fun t170_2 h64 =>
              Mpu (pickV t165 (.bool true) t170_2) fun t171 =>
              J1 (fun k65 => Mif t171 false (
                  Mpu (fld 2 t18) fun t173 =>
                  Mpu (ld1 h64 t173) fun t174 =>
                  Mpu (binV .no .neq t174 t22_3) fun t176 =>
                  k65 t176 h64) (
                  k65 undef h64)) fun t176_2 h66 =>
              Mpu (pickV t171 (.bool true) t176_2) fun t177 =>
              J1 (fun k67 => Mif t177 false (
                  Mpu (binV .no .geq t139 (.int .i64 0)) fun t180 =>
                  k67 t180 h66) (
                  k67 undef h66)) fun t181_2 h68 =>
              J1 (fun k69 => Mif t181_2 true (
                  Mpu (binV .no .geq t143 (.int .i64 0)) fun t183 =>
                  k69 t183 h68) (
                  k69 undef h68)) fun t183_2 h70 =>
              J1 (fun k71 => Mif t177 false (
                  Mpu (pickV t181_2 t183_2 (.bool false)) fun t184 =>
                  k71 t184 h70) (
                  k71 undef h70)) fun t185_2 h72 =>
              J1 (fun k73 => Mif t185_2 true (
                  Mpu (ixS 37 t0 t139) fun t188 =>
                  Mpu (ldN 37 h72 t188) fun t189 =>
                  Mpu (ixS 37 t1 t143) fun t192 =>
                  Mpu (ldN 37 h72 t192) fun t193 =>
                  Mpu (binV (eqK prg T_history_Item) .eql t189 t193) fun t194 =>
                  k73 t194 h72) (
                  k73 undef h72)) fun t194_2 h74 =>
              J1 (fun k75 => Mif t177 false (
                  Mpu (pickV t185_2 t194_2 (.bool false)) fun t195 =>
                  k75 t195 h74) (
                  k75 undef h74)) fun t195_2 h76 =>
              Mpu (pickV t177 (.bool true) t195_2) fun t196 =>
              J1 (fun k77 => Mif t196 false (
                  Mpu (binV .no .gtr t131_2 (.int .i64 0)) fun t199 =>
                  k77 t199 h76) (
                  k77 undef h76)) fun t200_2 h78 =>
              J1 (fun k79 => Mif t200_2 true (
                  Mpu (binV .no .sub t131_2 (.int .i64 1)) fun t203 =>
                  Mpu (ixS 3 t65 t203) fun t204 =>
                  Mpu (fld 0 t204) fun t205 =>
                  Mpu (ld1 h78 t205) fun t206 =>
                  Mpu (fld 0 t18) fun t207 =>
                  Mpu (ld1 h78 t207) fun t208 =>
                  Mpu (binV .no .geq t206 t208) fun t209 =>
                  k79 t209 h78) (
                  k79 undef h78)) fun t209_2 h80 =>
              J1 (fun k81 => Mif t196 false (
                  Mpu (pickV t200_2 t209_2 (.bool false)) fun t210 =>
                  k81 t210 h80) (
                  k81 undef h80)) fun t210_2 h82 =>
              Mpu (pickV t196 (.bool true) t210_2) fun t211 =>
              J1 (fun k83 => Mif t211 false (
                  Mpu (ixS 3 t68 t131_2) fun t215 =>
                  Mpu (ldN 3 h82 t215) fun t216 =>
                  Mpu (fld 0 t18) fun t217 =>
                  Mpu (ld1 h82 t217) fun t218 =>
                  Mpu (fld 2 t18) fun t219 =>
                  Mpu (ld1 h82 t219) fun t220 =>
                  Mpu (fld 1 t18) fun t221 =>
                  Mpu (ld1 h82 t221) fun t222 =>
                  Mpu (buildV prg T_history_Step [(0, t218), (1, t220), (2, t222)]) fun t223 =>
                  Mpu (binV (eqK prg T_history_Step) .neq t216 t223) fun t224 =>
                  k83 t224 h82) (
                  k83 undef h82)) fun t224_2 h84 =>
              Mpu (pickV t211 (.bool true) t224_2) fun t225 =>
              Mcd t225 (
                R (.bool false) h84) (
                Mpu (binV .no .add t131_2 (.int .i64 1)) fun t226 =>
                k49 t226 h84))) (
              k47 t131_2 h50)) ((.int .i64 0)) h46) fun t131_4 h48 =>
        Mcall prg f_syngraphlaw22_awake [] h48 fun t227 h85 =>
        R t227 h85)))
theorem sh_syngraphlaw22_HistoryDiffs_chk : fchkF prg [5, 11, 21, 22, 33, 39, 46, 58, 59, 77, 80, 84, 100, 107, 127, 131, 164, 170, 176, 181, 183, 185, 194, 195, 200, 209, 210, 224] Tryd.f4 2 = true := by kernel_rfl
theorem sh_syngraphlaw22_HistoryDiffs_den (t0 t1 : Value) (H : Heap) (R : Value → Heap → Prop) : fdenF prg [5, 11, 21, 22, 33, 39, 46, 58, 59, 77, 80, 84, 100, 107, 127, 131, 164, 170, 176, 181, 183, 185, 194, 195, 200, 209, 210, 224] Tryd.f4 [t0, t1] H R = sh_syngraphlaw22_HistoryDiffs t0 t1 H R := by kernel_rfl
theorem sh_syngraphlaw22_HistoryDiffs_calls {t0 t1 : Value} {H : Heap} {R : Value → Heap → Prop} (h : sh_syngraphlaw22_HistoryDiffs t0 t1 H R) : HCalls prg f_syngraphlaw22_HistoryDiffs [t0, t1] H R :=
  calls_ofF Tryd.func4 sh_syngraphlaw22_HistoryDiffs_chk (by rw [sh_syngraphlaw22_HistoryDiffs_den]; exact h)

end Go.Proofs.YtmhfanpijdgkjaaDoor
