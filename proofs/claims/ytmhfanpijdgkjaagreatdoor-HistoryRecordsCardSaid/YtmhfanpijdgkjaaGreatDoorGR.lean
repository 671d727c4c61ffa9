/- JOINED: Sf0 Sf1 Sf2 Sf3 V60 V61 V62 V63 -/
import Derived.Test.YtmhfanpijdgkjaaGreatDoorGE
import Derived.Test.YtmhfanpijdgkjaaGreatDoorGQ
set_option linter.unusedSimpArgs false
set_option linter.unusedVariables false
/- PRINTED: clean texts -/
namespace Go.Proofs.YtmhfanpijdgkjaaGreatDoor
open Go.X
set_option maxRecDepth 100000
-- syngraph/syngraphlaw18.VersionBest
def sh_syngraphlaw18_VersionBest (t0 t1 : Value) (H : Heap) (R : Value → Heap → Prop) : Prop :=
  Mnew H T_version_Want (some (Value.cells t1)) fun t3 h1 =>
  Mpu (lenV t0) fun t12 =>
  Mpu (binV .no .gtr t12 (.int .i64 20)) fun t13 =>
  J1 (fun k2 => Mif t13 false (
      Mpu (fld 0 t3) fun t15 =>
      Mpu (ld1 h1 t15) fun t16 =>
      Mpu (lenT t16) fun t17 =>
      Mpu (binV .no .gtr t17 (.int .i64 10)) fun t18 =>
      k2 t18 h1) (
      k2 undef h1)) fun t18_2 h3 =>
  Mpu (pickV t13 (.bool true) t18_2) fun t19 =>
  J1 (fun k4 => Mif t19 false (
      Mpu (fld 1 t3) fun t21 =>
      Mpu (fld 3 t21) fun t22 =>
      Mpu (ld1 h3 t22) fun t23 =>
      Mpu (lenT t23) fun t24 =>
      Mpu (binV .no .gtr t24 (.int .i64 100)) fun t25 =>
      k4 t25 h3) (
      k4 undef h3)) fun t25_2 h5 =>
  Mpu (pickV t19 (.bool true) t25_2) fun t26 =>
  Mcd t26 (
    Mcall prg f_syngraphlaw18_awake [] h5 fun t27 h6 =>
    R t27 h6) (
    Mpu (buildV prg T_version_Version []) fun t28 =>
    Mnew h5 T_version_Version (zcells prg T_version_Version) fun t5 h7 =>
    Mwr (stN 4 h7 t5 t28) fun h8 =>
    J2 (fun k9 =>
      Mpu (lenV t0) fun t30 =>
      L2 (fun k11 => fun t6_2 t31_2 h12 =>
        Mpu (binV .no .lss t31_2 t30) fun t32 =>
        Mcd t32 (
          J6 (fun k13 =>
            Mpu (ixS 4 t0 t31_2) fun t33 =>
            Mpu (ldN 4 h12 t33) fun t34 =>
            Mnew h12 T_version_Version (zcells prg T_version_Version) fun t8 h15 =>
            Mwr (stN 4 h15 t8 t34) fun h16 =>
            Mpu (fld 3 t8) fun t35 =>
            Mpu (ld1 h16 t35) fun t36 =>
            Mpu (lenT t36) fun t37 =>
            Mpu (binV .no .gtr t37 (.int .i64 100)) fun t38 =>
            Mcd t38 (
              Mcall prg f_syngraphlaw18_awake [] h16 fun t39 h17 =>
              R t39 h17) (
              Mpu (ldN 5 h16 t3) fun t40 =>
              Mcall prg f_syngraphlaw18_rightWant [t40] h16 fun t41 h18 =>
              J1 (fun k19 => Mif t41 true (
                  Mpu (ldN 4 h18 t8) fun t43 =>
                  Mcall prg f_syngraphlaw18_right [t43] h18 fun t44 h20 =>
                  k19 t44 h20) (
                  k19 undef h18)) fun t44_2 h21 =>
              Mpu (pickV t41 t44_2 (.bool false)) fun t45 =>
              J1 (fun k22 => Mif t45 true (
                  Mpu (fld 0 t3) fun t47 =>
                  Mpu (ld1 h21 t47) fun t48 =>
                  Mpu (fld 1 t3) fun t49 =>
                  Mpu (ldN 4 h21 t49) fun t50 =>
                  Mpu (ldN 4 h21 t8) fun t52 =>
                  Mcall prg f_syngraphlaw18_ref [t50] h21 fun t51 h23 =>
                  Mre [(ldN 4 h23 t8, t52), (ld1 h23 t47, t48)] (
                  Mcall prg f_syngraphlaw18_ref [t52] h23 fun t53 h24 =>
                  Mre [(ld1 h24 t47, t48)] (
                  Mcall prg f_syngraphref18_Fits [t48, t51, t53] h24 fun t54 h25 =>
                  k22 t54 h25))) (
                  k22 undef h21)) fun t54_2 h26 =>
              Mpu (pickV t45 t54_2 (.bool false)) fun t55 =>
              J1 (fun k27 => Mif t55 true (
                  Mpu (unV .not t6_2) fun t58 =>
                  k27 t58 h26) (
                  k27 undef h26)) fun t59_2 h28 =>
              J1 (fun k29 => Mif t59_2 false (
                  Mpu (ldN 4 h28 t5) fun t60 =>
                  Mpu (ldN 4 h28 t8) fun t62 =>
                  Mcall prg f_syngraphlaw18_ref [t60] h28 fun t61 h30 =>
                  Mre [(ldN 4 h30 t8, t62)] (
                  Mcall prg f_syngraphlaw18_ref [t62] h30 fun t63 h31 =>
                  Mcall prg f_syngraphref18_Less [t61, t63] h31 fun t64 h32 =>
                  k29 t64 h32)) (
                  k29 undef h28)) fun t64_2 h33 =>
              J1 (fun k34 => Mif t55 true (
                  Mpu (pickV t59_2 (.bool true) t64_2) fun t65 =>
                  k34 t65 h33) (
                  k34 undef h33)) fun t65_2 h35 =>
              Mpu (pickV t55 t65_2 (.bool false)) fun t66 =>
              Mcd t66 (
                Mpu (ldN 4 h35 t8) fun t67 =>
                Mwr (stN 4 h35 t5 t67) fun h36 =>
                k13 (.bool true) t44_2 t54_2 t59_2 t64_2 t65_2 h36) (
                k13 t6_2 t44_2 t54_2 t59_2 t64_2 t65_2 h35))) fun t6_4 t44_3 t54_3 t59_3 t64_3 t65_3 h14 =>
          Mpu (binV .no .add t31_2 (.int .i64 1)) fun t68 =>
          k11 t6_4 t68 h14) (
          k9 t6_2 t31_2 h12)) ((.bool false)) ((.int .i64 0)) h8) fun t6_5 t31_4 h10 =>
    Mpu (ldN 5 h10 t3) fun t71 =>
    Mcall prg f_version_Best [t0, t71] h10 fun t72 h37 =>
    Mpu (extV 0 t72) fun t73 =>
    Mpu (extV 1 t72) fun t74 =>
    Mnew h37 T_version_Version (zcells prg T_version_Version) fun t9 h38 =>
    Mwr (stN 4 h38 t9 t73) fun h39 =>
    Mpu (binV .bool .eql t74 t6_5) fun t77 =>
    J1 (fun k40 => Mif t77 true (
        Mpu (ldN 4 h39 t9) fun t79 =>
        Mpu (ldN 4 h39 t5) fun t80 =>
        Mpu (binV (eqK prg T_version_Version) .eql t79 t80) fun t81 =>
        k40 t81 h39) (
        k40 undef h39)) fun t81_2 h41 =>
    Mpu (pickV t77 t81_2 (.bool false)) fun t82 =>
    J1 (fun k42 => Mif t82 true (
        Mcall prg f_syngraphlaw18_awake [] h41 fun t84 h43 =>
        k42 t84 h43) (
        k42 undef h41)) fun t84_2 h44 =>
    Mpu (pickV t82 t84_2 (.bool false)) fun t85 =>
    R t85 h44)
theorem sh_syngraphlaw18_VersionBest_chk : fchkF prg [6, 18, 25, 31, 44, 54, 59, 64, 65, 81, 84] Tryz.f3 2 = true := by kernel_rfl
theorem sh_syngraphlaw18_VersionBest_den (t0 t1 : Value) (H : Heap) (R : Value → Heap → Prop) : fdenF prg [6, 18, 25, 31, 44, 54, 59, 64, 65, 81, 84] Tryz.f3 [t0, t1] H R = sh_syngraphlaw18_VersionBest t0 t1 H R := by kernel_rfl
theorem sh_syngraphlaw18_VersionBest_calls {t0 t1 : Value} {H : Heap} {R : Value → Heap → Prop} (h : sh_syngraphlaw18_VersionBest t0 t1 H R) : HCalls prg f_syngraphlaw18_VersionBest [t0, t1] H R :=
  calls_ofF Tryz.func3 sh_syngraphlaw18_VersionBest_chk (by rw [sh_syngraphlaw18_VersionBest_den]; exact h)

-- syngraph/syngraphlaw22.HistoryRecords
def sh_syngraphlaw22_HistoryRecords (t0 : Value) (H : Heap) (R : Value → Heap → Prop) : Prop :=
  Mnew H T_history_Record (some (Value.cells t0)) fun t1 h1 =>
  Mpu (ldN 36 h1 t1) fun t7 =>
  Mcall prg f_syngraphlaw22_small [t7] h1 fun t8 h2 =>
  Mpu (unV .not t8) fun t9 =>
  Mcd t9 (
    Mcall prg f_syngraphlaw22_awake [] h2 fun t10 h3 =>
    R t10 h3) (
    Mpu (ldN 36 h2 t1) fun t12 =>
    Mcall prg f_syngraphlaw22_recordBytes [t12] h2 fun t13 h4 =>
    Mpu (extV 0 t13) fun t14 =>
    Mpu (extV 1 t13) fun t15 =>
    Mpu (ldN 36 h4 t1) fun t16 =>
    Mcall prg f_history_Record_Right [t16] h4 fun t17 h5 =>
    Mpu (binV .bool .neq t17 t15) fun t19 =>
    J1 (fun k6 => Mif t19 false (
        Mpu (ldN 36 h5 t1) fun t21 =>
        Mpu (ldN 36 h5 t1) fun t22 =>
        Mcall prg f_history_Record_Equal [t21, t22] h5 fun t23 h7 =>
        Mpu (unV .not t23) fun t24 =>
        k6 t24 h7) (
        k6 undef h5)) fun t24_2 h8 =>
    Mpu (pickV t19 (.bool true) t24_2) fun t25 =>
    Mcd t25 (
      R (.bool false) h8) (
      Mpu (unV .not t15) fun t27 =>
      Mcd t27 (
        Mcall prg f_syngraphlaw22_awake [] h8 fun t28 h9 =>
        R t28 h9) (
        Mpu (ldN 36 h8 t1) fun t30 =>
        Mcall prg f_history_Record_Bytes [t30] h8 fun t31 h10 =>
        Mcall prg f_history_ParseRecord [t31] h10 fun t32 h11 =>
        Mpu (extV 0 t32) fun t33 =>
        Mpu (extV 1 t32) fun t34 =>
        Mnew h11 T_history_Record (zcells prg T_history_Record) fun t5 h12 =>
        Mwr (stN 36 h12 t5 t33) fun h13 =>
        Mpu (ldN 36 h13 t1) fun t35 =>
        Mpu (b2s h13 t14) fun t39 =>
        Mcall prg f_history_Record_Bytes [t35] h13 fun t36 h14 =>
        Mre [(b2s h14 t14, t39)] (
        Mpu (b2s h14 t36) fun t37 =>
        Mpu (binV .no .eql t37 t39) fun t40 =>
        J1 (fun k15 => Mif t40 true (
            Mpu (binV .no .eql t34 (.int .i64 0)) fun t43 =>
            k15 t43 h14) (
            k15 undef h14)) fun t43_2 h16 =>
        Mpu (pickV t40 t43_2 (.bool false)) fun t44 =>
        J1 (fun k17 => Mif t44 true (
            Mpu (ldN 36 h16 t5) fun t46 =>
            Mpu (ldN 36 h16 t1) fun t47 =>
            Mcall prg f_history_Record_Equal [t46, t47] h16 fun t48 h18 =>
            k17 t48 h18) (
            k17 undef h16)) fun t48_2 h19 =>
        Mpu (pickV t44 t48_2 (.bool false)) fun t49 =>
        J1 (fun k20 => Mif t49 true (
            Mcall prg f_syngraphlaw22_awake [] h19 fun t51 h21 =>
            k20 t51 h21) (
            k20 undef h19)) fun t51_2 h22 =>
        Mpu (pickV t49 t51_2 (.bool false)) fun t52 =>
        R t52 h22))))
theorem sh_syngraphlaw22_HistoryRecords_chk : fchkF prg [24, 43, 48, 51] Tryz.f4 1 = true := by kernel_rfl
theorem sh_syngraphlaw22_HistoryRecords_den (t0 : Value) (H : Heap) (R : Value → Heap → Prop) : fdenF prg [24, 43, 48, 51] Tryz.f4 [t0] H R = sh_syngraphlaw22_HistoryRecords t0 H R := by kernel_rfl
theorem sh_syngraphlaw22_HistoryRecords_calls {t0 : Value} {H : Heap} {R : Value → Heap → Prop} (h : sh_syngraphlaw22_HistoryRecords t0 H R) : HCalls prg f_syngraphlaw22_HistoryRecords [t0] H R :=
  calls_ofF Tryz.func4 sh_syngraphlaw22_HistoryRecords_chk (by rw [sh_syngraphlaw22_HistoryRecords_den]; exact h)

-- syngraph/version.Best
def sh_version_Best (t0 t1 : Value) (H : Heap) (R : Value → Heap → Prop) : Prop :=
  Mnew H T_version_Want (some (Value.cells t1)) fun t3 h1 =>
  Mnew h1 T_version_Version (zcells prg T_version_Version) fun t4 h2 =>
  Mcall prg f_slices_Clone_S_version_Version_version_Version [t0] h2 fun t8 h3 =>
  Mcall prg f_slices_DeleteFunc_S_version_Version_version_Version [t8, (.func (.func f_version_Best_1) #[] #[t3])] h3 fun t10 h4 =>
  Mpu (lenV t10) fun t12 =>
  Mpu (binV .no .eql t12 (.int .i64 0)) fun t13 =>
  Mcd t13 (
    Mpu (buildV prg T_version_Version []) fun t14 =>
    Mwr (stN 4 h4 t4 t14) fun h5 =>
    Mpu (ldN 4 h5 t4) fun r6 =>
    R (.tuple #[r6, (.bool false)]) h5) (
    Mcall prg f_slices_MaxFunc_S_version_Version_version_Version [t10, (.func (.func f_version_Version_Cmp) #[] #[])] h4 fun t16 h7 =>
    Mwr (stN 4 h7 t4 t16) fun h8 =>
    Mpu (ldN 4 h8 t4) fun r9 =>
    R (.tuple #[r9, (.bool true)]) h8)
theorem sh_version_Best_chk : fchkF prg [] Tryz.f11 2 = true := by kernel_rfl
theorem sh_version_Best_den (t0 t1 : Value) (H : Heap) (R : Value → Heap → Prop) : fdenF prg [] Tryz.f11 [t0, t1] H R = sh_version_Best t0 t1 H R := by kernel_rfl
theorem sh_version_Best_calls {t0 t1 : Value} {H : Heap} {R : Value → Heap → Prop} (h : sh_version_Best t0 t1 H R) : HCalls prg f_version_Best [t0, t1] H R :=
  calls_ofF Tryz.func11 sh_version_Best_chk (by rw [sh_version_Best_den]; exact h)

-- syngraph/syngraphlaw22.recordBytes
def sh_syngraphlaw22_recordBytes (t0 : Value) (H : Heap) (R : Value → Heap → Prop) : Prop :=
  Mnew H T_history_Record (some (Value.cells t0)) fun t1 h1 =>
  Mpu (fld 1 t1) fun t9 =>
  Mpu (ld1 h1 t9) fun t10 =>
  Mcall prg f_syngraphlaw22_itemsBytes [t10] h1 fun t11 h2 =>
  Mpu (extV 0 t11) fun t12 =>
  Mpu (extV 1 t11) fun t13 =>
  Mpu (fld 2 t1) fun t15 =>
  Mpu (ld1 h2 t15) fun t16 =>
  Mcall prg f_syngraphlaw22_itemsBytes [t16] h2 fun t17 h3 =>
  Mpu (extV 0 t17) fun t18 =>
  Mpu (extV 1 t17) fun t19 =>
  Mpu (unV .not t13) fun t21 =>
  J1 (fun k4 => Mif t21 false (
      Mpu (unV .not t19) fun t24 =>
      k4 t24 h3) (
      k4 undef h3)) fun t24_2 h5 =>
  Mpu (pickV t21 (.bool true) t24_2) fun t25 =>
  J1 (fun k6 => Mif t25 false (
      Mpu (fld 0 t1) fun t27 =>
      Mpu (ld1 h5 t27) fun t28 =>
      Mpu (binV .no .lss t28 (.int .i64 1)) fun t29 =>
      k6 t29 h5) (
      k6 undef h5)) fun t29_2 h7 =>
  Mpu (pickV t25 (.bool true) t29_2) fun t30 =>
  J1 (fun k8 => Mif t30 false (
      Mpu (fld 0 t1) fun t32 =>
      Mpu (ld1 h7 t32) fun t33 =>
      Mpu (binV .no .gtr t33 (.int .i64 4)) fun t34 =>
      k8 t34 h7) (
      k8 undef h7)) fun t34_2 h9 =>
  Mpu (pickV t30 (.bool true) t34_2) fun t35 =>
  J1 (fun k10 => Mif t35 false (
      Mpu (fld 3 t1) fun t37 =>
      Mpu (fld 0 t37) fun t38 =>
      Mpu (ld1 h9 t38) fun t39 =>
      Mpu (binV .no .lss t39 (.int .i64 0)) fun t40 =>
      k10 t40 h9) (
      k10 undef h9)) fun t40_2 h11 =>
  Mpu (pickV t35 (.bool true) t40_2) fun t41 =>
  J1 (fun k12 => Mif t41 false (
      Mpu (fld 3 t1) fun t43 =>
      Mpu (fld 0 t43) fun t44 =>
      Mpu (ld1 h11 t44) fun t45 =>
      Mpu (binV .no .gtr t45 (.int .i64 1048576)) fun t46 =>
      k12 t46 h11) (
      k12 undef h11)) fun t46_2 h13 =>
  Mpu (pickV t41 (.bool true) t46_2) fun t47 =>
  Mcd t47 (
    R (.tuple #[(.slice none 0 0), (.bool false)]) h13) (
    Mpu (fld 0 t1) fun t48 =>
    Mpu (ld1 h13 t48) fun t49 =>
    Mpu (fld 1 t1) fun t51 =>
    Mpu (ld1 h13 t51) fun t52 =>
    Mpu (lenV t52) fun t53 =>
    Mpu (fld 2 t1) fun t55 =>
    Mpu (ld1 h13 t55) fun t56 =>
    Mpu (lenV t56) fun t57 =>
    Mpu (fld 3 t1) fun t58 =>
    Mpu (fld 0 t58) fun t59 =>
    Mpu (ld1 h13 t59) fun t60 =>
    Mpu (fld 3 t1) fun t61 =>
    Mpu (fld 1 t61) fun t62 =>
    Mpu (ldN 32 h13 t62) fun t63 =>
    Mcall prg f_syngraphref22_Record [t49, t12, t53, t18, t57, t60, t63] h13 fun t64 h14 =>
    R (.tuple #[t64, (.bool true)]) h14)
theorem sh_syngraphlaw22_recordBytes_chk : fchkF prg [24, 29, 34, 40, 46] Tryz.f14 1 = true := by kernel_rfl
theorem sh_syngraphlaw22_recordBytes_den (t0 : Value) (H : Heap) (R : Value → Heap → Prop) : fdenF prg [24, 29, 34, 40, 46] Tryz.f14 [t0] H R = sh_syngraphlaw22_recordBytes t0 H R := by kernel_rfl
theorem sh_syngraphlaw22_recordBytes_calls {t0 : Value} {H : Heap} {R : Value → Heap → Prop} (h : sh_syngraphlaw22_recordBytes t0 H R) : HCalls prg f_syngraphlaw22_recordBytes [t0] H R :=
  calls_ofF Tryz.func14 sh_syngraphlaw22_recordBytes_chk (by rw [sh_syngraphlaw22_recordBytes_den]; exact h)

-- (syngraph/history.Record).Equal
def sh_history_Record_Equal (t0 t1 : Value) (H : Heap) (R : Value → Heap → Prop) : Prop :=
  Mnew H T_history_Record (some (Value.cells t0)) fun t2 h1 =>
  Mnew h1 T_history_Record (some (Value.cells t1)) fun t3 h2 =>
  Mpu (fld 0 t2) fun t5 =>
  Mpu (ld1 h2 t5) fun t6 =>
  Mpu (fld 0 t3) fun t7 =>
  Mpu (ld1 h2 t7) fun t8 =>
  Mpu (binV .no .eql t6 t8) fun t9 =>
  J1 (fun k3 => Mif t9 true (
      Mpu (fld 1 t2) fun t11 =>
      Mpu (ld1 h2 t11) fun t12 =>
      Mpu (fld 1 t3) fun t13 =>
      Mpu (ld1 h2 t13) fun t14 =>
      Mcall prg f_slices_Equal_S_history_Item_history_Item [t12, t14] h2 fun t15 h4 =>
      k3 t15 h4) (
      k3 undef h2)) fun t15_2 h5 =>
  Mpu (pickV t9 t15_2 (.bool false)) fun t16 =>
  J1 (fun k6 => Mif t16 true (
      Mpu (fld 2 t2) fun t18 =>
      Mpu (ld1 h5 t18) fun t19 =>
      Mpu (fld 2 t3) fun t20 =>
      Mpu (ld1 h5 t20) fun t21 =>
      Mcall prg f_slices_Equal_S_history_Item_history_Item [t19, t21] h5 fun t22 h7 =>
      k6 t22 h7) (
      k6 undef h5)) fun t22_2 h8 =>
  Mpu (pickV t16 t22_2 (.bool false)) fun t23 =>
  J1 (fun k9 => Mif t23 true (
      Mpu (fld 3 t2) fun t25 =>
      Mpu (ldN 33 h8 t25) fun t26 =>
      Mpu (fld 3 t3) fun t27 =>
      Mpu (ldN 33 h8 t27) fun t28 =>
      Mpu (binV (eqK prg T_head_Head) .eql t26 t28) fun t29 =>
      k9 t29 h8) (
      k9 undef h8)) fun t29_2 h10 =>
  Mpu (pickV t23 t29_2 (.bool false)) fun t30 =>
  R t30 h10
theorem sh_history_Record_Equal_chk : fchkF prg [15, 22, 29] Tryz.f16 2 = true := by kernel_rfl
theorem sh_history_Record_Equal_den (t0 t1 : Value) (H : Heap) (R : Value → Heap → Prop) : fdenF prg [15, 22, 29] Tryz.f16 [t0, t1] H R = sh_history_Record_Equal t0 t1 H R := by kernel_rfl
theorem sh_history_Record_Equal_calls {t0 t1 : Value} {H : Heap} {R : Value → Heap → Prop} (h : sh_history_Record_Equal t0 t1 H R) : HCalls prg f_history_Record_Equal [t0, t1] H R :=
  calls_ofF Tryz.func16 sh_history_Record_Equal_chk (by rw [sh_history_Record_Equal_den]; exact h)

-- syngraph/history.ParseRecord
def sh_history_ParseRecord (t0 : Value) (H : Heap) (R : Value → Heap → Prop) : Prop :=
  Mnew H T_history_Record (zcells prg T_history_Record) fun t2 h1 =>
  Mcall prg f_wire_NewIn [t0] h1 fun t7 h2 =>
  Mcall prg f_wire_In_Int [t7] h2 fun t9 h3 =>
  Mpu (buildV prg T_history_Record [(0, t9)]) fun t10 =>
  Mnew h3 T_history_Record (zcells prg T_history_Record) fun t5 h4 =>
  Mwr (stN 36 h4 t5 t10) fun h5 =>
  Mcall prg f_history_get [t7] h5 fun t12 h6 =>
  Mpu (fld 1 t5) fun t13 =>
  Mwr (st1 h6 t13 t12) fun h7 =>
  Mcall prg f_history_get [t7] h7 fun t15 h8 =>
  Mpu (fld 2 t5) fun t16 =>
  Mwr (st1 h8 t16 t15) fun h9 =>
  Mcall prg f_wire_In_Int [t7] h9 fun t18 h10 =>
  Mpu (fld 3 t5) fun t19 =>
  Mpu (fld 0 t19) fun t20 =>
  Mwr (st1 h10 t20 t18) fun h11 =>
  Mcall prg f_wire_In_Hash [t7] h11 fun t22 h12 =>
  Mpu (fld 3 t5) fun t23 =>
  Mpu (fld 1 t23) fun t24 =>
  Mwr (stN 32 h12 t24 t22) fun h13 =>
  Mcall prg f_wire_In_Done [t7] h13 fun t26 h14 =>
  Mpu (unV .not t26) fun t27 =>
  J1 (fun k15 => Mif t27 false (
      Mpu (ldN 36 h14 t5) fun t29 =>
      Mcall prg f_history_Record_Right [t29] h14 fun t30 h16 =>
      Mpu (unV .not t30) fun t31 =>
      k15 t31 h16) (
      k15 undef h14)) fun t31_2 h17 =>
  Mpu (pickV t27 (.bool true) t31_2) fun t32 =>
  J1 (fun k18 => Mif t32 false (
      Mpu (ldN 36 h17 t5) fun t34 =>
      Mcall prg f_history_Record_Bytes [t34] h17 fun t35 h19 =>
      Mcall prg f_bytes_Equal [t35, t0] h19 fun t37 h20 =>
      Mpu (unV .not t37) fun t38 =>
      k18 t38 h20) (
      k18 undef h17)) fun t38_2 h21 =>
  Mpu (pickV t32 (.bool true) t38_2) fun t39 =>
  Mcd t39 (
    Mpu (buildV prg T_history_Record []) fun t40 =>
    Mwr (stN 36 h21 t2 t40) fun h22 =>
    Mpu (ldN 36 h22 t2) fun r23 =>
    R (.tuple #[r23, (.int .i64 10)]) h22) (
    Mpu (ldN 36 h21 t5) fun t41 =>
    Mwr (stN 36 h21 t2 t41) fun h24 =>
    Mpu (ldN 36 h24 t2) fun r25 =>
    R (.tuple #[r25, (.int .i64 0)]) h24)
theorem sh_history_ParseRecord_chk : fchkF prg [31, 38] Tryz.f17 1 = true := by kernel_rfl
theorem sh_history_ParseRecord_den (t0 : Value) (H : Heap) (R : Value → Heap → Prop) : fdenF prg [31, 38] Tryz.f17 [t0] H R = sh_history_ParseRecord t0 H R := by kernel_rfl
theorem sh_history_ParseRecord_calls {t0 : Value} {H : Heap} {R : Value → Heap → Prop} (h : sh_history_ParseRecord t0 H R) : HCalls prg f_history_ParseRecord [t0] H R :=
  calls_ofF Tryz.func17 sh_history_ParseRecord_chk (by rw [sh_history_ParseRecord_den]; exact h)

-- slices.DeleteFunc[[]syngraph/version.Version,syngraph/version.Version]
def sh_slices_DeleteFunc_S_version_Version_version_Version (t0 t1 : Value) (H : Heap) (R : Value → Heap → Prop) : Prop :=
  Mcall prg f_slices_IndexFunc_S_version_Version_version_Version [t0, t1] H fun t10 h1 =>
  Mpu (binV .no .eql t10 (.int .i64 (-1))) fun t12 =>
  Mcd t12 (
    R t0 h1) (
    J2 (fun k2 =>
      Mpu (binV .no .add t10 (.int .i64 1)) fun t15 =>
      L2 (fun k4 => fun t5_2 t6_2 h5 =>
        Mpu (lenV t0) fun t18 =>
        Mpu (binV .no .lss t6_2 t18) fun t19 =>
        Mcd t19 (
          J1 (fun k6 =>
            Mpu (ixS 4 t0 t6_2) fun t24 =>
            Mpu (ldN 4 h5 t24) fun t25 =>
            Mnew h5 T_version_Version (zcells prg T_version_Version) fun t7 h8 =>
            Mwr (stN 4 h8 t7 t25) fun h9 =>
            Mpu (ldN 4 h9 t7) fun t27 =>
            Mcallv prg t1 [t27] h9 fun t28 h10 =>
            Mpu (unV .not t28) fun t29 =>
            Mcd t29 (
              Mpu (ldN 4 h10 t7) fun t32 =>
              Mpu (ixS 4 t0 t5_2) fun t33 =>
              Mwr (stN 4 h10 t33 t32) fun h11 =>
              Mpu (binV .no .add t5_2 (.int .i64 1)) fun t35 =>
              k6 t35 h11) (
              k6 t5_2 h10)) fun t5_4 h7 =>
          Mpu (binV .no .add t6_2 (.int .i64 1)) fun t21 =>
          k4 t5_4 t21 h7) (
          k2 t5_2 t6_2 h5)) (t10) (t15) h1) fun t5_5 t6_4 h3 =>
    Mpu (slS 4 t0 (some t5_5) none none) fun t38 =>
    Msem prg (Builtin.clear_ #[22] 0 #[t38]) h3 fun t_ h12 =>
    Mpu (slS 4 t0 none (some t5_5) none) fun t41 =>
    R t41 h12)
theorem sh_slices_DeleteFunc_S_version_Version_version_Version_chk : fchkF prg [5, 6] Tryz.f25 2 = true := by kernel_rfl
theorem sh_slices_DeleteFunc_S_version_Version_version_Version_den (t0 t1 : Value) (H : Heap) (R : Value → Heap → Prop) : fdenF prg [5, 6] Tryz.f25 [t0, t1] H R = sh_slices_DeleteFunc_S_version_Version_version_Version t0 t1 H R := by kernel_rfl
theorem sh_slices_DeleteFunc_S_version_Version_version_Version_calls {t0 t1 : Value} {H : Heap} {R : Value → Heap → Prop} (h : sh_slices_DeleteFunc_S_version_Version_version_Version t0 t1 H R) : HCalls prg f_slices_DeleteFunc_S_version_Version_version_Version [t0, t1] H R :=
  calls_ofF Tryz.func25 sh_slices_DeleteFunc_S_version_Version_version_Version_chk (by rw [sh_slices_DeleteFunc_S_version_Version_version_Version_den]; exact h)

-- slices.Clone[[]syngraph/version.Version,syngraph/version.Version]
def sh_slices_Clone_S_version_Version_version_Version (t0 : Value) (H : Heap) (R : Value → Heap → Prop) : Prop :=
  Mpu (binV .slc .eql t0 (.slice none 0 0)) fun t4 =>
  Mcd t4 (
    R (.slice none 0 0) H) (
    Mnews H T_version_Version 0 (bslV prg T_version_Version 0 []) fun t5 h1 =>
    Mapp T_version_Version 4 40 h1 t5 t0 fun t7 h2 =>
    R t7 h2)
theorem sh_slices_Clone_S_version_Version_version_Version_chk : fchkF prg [] Tryz.f26 1 = true := by kernel_rfl
theorem sh_slices_Clone_S_version_Version_version_Version_den (t0 : Value) (H : Heap) (R : Value → Heap → Prop) : fdenF prg [] Tryz.f26 [t0] H R = sh_slices_Clone_S_version_Version_version_Version t0 H R := by kernel_rfl
theorem sh_slices_Clone_S_version_Version_version_Version_calls {t0 : Value} {H : Heap} {R : Value → Heap → Prop} (h : sh_slices_Clone_S_version_Version_version_Version t0 H R) : HCalls prg f_slices_Clone_S_version_Version_version_Version [t0] H R :=
  calls_ofF Tryz.func26 sh_slices_Clone_S_version_Version_version_Version_chk (by rw [sh_slices_Clone_S_version_Version_version_Version_den]; exact h)

-- syngraph/version.Best$1
def sh_version_Best_1 (t0 t1 : Value) (H : Heap) (R : Value → Heap → Prop) : Prop :=
  Mnew H T_version_Version (some (Value.cells t0)) fun t2 h1 =>
  Mpu (ldN 5 h1 t1) fun t4 =>
  Mpu (ldN 4 h1 t2) fun t5 =>
  Mcall prg f_version_Want_Fits [t4, t5] h1 fun t6 h2 =>
  Mpu (unV .not t6) fun t7 =>
  R t7 h2
theorem sh_version_Best_1_chk : fchkF prg [] Tryz.f27 2 = true := by kernel_rfl
theorem sh_version_Best_1_den (t0 t1 : Value) (H : Heap) (R : Value → Heap → Prop) : fdenF prg [] Tryz.f27 [t0, t1] H R = sh_version_Best_1 t0 t1 H R := by kernel_rfl
theorem sh_version_Best_1_calls {t0 t1 : Value} {H : Heap} {R : Value → Heap → Prop} (h : sh_version_Best_1 t0 t1 H R) : HCalls prg f_version_Best_1 [t0, t1] H R :=
  calls_ofF Tryz.func27 sh_version_Best_1_chk (by rw [sh_version_Best_1_den]; exact h)

-- slices.MaxFunc[[]syngraph/version.Version,syngraph/version.Version]
def sh_slices_MaxFunc_S_version_Version_version_Version (t0 t1 : Value) (H : Heap) (R : Value → Heap → Prop) : Prop :=
  Mnew H T_version_Version (zcells prg T_version_Version) fun t4 h1 =>
  J0 (fun k2 =>
    Mpu (lenV t0) fun t8 =>
    Mpu (binV .no .lss t8 (.int .i64 1)) fun t9 =>
    Mcd t9 (
      Mpu (mkI prg T_string (.string ⟨#[115, 108, 105, 99, 101, 115, 46, 77, 97, 120, 70, 117, 110, 99, 58, 32, 101, 109, 112, 116, 121, 32, 108, 105, 115, 116]⟩)) fun t10 =>
      False) (
      k2 h1)) fun h3 =>
  Mpu (ixS 4 t0 (.int .i64 0)) fun t12 =>
  Mpu (ldN 4 h3 t12) fun t13 =>
  Mnew h3 T_version_Version (zcells prg T_version_Version) fun t5 h4 =>
  Mwr (stN 4 h4 t5 t13) fun h5 =>
  J1 (fun k6 =>
    L1 (fun k8 => fun t6_2 h9 =>
      Mpu (lenV t0) fun t16 =>
      Mpu (binV .no .lss t6_2 t16) fun t17 =>
      Mcd t17 (
        J0 (fun k10 =>
          Mpu (ixS 4 t0 t6_2) fun t23 =>
          Mpu (ldN 4 h9 t23) fun t24 =>
          Mpu (ldN 4 h9 t5) fun t25 =>
          Mcallv prg t1 [t24, t25] h9 fun t26 h12 =>
          Mpu (binV .no .gtr t26 (.int .i64 0)) fun t27 =>
          Mcd t27 (
            Mpu (ixS 4 t0 t6_2) fun t30 =>
            Mpu (ldN 4 h12 t30) fun t31 =>
            Mwr (stN 4 h12 t5 t31) fun h13 =>
            k10 h13) (
            k10 h12)) fun h11 =>
        Mpu (binV .no .add t6_2 (.int .i64 1)) fun t19 =>
        k8 t19 h11) (
        k6 t6_2 h9)) ((.int .i64 1)) h5) fun t6_4 h7 =>
  Mpu (ldN 4 h7 t5) fun t32 =>
  Mwr (stN 4 h7 t4 t32) fun h14 =>
  Mpu (ldN 4 h14 t4) fun r15 =>
  R r15 h14
theorem sh_slices_MaxFunc_S_version_Version_version_Version_chk : fchkF prg [6] Tryz.f28 2 = true := by kernel_rfl
theorem sh_slices_MaxFunc_S_version_Version_version_Version_den (t0 t1 : Value) (H : Heap) (R : Value → Heap → Prop) : fdenF prg [6] Tryz.f28 [t0, t1] H R = sh_slices_MaxFunc_S_version_Version_version_Version t0 t1 H R := by kernel_rfl
theorem sh_slices_MaxFunc_S_version_Version_version_Version_calls {t0 t1 : Value} {H : Heap} {R : Value → Heap → Prop} (h : sh_slices_MaxFunc_S_version_Version_version_Version t0 t1 H R) : HCalls prg f_slices_MaxFunc_S_version_Version_version_Version [t0, t1] H R :=
  calls_ofF Tryz.func28 sh_slices_MaxFunc_S_version_Version_version_Version_chk (by rw [sh_slices_MaxFunc_S_version_Version_version_Version_den]; exact h)

end Go.Proofs.YtmhfanpijdgkjaaGreatDoor
/- PRINTED: clean texts -/
namespace Go.Proofs.YtmhfanpijdgkjaaGreatDoor
open Go.X
set_option maxRecDepth 100000
-- syngraph/syngraphlaw22.itemsBytes
def sh_syngraphlaw22_itemsBytes (t0 : Value) (H : Heap) (R : Value → Heap → Prop) : Prop :=
  J2 (fun k1 =>
    Mpu (lenV t0) fun t8 =>
    L2 (fun k3 => fun t4_2 t9_2 h4 =>
      Mpu (binV .no .lss t9_2 t8) fun t10 =>
      Mcd t10 (
        Mpu (ixS 37 t0 t9_2) fun t12 =>
        Mpu (ldN 37 h4 t12) fun t13 =>
        Mnew h4 T_history_Item (zcells prg T_history_Item) fun t6 h5 =>
        Mwr (stN 37 h5 t6 t13) fun h6 =>
        Mpu (fld 0 t6) fun t14 =>
        Mpu (ld1 h6 t14) fun t15 =>
        Mcall prg f_syngraphref19_Name [t15] h6 fun t16 h7 =>
        Mpu (unV .not t16) fun t17 =>
        J1 (fun k8 => Mif t17 false (
            Mpu (fld 1 t6) fun t19 =>
            Mpu (ldN 4 h7 t19) fun t20 =>
            Mcall prg f_syngraphlaw22_refVersion [t20] h7 fun t21 h9 =>
            Mcall prg f_syngraphref18_Right [t21] h9 fun t22 h10 =>
            Mpu (unV .not t22) fun t23 =>
            k8 t23 h10) (
            k8 undef h7)) fun t23_2 h11 =>
        Mpu (pickV t17 (.bool true) t23_2) fun t24 =>
        J1 (fun k12 => Mif t24 false (
            Mpu (binV .no .gtr t9_2 (.int .i64 0)) fun t27 =>
            k12 t27 h11) (
            k12 undef h11)) fun t28_2 h13 =>
        J1 (fun k14 => Mif t28_2 true (
            Mpu (binV .no .sub t9_2 (.int .i64 1)) fun t31 =>
            Mpu (ixS 37 t0 t31) fun t32 =>
            Mpu (fld 0 t32) fun t33 =>
            Mpu (ld1 h13 t33) fun t34 =>
            Mpu (fld 0 t6) fun t35 =>
            Mpu (ld1 h13 t35) fun t36 =>
            Mpu (binV .no .geq t34 t36) fun t37 =>
            k14 t37 h13) (
            k14 undef h13)) fun t37_2 h15 =>
        J1 (fun k16 => Mif t24 false (
            Mpu (pickV t28_2 t37_2 (.bool false)) fun t38 =>
            k16 t38 h15) (
            k16 undef h15)) fun t38_2 h17 =>
        Mpu (pickV t24 (.bool true) t38_2) fun t39 =>
        Mcd t39 (
          R (.tuple #[(.slice none 0 0), (.bool false)]) h17) (
          Mpu (fld 0 t6) fun t41 =>
          Mpu (ld1 h17 t41) fun t42 =>
          Mpu (fld 1 t6) fun t43 =>
          Mpu (ldN 4 h17 t43) fun t44 =>
          Mpu (fld 5 t6) fun t47 =>
          Mpu (ldN 32 h17 t47) fun t48 =>
          Mcall prg f_syngraphlaw22_refVersion [t44] h17 fun t45 h18 =>
          Mre [(ldN 32 h18 t47, t48), (ld1 h18 t41, t42)] (
          Mcall prg f_syngraphref18_Show [t45] h18 fun t46 h19 =>
          Mre [(ldN 32 h19 t47, t48), (ld1 h19 t41, t42)] (
          Mcall prg f_syngraphref22_Item [t42, t46, t48] h19 fun t49 h20 =>
          Mapp T_uint8 1 1 h20 t4_2 t49 fun t50 h21 =>
          Mpu (binV .no .add t9_2 (.int .i64 1)) fun t51 =>
          k3 t50 t51 h21)))) (
        k1 t4_2 t9_2 h4)) ((.slice none 0 0)) ((.int .i64 0)) H) fun t4_4 t9_4 h2 =>
  R (.tuple #[t4_4, (.bool true)]) h2
theorem sh_syngraphlaw22_itemsBytes_chk : fchkF prg [4, 9, 23, 28, 37, 38] Tryz.f37 1 = true := by kernel_rfl
theorem sh_syngraphlaw22_itemsBytes_den (t0 : Value) (H : Heap) (R : Value → Heap → Prop) : fdenF prg [4, 9, 23, 28, 37, 38] Tryz.f37 [t0] H R = sh_syngraphlaw22_itemsBytes t0 H R := by kernel_rfl
theorem sh_syngraphlaw22_itemsBytes_calls {t0 : Value} {H : Heap} {R : Value → Heap → Prop} (h : sh_syngraphlaw22_itemsBytes t0 H R) : HCalls prg f_syngraphlaw22_itemsBytes [t0] H R :=
  calls_ofF Tryz.func37 sh_syngraphlaw22_itemsBytes_chk (by rw [sh_syngraphlaw22_itemsBytes_den]; exact h)

-- syngraph/syngraphref22.Record
def sh_syngraphref22_Record (t0 t1 t2 t3 t4 t5 t6 : Value) (H : Heap) (R : Value → Heap → Prop) : Prop :=
  Mnew H T_A32_uint8 (some (Value.cells t6)) fun t13 h1 =>
  Mpu (slA 32 1 t13 none none none) fun t25 =>
  Mcall prg f_syngraphref03_Int [t0] h1 fun t16 h2 =>
  Mcall prg f_syngraphref03_Int [t2] h2 fun t18 h3 =>
  Mcall prg f_syngraphref03_Int [t4] h3 fun t21 h4 =>
  Mcall prg f_syngraphref03_Int [t5] h4 fun t24 h5 =>
  Mnews h5 T_S_uint8 7 (bslV prg T_S_uint8 7 [(0, t16), (1, t18), (2, t1), (3, t21), (4, t3), (5, t24), (6, t25)]) fun t26 h6 =>
  Mcall prg f_syngraphref03_Join [t26] h6 fun t27 h7 =>
  R t27 h7
theorem sh_syngraphref22_Record_chk : fchkF prg [] Tryz.f38 7 = true := by kernel_rfl
theorem sh_syngraphref22_Record_den (t0 t1 t2 t3 t4 t5 t6 : Value) (H : Heap) (R : Value → Heap → Prop) : fdenF prg [] Tryz.f38 [t0, t1, t2, t3, t4, t5, t6] H R = sh_syngraphref22_Record t0 t1 t2 t3 t4 t5 t6 H R := by kernel_rfl
theorem sh_syngraphref22_Record_calls {t0 t1 t2 t3 t4 t5 t6 : Value} {H : Heap} {R : Value → Heap → Prop} (h : sh_syngraphref22_Record t0 t1 t2 t3 t4 t5 t6 H R) : HCalls prg f_syngraphref22_Record [t0, t1, t2, t3, t4, t5, t6] H R :=
  calls_ofF Tryz.func38 sh_syngraphref22_Record_chk (by rw [sh_syngraphref22_Record_den]; exact h)

-- syngraph/wire.NewIn
def sh_wire_NewIn (t0 : Value) (H : Heap) (R : Value → Heap → Prop) : Prop :=
  Mcall prg f_bytes_Clone [t0] H fun t4 h1 =>
  Mpu (buildV prg T_wire_In [(0, t4)]) fun t5 =>
  Mnew h1 T_wire_In (some (Value.cells t5)) fun t6 h2 =>
  R t6 h2
theorem sh_wire_NewIn_chk : fchkF prg [] Tryz.f42 1 = true := by kernel_rfl
theorem sh_wire_NewIn_den (t0 : Value) (H : Heap) (R : Value → Heap → Prop) : fdenF prg [] Tryz.f42 [t0] H R = sh_wire_NewIn t0 H R := by kernel_rfl
theorem sh_wire_NewIn_calls {t0 : Value} {H : Heap} {R : Value → Heap → Prop} (h : sh_wire_NewIn t0 H R) : HCalls prg f_wire_NewIn [t0] H R :=
  calls_ofF Tryz.func42 sh_wire_NewIn_chk (by rw [sh_wire_NewIn_den]; exact h)

-- (*syngraph/wire.In).Int
def sh_wire_In_Int (t0 : Value) (H : Heap) (R : Value → Heap → Prop) : Prop :=
  Mcall prg f_wire_In_take [t0, (.int .i64 8)] H fun t5 h1 =>
  Mpu (nck t0) fun t7 =>
  Mpu (fld 1 t7) fun t8 =>
  Mpu (ld1 h1 t8) fun t9 =>
  Mcd t9 (
    R (.int .i64 0) h1) (
    Mcall prg f_wire_number [t5] h1 fun t11 h2 =>
    R t11 h2)
theorem sh_wire_In_Int_chk : fchkF prg [] Tryz.f43 1 = true := by kernel_rfl
theorem sh_wire_In_Int_den (t0 : Value) (H : Heap) (R : Value → Heap → Prop) : fdenF prg [] Tryz.f43 [t0] H R = sh_wire_In_Int t0 H R := by kernel_rfl
theorem sh_wire_In_Int_calls {t0 : Value} {H : Heap} {R : Value → Heap → Prop} (h : sh_wire_In_Int t0 H R) : HCalls prg f_wire_In_Int [t0] H R :=
  calls_ofF Tryz.func43 sh_wire_In_Int_chk (by rw [sh_wire_In_Int_den]; exact h)

-- syngraph/history.get
def sh_history_get (t0 : Value) (H : Heap) (R : Value → Heap → Prop) : Prop :=
  J2 (fun k1 =>
    Mcall prg f_wire_In_Count [t0, (.int .i64 0), (.int .i64 256)] H fun t6 h3 =>
    L2 (fun k4 => fun t3_2 t7_2 h5 =>
      Mpu (binV .no .lss t7_2 t6) fun t8 =>
      Mcd t8 (
        Mcall prg f_wire_In_Text [t0, (.int .i64 64)] h5 fun t10 h6 =>
        Mpu (buildV prg T_history_Item [(0, t10)]) fun t11 =>
        Mnew h6 T_history_Item (zcells prg T_history_Item) fun t4 h7 =>
        Mwr (stN 37 h7 t4 t11) fun h8 =>
        Mcall prg f_wire_In_Text [t0, (.int .i64 64)] h8 fun t14 h9 =>
        Mcall prg f_version_Parse [t14] h9 fun t15 h10 =>
        Mpu (extV 0 t15) fun t16 =>
        Mpu (extV 1 t15) fun t17 =>
        Mpu (fld 1 t4) fun t18 =>
        Mwr (stN 4 h10 t18 t16) fun h11 =>
        Mcall prg f_wire_In_Hash [t0] h11 fun t20 h12 =>
        Mpu (fld 5 t4) fun t21 =>
        Mwr (stN 32 h12 t21 t20) fun h13 =>
        Mpu (ldN 37 h13 t4) fun t23 =>
        Mnews h13 T_history_Item 1 (bslV prg T_history_Item 1 [(0, t23)]) fun t24 h14 =>
        Mapp T_history_Item 37 88 h14 t3_2 t24 fun t25 h15 =>
        Mpu (binV .no .add t7_2 (.int .i64 1)) fun t26 =>
        k4 t25 t26 h15) (
        k1 t3_2 t7_2 h5)) ((.slice none 0 0)) ((.int .i64 0)) h3) fun t3_4 t7_4 h2 =>
  R t3_4 h2
theorem sh_history_get_chk : fchkF prg [3, 7] Tryz.f44 1 = true := by kernel_rfl
theorem sh_history_get_den (t0 : Value) (H : Heap) (R : Value → Heap → Prop) : fdenF prg [3, 7] Tryz.f44 [t0] H R = sh_history_get t0 H R := by kernel_rfl
theorem sh_history_get_calls {t0 : Value} {H : Heap} {R : Value → Heap → Prop} (h : sh_history_get t0 H R) : HCalls prg f_history_get [t0] H R :=
  calls_ofF Tryz.func44 sh_history_get_chk (by rw [sh_history_get_den]; exact h)

-- (*syngraph/wire.In).Hash
def sh_wire_In_Hash (t0 : Value) (H : Heap) (R : Value → Heap → Prop) : Prop :=
  Mnew H T_sha_Hash (zcells prg T_sha_Hash) fun t2 h1 =>
  Mnew h1 T_sha_Hash (zcells prg T_sha_Hash) fun t3 h2 =>
  Mpu (slA 32 1 t3 none none none) fun t4 =>
  Mcall prg f_wire_In_take [t0, (.int .i64 32)] h2 fun t6 h3 =>
  Mcopy 1 h3 t4 t6 fun t7 h4 =>
  Mpu (ldN 32 h4 t3) fun t8 =>
  Mwr (stN 32 h4 t2 t8) fun h5 =>
  Mpu (ldN 32 h5 t2) fun r6 =>
  R r6 h5
theorem sh_wire_In_Hash_chk : fchkF prg [] Tryz.f45 1 = true := by kernel_rfl
theorem sh_wire_In_Hash_den (t0 : Value) (H : Heap) (R : Value → Heap → Prop) : fdenF prg [] Tryz.f45 [t0] H R = sh_wire_In_Hash t0 H R := by kernel_rfl
theorem sh_wire_In_Hash_calls {t0 : Value} {H : Heap} {R : Value → Heap → Prop} (h : sh_wire_In_Hash t0 H R) : HCalls prg f_wire_In_Hash [t0] H R :=
  calls_ofF Tryz.func45 sh_wire_In_Hash_chk (by rw [sh_wire_In_Hash_den]; exact h)

-- (*syngraph/wire.In).Done
def sh_wire_In_Done (t0 : Value) (H : Heap) (R : Value → Heap → Prop) : Prop :=
  Mpu (nck t0) fun t4 =>
  Mpu (fld 1 t4) fun t5 =>
  Mpu (ld1 H t5) fun t6 =>
  Mpu (unV .not t6) fun t7 =>
  J1 (fun k1 => Mif t7 true (
      Mpu (nck t0) fun t10 =>
      Mpu (fld 0 t10) fun t11 =>
      Mpu (ld1 H t11) fun t12 =>
      Mpu (lenV t12) fun t13 =>
      Mpu (binV .no .eql t13 (.int .i64 0)) fun t14 =>
      k1 t14 H) (
      k1 undef H)) fun t14_2 h2 =>
  Mpu (pickV t7 t14_2 (.bool false)) fun t15 =>
  R t15 h2
theorem sh_wire_In_Done_chk : fchkF prg [14] Tryz.f46 1 = true := by kernel_rfl
theorem sh_wire_In_Done_den (t0 : Value) (H : Heap) (R : Value → Heap → Prop) : fdenF prg [14] Tryz.f46 [t0] H R = sh_wire_In_Done t0 H R := by kernel_rfl
theorem sh_wire_In_Done_calls {t0 : Value} {H : Heap} {R : Value → Heap → Prop} (h : sh_wire_In_Done t0 H R) : HCalls prg f_wire_In_Done [t0] H R :=
  calls_ofF Tryz.func46 sh_wire_In_Done_chk (by rw [sh_wire_In_Done_den]; exact h)

-- bytes.Equal
def sh_bytes_Equal (t0 t1 : Value) (H : Heap) (R : Value → Heap → Prop) : Prop :=
  Mpu (b2s H t0) fun t6 =>
  Mpu (b2s H t1) fun t8 =>
  Mpu (binV .no .eql t6 t8) fun t9 =>
  R t9 H
theorem sh_bytes_Equal_chk : fchkF prg [] Tryz.f47 2 = true := by kernel_rfl
theorem sh_bytes_Equal_den (t0 t1 : Value) (H : Heap) (R : Value → Heap → Prop) : fdenF prg [] Tryz.f47 [t0, t1] H R = sh_bytes_Equal t0 t1 H R := by kernel_rfl
theorem sh_bytes_Equal_calls {t0 t1 : Value} {H : Heap} {R : Value → Heap → Prop} (h : sh_bytes_Equal t0 t1 H R) : HCalls prg f_bytes_Equal [t0, t1] H R :=
  calls_ofF Tryz.func47 sh_bytes_Equal_chk (by rw [sh_bytes_Equal_den]; exact h)

-- slices.IndexFunc[[]syngraph/version.Version,syngraph/version.Version]
def sh_slices_IndexFunc_S_version_Version_version_Version (t0 t1 : Value) (H : Heap) (R : Value → Heap → Prop) : Prop :=
  J1 (fun k1 =>
    Mpu (lenV t0) fun t7 =>
    L1 (fun k3 => fun t8_2 h4 =>
      Mpu (binV .no .lss t8_2 t7) fun t9 =>
      Mcd t9 (
        Mpu (ixS 4 t0 t8_2) fun t14 =>
        Mpu (ldN 4 h4 t14) fun t15 =>
        Mcallv prg t1 [t15] h4 fun t16 h5 =>
        Mcd t16 (
          R t8_2 h5) (
          Mpu (binV .no .add t8_2 (.int .i64 1)) fun t18 =>
          k3 t18 h5)) (
        k1 t8_2 h4)) ((.int .i64 0)) H) fun t8_4 h2 =>
  R (.int .i64 (-1)) h2
theorem sh_slices_IndexFunc_S_version_Version_version_Version_chk : fchkF prg [8] Tryz.f60 2 = true := by kernel_rfl
theorem sh_slices_IndexFunc_S_version_Version_version_Version_den (t0 t1 : Value) (H : Heap) (R : Value → Heap → Prop) : fdenF prg [8] Tryz.f60 [t0, t1] H R = sh_slices_IndexFunc_S_version_Version_version_Version t0 t1 H R := by kernel_rfl
theorem sh_slices_IndexFunc_S_version_Version_version_Version_calls {t0 t1 : Value} {H : Heap} {R : Value → Heap → Prop} (h : sh_slices_IndexFunc_S_version_Version_version_Version t0 t1 H R) : HCalls prg f_slices_IndexFunc_S_version_Version_version_Version [t0, t1] H R :=
  calls_ofF Tryz.func60 sh_slices_IndexFunc_S_version_Version_version_Version_chk (by rw [sh_slices_IndexFunc_S_version_Version_version_Version_den]; exact h)

-- syngraph/syngraphref19.Name
def sh_syngraphref19_Name (t0 : Value) (H : Heap) (R : Value → Heap → Prop) : Prop :=
  Mpu (lenT t0) fun t6 =>
  Mpu (binV .no .lss t6 (.int .i64 1)) fun t7 =>
  J1 (fun k1 => Mif t7 false (
      Mpu (lenT t0) fun t10 =>
      Mpu (binV .no .gtr t10 (.int .i64 32)) fun t11 =>
      k1 t11 H) (
      k1 undef H)) fun t11_2 h2 =>
  Mpu (pickV t7 (.bool true) t11_2) fun t12 =>
  J1 (fun k3 => Mif t12 false (
      Mpu (ixT t0 (.int .i64 0)) fun t15 =>
      Mpu (binV .no .lss t15 (.int .u8 97)) fun t16 =>
      k3 t16 h2) (
      k3 undef h2)) fun t16_2 h4 =>
  Mpu (pickV t12 (.bool true) t16_2) fun t17 =>
  J1 (fun k5 => Mif t17 false (
      Mpu (ixT t0 (.int .i64 0)) fun t20 =>
      Mpu (binV .no .gtr t20 (.int .u8 122)) fun t21 =>
      k5 t21 h4) (
      k5 undef h4)) fun t21_2 h6 =>
  Mpu (pickV t17 (.bool true) t21_2) fun t22 =>
  Mcd t22 (
    R (.bool false) h6) (
    J1 (fun k7 =>
      L1 (fun k9 => fun t3_2 h10 =>
        Mpu (lenT t0) fun t25 =>
        Mpu (binV .no .lss t3_2 t25) fun t26 =>
        Mcd t26 (
          Mpu (ixT t0 t3_2) fun t31 =>
          Mpu (binV .no .geq t31 (.int .u8 97)) fun t33 =>
          J1 (fun k11 => Mif t33 true (
              Mpu (binV .no .leq t31 (.int .u8 122)) fun t36 =>
              k11 t36 h10) (
              k11 undef h10)) fun t36_2 h12 =>
          Mpu (pickV t33 t36_2 (.bool false)) fun t37 =>
          J1 (fun k13 => Mif t37 false (
              Mpu (binV .no .geq t31 (.int .u8 48)) fun t40 =>
              k13 t40 h12) (
              k13 undef h12)) fun t41_2 h14 =>
          J1 (fun k15 => Mif t41_2 true (
              Mpu (binV .no .leq t31 (.int .u8 57)) fun t43 =>
              k15 t43 h14) (
              k15 undef h14)) fun t43_2 h16 =>
          J1 (fun k17 => Mif t37 false (
              Mpu (pickV t41_2 t43_2 (.bool false)) fun t44 =>
              k17 t44 h16) (
              k17 undef h16)) fun t44_2 h18 =>
          Mpu (pickV t37 (.bool true) t44_2) fun t45 =>
          J1 (fun k19 => Mif t45 false (
              Mpu (binV .no .eql t31 (.int .u8 45)) fun t48 =>
              k19 t48 h18) (
              k19 undef h18)) fun t48_2 h20 =>
          Mpu (pickV t45 (.bool true) t48_2) fun t49 =>
          Mpu (unV .not t49) fun t50 =>
          Mcd t50 (
            R (.bool false) h20) (
            Mpu (binV .no .add t3_2 (.int .i64 1)) fun t28 =>
            k9 t28 h20)) (
          k7 t3_2 h10)) ((.int .i64 0)) h6) fun t3_4 h8 =>
    R (.bool true) h8)
theorem sh_syngraphref19_Name_chk : fchkF prg [3, 11, 16, 21, 36, 41, 43, 44, 48] Tryz.f66 1 = true := by kernel_rfl
theorem sh_syngraphref19_Name_den (t0 : Value) (H : Heap) (R : Value → Heap → Prop) : fdenF prg [3, 11, 16, 21, 36, 41, 43, 44, 48] Tryz.f66 [t0] H R = sh_syngraphref19_Name t0 H R := by kernel_rfl
theorem sh_syngraphref19_Name_calls {t0 : Value} {H : Heap} {R : Value → Heap → Prop} (h : sh_syngraphref19_Name t0 H R) : HCalls prg f_syngraphref19_Name [t0] H R :=
  calls_ofF Tryz.func66 sh_syngraphref19_Name_chk (by rw [sh_syngraphref19_Name_den]; exact h)

end Go.Proofs.YtmhfanpijdgkjaaGreatDoor
/- PRINTED: clean texts -/
namespace Go.Proofs.YtmhfanpijdgkjaaGreatDoor
open Go.X
set_option maxRecDepth 100000
-- syngraph/syngraphlaw22.refVersion
def sh_syngraphlaw22_refVersion (t0 : Value) (H : Heap) (R : Value → Heap → Prop) : Prop :=
  Mnew H T_version_Version (some (Value.cells t0)) fun t1 h1 =>
  Mnew h1 T_syngraphref18_Version (zcells prg T_syngraphref18_Version) fun t2 h2 =>
  Mpu (fld 0 t1) fun t3 =>
  Mpu (ldN 3 h2 t3) fun t4 =>
  Mpu (fld 3 t1) fun t5 =>
  Mpu (ld1 h2 t5) fun t6 =>
  Mpu (buildV prg T_syngraphref18_Version [(0, t4), (1, t6)]) fun t7 =>
  Mwr (stN 4 h2 t2 t7) fun h3 =>
  Mpu (ldN 4 h3 t2) fun r4 =>
  R r4 h3
theorem sh_syngraphlaw22_refVersion_chk : fchkF prg [] Tryz.f67 1 = true := by kernel_rfl
theorem sh_syngraphlaw22_refVersion_den (t0 : Value) (H : Heap) (R : Value → Heap → Prop) : fdenF prg [] Tryz.f67 [t0] H R = sh_syngraphlaw22_refVersion t0 H R := by kernel_rfl
theorem sh_syngraphlaw22_refVersion_calls {t0 : Value} {H : Heap} {R : Value → Heap → Prop} (h : sh_syngraphlaw22_refVersion t0 H R) : HCalls prg f_syngraphlaw22_refVersion [t0] H R :=
  calls_ofF Tryz.func67 sh_syngraphlaw22_refVersion_chk (by rw [sh_syngraphlaw22_refVersion_den]; exact h)

-- syngraph/syngraphref22.Item
def sh_syngraphref22_Item (t0 t1 t2 : Value) (H : Heap) (R : Value → Heap → Prop) : Prop :=
  Mnew H T_A32_uint8 (some (Value.cells t2)) fun t5 h1 =>
  Mpu (slA 32 1 t5 none none none) fun t11 =>
  Mcall prg f_syngraphref03_Text [t0] h1 fun t8 h2 =>
  Mcall prg f_syngraphref03_Text [t1] h2 fun t10 h3 =>
  Mnews h3 T_S_uint8 3 (bslV prg T_S_uint8 3 [(0, t8), (1, t10), (2, t11)]) fun t12 h4 =>
  Mcall prg f_syngraphref03_Join [t12] h4 fun t13 h5 =>
  R t13 h5
theorem sh_syngraphref22_Item_chk : fchkF prg [] Tryz.f68 3 = true := by kernel_rfl
theorem sh_syngraphref22_Item_den (t0 t1 t2 : Value) (H : Heap) (R : Value → Heap → Prop) : fdenF prg [] Tryz.f68 [t0, t1, t2] H R = sh_syngraphref22_Item t0 t1 t2 H R := by kernel_rfl
theorem sh_syngraphref22_Item_calls {t0 t1 t2 : Value} {H : Heap} {R : Value → Heap → Prop} (h : sh_syngraphref22_Item t0 t1 t2 H R) : HCalls prg f_syngraphref22_Item [t0, t1, t2] H R :=
  calls_ofF Tryz.func68 sh_syngraphref22_Item_chk (by rw [sh_syngraphref22_Item_den]; exact h)

-- syngraph/syngraphref03.Join
def sh_syngraphref03_Join (t0 : Value) (H : Heap) (R : Value → Heap → Prop) : Prop :=
  J2 (fun k1 =>
    L2 (fun k3 => fun t3_2 t4_2 h4 =>
      Mpu (lenV t0) fun t7 =>
      Mpu (binV .no .lss t4_2 t7) fun t8 =>
      Mcd t8 (
        Mpu (ixS 1 t0 t4_2) fun t14 =>
        Mpu (ld1 h4 t14) fun t15 =>
        Mapp T_uint8 1 1 h4 t3_2 t15 fun t16 h5 =>
        Mpu (binV .no .add t4_2 (.int .i64 1)) fun t10 =>
        k3 t16 t10 h5) (
        k1 t3_2 t4_2 h4)) ((.slice none 0 0)) ((.int .i64 0)) H) fun t3_4 t4_4 h2 =>
  R t3_4 h2
theorem sh_syngraphref03_Join_chk : fchkF prg [3, 4] Tryz.f70 1 = true := by kernel_rfl
theorem sh_syngraphref03_Join_den (t0 : Value) (H : Heap) (R : Value → Heap → Prop) : fdenF prg [3, 4] Tryz.f70 [t0] H R = sh_syngraphref03_Join t0 H R := by kernel_rfl
theorem sh_syngraphref03_Join_calls {t0 : Value} {H : Heap} {R : Value → Heap → Prop} (h : sh_syngraphref03_Join t0 H R) : HCalls prg f_syngraphref03_Join [t0] H R :=
  calls_ofF Tryz.func70 sh_syngraphref03_Join_chk (by rw [sh_syngraphref03_Join_den]; exact h)

-- syngraph/syngraphref03.Int
def sh_syngraphref03_Int (t0 : Value) (H : Heap) (R : Value → Heap → Prop) : Prop :=
  Mcall prg f_syngraphref02_Number [t0, (.int .i64 8)] H fun t4 h1 =>
  R t4 h1
theorem sh_syngraphref03_Int_chk : fchkF prg [] Tryz.f71 1 = true := by kernel_rfl
theorem sh_syngraphref03_Int_den (t0 : Value) (H : Heap) (R : Value → Heap → Prop) : fdenF prg [] Tryz.f71 [t0] H R = sh_syngraphref03_Int t0 H R := by kernel_rfl
theorem sh_syngraphref03_Int_calls {t0 : Value} {H : Heap} {R : Value → Heap → Prop} (h : sh_syngraphref03_Int t0 H R) : HCalls prg f_syngraphref03_Int [t0] H R :=
  calls_ofF Tryz.func71 sh_syngraphref03_Int_chk (by rw [sh_syngraphref03_Int_den]; exact h)

-- (*syngraph/wire.In).take
def sh_wire_In_take (t0 t1 : Value) (H : Heap) (R : Value → Heap → Prop) : Prop :=
  Mpu (nck t0) fun t7 =>
  Mpu (fld 1 t7) fun t8 =>
  Mpu (ld1 H t8) fun t9 =>
  J1 (fun k1 => Mif t9 false (
      Mpu (nck t0) fun t13 =>
      Mpu (fld 0 t13) fun t14 =>
      Mpu (ld1 H t14) fun t15 =>
      Mpu (lenV t15) fun t16 =>
      Mpu (binV .no .gtr t1 t16) fun t17 =>
      k1 t17 H) (
      k1 undef H)) fun t17_2 h2 =>
  Mpu (pickV t9 (.bool true) t17_2) fun t18 =>
  Mcd t18 (
    Mpu (nck t0) fun t20 =>
    Mpu (fld 1 t20) fun t21 =>
    Mwr (st1 h2 t21 (.bool true)) fun h3 =>
    R (.slice none 0 0) h3) (
    Mpu (nck t0) fun t23 =>
    Mpu (fld 0 t23) fun t24 =>
    Mpu (ld1 h2 t24) fun t25 =>
    Mpu (slS 1 t25 none (some t1) (some t1)) fun t28 =>
    Mpu (nck t0) fun t31 =>
    Mpu (fld 0 t31) fun t32 =>
    Mpu (ld1 h2 t32) fun t33 =>
    Mpu (slS 1 t33 (some t1) none none) fun t35 =>
    Mpu (nck t0) fun t36 =>
    Mpu (fld 0 t36) fun t37 =>
    Mwr (st1 h2 t37 t35) fun h4 =>
    R t28 h4)
theorem sh_wire_In_take_chk : fchkF prg [17] Tryz.f74 2 = true := by kernel_rfl
theorem sh_wire_In_take_den (t0 t1 : Value) (H : Heap) (R : Value → Heap → Prop) : fdenF prg [17] Tryz.f74 [t0, t1] H R = sh_wire_In_take t0 t1 H R := by kernel_rfl
theorem sh_wire_In_take_calls {t0 t1 : Value} {H : Heap} {R : Value → Heap → Prop} (h : sh_wire_In_take t0 t1 H R) : HCalls prg f_wire_In_take [t0, t1] H R :=
  calls_ofF Tryz.func74 sh_wire_In_take_chk (by rw [sh_wire_In_take_den]; exact h)

-- syngraph/wire.number
def sh_wire_number (t0 : Value) (H : Heap) (R : Value → Heap → Prop) : Prop :=
  J2 (fun k1 =>
    Mpu (lenV t0) fun t7 =>
    L2 (fun k3 => fun t3_2 t8_2 h4 =>
      Mpu (binV .no .lss t8_2 t7) fun t9 =>
      Mcd t9 (
        Mpu (ixS 1 t0 t8_2) fun t10 =>
        Mpu (ld1 h4 t10) fun t11 =>
        Mpu (binV .no .shl t3_2 (.int .u64 8)) fun t13 =>
        Mpu (cvI .u64 t11) fun t15 =>
        Mpu (binV .no .or t13 t15) fun t16 =>
        Mpu (binV .no .add t8_2 (.int .i64 1)) fun t17 =>
        k3 t16 t17 h4) (
        k1 t3_2 t8_2 h4)) ((.int .u64 0)) ((.int .i64 0)) H) fun t3_4 t8_4 h2 =>
  Mpu (cvI .i64 t3_4) fun t19 =>
  R t19 h2
theorem sh_wire_number_chk : fchkF prg [3, 8] Tryz.f75 1 = true := by kernel_rfl
theorem sh_wire_number_den (t0 : Value) (H : Heap) (R : Value → Heap → Prop) : fdenF prg [3, 8] Tryz.f75 [t0] H R = sh_wire_number t0 H R := by kernel_rfl
theorem sh_wire_number_calls {t0 : Value} {H : Heap} {R : Value → Heap → Prop} (h : sh_wire_number t0 H R) : HCalls prg f_wire_number [t0] H R :=
  calls_ofF Tryz.func75 sh_wire_number_chk (by rw [sh_wire_number_den]; exact h)

-- (*syngraph/wire.In).Count
def sh_wire_In_Count (t0 t1 t2 : Value) (H : Heap) (R : Value → Heap → Prop) : Prop :=
  Mcall prg f_wire_In_Int [t0] H fun t9 h1 =>
  Mpu (nck t0) fun t11 =>
  Mpu (fld 1 t11) fun t12 =>
  Mpu (ld1 h1 t12) fun t13 =>
  J1 (fun k2 => Mif t13 false (
      Mpu (binV .no .lss t9 t1) fun t17 =>
      k2 t17 h1) (
      k2 undef h1)) fun t17_2 h3 =>
  Mpu (pickV t13 (.bool true) t17_2) fun t18 =>
  J1 (fun k4 => Mif t18 false (
      Mpu (binV .no .gtr t9 t2) fun t22 =>
      k4 t22 h3) (
      k4 undef h3)) fun t22_2 h5 =>
  Mpu (pickV t18 (.bool true) t22_2) fun t23 =>
  Mcd t23 (
    Mpu (nck t0) fun t25 =>
    Mpu (fld 1 t25) fun t26 =>
    Mwr (st1 h5 t26 (.bool true)) fun h6 =>
    R (.int .i64 0) h6) (
    R t9 h5)
theorem sh_wire_In_Count_chk : fchkF prg [17, 22] Tryz.f76 3 = true := by kernel_rfl
theorem sh_wire_In_Count_den (t0 t1 t2 : Value) (H : Heap) (R : Value → Heap → Prop) : fdenF prg [17, 22] Tryz.f76 [t0, t1, t2] H R = sh_wire_In_Count t0 t1 t2 H R := by kernel_rfl
theorem sh_wire_In_Count_calls {t0 t1 t2 : Value} {H : Heap} {R : Value → Heap → Prop} (h : sh_wire_In_Count t0 t1 t2 H R) : HCalls prg f_wire_In_Count [t0, t1, t2] H R :=
  calls_ofF Tryz.func76 sh_wire_In_Count_chk (by rw [sh_wire_In_Count_den]; exact h)

-- (*syngraph/wire.In).Text
def sh_wire_In_Text (t0 t1 : Value) (H : Heap) (R : Value → Heap → Prop) : Prop :=
  Mcall prg f_wire_In_Bytes [t0, t1] H fun t7 h1 =>
  Mpu (b2s h1 t7) fun t8 =>
  R t8 h1
theorem sh_wire_In_Text_chk : fchkF prg [] Tryz.f77 2 = true := by kernel_rfl
theorem sh_wire_In_Text_den (t0 t1 : Value) (H : Heap) (R : Value → Heap → Prop) : fdenF prg [] Tryz.f77 [t0, t1] H R = sh_wire_In_Text t0 t1 H R := by kernel_rfl
theorem sh_wire_In_Text_calls {t0 t1 : Value} {H : Heap} {R : Value → Heap → Prop} (h : sh_wire_In_Text t0 t1 H R) : HCalls prg f_wire_In_Text [t0, t1] H R :=
  calls_ofF Tryz.func77 sh_wire_In_Text_chk (by rw [sh_wire_In_Text_den]; exact h)

-- syngraph/syngraphref03.Text
def sh_syngraphref03_Text (t0 : Value) (H : Heap) (R : Value → Heap → Prop) : Prop :=
  Ms2b T_uint8 H t0 fun t4 h1 =>
  Mcall prg f_syngraphref03_Bytes [t4] h1 fun t5 h2 =>
  R t5 h2
theorem sh_syngraphref03_Text_chk : fchkF prg [] Tryz.f96 1 = true := by kernel_rfl
theorem sh_syngraphref03_Text_den (t0 : Value) (H : Heap) (R : Value → Heap → Prop) : fdenF prg [] Tryz.f96 [t0] H R = sh_syngraphref03_Text t0 H R := by kernel_rfl
theorem sh_syngraphref03_Text_calls {t0 : Value} {H : Heap} {R : Value → Heap → Prop} (h : sh_syngraphref03_Text t0 H R) : HCalls prg f_syngraphref03_Text [t0] H R :=
  calls_ofF Tryz.func96 sh_syngraphref03_Text_chk (by rw [sh_syngraphref03_Text_den]; exact h)

-- syngraph/syngraphref02.Number
def sh_syngraphref02_Number (t0 t1 : Value) (H : Heap) (R : Value → Heap → Prop) : Prop :=
  Mmks prg H T_uint8 t1 t1 fun t8 h1 =>
  J2 (fun k2 =>
    Mpu (binV .no .sub t1 (.int .i64 1)) fun t10 =>
    L2 (fun k4 => fun t0_2 t6_2 h5 =>
      Mpu (binV .no .geq t6_2 (.int .i64 0)) fun t12 =>
      Mcd t12 (
        Mpu (cvI .u8 t0_2) fun t18 =>
        Mpu (ixS 1 t8 t6_2) fun t19 =>
        Mwr (st1 h5 t19 t18) fun h6 =>
        Mpu (binV .no .shr t0_2 (.int .u64 8)) fun t21 =>
        Mpu (binV .no .sub t6_2 (.int .i64 1)) fun t14 =>
        k4 t21 t14 h6) (
        k2 t0_2 t6_2 h5)) (t0) (t10) h1) fun t0_4 t6_4 h3 =>
  R t8 h3
theorem sh_syngraphref02_Number_chk : fchkF prg [0, 6] Tryz.f98 2 = true := by kernel_rfl
theorem sh_syngraphref02_Number_den (t0 t1 : Value) (H : Heap) (R : Value → Heap → Prop) : fdenF prg [0, 6] Tryz.f98 [t0, t1] H R = sh_syngraphref02_Number t0 t1 H R := by kernel_rfl
theorem sh_syngraphref02_Number_calls {t0 t1 : Value} {H : Heap} {R : Value → Heap → Prop} (h : sh_syngraphref02_Number t0 t1 H R) : HCalls prg f_syngraphref02_Number [t0, t1] H R :=
  calls_ofF Tryz.func98 sh_syngraphref02_Number_chk (by rw [sh_syngraphref02_Number_den]; exact h)

end Go.Proofs.YtmhfanpijdgkjaaGreatDoor
/- PRINTED: clean texts -/
namespace Go.Proofs.YtmhfanpijdgkjaaGreatDoor
open Go.X
set_option maxRecDepth 100000
-- (*syngraph/wire.In).Bytes
def sh_wire_In_Bytes (t0 t1 : Value) (H : Heap) (R : Value → Heap → Prop) : Prop :=
  Mcall prg f_wire_In_count [t0, t1, (.int .i64 1)] H fun t8 h1 =>
  Mcall prg f_wire_In_take [t0, t8] h1 fun t9 h2 =>
  R t9 h2
theorem sh_wire_In_Bytes_chk : fchkF prg [] Tryz.f100 2 = true := by kernel_rfl
theorem sh_wire_In_Bytes_den (t0 t1 : Value) (H : Heap) (R : Value → Heap → Prop) : fdenF prg [] Tryz.f100 [t0, t1] H R = sh_wire_In_Bytes t0 t1 H R := by kernel_rfl
theorem sh_wire_In_Bytes_calls {t0 t1 : Value} {H : Heap} {R : Value → Heap → Prop} (h : sh_wire_In_Bytes t0 t1 H R) : HCalls prg f_wire_In_Bytes [t0, t1] H R :=
  calls_ofF Tryz.func100 sh_wire_In_Bytes_chk (by rw [sh_wire_In_Bytes_den]; exact h)

-- syngraph/syngraphref03.Bytes
def sh_syngraphref03_Bytes (t0 : Value) (H : Heap) (R : Value → Heap → Prop) : Prop :=
  Mpu (lenV t0) fun t4 =>
  Mcall prg f_syngraphref03_Count [t4] H fun t5 h1 =>
  Mapp T_uint8 1 1 h1 t5 t0 fun t7 h2 =>
  R t7 h2
theorem sh_syngraphref03_Bytes_chk : fchkF prg [] Tryz.f128 1 = true := by kernel_rfl
theorem sh_syngraphref03_Bytes_den (t0 : Value) (H : Heap) (R : Value → Heap → Prop) : fdenF prg [] Tryz.f128 [t0] H R = sh_syngraphref03_Bytes t0 H R := by kernel_rfl
theorem sh_syngraphref03_Bytes_calls {t0 : Value} {H : Heap} {R : Value → Heap → Prop} (h : sh_syngraphref03_Bytes t0 H R) : HCalls prg f_syngraphref03_Bytes [t0] H R :=
  calls_ofF Tryz.func128 sh_syngraphref03_Bytes_chk (by rw [sh_syngraphref03_Bytes_den]; exact h)

-- (*syngraph/wire.In).count
def sh_wire_In_count (t0 t1 t2 : Value) (H : Heap) (R : Value → Heap → Prop) : Prop :=
  Mcall prg f_wire_In_take [t0, (.int .i64 4)] H fun t10 h1 =>
  Mpu (nck t0) fun t12 =>
  Mpu (fld 1 t12) fun t13 =>
  Mpu (ld1 h1 t13) fun t14 =>
  Mcd t14 (
    R (.int .i64 0) h1) (
    Mcall prg f_wire_number [t10] h1 fun t16 h2 =>
    Mpu (binV .no .gtr t16 t1) fun t19 =>
    J1 (fun k3 => Mif t19 false (
        Mpu (nck t0) fun t23 =>
        Mpu (fld 0 t23) fun t24 =>
        Mpu (ld1 h2 t24) fun t25 =>
        Mpu (lenV t25) fun t26 =>
        Mpu (binV .no .quo t26 t2) fun t28 =>
        Mpu (binV .no .gtr t16 t28) fun t29 =>
        k3 t29 h2) (
        k3 undef h2)) fun t29_2 h4 =>
    Mpu (pickV t19 (.bool true) t29_2) fun t30 =>
    Mcd t30 (
      Mpu (nck t0) fun t32 =>
      Mpu (fld 1 t32) fun t33 =>
      Mwr (st1 h4 t33 (.bool true)) fun h5 =>
      R (.int .i64 0) h5) (
      R t16 h4))
theorem sh_wire_In_count_chk : fchkF prg [29] Tryz.f130 3 = true := by kernel_rfl
theorem sh_wire_In_count_den (t0 t1 t2 : Value) (H : Heap) (R : Value → Heap → Prop) : fdenF prg [29] Tryz.f130 [t0, t1, t2] H R = sh_wire_In_count t0 t1 t2 H R := by kernel_rfl
theorem sh_wire_In_count_calls {t0 t1 t2 : Value} {H : Heap} {R : Value → Heap → Prop} (h : sh_wire_In_count t0 t1 t2 H R) : HCalls prg f_wire_In_count [t0, t1, t2] H R :=
  calls_ofF Tryz.func130 sh_wire_In_count_chk (by rw [sh_wire_In_count_den]; exact h)

-- syngraph/syngraphref03.Count
def sh_syngraphref03_Count (t0 : Value) (H : Heap) (R : Value → Heap → Prop) : Prop :=
  Mcall prg f_syngraphref02_Number [t0, (.int .i64 4)] H fun t4 h1 =>
  R t4 h1
theorem sh_syngraphref03_Count_chk : fchkF prg [] Tryz.f147 1 = true := by kernel_rfl
theorem sh_syngraphref03_Count_den (t0 : Value) (H : Heap) (R : Value → Heap → Prop) : fdenF prg [] Tryz.f147 [t0] H R = sh_syngraphref03_Count t0 H R := by kernel_rfl
theorem sh_syngraphref03_Count_calls {t0 : Value} {H : Heap} {R : Value → Heap → Prop} (h : sh_syngraphref03_Count t0 H R) : HCalls prg f_syngraphref03_Count [t0] H R :=
  calls_ofF Tryz.func147 sh_syngraphref03_Count_chk (by rw [sh_syngraphref03_Count_den]; exact h)

end Go.Proofs.YtmhfanpijdgkjaaGreatDoor
/- slices of versions: Clone, DeleteFunc, MaxFunc; Best. -/
namespace Go.Proofs.YtmhfanpijdgkjaaGreatDoor
open Go.X Go.X.Diff
set_option maxRecDepth 100000

theorem flat_set {n i : Nat} {xs : List (List Value)} {x : List Value} (h : ∀ x ∈ xs, x.length = n) (hi : i < xs.length) : (xs.set i x).flatten = xs.flatten.take (i * n) ++ x ++ xs.flatten.drop ((i + 1) * n) := by
  rw [List.set_eq_take_append_cons_drop, if_pos hi, List.flatten_append, List.flatten_cons, flat_take h, flat_drop h, List.append_assoc]
/-- v[i] = x, of an owned slice -/
theorem _root_.Go.X.BufE.set {n : Nat} {F : Nat → Prop} {H : Heap} {v : Value} {xs : List (List Value)} (h : BufE n F H v xs) {i : Nat} (hi : i < xs.length) {x : List Value} (hx : x.length = n) (h1 : ∀ c ∈ x, c.oneCell' = true) :
    ∃ p H', (∀ k, ixS n v (.int k i) = some p) ∧ stN n H p (.agg x.toArray) = some H' ∧ BufE n F H' v (xs.set i x) ∧ Keep F H H' := by
  obtain ⟨g1, g2, h | ⟨b, o, c, cs, T, f, rfl, hf, hc, hb, hle, ht, hl⟩⟩ := h
  · obtain ⟨rfl, rfl⟩ := h; simp at hi
  · have hn1 : i * n + n = (i + 1) * n := by rw [Nat.succ_mul]
    have hn2 : (i + 1) * n ≤ xs.length * n := Nat.mul_le_mul_right n hi
    have hn3 : xs.length * n ≤ c * n := Nat.mul_le_mul_right n hc
    have hsz : o + i * n + x.toArray.size ≤ cs.size := by simp only [List.size_toArray, hx]; omega
    refine ⟨Ptr b (o + i * n), _, fun k => ?_, by simp only [stN]; rw [if_pos (by simpa using hx)]; exact stA_at hb _ _ (ht _ _) hsz (all_of h1), ⟨?_, ?_, .inr ⟨b, o, c, _, T, f, by simp, hf, by simpa using hc, set_self hb, ?_, ht, ?_⟩⟩, Keep.set hf⟩
    · simp only [ixS]; rw [if_pos ⟨by omega, by omega⟩]; rfl
    · intro y hy
      rcases List.mem_or_eq_of_mem_set hy with hy | rfl
      · exact g1 y hy
      · exact hx
    · intro y hy
      rcases List.mem_or_eq_of_mem_set hy with hy | rfl
      · exact g2 y hy
      · exact h1
    · rw [spl_size hsz]; exact hle
    · rw [List.length_set, flat_set g1 hi, ← hl]
      unfold spl
      have hlo : o + i * n ≤ cs.toList.length := by simp; omega
      have e1 : (List.take (o + i * n) cs.toList).drop o = (cs.toList.drop o).take (i * n) := by rw [List.drop_take, Nat.add_sub_cancel_left]
      have e2 : cs.toList.drop (o + i * n + x.toArray.size) = (cs.toList.drop o).drop ((i + 1) * n) := by
        rw [List.drop_drop]; congr 1; simp only [List.size_toArray, hx]; omega
      show ((List.take (o + i * n) cs.toList ++ x ++ cs.toList.drop (o + i * n + x.toArray.size)).drop o).take (xs.length * n) = _
      rw [List.append_assoc, List.drop_append_of_le_length (by simp; omega), e1, e2]
      generalize hL : cs.toList.drop o = L
      have hLl : xs.length * n ≤ L.length := by rw [← hL]; simp; omega
      have hA : (L.take (i * n) ++ x).length = (i + 1) * n := by rw [List.length_append, List.length_take, hx]; omega
      rw [← List.append_assoc, List.take_append, hA, List.take_of_length_le (by omega), List.take_take, Nat.min_eq_left (by omega), List.drop_take]

def Vers (P : Nat → Prop) (H : Heap) (v : Value) (xs : List Ver) : Prop := SlE 4 P H v (xs.map verC) ∧ ∀ x ∈ xs, x.wf
theorem Vers.keep {P S : Nat → Prop} {H H' : Heap} {v : Value} {xs : List Ver} (h : Vers P H v xs) (k : Keep S H H') (hs : ∀ b, P b → ¬ S b) : Vers P H' v xs := ⟨h.1.keep k hs, h.2⟩
theorem Vers.len {P : Nat → Prop} {H : Heap} {v : Value} {xs : List Ver} (h : Vers P H v xs) : lenV v = some (.int .i64 xs.length) := by have := h.1.len; simpa using this
theorem Vers.at {P : Nat → Prop} {H : Heap} {v : Value} {xs : List Ver} (h : Vers P H v xs) {i : Nat} {x : Ver} (hi : xs[i]? = some x) : x.wf ∧ ∃ b o, (∀ k, ixS 4 v (.int k i) = some (Ptr b o)) ∧ Pt H b o (verC x) ∧ P b :=
  ⟨h.2 x (List.mem_of_getElem? hi), h.1.at (x := verC x) (by rw [List.getElem?_map, hi]; rfl)⟩
/-- an owned slice of versions -/
def VBuf (F : Nat → Prop) (H : Heap) (v : Value) (xs : List Ver) : Prop := BufE 4 F H v (xs.map verC) ∧ ∀ x ∈ xs, x.wf
theorem VBuf.vers {F : Nat → Prop} {H : Heap} {v : Value} {xs : List Ver} (h : VBuf F H v xs) : Vers F H v xs := ⟨h.1.sl, h.2⟩
theorem VBuf.keep {F S : Nat → Prop} {H H' : Heap} {v : Value} {xs : List Ver} (h : VBuf F H v xs) (k : Keep S H H') (hs : ∀ b, F b → ¬ S b) : VBuf F H' v xs := ⟨h.1.keep k hs, h.2⟩
theorem VBuf.set {F : Nat → Prop} {H : Heap} {v : Value} {xs : List Ver} (h : VBuf F H v xs) {i : Nat} (hi : i < xs.length) {x : Ver} (hx : x.wf) :
    ∃ p H', (∀ k, ixS 4 v (.int k i) = some p) ∧ stN 4 H p (.agg (verC x).toArray) = some H' ∧ VBuf F H' v (xs.set i x) ∧ Keep F H H' := by
  obtain ⟨p, H', h1, h2, h3, h4⟩ := h.1.set (i := i) (by simpa using hi) (verC_len hx) verC_one
  refine ⟨p, H', h1, h2, ⟨by rw [List.map_set]; exact h3, fun y hy => ?_⟩, h4⟩
  rcases List.mem_or_eq_of_mem_set hy with hy | rfl
  · exact h.2 y hy
  · exact hx
/-- v[:i] of an owned slice -/
theorem VBuf.cut {F : Nat → Prop} {H : Heap} {v : Value} {xs : List Ver} (h : VBuf F H v xs) {i : Nat} (hi : i ≤ xs.length) (hne : xs ≠ []) : ∃ u, slS 4 v none (some (.int .i64 (i : Nat))) none = some u ∧ Vers F H u (xs.take i) := by
  obtain ⟨u, h1, h2⟩ := h.1.sl.cut (lo := 0) (hi := i) (l := none) (r := some (.int .i64 (i : Nat))) (by simpa using hne) (Nat.zero_le _) (by simpa using hi) rfl (fun c hc => by
    simp at hc
    simp only [bnd]; rw [if_pos ⟨by omega, by omega⟩]; rfl)
  refine ⟨u, h1, by rw [List.map_take]; simpa using h2, fun x hx => h.2 x (List.mem_of_mem_take hx)⟩
/-- clear(v[i:]): what lies ahead of i stays -/
theorem VBuf.clear {F : Nat → Prop} {H : Heap} {v : Value} {xs : List Ver} (h : VBuf F H v xs) {i : Nat} (hi : i ≤ xs.length) (hne : xs ≠ []) {k : Value → Heap → Prop}
    (hk : ∀ H' ys, VBuf F H' v ys → ys.length = xs.length → ys.take i = xs.take i → Keep F H H' → k (.tuple #[]) H') :
    ∃ u, slS 4 v (some (.int .i64 (i : Nat))) none none = some u ∧ Msem prg (Builtin.clear_ #[T_S_version_Version] 0 #[u]) H k := by
  have hu : prg.underlying T_S_version_Version = some (.slice T_version_Version) := by kernel_rfl
  obtain ⟨⟨g1, g2, h0 | ⟨b, o, c, cs, T, f, rfl, hf, hc, hb, hle, ht, hl⟩⟩, hw⟩ := h
  · obtain ⟨rfl, h0⟩ := h0; exact absurd (by simpa using h0) hne
  simp only [List.length_map] at hc hl
  refine ⟨.slice (some ⟨b, if c = i then o else o + i * 4, none⟩) (xs.length - i) (c - i), ?_, ?_⟩
  · have hbn : bnds xs.length c (some (.int .i64 (i : Nat))) none none = some (i, xs.length, c) := by
      unfold bnds
      rw [show bnd c c none = some c from rfl]
      have e1 : bnd 0 xs.length (some (.int .i64 (i : Nat))) = some i := by simp only [bnd]; rw [if_pos ⟨by omega, by omega⟩]; rfl
      simp only [Option.bind_some, show bnd xs.length c none = some xs.length from rfl, e1, Option.map_some]
    simp [slS, hbn]
  · intro w hwH
    by_cases hi0 : xs.length - i = 0
    · refine ⟨.tuple #[], w, ?_, Same.rfl' w, ?_⟩
      · rw [hi0]; simp [Builtin.clear_, run_und hu]
      · rw [hwH]
        exact hk H xs ⟨⟨g1, g2, .inr ⟨b, o, c, cs, T, f, by simp, hf, by simpa using hc, hb, hle, ht, by simpa using hl⟩⟩, hw⟩ rfl rfl Keep.refl
    · have hci : ¬ c = i := by omega
      rw [if_neg hci]
      obtain ⟨z, hz, hzc⟩ := zero_run (P := prg) (w := w) z_VV
      let zs : List Ver := List.replicate (xs.length - i) zeroV
      have hzl : (Builtin.zeroCells z.cells (xs.length - i)).toList = (zs.map verC).flatten := by
        rw [hzc]
        show ((Array.range ((xs.length - i) * 4)).map fun j => (verC zeroV).toArray[j % 4]!).toList = _
        have hg : ∀ m : Nat, ((List.range (m * 4)).map fun j => (verC zeroV).toArray[j % 4]!) = ((List.replicate m zeroV).map verC).flatten := by
          intro m
          induction m with
          | zero => rfl
          | succ m ih =>
            rw [Nat.succ_mul, List.range_add, List.map_append, ih, List.replicate_succ', List.map_append, List.flatten_append]
            congr 1
            simp only [List.map_map, List.range_succ, List.range_zero, List.nil_append, List.map_append, List.map_cons, List.map_nil, Function.comp]
            have e : ∀ q : Nat, (m * 4 + q) % 4 = q % 4 := fun q => by omega
            simp only [e]
            rfl
        have := hg (xs.length - i)
        simpa [zs] using this
      have hlen : ((zs.map verC).flatten).length = (xs.length - i) * 4 := by
        rw [flat_len (n := 4) (fun x hx => by obtain ⟨y, hy, rfl⟩ := List.mem_map.1 hx; rw [List.eq_of_mem_replicate hy]; rfl)]; simp [zs]
      have hall : ((zs.map verC).flatten).toArray.all (·.oneCell') = true := all_of fun v hv => by
        simp only [List.mem_flatten, List.mem_map] at hv
        obtain ⟨l, ⟨y, _, rfl⟩, hv⟩ := hv
        exact verC_one v hv
      have hsz : o + i * 4 + ((zs.map verC).flatten).toArray.size ≤ cs.size := by simp only [List.size_toArray, hlen]; omega
      have hst0 := stA_at hb (o + i * 4) ((zs.map verC).flatten).toArray (ht _ _) hsz hall
      have hrun := stA_run (P := prg) (w := w) (by rw [hwH]; exact hst0)
      refine ⟨.tuple #[], { w with heap := H.setIfInBounds b (.cells (spl cs (o + i * 4) ((zs.map verC).flatten).toArray) T f) }, ?_, ⟨rfl, rfl, rfl, ?_⟩, ?_⟩
      · obtain ⟨m, hm⟩ : ∃ m, xs.length - i = m + 1 := ⟨xs.length - i - 1, by omega⟩
        have hrun' := hrun
        rw [show ((zs.map verC).flatten).toArray.toList = (Builtin.zeroCells z.cells (xs.length - i)).toList from hzl.symm] at hrun'
        rw [hm] at hrun' ⊢
        simp [Builtin.clear_, run_und hu, hz, hrun']
      · rw [hwH]; exact Solid.set hb
      · show k (.tuple #[]) (H.setIfInBounds b _)
        refine hk _ (xs.take i ++ zs) ⟨⟨?_, ?_, .inr ⟨b, o, c, _, T, f, ?_, hf, by simp [zs]; omega, set_self hb, by rw [spl_size hsz]; exact hle, ht, ?_⟩⟩, ?_⟩ (by simp [zs]; omega) ?_ (Keep.set hf)
        · intro y hy
          obtain ⟨x, hx, rfl⟩ := List.mem_map.1 hy
          rcases List.mem_append.1 hx with hx | hx
          · exact verC_len (hw x (List.mem_of_mem_take hx))
          · rw [List.eq_of_mem_replicate hx]; rfl
        · intro y hy
          obtain ⟨x, hx, rfl⟩ := List.mem_map.1 hy
          exact verC_one
        · simp only [List.length_map, List.length_append, List.length_take, zs, List.length_replicate]
          congr 1; omega
        · have hl2 : ((xs.take i ++ zs).map verC).length = xs.length := by simp [zs]; omega
          rw [hl2, List.map_append, List.flatten_append, List.map_take, flat_take g1, ← hl]
          unfold spl
          have hlo : o + i * 4 ≤ cs.toList.length := by simp; omega
          have e1 : (List.take (o + i * 4) cs.toList).drop o = (cs.toList.drop o).take (i * 4) := by rw [List.drop_take, Nat.add_sub_cancel_left]
          show ((List.take (o + i * 4) cs.toList ++ (zs.map verC).flatten ++ _).drop o).take (xs.length * 4) = _
          have hLl : xs.length * 4 ≤ (cs.toList.drop o).length := by simp; omega
          rw [List.append_assoc, List.drop_append_of_le_length (by simp; omega), e1, ← List.append_assoc, List.take_append_of_le_length (by rw [List.length_append, List.length_take, hlen]; omega), List.take_of_length_le (by rw [List.length_append, List.length_take, hlen]; omega), List.take_take, Nat.min_eq_left (by omega)]
        · intro x hx
          rcases List.mem_append.1 hx with hx | hx
          · exact hw x (List.mem_of_mem_take hx)
          · rw [List.eq_of_mem_replicate hx]; exact zeroV_wf
        · rw [List.take_append_of_le_length (by simp; omega), List.take_take, Nat.min_self]
end Go.Proofs.YtmhfanpijdgkjaaGreatDoor
/- Best, and the walk of VersionBest. -/
namespace Go.Proofs.YtmhfanpijdgkjaaGreatDoor
open Go.X Go.X.Diff
set_option maxRecDepth 100000

def fitOk (w : Want) (v : Ver) : Bool := wantOk w && verOk v && fitsF w.op w.ver v
/-- which is to be deleted? -/
def Del (fv : Value) (del : Ver → Bool) (G : Heap → Prop) : Prop := ∀ (v : Ver) (h : Heap), v.wf → G h → Mcallv prg fv [.agg (verC v).toArray] h fun u h' => u = .bool (del v) ∧ Keep (fun _ => False) h h'

theorem c_IndexFunc {G : Heap → Prop} {P : Nat → Prop} {H : Heap} {v fv : Value} {xs : List Ver} {del : Ver → Bool} (hv : Vers P H v xs) (hd : Del fv del G) (hG : ∀ h, Keep (fun _ => False) H h → G h) (hl : xs.length ≤ 1048576) :
    HCalls prg f_slices_IndexFunc_S_version_Version_version_Version [v, fv] H fun u H' => Keep (fun _ => False) H H' ∧ ((u = .int .i64 (-1) ∧ ∀ x ∈ xs, del x = false) ∨ ∃ i : Nat, u = .int .i64 (i : Nat) ∧ i < xs.length ∧ (∀ x ∈ xs.take i, del x = false) ∧ ∃ x, xs[i]? = some x ∧ del x = true) := by
  apply sh_slices_IndexFunc_S_version_Version_version_Version_calls
  unfold sh_slices_IndexFunc_S_version_Version_version_Version
  refine J1_i (fun _ h => (∀ x ∈ xs, del x = false) ∧ Keep (fun _ => False) H h) (fun k1 hk1 => ?_) ?_
  · rw [hv.len, Mpu_some]
    refine L1_i (fun u h => ∃ i : Nat, i ≤ xs.length ∧ u = .int .i64 (i : Nat) ∧ (∀ x ∈ xs.take i, del x = false) ∧ Keep (fun _ => False) H h) (fun u _ => match u with | .int _ t => xs.length - t.toNat | _ => 0) ⟨0, Nat.zero_le _, rfl, by simp, Keep.refl⟩ ?_
    rintro _ h ⟨i, hi, rfl, hno, kh⟩ k hk
    have elt : binV .no .lss (.int .i64 (i : Nat)) (.int .i64 (xs.length : Nat)) = some (.bool (decide (i < xs.length))) := by
      rw [binV_int]; simp only [intV]; congr 2; rw [decide_eq_decide]; omega
    rw [elt, Mpu_some, Mcd_bool]
    by_cases hlt : i < xs.length
    · rw [if_pos (by simpa using hlt)]
      have hg : xs[i]? = some xs[i] := List.getElem?_eq_getElem hlt
      generalize xs[i] = x at hg
      obtain ⟨wx, b, o, hix, hpt, _⟩ := (hv.keep kh fun _ _ => id).at hg
      rw [hix, Mpu_some, hpt.agg (verC_len wx), Mpu_some]
      refine (hd x h wx (hG h kh)).mono ?_
      rintro _ h5 ⟨rfl, k5⟩
      cases hdx : del x <;> simp only [unV_not, Bool.not_true, Bool.not_false, Mif_bool, Mif_undef, pickV_bool, Mcd_bool, Mpu_some, if_true, if_false, Bool.false_eq_true, Bool.true_eq_false, decide_true, decide_false, reduceCtorEq, ex20, ex21, ex30, ex31, ex32, Mre_ok, Mre_nil]
      · rw [add_one' (by omega), Mpu_some]
        refine hk _ _ ⟨i + 1, by omega, rfl, fun t ht => ?_, kh.trans k5⟩ (by show xs.length - (i + 1) < xs.length - i; omega)
        rw [List.take_add_one, hg] at ht
        rcases List.mem_append.1 ht with ht | ht
        · exact hno t ht
        · obtain rfl : t = x := by simpa using ht
          exact hdx
      · exact ⟨kh.trans k5, .inr ⟨i, rfl, hlt, hno, x, hg, hdx⟩⟩
    · rw [if_neg (by simpa using hlt)]
      rw [List.take_of_length_le (by omega)] at hno
      exact hk1 _ _ ⟨hno, kh⟩
  rintro _ h ⟨hno, kh⟩
  exact ⟨kh, .inl ⟨rfl, hno⟩⟩

theorem filter_all {xs : List Ver} {del : Ver → Bool} (h : ∀ x ∈ xs, del x = false) : xs.filter (fun x => !del x) = xs := by
  rw [List.filter_eq_self]; intro x hx; rw [h x hx]; rfl

/-- the versions that stay -/
theorem c_DeleteFunc {m : Nat} {G : Heap → Prop} {H : Heap} {v fv : Value} {xs : List Ver} {del : Ver → Bool} (hv : VBuf (m ≤ ·) H v xs) (hd : Del fv del G) (hG : ∀ h, Keep (m ≤ ·) H h → G h) (hm : m ≤ H.size) (hl : xs.length ≤ 1048576) :
    HCalls prg f_slices_DeleteFunc_S_version_Version_version_Version [v, fv] H fun u H' => Vers (m ≤ ·) H' u (xs.filter fun x => !del x) ∧ Keep (m ≤ ·) H H' := by
  apply sh_slices_DeleteFunc_S_version_Version_version_Version_calls
  unfold sh_slices_DeleteFunc_S_version_Version_version_Version
  refine call_i (c_IndexFunc hv.vers hd (fun h k => hG h (k.mono fun _ _ h => h.elim)) hl) ?_
  rintro _ h1 ⟨k1, hR⟩
  have hv1 := hv.keep k1 fun _ _ => id
  have k1' : Keep (m ≤ ·) H h1 := k1.mono fun _ _ h => h.elim
  rcases hR with ⟨rfl, hno⟩ | ⟨i0, rfl, hi0, hno, x0, hg0, hd0⟩
  · have e1 : binV .no .eql (.int .i64 (-1)) (.int .i64 (-1)) = some (.bool true) := rfl
    simp only [e1, unV_not, Bool.not_true, Bool.not_false, Mif_bool, Mif_undef, pickV_bool, Mcd_bool, Mpu_some, if_true, if_false, Bool.false_eq_true, Bool.true_eq_false, decide_true, decide_false, reduceCtorEq, ex20, ex21, ex30, ex31, ex32, Mre_ok, Mre_nil]
    rw [filter_all hno]
    exact ⟨hv1.vers, k1'⟩
  · have e1 : binV .no .eql (.int .i64 (i0 : Nat)) (.int .i64 (-1)) = some (.bool false) := by
      have hne1 : ((i0 : Nat) : Int) ≠ -1 := by omega
      rw [binV_int]; simp only [intV]; rw [beq_eq_false_iff_ne.2 hne1]
    simp only [e1, unV_not, Bool.not_true, Bool.not_false, Mif_bool, Mif_undef, pickV_bool, Mcd_bool, Mpu_some, if_true, if_false, Bool.false_eq_true, Bool.true_eq_false, decide_true, decide_false, reduceCtorEq, ex20, ex21, ex30, ex31, ex32, Mre_ok, Mre_nil]
    have hne : xs ≠ [] := by rintro rfl; simp at hi0
    refine J2_i (fun t5 _ h => ∃ (i : Nat) (ys : List Ver), t5 = .int .i64 (i : Nat) ∧ i ≤ xs.length ∧ ys.length = xs.length ∧ VBuf (m ≤ ·) h v ys ∧ ys.take i = xs.filter (fun x => !del x) ∧ Keep (m ≤ ·) H h) (fun k2 hk2 => ?_) ?_
    · rw [add_one' (by omega), Mpu_some]
      refine L2_i (fun t5 t6 h => ∃ (i j : Nat) (ys : List Ver), t5 = .int .i64 (i : Nat) ∧ t6 = .int .i64 (j : Nat) ∧ i < j ∧ j ≤ xs.length ∧ ys.length = xs.length ∧ VBuf (m ≤ ·) h v ys ∧ ys.take i = (xs.take j).filter (fun x => !del x) ∧ ys.drop j = xs.drop j ∧ Keep (m ≤ ·) H h)
        (fun _ u _ => match u with | .int _ t => xs.length - t.toNat | _ => 0) ⟨i0, i0 + 1, xs, rfl, rfl, by omega, by omega, rfl, hv1, ?_, rfl, k1'⟩ ?_
      · rw [List.take_add_one, hg0, List.filter_append, filter_all hno]
        simp [hd0]
      rintro _ _ h ⟨i, j, ys, rfl, rfl, hij, hj, hyl, hys, htk, hdr, kh⟩ k hk
      have elt : binV .no .lss (.int .i64 (j : Nat)) (.int .i64 (xs.length : Nat)) = some (.bool (decide (j < xs.length))) := by
        rw [binV_int]; simp only [intV]; congr 2; rw [decide_eq_decide]; omega
      have hylen := hys.vers.len
      rw [hyl] at hylen
      rw [hylen, Mpu_some, elt, Mpu_some, Mcd_bool]
      by_cases hlt : j < xs.length
      · rw [if_pos (by simpa using hlt)]
        have hg : xs[j]? = some xs[j] := List.getElem?_eq_getElem hlt
        generalize xs[j] = x at hg
        have hgy : ys[j]? = some x := by
          have := congrArg (·[0]?) hdr
          simp only [List.getElem?_drop, Nat.add_zero] at this
          rw [this, hg]
        obtain ⟨wx, b, o, hix, hpt, _⟩ := hys.vers.at hgy
        have htk1 : xs.take (j + 1) = xs.take j ++ [x] := by rw [List.take_add_one, hg]; rfl
        have hdr1 : ys.drop (j + 1) = xs.drop (j + 1) := by
          have := congrArg (List.drop 1) hdr
          rwa [List.drop_drop, List.drop_drop] at this
        refine J1_i (fun t5 h => ∃ (i' : Nat) (ys : List Ver), t5 = .int .i64 (i' : Nat) ∧ i' < j + 1 ∧ ys.length = xs.length ∧ VBuf (m ≤ ·) h v ys ∧ ys.take i' = (xs.take (j + 1)).filter (fun x => !del x) ∧ ys.drop (j + 1) = xs.drop (j + 1) ∧ Keep (m ≤ ·) H h) (fun k6 hk6 => ?_) ?_
        · rw [hix, Mpu_some, hpt.agg (verC_len wx), Mpu_some, z_VV, Mnew_some]
          generalize hH8 : h.push (.cells (verC ⟨[0, 0, 0], []⟩).toArray T_version_Version (0, 0)) = h8
          have k8 : Keep (fun _ => False) h h8 := by rw [← hH8]; exact Keep.push
          have a8 : At h8 h.size (verC zeroV) := by rw [← hH8]; exact At.push
          obtain ⟨h9, st9, a9, k9⟩ := a8.st (n := 4) (ds := verC x) (verC_len zeroV_wf) (verC_len wx) verC_one
          have q := kh.1
          have k09 : Keep (m ≤ ·) H h9 := kh.trans ((k8.mono fun _ _ h => h.elim).trans (k9.mono fun b _ hb => by omega))
          have k89 : Keep (fun b => b = h.size) h h9 := (k8.mono fun _ _ h => h.elim).trans k9
          have hys9 : VBuf (m ≤ ·) h9 v ys := by
            have e := hys.1
            refine ⟨?_, hys.2⟩
            obtain ⟨g1, g2, g3⟩ := e
            rcases g3 with g3 | ⟨b', o', c', cs, T, f, e1, hf, hc, hb, hr⟩
            · exact ⟨g1, g2, .inl g3⟩
            · exact ⟨g1, g2, .inr ⟨b', o', c', cs, T, f, e1, hf, hc, k89.at hb (by have := lt_of hb; omega), hr⟩⟩
          rw [show (Value.pointer (some ⟨h.size, 0, none⟩)) = Ptr h.size 0 from rfl, st9, Mwr_some, ver_ld4 a9 wx, Mpu_some]
          refine (hd x h9 wx (hG h9 k09)).mono ?_
          rintro _ h10 ⟨rfl, k10⟩
          have a10 := a9.keep k10 id
          have hys10 := hys9.keep k10 fun _ _ => id
          have k010 : Keep (m ≤ ·) H h10 := k09.trans (k10.mono fun _ _ h => h.elim)
          cases hdx : del x <;> simp only [unV_not, Bool.not_true, Bool.not_false, Mif_bool, Mif_undef, pickV_bool, Mcd_bool, Mpu_some, if_true, if_false, Bool.false_eq_true, Bool.true_eq_false, decide_true, decide_false, reduceCtorEq, ex20, ex21, ex30, ex31, ex32, Mre_ok, Mre_nil]
          · obtain ⟨p, h11, hixp, st11, hys11, k11⟩ := hys10.set (i := i) (by omega) wx
            rw [ver_ld4 a10 wx, Mpu_some, hixp, Mpu_some, st11, Mwr_some, add_one' (by omega), Mpu_some]
            refine hk6 _ _ ⟨i + 1, ys.set i x, rfl, by omega, by simpa using hyl, hys11, ?_, ?_, k010.trans k11⟩
            · rw [htk1, List.filter_append, ← htk, List.take_add_one, List.getElem?_set_self (by omega), List.take_set_of_le (by omega)]
              simp [hdx]
            · rw [List.drop_set_of_lt (by omega)]; exact hdr1
          · refine hk6 _ _ ⟨i, ys, rfl, by omega, hyl, hys10, ?_, hdr1, k010⟩
            rw [htk1, List.filter_append, ← htk]
            simp [hdx]
        · rintro _ h' ⟨i', ys', rfl, hi', hyl', hys', htk', hdr', kh'⟩
          rw [add_one' (by omega), Mpu_some]
          exact hk _ _ _ ⟨i', j + 1, ys', rfl, rfl, hi', by omega, hyl', hys', htk', hdr', kh'⟩ (by show xs.length - (j + 1) < xs.length - j; omega)
      · rw [if_neg (by simpa using hlt)]
        rw [List.take_of_length_le (l := xs) (by omega)] at htk
        exact hk2 _ _ _ ⟨i, ys, rfl, by omega, hyl, hys, htk, kh⟩
    rintro _ _ h ⟨i, ys, rfl, hi, hyl, hys, htk, kh⟩
    have hyne : ys ≠ [] := by rintro rfl; simp at hyl; exact hne (List.length_eq_zero_iff.1 hyl.symm)
    obtain ⟨u, hu, hcl⟩ := hys.clear (i := i) (by omega) hyne (k := fun t_ h12 => Mpu (slS 4 v none (some (.int .i64 (i : Nat))) none) fun t41 => Vers (m ≤ ·) h12 t41 (xs.filter fun x => !del x) ∧ Keep (m ≤ ·) H h12) fun H' zs hzs hzl hzt kz => by
      have hzne : zs ≠ [] := by rintro rfl; simp at hzl; exact hyne (List.length_eq_zero_iff.1 hzl.symm)
      obtain ⟨u', hu', hvu'⟩ := hzs.cut (i := i) (by omega) hzne
      rw [hu', Mpu_some]
      rw [hzt, htk] at hvu'
      exact ⟨hvu', kh.trans kz⟩
    rw [hu, Mpu_some]
    exact hcl

def maxF (x : Ver) (xs : List Ver) : Ver := xs.foldl (fun m v => if cmpV v m > 0 then v else m) x
theorem maxF_wf : ∀ {xs : List Ver} {x : Ver}, x.wf → (∀ y ∈ xs, y.wf) → (maxF x xs).wf
  | [], x, h, _ => h
  | y :: xs, x, h, hy => by
    unfold maxF
    rw [List.foldl_cons]
    refine maxF_wf (xs := xs) ?_ fun z hz => hy z (by simp [hz])
    split
    · exact hy y (by simp)
    · exact h
theorem c_MaxFunc {P : Nat → Prop} {H : Heap} {v : Value} {x : Ver} {xs : List Ver} (hv : Vers P H v (x :: xs)) (hl : (x :: xs).length ≤ 1048576) :
    HCalls prg f_slices_MaxFunc_S_version_Version_version_Version [v, .func (.func f_version_Version_Cmp) #[] #[]] H fun u H' => u = .agg (verC (maxF x xs)).toArray ∧ Keep (fun _ => False) H H' := by
  apply sh_slices_MaxFunc_S_version_Version_version_Version_calls
  unfold sh_slices_MaxFunc_S_version_Version_version_Version
  rw [z_VV, Mnew_some]
  generalize hH1 : H.push (.cells (verC ⟨[0, 0, 0], []⟩).toArray T_version_Version (0, 0)) = h1
  have k1 : Keep (fun _ => False) H h1 := by rw [← hH1]; exact Keep.push
  have r1 : At h1 H.size (verC zeroV) := by rw [← hH1]; exact At.push
  have s1 : h1.size = H.size + 1 := by rw [← hH1]; simp
  have hv1 := hv.keep k1 fun _ _ => id
  have elt1 : binV .no .lss (.int .i64 ((x :: xs).length : Nat)) (.int .i64 1) = some (.bool false) := by
    have hn1 : ¬ (((x :: xs).length : Nat) : Int) < 1 := by simp; omega
    rw [binV_int]; simp only [intV]; rw [decide_eq_false hn1]
  refine J0_i (fun h => h1 = h) (fun k hk => ?_) ?_
  · rw [hv.len, Mpu_some, elt1, Mpu_some, Mcd_bool, if_neg (by decide)]
    exact hk _ rfl
  rintro _ rfl
  obtain ⟨wx, b, o, hix, hpt, _⟩ := hv1.at (i := 0) (x := x) rfl
  have hix0 : ixS 4 v (.int .i64 0) = some (Ptr b o) := hix .i64
  rw [hix0, Mpu_some, hpt.agg (verC_len wx), Mpu_some, Mnew_some]
  generalize hH4 : h1.push (.cells (verC ⟨[0, 0, 0], []⟩).toArray T_version_Version (0, 0)) = h4
  have k4 : Keep (fun _ => False) h1 h4 := by rw [← hH4]; exact Keep.push
  have m4 : At h4 h1.size (verC zeroV) := by rw [← hH4]; exact At.push
  obtain ⟨h5, st5, m5, k5⟩ := m4.st (n := 4) (ds := verC x) (verC_len zeroV_wf) (verC_len wx) verC_one
  rw [show (Value.pointer (some ⟨h1.size, 0, none⟩)) = Ptr h1.size 0 from rfl, st5, Mwr_some]
  have k05 : Keep (fun _ => False) H h5 := (k1.trans k4).fresh k5 fun b hb => by omega
  have r5 := (r1.keep k4 id).keep k5 (show ¬ H.size = h1.size by omega)
  refine J1_i (fun _ h => At h h1.size (verC (maxF x xs)) ∧ At h H.size (verC zeroV) ∧ Keep (fun _ => False) H h) (fun k6 hk6 => ?_) ?_
  · refine L1_i (fun u h => ∃ i : Nat, i ≤ xs.length ∧ u = .int .i64 ((i + 1 : Nat) : Int) ∧ At h h1.size (verC (maxF x (xs.take i))) ∧ At h H.size (verC zeroV) ∧ Keep (fun _ => False) H h) (fun u _ => match u with | .int _ t => xs.length + 1 - t.toNat | _ => 0) ⟨0, Nat.zero_le _, rfl, m5, r5, k05⟩ ?_
    rintro _ h ⟨i, hi, rfl, hM, hr, kh⟩ k hk
    have hvh := hv.keep kh fun _ _ => id
    have elt : binV .no .lss (.int .i64 ((i + 1 : Nat) : Int)) (.int .i64 ((x :: xs).length : Nat)) = some (.bool (decide (i < xs.length))) := by
      have hi1 : (((i + 1 : Nat) : Int) < (((x :: xs).length : Nat) : Int)) ↔ i < xs.length := by simp
      rw [binV_int]; simp only [intV]; rw [decide_eq_decide.2 hi1]
    rw [hvh.len, Mpu_some, elt, Mpu_some, Mcd_bool]
    by_cases hlt : i < xs.length
    · rw [if_pos (by simpa using hlt)]
      have hg : xs[i]? = some xs[i] := List.getElem?_eq_getElem hlt
      generalize xs[i] = y at hg
      obtain ⟨wy, b2, o2, hix2, hpt2, _⟩ := hvh.at (i := i + 1) (x := y) (by simpa using hg)
      have hMw : (maxF x (xs.take i)).wf := maxF_wf wx fun z hz => hv.2 z (by simp [List.mem_of_mem_take hz])
      have hnext : maxF x (xs.take (i + 1)) = if cmpV y (maxF x (xs.take i)) > 0 then y else maxF x (xs.take i) := by
        rw [List.take_add_one, hg]
        unfold maxF
        rw [List.foldl_append]; rfl
      refine J0_i (fun h => At h h1.size (verC (maxF x (xs.take (i + 1)))) ∧ At h H.size (verC zeroV) ∧ Keep (fun _ => False) H h) (fun k10 hk10 => ?_) ?_
      · rw [hix2, Mpu_some, hpt2.agg (verC_len wy), Mpu_some, ver_ld4 hM hMw, Mpu_some]
        refine .inl ⟨f_version_Version_Cmp, #[], #[], rfl, by kernel_rfl, ?_⟩
        refine (c_Cmp wy hMw).mono ?_
        rintro _ h12 ⟨rfl, k12⟩
        have kh12 := kh.trans k12
        have hM12 := hM.keep k12 id
        have hr12 := hr.keep k12 id
        have eg : binV .no .gtr (.int .i64 (cmpV y (maxF x (xs.take i)))) (.int .i64 0) = some (.bool (decide (cmpV y (maxF x (xs.take i)) > 0))) := by rw [binV_int]; rfl
        cases hc : decide (cmpV y (maxF x (xs.take i)) > 0) <;> simp only [eg, hc, unV_not, Bool.not_true, Bool.not_false, Mif_bool, Mif_undef, pickV_bool, Mcd_bool, Mpu_some, if_true, if_false, Bool.false_eq_true, Bool.true_eq_false, decide_true, decide_false, reduceCtorEq, ex20, ex21, ex30, ex31, ex32, Mre_ok, Mre_nil]
        · exact hk10 _ ⟨by rw [hnext, if_neg (of_decide_eq_false hc)]; exact hM12, hr12, kh12⟩
        · obtain ⟨h13, st13, m13, k13⟩ := hM12.st (n := 4) (ds := verC y) (verC_len hMw) (verC_len wy) verC_one
          rw [(hpt2.keep k12 id).agg (verC_len wy), Mpu_some, st13, Mwr_some]
          exact hk10 _ ⟨by rw [hnext, if_pos (of_decide_eq_true hc)]; exact m13, hr12.keep k13 (show ¬ H.size = h1.size by omega), kh12.fresh k13 fun b hb => by omega⟩
      · rintro h11 ⟨j1, j2, j3⟩
        rw [add_one' (by simp at hl; omega), Mpu_some]
        exact hk _ _ ⟨i + 1, by omega, rfl, j1, j2, j3⟩ (by show xs.length + 1 - (i + 1 + 1) < xs.length + 1 - (i + 1); omega)
    · rw [if_neg (by simpa using hlt)]
      rw [List.take_of_length_le (by omega)] at hM
      exact hk6 _ _ ⟨hM, hr, kh⟩
  rintro _ h ⟨j1, j2, j3⟩
  have hMw : (maxF x xs).wf := maxF_wf wx fun z hz => hv.2 z (by simp [hz])
  obtain ⟨h14, st14, m14, k14⟩ := j2.st (n := 4) (ds := verC (maxF x xs)) (verC_len zeroV_wf) (verC_len hMw) verC_one
  rw [ver_ld4 j1 hMw, Mpu_some, show (Value.pointer (some ⟨H.size, 0, none⟩)) = Ptr H.size 0 from rfl, st14, Mwr_some, ver_ld4 m14 hMw, Mpu_some]
  exact ⟨rfl, j3.fresh k14 fun b hb => by omega⟩
end Go.Proofs.YtmhfanpijdgkjaaGreatDoor
/- Best, and the walk of VersionBest. -/
namespace Go.Proofs.YtmhfanpijdgkjaaGreatDoor
open Go.X Go.X.Diff
set_option maxRecDepth 100000

theorem bslV0 : bslV prg T_version_Version 0 [] = some #[] := by kernel_rfl
theorem c_CloneVers {P : Nat → Prop} {H : Heap} {v : Value} {xs : List Ver} (hv : Vers P H v xs) (hl : xs.length ≤ 1048576) :
    HCalls prg f_slices_Clone_S_version_Version_version_Version [v] H fun u H' => VBuf (H.size ≤ ·) H' u xs ∧ Keep (fun _ => False) H H' := by
  apply sh_slices_Clone_S_version_Version_version_Version_calls
  unfold sh_slices_Clone_S_version_Version_version_Version
  have hv1 := hv.1
  obtain ⟨⟨a, c, rfl, hc, hx⟩, hel, hone⟩ := hv1
  cases a with
  | none =>
    have hx0 : xs = [] := by
      rcases hx with h | ⟨b, o, e, _⟩
      · simpa using h
      · cases e
    subst hx0
    simp only [binV_slc_eq, eqV_slc_none, Option.map_some, Mpu_some, Mcd_bool, Option.isNone_none, if_true]
    exact ⟨⟨BufE.nil, fun x h => by cases h⟩, Keep.refl⟩
  | some a =>
    simp only [binV_slc_eq, eqV_slc_some, Option.map_some, Mpu_some, Mcd_bool, Bool.false_eq_true, if_false, bslV0, Mnews_some]
    have hk := (hv.keep (S := fun _ => False) (Keep.push (o := .cells #[] T_version_Version (0, 0))) fun _ _ => id).1
    refine BufE.app (F := (H.size ≤ ·)) (xs := []) (.fresh (cs := []) ⟨H.size, rfl, Nat.le_refl _, push_new⟩ (Nat.le_refl _) (by simp) (fun _ _ => by simp [thaw]) (by simp) (fun x h => by cases h) (fun x h => by cases h)) (hk.mono fun _ _ => trivial) (by omega) (by simp; omega) (by simp) fun u H' hu k' => ?_
    rw [List.nil_append] at hu
    exact ⟨⟨hu, hv.2⟩, Keep.fresh Keep.push k' fun b hb => hb⟩

/-- the law's round -/
def stepB (w : Want) (o : Option Ver) (v : Ver) : Option Ver := match o with
  | none => if fitOk w v then some v else none
  | some b => if fitOk w v && ltV b v then some v else some b
def bestF (w : Want) (xs : List Ver) : Option Ver := match xs.filter (fitOk w) with
  | [] => none
  | x :: r => some (maxF x r)
theorem best_some {w : Want} : ∀ {xs : List Ver} {b : Ver}, xs.foldl (stepB w) (some b) = some (maxF b (xs.filter (fitOk w)))
  | [], b => rfl
  | x :: xs, b => by
    rw [List.foldl_cons]
    have hlt : ltV b x = decide (cmpV x b > 0) := by
      unfold ltV; rw [cmpV_ord.turn b x]; rw [decide_eq_decide]; omega
    cases hf : fitOk w x
    · rw [show stepB w (some b) x = some b by simp [stepB, hf], best_some, List.filter_cons_of_neg (by simp [hf])]
    · rw [List.filter_cons_of_pos hf]
      unfold maxF
      rw [List.foldl_cons]
      by_cases hc : cmpV x b > 0
      · rw [if_pos hc, show stepB w (some b) x = some x by simp [stepB, hf, hlt, hc], best_some]; rfl
      · rw [if_neg hc, show stepB w (some b) x = some b by simp [stepB, hf, hlt, hc], best_some]; rfl
theorem best_fold {w : Want} : ∀ {xs : List Ver}, xs.foldl (stepB w) none = bestF w xs
  | [] => rfl
  | x :: xs => by
    rw [List.foldl_cons]
    unfold bestF
    cases hf : fitOk w x
    · rw [show stepB w none x = none by simp [stepB, hf], List.filter_cons_of_neg (by simp [hf])]; exact best_fold
    · rw [show stepB w none x = some x by simp [stepB, hf], List.filter_cons_of_pos hf, best_some]
theorem stepB_none {w : Want} {o : Option Ver} {v : Ver} (h : fitOk w v = false) : stepB w o v = o := by cases o <;> simp [stepB, h]

theorem c_Best {P : Nat → Prop} {H : Heap} {v : Value} {xs : List Ver} {w : Want} (hv : Vers P H v xs) (hw : w.wf) (hO : OpsT H) (hl : xs.length ≤ 1048576) :
    HCalls prg f_version_Best [v, .agg (wantC w).toArray] H fun u H' => u = .tuple #[.agg (verC ((bestF w xs).getD zeroV)).toArray, .bool (bestF w xs).isSome] ∧ Keep (fun _ => False) H H' := by
  apply sh_version_Best_calls
  unfold sh_version_Best
  simp only [Cells_agg, Mnew_some, z_VV]
  generalize hH1 : H.push (.cells (wantC w).toArray T_version_Want (0, 0)) = H1
  have k1 : Keep (fun _ => False) H H1 := by rw [← hH1]; exact Keep.push
  have a1 : At H1 H.size (wantC w) := by rw [← hH1]; exact At.push
  generalize hH2 : H1.push (.cells (verC ⟨[0, 0, 0], []⟩).toArray T_version_Version (0, 0)) = H2
  have k2 : Keep (fun _ => False) H1 H2 := by rw [← hH2]; exact Keep.push
  have r2 : At H2 H1.size (verC zeroV) := by rw [← hH2]; exact At.push
  have a2 := a1.keep k2 id
  have k02 := k1.trans k2
  have q1 := k1.1
  have hO2 := hO.keep k02 fun _ h => h.elim
  refine call_i (c_CloneVers (hv.keep k02 fun _ _ => id) hl) ?_
  rintro t8 h3 ⟨hb3, k3⟩
  have hdel : Del (.func (.func f_version_Best_1) #[] #[Value.pointer (some ⟨H.size, 0, none⟩)]) (fun x => !fitOk w x) (fun h => Keep (fun _ => False) H2 h) := by
    intro x h wx kh
    refine .inl ⟨f_version_Best_1, #[], #[Value.pointer (some ⟨H.size, 0, none⟩)], rfl, by kernel_rfl, ?_⟩
    show HCalls prg f_version_Best_1 [.agg (verC x).toArray, Ptr H.size 0] h _
    apply sh_version_Best_1_calls
    unfold sh_version_Best_1
    simp only [Cells_agg, Mnew_some]
    generalize hH5 : h.push (.cells (verC x).toArray T_version_Version (0, 0)) = h5
    have k5 : Keep (fun _ => False) h h5 := by rw [← hH5]; exact Keep.push
    have b5 : At h5 h.size (verC x) := by rw [← hH5]; exact At.push
    rw [want_ld5 (a2.keep (kh.trans k5) id) hw, Mpu_some, show (Value.pointer (some ⟨h.size, 0, none⟩)) = Ptr h.size 0 from rfl, ver_ld4 b5 wx, Mpu_some]
    refine call_i (c_WantFits hw wx (hO2.keep (kh.trans k5) fun _ h => h.elim)) ?_
    rintro _ h6 ⟨rfl, k6⟩
    rw [unV_not, Mpu_some]
    exact ⟨rfl, k5.trans k6⟩
  refine call_i (c_DeleteFunc (m := H2.size) hb3 hdel (fun h k => k3.fresh k fun b hb => hb) k3.1 hl) ?_
  rintro t10 h4 ⟨hb4, k4⟩
  have hflt : xs.filter (fun x => !!fitOk w x) = xs.filter (fitOk w) := by congr 1; funext x; rw [Bool.not_not]
  rw [hflt] at hb4
  have k24 := k3.fresh k4 fun b hb => hb
  have r4 := r2.keep k24 id
  have k04 := k02.trans k24
  have hfl : (xs.filter (fitOk w)).length ≤ 1048576 := Nat.le_trans (List.length_filter_le _ _) hl
  rw [hb4.len, Mpu_some]
  cases hfx : xs.filter (fitOk w) with
  | nil =>
    have e0 : binV .no .eql (.int .i64 (([] : List Ver).length : Nat)) (.int .i64 0) = some (.bool true) := rfl
    have hbest : bestF w xs = none := by unfold bestF; rw [hfx]
    obtain ⟨h5, st5, p5, k5⟩ := r4.st (n := 4) (ds := verC zeroV) (verC_len zeroV_wf) (verC_len zeroV_wf) verC_one
    have hb0 : buildV prg T_version_Version [] = some (.agg (verC zeroV).toArray) := by kernel_rfl
    rw [e0, Mpu_some, Mcd_bool, if_pos rfl, hb0, Mpu_some, show (Value.pointer (some ⟨H1.size, 0, none⟩)) = Ptr H1.size 0 from rfl, st5, Mwr_some, ver_ld4 p5 zeroV_wf, Mpu_some, hbest]
    exact ⟨rfl, k04.fresh k5 fun b hb => by omega⟩
  | cons x r =>
    rw [hfx] at hb4 hfl
    have hn : ¬ (((x :: r).length : Nat) : Int) = 0 := by simp; omega
    have e0 : binV .no .eql (.int .i64 ((x :: r).length : Nat)) (.int .i64 0) = some (.bool false) := by
      rw [binV_int]; simp only [intV]; rw [beq_eq_false_iff_ne.2 hn]
    have hbest : bestF w xs = some (maxF x r) := by unfold bestF; rw [hfx]
    rw [e0, Mpu_some, Mcd_bool, if_neg (by decide)]
    refine call_i (c_MaxFunc hb4 hfl) ?_
    rintro _ h7 ⟨rfl, k7⟩
    have r7 := r4.keep k7 id
    have hMw : (maxF x r).wf := maxF_wf (hb4.2 x (by simp)) fun y hy => hb4.2 y (by simp [hy])
    obtain ⟨h8, st8, p8, k8⟩ := r7.st (n := 4) (ds := verC (maxF x r)) (verC_len zeroV_wf) (verC_len hMw) verC_one
    rw [show (Value.pointer (some ⟨H1.size, 0, none⟩)) = Ptr H1.size 0 from rfl, st8, Mwr_some, ver_ld4 p8 hMw, Mpu_some, hbest]
    exact ⟨rfl, (k04.trans k7).fresh k8 fun b hb => by omega⟩
end Go.Proofs.YtmhfanpijdgkjaaGreatDoor
/- The walk of VersionBest. -/
namespace Go.Proofs.YtmhfanpijdgkjaaGreatDoor
open Go.X Go.X.Diff
set_option maxRecDepth 100000

theorem _root_.Go.X.J6_i {body : (Value → Value → Value → Value → Value → Value → Heap → Prop) → Prop} {rest : Value → Value → Value → Value → Value → Value → Heap → Prop} (I : Value → Heap → Prop) (h1 : ∀ k : Value → Value → Value → Value → Value → Value → Heap → Prop, (∀ x y z t u s h, I x h → k x y z t u s h) → body k) (h2 : ∀ x y z t u s h, I x h → rest x y z t u s h) : J6 body rest := .mk (h1 rest fun x y z t u s h hI => h2 x y z t u s h hI)
theorem getD_wf {o : Option Ver} (h : ∀ v, o = some v → v.wf) : (o.getD zeroV).wf := by
  cases o with
  | none => exact zeroV_wf
  | some v => exact h v rfl
theorem stepB_wf {w : Want} {o : Option Ver} {v : Ver} (ho : ∀ u, o = some u → u.wf) (hv : v.wf) : ∀ u, stepB w o v = some u → u.wf := by
  intro u hu
  cases o with
  | none =>
    simp only [stepB] at hu
    split at hu
    · obtain rfl := Option.some.inj hu; exact hv
    · cases hu
  | some b =>
    simp only [stepB] at hu
    split at hu
    · obtain rfl := Option.some.inj hu; exact hv
    · exact ho u hu
theorem fold_wf {w : Want} : ∀ {xs : List Ver} {o : Option Ver}, (∀ u, o = some u → u.wf) → (∀ x ∈ xs, x.wf) → ∀ u, xs.foldl (stepB w) o = some u → u.wf
  | [], o, ho, _, u, hu => ho u hu
  | x :: xs, o, ho, hx, u, hu => fold_wf (xs := xs) (stepB_wf ho (hx x (by simp))) (fun y hy => hx y (by simp [hy])) u hu

theorem c_VersionBest {P : Nat → Prop} {H : Heap} {v : Value} {xs : List Ver} {w : Want} (hv : Vers P H v xs) (hw : w.wf) (hT : VerT H) :
    HCalls prg f_syngraphlaw18_VersionBest [v, .agg (wantC w).toArray] H fun u H' => u = .bool true ∧ Keep (fun _ => False) H H' := by
  apply sh_syngraphlaw18_VersionBest_calls
  unfold sh_syngraphlaw18_VersionBest
  simp only [Cells_agg, Mnew_some]
  generalize hH1 : H.push (.cells (wantC w).toArray T_version_Want (0, 0)) = H1
  have k1 : Keep (fun _ => False) H H1 := by rw [← hH1]; exact Keep.push
  have a1 : At H1 H.size (wantC w) := by rw [← hH1]; exact At.push
  have TT : ∀ {h}, Keep (fun _ => False) H h → VerT h := fun k => hT.keep k fun _ h => h.elim
  have out : ∀ {h} {R : Value → Heap → Prop}, Keep (fun _ => False) H h → (∀ h', Keep (fun _ => False) H h' → R (.bool true) h') → Mcall prg f_syngraphlaw18_awake [] h R := fun k hR => awake_end hT k hR
  have g1 : binV .no .gtr (.int .i64 (xs.length : Nat)) (.int .i64 20) = some (.bool (decide (20 < xs.length))) := by
    rw [binV_int]; simp only [intV]; congr 2; rw [decide_eq_decide]; omega
  have g2 : ∀ n m : Nat, binV .no .gtr (.int .i64 (n : Nat)) (.int .i64 (m : Nat)) = some (.bool (decide (m < n))) := by
    intro n m
    rw [binV_int]; simp only [intV]; congr 2; rw [decide_eq_decide]; omega
  have eop := want_op a1
  have epre : ld1 H1 (Ptr H.size 4) = some (str w.ver.pre) := a1.ld (by obtain ⟨x, y, z, e⟩ : ∃ x y z, w.ver.p = [x, y, z] := by { have := hw.ver.p3; match h : w.ver.p, this with | [x, y, z], _ => exact ⟨x, y, z, rfl⟩ }; simp [wantC, verC, e])
  rw [hv.len, Mpu_some, g1, Mpu_some]
  refine J1_eq.2 ?_
  cases h1 : decide (20 < xs.length)
  rotate_left
  · simp only [unV_not, Bool.not_true, Bool.not_false, Mif_bool, Mif_undef, pickV_bool, Mcd_bool, Mpu_some, if_true, if_false, Bool.false_eq_true, Bool.true_eq_false, decide_true, decide_false, reduceCtorEq, J1_eq, ex20, ex21, ex30, ex31, ex32, Mre_ok, Mre_nil]; exact out k1 fun h' k => ⟨by trivial, k⟩
  have g10 : binV .no .gtr (.int .i64 (w.op.length : Nat)) (.int .i64 10) = some (.bool (decide (10 < w.op.length))) := g2 _ 10
  have g100 : binV .no .gtr (.int .i64 (w.ver.pre.length : Nat)) (.int .i64 100) = some (.bool (decide (100 < w.ver.pre.length))) := g2 _ 100
  simp only [fld_ptr, Nat.zero_add, eop, lenT_str, g10, unV_not, Bool.not_true, Bool.not_false, Mif_bool, Mif_undef, pickV_bool, Mcd_bool, Mpu_some, if_true, if_false, Bool.false_eq_true, Bool.true_eq_false, decide_true, decide_false, reduceCtorEq, ex20, ex21, ex30, ex31, ex32, Mre_ok, Mre_nil]
  refine J1_eq.2 ?_
  cases h2 : decide (10 < w.op.length)
  rotate_left
  · simp only [unV_not, Bool.not_true, Bool.not_false, Mif_bool, Mif_undef, pickV_bool, Mcd_bool, Mpu_some, if_true, if_false, Bool.false_eq_true, Bool.true_eq_false, decide_true, decide_false, reduceCtorEq, J1_eq, ex20, ex21, ex30, ex31, ex32, Mre_ok, Mre_nil]; exact out k1 fun h' k => ⟨by trivial, k⟩
  simp only [fld_ptr, Nat.zero_add, Nat.reduceAdd, epre, lenT_str, g100, unV_not, Bool.not_true, Bool.not_false, Mif_bool, Mif_undef, pickV_bool, Mcd_bool, Mpu_some, if_true, if_false, Bool.false_eq_true, Bool.true_eq_false, decide_true, decide_false, reduceCtorEq, ex20, ex21, ex30, ex31, ex32, Mre_ok, Mre_nil]
  cases h3 : decide (100 < w.ver.pre.length)
  rotate_left
  · simp only [unV_not, Bool.not_true, Bool.not_false, Mif_bool, Mif_undef, pickV_bool, Mcd_bool, Mpu_some, if_true, if_false, Bool.false_eq_true, Bool.true_eq_false, decide_true, decide_false, reduceCtorEq, ex20, ex21, ex30, ex31, ex32, Mre_ok, Mre_nil]; exact out k1 fun h' k => ⟨by trivial, k⟩
  have hb0 : buildV prg T_version_Version [] = some (.agg (verC zeroV).toArray) := by kernel_rfl
  simp only [hb0, z_VV, Mnew_some, unV_not, Bool.not_true, Bool.not_false, Mif_bool, Mif_undef, pickV_bool, Mcd_bool, Mpu_some, if_true, if_false, Bool.false_eq_true, Bool.true_eq_false, decide_true, decide_false, reduceCtorEq, ex20, ex21, ex30, ex31, ex32, Mre_ok, Mre_nil]
  generalize hH7 : H1.push (.cells (verC ⟨[0, 0, 0], []⟩).toArray T_version_Version (0, 0)) = h7
  have k7 : Keep (fun _ => False) H1 h7 := by rw [← hH7]; exact Keep.push
  have b7 : At h7 H1.size (verC zeroV) := by rw [← hH7]; exact At.push
  obtain ⟨h8, st8, b8, k8⟩ := b7.st (n := 4) (ds := verC zeroV) (verC_len zeroV_wf) (verC_len zeroV_wf) verC_one
  rw [show (Value.pointer (some ⟨H1.size, 0, none⟩)) = Ptr H1.size 0 from rfl, st8, Mwr_some]
  have k18 : Keep (fun _ => False) H1 h8 := k7.fresh k8 fun b hb => by omega
  have hlen : xs.length ≤ 20 := by have := of_decide_eq_false h1; omega
  refine J2_i (fun t6 _ h => t6 = .bool (bestF w xs).isSome ∧ At h H1.size (verC ((bestF w xs).getD zeroV)) ∧ At h H.size (wantC w) ∧ Keep (fun _ => False) H h) (fun k9 hk9 => ?_) ?_
  · refine L2_i (fun t6 t31 h => ∃ i : Nat, t31 = .int .i64 (i : Nat) ∧ i ≤ xs.length ∧ t6 = .bool ((xs.take i).foldl (stepB w) none).isSome ∧ At h H1.size (verC (((xs.take i).foldl (stepB w) none).getD zeroV)) ∧ At h H.size (wantC w) ∧ Keep (fun _ => False) H h)
      (fun _ u _ => match u with | .int _ t => xs.length - t.toNat | _ => 0) ⟨0, rfl, Nat.zero_le _, rfl, b8, a1.keep k18 id, k1.trans k18⟩ ?_
    rintro _ _ h ⟨i, rfl, hi, rfl, hB, hA, kh⟩ k hk
    have elt : binV .no .lss (.int .i64 (i : Nat)) (.int .i64 (xs.length : Nat)) = some (.bool (decide (i < xs.length))) := by
      rw [binV_int]; simp only [intV]; congr 2; rw [decide_eq_decide]; omega
    rw [elt, Mpu_some, Mcd_bool]
    by_cases hlt : i < xs.length
    · rw [if_pos (by simpa using hlt)]
      have hg : xs[i]? = some xs[i] := List.getElem?_eq_getElem hlt
      generalize xs[i] = x at hg
      have how : ∀ u, (xs.take i).foldl (stepB w) none = some u → u.wf := fold_wf (fun u hu => by cases hu) fun y hy => hv.2 y (List.mem_of_mem_take hy)
      have hnext : (xs.take (i + 1)).foldl (stepB w) none = stepB w ((xs.take i).foldl (stepB w) none) x := by
        rw [List.take_add_one, hg, List.foldl_append]; rfl
      generalize hog : (xs.take i).foldl (stepB w) none = o at hB how hnext
      obtain ⟨wx, b, of_, hix, hpt, _⟩ := (hv.keep kh fun _ _ => id).at hg
      refine J6_i (fun t6 h => t6 = .bool (stepB w o x).isSome ∧ At h H1.size (verC ((stepB w o x).getD zeroV)) ∧ At h H.size (wantC w) ∧ Keep (fun _ => False) H h) (fun k13 hk13 => ?_) ?_
      · rw [hix, Mpu_some, hpt.agg (verC_len wx), Mpu_some]
        generalize hH15 : h.push (.cells (verC ⟨[0, 0, 0], []⟩).toArray T_version_Version (0, 0)) = h15
        have k15 : Keep (fun _ => False) h h15 := by rw [← hH15]; exact Keep.push
        have x15 : At h15 h.size (verC zeroV) := by rw [← hH15]; exact At.push
        obtain ⟨h16, st16, x16, k16⟩ := x15.st (n := 4) (ds := verC x) (verC_len zeroV_wf) (verC_len wx) verC_one
        have kk16 : Keep (fun _ => False) h h16 := k15.fresh k16 fun b hb => by omega
        have q := hB.lt
        have A : ∀ {g}, Keep (fun _ => False) h16 g → ldN 5 g (Ptr H.size 0) = some (.agg (wantC w).toArray) := fun k => want_ld5 (hA.keep (kk16.trans k) id) hw
        have AO : ∀ {g}, Keep (fun _ => False) h16 g → ld1 g (Ptr H.size 0) = some (str w.op) := fun k => want_op (hA.keep (kk16.trans k) id)
        have AV : ∀ {g}, Keep (fun _ => False) h16 g → ldN 4 g (Ptr H.size 1) = some (.agg (verC w.ver).toArray) := fun k => want_ver (hA.keep (kk16.trans k) id) hw
        have X : ∀ {g}, Keep (fun _ => False) h16 g → ldN 4 g (Ptr h.size 0) = some (.agg (verC x).toArray) := fun k => ver_ld4 (x16.keep k id) wx
        have hBw : (o.getD zeroV).wf := getD_wf how
        have B : ∀ {g}, Keep (fun _ => False) h16 g → ldN 4 g (Ptr H1.size 0) = some (.agg (verC (o.getD zeroV)).toArray) := fun k => ver_ld4 (hB.keep (kk16.trans k) id) hBw
        have same : ∀ {g}, Keep (fun _ => False) h16 g → fitOk w x = false → ∀ y z t u s, k13 (.bool o.isSome) y z t u s g := fun k hf y z t u s => hk13 _ _ _ _ _ _ _ ⟨by rw [stepB_none hf], by rw [stepB_none hf]; exact hB.keep (kk16.trans k) id, hA.keep (kk16.trans k) id, kh.trans (kk16.trans k)⟩
        have epx : ld1 h16 (Ptr h.size 3) = some (str x.pre) := ver_pre x16 wx
        have gx : binV .no .gtr (.int .i64 (x.pre.length : Nat)) (.int .i64 100) = some (.bool (decide (100 < x.pre.length))) := g2 _ 100
        rw [show (Value.pointer (some ⟨h.size, 0, none⟩)) = Ptr h.size 0 from rfl, st16, Mwr_some]
        simp only [fld_ptr, Nat.zero_add, epx, lenT_str, gx, unV_not, Bool.not_true, Bool.not_false, Mif_bool, Mif_undef, pickV_bool, Mcd_bool, Mpu_some, if_true, if_false, Bool.false_eq_true, Bool.true_eq_false, decide_true, decide_false, reduceCtorEq, ex20, ex21, ex30, ex31, ex32, Mre_ok, Mre_nil]
        cases hpx : decide (100 < x.pre.length)
        rotate_left
        · simp only [unV_not, Bool.not_true, Bool.not_false, Mif_bool, Mif_undef, pickV_bool, Mcd_bool, Mpu_some, if_true, if_false, Bool.false_eq_true, Bool.true_eq_false, decide_true, decide_false, reduceCtorEq, ex20, ex21, ex30, ex31, ex32, Mre_ok, Mre_nil]
          exact out (kh.trans kk16) fun h' k => ⟨by trivial, k⟩
        simp only [A Keep.refl, unV_not, Bool.not_true, Bool.not_false, Mif_bool, Mif_undef, pickV_bool, Mcd_bool, Mpu_some, if_true, if_false, Bool.false_eq_true, Bool.true_eq_false, decide_true, decide_false, reduceCtorEq, ex20, ex21, ex30, ex31, ex32, Mre_ok, Mre_nil]
        refine call_i (c_rightWant hw) ?_
        rintro _ h18 ⟨rfl, k18'⟩
        cases hwo : wantOk w
        · simp only [unV_not, Bool.not_true, Bool.not_false, Mif_bool, Mif_undef, pickV_bool, Mcd_bool, Mpu_some, if_true, if_false, Bool.false_eq_true, Bool.true_eq_false, decide_true, decide_false, reduceCtorEq, J1_eq, ex20, ex21, ex30, ex31, ex32, Mre_ok, Mre_nil]
          exact same k18' (by simp [fitOk, hwo]) _ _ _ _ _
        simp only [X k18', unV_not, Bool.not_true, Bool.not_false, Mif_bool, Mif_undef, pickV_bool, Mcd_bool, Mpu_some, if_true, if_false, Bool.false_eq_true, Bool.true_eq_false, decide_true, decide_false, reduceCtorEq, ex20, ex21, ex30, ex31, ex32, Mre_ok, Mre_nil]
        refine J1_eq.2 ?_
        refine call_i (c_right18 wx) ?_
        rintro _ h20 ⟨rfl, k20⟩
        have kk20 := k18'.trans k20
        cases hvo : verOk x
        · simp only [unV_not, Bool.not_true, Bool.not_false, Mif_bool, Mif_undef, pickV_bool, Mcd_bool, Mpu_some, if_true, if_false, Bool.false_eq_true, Bool.true_eq_false, decide_true, decide_false, reduceCtorEq, J1_eq, ex20, ex21, ex30, ex31, ex32, Mre_ok, Mre_nil]
          exact same kk20 (by simp [fitOk, hwo, hvo]) _ _ _ _ _
        simp only [fld_ptr, Nat.zero_add, AO kk20, AV kk20, X kk20, unV_not, Bool.not_true, Bool.not_false, Mif_bool, Mif_undef, pickV_bool, Mcd_bool, Mpu_some, if_true, if_false, Bool.false_eq_true, Bool.true_eq_false, decide_true, decide_false, reduceCtorEq, ex20, ex21, ex30, ex31, ex32, Mre_ok, Mre_nil]
        refine J1_eq.2 ?_
        refine call_i (c_ref hw.ver) ?_
        rintro _ h23 ⟨rfl, k23⟩
        have kk23 := kk20.trans k23
        simp only [AO kk23, X kk23, unV_not, Bool.not_true, Bool.not_false, Mif_bool, Mif_undef, pickV_bool, Mcd_bool, Mpu_some, if_true, if_false, Bool.false_eq_true, Bool.true_eq_false, decide_true, decide_false, reduceCtorEq, ex20, ex21, ex30, ex31, ex32, Mre_ok, Mre_nil]
        refine call_i (c_ref wx) ?_
        rintro _ h24 ⟨rfl, k24⟩
        have kk24 := kk23.trans k24
        simp only [AO kk24, unV_not, Bool.not_true, Bool.not_false, Mif_bool, Mif_undef, pickV_bool, Mcd_bool, Mpu_some, if_true, if_false, Bool.false_eq_true, Bool.true_eq_false, decide_true, decide_false, reduceCtorEq, ex20, ex21, ex30, ex31, ex32, Mre_ok, Mre_nil]
        refine call_i (c_refFits wx hw.ver) ?_
        rintro _ h25 ⟨rfl, k25⟩
        have kk25 := kk24.trans k25
        cases hfo : fitsF w.op w.ver x
        · simp only [unV_not, Bool.not_true, Bool.not_false, Mif_bool, Mif_undef, pickV_bool, Mcd_bool, Mpu_some, if_true, if_false, Bool.false_eq_true, Bool.true_eq_false, decide_true, decide_false, reduceCtorEq, J1_eq, ex20, ex21, ex30, ex31, ex32, Mre_ok, Mre_nil]
          exact same kk25 (by simp [fitOk, hwo, hvo, hfo]) _ _ _ _ _
        have hfit : fitOk w x = true := by simp [fitOk, hwo, hvo, hfo]
        have take_ : ∀ {g} {R : Heap → Prop}, Keep (fun _ => False) h16 g → (∀ g', At g' H1.size (verC x) ∧ At g' H.size (wantC w) ∧ Keep (fun _ => False) H g' → R g') →
            Mpu (ldN 4 g (Ptr h.size 0)) fun t67 => Mwr (stN 4 g (Ptr H1.size 0) t67) R := by
          intro g R kg hR
          obtain ⟨g', stg, bg, kg'⟩ := (hB.keep (kk16.trans kg) id).st (n := 4) (ds := verC x) (verC_len hBw) (verC_len wx) verC_one
          rw [X kg, Mpu_some, stg, Mwr_some]
          have q1 := k1.1
          have la := a1.lt
          exact hR g' ⟨bg, (hA.keep (kk16.trans kg) id).keep kg' (show ¬ H.size = H1.size by omega), (kh.trans (kk16.trans kg)).fresh kg' fun b hb => by omega⟩
        cases o with
        | none =>
          have hst : stepB w none x = some x := by simp [stepB, hfit]
          simp only [Option.isSome_none, unV_not, Bool.not_true, Bool.not_false, Mif_bool, Mif_undef, pickV_bool, Mcd_bool, Mpu_some, if_true, if_false, Bool.false_eq_true, Bool.true_eq_false, decide_true, decide_false, reduceCtorEq, J1_eq, ex20, ex21, ex30, ex31, ex32, Mre_ok, Mre_nil]
          exact take_ kk25 fun g' hg' => hk13 _ _ _ _ _ _ _ (by rw [hst]; exact ⟨rfl, hg'⟩)
        | some bb =>
          simp only [Option.isSome_some, B kk25, X kk25, unV_not, Bool.not_true, Bool.not_false, Mif_bool, Mif_undef, pickV_bool, Mcd_bool, Mpu_some, if_true, if_false, Bool.false_eq_true, Bool.true_eq_false, decide_true, decide_false, reduceCtorEq, ex20, ex21, ex30, ex31, ex32, Mre_ok, Mre_nil]
          refine J1_eq.2 ?_
          simp only [B kk25, X kk25, unV_not, Bool.not_true, Bool.not_false, Mif_bool, Mif_undef, pickV_bool, Mcd_bool, Mpu_some, if_true, if_false, Bool.false_eq_true, Bool.true_eq_false, decide_true, decide_false, reduceCtorEq, ex20, ex21, ex30, ex31, ex32, Mre_ok, Mre_nil]
          refine J1_eq.2 ?_
          simp only [B kk25, X kk25, unV_not, Bool.not_true, Bool.not_false, Mif_bool, Mif_undef, pickV_bool, Mcd_bool, Mpu_some, if_true, if_false, Bool.false_eq_true, Bool.true_eq_false, decide_true, decide_false, reduceCtorEq, ex20, ex21, ex30, ex31, ex32, Mre_ok, Mre_nil]
          refine call_i (c_ref hBw) ?_
          rintro _ h30 ⟨rfl, k30⟩
          have kk30 := kk25.trans k30
          simp only [X kk30, unV_not, Bool.not_true, Bool.not_false, Mif_bool, Mif_undef, pickV_bool, Mcd_bool, Mpu_some, if_true, if_false, Bool.false_eq_true, Bool.true_eq_false, decide_true, decide_false, reduceCtorEq, ex20, ex21, ex30, ex31, ex32, Mre_ok, Mre_nil]
          refine call_i (c_ref wx) ?_
          rintro _ h31 ⟨rfl, k31⟩
          have kk31 := kk30.trans k31
          refine call_i (c_refLess hBw wx) ?_
          rintro _ h32 ⟨rfl, k32⟩
          have kk32 := kk31.trans k32
          simp only [Option.getD_some] at *
          cases hlv : ltV bb x
          · have hst : stepB w (some bb) x = some bb := by simp [stepB, hfit, hlv]
            simp only [unV_not, Bool.not_true, Bool.not_false, Mif_bool, Mif_undef, pickV_bool, Mcd_bool, Mpu_some, if_true, if_false, Bool.false_eq_true, Bool.true_eq_false, decide_true, decide_false, reduceCtorEq, J1_eq, ex20, ex21, ex30, ex31, ex32, Mre_ok, Mre_nil]
            refine hk13 _ _ _ _ _ _ _ ?_
            rw [hst]
            exact ⟨rfl, hB.keep (kk16.trans kk32) id, hA.keep (kk16.trans kk32) id, kh.trans (kk16.trans kk32)⟩
          · have hst : stepB w (some bb) x = some x := by simp [stepB, hfit, hlv]
            simp only [unV_not, Bool.not_true, Bool.not_false, Mif_bool, Mif_undef, pickV_bool, Mcd_bool, Mpu_some, if_true, if_false, Bool.false_eq_true, Bool.true_eq_false, decide_true, decide_false, reduceCtorEq, J1_eq, ex20, ex21, ex30, ex31, ex32, Mre_ok, Mre_nil]
            exact take_ kk32 fun g' hg' => hk13 _ _ _ _ _ _ _ (by rw [hst]; exact ⟨rfl, hg'⟩)
      · rintro _ _ _ _ _ _ h14 ⟨rfl, j1, j2, j3⟩
        rw [add_one' (by omega), Mpu_some]
        exact hk _ _ _ ⟨i + 1, rfl, by omega, by rw [hnext], by rw [hnext]; exact j1, j2, j3⟩ (by show xs.length - (i + 1) < xs.length - i; omega)
    · rw [if_neg (by simpa using hlt)]
      have e := best_fold (w := w) (xs := xs)
      rw [List.take_of_length_le (by omega), e] at hB
      refine hk9 _ _ _ ⟨?_, hB, hA, kh⟩
      rw [List.take_of_length_le (by omega), e]
  rintro _ _ h ⟨rfl, hB, hA, kh⟩
  have hbw : ((bestF w xs).getD zeroV).wf := getD_wf (by rw [← best_fold]; exact fold_wf (fun u hu => by cases hu) hv.2)
  rw [want_ld5 hA hw, Mpu_some]
  refine call_i (c_Best (hv.keep kh fun _ _ => id) hw (TT kh).ops (by omega)) ?_
  rintro _ h37 ⟨rfl, k37⟩
  simp only [unV_not, Bool.not_true, Bool.not_false, Mif_bool, Mif_undef, pickV_bool, Mcd_bool, Mpu_some, if_true, if_false, Bool.false_eq_true, Bool.true_eq_false, decide_true, decide_false, reduceCtorEq, ex20, ex21, ex30, ex31, ex32, Mre_ok, Mre_nil, z_VV, Mnew_some]
  generalize hH38 : h37.push (.cells (verC ⟨[0, 0, 0], []⟩).toArray T_version_Version (0, 0)) = h38
  have k38 : Keep (fun _ => False) h37 h38 := by rw [← hH38]; exact Keep.push
  have p38 : At h38 h37.size (verC zeroV) := by rw [← hH38]; exact At.push
  obtain ⟨h39, st39, p39, k39⟩ := p38.st (n := 4) (ds := verC ((bestF w xs).getD zeroV)) (verC_len zeroV_wf) (verC_len hbw) verC_one
  have kh39 : Keep (fun _ => False) h h39 := k37.trans (k38.fresh k39 fun b hb => by omega)
  simp only [st39, Mwr_some, eq_bool, beq_self_eq_true, ver_ld4 p39 hbw, ver_ld4 (hB.keep kh39 id) hbw, eqVer hbw hbw, decide_true, unV_not, Bool.not_true, Bool.not_false, Mif_bool, Mif_undef, pickV_bool, Mcd_bool, Mpu_some, if_true, if_false, Bool.false_eq_true, Bool.true_eq_false, decide_true, decide_false, reduceCtorEq, J1_eq, ex20, ex21, ex30, ex31, ex32, Mre_ok, Mre_nil]
  refine out (kh.trans kh39) fun h' k => ?_
  simp only [unV_not, Bool.not_true, Bool.not_false, Mif_bool, Mif_undef, pickV_bool, Mcd_bool, Mpu_some, if_true, if_false, Bool.false_eq_true, Bool.true_eq_false, decide_true, decide_false, reduceCtorEq, J1_eq, ex20, ex21, ex30, ex31, ex32, Mre_ok, Mre_nil]
  exact ⟨by trivial, k⟩
end Go.Proofs.YtmhfanpijdgkjaaGreatDoor
