/- JOINED: Sh0 Sh1 -/
import Derived.Test.YtdmciknajaedmaaGreatDoorGE
set_option linter.unusedSimpArgs false
set_option linter.unusedVariables false
/- PRINTED: clean texts -/
namespace Go.Proofs.YtdmciknajaedmaaGreatDoor
open Go.X
set_option maxRecDepth 100000
-- syngraph/syngraphlaw23.AnchorPlays
def sh_syngraphlaw23_AnchorPlays (t0 : Value) (H : Heap) (R : Value → Heap → Prop) : Prop :=
  Mcall prg f_anchor_New [] H fun t9 h1 =>
  Mcall prg f_history_New [] h1 fun t10 h2 =>
  Mpu (binV .ptr .eql t9 (.pointer none)) fun t12 =>
  J1 (fun k3 => Mif t12 false (
      Mpu (binV .ptr .eql t10 (.pointer none)) fun t15 =>
      k3 t15 h2) (
      k3 undef h2)) fun t15_2 h4 =>
  Mpu (pickV t12 (.bool true) t15_2) fun t16 =>
  J1 (fun k5 => Mif t16 false (
      Mcall prg f_syngraphlaw23_small [t0] h4 fun t19 h6 =>
      Mpu (unV .not t19) fun t20 =>
      k5 t20 h6) (
      k5 undef h4)) fun t20_2 h7 =>
  Mpu (pickV t16 (.bool true) t20_2) fun t21 =>
  Mcd t21 (
    Mpu (binV .ptr .neq t9 (.pointer none)) fun t23 =>
    J1 (fun k8 => Mif t23 true (
        Mcall prg f_syngraphlaw23_awake [] h7 fun t25 h9 =>
        k8 t25 h9) (
        k8 undef h7)) fun t25_2 h10 =>
    Mpu (pickV t23 t25_2 (.bool false)) fun t26 =>
    R t26 h10) (
    Mpu (buildV prg T_syngraphref23_Register []) fun t27 =>
    Mnew h7 T_syngraphref23_Register (some (Value.cells t27)) fun t28 h11 =>
    J1 (fun k12 =>
      Mpu (lenV t0) fun t30 =>
      L1 (fun k14 => fun t31_2 h15 =>
        Mpu (binV .no .lss t31_2 t30) fun t32 =>
        Mcd t32 (
          Mpu (ixS 69 t0 t31_2) fun t33 =>
          Mpu (ldN 69 h15 t33) fun t34 =>
          Mnew h15 T_syngraphlaw23_Op (zcells prg T_syngraphlaw23_Op) fun t7 h16 =>
          Mwr (stN 69 h16 t7 t34) fun h17 =>
          Mcall prg f_anchor_Register_Mark [t9] h17 fun t36 h18 =>
          Mpu (partV false 1 0 t36) fun t37 =>
          Mpu (ldN 69 h18 t7) fun t41 =>
          Mcall prg f_syngraphlaw23_step [t9, t28, t10, t41] h18 fun t42 h19 =>
          Mpu (unV .not t42) fun t43 =>
          J1 (fun k20 => Mif t43 false (
              Mcall prg f_syngraphlaw23_same [t9, t28] h19 fun t47 h21 =>
              Mpu (unV .not t47) fun t48 =>
              k20 t48 h21) (
              k20 undef h19)) fun t48_2 h22 =>
          Mpu (pickV t43 (.bool true) t48_2) fun t49 =>
          J1 (fun k23 => Mif t49 false (
              Mcall prg f_anchor_Register_Mark [t9] h22 fun t52 h24 =>
              Mpu (partV false 1 0 t52) fun t53 =>
              Mpu (binV .no .lss t53 t37) fun t55 =>
              k23 t55 h24) (
              k23 undef h22)) fun t55_2 h25 =>
          Mpu (pickV t49 (.bool true) t55_2) fun t56 =>
          J1 (fun k26 => Mif t56 false (
              Mcall prg f_anchor_Of [t10] h25 fun t59 h27 =>
              Mcall prg f_history_History_Len [t10] h27 fun t61 h28 =>
              Mcall prg f_history_History_Top [t10] h28 fun t63 h29 =>
              Mpu (buildV prg T_anchor_Mark [(0, t61), (1, t63)]) fun t64 =>
              Mpu (binV (eqK prg T_anchor_Mark) .neq t59 t64) fun t65 =>
              k26 t65 h29) (
              k26 undef h25)) fun t65_2 h30 =>
          Mpu (pickV t56 (.bool true) t65_2) fun t66 =>
          Mcd t66 (
            R (.bool false) h30) (
            Mpu (binV .no .add t31_2 (.int .i64 1)) fun t67 =>
            k14 t67 h30)) (
          k12 t31_2 h15)) ((.int .i64 0)) h11) fun t31_4 h13 =>
    Mcall prg f_syngraphlaw23_awake [] h13 fun t68 h31 =>
    R t68 h31)
theorem sh_syngraphlaw23_AnchorPlays_chk : fchkF prg [15, 20, 25, 31, 48, 55, 65] Tryz.f3 1 = true := by kernel_rfl
theorem sh_syngraphlaw23_AnchorPlays_den (t0 : Value) (H : Heap) (R : Value → Heap → Prop) : fdenF prg [15, 20, 25, 31, 48, 55, 65] Tryz.f3 [t0] H R = sh_syngraphlaw23_AnchorPlays t0 H R := by kernel_rfl
theorem sh_syngraphlaw23_AnchorPlays_calls {t0 : Value} {H : Heap} {R : Value → Heap → Prop} (h : sh_syngraphlaw23_AnchorPlays t0 H R) : HCalls prg f_syngraphlaw23_AnchorPlays [t0] H R :=
  calls_ofF Tryz.func3 sh_syngraphlaw23_AnchorPlays_chk (by rw [sh_syngraphlaw23_AnchorPlays_den]; exact h)

-- syngraph/syngraphlaw23.AnchorTampers
def sh_syngraphlaw23_AnchorTampers (t0 t1 : Value) (H : Heap) (R : Value → Heap → Prop) : Prop :=
  J2 (fun k1 =>
    Mnews H T_history_Record 0 (bslV prg T_history_Record 0 []) fun t17 h3 =>
    Mapp T_history_Record 36 96 h3 t17 t0 fun t19 h4 =>
    Mapp T_history_Record 36 96 h4 t19 t1 fun t21 h5 =>
    Mpu (lenV t21) fun t22 =>
    L2 (fun k6 => fun t5_2 t23_2 h7 =>
      Mpu (binV .no .lss t23_2 t22) fun t24 =>
      Mcd t24 (
        Mpu (ixS 36 t21 t23_2) fun t25 =>
        Mpu (ldN 36 h7 t25) fun t26 =>
        Mnew h7 T_history_Record (zcells prg T_history_Record) fun t7 h8 =>
        Mwr (stN 36 h8 t7 t26) fun h9 =>
        Mpu (ldN 36 h9 t7) fun t28 =>
        Mpu (buildV prg T_syngraphlaw23_Op [(2, t28)]) fun t29 =>
        Mnews h9 T_syngraphlaw23_Op 1 (bslV prg T_syngraphlaw23_Op 1 [(0, t29)]) fun t30 h10 =>
        Mapp T_syngraphlaw23_Op 69 136 h10 t5_2 t30 fun t31 h11 =>
        Mpu (binV .no .add t23_2 (.int .i64 1)) fun t32 =>
        k6 t31 t32 h11) (
        k1 t5_2 t23_2 h7)) ((.slice none 0 0)) ((.int .i64 0)) h5) fun t5_4 t23_4 h2 =>
  Mcall prg f_syngraphlaw23_small [t5_4] h2 fun t34 h12 =>
  Mpu (unV .not t34) fun t35 =>
  Mcd t35 (
    Mcall prg f_syngraphlaw23_awake [] h12 fun t36 h13 =>
    R t36 h13) (
    Mcall prg f_anchor_New [] h12 fun t37 h14 =>
    Mcall prg f_history_New [] h14 fun t38 h15 =>
    Mcall prg f_history_New [] h15 fun t39 h16 =>
    Mpu (binV .ptr .eql t37 (.pointer none)) fun t41 =>
    J1 (fun k17 => Mif t41 false (
        Mpu (binV .ptr .eql t38 (.pointer none)) fun t44 =>
        k17 t44 h16) (
        k17 undef h16)) fun t44_2 h18 =>
    Mpu (pickV t41 (.bool true) t44_2) fun t45 =>
    J1 (fun k19 => Mif t45 false (
        Mpu (binV .ptr .eql t39 (.pointer none)) fun t48 =>
        k19 t48 h18) (
        k19 undef h18)) fun t48_2 h20 =>
    Mpu (pickV t45 (.bool true) t48_2) fun t49 =>
    Mcd t49 (
      R (.bool false) h20) (
      J1 (fun k21 =>
        Mpu (lenV t0) fun t51 =>
        L1 (fun k23 => fun t52_2 h24 =>
          Mpu (binV .no .lss t52_2 t51) fun t53 =>
          Mcd t53 (
            Mpu (ixS 36 t0 t52_2) fun t54 =>
            Mpu (ldN 36 h24 t54) fun t55 =>
            Mnew h24 T_history_Record (zcells prg T_history_Record) fun t12 h25 =>
            Mwr (stN 36 h25 t12 t55) fun h26 =>
            Mpu (ldN 36 h26 t12) fun t57 =>
            Mcall prg f_history_History_Append [t38, t57] h26 fun t58 h27 =>
            Mpu (binV .no .eql t58 (.int .i64 0)) fun t59 =>
            J1 (fun k28 => Mif t59 true (
                Mcall prg f_history_History_Top [t38] h27 fun t63 h29 =>
                Mcall prg f_anchor_Register_Begin [t37, t63] h29 fun t64 h30 =>
                Mpu (binV .no .neq t64 (.int .i64 0)) fun t65 =>
                k28 t65 h30) (
                k28 undef h27)) fun t66_2 h31 =>
            J1 (fun k32 => Mif t66_2 false (
                Mcall prg f_anchor_Register_End [t37] h31 fun t68 h33 =>
                Mpu (binV .no .neq t68 (.int .i64 0)) fun t69 =>
                k32 t69 h33) (
                k32 undef h31)) fun t69_2 h34 =>
            J1 (fun k35 => Mif t59 true (
                Mpu (pickV t66_2 (.bool true) t69_2) fun t70 =>
                k35 t70 h34) (
                k35 undef h34)) fun t70_2 h36 =>
            Mpu (pickV t59 t70_2 (.bool false)) fun t71 =>
            Mcd t71 (
              R (.bool false) h36) (
              Mpu (binV .no .add t52_2 (.int .i64 1)) fun t72 =>
              k23 t72 h36)) (
            k21 t52_2 h24)) ((.int .i64 0)) h20) fun t52_4 h22 =>
      J1 (fun k37 =>
        Mpu (lenV t1) fun t74 =>
        L1 (fun k39 => fun t75_2 h40 =>
          Mpu (binV .no .lss t75_2 t74) fun t76 =>
          Mcd t76 (
            Mpu (ixS 36 t1 t75_2) fun t77 =>
            Mpu (ldN 36 h40 t77) fun t78 =>
            Mnew h40 T_history_Record (zcells prg T_history_Record) fun t14 h41 =>
            Mwr (stN 36 h41 t14 t78) fun h42 =>
            Mpu (ldN 36 h42 t14) fun t80 =>
            Mcall prg f_history_History_Append [t39, t80] h42 fun t81 h43 =>
            Mpu (binV .no .add t75_2 (.int .i64 1)) fun t82 =>
            k39 t82 h43) (
            k37 t75_2 h40)) ((.int .i64 0)) h22) fun t75_4 h38 =>
      Mcall prg f_anchor_Register_Audit [t37, t38] h38 fun t85 h44 =>
      Mpu (binV .no .neq t85 (.int .i64 0)) fun t86 =>
      Mcd t86 (
        R (.bool false) h44) (
        Mcall prg f_history_History_Equal [t39, t38] h44 fun t89 h45 =>
        Mcd t89 (
          Mcall prg f_anchor_Register_Audit [t37, t39] h45 fun t92 h46 =>
          Mpu (binV .no .eql t92 (.int .i64 0)) fun t93 =>
          J1 (fun k47 => Mif t93 true (
              Mcall prg f_syngraphlaw23_awake [] h46 fun t95 h48 =>
              k47 t95 h48) (
              k47 undef h46)) fun t95_2 h49 =>
          Mpu (pickV t93 t95_2 (.bool false)) fun t96 =>
          R t96 h49) (
          Mcall prg f_anchor_Register_Audit [t37, t39] h45 fun t99 h50 =>
          Mpu (binV .no .neq t99 (.int .i64 0)) fun t100 =>
          Mcd t100 (
            Mcall prg f_anchor_Register_Audit [t37, t39] h50 fun t103 h51 =>
            Mpu (binV .no .eql t103 (.int .i64 33)) fun t104 =>
            J1 (fun k52 => Mif t104 true (
                Mcall prg f_syngraphlaw23_awake [] h51 fun t106 h53 =>
                k52 t106 h53) (
                k52 undef h51)) fun t106_2 h54 =>
            Mpu (pickV t104 t106_2 (.bool false)) fun t107 =>
            R t107 h54) (
            Mcall prg f_history_Collide [t38, t39] h50 fun t111 h55 =>
            Mpu (extV 0 t111) fun t112 =>
            Mpu (extV 1 t111) fun t113 =>
            Mnew h55 T_collide_Collision (zcells prg T_collide_Collision) fun t15 h56 =>
            Mwr (stN 2 h56 t15 t112) fun h57 =>
            J1 (fun k58 => Mif t113 true (
                Mpu (fld 0 t15) fun t116 =>
                Mpu (ld1 h57 t116) fun t117 =>
                Mpu (b2s h57 t117) fun t118 =>
                Mpu (fld 1 t15) fun t119 =>
                Mpu (ld1 h57 t119) fun t120 =>
                Mpu (b2s h57 t120) fun t121 =>
                Mpu (binV .no .neq t118 t121) fun t122 =>
                k58 t122 h57) (
                k58 undef h57)) fun t122_2 h59 =>
            Mpu (pickV t113 t122_2 (.bool false)) fun t123 =>
            J1 (fun k60 => Mif t123 true (
                Mpu (fld 0 t15) fun t125 =>
                Mpu (ld1 h59 t125) fun t126 =>
                Mpu (fld 1 t15) fun t128 =>
                Mpu (ld1 h59 t128) fun t129 =>
                Mcall prg f_sha_Sum [t126] h59 fun t127 h61 =>
                Mre [(ld1 h61 t128, t129)] (
                Mcall prg f_sha_Sum [t129] h61 fun t130 h62 =>
                Mpu (binV (eqK prg T_sha_Hash) .eql t127 t130) fun t131 =>
                k60 t131 h62)) (
                k60 undef h59)) fun t131_2 h63 =>
            Mpu (pickV t123 t131_2 (.bool false)) fun t132 =>
            J1 (fun k64 => Mif t132 true (
                Mpu (fld 0 t15) fun t134 =>
                Mpu (ld1 h63 t134) fun t135 =>
                Mpu (lenV t135) fun t136 =>
                Mpu (binV .no .gtr t136 (.int .i64 32)) fun t137 =>
                k64 t137 h63) (
                k64 undef h63)) fun t137_2 h65 =>
            Mpu (pickV t132 t137_2 (.bool false)) fun t138 =>
            J1 (fun k66 => Mif t138 true (
                Mpu (fld 0 t15) fun t140 =>
                Mpu (ld1 h65 t140) fun t141 =>
                Mpu (ixS 1 t141 (.int .i64 0)) fun t142 =>
                Mpu (ld1 h65 t142) fun t143 =>
                Mcall prg f_syngraphref02_Bytes [(.int .u8 7), (.slice none 0 0)] h65 fun t144 h67 =>
                Mre [(ld1 h67 t142, t143), (ld1 h67 t140, t141)] (
                Mpu (ixS 1 t144 (.int .i64 0)) fun t145 =>
                Mpu (ld1 h67 t145) fun t146 =>
                Mpu (binV .no .eql t143 t146) fun t147 =>
                k66 t147 h67)) (
                k66 undef h65)) fun t147_2 h68 =>
            Mpu (pickV t138 t147_2 (.bool false)) fun t148 =>
            J1 (fun k69 => Mif t148 true (
                Mcall prg f_syngraphlaw23_awake [] h68 fun t150 h70 =>
                k69 t150 h70) (
                k69 undef h68)) fun t150_2 h71 =>
            Mpu (pickV t148 t150_2 (.bool false)) fun t151 =>
            R t151 h71)))))
theorem sh_syngraphlaw23_AnchorTampers_chk : fchkF prg [5, 23, 44, 48, 52, 66, 69, 70, 75, 95, 106, 122, 131, 137, 147, 150] Tryz.f4 2 = true := by kernel_rfl
theorem sh_syngraphlaw23_AnchorTampers_den (t0 t1 : Value) (H : Heap) (R : Value → Heap → Prop) : fdenF prg [5, 23, 44, 48, 52, 66, 69, 70, 75, 95, 106, 122, 131, 137, 147, 150] Tryz.f4 [t0, t1] H R = sh_syngraphlaw23_AnchorTampers t0 t1 H R := by kernel_rfl
theorem sh_syngraphlaw23_AnchorTampers_calls {t0 t1 : Value} {H : Heap} {R : Value → Heap → Prop} (h : sh_syngraphlaw23_AnchorTampers t0 t1 H R) : HCalls prg f_syngraphlaw23_AnchorTampers [t0, t1] H R :=
  calls_ofF Tryz.func4 sh_syngraphlaw23_AnchorTampers_chk (by rw [sh_syngraphlaw23_AnchorTampers_den]; exact h)

-- syngraph/syngraphlaw23.AnchorGoes
def sh_syngraphlaw23_AnchorGoes (t0 t1 : Value) (H : Heap) (R : Value → Heap → Prop) : Prop :=
  Mcall prg f_anchor_New [] H fun t21 h1 =>
  Mcall prg f_history_New [] h1 fun t22 h2 =>
  Mpu (binV .ptr .eql t21 (.pointer none)) fun t24 =>
  J1 (fun k3 => Mif t24 false (
      Mpu (binV .ptr .eql t22 (.pointer none)) fun t27 =>
      k3 t27 h2) (
      k3 undef h2)) fun t27_2 h4 =>
  Mpu (pickV t24 (.bool true) t27_2) fun t28 =>
  J1 (fun k5 => Mif t28 false (
      Mcall prg f_syngraphlaw23_small [t0] h4 fun t31 h6 =>
      Mpu (unV .not t31) fun t32 =>
      k5 t32 h6) (
      k5 undef h4)) fun t32_2 h7 =>
  Mpu (pickV t28 (.bool true) t32_2) fun t33 =>
  J1 (fun k8 => Mif t33 false (
      Mcall prg f_syngraphlaw23_small [t1] h7 fun t36 h9 =>
      Mpu (unV .not t36) fun t37 =>
      k8 t37 h9) (
      k8 undef h7)) fun t37_2 h10 =>
  Mpu (pickV t33 (.bool true) t37_2) fun t38 =>
  Mcd t38 (
    Mpu (binV .ptr .neq t21 (.pointer none)) fun t40 =>
    J1 (fun k11 => Mif t40 true (
        Mcall prg f_syngraphlaw23_awake [] h10 fun t42 h12 =>
        k11 t42 h12) (
        k11 undef h10)) fun t42_2 h13 =>
    Mpu (pickV t40 t42_2 (.bool false)) fun t43 =>
    R t43 h13) (
    Mpu (buildV prg T_syngraphref23_Register []) fun t44 =>
    Mnew h10 T_syngraphref23_Register (some (Value.cells t44)) fun t45 h14 =>
    J1 (fun k15 =>
      Mpu (lenV t0) fun t47 =>
      L1 (fun k17 => fun t48_2 h18 =>
        Mpu (binV .no .lss t48_2 t47) fun t49 =>
        Mcd t49 (
          Mpu (ixS 69 t0 t48_2) fun t50 =>
          Mpu (ldN 69 h18 t50) fun t51 =>
          Mnew h18 T_syngraphlaw23_Op (zcells prg T_syngraphlaw23_Op) fun t9 h19 =>
          Mwr (stN 69 h19 t9 t51) fun h20 =>
          Mpu (ldN 69 h20 t9) fun t55 =>
          Mcall prg f_syngraphlaw23_step [t21, t45, t22, t55] h20 fun t56 h21 =>
          Mpu (binV .no .add t48_2 (.int .i64 1)) fun t57 =>
          k17 t57 h21) (
          k15 t48_2 h18)) ((.int .i64 0)) h14) fun t48_4 h16 =>
    Mcall prg f_anchor_Register_Bytes [t21] h16 fun t60 h22 =>
    Mcall prg f_anchor_Parse [t60] h22 fun t61 h23 =>
    Mpu (extV 0 t61) fun t62 =>
    Mpu (extV 1 t61) fun t63 =>
    Mcall prg f_anchor_Register_Copy [t21] h23 fun t65 h24 =>
    Mpu (binV .no .neq t63 (.int .i64 0)) fun t67 =>
    J1 (fun k25 => Mif t67 false (
        Mpu (binV .ptr .eql t62 (.pointer none)) fun t70 =>
        k25 t70 h24) (
        k25 undef h24)) fun t70_2 h26 =>
    Mpu (pickV t67 (.bool true) t70_2) fun t71 =>
    J1 (fun k27 => Mif t71 false (
        Mpu (binV .ptr .eql t65 (.pointer none)) fun t74 =>
        k27 t74 h26) (
        k27 undef h26)) fun t74_2 h28 =>
    Mpu (pickV t71 (.bool true) t74_2) fun t75 =>
    Mcd t75 (
      R (.bool false) h28) (
      J2 (fun k29 =>
        Mpu (nck t45) fun t77 =>
        Mpu (ldN 67 h28 t77) fun t78 =>
        ((
          Mcall prg f_history_History_Copy [t22] h28 fun t80 h30 =>
          Mre [(ldN 67 h30 t77, t78)] (
          Mnew h30 T_syngraphref23_Register (zcells prg T_syngraphref23_Register) fun t13 h31 =>
          Mre [(ldN 67 h31 t77, t78)] (
          Mwr (stN 67 h31 t13 t78) fun h32 =>
          k29 t13 t80 h32))) ∧ (
          Mnew h28 T_syngraphref23_Register (zcells prg T_syngraphref23_Register) fun t13_2 h33 =>
          Mre [(ldN 67 h33 t77, t78)] (
          Mcall prg f_history_History_Copy [t22] h33 fun t80_2 h34 =>
          Mre [(ldN 67 h34 t77, t78)] (
          Mwr (stN 67 h34 t13_2 t78) fun h35 =>
          k29 t13_2 t80_2 h35))))) fun t13_3 t14_3 h36 =>
      J1 (fun k37 =>
        Mpu (lenV t1) fun t82 =>
        L1 (fun k39 => fun t83_2 h40 =>
          Mpu (binV .no .lss t83_2 t82) fun t84 =>
          Mcd t84 (
            Mpu (ixS 69 t1 t83_2) fun t85 =>
            Mpu (ldN 69 h40 t85) fun t86 =>
            Mnew h40 T_syngraphlaw23_Op (zcells prg T_syngraphlaw23_Op) fun t16 h41 =>
            Mwr (stN 69 h41 t16 t86) fun h42 =>
            Mpu (ldN 69 h42 t16) fun t90 =>
            Mcall prg f_syngraphlaw23_step [t21, t45, t22, t90] h42 fun t91 h43 =>
            Mpu (binV .no .add t83_2 (.int .i64 1)) fun t92 =>
            k39 t92 h43) (
            k37 t83_2 h40)) ((.int .i64 0)) h36) fun t83_4 h38 =>
      J1 (fun k44 =>
        Mpu (lenV t1) fun t94 =>
        L1 (fun k46 => fun t95_2 h47 =>
          Mpu (binV .no .lss t95_2 t94) fun t96 =>
          Mcd t96 (
            Mpu (ixS 69 t1 t95_2) fun t97 =>
            Mpu (ldN 69 h47 t97) fun t98 =>
            Mnew h47 T_syngraphlaw23_Op (zcells prg T_syngraphlaw23_Op) fun t18 h48 =>
            Mwr (stN 69 h48 t18 t98) fun h49 =>
            J2 (fun k50 =>
              Mpu (ldN 67 h49 t13_3) fun t99 =>
              ((
                Mcall prg f_history_History_Copy [t14_3] h49 fun t101 h51 =>
                Mre [(ldN 67 h51 t13_3, t99)] (
                Mnew h51 T_syngraphref23_Register (zcells prg T_syngraphref23_Register) fun t19 h52 =>
                Mre [(ldN 67 h52 t13_3, t99)] (
                Mwr (stN 67 h52 t19 t99) fun h53 =>
                k50 t19 t101 h53))) ∧ (
                Mnew h49 T_syngraphref23_Register (zcells prg T_syngraphref23_Register) fun t19_2 h54 =>
                Mre [(ldN 67 h54 t13_3, t99)] (
                Mcall prg f_history_History_Copy [t14_3] h54 fun t101_2 h55 =>
                Mre [(ldN 67 h55 t13_3, t99)] (
                Mwr (stN 67 h55 t19_2 t99) fun h56 =>
                k50 t19_2 t101_2 h56))))) fun t19_3 t20_3 h57 =>
            Mpu (ldN 69 h57 t18) fun t104 =>
            Mcall prg f_syngraphlaw23_step [t62, t19_3, t20_3, t104] h57 fun t105 h58 =>
            Mpu (unV .not t105) fun t106 =>
            J1 (fun k59 => Mif t106 false (
                Mpu (ldN 69 h58 t18) fun t110 =>
                Mcall prg f_syngraphlaw23_step [t65, t13_3, t14_3, t110] h58 fun t111 h60 =>
                Mpu (unV .not t111) fun t112 =>
                k59 t112 h60) (
                k59 undef h58)) fun t112_2 h61 =>
            Mpu (pickV t106 (.bool true) t112_2) fun t113 =>
            J1 (fun k62 => Mif t113 false (
                Mcall prg f_syngraphlaw23_same [t62, t13_3] h61 fun t116 h63 =>
                Mpu (unV .not t116) fun t117 =>
                k62 t117 h63) (
                k62 undef h61)) fun t117_2 h64 =>
            Mpu (pickV t113 (.bool true) t117_2) fun t118 =>
            J1 (fun k65 => Mif t118 false (
                Mcall prg f_syngraphlaw23_same [t65, t13_3] h64 fun t121 h66 =>
                Mpu (unV .not t121) fun t122 =>
                k65 t122 h66) (
                k65 undef h64)) fun t122_2 h67 =>
            Mpu (pickV t118 (.bool true) t122_2) fun t123 =>
            Mcd t123 (
              R (.bool false) h67) (
              Mpu (binV .no .add t95_2 (.int .i64 1)) fun t124 =>
              k46 t124 h67)) (
            k44 t95_2 h47)) ((.int .i64 0)) h38) fun t95_4 h45 =>
      Mcall prg f_syngraphlaw23_same [t21, t45] h45 fun t127 h68 =>
      J1 (fun k69 => Mif t127 true (
          Mcall prg f_syngraphlaw23_awake [] h68 fun t129 h70 =>
          k69 t129 h70) (
          k69 undef h68)) fun t129_2 h71 =>
      Mpu (pickV t127 t129_2 (.bool false)) fun t130 =>
      R t130 h71))
theorem sh_syngraphlaw23_AnchorGoes_chk : fchkF prg [13, 14, 19, 20, 27, 32, 37, 42, 48, 70, 74, 83, 95, 112, 117, 122, 129] Tryz.f5 2 = true := by kernel_rfl
theorem sh_syngraphlaw23_AnchorGoes_den (t0 t1 : Value) (H : Heap) (R : Value → Heap → Prop) : fdenF prg [13, 14, 19, 20, 27, 32, 37, 42, 48, 70, 74, 83, 95, 112, 117, 122, 129] Tryz.f5 [t0, t1] H R = sh_syngraphlaw23_AnchorGoes t0 t1 H R := by kernel_rfl
theorem sh_syngraphlaw23_AnchorGoes_calls {t0 t1 : Value} {H : Heap} {R : Value → Heap → Prop} (h : sh_syngraphlaw23_AnchorGoes t0 t1 H R) : HCalls prg f_syngraphlaw23_AnchorGoes [t0, t1] H R :=
  calls_ofF Tryz.func5 sh_syngraphlaw23_AnchorGoes_chk (by rw [sh_syngraphlaw23_AnchorGoes_den]; exact h)

-- syngraph/anchor.New
def sh_anchor_New (H : Heap) (R : Value → Heap → Prop) : Prop :=
  Mpu (buildV prg T_anchor_Register []) fun t1 =>
  Mnew H T_anchor_Register (some (Value.cells t1)) fun t2 h1 =>
  R t2 h1
theorem sh_anchor_New_chk : fchkF prg [] Tryz.f6 0 = true := by kernel_rfl
theorem sh_anchor_New_den (H : Heap) (R : Value → Heap → Prop) : fdenF prg [] Tryz.f6 [] H R = sh_anchor_New H R := by kernel_rfl
theorem sh_anchor_New_calls {H : Heap} {R : Value → Heap → Prop} (h : sh_anchor_New H R) : HCalls prg f_anchor_New [] H R :=
  calls_ofF Tryz.func6 sh_anchor_New_chk (by rw [sh_anchor_New_den]; exact h)

-- syngraph/syngraphlaw23.small
def sh_syngraphlaw23_small (t0 : Value) (H : Heap) (R : Value → Heap → Prop) : Prop :=
  J1 (fun k1 =>
    Mpu (lenV t0) fun t8 =>
    L1 (fun k3 => fun t9_2 h4 =>
      Mpu (binV .no .lss t9_2 t8) fun t10 =>
      Mcd t10 (
        J2 (fun k5 =>
          Mpu (ixS 69 t0 t9_2) fun t11 =>
          Mpu (ldN 69 h4 t11) fun t12 =>
          Mnew h4 T_syngraphlaw23_Op (zcells prg T_syngraphlaw23_Op) fun t4 h7 =>
          Mwr (stN 69 h7 t4 t12) fun h8 =>
          Mpu (fld 33 t4) fun t13 =>
          Mpu (fld 1 t13) fun t14 =>
          Mpu (ld1 h8 t14) fun t15 =>
          Mpu (lenV t15) fun t16 =>
          Mpu (binV .no .gtr t16 (.int .i64 8)) fun t17 =>
          J1 (fun k9 => Mif t17 false (
              Mpu (fld 33 t4) fun t19 =>
              Mpu (fld 2 t19) fun t20 =>
              Mpu (ld1 h8 t20) fun t21 =>
              Mpu (lenV t21) fun t22 =>
              Mpu (binV .no .gtr t22 (.int .i64 8)) fun t23 =>
              k9 t23 h8) (
              k9 undef h8)) fun t23_2 h10 =>
          Mpu (pickV t17 (.bool true) t23_2) fun t24 =>
          Mcd t24 (
            R (.bool false) h10) (
            Mpu (fld 33 t4) fun t26 =>
            Mpu (fld 1 t26) fun t27 =>
            Mpu (ld1 h10 t27) fun t28 =>
            Mpu (fld 33 t4) fun t30 =>
            Mpu (fld 2 t30) fun t31 =>
            Mpu (ld1 h10 t31) fun t32 =>
            Mnews h10 T_history_Item 0 (bslV prg T_history_Item 0 []) fun t25 h11 =>
            Mre [(ld1 h11 t31, t32), (ld1 h11 t27, t28)] (
            Mapp T_history_Item 37 88 h11 t25 t28 fun t29 h12 =>
            Mre [(ld1 h12 t31, t32)] (
            Mapp T_history_Item 37 88 h12 t29 t32 fun t33 h13 =>
            Mpu (lenV t33) fun t34 =>
            L1 (fun k14 => fun t35_2 h15 =>
              Mpu (binV .no .lss t35_2 t34) fun t36 =>
              Mcd t36 (
                Mpu (ixS 37 t33 t35_2) fun t37 =>
                Mpu (ldN 37 h15 t37) fun t38 =>
                Mnew h15 T_history_Item (zcells prg T_history_Item) fun t6 h16 =>
                Mwr (stN 37 h16 t6 t38) fun h17 =>
                Mpu (fld 0 t6) fun t39 =>
                Mpu (ld1 h17 t39) fun t40 =>
                Mpu (lenT t40) fun t41 =>
                Mpu (binV .no .gtr t41 (.int .i64 50)) fun t42 =>
                J1 (fun k18 => Mif t42 false (
                    Mpu (fld 1 t6) fun t44 =>
                    Mpu (fld 3 t44) fun t45 =>
                    Mpu (ld1 h17 t45) fun t46 =>
                    Mpu (lenT t46) fun t47 =>
                    Mpu (binV .no .gtr t47 (.int .i64 50)) fun t48 =>
                    k18 t48 h17) (
                    k18 undef h17)) fun t48_2 h19 =>
                Mpu (pickV t42 (.bool true) t48_2) fun t49 =>
                Mcd t49 (
                  R (.bool false) h19) (
                  Mpu (binV .no .add t35_2 (.int .i64 1)) fun t50 =>
                  k14 t50 h19)) (
                k5 t23_2 t35_2 h15)) ((.int .i64 0)) h13)))) fun t23_3 t35_4 h6 =>
        Mpu (binV .no .add t9_2 (.int .i64 1)) fun t51 =>
        k3 t51 h6) (
        k1 t9_2 h4)) ((.int .i64 0)) H) fun t9_4 h2 =>
  Mpu (lenV t0) fun t53 =>
  Mpu (binV .no .leq t53 (.int .i64 40)) fun t54 =>
  R t54 h2
theorem sh_syngraphlaw23_small_chk : fchkF prg [9, 23, 35, 48] Tryz.f8 1 = true := by kernel_rfl
theorem sh_syngraphlaw23_small_den (t0 : Value) (H : Heap) (R : Value → Heap → Prop) : fdenF prg [9, 23, 35, 48] Tryz.f8 [t0] H R = sh_syngraphlaw23_small t0 H R := by kernel_rfl
theorem sh_syngraphlaw23_small_calls {t0 : Value} {H : Heap} {R : Value → Heap → Prop} (h : sh_syngraphlaw23_small t0 H R) : HCalls prg f_syngraphlaw23_small [t0] H R :=
  calls_ofF Tryz.func8 sh_syngraphlaw23_small_chk (by rw [sh_syngraphlaw23_small_den]; exact h)

-- syngraph/syngraphlaw23.awake
def sh_syngraphlaw23_awake (H : Heap) (R : Value → Heap → Prop) : Prop :=
  Mcall prg f_anchor_New [] H fun t3 h1 =>
  Mcall prg f_history_New [] h1 fun t4 h2 =>
  Mpu (binV .ptr .neq t3 (.pointer none)) fun t6 =>
  J1 (fun k3 => Mif t6 true (
      Mpu (binV .ptr .neq t4 (.pointer none)) fun t9 =>
      k3 t9 h2) (
      k3 undef h2)) fun t9_2 h4 =>
  Mpu (pickV t6 t9_2 (.bool false)) fun t10 =>
  J1 (fun k5 => Mif t10 true (
      Mcall prg f_anchor_Register_Audit [t3, t4] h4 fun t14 h6 =>
      Mpu (binV .no .eql t14 (.int .i64 0)) fun t15 =>
      k5 t15 h6) (
      k5 undef h4)) fun t15_2 h7 =>
  Mpu (pickV t10 t15_2 (.bool false)) fun t16 =>
  J1 (fun k8 => Mif t16 true (
      Mpu (buildV prg T_sha_Hash [(0, (.int .u8 1))]) fun t19 =>
      Mcall prg f_anchor_Register_Begin [t3, t19] h7 fun t20 h9 =>
      Mpu (binV .no .eql t20 (.int .i64 0)) fun t21 =>
      k8 t21 h9) (
      k8 undef h7)) fun t21_2 h10 =>
  Mpu (pickV t16 t21_2 (.bool false)) fun t22 =>
  J1 (fun k11 => Mif t22 true (
      Mpu (buildV prg T_sha_Hash [(0, (.int .u8 1))]) fun t25 =>
      Mcall prg f_anchor_Register_Begin [t3, t25] h10 fun t26 h12 =>
      Mpu (binV .no .eql t26 (.int .i64 50)) fun t27 =>
      k11 t27 h12) (
      k11 undef h10)) fun t27_2 h13 =>
  Mpu (pickV t22 t27_2 (.bool false)) fun t28 =>
  J1 (fun k14 => Mif t28 true (
      Mcall prg f_anchor_Register_End [t3] h13 fun t31 h15 =>
      Mpu (binV .no .eql t31 (.int .i64 0)) fun t32 =>
      k14 t32 h15) (
      k14 undef h13)) fun t32_2 h16 =>
  Mpu (pickV t28 t32_2 (.bool false)) fun t33 =>
  J1 (fun k17 => Mif t33 true (
      Mcall prg f_anchor_Register_End [t3] h16 fun t36 h18 =>
      Mpu (binV .no .eql t36 (.int .i64 14)) fun t37 =>
      k17 t37 h18) (
      k17 undef h16)) fun t37_2 h19 =>
  Mpu (pickV t33 t37_2 (.bool false)) fun t38 =>
  J1 (fun k20 => Mif t38 true (
      Mcall prg f_anchor_Register_Audit [t3, t4] h19 fun t42 h21 =>
      Mpu (binV .no .eql t42 (.int .i64 33)) fun t43 =>
      k20 t43 h21) (
      k20 undef h19)) fun t43_2 h22 =>
  Mpu (pickV t38 t43_2 (.bool false)) fun t44 =>
  J1 (fun k23 => Mif t44 true (
      Mcall prg f_anchor_Register_Mark [t3] h22 fun t47 h24 =>
      Mpu (partV false 1 0 t47) fun t48 =>
      Mpu (binV .no .eql t48 (.int .i64 1)) fun t49 =>
      k23 t49 h24) (
      k23 undef h22)) fun t49_2 h25 =>
  Mpu (pickV t44 t49_2 (.bool false)) fun t50 =>
  R t50 h25
theorem sh_syngraphlaw23_awake_chk : fchkF prg [9, 15, 21, 27, 32, 37, 43, 49] Tryz.f9 0 = true := by kernel_rfl
theorem sh_syngraphlaw23_awake_den (H : Heap) (R : Value → Heap → Prop) : fdenF prg [9, 15, 21, 27, 32, 37, 43, 49] Tryz.f9 [] H R = sh_syngraphlaw23_awake H R := by kernel_rfl
theorem sh_syngraphlaw23_awake_calls {H : Heap} {R : Value → Heap → Prop} (h : sh_syngraphlaw23_awake H R) : HCalls prg f_syngraphlaw23_awake [] H R :=
  calls_ofF Tryz.func9 sh_syngraphlaw23_awake_chk (by rw [sh_syngraphlaw23_awake_den]; exact h)

-- (*syngraph/anchor.Register).Mark
def sh_anchor_Register_Mark (t0 : Value) (H : Heap) (R : Value → Heap → Prop) : Prop :=
  Mnew H T_anchor_Mark (zcells prg T_anchor_Mark) fun t2 h1 =>
  Mpu (nck t0) fun t4 =>
  Mpu (fld 0 t4) fun t5 =>
  Mpu (ldN 33 h1 t5) fun t6 =>
  Mwr (stN 33 h1 t2 t6) fun h2 =>
  Mpu (ldN 33 h2 t2) fun r3 =>
  R r3 h2
theorem sh_anchor_Register_Mark_chk : fchkF prg [] Tryz.f10 1 = true := by kernel_rfl
theorem sh_anchor_Register_Mark_den (t0 : Value) (H : Heap) (R : Value → Heap → Prop) : fdenF prg [] Tryz.f10 [t0] H R = sh_anchor_Register_Mark t0 H R := by kernel_rfl
theorem sh_anchor_Register_Mark_calls {t0 : Value} {H : Heap} {R : Value → Heap → Prop} (h : sh_anchor_Register_Mark t0 H R) : HCalls prg f_anchor_Register_Mark [t0] H R :=
  calls_ofF Tryz.func10 sh_anchor_Register_Mark_chk (by rw [sh_anchor_Register_Mark_den]; exact h)

-- syngraph/syngraphlaw23.step
def sh_syngraphlaw23_step (t0 t1 t2 t3 : Value) (H : Heap) (R : Value → Heap → Prop) : Prop :=
  Mnew H T_syngraphlaw23_Op (some (Value.cells t3)) fun t7 h1 =>
  J0 (fun k2 =>
    Mpu (fld 0 t7) fun t12 =>
    Mpu (ld1 h1 t12) fun t13 =>
    Mpu (binV .no .eql t13 (.int .i64 1)) fun t15 =>
    Mcd t15 (
      Mcall prg f_history_History_Copy [t2] h1 fun t17 h4 =>
      Mpu (fld 1 t7) fun t18 =>
      Mpu (ldN 32 h4 t18) fun t19 =>
      Mnew h4 T_sha_Hash (zcells prg T_sha_Hash) fun t10 h5 =>
      Mwr (stN 32 h5 t10 t19) fun h6 =>
      J0 (fun k7 =>
        Mpu (fld 33 t7) fun t21 =>
        Mpu (ldN 36 h6 t21) fun t22 =>
        Mcall prg f_history_History_Append [t17, t22] h6 fun t23 h9 =>
        Mpu (binV .no .eql t23 (.int .i64 0)) fun t24 =>
        Mcd t24 (
          Mcall prg f_history_History_Top [t17] h9 fun t26 h10 =>
          Mwr (stN 32 h10 t10 t26) fun h11 =>
          k7 h11) (
          k7 h9)) fun h8 =>
      Mpu (ldN 32 h8 t10) fun t28 =>
      Mpu (ldN 32 h8 t10) fun t31 =>
      Mcall prg f_anchor_Register_Begin [t0, t28] h8 fun t29 h12 =>
      Mre [(ldN 32 h12 t10, t31)] (
      Mcall prg f_syngraphref23_Register_Begin [t1, t31] h12 fun t32 h13 =>
      Mpu (binV .no .eql t29 t32) fun t33 =>
      R t33 h13)) (
      Mpu (binV .no .eql t13 (.int .i64 2)) fun t35 =>
      Mcd t35 (
        Mcall prg f_anchor_Register_End [t0] h1 fun t37 h14 =>
        Mcall prg f_syngraphref23_Register_Finish [t1, (.bool true)] h14 fun t39 h15 =>
        Mpu (binV .no .eql t37 t39) fun t40 =>
        R t40 h15) (
        Mpu (binV .no .eql t13 (.int .i64 3)) fun t42 =>
        Mcd t42 (
          Mcall prg f_anchor_Register_Cancel [t0] h1 fun t44 h16 =>
          Mcall prg f_syngraphref23_Register_Finish [t1, (.bool false)] h16 fun t46 h17 =>
          Mpu (binV .no .eql t44 t46) fun t47 =>
          R t47 h17) (
          Mpu (binV .no .eql t13 (.int .i64 4)) fun t49 =>
          Mcd t49 (
            Mcall prg f_anchor_Register_Settle [t0, t2] h1 fun t52 h18 =>
            Mcall prg f_syngraphlaw23_of [t2] h18 fun t55 h19 =>
            Mcall prg f_syngraphref23_Register_Settle [t1, t55] h19 fun t56 h20 =>
            Mpu (binV .no .eql t52 t56) fun t57 =>
            R t57 h20) (
            Mpu (binV .no .eql t13 (.int .i64 5)) fun t59 =>
            Mcd t59 (
              J1 (fun k21 =>
                Mpu (nck t1) fun t63 =>
                Mpu (fld 0 t63) fun t64 =>
                Mpu (ldN 33 h1 t64) fun t65 =>
                Mcall prg f_syngraphlaw23_of [t2] h1 fun t61 h23 =>
                Mre [(ldN 33 h23 t64, t65)] (
                Mpu (binV (eqK prg T_syngraphref23_Mark) .neq t61 t65) fun t66 =>
                Mcd t66 (
                  k21 (.int .i64 33) h23) (
                  k21 (.int .i64 0) h23))) fun t11_3 h22 =>
              Mcall prg f_anchor_Register_Audit [t0, t2] h22 fun t69 h24 =>
              Mpu (binV .no .eql t69 t11_3) fun t71 =>
              R t71 h24) (
              Mpu (binV .no .eql t13 (.int .i64 6)) fun t73 =>
              Mcd t73 (
                Mpu (fld 33 t7) fun t75 =>
                Mpu (ldN 36 h1 t75) fun t76 =>
                Mcall prg f_history_History_Append [t2, t76] h1 fun t77 h25 =>
                k2 h25) (
                k2 h1))))))) fun h3 =>
  R (.bool true) h3
theorem sh_syngraphlaw23_step_chk : fchkF prg [11] Tryz.f11 4 = true := by kernel_rfl
theorem sh_syngraphlaw23_step_den (t0 t1 t2 t3 : Value) (H : Heap) (R : Value → Heap → Prop) : fdenF prg [11] Tryz.f11 [t0, t1, t2, t3] H R = sh_syngraphlaw23_step t0 t1 t2 t3 H R := by kernel_rfl
theorem sh_syngraphlaw23_step_calls {t0 t1 t2 t3 : Value} {H : Heap} {R : Value → Heap → Prop} (h : sh_syngraphlaw23_step t0 t1 t2 t3 H R) : HCalls prg f_syngraphlaw23_step [t0, t1, t2, t3] H R :=
  calls_ofF Tryz.func11 sh_syngraphlaw23_step_chk (by rw [sh_syngraphlaw23_step_den]; exact h)

-- syngraph/syngraphlaw23.same
def sh_syngraphlaw23_same (t0 t1 : Value) (H : Heap) (R : Value → Heap → Prop) : Prop :=
  Mcall prg f_anchor_Register_Next [t0] H fun t10 h1 =>
  Mpu (extV 0 t10) fun t11 =>
  Mpu (extV 1 t10) fun t12 =>
  Mnew h1 T_anchor_Mark (zcells prg T_anchor_Mark) fun t5 h2 =>
  Mwr (stN 33 h2 t5 t11) fun h3 =>
  Mcall prg f_anchor_Register_Mark [t0] h3 fun t14 h4 =>
  Mnew h4 T_anchor_Mark (zcells prg T_anchor_Mark) fun t7 h5 =>
  Mwr (stN 33 h5 t7 t14) fun h6 =>
  Mpu (fld 0 t7) fun t15 =>
  Mpu (ld1 h6 t15) fun t16 =>
  Mpu (nck t1) fun t18 =>
  Mpu (fld 0 t18) fun t19 =>
  Mpu (fld 0 t19) fun t20 =>
  Mpu (ld1 h6 t20) fun t21 =>
  Mpu (binV .no .eql t16 t21) fun t22 =>
  J1 (fun k7 => Mif t22 true (
      Mpu (fld 1 t7) fun t24 =>
      Mpu (ldN 32 h6 t24) fun t25 =>
      Mpu (nck t1) fun t27 =>
      Mpu (fld 0 t27) fun t28 =>
      Mpu (fld 1 t28) fun t29 =>
      Mpu (ldN 32 h6 t29) fun t30 =>
      Mpu (binV (eqK prg T_sha_Hash) .eql t25 t30) fun t31 =>
      k7 t31 h6) (
      k7 undef h6)) fun t31_2 h8 =>
  Mpu (pickV t22 t31_2 (.bool false)) fun t32 =>
  J1 (fun k9 => Mif t32 true (
      Mpu (nck t1) fun t36 =>
      Mpu (fld 66 t36) fun t37 =>
      Mpu (ld1 h8 t37) fun t38 =>
      Mpu (binV .bool .eql t12 t38) fun t39 =>
      k9 t39 h8) (
      k9 undef h8)) fun t39_2 h10 =>
  Mpu (pickV t32 t39_2 (.bool false)) fun t40 =>
  J1 (fun k11 => Mif t40 true (
      Mpu (fld 0 t5) fun t42 =>
      Mpu (ld1 h10 t42) fun t43 =>
      Mpu (nck t1) fun t45 =>
      Mpu (fld 33 t45) fun t46 =>
      Mpu (fld 0 t46) fun t47 =>
      Mpu (ld1 h10 t47) fun t48 =>
      Mpu (binV .no .eql t43 t48) fun t49 =>
      k11 t49 h10) (
      k11 undef h10)) fun t49_2 h12 =>
  Mpu (pickV t40 t49_2 (.bool false)) fun t50 =>
  J1 (fun k13 => Mif t50 true (
      Mpu (fld 1 t5) fun t52 =>
      Mpu (ldN 32 h12 t52) fun t53 =>
      Mpu (nck t1) fun t55 =>
      Mpu (fld 33 t55) fun t56 =>
      Mpu (fld 1 t56) fun t57 =>
      Mpu (ldN 32 h12 t57) fun t58 =>
      Mpu (binV (eqK prg T_sha_Hash) .eql t53 t58) fun t59 =>
      k13 t59 h12) (
      k13 undef h12)) fun t59_2 h14 =>
  Mpu (pickV t50 t59_2 (.bool false)) fun t60 =>
  J1 (fun k15 => Mif t60 true (
      Mcall prg f_anchor_Register_Bytes [t0] h14 fun t63 h16 =>
      Mpu (b2s h16 t63) fun t64 =>
      Mcall prg f_syngraphlaw23_bytes [t1] h16 fun t66 h17 =>
      Mre [(b2s h17 t63, t64)] (
      Mpu (binV .no .eql t64 t66) fun t67 =>
      k15 t67 h17)) (
      k15 undef h14)) fun t67_2 h18 =>
  Mpu (pickV t60 t67_2 (.bool false)) fun t68 =>
  R t68 h18
theorem sh_syngraphlaw23_same_chk : fchkF prg [31, 39, 49, 59, 67] Tryz.f12 2 = true := by kernel_rfl
theorem sh_syngraphlaw23_same_den (t0 t1 : Value) (H : Heap) (R : Value → Heap → Prop) : fdenF prg [31, 39, 49, 59, 67] Tryz.f12 [t0, t1] H R = sh_syngraphlaw23_same t0 t1 H R := by kernel_rfl
theorem sh_syngraphlaw23_same_calls {t0 t1 : Value} {H : Heap} {R : Value → Heap → Prop} (h : sh_syngraphlaw23_same t0 t1 H R) : HCalls prg f_syngraphlaw23_same [t0, t1] H R :=
  calls_ofF Tryz.func12 sh_syngraphlaw23_same_chk (by rw [sh_syngraphlaw23_same_den]; exact h)

-- syngraph/anchor.Of
def sh_anchor_Of (t0 : Value) (H : Heap) (R : Value → Heap → Prop) : Prop :=
  Mnew H T_anchor_Mark (zcells prg T_anchor_Mark) fun t2 h1 =>
  Mcall prg f_history_History_Len [t0] h1 fun t4 h2 =>
  Mcall prg f_history_History_Top [t0] h2 fun t6 h3 =>
  Mpu (buildV prg T_anchor_Mark [(0, t4), (1, t6)]) fun t7 =>
  Mwr (stN 33 h3 t2 t7) fun h4 =>
  Mpu (ldN 33 h4 t2) fun r5 =>
  R r5 h4
theorem sh_anchor_Of_chk : fchkF prg [] Tryz.f13 1 = true := by kernel_rfl
theorem sh_anchor_Of_den (t0 : Value) (H : Heap) (R : Value → Heap → Prop) : fdenF prg [] Tryz.f13 [t0] H R = sh_anchor_Of t0 H R := by kernel_rfl
theorem sh_anchor_Of_calls {t0 : Value} {H : Heap} {R : Value → Heap → Prop} (h : sh_anchor_Of t0 H R) : HCalls prg f_anchor_Of [t0] H R :=
  calls_ofF Tryz.func13 sh_anchor_Of_chk (by rw [sh_anchor_Of_den]; exact h)

end Go.Proofs.YtdmciknajaedmaaGreatDoor
/- PRINTED: clean texts -/
namespace Go.Proofs.YtdmciknajaedmaaGreatDoor
open Go.X
set_option maxRecDepth 100000
-- (*syngraph/anchor.Register).Begin
def sh_anchor_Register_Begin (t0 t1 : Value) (H : Heap) (R : Value → Heap → Prop) : Prop :=
  Mnew H T_sha_Hash (some (Value.cells t1)) fun t3 h1 =>
  Mpu (nck t0) fun t6 =>
  Mpu (fld 66 t6) fun t7 =>
  Mpu (ld1 h1 t7) fun t8 =>
  Mcd t8 (
    R (.int .i64 50) h1) (
    Mpu (nck t0) fun t12 =>
    Mpu (fld 0 t12) fun t13 =>
    Mpu (fld 0 t13) fun t14 =>
    Mpu (ld1 h1 t14) fun t15 =>
    Mpu (binV .no .add t15 (.int .i64 1)) fun t16 =>
    Mpu (ldN 32 h1 t3) fun t17 =>
    Mpu (buildV prg T_anchor_Mark [(0, t16), (1, t17)]) fun t18 =>
    Mpu (nck t0) fun t19 =>
    Mpu (fld 33 t19) fun t20 =>
    Mwr (stN 33 h1 t20 t18) fun h2 =>
    Mpu (nck t0) fun t21 =>
    Mpu (fld 66 t21) fun t22 =>
    Mwr (st1 h2 t22 (.bool true)) fun h3 =>
    R (.int .i64 0) h3)
theorem sh_anchor_Register_Begin_chk : fchkF prg [] Tryz.f17 2 = true := by kernel_rfl
theorem sh_anchor_Register_Begin_den (t0 t1 : Value) (H : Heap) (R : Value → Heap → Prop) : fdenF prg [] Tryz.f17 [t0, t1] H R = sh_anchor_Register_Begin t0 t1 H R := by kernel_rfl
theorem sh_anchor_Register_Begin_calls {t0 t1 : Value} {H : Heap} {R : Value → Heap → Prop} (h : sh_anchor_Register_Begin t0 t1 H R) : HCalls prg f_anchor_Register_Begin [t0, t1] H R :=
  calls_ofF Tryz.func17 sh_anchor_Register_Begin_chk (by rw [sh_anchor_Register_Begin_den]; exact h)

-- (*syngraph/anchor.Register).End
def sh_anchor_Register_End (t0 : Value) (H : Heap) (R : Value → Heap → Prop) : Prop :=
  Mpu (nck t0) fun t4 =>
  Mpu (fld 66 t4) fun t5 =>
  Mpu (ld1 H t5) fun t6 =>
  Mpu (unV .not t6) fun t7 =>
  Mcd t7 (
    R (.int .i64 14) H) (
    Mpu (nck t0) fun t10 =>
    Mpu (fld 33 t10) fun t11 =>
    Mpu (ldN 33 H t11) fun t12 =>
    Mpu (nck t0) fun t13 =>
    Mpu (fld 0 t13) fun t14 =>
    Mwr (stN 33 H t14 t12) fun h1 =>
    Mcall prg f_anchor_Register_over [t0] h1 fun t16 h2 =>
    R (.int .i64 0) h2)
theorem sh_anchor_Register_End_chk : fchkF prg [] Tryz.f18 1 = true := by kernel_rfl
theorem sh_anchor_Register_End_den (t0 : Value) (H : Heap) (R : Value → Heap → Prop) : fdenF prg [] Tryz.f18 [t0] H R = sh_anchor_Register_End t0 H R := by kernel_rfl
theorem sh_anchor_Register_End_calls {t0 : Value} {H : Heap} {R : Value → Heap → Prop} (h : sh_anchor_Register_End t0 H R) : HCalls prg f_anchor_Register_End [t0] H R :=
  calls_ofF Tryz.func18 sh_anchor_Register_End_chk (by rw [sh_anchor_Register_End_den]; exact h)

-- (*syngraph/anchor.Register).Audit
def sh_anchor_Register_Audit (t0 t1 : Value) (H : Heap) (R : Value → Heap → Prop) : Prop :=
  Mpu (nck t0) fun t8 =>
  Mpu (fld 0 t8) fun t9 =>
  Mpu (ldN 33 H t9) fun t10 =>
  Mcall prg f_anchor_Of [t1] H fun t6 h1 =>
  Mre [(ldN 33 h1 t9, t10)] (
  Mpu (binV (eqK prg T_anchor_Mark) .neq t6 t10) fun t11 =>
  Mcd t11 (
    R (.int .i64 33) h1) (
    R (.int .i64 0) h1))
theorem sh_anchor_Register_Audit_chk : fchkF prg [] Tryz.f19 2 = true := by kernel_rfl
theorem sh_anchor_Register_Audit_den (t0 t1 : Value) (H : Heap) (R : Value → Heap → Prop) : fdenF prg [] Tryz.f19 [t0, t1] H R = sh_anchor_Register_Audit t0 t1 H R := by kernel_rfl
theorem sh_anchor_Register_Audit_calls {t0 t1 : Value} {H : Heap} {R : Value → Heap → Prop} (h : sh_anchor_Register_Audit t0 t1 H R) : HCalls prg f_anchor_Register_Audit [t0, t1] H R :=
  calls_ofF Tryz.func19 sh_anchor_Register_Audit_chk (by rw [sh_anchor_Register_Audit_den]; exact h)

-- (*syngraph/history.History).Equal
def sh_history_History_Equal (t0 t1 : Value) (H : Heap) (R : Value → Heap → Prop) : Prop :=
  Mpu (nck t0) fun t6 =>
  Mpu (fld 0 t6) fun t7 =>
  Mpu (ld1 H t7) fun t8 =>
  Mpu (nck t1) fun t10 =>
  Mpu (fld 0 t10) fun t11 =>
  Mpu (ld1 H t11) fun t12 =>
  Mcall prg f_slices_EqualFunc_S_history_Record_S_history_Record_history_R_94851 [t8, t12, (.func (.func f_history_Record_Equal) #[] #[])] H fun t13 h1 =>
  R t13 h1
theorem sh_history_History_Equal_chk : fchkF prg [] Tryz.f20 2 = true := by kernel_rfl
theorem sh_history_History_Equal_den (t0 t1 : Value) (H : Heap) (R : Value → Heap → Prop) : fdenF prg [] Tryz.f20 [t0, t1] H R = sh_history_History_Equal t0 t1 H R := by kernel_rfl
theorem sh_history_History_Equal_calls {t0 t1 : Value} {H : Heap} {R : Value → Heap → Prop} (h : sh_history_History_Equal t0 t1 H R) : HCalls prg f_history_History_Equal [t0, t1] H R :=
  calls_ofF Tryz.func20 sh_history_History_Equal_chk (by rw [sh_history_History_Equal_den]; exact h)

-- syngraph/history.Collide
def sh_history_Collide (t0 t1 : Value) (H : Heap) (R : Value → Heap → Prop) : Prop :=
  Mnew H T_P_history_History (some (Value.cells t0)) fun t2 h1 =>
  Mnew h1 T_P_history_History (some (Value.cells t1)) fun t3 h2 =>
  Mnew h2 T_collide_Collision (zcells prg T_collide_Collision) fun t4 h3 =>
  Mnew h3 T_bool (zcells prg T_bool) fun t5 h4 =>
  Mpu (ld1 h4 t2) fun t8 =>
  Mpu (ld1 h4 t3) fun t10 =>
  Mcall prg f_history_History_Len [t8] h4 fun t9 h5 =>
  Mre [(ld1 h5 t3, t10)] (
  Mcall prg f_history_History_Len [t10] h5 fun t11 h6 =>
  Mpu (binV .no .neq t9 t11) fun t12 =>
  J1 (fun k7 => Mif t12 false (
      Mpu (ld1 h6 t2) fun t14 =>
      Mpu (ld1 h6 t3) fun t16 =>
      Mcall prg f_history_History_Top [t14] h6 fun t15 h8 =>
      Mre [(ld1 h8 t3, t16)] (
      Mcall prg f_history_History_Top [t16] h8 fun t17 h9 =>
      Mpu (binV (eqK prg T_sha_Hash) .neq t15 t17) fun t18 =>
      k7 t18 h9)) (
      k7 undef h6)) fun t18_2 h10 =>
  Mpu (pickV t12 (.bool true) t18_2) fun t19 =>
  Mcd t19 (
    Mpu (buildV prg T_collide_Collision []) fun t20 =>
    Mwr (stN 2 h10 t4 t20) fun h11 =>
    Mwr (st1 h11 t5 (.bool false)) fun h12 =>
    Mcl H.size h12 fun h13 =>
    Mpu (ldN 2 h13 t4) fun r14 =>
    Mpu (ld1 h13 t5) fun r15 =>
    R (.tuple #[r14, r15]) h13) (
    Mpu (ld1 h10 t2) fun t21 =>
    Mpu (nck t21) fun t22 =>
    Mpu (fld 0 t22) fun t23 =>
    Mpu (ld1 h10 t23) fun t24 =>
    Mcall prg f_slices_Backward_S_history_Record_history_Record [t24] h10 fun t25 h16 =>
    Mrange prg H.size t25 h16 (fun a17 h18 k19 => a17.length = 2 ∧ (
        Mbeg (h16.size + 1) h18 fun h22 =>
        J1 (fun k23 =>
          Mpu (ld1 h22 t2) fun t28 =>
          Mpu (ld1 h22 t3) fun t31 =>
          ((
            Mcall prg f_history_History_input [t28, (a17.getD 0 undef)] h22 fun t30 h24 =>
            Mre [(ld1 h24 t3, t31)] (
            ((
              Mcall prg f_history_History_input [t31, (a17.getD 0 undef)] h24 fun t33 h25 =>
              Mpu (buildV prg T_collide_Collision [(0, t30), (1, t33)]) fun t34 =>
              Mnew h25 T_collide_Collision (zcells prg T_collide_Collision) fun t7 h26 =>
              Mre [(ld1 h26 t3, t31), (ld1 h26 t2, t28)] (
              Mwr (stN 2 h26 t7 t34) fun h27 =>
              k23 t7 h27)) ∧ (
              Mnew h24 T_collide_Collision (zcells prg T_collide_Collision) fun t7_2 h28 =>
              Mre [(ld1 h28 t3, t31), (ld1 h28 t2, t28)] (
              Mcall prg f_history_History_input [t31, (a17.getD 0 undef)] h28 fun t33_2 h29 =>
              Mpu (buildV prg T_collide_Collision [(0, t30), (1, t33_2)]) fun t34_2 =>
              Mwr (stN 2 h29 t7_2 t34_2) fun h30 =>
              k23 t7_2 h30))))) ∧ (
            Mnew h22 T_collide_Collision (zcells prg T_collide_Collision) fun t7_3 h31 =>
            Mre [(ld1 h31 t3, t31), (ld1 h31 t2, t28)] (
            Mcall prg f_history_History_input [t28, (a17.getD 0 undef)] h31 fun t30_2 h32 =>
            Mre [(ld1 h32 t3, t31)] (
            Mcall prg f_history_History_input [t31, (a17.getD 0 undef)] h32 fun t33_3 h33 =>
            Mpu (buildV prg T_collide_Collision [(0, t30_2), (1, t33_3)]) fun t34_3 =>
            Mwr (stN 2 h33 t7_3 t34_3) fun h34 =>
            k23 t7_3 h34))))) fun t7_4 h35 =>
        Mpu (ldN 2 h35 t7_4) fun t35 =>
        Mcall prg f_collide_Collision_Right [t35] h35 fun t36 h36 =>
        Mcd t36 (
          Mpu (ldN 2 h36 t7_4) fun t37 =>
          Mwr (stN 2 h36 t4 t37) fun h37 =>
          Mwr (st1 h37 t5 (.bool true)) fun h38 =>
          k19 (some Code.ret) h38) (
          k19 none h36))) fun j20 h21 =>
      (j20 = none ∧ (
        Mpu (buildV prg T_collide_Collision []) fun t38 =>
        Mwr (stN 2 h21 t4 t38) fun h39 =>
        Mwr (st1 h39 t5 (.bool false)) fun h40 =>
        Mcl H.size h40 fun h41 =>
        Mpu (ldN 2 h41 t4) fun r42 =>
        Mpu (ld1 h41 t5) fun r43 =>
        R (.tuple #[r42, r43]) h41)) ∨
      (j20 = some Code.ret ∧ (
        Mcl H.size h21 fun h44 =>
        Mpu (ldN 2 h44 t4) fun r45 =>
        Mpu (ld1 h44 t5) fun r46 =>
        R (.tuple #[r45, r46]) h44))))
theorem sh_history_Collide_chk : fchkF prg [7, 18] Tryz.f21 2 = true := by kernel_rfl
theorem sh_history_Collide_den (t0 t1 : Value) (H : Heap) (R : Value → Heap → Prop) : fdenF prg [7, 18] Tryz.f21 [t0, t1] H R = sh_history_Collide t0 t1 H R := by kernel_rfl
theorem sh_history_Collide_calls {t0 t1 : Value} {H : Heap} {R : Value → Heap → Prop} (h : sh_history_Collide t0 t1 H R) : HCalls prg f_history_Collide [t0, t1] H R :=
  calls_ofF Tryz.func21 sh_history_Collide_chk (by rw [sh_history_Collide_den]; exact h)

-- syngraph/sha.Sum
def sh_sha_Sum (t0 : Value) (H : Heap) (R : Value → Heap → Prop) : Prop :=
  Mnew H T_sha_Hash (zcells prg T_sha_Hash) fun t2 h1 =>
  Mcall prg f_sha_New [] h1 fun t4 h2 =>
  Mcall prg f_sha_Digest_Write [t4, t0] h2 fun t7 h3 =>
  Mcall prg f_sha_Digest_Sum [t4] h3 fun t9 h4 =>
  Mwr (stN 32 h4 t2 t9) fun h5 =>
  Mpu (ldN 32 h5 t2) fun r6 =>
  R r6 h5
theorem sh_sha_Sum_chk : fchkF prg [] Tryz.f22 1 = true := by kernel_rfl
theorem sh_sha_Sum_den (t0 : Value) (H : Heap) (R : Value → Heap → Prop) : fdenF prg [] Tryz.f22 [t0] H R = sh_sha_Sum t0 H R := by kernel_rfl
theorem sh_sha_Sum_calls {t0 : Value} {H : Heap} {R : Value → Heap → Prop} (h : sh_sha_Sum t0 H R) : HCalls prg f_sha_Sum [t0] H R :=
  calls_ofF Tryz.func22 sh_sha_Sum_chk (by rw [sh_sha_Sum_den]; exact h)

-- syngraph/syngraphref02.Bytes
def sh_syngraphref02_Bytes (t0 t1 : Value) (H : Heap) (R : Value → Heap → Prop) : Prop :=
  Mnews H T_uint8 1 (bslV prg T_uint8 1 [(0, t0)]) fun t9 h1 =>
  J2 (fun k2 =>
    L2 (fun k4 => fun t5_2 t6_2 h5 =>
      Mpu (lenV t1) fun t12 =>
      Mpu (binV .no .lss t6_2 t12) fun t13 =>
      Mcd t13 (
        J2 (fun k6 =>
          L2 (fun k8 => fun t5_3 t7_2 h9 =>
            Mpu (ixS 1 t1 t6_2) fun t19 =>
            Mpu (ld1 h9 t19) fun t20 =>
            Mpu (lenV t20) fun t21 =>
            Mpu (binV .no .lss t7_2 t21) fun t22 =>
            Mcd t22 (
              Mpu (ixS 1 t1 t6_2) fun t28 =>
              Mpu (ld1 h9 t28) fun t29 =>
              Mpu (ixS 1 t29 t7_2) fun t31 =>
              Mpu (ld1 h9 t31) fun t32 =>
              Mnews h9 T_uint8 1 (bslV prg T_uint8 1 [(0, t32)]) fun t33 h10 =>
              Mapp T_uint8 1 1 h10 t5_3 t33 fun t34 h11 =>
              Mpu (binV .no .add t7_2 (.int .i64 1)) fun t24 =>
              k8 t34 t24 h11) (
              k6 t5_3 t7_2 h9)) (t5_2) ((.int .i64 0)) h5) fun t5_5 t7_4 h7 =>
        Mpu (binV .no .add t6_2 (.int .i64 1)) fun t15 =>
        k4 t5_5 t15 h7) (
        k2 t5_2 t6_2 h5)) (t9) ((.int .i64 0)) h1) fun t5_6 t6_4 h3 =>
  R t5_6 h3
theorem sh_syngraphref02_Bytes_chk : fchkF prg [5, 6, 7] Tryz.f23 2 = true := by kernel_rfl
theorem sh_syngraphref02_Bytes_den (t0 t1 : Value) (H : Heap) (R : Value → Heap → Prop) : fdenF prg [5, 6, 7] Tryz.f23 [t0, t1] H R = sh_syngraphref02_Bytes t0 t1 H R := by kernel_rfl
theorem sh_syngraphref02_Bytes_calls {t0 t1 : Value} {H : Heap} {R : Value → Heap → Prop} (h : sh_syngraphref02_Bytes t0 t1 H R) : HCalls prg f_syngraphref02_Bytes [t0, t1] H R :=
  calls_ofF Tryz.func23 sh_syngraphref02_Bytes_chk (by rw [sh_syngraphref02_Bytes_den]; exact h)

-- syngraph/anchor.Parse
def sh_anchor_Parse (t0 : Value) (H : Heap) (R : Value → Heap → Prop) : Prop :=
  Mcall prg f_wire_NewIn [t0] H fun t7 h1 =>
  Mcall prg f_wire_In_Count [t7, (.int .i64 0), (.int .i64 1099511627776)] h1 fun t9 h2 =>
  Mpu (buildV prg T_anchor_Mark [(0, t9)]) fun t10 =>
  Mpu (buildV prg T_anchor_Register [(0, t10)]) fun t11 =>
  Mnew h2 T_anchor_Register (some (Value.cells t11)) fun t12 h3 =>
  Mcall prg f_wire_In_Hash [t7] h3 fun t15 h4 =>
  Mpu (nck t12) fun t16 =>
  Mpu (fld 0 t16) fun t17 =>
  Mpu (fld 1 t17) fun t18 =>
  Mwr (stN 32 h4 t18 t15) fun h5 =>
  J0 (fun k6 =>
    Mcall prg f_wire_In_Bool [t7] h5 fun t20 h8 =>
    Mcd t20 (
      Mcall prg f_wire_In_Hash [t7] h8 fun t23 h9 =>
      Mcall prg f_anchor_Register_Begin [t12, t23] h9 fun t24 h10 =>
      k6 h10) (
      k6 h8)) fun h7 =>
  Mcall prg f_wire_In_Done [t7] h7 fun t26 h11 =>
  Mpu (unV .not t26) fun t27 =>
  Mcd t27 (
    R (.tuple #[(.pointer none), (.int .i64 10)]) h11) (
    R (.tuple #[t12, (.int .i64 0)]) h11)
theorem sh_anchor_Parse_chk : fchkF prg [] Tryz.f24 1 = true := by kernel_rfl
theorem sh_anchor_Parse_den (t0 : Value) (H : Heap) (R : Value → Heap → Prop) : fdenF prg [] Tryz.f24 [t0] H R = sh_anchor_Parse t0 H R := by kernel_rfl
theorem sh_anchor_Parse_calls {t0 : Value} {H : Heap} {R : Value → Heap → Prop} (h : sh_anchor_Parse t0 H R) : HCalls prg f_anchor_Parse [t0] H R :=
  calls_ofF Tryz.func24 sh_anchor_Parse_chk (by rw [sh_anchor_Parse_den]; exact h)

-- (*syngraph/anchor.Register).Bytes
def sh_anchor_Register_Bytes (t0 : Value) (H : Heap) (R : Value → Heap → Prop) : Prop :=
  Mpu (buildV prg T_wire_Out []) fun t4 =>
  Mnew H T_wire_Out (some (Value.cells t4)) fun t5 h1 =>
  Mpu (nck t0) fun t8 =>
  Mpu (fld 0 t8) fun t9 =>
  Mpu (fld 0 t9) fun t10 =>
  Mpu (ld1 h1 t10) fun t11 =>
  Mpu (nck t0) fun t14 =>
  Mpu (fld 0 t14) fun t15 =>
  Mpu (fld 1 t15) fun t16 =>
  Mpu (ldN 32 h1 t16) fun t17 =>
  Mpu (nck t0) fun t20 =>
  Mpu (fld 66 t20) fun t21 =>
  Mpu (ld1 h1 t21) fun t22 =>
  Mcall prg f_wire_Out_Int [t5, t11] h1 fun t12 h2 =>
  Mre [(ld1 h2 t21, t22), (ldN 32 h2 t16, t17)] (
  Mcall prg f_wire_Out_Hash [t12, t17] h2 fun t18 h3 =>
  Mre [(ld1 h3 t21, t22)] (
  Mcall prg f_wire_Out_Bool [t18, t22] h3 fun t23 h4 =>
  J0 (fun k5 =>
    Mpu (nck t0) fun t25 =>
    Mpu (fld 66 t25) fun t26 =>
    Mpu (ld1 h4 t26) fun t27 =>
    Mcd t27 (
      Mpu (nck t0) fun t30 =>
      Mpu (fld 33 t30) fun t31 =>
      Mpu (fld 1 t31) fun t32 =>
      Mpu (ldN 32 h4 t32) fun t33 =>
      Mcall prg f_wire_Out_Hash [t5, t33] h4 fun t34 h7 =>
      k5 h7) (
      k5 h4)) fun h6 =>
  Mcall prg f_wire_Out_All [t5] h6 fun t36 h8 =>
  R t36 h8))
theorem sh_anchor_Register_Bytes_chk : fchkF prg [] Tryz.f25 1 = true := by kernel_rfl
theorem sh_anchor_Register_Bytes_den (t0 : Value) (H : Heap) (R : Value → Heap → Prop) : fdenF prg [] Tryz.f25 [t0] H R = sh_anchor_Register_Bytes t0 H R := by kernel_rfl
theorem sh_anchor_Register_Bytes_calls {t0 : Value} {H : Heap} {R : Value → Heap → Prop} (h : sh_anchor_Register_Bytes t0 H R) : HCalls prg f_anchor_Register_Bytes [t0] H R :=
  calls_ofF Tryz.func25 sh_anchor_Register_Bytes_chk (by rw [sh_anchor_Register_Bytes_den]; exact h)

-- (*syngraph/anchor.Register).Copy
def sh_anchor_Register_Copy (t0 : Value) (H : Heap) (R : Value → Heap → Prop) : Prop :=
  Mpu (nck t0) fun t5 =>
  Mpu (ldN 67 H t5) fun t6 =>
  Mnew H T_anchor_Register (zcells prg T_anchor_Register) fun t3 h1 =>
  Mwr (stN 67 h1 t3 t6) fun h2 =>
  R t3 h2
theorem sh_anchor_Register_Copy_chk : fchkF prg [] Tryz.f26 1 = true := by kernel_rfl
theorem sh_anchor_Register_Copy_den (t0 : Value) (H : Heap) (R : Value → Heap → Prop) : fdenF prg [] Tryz.f26 [t0] H R = sh_anchor_Register_Copy t0 H R := by kernel_rfl
theorem sh_anchor_Register_Copy_calls {t0 : Value} {H : Heap} {R : Value → Heap → Prop} (h : sh_anchor_Register_Copy t0 H R) : HCalls prg f_anchor_Register_Copy [t0] H R :=
  calls_ofF Tryz.func26 sh_anchor_Register_Copy_chk (by rw [sh_anchor_Register_Copy_den]; exact h)

end Go.Proofs.YtdmciknajaedmaaGreatDoor
