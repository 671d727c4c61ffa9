/- JOINED: Sj0 Sj1 Sz -/
import Derived.Test.YtdmciknajaedmaaDoorGE
import Derived.Test.YtdmciknajaedmaaDoorGF
import Derived.Test.YtdmciknajaedmaaDoorGG
import Derived.Test.YtdmciknajaedmaaDoorGS
import Derived.Test.YtdmciknajaedmaaDoorGR
set_option linter.unusedSimpArgs false
set_option linter.unusedVariables false
/- PRINTED: clean texts -/
namespace Go.Proofs.YtdmciknajaedmaaDoor
open Go.X
set_option maxRecDepth 100000
-- syngraph/syngraphlaw23.AnchorCrashes
def sh_syngraphlaw23_AnchorCrashes (t0 t1 t2 : Value) (H : Heap) (R : Value → Heap → Prop) : Prop :=
  Mnew H T_history_Record (some (Value.cells t1)) fun t4 h1 =>
  Mpu (binV .no .rem t2 (.int .i64 2)) fun t21 =>
  Mpu (binV .no .neq t21 (.int .i64 0)) fun t22 =>
  Mpu (binV .no .quo t2 (.int .i64 2)) fun t24 =>
  Mpu (binV .no .rem t24 (.int .i64 2)) fun t25 =>
  Mpu (binV .no .neq t25 (.int .i64 0)) fun t26 =>
  J4 (fun k2 =>
    J3 (fun k4 =>
      Mpu (ldN 36 h1 t4) fun t30 =>
      ((
        Mnews h1 T_history_Record 0 (bslV prg T_history_Record 0 []) fun t27 h5 =>
        Mre [(ldN 36 h5 t4, t30)] (
        ((
          Mapp T_history_Record 36 96 h5 t27 t0 fun t29 h6 =>
          Mre [(ldN 36 h6 t4, t30)] (
          Mnews h6 T_history_Record 1 (bslV prg T_history_Record 1 [(0, t30)]) fun t31 h7 =>
          Mapp T_history_Record 36 96 h7 t29 t31 fun t32 h8 =>
          Mpu (lenV t32) fun t33 =>
          k4 t32 t33 (.int .i64 0) h8)) ∧ (
          Mnews h5 T_history_Record 1 (bslV prg T_history_Record 1 [(0, t30)]) fun t31_2 h9 =>
          Mapp T_history_Record 36 96 h9 t27 t0 fun t29_2 h10 =>
          Mre [(ldN 36 h10 t4, t30)] (
          Mapp T_history_Record 36 96 h10 t29_2 t31_2 fun t32_2 h11 =>
          Mpu (lenV t32_2) fun t33_2 =>
          k4 t32_2 t33_2 (.int .i64 0) h11))))) ∧ (
        Mnews h1 T_history_Record 1 (bslV prg T_history_Record 1 [(0, t30)]) fun t31_3 h12 =>
        Mnews h12 T_history_Record 0 (bslV prg T_history_Record 0 []) fun t27_2 h13 =>
        Mre [(ldN 36 h13 t4, t30)] (
        Mapp T_history_Record 36 96 h13 t27_2 t0 fun t29_3 h14 =>
        Mre [(ldN 36 h14 t4, t30)] (
        Mapp T_history_Record 36 96 h14 t29_3 t31_3 fun t32_3 h15 =>
        Mpu (lenV t32_3) fun t33_3 =>
        k4 t32_3 t33_3 (.int .i64 0) h15))))) fun t32_4 t33_4 t34_2 h16 =>
    L2 (fun k17 => fun t9_2 t34_3 h18 =>
      Mpu (binV .no .lss t34_3 t33_4) fun t35 =>
      Mcd t35 (
        Mpu (ixS 36 t32_4 t34_3) fun t36 =>
        Mpu (ldN 36 h18 t36) fun t37 =>
        Mnew h18 T_history_Record (zcells prg T_history_Record) fun t11 h19 =>
        Mwr (stN 36 h19 t11 t37) fun h20 =>
        Mpu (ldN 36 h20 t11) fun t39 =>
        Mpu (buildV prg T_syngraphlaw23_Op [(2, t39)]) fun t40 =>
        Mnews h20 T_syngraphlaw23_Op 1 (bslV prg T_syngraphlaw23_Op 1 [(0, t40)]) fun t41 h21 =>
        Mapp T_syngraphlaw23_Op 69 136 h21 t9_2 t41 fun t42 h22 =>
        Mpu (binV .no .add t34_3 (.int .i64 1)) fun t43 =>
        k17 t42 t43 h22) (
        k2 t9_2 t32_4 t33_4 t34_3 h18)) ((.slice none 0 0)) (t34_2) h16) fun t9_4 t32_5 t33_5 t34_5 h3 =>
  Mcall prg f_syngraphlaw23_small [t9_4] h3 fun t45 h23 =>
  Mpu (unV .not t45) fun t46 =>
  Mcd t46 (
    Mcall prg f_syngraphlaw23_awake [] h23 fun t47 h24 =>
    R t47 h24) (
    Mcall prg f_anchor_New [] h23 fun t48 h25 =>
    Mcall prg f_history_New [] h25 fun t49 h26 =>
    Mpu (binV .ptr .eql t48 (.pointer none)) fun t51 =>
    J1 (fun k27 => Mif t51 false (
        Mpu (binV .ptr .eql t49 (.pointer none)) fun t54 =>
        k27 t54 h26) (
        k27 undef h26)) fun t54_2 h28 =>
    Mpu (pickV t51 (.bool true) t54_2) fun t55 =>
    Mcd t55 (
      R (.bool false) h28) (
      J1 (fun k29 =>
        Mpu (lenV t0) fun t57 =>
        L1 (fun k31 => fun t58_2 h32 =>
          Mpu (binV .no .lss t58_2 t57) fun t59 =>
          Mcd t59 (
            J0 (fun k33 =>
              Mpu (ixS 36 t0 t58_2) fun t60 =>
              Mpu (ldN 36 h32 t60) fun t61 =>
              Mnew h32 T_history_Record (zcells prg T_history_Record) fun t15 h35 =>
              Mwr (stN 36 h35 t15 t61) fun h36 =>
              Mcall prg f_history_History_Copy [t49] h36 fun t63 h37 =>
              Mpu (ldN 36 h37 t15) fun t65 =>
              Mcall prg f_history_History_Append [t63, t65] h37 fun t66 h38 =>
              Mpu (binV .no .neq t66 (.int .i64 0)) fun t67 =>
              Mcd t67 (
                k33 h38) (
                Mcall prg f_history_History_Top [t63] h38 fun t70 h39 =>
                Mcall prg f_anchor_Register_Begin [t48, t70] h39 fun t71 h40 =>
                Mpu (binV .no .neq t71 (.int .i64 0)) fun t72 =>
                J1 (fun k41 => Mif t72 false (
                    Mpu (ldN 36 h40 t15) fun t75 =>
                    Mcall prg f_history_History_Append [t49, t75] h40 fun t76 h42 =>
                    Mpu (binV .no .neq t76 (.int .i64 0)) fun t77 =>
                    k41 t77 h42) (
                    k41 undef h40)) fun t77_2 h43 =>
                Mpu (pickV t72 (.bool true) t77_2) fun t78 =>
                J1 (fun k44 => Mif t78 false (
                    Mcall prg f_anchor_Register_End [t48] h43 fun t81 h45 =>
                    Mpu (binV .no .neq t81 (.int .i64 0)) fun t82 =>
                    k44 t82 h45) (
                    k44 undef h43)) fun t82_2 h46 =>
                Mpu (pickV t78 (.bool true) t82_2) fun t83 =>
                J1 (fun k47 => Mif t83 false (
                    Mcall prg f_anchor_Register_Audit [t48, t49] h46 fun t87 h48 =>
                    Mpu (binV .no .neq t87 (.int .i64 0)) fun t88 =>
                    k47 t88 h48) (
                    k47 undef h46)) fun t88_2 h49 =>
                Mpu (pickV t83 (.bool true) t88_2) fun t89 =>
                Mcd t89 (
                  R (.bool false) h49) (
                  k33 h49))) fun h34 =>
            Mpu (binV .no .add t58_2 (.int .i64 1)) fun t90 =>
            k31 t90 h34) (
            k29 t58_2 h32)) ((.int .i64 0)) h28) fun t58_4 h30 =>
      Mcall prg f_history_History_Now [t49] h30 fun t92 h50 =>
      Mpu (fld 1 t4) fun t93 =>
      Mwr (st1 h50 t93 t92) fun h51 =>
      Mcall prg f_history_History_Copy [t49] h51 fun t95 h52 =>
      Mpu (ldN 36 h52 t4) fun t97 =>
      Mcall prg f_history_History_Append [t95, t97] h52 fun t98 h53 =>
      Mpu (binV .no .neq t98 (.int .i64 0)) fun t99 =>
      Mcd t99 (
        Mcall prg f_syngraphlaw23_awake [] h53 fun t100 h54 =>
        R t100 h54) (
        Mcall prg f_history_History_Top [t95] h53 fun t103 h55 =>
        Mcall prg f_anchor_Register_Begin [t48, t103] h55 fun t104 h56 =>
        Mpu (binV .no .neq t104 (.int .i64 0)) fun t105 =>
        Mcd t105 (
          R (.bool false) h56) (
          J1 (fun k57 =>
            Mcd t22 (
              J1 (fun k59 => Mif t26 true (
                  Mcall prg f_anchor_Register_End [t48] h56 fun t111 h60 =>
                  Mpu (binV .no .neq t111 (.int .i64 0)) fun t112 =>
                  k59 t112 h60) (
                  k59 undef h56)) fun t112_2 h61 =>
              Mpu (pickV t26 t112_2 (.bool false)) fun t113 =>
              Mcd t113 (
                R (.bool false) h61) (
                k57 t95 h61)) (
              k57 t49 h56)) fun t13_3 h58 =>
          Mcall prg f_anchor_Register_Settle [t48, t13_3] h58 fun t116 h62 =>
          Mpu (binV .no .neq t116 (.int .i64 0)) fun t117 =>
          J1 (fun k63 => Mif t117 false (
              Mcall prg f_anchor_Register_Settle [t48, t13_3] h62 fun t121 h64 =>
              Mpu (binV .no .neq t121 (.int .i64 0)) fun t122 =>
              k63 t122 h64) (
              k63 undef h62)) fun t122_2 h65 =>
          Mpu (pickV t117 (.bool true) t122_2) fun t123 =>
          J1 (fun k66 => Mif t123 false (
              Mcall prg f_anchor_Register_Audit [t48, t13_3] h65 fun t127 h67 =>
              Mpu (binV .no .neq t127 (.int .i64 0)) fun t128 =>
              k66 t128 h67) (
              k66 undef h65)) fun t128_2 h68 =>
          Mpu (pickV t123 (.bool true) t128_2) fun t129 =>
          J1 (fun k69 => Mif t129 false (
              Mcall prg f_anchor_Register_Mark [t48] h68 fun t132 h70 =>
              Mcall prg f_anchor_Of [t13_3] h70 fun t134 h71 =>
              Mpu (binV (eqK prg T_anchor_Mark) .neq t132 t134) fun t135 =>
              k69 t135 h71) (
              k69 undef h68)) fun t135_2 h72 =>
          Mpu (pickV t129 (.bool true) t135_2) fun t136 =>
          Mcd t136 (
            R (.bool false) h72) (
            Mcall prg f_anchor_Register_Next [t48] h72 fun t139 h73 =>
            Mpu (extV 0 t139) fun t140 =>
            Mpu (extV 1 t139) fun t141 =>
            Mnew h73 T_anchor_Mark (zcells prg T_anchor_Mark) fun t18 h74 =>
            Mwr (stN 33 h74 t18 t140) fun h75 =>
            Mpu (unV .not t141) fun t143 =>
            J1 (fun k76 => Mif t143 true (
                Mcall prg f_syngraphlaw23_awake [] h75 fun t145 h77 =>
                k76 t145 h77) (
                k76 undef h75)) fun t145_2 h78 =>
            Mpu (pickV t143 t145_2 (.bool false)) fun t146 =>
            R t146 h78)))))
theorem sh_syngraphlaw23_AnchorCrashes_chk : fchkF prg [9, 13, 32, 33, 34, 54, 58, 77, 82, 88, 112, 122, 128, 135, 145] Tryd.f3 3 = true := by kernel_rfl
theorem sh_syngraphlaw23_AnchorCrashes_den (t0 t1 t2 : Value) (H : Heap) (R : Value → Heap → Prop) : fdenF prg [9, 13, 32, 33, 34, 54, 58, 77, 82, 88, 112, 122, 128, 135, 145] Tryd.f3 [t0, t1, t2] H R = sh_syngraphlaw23_AnchorCrashes t0 t1 t2 H R := by kernel_rfl
theorem sh_syngraphlaw23_AnchorCrashes_calls {t0 t1 t2 : Value} {H : Heap} {R : Value → Heap → Prop} (h : sh_syngraphlaw23_AnchorCrashes t0 t1 t2 H R) : HCalls prg f_syngraphlaw23_AnchorCrashes [t0, t1, t2] H R :=
  calls_ofF Tryd.func3 sh_syngraphlaw23_AnchorCrashes_chk (by rw [sh_syngraphlaw23_AnchorCrashes_den]; exact h)

-- syngraph/syngraphlaw23.small
def sh_syngraphlaw23_small (t0 : Value) (H : Heap) (R : Value → Heap → Prop) : Prop :=
  J1 (fun k1 =>
    Mpu (lenV t0) fun t8 =>
    L1 (fun k3 => fun t9_2 h4 =>
      Mpu (binV .no .lss t9_2 t8) fun t10 =>
      Mcd t10 (
        J2 (fun k5 =>
          Mpu (ixS 69 t0 t9_2) fun t11 =>
          Mpu (ldN 69 h4 t11) fun t12 =>
          Mnew h4 T_syngraphlaw23_Op (zcells prg T_syngraphlaw23_Op) fun t4 h7 =>
          Mwr (stN 69 h7 t4 t12) fun h8 =>
          Mpu (fld 33 t4) fun t13 =>
          Mpu (fld 1 t13) fun t14 =>
          Mpu (ld1 h8 t14) fun t15 =>
          Mpu (lenV t15) fun t16 =>
          Mpu (binV .no .gtr t16 (.int .i64 8)) fun t17 =>
          J1 (fun k9 => Mif t17 false (
              Mpu (fld 33 t4) fun t19 =>
              Mpu (fld 2 t19) fun t20 =>
              Mpu (ld1 h8 t20) fun t21 =>
              Mpu (lenV t21) fun t22 =>
              Mpu (binV .no .gtr t22 (.int .i64 8)) fun t23 =>
              k9 t23 h8) (
              k9 undef h8)) fun t23_2 h10 =>
          Mpu (pickV t17 (.bool true) t23_2) fun t24 =>
          Mcd t24 (
            R (.bool false) h10) (
            Mpu (fld 33 t4) fun t26 =>
            Mpu (fld 1 t26) fun t27 =>
            Mpu (ld1 h10 t27) fun t28 =>
            Mpu (fld 33 t4) fun t30 =>
            Mpu (fld 2 t30) fun t31 =>
            Mpu (ld1 h10 t31) fun t32 =>
            Mnews h10 T_history_Item 0 (bslV prg T_history_Item 0 []) fun t25 h11 =>
            Mre [(ld1 h11 t31, t32), (ld1 h11 t27, t28)] (
            Mapp T_history_Item 37 88 h11 t25 t28 fun t29 h12 =>
            Mre [(ld1 h12 t31, t32)] (
            Mapp T_history_Item 37 88 h12 t29 t32 fun t33 h13 =>
            Mpu (lenV t33) fun t34 =>
            L1 (fun k14 => fun t35_2 h15 =>
              Mpu (binV .no .lss t35_2 t34) fun t36 =>
              Mcd t36 (
                Mpu (ixS 37 t33 t35_2) fun t37 =>
                Mpu (ldN 37 h15 t37) fun t38 =>
                Mnew h15 T_history_Item (zcells prg T_history_Item) fun t6 h16 =>
                Mwr (stN 37 h16 t6 t38) fun h17 =>
                Mpu (fld 0 t6) fun t39 =>
                Mpu (ld1 h17 t39) fun t40 =>
                Mpu (lenT t40) fun t41 =>
                Mpu (binV .no .gtr t41 (.int .i64 50)) fun t42 =>
                J1 (fun k18 => Mif t42 false (
                    Mpu (fld 1 t6) fun t44 =>
                    Mpu (fld 3 t44) fun t45 =>
                    Mpu (ld1 h17 t45) fun t46 =>
                    Mpu (lenT t46) fun t47 =>
                    Mpu (binV .no .gtr t47 (.int .i64 50)) fun t48 =>
                    k18 t48 h17) (
                    k18 undef h17)) fun t48_2 h19 =>
                Mpu (pickV t42 (.bool true) t48_2) fun t49 =>
                Mcd t49 (
                  R (.bool false) h19) (
                  Mpu (binV .no .add t35_2 (.int .i64 1)) fun t50 =>
                  k14 t50 h19)) (
                k5 t23_2 t35_2 h15)) ((.int .i64 0)) h13)))) fun t23_3 t35_4 h6 =>
        Mpu (binV .no .add t9_2 (.int .i64 1)) fun t51 =>
        k3 t51 h6) (
        k1 t9_2 h4)) ((.int .i64 0)) H) fun t9_4 h2 =>
  Mpu (lenV t0) fun t53 =>
  Mpu (binV .no .leq t53 (.int .i64 40)) fun t54 =>
  R t54 h2
theorem sh_syngraphlaw23_small_chk : fchkF prg [9, 23, 35, 48] Tryd.f4 1 = true := by kernel_rfl
theorem sh_syngraphlaw23_small_den (t0 : Value) (H : Heap) (R : Value → Heap → Prop) : fdenF prg [9, 23, 35, 48] Tryd.f4 [t0] H R = sh_syngraphlaw23_small t0 H R := by kernel_rfl
theorem sh_syngraphlaw23_small_calls {t0 : Value} {H : Heap} {R : Value → Heap → Prop} (h : sh_syngraphlaw23_small t0 H R) : HCalls prg f_syngraphlaw23_small [t0] H R :=
  calls_ofF Tryd.func4 sh_syngraphlaw23_small_chk (by rw [sh_syngraphlaw23_small_den]; exact h)

-- syngraph/syngraphlaw23.awake
def sh_syngraphlaw23_awake (H : Heap) (R : Value → Heap → Prop) : Prop :=
  Mcall prg f_anchor_New [] H fun t3 h1 =>
  Mcall prg f_history_New [] h1 fun t4 h2 =>
  Mpu (binV .ptr .neq t3 (.pointer none)) fun t6 =>
  J1 (fun k3 => Mif t6 true (
      Mpu (binV .ptr .neq t4 (.pointer none)) fun t9 =>
      k3 t9 h2) (
      k3 undef h2)) fun t9_2 h4 =>
  Mpu (pickV t6 t9_2 (.bool false)) fun t10 =>
  J1 (fun k5 => Mif t10 true (
      Mcall prg f_anchor_Register_Audit [t3, t4] h4 fun t14 h6 =>
      Mpu (binV .no .eql t14 (.int .i64 0)) fun t15 =>
      k5 t15 h6) (
      k5 undef h4)) fun t15_2 h7 =>
  Mpu (pickV t10 t15_2 (.bool false)) fun t16 =>
  J1 (fun k8 => Mif t16 true (
      Mpu (buildV prg T_sha_Hash [(0, (.int .u8 1))]) fun t19 =>
      Mcall prg f_anchor_Register_Begin [t3, t19] h7 fun t20 h9 =>
      Mpu (binV .no .eql t20 (.int .i64 0)) fun t21 =>
      k8 t21 h9) (
      k8 undef h7)) fun t21_2 h10 =>
  Mpu (pickV t16 t21_2 (.bool false)) fun t22 =>
  J1 (fun k11 => Mif t22 true (
      Mpu (buildV prg T_sha_Hash [(0, (.int .u8 1))]) fun t25 =>
      Mcall prg f_anchor_Register_Begin [t3, t25] h10 fun t26 h12 =>
      Mpu (binV .no .eql t26 (.int .i64 50)) fun t27 =>
      k11 t27 h12) (
      k11 undef h10)) fun t27_2 h13 =>
  Mpu (pickV t22 t27_2 (.bool false)) fun t28 =>
  J1 (fun k14 => Mif t28 true (
      Mcall prg f_anchor_Register_End [t3] h13 fun t31 h15 =>
      Mpu (binV .no .eql t31 (.int .i64 0)) fun t32 =>
      k14 t32 h15) (
      k14 undef h13)) fun t32_2 h16 =>
  Mpu (pickV t28 t32_2 (.bool false)) fun t33 =>
  J1 (fun k17 => Mif t33 true (
      Mcall prg f_anchor_Register_End [t3] h16 fun t36 h18 =>
      Mpu (binV .no .eql t36 (.int .i64 14)) fun t37 =>
      k17 t37 h18) (
      k17 undef h16)) fun t37_2 h19 =>
  Mpu (pickV t33 t37_2 (.bool false)) fun t38 =>
  J1 (fun k20 => Mif t38 true (
      Mcall prg f_anchor_Register_Audit [t3, t4] h19 fun t42 h21 =>
      Mpu (binV .no .eql t42 (.int .i64 33)) fun t43 =>
      k20 t43 h21) (
      k20 undef h19)) fun t43_2 h22 =>
  Mpu (pickV t38 t43_2 (.bool false)) fun t44 =>
  J1 (fun k23 => Mif t44 true (
      Mcall prg f_anchor_Register_Mark [t3] h22 fun t47 h24 =>
      Mpu (partV false 1 0 t47) fun t48 =>
      Mpu (binV .no .eql t48 (.int .i64 1)) fun t49 =>
      k23 t49 h24) (
      k23 undef h22)) fun t49_2 h25 =>
  Mpu (pickV t44 t49_2 (.bool false)) fun t50 =>
  R t50 h25
theorem sh_syngraphlaw23_awake_chk : fchkF prg [9, 15, 21, 27, 32, 37, 43, 49] Tryd.f5 0 = true := by kernel_rfl
theorem sh_syngraphlaw23_awake_den (H : Heap) (R : Value → Heap → Prop) : fdenF prg [9, 15, 21, 27, 32, 37, 43, 49] Tryd.f5 [] H R = sh_syngraphlaw23_awake H R := by kernel_rfl
theorem sh_syngraphlaw23_awake_calls {H : Heap} {R : Value → Heap → Prop} (h : sh_syngraphlaw23_awake H R) : HCalls prg f_syngraphlaw23_awake [] H R :=
  calls_ofF Tryd.func5 sh_syngraphlaw23_awake_chk (by rw [sh_syngraphlaw23_awake_den]; exact h)

-- syngraph/anchor.New
def sh_anchor_New (H : Heap) (R : Value → Heap → Prop) : Prop :=
  Mpu (buildV prg T_anchor_Register []) fun t1 =>
  Mnew H T_anchor_Register (some (Value.cells t1)) fun t2 h1 =>
  R t2 h1
theorem sh_anchor_New_chk : fchkF prg [] Tryd.f6 0 = true := by kernel_rfl
theorem sh_anchor_New_den (H : Heap) (R : Value → Heap → Prop) : fdenF prg [] Tryd.f6 [] H R = sh_anchor_New H R := by kernel_rfl
theorem sh_anchor_New_calls {H : Heap} {R : Value → Heap → Prop} (h : sh_anchor_New H R) : HCalls prg f_anchor_New [] H R :=
  calls_ofF Tryd.func6 sh_anchor_New_chk (by rw [sh_anchor_New_den]; exact h)

-- (*syngraph/history.History).Copy
def sh_history_History_Copy (t0 : Value) (H : Heap) (R : Value → Heap → Prop) : Prop :=
  Mpu (nck t0) fun t4 =>
  Mpu (fld 0 t4) fun t5 =>
  Mpu (ld1 H t5) fun t6 =>
  Mpu (nck t0) fun t9 =>
  Mpu (fld 1 t9) fun t10 =>
  Mpu (ld1 H t10) fun t11 =>
  Mcall prg f_slices_Clone_S_history_Record_history_Record [t6] H fun t7 h1 =>
  Mre [(ld1 h1 t10, t11)] (
  Mcall prg f_slices_Clone_S_sha_Hash_sha_Hash [t11] h1 fun t12 h2 =>
  Mpu (buildV prg T_history_History [(0, t7), (1, t12)]) fun t13 =>
  Mnew h2 T_history_History (some (Value.cells t13)) fun t14 h3 =>
  R t14 h3)
theorem sh_history_History_Copy_chk : fchkF prg [] Tryd.f8 1 = true := by kernel_rfl
theorem sh_history_History_Copy_den (t0 : Value) (H : Heap) (R : Value → Heap → Prop) : fdenF prg [] Tryd.f8 [t0] H R = sh_history_History_Copy t0 H R := by kernel_rfl
theorem sh_history_History_Copy_calls {t0 : Value} {H : Heap} {R : Value → Heap → Prop} (h : sh_history_History_Copy t0 H R) : HCalls prg f_history_History_Copy [t0] H R :=
  calls_ofF Tryd.func8 sh_history_History_Copy_chk (by rw [sh_history_History_Copy_den]; exact h)

-- (*syngraph/anchor.Register).Begin
def sh_anchor_Register_Begin (t0 t1 : Value) (H : Heap) (R : Value → Heap → Prop) : Prop :=
  Mnew H T_sha_Hash (some (Value.cells t1)) fun t3 h1 =>
  Mpu (nck t0) fun t6 =>
  Mpu (fld 66 t6) fun t7 =>
  Mpu (ld1 h1 t7) fun t8 =>
  Mcd t8 (
    R (.int .i64 50) h1) (
    Mpu (nck t0) fun t12 =>
    Mpu (fld 0 t12) fun t13 =>
    Mpu (fld 0 t13) fun t14 =>
    Mpu (ld1 h1 t14) fun t15 =>
    Mpu (binV .no .add t15 (.int .i64 1)) fun t16 =>
    Mpu (ldN 32 h1 t3) fun t17 =>
    Mpu (buildV prg T_anchor_Mark [(0, t16), (1, t17)]) fun t18 =>
    Mpu (nck t0) fun t19 =>
    Mpu (fld 33 t19) fun t20 =>
    Mwr (stN 33 h1 t20 t18) fun h2 =>
    Mpu (nck t0) fun t21 =>
    Mpu (fld 66 t21) fun t22 =>
    Mwr (st1 h2 t22 (.bool true)) fun h3 =>
    R (.int .i64 0) h3)
theorem sh_anchor_Register_Begin_chk : fchkF prg [] Tryd.f10 2 = true := by kernel_rfl
theorem sh_anchor_Register_Begin_den (t0 t1 : Value) (H : Heap) (R : Value → Heap → Prop) : fdenF prg [] Tryd.f10 [t0, t1] H R = sh_anchor_Register_Begin t0 t1 H R := by kernel_rfl
theorem sh_anchor_Register_Begin_calls {t0 t1 : Value} {H : Heap} {R : Value → Heap → Prop} (h : sh_anchor_Register_Begin t0 t1 H R) : HCalls prg f_anchor_Register_Begin [t0, t1] H R :=
  calls_ofF Tryd.func10 sh_anchor_Register_Begin_chk (by rw [sh_anchor_Register_Begin_den]; exact h)

-- (*syngraph/anchor.Register).End
def sh_anchor_Register_End (t0 : Value) (H : Heap) (R : Value → Heap → Prop) : Prop :=
  Mpu (nck t0) fun t4 =>
  Mpu (fld 66 t4) fun t5 =>
  Mpu (ld1 H t5) fun t6 =>
  Mpu (unV .not t6) fun t7 =>
  Mcd t7 (
    R (.int .i64 14) H) (
    Mpu (nck t0) fun t10 =>
    Mpu (fld 33 t10) fun t11 =>
    Mpu (ldN 33 H t11) fun t12 =>
    Mpu (nck t0) fun t13 =>
    Mpu (fld 0 t13) fun t14 =>
    Mwr (stN 33 H t14 t12) fun h1 =>
    Mcall prg f_anchor_Register_over [t0] h1 fun t16 h2 =>
    R (.int .i64 0) h2)
theorem sh_anchor_Register_End_chk : fchkF prg [] Tryd.f12 1 = true := by kernel_rfl
theorem sh_anchor_Register_End_den (t0 : Value) (H : Heap) (R : Value → Heap → Prop) : fdenF prg [] Tryd.f12 [t0] H R = sh_anchor_Register_End t0 H R := by kernel_rfl
theorem sh_anchor_Register_End_calls {t0 : Value} {H : Heap} {R : Value → Heap → Prop} (h : sh_anchor_Register_End t0 H R) : HCalls prg f_anchor_Register_End [t0] H R :=
  calls_ofF Tryd.func12 sh_anchor_Register_End_chk (by rw [sh_anchor_Register_End_den]; exact h)

-- (*syngraph/anchor.Register).Audit
def sh_anchor_Register_Audit (t0 t1 : Value) (H : Heap) (R : Value → Heap → Prop) : Prop :=
  Mpu (nck t0) fun t8 =>
  Mpu (fld 0 t8) fun t9 =>
  Mpu (ldN 33 H t9) fun t10 =>
  Mcall prg f_anchor_Of [t1] H fun t6 h1 =>
  Mre [(ldN 33 h1 t9, t10)] (
  Mpu (binV (eqK prg T_anchor_Mark) .neq t6 t10) fun t11 =>
  Mcd t11 (
    R (.int .i64 33) h1) (
    R (.int .i64 0) h1))
theorem sh_anchor_Register_Audit_chk : fchkF prg [] Tryd.f13 2 = true := by kernel_rfl
theorem sh_anchor_Register_Audit_den (t0 t1 : Value) (H : Heap) (R : Value → Heap → Prop) : fdenF prg [] Tryd.f13 [t0, t1] H R = sh_anchor_Register_Audit t0 t1 H R := by kernel_rfl
theorem sh_anchor_Register_Audit_calls {t0 t1 : Value} {H : Heap} {R : Value → Heap → Prop} (h : sh_anchor_Register_Audit t0 t1 H R) : HCalls prg f_anchor_Register_Audit [t0, t1] H R :=
  calls_ofF Tryd.func13 sh_anchor_Register_Audit_chk (by rw [sh_anchor_Register_Audit_den]; exact h)

-- (*syngraph/anchor.Register).Settle
def sh_anchor_Register_Settle (t0 t1 : Value) (H : Heap) (R : Value → Heap → Prop) : Prop :=
  Mpu (nck t0) fun t7 =>
  Mpu (fld 66 t7) fun t8 =>
  Mpu (ld1 H t8) fun t9 =>
  Mpu (unV .not t9) fun t10 =>
  Mcd t10 (
    Mcall prg f_anchor_Register_Audit [t0, t1] H fun t13 h1 =>
    R t13 h1) (
    Mpu (nck t0) fun t18 =>
    Mpu (fld 0 t18) fun t19 =>
    Mpu (ldN 33 H t19) fun t20 =>
    Mcall prg f_anchor_Of [t1] H fun t16 h2 =>
    Mre [(ldN 33 h2 t19, t20)] (
    Mpu (binV (eqK prg T_anchor_Mark) .eql t16 t20) fun t21 =>
    Mcd t21 (
      Mcall prg f_anchor_Register_Cancel [t0] h2 fun t23 h3 =>
      R t23 h3) (
      Mpu (nck t0) fun t28 =>
      Mpu (fld 33 t28) fun t29 =>
      Mpu (ldN 33 h2 t29) fun t30 =>
      Mcall prg f_anchor_Of [t1] h2 fun t26 h4 =>
      Mre [(ldN 33 h4 t29, t30)] (
      Mpu (binV (eqK prg T_anchor_Mark) .eql t26 t30) fun t31 =>
      Mcd t31 (
        Mcall prg f_anchor_Register_End [t0] h4 fun t33 h5 =>
        R t33 h5) (
        R (.int .i64 33) h4)))))
theorem sh_anchor_Register_Settle_chk : fchkF prg [] Tryd.f15 2 = true := by kernel_rfl
theorem sh_anchor_Register_Settle_den (t0 t1 : Value) (H : Heap) (R : Value → Heap → Prop) : fdenF prg [] Tryd.f15 [t0, t1] H R = sh_anchor_Register_Settle t0 t1 H R := by kernel_rfl
theorem sh_anchor_Register_Settle_calls {t0 t1 : Value} {H : Heap} {R : Value → Heap → Prop} (h : sh_anchor_Register_Settle t0 t1 H R) : HCalls prg f_anchor_Register_Settle [t0, t1] H R :=
  calls_ofF Tryd.func15 sh_anchor_Register_Settle_chk (by rw [sh_anchor_Register_Settle_den]; exact h)

-- (*syngraph/anchor.Register).Mark
def sh_anchor_Register_Mark (t0 : Value) (H : Heap) (R : Value → Heap → Prop) : Prop :=
  Mnew H T_anchor_Mark (zcells prg T_anchor_Mark) fun t2 h1 =>
  Mpu (nck t0) fun t4 =>
  Mpu (fld 0 t4) fun t5 =>
  Mpu (ldN 33 h1 t5) fun t6 =>
  Mwr (stN 33 h1 t2 t6) fun h2 =>
  Mpu (ldN 33 h2 t2) fun r3 =>
  R r3 h2
theorem sh_anchor_Register_Mark_chk : fchkF prg [] Tryd.f16 1 = true := by kernel_rfl
theorem sh_anchor_Register_Mark_den (t0 : Value) (H : Heap) (R : Value → Heap → Prop) : fdenF prg [] Tryd.f16 [t0] H R = sh_anchor_Register_Mark t0 H R := by kernel_rfl
theorem sh_anchor_Register_Mark_calls {t0 : Value} {H : Heap} {R : Value → Heap → Prop} (h : sh_anchor_Register_Mark t0 H R) : HCalls prg f_anchor_Register_Mark [t0] H R :=
  calls_ofF Tryd.func16 sh_anchor_Register_Mark_chk (by rw [sh_anchor_Register_Mark_den]; exact h)

end Go.Proofs.YtdmciknajaedmaaDoor
/- PRINTED: clean texts -/
namespace Go.Proofs.YtdmciknajaedmaaDoor
open Go.X
set_option maxRecDepth 100000
-- syngraph/anchor.Of
def sh_anchor_Of (t0 : Value) (H : Heap) (R : Value → Heap → Prop) : Prop :=
  Mnew H T_anchor_Mark (zcells prg T_anchor_Mark) fun t2 h1 =>
  Mcall prg f_history_History_Len [t0] h1 fun t4 h2 =>
  Mcall prg f_history_History_Top [t0] h2 fun t6 h3 =>
  Mpu (buildV prg T_anchor_Mark [(0, t4), (1, t6)]) fun t7 =>
  Mwr (stN 33 h3 t2 t7) fun h4 =>
  Mpu (ldN 33 h4 t2) fun r5 =>
  R r5 h4
theorem sh_anchor_Of_chk : fchkF prg [] Tryd.f17 1 = true := by kernel_rfl
theorem sh_anchor_Of_den (t0 : Value) (H : Heap) (R : Value → Heap → Prop) : fdenF prg [] Tryd.f17 [t0] H R = sh_anchor_Of t0 H R := by kernel_rfl
theorem sh_anchor_Of_calls {t0 : Value} {H : Heap} {R : Value → Heap → Prop} (h : sh_anchor_Of t0 H R) : HCalls prg f_anchor_Of [t0] H R :=
  calls_ofF Tryd.func17 sh_anchor_Of_chk (by rw [sh_anchor_Of_den]; exact h)

-- (*syngraph/anchor.Register).Next
def sh_anchor_Register_Next (t0 : Value) (H : Heap) (R : Value → Heap → Prop) : Prop :=
  Mnew H T_anchor_Mark (zcells prg T_anchor_Mark) fun t2 h1 =>
  Mpu (nck t0) fun t5 =>
  Mpu (fld 33 t5) fun t6 =>
  Mpu (ldN 33 h1 t6) fun t7 =>
  Mpu (nck t0) fun t9 =>
  Mpu (fld 66 t9) fun t10 =>
  Mpu (ld1 h1 t10) fun t11 =>
  Mwr (stN 33 h1 t2 t7) fun h2 =>
  Mre [(ld1 h2 t10, t11)] (
  Mpu (ldN 33 h2 t2) fun r3 =>
  R (.tuple #[r3, t11]) h2)
theorem sh_anchor_Register_Next_chk : fchkF prg [] Tryd.f18 1 = true := by kernel_rfl
theorem sh_anchor_Register_Next_den (t0 : Value) (H : Heap) (R : Value → Heap → Prop) : fdenF prg [] Tryd.f18 [t0] H R = sh_anchor_Register_Next t0 H R := by kernel_rfl
theorem sh_anchor_Register_Next_calls {t0 : Value} {H : Heap} {R : Value → Heap → Prop} (h : sh_anchor_Register_Next t0 H R) : HCalls prg f_anchor_Register_Next [t0] H R :=
  calls_ofF Tryd.func18 sh_anchor_Register_Next_chk (by rw [sh_anchor_Register_Next_den]; exact h)

-- slices.Clone[[]syngraph/history.Record,syngraph/history.Record]
def sh_slices_Clone_S_history_Record_history_Record (t0 : Value) (H : Heap) (R : Value → Heap → Prop) : Prop :=
  Mpu (binV .slc .eql t0 (.slice none 0 0)) fun t4 =>
  Mcd t4 (
    R (.slice none 0 0) H) (
    Mnews H T_history_Record 0 (bslV prg T_history_Record 0 []) fun t5 h1 =>
    Mapp T_history_Record 36 96 h1 t5 t0 fun t7 h2 =>
    R t7 h2)
theorem sh_slices_Clone_S_history_Record_history_Record_chk : fchkF prg [] Tryd.f19 1 = true := by kernel_rfl
theorem sh_slices_Clone_S_history_Record_history_Record_den (t0 : Value) (H : Heap) (R : Value → Heap → Prop) : fdenF prg [] Tryd.f19 [t0] H R = sh_slices_Clone_S_history_Record_history_Record t0 H R := by kernel_rfl
theorem sh_slices_Clone_S_history_Record_history_Record_calls {t0 : Value} {H : Heap} {R : Value → Heap → Prop} (h : sh_slices_Clone_S_history_Record_history_Record t0 H R) : HCalls prg f_slices_Clone_S_history_Record_history_Record [t0] H R :=
  calls_ofF Tryd.func19 sh_slices_Clone_S_history_Record_history_Record_chk (by rw [sh_slices_Clone_S_history_Record_history_Record_den]; exact h)

-- slices.Clone[[]syngraph/sha.Hash,syngraph/sha.Hash]
def sh_slices_Clone_S_sha_Hash_sha_Hash (t0 : Value) (H : Heap) (R : Value → Heap → Prop) : Prop :=
  Mpu (binV .slc .eql t0 (.slice none 0 0)) fun t4 =>
  Mcd t4 (
    R (.slice none 0 0) H) (
    Mnews H T_sha_Hash 0 (bslV prg T_sha_Hash 0 []) fun t5 h1 =>
    Mapp T_sha_Hash 32 32 h1 t5 t0 fun t7 h2 =>
    R t7 h2)
theorem sh_slices_Clone_S_sha_Hash_sha_Hash_chk : fchkF prg [] Tryd.f20 1 = true := by kernel_rfl
theorem sh_slices_Clone_S_sha_Hash_sha_Hash_den (t0 : Value) (H : Heap) (R : Value → Heap → Prop) : fdenF prg [] Tryd.f20 [t0] H R = sh_slices_Clone_S_sha_Hash_sha_Hash t0 H R := by kernel_rfl
theorem sh_slices_Clone_S_sha_Hash_sha_Hash_calls {t0 : Value} {H : Heap} {R : Value → Heap → Prop} (h : sh_slices_Clone_S_sha_Hash_sha_Hash t0 H R) : HCalls prg f_slices_Clone_S_sha_Hash_sha_Hash [t0] H R :=
  calls_ofF Tryd.func20 sh_slices_Clone_S_sha_Hash_sha_Hash_chk (by rw [sh_slices_Clone_S_sha_Hash_sha_Hash_den]; exact h)

-- (*syngraph/anchor.Register).over
def sh_anchor_Register_over (t0 : Value) (H : Heap) (R : Value → Heap → Prop) : Prop :=
  Mpu (buildV prg T_anchor_Mark []) fun t4 =>
  Mpu (nck t0) fun t5 =>
  Mpu (fld 33 t5) fun t6 =>
  Mwr (stN 33 H t6 t4) fun h1 =>
  Mpu (nck t0) fun t7 =>
  Mpu (fld 66 t7) fun t8 =>
  Mwr (st1 h1 t8 (.bool false)) fun h2 =>
  R (.tuple #[]) h2
theorem sh_anchor_Register_over_chk : fchkF prg [] Tryd.f26 1 = true := by kernel_rfl
theorem sh_anchor_Register_over_den (t0 : Value) (H : Heap) (R : Value → Heap → Prop) : fdenF prg [] Tryd.f26 [t0] H R = sh_anchor_Register_over t0 H R := by kernel_rfl
theorem sh_anchor_Register_over_calls {t0 : Value} {H : Heap} {R : Value → Heap → Prop} (h : sh_anchor_Register_over t0 H R) : HCalls prg f_anchor_Register_over [t0] H R :=
  calls_ofF Tryd.func26 sh_anchor_Register_over_chk (by rw [sh_anchor_Register_over_den]; exact h)

-- (*syngraph/anchor.Register).Cancel
def sh_anchor_Register_Cancel (t0 : Value) (H : Heap) (R : Value → Heap → Prop) : Prop :=
  Mpu (nck t0) fun t4 =>
  Mpu (fld 66 t4) fun t5 =>
  Mpu (ld1 H t5) fun t6 =>
  Mpu (unV .not t6) fun t7 =>
  Mcd t7 (
    R (.int .i64 14) H) (
    Mcall prg f_anchor_Register_over [t0] H fun t9 h1 =>
    R (.int .i64 0) h1)
theorem sh_anchor_Register_Cancel_chk : fchkF prg [] Tryd.f29 1 = true := by kernel_rfl
theorem sh_anchor_Register_Cancel_den (t0 : Value) (H : Heap) (R : Value → Heap → Prop) : fdenF prg [] Tryd.f29 [t0] H R = sh_anchor_Register_Cancel t0 H R := by kernel_rfl
theorem sh_anchor_Register_Cancel_calls {t0 : Value} {H : Heap} {R : Value → Heap → Prop} (h : sh_anchor_Register_Cancel t0 H R) : HCalls prg f_anchor_Register_Cancel [t0] H R :=
  calls_ofF Tryd.func29 sh_anchor_Register_Cancel_chk (by rw [sh_anchor_Register_Cancel_den]; exact h)

end Go.Proofs.YtdmciknajaedmaaDoor
/- ALL CLEAN TEXTS -/
