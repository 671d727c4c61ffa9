/- JOINED: Si0 Si1 Si2 -/
import Derived.Test.YtconalffokhplaaGreatDoorGE
set_option linter.unusedSimpArgs false
set_option linter.unusedVariables false
/- PRINTED: clean texts -/
namespace Go.Proofs.YtconalffokhplaaGreatDoor
open Go.X
set_option maxRecDepth 100000
-- syngraph/syngraphlaw30.ScriptParses
def sh_syngraphlaw30_ScriptParses (t0 : Value) (H : Heap) (R : Value → Heap → Prop) : Prop :=
  Mpu (lenT t0) fun t10 =>
  Mpu (binV .no .gtr t10 (.int .i64 400)) fun t11 =>
  Mcd t11 (
    Mcall prg f_syngraphlaw30_awake [] H fun t12 h1 =>
    R t12 h1) (
    Mcall prg f_script_Parse [t0] H fun t15 h2 =>
    Mpu (extV 0 t15) fun t16 =>
    Mpu (extV 1 t15) fun t17 =>
    Mnew h2 T_script_Line (zcells prg T_script_Line) fun t3 h3 =>
    Mwr (stN 12 h3 t3 t16) fun h4 =>
    Mcall prg f_syngraphlaw30_want [t0] h4 fun t20 h5 =>
    Mpu (extV 0 t20) fun t21 =>
    Mpu (extV 1 t20) fun t22 =>
    Mnew h5 T_script_Line (zcells prg T_script_Line) fun t5 h6 =>
    Mwr (stN 12 h6 t5 t21) fun h7 =>
    Mpu (unV .not t22) fun t24 =>
    Mcd t24 (
      Mpu (binV .no .eql t17 (.int .i64 60)) fun t26 =>
      J1 (fun k8 => Mif t26 true (
          Mpu (ldN 12 h7 t3) fun t28 =>
          Mpu (buildV prg T_script_Line []) fun t29 =>
          Mcall prg f_syngraphlaw30_same [t28, t29] h7 fun t30 h9 =>
          k8 t30 h9) (
          k8 undef h7)) fun t30_2 h10 =>
      Mpu (pickV t26 t30_2 (.bool false)) fun t31 =>
      J1 (fun k11 => Mif t31 true (
          Mcall prg f_syngraphlaw30_awake [] h10 fun t33 h12 =>
          k11 t33 h12) (
          k11 undef h10)) fun t33_2 h13 =>
      Mpu (pickV t31 t33_2 (.bool false)) fun t34 =>
      R t34 h13) (
      Mpu (ldN 12 h7 t3) fun t36 =>
      Mcall prg f_script_Line_Show [t36] h7 fun t37 h14 =>
      Mpu (extV 0 t37) fun t38 =>
      Mpu (extV 1 t37) fun t39 =>
      Mpu (binV .no .eql t17 (.int .i64 0)) fun t41 =>
      J1 (fun k15 => Mif t41 true (
          Mpu (ldN 12 h14 t3) fun t43 =>
          Mpu (ldN 12 h14 t5) fun t44 =>
          Mcall prg f_syngraphlaw30_same [t43, t44] h14 fun t45 h16 =>
          k15 t45 h16) (
          k15 undef h14)) fun t45_2 h17 =>
      Mpu (pickV t41 t45_2 (.bool false)) fun t46 =>
      J1 (fun k18 => Mif t46 true (
          Mpu (binV .no .eql t39 (.int .i64 0)) fun t49 =>
          k18 t49 h17) (
          k18 undef h17)) fun t49_2 h19 =>
      Mpu (pickV t46 t49_2 (.bool false)) fun t50 =>
      J1 (fun k20 => Mif t50 true (
          Mpu (binV .no .eql t38 t0) fun t54 =>
          k20 t54 h19) (
          k20 undef h19)) fun t54_2 h21 =>
      Mpu (pickV t50 t54_2 (.bool false)) fun t55 =>
      J1 (fun k22 => Mif t55 true (
          Mcall prg f_syngraphlaw30_awake [] h21 fun t57 h23 =>
          k22 t57 h23) (
          k22 undef h21)) fun t57_2 h24 =>
      Mpu (pickV t55 t57_2 (.bool false)) fun t58 =>
      R t58 h24))
theorem sh_syngraphlaw30_ScriptParses_chk : fchkF prg [30, 33, 45, 49, 54, 57] Tryz.f3 1 = true := by kernel_rfl
theorem sh_syngraphlaw30_ScriptParses_den (t0 : Value) (H : Heap) (R : Value → Heap → Prop) : fdenF prg [30, 33, 45, 49, 54, 57] Tryz.f3 [t0] H R = sh_syngraphlaw30_ScriptParses t0 H R := by kernel_rfl
theorem sh_syngraphlaw30_ScriptParses_calls {t0 : Value} {H : Heap} {R : Value → Heap → Prop} (h : sh_syngraphlaw30_ScriptParses t0 H R) : HCalls prg f_syngraphlaw30_ScriptParses [t0] H R :=
  calls_ofF Tryz.func3 sh_syngraphlaw30_ScriptParses_chk (by rw [sh_syngraphlaw30_ScriptParses_den]; exact h)

-- syngraph/syngraphlaw30.ScriptShows
def sh_syngraphlaw30_ScriptShows (t0 : Value) (H : Heap) (R : Value → Heap → Prop) : Prop :=
  Mnew H T_script_Line (some (Value.cells t0)) fun t1 h1 =>
  Mpu (fld 0 t1) fun t17 =>
  Mpu (fld 3 t17) fun t18 =>
  Mpu (ld1 h1 t18) fun t19 =>
  Mpu (lenT t19) fun t20 =>
  Mpu (binV .no .gtr t20 (.int .i64 100)) fun t21 =>
  J1 (fun k2 => Mif t21 false (
      Mpu (fld 0 t1) fun t23 =>
      Mpu (fld 9 t23) fun t24 =>
      Mpu (ld1 h1 t24) fun t25 =>
      Mpu (lenV t25) fun t26 =>
      Mpu (binV .no .gtr t26 (.int .i64 200)) fun t27 =>
      k2 t27 h1) (
      k2 undef h1)) fun t27_2 h3 =>
  Mpu (pickV t21 (.bool true) t27_2) fun t28 =>
  J1 (fun k4 => Mif t28 false (
      Mpu (fld 0 t1) fun t30 =>
      Mpu (fld 10 t30) fun t31 =>
      Mpu (ld1 h3 t31) fun t32 =>
      Mpu (lenV t32) fun t33 =>
      Mpu (binV .no .gtr t33 (.int .i64 40)) fun t34 =>
      k4 t34 h3) (
      k4 undef h3)) fun t34_2 h5 =>
  Mpu (pickV t28 (.bool true) t34_2) fun t35 =>
  J1 (fun k6 => Mif t35 false (
      Mpu (fld 0 t1) fun t37 =>
      Mpu (fld 4 t37) fun t38 =>
      Mpu (fld 0 t38) fun t39 =>
      Mpu (ld1 h5 t39) fun t40 =>
      Mpu (lenT t40) fun t41 =>
      Mpu (binV .no .gtr t41 (.int .i64 10)) fun t42 =>
      k6 t42 h5) (
      k6 undef h5)) fun t42_2 h7 =>
  Mpu (pickV t35 (.bool true) t42_2) fun t43 =>
  J1 (fun k8 => Mif t43 false (
      Mpu (fld 0 t1) fun t45 =>
      Mpu (fld 4 t45) fun t46 =>
      Mpu (fld 1 t46) fun t47 =>
      Mpu (fld 3 t47) fun t48 =>
      Mpu (ld1 h7 t48) fun t49 =>
      Mpu (lenT t49) fun t50 =>
      Mpu (binV .no .gtr t50 (.int .i64 40)) fun t51 =>
      k8 t51 h7) (
      k8 undef h7)) fun t51_2 h9 =>
  Mpu (pickV t43 (.bool true) t51_2) fun t52 =>
  Mcd t52 (
    Mcall prg f_syngraphlaw30_awake [] h9 fun t53 h10 =>
    R t53 h10) (
    Mpu (ldN 12 h9 t1) fun t55 =>
    Mcall prg f_script_Line_Show [t55] h9 fun t56 h11 =>
    Mpu (extV 0 t56) fun t57 =>
    Mpu (extV 1 t56) fun t58 =>
    Mpu (binV .no .eql t58 (.int .i64 0)) fun t60 =>
    Mcd t60 (
      Mcall prg f_script_Parse [t57] h11 fun t63 h12 =>
      Mpu (extV 0 t63) fun t64 =>
      Mpu (extV 1 t63) fun t65 =>
      Mnew h12 T_script_Line (zcells prg T_script_Line) fun t5 h13 =>
      Mwr (stN 12 h13 t5 t64) fun h14 =>
      Mpu (binV .no .eql t65 (.int .i64 0)) fun t67 =>
      J1 (fun k15 => Mif t67 true (
          Mpu (ldN 12 h14 t5) fun t69 =>
          Mpu (ldN 12 h14 t1) fun t70 =>
          Mcall prg f_syngraphlaw30_same [t69, t70] h14 fun t71 h16 =>
          k15 t71 h16) (
          k15 undef h14)) fun t71_2 h17 =>
      Mpu (pickV t67 t71_2 (.bool false)) fun t72 =>
      J1 (fun k18 => Mif t72 true (
          Mcall prg f_syngraphlaw30_awake [] h17 fun t74 h19 =>
          k18 t74 h19) (
          k18 undef h17)) fun t74_2 h20 =>
      Mpu (pickV t72 t74_2 (.bool false)) fun t75 =>
      R t75 h20) (
      Mpu (fld 0 t1) fun t76 =>
      Mpu (ldN 11 h11 t76) fun t77 =>
      Mnew h11 T_world_Step (zcells prg T_world_Step) fun t7 h21 =>
      Mwr (stN 11 h21 t7 t77) fun h22 =>
      J1 (fun k23 =>
        Mpu (fld 1 t7) fun t78 =>
        Mpu (ld1 h22 t78) fun t79 =>
        Mpu (fld 2 t7) fun t80 =>
        Mpu (ld1 h22 t80) fun t81 =>
        Mnews h22 T_int 2 (bslV prg T_int 2 [(0, t79), (1, t81)]) fun t82 h25 =>
        Mpu (fld 10 t7) fun t83 =>
        Mpu (ld1 h25 t83) fun t84 =>
        Mapp T_int 1 8 h25 t82 t84 fun t85 h26 =>
        Mpu (lenV t85) fun t86 =>
        L1 (fun k27 => fun t87_2 h28 =>
          Mpu (binV .no .lss t87_2 t86) fun t88 =>
          Mcd t88 (
            Mpu (ixS 1 t85 t87_2) fun t89 =>
            Mpu (ld1 h28 t89) fun t90 =>
            Mpu (binV .no .lss t90 (.int .i64 0)) fun t92 =>
            J1 (fun k29 => Mif t92 false (
                Mpu (binV .no .gtr t90 (.int .i64 999999999)) fun t95 =>
                k29 t95 h28) (
                k29 undef h28)) fun t95_2 h30 =>
            Mpu (pickV t92 (.bool true) t95_2) fun t96 =>
            Mcd t96 (
              Mpu (binV .no .eql t58 (.int .i64 60)) fun t98 =>
              J1 (fun k31 => Mif t98 true (
                  Mpu (binV .no .eql t57 (.string ⟨#[]⟩)) fun t101 =>
                  k31 t101 h30) (
                  k31 undef h30)) fun t101_2 h32 =>
              Mpu (pickV t98 t101_2 (.bool false)) fun t102 =>
              J1 (fun k33 => Mif t102 true (
                  Mcall prg f_syngraphlaw30_awake [] h32 fun t104 h34 =>
                  k33 t104 h34) (
                  k33 undef h32)) fun t104_2 h35 =>
              Mpu (pickV t102 t104_2 (.bool false)) fun t105 =>
              R t105 h35) (
              Mpu (binV .no .add t87_2 (.int .i64 1)) fun t106 =>
              k27 t106 h30)) (
            k23 t87_2 h28)) ((.int .i64 0)) h26) fun t87_4 h24 =>
      Mpu (fld 11 t1) fun t107 =>
      Mpu (ld1 h24 t107) fun t108 =>
      Mpu (binV .no .geq t108 (.int .i64 1)) fun t109 =>
      J1 (fun k36 => Mif t109 true (
          Mpu (fld 11 t1) fun t111 =>
          Mpu (ld1 h24 t111) fun t112 =>
          Mpu (binV .no .leq t112 (.int .i64 4)) fun t113 =>
          k36 t113 h24) (
          k36 undef h24)) fun t113_2 h37 =>
      Mpu (pickV t109 t113_2 (.bool false)) fun t114 =>
      J1 (fun k38 => Mif t114 true (
          Mpu (ldN 12 h37 t1) fun t116 =>
          Mpu (fld 11 t1) fun t117 =>
          Mpu (ld1 h37 t117) fun t118 =>
          Mpu (buildV prg T_script_Line [(1, t118)]) fun t119 =>
          Mcall prg f_syngraphlaw30_same [t116, t119] h37 fun t120 h39 =>
          k38 t120 h39) (
          k38 undef h37)) fun t120_2 h40 =>
      Mpu (pickV t114 t120_2 (.bool false)) fun t121 =>
      J2 (fun k41 =>
        Mnews h40 T_int 4 (bslV prg T_int 4 [(0, (.int .i64 2)), (1, (.int .i64 3)), (2, (.int .i64 14)), (3, (.int .i64 15))]) fun t122 h43 =>
        Mpu (lenV t122) fun t123 =>
        L2 (fun k44 => fun t10_2 t124_2 h45 =>
          Mpu (binV .no .lss t124_2 t123) fun t125 =>
          Mcd t125 (
            Mpu (ixS 1 t122 t124_2) fun t126 =>
            Mpu (ld1 h45 t126) fun t127 =>
            J1 (fun k46 => Mif t10_2 false (
                Mpu (ldN 12 h45 t1) fun t130 =>
                Mpu (buildV prg T_world_Step [(0, t127)]) fun t132 =>
                Mpu (buildV prg T_script_Line [(0, t132)]) fun t133 =>
                Mcall prg f_syngraphlaw30_same [t130, t133] h45 fun t134 h47 =>
                k46 t134 h47) (
                k46 undef h45)) fun t134_2 h48 =>
            Mpu (pickV t10_2 (.bool true) t134_2) fun t135 =>
            Mpu (binV .no .add t124_2 (.int .i64 1)) fun t136 =>
            k44 t135 t136 h48) (
            k41 t10_2 t124_2 h45)) (t121) ((.int .i64 0)) h43) fun t10_4 t124_4 h42 =>
      J2 (fun k49 =>
        Mnews h42 T_int 4 (bslV prg T_int 4 [(0, (.int .i64 4)), (1, (.int .i64 5)), (2, (.int .i64 6)), (3, (.int .i64 11))]) fun t137 h51 =>
        Mpu (lenV t137) fun t138 =>
        L2 (fun k52 => fun t10_5 t139_2 h53 =>
          Mpu (binV .no .lss t139_2 t138) fun t140 =>
          Mcd t140 (
            Mpu (ixS 1 t137 t139_2) fun t141 =>
            Mpu (ld1 h53 t141) fun t142 =>
            J1 (fun k54 => Mif t10_5 false (
                Mpu (ldN 12 h53 t1) fun t145 =>
                Mpu (fld 1 t7) fun t147 =>
                Mpu (ld1 h53 t147) fun t148 =>
                Mpu (buildV prg T_world_Step [(0, t142), (1, t148)]) fun t149 =>
                Mpu (buildV prg T_script_Line [(0, t149)]) fun t150 =>
                Mcall prg f_syngraphlaw30_same [t145, t150] h53 fun t151 h55 =>
                k54 t151 h55) (
                k54 undef h53)) fun t151_2 h56 =>
            Mpu (pickV t10_5 (.bool true) t151_2) fun t152 =>
            Mpu (binV .no .add t139_2 (.int .i64 1)) fun t153 =>
            k52 t152 t153 h56) (
            k49 t10_5 t139_2 h53)) (t10_4) ((.int .i64 0)) h51) fun t10_7 t139_4 h50 =>
      J2 (fun k57 =>
        Mnews h50 T_int 2 (bslV prg T_int 2 [(0, (.int .i64 1)), (1, (.int .i64 9))]) fun t154 h59 =>
        Mpu (lenV t154) fun t155 =>
        L2 (fun k60 => fun t10_8 t156_2 h61 =>
          Mpu (binV .no .lss t156_2 t155) fun t157 =>
          Mcd t157 (
            Mpu (ixS 1 t154 t156_2) fun t158 =>
            Mpu (ld1 h61 t158) fun t159 =>
            J1 (fun k62 => Mif t10_8 false (
                Mpu (ldN 12 h61 t1) fun t162 =>
                Mpu (fld 2 t7) fun t164 =>
                Mpu (ld1 h61 t164) fun t165 =>
                Mpu (buildV prg T_world_Step [(0, t159), (2, t165)]) fun t166 =>
                Mpu (buildV prg T_script_Line [(0, t166)]) fun t167 =>
                Mcall prg f_syngraphlaw30_same [t162, t167] h61 fun t168 h63 =>
                k62 t168 h63) (
                k62 undef h61)) fun t168_2 h64 =>
            Mpu (pickV t10_8 (.bool true) t168_2) fun t169 =>
            Mpu (binV .no .add t156_2 (.int .i64 1)) fun t170 =>
            k60 t169 t170 h64) (
            k57 t10_8 t156_2 h61)) (t10_7) ((.int .i64 0)) h59) fun t10_10 t156_4 h58 =>
      J1 (fun k65 => Mif t10_10 false (
          Mpu (ldN 12 h58 t1) fun t173 =>
          Mpu (fld 1 t7) fun t174 =>
          Mpu (ld1 h58 t174) fun t175 =>
          Mpu (fld 2 t7) fun t176 =>
          Mpu (ld1 h58 t176) fun t177 =>
          Mpu (buildV prg T_world_Step [(0, (.int .i64 7)), (1, t175), (2, t177)]) fun t178 =>
          Mpu (buildV prg T_script_Line [(0, t178)]) fun t179 =>
          Mcall prg f_syngraphlaw30_same [t173, t179] h58 fun t180 h66 =>
          k65 t180 h66) (
          k65 undef h58)) fun t180_2 h67 =>
      Mpu (pickV t10_10 (.bool true) t180_2) fun t181 =>
      J1 (fun k68 => Mif t181 false (
          Mpu (ldN 12 h67 t1) fun t183 =>
          Mpu (fld 1 t7) fun t184 =>
          Mpu (ld1 h67 t184) fun t185 =>
          Mpu (fld 2 t7) fun t186 =>
          Mpu (ld1 h67 t186) fun t187 =>
          Mpu (fld 9 t7) fun t188 =>
          Mpu (ld1 h67 t188) fun t189 =>
          Mpu (buildV prg T_world_Step [(0, (.int .i64 13)), (1, t185), (2, t187), (5, t189)]) fun t190 =>
          Mpu (buildV prg T_script_Line [(0, t190)]) fun t191 =>
          Mcall prg f_syngraphlaw30_same [t183, t191] h67 fun t192 h69 =>
          k68 t192 h69) (
          k68 undef h67)) fun t192_2 h70 =>
      Mpu (pickV t181 (.bool true) t192_2) fun t193 =>
      J1 (fun k71 => Mif t193 false (
          Mpu (ldN 12 h70 t1) fun t195 =>
          Mpu (fld 10 t7) fun t196 =>
          Mpu (ld1 h70 t196) fun t197 =>
          Mpu (buildV prg T_world_Step [(0, (.int .i64 12)), (6, t197)]) fun t198 =>
          Mpu (buildV prg T_script_Line [(0, t198)]) fun t199 =>
          Mcall prg f_syngraphlaw30_same [t195, t199] h70 fun t200 h72 =>
          k71 t200 h72) (
          k71 undef h70)) fun t200_2 h73 =>
      Mpu (pickV t193 (.bool true) t200_2) fun t201 =>
      Mpu (binV .no .eql t58 (.int .i64 60)) fun t203 =>
      J1 (fun k74 => Mif t203 true (
          Mpu (binV .no .eql t57 (.string ⟨#[]⟩)) fun t206 =>
          k74 t206 h73) (
          k74 undef h73)) fun t206_2 h75 =>
      Mpu (pickV t203 t206_2 (.bool false)) fun t207 =>
      J1 (fun k76 => Mif t207 true (
          Mpu (unV .not t201) fun t210 =>
          k76 t210 h75) (
          k76 undef h75)) fun t210_2 h77 =>
      Mpu (pickV t207 t210_2 (.bool false)) fun t211 =>
      J1 (fun k78 => Mif t211 true (
          Mcall prg f_syngraphlaw30_awake [] h77 fun t213 h79 =>
          k78 t213 h79) (
          k78 undef h77)) fun t213_2 h80 =>
      Mpu (pickV t211 t213_2 (.bool false)) fun t214 =>
      R t214 h80))
theorem sh_syngraphlaw30_ScriptShows_chk : fchkF prg [10, 27, 34, 42, 51, 71, 74, 87, 95, 101, 104, 113, 120, 124, 134, 139, 151, 156, 168, 180, 192, 200, 206, 210, 213] Tryz.f4 1 = true := by kernel_rfl
theorem sh_syngraphlaw30_ScriptShows_den (t0 : Value) (H : Heap) (R : Value → Heap → Prop) : fdenF prg [10, 27, 34, 42, 51, 71, 74, 87, 95, 101, 104, 113, 120, 124, 134, 139, 151, 156, 168, 180, 192, 200, 206, 210, 213] Tryz.f4 [t0] H R = sh_syngraphlaw30_ScriptShows t0 H R := by kernel_rfl
theorem sh_syngraphlaw30_ScriptShows_calls {t0 : Value} {H : Heap} {R : Value → Heap → Prop} (h : sh_syngraphlaw30_ScriptShows t0 H R) : HCalls prg f_syngraphlaw30_ScriptShows [t0] H R :=
  calls_ofF Tryz.func4 sh_syngraphlaw30_ScriptShows_chk (by rw [sh_syngraphlaw30_ScriptShows_den]; exact h)

-- syngraph/syngraphlaw19.ManifestNames
-- syngraph/syngraphlaw19.ManifestFits
-- syngraph/syngraphlaw30.awake
def sh_syngraphlaw30_awake (H : Heap) (R : Value → Heap → Prop) : Prop :=
  Mcall prg f_script_Parse [(.string ⟨#[105, 110, 115, 116, 97, 108, 108, 32, 97, 32, 94, 49, 46, 48, 46, 48]⟩)] H fun t6 h1 =>
  Mpu (extV 0 t6) fun t7 =>
  Mpu (extV 1 t6) fun t8 =>
  Mnew h1 T_script_Line (zcells prg T_script_Line) fun t1 h2 =>
  Mwr (stN 12 h2 t1 t7) fun h3 =>
  Mpu (ldN 12 h3 t1) fun t10 =>
  Mcall prg f_script_Line_Show [t10] h3 fun t11 h4 =>
  Mpu (extV 0 t11) fun t12 =>
  Mpu (extV 1 t11) fun t13 =>
  Mpu (binV .no .eql t8 (.int .i64 0)) fun t15 =>
  J1 (fun k5 => Mif t15 true (
      Mpu (binV .no .eql t13 (.int .i64 0)) fun t18 =>
      k5 t18 h4) (
      k5 undef h4)) fun t18_2 h6 =>
  Mpu (pickV t15 t18_2 (.bool false)) fun t19 =>
  J1 (fun k7 => Mif t19 true (
      Mpu (binV .no .eql t12 (.string ⟨#[105, 110, 115, 116, 97, 108, 108, 32, 97, 32, 94, 49, 46, 48, 46, 48]⟩)) fun t22 =>
      k7 t22 h6) (
      k7 undef h6)) fun t22_2 h8 =>
  Mpu (pickV t19 t22_2 (.bool false)) fun t23 =>
  J1 (fun k9 => Mif t23 true (
      Mpu (fld 0 t1) fun t25 =>
      Mpu (fld 0 t25) fun t26 =>
      Mpu (ld1 h8 t26) fun t27 =>
      Mpu (binV .no .eql t27 (.int .i64 10)) fun t28 =>
      k9 t28 h8) (
      k9 undef h8)) fun t28_2 h10 =>
  Mpu (pickV t23 t28_2 (.bool false)) fun t29 =>
  J1 (fun k11 => Mif t29 true (
      Mpu (fld 0 t1) fun t31 =>
      Mpu (fld 1 t31) fun t32 =>
      Mpu (ld1 h10 t32) fun t33 =>
      Mpu (binV .no .eql t33 (.int .i64 2)) fun t34 =>
      k11 t34 h10) (
      k11 undef h10)) fun t34_2 h12 =>
  Mpu (pickV t29 t34_2 (.bool false)) fun t35 =>
  J1 (fun k13 => Mif t35 true (
      Mpu (fld 0 t1) fun t37 =>
      Mpu (fld 3 t37) fun t38 =>
      Mpu (ld1 h12 t38) fun t39 =>
      Mpu (binV .no .eql t39 (.string ⟨#[97]⟩)) fun t40 =>
      k13 t40 h12) (
      k13 undef h12)) fun t40_2 h14 =>
  Mpu (pickV t35 t40_2 (.bool false)) fun t41 =>
  R t41 h14
theorem sh_syngraphlaw30_awake_chk : fchkF prg [18, 22, 28, 34, 40] Tryz.f7 0 = true := by kernel_rfl
theorem sh_syngraphlaw30_awake_den (H : Heap) (R : Value → Heap → Prop) : fdenF prg [18, 22, 28, 34, 40] Tryz.f7 [] H R = sh_syngraphlaw30_awake H R := by kernel_rfl
theorem sh_syngraphlaw30_awake_calls {H : Heap} {R : Value → Heap → Prop} (h : sh_syngraphlaw30_awake H R) : HCalls prg f_syngraphlaw30_awake [] H R :=
  calls_ofF Tryz.func7 sh_syngraphlaw30_awake_chk (by rw [sh_syngraphlaw30_awake_den]; exact h)

-- syngraph/script.Parse
def sh_script_Parse (t0 : Value) (H : Heap) (R : Value → Heap → Prop) : Prop :=
  Mnew H T_script_Line (zcells prg T_script_Line) fun t2 h1 =>
  Mcall prg f_strings_Contains [t0, (.string ⟨#[10]⟩)] h1 fun t10 h2 =>
  Mcd t10 (
    Mpu (buildV prg T_script_Line []) fun t11 =>
    Mwr (stN 12 h2 t2 t11) fun h3 =>
    Mpu (ldN 12 h3 t2) fun r4 =>
    R (.tuple #[r4, (.int .i64 60)]) h3) (
    Mcall prg f_strings_Split [t0, (.string ⟨#[32]⟩)] h2 fun t13 h5 =>
    J1 (fun k6 =>
      Mcall prg f_script_forms [] h5 fun t14 h8 =>
      Mpu (lenV t14) fun t15 =>
      L1 (fun k9 => fun t16_2 h10 =>
        Mpu (binV .no .lss t16_2 t15) fun t17 =>
        Mcd t17 (
          Mpu (ixS 14 t14 t16_2) fun t18 =>
          Mpu (ldN 14 h10 t18) fun t19 =>
          Mnew h10 T_script_form (zcells prg T_script_form) fun t6 h11 =>
          Mwr (stN 14 h11 t6 t19) fun h12 =>
          Mpu (fld 0 t6) fun t20 =>
          Mpu (ld1 h12 t20) fun t21 =>
          Mpu (ixS 1 t13 (.int .i64 0)) fun t23 =>
          Mpu (ld1 h12 t23) fun t24 =>
          Mpu (binV .no .neq t21 t24) fun t25 =>
          Mcd t25 (
            Mpu (binV .no .add t16_2 (.int .i64 1)) fun t34 =>
            k9 t34 h12) (
            Mpu (ldN 14 h12 t6) fun t27 =>
            Mcall prg f_script_form_parse [t27, t13] h12 fun t29 h13 =>
            Mpu (extV 0 t29) fun t30 =>
            Mpu (extV 1 t29) fun t31 =>
            Mnew h13 T_script_Line (zcells prg T_script_Line) fun t7 h14 =>
            Mwr (stN 12 h14 t7 t30) fun h15 =>
            Mcd t31 (
              Mpu (ldN 12 h15 t7) fun t33 =>
              Mwr (stN 12 h15 t2 t33) fun h16 =>
              Mpu (ldN 12 h16 t2) fun r17 =>
              R (.tuple #[r17, (.int .i64 0)]) h16) (
              k6 t16_2 h15))) (
          k6 t16_2 h10)) ((.int .i64 0)) h8) fun t16_4 h7 =>
    Mpu (buildV prg T_script_Line []) fun t35 =>
    Mwr (stN 12 h7 t2 t35) fun h18 =>
    Mpu (ldN 12 h18 t2) fun r19 =>
    R (.tuple #[r19, (.int .i64 60)]) h18)
theorem sh_script_Parse_chk : fchkF prg [16] Tryz.f8 1 = true := by kernel_rfl
theorem sh_script_Parse_den (t0 : Value) (H : Heap) (R : Value → Heap → Prop) : fdenF prg [16] Tryz.f8 [t0] H R = sh_script_Parse t0 H R := by kernel_rfl
theorem sh_script_Parse_calls {t0 : Value} {H : Heap} {R : Value → Heap → Prop} (h : sh_script_Parse t0 H R) : HCalls prg f_script_Parse [t0] H R :=
  calls_ofF Tryz.func8 sh_script_Parse_chk (by rw [sh_script_Parse_den]; exact h)

-- syngraph/syngraphlaw30.want
def sh_syngraphlaw30_want (t0 : Value) (H : Heap) (R : Value → Heap → Prop) : Prop :=
  Mnew H T_script_Line (zcells prg T_script_Line) fun t2 h1 =>
  J1 (fun k2 =>
    Mpu (lenT t0) fun t19 =>
    L1 (fun k4 => fun t20_2 h5 =>
      Mpu (binV .no .lss t20_2 t19) fun t21 =>
      Mcd t21 (
        Mpu (ixT t0 t20_2) fun t25 =>
        Mpu (binV .no .eql t25 (.int .u8 10)) fun t26 =>
        Mcd t26 (
          Mpu (buildV prg T_script_Line []) fun t27 =>
          Mwr (stN 12 h5 t2 t27) fun h6 =>
          Mpu (ldN 12 h6 t2) fun r7 =>
          R (.tuple #[r7, (.bool false)]) h6) (
          Mpu (binV .no .add t20_2 (.int .i64 1)) fun t28 =>
          k4 t28 h5)) (
        k2 t20_2 h5)) ((.int .i64 0)) h1) fun t20_4 h3 =>
  Mcall prg f_syngraphref30_Words [t0] h3 fun t30 h8 =>
  Mpu (ixS 1 t30 (.int .i64 0)) fun t33 =>
  Mpu (ld1 h8 t33) fun t34 =>
  Mcall prg f_syngraphref30_Parts [t34] h8 fun t35 h9 =>
  Mpu (extV 0 t35) fun t36 =>
  Mpu (extV 1 t35) fun t37 =>
  Mpu (extV 2 t35) fun t38 =>
  Mpu (extV 3 t35) fun t39 =>
  Mpu (extV 4 t35) fun t40 =>
  Mpu (buildV prg T_world_Step [(0, t37), (1, t38)]) fun t43 =>
  Mpu (buildV prg T_script_Line [(0, t43), (1, t39)]) fun t45 =>
  Mnew h9 T_script_Line (zcells prg T_script_Line) fun t11 h10 =>
  Mwr (stN 12 h10 t11 t45) fun h11 =>
  Mpu (unV .not t40) fun t47 =>
  J1 (fun k12 => Mif t47 false (
      Mpu (lenV t30) fun t50 =>
      Mpu (lenT t36) fun t52 =>
      Mpu (binV .no .add (.int .i64 1) t52) fun t53 =>
      Mpu (binV .no .neq t50 t53) fun t54 =>
      k12 t54 h11) (
      k12 undef h11)) fun t55_2 h13 =>
  J1 (fun k14 => Mif t55_2 true (
      Mpu (binV .no .neq t36 (.string ⟨#[108]⟩)) fun t57 =>
      k14 t57 h13) (
      k14 undef h13)) fun t58_2 h15 =>
  J1 (fun k16 => Mif t58_2 false (
      Mpu (lenV t30) fun t60 =>
      Mpu (binV .no .neq t60 (.int .i64 1)) fun t61 =>
      k16 t61 h15) (
      k16 undef h15)) fun t61_2 h17 =>
  J1 (fun k18 => Mif t55_2 true (
      Mpu (pickV t58_2 (.bool true) t61_2) fun t62 =>
      k18 t62 h17) (
      k18 undef h17)) fun t62_2 h19 =>
  J1 (fun k20 => Mif t47 false (
      Mpu (pickV t55_2 t62_2 (.bool false)) fun t63 =>
      k20 t63 h19) (
      k20 undef h19)) fun t63_2 h21 =>
  Mpu (pickV t47 (.bool true) t63_2) fun t64 =>
  Mcd t64 (
    Mpu (buildV prg T_script_Line []) fun t65 =>
    Mwr (stN 12 h21 t2 t65) fun h22 =>
    Mpu (ldN 12 h22 t2) fun r23 =>
    R (.tuple #[r23, (.bool false)]) h22) (
    J2 (fun k24 =>
      Mpu (slS 1 t30 (some (.int .i64 1)) none none) fun t67 =>
      Mpu (lenV t67) fun t68 =>
      L2 (fun k26 => fun t10_2 t69_2 h27 =>
        Mpu (binV .no .lss t69_2 t68) fun t70 =>
        Mcd t70 (
          Mpu (ixS 1 t67 t69_2) fun t72 =>
          Mpu (ld1 h27 t72) fun t73 =>
          J1 (fun k28 =>
            Mpu (ixT t36 t69_2) fun t76 =>
            Mpu (binV .no .eql t76 (.int .u8 110)) fun t78 =>
            Mcd t78 (
              Mcall prg f_syngraphref30_Number [t73] h27 fun t81 h30 =>
              Mpu (extV 0 t81) fun t82 =>
              Mpu (extV 1 t81) fun t83 =>
              Mpu (fld 0 t11) fun t84 =>
              Mpu (fld 1 t84) fun t85 =>
              Mwr (st1 h30 t85 t82) fun h31 =>
              k28 t83 h31) (
              Mpu (binV .no .eql t76 (.int .u8 97)) fun t87 =>
              Mcd t87 (
                Mcall prg f_syngraphref30_Number [t73] h27 fun t90 h32 =>
                Mpu (extV 0 t90) fun t91 =>
                Mpu (extV 1 t90) fun t92 =>
                Mpu (fld 0 t11) fun t93 =>
                Mpu (fld 2 t93) fun t94 =>
                Mwr (st1 h32 t94 t91) fun h33 =>
                k28 t92 h33) (
                Mpu (binV .no .eql t76 (.int .u8 115)) fun t96 =>
                Mcd t96 (
                  Mpu (lenT t73) fun t99 =>
                  Mpu (binV .no .geq t99 (.int .i64 1)) fun t100 =>
                  J1 (fun k34 => Mif t100 true (
                      Mpu (lenT t73) fun t103 =>
                      Mpu (binV .no .leq t103 (.int .i64 64)) fun t104 =>
                      k34 t104 h27) (
                      k34 undef h27)) fun t104_2 h35 =>
                  Mpu (pickV t100 t104_2 (.bool false)) fun t105 =>
                  Mpu (fld 0 t11) fun t106 =>
                  Mpu (fld 3 t106) fun t107 =>
                  Mwr (st1 h35 t107 t73) fun h36 =>
                  k28 t105 h36) (
                  Mpu (binV .no .eql t76 (.int .u8 119)) fun t109 =>
                  Mcd t109 (
                    Mcall prg f_version_ParseWant [t73] h27 fun t112 h37 =>
                    Mpu (extV 0 t112) fun t113 =>
                    Mpu (extV 1 t112) fun t114 =>
                    Mnew h37 T_version_Want (zcells prg T_version_Want) fun t14 h38 =>
                    Mwr (stN 5 h38 t14 t113) fun h39 =>
                    Mpu (ldN 5 h39 t14) fun t115 =>
                    Mpu (binV .no .eql t114 (.int .i64 0)) fun t117 =>
                    Mpu (fld 0 t11) fun t118 =>
                    Mpu (fld 4 t118) fun t119 =>
                    Mwr (stN 5 h39 t119 t115) fun h40 =>
                    k28 t117 h40) (
                    Mpu (binV .no .eql t76 (.int .u8 100)) fun t121 =>
                    Mcd t121 (
                      Mcall prg f_syngraphref30_Data [t73] h27 fun t124 h41 =>
                      Mpu (extV 0 t124) fun t125 =>
                      Mpu (extV 1 t124) fun t126 =>
                      Ms2b T_uint8 h41 t125 fun t128 h42 =>
                      Mpu (fld 0 t11) fun t130 =>
                      Mpu (fld 9 t130) fun t131 =>
                      Mwr (st1 h42 t131 t128) fun h43 =>
                      k28 t126 h43) (
                      Mpu (binV .no .eql t76 (.int .u8 108)) fun t133 =>
                      Mcd t133 (
                        Mcall prg f_syngraphlaw30_lost [t73] h27 fun t136 h44 =>
                        Mpu (extV 0 t136) fun t137 =>
                        Mpu (extV 1 t136) fun t138 =>
                        Mpu (fld 0 t11) fun t139 =>
                        Mpu (fld 10 t139) fun t140 =>
                        Mwr (st1 h44 t140 t137) fun h45 =>
                        k28 t138 h45) (
                        k28 t10_2 h27))))))) fun t10_9 h29 =>
          Mpu (unV .not t10_9) fun t142 =>
          Mcd t142 (
            Mpu (buildV prg T_script_Line []) fun t143 =>
            Mwr (stN 12 h29 t2 t143) fun h46 =>
            Mpu (ldN 12 h46 t2) fun r47 =>
            R (.tuple #[r47, (.bool false)]) h46) (
            Mpu (binV .no .add t69_2 (.int .i64 1)) fun t144 =>
            k26 t10_9 t144 h29)) (
          k24 t10_2 t69_2 h27)) (t40) ((.int .i64 0)) h21) fun t10_10 t69_4 h25 =>
    Mpu (ldN 12 h25 t11) fun t145 =>
    Mwr (stN 12 h25 t2 t145) fun h48 =>
    Mpu (ldN 12 h48 t2) fun r49 =>
    R (.tuple #[r49, (.bool true)]) h48)
theorem sh_syngraphlaw30_want_chk : fchkF prg [10, 20, 55, 58, 61, 62, 63, 69, 104] Tryz.f9 1 = true := by kernel_rfl
theorem sh_syngraphlaw30_want_den (t0 : Value) (H : Heap) (R : Value → Heap → Prop) : fdenF prg [10, 20, 55, 58, 61, 62, 63, 69, 104] Tryz.f9 [t0] H R = sh_syngraphlaw30_want t0 H R := by kernel_rfl
theorem sh_syngraphlaw30_want_calls {t0 : Value} {H : Heap} {R : Value → Heap → Prop} (h : sh_syngraphlaw30_want t0 H R) : HCalls prg f_syngraphlaw30_want [t0] H R :=
  calls_ofF Tryz.func9 sh_syngraphlaw30_want_chk (by rw [sh_syngraphlaw30_want_den]; exact h)

-- syngraph/syngraphlaw30.same
def sh_syngraphlaw30_same (t0 t1 : Value) (H : Heap) (R : Value → Heap → Prop) : Prop :=
  Mnew H T_script_Line (some (Value.cells t0)) fun t2 h1 =>
  Mnew h1 T_script_Line (some (Value.cells t1)) fun t3 h2 =>
  J2 (fun k3 =>
    Mpu (fld 0 t2) fun t8 =>
    Mpu (ldN 11 h2 t8) fun t9 =>
    Mpu (fld 0 t3) fun t10 =>
    Mpu (ldN 11 h2 t10) fun t11 =>
    ((
      Mnew h2 T_world_Step (zcells prg T_world_Step) fun t5 h4 =>
      Mre [(ldN 11 h4 t10, t11), (ldN 11 h4 t8, t9)] (
      Mnew h4 T_world_Step (zcells prg T_world_Step) fun t6 h5 =>
      Mre [(ldN 11 h5 t10, t11), (ldN 11 h5 t8, t9)] (
      Mwr (stN 11 h5 t5 t9) fun h6 =>
      Mre [(ldN 11 h6 t10, t11)] (
      Mwr (stN 11 h6 t6 t11) fun h7 =>
      k3 t5 t6 h7)))) ∧ (
      Mnew h2 T_world_Step (zcells prg T_world_Step) fun t6_2 h8 =>
      Mre [(ldN 11 h8 t10, t11), (ldN 11 h8 t8, t9)] (
      Mnew h8 T_world_Step (zcells prg T_world_Step) fun t5_2 h9 =>
      Mre [(ldN 11 h9 t10, t11), (ldN 11 h9 t8, t9)] (
      Mwr (stN 11 h9 t5_2 t9) fun h10 =>
      Mre [(ldN 11 h10 t10, t11)] (
      Mwr (stN 11 h10 t6_2 t11) fun h11 =>
      k3 t5_2 t6_2 h11)))))) fun t5_3 t6_3 h12 =>
  Mpu (fld 11 t2) fun t12 =>
  Mpu (ld1 h12 t12) fun t13 =>
  Mpu (fld 11 t3) fun t14 =>
  Mpu (ld1 h12 t14) fun t15 =>
  Mpu (binV .no .neq t13 t15) fun t16 =>
  J1 (fun k13 => Mif t16 false (
      Mpu (fld 0 t5_3) fun t18 =>
      Mpu (ld1 h12 t18) fun t19 =>
      Mpu (fld 0 t6_3) fun t20 =>
      Mpu (ld1 h12 t20) fun t21 =>
      Mpu (binV .no .neq t19 t21) fun t22 =>
      k13 t22 h12) (
      k13 undef h12)) fun t22_2 h14 =>
  Mpu (pickV t16 (.bool true) t22_2) fun t23 =>
  J1 (fun k15 => Mif t23 false (
      Mpu (fld 1 t5_3) fun t25 =>
      Mpu (ld1 h14 t25) fun t26 =>
      Mpu (fld 1 t6_3) fun t27 =>
      Mpu (ld1 h14 t27) fun t28 =>
      Mpu (binV .no .neq t26 t28) fun t29 =>
      k15 t29 h14) (
      k15 undef h14)) fun t29_2 h16 =>
  Mpu (pickV t23 (.bool true) t29_2) fun t30 =>
  J1 (fun k17 => Mif t30 false (
      Mpu (fld 2 t5_3) fun t32 =>
      Mpu (ld1 h16 t32) fun t33 =>
      Mpu (fld 2 t6_3) fun t34 =>
      Mpu (ld1 h16 t34) fun t35 =>
      Mpu (binV .no .neq t33 t35) fun t36 =>
      k17 t36 h16) (
      k17 undef h16)) fun t36_2 h18 =>
  Mpu (pickV t30 (.bool true) t36_2) fun t37 =>
  J1 (fun k19 => Mif t37 false (
      Mpu (fld 3 t5_3) fun t39 =>
      Mpu (ld1 h18 t39) fun t40 =>
      Mpu (fld 3 t6_3) fun t41 =>
      Mpu (ld1 h18 t41) fun t42 =>
      Mpu (binV .no .neq t40 t42) fun t43 =>
      k19 t43 h18) (
      k19 undef h18)) fun t43_2 h20 =>
  Mpu (pickV t37 (.bool true) t43_2) fun t44 =>
  J1 (fun k21 => Mif t44 false (
      Mpu (fld 4 t5_3) fun t46 =>
      Mpu (ldN 5 h20 t46) fun t47 =>
      Mpu (fld 4 t6_3) fun t48 =>
      Mpu (ldN 5 h20 t48) fun t49 =>
      Mpu (binV (eqK prg T_version_Want) .neq t47 t49) fun t50 =>
      k21 t50 h20) (
      k21 undef h20)) fun t50_2 h22 =>
  Mpu (pickV t44 (.bool true) t50_2) fun t51 =>
  J1 (fun k23 => Mif t51 false (
      Mpu (fld 9 t5_3) fun t53 =>
      Mpu (ld1 h22 t53) fun t54 =>
      Mpu (b2s h22 t54) fun t55 =>
      Mpu (fld 9 t6_3) fun t56 =>
      Mpu (ld1 h22 t56) fun t57 =>
      Mpu (b2s h22 t57) fun t58 =>
      Mpu (binV .no .neq t55 t58) fun t59 =>
      k23 t59 h22) (
      k23 undef h22)) fun t59_2 h24 =>
  Mpu (pickV t51 (.bool true) t59_2) fun t60 =>
  J1 (fun k25 => Mif t60 false (
      Mpu (fld 10 t5_3) fun t62 =>
      Mpu (ld1 h24 t62) fun t63 =>
      Mpu (lenV t63) fun t64 =>
      Mpu (fld 10 t6_3) fun t65 =>
      Mpu (ld1 h24 t65) fun t66 =>
      Mpu (lenV t66) fun t67 =>
      Mpu (binV .no .neq t64 t67) fun t68 =>
      k25 t68 h24) (
      k25 undef h24)) fun t68_2 h26 =>
  Mpu (pickV t60 (.bool true) t68_2) fun t69 =>
  Mcd t69 (
    R (.bool false) h26) (
    J1 (fun k27 =>
      Mpu (fld 10 t5_3) fun t70 =>
      Mpu (ld1 h26 t70) fun t71 =>
      Mpu (lenV t71) fun t72 =>
      L1 (fun k29 => fun t73_2 h30 =>
        Mpu (binV .no .lss t73_2 t72) fun t74 =>
        Mcd t74 (
          Mpu (fld 10 t5_3) fun t76 =>
          Mpu (ld1 h30 t76) fun t77 =>
          Mpu (ixS 1 t77 t73_2) fun t79 =>
          Mpu (ld1 h30 t79) fun t80 =>
          Mpu (fld 10 t6_3) fun t81 =>
          Mpu (ld1 h30 t81) fun t82 =>
          Mpu (ixS 1 t82 t73_2) fun t84 =>
          Mpu (ld1 h30 t84) fun t85 =>
          Mpu (binV .no .neq t80 t85) fun t86 =>
          Mcd t86 (
            R (.bool false) h30) (
            Mpu (binV .no .add t73_2 (.int .i64 1)) fun t87 =>
            k29 t87 h30)) (
          k27 t73_2 h30)) ((.int .i64 0)) h26) fun t73_4 h28 =>
    R (.bool true) h28)
theorem sh_syngraphlaw30_same_chk : fchkF prg [5, 6, 22, 29, 36, 43, 50, 59, 68, 73] Tryz.f10 2 = true := by kernel_rfl
theorem sh_syngraphlaw30_same_den (t0 t1 : Value) (H : Heap) (R : Value → Heap → Prop) : fdenF prg [5, 6, 22, 29, 36, 43, 50, 59, 68, 73] Tryz.f10 [t0, t1] H R = sh_syngraphlaw30_same t0 t1 H R := by kernel_rfl
theorem sh_syngraphlaw30_same_calls {t0 t1 : Value} {H : Heap} {R : Value → Heap → Prop} (h : sh_syngraphlaw30_same t0 t1 H R) : HCalls prg f_syngraphlaw30_same [t0, t1] H R :=
  calls_ofF Tryz.func10 sh_syngraphlaw30_same_chk (by rw [sh_syngraphlaw30_same_den]; exact h)

-- (syngraph/script.Line).Show
def sh_script_Line_Show (t0 : Value) (H : Heap) (R : Value → Heap → Prop) : Prop :=
  Mnew H T_script_Line (some (Value.cells t0)) fun t1 h1 =>
  J1 (fun k2 =>
    Mcall prg f_script_forms [] h1 fun t9 h4 =>
    Mpu (lenV t9) fun t10 =>
    L1 (fun k5 => fun t11_2 h6 =>
      Mpu (binV .no .lss t11_2 t10) fun t12 =>
      Mcd t12 (
        Mpu (ixS 14 t9 t11_2) fun t13 =>
        Mpu (ldN 14 h6 t13) fun t14 =>
        Mnew h6 T_script_form (zcells prg T_script_form) fun t5 h7 =>
        Mwr (stN 14 h7 t5 t14) fun h8 =>
        Mpu (ldN 14 h8 t5) fun t15 =>
        Mpu (ldN 12 h8 t1) fun t16 =>
        Mcall prg f_script_form_words [t15, t16] h8 fun t17 h9 =>
        Mcall prg f_strings_Join [t17, (.string ⟨#[32]⟩)] h9 fun t18 h10 =>
        Mcall prg f_script_Parse [t18] h10 fun t21 h11 =>
        Mpu (extV 0 t21) fun t22 =>
        Mpu (extV 1 t21) fun t23 =>
        Mnew h11 T_script_Line (zcells prg T_script_Line) fun t7 h12 =>
        Mwr (stN 12 h12 t7 t22) fun h13 =>
        Mpu (binV .no .eql t23 (.int .i64 0)) fun t25 =>
        J1 (fun k14 => Mif t25 true (
            Mpu (ldN 12 h13 t7) fun t27 =>
            Mpu (ldN 12 h13 t1) fun t28 =>
            Mcall prg f_script_Line_equal [t27, t28] h13 fun t29 h15 =>
            k14 t29 h15) (
            k14 undef h13)) fun t29_2 h16 =>
        Mpu (pickV t25 t29_2 (.bool false)) fun t30 =>
        Mcd t30 (
          R (.tuple #[t18, (.int .i64 0)]) h16) (
          Mpu (binV .no .add t11_2 (.int .i64 1)) fun t32 =>
          k5 t32 h16)) (
        k2 t11_2 h6)) ((.int .i64 0)) h4) fun t11_4 h3 =>
  R (.tuple #[(.string ⟨#[]⟩), (.int .i64 60)]) h3
theorem sh_script_Line_Show_chk : fchkF prg [11, 29] Tryz.f11 1 = true := by kernel_rfl
theorem sh_script_Line_Show_den (t0 : Value) (H : Heap) (R : Value → Heap → Prop) : fdenF prg [11, 29] Tryz.f11 [t0] H R = sh_script_Line_Show t0 H R := by kernel_rfl
theorem sh_script_Line_Show_calls {t0 : Value} {H : Heap} {R : Value → Heap → Prop} (h : sh_script_Line_Show t0 H R) : HCalls prg f_script_Line_Show [t0] H R :=
  calls_ofF Tryz.func11 sh_script_Line_Show_chk (by rw [sh_script_Line_Show_den]; exact h)

-- syngraph/syngraphlaw19.awake
end Go.Proofs.YtconalffokhplaaGreatDoor

/- PRINTED: clean texts -/
namespace Go.Proofs.YtconalffokhplaaGreatDoor
open Go.X
set_option maxRecDepth 100000
-- syngraph/syngraphlaw19.small
-- syngraph/tag.File
-- (syngraph/manifest.Manifest).Fits
-- strings.Contains
def sh_strings_Contains (t0 t1 : Value) (H : Heap) (R : Value → Heap → Prop) : Prop :=
  Mcall prg f_strings_Index [t0, t1] H fun t7 h1 =>
  Mpu (binV .no .geq t7 (.int .i64 0)) fun t8 =>
  R t8 h1
theorem sh_strings_Contains_chk : fchkF prg [] Tryz.f18 2 = true := by kernel_rfl
theorem sh_strings_Contains_den (t0 t1 : Value) (H : Heap) (R : Value → Heap → Prop) : fdenF prg [] Tryz.f18 [t0, t1] H R = sh_strings_Contains t0 t1 H R := by kernel_rfl
theorem sh_strings_Contains_calls {t0 t1 : Value} {H : Heap} {R : Value → Heap → Prop} (h : sh_strings_Contains t0 t1 H R) : HCalls prg f_strings_Contains [t0, t1] H R :=
  calls_ofF Tryz.func18 sh_strings_Contains_chk (by rw [sh_strings_Contains_den]; exact h)

-- strings.Split
def sh_strings_Split (t0 t1 : Value) (H : Heap) (R : Value → Heap → Prop) : Prop :=
  Mcall prg f_strings_genSplit [t0, t1, (.int .i64 0), (.int .i64 (-1))] H fun t7 h1 =>
  R t7 h1
theorem sh_strings_Split_chk : fchkF prg [] Tryz.f19 2 = true := by kernel_rfl
theorem sh_strings_Split_den (t0 t1 : Value) (H : Heap) (R : Value → Heap → Prop) : fdenF prg [] Tryz.f19 [t0, t1] H R = sh_strings_Split t0 t1 H R := by kernel_rfl
theorem sh_strings_Split_calls {t0 t1 : Value} {H : Heap} {R : Value → Heap → Prop} (h : sh_strings_Split t0 t1 H R) : HCalls prg f_strings_Split [t0, t1] H R :=
  calls_ofF Tryz.func19 sh_strings_Split_chk (by rw [sh_strings_Split_den]; exact h)

-- syngraph/script.forms
def sh_script_forms (H : Heap) (R : Value → Heap → Prop) : Prop :=
  Mcall prg f_script_step [(.string ⟨#[112, 117, 98, 108, 105, 115, 104]⟩), (.string ⟨#[97]⟩), (.int .i64 1)] H fun t1 h1 =>
  Mcall prg f_script_step [(.string ⟨#[114, 101, 102, 114, 101, 115, 104]⟩), (.string ⟨#[]⟩), (.int .i64 2)] h1 fun t2 h2 =>
  Mcall prg f_script_step [(.string ⟨#[115, 101, 110, 100]⟩), (.string ⟨#[]⟩), (.int .i64 3)] h2 fun t3 h3 =>
  Mcall prg f_script_step [(.string ⟨#[114, 111, 117, 110, 100]⟩), (.string ⟨#[]⟩), (.int .i64 15)] h3 fun t4 h4 =>
  Mcall prg f_script_step [(.string ⟨#[99, 97, 114, 114, 121]⟩), (.string ⟨#[]⟩), (.int .i64 14)] h4 fun t5 h5 =>
  Mcall prg f_script_step [(.string ⟨#[97, 114, 114, 105, 118, 101]⟩), (.string ⟨#[110]⟩), (.int .i64 4)] h5 fun t6 h6 =>
  Mcall prg f_script_step [(.string ⟨#[108, 111, 115, 101]⟩), (.string ⟨#[110]⟩), (.int .i64 5)] h6 fun t7 h7 =>
  Mcall prg f_script_step [(.string ⟨#[116, 119, 105, 99, 101]⟩), (.string ⟨#[110]⟩), (.int .i64 6)] h7 fun t8 h8 =>
  Mcall prg f_script_step [(.string ⟨#[97, 114, 109]⟩), (.string ⟨#[110]⟩), (.int .i64 11)] h8 fun t9 h9 =>
  Mcall prg f_script_step [(.string ⟨#[98, 101, 110, 100]⟩), (.string ⟨#[110, 97]⟩), (.int .i64 7)] h9 fun t10 h10 =>
  Mcall prg f_script_step [(.string ⟨#[102, 111, 114, 103, 101]⟩), (.string ⟨#[110, 97, 100]⟩), (.int .i64 8)] h10 fun t11 h11 =>
  Mcall prg f_script_step [(.string ⟨#[116, 97, 109, 112, 101, 114]⟩), (.string ⟨#[110, 97, 100]⟩), (.int .i64 13)] h11 fun t12 h12 =>
  Mcall prg f_script_step [(.string ⟨#[102, 101, 116, 99, 104]⟩), (.string ⟨#[97]⟩), (.int .i64 9)] h12 fun t13 h13 =>
  Mcall prg f_script_step [(.string ⟨#[99, 114, 97, 115, 104]⟩), (.string ⟨#[108]⟩), (.int .i64 12)] h13 fun t14 h14 =>
  Mcall prg f_script_told [(.string ⟨#[105, 110, 115, 116, 97, 108, 108]⟩), (.string ⟨#[115, 119]⟩), (.int .i64 2)] h14 fun t15 h15 =>
  Mcall prg f_script_told [(.string ⟨#[117, 112, 103, 114, 97, 100, 101]⟩), (.string ⟨#[115]⟩), (.int .i64 3)] h15 fun t16 h16 =>
  Mcall prg f_script_told [(.string ⟨#[114, 101, 109, 111, 118, 101]⟩), (.string ⟨#[115]⟩), (.int .i64 4)] h16 fun t17 h17 =>
  Mcall prg f_script_told [(.string ⟨#[111, 119, 110, 101, 114]⟩), (.string ⟨#[115]⟩), (.int .i64 10)] h17 fun t18 h18 =>
  Mcall prg f_script_told [(.string ⟨#[119, 104, 121]⟩), (.string ⟨#[115]⟩), (.int .i64 11)] h18 fun t19 h19 =>
  Mcall prg f_script_told [(.string ⟨#[98, 97, 99, 107]⟩), (.string ⟨#[97]⟩), (.int .i64 5)] h19 fun t20 h20 =>
  Mcall prg f_script_told [(.string ⟨#[100, 105, 102, 102]⟩), (.string ⟨#[97]⟩), (.int .i64 12)] h20 fun t21 h21 =>
  Mcall prg f_script_told [(.string ⟨#[108, 105, 115, 116]⟩), (.string ⟨#[]⟩), (.int .i64 6)] h21 fun t22 h22 =>
  Mcall prg f_script_told [(.string ⟨#[99, 104, 101, 99, 107]⟩), (.string ⟨#[]⟩), (.int .i64 7)] h22 fun t23 h23 =>
  Mcall prg f_script_told [(.string ⟨#[97, 117, 100, 105, 116]⟩), (.string ⟨#[]⟩), (.int .i64 8)] h23 fun t24 h24 =>
  Mcall prg f_script_told [(.string ⟨#[104, 105, 115, 116, 111, 114, 121]⟩), (.string ⟨#[]⟩), (.int .i64 9)] h24 fun t25 h25 =>
  Mcall prg f_script_told [(.string ⟨#[108, 111, 97, 100]⟩), (.string ⟨#[100]⟩), (.int .i64 1)] h25 fun t26 h26 =>
  Mcall prg f_script_ask [(.string ⟨#[104, 101, 97, 100, 115]⟩), (.int .i64 1)] h26 fun t27 h27 =>
  Mcall prg f_script_ask [(.string ⟨#[108, 101, 116, 116, 101, 114, 115]⟩), (.int .i64 2)] h27 fun t28 h28 =>
  Mcall prg f_script_ask [(.string ⟨#[102, 105, 108, 101, 115]⟩), (.int .i64 3)] h28 fun t29 h29 =>
  Mcall prg f_script_ask [(.string ⟨#[109, 97, 114, 107]⟩), (.int .i64 4)] h29 fun t30 h30 =>
  Mnews h30 T_script_form 30 (bslV prg T_script_form 30 [(0, t1), (1, t2), (2, t3), (3, t4), (4, t5), (5, t6), (6, t7), (7, t8), (8, t9), (9, t10), (10, t11), (11, t12), (12, t13), (13, t14), (14, t15), (15, t16), (16, t17), (17, t18), (18, t19), (19, t20), (20, t21), (21, t22), (22, t23), (23, t24), (24, t25), (25, t26), (26, t27), (27, t28), (28, t29), (29, t30)]) fun t31 h31 =>
  R t31 h31
theorem sh_script_forms_chk : fchkF prg [] Tryz.f20 0 = true := by kernel_rfl
theorem sh_script_forms_den (H : Heap) (R : Value → Heap → Prop) : fdenF prg [] Tryz.f20 [] H R = sh_script_forms H R := by kernel_rfl
theorem sh_script_forms_calls {H : Heap} {R : Value → Heap → Prop} (h : sh_script_forms H R) : HCalls prg f_script_forms [] H R :=
  calls_ofF Tryz.func20 sh_script_forms_chk (by rw [sh_script_forms_den]; exact h)

-- (syngraph/script.form).parse
def sh_script_form_parse (t0 t1 : Value) (H : Heap) (R : Value → Heap → Prop) : Prop :=
  Mnew H T_script_form (some (Value.cells t0)) fun t2 h1 =>
  Mnew h1 T_script_Line (zcells prg T_script_Line) fun t4 h2 =>
  Mpu (fld 2 t2) fun t9 =>
  Mpu (ldN 12 h2 t9) fun t10 =>
  Mnew h2 T_script_Line (zcells prg T_script_Line) fun t6 h3 =>
  Mwr (stN 12 h3 t6 t10) fun h4 =>
  Mpu (lenV t1) fun t12 =>
  Mpu (binV .no .eql t12 (.int .i64 1)) fun t13 =>
  J1 (fun k5 => Mif t13 true (
      Mpu (fld 1 t2) fun t15 =>
      Mpu (ld1 h4 t15) fun t16 =>
      Mpu (binV .no .eql t16 (.string ⟨#[108]⟩)) fun t17 =>
      k5 t17 h4) (
      k5 undef h4)) fun t17_2 h6 =>
  Mpu (pickV t13 t17_2 (.bool false)) fun t18 =>
  Mcd t18 (
    Mpu (ldN 12 h6 t6) fun t19 =>
    Mwr (stN 12 h6 t4 t19) fun h7 =>
    Mpu (ldN 12 h7 t4) fun r8 =>
    R (.tuple #[r8, (.bool true)]) h7) (
    Mpu (lenV t1) fun t21 =>
    Mpu (fld 1 t2) fun t22 =>
    Mpu (ld1 h6 t22) fun t23 =>
    Mpu (lenT t23) fun t24 =>
    Mpu (binV .no .add (.int .i64 1) t24) fun t25 =>
    Mpu (binV .no .neq t21 t25) fun t26 =>
    Mcd t26 (
      Mpu (buildV prg T_script_Line []) fun t27 =>
      Mwr (stN 12 h6 t4 t27) fun h9 =>
      Mpu (ldN 12 h9 t4) fun r10 =>
      R (.tuple #[r10, (.bool false)]) h9) (
      J1 (fun k11 =>
        Mpu (fld 1 t2) fun t28 =>
        Mpu (ld1 h6 t28) fun t29 =>
        Ms2b T_uint8 h6 t29 fun t30 h13 =>
        Mpu (lenV t30) fun t31 =>
        L1 (fun k14 => fun t32_2 h15 =>
          Mpu (binV .no .lss t32_2 t31) fun t33 =>
          Mcd t33 (
            Mpu (ixS 1 t30 t32_2) fun t35 =>
            Mpu (ld1 h15 t35) fun t36 =>
            Mpu (binV .no .add (.int .i64 1) t32_2) fun t40 =>
            Mpu (ixS 1 t1 t40) fun t41 =>
            Mpu (ld1 h15 t41) fun t42 =>
            Mcall prg f_script_Line_read [t6, t36, t42] h15 fun t43 h16 =>
            Mpu (unV .not t43) fun t44 =>
            Mcd t44 (
              Mpu (buildV prg T_script_Line []) fun t45 =>
              Mwr (stN 12 h16 t4 t45) fun h17 =>
              Mpu (ldN 12 h17 t4) fun r18 =>
              R (.tuple #[r18, (.bool false)]) h17) (
              Mpu (binV .no .add t32_2 (.int .i64 1)) fun t46 =>
              k14 t46 h16)) (
            k11 t32_2 h15)) ((.int .i64 0)) h13) fun t32_4 h12 =>
      Mpu (ldN 12 h12 t6) fun t47 =>
      Mwr (stN 12 h12 t4 t47) fun h19 =>
      Mpu (ldN 12 h19 t4) fun r20 =>
      R (.tuple #[r20, (.bool true)]) h19))
theorem sh_script_form_parse_chk : fchkF prg [17, 32] Tryz.f21 2 = true := by kernel_rfl
theorem sh_script_form_parse_den (t0 t1 : Value) (H : Heap) (R : Value → Heap → Prop) : fdenF prg [17, 32] Tryz.f21 [t0, t1] H R = sh_script_form_parse t0 t1 H R := by kernel_rfl
theorem sh_script_form_parse_calls {t0 t1 : Value} {H : Heap} {R : Value → Heap → Prop} (h : sh_script_form_parse t0 t1 H R) : HCalls prg f_script_form_parse [t0, t1] H R :=
  calls_ofF Tryz.func21 sh_script_form_parse_chk (by rw [sh_script_form_parse_den]; exact h)

-- syngraph/syngraphref30.Words
def sh_syngraphref30_Words (t0 : Value) (H : Heap) (R : Value → Heap → Prop) : Prop :=
  Mnews H T_string 1 (bslV prg T_string 1 [(0, (.string ⟨#[]⟩))]) fun t5 h1 =>
  J2 (fun k2 =>
    L2 (fun k4 => fun t3_2 t4_2 h5 =>
      Mpu (lenT t0) fun t8 =>
      Mpu (binV .no .lss t4_2 t8) fun t9 =>
      Mcd t9 (
        J1 (fun k6 =>
          Mpu (ixT t0 t4_2) fun t14 =>
          Mpu (binV .no .eql t14 (.int .u8 32)) fun t15 =>
          Mcd t15 (
            Mnews h5 T_string 1 (bslV prg T_string 1 [(0, (.string ⟨#[]⟩))]) fun t17 h8 =>
            Mapp T_string 1 16 h8 t3_2 t17 fun t18 h9 =>
            k6 t18 h9) (
            Mpu (lenV t3_2) fun t21 =>
            Mpu (binV .no .sub t21 (.int .i64 1)) fun t22 =>
            Mpu (ixS 1 t3_2 t22) fun t23 =>
            Mpu (ld1 h5 t23) fun t24 =>
            Mpu (binV .no .add t4_2 (.int .i64 1)) fun t28 =>
            Mpu (slT t0 (some t4_2) (some t28)) fun t29 =>
            Mpu (binV .no .add t24 t29) fun t30 =>
            Mpu (ixS 1 t3_2 t22) fun t31 =>
            Mwr (st1 h5 t31 t30) fun h10 =>
            k6 t3_2 h10)) fun t3_4 h7 =>
        Mpu (binV .no .add t4_2 (.int .i64 1)) fun t11 =>
        k4 t3_4 t11 h7) (
        k2 t3_2 t4_2 h5)) (t5) ((.int .i64 0)) h1) fun t3_5 t4_4 h3 =>
  R t3_5 h3
theorem sh_syngraphref30_Words_chk : fchkF prg [3, 4] Tryz.f22 1 = true := by kernel_rfl
theorem sh_syngraphref30_Words_den (t0 : Value) (H : Heap) (R : Value → Heap → Prop) : fdenF prg [3, 4] Tryz.f22 [t0] H R = sh_syngraphref30_Words t0 H R := by kernel_rfl
theorem sh_syngraphref30_Words_calls {t0 : Value} {H : Heap} {R : Value → Heap → Prop} (h : sh_syngraphref30_Words t0 H R) : HCalls prg f_syngraphref30_Words [t0] H R :=
  calls_ofF Tryz.func22 sh_syngraphref30_Words_chk (by rw [sh_syngraphref30_Words_den]; exact h)

-- syngraph/syngraphref30.Parts
def sh_syngraphref30_Parts (t0 : Value) (H : Heap) (R : Value → Heap → Prop) : Prop :=
  Mnews H T_string 30 (bslV prg T_string 30 [(0, (.string ⟨#[112, 117, 98, 108, 105, 115, 104]⟩)), (1, (.string ⟨#[114, 101, 102, 114, 101, 115, 104]⟩)), (2, (.string ⟨#[115, 101, 110, 100]⟩)), (3, (.string ⟨#[114, 111, 117, 110, 100]⟩)), (4, (.string ⟨#[99, 97, 114, 114, 121]⟩)), (5, (.string ⟨#[97, 114, 114, 105, 118, 101]⟩)), (6, (.string ⟨#[108, 111, 115, 101]⟩)), (7, (.string ⟨#[116, 119, 105, 99, 101]⟩)), (8, (.string ⟨#[97, 114, 109]⟩)), (9, (.string ⟨#[98, 101, 110, 100]⟩)), (10, (.string ⟨#[102, 111, 114, 103, 101]⟩)), (11, (.string ⟨#[116, 97, 109, 112, 101, 114]⟩)), (12, (.string ⟨#[102, 101, 116, 99, 104]⟩)), (13, (.string ⟨#[99, 114, 97, 115, 104]⟩)), (14, (.string ⟨#[105, 110, 115, 116, 97, 108, 108]⟩)), (15, (.string ⟨#[117, 112, 103, 114, 97, 100, 101]⟩)), (16, (.string ⟨#[114, 101, 109, 111, 118, 101]⟩)), (17, (.string ⟨#[111, 119, 110, 101, 114]⟩)), (18, (.string ⟨#[119, 104, 121]⟩)), (19, (.string ⟨#[98, 97, 99, 107]⟩)), (20, (.string ⟨#[100, 105, 102, 102]⟩)), (21, (.string ⟨#[108, 105, 115, 116]⟩)), (22, (.string ⟨#[99, 104, 101, 99, 107]⟩)), (23, (.string ⟨#[97, 117, 100, 105, 116]⟩)), (24, (.string ⟨#[104, 105, 115, 116, 111, 114, 121]⟩)), (25, (.string ⟨#[108, 111, 97, 100]⟩)), (26, (.string ⟨#[104, 101, 97, 100, 115]⟩)), (27, (.string ⟨#[108, 101, 116, 116, 101, 114, 115]⟩)), (28, (.string ⟨#[102, 105, 108, 101, 115]⟩)), (29, (.string ⟨#[109, 97, 114, 107]⟩))]) fun t13 h1 =>
  Mnews h1 T_string 30 (bslV prg T_string 30 [(0, (.string ⟨#[97]⟩)), (1, (.string ⟨#[]⟩)), (2, (.string ⟨#[]⟩)), (3, (.string ⟨#[]⟩)), (4, (.string ⟨#[]⟩)), (5, (.string ⟨#[110]⟩)), (6, (.string ⟨#[110]⟩)), (7, (.string ⟨#[110]⟩)), (8, (.string ⟨#[110]⟩)), (9, (.string ⟨#[110, 97]⟩)), (10, (.string ⟨#[110, 97, 100]⟩)), (11, (.string ⟨#[110, 97, 100]⟩)), (12, (.string ⟨#[97]⟩)), (13, (.string ⟨#[108]⟩)), (14, (.string ⟨#[115, 119]⟩)), (15, (.string ⟨#[115]⟩)), (16, (.string ⟨#[115]⟩)), (17, (.string ⟨#[115]⟩)), (18, (.string ⟨#[115]⟩)), (19, (.string ⟨#[97]⟩)), (20, (.string ⟨#[97]⟩)), (21, (.string ⟨#[]⟩)), (22, (.string ⟨#[]⟩)), (23, (.string ⟨#[]⟩)), (24, (.string ⟨#[]⟩)), (25, (.string ⟨#[100]⟩)), (26, (.string ⟨#[]⟩)), (27, (.string ⟨#[]⟩)), (28, (.string ⟨#[]⟩)), (29, (.string ⟨#[]⟩))]) fun t14 h2 =>
  Mnews h2 T_int 30 (bslV prg T_int 30 [(0, (.int .i64 1)), (1, (.int .i64 2)), (2, (.int .i64 3)), (3, (.int .i64 15)), (4, (.int .i64 14)), (5, (.int .i64 4)), (6, (.int .i64 5)), (7, (.int .i64 6)), (8, (.int .i64 11)), (9, (.int .i64 7)), (10, (.int .i64 8)), (11, (.int .i64 13)), (12, (.int .i64 9)), (13, (.int .i64 12)), (14, (.int .i64 10)), (15, (.int .i64 10)), (16, (.int .i64 10)), (17, (.int .i64 10)), (18, (.int .i64 10)), (19, (.int .i64 10)), (20, (.int .i64 10)), (21, (.int .i64 10)), (22, (.int .i64 10)), (23, (.int .i64 10)), (24, (.int .i64 10)), (25, (.int .i64 10)), (26, (.int .i64 0)), (27, (.int .i64 0)), (28, (.int .i64 0)), (29, (.int .i64 0))]) fun t15 h3 =>
  Mnews h3 T_int 30 (bslV prg T_int 30 [(0, (.int .i64 0)), (1, (.int .i64 0)), (2, (.int .i64 0)), (3, (.int .i64 0)), (4, (.int .i64 0)), (5, (.int .i64 0)), (6, (.int .i64 0)), (7, (.int .i64 0)), (8, (.int .i64 0)), (9, (.int .i64 0)), (10, (.int .i64 0)), (11, (.int .i64 0)), (12, (.int .i64 0)), (13, (.int .i64 0)), (14, (.int .i64 2)), (15, (.int .i64 3)), (16, (.int .i64 4)), (17, (.int .i64 10)), (18, (.int .i64 11)), (19, (.int .i64 5)), (20, (.int .i64 12)), (21, (.int .i64 6)), (22, (.int .i64 7)), (23, (.int .i64 8)), (24, (.int .i64 9)), (25, (.int .i64 1)), (26, (.int .i64 0)), (27, (.int .i64 0)), (28, (.int .i64 0)), (29, (.int .i64 0))]) fun t16 h4 =>
  J1 (fun k5 =>
    L1 (fun k7 => fun t11_2 h8 =>
      Mpu (lenV t13) fun t19 =>
      Mpu (binV .no .lss t11_2 t19) fun t20 =>
      Mcd t20 (
        Mpu (ixS 1 t13 t11_2) fun t25 =>
        Mpu (ld1 h8 t25) fun t26 =>
        Mpu (binV .no .eql t26 t0) fun t28 =>
        Mcd t28 (
          J1 (fun k9 =>
            Mpu (binV .no .geq t11_2 (.int .i64 26)) fun t30 =>
            Mcd t30 (
              Mpu (binV .no .sub t11_2 (.int .i64 25)) fun t32 =>
              k9 t32 h8) (
              k9 (.int .i64 0) h8)) fun t12_3 h10 =>
          Mpu (ixS 1 t14 t11_2) fun t35 =>
          Mpu (ld1 h10 t35) fun t36 =>
          Mpu (ixS 1 t15 t11_2) fun t39 =>
          Mpu (ld1 h10 t39) fun t40 =>
          Mpu (ixS 1 t16 t11_2) fun t43 =>
          Mpu (ld1 h10 t43) fun t44 =>
          R (.tuple #[t36, t40, t44, t12_3, (.bool true)]) h10) (
          Mpu (binV .no .add t11_2 (.int .i64 1)) fun t22 =>
          k7 t22 h8)) (
        k5 t11_2 h8)) ((.int .i64 0)) h4) fun t11_4 h6 =>
  R (.tuple #[(.string ⟨#[]⟩), (.int .i64 0), (.int .i64 0), (.int .i64 0), (.bool false)]) h6
theorem sh_syngraphref30_Parts_chk : fchkF prg [11, 12] Tryz.f23 1 = true := by kernel_rfl
theorem sh_syngraphref30_Parts_den (t0 : Value) (H : Heap) (R : Value → Heap → Prop) : fdenF prg [11, 12] Tryz.f23 [t0] H R = sh_syngraphref30_Parts t0 H R := by kernel_rfl
theorem sh_syngraphref30_Parts_calls {t0 : Value} {H : Heap} {R : Value → Heap → Prop} (h : sh_syngraphref30_Parts t0 H R) : HCalls prg f_syngraphref30_Parts [t0] H R :=
  calls_ofF Tryz.func23 sh_syngraphref30_Parts_chk (by rw [sh_syngraphref30_Parts_den]; exact h)

-- syngraph/syngraphref30.Number
def sh_syngraphref30_Number (t0 : Value) (H : Heap) (R : Value → Heap → Prop) : Prop :=
  Mpu (lenT t0) fun t7 =>
  Mpu (binV .no .lss t7 (.int .i64 1)) fun t8 =>
  J1 (fun k1 => Mif t8 false (
      Mpu (lenT t0) fun t11 =>
      Mpu (binV .no .gtr t11 (.int .i64 9)) fun t12 =>
      k1 t12 H) (
      k1 undef H)) fun t12_2 h2 =>
  Mpu (pickV t8 (.bool true) t12_2) fun t13 =>
  J1 (fun k3 => Mif t13 false (
      Mpu (lenT t0) fun t16 =>
      Mpu (binV .no .gtr t16 (.int .i64 1)) fun t17 =>
      k3 t17 h2) (
      k3 undef h2)) fun t18_2 h4 =>
  J1 (fun k5 => Mif t18_2 true (
      Mpu (ixT t0 (.int .i64 0)) fun t20 =>
      Mpu (binV .no .eql t20 (.int .u8 48)) fun t21 =>
      k5 t21 h4) (
      k5 undef h4)) fun t21_2 h6 =>
  J1 (fun k7 => Mif t13 false (
      Mpu (pickV t18_2 t21_2 (.bool false)) fun t22 =>
      k7 t22 h6) (
      k7 undef h6)) fun t22_2 h8 =>
  Mpu (pickV t13 (.bool true) t22_2) fun t23 =>
  Mcd t23 (
    R (.tuple #[(.int .i64 0), (.bool false)]) h8) (
    J2 (fun k9 =>
      L2 (fun k11 => fun t4_2 t5_2 h12 =>
        Mpu (lenT t0) fun t26 =>
        Mpu (binV .no .lss t5_2 t26) fun t27 =>
        Mcd t27 (
          Mpu (ixT t0 t5_2) fun t32 =>
          Mpu (binV .no .lss t32 (.int .u8 48)) fun t33 =>
          J1 (fun k13 => Mif t33 false (
              Mpu (ixT t0 t5_2) fun t37 =>
              Mpu (binV .no .gtr t37 (.int .u8 57)) fun t38 =>
              k13 t38 h12) (
              k13 undef h12)) fun t38_2 h14 =>
          Mpu (pickV t33 (.bool true) t38_2) fun t39 =>
          Mcd t39 (
            R (.tuple #[(.int .i64 0), (.bool false)]) h14) (
            Mpu (binV .no .mul (.int .i64 10) t4_2) fun t41 =>
            Mpu (ixT t0 t5_2) fun t44 =>
            Mpu (binV .no .sub t44 (.int .u8 48)) fun t45 =>
            Mpu (cvI .i64 t45) fun t46 =>
            Mpu (binV .no .add t41 t46) fun t47 =>
            Mpu (binV .no .add t5_2 (.int .i64 1)) fun t29 =>
            k11 t47 t29 h14)) (
          k9 t4_2 t5_2 h12)) ((.int .i64 0)) ((.int .i64 0)) h8) fun t4_4 t5_4 h10 =>
    R (.tuple #[t4_4, (.bool true)]) h10)
theorem sh_syngraphref30_Number_chk : fchkF prg [4, 5, 12, 18, 21, 22, 38] Tryz.f24 1 = true := by kernel_rfl
theorem sh_syngraphref30_Number_den (t0 : Value) (H : Heap) (R : Value → Heap → Prop) : fdenF prg [4, 5, 12, 18, 21, 22, 38] Tryz.f24 [t0] H R = sh_syngraphref30_Number t0 H R := by kernel_rfl
theorem sh_syngraphref30_Number_calls {t0 : Value} {H : Heap} {R : Value → Heap → Prop} (h : sh_syngraphref30_Number t0 H R) : HCalls prg f_syngraphref30_Number [t0] H R :=
  calls_ofF Tryz.func24 sh_syngraphref30_Number_chk (by rw [sh_syngraphref30_Number_den]; exact h)

end Go.Proofs.YtconalffokhplaaGreatDoor

/- PRINTED: clean texts -/
namespace Go.Proofs.YtconalffokhplaaGreatDoor
open Go.X
set_option maxRecDepth 100000
-- syngraph/syngraphref30.Data
def sh_syngraphref30_Data (t0 : Value) (H : Heap) (R : Value → Heap → Prop) : Prop :=
  Mpu (binV .no .eql t0 (.string ⟨#[45]⟩)) fun t9 =>
  Mcd t9 (
    R (.tuple #[(.string ⟨#[]⟩), (.bool true)]) H) (
    Mpu (lenT t0) fun t11 =>
    Mpu (binV .no .eql t11 (.int .i64 0)) fun t12 =>
    J1 (fun k1 => Mif t12 false (
        Mpu (lenT t0) fun t15 =>
        Mpu (binV .no .rem t15 (.int .i64 2)) fun t16 =>
        Mpu (binV .no .eql t16 (.int .i64 1)) fun t17 =>
        k1 t17 H) (
        k1 undef H)) fun t17_2 h2 =>
    Mpu (pickV t12 (.bool true) t17_2) fun t18 =>
    Mcd t18 (
      R (.tuple #[(.string ⟨#[]⟩), (.bool false)]) h2) (
      J3 (fun k3 =>
        L3 (fun k5 => fun t4_2 t5_2 t6_2 h6 =>
          Mpu (lenT t0) fun t21 =>
          Mpu (binV .no .lss t6_2 t21) fun t22 =>
          Mcd t22 (
            J5 (fun k7 =>
              J2 (fun k9 =>
                Mpu (ixT t0 t6_2) fun t27 =>
                Mpu (binV .no .geq t27 (.int .u8 48)) fun t28 =>
                J1 (fun k11 => Mif t28 true (
                    Mpu (ixT t0 t6_2) fun t32 =>
                    Mpu (binV .no .leq t32 (.int .u8 57)) fun t33 =>
                    k11 t33 h6) (
                    k11 undef h6)) fun t33_2 h12 =>
                Mpu (pickV t28 t33_2 (.bool false)) fun t34 =>
                Mcd t34 (
                  Mpu (ixT t0 t6_2) fun t37 =>
                  Mpu (binV .no .sub t37 (.int .u8 48)) fun t38 =>
                  Mpu (cvI .i64 t38) fun t39 =>
                  k9 t39 t33_2 h12) (
                  k9 (.int .i64 (-1)) t33_2 h12)) fun t7_3 t33_3 h10 =>
              J2 (fun k13 =>
                Mpu (ixT t0 t6_2) fun t42 =>
                Mpu (binV .no .geq t42 (.int .u8 97)) fun t43 =>
                J1 (fun k15 => Mif t43 true (
                    Mpu (ixT t0 t6_2) fun t47 =>
                    Mpu (binV .no .leq t47 (.int .u8 102)) fun t48 =>
                    k15 t48 h10) (
                    k15 undef h10)) fun t48_2 h16 =>
                Mpu (pickV t43 t48_2 (.bool false)) fun t49 =>
                Mcd t49 (
                  Mpu (ixT t0 t6_2) fun t52 =>
                  Mpu (binV .no .sub t52 (.int .u8 97)) fun t53 =>
                  Mpu (cvI .i64 t53) fun t54 =>
                  Mpu (binV .no .add t54 (.int .i64 10)) fun t55 =>
                  k13 t55 t48_2 h16) (
                  k13 t7_3 t48_2 h16)) fun t7_5 t48_3 h14 =>
              Mpu (binV .no .lss t7_5 (.int .i64 0)) fun t57 =>
              Mcd t57 (
                R (.tuple #[(.string ⟨#[]⟩), (.bool false)]) h14) (
                Mpu (binV .no .mul (.int .i64 16) t5_2) fun t59 =>
                Mpu (binV .no .add t59 t7_5) fun t61 =>
                Mpu (binV .no .rem t6_2 (.int .i64 2)) fun t63 =>
                Mpu (binV .no .eql t63 (.int .i64 1)) fun t64 =>
                Mcd t64 (
                  Mpu (cvI .u8 t61) fun t67 =>
                  Mnews h14 T_uint8 1 (bslV prg T_uint8 1 [(0, t67)]) fun t68 h17 =>
                  Mpu (b2s h17 t68) fun t69 =>
                  Mpu (binV .no .add t4_2 t69) fun t70 =>
                  k7 t70 (.int .i64 0) t7_5 t33_3 t48_3 h17) (
                  k7 t4_2 t61 t7_5 t33_3 t48_3 h14))) fun t4_4 t5_5 t7_6 t33_4 t48_4 h8 =>
            Mpu (binV .no .add t6_2 (.int .i64 1)) fun t24 =>
            k5 t4_4 t5_5 t24 h8) (
            k3 t4_2 t5_2 t6_2 h6)) ((.string ⟨#[]⟩)) ((.int .i64 0)) ((.int .i64 0)) h2) fun t4_5 t5_6 t6_4 h4 =>
      R (.tuple #[t4_5, (.bool true)]) h4))
theorem sh_syngraphref30_Data_chk : fchkF prg [4, 5, 6, 7, 17, 33, 48] Tryz.f26 1 = true := by kernel_rfl
theorem sh_syngraphref30_Data_den (t0 : Value) (H : Heap) (R : Value → Heap → Prop) : fdenF prg [4, 5, 6, 7, 17, 33, 48] Tryz.f26 [t0] H R = sh_syngraphref30_Data t0 H R := by kernel_rfl
theorem sh_syngraphref30_Data_calls {t0 : Value} {H : Heap} {R : Value → Heap → Prop} (h : sh_syngraphref30_Data t0 H R) : HCalls prg f_syngraphref30_Data [t0] H R :=
  calls_ofF Tryz.func26 sh_syngraphref30_Data_chk (by rw [sh_syngraphref30_Data_den]; exact h)

-- syngraph/syngraphlaw30.lost
def sh_syngraphlaw30_lost (t0 : Value) (H : Heap) (R : Value → Heap → Prop) : Prop :=
  J3 (fun k1 =>
    L3 (fun k3 => fun t4_2 t5_2 t6_2 h4 =>
      Mpu (lenT t0) fun t11 =>
      Mpu (binV .no .leq t6_2 t11) fun t12 =>
      Mcd t12 (
        J3 (fun k5 =>
          Mpu (lenT t0) fun t17 =>
          Mpu (binV .no .lss t6_2 t17) fun t18 =>
          J1 (fun k7 => Mif t18 true (
              Mpu (ixT t0 t6_2) fun t22 =>
              Mpu (binV .no .neq t22 (.int .u8 44)) fun t23 =>
              k7 t23 h4) (
              k7 undef h4)) fun t23_2 h8 =>
          Mpu (pickV t18 t23_2 (.bool false)) fun t24 =>
          Mcd t24 (
            Mpu (binV .no .add t6_2 (.int .i64 1)) fun t29 =>
            Mpu (slT t0 (some t6_2) (some t29)) fun t30 =>
            Mpu (binV .no .add t5_2 t30) fun t31 =>
            k5 t4_2 t31 t23_2 h8) (
            Mcall prg f_syngraphref30_Number [t5_2] h8 fun t34 h9 =>
            Mpu (extV 0 t34) fun t35 =>
            Mpu (extV 1 t34) fun t36 =>
            Mpu (unV .not t36) fun t38 =>
            Mcd t38 (
              R (.tuple #[(.slice none 0 0), (.bool false)]) h9) (
              Mnews h9 T_int 1 (bslV prg T_int 1 [(0, t35)]) fun t41 h10 =>
              Mapp T_int 1 8 h10 t4_2 t41 fun t42 h11 =>
              k5 t42 (.string ⟨#[]⟩) t23_2 h11))) fun t4_4 t5_5 t23_3 h6 =>
        Mpu (binV .no .add t6_2 (.int .i64 1)) fun t14 =>
        k3 t4_4 t5_5 t14 h6) (
        k1 t4_2 t5_2 t6_2 h4)) ((.slice none 0 0)) ((.string ⟨#[]⟩)) ((.int .i64 0)) H) fun t4_5 t5_6 t6_4 h2 =>
  R (.tuple #[t4_5, (.bool true)]) h2
theorem sh_syngraphlaw30_lost_chk : fchkF prg [4, 5, 6, 23] Tryz.f27 1 = true := by kernel_rfl
theorem sh_syngraphlaw30_lost_den (t0 : Value) (H : Heap) (R : Value → Heap → Prop) : fdenF prg [4, 5, 6, 23] Tryz.f27 [t0] H R = sh_syngraphlaw30_lost t0 H R := by kernel_rfl
theorem sh_syngraphlaw30_lost_calls {t0 : Value} {H : Heap} {R : Value → Heap → Prop} (h : sh_syngraphlaw30_lost t0 H R) : HCalls prg f_syngraphlaw30_lost [t0] H R :=
  calls_ofF Tryz.func27 sh_syngraphlaw30_lost_chk (by rw [sh_syngraphlaw30_lost_den]; exact h)

-- (syngraph/script.form).words
def sh_script_form_words (t0 t1 : Value) (H : Heap) (R : Value → Heap → Prop) : Prop :=
  Mnew H T_script_form (some (Value.cells t0)) fun t2 h1 =>
  Mnew h1 T_script_Line (some (Value.cells t1)) fun t3 h2 =>
  Mpu (fld 0 t2) fun t9 =>
  Mpu (ld1 h2 t9) fun t10 =>
  Mnews h2 T_string 1 (bslV prg T_string 1 [(0, t10)]) fun t11 h3 =>
  J2 (fun k4 =>
    Mpu (fld 1 t2) fun t12 =>
    Mpu (ld1 h3 t12) fun t13 =>
    Ms2b T_uint8 h3 t13 fun t14 h6 =>
    Mpu (lenV t14) fun t15 =>
    L2 (fun k7 => fun t5_2 t16_2 h8 =>
      Mpu (binV .no .lss t16_2 t15) fun t17 =>
      Mcd t17 (
        J2 (fun k9 =>
          Mpu (ixS 1 t14 t16_2) fun t18 =>
          Mpu (ld1 h8 t18) fun t19 =>
          Mpu (ldN 12 h8 t3) fun t20 =>
          Mcall prg f_script_Line_show [t20, t19] h8 fun t22 h11 =>
          Mpu (binV .no .neq t22 (.string ⟨#[]⟩)) fun t24 =>
          J1 (fun k12 => Mif t24 false (
              Mpu (binV .no .neq t19 (.int .u8 108)) fun t27 =>
              k12 t27 h11) (
              k12 undef h11)) fun t27_2 h13 =>
          Mpu (pickV t24 (.bool true) t27_2) fun t28 =>
          Mcd t28 (
            Mnews h13 T_string 1 (bslV prg T_string 1 [(0, t22)]) fun t31 h14 =>
            Mapp T_string 1 16 h14 t5_2 t31 fun t32 h15 =>
            k9 t32 t27_2 h15) (
            k9 t5_2 t27_2 h13)) fun t5_4 t27_3 h10 =>
        Mpu (binV .no .add t16_2 (.int .i64 1)) fun t33 =>
        k7 t5_4 t33 h10) (
        k4 t5_2 t16_2 h8)) (t11) ((.int .i64 0)) h6) fun t5_5 t16_4 h5 =>
  R t5_5 h5
theorem sh_script_form_words_chk : fchkF prg [5, 16, 27] Tryz.f29 2 = true := by kernel_rfl
theorem sh_script_form_words_den (t0 t1 : Value) (H : Heap) (R : Value → Heap → Prop) : fdenF prg [5, 16, 27] Tryz.f29 [t0, t1] H R = sh_script_form_words t0 t1 H R := by kernel_rfl
theorem sh_script_form_words_calls {t0 t1 : Value} {H : Heap} {R : Value → Heap → Prop} (h : sh_script_form_words t0 t1 H R) : HCalls prg f_script_form_words [t0, t1] H R :=
  calls_ofF Tryz.func29 sh_script_form_words_chk (by rw [sh_script_form_words_den]; exact h)

-- (syngraph/script.Line).equal
def sh_script_Line_equal (t0 t1 : Value) (H : Heap) (R : Value → Heap → Prop) : Prop :=
  Mnew H T_script_Line (some (Value.cells t0)) fun t2 h1 =>
  Mnew h1 T_script_Line (some (Value.cells t1)) fun t3 h2 =>
  J2 (fun k3 =>
    Mpu (fld 0 t2) fun t7 =>
    Mpu (ldN 11 h2 t7) fun t8 =>
    Mpu (fld 0 t3) fun t9 =>
    Mpu (ldN 11 h2 t9) fun t10 =>
    ((
      Mnew h2 T_world_Step (zcells prg T_world_Step) fun t5 h4 =>
      Mre [(ldN 11 h4 t9, t10), (ldN 11 h4 t7, t8)] (
      Mnew h4 T_world_Step (zcells prg T_world_Step) fun t6 h5 =>
      Mre [(ldN 11 h5 t9, t10), (ldN 11 h5 t7, t8)] (
      Mwr (stN 11 h5 t5 t8) fun h6 =>
      Mre [(ldN 11 h6 t9, t10)] (
      Mwr (stN 11 h6 t6 t10) fun h7 =>
      k3 t5 t6 h7)))) ∧ (
      Mnew h2 T_world_Step (zcells prg T_world_Step) fun t6_2 h8 =>
      Mre [(ldN 11 h8 t9, t10), (ldN 11 h8 t7, t8)] (
      Mnew h8 T_world_Step (zcells prg T_world_Step) fun t5_2 h9 =>
      Mre [(ldN 11 h9 t9, t10), (ldN 11 h9 t7, t8)] (
      Mwr (stN 11 h9 t5_2 t8) fun h10 =>
      Mre [(ldN 11 h10 t9, t10)] (
      Mwr (stN 11 h10 t6_2 t10) fun h11 =>
      k3 t5_2 t6_2 h11)))))) fun t5_3 t6_3 h12 =>
  Mpu (fld 11 t2) fun t11 =>
  Mpu (ld1 h12 t11) fun t12 =>
  Mpu (fld 11 t3) fun t13 =>
  Mpu (ld1 h12 t13) fun t14 =>
  Mpu (binV .no .eql t12 t14) fun t15 =>
  J1 (fun k13 => Mif t15 true (
      Mpu (fld 0 t5_3) fun t17 =>
      Mpu (ld1 h12 t17) fun t18 =>
      Mpu (fld 0 t6_3) fun t19 =>
      Mpu (ld1 h12 t19) fun t20 =>
      Mpu (binV .no .eql t18 t20) fun t21 =>
      k13 t21 h12) (
      k13 undef h12)) fun t21_2 h14 =>
  Mpu (pickV t15 t21_2 (.bool false)) fun t22 =>
  J1 (fun k15 => Mif t22 true (
      Mpu (fld 1 t5_3) fun t24 =>
      Mpu (ld1 h14 t24) fun t25 =>
      Mpu (fld 1 t6_3) fun t26 =>
      Mpu (ld1 h14 t26) fun t27 =>
      Mpu (binV .no .eql t25 t27) fun t28 =>
      k15 t28 h14) (
      k15 undef h14)) fun t28_2 h16 =>
  Mpu (pickV t22 t28_2 (.bool false)) fun t29 =>
  J1 (fun k17 => Mif t29 true (
      Mpu (fld 2 t5_3) fun t31 =>
      Mpu (ld1 h16 t31) fun t32 =>
      Mpu (fld 2 t6_3) fun t33 =>
      Mpu (ld1 h16 t33) fun t34 =>
      Mpu (binV .no .eql t32 t34) fun t35 =>
      k17 t35 h16) (
      k17 undef h16)) fun t35_2 h18 =>
  Mpu (pickV t29 t35_2 (.bool false)) fun t36 =>
  J1 (fun k19 => Mif t36 true (
      Mpu (fld 3 t5_3) fun t38 =>
      Mpu (ld1 h18 t38) fun t39 =>
      Mpu (fld 3 t6_3) fun t40 =>
      Mpu (ld1 h18 t40) fun t41 =>
      Mpu (binV .no .eql t39 t41) fun t42 =>
      k19 t42 h18) (
      k19 undef h18)) fun t42_2 h20 =>
  Mpu (pickV t36 t42_2 (.bool false)) fun t43 =>
  J1 (fun k21 => Mif t43 true (
      Mpu (fld 4 t5_3) fun t45 =>
      Mpu (ldN 5 h20 t45) fun t46 =>
      Mpu (fld 4 t6_3) fun t47 =>
      Mpu (ldN 5 h20 t47) fun t48 =>
      Mpu (binV (eqK prg T_version_Want) .eql t46 t48) fun t49 =>
      k21 t49 h20) (
      k21 undef h20)) fun t49_2 h22 =>
  Mpu (pickV t43 t49_2 (.bool false)) fun t50 =>
  J1 (fun k23 => Mif t50 true (
      Mpu (fld 9 t5_3) fun t52 =>
      Mpu (ld1 h22 t52) fun t53 =>
      Mpu (b2s h22 t53) fun t54 =>
      Mpu (fld 9 t6_3) fun t55 =>
      Mpu (ld1 h22 t55) fun t56 =>
      Mpu (b2s h22 t56) fun t57 =>
      Mpu (binV .no .eql t54 t57) fun t58 =>
      k23 t58 h22) (
      k23 undef h22)) fun t58_2 h24 =>
  Mpu (pickV t50 t58_2 (.bool false)) fun t59 =>
  J1 (fun k25 => Mif t59 true (
      Mpu (fld 10 t5_3) fun t61 =>
      Mpu (ld1 h24 t61) fun t62 =>
      Mpu (fld 10 t6_3) fun t63 =>
      Mpu (ld1 h24 t63) fun t64 =>
      Mcall prg f_slices_Equal_S_int_int [t62, t64] h24 fun t65 h26 =>
      k25 t65 h26) (
      k25 undef h24)) fun t65_2 h27 =>
  Mpu (pickV t59 t65_2 (.bool false)) fun t66 =>
  R t66 h27
theorem sh_script_Line_equal_chk : fchkF prg [5, 6, 21, 28, 35, 42, 49, 58, 65] Tryz.f30 2 = true := by kernel_rfl
theorem sh_script_Line_equal_den (t0 t1 : Value) (H : Heap) (R : Value → Heap → Prop) : fdenF prg [5, 6, 21, 28, 35, 42, 49, 58, 65] Tryz.f30 [t0, t1] H R = sh_script_Line_equal t0 t1 H R := by kernel_rfl
theorem sh_script_Line_equal_calls {t0 t1 : Value} {H : Heap} {R : Value → Heap → Prop} (h : sh_script_Line_equal t0 t1 H R) : HCalls prg f_script_Line_equal [t0, t1] H R :=
  calls_ofF Tryz.func30 sh_script_Line_equal_chk (by rw [sh_script_Line_equal_den]; exact h)

-- syngraph/manifest.Parse
-- (syngraph/manifest.Manifest).Show
-- strings.genSplit
def sh_strings_genSplit (t0 t1 t2 t3 : Value) (H : Heap) (R : Value → Heap → Prop) : Prop :=
  Mpu (binV .no .eql t3 (.int .i64 0)) fun t13 =>
  Mcd t13 (
    R (.slice none 0 0) H) (
    Mpu (binV .no .eql t1 (.string ⟨#[]⟩)) fun t15 =>
    Mcd t15 (
      Mcall prg f_strings_explode [t0, t3] H fun t18 h1 =>
      R t18 h1) (
      J1 (fun k2 =>
        Mpu (binV .no .lss t3 (.int .i64 0)) fun t20 =>
        Mcd t20 (
          Mcall prg f_strings_Count [t0, t1] H fun t23 h4 =>
          Mpu (binV .no .add t23 (.int .i64 1)) fun t24 =>
          k2 t24 h4) (
          k2 t3 H)) fun t3_3 h3 =>
      Mpu (lenT t0) fun t27 =>
      Mpu (binV .no .add t27 (.int .i64 1)) fun t28 =>
      Mpu (minV true [t3_3, t28]) fun t29 =>
      Mmks prg h3 T_string t29 t29 fun t31 h5 =>
      Mpu (binV .no .sub t29 (.int .i64 1)) fun t33 =>
      J2 (fun k6 =>
        L2 (fun k8 => fun t0_2 t10_2 h9 =>
          Mpu (binV .no .lss t10_2 t33) fun t36 =>
          Mcd t36 (
            Mcall prg f_strings_Index [t0_2, t1] h9 fun t39 h10 =>
            Mpu (binV .no .lss t39 (.int .i64 0)) fun t41 =>
            Mcd t41 (
              k6 t0_2 t10_2 h10) (
              Mpu (binV .no .add t39 t2) fun t47 =>
              Mpu (slT t0_2 none (some t47)) fun t48 =>
              Mpu (ixS 1 t31 t10_2) fun t49 =>
              Mwr (st1 h10 t49 t48) fun h11 =>
              Mpu (lenT t1) fun t53 =>
              Mpu (binV .no .add t39 t53) fun t54 =>
              Mpu (slT t0_2 (some t54) none) fun t55 =>
              Mpu (binV .no .add t10_2 (.int .i64 1)) fun t57 =>
              k8 t55 t57 h11)) (
            k6 t0_2 t10_2 h9)) (t0) ((.int .i64 0)) h5) fun t0_4 t10_4 h7 =>
      Mpu (ixS 1 t31 t10_4) fun t61 =>
      Mwr (st1 h7 t61 t0_4) fun h12 =>
      Mpu (binV .no .add t10_4 (.int .i64 1)) fun t64 =>
      Mpu (slS 1 t31 none (some t64) none) fun t65 =>
      R t65 h12))
theorem sh_strings_genSplit_chk : fchkF prg [0, 3, 10] Tryz.f37 4 = true := by kernel_rfl
theorem sh_strings_genSplit_den (t0 t1 t2 t3 : Value) (H : Heap) (R : Value → Heap → Prop) : fdenF prg [0, 3, 10] Tryz.f37 [t0, t1, t2, t3] H R = sh_strings_genSplit t0 t1 t2 t3 H R := by kernel_rfl
theorem sh_strings_genSplit_calls {t0 t1 t2 t3 : Value} {H : Heap} {R : Value → Heap → Prop} (h : sh_strings_genSplit t0 t1 t2 t3 H R) : HCalls prg f_strings_genSplit [t0, t1, t2, t3] H R :=
  calls_ofF Tryz.func37 sh_strings_genSplit_chk (by rw [sh_strings_genSplit_den]; exact h)

-- syngraph/script.step
def sh_script_step (t0 t1 t2 : Value) (H : Heap) (R : Value → Heap → Prop) : Prop :=
  Mnew H T_script_form (zcells prg T_script_form) fun t6 h1 =>
  Mpu (buildV prg T_world_Step [(0, t2)]) fun t10 =>
  Mpu (buildV prg T_script_Line [(0, t10)]) fun t11 =>
  Mpu (buildV prg T_script_form [(0, t0), (1, t1), (2, t11)]) fun t12 =>
  Mwr (stN 14 h1 t6 t12) fun h2 =>
  Mpu (ldN 14 h2 t6) fun r3 =>
  R r3 h2
theorem sh_script_step_chk : fchkF prg [] Tryz.f38 3 = true := by kernel_rfl
theorem sh_script_step_den (t0 t1 t2 : Value) (H : Heap) (R : Value → Heap → Prop) : fdenF prg [] Tryz.f38 [t0, t1, t2] H R = sh_script_step t0 t1 t2 H R := by kernel_rfl
theorem sh_script_step_calls {t0 t1 t2 : Value} {H : Heap} {R : Value → Heap → Prop} (h : sh_script_step t0 t1 t2 H R) : HCalls prg f_script_step [t0, t1, t2] H R :=
  calls_ofF Tryz.func38 sh_script_step_chk (by rw [sh_script_step_den]; exact h)

-- syngraph/script.told
def sh_script_told (t0 t1 t2 : Value) (H : Heap) (R : Value → Heap → Prop) : Prop :=
  Mnew H T_script_form (zcells prg T_script_form) fun t6 h1 =>
  Mpu (buildV prg T_world_Step [(0, (.int .i64 10)), (1, t2)]) fun t10 =>
  Mpu (buildV prg T_script_Line [(0, t10)]) fun t11 =>
  Mpu (buildV prg T_script_form [(0, t0), (1, t1), (2, t11)]) fun t12 =>
  Mwr (stN 14 h1 t6 t12) fun h2 =>
  Mpu (ldN 14 h2 t6) fun r3 =>
  R r3 h2
theorem sh_script_told_chk : fchkF prg [] Tryz.f39 3 = true := by kernel_rfl
theorem sh_script_told_den (t0 t1 t2 : Value) (H : Heap) (R : Value → Heap → Prop) : fdenF prg [] Tryz.f39 [t0, t1, t2] H R = sh_script_told t0 t1 t2 H R := by kernel_rfl
theorem sh_script_told_calls {t0 t1 t2 : Value} {H : Heap} {R : Value → Heap → Prop} (h : sh_script_told t0 t1 t2 H R) : HCalls prg f_script_told [t0, t1, t2] H R :=
  calls_ofF Tryz.func39 sh_script_told_chk (by rw [sh_script_told_den]; exact h)

-- syngraph/script.ask
def sh_script_ask (t0 t1 : Value) (H : Heap) (R : Value → Heap → Prop) : Prop :=
  Mnew H T_script_form (zcells prg T_script_form) fun t4 h1 =>
  Mpu (buildV prg T_script_Line [(1, t1)]) fun t7 =>
  Mpu (buildV prg T_script_form [(0, t0), (2, t7)]) fun t8 =>
  Mwr (stN 14 h1 t4 t8) fun h2 =>
  Mpu (ldN 14 h2 t4) fun r3 =>
  R r3 h2
theorem sh_script_ask_chk : fchkF prg [] Tryz.f40 2 = true := by kernel_rfl
theorem sh_script_ask_den (t0 t1 : Value) (H : Heap) (R : Value → Heap → Prop) : fdenF prg [] Tryz.f40 [t0, t1] H R = sh_script_ask t0 t1 H R := by kernel_rfl
theorem sh_script_ask_calls {t0 t1 : Value} {H : Heap} {R : Value → Heap → Prop} (h : sh_script_ask t0 t1 H R) : HCalls prg f_script_ask [t0, t1] H R :=
  calls_ofF Tryz.func40 sh_script_ask_chk (by rw [sh_script_ask_den]; exact h)

end Go.Proofs.YtconalffokhplaaGreatDoor

