/- JOINED: Sb0 Sb1 Sb2 Sb3 Sb4 Sd0 Sd1 Sd2 Sd3 Sd4 -/
import Derived.Test.YtconalffokhplaaDoorGE
set_option linter.unusedSimpArgs false
set_option linter.unusedVariables false
/- PRINTED: clean texts -/
namespace Go.Proofs.YtconalffokhplaaDoor
open Go.X
set_option maxRecDepth 100000
-- syngraph/syngraphlaw22.small
def sh_syngraphlaw22_small (t0 : Value) (H : Heap) (R : Value → Heap → Prop) : Prop :=
  Mnew H T_history_Record (some (Value.cells t0)) fun t1 h1 =>
  J1 (fun k2 =>
    Mpu (fld 1 t1) fun t7 =>
    Mpu (ld1 h1 t7) fun t8 =>
    Mpu (fld 2 t1) fun t9 =>
    Mpu (ld1 h1 t9) fun t10 =>
    Mnews h1 T_S_history_Item 2 (bslV prg T_S_history_Item 2 [(0, t8), (1, t10)]) fun t11 h4 =>
    Mpu (lenV t11) fun t12 =>
    L1 (fun k5 => fun t13_2 h6 =>
      Mpu (binV .no .lss t13_2 t12) fun t14 =>
      Mcd t14 (
        J1 (fun k7 =>
          Mpu (ixS 1 t11 t13_2) fun t15 =>
          Mpu (ld1 h6 t15) fun t16 =>
          Mpu (lenV t16) fun t18 =>
          L1 (fun k9 => fun t19_2 h10 =>
            Mpu (binV .no .lss t19_2 t18) fun t20 =>
            Mcd t20 (
              Mpu (ixS 37 t16 t19_2) fun t21 =>
              Mpu (ldN 37 h10 t21) fun t22 =>
              Mnew h10 T_history_Item (zcells prg T_history_Item) fun t6 h11 =>
              Mwr (stN 37 h11 t6 t22) fun h12 =>
              Mpu (fld 0 t6) fun t23 =>
              Mpu (ld1 h12 t23) fun t24 =>
              Mpu (lenT t24) fun t25 =>
              Mpu (binV .no .gtr t25 (.int .i64 100)) fun t26 =>
              J1 (fun k13 => Mif t26 false (
                  Mpu (fld 1 t6) fun t28 =>
                  Mpu (fld 3 t28) fun t29 =>
                  Mpu (ld1 h12 t29) fun t30 =>
                  Mpu (lenT t30) fun t31 =>
                  Mpu (binV .no .gtr t31 (.int .i64 100)) fun t32 =>
                  k13 t32 h12) (
                  k13 undef h12)) fun t32_2 h14 =>
              Mpu (pickV t26 (.bool true) t32_2) fun t33 =>
              Mcd t33 (
                R (.bool false) h14) (
                Mpu (binV .no .add t19_2 (.int .i64 1)) fun t34 =>
                k9 t34 h14)) (
              k7 t19_2 h10)) ((.int .i64 0)) h6) fun t19_4 h8 =>
        Mpu (binV .no .add t13_2 (.int .i64 1)) fun t35 =>
        k5 t35 h8) (
        k2 t13_2 h6)) ((.int .i64 0)) h4) fun t13_4 h3 =>
  Mpu (fld 1 t1) fun t36 =>
  Mpu (ld1 h3 t36) fun t37 =>
  Mpu (lenV t37) fun t38 =>
  Mpu (binV .no .leq t38 (.int .i64 20)) fun t39 =>
  J1 (fun k15 => Mif t39 true (
      Mpu (fld 2 t1) fun t41 =>
      Mpu (ld1 h3 t41) fun t42 =>
      Mpu (lenV t42) fun t43 =>
      Mpu (binV .no .leq t43 (.int .i64 20)) fun t44 =>
      k15 t44 h3) (
      k15 undef h3)) fun t44_2 h16 =>
  Mpu (pickV t39 t44_2 (.bool false)) fun t45 =>
  R t45 h16
theorem sh_syngraphlaw22_small_chk : fchkF prg [13, 19, 32, 44] Tryd.f4 1 = true := by kernel_rfl
theorem sh_syngraphlaw22_small_den (t0 : Value) (H : Heap) (R : Value → Heap → Prop) : fdenF prg [13, 19, 32, 44] Tryd.f4 [t0] H R = sh_syngraphlaw22_small t0 H R := by kernel_rfl
theorem sh_syngraphlaw22_small_calls {t0 : Value} {H : Heap} {R : Value → Heap → Prop} (h : sh_syngraphlaw22_small t0 H R) : HCalls prg f_syngraphlaw22_small [t0] H R :=
  calls_ofF Tryd.func4 sh_syngraphlaw22_small_chk (by rw [sh_syngraphlaw22_small_den]; exact h)

end Go.Proofs.YtconalffokhplaaDoor
/- PRINTED: clean texts -/
namespace Go.Proofs.YtconalffokhplaaDoor
open Go.X
set_option maxRecDepth 100000
end Go.Proofs.YtconalffokhplaaDoor
/- PRINTED: clean texts -/
namespace Go.Proofs.YtconalffokhplaaDoor
open Go.X
set_option maxRecDepth 100000
end Go.Proofs.YtconalffokhplaaDoor
/- PRINTED: clean texts -/
namespace Go.Proofs.YtconalffokhplaaDoor
open Go.X
set_option maxRecDepth 100000
end Go.Proofs.YtconalffokhplaaDoor
/- PRINTED: clean texts -/
namespace Go.Proofs.YtconalffokhplaaDoor
open Go.X
set_option maxRecDepth 100000
end Go.Proofs.YtconalffokhplaaDoor
/- PRINTED: clean texts -/
namespace Go.Proofs.YtconalffokhplaaDoor
open Go.X
set_option maxRecDepth 100000
end Go.Proofs.YtconalffokhplaaDoor
/- PRINTED: clean texts -/
namespace Go.Proofs.YtconalffokhplaaDoor
open Go.X
set_option maxRecDepth 100000
end Go.Proofs.YtconalffokhplaaDoor
/- PRINTED: clean texts -/
namespace Go.Proofs.YtconalffokhplaaDoor
open Go.X
set_option maxRecDepth 100000
end Go.Proofs.YtconalffokhplaaDoor
/- PRINTED: clean texts -/
namespace Go.Proofs.YtconalffokhplaaDoor
open Go.X
set_option maxRecDepth 100000
end Go.Proofs.YtconalffokhplaaDoor
/- PRINTED: clean texts -/
namespace Go.Proofs.YtconalffokhplaaDoor
open Go.X
set_option maxRecDepth 100000
end Go.Proofs.YtconalffokhplaaDoor
