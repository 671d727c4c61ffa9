/- JOINED: Se0 Sf0 Sf1 Sf2 Sf3 -/
import Derived.Test.YtconalffokhplaaGreatDoorGE
set_option linter.unusedSimpArgs false
set_option linter.unusedVariables false
/- PRINTED: clean texts -/
namespace Go.Proofs.YtconalffokhplaaGreatDoor
open Go.X
set_option maxRecDepth 100000
end Go.Proofs.YtconalffokhplaaGreatDoor
/- PRINTED: clean texts -/
namespace Go.Proofs.YtconalffokhplaaGreatDoor
open Go.X
set_option maxRecDepth 100000
end Go.Proofs.YtconalffokhplaaGreatDoor
/- PRINTED: clean texts -/
namespace Go.Proofs.YtconalffokhplaaGreatDoor
open Go.X
set_option maxRecDepth 100000
-- syngraph/syngraphref19.Name
def sh_syngraphref19_Name (t0 : Value) (H : Heap) (R : Value → Heap → Prop) : Prop :=
  Mpu (lenT t0) fun t6 =>
  Mpu (binV .no .lss t6 (.int .i64 1)) fun t7 =>
  J1 (fun k1 => Mif t7 false (
      Mpu (lenT t0) fun t10 =>
      Mpu (binV .no .gtr t10 (.int .i64 32)) fun t11 =>
      k1 t11 H) (
      k1 undef H)) fun t11_2 h2 =>
  Mpu (pickV t7 (.bool true) t11_2) fun t12 =>
  J1 (fun k3 => Mif t12 false (
      Mpu (ixT t0 (.int .i64 0)) fun t15 =>
      Mpu (binV .no .lss t15 (.int .u8 97)) fun t16 =>
      k3 t16 h2) (
      k3 undef h2)) fun t16_2 h4 =>
  Mpu (pickV t12 (.bool true) t16_2) fun t17 =>
  J1 (fun k5 => Mif t17 false (
      Mpu (ixT t0 (.int .i64 0)) fun t20 =>
      Mpu (binV .no .gtr t20 (.int .u8 122)) fun t21 =>
      k5 t21 h4) (
      k5 undef h4)) fun t21_2 h6 =>
  Mpu (pickV t17 (.bool true) t21_2) fun t22 =>
  Mcd t22 (
    R (.bool false) h6) (
    J1 (fun k7 =>
      L1 (fun k9 => fun t3_2 h10 =>
        Mpu (lenT t0) fun t25 =>
        Mpu (binV .no .lss t3_2 t25) fun t26 =>
        Mcd t26 (
          Mpu (ixT t0 t3_2) fun t31 =>
          Mpu (binV .no .geq t31 (.int .u8 97)) fun t33 =>
          J1 (fun k11 => Mif t33 true (
              Mpu (binV .no .leq t31 (.int .u8 122)) fun t36 =>
              k11 t36 h10) (
              k11 undef h10)) fun t36_2 h12 =>
          Mpu (pickV t33 t36_2 (.bool false)) fun t37 =>
          J1 (fun k13 => Mif t37 false (
              Mpu (binV .no .geq t31 (.int .u8 48)) fun t40 =>
              k13 t40 h12) (
              k13 undef h12)) fun t41_2 h14 =>
          J1 (fun k15 => Mif t41_2 true (
              Mpu (binV .no .leq t31 (.int .u8 57)) fun t43 =>
              k15 t43 h14) (
              k15 undef h14)) fun t43_2 h16 =>
          J1 (fun k17 => Mif t37 false (
              Mpu (pickV t41_2 t43_2 (.bool false)) fun t44 =>
              k17 t44 h16) (
              k17 undef h16)) fun t44_2 h18 =>
          Mpu (pickV t37 (.bool true) t44_2) fun t45 =>
          J1 (fun k19 => Mif t45 false (
              Mpu (binV .no .eql t31 (.int .u8 45)) fun t48 =>
              k19 t48 h18) (
              k19 undef h18)) fun t48_2 h20 =>
          Mpu (pickV t45 (.bool true) t48_2) fun t49 =>
          Mpu (unV .not t49) fun t50 =>
          Mcd t50 (
            R (.bool false) h20) (
            Mpu (binV .no .add t3_2 (.int .i64 1)) fun t28 =>
            k9 t28 h20)) (
          k7 t3_2 h10)) ((.int .i64 0)) h6) fun t3_4 h8 =>
    R (.bool true) h8)
theorem sh_syngraphref19_Name_chk : fchkF prg [3, 11, 16, 21, 36, 41, 43, 44, 48] Tryz.f13 1 = true := by kernel_rfl
theorem sh_syngraphref19_Name_den (t0 : Value) (H : Heap) (R : Value → Heap → Prop) : fdenF prg [3, 11, 16, 21, 36, 41, 43, 44, 48] Tryz.f13 [t0] H R = sh_syngraphref19_Name t0 H R := by kernel_rfl
theorem sh_syngraphref19_Name_calls {t0 : Value} {H : Heap} {R : Value → Heap → Prop} (h : sh_syngraphref19_Name t0 H R) : HCalls prg f_syngraphref19_Name [t0] H R :=
  calls_ofF Tryz.func13 sh_syngraphref19_Name_chk (by rw [sh_syngraphref19_Name_den]; exact h)

end Go.Proofs.YtconalffokhplaaGreatDoor
/- PRINTED: clean texts -/
namespace Go.Proofs.YtconalffokhplaaGreatDoor
open Go.X
set_option maxRecDepth 100000
end Go.Proofs.YtconalffokhplaaGreatDoor
/- PRINTED: clean texts -/
namespace Go.Proofs.YtconalffokhplaaGreatDoor
open Go.X
set_option maxRecDepth 100000
end Go.Proofs.YtconalffokhplaaGreatDoor
