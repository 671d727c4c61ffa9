/- JOINED: Se0 Sf0 Sf1 Sf2 Sf3 -/
import Derived.Test.YtconalffokhplaaDoorGE
set_option linter.unusedSimpArgs false
set_option linter.unusedVariables false
/- PRINTED: clean texts -/
namespace Go.Proofs.YtconalffokhplaaDoor
open Go.X
set_option maxRecDepth 100000
-- syngraph/syngraphlaw22.made
def sh_syngraphlaw22_made (t0 : Value) (H : Heap) (R : Value → Heap → Prop) : Prop :=
  Mcall prg f_history_New [] H fun t6 h1 =>
  Mpu (binV .ptr .eql t6 (.pointer none)) fun t8 =>
  Mcd t8 (
    R (.pointer none) h1) (
    J1 (fun k2 =>
      Mpu (lenV t0) fun t10 =>
      L1 (fun k4 => fun t11_2 h5 =>
        Mpu (binV .no .lss t11_2 t10) fun t12 =>
        Mcd t12 (
          Mpu (ixS 36 t0 t11_2) fun t13 =>
          Mpu (ldN 36 h5 t13) fun t14 =>
          Mnew h5 T_history_Record (zcells prg T_history_Record) fun t5 h6 =>
          Mwr (stN 36 h6 t5 t14) fun h7 =>
          Mpu (ldN 36 h7 t5) fun t16 =>
          Mcall prg f_history_History_Append [t6, t16] h7 fun t17 h8 =>
          Mpu (binV .no .add t11_2 (.int .i64 1)) fun t18 =>
          k4 t18 h8) (
          k2 t11_2 h5)) ((.int .i64 0)) h1) fun t11_4 h3 =>
    R t6 h3)
theorem sh_syngraphlaw22_made_chk : fchkF prg [11] Tryd.f6 1 = true := by kernel_rfl
theorem sh_syngraphlaw22_made_den (t0 : Value) (H : Heap) (R : Value → Heap → Prop) : fdenF prg [11] Tryd.f6 [t0] H R = sh_syngraphlaw22_made t0 H R := by kernel_rfl
theorem sh_syngraphlaw22_made_calls {t0 : Value} {H : Heap} {R : Value → Heap → Prop} (h : sh_syngraphlaw22_made t0 H R) : HCalls prg f_syngraphlaw22_made [t0] H R :=
  calls_ofF Tryd.func6 sh_syngraphlaw22_made_chk (by rw [sh_syngraphlaw22_made_den]; exact h)

end Go.Proofs.YtconalffokhplaaDoor
/- PRINTED: clean texts -/
namespace Go.Proofs.YtconalffokhplaaDoor
open Go.X
set_option maxRecDepth 100000
-- (syngraph/history.Record).Equal
def sh_history_Record_Equal (t0 t1 : Value) (H : Heap) (R : Value → Heap → Prop) : Prop :=
  Mnew H T_history_Record (some (Value.cells t0)) fun t2 h1 =>
  Mnew h1 T_history_Record (some (Value.cells t1)) fun t3 h2 =>
  Mpu (fld 0 t2) fun t5 =>
  Mpu (ld1 h2 t5) fun t6 =>
  Mpu (fld 0 t3) fun t7 =>
  Mpu (ld1 h2 t7) fun t8 =>
  Mpu (binV .no .eql t6 t8) fun t9 =>
  J1 (fun k3 => Mif t9 true (
      Mpu (fld 1 t2) fun t11 =>
      Mpu (ld1 h2 t11) fun t12 =>
      Mpu (fld 1 t3) fun t13 =>
      Mpu (ld1 h2 t13) fun t14 =>
      Mcall prg f_slices_Equal_S_history_Item_history_Item [t12, t14] h2 fun t15 h4 =>
      k3 t15 h4) (
      k3 undef h2)) fun t15_2 h5 =>
  Mpu (pickV t9 t15_2 (.bool false)) fun t16 =>
  J1 (fun k6 => Mif t16 true (
      Mpu (fld 2 t2) fun t18 =>
      Mpu (ld1 h5 t18) fun t19 =>
      Mpu (fld 2 t3) fun t20 =>
      Mpu (ld1 h5 t20) fun t21 =>
      Mcall prg f_slices_Equal_S_history_Item_history_Item [t19, t21] h5 fun t22 h7 =>
      k6 t22 h7) (
      k6 undef h5)) fun t22_2 h8 =>
  Mpu (pickV t16 t22_2 (.bool false)) fun t23 =>
  J1 (fun k9 => Mif t23 true (
      Mpu (fld 3 t2) fun t25 =>
      Mpu (ldN 33 h8 t25) fun t26 =>
      Mpu (fld 3 t3) fun t27 =>
      Mpu (ldN 33 h8 t27) fun t28 =>
      Mpu (binV (eqK prg T_head_Head) .eql t26 t28) fun t29 =>
      k9 t29 h8) (
      k9 undef h8)) fun t29_2 h10 =>
  Mpu (pickV t23 t29_2 (.bool false)) fun t30 =>
  R t30 h10
theorem sh_history_Record_Equal_chk : fchkF prg [15, 22, 29] Tryd.f22 2 = true := by kernel_rfl
theorem sh_history_Record_Equal_den (t0 t1 : Value) (H : Heap) (R : Value → Heap → Prop) : fdenF prg [15, 22, 29] Tryd.f22 [t0, t1] H R = sh_history_Record_Equal t0 t1 H R := by kernel_rfl
theorem sh_history_Record_Equal_calls {t0 t1 : Value} {H : Heap} {R : Value → Heap → Prop} (h : sh_history_Record_Equal t0 t1 H R) : HCalls prg f_history_Record_Equal [t0, t1] H R :=
  calls_ofF Tryd.func22 sh_history_Record_Equal_chk (by rw [sh_history_Record_Equal_den]; exact h)

end Go.Proofs.YtconalffokhplaaDoor
/- PRINTED: clean texts -/
namespace Go.Proofs.YtconalffokhplaaDoor
open Go.X
set_option maxRecDepth 100000
-- bytes.Equal
def sh_bytes_Equal (t0 t1 : Value) (H : Heap) (R : Value → Heap → Prop) : Prop :=
  Mpu (b2s H t0) fun t6 =>
  Mpu (b2s H t1) fun t8 =>
  Mpu (binV .no .eql t6 t8) fun t9 =>
  R t9 H
theorem sh_bytes_Equal_chk : fchkF prg [] Tryd.f38 2 = true := by kernel_rfl
theorem sh_bytes_Equal_den (t0 t1 : Value) (H : Heap) (R : Value → Heap → Prop) : fdenF prg [] Tryd.f38 [t0, t1] H R = sh_bytes_Equal t0 t1 H R := by kernel_rfl
theorem sh_bytes_Equal_calls {t0 t1 : Value} {H : Heap} {R : Value → Heap → Prop} (h : sh_bytes_Equal t0 t1 H R) : HCalls prg f_bytes_Equal [t0, t1] H R :=
  calls_ofF Tryd.func38 sh_bytes_Equal_chk (by rw [sh_bytes_Equal_den]; exact h)

end Go.Proofs.YtconalffokhplaaDoor
/- PRINTED: clean texts -/
namespace Go.Proofs.YtconalffokhplaaDoor
open Go.X
set_option maxRecDepth 100000
end Go.Proofs.YtconalffokhplaaDoor
/- PRINTED: clean texts -/
namespace Go.Proofs.YtconalffokhplaaDoor
open Go.X
set_option maxRecDepth 100000
end Go.Proofs.YtconalffokhplaaDoor
