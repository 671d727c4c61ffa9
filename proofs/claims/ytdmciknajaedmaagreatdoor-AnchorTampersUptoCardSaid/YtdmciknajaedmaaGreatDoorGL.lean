/- JOINED: Sh2 Sh3 Sh4 Sz -/
import Derived.Test.YtdmciknajaedmaaGreatDoorGE
import Derived.Test.YtdmciknajaedmaaGreatDoorGF
import Derived.Test.YtdmciknajaedmaaGreatDoorGG
import Derived.Test.YtdmciknajaedmaaGreatDoorGS
import Derived.Test.YtdmciknajaedmaaGreatDoorGR
import Derived.Test.YtdmciknajaedmaaGreatDoorGQ
set_option linter.unusedSimpArgs false
set_option linter.unusedVariables false
/- PRINTED: clean texts -/
namespace Go.Proofs.YtdmciknajaedmaaGreatDoor
open Go.X
set_option maxRecDepth 100000
-- (*syngraph/history.History).Copy
def sh_history_History_Copy (t0 : Value) (H : Heap) (R : Value → Heap → Prop) : Prop :=
  Mpu (nck t0) fun t4 =>
  Mpu (fld 0 t4) fun t5 =>
  Mpu (ld1 H t5) fun t6 =>
  Mpu (nck t0) fun t9 =>
  Mpu (fld 1 t9) fun t10 =>
  Mpu (ld1 H t10) fun t11 =>
  Mcall prg f_slices_Clone_S_history_Record_history_Record [t6] H fun t7 h1 =>
  Mre [(ld1 h1 t10, t11)] (
  Mcall prg f_slices_Clone_S_sha_Hash_sha_Hash [t11] h1 fun t12 h2 =>
  Mpu (buildV prg T_history_History [(0, t7), (1, t12)]) fun t13 =>
  Mnew h2 T_history_History (some (Value.cells t13)) fun t14 h3 =>
  R t14 h3)
theorem sh_history_History_Copy_chk : fchkF prg [] Tryz.f27 1 = true := by kernel_rfl
theorem sh_history_History_Copy_den (t0 : Value) (H : Heap) (R : Value → Heap → Prop) : fdenF prg [] Tryz.f27 [t0] H R = sh_history_History_Copy t0 H R := by kernel_rfl
theorem sh_history_History_Copy_calls {t0 : Value} {H : Heap} {R : Value → Heap → Prop} (h : sh_history_History_Copy t0 H R) : HCalls prg f_history_History_Copy [t0] H R :=
  calls_ofF Tryz.func27 sh_history_History_Copy_chk (by rw [sh_history_History_Copy_den]; exact h)

-- (*syngraph/syngraphref23.Register).Begin
def sh_syngraphref23_Register_Begin (t0 t1 : Value) (H : Heap) (R : Value → Heap → Prop) : Prop :=
  Mnew H T_A32_uint8 (some (Value.cells t1)) fun t3 h1 =>
  Mpu (nck t0) fun t6 =>
  Mpu (fld 66 t6) fun t7 =>
  Mpu (ld1 h1 t7) fun t8 =>
  Mcd t8 (
    R (.int .i64 50) h1) (
    Mpu (nck t0) fun t11 =>
    Mpu (fld 0 t11) fun t12 =>
    Mpu (fld 0 t12) fun t13 =>
    Mpu (ld1 h1 t13) fun t14 =>
    Mpu (binV .no .add t14 (.int .i64 1)) fun t15 =>
    Mpu (ldN 32 h1 t3) fun t16 =>
    Mpu (buildV prg T_syngraphref23_Mark [(0, t15), (1, t16)]) fun t17 =>
    Mpu (nck t0) fun t18 =>
    Mpu (fld 33 t18) fun t19 =>
    Mwr (stN 33 h1 t19 t17) fun h2 =>
    Mpu (nck t0) fun t21 =>
    Mpu (fld 66 t21) fun t22 =>
    Mwr (st1 h2 t22 (.bool true)) fun h3 =>
    R (.int .i64 0) h3)
theorem sh_syngraphref23_Register_Begin_chk : fchkF prg [] Tryz.f28 2 = true := by kernel_rfl
theorem sh_syngraphref23_Register_Begin_den (t0 t1 : Value) (H : Heap) (R : Value → Heap → Prop) : fdenF prg [] Tryz.f28 [t0, t1] H R = sh_syngraphref23_Register_Begin t0 t1 H R := by kernel_rfl
theorem sh_syngraphref23_Register_Begin_calls {t0 t1 : Value} {H : Heap} {R : Value → Heap → Prop} (h : sh_syngraphref23_Register_Begin t0 t1 H R) : HCalls prg f_syngraphref23_Register_Begin [t0, t1] H R :=
  calls_ofF Tryz.func28 sh_syngraphref23_Register_Begin_chk (by rw [sh_syngraphref23_Register_Begin_den]; exact h)

-- (*syngraph/syngraphref23.Register).Finish
def sh_syngraphref23_Register_Finish (t0 t1 : Value) (H : Heap) (R : Value → Heap → Prop) : Prop :=
  Mpu (nck t0) fun t6 =>
  Mpu (fld 66 t6) fun t7 =>
  Mpu (ld1 H t7) fun t8 =>
  Mpu (unV .not t8) fun t9 =>
  Mcd t9 (
    R (.int .i64 14) H) (
    J0 (fun k1 =>
      Mcd t1 (
        Mpu (nck t0) fun t13 =>
        Mpu (fld 33 t13) fun t14 =>
        Mpu (ldN 33 H t14) fun t15 =>
        Mpu (nck t0) fun t16 =>
        Mpu (fld 0 t16) fun t17 =>
        Mwr (stN 33 H t17 t15) fun h3 =>
        k1 h3) (
        k1 H)) fun h2 =>
    Mpu (buildV prg T_syngraphref23_Mark []) fun t19 =>
    Mpu (nck t0) fun t20 =>
    Mpu (fld 33 t20) fun t21 =>
    Mwr (stN 33 h2 t21 t19) fun h4 =>
    Mpu (nck t0) fun t23 =>
    Mpu (fld 66 t23) fun t24 =>
    Mwr (st1 h4 t24 (.bool false)) fun h5 =>
    R (.int .i64 0) h5)
theorem sh_syngraphref23_Register_Finish_chk : fchkF prg [] Tryz.f29 2 = true := by kernel_rfl
theorem sh_syngraphref23_Register_Finish_den (t0 t1 : Value) (H : Heap) (R : Value → Heap → Prop) : fdenF prg [] Tryz.f29 [t0, t1] H R = sh_syngraphref23_Register_Finish t0 t1 H R := by kernel_rfl
theorem sh_syngraphref23_Register_Finish_calls {t0 t1 : Value} {H : Heap} {R : Value → Heap → Prop} (h : sh_syngraphref23_Register_Finish t0 t1 H R) : HCalls prg f_syngraphref23_Register_Finish [t0, t1] H R :=
  calls_ofF Tryz.func29 sh_syngraphref23_Register_Finish_chk (by rw [sh_syngraphref23_Register_Finish_den]; exact h)

-- (*syngraph/anchor.Register).Cancel
def sh_anchor_Register_Cancel (t0 : Value) (H : Heap) (R : Value → Heap → Prop) : Prop :=
  Mpu (nck t0) fun t4 =>
  Mpu (fld 66 t4) fun t5 =>
  Mpu (ld1 H t5) fun t6 =>
  Mpu (unV .not t6) fun t7 =>
  Mcd t7 (
    R (.int .i64 14) H) (
    Mcall prg f_anchor_Register_over [t0] H fun t9 h1 =>
    R (.int .i64 0) h1)
theorem sh_anchor_Register_Cancel_chk : fchkF prg [] Tryz.f30 1 = true := by kernel_rfl
theorem sh_anchor_Register_Cancel_den (t0 : Value) (H : Heap) (R : Value → Heap → Prop) : fdenF prg [] Tryz.f30 [t0] H R = sh_anchor_Register_Cancel t0 H R := by kernel_rfl
theorem sh_anchor_Register_Cancel_calls {t0 : Value} {H : Heap} {R : Value → Heap → Prop} (h : sh_anchor_Register_Cancel t0 H R) : HCalls prg f_anchor_Register_Cancel [t0] H R :=
  calls_ofF Tryz.func30 sh_anchor_Register_Cancel_chk (by rw [sh_anchor_Register_Cancel_den]; exact h)

-- (*syngraph/anchor.Register).Settle
def sh_anchor_Register_Settle (t0 t1 : Value) (H : Heap) (R : Value → Heap → Prop) : Prop :=
  Mpu (nck t0) fun t7 =>
  Mpu (fld 66 t7) fun t8 =>
  Mpu (ld1 H t8) fun t9 =>
  Mpu (unV .not t9) fun t10 =>
  Mcd t10 (
    Mcall prg f_anchor_Register_Audit [t0, t1] H fun t13 h1 =>
    R t13 h1) (
    Mpu (nck t0) fun t18 =>
    Mpu (fld 0 t18) fun t19 =>
    Mpu (ldN 33 H t19) fun t20 =>
    Mcall prg f_anchor_Of [t1] H fun t16 h2 =>
    Mre [(ldN 33 h2 t19, t20)] (
    Mpu (binV (eqK prg T_anchor_Mark) .eql t16 t20) fun t21 =>
    Mcd t21 (
      Mcall prg f_anchor_Register_Cancel [t0] h2 fun t23 h3 =>
      R t23 h3) (
      Mpu (nck t0) fun t28 =>
      Mpu (fld 33 t28) fun t29 =>
      Mpu (ldN 33 h2 t29) fun t30 =>
      Mcall prg f_anchor_Of [t1] h2 fun t26 h4 =>
      Mre [(ldN 33 h4 t29, t30)] (
      Mpu (binV (eqK prg T_anchor_Mark) .eql t26 t30) fun t31 =>
      Mcd t31 (
        Mcall prg f_anchor_Register_End [t0] h4 fun t33 h5 =>
        R t33 h5) (
        R (.int .i64 33) h4)))))
theorem sh_anchor_Register_Settle_chk : fchkF prg [] Tryz.f31 2 = true := by kernel_rfl
theorem sh_anchor_Register_Settle_den (t0 t1 : Value) (H : Heap) (R : Value → Heap → Prop) : fdenF prg [] Tryz.f31 [t0, t1] H R = sh_anchor_Register_Settle t0 t1 H R := by kernel_rfl
theorem sh_anchor_Register_Settle_calls {t0 t1 : Value} {H : Heap} {R : Value → Heap → Prop} (h : sh_anchor_Register_Settle t0 t1 H R) : HCalls prg f_anchor_Register_Settle [t0, t1] H R :=
  calls_ofF Tryz.func31 sh_anchor_Register_Settle_chk (by rw [sh_anchor_Register_Settle_den]; exact h)

-- (*syngraph/syngraphref23.Register).Settle
def sh_syngraphref23_Register_Settle (t0 t1 : Value) (H : Heap) (R : Value → Heap → Prop) : Prop :=
  Mnew H T_syngraphref23_Mark (some (Value.cells t1)) fun t3 h1 =>
  Mpu (nck t0) fun t6 =>
  Mpu (fld 66 t6) fun t7 =>
  Mpu (ld1 h1 t7) fun t8 =>
  Mpu (unV .not t8) fun t9 =>
  Mcd t9 (
    Mpu (ldN 33 h1 t3) fun t10 =>
    Mpu (nck t0) fun t12 =>
    Mpu (fld 0 t12) fun t13 =>
    Mpu (ldN 33 h1 t13) fun t14 =>
    Mpu (binV (eqK prg T_syngraphref23_Mark) .neq t10 t14) fun t15 =>
    Mcd t15 (
      R (.int .i64 33) h1) (
      R (.int .i64 0) h1)) (
    Mpu (ldN 33 h1 t3) fun t16 =>
    Mpu (nck t0) fun t18 =>
    Mpu (fld 0 t18) fun t19 =>
    Mpu (ldN 33 h1 t19) fun t20 =>
    Mpu (binV (eqK prg T_syngraphref23_Mark) .eql t16 t20) fun t21 =>
    Mcd t21 (
      Mcall prg f_syngraphref23_Register_Finish [t0, (.bool false)] h1 fun t23 h2 =>
      R t23 h2) (
      Mpu (ldN 33 h1 t3) fun t24 =>
      Mpu (nck t0) fun t26 =>
      Mpu (fld 33 t26) fun t27 =>
      Mpu (ldN 33 h1 t27) fun t28 =>
      Mpu (binV (eqK prg T_syngraphref23_Mark) .eql t24 t28) fun t29 =>
      Mcd t29 (
        Mcall prg f_syngraphref23_Register_Finish [t0, (.bool true)] h1 fun t31 h3 =>
        R t31 h3) (
        R (.int .i64 33) h1)))
theorem sh_syngraphref23_Register_Settle_chk : fchkF prg [] Tryz.f32 2 = true := by kernel_rfl
theorem sh_syngraphref23_Register_Settle_den (t0 t1 : Value) (H : Heap) (R : Value → Heap → Prop) : fdenF prg [] Tryz.f32 [t0, t1] H R = sh_syngraphref23_Register_Settle t0 t1 H R := by kernel_rfl
theorem sh_syngraphref23_Register_Settle_calls {t0 t1 : Value} {H : Heap} {R : Value → Heap → Prop} (h : sh_syngraphref23_Register_Settle t0 t1 H R) : HCalls prg f_syngraphref23_Register_Settle [t0, t1] H R :=
  calls_ofF Tryz.func32 sh_syngraphref23_Register_Settle_chk (by rw [sh_syngraphref23_Register_Settle_den]; exact h)

-- syngraph/syngraphlaw23.of
def sh_syngraphlaw23_of (t0 : Value) (H : Heap) (R : Value → Heap → Prop) : Prop :=
  Mnew H T_syngraphref23_Mark (zcells prg T_syngraphref23_Mark) fun t2 h1 =>
  Mcall prg f_history_History_Len [t0] h1 fun t4 h2 =>
  Mcall prg f_history_History_Top [t0] h2 fun t6 h3 =>
  Mpu (buildV prg T_syngraphref23_Mark [(0, t4), (1, t6)]) fun t7 =>
  Mwr (stN 33 h3 t2 t7) fun h4 =>
  Mpu (ldN 33 h4 t2) fun r5 =>
  R r5 h4
theorem sh_syngraphlaw23_of_chk : fchkF prg [] Tryz.f33 1 = true := by kernel_rfl
theorem sh_syngraphlaw23_of_den (t0 : Value) (H : Heap) (R : Value → Heap → Prop) : fdenF prg [] Tryz.f33 [t0] H R = sh_syngraphlaw23_of t0 H R := by kernel_rfl
theorem sh_syngraphlaw23_of_calls {t0 : Value} {H : Heap} {R : Value → Heap → Prop} (h : sh_syngraphlaw23_of t0 H R) : HCalls prg f_syngraphlaw23_of [t0] H R :=
  calls_ofF Tryz.func33 sh_syngraphlaw23_of_chk (by rw [sh_syngraphlaw23_of_den]; exact h)

-- (*syngraph/anchor.Register).Next
def sh_anchor_Register_Next (t0 : Value) (H : Heap) (R : Value → Heap → Prop) : Prop :=
  Mnew H T_anchor_Mark (zcells prg T_anchor_Mark) fun t2 h1 =>
  Mpu (nck t0) fun t5 =>
  Mpu (fld 33 t5) fun t6 =>
  Mpu (ldN 33 h1 t6) fun t7 =>
  Mpu (nck t0) fun t9 =>
  Mpu (fld 66 t9) fun t10 =>
  Mpu (ld1 h1 t10) fun t11 =>
  Mwr (stN 33 h1 t2 t7) fun h2 =>
  Mre [(ld1 h2 t10, t11)] (
  Mpu (ldN 33 h2 t2) fun r3 =>
  R (.tuple #[r3, t11]) h2)
theorem sh_anchor_Register_Next_chk : fchkF prg [] Tryz.f34 1 = true := by kernel_rfl
theorem sh_anchor_Register_Next_den (t0 : Value) (H : Heap) (R : Value → Heap → Prop) : fdenF prg [] Tryz.f34 [t0] H R = sh_anchor_Register_Next t0 H R := by kernel_rfl
theorem sh_anchor_Register_Next_calls {t0 : Value} {H : Heap} {R : Value → Heap → Prop} (h : sh_anchor_Register_Next t0 H R) : HCalls prg f_anchor_Register_Next [t0] H R :=
  calls_ofF Tryz.func34 sh_anchor_Register_Next_chk (by rw [sh_anchor_Register_Next_den]; exact h)

-- syngraph/syngraphlaw23.bytes
def sh_syngraphlaw23_bytes (t0 : Value) (H : Heap) (R : Value → Heap → Prop) : Prop :=
  Mpu (nck t0) fun t5 =>
  Mpu (fld 0 t5) fun t6 =>
  Mpu (fld 0 t6) fun t7 =>
  Mpu (ld1 H t7) fun t8 =>
  Mpu (nck t0) fun t11 =>
  Mpu (fld 0 t11) fun t12 =>
  Mpu (fld 1 t12) fun t13 =>
  Mpu (slA 32 1 t13 none none none) fun t14 =>
  Mcall prg f_syngraphref03_Int [t8] H fun t9 h1 =>
  Mnews h1 T_S_uint8 2 (bslV prg T_S_uint8 2 [(0, t9), (1, t14)]) fun t15 h2 =>
  Mcall prg f_syngraphref03_Join [t15] h2 fun t16 h3 =>
  Mpu (nck t0) fun t18 =>
  Mpu (fld 66 t18) fun t19 =>
  Mpu (ld1 h3 t19) fun t20 =>
  Mcd t20 (
    Mnews h3 T_uint8 1 (bslV prg T_uint8 1 [(0, (.int .u8 1))]) fun t22 h4 =>
    Mpu (nck t0) fun t24 =>
    Mpu (fld 33 t24) fun t25 =>
    Mpu (fld 1 t25) fun t26 =>
    Mpu (slA 32 1 t26 none none none) fun t27 =>
    Mnews h4 T_S_uint8 3 (bslV prg T_S_uint8 3 [(0, t16), (1, t22), (2, t27)]) fun t28 h5 =>
    Mcall prg f_syngraphref03_Join [t28] h5 fun t29 h6 =>
    Mpu (b2s h6 t29) fun t30 =>
    R t30 h6) (
    Mpu (b2s h3 t16) fun t32 =>
    Mpu (binV .no .add t32 (.string ⟨#[0]⟩)) fun t33 =>
    R t33 h3)
theorem sh_syngraphlaw23_bytes_chk : fchkF prg [] Tryz.f35 1 = true := by kernel_rfl
theorem sh_syngraphlaw23_bytes_den (t0 : Value) (H : Heap) (R : Value → Heap → Prop) : fdenF prg [] Tryz.f35 [t0] H R = sh_syngraphlaw23_bytes t0 H R := by kernel_rfl
theorem sh_syngraphlaw23_bytes_calls {t0 : Value} {H : Heap} {R : Value → Heap → Prop} (h : sh_syngraphlaw23_bytes t0 H R) : HCalls prg f_syngraphlaw23_bytes [t0] H R :=
  calls_ofF Tryz.func35 sh_syngraphlaw23_bytes_chk (by rw [sh_syngraphlaw23_bytes_den]; exact h)

-- (*syngraph/anchor.Register).over
def sh_anchor_Register_over (t0 : Value) (H : Heap) (R : Value → Heap → Prop) : Prop :=
  Mpu (buildV prg T_anchor_Mark []) fun t4 =>
  Mpu (nck t0) fun t5 =>
  Mpu (fld 33 t5) fun t6 =>
  Mwr (stN 33 H t6 t4) fun h1 =>
  Mpu (nck t0) fun t7 =>
  Mpu (fld 66 t7) fun t8 =>
  Mwr (st1 h1 t8 (.bool false)) fun h2 =>
  R (.tuple #[]) h2
theorem sh_anchor_Register_over_chk : fchkF prg [] Tryz.f42 1 = true := by kernel_rfl
theorem sh_anchor_Register_over_den (t0 : Value) (H : Heap) (R : Value → Heap → Prop) : fdenF prg [] Tryz.f42 [t0] H R = sh_anchor_Register_over t0 H R := by kernel_rfl
theorem sh_anchor_Register_over_calls {t0 : Value} {H : Heap} {R : Value → Heap → Prop} (h : sh_anchor_Register_over t0 H R) : HCalls prg f_anchor_Register_over [t0] H R :=
  calls_ofF Tryz.func42 sh_anchor_Register_over_chk (by rw [sh_anchor_Register_over_den]; exact h)

end Go.Proofs.YtdmciknajaedmaaGreatDoor
/- PRINTED: clean texts -/
namespace Go.Proofs.YtdmciknajaedmaaGreatDoor
open Go.X
set_option maxRecDepth 100000
-- slices.EqualFunc[[]syngraph/history.Record,[]syngraph/history.Record,syngraph/history.Record,syngraph/history.Record]
def sh_slices_EqualFunc_S_history_Record_S_history_Record_history_R_94851 (t0 t1 t2 : Value) (H : Heap) (R : Value → Heap → Prop) : Prop :=
  Mpu (lenV t0) fun t11 =>
  Mpu (lenV t1) fun t13 =>
  Mpu (binV .no .neq t11 t13) fun t14 =>
  Mcd t14 (
    R (.bool false) H) (
    J1 (fun k1 =>
      Mpu (lenV t0) fun t16 =>
      L1 (fun k3 => fun t17_2 h4 =>
        Mpu (binV .no .lss t17_2 t16) fun t18 =>
        Mcd t18 (
          Mpu (ixS 36 t0 t17_2) fun t20 =>
          Mpu (ldN 36 h4 t20) fun t21 =>
          Mnew h4 T_history_Record (zcells prg T_history_Record) fun t8 h5 =>
          Mwr (stN 36 h5 t8 t21) fun h6 =>
          Mpu (ixS 36 t1 t17_2) fun t24 =>
          Mpu (ldN 36 h6 t24) fun t25 =>
          Mnew h6 T_history_Record (zcells prg T_history_Record) fun t9 h7 =>
          Mwr (stN 36 h7 t9 t25) fun h8 =>
          Mpu (ldN 36 h8 t8) fun t27 =>
          Mpu (ldN 36 h8 t9) fun t28 =>
          Mcallv prg t2 [t27, t28] h8 fun t29 h9 =>
          Mpu (unV .not t29) fun t30 =>
          Mcd t30 (
            R (.bool false) h9) (
            Mpu (binV .no .add t17_2 (.int .i64 1)) fun t31 =>
            k3 t31 h9)) (
          k1 t17_2 h4)) ((.int .i64 0)) H) fun t17_4 h2 =>
    R (.bool true) h2)
theorem sh_slices_EqualFunc_S_history_Record_S_history_Record_history_R_94851_chk : fchkF prg [17] Tryz.f43 3 = true := by kernel_rfl
theorem sh_slices_EqualFunc_S_history_Record_S_history_Record_history_R_94851_den (t0 t1 t2 : Value) (H : Heap) (R : Value → Heap → Prop) : fdenF prg [17] Tryz.f43 [t0, t1, t2] H R = sh_slices_EqualFunc_S_history_Record_S_history_Record_history_R_94851 t0 t1 t2 H R := by kernel_rfl
theorem sh_slices_EqualFunc_S_history_Record_S_history_Record_history_R_94851_calls {t0 t1 t2 : Value} {H : Heap} {R : Value → Heap → Prop} (h : sh_slices_EqualFunc_S_history_Record_S_history_Record_history_R_94851 t0 t1 t2 H R) : HCalls prg f_slices_EqualFunc_S_history_Record_S_history_Record_history_R_94851 [t0, t1, t2] H R :=
  calls_ofF Tryz.func43 sh_slices_EqualFunc_S_history_Record_S_history_Record_history_R_94851_chk (by rw [sh_slices_EqualFunc_S_history_Record_S_history_Record_history_R_94851_den]; exact h)

-- slices.Backward[[]syngraph/history.Record,syngraph/history.Record]
def sh_slices_Backward_S_history_Record_history_Record (t0 : Value) (H : Heap) (R : Value → Heap → Prop) : Prop :=
  Mnew H T_S_history_Record (some (Value.cells t0)) fun t1 h1 =>
  R (.func (.func f_slices_Backward_S_history_Record_history_Record_1) #[] #[t1]) h1
theorem sh_slices_Backward_S_history_Record_history_Record_chk : fchkF prg [] Tryz.f45 1 = true := by kernel_rfl
theorem sh_slices_Backward_S_history_Record_history_Record_den (t0 : Value) (H : Heap) (R : Value → Heap → Prop) : fdenF prg [] Tryz.f45 [t0] H R = sh_slices_Backward_S_history_Record_history_Record t0 H R := by kernel_rfl
theorem sh_slices_Backward_S_history_Record_history_Record_calls {t0 : Value} {H : Heap} {R : Value → Heap → Prop} (h : sh_slices_Backward_S_history_Record_history_Record t0 H R) : HCalls prg f_slices_Backward_S_history_Record_history_Record [t0] H R :=
  calls_ofF Tryz.func45 sh_slices_Backward_S_history_Record_history_Record_chk (by rw [sh_slices_Backward_S_history_Record_history_Record_den]; exact h)

-- (*syngraph/history.History).input
def sh_history_History_input (t0 t1 : Value) (H : Heap) (R : Value → Heap → Prop) : Prop :=
  Mcall prg f_history_History_ahead [t0, t1] H fun t8 h1 =>
  Mnew h1 T_sha_Hash (zcells prg T_sha_Hash) fun t5 h2 =>
  Mwr (stN 32 h2 t5 t8) fun h3 =>
  Mpu (slA 32 1 t5 none none none) fun t9 =>
  Mpu (nck t0) fun t11 =>
  Mpu (fld 0 t11) fun t12 =>
  Mpu (ld1 h3 t12) fun t13 =>
  Mpu (ixS 36 t13 t1) fun t15 =>
  Mpu (ldN 36 h3 t15) fun t16 =>
  Mcall prg f_history_Record_Bytes [t16] h3 fun t17 h4 =>
  Mnews h4 T_S_uint8 2 (bslV prg T_S_uint8 2 [(0, t9), (1, t17)]) fun t18 h5 =>
  Mcall prg f_tag_Input [(.int .i64 7), t18] h5 fun t19 h6 =>
  R t19 h6
theorem sh_history_History_input_chk : fchkF prg [] Tryz.f46 2 = true := by kernel_rfl
theorem sh_history_History_input_den (t0 t1 : Value) (H : Heap) (R : Value → Heap → Prop) : fdenF prg [] Tryz.f46 [t0, t1] H R = sh_history_History_input t0 t1 H R := by kernel_rfl
theorem sh_history_History_input_calls {t0 t1 : Value} {H : Heap} {R : Value → Heap → Prop} (h : sh_history_History_input t0 t1 H R) : HCalls prg f_history_History_input [t0, t1] H R :=
  calls_ofF Tryz.func46 sh_history_History_input_chk (by rw [sh_history_History_input_den]; exact h)

-- (syngraph/collide.Collision).Right
def sh_collide_Collision_Right (t0 : Value) (H : Heap) (R : Value → Heap → Prop) : Prop :=
  Mnew H T_collide_Collision (some (Value.cells t0)) fun t1 h1 =>
  Mpu (fld 0 t1) fun t3 =>
  Mpu (ld1 h1 t3) fun t4 =>
  Mpu (fld 1 t1) fun t5 =>
  Mpu (ld1 h1 t5) fun t6 =>
  Mcall prg f_bytes_Equal [t4, t6] h1 fun t7 h2 =>
  Mpu (unV .not t7) fun t8 =>
  J1 (fun k3 => Mif t8 true (
      Mpu (fld 0 t1) fun t10 =>
      Mpu (ld1 h2 t10) fun t11 =>
      Mpu (fld 1 t1) fun t13 =>
      Mpu (ld1 h2 t13) fun t14 =>
      Mcall prg f_sha_Sum [t11] h2 fun t12 h4 =>
      Mre [(ld1 h4 t13, t14)] (
      Mcall prg f_sha_Sum [t14] h4 fun t15 h5 =>
      Mpu (binV (eqK prg T_sha_Hash) .eql t12 t15) fun t16 =>
      k3 t16 h5)) (
      k3 undef h2)) fun t16_2 h6 =>
  Mpu (pickV t8 t16_2 (.bool false)) fun t17 =>
  R t17 h6
theorem sh_collide_Collision_Right_chk : fchkF prg [16] Tryz.f47 1 = true := by kernel_rfl
theorem sh_collide_Collision_Right_den (t0 : Value) (H : Heap) (R : Value → Heap → Prop) : fdenF prg [16] Tryz.f47 [t0] H R = sh_collide_Collision_Right t0 H R := by kernel_rfl
theorem sh_collide_Collision_Right_calls {t0 : Value} {H : Heap} {R : Value → Heap → Prop} (h : sh_collide_Collision_Right t0 H R) : HCalls prg f_collide_Collision_Right [t0] H R :=
  calls_ofF Tryz.func47 sh_collide_Collision_Right_chk (by rw [sh_collide_Collision_Right_den]; exact h)

-- (*syngraph/wire.In).Bool
def sh_wire_In_Bool (t0 : Value) (H : Heap) (R : Value → Heap → Prop) : Prop :=
  Mcall prg f_wire_In_take [t0, (.int .i64 1)] H fun t5 h1 =>
  Mpu (nck t0) fun t7 =>
  Mpu (fld 1 t7) fun t8 =>
  Mpu (ld1 h1 t8) fun t9 =>
  Mcd t9 (
    R (.bool false) h1) (
    Mpu (ixS 1 t5 (.int .i64 0)) fun t12 =>
    Mpu (ld1 h1 t12) fun t13 =>
    Mpu (binV .no .gtr t13 (.int .u8 1)) fun t14 =>
    Mpu (nck t0) fun t15 =>
    Mpu (fld 1 t15) fun t16 =>
    Mwr (st1 h1 t16 t14) fun h2 =>
    Mpu (ixS 1 t5 (.int .i64 0)) fun t18 =>
    Mpu (ld1 h2 t18) fun t19 =>
    Mpu (binV .no .eql t19 (.int .u8 1)) fun t20 =>
    R t20 h2)
theorem sh_wire_In_Bool_chk : fchkF prg [] Tryz.f54 1 = true := by kernel_rfl
theorem sh_wire_In_Bool_den (t0 : Value) (H : Heap) (R : Value → Heap → Prop) : fdenF prg [] Tryz.f54 [t0] H R = sh_wire_In_Bool t0 H R := by kernel_rfl
theorem sh_wire_In_Bool_calls {t0 : Value} {H : Heap} {R : Value → Heap → Prop} (h : sh_wire_In_Bool t0 H R) : HCalls prg f_wire_In_Bool [t0] H R :=
  calls_ofF Tryz.func54 sh_wire_In_Bool_chk (by rw [sh_wire_In_Bool_den]; exact h)

-- (*syngraph/wire.Out).Bool
def sh_wire_Out_Bool (t0 t1 : Value) (H : Heap) (R : Value → Heap → Prop) : Prop :=
  J1 (fun k1 =>
    Mcd t1 (
      k1 (.int .u8 1) H) (
      k1 (.int .u8 0) H)) fun t5_3 h2 =>
  Mpu (nck t0) fun t9 =>
  Mpu (fld 0 t9) fun t10 =>
  Mpu (ld1 h2 t10) fun t11 =>
  Mnews h2 T_uint8 1 (bslV prg T_uint8 1 [(0, t5_3)]) fun t13 h3 =>
  Mapp T_uint8 1 1 h3 t11 t13 fun t14 h4 =>
  Mpu (nck t0) fun t15 =>
  Mpu (fld 0 t15) fun t16 =>
  Mwr (st1 h4 t16 t14) fun h5 =>
  R t0 h5
theorem sh_wire_Out_Bool_chk : fchkF prg [5] Tryz.f58 2 = true := by kernel_rfl
theorem sh_wire_Out_Bool_den (t0 t1 : Value) (H : Heap) (R : Value → Heap → Prop) : fdenF prg [5] Tryz.f58 [t0, t1] H R = sh_wire_Out_Bool t0 t1 H R := by kernel_rfl
theorem sh_wire_Out_Bool_calls {t0 t1 : Value} {H : Heap} {R : Value → Heap → Prop} (h : sh_wire_Out_Bool t0 t1 H R) : HCalls prg f_wire_Out_Bool [t0, t1] H R :=
  calls_ofF Tryz.func58 sh_wire_Out_Bool_chk (by rw [sh_wire_Out_Bool_den]; exact h)

-- slices.Clone[[]syngraph/history.Record,syngraph/history.Record]
def sh_slices_Clone_S_history_Record_history_Record (t0 : Value) (H : Heap) (R : Value → Heap → Prop) : Prop :=
  Mpu (binV .slc .eql t0 (.slice none 0 0)) fun t4 =>
  Mcd t4 (
    R (.slice none 0 0) H) (
    Mnews H T_history_Record 0 (bslV prg T_history_Record 0 []) fun t5 h1 =>
    Mapp T_history_Record 36 96 h1 t5 t0 fun t7 h2 =>
    R t7 h2)
theorem sh_slices_Clone_S_history_Record_history_Record_chk : fchkF prg [] Tryz.f60 1 = true := by kernel_rfl
theorem sh_slices_Clone_S_history_Record_history_Record_den (t0 : Value) (H : Heap) (R : Value → Heap → Prop) : fdenF prg [] Tryz.f60 [t0] H R = sh_slices_Clone_S_history_Record_history_Record t0 H R := by kernel_rfl
theorem sh_slices_Clone_S_history_Record_history_Record_calls {t0 : Value} {H : Heap} {R : Value → Heap → Prop} (h : sh_slices_Clone_S_history_Record_history_Record t0 H R) : HCalls prg f_slices_Clone_S_history_Record_history_Record [t0] H R :=
  calls_ofF Tryz.func60 sh_slices_Clone_S_history_Record_history_Record_chk (by rw [sh_slices_Clone_S_history_Record_history_Record_den]; exact h)

-- slices.Clone[[]syngraph/sha.Hash,syngraph/sha.Hash]
def sh_slices_Clone_S_sha_Hash_sha_Hash (t0 : Value) (H : Heap) (R : Value → Heap → Prop) : Prop :=
  Mpu (binV .slc .eql t0 (.slice none 0 0)) fun t4 =>
  Mcd t4 (
    R (.slice none 0 0) H) (
    Mnews H T_sha_Hash 0 (bslV prg T_sha_Hash 0 []) fun t5 h1 =>
    Mapp T_sha_Hash 32 32 h1 t5 t0 fun t7 h2 =>
    R t7 h2)
theorem sh_slices_Clone_S_sha_Hash_sha_Hash_chk : fchkF prg [] Tryz.f61 1 = true := by kernel_rfl
theorem sh_slices_Clone_S_sha_Hash_sha_Hash_den (t0 : Value) (H : Heap) (R : Value → Heap → Prop) : fdenF prg [] Tryz.f61 [t0] H R = sh_slices_Clone_S_sha_Hash_sha_Hash t0 H R := by kernel_rfl
theorem sh_slices_Clone_S_sha_Hash_sha_Hash_calls {t0 : Value} {H : Heap} {R : Value → Heap → Prop} (h : sh_slices_Clone_S_sha_Hash_sha_Hash t0 H R) : HCalls prg f_slices_Clone_S_sha_Hash_sha_Hash [t0] H R :=
  calls_ofF Tryz.func61 sh_slices_Clone_S_sha_Hash_sha_Hash_chk (by rw [sh_slices_Clone_S_sha_Hash_sha_Hash_den]; exact h)

-- slices.Backward[[]syngraph/history.Record,syngraph/history.Record]$1
def sh_slices_Backward_S_history_Record_history_Record_1 (t0 t1 : Value) (H : Heap) (R : Value → Heap → Prop) : Prop :=
  Mpu (ld1 H t1) fun t4 =>
  Mpu (lenV t4) fun t5 =>
  Mpu (binV .no .sub t5 (.int .i64 1)) fun t6 =>
  L1 (fun k1 => fun t3_2 h2 =>
    Mpu (binV .no .geq t3_2 (.int .i64 0)) fun t8 =>
    Mcd t8 (
      Mpu (ld1 h2 t1) fun t13 =>
      Mpu (ixS 36 t13 t3_2) fun t15 =>
      Mpu (ldN 36 h2 t15) fun t16 =>
      Mcallv prg t0 [t3_2, t16] h2 fun t17 h3 =>
      Mpu (unV .not t17) fun t18 =>
      Mcd t18 (
        R (.tuple #[]) h3) (
        Mpu (binV .no .sub t3_2 (.int .i64 1)) fun t10 =>
        k1 t10 h3)) (
      R (.tuple #[]) h2)) (t6) H
theorem sh_slices_Backward_S_history_Record_history_Record_1_chk : fchkF prg [3] Tryz.f70 2 = true := by kernel_rfl
theorem sh_slices_Backward_S_history_Record_history_Record_1_den (t0 t1 : Value) (H : Heap) (R : Value → Heap → Prop) : fdenF prg [3] Tryz.f70 [t0, t1] H R = sh_slices_Backward_S_history_Record_history_Record_1 t0 t1 H R := by kernel_rfl
theorem sh_slices_Backward_S_history_Record_history_Record_1_calls {t0 t1 : Value} {H : Heap} {R : Value → Heap → Prop} (h : sh_slices_Backward_S_history_Record_history_Record_1 t0 t1 H R) : HCalls prg f_slices_Backward_S_history_Record_history_Record_1 [t0, t1] H R :=
  calls_ofF Tryz.func70 sh_slices_Backward_S_history_Record_history_Record_1_chk (by rw [sh_slices_Backward_S_history_Record_history_Record_1_den]; exact h)

-- (*syngraph/history.History).ahead
def sh_history_History_ahead (t0 t1 : Value) (H : Heap) (R : Value → Heap → Prop) : Prop :=
  Mnew H T_sha_Hash (zcells prg T_sha_Hash) fun t4 h1 =>
  Mpu (binV .no .eql t1 (.int .i64 0)) fun t6 =>
  Mcd t6 (
    Mpu (buildV prg T_sha_Hash []) fun t7 =>
    Mwr (stN 32 h1 t4 t7) fun h2 =>
    Mpu (ldN 32 h2 t4) fun r3 =>
    R r3 h2) (
    Mpu (nck t0) fun t9 =>
    Mpu (fld 1 t9) fun t10 =>
    Mpu (ld1 h1 t10) fun t11 =>
    Mpu (binV .no .sub t1 (.int .i64 1)) fun t13 =>
    Mpu (ixS 32 t11 t13) fun t14 =>
    Mpu (ldN 32 h1 t14) fun t15 =>
    Mwr (stN 32 h1 t4 t15) fun h4 =>
    Mpu (ldN 32 h4 t4) fun r5 =>
    R r5 h4)
theorem sh_history_History_ahead_chk : fchkF prg [] Tryz.f71 2 = true := by kernel_rfl
theorem sh_history_History_ahead_den (t0 t1 : Value) (H : Heap) (R : Value → Heap → Prop) : fdenF prg [] Tryz.f71 [t0, t1] H R = sh_history_History_ahead t0 t1 H R := by kernel_rfl
theorem sh_history_History_ahead_calls {t0 t1 : Value} {H : Heap} {R : Value → Heap → Prop} (h : sh_history_History_ahead t0 t1 H R) : HCalls prg f_history_History_ahead [t0, t1] H R :=
  calls_ofF Tryz.func71 sh_history_History_ahead_chk (by rw [sh_history_History_ahead_den]; exact h)

end Go.Proofs.YtdmciknajaedmaaGreatDoor
/- PRINTED: clean texts -/
namespace Go.Proofs.YtdmciknajaedmaaGreatDoor
open Go.X
set_option maxRecDepth 100000
-- syngraph/tag.Input
def sh_tag_Input (t0 t1 : Value) (H : Heap) (R : Value → Heap → Prop) : Prop :=
  Mpu (cvI .u8 t0) fun t6 =>
  Mnews H T_uint8 1 (bslV prg T_uint8 1 [(0, t6)]) fun t7 h1 =>
  Mcall prg f_slices_Concat_S_byte_byte [t1] h1 fun t9 h2 =>
  Mapp T_uint8 1 1 h2 t7 t9 fun t10 h3 =>
  R t10 h3
theorem sh_tag_Input_chk : fchkF prg [] Tryz.f72 2 = true := by kernel_rfl
theorem sh_tag_Input_den (t0 t1 : Value) (H : Heap) (R : Value → Heap → Prop) : fdenF prg [] Tryz.f72 [t0, t1] H R = sh_tag_Input t0 t1 H R := by kernel_rfl
theorem sh_tag_Input_calls {t0 t1 : Value} {H : Heap} {R : Value → Heap → Prop} (h : sh_tag_Input t0 t1 H R) : HCalls prg f_tag_Input [t0, t1] H R :=
  calls_ofF Tryz.func72 sh_tag_Input_chk (by rw [sh_tag_Input_den]; exact h)

-- slices.Concat[[]byte,byte]
def sh_slices_Concat_S_byte_byte (t0 : Value) (H : Heap) (R : Value → Heap → Prop) : Prop :=
  J2 (fun k1 =>
    Mpu (lenV t0) fun t10 =>
    L2 (fun k3 => fun t3_2 t11_2 h4 =>
      Mpu (binV .no .lss t11_2 t10) fun t12 =>
      Mcd t12 (
        J1 (fun k5 =>
          Mpu (ixS 1 t0 t11_2) fun t13 =>
          Mpu (ld1 h4 t13) fun t14 =>
          Mpu (lenV t14) fun t17 =>
          Mpu (binV .no .add t3_2 t17) fun t18 =>
          Mpu (binV .no .lss t18 (.int .i64 0)) fun t20 =>
          Mcd t20 (
            Mpu (mkI prg T_string (.string ⟨#[108, 101, 110, 32, 111, 117, 116, 32, 111, 102, 32, 114, 97, 110, 103, 101]⟩)) fun t21 =>
            False) (
            k5 t18 h4)) fun t3_4 h6 =>
        Mpu (binV .no .add t11_2 (.int .i64 1)) fun t22 =>
        k3 t3_4 t22 h6) (
        k1 t3_2 t11_2 h4)) ((.int .i64 0)) ((.int .i64 0)) H) fun t3_5 t11_4 h2 =>
  Mcall prg f_slices_Grow_S_byte_byte [(.slice none 0 0), t3_5] h2 fun t24 h7 =>
  J2 (fun k8 =>
    Mpu (lenV t0) fun t26 =>
    L2 (fun k10 => fun t6_2 t27_2 h11 =>
      Mpu (binV .no .lss t27_2 t26) fun t28 =>
      Mcd t28 (
        Mpu (ixS 1 t0 t27_2) fun t29 =>
        Mpu (ld1 h11 t29) fun t30 =>
        Mapp T_uint8 1 1 h11 t6_2 t30 fun t33 h12 =>
        Mpu (binV .no .add t27_2 (.int .i64 1)) fun t34 =>
        k10 t33 t34 h12) (
        k8 t6_2 t27_2 h11)) (t24) ((.int .i64 0)) h7) fun t6_4 t27_4 h9 =>
  R t6_4 h9
theorem sh_slices_Concat_S_byte_byte_chk : fchkF prg [3, 6, 11, 27] Tryz.f85 1 = true := by kernel_rfl
theorem sh_slices_Concat_S_byte_byte_den (t0 : Value) (H : Heap) (R : Value → Heap → Prop) : fdenF prg [3, 6, 11, 27] Tryz.f85 [t0] H R = sh_slices_Concat_S_byte_byte t0 H R := by kernel_rfl
theorem sh_slices_Concat_S_byte_byte_calls {t0 : Value} {H : Heap} {R : Value → Heap → Prop} (h : sh_slices_Concat_S_byte_byte t0 H R) : HCalls prg f_slices_Concat_S_byte_byte [t0] H R :=
  calls_ofF Tryz.func85 sh_slices_Concat_S_byte_byte_chk (by rw [sh_slices_Concat_S_byte_byte_den]; exact h)

-- slices.Grow[[]byte,byte]
def sh_slices_Grow_S_byte_byte (t0 t1 : Value) (H : Heap) (R : Value → Heap → Prop) : Prop :=
  J0 (fun k1 =>
    Mpu (binV .no .lss t1 (.int .i64 0)) fun t6 =>
    Mcd t6 (
      Mpu (mkI prg T_string (.string ⟨#[99, 97, 110, 110, 111, 116, 32, 98, 101, 32, 110, 101, 103, 97, 116, 105, 118, 101]⟩)) fun t7 =>
      False) (
      k1 H)) fun h2 =>
  J1 (fun k3 =>
    Mpu (capV t0) fun t10 =>
    Mpu (lenV t0) fun t12 =>
    Mpu (binV .no .sub t10 t12) fun t13 =>
    Mpu (binV .no .sub t1 t13) fun t14 =>
    Mpu (binV .no .gtr t14 (.int .i64 0)) fun t16 =>
    Mcd t16 (
      Mpu (capV t0) fun t19 =>
      Mpu (slS 1 t0 none (some t19) none) fun t20 =>
      Mapz T_uint8 1 1 h2 t20 t14 (zcells prg T_uint8) fun t22 h5 =>
      Mpu (lenV t0) fun t24 =>
      Mpu (slS 1 t22 none (some t24) none) fun t25 =>
      k3 t25 h5) (
      k3 t0 h2)) fun t0_3 h4 =>
  R t0_3 h4
theorem sh_slices_Grow_S_byte_byte_chk : fchkF prg [0] Tryz.f94 2 = true := by kernel_rfl
theorem sh_slices_Grow_S_byte_byte_den (t0 t1 : Value) (H : Heap) (R : Value → Heap → Prop) : fdenF prg [0] Tryz.f94 [t0, t1] H R = sh_slices_Grow_S_byte_byte t0 t1 H R := by kernel_rfl
theorem sh_slices_Grow_S_byte_byte_calls {t0 t1 : Value} {H : Heap} {R : Value → Heap → Prop} (h : sh_slices_Grow_S_byte_byte t0 t1 H R) : HCalls prg f_slices_Grow_S_byte_byte [t0, t1] H R :=
  calls_ofF Tryz.func94 sh_slices_Grow_S_byte_byte_chk (by rw [sh_slices_Grow_S_byte_byte_den]; exact h)

end Go.Proofs.YtdmciknajaedmaaGreatDoor
/- ALL CLEAN TEXTS -/
