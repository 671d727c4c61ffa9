/- JOINED: Si0 Si1 Sz -/
import Derived.Test.YtconalffokhplaaDoorGE
import Derived.Test.YtconalffokhplaaDoorGF
import Derived.Test.YtconalffokhplaaDoorGG
import Derived.Test.YtconalffokhplaaDoorGS
import Derived.Test.YtconalffokhplaaDoorGR
set_option linter.unusedSimpArgs false
set_option linter.unusedVariables false
/- PRINTED: clean texts -/
namespace Go.Proofs.YtconalffokhplaaDoor
open Go.X
set_option maxRecDepth 100000
-- syngraph/syngraphlaw22.HistoryCollides
def sh_syngraphlaw22_HistoryCollides (t0 t1 : Value) (H : Heap) (R : Value → Heap → Prop) : Prop :=
  J1 (fun k1 =>
    Mnews H T_history_Record 0 (bslV prg T_history_Record 0 []) fun t12 h3 =>
    Mapp T_history_Record 36 96 h3 t12 t0 fun t14 h4 =>
    Mapp T_history_Record 36 96 h4 t14 t1 fun t16 h5 =>
    Mpu (lenV t16) fun t17 =>
    L1 (fun k6 => fun t18_2 h7 =>
      Mpu (binV .no .lss t18_2 t17) fun t19 =>
      Mcd t19 (
        Mpu (ixS 36 t16 t18_2) fun t20 =>
        Mpu (ldN 36 h7 t20) fun t21 =>
        Mnew h7 T_history_Record (zcells prg T_history_Record) fun t6 h8 =>
        Mwr (stN 36 h8 t6 t21) fun h9 =>
        Mpu (ldN 36 h9 t6) fun t22 =>
        Mcall prg f_syngraphlaw22_small [t22] h9 fun t23 h10 =>
        Mpu (unV .not t23) fun t24 =>
        Mcd t24 (
          Mcall prg f_syngraphlaw22_awake [] h10 fun t25 h11 =>
          R t25 h11) (
          Mpu (binV .no .add t18_2 (.int .i64 1)) fun t26 =>
          k6 t26 h10)) (
        k1 t18_2 h7)) ((.int .i64 0)) h5) fun t18_4 h2 =>
  Mpu (lenV t0) fun t28 =>
  Mpu (binV .no .gtr t28 (.int .i64 15)) fun t29 =>
  J1 (fun k12 => Mif t29 false (
      Mpu (lenV t1) fun t32 =>
      Mpu (binV .no .gtr t32 (.int .i64 15)) fun t33 =>
      k12 t33 h2) (
      k12 undef h2)) fun t33_2 h13 =>
  Mpu (pickV t29 (.bool true) t33_2) fun t34 =>
  Mcd t34 (
    Mcall prg f_syngraphlaw22_awake [] h13 fun t35 h14 =>
    R t35 h14) (
    Mcall prg f_syngraphlaw22_made [t0] h13 fun t37 h15 =>
    Mcall prg f_syngraphlaw22_made [t1] h15 fun t39 h16 =>
    Mpu (binV .ptr .eql t37 (.pointer none)) fun t41 =>
    J1 (fun k17 => Mif t41 false (
        Mpu (binV .ptr .eql t39 (.pointer none)) fun t44 =>
        k17 t44 h16) (
        k17 undef h16)) fun t44_2 h18 =>
    Mpu (pickV t41 (.bool true) t44_2) fun t45 =>
    Mcd t45 (
      R (.bool false) h18) (
      Mcall prg f_history_Collide [t37, t39] h18 fun t49 h19 =>
      Mpu (extV 0 t49) fun t50 =>
      Mpu (extV 1 t49) fun t51 =>
      Mnew h19 T_collide_Collision (zcells prg T_collide_Collision) fun t9 h20 =>
      Mwr (stN 2 h20 t9 t50) fun h21 =>
      Mcall prg f_history_History_Len [t37] h21 fun t53 h22 =>
      Mcall prg f_history_History_Len [t39] h22 fun t55 h23 =>
      Mpu (binV .no .eql t53 t55) fun t56 =>
      J1 (fun k24 => Mif t56 true (
          Mcall prg f_history_History_Top [t37] h23 fun t59 h25 =>
          Mcall prg f_history_History_Top [t39] h25 fun t61 h26 =>
          Mpu (binV (eqK prg T_sha_Hash) .eql t59 t61) fun t62 =>
          k24 t62 h26) (
          k24 undef h23)) fun t62_2 h27 =>
      Mpu (pickV t56 t62_2 (.bool false)) fun t63 =>
      J1 (fun k28 => Mif t63 true (
          Mcall prg f_history_History_Equal [t37, t39] h27 fun t67 h29 =>
          Mpu (unV .not t67) fun t68 =>
          k28 t68 h29) (
          k28 undef h27)) fun t68_2 h30 =>
      Mpu (pickV t63 t68_2 (.bool false)) fun t69 =>
      Mpu (binV .bool .eql t51 t69) fun t72 =>
      J1 (fun k31 => Mif t72 true (
          Mpu (unV .not t51) fun t75 =>
          k31 t75 h30) (
          k31 undef h30)) fun t76_2 h32 =>
      J1 (fun k33 => Mif t76_2 false (
          Mpu (fld 0 t9) fun t77 =>
          Mpu (ld1 h32 t77) fun t78 =>
          Mpu (b2s h32 t78) fun t79 =>
          Mpu (fld 1 t9) fun t80 =>
          Mpu (ld1 h32 t80) fun t81 =>
          Mpu (b2s h32 t81) fun t82 =>
          Mpu (binV .no .neq t79 t82) fun t83 =>
          k33 t83 h32) (
          k33 undef h32)) fun t84_2 h34 =>
      J1 (fun k35 => Mif t84_2 true (
          Mpu (fld 0 t9) fun t85 =>
          Mpu (ld1 h34 t85) fun t86 =>
          Mpu (fld 1 t9) fun t88 =>
          Mpu (ld1 h34 t88) fun t89 =>
          Mcall prg f_sha_Sum [t86] h34 fun t87 h36 =>
          Mre [(ld1 h36 t88, t89)] (
          Mcall prg f_sha_Sum [t89] h36 fun t90 h37 =>
          Mpu (binV (eqK prg T_sha_Hash) .eql t87 t90) fun t91 =>
          k35 t91 h37)) (
          k35 undef h34)) fun t91_2 h38 =>
      J1 (fun k39 => Mif t76_2 false (
          Mpu (pickV t84_2 t91_2 (.bool false)) fun t92 =>
          k39 t92 h38) (
          k39 undef h38)) fun t92_2 h40 =>
      J1 (fun k41 => Mif t72 true (
          Mpu (pickV t76_2 (.bool true) t92_2) fun t93 =>
          k41 t93 h40) (
          k41 undef h40)) fun t93_2 h42 =>
      Mpu (pickV t72 t93_2 (.bool false)) fun t94 =>
      J1 (fun k43 => Mif t94 true (
          Mcall prg f_syngraphlaw22_awake [] h42 fun t96 h44 =>
          k43 t96 h44) (
          k43 undef h42)) fun t96_2 h45 =>
      Mpu (pickV t94 t96_2 (.bool false)) fun t97 =>
      R t97 h45))
theorem sh_syngraphlaw22_HistoryCollides_chk : fchkF prg [18, 33, 44, 62, 68, 76, 84, 91, 92, 93, 96] Tryd.f3 2 = true := by kernel_rfl
theorem sh_syngraphlaw22_HistoryCollides_den (t0 t1 : Value) (H : Heap) (R : Value → Heap → Prop) : fdenF prg [18, 33, 44, 62, 68, 76, 84, 91, 92, 93, 96] Tryd.f3 [t0, t1] H R = sh_syngraphlaw22_HistoryCollides t0 t1 H R := by kernel_rfl
theorem sh_syngraphlaw22_HistoryCollides_calls {t0 t1 : Value} {H : Heap} {R : Value → Heap → Prop} (h : sh_syngraphlaw22_HistoryCollides t0 t1 H R) : HCalls prg f_syngraphlaw22_HistoryCollides [t0, t1] H R :=
  calls_ofF Tryd.func3 sh_syngraphlaw22_HistoryCollides_chk (by rw [sh_syngraphlaw22_HistoryCollides_den]; exact h)

-- syngraph/history.Collide
def sh_history_Collide (t0 t1 : Value) (H : Heap) (R : Value → Heap → Prop) : Prop :=
  Mnew H T_P_history_History (some (Value.cells t0)) fun t2 h1 =>
  Mnew h1 T_P_history_History (some (Value.cells t1)) fun t3 h2 =>
  Mnew h2 T_collide_Collision (zcells prg T_collide_Collision) fun t4 h3 =>
  Mnew h3 T_bool (zcells prg T_bool) fun t5 h4 =>
  Mpu (ld1 h4 t2) fun t8 =>
  Mpu (ld1 h4 t3) fun t10 =>
  Mcall prg f_history_History_Len [t8] h4 fun t9 h5 =>
  Mre [(ld1 h5 t3, t10)] (
  Mcall prg f_history_History_Len [t10] h5 fun t11 h6 =>
  Mpu (binV .no .neq t9 t11) fun t12 =>
  J1 (fun k7 => Mif t12 false (
      Mpu (ld1 h6 t2) fun t14 =>
      Mpu (ld1 h6 t3) fun t16 =>
      Mcall prg f_history_History_Top [t14] h6 fun t15 h8 =>
      Mre [(ld1 h8 t3, t16)] (
      Mcall prg f_history_History_Top [t16] h8 fun t17 h9 =>
      Mpu (binV (eqK prg T_sha_Hash) .neq t15 t17) fun t18 =>
      k7 t18 h9)) (
      k7 undef h6)) fun t18_2 h10 =>
  Mpu (pickV t12 (.bool true) t18_2) fun t19 =>
  Mcd t19 (
    Mpu (buildV prg T_collide_Collision []) fun t20 =>
    Mwr (stN 2 h10 t4 t20) fun h11 =>
    Mwr (st1 h11 t5 (.bool false)) fun h12 =>
    Mcl H.size h12 fun h13 =>
    Mpu (ldN 2 h13 t4) fun r14 =>
    Mpu (ld1 h13 t5) fun r15 =>
    R (.tuple #[r14, r15]) h13) (
    Mpu (ld1 h10 t2) fun t21 =>
    Mpu (nck t21) fun t22 =>
    Mpu (fld 0 t22) fun t23 =>
    Mpu (ld1 h10 t23) fun t24 =>
    Mcall prg f_slices_Backward_S_history_Record_history_Record [t24] h10 fun t25 h16 =>
    Mrange prg H.size t25 h16 (fun a17 h18 k19 => a17.length = 2 ∧ (
        Mbeg (h16.size + 1) h18 fun h22 =>
        J1 (fun k23 =>
          Mpu (ld1 h22 t2) fun t28 =>
          Mpu (ld1 h22 t3) fun t31 =>
          ((
            Mcall prg f_history_History_input [t28, (a17.getD 0 undef)] h22 fun t30 h24 =>
            Mre [(ld1 h24 t3, t31)] (
            ((
              Mcall prg f_history_History_input [t31, (a17.getD 0 undef)] h24 fun t33 h25 =>
              Mpu (buildV prg T_collide_Collision [(0, t30), (1, t33)]) fun t34 =>
              Mnew h25 T_collide_Collision (zcells prg T_collide_Collision) fun t7 h26 =>
              Mre [(ld1 h26 t3, t31), (ld1 h26 t2, t28)] (
              Mwr (stN 2 h26 t7 t34) fun h27 =>
              k23 t7 h27)) ∧ (
              Mnew h24 T_collide_Collision (zcells prg T_collide_Collision) fun t7_2 h28 =>
              Mre [(ld1 h28 t3, t31), (ld1 h28 t2, t28)] (
              Mcall prg f_history_History_input [t31, (a17.getD 0 undef)] h28 fun t33_2 h29 =>
              Mpu (buildV prg T_collide_Collision [(0, t30), (1, t33_2)]) fun t34_2 =>
              Mwr (stN 2 h29 t7_2 t34_2) fun h30 =>
              k23 t7_2 h30))))) ∧ (
            Mnew h22 T_collide_Collision (zcells prg T_collide_Collision) fun t7_3 h31 =>
            Mre [(ld1 h31 t3, t31), (ld1 h31 t2, t28)] (
            Mcall prg f_history_History_input [t28, (a17.getD 0 undef)] h31 fun t30_2 h32 =>
            Mre [(ld1 h32 t3, t31)] (
            Mcall prg f_history_History_input [t31, (a17.getD 0 undef)] h32 fun t33_3 h33 =>
            Mpu (buildV prg T_collide_Collision [(0, t30_2), (1, t33_3)]) fun t34_3 =>
            Mwr (stN 2 h33 t7_3 t34_3) fun h34 =>
            k23 t7_3 h34))))) fun t7_4 h35 =>
        Mpu (ldN 2 h35 t7_4) fun t35 =>
        Mcall prg f_collide_Collision_Right [t35] h35 fun t36 h36 =>
        Mcd t36 (
          Mpu (ldN 2 h36 t7_4) fun t37 =>
          Mwr (stN 2 h36 t4 t37) fun h37 =>
          Mwr (st1 h37 t5 (.bool true)) fun h38 =>
          k19 (some Code.ret) h38) (
          k19 none h36))) fun j20 h21 =>
      (j20 = none ∧ (
        Mpu (buildV prg T_collide_Collision []) fun t38 =>
        Mwr (stN 2 h21 t4 t38) fun h39 =>
        Mwr (st1 h39 t5 (.bool false)) fun h40 =>
        Mcl H.size h40 fun h41 =>
        Mpu (ldN 2 h41 t4) fun r42 =>
        Mpu (ld1 h41 t5) fun r43 =>
        R (.tuple #[r42, r43]) h41)) ∨
      (j20 = some Code.ret ∧ (
        Mcl H.size h21 fun h44 =>
        Mpu (ldN 2 h44 t4) fun r45 =>
        Mpu (ld1 h44 t5) fun r46 =>
        R (.tuple #[r45, r46]) h44))))
theorem sh_history_Collide_chk : fchkF prg [7, 18] Tryd.f7 2 = true := by kernel_rfl
theorem sh_history_Collide_den (t0 t1 : Value) (H : Heap) (R : Value → Heap → Prop) : fdenF prg [7, 18] Tryd.f7 [t0, t1] H R = sh_history_Collide t0 t1 H R := by kernel_rfl
theorem sh_history_Collide_calls {t0 t1 : Value} {H : Heap} {R : Value → Heap → Prop} (h : sh_history_Collide t0 t1 H R) : HCalls prg f_history_Collide [t0, t1] H R :=
  calls_ofF Tryd.func7 sh_history_Collide_chk (by rw [sh_history_Collide_den]; exact h)

-- (*syngraph/history.History).Equal
def sh_history_History_Equal (t0 t1 : Value) (H : Heap) (R : Value → Heap → Prop) : Prop :=
  Mpu (nck t0) fun t6 =>
  Mpu (fld 0 t6) fun t7 =>
  Mpu (ld1 H t7) fun t8 =>
  Mpu (nck t1) fun t10 =>
  Mpu (fld 0 t10) fun t11 =>
  Mpu (ld1 H t11) fun t12 =>
  Mcall prg f_slices_EqualFunc_S_history_Record_S_history_Record_history_R_94851 [t8, t12, (.func (.func f_history_Record_Equal) #[] #[])] H fun t13 h1 =>
  R t13 h1
theorem sh_history_History_Equal_chk : fchkF prg [] Tryd.f10 2 = true := by kernel_rfl
theorem sh_history_History_Equal_den (t0 t1 : Value) (H : Heap) (R : Value → Heap → Prop) : fdenF prg [] Tryd.f10 [t0, t1] H R = sh_history_History_Equal t0 t1 H R := by kernel_rfl
theorem sh_history_History_Equal_calls {t0 t1 : Value} {H : Heap} {R : Value → Heap → Prop} (h : sh_history_History_Equal t0 t1 H R) : HCalls prg f_history_History_Equal [t0, t1] H R :=
  calls_ofF Tryd.func10 sh_history_History_Equal_chk (by rw [sh_history_History_Equal_den]; exact h)

-- syngraph/sha.Sum
def sh_sha_Sum (t0 : Value) (H : Heap) (R : Value → Heap → Prop) : Prop :=
  Mnew H T_sha_Hash (zcells prg T_sha_Hash) fun t2 h1 =>
  Mcall prg f_sha_New [] h1 fun t4 h2 =>
  Mcall prg f_sha_Digest_Write [t4, t0] h2 fun t7 h3 =>
  Mcall prg f_sha_Digest_Sum [t4] h3 fun t9 h4 =>
  Mwr (stN 32 h4 t2 t9) fun h5 =>
  Mpu (ldN 32 h5 t2) fun r6 =>
  R r6 h5
theorem sh_sha_Sum_chk : fchkF prg [] Tryd.f11 1 = true := by kernel_rfl
theorem sh_sha_Sum_den (t0 : Value) (H : Heap) (R : Value → Heap → Prop) : fdenF prg [] Tryd.f11 [t0] H R = sh_sha_Sum t0 H R := by kernel_rfl
theorem sh_sha_Sum_calls {t0 : Value} {H : Heap} {R : Value → Heap → Prop} (h : sh_sha_Sum t0 H R) : HCalls prg f_sha_Sum [t0] H R :=
  calls_ofF Tryd.func11 sh_sha_Sum_chk (by rw [sh_sha_Sum_den]; exact h)

-- slices.Backward[[]syngraph/history.Record,syngraph/history.Record]
def sh_slices_Backward_S_history_Record_history_Record (t0 : Value) (H : Heap) (R : Value → Heap → Prop) : Prop :=
  Mnew H T_S_history_Record (some (Value.cells t0)) fun t1 h1 =>
  R (.func (.func f_slices_Backward_S_history_Record_history_Record_1) #[] #[t1]) h1
theorem sh_slices_Backward_S_history_Record_history_Record_chk : fchkF prg [] Tryd.f18 1 = true := by kernel_rfl
theorem sh_slices_Backward_S_history_Record_history_Record_den (t0 : Value) (H : Heap) (R : Value → Heap → Prop) : fdenF prg [] Tryd.f18 [t0] H R = sh_slices_Backward_S_history_Record_history_Record t0 H R := by kernel_rfl
theorem sh_slices_Backward_S_history_Record_history_Record_calls {t0 : Value} {H : Heap} {R : Value → Heap → Prop} (h : sh_slices_Backward_S_history_Record_history_Record t0 H R) : HCalls prg f_slices_Backward_S_history_Record_history_Record [t0] H R :=
  calls_ofF Tryd.func18 sh_slices_Backward_S_history_Record_history_Record_chk (by rw [sh_slices_Backward_S_history_Record_history_Record_den]; exact h)

-- (*syngraph/history.History).input
def sh_history_History_input (t0 t1 : Value) (H : Heap) (R : Value → Heap → Prop) : Prop :=
  Mcall prg f_history_History_ahead [t0, t1] H fun t8 h1 =>
  Mnew h1 T_sha_Hash (zcells prg T_sha_Hash) fun t5 h2 =>
  Mwr (stN 32 h2 t5 t8) fun h3 =>
  Mpu (slA 32 1 t5 none none none) fun t9 =>
  Mpu (nck t0) fun t11 =>
  Mpu (fld 0 t11) fun t12 =>
  Mpu (ld1 h3 t12) fun t13 =>
  Mpu (ixS 36 t13 t1) fun t15 =>
  Mpu (ldN 36 h3 t15) fun t16 =>
  Mcall prg f_history_Record_Bytes [t16] h3 fun t17 h4 =>
  Mnews h4 T_S_uint8 2 (bslV prg T_S_uint8 2 [(0, t9), (1, t17)]) fun t18 h5 =>
  Mcall prg f_tag_Input [(.int .i64 7), t18] h5 fun t19 h6 =>
  R t19 h6
theorem sh_history_History_input_chk : fchkF prg [] Tryd.f19 2 = true := by kernel_rfl
theorem sh_history_History_input_den (t0 t1 : Value) (H : Heap) (R : Value → Heap → Prop) : fdenF prg [] Tryd.f19 [t0, t1] H R = sh_history_History_input t0 t1 H R := by kernel_rfl
theorem sh_history_History_input_calls {t0 t1 : Value} {H : Heap} {R : Value → Heap → Prop} (h : sh_history_History_input t0 t1 H R) : HCalls prg f_history_History_input [t0, t1] H R :=
  calls_ofF Tryd.func19 sh_history_History_input_chk (by rw [sh_history_History_input_den]; exact h)

-- (syngraph/collide.Collision).Right
def sh_collide_Collision_Right (t0 : Value) (H : Heap) (R : Value → Heap → Prop) : Prop :=
  Mnew H T_collide_Collision (some (Value.cells t0)) fun t1 h1 =>
  Mpu (fld 0 t1) fun t3 =>
  Mpu (ld1 h1 t3) fun t4 =>
  Mpu (fld 1 t1) fun t5 =>
  Mpu (ld1 h1 t5) fun t6 =>
  Mcall prg f_bytes_Equal [t4, t6] h1 fun t7 h2 =>
  Mpu (unV .not t7) fun t8 =>
  J1 (fun k3 => Mif t8 true (
      Mpu (fld 0 t1) fun t10 =>
      Mpu (ld1 h2 t10) fun t11 =>
      Mpu (fld 1 t1) fun t13 =>
      Mpu (ld1 h2 t13) fun t14 =>
      Mcall prg f_sha_Sum [t11] h2 fun t12 h4 =>
      Mre [(ld1 h4 t13, t14)] (
      Mcall prg f_sha_Sum [t14] h4 fun t15 h5 =>
      Mpu (binV (eqK prg T_sha_Hash) .eql t12 t15) fun t16 =>
      k3 t16 h5)) (
      k3 undef h2)) fun t16_2 h6 =>
  Mpu (pickV t8 t16_2 (.bool false)) fun t17 =>
  R t17 h6
theorem sh_collide_Collision_Right_chk : fchkF prg [16] Tryd.f20 1 = true := by kernel_rfl
theorem sh_collide_Collision_Right_den (t0 : Value) (H : Heap) (R : Value → Heap → Prop) : fdenF prg [16] Tryd.f20 [t0] H R = sh_collide_Collision_Right t0 H R := by kernel_rfl
theorem sh_collide_Collision_Right_calls {t0 : Value} {H : Heap} {R : Value → Heap → Prop} (h : sh_collide_Collision_Right t0 H R) : HCalls prg f_collide_Collision_Right [t0] H R :=
  calls_ofF Tryd.func20 sh_collide_Collision_Right_chk (by rw [sh_collide_Collision_Right_den]; exact h)

-- slices.EqualFunc[[]syngraph/history.Record,[]syngraph/history.Record,syngraph/history.Record,syngraph/history.Record]
def sh_slices_EqualFunc_S_history_Record_S_history_Record_history_R_94851 (t0 t1 t2 : Value) (H : Heap) (R : Value → Heap → Prop) : Prop :=
  Mpu (lenV t0) fun t11 =>
  Mpu (lenV t1) fun t13 =>
  Mpu (binV .no .neq t11 t13) fun t14 =>
  Mcd t14 (
    R (.bool false) H) (
    J1 (fun k1 =>
      Mpu (lenV t0) fun t16 =>
      L1 (fun k3 => fun t17_2 h4 =>
        Mpu (binV .no .lss t17_2 t16) fun t18 =>
        Mcd t18 (
          Mpu (ixS 36 t0 t17_2) fun t20 =>
          Mpu (ldN 36 h4 t20) fun t21 =>
          Mnew h4 T_history_Record (zcells prg T_history_Record) fun t8 h5 =>
          Mwr (stN 36 h5 t8 t21) fun h6 =>
          Mpu (ixS 36 t1 t17_2) fun t24 =>
          Mpu (ldN 36 h6 t24) fun t25 =>
          Mnew h6 T_history_Record (zcells prg T_history_Record) fun t9 h7 =>
          Mwr (stN 36 h7 t9 t25) fun h8 =>
          Mpu (ldN 36 h8 t8) fun t27 =>
          Mpu (ldN 36 h8 t9) fun t28 =>
          Mcallv prg t2 [t27, t28] h8 fun t29 h9 =>
          Mpu (unV .not t29) fun t30 =>
          Mcd t30 (
            R (.bool false) h9) (
            Mpu (binV .no .add t17_2 (.int .i64 1)) fun t31 =>
            k3 t31 h9)) (
          k1 t17_2 h4)) ((.int .i64 0)) H) fun t17_4 h2 =>
    R (.bool true) h2)
theorem sh_slices_EqualFunc_S_history_Record_S_history_Record_history_R_94851_chk : fchkF prg [17] Tryd.f21 3 = true := by kernel_rfl
theorem sh_slices_EqualFunc_S_history_Record_S_history_Record_history_R_94851_den (t0 t1 t2 : Value) (H : Heap) (R : Value → Heap → Prop) : fdenF prg [17] Tryd.f21 [t0, t1, t2] H R = sh_slices_EqualFunc_S_history_Record_S_history_Record_history_R_94851 t0 t1 t2 H R := by kernel_rfl
theorem sh_slices_EqualFunc_S_history_Record_S_history_Record_history_R_94851_calls {t0 t1 t2 : Value} {H : Heap} {R : Value → Heap → Prop} (h : sh_slices_EqualFunc_S_history_Record_S_history_Record_history_R_94851 t0 t1 t2 H R) : HCalls prg f_slices_EqualFunc_S_history_Record_S_history_Record_history_R_94851 [t0, t1, t2] H R :=
  calls_ofF Tryd.func21 sh_slices_EqualFunc_S_history_Record_S_history_Record_history_R_94851_chk (by rw [sh_slices_EqualFunc_S_history_Record_S_history_Record_history_R_94851_den]; exact h)

-- slices.Backward[[]syngraph/history.Record,syngraph/history.Record]$1
def sh_slices_Backward_S_history_Record_history_Record_1 (t0 t1 : Value) (H : Heap) (R : Value → Heap → Prop) : Prop :=
  Mpu (ld1 H t1) fun t4 =>
  Mpu (lenV t4) fun t5 =>
  Mpu (binV .no .sub t5 (.int .i64 1)) fun t6 =>
  L1 (fun k1 => fun t3_2 h2 =>
    Mpu (binV .no .geq t3_2 (.int .i64 0)) fun t8 =>
    Mcd t8 (
      Mpu (ld1 h2 t1) fun t13 =>
      Mpu (ixS 36 t13 t3_2) fun t15 =>
      Mpu (ldN 36 h2 t15) fun t16 =>
      Mcallv prg t0 [t3_2, t16] h2 fun t17 h3 =>
      Mpu (unV .not t17) fun t18 =>
      Mcd t18 (
        R (.tuple #[]) h3) (
        Mpu (binV .no .sub t3_2 (.int .i64 1)) fun t10 =>
        k1 t10 h3)) (
      R (.tuple #[]) h2)) (t6) H
theorem sh_slices_Backward_S_history_Record_history_Record_1_chk : fchkF prg [3] Tryd.f35 2 = true := by kernel_rfl
theorem sh_slices_Backward_S_history_Record_history_Record_1_den (t0 t1 : Value) (H : Heap) (R : Value → Heap → Prop) : fdenF prg [3] Tryd.f35 [t0, t1] H R = sh_slices_Backward_S_history_Record_history_Record_1 t0 t1 H R := by kernel_rfl
theorem sh_slices_Backward_S_history_Record_history_Record_1_calls {t0 t1 : Value} {H : Heap} {R : Value → Heap → Prop} (h : sh_slices_Backward_S_history_Record_history_Record_1 t0 t1 H R) : HCalls prg f_slices_Backward_S_history_Record_history_Record_1 [t0, t1] H R :=
  calls_ofF Tryd.func35 sh_slices_Backward_S_history_Record_history_Record_1_chk (by rw [sh_slices_Backward_S_history_Record_history_Record_1_den]; exact h)

-- (*syngraph/history.History).ahead
def sh_history_History_ahead (t0 t1 : Value) (H : Heap) (R : Value → Heap → Prop) : Prop :=
  Mnew H T_sha_Hash (zcells prg T_sha_Hash) fun t4 h1 =>
  Mpu (binV .no .eql t1 (.int .i64 0)) fun t6 =>
  Mcd t6 (
    Mpu (buildV prg T_sha_Hash []) fun t7 =>
    Mwr (stN 32 h1 t4 t7) fun h2 =>
    Mpu (ldN 32 h2 t4) fun r3 =>
    R r3 h2) (
    Mpu (nck t0) fun t9 =>
    Mpu (fld 1 t9) fun t10 =>
    Mpu (ld1 h1 t10) fun t11 =>
    Mpu (binV .no .sub t1 (.int .i64 1)) fun t13 =>
    Mpu (ixS 32 t11 t13) fun t14 =>
    Mpu (ldN 32 h1 t14) fun t15 =>
    Mwr (stN 32 h1 t4 t15) fun h4 =>
    Mpu (ldN 32 h4 t4) fun r5 =>
    R r5 h4)
theorem sh_history_History_ahead_chk : fchkF prg [] Tryd.f36 2 = true := by kernel_rfl
theorem sh_history_History_ahead_den (t0 t1 : Value) (H : Heap) (R : Value → Heap → Prop) : fdenF prg [] Tryd.f36 [t0, t1] H R = sh_history_History_ahead t0 t1 H R := by kernel_rfl
theorem sh_history_History_ahead_calls {t0 t1 : Value} {H : Heap} {R : Value → Heap → Prop} (h : sh_history_History_ahead t0 t1 H R) : HCalls prg f_history_History_ahead [t0, t1] H R :=
  calls_ofF Tryd.func36 sh_history_History_ahead_chk (by rw [sh_history_History_ahead_den]; exact h)

end Go.Proofs.YtconalffokhplaaDoor
/- PRINTED: clean texts -/
namespace Go.Proofs.YtconalffokhplaaDoor
open Go.X
set_option maxRecDepth 100000
-- syngraph/tag.Input
def sh_tag_Input (t0 t1 : Value) (H : Heap) (R : Value → Heap → Prop) : Prop :=
  Mpu (cvI .u8 t0) fun t6 =>
  Mnews H T_uint8 1 (bslV prg T_uint8 1 [(0, t6)]) fun t7 h1 =>
  Mcall prg f_slices_Concat_S_byte_byte [t1] h1 fun t9 h2 =>
  Mapp T_uint8 1 1 h2 t7 t9 fun t10 h3 =>
  R t10 h3
theorem sh_tag_Input_chk : fchkF prg [] Tryd.f37 2 = true := by kernel_rfl
theorem sh_tag_Input_den (t0 t1 : Value) (H : Heap) (R : Value → Heap → Prop) : fdenF prg [] Tryd.f37 [t0, t1] H R = sh_tag_Input t0 t1 H R := by kernel_rfl
theorem sh_tag_Input_calls {t0 t1 : Value} {H : Heap} {R : Value → Heap → Prop} (h : sh_tag_Input t0 t1 H R) : HCalls prg f_tag_Input [t0, t1] H R :=
  calls_ofF Tryd.func37 sh_tag_Input_chk (by rw [sh_tag_Input_den]; exact h)

-- slices.Concat[[]byte,byte]
def sh_slices_Concat_S_byte_byte (t0 : Value) (H : Heap) (R : Value → Heap → Prop) : Prop :=
  J2 (fun k1 =>
    Mpu (lenV t0) fun t10 =>
    L2 (fun k3 => fun t3_2 t11_2 h4 =>
      Mpu (binV .no .lss t11_2 t10) fun t12 =>
      Mcd t12 (
        J1 (fun k5 =>
          Mpu (ixS 1 t0 t11_2) fun t13 =>
          Mpu (ld1 h4 t13) fun t14 =>
          Mpu (lenV t14) fun t17 =>
          Mpu (binV .no .add t3_2 t17) fun t18 =>
          Mpu (binV .no .lss t18 (.int .i64 0)) fun t20 =>
          Mcd t20 (
            Mpu (mkI prg T_string (.string ⟨#[108, 101, 110, 32, 111, 117, 116, 32, 111, 102, 32, 114, 97, 110, 103, 101]⟩)) fun t21 =>
            False) (
            k5 t18 h4)) fun t3_4 h6 =>
        Mpu (binV .no .add t11_2 (.int .i64 1)) fun t22 =>
        k3 t3_4 t22 h6) (
        k1 t3_2 t11_2 h4)) ((.int .i64 0)) ((.int .i64 0)) H) fun t3_5 t11_4 h2 =>
  Mcall prg f_slices_Grow_S_byte_byte [(.slice none 0 0), t3_5] h2 fun t24 h7 =>
  J2 (fun k8 =>
    Mpu (lenV t0) fun t26 =>
    L2 (fun k10 => fun t6_2 t27_2 h11 =>
      Mpu (binV .no .lss t27_2 t26) fun t28 =>
      Mcd t28 (
        Mpu (ixS 1 t0 t27_2) fun t29 =>
        Mpu (ld1 h11 t29) fun t30 =>
        Mapp T_uint8 1 1 h11 t6_2 t30 fun t33 h12 =>
        Mpu (binV .no .add t27_2 (.int .i64 1)) fun t34 =>
        k10 t33 t34 h12) (
        k8 t6_2 t27_2 h11)) (t24) ((.int .i64 0)) h7) fun t6_4 t27_4 h9 =>
  R t6_4 h9
theorem sh_slices_Concat_S_byte_byte_chk : fchkF prg [3, 6, 11, 27] Tryd.f48 1 = true := by kernel_rfl
theorem sh_slices_Concat_S_byte_byte_den (t0 : Value) (H : Heap) (R : Value → Heap → Prop) : fdenF prg [3, 6, 11, 27] Tryd.f48 [t0] H R = sh_slices_Concat_S_byte_byte t0 H R := by kernel_rfl
theorem sh_slices_Concat_S_byte_byte_calls {t0 : Value} {H : Heap} {R : Value → Heap → Prop} (h : sh_slices_Concat_S_byte_byte t0 H R) : HCalls prg f_slices_Concat_S_byte_byte [t0] H R :=
  calls_ofF Tryd.func48 sh_slices_Concat_S_byte_byte_chk (by rw [sh_slices_Concat_S_byte_byte_den]; exact h)

-- slices.Grow[[]byte,byte]
def sh_slices_Grow_S_byte_byte (t0 t1 : Value) (H : Heap) (R : Value → Heap → Prop) : Prop :=
  J0 (fun k1 =>
    Mpu (binV .no .lss t1 (.int .i64 0)) fun t6 =>
    Mcd t6 (
      Mpu (mkI prg T_string (.string ⟨#[99, 97, 110, 110, 111, 116, 32, 98, 101, 32, 110, 101, 103, 97, 116, 105, 118, 101]⟩)) fun t7 =>
      False) (
      k1 H)) fun h2 =>
  J1 (fun k3 =>
    Mpu (capV t0) fun t10 =>
    Mpu (lenV t0) fun t12 =>
    Mpu (binV .no .sub t10 t12) fun t13 =>
    Mpu (binV .no .sub t1 t13) fun t14 =>
    Mpu (binV .no .gtr t14 (.int .i64 0)) fun t16 =>
    Mcd t16 (
      Mpu (capV t0) fun t19 =>
      Mpu (slS 1 t0 none (some t19) none) fun t20 =>
      Mapz T_uint8 1 1 h2 t20 t14 (zcells prg T_uint8) fun t22 h5 =>
      Mpu (lenV t0) fun t24 =>
      Mpu (slS 1 t22 none (some t24) none) fun t25 =>
      k3 t25 h5) (
      k3 t0 h2)) fun t0_3 h4 =>
  R t0_3 h4
theorem sh_slices_Grow_S_byte_byte_chk : fchkF prg [0] Tryd.f56 2 = true := by kernel_rfl
theorem sh_slices_Grow_S_byte_byte_den (t0 t1 : Value) (H : Heap) (R : Value → Heap → Prop) : fdenF prg [0] Tryd.f56 [t0, t1] H R = sh_slices_Grow_S_byte_byte t0 t1 H R := by kernel_rfl
theorem sh_slices_Grow_S_byte_byte_calls {t0 t1 : Value} {H : Heap} {R : Value → Heap → Prop} (h : sh_slices_Grow_S_byte_byte t0 t1 H R) : HCalls prg f_slices_Grow_S_byte_byte [t0, t1] H R :=
  calls_ofF Tryd.func56 sh_slices_Grow_S_byte_byte_chk (by rw [sh_slices_Grow_S_byte_byte_den]; exact h)

end Go.Proofs.YtconalffokhplaaDoor
/- ALL CLEAN TEXTS -/
