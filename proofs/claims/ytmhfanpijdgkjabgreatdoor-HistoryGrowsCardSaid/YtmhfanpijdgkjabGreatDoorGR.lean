/- JOINED: Sf0 Sf1 Sf2 Sf3 Sg0 Se0 -/
import Derived.Test.YtmhfanpijdgkjabGreatDoorGE
set_option linter.unusedSimpArgs false
set_option linter.unusedVariables false
/- PRINTED: clean texts -/
namespace Go.Proofs.YtmhfanpijdgkjabGreatDoor
open Go.X
set_option maxRecDepth 100000
-- syngraph/syngraphlaw22.recordBytes
def sh_syngraphlaw22_recordBytes (t0 : Value) (H : Heap) (R : Value → Heap → Prop) : Prop :=
  Mnew H T_history_Record (some (Value.cells t0)) fun t1 h1 =>
  Mpu (fld 1 t1) fun t9 =>
  Mpu (ld1 h1 t9) fun t10 =>
  Mcall prg f_syngraphlaw22_itemsBytes [t10] h1 fun t11 h2 =>
  Mpu (extV 0 t11) fun t12 =>
  Mpu (extV 1 t11) fun t13 =>
  Mpu (fld 2 t1) fun t15 =>
  Mpu (ld1 h2 t15) fun t16 =>
  Mcall prg f_syngraphlaw22_itemsBytes [t16] h2 fun t17 h3 =>
  Mpu (extV 0 t17) fun t18 =>
  Mpu (extV 1 t17) fun t19 =>
  Mpu (unV .not t13) fun t21 =>
  J1 (fun k4 => Mif t21 false (
      Mpu (unV .not t19) fun t24 =>
      k4 t24 h3) (
      k4 undef h3)) fun t24_2 h5 =>
  Mpu (pickV t21 (.bool true) t24_2) fun t25 =>
  J1 (fun k6 => Mif t25 false (
      Mpu (fld 0 t1) fun t27 =>
      Mpu (ld1 h5 t27) fun t28 =>
      Mpu (binV .no .lss t28 (.int .i64 1)) fun t29 =>
      k6 t29 h5) (
      k6 undef h5)) fun t29_2 h7 =>
  Mpu (pickV t25 (.bool true) t29_2) fun t30 =>
  J1 (fun k8 => Mif t30 false (
      Mpu (fld 0 t1) fun t32 =>
      Mpu (ld1 h7 t32) fun t33 =>
      Mpu (binV .no .gtr t33 (.int .i64 4)) fun t34 =>
      k8 t34 h7) (
      k8 undef h7)) fun t34_2 h9 =>
  Mpu (pickV t30 (.bool true) t34_2) fun t35 =>
  J1 (fun k10 => Mif t35 false (
      Mpu (fld 3 t1) fun t37 =>
      Mpu (fld 0 t37) fun t38 =>
      Mpu (ld1 h9 t38) fun t39 =>
      Mpu (binV .no .lss t39 (.int .i64 0)) fun t40 =>
      k10 t40 h9) (
      k10 undef h9)) fun t40_2 h11 =>
  Mpu (pickV t35 (.bool true) t40_2) fun t41 =>
  J1 (fun k12 => Mif t41 false (
      Mpu (fld 3 t1) fun t43 =>
      Mpu (fld 0 t43) fun t44 =>
      Mpu (ld1 h11 t44) fun t45 =>
      Mpu (binV .no .gtr t45 (.int .i64 1048576)) fun t46 =>
      k12 t46 h11) (
      k12 undef h11)) fun t46_2 h13 =>
  Mpu (pickV t41 (.bool true) t46_2) fun t47 =>
  Mcd t47 (
    R (.tuple #[(.slice none 0 0), (.bool false)]) h13) (
    Mpu (fld 0 t1) fun t48 =>
    Mpu (ld1 h13 t48) fun t49 =>
    Mpu (fld 1 t1) fun t51 =>
    Mpu (ld1 h13 t51) fun t52 =>
    Mpu (lenV t52) fun t53 =>
    Mpu (fld 2 t1) fun t55 =>
    Mpu (ld1 h13 t55) fun t56 =>
    Mpu (lenV t56) fun t57 =>
    Mpu (fld 3 t1) fun t58 =>
    Mpu (fld 0 t58) fun t59 =>
    Mpu (ld1 h13 t59) fun t60 =>
    Mpu (fld 3 t1) fun t61 =>
    Mpu (fld 1 t61) fun t62 =>
    Mpu (ldN 32 h13 t62) fun t63 =>
    Mcall prg f_syngraphref22_Record [t49, t12, t53, t18, t57, t60, t63] h13 fun t64 h14 =>
    R (.tuple #[t64, (.bool true)]) h14)
theorem sh_syngraphlaw22_recordBytes_chk : fchkF prg [24, 29, 34, 40, 46] Tryz.f7 1 = true := by kernel_rfl
theorem sh_syngraphlaw22_recordBytes_den (t0 : Value) (H : Heap) (R : Value → Heap → Prop) : fdenF prg [24, 29, 34, 40, 46] Tryz.f7 [t0] H R = sh_syngraphlaw22_recordBytes t0 H R := by kernel_rfl
theorem sh_syngraphlaw22_recordBytes_calls {t0 : Value} {H : Heap} {R : Value → Heap → Prop} (h : sh_syngraphlaw22_recordBytes t0 H R) : HCalls prg f_syngraphlaw22_recordBytes [t0] H R :=
  calls_ofF Tryz.func7 sh_syngraphlaw22_recordBytes_chk (by rw [sh_syngraphlaw22_recordBytes_den]; exact h)

-- (syngraph/history.Record).Equal
def sh_history_Record_Equal (t0 t1 : Value) (H : Heap) (R : Value → Heap → Prop) : Prop :=
  Mnew H T_history_Record (some (Value.cells t0)) fun t2 h1 =>
  Mnew h1 T_history_Record (some (Value.cells t1)) fun t3 h2 =>
  Mpu (fld 0 t2) fun t5 =>
  Mpu (ld1 h2 t5) fun t6 =>
  Mpu (fld 0 t3) fun t7 =>
  Mpu (ld1 h2 t7) fun t8 =>
  Mpu (binV .no .eql t6 t8) fun t9 =>
  J1 (fun k3 => Mif t9 true (
      Mpu (fld 1 t2) fun t11 =>
      Mpu (ld1 h2 t11) fun t12 =>
      Mpu (fld 1 t3) fun t13 =>
      Mpu (ld1 h2 t13) fun t14 =>
      Mcall prg f_slices_Equal_S_history_Item_history_Item [t12, t14] h2 fun t15 h4 =>
      k3 t15 h4) (
      k3 undef h2)) fun t15_2 h5 =>
  Mpu (pickV t9 t15_2 (.bool false)) fun t16 =>
  J1 (fun k6 => Mif t16 true (
      Mpu (fld 2 t2) fun t18 =>
      Mpu (ld1 h5 t18) fun t19 =>
      Mpu (fld 2 t3) fun t20 =>
      Mpu (ld1 h5 t20) fun t21 =>
      Mcall prg f_slices_Equal_S_history_Item_history_Item [t19, t21] h5 fun t22 h7 =>
      k6 t22 h7) (
      k6 undef h5)) fun t22_2 h8 =>
  Mpu (pickV t16 t22_2 (.bool false)) fun t23 =>
  J1 (fun k9 => Mif t23 true (
      Mpu (fld 3 t2) fun t25 =>
      Mpu (ldN 33 h8 t25) fun t26 =>
      Mpu (fld 3 t3) fun t27 =>
      Mpu (ldN 33 h8 t27) fun t28 =>
      Mpu (binV (eqK prg T_head_Head) .eql t26 t28) fun t29 =>
      k9 t29 h8) (
      k9 undef h8)) fun t29_2 h10 =>
  Mpu (pickV t23 t29_2 (.bool false)) fun t30 =>
  R t30 h10
theorem sh_history_Record_Equal_chk : fchkF prg [15, 22, 29] Tryz.f10 2 = true := by kernel_rfl
theorem sh_history_Record_Equal_den (t0 t1 : Value) (H : Heap) (R : Value → Heap → Prop) : fdenF prg [15, 22, 29] Tryz.f10 [t0, t1] H R = sh_history_Record_Equal t0 t1 H R := by kernel_rfl
theorem sh_history_Record_Equal_calls {t0 t1 : Value} {H : Heap} {R : Value → Heap → Prop} (h : sh_history_Record_Equal t0 t1 H R) : HCalls prg f_history_Record_Equal [t0, t1] H R :=
  calls_ofF Tryz.func10 sh_history_Record_Equal_chk (by rw [sh_history_Record_Equal_den]; exact h)

-- syngraph/history.ParseRecord
def sh_history_ParseRecord (t0 : Value) (H : Heap) (R : Value → Heap → Prop) : Prop :=
  Mnew H T_history_Record (zcells prg T_history_Record) fun t2 h1 =>
  Mcall prg f_wire_NewIn [t0] h1 fun t7 h2 =>
  Mcall prg f_wire_In_Int [t7] h2 fun t9 h3 =>
  Mpu (buildV prg T_history_Record [(0, t9)]) fun t10 =>
  Mnew h3 T_history_Record (zcells prg T_history_Record) fun t5 h4 =>
  Mwr (stN 36 h4 t5 t10) fun h5 =>
  Mcall prg f_history_get [t7] h5 fun t12 h6 =>
  Mpu (fld 1 t5) fun t13 =>
  Mwr (st1 h6 t13 t12) fun h7 =>
  Mcall prg f_history_get [t7] h7 fun t15 h8 =>
  Mpu (fld 2 t5) fun t16 =>
  Mwr (st1 h8 t16 t15) fun h9 =>
  Mcall prg f_wire_In_Int [t7] h9 fun t18 h10 =>
  Mpu (fld 3 t5) fun t19 =>
  Mpu (fld 0 t19) fun t20 =>
  Mwr (st1 h10 t20 t18) fun h11 =>
  Mcall prg f_wire_In_Hash [t7] h11 fun t22 h12 =>
  Mpu (fld 3 t5) fun t23 =>
  Mpu (fld 1 t23) fun t24 =>
  Mwr (stN 32 h12 t24 t22) fun h13 =>
  Mcall prg f_wire_In_Done [t7] h13 fun t26 h14 =>
  Mpu (unV .not t26) fun t27 =>
  J1 (fun k15 => Mif t27 false (
      Mpu (ldN 36 h14 t5) fun t29 =>
      Mcall prg f_history_Record_Right [t29] h14 fun t30 h16 =>
      Mpu (unV .not t30) fun t31 =>
      k15 t31 h16) (
      k15 undef h14)) fun t31_2 h17 =>
  Mpu (pickV t27 (.bool true) t31_2) fun t32 =>
  J1 (fun k18 => Mif t32 false (
      Mpu (ldN 36 h17 t5) fun t34 =>
      Mcall prg f_history_Record_Bytes [t34] h17 fun t35 h19 =>
      Mcall prg f_bytes_Equal [t35, t0] h19 fun t37 h20 =>
      Mpu (unV .not t37) fun t38 =>
      k18 t38 h20) (
      k18 undef h17)) fun t38_2 h21 =>
  Mpu (pickV t32 (.bool true) t38_2) fun t39 =>
  Mcd t39 (
    Mpu (buildV prg T_history_Record []) fun t40 =>
    Mwr (stN 36 h21 t2 t40) fun h22 =>
    Mpu (ldN 36 h22 t2) fun r23 =>
    R (.tuple #[r23, (.int .i64 10)]) h22) (
    Mpu (ldN 36 h21 t5) fun t41 =>
    Mwr (stN 36 h21 t2 t41) fun h24 =>
    Mpu (ldN 36 h24 t2) fun r25 =>
    R (.tuple #[r25, (.int .i64 0)]) h24)
theorem sh_history_ParseRecord_chk : fchkF prg [31, 38] Tryz.f6 1 = true := by kernel_rfl
theorem sh_history_ParseRecord_den (t0 : Value) (H : Heap) (R : Value → Heap → Prop) : fdenF prg [31, 38] Tryz.f6 [t0] H R = sh_history_ParseRecord t0 H R := by kernel_rfl
theorem sh_history_ParseRecord_calls {t0 : Value} {H : Heap} {R : Value → Heap → Prop} (h : sh_history_ParseRecord t0 H R) : HCalls prg f_history_ParseRecord [t0] H R :=
  calls_ofF Tryz.func6 sh_history_ParseRecord_chk (by rw [sh_history_ParseRecord_den]; exact h)

end Go.Proofs.YtmhfanpijdgkjabGreatDoor
/- PRINTED: clean texts -/
namespace Go.Proofs.YtmhfanpijdgkjabGreatDoor
open Go.X
set_option maxRecDepth 100000
-- syngraph/syngraphlaw22.itemsBytes
def sh_syngraphlaw22_itemsBytes (t0 : Value) (H : Heap) (R : Value → Heap → Prop) : Prop :=
  J2 (fun k1 =>
    Mpu (lenV t0) fun t8 =>
    L2 (fun k3 => fun t4_2 t9_2 h4 =>
      Mpu (binV .no .lss t9_2 t8) fun t10 =>
      Mcd t10 (
        Mpu (ixS 37 t0 t9_2) fun t12 =>
        Mpu (ldN 37 h4 t12) fun t13 =>
        Mnew h4 T_history_Item (zcells prg T_history_Item) fun t6 h5 =>
        Mwr (stN 37 h5 t6 t13) fun h6 =>
        Mpu (fld 0 t6) fun t14 =>
        Mpu (ld1 h6 t14) fun t15 =>
        Mcall prg f_syngraphref19_Name [t15] h6 fun t16 h7 =>
        Mpu (unV .not t16) fun t17 =>
        J1 (fun k8 => Mif t17 false (
            Mpu (fld 1 t6) fun t19 =>
            Mpu (ldN 4 h7 t19) fun t20 =>
            Mcall prg f_syngraphlaw22_refVersion [t20] h7 fun t21 h9 =>
            Mcall prg f_syngraphref18_Right [t21] h9 fun t22 h10 =>
            Mpu (unV .not t22) fun t23 =>
            k8 t23 h10) (
            k8 undef h7)) fun t23_2 h11 =>
        Mpu (pickV t17 (.bool true) t23_2) fun t24 =>
        J1 (fun k12 => Mif t24 false (
            Mpu (binV .no .gtr t9_2 (.int .i64 0)) fun t27 =>
            k12 t27 h11) (
            k12 undef h11)) fun t28_2 h13 =>
        J1 (fun k14 => Mif t28_2 true (
            Mpu (binV .no .sub t9_2 (.int .i64 1)) fun t31 =>
            Mpu (ixS 37 t0 t31) fun t32 =>
            Mpu (fld 0 t32) fun t33 =>
            Mpu (ld1 h13 t33) fun t34 =>
            Mpu (fld 0 t6) fun t35 =>
            Mpu (ld1 h13 t35) fun t36 =>
            Mpu (binV .no .geq t34 t36) fun t37 =>
            k14 t37 h13) (
            k14 undef h13)) fun t37_2 h15 =>
        J1 (fun k16 => Mif t24 false (
            Mpu (pickV t28_2 t37_2 (.bool false)) fun t38 =>
            k16 t38 h15) (
            k16 undef h15)) fun t38_2 h17 =>
        Mpu (pickV t24 (.bool true) t38_2) fun t39 =>
        Mcd t39 (
          R (.tuple #[(.slice none 0 0), (.bool false)]) h17) (
          Mpu (fld 0 t6) fun t41 =>
          Mpu (ld1 h17 t41) fun t42 =>
          Mpu (fld 1 t6) fun t43 =>
          Mpu (ldN 4 h17 t43) fun t44 =>
          Mpu (fld 5 t6) fun t47 =>
          Mpu (ldN 32 h17 t47) fun t48 =>
          Mcall prg f_syngraphlaw22_refVersion [t44] h17 fun t45 h18 =>
          Mre [(ldN 32 h18 t47, t48), (ld1 h18 t41, t42)] (
          Mcall prg f_syngraphref18_Show [t45] h18 fun t46 h19 =>
          Mre [(ldN 32 h19 t47, t48), (ld1 h19 t41, t42)] (
          Mcall prg f_syngraphref22_Item [t42, t46, t48] h19 fun t49 h20 =>
          Mapp T_uint8 1 1 h20 t4_2 t49 fun t50 h21 =>
          Mpu (binV .no .add t9_2 (.int .i64 1)) fun t51 =>
          k3 t50 t51 h21)))) (
        k1 t4_2 t9_2 h4)) ((.slice none 0 0)) ((.int .i64 0)) H) fun t4_4 t9_4 h2 =>
  R (.tuple #[t4_4, (.bool true)]) h2
theorem sh_syngraphlaw22_itemsBytes_chk : fchkF prg [4, 9, 23, 28, 37, 38] Tryz.f34 1 = true := by kernel_rfl
theorem sh_syngraphlaw22_itemsBytes_den (t0 : Value) (H : Heap) (R : Value → Heap → Prop) : fdenF prg [4, 9, 23, 28, 37, 38] Tryz.f34 [t0] H R = sh_syngraphlaw22_itemsBytes t0 H R := by kernel_rfl
theorem sh_syngraphlaw22_itemsBytes_calls {t0 : Value} {H : Heap} {R : Value → Heap → Prop} (h : sh_syngraphlaw22_itemsBytes t0 H R) : HCalls prg f_syngraphlaw22_itemsBytes [t0] H R :=
  calls_ofF Tryz.func34 sh_syngraphlaw22_itemsBytes_chk (by rw [sh_syngraphlaw22_itemsBytes_den]; exact h)

-- syngraph/syngraphref22.Record
def sh_syngraphref22_Record (t0 t1 t2 t3 t4 t5 t6 : Value) (H : Heap) (R : Value → Heap → Prop) : Prop :=
  Mnew H T_A32_uint8 (some (Value.cells t6)) fun t13 h1 =>
  Mpu (slA 32 1 t13 none none none) fun t25 =>
  Mcall prg f_syngraphref03_Int [t0] h1 fun t16 h2 =>
  Mcall prg f_syngraphref03_Int [t2] h2 fun t18 h3 =>
  Mcall prg f_syngraphref03_Int [t4] h3 fun t21 h4 =>
  Mcall prg f_syngraphref03_Int [t5] h4 fun t24 h5 =>
  Mnews h5 T_S_uint8 7 (bslV prg T_S_uint8 7 [(0, t16), (1, t18), (2, t1), (3, t21), (4, t3), (5, t24), (6, t25)]) fun t26 h6 =>
  Mcall prg f_syngraphref03_Join [t26] h6 fun t27 h7 =>
  R t27 h7
theorem sh_syngraphref22_Record_chk : fchkF prg [] Tryz.f35 7 = true := by kernel_rfl
theorem sh_syngraphref22_Record_den (t0 t1 t2 t3 t4 t5 t6 : Value) (H : Heap) (R : Value → Heap → Prop) : fdenF prg [] Tryz.f35 [t0, t1, t2, t3, t4, t5, t6] H R = sh_syngraphref22_Record t0 t1 t2 t3 t4 t5 t6 H R := by kernel_rfl
theorem sh_syngraphref22_Record_calls {t0 t1 t2 t3 t4 t5 t6 : Value} {H : Heap} {R : Value → Heap → Prop} (h : sh_syngraphref22_Record t0 t1 t2 t3 t4 t5 t6 H R) : HCalls prg f_syngraphref22_Record [t0, t1, t2, t3, t4, t5, t6] H R :=
  calls_ofF Tryz.func35 sh_syngraphref22_Record_chk (by rw [sh_syngraphref22_Record_den]; exact h)

-- syngraph/wire.NewIn
def sh_wire_NewIn (t0 : Value) (H : Heap) (R : Value → Heap → Prop) : Prop :=
  Mcall prg f_bytes_Clone [t0] H fun t4 h1 =>
  Mpu (buildV prg T_wire_In [(0, t4)]) fun t5 =>
  Mnew h1 T_wire_In (some (Value.cells t5)) fun t6 h2 =>
  R t6 h2
theorem sh_wire_NewIn_chk : fchkF prg [] Tryz.f27 1 = true := by kernel_rfl
theorem sh_wire_NewIn_den (t0 : Value) (H : Heap) (R : Value → Heap → Prop) : fdenF prg [] Tryz.f27 [t0] H R = sh_wire_NewIn t0 H R := by kernel_rfl
theorem sh_wire_NewIn_calls {t0 : Value} {H : Heap} {R : Value → Heap → Prop} (h : sh_wire_NewIn t0 H R) : HCalls prg f_wire_NewIn [t0] H R :=
  calls_ofF Tryz.func27 sh_wire_NewIn_chk (by rw [sh_wire_NewIn_den]; exact h)

-- (*syngraph/wire.In).Int
def sh_wire_In_Int (t0 : Value) (H : Heap) (R : Value → Heap → Prop) : Prop :=
  Mcall prg f_wire_In_take [t0, (.int .i64 8)] H fun t5 h1 =>
  Mpu (nck t0) fun t7 =>
  Mpu (fld 1 t7) fun t8 =>
  Mpu (ld1 h1 t8) fun t9 =>
  Mcd t9 (
    R (.int .i64 0) h1) (
    Mcall prg f_wire_number [t5] h1 fun t11 h2 =>
    R t11 h2)
theorem sh_wire_In_Int_chk : fchkF prg [] Tryz.f28 1 = true := by kernel_rfl
theorem sh_wire_In_Int_den (t0 : Value) (H : Heap) (R : Value → Heap → Prop) : fdenF prg [] Tryz.f28 [t0] H R = sh_wire_In_Int t0 H R := by kernel_rfl
theorem sh_wire_In_Int_calls {t0 : Value} {H : Heap} {R : Value → Heap → Prop} (h : sh_wire_In_Int t0 H R) : HCalls prg f_wire_In_Int [t0] H R :=
  calls_ofF Tryz.func28 sh_wire_In_Int_chk (by rw [sh_wire_In_Int_den]; exact h)

-- syngraph/history.get
def sh_history_get (t0 : Value) (H : Heap) (R : Value → Heap → Prop) : Prop :=
  J2 (fun k1 =>
    Mcall prg f_wire_In_Count [t0, (.int .i64 0), (.int .i64 256)] H fun t6 h3 =>
    L2 (fun k4 => fun t3_2 t7_2 h5 =>
      Mpu (binV .no .lss t7_2 t6) fun t8 =>
      Mcd t8 (
        Mcall prg f_wire_In_Text [t0, (.int .i64 64)] h5 fun t10 h6 =>
        Mpu (buildV prg T_history_Item [(0, t10)]) fun t11 =>
        Mnew h6 T_history_Item (zcells prg T_history_Item) fun t4 h7 =>
        Mwr (stN 37 h7 t4 t11) fun h8 =>
        Mcall prg f_wire_In_Text [t0, (.int .i64 64)] h8 fun t14 h9 =>
        Mcall prg f_version_Parse [t14] h9 fun t15 h10 =>
        Mpu (extV 0 t15) fun t16 =>
        Mpu (extV 1 t15) fun t17 =>
        Mpu (fld 1 t4) fun t18 =>
        Mwr (stN 4 h10 t18 t16) fun h11 =>
        Mcall prg f_wire_In_Hash [t0] h11 fun t20 h12 =>
        Mpu (fld 5 t4) fun t21 =>
        Mwr (stN 32 h12 t21 t20) fun h13 =>
        Mpu (ldN 37 h13 t4) fun t23 =>
        Mnews h13 T_history_Item 1 (bslV prg T_history_Item 1 [(0, t23)]) fun t24 h14 =>
        Mapp T_history_Item 37 88 h14 t3_2 t24 fun t25 h15 =>
        Mpu (binV .no .add t7_2 (.int .i64 1)) fun t26 =>
        k4 t25 t26 h15) (
        k1 t3_2 t7_2 h5)) ((.slice none 0 0)) ((.int .i64 0)) h3) fun t3_4 t7_4 h2 =>
  R t3_4 h2
theorem sh_history_get_chk : fchkF prg [3, 7] Tryz.f29 1 = true := by kernel_rfl
theorem sh_history_get_den (t0 : Value) (H : Heap) (R : Value → Heap → Prop) : fdenF prg [3, 7] Tryz.f29 [t0] H R = sh_history_get t0 H R := by kernel_rfl
theorem sh_history_get_calls {t0 : Value} {H : Heap} {R : Value → Heap → Prop} (h : sh_history_get t0 H R) : HCalls prg f_history_get [t0] H R :=
  calls_ofF Tryz.func29 sh_history_get_chk (by rw [sh_history_get_den]; exact h)

-- (*syngraph/wire.In).Hash
def sh_wire_In_Hash (t0 : Value) (H : Heap) (R : Value → Heap → Prop) : Prop :=
  Mnew H T_sha_Hash (zcells prg T_sha_Hash) fun t2 h1 =>
  Mnew h1 T_sha_Hash (zcells prg T_sha_Hash) fun t3 h2 =>
  Mpu (slA 32 1 t3 none none none) fun t4 =>
  Mcall prg f_wire_In_take [t0, (.int .i64 32)] h2 fun t6 h3 =>
  Mcopy 1 h3 t4 t6 fun t7 h4 =>
  Mpu (ldN 32 h4 t3) fun t8 =>
  Mwr (stN 32 h4 t2 t8) fun h5 =>
  Mpu (ldN 32 h5 t2) fun r6 =>
  R r6 h5
theorem sh_wire_In_Hash_chk : fchkF prg [] Tryz.f30 1 = true := by kernel_rfl
theorem sh_wire_In_Hash_den (t0 : Value) (H : Heap) (R : Value → Heap → Prop) : fdenF prg [] Tryz.f30 [t0] H R = sh_wire_In_Hash t0 H R := by kernel_rfl
theorem sh_wire_In_Hash_calls {t0 : Value} {H : Heap} {R : Value → Heap → Prop} (h : sh_wire_In_Hash t0 H R) : HCalls prg f_wire_In_Hash [t0] H R :=
  calls_ofF Tryz.func30 sh_wire_In_Hash_chk (by rw [sh_wire_In_Hash_den]; exact h)

-- (*syngraph/wire.In).Done
def sh_wire_In_Done (t0 : Value) (H : Heap) (R : Value → Heap → Prop) : Prop :=
  Mpu (nck t0) fun t4 =>
  Mpu (fld 1 t4) fun t5 =>
  Mpu (ld1 H t5) fun t6 =>
  Mpu (unV .not t6) fun t7 =>
  J1 (fun k1 => Mif t7 true (
      Mpu (nck t0) fun t10 =>
      Mpu (fld 0 t10) fun t11 =>
      Mpu (ld1 H t11) fun t12 =>
      Mpu (lenV t12) fun t13 =>
      Mpu (binV .no .eql t13 (.int .i64 0)) fun t14 =>
      k1 t14 H) (
      k1 undef H)) fun t14_2 h2 =>
  Mpu (pickV t7 t14_2 (.bool false)) fun t15 =>
  R t15 h2
theorem sh_wire_In_Done_chk : fchkF prg [14] Tryz.f31 1 = true := by kernel_rfl
theorem sh_wire_In_Done_den (t0 : Value) (H : Heap) (R : Value → Heap → Prop) : fdenF prg [14] Tryz.f31 [t0] H R = sh_wire_In_Done t0 H R := by kernel_rfl
theorem sh_wire_In_Done_calls {t0 : Value} {H : Heap} {R : Value → Heap → Prop} (h : sh_wire_In_Done t0 H R) : HCalls prg f_wire_In_Done [t0] H R :=
  calls_ofF Tryz.func31 sh_wire_In_Done_chk (by rw [sh_wire_In_Done_den]; exact h)

-- bytes.Equal
def sh_bytes_Equal (t0 t1 : Value) (H : Heap) (R : Value → Heap → Prop) : Prop :=
  Mpu (b2s H t0) fun t6 =>
  Mpu (b2s H t1) fun t8 =>
  Mpu (binV .no .eql t6 t8) fun t9 =>
  R t9 H
theorem sh_bytes_Equal_chk : fchkF prg [] Tryz.f33 2 = true := by kernel_rfl
theorem sh_bytes_Equal_den (t0 t1 : Value) (H : Heap) (R : Value → Heap → Prop) : fdenF prg [] Tryz.f33 [t0, t1] H R = sh_bytes_Equal t0 t1 H R := by kernel_rfl
theorem sh_bytes_Equal_calls {t0 t1 : Value} {H : Heap} {R : Value → Heap → Prop} (h : sh_bytes_Equal t0 t1 H R) : HCalls prg f_bytes_Equal [t0, t1] H R :=
  calls_ofF Tryz.func33 sh_bytes_Equal_chk (by rw [sh_bytes_Equal_den]; exact h)

-- syngraph/syngraphref19.Name
def sh_syngraphref19_Name (t0 : Value) (H : Heap) (R : Value → Heap → Prop) : Prop :=
  Mpu (lenT t0) fun t6 =>
  Mpu (binV .no .lss t6 (.int .i64 1)) fun t7 =>
  J1 (fun k1 => Mif t7 false (
      Mpu (lenT t0) fun t10 =>
      Mpu (binV .no .gtr t10 (.int .i64 32)) fun t11 =>
      k1 t11 H) (
      k1 undef H)) fun t11_2 h2 =>
  Mpu (pickV t7 (.bool true) t11_2) fun t12 =>
  J1 (fun k3 => Mif t12 false (
      Mpu (ixT t0 (.int .i64 0)) fun t15 =>
      Mpu (binV .no .lss t15 (.int .u8 97)) fun t16 =>
      k3 t16 h2) (
      k3 undef h2)) fun t16_2 h4 =>
  Mpu (pickV t12 (.bool true) t16_2) fun t17 =>
  J1 (fun k5 => Mif t17 false (
      Mpu (ixT t0 (.int .i64 0)) fun t20 =>
      Mpu (binV .no .gtr t20 (.int .u8 122)) fun t21 =>
      k5 t21 h4) (
      k5 undef h4)) fun t21_2 h6 =>
  Mpu (pickV t17 (.bool true) t21_2) fun t22 =>
  Mcd t22 (
    R (.bool false) h6) (
    J1 (fun k7 =>
      L1 (fun k9 => fun t3_2 h10 =>
        Mpu (lenT t0) fun t25 =>
        Mpu (binV .no .lss t3_2 t25) fun t26 =>
        Mcd t26 (
          Mpu (ixT t0 t3_2) fun t31 =>
          Mpu (binV .no .geq t31 (.int .u8 97)) fun t33 =>
          J1 (fun k11 => Mif t33 true (
              Mpu (binV .no .leq t31 (.int .u8 122)) fun t36 =>
              k11 t36 h10) (
              k11 undef h10)) fun t36_2 h12 =>
          Mpu (pickV t33 t36_2 (.bool false)) fun t37 =>
          J1 (fun k13 => Mif t37 false (
              Mpu (binV .no .geq t31 (.int .u8 48)) fun t40 =>
              k13 t40 h12) (
              k13 undef h12)) fun t41_2 h14 =>
          J1 (fun k15 => Mif t41_2 true (
              Mpu (binV .no .leq t31 (.int .u8 57)) fun t43 =>
              k15 t43 h14) (
              k15 undef h14)) fun t43_2 h16 =>
          J1 (fun k17 => Mif t37 false (
              Mpu (pickV t41_2 t43_2 (.bool false)) fun t44 =>
              k17 t44 h16) (
              k17 undef h16)) fun t44_2 h18 =>
          Mpu (pickV t37 (.bool true) t44_2) fun t45 =>
          J1 (fun k19 => Mif t45 false (
              Mpu (binV .no .eql t31 (.int .u8 45)) fun t48 =>
              k19 t48 h18) (
              k19 undef h18)) fun t48_2 h20 =>
          Mpu (pickV t45 (.bool true) t48_2) fun t49 =>
          Mpu (unV .not t49) fun t50 =>
          Mcd t50 (
            R (.bool false) h20) (
            Mpu (binV .no .add t3_2 (.int .i64 1)) fun t28 =>
            k9 t28 h20)) (
          k7 t3_2 h10)) ((.int .i64 0)) h6) fun t3_4 h8 =>
    R (.bool true) h8)
theorem sh_syngraphref19_Name_chk : fchkF prg [3, 11, 16, 21, 36, 41, 43, 44, 48] Tryz.f57 1 = true := by kernel_rfl
theorem sh_syngraphref19_Name_den (t0 : Value) (H : Heap) (R : Value → Heap → Prop) : fdenF prg [3, 11, 16, 21, 36, 41, 43, 44, 48] Tryz.f57 [t0] H R = sh_syngraphref19_Name t0 H R := by kernel_rfl
theorem sh_syngraphref19_Name_calls {t0 : Value} {H : Heap} {R : Value → Heap → Prop} (h : sh_syngraphref19_Name t0 H R) : HCalls prg f_syngraphref19_Name [t0] H R :=
  calls_ofF Tryz.func57 sh_syngraphref19_Name_chk (by rw [sh_syngraphref19_Name_den]; exact h)

end Go.Proofs.YtmhfanpijdgkjabGreatDoor
/- PRINTED: clean texts -/
namespace Go.Proofs.YtmhfanpijdgkjabGreatDoor
open Go.X
set_option maxRecDepth 100000
-- syngraph/syngraphlaw22.refVersion
def sh_syngraphlaw22_refVersion (t0 : Value) (H : Heap) (R : Value → Heap → Prop) : Prop :=
  Mnew H T_version_Version (some (Value.cells t0)) fun t1 h1 =>
  Mnew h1 T_syngraphref18_Version (zcells prg T_syngraphref18_Version) fun t2 h2 =>
  Mpu (fld 0 t1) fun t3 =>
  Mpu (ldN 3 h2 t3) fun t4 =>
  Mpu (fld 3 t1) fun t5 =>
  Mpu (ld1 h2 t5) fun t6 =>
  Mpu (buildV prg T_syngraphref18_Version [(0, t4), (1, t6)]) fun t7 =>
  Mwr (stN 4 h2 t2 t7) fun h3 =>
  Mpu (ldN 4 h3 t2) fun r4 =>
  R r4 h3
theorem sh_syngraphlaw22_refVersion_chk : fchkF prg [] Tryz.f59 1 = true := by kernel_rfl
theorem sh_syngraphlaw22_refVersion_den (t0 : Value) (H : Heap) (R : Value → Heap → Prop) : fdenF prg [] Tryz.f59 [t0] H R = sh_syngraphlaw22_refVersion t0 H R := by kernel_rfl
theorem sh_syngraphlaw22_refVersion_calls {t0 : Value} {H : Heap} {R : Value → Heap → Prop} (h : sh_syngraphlaw22_refVersion t0 H R) : HCalls prg f_syngraphlaw22_refVersion [t0] H R :=
  calls_ofF Tryz.func59 sh_syngraphlaw22_refVersion_chk (by rw [sh_syngraphlaw22_refVersion_den]; exact h)

-- syngraph/syngraphref22.Item
def sh_syngraphref22_Item (t0 t1 t2 : Value) (H : Heap) (R : Value → Heap → Prop) : Prop :=
  Mnew H T_A32_uint8 (some (Value.cells t2)) fun t5 h1 =>
  Mpu (slA 32 1 t5 none none none) fun t11 =>
  Mcall prg f_syngraphref03_Text [t0] h1 fun t8 h2 =>
  Mcall prg f_syngraphref03_Text [t1] h2 fun t10 h3 =>
  Mnews h3 T_S_uint8 3 (bslV prg T_S_uint8 3 [(0, t8), (1, t10), (2, t11)]) fun t12 h4 =>
  Mcall prg f_syngraphref03_Join [t12] h4 fun t13 h5 =>
  R t13 h5
theorem sh_syngraphref22_Item_chk : fchkF prg [] Tryz.f60 3 = true := by kernel_rfl
theorem sh_syngraphref22_Item_den (t0 t1 t2 : Value) (H : Heap) (R : Value → Heap → Prop) : fdenF prg [] Tryz.f60 [t0, t1, t2] H R = sh_syngraphref22_Item t0 t1 t2 H R := by kernel_rfl
theorem sh_syngraphref22_Item_calls {t0 t1 t2 : Value} {H : Heap} {R : Value → Heap → Prop} (h : sh_syngraphref22_Item t0 t1 t2 H R) : HCalls prg f_syngraphref22_Item [t0, t1, t2] H R :=
  calls_ofF Tryz.func60 sh_syngraphref22_Item_chk (by rw [sh_syngraphref22_Item_den]; exact h)

-- syngraph/syngraphref03.Join
def sh_syngraphref03_Join (t0 : Value) (H : Heap) (R : Value → Heap → Prop) : Prop :=
  J2 (fun k1 =>
    L2 (fun k3 => fun t3_2 t4_2 h4 =>
      Mpu (lenV t0) fun t7 =>
      Mpu (binV .no .lss t4_2 t7) fun t8 =>
      Mcd t8 (
        Mpu (ixS 1 t0 t4_2) fun t14 =>
        Mpu (ld1 h4 t14) fun t15 =>
        Mapp T_uint8 1 1 h4 t3_2 t15 fun t16 h5 =>
        Mpu (binV .no .add t4_2 (.int .i64 1)) fun t10 =>
        k3 t16 t10 h5) (
        k1 t3_2 t4_2 h4)) ((.slice none 0 0)) ((.int .i64 0)) H) fun t3_4 t4_4 h2 =>
  R t3_4 h2
theorem sh_syngraphref03_Join_chk : fchkF prg [3, 4] Tryz.f22 1 = true := by kernel_rfl
theorem sh_syngraphref03_Join_den (t0 : Value) (H : Heap) (R : Value → Heap → Prop) : fdenF prg [3, 4] Tryz.f22 [t0] H R = sh_syngraphref03_Join t0 H R := by kernel_rfl
theorem sh_syngraphref03_Join_calls {t0 : Value} {H : Heap} {R : Value → Heap → Prop} (h : sh_syngraphref03_Join t0 H R) : HCalls prg f_syngraphref03_Join [t0] H R :=
  calls_ofF Tryz.func22 sh_syngraphref03_Join_chk (by rw [sh_syngraphref03_Join_den]; exact h)

-- syngraph/syngraphref03.Int
def sh_syngraphref03_Int (t0 : Value) (H : Heap) (R : Value → Heap → Prop) : Prop :=
  Mcall prg f_syngraphref02_Number [t0, (.int .i64 8)] H fun t4 h1 =>
  R t4 h1
theorem sh_syngraphref03_Int_chk : fchkF prg [] Tryz.f23 1 = true := by kernel_rfl
theorem sh_syngraphref03_Int_den (t0 : Value) (H : Heap) (R : Value → Heap → Prop) : fdenF prg [] Tryz.f23 [t0] H R = sh_syngraphref03_Int t0 H R := by kernel_rfl
theorem sh_syngraphref03_Int_calls {t0 : Value} {H : Heap} {R : Value → Heap → Prop} (h : sh_syngraphref03_Int t0 H R) : HCalls prg f_syngraphref03_Int [t0] H R :=
  calls_ofF Tryz.func23 sh_syngraphref03_Int_chk (by rw [sh_syngraphref03_Int_den]; exact h)

-- (*syngraph/wire.In).take
def sh_wire_In_take (t0 t1 : Value) (H : Heap) (R : Value → Heap → Prop) : Prop :=
  Mpu (nck t0) fun t7 =>
  Mpu (fld 1 t7) fun t8 =>
  Mpu (ld1 H t8) fun t9 =>
  J1 (fun k1 => Mif t9 false (
      Mpu (nck t0) fun t13 =>
      Mpu (fld 0 t13) fun t14 =>
      Mpu (ld1 H t14) fun t15 =>
      Mpu (lenV t15) fun t16 =>
      Mpu (binV .no .gtr t1 t16) fun t17 =>
      k1 t17 H) (
      k1 undef H)) fun t17_2 h2 =>
  Mpu (pickV t9 (.bool true) t17_2) fun t18 =>
  Mcd t18 (
    Mpu (nck t0) fun t20 =>
    Mpu (fld 1 t20) fun t21 =>
    Mwr (st1 h2 t21 (.bool true)) fun h3 =>
    R (.slice none 0 0) h3) (
    Mpu (nck t0) fun t23 =>
    Mpu (fld 0 t23) fun t24 =>
    Mpu (ld1 h2 t24) fun t25 =>
    Mpu (slS 1 t25 none (some t1) (some t1)) fun t28 =>
    Mpu (nck t0) fun t31 =>
    Mpu (fld 0 t31) fun t32 =>
    Mpu (ld1 h2 t32) fun t33 =>
    Mpu (slS 1 t33 (some t1) none none) fun t35 =>
    Mpu (nck t0) fun t36 =>
    Mpu (fld 0 t36) fun t37 =>
    Mwr (st1 h2 t37 t35) fun h4 =>
    R t28 h4)
theorem sh_wire_In_take_chk : fchkF prg [17] Tryz.f51 2 = true := by kernel_rfl
theorem sh_wire_In_take_den (t0 t1 : Value) (H : Heap) (R : Value → Heap → Prop) : fdenF prg [17] Tryz.f51 [t0, t1] H R = sh_wire_In_take t0 t1 H R := by kernel_rfl
theorem sh_wire_In_take_calls {t0 t1 : Value} {H : Heap} {R : Value → Heap → Prop} (h : sh_wire_In_take t0 t1 H R) : HCalls prg f_wire_In_take [t0, t1] H R :=
  calls_ofF Tryz.func51 sh_wire_In_take_chk (by rw [sh_wire_In_take_den]; exact h)

-- syngraph/wire.number
def sh_wire_number (t0 : Value) (H : Heap) (R : Value → Heap → Prop) : Prop :=
  J2 (fun k1 =>
    Mpu (lenV t0) fun t7 =>
    L2 (fun k3 => fun t3_2 t8_2 h4 =>
      Mpu (binV .no .lss t8_2 t7) fun t9 =>
      Mcd t9 (
        Mpu (ixS 1 t0 t8_2) fun t10 =>
        Mpu (ld1 h4 t10) fun t11 =>
        Mpu (binV .no .shl t3_2 (.int .u64 8)) fun t13 =>
        Mpu (cvI .u64 t11) fun t15 =>
        Mpu (binV .no .or t13 t15) fun t16 =>
        Mpu (binV .no .add t8_2 (.int .i64 1)) fun t17 =>
        k3 t16 t17 h4) (
        k1 t3_2 t8_2 h4)) ((.int .u64 0)) ((.int .i64 0)) H) fun t3_4 t8_4 h2 =>
  Mpu (cvI .i64 t3_4) fun t19 =>
  R t19 h2
theorem sh_wire_number_chk : fchkF prg [3, 8] Tryz.f52 1 = true := by kernel_rfl
theorem sh_wire_number_den (t0 : Value) (H : Heap) (R : Value → Heap → Prop) : fdenF prg [3, 8] Tryz.f52 [t0] H R = sh_wire_number t0 H R := by kernel_rfl
theorem sh_wire_number_calls {t0 : Value} {H : Heap} {R : Value → Heap → Prop} (h : sh_wire_number t0 H R) : HCalls prg f_wire_number [t0] H R :=
  calls_ofF Tryz.func52 sh_wire_number_chk (by rw [sh_wire_number_den]; exact h)

-- (*syngraph/wire.In).Count
def sh_wire_In_Count (t0 t1 t2 : Value) (H : Heap) (R : Value → Heap → Prop) : Prop :=
  Mcall prg f_wire_In_Int [t0] H fun t9 h1 =>
  Mpu (nck t0) fun t11 =>
  Mpu (fld 1 t11) fun t12 =>
  Mpu (ld1 h1 t12) fun t13 =>
  J1 (fun k2 => Mif t13 false (
      Mpu (binV .no .lss t9 t1) fun t17 =>
      k2 t17 h1) (
      k2 undef h1)) fun t17_2 h3 =>
  Mpu (pickV t13 (.bool true) t17_2) fun t18 =>
  J1 (fun k4 => Mif t18 false (
      Mpu (binV .no .gtr t9 t2) fun t22 =>
      k4 t22 h3) (
      k4 undef h3)) fun t22_2 h5 =>
  Mpu (pickV t18 (.bool true) t22_2) fun t23 =>
  Mcd t23 (
    Mpu (nck t0) fun t25 =>
    Mpu (fld 1 t25) fun t26 =>
    Mwr (st1 h5 t26 (.bool true)) fun h6 =>
    R (.int .i64 0) h6) (
    R t9 h5)
theorem sh_wire_In_Count_chk : fchkF prg [17, 22] Tryz.f36 3 = true := by kernel_rfl
theorem sh_wire_In_Count_den (t0 t1 t2 : Value) (H : Heap) (R : Value → Heap → Prop) : fdenF prg [17, 22] Tryz.f36 [t0, t1, t2] H R = sh_wire_In_Count t0 t1 t2 H R := by kernel_rfl
theorem sh_wire_In_Count_calls {t0 t1 t2 : Value} {H : Heap} {R : Value → Heap → Prop} (h : sh_wire_In_Count t0 t1 t2 H R) : HCalls prg f_wire_In_Count [t0, t1, t2] H R :=
  calls_ofF Tryz.func36 sh_wire_In_Count_chk (by rw [sh_wire_In_Count_den]; exact h)

-- (*syngraph/wire.In).Text
def sh_wire_In_Text (t0 t1 : Value) (H : Heap) (R : Value → Heap → Prop) : Prop :=
  Mcall prg f_wire_In_Bytes [t0, t1] H fun t7 h1 =>
  Mpu (b2s h1 t7) fun t8 =>
  R t8 h1
theorem sh_wire_In_Text_chk : fchkF prg [] Tryz.f53 2 = true := by kernel_rfl
theorem sh_wire_In_Text_den (t0 t1 : Value) (H : Heap) (R : Value → Heap → Prop) : fdenF prg [] Tryz.f53 [t0, t1] H R = sh_wire_In_Text t0 t1 H R := by kernel_rfl
theorem sh_wire_In_Text_calls {t0 t1 : Value} {H : Heap} {R : Value → Heap → Prop} (h : sh_wire_In_Text t0 t1 H R) : HCalls prg f_wire_In_Text [t0, t1] H R :=
  calls_ofF Tryz.func53 sh_wire_In_Text_chk (by rw [sh_wire_In_Text_den]; exact h)

-- syngraph/syngraphref03.Text
def sh_syngraphref03_Text (t0 : Value) (H : Heap) (R : Value → Heap → Prop) : Prop :=
  Ms2b T_uint8 H t0 fun t4 h1 =>
  Mcall prg f_syngraphref03_Bytes [t4] h1 fun t5 h2 =>
  R t5 h2
theorem sh_syngraphref03_Text_chk : fchkF prg [] Tryz.f76 1 = true := by kernel_rfl
theorem sh_syngraphref03_Text_den (t0 : Value) (H : Heap) (R : Value → Heap → Prop) : fdenF prg [] Tryz.f76 [t0] H R = sh_syngraphref03_Text t0 H R := by kernel_rfl
theorem sh_syngraphref03_Text_calls {t0 : Value} {H : Heap} {R : Value → Heap → Prop} (h : sh_syngraphref03_Text t0 H R) : HCalls prg f_syngraphref03_Text [t0] H R :=
  calls_ofF Tryz.func76 sh_syngraphref03_Text_chk (by rw [sh_syngraphref03_Text_den]; exact h)

-- syngraph/syngraphref02.Number
def sh_syngraphref02_Number (t0 t1 : Value) (H : Heap) (R : Value → Heap → Prop) : Prop :=
  Mmks prg H T_uint8 t1 t1 fun t8 h1 =>
  J2 (fun k2 =>
    Mpu (binV .no .sub t1 (.int .i64 1)) fun t10 =>
    L2 (fun k4 => fun t0_2 t6_2 h5 =>
      Mpu (binV .no .geq t6_2 (.int .i64 0)) fun t12 =>
      Mcd t12 (
        Mpu (cvI .u8 t0_2) fun t18 =>
        Mpu (ixS 1 t8 t6_2) fun t19 =>
        Mwr (st1 h5 t19 t18) fun h6 =>
        Mpu (binV .no .shr t0_2 (.int .u64 8)) fun t21 =>
        Mpu (binV .no .sub t6_2 (.int .i64 1)) fun t14 =>
        k4 t21 t14 h6) (
        k2 t0_2 t6_2 h5)) (t0) (t10) h1) fun t0_4 t6_4 h3 =>
  R t8 h3
theorem sh_syngraphref02_Number_chk : fchkF prg [0, 6] Tryz.f46 2 = true := by kernel_rfl
theorem sh_syngraphref02_Number_den (t0 t1 : Value) (H : Heap) (R : Value → Heap → Prop) : fdenF prg [0, 6] Tryz.f46 [t0, t1] H R = sh_syngraphref02_Number t0 t1 H R := by kernel_rfl
theorem sh_syngraphref02_Number_calls {t0 t1 : Value} {H : Heap} {R : Value → Heap → Prop} (h : sh_syngraphref02_Number t0 t1 H R) : HCalls prg f_syngraphref02_Number [t0, t1] H R :=
  calls_ofF Tryz.func46 sh_syngraphref02_Number_chk (by rw [sh_syngraphref02_Number_den]; exact h)

end Go.Proofs.YtmhfanpijdgkjabGreatDoor
/- PRINTED: clean texts -/
namespace Go.Proofs.YtmhfanpijdgkjabGreatDoor
open Go.X
set_option maxRecDepth 100000
-- (*syngraph/wire.In).Bytes
def sh_wire_In_Bytes (t0 t1 : Value) (H : Heap) (R : Value → Heap → Prop) : Prop :=
  Mcall prg f_wire_In_count [t0, t1, (.int .i64 1)] H fun t8 h1 =>
  Mcall prg f_wire_In_take [t0, t8] h1 fun t9 h2 =>
  R t9 h2
theorem sh_wire_In_Bytes_chk : fchkF prg [] Tryz.f37 2 = true := by kernel_rfl
theorem sh_wire_In_Bytes_den (t0 t1 : Value) (H : Heap) (R : Value → Heap → Prop) : fdenF prg [] Tryz.f37 [t0, t1] H R = sh_wire_In_Bytes t0 t1 H R := by kernel_rfl
theorem sh_wire_In_Bytes_calls {t0 t1 : Value} {H : Heap} {R : Value → Heap → Prop} (h : sh_wire_In_Bytes t0 t1 H R) : HCalls prg f_wire_In_Bytes [t0, t1] H R :=
  calls_ofF Tryz.func37 sh_wire_In_Bytes_chk (by rw [sh_wire_In_Bytes_den]; exact h)

-- syngraph/syngraphref03.Bytes
def sh_syngraphref03_Bytes (t0 : Value) (H : Heap) (R : Value → Heap → Prop) : Prop :=
  Mpu (lenV t0) fun t4 =>
  Mcall prg f_syngraphref03_Count [t4] H fun t5 h1 =>
  Mapp T_uint8 1 1 h1 t5 t0 fun t7 h2 =>
  R t7 h2
theorem sh_syngraphref03_Bytes_chk : fchkF prg [] Tryz.f16 1 = true := by kernel_rfl
theorem sh_syngraphref03_Bytes_den (t0 : Value) (H : Heap) (R : Value → Heap → Prop) : fdenF prg [] Tryz.f16 [t0] H R = sh_syngraphref03_Bytes t0 H R := by kernel_rfl
theorem sh_syngraphref03_Bytes_calls {t0 : Value} {H : Heap} {R : Value → Heap → Prop} (h : sh_syngraphref03_Bytes t0 H R) : HCalls prg f_syngraphref03_Bytes [t0] H R :=
  calls_ofF Tryz.func16 sh_syngraphref03_Bytes_chk (by rw [sh_syngraphref03_Bytes_den]; exact h)

-- (*syngraph/wire.In).count
def sh_wire_In_count (t0 t1 t2 : Value) (H : Heap) (R : Value → Heap → Prop) : Prop :=
  Mcall prg f_wire_In_take [t0, (.int .i64 4)] H fun t10 h1 =>
  Mpu (nck t0) fun t12 =>
  Mpu (fld 1 t12) fun t13 =>
  Mpu (ld1 h1 t13) fun t14 =>
  Mcd t14 (
    R (.int .i64 0) h1) (
    Mcall prg f_wire_number [t10] h1 fun t16 h2 =>
    Mpu (binV .no .gtr t16 t1) fun t19 =>
    J1 (fun k3 => Mif t19 false (
        Mpu (nck t0) fun t23 =>
        Mpu (fld 0 t23) fun t24 =>
        Mpu (ld1 h2 t24) fun t25 =>
        Mpu (lenV t25) fun t26 =>
        Mpu (binV .no .quo t26 t2) fun t28 =>
        Mpu (binV .no .gtr t16 t28) fun t29 =>
        k3 t29 h2) (
        k3 undef h2)) fun t29_2 h4 =>
    Mpu (pickV t19 (.bool true) t29_2) fun t30 =>
    Mcd t30 (
      Mpu (nck t0) fun t32 =>
      Mpu (fld 1 t32) fun t33 =>
      Mwr (st1 h4 t33 (.bool true)) fun h5 =>
      R (.int .i64 0) h5) (
      R t16 h4))
theorem sh_wire_In_count_chk : fchkF prg [29] Tryz.f62 3 = true := by kernel_rfl
theorem sh_wire_In_count_den (t0 t1 t2 : Value) (H : Heap) (R : Value → Heap → Prop) : fdenF prg [29] Tryz.f62 [t0, t1, t2] H R = sh_wire_In_count t0 t1 t2 H R := by kernel_rfl
theorem sh_wire_In_count_calls {t0 t1 t2 : Value} {H : Heap} {R : Value → Heap → Prop} (h : sh_wire_In_count t0 t1 t2 H R) : HCalls prg f_wire_In_count [t0, t1, t2] H R :=
  calls_ofF Tryz.func62 sh_wire_In_count_chk (by rw [sh_wire_In_count_den]; exact h)

-- syngraph/syngraphref03.Count
def sh_syngraphref03_Count (t0 : Value) (H : Heap) (R : Value → Heap → Prop) : Prop :=
  Mcall prg f_syngraphref02_Number [t0, (.int .i64 4)] H fun t4 h1 =>
  R t4 h1
theorem sh_syngraphref03_Count_chk : fchkF prg [] Tryz.f44 1 = true := by kernel_rfl
theorem sh_syngraphref03_Count_den (t0 : Value) (H : Heap) (R : Value → Heap → Prop) : fdenF prg [] Tryz.f44 [t0] H R = sh_syngraphref03_Count t0 H R := by kernel_rfl
theorem sh_syngraphref03_Count_calls {t0 : Value} {H : Heap} {R : Value → Heap → Prop} (h : sh_syngraphref03_Count t0 H R) : HCalls prg f_syngraphref03_Count [t0] H R :=
  calls_ofF Tryz.func44 sh_syngraphref03_Count_chk (by rw [sh_syngraphref03_Count_den]; exact h)

end Go.Proofs.YtmhfanpijdgkjabGreatDoor
/- PRINTED: clean texts -/
namespace Go.Proofs.YtmhfanpijdgkjabGreatDoor
open Go.X
set_option maxRecDepth 100000
-- syngraph/syngraphlaw22.HistoryReads
def sh_syngraphlaw22_HistoryReads (t0 : Value) (H : Heap) (R : Value → Heap → Prop) : Prop :=
  Mpu (lenV t0) fun t10 =>
  Mpu (binV .no .gtr t10 (.int .i64 5000)) fun t11 =>
  Mcd t11 (
    Mcall prg f_syngraphlaw22_awake [] H fun t12 h1 =>
    R t12 h1) (
    Mcall prg f_history_ParseRecord [t0] H fun t15 h2 =>
    Mpu (extV 0 t15) fun t16 =>
    Mpu (extV 1 t15) fun t17 =>
    Mnew h2 T_history_Record (zcells prg T_history_Record) fun t3 h3 =>
    Mwr (stN 36 h3 t3 t16) fun h4 =>
    J0 (fun k5 =>
      Mpu (binV .no .eql t17 (.int .i64 0)) fun t19 =>
      Mcd t19 (
        Mpu (ldN 36 h4 t3) fun t21 =>
        Mcall prg f_syngraphlaw22_recordBytes [t21] h4 fun t22 h7 =>
        Mpu (extV 0 t22) fun t23 =>
        Mpu (extV 1 t22) fun t24 =>
        Mpu (unV .not t24) fun t26 =>
        J1 (fun k8 => Mif t26 false (
            Mpu (b2s h7 t23) fun t29 =>
            Mpu (b2s h7 t0) fun t31 =>
            Mpu (binV .no .neq t29 t31) fun t32 =>
            k8 t32 h7) (
            k8 undef h7)) fun t32_2 h9 =>
        Mpu (pickV t26 (.bool true) t32_2) fun t33 =>
        Mcd t33 (
          R (.bool false) h9) (
          k5 h9)) (
        k5 h4)) fun h6 =>
    Mcall prg f_history_Parse [t0] h6 fun t36 h10 =>
    Mpu (extV 0 t36) fun t37 =>
    Mpu (extV 1 t36) fun t38 =>
    Mpu (binV .no .eql t38 (.int .i64 0)) fun t40 =>
    J1 (fun k11 => Mif t40 true (
        Mpu (binV .ptr .eql t37 (.pointer none)) fun t43 =>
        k11 t43 h10) (
        k11 undef h10)) fun t44_2 h12 =>
    J1 (fun k13 => Mif t44_2 false (
        Mpu (b2s h12 t0) fun t49 =>
        Mcall prg f_history_History_Bytes [t37] h12 fun t46 h14 =>
        Mre [(b2s h14 t0, t49)] (
        Mpu (b2s h14 t46) fun t47 =>
        Mpu (binV .no .neq t47 t49) fun t50 =>
        k13 t50 h14)) (
        k13 undef h12)) fun t50_2 h15 =>
    J1 (fun k16 => Mif t40 true (
        Mpu (pickV t44_2 (.bool true) t50_2) fun t51 =>
        k16 t51 h15) (
        k16 undef h15)) fun t51_2 h17 =>
    Mpu (pickV t40 t51_2 (.bool false)) fun t52 =>
    J1 (fun k18 => Mif t52 false (
        Mpu (binV .no .neq t38 (.int .i64 0)) fun t55 =>
        k18 t55 h17) (
        k18 undef h17)) fun t56_2 h19 =>
    J1 (fun k20 => Mif t56_2 true (
        Mpu (binV .ptr .neq t37 (.pointer none)) fun t58 =>
        k20 t58 h19) (
        k20 undef h19)) fun t58_2 h21 =>
    J1 (fun k22 => Mif t52 false (
        Mpu (pickV t56_2 t58_2 (.bool false)) fun t59 =>
        k22 t59 h21) (
        k22 undef h21)) fun t59_2 h23 =>
    Mpu (pickV t52 (.bool true) t59_2) fun t60 =>
    Mcd t60 (
      R (.bool false) h23) (
      Mpu (binV .no .eql t17 (.int .i64 0)) fun t62 =>
      J1 (fun k24 => Mif t62 false (
          Mpu (binV .no .eql t17 (.int .i64 10)) fun t65 =>
          k24 t65 h23) (
          k24 undef h23)) fun t66_2 h25 =>
      J1 (fun k26 => Mif t66_2 true (
          Mpu (ldN 36 h25 t3) fun t67 =>
          Mpu (buildV prg T_history_Record []) fun t68 =>
          Mcall prg f_history_Record_Equal [t67, t68] h25 fun t69 h27 =>
          k26 t69 h27) (
          k26 undef h25)) fun t69_2 h28 =>
      J1 (fun k29 => Mif t62 false (
          Mpu (pickV t66_2 t69_2 (.bool false)) fun t70 =>
          k29 t70 h28) (
          k29 undef h28)) fun t70_2 h30 =>
      Mpu (pickV t62 (.bool true) t70_2) fun t71 =>
      J1 (fun k31 => Mif t71 true (
          Mpu (binV .no .eql t38 (.int .i64 0)) fun t74 =>
          k31 t74 h30) (
          k31 undef h30)) fun t75_2 h32 =>
      J1 (fun k33 => Mif t75_2 false (
          Mpu (binV .no .eql t38 (.int .i64 10)) fun t77 =>
          k33 t77 h32) (
          k33 undef h32)) fun t77_2 h34 =>
      J1 (fun k35 => Mif t71 true (
          Mpu (pickV t75_2 (.bool true) t77_2) fun t78 =>
          k35 t78 h34) (
          k35 undef h34)) fun t78_2 h36 =>
      Mpu (pickV t71 t78_2 (.bool false)) fun t79 =>
      J1 (fun k37 => Mif t79 true (
          Mcall prg f_syngraphlaw22_awake [] h36 fun t81 h38 =>
          k37 t81 h38) (
          k37 undef h36)) fun t81_2 h39 =>
      Mpu (pickV t79 t81_2 (.bool false)) fun t82 =>
      R t82 h39))
theorem sh_syngraphlaw22_HistoryReads_chk : fchkF prg [32, 44, 50, 51, 56, 58, 59, 66, 69, 70, 75, 77, 78, 81] Tryz.f3 1 = true := by kernel_rfl
theorem sh_syngraphlaw22_HistoryReads_den (t0 : Value) (H : Heap) (R : Value → Heap → Prop) : fdenF prg [32, 44, 50, 51, 56, 58, 59, 66, 69, 70, 75, 77, 78, 81] Tryz.f3 [t0] H R = sh_syngraphlaw22_HistoryReads t0 H R := by kernel_rfl
theorem sh_syngraphlaw22_HistoryReads_calls {t0 : Value} {H : Heap} {R : Value → Heap → Prop} (h : sh_syngraphlaw22_HistoryReads t0 H R) : HCalls prg f_syngraphlaw22_HistoryReads [t0] H R :=
  calls_ofF Tryz.func3 sh_syngraphlaw22_HistoryReads_chk (by rw [sh_syngraphlaw22_HistoryReads_den]; exact h)

-- syngraph/syngraphlaw22.HistoryGrows
def sh_syngraphlaw22_HistoryGrows (t0 t1 : Value) (H : Heap) (R : Value → Heap → Prop) : Prop :=
  Mnew H T_int (some (Value.cells t1)) fun t3 h1 =>
  Mnew h1 T_bool (zcells prg T_bool) fun t4 h2 =>
  Mcall prg f_history_New [] h2 fun t29 h3 =>
  Mnew h3 T_P_history_History (zcells prg T_P_history_History) fun t5 h4 =>
  Mwr (st1 h4 t5 t29) fun h5 =>
  Mpu (ld1 h5 t5) fun t30 =>
  Mpu (binV .ptr .eql t30 (.pointer none)) fun t31 =>
  J1 (fun k6 => Mif t31 false (
      Mpu (lenV t0) fun t34 =>
      Mpu (binV .no .gtr t34 (.int .i64 20)) fun t35 =>
      k6 t35 h5) (
      k6 undef h5)) fun t35_2 h7 =>
  Mpu (pickV t31 (.bool true) t35_2) fun t36 =>
  Mcd t36 (
    Mpu (ld1 h7 t5) fun t37 =>
    Mpu (binV .ptr .neq t37 (.pointer none)) fun t38 =>
    J1 (fun k8 => Mif t38 true (
        Mcall prg f_syngraphlaw22_awake [] h7 fun t40 h9 =>
        k8 t40 h9) (
        k8 undef h7)) fun t40_2 h10 =>
    Mpu (pickV t38 t40_2 (.bool false)) fun t41 =>
    Mwr (st1 h10 t4 t41) fun h11 =>
    Mcl H.size h11 fun h12 =>
    Mpu (ld1 h12 t4) fun r13 =>
    R r13 h12) (
    Mnew h7 T_S_history_Record (zcells prg T_S_history_Record) fun t6 h14 =>
    Mnew h14 T_S_sha_Hash (zcells prg T_S_sha_Hash) fun t8 h15 =>
    Mpu (buildV prg T_sha_Hash []) fun t42 =>
    Mnew h15 T_sha_Hash (zcells prg T_sha_Hash) fun t9 h16 =>
    Mwr (stN 32 h16 t9 t42) fun h17 =>
    J3 (fun k18 =>
      Mpu (lenV t0) fun t44 =>
      L3 (fun k20 => fun t7_2 t10_2 t45_2 h21 =>
        Mpu (binV .no .lss t45_2 t44) fun t46 =>
        Mcd t46 (
          Mpu (ixS 36 t0 t45_2) fun t47 =>
          Mpu (ldN 36 h21 t47) fun t48 =>
          Mnew h21 T_history_Record (zcells prg T_history_Record) fun t12 h22 =>
          Mwr (stN 36 h22 t12 t48) fun h23 =>
          Mpu (ldN 36 h23 t12) fun t49 =>
          Mcall prg f_syngraphlaw22_small [t49] h23 fun t50 h24 =>
          Mpu (unV .not t50) fun t51 =>
          Mcd t51 (
            Mcall prg f_syngraphlaw22_awake [] h24 fun t52 h25 =>
            Mwr (st1 h25 t4 t52) fun h26 =>
            Mcl H.size h26 fun h27 =>
            Mpu (ld1 h27 t4) fun r28 =>
            R r28 h27) (
            Mpu (ldN 36 h24 t12) fun t54 =>
            Mcall prg f_syngraphlaw22_recordBytes [t54] h24 fun t55 h29 =>
            Mpu (extV 0 t55) fun t56 =>
            Mpu (extV 1 t55) fun t57 =>
            J1 (fun k30 => Mif t57 true (
                Mpu (fld 1 t12) fun t60 =>
                Mpu (ld1 h29 t60) fun t61 =>
                Mcall prg f_syngraphlaw22_same [t61, t7_2] h29 fun t63 h31 =>
                k30 t63 h31) (
                k30 undef h29)) fun t63_2 h32 =>
            Mpu (pickV t57 t63_2 (.bool false)) fun t64 =>
            Mpu (ld1 h32 t5) fun t65 =>
            Mpu (ldN 36 h32 t12) fun t66 =>
            Mcall prg f_history_History_Append [t65, t66] h32 fun t67 h33 =>
            Mpu (binV .no .eql t67 (.int .i64 0)) fun t70 =>
            Mpu (binV .bool .neq t64 t70) fun t71 =>
            J1 (fun k34 => Mif t71 false (
                Mpu (unV .not t64) fun t74 =>
                k34 t74 h33) (
                k34 undef h33)) fun t75_2 h35 =>
            J1 (fun k36 => Mif t75_2 true (
                Mpu (binV .no .neq t67 (.int .i64 10)) fun t77 =>
                k36 t77 h35) (
                k36 undef h35)) fun t77_2 h37 =>
            J1 (fun k38 => Mif t71 false (
                Mpu (pickV t75_2 t77_2 (.bool false)) fun t78 =>
                k38 t78 h37) (
                k38 undef h37)) fun t78_2 h39 =>
            Mpu (pickV t71 (.bool true) t78_2) fun t79 =>
            Mcd t79 (
              Mwr (st1 h39 t4 (.bool false)) fun h40 =>
              Mcl H.size h40 fun h41 =>
              Mpu (ld1 h41 t4) fun r42 =>
              R r42 h41) (
              J2 (fun k43 =>
                Mcd t64 (
                  Mpu (ld1 h39 t6) fun t81 =>
                  Mpu (ldN 36 h39 t12) fun t82 =>
                  Mpu (fld 2 t12) fun t85 =>
                  Mpu (ld1 h39 t85) fun t86 =>
                  Mnews h39 T_history_Record 1 (bslV prg T_history_Record 1 [(0, t82)]) fun t83 h45 =>
                  Mre [(ld1 h45 t85, t86), (ld1 h45 t6, t81)] (
                  Mapp T_history_Record 36 96 h45 t81 t83 fun t84 h46 =>
                  Mre [(ld1 h46 t85, t86)] (
                  Mwr (st1 h46 t6 t84) fun h47 =>
                  Mre [(ld1 h47 t85, t86)] (
                  Mpu (ldN 32 h47 t9) fun t87 =>
                  Mcall prg f_tag_Record [t87, t56] h47 fun t89 h48 =>
                  Mwr (stN 32 h48 t9 t89) fun h49 =>
                  Mpu (ld1 h49 t8) fun t90 =>
                  Mpu (ldN 32 h49 t9) fun t91 =>
                  Mnews h49 T_sha_Hash 1 (bslV prg T_sha_Hash 1 [(0, t91)]) fun t92 h50 =>
                  Mapp T_sha_Hash 32 32 h50 t90 t92 fun t93 h51 =>
                  Mwr (st1 h51 t8 t93) fun h52 =>
                  Mcall prg f_syngraphref03_Bytes [t56] h52 fun t96 h53 =>
                  Mapp T_uint8 1 1 h53 t10_2 t96 fun t97 h54 =>
                  k43 t86 t97 h54)))) (
                  k43 t7_2 t10_2 h39)) fun t7_4 t10_4 h44 =>
              Mpu (ld1 h44 t5) fun t98 =>
              Mpu (ld1 h44 t6) fun t100 =>
              Mpu (lenV t100) fun t101 =>
              Mcall prg f_history_History_Len [t98] h44 fun t99 h55 =>
              Mre [(ld1 h55 t6, t100)] (
              Mpu (binV .no .neq t99 t101) fun t102 =>
              J1 (fun k56 => Mif t102 false (
                  Mpu (ld1 h55 t5) fun t104 =>
                  Mpu (ldN 32 h55 t9) fun t106 =>
                  Mcall prg f_history_History_Top [t104] h55 fun t105 h57 =>
                  Mre [(ldN 32 h57 t9, t106)] (
                  Mpu (binV (eqK prg T_sha_Hash) .neq t105 t106) fun t107 =>
                  k56 t107 h57)) (
                  k56 undef h55)) fun t107_2 h58 =>
              Mpu (pickV t102 (.bool true) t107_2) fun t108 =>
              J1 (fun k59 => Mif t108 false (
                  Mpu (ld1 h58 t5) fun t110 =>
                  Mcall prg f_history_History_Now [t110] h58 fun t111 h60 =>
                  Mcall prg f_syngraphlaw22_same [t111, t7_4] h60 fun t113 h61 =>
                  Mpu (unV .not t113) fun t114 =>
                  k59 t114 h61) (
                  k59 undef h58)) fun t114_2 h62 =>
              Mpu (pickV t108 (.bool true) t114_2) fun t115 =>
              Mcd t115 (
                Mwr (st1 h62 t4 (.bool false)) fun h63 =>
                Mcl H.size h63 fun h64 =>
                Mpu (ld1 h64 t4) fun r65 =>
                R r65 h64) (
                Mpu (binV .no .add t45_2 (.int .i64 1)) fun t116 =>
                k20 t7_4 t10_4 t116 h62))))) (
          k18 t7_2 t10_2 t45_2 h21)) ((.slice none 0 0)) ((.slice none 0 0)) ((.int .i64 0)) h17) fun t7_5 t10_5 t45_4 h19 =>
    Mnew h19 T_int (zcells prg T_int) fun t16 h66 =>
    Mwr (st1 h66 t16 (.int .i64 0)) fun h67 =>
    J0 (fun k68 =>
      Mpu (ld1 h67 t5) fun t117 =>
      Mcall prg f_history_History_Walk [t117] h67 fun t118 h70 =>
      Mrange prg H.size t118 h70 (fun a71 h72 k73 => a71.length = 2 ∧ (
          Mnew h72 T_history_Record (zcells prg T_history_Record) fun t17 h76 =>
          Mwr (stN 36 h76 t17 (a71.getD 0 undef)) fun h77 =>
          Mnew h77 T_sha_Hash (zcells prg T_sha_Hash) fun t18 h78 =>
          Mwr (stN 32 h78 t18 (a71.getD 1 undef)) fun h79 =>
          Mbeg (h70.size + 1) h79 fun h80 =>
          Mpu (ld1 h80 t16) fun t121 =>
          Mpu (ld1 h80 t6) fun t122 =>
          Mpu (lenV t122) fun t123 =>
          Mpu (binV .no .geq t121 t123) fun t124 =>
          J1 (fun k81 => Mif t124 false (
              Mpu (ldN 36 h80 t17) fun t126 =>
              Mpu (ld1 h80 t6) fun t127 =>
              Mpu (ld1 h80 t16) fun t128 =>
              Mpu (ixS 36 t127 t128) fun t129 =>
              Mpu (ldN 36 h80 t129) fun t130 =>
              Mcall prg f_history_Record_Equal [t126, t130] h80 fun t131 h82 =>
              Mpu (unV .not t131) fun t132 =>
              k81 t132 h82) (
              k81 undef h80)) fun t132_2 h83 =>
          Mpu (pickV t124 (.bool true) t132_2) fun t133 =>
          J1 (fun k84 => Mif t133 false (
              Mpu (ldN 32 h83 t18) fun t135 =>
              Mpu (ld1 h83 t8) fun t136 =>
              Mpu (ld1 h83 t16) fun t137 =>
              Mpu (ixS 32 t136 t137) fun t138 =>
              Mpu (ldN 32 h83 t138) fun t139 =>
              Mpu (binV (eqK prg T_sha_Hash) .neq t135 t139) fun t140 =>
              k84 t140 h83) (
              k84 undef h83)) fun t140_2 h85 =>
          Mpu (pickV t133 (.bool true) t140_2) fun t141 =>
          Mcd t141 (
            Mwr (st1 h85 t4 (.bool false)) fun h86 =>
            k73 (some Code.ret) h86) (
            Mpu (ld1 h85 t5) fun t143 =>
            Mpu (ld1 h85 t16) fun t144 =>
            Mcall prg f_history_History_At [t143, t144] h85 fun t145 h87 =>
            Mpu (extV 0 t145) fun t146 =>
            Mpu (extV 1 t145) fun t147 =>
            Mnew h87 T_history_Record (zcells prg T_history_Record) fun t19 h88 =>
            Mwr (stN 36 h88 t19 t146) fun h89 =>
            Mpu (unV .not t147) fun t149 =>
            J1 (fun k90 => Mif t149 false (
                Mpu (ldN 36 h89 t19) fun t151 =>
                Mpu (ldN 36 h89 t17) fun t152 =>
                Mcall prg f_history_Record_Equal [t151, t152] h89 fun t153 h91 =>
                Mpu (unV .not t153) fun t154 =>
                k90 t154 h91) (
                k90 undef h89)) fun t154_2 h92 =>
            Mpu (pickV t149 (.bool true) t154_2) fun t155 =>
            Mcd t155 (
              Mwr (st1 h92 t4 (.bool false)) fun h93 =>
              k73 (some Code.ret) h93) (
              Mpu (ld1 h92 t16) fun t156 =>
              Mpu (binV .no .add t156 (.int .i64 1)) fun t157 =>
              Mwr (st1 h92 t16 t157) fun h94 =>
              Mpu (ld1 h94 t16) fun t158 =>
              Mpu (ld1 h94 t3) fun t159 =>
              Mpu (binV .no .eql t158 t159) fun t160 =>
              Mcd t160 (
                k73 (some (Code.exit 2)) h94) (
                k73 none h94))))) fun j74 h75 =>
        (j74 = some (Code.exit 2) ∧ (
          k68 h75)) ∨
        (j74 = none ∧ (
          k68 h75)) ∨
        (j74 = some Code.ret ∧ (
          Mcl H.size h75 fun h95 =>
          Mpu (ld1 h95 t4) fun r96 =>
          R r96 h95))) fun h69 =>
    Mpu (ld1 h69 t6) fun t161 =>
    Mpu (lenV t161) fun t162 =>
    Mpu (ld1 h69 t16) fun t163 =>
    Mpu (binV .no .neq t163 t162) fun t165 =>
    J1 (fun k97 => Mif t165 true (
        Mpu (ld1 h69 t16) fun t167 =>
        Mpu (ld1 h69 t3) fun t168 =>
        Mpu (binV .no .neq t167 t168) fun t169 =>
        k97 t169 h69) (
        k97 undef h69)) fun t169_2 h98 =>
    Mpu (pickV t165 t169_2 (.bool false)) fun t170 =>
    Mcd t170 (
      Mwr (st1 h98 t4 (.bool false)) fun h99 =>
      Mcl H.size h99 fun h100 =>
      Mpu (ld1 h100 t4) fun r101 =>
      R r101 h100) (
      Mpu (ld1 h98 t5) fun t172 =>
      Mpu (ld1 h98 t6) fun t173 =>
      Mpu (lenV t173) fun t174 =>
      Mcall prg f_history_History_At [t172, t174] h98 fun t175 h102 =>
      Mpu (extV 0 t175) fun t176 =>
      Mpu (extV 1 t175) fun t177 =>
      Mnew h102 T_history_Record (zcells prg T_history_Record) fun t22 h103 =>
      Mwr (stN 36 h103 t22 t176) fun h104 =>
      Mpu (ld1 h104 t5) fun t179 =>
      Mcall prg f_history_History_At [t179, (.int .i64 (-1))] h104 fun t180 h105 =>
      Mpu (extV 0 t180) fun t181 =>
      Mpu (extV 1 t180) fun t182 =>
      Mnew h105 T_history_Record (zcells prg T_history_Record) fun t24 h106 =>
      Mwr (stN 36 h106 t24 t181) fun h107 =>
      Mpu (ld1 h107 t6) fun t183 =>
      Mpu (lenV t183) fun t184 =>
      Mcall prg f_syngraphref03_Int [t184] h107 fun t185 h108 =>
      Mnews h108 T_S_uint8 2 (bslV prg T_S_uint8 2 [(0, t185), (1, t10_5)]) fun t187 h109 =>
      Mcall prg f_syngraphref03_Join [t187] h109 fun t188 h110 =>
      Mcall prg f_history_Parse [t188] h110 fun t191 h111 =>
      Mpu (extV 0 t191) fun t192 =>
      Mpu (extV 1 t191) fun t193 =>
      Mpu (ld1 h111 t5) fun t194 =>
      Mpu (b2s h111 t188) fun t198 =>
      Mcall prg f_history_History_Bytes [t194] h111 fun t195 h112 =>
      Mre [(b2s h112 t188, t198)] (
      Mpu (b2s h112 t195) fun t196 =>
      Mpu (binV .no .eql t196 t198) fun t199 =>
      J1 (fun k113 => Mif t199 true (
          Mpu (binV .no .eql t193 (.int .i64 0)) fun t202 =>
          k113 t202 h112) (
          k113 undef h112)) fun t202_2 h114 =>
      Mpu (pickV t199 t202_2 (.bool false)) fun t203 =>
      J1 (fun k115 => Mif t203 true (
          Mpu (binV .ptr .neq t192 (.pointer none)) fun t206 =>
          k115 t206 h114) (
          k115 undef h114)) fun t206_2 h116 =>
      Mpu (pickV t203 t206_2 (.bool false)) fun t207 =>
      J1 (fun k117 => Mif t207 true (
          Mpu (ld1 h116 t5) fun t210 =>
          Mcall prg f_history_History_Equal [t192, t210] h116 fun t211 h118 =>
          k117 t211 h118) (
          k117 undef h116)) fun t211_2 h119 =>
      Mpu (pickV t207 t211_2 (.bool false)) fun t212 =>
      J1 (fun k120 => Mif t212 true (
          Mpu (ldN 32 h119 t9) fun t216 =>
          Mcall prg f_history_History_Top [t192] h119 fun t215 h121 =>
          Mre [(ldN 32 h121 t9, t216)] (
          Mpu (binV (eqK prg T_sha_Hash) .eql t215 t216) fun t217 =>
          k120 t217 h121)) (
          k120 undef h119)) fun t217_2 h122 =>
      Mpu (pickV t212 t217_2 (.bool false)) fun t218 =>
      J1 (fun k123 => Mif t218 true (
          Mpu (unV .not t177) fun t221 =>
          k123 t221 h122) (
          k123 undef h122)) fun t221_2 h124 =>
      Mpu (pickV t218 t221_2 (.bool false)) fun t222 =>
      J1 (fun k125 => Mif t222 true (
          Mpu (unV .not t182) fun t225 =>
          k125 t225 h124) (
          k125 undef h124)) fun t225_2 h126 =>
      Mpu (pickV t222 t225_2 (.bool false)) fun t226 =>
      J1 (fun k127 => Mif t226 true (
          Mcall prg f_syngraphlaw22_awake [] h126 fun t228 h128 =>
          k127 t228 h128) (
          k127 undef h126)) fun t228_2 h129 =>
      Mpu (pickV t226 t228_2 (.bool false)) fun t229 =>
      Mwr (st1 h129 t4 t229) fun h130 =>
      Mcl H.size h130 fun h131 =>
      Mpu (ld1 h131 t4) fun r132 =>
      R r132 h131)))
theorem sh_syngraphlaw22_HistoryGrows_chk : fchkF prg [7, 10, 35, 40, 45, 63, 75, 77, 78, 107, 114, 132, 140, 154, 169, 202, 206, 211, 217, 221, 225, 228] Tryz.f4 2 = true := by kernel_rfl
theorem sh_syngraphlaw22_HistoryGrows_den (t0 t1 : Value) (H : Heap) (R : Value → Heap → Prop) : fdenF prg [7, 10, 35, 40, 45, 63, 75, 77, 78, 107, 114, 132, 140, 154, 169, 202, 206, 211, 217, 221, 225, 228] Tryz.f4 [t0, t1] H R = sh_syngraphlaw22_HistoryGrows t0 t1 H R := by kernel_rfl
theorem sh_syngraphlaw22_HistoryGrows_calls {t0 t1 : Value} {H : Heap} {R : Value → Heap → Prop} (h : sh_syngraphlaw22_HistoryGrows t0 t1 H R) : HCalls prg f_syngraphlaw22_HistoryGrows [t0, t1] H R :=
  calls_ofF Tryz.func4 sh_syngraphlaw22_HistoryGrows_chk (by rw [sh_syngraphlaw22_HistoryGrows_den]; exact h)

-- syngraph/history.Parse
def sh_history_Parse (t0 : Value) (H : Heap) (R : Value → Heap → Prop) : Prop :=
  Mcall prg f_wire_NewIn [t0] H fun t9 h1 =>
  Mcall prg f_history_New [] h1 fun t10 h2 =>
  J1 (fun k3 =>
    Mcall prg f_wire_In_Count [t9, (.int .i64 0), (.int .i64 4096)] h2 fun t12 h5 =>
    L1 (fun k6 => fun t13_2 h7 =>
      Mpu (binV .no .lss t13_2 t12) fun t14 =>
      Mcd t14 (
        Mcall prg f_wire_In_Bytes [t9, (.int .i64 1048576)] h7 fun t17 h8 =>
        Mcall prg f_history_ParseRecord [t17] h8 fun t18 h9 =>
        Mpu (extV 0 t18) fun t19 =>
        Mpu (extV 1 t18) fun t20 =>
        Mnew h9 T_history_Record (zcells prg T_history_Record) fun t6 h10 =>
        Mwr (stN 36 h10 t6 t19) fun h11 =>
        Mpu (binV .no .neq t20 (.int .i64 0)) fun t22 =>
        J1 (fun k12 => Mif t22 false (
            Mpu (ldN 36 h11 t6) fun t25 =>
            Mcall prg f_history_History_Append [t10, t25] h11 fun t26 h13 =>
            Mpu (binV .no .neq t26 (.int .i64 0)) fun t27 =>
            k12 t27 h13) (
            k12 undef h11)) fun t27_2 h14 =>
        Mpu (pickV t22 (.bool true) t27_2) fun t28 =>
        Mcd t28 (
          R (.tuple #[(.pointer none), (.int .i64 10)]) h14) (
          Mpu (binV .no .add t13_2 (.int .i64 1)) fun t29 =>
          k6 t29 h14)) (
        k3 t13_2 h7)) ((.int .i64 0)) h5) fun t13_4 h4 =>
  Mcall prg f_wire_In_Done [t9] h4 fun t31 h15 =>
  Mpu (unV .not t31) fun t32 =>
  Mcd t32 (
    R (.tuple #[(.pointer none), (.int .i64 10)]) h15) (
    R (.tuple #[t10, (.int .i64 0)]) h15)
theorem sh_history_Parse_chk : fchkF prg [13, 27] Tryz.f8 1 = true := by kernel_rfl
theorem sh_history_Parse_den (t0 : Value) (H : Heap) (R : Value → Heap → Prop) : fdenF prg [13, 27] Tryz.f8 [t0] H R = sh_history_Parse t0 H R := by kernel_rfl
theorem sh_history_Parse_calls {t0 : Value} {H : Heap} {R : Value → Heap → Prop} (h : sh_history_Parse t0 H R) : HCalls prg f_history_Parse [t0] H R :=
  calls_ofF Tryz.func8 sh_history_Parse_chk (by rw [sh_history_Parse_den]; exact h)

-- (*syngraph/history.History).Bytes
def sh_history_History_Bytes (t0 : Value) (H : Heap) (R : Value → Heap → Prop) : Prop :=
  Mpu (buildV prg T_wire_Out []) fun t5 =>
  Mnew H T_wire_Out (some (Value.cells t5)) fun t6 h1 =>
  Mnew h1 T_P_wire_Out (zcells prg T_P_wire_Out) fun t3 h2 =>
  Mwr (st1 h2 t3 t6) fun h3 =>
  Mpu (ld1 h3 t3) fun t7 =>
  Mcall prg f_history_History_Len [t0] h3 fun t9 h4 =>
  Mre [(ld1 h4 t3, t7)] (
  Mcall prg f_wire_Out_Int [t7, t9] h4 fun t10 h5 =>
  Mcall prg f_history_History_Walk [t0] h5 fun t12 h6 =>
  Mrange prg H.size t12 h6 (fun a7 h8 k9 => a7.length = 2 ∧ (
      Mnew h8 T_history_Record (zcells prg T_history_Record) fun t4 h12 =>
      Mwr (stN 36 h12 t4 (a7.getD 0 undef)) fun h13 =>
      Mbeg (h6.size + 1) h13 fun h14 =>
      Mpu (ld1 h14 t3) fun t15 =>
      Mpu (ldN 36 h14 t4) fun t16 =>
      Mcall prg f_history_Record_Bytes [t16] h14 fun t17 h15 =>
      Mre [(ld1 h15 t3, t15)] (
      Mcall prg f_wire_Out_Bytes [t15, t17] h15 fun t18 h16 =>
      k9 none h16))) fun j10 h11 =>
    (j10 = none ∧ (
      Mpu (ld1 h11 t3) fun t19 =>
      Mcall prg f_wire_Out_All [t19] h11 fun t20 h17 =>
      Mcl H.size h17 fun h18 =>
      R t20 h18)) ∨
    False)
theorem sh_history_History_Bytes_chk : fchkF prg [] Tryz.f9 1 = true := by kernel_rfl
theorem sh_history_History_Bytes_den (t0 : Value) (H : Heap) (R : Value → Heap → Prop) : fdenF prg [] Tryz.f9 [t0] H R = sh_history_History_Bytes t0 H R := by kernel_rfl
theorem sh_history_History_Bytes_calls {t0 : Value} {H : Heap} {R : Value → Heap → Prop} (h : sh_history_History_Bytes t0 H R) : HCalls prg f_history_History_Bytes [t0] H R :=
  calls_ofF Tryz.func9 sh_history_History_Bytes_chk (by rw [sh_history_History_Bytes_den]; exact h)

-- syngraph/syngraphlaw22.same
def sh_syngraphlaw22_same (t0 t1 : Value) (H : Heap) (R : Value → Heap → Prop) : Prop :=
  Mpu (lenV t0) fun t7 =>
  Mpu (lenV t1) fun t9 =>
  Mpu (binV .no .neq t7 t9) fun t10 =>
  Mcd t10 (
    R (.bool false) H) (
    J1 (fun k1 =>
      Mpu (lenV t0) fun t12 =>
      L1 (fun k3 => fun t13_2 h4 =>
        Mpu (binV .no .lss t13_2 t12) fun t14 =>
        Mcd t14 (
          Mpu (ixS 37 t0 t13_2) fun t18 =>
          Mpu (ldN 37 h4 t18) fun t19 =>
          Mpu (ixS 37 t1 t13_2) fun t22 =>
          Mpu (ldN 37 h4 t22) fun t23 =>
          Mpu (binV (eqK prg T_history_Item) .neq t19 t23) fun t24 =>
          Mcd t24 (
            R (.bool false) h4) (
            Mpu (binV .no .add t13_2 (.int .i64 1)) fun t25 =>
            k3 t25 h4)) (
          k1 t13_2 h4)) ((.int .i64 0)) H) fun t13_4 h2 =>
    R (.bool true) h2)
theorem sh_syngraphlaw22_same_chk : fchkF prg [13] Tryz.f13 2 = true := by kernel_rfl
theorem sh_syngraphlaw22_same_den (t0 t1 : Value) (H : Heap) (R : Value → Heap → Prop) : fdenF prg [13] Tryz.f13 [t0, t1] H R = sh_syngraphlaw22_same t0 t1 H R := by kernel_rfl
theorem sh_syngraphlaw22_same_calls {t0 t1 : Value} {H : Heap} {R : Value → Heap → Prop} (h : sh_syngraphlaw22_same t0 t1 H R) : HCalls prg f_syngraphlaw22_same [t0, t1] H R :=
  calls_ofF Tryz.func13 sh_syngraphlaw22_same_chk (by rw [sh_syngraphlaw22_same_den]; exact h)

-- (*syngraph/history.History).Equal
def sh_history_History_Equal (t0 t1 : Value) (H : Heap) (R : Value → Heap → Prop) : Prop :=
  Mpu (nck t0) fun t6 =>
  Mpu (fld 0 t6) fun t7 =>
  Mpu (ld1 H t7) fun t8 =>
  Mpu (nck t1) fun t10 =>
  Mpu (fld 0 t10) fun t11 =>
  Mpu (ld1 H t11) fun t12 =>
  Mcall prg f_slices_EqualFunc_S_history_Record_S_history_Record_history_R_47 [t8, t12, (.func (.func f_history_Record_Equal) #[] #[])] H fun t13 h1 =>
  R t13 h1
theorem sh_history_History_Equal_chk : fchkF prg [] Tryz.f24 2 = true := by kernel_rfl
theorem sh_history_History_Equal_den (t0 t1 : Value) (H : Heap) (R : Value → Heap → Prop) : fdenF prg [] Tryz.f24 [t0, t1] H R = sh_history_History_Equal t0 t1 H R := by kernel_rfl
theorem sh_history_History_Equal_calls {t0 t1 : Value} {H : Heap} {R : Value → Heap → Prop} (h : sh_history_History_Equal t0 t1 H R) : HCalls prg f_history_History_Equal [t0, t1] H R :=
  calls_ofF Tryz.func24 sh_history_History_Equal_chk (by rw [sh_history_History_Equal_den]; exact h)

-- slices.EqualFunc[[]syngraph/history.Record,[]syngraph/history.Record,syngraph/history.Record,syngraph/history.Record]
def sh_slices_EqualFunc_S_history_Record_S_history_Record_history_R_47 (t0 t1 t2 : Value) (H : Heap) (R : Value → Heap → Prop) : Prop :=
  Mpu (lenV t0) fun t11 =>
  Mpu (lenV t1) fun t13 =>
  Mpu (binV .no .neq t11 t13) fun t14 =>
  Mcd t14 (
    R (.bool false) H) (
    J1 (fun k1 =>
      Mpu (lenV t0) fun t16 =>
      L1 (fun k3 => fun t17_2 h4 =>
        Mpu (binV .no .lss t17_2 t16) fun t18 =>
        Mcd t18 (
          Mpu (ixS 36 t0 t17_2) fun t20 =>
          Mpu (ldN 36 h4 t20) fun t21 =>
          Mnew h4 T_history_Record (zcells prg T_history_Record) fun t8 h5 =>
          Mwr (stN 36 h5 t8 t21) fun h6 =>
          Mpu (ixS 36 t1 t17_2) fun t24 =>
          Mpu (ldN 36 h6 t24) fun t25 =>
          Mnew h6 T_history_Record (zcells prg T_history_Record) fun t9 h7 =>
          Mwr (stN 36 h7 t9 t25) fun h8 =>
          Mpu (ldN 36 h8 t8) fun t27 =>
          Mpu (ldN 36 h8 t9) fun t28 =>
          Mcallv prg t2 [t27, t28] h8 fun t29 h9 =>
          Mpu (unV .not t29) fun t30 =>
          Mcd t30 (
            R (.bool false) h9) (
            Mpu (binV .no .add t17_2 (.int .i64 1)) fun t31 =>
            k3 t31 h9)) (
          k1 t17_2 h4)) ((.int .i64 0)) H) fun t17_4 h2 =>
    R (.bool true) h2)
theorem sh_slices_EqualFunc_S_history_Record_S_history_Record_history_R_47_chk : fchkF prg [17] Tryz.f47 3 = true := by kernel_rfl
theorem sh_slices_EqualFunc_S_history_Record_S_history_Record_history_R_47_den (t0 t1 t2 : Value) (H : Heap) (R : Value → Heap → Prop) : fdenF prg [17] Tryz.f47 [t0, t1, t2] H R = sh_slices_EqualFunc_S_history_Record_S_history_Record_history_R_47 t0 t1 t2 H R := by kernel_rfl
theorem sh_slices_EqualFunc_S_history_Record_S_history_Record_history_R_47_calls {t0 t1 t2 : Value} {H : Heap} {R : Value → Heap → Prop} (h : sh_slices_EqualFunc_S_history_Record_S_history_Record_history_R_47 t0 t1 t2 H R) : HCalls prg f_slices_EqualFunc_S_history_Record_S_history_Record_history_R_47 [t0, t1, t2] H R :=
  calls_ofF Tryz.func47 sh_slices_EqualFunc_S_history_Record_S_history_Record_history_R_47_chk (by rw [sh_slices_EqualFunc_S_history_Record_S_history_Record_history_R_47_den]; exact h)

end Go.Proofs.YtmhfanpijdgkjabGreatDoor
/- PRINTED: clean texts -/
namespace Go.Proofs.YtmhfanpijdgkjabGreatDoor
open Go.X
set_option maxRecDepth 100000
-- (*syngraph/history.History).Walk
def sh_history_History_Walk (t0 : Value) (H : Heap) (R : Value → Heap → Prop) : Prop :=
  Mnew H T_P_history_History (some (Value.cells t0)) fun t1 h1 =>
  R (.func (.func f_history_History_Walk_1) #[] #[t1]) h1
theorem sh_history_History_Walk_chk : fchkF prg [] Tryz.f20 1 = true := by kernel_rfl
theorem sh_history_History_Walk_den (t0 : Value) (H : Heap) (R : Value → Heap → Prop) : fdenF prg [] Tryz.f20 [t0] H R = sh_history_History_Walk t0 H R := by kernel_rfl
theorem sh_history_History_Walk_calls {t0 : Value} {H : Heap} {R : Value → Heap → Prop} (h : sh_history_History_Walk t0 H R) : HCalls prg f_history_History_Walk [t0] H R :=
  calls_ofF Tryz.func20 sh_history_History_Walk_chk (by rw [sh_history_History_Walk_den]; exact h)

-- (*syngraph/history.History).Walk$1
def sh_history_History_Walk_1 (t0 t1 : Value) (H : Heap) (R : Value → Heap → Prop) : Prop :=
  Mpu (ld1 H t1) fun t5 =>
  Mpu (nck t5) fun t6 =>
  Mpu (fld 0 t6) fun t7 =>
  Mpu (ld1 H t7) fun t8 =>
  Mpu (lenV t8) fun t9 =>
  L1 (fun k1 => fun t10_2 h2 =>
    Mpu (binV .no .lss t10_2 t9) fun t11 =>
    Mcd t11 (
      Mpu (ixS 36 t8 t10_2) fun t13 =>
      Mpu (ldN 36 h2 t13) fun t14 =>
      Mnew h2 T_history_Record (zcells prg T_history_Record) fun t4 h3 =>
      Mwr (stN 36 h3 t4 t14) fun h4 =>
      Mpu (ldN 36 h4 t4) fun t16 =>
      Mpu (ld1 h4 t1) fun t18 =>
      Mpu (nck t18) fun t19 =>
      Mpu (fld 1 t19) fun t20 =>
      Mpu (ld1 h4 t20) fun t21 =>
      Mpu (ixS 32 t21 t10_2) fun t23 =>
      Mpu (ldN 32 h4 t23) fun t24 =>
      Mcall prg f_history_Record_copied [t16] h4 fun t17 h5 =>
      Mre [(ldN 32 h5 t23, t24), (ld1 h5 t20, t21), (ld1 h5 t1, t18)] (
      Mcallv prg t0 [t17, t24] h5 fun t25 h6 =>
      Mpu (unV .not t25) fun t26 =>
      Mcd t26 (
        R (.tuple #[]) h6) (
        Mpu (binV .no .add t10_2 (.int .i64 1)) fun t27 =>
        k1 t27 h6))) (
      R (.tuple #[]) h2)) ((.int .i64 0)) H
theorem sh_history_History_Walk_1_chk : fchkF prg [10] Tryz.f45 2 = true := by kernel_rfl
theorem sh_history_History_Walk_1_den (t0 t1 : Value) (H : Heap) (R : Value → Heap → Prop) : fdenF prg [10] Tryz.f45 [t0, t1] H R = sh_history_History_Walk_1 t0 t1 H R := by kernel_rfl
theorem sh_history_History_Walk_1_calls {t0 t1 : Value} {H : Heap} {R : Value → Heap → Prop} (h : sh_history_History_Walk_1 t0 t1 H R) : HCalls prg f_history_History_Walk_1 [t0, t1] H R :=
  calls_ofF Tryz.func45 sh_history_History_Walk_1_chk (by rw [sh_history_History_Walk_1_den]; exact h)

end Go.Proofs.YtmhfanpijdgkjabGreatDoor
