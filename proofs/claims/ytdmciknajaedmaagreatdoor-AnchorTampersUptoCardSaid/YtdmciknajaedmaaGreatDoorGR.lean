/- JOINED: Se0 Sf0 Sf1 Sf2 Sf3 -/
import Derived.Test.YtdmciknajaedmaaGreatDoorGE
set_option linter.unusedSimpArgs false
set_option linter.unusedVariables false
/- PRINTED: clean texts -/
namespace Go.Proofs.YtdmciknajaedmaaGreatDoor
open Go.X
set_option maxRecDepth 100000
end Go.Proofs.YtdmciknajaedmaaGreatDoor
/- PRINTED: clean texts -/
namespace Go.Proofs.YtdmciknajaedmaaGreatDoor
open Go.X
set_option maxRecDepth 100000
-- (syngraph/history.Record).Equal
def sh_history_Record_Equal (t0 t1 : Value) (H : Heap) (R : Value → Heap → Prop) : Prop :=
  Mnew H T_history_Record (some (Value.cells t0)) fun t2 h1 =>
  Mnew h1 T_history_Record (some (Value.cells t1)) fun t3 h2 =>
  Mpu (fld 0 t2) fun t5 =>
  Mpu (ld1 h2 t5) fun t6 =>
  Mpu (fld 0 t3) fun t7 =>
  Mpu (ld1 h2 t7) fun t8 =>
  Mpu (binV .no .eql t6 t8) fun t9 =>
  J1 (fun k3 => Mif t9 true (
      Mpu (fld 1 t2) fun t11 =>
      Mpu (ld1 h2 t11) fun t12 =>
      Mpu (fld 1 t3) fun t13 =>
      Mpu (ld1 h2 t13) fun t14 =>
      Mcall prg f_slices_Equal_S_history_Item_history_Item [t12, t14] h2 fun t15 h4 =>
      k3 t15 h4) (
      k3 undef h2)) fun t15_2 h5 =>
  Mpu (pickV t9 t15_2 (.bool false)) fun t16 =>
  J1 (fun k6 => Mif t16 true (
      Mpu (fld 2 t2) fun t18 =>
      Mpu (ld1 h5 t18) fun t19 =>
      Mpu (fld 2 t3) fun t20 =>
      Mpu (ld1 h5 t20) fun t21 =>
      Mcall prg f_slices_Equal_S_history_Item_history_Item [t19, t21] h5 fun t22 h7 =>
      k6 t22 h7) (
      k6 undef h5)) fun t22_2 h8 =>
  Mpu (pickV t16 t22_2 (.bool false)) fun t23 =>
  J1 (fun k9 => Mif t23 true (
      Mpu (fld 3 t2) fun t25 =>
      Mpu (ldN 33 h8 t25) fun t26 =>
      Mpu (fld 3 t3) fun t27 =>
      Mpu (ldN 33 h8 t27) fun t28 =>
      Mpu (binV (eqK prg T_head_Head) .eql t26 t28) fun t29 =>
      k9 t29 h8) (
      k9 undef h8)) fun t29_2 h10 =>
  Mpu (pickV t23 t29_2 (.bool false)) fun t30 =>
  R t30 h10
theorem sh_history_Record_Equal_chk : fchkF prg [15, 22, 29] Tryz.f44 2 = true := by kernel_rfl
theorem sh_history_Record_Equal_den (t0 t1 : Value) (H : Heap) (R : Value → Heap → Prop) : fdenF prg [15, 22, 29] Tryz.f44 [t0, t1] H R = sh_history_Record_Equal t0 t1 H R := by kernel_rfl
theorem sh_history_Record_Equal_calls {t0 t1 : Value} {H : Heap} {R : Value → Heap → Prop} (h : sh_history_Record_Equal t0 t1 H R) : HCalls prg f_history_Record_Equal [t0, t1] H R :=
  calls_ofF Tryz.func44 sh_history_Record_Equal_chk (by rw [sh_history_Record_Equal_den]; exact h)

end Go.Proofs.YtdmciknajaedmaaGreatDoor
/- PRINTED: clean texts -/
namespace Go.Proofs.YtdmciknajaedmaaGreatDoor
open Go.X
set_option maxRecDepth 100000
-- syngraph/wire.NewIn
def sh_wire_NewIn (t0 : Value) (H : Heap) (R : Value → Heap → Prop) : Prop :=
  Mcall prg f_bytes_Clone [t0] H fun t4 h1 =>
  Mpu (buildV prg T_wire_In [(0, t4)]) fun t5 =>
  Mnew h1 T_wire_In (some (Value.cells t5)) fun t6 h2 =>
  R t6 h2
theorem sh_wire_NewIn_chk : fchkF prg [] Tryz.f51 1 = true := by kernel_rfl
theorem sh_wire_NewIn_den (t0 : Value) (H : Heap) (R : Value → Heap → Prop) : fdenF prg [] Tryz.f51 [t0] H R = sh_wire_NewIn t0 H R := by kernel_rfl
theorem sh_wire_NewIn_calls {t0 : Value} {H : Heap} {R : Value → Heap → Prop} (h : sh_wire_NewIn t0 H R) : HCalls prg f_wire_NewIn [t0] H R :=
  calls_ofF Tryz.func51 sh_wire_NewIn_chk (by rw [sh_wire_NewIn_den]; exact h)

-- (*syngraph/wire.In).Int
def sh_wire_In_Int (t0 : Value) (H : Heap) (R : Value → Heap → Prop) : Prop :=
  Mcall prg f_wire_In_take [t0, (.int .i64 8)] H fun t5 h1 =>
  Mpu (nck t0) fun t7 =>
  Mpu (fld 1 t7) fun t8 =>
  Mpu (ld1 h1 t8) fun t9 =>
  Mcd t9 (
    R (.int .i64 0) h1) (
    Mcall prg f_wire_number [t5] h1 fun t11 h2 =>
    R t11 h2)
theorem sh_wire_In_Int_chk : fchkF prg [] Tryz.f77 1 = true := by kernel_rfl
theorem sh_wire_In_Int_den (t0 : Value) (H : Heap) (R : Value → Heap → Prop) : fdenF prg [] Tryz.f77 [t0] H R = sh_wire_In_Int t0 H R := by kernel_rfl
theorem sh_wire_In_Int_calls {t0 : Value} {H : Heap} {R : Value → Heap → Prop} (h : sh_wire_In_Int t0 H R) : HCalls prg f_wire_In_Int [t0] H R :=
  calls_ofF Tryz.func77 sh_wire_In_Int_chk (by rw [sh_wire_In_Int_den]; exact h)

-- (*syngraph/wire.In).Hash
def sh_wire_In_Hash (t0 : Value) (H : Heap) (R : Value → Heap → Prop) : Prop :=
  Mnew H T_sha_Hash (zcells prg T_sha_Hash) fun t2 h1 =>
  Mnew h1 T_sha_Hash (zcells prg T_sha_Hash) fun t3 h2 =>
  Mpu (slA 32 1 t3 none none none) fun t4 =>
  Mcall prg f_wire_In_take [t0, (.int .i64 32)] h2 fun t6 h3 =>
  Mcopy 1 h3 t4 t6 fun t7 h4 =>
  Mpu (ldN 32 h4 t3) fun t8 =>
  Mwr (stN 32 h4 t2 t8) fun h5 =>
  Mpu (ldN 32 h5 t2) fun r6 =>
  R r6 h5
theorem sh_wire_In_Hash_chk : fchkF prg [] Tryz.f53 1 = true := by kernel_rfl
theorem sh_wire_In_Hash_den (t0 : Value) (H : Heap) (R : Value → Heap → Prop) : fdenF prg [] Tryz.f53 [t0] H R = sh_wire_In_Hash t0 H R := by kernel_rfl
theorem sh_wire_In_Hash_calls {t0 : Value} {H : Heap} {R : Value → Heap → Prop} (h : sh_wire_In_Hash t0 H R) : HCalls prg f_wire_In_Hash [t0] H R :=
  calls_ofF Tryz.func53 sh_wire_In_Hash_chk (by rw [sh_wire_In_Hash_den]; exact h)

-- (*syngraph/wire.In).Done
def sh_wire_In_Done (t0 : Value) (H : Heap) (R : Value → Heap → Prop) : Prop :=
  Mpu (nck t0) fun t4 =>
  Mpu (fld 1 t4) fun t5 =>
  Mpu (ld1 H t5) fun t6 =>
  Mpu (unV .not t6) fun t7 =>
  J1 (fun k1 => Mif t7 true (
      Mpu (nck t0) fun t10 =>
      Mpu (fld 0 t10) fun t11 =>
      Mpu (ld1 H t11) fun t12 =>
      Mpu (lenV t12) fun t13 =>
      Mpu (binV .no .eql t13 (.int .i64 0)) fun t14 =>
      k1 t14 H) (
      k1 undef H)) fun t14_2 h2 =>
  Mpu (pickV t7 t14_2 (.bool false)) fun t15 =>
  R t15 h2
theorem sh_wire_In_Done_chk : fchkF prg [14] Tryz.f55 1 = true := by kernel_rfl
theorem sh_wire_In_Done_den (t0 : Value) (H : Heap) (R : Value → Heap → Prop) : fdenF prg [14] Tryz.f55 [t0] H R = sh_wire_In_Done t0 H R := by kernel_rfl
theorem sh_wire_In_Done_calls {t0 : Value} {H : Heap} {R : Value → Heap → Prop} (h : sh_wire_In_Done t0 H R) : HCalls prg f_wire_In_Done [t0] H R :=
  calls_ofF Tryz.func55 sh_wire_In_Done_chk (by rw [sh_wire_In_Done_den]; exact h)

-- bytes.Equal
def sh_bytes_Equal (t0 t1 : Value) (H : Heap) (R : Value → Heap → Prop) : Prop :=
  Mpu (b2s H t0) fun t6 =>
  Mpu (b2s H t1) fun t8 =>
  Mpu (binV .no .eql t6 t8) fun t9 =>
  R t9 H
theorem sh_bytes_Equal_chk : fchkF prg [] Tryz.f73 2 = true := by kernel_rfl
theorem sh_bytes_Equal_den (t0 t1 : Value) (H : Heap) (R : Value → Heap → Prop) : fdenF prg [] Tryz.f73 [t0, t1] H R = sh_bytes_Equal t0 t1 H R := by kernel_rfl
theorem sh_bytes_Equal_calls {t0 t1 : Value} {H : Heap} {R : Value → Heap → Prop} (h : sh_bytes_Equal t0 t1 H R) : HCalls prg f_bytes_Equal [t0, t1] H R :=
  calls_ofF Tryz.func73 sh_bytes_Equal_chk (by rw [sh_bytes_Equal_den]; exact h)

end Go.Proofs.YtdmciknajaedmaaGreatDoor
/- PRINTED: clean texts -/
namespace Go.Proofs.YtdmciknajaedmaaGreatDoor
open Go.X
set_option maxRecDepth 100000
-- syngraph/syngraphref03.Join
def sh_syngraphref03_Join (t0 : Value) (H : Heap) (R : Value → Heap → Prop) : Prop :=
  J2 (fun k1 =>
    L2 (fun k3 => fun t3_2 t4_2 h4 =>
      Mpu (lenV t0) fun t7 =>
      Mpu (binV .no .lss t4_2 t7) fun t8 =>
      Mcd t8 (
        Mpu (ixS 1 t0 t4_2) fun t14 =>
        Mpu (ld1 h4 t14) fun t15 =>
        Mapp T_uint8 1 1 h4 t3_2 t15 fun t16 h5 =>
        Mpu (binV .no .add t4_2 (.int .i64 1)) fun t10 =>
        k3 t16 t10 h5) (
        k1 t3_2 t4_2 h4)) ((.slice none 0 0)) ((.int .i64 0)) H) fun t3_4 t4_4 h2 =>
  R t3_4 h2
theorem sh_syngraphref03_Join_chk : fchkF prg [3, 4] Tryz.f62 1 = true := by kernel_rfl
theorem sh_syngraphref03_Join_den (t0 : Value) (H : Heap) (R : Value → Heap → Prop) : fdenF prg [3, 4] Tryz.f62 [t0] H R = sh_syngraphref03_Join t0 H R := by kernel_rfl
theorem sh_syngraphref03_Join_calls {t0 : Value} {H : Heap} {R : Value → Heap → Prop} (h : sh_syngraphref03_Join t0 H R) : HCalls prg f_syngraphref03_Join [t0] H R :=
  calls_ofF Tryz.func62 sh_syngraphref03_Join_chk (by rw [sh_syngraphref03_Join_den]; exact h)

-- syngraph/syngraphref03.Int
def sh_syngraphref03_Int (t0 : Value) (H : Heap) (R : Value → Heap → Prop) : Prop :=
  Mcall prg f_syngraphref02_Number [t0, (.int .i64 8)] H fun t4 h1 =>
  R t4 h1
theorem sh_syngraphref03_Int_chk : fchkF prg [] Tryz.f63 1 = true := by kernel_rfl
theorem sh_syngraphref03_Int_den (t0 : Value) (H : Heap) (R : Value → Heap → Prop) : fdenF prg [] Tryz.f63 [t0] H R = sh_syngraphref03_Int t0 H R := by kernel_rfl
theorem sh_syngraphref03_Int_calls {t0 : Value} {H : Heap} {R : Value → Heap → Prop} (h : sh_syngraphref03_Int t0 H R) : HCalls prg f_syngraphref03_Int [t0] H R :=
  calls_ofF Tryz.func63 sh_syngraphref03_Int_chk (by rw [sh_syngraphref03_Int_den]; exact h)

-- (*syngraph/wire.In).take
def sh_wire_In_take (t0 t1 : Value) (H : Heap) (R : Value → Heap → Prop) : Prop :=
  Mpu (nck t0) fun t7 =>
  Mpu (fld 1 t7) fun t8 =>
  Mpu (ld1 H t8) fun t9 =>
  J1 (fun k1 => Mif t9 false (
      Mpu (nck t0) fun t13 =>
      Mpu (fld 0 t13) fun t14 =>
      Mpu (ld1 H t14) fun t15 =>
      Mpu (lenV t15) fun t16 =>
      Mpu (binV .no .gtr t1 t16) fun t17 =>
      k1 t17 H) (
      k1 undef H)) fun t17_2 h2 =>
  Mpu (pickV t9 (.bool true) t17_2) fun t18 =>
  Mcd t18 (
    Mpu (nck t0) fun t20 =>
    Mpu (fld 1 t20) fun t21 =>
    Mwr (st1 h2 t21 (.bool true)) fun h3 =>
    R (.slice none 0 0) h3) (
    Mpu (nck t0) fun t23 =>
    Mpu (fld 0 t23) fun t24 =>
    Mpu (ld1 h2 t24) fun t25 =>
    Mpu (slS 1 t25 none (some t1) (some t1)) fun t28 =>
    Mpu (nck t0) fun t31 =>
    Mpu (fld 0 t31) fun t32 =>
    Mpu (ld1 h2 t32) fun t33 =>
    Mpu (slS 1 t33 (some t1) none none) fun t35 =>
    Mpu (nck t0) fun t36 =>
    Mpu (fld 0 t36) fun t37 =>
    Mwr (st1 h2 t37 t35) fun h4 =>
    R t28 h4)
theorem sh_wire_In_take_chk : fchkF prg [17] Tryz.f78 2 = true := by kernel_rfl
theorem sh_wire_In_take_den (t0 t1 : Value) (H : Heap) (R : Value → Heap → Prop) : fdenF prg [17] Tryz.f78 [t0, t1] H R = sh_wire_In_take t0 t1 H R := by kernel_rfl
theorem sh_wire_In_take_calls {t0 t1 : Value} {H : Heap} {R : Value → Heap → Prop} (h : sh_wire_In_take t0 t1 H R) : HCalls prg f_wire_In_take [t0, t1] H R :=
  calls_ofF Tryz.func78 sh_wire_In_take_chk (by rw [sh_wire_In_take_den]; exact h)

-- syngraph/wire.number
def sh_wire_number (t0 : Value) (H : Heap) (R : Value → Heap → Prop) : Prop :=
  J2 (fun k1 =>
    Mpu (lenV t0) fun t7 =>
    L2 (fun k3 => fun t3_2 t8_2 h4 =>
      Mpu (binV .no .lss t8_2 t7) fun t9 =>
      Mcd t9 (
        Mpu (ixS 1 t0 t8_2) fun t10 =>
        Mpu (ld1 h4 t10) fun t11 =>
        Mpu (binV .no .shl t3_2 (.int .u64 8)) fun t13 =>
        Mpu (cvI .u64 t11) fun t15 =>
        Mpu (binV .no .or t13 t15) fun t16 =>
        Mpu (binV .no .add t8_2 (.int .i64 1)) fun t17 =>
        k3 t16 t17 h4) (
        k1 t3_2 t8_2 h4)) ((.int .u64 0)) ((.int .i64 0)) H) fun t3_4 t8_4 h2 =>
  Mpu (cvI .i64 t3_4) fun t19 =>
  R t19 h2
theorem sh_wire_number_chk : fchkF prg [3, 8] Tryz.f88 1 = true := by kernel_rfl
theorem sh_wire_number_den (t0 : Value) (H : Heap) (R : Value → Heap → Prop) : fdenF prg [3, 8] Tryz.f88 [t0] H R = sh_wire_number t0 H R := by kernel_rfl
theorem sh_wire_number_calls {t0 : Value} {H : Heap} {R : Value → Heap → Prop} (h : sh_wire_number t0 H R) : HCalls prg f_wire_number [t0] H R :=
  calls_ofF Tryz.func88 sh_wire_number_chk (by rw [sh_wire_number_den]; exact h)

-- (*syngraph/wire.In).Count
def sh_wire_In_Count (t0 t1 t2 : Value) (H : Heap) (R : Value → Heap → Prop) : Prop :=
  Mcall prg f_wire_In_Int [t0] H fun t9 h1 =>
  Mpu (nck t0) fun t11 =>
  Mpu (fld 1 t11) fun t12 =>
  Mpu (ld1 h1 t12) fun t13 =>
  J1 (fun k2 => Mif t13 false (
      Mpu (binV .no .lss t9 t1) fun t17 =>
      k2 t17 h1) (
      k2 undef h1)) fun t17_2 h3 =>
  Mpu (pickV t13 (.bool true) t17_2) fun t18 =>
  J1 (fun k4 => Mif t18 false (
      Mpu (binV .no .gtr t9 t2) fun t22 =>
      k4 t22 h3) (
      k4 undef h3)) fun t22_2 h5 =>
  Mpu (pickV t18 (.bool true) t22_2) fun t23 =>
  Mcd t23 (
    Mpu (nck t0) fun t25 =>
    Mpu (fld 1 t25) fun t26 =>
    Mwr (st1 h5 t26 (.bool true)) fun h6 =>
    R (.int .i64 0) h6) (
    R t9 h5)
theorem sh_wire_In_Count_chk : fchkF prg [17, 22] Tryz.f52 3 = true := by kernel_rfl
theorem sh_wire_In_Count_den (t0 t1 t2 : Value) (H : Heap) (R : Value → Heap → Prop) : fdenF prg [17, 22] Tryz.f52 [t0, t1, t2] H R = sh_wire_In_Count t0 t1 t2 H R := by kernel_rfl
theorem sh_wire_In_Count_calls {t0 t1 t2 : Value} {H : Heap} {R : Value → Heap → Prop} (h : sh_wire_In_Count t0 t1 t2 H R) : HCalls prg f_wire_In_Count [t0, t1, t2] H R :=
  calls_ofF Tryz.func52 sh_wire_In_Count_chk (by rw [sh_wire_In_Count_den]; exact h)

-- syngraph/syngraphref02.Number
def sh_syngraphref02_Number (t0 t1 : Value) (H : Heap) (R : Value → Heap → Prop) : Prop :=
  Mmks prg H T_uint8 t1 t1 fun t8 h1 =>
  J2 (fun k2 =>
    Mpu (binV .no .sub t1 (.int .i64 1)) fun t10 =>
    L2 (fun k4 => fun t0_2 t6_2 h5 =>
      Mpu (binV .no .geq t6_2 (.int .i64 0)) fun t12 =>
      Mcd t12 (
        Mpu (cvI .u8 t0_2) fun t18 =>
        Mpu (ixS 1 t8 t6_2) fun t19 =>
        Mwr (st1 h5 t19 t18) fun h6 =>
        Mpu (binV .no .shr t0_2 (.int .u64 8)) fun t21 =>
        Mpu (binV .no .sub t6_2 (.int .i64 1)) fun t14 =>
        k4 t21 t14 h6) (
        k2 t0_2 t6_2 h5)) (t0) (t10) h1) fun t0_4 t6_4 h3 =>
  R t8 h3
theorem sh_syngraphref02_Number_chk : fchkF prg [0, 6] Tryz.f80 2 = true := by kernel_rfl
theorem sh_syngraphref02_Number_den (t0 t1 : Value) (H : Heap) (R : Value → Heap → Prop) : fdenF prg [0, 6] Tryz.f80 [t0, t1] H R = sh_syngraphref02_Number t0 t1 H R := by kernel_rfl
theorem sh_syngraphref02_Number_calls {t0 t1 : Value} {H : Heap} {R : Value → Heap → Prop} (h : sh_syngraphref02_Number t0 t1 H R) : HCalls prg f_syngraphref02_Number [t0, t1] H R :=
  calls_ofF Tryz.func80 sh_syngraphref02_Number_chk (by rw [sh_syngraphref02_Number_den]; exact h)

end Go.Proofs.YtdmciknajaedmaaGreatDoor
/- PRINTED: clean texts -/
namespace Go.Proofs.YtdmciknajaedmaaGreatDoor
open Go.X
set_option maxRecDepth 100000
end Go.Proofs.YtdmciknajaedmaaGreatDoor
