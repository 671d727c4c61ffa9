/- PRINTED: clean texts -/
import Derived.Test.YtmhfanpijdgkjaaDoorSa
namespace Go.Proofs.YtmhfanpijdgkjaaDoor
open Go.X
set_option maxRecDepth 100000
-- syngraph/syngraphlaw22.HistoryHeads
def sh_syngraphlaw22_HistoryHeads (t0 : Value) (H : Heap) (R : Value → Heap → Prop) : Prop :=
  Mnew H T_head_Head (some (Value.cells t0)) fun t1 h1 =>
  Mcall prg f_syngraphlaw22_one [] h1 fun t4 h2 =>
  Mnew h2 T_history_Record (zcells prg T_history_Record) fun t3 h3 =>
  Mwr (stN 36 h3 t3 t4) fun h4 =>
  Mpu (ldN 33 h4 t1) fun t5 =>
  Mpu (fld 3 t3) fun t6 =>
  Mwr (stN 33 h4 t6 t5) fun h5 =>
  Mpu (ldN 36 h5 t3) fun t7 =>
  Mpu (fld 0 t1) fun t9 =>
  Mpu (ld1 h5 t9) fun t10 =>
  Mpu (binV .no .geq t10 (.int .i64 0)) fun t11 =>
  Mcall prg f_history_Record_Right [t7] h5 fun t8 h6 =>
  Mre [(ld1 h6 t9, t10)] (
  J1 (fun k7 => Mif t11 true (
      Mpu (fld 0 t1) fun t13 =>
      Mpu (ld1 h6 t13) fun t14 =>
      Mpu (binV .no .leq t14 (.int .i64 1048576)) fun t15 =>
      k7 t15 h6) (
      k7 undef h6)) fun t15_2 h8 =>
  Mpu (pickV t11 t15_2 (.bool false)) fun t16 =>
  Mpu (binV .bool .eql t8 t16) fun t17 =>
  J1 (fun k9 => Mif t17 true (
      Mcall prg f_syngraphlaw22_awake [] h8 fun t19 h10 =>
      k9 t19 h10) (
      k9 undef h8)) fun t19_2 h11 =>
  Mpu (pickV t17 t19_2 (.bool false)) fun t20 =>
  R t20 h11)
theorem sh_syngraphlaw22_HistoryHeads_chk : fchk prg [15, 19] Tryd.f3 1 = true := by kernel_rfl
theorem sh_syngraphlaw22_HistoryHeads_den (t0 : Value) (H : Heap) (R : Value → Heap → Prop) : fden prg [15, 19] Tryd.f3 [t0] H R = sh_syngraphlaw22_HistoryHeads t0 H R := by kernel_rfl
theorem sh_syngraphlaw22_HistoryHeads_calls {t0 : Value} {H : Heap} {R : Value → Heap → Prop} (h : sh_syngraphlaw22_HistoryHeads t0 H R) : HCalls prg f_syngraphlaw22_HistoryHeads [t0] H R :=
  calls_of Tryd.func3 sh_syngraphlaw22_HistoryHeads_chk (by rw [sh_syngraphlaw22_HistoryHeads_den]; exact h)

-- syngraph/syngraphlaw22.one
def sh_syngraphlaw22_one (H : Heap) (R : Value → Heap → Prop) : Prop :=
  Mnew H T_history_Record (zcells prg T_history_Record) fun t0 h1 =>
  Mpu (buildV prg T_A3_int [(0, (.int .i64 1)), (1, (.int .i64 2)), (2, (.int .i64 3))]) fun t1 =>
  Mpu (buildV prg T_version_Version [(0, t1)]) fun t2 =>
  Mpu (buildV prg T_history_Item [(0, (.string ⟨#[97]⟩)), (1, t2)]) fun t3 =>
  Mnews h1 T_history_Item 1 (bslV prg T_history_Item 1 [(0, t3)]) fun t4 h2 =>
  Mpu (buildV prg T_history_Record [(0, (.int .i64 1)), (2, t4)]) fun t5 =>
  Mwr (stN 36 h2 t0 t5) fun h3 =>
  Mpu (ldN 36 h3 t0) fun r4 =>
  R r4 h3
theorem sh_syngraphlaw22_one_chk : fchk prg [] Tryd.f13 0 = true := by kernel_rfl
theorem sh_syngraphlaw22_one_den (H : Heap) (R : Value → Heap → Prop) : fden prg [] Tryd.f13 [] H R = sh_syngraphlaw22_one H R := by kernel_rfl
theorem sh_syngraphlaw22_one_calls {H : Heap} {R : Value → Heap → Prop} (h : sh_syngraphlaw22_one H R) : HCalls prg f_syngraphlaw22_one [] H R :=
  calls_of Tryd.func13 sh_syngraphlaw22_one_chk (by rw [sh_syngraphlaw22_one_den]; exact h)

-- (syngraph/history.Record).Right
def sh_history_Record_Right (t0 : Value) (H : Heap) (R : Value → Heap → Prop) : Prop :=
  Mnew H T_history_Record (some (Value.cells t0)) fun t1 h1 =>
  Mpu (fld 0 t1) fun t3 =>
  Mpu (ld1 h1 t3) fun t4 =>
  Mpu (binV .no .geq t4 (.int .i64 1)) fun t5 =>
  J1 (fun k2 => Mif t5 true (
      Mpu (fld 0 t1) fun t7 =>
      Mpu (ld1 h1 t7) fun t8 =>
      Mpu (binV .no .leq t8 (.int .i64 4)) fun t9 =>
      k2 t9 h1) (
      k2 undef h1)) fun t9_2 h3 =>
  Mpu (pickV t5 t9_2 (.bool false)) fun t10 =>
  J1 (fun k4 => Mif t10 true (
      Mpu (fld 1 t1) fun t12 =>
      Mpu (ld1 h3 t12) fun t13 =>
      Mcall prg f_history_items [t13] h3 fun t14 h5 =>
      k4 t14 h5) (
      k4 undef h3)) fun t14_2 h6 =>
  Mpu (pickV t10 t14_2 (.bool false)) fun t15 =>
  J1 (fun k7 => Mif t15 true (
      Mpu (fld 2 t1) fun t17 =>
      Mpu (ld1 h6 t17) fun t18 =>
      Mcall prg f_history_items [t18] h6 fun t19 h8 =>
      k7 t19 h8) (
      k7 undef h6)) fun t19_2 h9 =>
  Mpu (pickV t15 t19_2 (.bool false)) fun t20 =>
  J1 (fun k10 => Mif t20 true (
      Mpu (fld 3 t1) fun t22 =>
      Mpu (ldN 33 h9 t22) fun t23 =>
      Mcall prg f_head_Head_Right [t23] h9 fun t24 h11 =>
      k10 t24 h11) (
      k10 undef h9)) fun t24_2 h12 =>
  Mpu (pickV t20 t24_2 (.bool false)) fun t25 =>
  R t25 h12
theorem sh_history_Record_Right_chk : fchk prg [9, 14, 19, 24] Tryd.f14 1 = true := by kernel_rfl
theorem sh_history_Record_Right_den (t0 : Value) (H : Heap) (R : Value → Heap → Prop) : fden prg [9, 14, 19, 24] Tryd.f14 [t0] H R = sh_history_Record_Right t0 H R := by kernel_rfl
theorem sh_history_Record_Right_calls {t0 : Value} {H : Heap} {R : Value → Heap → Prop} (h : sh_history_Record_Right t0 H R) : HCalls prg f_history_Record_Right [t0] H R :=
  calls_of Tryd.func14 sh_history_Record_Right_chk (by rw [sh_history_Record_Right_den]; exact h)

-- syngraph/syngraphlaw22.awake
def sh_syngraphlaw22_awake (H : Heap) (R : Value → Heap → Prop) : Prop :=
  Mcall prg f_history_New [] H fun t2 h1 =>
  Mpu (binV .ptr .eql t2 (.pointer none)) fun t4 =>
  J1 (fun k2 => Mif t4 false (
      Mcall prg f_history_History_Top [t2] h1 fun t7 h3 =>
      Mpu (buildV prg T_sha_Hash []) fun t8 =>
      Mpu (binV (eqK prg T_sha_Hash) .neq t7 t8) fun t9 =>
      k2 t9 h3) (
      k2 undef h1)) fun t9_2 h4 =>
  Mpu (pickV t4 (.bool true) t9_2) fun t10 =>
  J1 (fun k5 => Mif t10 false (
      Mcall prg f_syngraphlaw22_one [] h4 fun t13 h6 =>
      Mcall prg f_history_History_Append [t2, t13] h6 fun t14 h7 =>
      Mpu (binV .no .neq t14 (.int .i64 0)) fun t15 =>
      k5 t15 h7) (
      k5 undef h4)) fun t15_2 h8 =>
  Mpu (pickV t10 (.bool true) t15_2) fun t16 =>
  J1 (fun k9 => Mif t16 false (
      Mcall prg f_syngraphlaw22_one [] h8 fun t19 h10 =>
      Mcall prg f_history_History_Append [t2, t19] h10 fun t20 h11 =>
      Mpu (binV .no .neq t20 (.int .i64 10)) fun t21 =>
      k9 t21 h11) (
      k9 undef h8)) fun t21_2 h12 =>
  Mpu (pickV t16 (.bool true) t21_2) fun t22 =>
  Mcd t22 (
    R (.bool false) h12) (
    Mcall prg f_history_History_Len [t2] h12 fun t24 h13 =>
    Mpu (binV .no .eql t24 (.int .i64 1)) fun t25 =>
    J1 (fun k14 => Mif t25 true (
        Mcall prg f_history_History_Top [t2] h13 fun t28 h15 =>
        Mpu (buildV prg T_sha_Hash []) fun t29 =>
        Mcall prg f_syngraphlaw22_one [] h15 fun t30 h16 =>
        Mcall prg f_history_Record_Bytes [t30] h16 fun t31 h17 =>
        Mcall prg f_tag_Record [t29, t31] h17 fun t32 h18 =>
        Mpu (binV (eqK prg T_sha_Hash) .eql t28 t32) fun t33 =>
        k14 t33 h18) (
        k14 undef h13)) fun t33_2 h19 =>
    Mpu (pickV t25 t33_2 (.bool false)) fun t34 =>
    J1 (fun k20 => Mif t34 true (
        Mcall prg f_history_History_Now [t2] h19 fun t37 h21 =>
        Mpu (lenV t37) fun t38 =>
        Mpu (binV .no .eql t38 (.int .i64 1)) fun t39 =>
        k20 t39 h21) (
        k20 undef h19)) fun t39_2 h22 =>
    Mpu (pickV t34 t39_2 (.bool false)) fun t40 =>
    R t40 h22)
theorem sh_syngraphlaw22_awake_chk : fchk prg [9, 15, 21, 33, 39] Tryd.f15 0 = true := by kernel_rfl
theorem sh_syngraphlaw22_awake_den (H : Heap) (R : Value → Heap → Prop) : fden prg [9, 15, 21, 33, 39] Tryd.f15 [] H R = sh_syngraphlaw22_awake H R := by kernel_rfl
theorem sh_syngraphlaw22_awake_calls {H : Heap} {R : Value → Heap → Prop} (h : sh_syngraphlaw22_awake H R) : HCalls prg f_syngraphlaw22_awake [] H R :=
  calls_of Tryd.func15 sh_syngraphlaw22_awake_chk (by rw [sh_syngraphlaw22_awake_den]; exact h)

-- (syngraph/version.Version).Show
def sh_version_Version_Show (t0 : Value) (H : Heap) (R : Value → Heap → Prop) : Prop :=
  Mnew H T_version_Version (some (Value.cells t0)) fun t1 h1 =>
  Mpu (ldN 4 h1 t1) fun t7 =>
  Mcall prg f_version_Version_Right [t7] h1 fun t8 h2 =>
  Mpu (unV .not t8) fun t9 =>
  Mcd t9 (
    R (.string ⟨#[]⟩) h2) (
    J2 (fun k3 =>
      Mpu (fld 0 t1) fun t10 =>
      Mpu (ldN 3 h2 t10) fun t11 =>
      L2 (fun k5 => fun t3_2 t12_2 h6 =>
        Mpu (binV .no .lss t12_2 (.int .i64 3)) fun t13 =>
        Mcd t13 (
          Mpu (ixV 3 false 1 t11 t12_2) fun t14 =>
          Mcall prg f_strconv_Itoa [t14] h6 fun t17 h7 =>
          Mnews h7 T_string 1 (bslV prg T_string 1 [(0, t17)]) fun t18 h8 =>
          Mapp T_string 1 16 h8 t3_2 t18 fun t19 h9 =>
          Mpu (binV .no .add t12_2 (.int .i64 1)) fun t20 =>
          k5 t19 t20 h9) (
          k3 t3_2 t12_2 h6)) ((.slice none 0 0)) ((.int .i64 0)) h2) fun t3_4 t12_4 h4 =>
    Mcall prg f_strings_Join [t3_4, (.string ⟨#[46]⟩)] h4 fun t22 h10 =>
    J1 (fun k11 =>
      Mpu (fld 3 t1) fun t23 =>
      Mpu (ld1 h10 t23) fun t24 =>
      Mpu (binV .no .neq t24 (.string ⟨#[]⟩)) fun t25 =>
      Mcd t25 (
        Mpu (fld 3 t1) fun t27 =>
        Mpu (ld1 h10 t27) fun t28 =>
        Mpu (binV .no .add (.string ⟨#[45]⟩) t28) fun t29 =>
        Mpu (binV .no .add t22 t29) fun t30 =>
        k11 t30 h10) (
        k11 t22 h10)) fun t6_3 h12 =>
    R t6_3 h12)
theorem sh_version_Version_Show_chk : fchk prg [3, 6, 12] Tryd.f19 1 = true := by kernel_rfl
theorem sh_version_Version_Show_den (t0 : Value) (H : Heap) (R : Value → Heap → Prop) : fden prg [3, 6, 12] Tryd.f19 [t0] H R = sh_version_Version_Show t0 H R := by kernel_rfl
theorem sh_version_Version_Show_calls {t0 : Value} {H : Heap} {R : Value → Heap → Prop} (h : sh_version_Version_Show t0 H R) : HCalls prg f_version_Version_Show [t0] H R :=
  calls_of Tryd.func19 sh_version_Version_Show_chk (by rw [sh_version_Version_Show_den]; exact h)

-- (*syngraph/history.History).Len
def sh_history_History_Len (t0 : Value) (H : Heap) (R : Value → Heap → Prop) : Prop :=
  Mpu (nck t0) fun t4 =>
  Mpu (fld 0 t4) fun t5 =>
  Mpu (ld1 H t5) fun t6 =>
  Mpu (lenV t6) fun t7 =>
  R t7 H
theorem sh_history_History_Len_chk : fchk prg [] Tryd.f24 1 = true := by kernel_rfl
theorem sh_history_History_Len_den (t0 : Value) (H : Heap) (R : Value → Heap → Prop) : fden prg [] Tryd.f24 [t0] H R = sh_history_History_Len t0 H R := by kernel_rfl
theorem sh_history_History_Len_calls {t0 : Value} {H : Heap} {R : Value → Heap → Prop} (h : sh_history_History_Len t0 H R) : HCalls prg f_history_History_Len [t0] H R :=
  calls_of Tryd.func24 sh_history_History_Len_chk (by rw [sh_history_History_Len_den]; exact h)

-- (*syngraph/history.History).Top
def sh_history_History_Top (t0 : Value) (H : Heap) (R : Value → Heap → Prop) : Prop :=
  Mnew H T_sha_Hash (zcells prg T_sha_Hash) fun t2 h1 =>
  Mpu (nck t0) fun t4 =>
  Mpu (fld 1 t4) fun t5 =>
  Mpu (ld1 h1 t5) fun t6 =>
  Mpu (lenV t6) fun t7 =>
  Mpu (binV .no .eql t7 (.int .i64 0)) fun t8 =>
  Mcd t8 (
    Mpu (buildV prg T_sha_Hash []) fun t9 =>
    Mwr (stN 32 h1 t2 t9) fun h2 =>
    Mpu (ldN 32 h2 t2) fun r3 =>
    R r3 h2) (
    Mpu (nck t0) fun t11 =>
    Mpu (fld 1 t11) fun t12 =>
    Mpu (ld1 h1 t12) fun t13 =>
    Mpu (nck t0) fun t15 =>
    Mpu (fld 1 t15) fun t16 =>
    Mpu (ld1 h1 t16) fun t17 =>
    Mpu (lenV t17) fun t18 =>
    Mpu (binV .no .sub t18 (.int .i64 1)) fun t19 =>
    Mpu (ixS 32 t13 t19) fun t20 =>
    Mpu (ldN 32 h1 t20) fun t21 =>
    Mwr (stN 32 h1 t2 t21) fun h4 =>
    Mpu (ldN 32 h4 t2) fun r5 =>
    R r5 h4)
theorem sh_history_History_Top_chk : fchk prg [] Tryd.f25 1 = true := by kernel_rfl
theorem sh_history_History_Top_den (t0 : Value) (H : Heap) (R : Value → Heap → Prop) : fden prg [] Tryd.f25 [t0] H R = sh_history_History_Top t0 H R := by kernel_rfl
theorem sh_history_History_Top_calls {t0 : Value} {H : Heap} {R : Value → Heap → Prop} (h : sh_history_History_Top t0 H R) : HCalls prg f_history_History_Top [t0] H R :=
  calls_of Tryd.func25 sh_history_History_Top_chk (by rw [sh_history_History_Top_den]; exact h)

-- (syngraph/version.Version).Right
def sh_version_Version_Right (t0 : Value) (H : Heap) (R : Value → Heap → Prop) : Prop :=
  Mnew H T_version_Version (some (Value.cells t0)) fun t1 h1 =>
  J1 (fun k2 =>
    Mpu (fld 0 t1) fun t5 =>
    Mpu (ldN 3 h1 t5) fun t6 =>
    L1 (fun k4 => fun t7_2 h5 =>
      Mpu (binV .no .lss t7_2 (.int .i64 3)) fun t8 =>
      Mcd t8 (
        Mpu (ixV 3 false 1 t6 t7_2) fun t9 =>
        Mpu (binV .no .lss t9 (.int .i64 0)) fun t11 =>
        J1 (fun k6 => Mif t11 false (
            Mpu (binV .no .gtr t9 (.int .i64 999999)) fun t14 =>
            k6 t14 h5) (
            k6 undef h5)) fun t14_2 h7 =>
        Mpu (pickV t11 (.bool true) t14_2) fun t15 =>
        Mcd t15 (
          R (.bool false) h7) (
          Mpu (binV .no .add t7_2 (.int .i64 1)) fun t16 =>
          k4 t16 h7)) (
        k2 t7_2 h5)) ((.int .i64 0)) h1) fun t7_4 h3 =>
  Mpu (fld 3 t1) fun t17 =>
  Mpu (ld1 h3 t17) fun t18 =>
  Mpu (lenT t18) fun t19 =>
  Mpu (binV .no .leq t19 (.int .i64 16)) fun t20 =>
  J1 (fun k8 => Mif t20 true (
      Mpu (fld 3 t1) fun t22 =>
      Mpu (ld1 h3 t22) fun t23 =>
      Mcall prg f_strings_Trim [t23, (.string ⟨#[97, 98, 99, 100, 101, 102, 103, 104, 105, 106, 107, 108, 109, 110, 111, 112, 113, 114, 115, 116, 117, 118, 119, 120, 121, 122, 48, 49, 50, 51, 52, 53, 54, 55, 56, 57]⟩)] h3 fun t24 h9 =>
      Mpu (binV .no .eql t24 (.string ⟨#[]⟩)) fun t25 =>
      k8 t25 h9) (
      k8 undef h3)) fun t25_2 h10 =>
  Mpu (pickV t20 t25_2 (.bool false)) fun t26 =>
  R t26 h10
theorem sh_version_Version_Right_chk : fchk prg [7, 14, 25] Tryd.f28 1 = true := by kernel_rfl
theorem sh_version_Version_Right_den (t0 : Value) (H : Heap) (R : Value → Heap → Prop) : fden prg [7, 14, 25] Tryd.f28 [t0] H R = sh_version_Version_Right t0 H R := by kernel_rfl
theorem sh_version_Version_Right_calls {t0 : Value} {H : Heap} {R : Value → Heap → Prop} (h : sh_version_Version_Right t0 H R) : HCalls prg f_version_Version_Right [t0] H R :=
  calls_of Tryd.func28 sh_version_Version_Right_chk (by rw [sh_version_Version_Right_den]; exact h)

-- syngraph/history.items
def sh_history_items (t0 : Value) (H : Heap) (R : Value → Heap → Prop) : Prop :=
  J1 (fun k1 =>
    Mpu (lenV t0) fun t6 =>
    L1 (fun k3 => fun t7_2 h4 =>
      Mpu (binV .no .lss t7_2 t6) fun t8 =>
      Mcd t8 (
        Mpu (ixS 37 t0 t7_2) fun t10 =>
        Mpu (ldN 37 h4 t10) fun t11 =>
        Mnew h4 T_history_Item (zcells prg T_history_Item) fun t4 h5 =>
        Mwr (stN 37 h5 t4 t11) fun h6 =>
        Mpu (fld 0 t4) fun t12 =>
        Mpu (ld1 h6 t12) fun t13 =>
        Mcall prg f_manifest_Name [t13] h6 fun t14 h7 =>
        Mpu (unV .not t14) fun t15 =>
        J1 (fun k8 => Mif t15 false (
            Mpu (fld 1 t4) fun t17 =>
            Mpu (ldN 4 h7 t17) fun t18 =>
            Mcall prg f_version_Version_Right [t18] h7 fun t19 h9 =>
            Mpu (unV .not t19) fun t20 =>
            k8 t20 h9) (
            k8 undef h7)) fun t20_2 h10 =>
        Mpu (pickV t15 (.bool true) t20_2) fun t21 =>
        J1 (fun k11 => Mif t21 false (
            Mpu (binV .no .gtr t7_2 (.int .i64 0)) fun t24 =>
            k11 t24 h10) (
            k11 undef h10)) fun t25_2 h12 =>
        J1 (fun k13 => Mif t25_2 true (
            Mpu (binV .no .sub t7_2 (.int .i64 1)) fun t28 =>
            Mpu (ixS 37 t0 t28) fun t29 =>
            Mpu (fld 0 t29) fun t30 =>
            Mpu (ld1 h12 t30) fun t31 =>
            Mpu (fld 0 t4) fun t32 =>
            Mpu (ld1 h12 t32) fun t33 =>
            Mpu (binV .no .geq t31 t33) fun t34 =>
            k13 t34 h12) (
            k13 undef h12)) fun t34_2 h14 =>
        J1 (fun k15 => Mif t21 false (
            Mpu (pickV t25_2 t34_2 (.bool false)) fun t35 =>
            k15 t35 h14) (
            k15 undef h14)) fun t35_2 h16 =>
        Mpu (pickV t21 (.bool true) t35_2) fun t36 =>
        Mcd t36 (
          R (.bool false) h16) (
          Mpu (binV .no .add t7_2 (.int .i64 1)) fun t37 =>
          k3 t37 h16)) (
        k1 t7_2 h4)) ((.int .i64 0)) H) fun t7_4 h2 =>
  Mpu (lenV t0) fun t39 =>
  Mpu (binV .no .leq t39 (.int .i64 256)) fun t40 =>
  R t40 h2
theorem sh_history_items_chk : fchk prg [7, 20, 25, 34, 35] Tryd.f43 1 = true := by kernel_rfl
theorem sh_history_items_den (t0 : Value) (H : Heap) (R : Value → Heap → Prop) : fden prg [7, 20, 25, 34, 35] Tryd.f43 [t0] H R = sh_history_items t0 H R := by kernel_rfl
theorem sh_history_items_calls {t0 : Value} {H : Heap} {R : Value → Heap → Prop} (h : sh_history_items t0 H R) : HCalls prg f_history_items [t0] H R :=
  calls_of Tryd.func43 sh_history_items_chk (by rw [sh_history_items_den]; exact h)

-- (syngraph/head.Head).Right
def sh_head_Head_Right (t0 : Value) (H : Heap) (R : Value → Heap → Prop) : Prop :=
  Mnew H T_head_Head (some (Value.cells t0)) fun t1 h1 =>
  Mpu (fld 0 t1) fun t3 =>
  Mpu (ld1 h1 t3) fun t4 =>
  Mpu (binV .no .geq t4 (.int .i64 0)) fun t5 =>
  J1 (fun k2 => Mif t5 true (
      Mpu (fld 0 t1) fun t7 =>
      Mpu (ld1 h1 t7) fun t8 =>
      Mpu (binV .no .leq t8 (.int .i64 1048576)) fun t9 =>
      k2 t9 h1) (
      k2 undef h1)) fun t9_2 h3 =>
  Mpu (pickV t5 t9_2 (.bool false)) fun t10 =>
  R t10 h3
theorem sh_head_Head_Right_chk : fchk prg [9] Tryd.f44 1 = true := by kernel_rfl
theorem sh_head_Head_Right_den (t0 : Value) (H : Heap) (R : Value → Heap → Prop) : fden prg [9] Tryd.f44 [t0] H R = sh_head_Head_Right t0 H R := by kernel_rfl
theorem sh_head_Head_Right_calls {t0 : Value} {H : Heap} {R : Value → Heap → Prop} (h : sh_head_Head_Right t0 H R) : HCalls prg f_head_Head_Right [t0] H R :=
  calls_of Tryd.func44 sh_head_Head_Right_chk (by rw [sh_head_Head_Right_den]; exact h)

-- syngraph/history.New
def sh_history_New (H : Heap) (R : Value → Heap → Prop) : Prop :=
  Mpu (buildV prg T_history_History []) fun t1 =>
  Mnew H T_history_History (some (Value.cells t1)) fun t2 h1 =>
  R t2 h1
theorem sh_history_New_chk : fchk prg [] Tryd.f45 0 = true := by kernel_rfl
theorem sh_history_New_den (H : Heap) (R : Value → Heap → Prop) : fden prg [] Tryd.f45 [] H R = sh_history_New H R := by kernel_rfl
theorem sh_history_New_calls {H : Heap} {R : Value → Heap → Prop} (h : sh_history_New H R) : HCalls prg f_history_New [] H R :=
  calls_of Tryd.func45 sh_history_New_chk (by rw [sh_history_New_den]; exact h)

-- (*syngraph/history.History).Append
def sh_history_History_Append (t0 t1 : Value) (H : Heap) (R : Value → Heap → Prop) : Prop :=
  Mnew H T_history_Record (some (Value.cells t1)) fun t3 h1 =>
  Mpu (ldN 36 h1 t3) fun t6 =>
  Mcall prg f_history_Record_Right [t6] h1 fun t7 h2 =>
  Mpu (unV .not t7) fun t8 =>
  J1 (fun k3 => Mif t8 false (
      Mpu (fld 1 t3) fun t10 =>
      Mpu (ld1 h2 t10) fun t11 =>
      Mcall prg f_history_History_Now [t0] h2 fun t13 h4 =>
      Mre [(ld1 h4 t10, t11)] (
      Mcall prg f_slices_Equal_S_history_Item_history_Item [t11, t13] h4 fun t14 h5 =>
      Mpu (unV .not t14) fun t15 =>
      k3 t15 h5)) (
      k3 undef h2)) fun t15_2 h6 =>
  Mpu (pickV t8 (.bool true) t15_2) fun t16 =>
  Mcd t16 (
    R (.int .i64 10) h6) (
    Mpu (nck t0) fun t19 =>
    Mpu (fld 0 t19) fun t20 =>
    Mpu (ld1 h6 t20) fun t21 =>
    Mpu (lenV t21) fun t22 =>
    Mpu (binV .no .eql t22 (.int .i64 4096)) fun t23 =>
    Mcd t23 (
      R (.int .i64 12) h6) (
      Mpu (nck t0) fun t26 =>
      Mpu (fld 1 t26) fun t27 =>
      Mpu (ld1 h6 t27) fun t28 =>
      Mpu (ldN 36 h6 t3) fun t31 =>
      Mcall prg f_history_History_Top [t0] h6 fun t30 h7 =>
      Mre [(ldN 36 h7 t3, t31), (ld1 h7 t27, t28)] (
      Mcall prg f_history_Record_Bytes [t31] h7 fun t32 h8 =>
      Mre [(ld1 h8 t27, t28)] (
      Mcall prg f_tag_Record [t30, t32] h8 fun t33 h9 =>
      Mre [(ld1 h9 t27, t28)] (
      Mnews h9 T_sha_Hash 1 (bslV prg T_sha_Hash 1 [(0, t33)]) fun t34 h10 =>
      Mre [(ld1 h10 t27, t28)] (
      Mapp T_sha_Hash 32 32 h10 t28 t34 fun t35 h11 =>
      Mpu (nck t0) fun t36 =>
      Mpu (fld 1 t36) fun t37 =>
      Mwr (st1 h11 t37 t35) fun h12 =>
      Mpu (nck t0) fun t40 =>
      Mpu (fld 0 t40) fun t41 =>
      Mpu (ld1 h12 t41) fun t42 =>
      Mpu (ldN 36 h12 t3) fun t43 =>
      Mcall prg f_history_Record_copied [t43] h12 fun t44 h13 =>
      Mre [(ld1 h13 t41, t42)] (
      Mnews h13 T_history_Record 1 (bslV prg T_history_Record 1 [(0, t44)]) fun t45 h14 =>
      Mre [(ld1 h14 t41, t42)] (
      Mapp T_history_Record 36 96 h14 t42 t45 fun t46 h15 =>
      Mpu (nck t0) fun t47 =>
      Mpu (fld 0 t47) fun t48 =>
      Mwr (st1 h15 t48 t46) fun h16 =>
      R (.int .i64 0) h16))))))))
theorem sh_history_History_Append_chk : fchk prg [15] Tryd.f46 2 = true := by kernel_rfl
theorem sh_history_History_Append_den (t0 t1 : Value) (H : Heap) (R : Value → Heap → Prop) : fden prg [15] Tryd.f46 [t0, t1] H R = sh_history_History_Append t0 t1 H R := by kernel_rfl
theorem sh_history_History_Append_calls {t0 t1 : Value} {H : Heap} {R : Value → Heap → Prop} (h : sh_history_History_Append t0 t1 H R) : HCalls prg f_history_History_Append [t0, t1] H R :=
  calls_of Tryd.func46 sh_history_History_Append_chk (by rw [sh_history_History_Append_den]; exact h)

-- syngraph/tag.Record
def sh_tag_Record (t0 t1 : Value) (H : Heap) (R : Value → Heap → Prop) : Prop :=
  Mnew H T_sha_Hash (some (Value.cells t0)) fun t2 h1 =>
  Mnew h1 T_sha_Hash (zcells prg T_sha_Hash) fun t4 h2 =>
  Mpu (slA 32 1 t2 none none none) fun t5 =>
  Mnews h2 T_S_uint8 2 (bslV prg T_S_uint8 2 [(0, t5), (1, t1)]) fun t7 h3 =>
  Mcall prg f_tag_sum [(.int .i64 7), t7] h3 fun t8 h4 =>
  Mwr (stN 32 h4 t4 t8) fun h5 =>
  Mpu (ldN 32 h5 t4) fun r6 =>
  R r6 h5
theorem sh_tag_Record_chk : fchk prg [] Tryd.f47 2 = true := by kernel_rfl
theorem sh_tag_Record_den (t0 t1 : Value) (H : Heap) (R : Value → Heap → Prop) : fden prg [] Tryd.f47 [t0, t1] H R = sh_tag_Record t0 t1 H R := by kernel_rfl
theorem sh_tag_Record_calls {t0 t1 : Value} {H : Heap} {R : Value → Heap → Prop} (h : sh_tag_Record t0 t1 H R) : HCalls prg f_tag_Record [t0, t1] H R :=
  calls_of Tryd.func47 sh_tag_Record_chk (by rw [sh_tag_Record_den]; exact h)

end Go.Proofs.YtmhfanpijdgkjaaDoor
