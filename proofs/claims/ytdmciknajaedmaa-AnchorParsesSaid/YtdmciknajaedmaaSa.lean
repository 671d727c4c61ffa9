/- PRINTED by wip/shallow.py: the clean text of each function, and that it is the function's denotation. -/
import Derived.Test.YtdmciknajaedmaaXK
import Derived.Test.YtdmciknajaedmaaProg
import Derived.KernelRfl
namespace Go.Proofs.Ytdmciknajaedmaa
open Go.X
set_option maxRecDepth 100000
noncomputable abbrev prg : Program := Try.prog
abbrev f_main_main : Nat := 0
abbrev f_gosem_cut : Nat := 1
abbrev f_gosem_cut_init : Nat := 2
abbrev f_syngraphlaw23_AnchorParses : Nat := 3
abbrev f_syngraphlaw23_awake : Nat := 4
abbrev f_anchor_Parse : Nat := 5
abbrev f_anchor_Register_Bytes : Nat := 6
abbrev f_anchor_Register_Mark : Nat := 7
abbrev f_anchor_New : Nat := 8
abbrev f_history_New : Nat := 9
abbrev f_anchor_Register_Audit : Nat := 10
abbrev f_anchor_Register_Begin : Nat := 11
abbrev f_anchor_Register_End : Nat := 12
abbrev f_wire_NewIn : Nat := 13
abbrev f_wire_In_Count : Nat := 14
abbrev f_wire_In_Hash : Nat := 15
abbrev f_wire_In_Bool : Nat := 16
abbrev f_wire_In_Done : Nat := 17
abbrev f_wire_Out_Int : Nat := 18
abbrev f_wire_Out_Hash : Nat := 19
abbrev f_wire_Out_Bool : Nat := 20
abbrev f_wire_Out_All : Nat := 21
abbrev f_anchor_Of : Nat := 22
abbrev f_anchor_Register_over : Nat := 23
abbrev f_bytes_Clone : Nat := 24
abbrev f_wire_In_Int : Nat := 25
abbrev f_wire_In_take : Nat := 26
abbrev f_wire_Out_number : Nat := 27
abbrev f_history_History_Len : Nat := 28
abbrev f_history_History_Top : Nat := 29
abbrev f_wire_number : Nat := 30
abbrev f_runtime_boundsError_Error : Nat := 31
abbrev f_runtime_boundsError_RuntimeError : Nat := 32
abbrev f_runtime_errorString_Error : Nat := 33
abbrev f_runtime_errorString_RuntimeError : Nat := 34
abbrev f_runtime_plainError_Error : Nat := 35
abbrev f_runtime_plainError_RuntimeError : Nat := 36
abbrev f_runtime_errorAddressString_Error : Nat := 37
abbrev f_runtime_errorAddressString_RuntimeError : Nat := 38
abbrev f_runtime_TypeAssertionError_Error : Nat := 39
abbrev f_runtime_TypeAssertionError_RuntimeError : Nat := 40
abbrev f_runtime_PanicNilError_Error : Nat := 41
abbrev f_runtime_PanicNilError_RuntimeError : Nat := 42
abbrev f_internal_abi_Type_Align : Nat := 43
abbrev f_internal_runtime_maps_unhashableTypeError_Error : Nat := 44
abbrev f_internal_runtime_maps_unhashableTypeError_RuntimeError : Nat := 45
abbrev f_sha_Hash_Show : Nat := 46
abbrev f_wire_In_Bad : Nat := 47
abbrev f_wire_Out_count : Nat := 48
abbrev f_internal_abi_Kind_String : Nat := 49
abbrev f_head_Head_Right : Nat := 50
abbrev f_history_Record_Right : Nat := 51
abbrev f_version_Version_Right : Nat := 52
abbrev T_int64 : Nat := 2
abbrev T_int : Nat := 3
abbrev T_bool : Nat := 4
abbrev T_uint8 : Nat := 5
abbrev T_abi_BoundsErrorCode : Nat := 6
abbrev T_runtime_boundsError : Nat := 8
abbrev T_string : Nat := 9
abbrev T_runtime_errorString : Nat := 10
abbrev T_runtime_plainError : Nat := 11
abbrev T_uintptr : Nat := 12
abbrev T_runtime_errorAddressString : Nat := 14
abbrev T_P_runtime_TypeAssertionError : Nat := 15
abbrev T_P_runtime_PanicNilError : Nat := 16
abbrev T_P_abi_Type : Nat := 17
abbrev T_maps_unhashableTypeError : Nat := 19
abbrev T_interface : Nat := 20
abbrev T_int32 : Nat := 21
abbrev T_S_uint8 : Nat := 22
abbrev T_P_anchor_Register : Nat := 24
abbrev T_api_Errno : Nat := 25
abbrev T_P_anchor_Register_api_Errno : Nat := 26
abbrev T_A32_uint8 : Nat := 29
abbrev T_sha_Hash : Nat := 30
abbrev T_anchor_Mark : Nat := 32
abbrev T_P_history_History : Nat := 36
abbrev T_P_wire_In : Nat := 41
abbrev T_anchor_Register : Nat := 45
abbrev T_P_wire_Out : Nat := 47
abbrev T_wire_Out : Nat := 49
abbrev T_S_history_Record : Nat := 53
abbrev T_S_sha_Hash : Nat := 54
abbrev T_history_History : Nat := 56
abbrev T_wire_In : Nat := 60
abbrev T_uint64 : Nat := 65
abbrev T_uint : Nat := 66
abbrev T_runtime_TypeAssertionError : Nat := 69
abbrev T_A0_P_runtime_PanicNilError : Nat := 70
abbrev T_runtime_PanicNilError : Nat := 72
abbrev T_uint32 : Nat := 73
abbrev T_abi_TFlag : Nat := 74
abbrev T_abi_Kind : Nat := 75
abbrev T_P_uint8 : Nat := 77
abbrev T_abi_NameOff : Nat := 78
abbrev T_abi_TypeOff : Nat := 79
abbrev T_abi_Type : Nat := 81
abbrev T_S_history_Item : Nat := 83
abbrev T_head_Head : Nat := 85
abbrev T_history_Record : Nat := 87
abbrev T_unsafe_Pointer : Nat := 88
abbrev T_A3_int : Nat := 89
abbrev T_version_Version : Nat := 91
abbrev T_history_Item : Nat := 93

-- syngraph/syngraphlaw23.AnchorParses
def sh_syngraphlaw23_AnchorParses (t0 : Value) (H : Heap) (R : Value → Heap → Prop) : Prop :=
  Mpu (lenV t0) fun t6 =>
  Mpu (binV .no .gtr t6 (.int .i64 300)) fun t7 =>
  Mcd t7 (
    Mcall prg f_syngraphlaw23_awake [] H fun t8 h1 =>
    R t8 h1) (
    Mcall prg f_anchor_Parse [t0] H fun t11 h2 =>
    Mpu (extV 0 t11) fun t12 =>
    Mpu (extV 1 t11) fun t13 =>
    Mpu (binV .no .neq t13 (.int .i64 0)) fun t15 =>
    Mcd t15 (
      Mpu (binV .no .eql t13 (.int .i64 10)) fun t17 =>
      J1 (fun k3 => Mif t17 true (
          Mpu (binV .ptr .eql t12 (.pointer none)) fun t20 =>
          k3 t20 h2) (
          k3 undef h2)) fun t20 h4 =>
      Mpu (pickV t17 t20 (.bool false)) fun t21 =>
      J1 (fun k5 => Mif t21 true (
          Mcall prg f_syngraphlaw23_awake [] h4 fun t23 h6 =>
          k5 t23 h6) (
          k5 undef h4)) fun t23 h7 =>
      Mpu (pickV t21 t23 (.bool false)) fun t24 =>
      R t24 h7) (
      Mpu (binV .ptr .neq t12 (.pointer none)) fun t26 =>
      J1 (fun k8 => Mif t26 true (
          Mpu (b2s h2 t0) fun t32 =>
          Mcall prg f_anchor_Register_Bytes [t12] h2 fun t29 h9 =>
          Mre [(b2s h9 t0, t32)] (
          Mpu (b2s h9 t29) fun t30 =>
          Mpu (binV .no .eql t30 t32) fun t33 =>
          k8 t33 h9)) (
          k8 undef h2)) fun t33 h10 =>
      Mpu (pickV t26 t33 (.bool false)) fun t34 =>
      J1 (fun k11 => Mif t34 true (
          Mcall prg f_anchor_Register_Mark [t12] h10 fun t37 h12 =>
          Mpu (partV false 1 0 t37) fun t38 =>
          Mpu (binV .no .geq t38 (.int .i64 0)) fun t39 =>
          k11 t39 h12) (
          k11 undef h10)) fun t39 h13 =>
      Mpu (pickV t34 t39 (.bool false)) fun t40 =>
      J1 (fun k14 => Mif t40 true (
          Mcall prg f_anchor_Register_Mark [t12] h13 fun t43 h15 =>
          Mpu (partV false 1 0 t43) fun t44 =>
          Mpu (binV .no .leq t44 (.int .i64 1099511627776)) fun t45 =>
          k14 t45 h15) (
          k14 undef h13)) fun t45 h16 =>
      Mpu (pickV t40 t45 (.bool false)) fun t46 =>
      J1 (fun k17 => Mif t46 true (
          Mcall prg f_syngraphlaw23_awake [] h16 fun t48 h18 =>
          k17 t48 h18) (
          k17 undef h16)) fun t48 h19 =>
      Mpu (pickV t46 t48 (.bool false)) fun t49 =>
      R t49 h19))
theorem sh_syngraphlaw23_AnchorParses_chk : fchk prg [20, 23, 33, 39, 45, 48] Try.f3 1 = true := by kernel_rfl
theorem sh_syngraphlaw23_AnchorParses_den (t0 : Value) (H : Heap) (R : Value → Heap → Prop) : fden prg [20, 23, 33, 39, 45, 48] Try.f3 [t0] H R = sh_syngraphlaw23_AnchorParses t0 H R := by kernel_rfl
theorem sh_syngraphlaw23_AnchorParses_calls {t0 : Value} {H : Heap} {R : Value → Heap → Prop} (h : sh_syngraphlaw23_AnchorParses t0 H R) : HCalls prg f_syngraphlaw23_AnchorParses [t0] H R :=
  calls_of Try.func3 sh_syngraphlaw23_AnchorParses_chk (by rw [sh_syngraphlaw23_AnchorParses_den]; exact h)

-- syngraph/syngraphlaw23.awake
def sh_syngraphlaw23_awake (H : Heap) (R : Value → Heap → Prop) : Prop :=
  Mcall prg f_anchor_New [] H fun t3 h1 =>
  Mcall prg f_history_New [] h1 fun t4 h2 =>
  Mpu (binV .ptr .neq t3 (.pointer none)) fun t6 =>
  J1 (fun k3 => Mif t6 true (
      Mpu (binV .ptr .neq t4 (.pointer none)) fun t9 =>
      k3 t9 h2) (
      k3 undef h2)) fun t9 h4 =>
  Mpu (pickV t6 t9 (.bool false)) fun t10 =>
  J1 (fun k5 => Mif t10 true (
      Mcall prg f_anchor_Register_Audit [t3, t4] h4 fun t14 h6 =>
      Mpu (binV .no .eql t14 (.int .i64 0)) fun t15 =>
      k5 t15 h6) (
      k5 undef h4)) fun t15 h7 =>
  Mpu (pickV t10 t15 (.bool false)) fun t16 =>
  J1 (fun k8 => Mif t16 true (
      Mpu (buildV prg T_sha_Hash [(0, (.int .u8 1))]) fun t19 =>
      Mcall prg f_anchor_Register_Begin [t3, t19] h7 fun t20 h9 =>
      Mpu (binV .no .eql t20 (.int .i64 0)) fun t21 =>
      k8 t21 h9) (
      k8 undef h7)) fun t21 h10 =>
  Mpu (pickV t16 t21 (.bool false)) fun t22 =>
  J1 (fun k11 => Mif t22 true (
      Mpu (buildV prg T_sha_Hash [(0, (.int .u8 1))]) fun t25 =>
      Mcall prg f_anchor_Register_Begin [t3, t25] h10 fun t26 h12 =>
      Mpu (binV .no .eql t26 (.int .i64 50)) fun t27 =>
      k11 t27 h12) (
      k11 undef h10)) fun t27 h13 =>
  Mpu (pickV t22 t27 (.bool false)) fun t28 =>
  J1 (fun k14 => Mif t28 true (
      Mcall prg f_anchor_Register_End [t3] h13 fun t31 h15 =>
      Mpu (binV .no .eql t31 (.int .i64 0)) fun t32 =>
      k14 t32 h15) (
      k14 undef h13)) fun t32 h16 =>
  Mpu (pickV t28 t32 (.bool false)) fun t33 =>
  J1 (fun k17 => Mif t33 true (
      Mcall prg f_anchor_Register_End [t3] h16 fun t36 h18 =>
      Mpu (binV .no .eql t36 (.int .i64 14)) fun t37 =>
      k17 t37 h18) (
      k17 undef h16)) fun t37 h19 =>
  Mpu (pickV t33 t37 (.bool false)) fun t38 =>
  J1 (fun k20 => Mif t38 true (
      Mcall prg f_anchor_Register_Audit [t3, t4] h19 fun t42 h21 =>
      Mpu (binV .no .eql t42 (.int .i64 33)) fun t43 =>
      k20 t43 h21) (
      k20 undef h19)) fun t43 h22 =>
  Mpu (pickV t38 t43 (.bool false)) fun t44 =>
  J1 (fun k23 => Mif t44 true (
      Mcall prg f_anchor_Register_Mark [t3] h22 fun t47 h24 =>
      Mpu (partV false 1 0 t47) fun t48 =>
      Mpu (binV .no .eql t48 (.int .i64 1)) fun t49 =>
      k23 t49 h24) (
      k23 undef h22)) fun t49 h25 =>
  Mpu (pickV t44 t49 (.bool false)) fun t50 =>
  R t50 h25
theorem sh_syngraphlaw23_awake_chk : fchk prg [9, 15, 21, 27, 32, 37, 43, 49] Try.f4 0 = true := by kernel_rfl
theorem sh_syngraphlaw23_awake_den (H : Heap) (R : Value → Heap → Prop) : fden prg [9, 15, 21, 27, 32, 37, 43, 49] Try.f4 [] H R = sh_syngraphlaw23_awake H R := by kernel_rfl
theorem sh_syngraphlaw23_awake_calls {H : Heap} {R : Value → Heap → Prop} (h : sh_syngraphlaw23_awake H R) : HCalls prg f_syngraphlaw23_awake [] H R :=
  calls_of Try.func4 sh_syngraphlaw23_awake_chk (by rw [sh_syngraphlaw23_awake_den]; exact h)

-- syngraph/anchor.Parse
def sh_anchor_Parse (t0 : Value) (H : Heap) (R : Value → Heap → Prop) : Prop :=
  Mcall prg f_wire_NewIn [t0] H fun t7 h1 =>
  Mcall prg f_wire_In_Count [t7, (.int .i64 0), (.int .i64 1099511627776)] h1 fun t9 h2 =>
  Mpu (buildV prg T_anchor_Mark [(0, t9)]) fun t10 =>
  Mpu (buildV prg T_anchor_Register [(0, t10)]) fun t11 =>
  Mnew h2 T_anchor_Register (some (Value.cells t11)) fun t12 h3 =>
  Mcall prg f_wire_In_Hash [t7] h3 fun t15 h4 =>
  Mpu (nck t12) fun t16 =>
  Mpu (fld 0 t16) fun t17 =>
  Mpu (fld 1 t17) fun t18 =>
  Mwr (stN 32 h4 t18 t15) fun h5 =>
  J0 (fun k6 =>
    Mcall prg f_wire_In_Bool [t7] h5 fun t20 h8 =>
    Mcd t20 (
      Mcall prg f_wire_In_Hash [t7] h8 fun t23 h9 =>
      Mcall prg f_anchor_Register_Begin [t12, t23] h9 fun t24 h10 =>
      k6 h10) (
      k6 h8)) fun h7 =>
  Mcall prg f_wire_In_Done [t7] h7 fun t26 h11 =>
  Mpu (unV .not t26) fun t27 =>
  Mcd t27 (
    R (.tuple #[(.pointer none), (.int .i64 10)]) h11) (
    R (.tuple #[t12, (.int .i64 0)]) h11)
theorem sh_anchor_Parse_chk : fchk prg [] Try.f5 1 = true := by kernel_rfl
theorem sh_anchor_Parse_den (t0 : Value) (H : Heap) (R : Value → Heap → Prop) : fden prg [] Try.f5 [t0] H R = sh_anchor_Parse t0 H R := by kernel_rfl
theorem sh_anchor_Parse_calls {t0 : Value} {H : Heap} {R : Value → Heap → Prop} (h : sh_anchor_Parse t0 H R) : HCalls prg f_anchor_Parse [t0] H R :=
  calls_of Try.func5 sh_anchor_Parse_chk (by rw [sh_anchor_Parse_den]; exact h)

-- (*syngraph/anchor.Register).Bytes
def sh_anchor_Register_Bytes (t0 : Value) (H : Heap) (R : Value → Heap → Prop) : Prop :=
  Mpu (buildV prg T_wire_Out []) fun t4 =>
  Mnew H T_wire_Out (some (Value.cells t4)) fun t5 h1 =>
  Mpu (nck t0) fun t8 =>
  Mpu (fld 0 t8) fun t9 =>
  Mpu (fld 0 t9) fun t10 =>
  Mpu (ld1 h1 t10) fun t11 =>
  Mpu (nck t0) fun t14 =>
  Mpu (fld 0 t14) fun t15 =>
  Mpu (fld 1 t15) fun t16 =>
  Mpu (ldN 32 h1 t16) fun t17 =>
  Mpu (nck t0) fun t20 =>
  Mpu (fld 66 t20) fun t21 =>
  Mpu (ld1 h1 t21) fun t22 =>
  Mcall prg f_wire_Out_Int [t5, t11] h1 fun t12 h2 =>
  Mre [(ld1 h2 t21, t22), (ldN 32 h2 t16, t17)] (
  Mcall prg f_wire_Out_Hash [t12, t17] h2 fun t18 h3 =>
  Mre [(ld1 h3 t21, t22)] (
  Mcall prg f_wire_Out_Bool [t18, t22] h3 fun t23 h4 =>
  J0 (fun k5 =>
    Mpu (nck t0) fun t25 =>
    Mpu (fld 66 t25) fun t26 =>
    Mpu (ld1 h4 t26) fun t27 =>
    Mcd t27 (
      Mpu (nck t0) fun t30 =>
      Mpu (fld 33 t30) fun t31 =>
      Mpu (fld 1 t31) fun t32 =>
      Mpu (ldN 32 h4 t32) fun t33 =>
      Mcall prg f_wire_Out_Hash [t5, t33] h4 fun t34 h7 =>
      k5 h7) (
      k5 h4)) fun h6 =>
  Mcall prg f_wire_Out_All [t5] h6 fun t36 h8 =>
  R t36 h8))
theorem sh_anchor_Register_Bytes_chk : fchk prg [] Try.f6 1 = true := by kernel_rfl
theorem sh_anchor_Register_Bytes_den (t0 : Value) (H : Heap) (R : Value → Heap → Prop) : fden prg [] Try.f6 [t0] H R = sh_anchor_Register_Bytes t0 H R := by kernel_rfl
theorem sh_anchor_Register_Bytes_calls {t0 : Value} {H : Heap} {R : Value → Heap → Prop} (h : sh_anchor_Register_Bytes t0 H R) : HCalls prg f_anchor_Register_Bytes [t0] H R :=
  calls_of Try.func6 sh_anchor_Register_Bytes_chk (by rw [sh_anchor_Register_Bytes_den]; exact h)

-- (*syngraph/anchor.Register).Mark
def sh_anchor_Register_Mark (t0 : Value) (H : Heap) (R : Value → Heap → Prop) : Prop :=
  Mnew H T_anchor_Mark (zcells prg T_anchor_Mark) fun t2 h1 =>
  Mpu (nck t0) fun t4 =>
  Mpu (fld 0 t4) fun t5 =>
  Mpu (ldN 33 h1 t5) fun t6 =>
  Mwr (stN 33 h1 t2 t6) fun h2 =>
  Mpu (ldN 33 h2 t2) fun r3 =>
  R r3 h2
theorem sh_anchor_Register_Mark_chk : fchk prg [] Try.f7 1 = true := by kernel_rfl
theorem sh_anchor_Register_Mark_den (t0 : Value) (H : Heap) (R : Value → Heap → Prop) : fden prg [] Try.f7 [t0] H R = sh_anchor_Register_Mark t0 H R := by kernel_rfl
theorem sh_anchor_Register_Mark_calls {t0 : Value} {H : Heap} {R : Value → Heap → Prop} (h : sh_anchor_Register_Mark t0 H R) : HCalls prg f_anchor_Register_Mark [t0] H R :=
  calls_of Try.func7 sh_anchor_Register_Mark_chk (by rw [sh_anchor_Register_Mark_den]; exact h)

-- syngraph/anchor.New
def sh_anchor_New (H : Heap) (R : Value → Heap → Prop) : Prop :=
  Mpu (buildV prg T_anchor_Register []) fun t1 =>
  Mnew H T_anchor_Register (some (Value.cells t1)) fun t2 h1 =>
  R t2 h1
theorem sh_anchor_New_chk : fchk prg [] Try.f8 0 = true := by kernel_rfl
theorem sh_anchor_New_den (H : Heap) (R : Value → Heap → Prop) : fden prg [] Try.f8 [] H R = sh_anchor_New H R := by kernel_rfl
theorem sh_anchor_New_calls {H : Heap} {R : Value → Heap → Prop} (h : sh_anchor_New H R) : HCalls prg f_anchor_New [] H R :=
  calls_of Try.func8 sh_anchor_New_chk (by rw [sh_anchor_New_den]; exact h)

-- syngraph/history.New
def sh_history_New (H : Heap) (R : Value → Heap → Prop) : Prop :=
  Mpu (buildV prg T_history_History []) fun t1 =>
  Mnew H T_history_History (some (Value.cells t1)) fun t2 h1 =>
  R t2 h1
theorem sh_history_New_chk : fchk prg [] Try.f9 0 = true := by kernel_rfl
theorem sh_history_New_den (H : Heap) (R : Value → Heap → Prop) : fden prg [] Try.f9 [] H R = sh_history_New H R := by kernel_rfl
theorem sh_history_New_calls {H : Heap} {R : Value → Heap → Prop} (h : sh_history_New H R) : HCalls prg f_history_New [] H R :=
  calls_of Try.func9 sh_history_New_chk (by rw [sh_history_New_den]; exact h)

-- (*syngraph/anchor.Register).Audit
def sh_anchor_Register_Audit (t0 t1 : Value) (H : Heap) (R : Value → Heap → Prop) : Prop :=
  Mpu (nck t0) fun t8 =>
  Mpu (fld 0 t8) fun t9 =>
  Mpu (ldN 33 H t9) fun t10 =>
  Mcall prg f_anchor_Of [t1] H fun t6 h1 =>
  Mre [(ldN 33 h1 t9, t10)] (
  Mpu (binV (eqK prg T_anchor_Mark) .neq t6 t10) fun t11 =>
  Mcd t11 (
    R (.int .i64 33) h1) (
    R (.int .i64 0) h1))
theorem sh_anchor_Register_Audit_chk : fchk prg [] Try.f10 2 = true := by kernel_rfl
theorem sh_anchor_Register_Audit_den (t0 t1 : Value) (H : Heap) (R : Value → Heap → Prop) : fden prg [] Try.f10 [t0, t1] H R = sh_anchor_Register_Audit t0 t1 H R := by kernel_rfl
theorem sh_anchor_Register_Audit_calls {t0 t1 : Value} {H : Heap} {R : Value → Heap → Prop} (h : sh_anchor_Register_Audit t0 t1 H R) : HCalls prg f_anchor_Register_Audit [t0, t1] H R :=
  calls_of Try.func10 sh_anchor_Register_Audit_chk (by rw [sh_anchor_Register_Audit_den]; exact h)

-- (*syngraph/anchor.Register).Begin
def sh_anchor_Register_Begin (t0 t1 : Value) (H : Heap) (R : Value → Heap → Prop) : Prop :=
  Mnew H T_sha_Hash (some (Value.cells t1)) fun t3 h1 =>
  Mpu (nck t0) fun t6 =>
  Mpu (fld 66 t6) fun t7 =>
  Mpu (ld1 h1 t7) fun t8 =>
  Mcd t8 (
    R (.int .i64 50) h1) (
    Mpu (nck t0) fun t12 =>
    Mpu (fld 0 t12) fun t13 =>
    Mpu (fld 0 t13) fun t14 =>
    Mpu (ld1 h1 t14) fun t15 =>
    Mpu (binV .no .add t15 (.int .i64 1)) fun t16 =>
    Mpu (ldN 32 h1 t3) fun t17 =>
    Mpu (buildV prg T_anchor_Mark [(0, t16), (1, t17)]) fun t18 =>
    Mpu (nck t0) fun t19 =>
    Mpu (fld 33 t19) fun t20 =>
    Mwr (stN 33 h1 t20 t18) fun h2 =>
    Mpu (nck t0) fun t21 =>
    Mpu (fld 66 t21) fun t22 =>
    Mwr (st1 h2 t22 (.bool true)) fun h3 =>
    R (.int .i64 0) h3)
theorem sh_anchor_Register_Begin_chk : fchk prg [] Try.f11 2 = true := by kernel_rfl
theorem sh_anchor_Register_Begin_den (t0 t1 : Value) (H : Heap) (R : Value → Heap → Prop) : fden prg [] Try.f11 [t0, t1] H R = sh_anchor_Register_Begin t0 t1 H R := by kernel_rfl
theorem sh_anchor_Register_Begin_calls {t0 t1 : Value} {H : Heap} {R : Value → Heap → Prop} (h : sh_anchor_Register_Begin t0 t1 H R) : HCalls prg f_anchor_Register_Begin [t0, t1] H R :=
  calls_of Try.func11 sh_anchor_Register_Begin_chk (by rw [sh_anchor_Register_Begin_den]; exact h)

-- (*syngraph/anchor.Register).End
def sh_anchor_Register_End (t0 : Value) (H : Heap) (R : Value → Heap → Prop) : Prop :=
  Mpu (nck t0) fun t4 =>
  Mpu (fld 66 t4) fun t5 =>
  Mpu (ld1 H t5) fun t6 =>
  Mpu (unV .not t6) fun t7 =>
  Mcd t7 (
    R (.int .i64 14) H) (
    Mpu (nck t0) fun t10 =>
    Mpu (fld 33 t10) fun t11 =>
    Mpu (ldN 33 H t11) fun t12 =>
    Mpu (nck t0) fun t13 =>
    Mpu (fld 0 t13) fun t14 =>
    Mwr (stN 33 H t14 t12) fun h1 =>
    Mcall prg f_anchor_Register_over [t0] h1 fun t16 h2 =>
    R (.int .i64 0) h2)
theorem sh_anchor_Register_End_chk : fchk prg [] Try.f12 1 = true := by kernel_rfl
theorem sh_anchor_Register_End_den (t0 : Value) (H : Heap) (R : Value → Heap → Prop) : fden prg [] Try.f12 [t0] H R = sh_anchor_Register_End t0 H R := by kernel_rfl
theorem sh_anchor_Register_End_calls {t0 : Value} {H : Heap} {R : Value → Heap → Prop} (h : sh_anchor_Register_End t0 H R) : HCalls prg f_anchor_Register_End [t0] H R :=
  calls_of Try.func12 sh_anchor_Register_End_chk (by rw [sh_anchor_Register_End_den]; exact h)

-- syngraph/wire.NewIn
def sh_wire_NewIn (t0 : Value) (H : Heap) (R : Value → Heap → Prop) : Prop :=
  Mcall prg f_bytes_Clone [t0] H fun t4 h1 =>
  Mpu (buildV prg T_wire_In [(0, t4)]) fun t5 =>
  Mnew h1 T_wire_In (some (Value.cells t5)) fun t6 h2 =>
  R t6 h2
theorem sh_wire_NewIn_chk : fchk prg [] Try.f13 1 = true := by kernel_rfl
theorem sh_wire_NewIn_den (t0 : Value) (H : Heap) (R : Value → Heap → Prop) : fden prg [] Try.f13 [t0] H R = sh_wire_NewIn t0 H R := by kernel_rfl
theorem sh_wire_NewIn_calls {t0 : Value} {H : Heap} {R : Value → Heap → Prop} (h : sh_wire_NewIn t0 H R) : HCalls prg f_wire_NewIn [t0] H R :=
  calls_of Try.func13 sh_wire_NewIn_chk (by rw [sh_wire_NewIn_den]; exact h)

-- (*syngraph/wire.In).Count
def sh_wire_In_Count (t0 t1 t2 : Value) (H : Heap) (R : Value → Heap → Prop) : Prop :=
  Mcall prg f_wire_In_Int [t0] H fun t9 h1 =>
  Mpu (nck t0) fun t11 =>
  Mpu (fld 1 t11) fun t12 =>
  Mpu (ld1 h1 t12) fun t13 =>
  J1 (fun k2 => Mif t13 false (
      Mpu (binV .no .lss t9 t1) fun t17 =>
      k2 t17 h1) (
      k2 undef h1)) fun t17 h3 =>
  Mpu (pickV t13 (.bool true) t17) fun t18 =>
  J1 (fun k4 => Mif t18 false (
      Mpu (binV .no .gtr t9 t2) fun t22 =>
      k4 t22 h3) (
      k4 undef h3)) fun t22 h5 =>
  Mpu (pickV t18 (.bool true) t22) fun t23 =>
  Mcd t23 (
    Mpu (nck t0) fun t25 =>
    Mpu (fld 1 t25) fun t26 =>
    Mwr (st1 h5 t26 (.bool true)) fun h6 =>
    R (.int .i64 0) h6) (
    R t9 h5)
theorem sh_wire_In_Count_chk : fchk prg [17, 22] Try.f14 3 = true := by kernel_rfl
theorem sh_wire_In_Count_den (t0 t1 t2 : Value) (H : Heap) (R : Value → Heap → Prop) : fden prg [17, 22] Try.f14 [t0, t1, t2] H R = sh_wire_In_Count t0 t1 t2 H R := by kernel_rfl
theorem sh_wire_In_Count_calls {t0 t1 t2 : Value} {H : Heap} {R : Value → Heap → Prop} (h : sh_wire_In_Count t0 t1 t2 H R) : HCalls prg f_wire_In_Count [t0, t1, t2] H R :=
  calls_of Try.func14 sh_wire_In_Count_chk (by rw [sh_wire_In_Count_den]; exact h)

-- (*syngraph/wire.In).Hash
def sh_wire_In_Hash (t0 : Value) (H : Heap) (R : Value → Heap → Prop) : Prop :=
  Mnew H T_sha_Hash (zcells prg T_sha_Hash) fun t2 h1 =>
  Mnew h1 T_sha_Hash (zcells prg T_sha_Hash) fun t3 h2 =>
  Mpu (slA 32 1 t3 none none none) fun t4 =>
  Mcall prg f_wire_In_take [t0, (.int .i64 32)] h2 fun t6 h3 =>
  Mcopy 1 h3 t4 t6 fun t7 h4 =>
  Mpu (ldN 32 h4 t3) fun t8 =>
  Mwr (stN 32 h4 t2 t8) fun h5 =>
  Mpu (ldN 32 h5 t2) fun r6 =>
  R r6 h5
theorem sh_wire_In_Hash_chk : fchk prg [] Try.f15 1 = true := by kernel_rfl
theorem sh_wire_In_Hash_den (t0 : Value) (H : Heap) (R : Value → Heap → Prop) : fden prg [] Try.f15 [t0] H R = sh_wire_In_Hash t0 H R := by kernel_rfl
theorem sh_wire_In_Hash_calls {t0 : Value} {H : Heap} {R : Value → Heap → Prop} (h : sh_wire_In_Hash t0 H R) : HCalls prg f_wire_In_Hash [t0] H R :=
  calls_of Try.func15 sh_wire_In_Hash_chk (by rw [sh_wire_In_Hash_den]; exact h)

-- (*syngraph/wire.In).Bool
def sh_wire_In_Bool (t0 : Value) (H : Heap) (R : Value → Heap → Prop) : Prop :=
  Mcall prg f_wire_In_take [t0, (.int .i64 1)] H fun t5 h1 =>
  Mpu (nck t0) fun t7 =>
  Mpu (fld 1 t7) fun t8 =>
  Mpu (ld1 h1 t8) fun t9 =>
  Mcd t9 (
    R (.bool false) h1) (
    Mpu (ixS 1 t5 (.int .i64 0)) fun t12 =>
    Mpu (ld1 h1 t12) fun t13 =>
    Mpu (binV .no .gtr t13 (.int .u8 1)) fun t14 =>
    Mpu (nck t0) fun t15 =>
    Mpu (fld 1 t15) fun t16 =>
    Mwr (st1 h1 t16 t14) fun h2 =>
    Mpu (ixS 1 t5 (.int .i64 0)) fun t18 =>
    Mpu (ld1 h2 t18) fun t19 =>
    Mpu (binV .no .eql t19 (.int .u8 1)) fun t20 =>
    R t20 h2)
theorem sh_wire_In_Bool_chk : fchk prg [] Try.f16 1 = true := by kernel_rfl
theorem sh_wire_In_Bool_den (t0 : Value) (H : Heap) (R : Value → Heap → Prop) : fden prg [] Try.f16 [t0] H R = sh_wire_In_Bool t0 H R := by kernel_rfl
theorem sh_wire_In_Bool_calls {t0 : Value} {H : Heap} {R : Value → Heap → Prop} (h : sh_wire_In_Bool t0 H R) : HCalls prg f_wire_In_Bool [t0] H R :=
  calls_of Try.func16 sh_wire_In_Bool_chk (by rw [sh_wire_In_Bool_den]; exact h)

-- (*syngraph/wire.In).Done
def sh_wire_In_Done (t0 : Value) (H : Heap) (R : Value → Heap → Prop) : Prop :=
  Mpu (nck t0) fun t4 =>
  Mpu (fld 1 t4) fun t5 =>
  Mpu (ld1 H t5) fun t6 =>
  Mpu (unV .not t6) fun t7 =>
  J1 (fun k1 => Mif t7 true (
      Mpu (nck t0) fun t10 =>
      Mpu (fld 0 t10) fun t11 =>
      Mpu (ld1 H t11) fun t12 =>
      Mpu (lenV t12) fun t13 =>
      Mpu (binV .no .eql t13 (.int .i64 0)) fun t14 =>
      k1 t14 H) (
      k1 undef H)) fun t14 h2 =>
  Mpu (pickV t7 t14 (.bool false)) fun t15 =>
  R t15 h2
theorem sh_wire_In_Done_chk : fchk prg [14] Try.f17 1 = true := by kernel_rfl
theorem sh_wire_In_Done_den (t0 : Value) (H : Heap) (R : Value → Heap → Prop) : fden prg [14] Try.f17 [t0] H R = sh_wire_In_Done t0 H R := by kernel_rfl
theorem sh_wire_In_Done_calls {t0 : Value} {H : Heap} {R : Value → Heap → Prop} (h : sh_wire_In_Done t0 H R) : HCalls prg f_wire_In_Done [t0] H R :=
  calls_of Try.func17 sh_wire_In_Done_chk (by rw [sh_wire_In_Done_den]; exact h)

-- (*syngraph/wire.Out).Int
def sh_wire_Out_Int (t0 t1 : Value) (H : Heap) (R : Value → Heap → Prop) : Prop :=
  Mcall prg f_wire_Out_number [t0, t1, (.int .i64 8)] H fun t7 h1 =>
  R t0 h1
theorem sh_wire_Out_Int_chk : fchk prg [] Try.f18 2 = true := by kernel_rfl
theorem sh_wire_Out_Int_den (t0 t1 : Value) (H : Heap) (R : Value → Heap → Prop) : fden prg [] Try.f18 [t0, t1] H R = sh_wire_Out_Int t0 t1 H R := by kernel_rfl
theorem sh_wire_Out_Int_calls {t0 t1 : Value} {H : Heap} {R : Value → Heap → Prop} (h : sh_wire_Out_Int t0 t1 H R) : HCalls prg f_wire_Out_Int [t0, t1] H R :=
  calls_of Try.func18 sh_wire_Out_Int_chk (by rw [sh_wire_Out_Int_den]; exact h)

-- (*syngraph/wire.Out).Hash
def sh_wire_Out_Hash (t0 t1 : Value) (H : Heap) (R : Value → Heap → Prop) : Prop :=
  Mnew H T_sha_Hash (some (Value.cells t1)) fun t3 h1 =>
  Mpu (nck t0) fun t7 =>
  Mpu (fld 0 t7) fun t8 =>
  Mpu (ld1 h1 t8) fun t9 =>
  Mpu (slA 32 1 t3 none none none) fun t10 =>
  Mapp T_uint8 1 1 h1 t9 t10 fun t11 h2 =>
  Mpu (nck t0) fun t12 =>
  Mpu (fld 0 t12) fun t13 =>
  Mwr (st1 h2 t13 t11) fun h3 =>
  R t0 h3
theorem sh_wire_Out_Hash_chk : fchk prg [] Try.f19 2 = true := by kernel_rfl
theorem sh_wire_Out_Hash_den (t0 t1 : Value) (H : Heap) (R : Value → Heap → Prop) : fden prg [] Try.f19 [t0, t1] H R = sh_wire_Out_Hash t0 t1 H R := by kernel_rfl
theorem sh_wire_Out_Hash_calls {t0 t1 : Value} {H : Heap} {R : Value → Heap → Prop} (h : sh_wire_Out_Hash t0 t1 H R) : HCalls prg f_wire_Out_Hash [t0, t1] H R :=
  calls_of Try.func19 sh_wire_Out_Hash_chk (by rw [sh_wire_Out_Hash_den]; exact h)

-- (*syngraph/wire.Out).Bool
def sh_wire_Out_Bool (t0 t1 : Value) (H : Heap) (R : Value → Heap → Prop) : Prop :=
  J1 (fun k1 =>
    Mcd t1 (
      k1 (.int .u8 1) H) (
      k1 (.int .u8 0) H)) fun t5 h2 =>
  Mpu (nck t0) fun t9 =>
  Mpu (fld 0 t9) fun t10 =>
  Mpu (ld1 h2 t10) fun t11 =>
  Mnews h2 T_uint8 1 (bslV prg T_uint8 1 [(0, t5)]) fun t13 h3 =>
  Mapp T_uint8 1 1 h3 t11 t13 fun t14 h4 =>
  Mpu (nck t0) fun t15 =>
  Mpu (fld 0 t15) fun t16 =>
  Mwr (st1 h4 t16 t14) fun h5 =>
  R t0 h5
theorem sh_wire_Out_Bool_chk : fchk prg [5] Try.f20 2 = true := by kernel_rfl
theorem sh_wire_Out_Bool_den (t0 t1 : Value) (H : Heap) (R : Value → Heap → Prop) : fden prg [5] Try.f20 [t0, t1] H R = sh_wire_Out_Bool t0 t1 H R := by kernel_rfl
theorem sh_wire_Out_Bool_calls {t0 t1 : Value} {H : Heap} {R : Value → Heap → Prop} (h : sh_wire_Out_Bool t0 t1 H R) : HCalls prg f_wire_Out_Bool [t0, t1] H R :=
  calls_of Try.func20 sh_wire_Out_Bool_chk (by rw [sh_wire_Out_Bool_den]; exact h)

-- (*syngraph/wire.Out).All
def sh_wire_Out_All (t0 : Value) (H : Heap) (R : Value → Heap → Prop) : Prop :=
  Mpu (nck t0) fun t4 =>
  Mpu (fld 0 t4) fun t5 =>
  Mpu (ld1 H t5) fun t6 =>
  Mcall prg f_bytes_Clone [t6] H fun t7 h1 =>
  R t7 h1
theorem sh_wire_Out_All_chk : fchk prg [] Try.f21 1 = true := by kernel_rfl
theorem sh_wire_Out_All_den (t0 : Value) (H : Heap) (R : Value → Heap → Prop) : fden prg [] Try.f21 [t0] H R = sh_wire_Out_All t0 H R := by kernel_rfl
theorem sh_wire_Out_All_calls {t0 : Value} {H : Heap} {R : Value → Heap → Prop} (h : sh_wire_Out_All t0 H R) : HCalls prg f_wire_Out_All [t0] H R :=
  calls_of Try.func21 sh_wire_Out_All_chk (by rw [sh_wire_Out_All_den]; exact h)

-- syngraph/anchor.Of
def sh_anchor_Of (t0 : Value) (H : Heap) (R : Value → Heap → Prop) : Prop :=
  Mnew H T_anchor_Mark (zcells prg T_anchor_Mark) fun t2 h1 =>
  Mcall prg f_history_History_Len [t0] h1 fun t4 h2 =>
  Mcall prg f_history_History_Top [t0] h2 fun t6 h3 =>
  Mpu (buildV prg T_anchor_Mark [(0, t4), (1, t6)]) fun t7 =>
  Mwr (stN 33 h3 t2 t7) fun h4 =>
  Mpu (ldN 33 h4 t2) fun r5 =>
  R r5 h4
theorem sh_anchor_Of_chk : fchk prg [] Try.f22 1 = true := by kernel_rfl
theorem sh_anchor_Of_den (t0 : Value) (H : Heap) (R : Value → Heap → Prop) : fden prg [] Try.f22 [t0] H R = sh_anchor_Of t0 H R := by kernel_rfl
theorem sh_anchor_Of_calls {t0 : Value} {H : Heap} {R : Value → Heap → Prop} (h : sh_anchor_Of t0 H R) : HCalls prg f_anchor_Of [t0] H R :=
  calls_of Try.func22 sh_anchor_Of_chk (by rw [sh_anchor_Of_den]; exact h)

-- (*syngraph/anchor.Register).over
def sh_anchor_Register_over (t0 : Value) (H : Heap) (R : Value → Heap → Prop) : Prop :=
  Mpu (buildV prg T_anchor_Mark []) fun t4 =>
  Mpu (nck t0) fun t5 =>
  Mpu (fld 33 t5) fun t6 =>
  Mwr (stN 33 H t6 t4) fun h1 =>
  Mpu (nck t0) fun t7 =>
  Mpu (fld 66 t7) fun t8 =>
  Mwr (st1 h1 t8 (.bool false)) fun h2 =>
  R (.tuple #[]) h2
theorem sh_anchor_Register_over_chk : fchk prg [] Try.f23 1 = true := by kernel_rfl
theorem sh_anchor_Register_over_den (t0 : Value) (H : Heap) (R : Value → Heap → Prop) : fden prg [] Try.f23 [t0] H R = sh_anchor_Register_over t0 H R := by kernel_rfl
theorem sh_anchor_Register_over_calls {t0 : Value} {H : Heap} {R : Value → Heap → Prop} (h : sh_anchor_Register_over t0 H R) : HCalls prg f_anchor_Register_over [t0] H R :=
  calls_of Try.func23 sh_anchor_Register_over_chk (by rw [sh_anchor_Register_over_den]; exact h)

-- bytes.Clone
def sh_bytes_Clone (t0 : Value) (H : Heap) (R : Value → Heap → Prop) : Prop :=
  Mpu (binV .slc .eql t0 (.slice none 0 0)) fun t4 =>
  Mcd t4 (
    R (.slice none 0 0) H) (
    Mnews H T_uint8 0 (bslV prg T_uint8 0 []) fun t5 h1 =>
    Mapp T_uint8 1 1 h1 t5 t0 fun t7 h2 =>
    R t7 h2)
theorem sh_bytes_Clone_chk : fchk prg [] Try.f24 1 = true := by kernel_rfl
theorem sh_bytes_Clone_den (t0 : Value) (H : Heap) (R : Value → Heap → Prop) : fden prg [] Try.f24 [t0] H R = sh_bytes_Clone t0 H R := by kernel_rfl
theorem sh_bytes_Clone_calls {t0 : Value} {H : Heap} {R : Value → Heap → Prop} (h : sh_bytes_Clone t0 H R) : HCalls prg f_bytes_Clone [t0] H R :=
  calls_of Try.func24 sh_bytes_Clone_chk (by rw [sh_bytes_Clone_den]; exact h)

-- (*syngraph/wire.In).Int
def sh_wire_In_Int (t0 : Value) (H : Heap) (R : Value → Heap → Prop) : Prop :=
  Mcall prg f_wire_In_take [t0, (.int .i64 8)] H fun t5 h1 =>
  Mpu (nck t0) fun t7 =>
  Mpu (fld 1 t7) fun t8 =>
  Mpu (ld1 h1 t8) fun t9 =>
  Mcd t9 (
    R (.int .i64 0) h1) (
    Mcall prg f_wire_number [t5] h1 fun t11 h2 =>
    R t11 h2)
theorem sh_wire_In_Int_chk : fchk prg [] Try.f25 1 = true := by kernel_rfl
theorem sh_wire_In_Int_den (t0 : Value) (H : Heap) (R : Value → Heap → Prop) : fden prg [] Try.f25 [t0] H R = sh_wire_In_Int t0 H R := by kernel_rfl
theorem sh_wire_In_Int_calls {t0 : Value} {H : Heap} {R : Value → Heap → Prop} (h : sh_wire_In_Int t0 H R) : HCalls prg f_wire_In_Int [t0] H R :=
  calls_of Try.func25 sh_wire_In_Int_chk (by rw [sh_wire_In_Int_den]; exact h)

-- (*syngraph/wire.In).take
def sh_wire_In_take (t0 t1 : Value) (H : Heap) (R : Value → Heap → Prop) : Prop :=
  Mpu (nck t0) fun t7 =>
  Mpu (fld 1 t7) fun t8 =>
  Mpu (ld1 H t8) fun t9 =>
  J1 (fun k1 => Mif t9 false (
      Mpu (nck t0) fun t13 =>
      Mpu (fld 0 t13) fun t14 =>
      Mpu (ld1 H t14) fun t15 =>
      Mpu (lenV t15) fun t16 =>
      Mpu (binV .no .gtr t1 t16) fun t17 =>
      k1 t17 H) (
      k1 undef H)) fun t17 h2 =>
  Mpu (pickV t9 (.bool true) t17) fun t18 =>
  Mcd t18 (
    Mpu (nck t0) fun t20 =>
    Mpu (fld 1 t20) fun t21 =>
    Mwr (st1 h2 t21 (.bool true)) fun h3 =>
    R (.slice none 0 0) h3) (
    Mpu (nck t0) fun t23 =>
    Mpu (fld 0 t23) fun t24 =>
    Mpu (ld1 h2 t24) fun t25 =>
    Mpu (slS 1 t25 none (some t1) (some t1)) fun t28 =>
    Mpu (nck t0) fun t31 =>
    Mpu (fld 0 t31) fun t32 =>
    Mpu (ld1 h2 t32) fun t33 =>
    Mpu (slS 1 t33 (some t1) none none) fun t35 =>
    Mpu (nck t0) fun t36 =>
    Mpu (fld 0 t36) fun t37 =>
    Mwr (st1 h2 t37 t35) fun h4 =>
    R t28 h4)
theorem sh_wire_In_take_chk : fchk prg [17] Try.f26 2 = true := by kernel_rfl
theorem sh_wire_In_take_den (t0 t1 : Value) (H : Heap) (R : Value → Heap → Prop) : fden prg [17] Try.f26 [t0, t1] H R = sh_wire_In_take t0 t1 H R := by kernel_rfl
theorem sh_wire_In_take_calls {t0 t1 : Value} {H : Heap} {R : Value → Heap → Prop} (h : sh_wire_In_take t0 t1 H R) : HCalls prg f_wire_In_take [t0, t1] H R :=
  calls_of Try.func26 sh_wire_In_take_chk (by rw [sh_wire_In_take_den]; exact h)

-- (*syngraph/wire.Out).number
def sh_wire_Out_number (t0 t1 t2 : Value) (H : Heap) (R : Value → Heap → Prop) : Prop :=
  L1 (fun k1 => fun t8 h2 =>
    Mpu (binV .no .lss t8 t2) fun t9 =>
    Mcd t9 (
      Mpu (nck t0) fun t13 =>
      Mpu (fld 0 t13) fun t14 =>
      Mpu (ld1 h2 t14) fun t15 =>
      Mpu (binV .no .sub t2 (.int .i64 1)) fun t18 =>
      Mpu (binV .no .sub t18 t8) fun t20 =>
      Mpu (binV .no .mul (.int .i64 8) t20) fun t21 =>
      Mpu (binV .no .shr t1 t21) fun t22 =>
      Mpu (cvI .u8 t22) fun t23 =>
      Mnews h2 T_uint8 1 (bslV prg T_uint8 1 [(0, t23)]) fun t24 h3 =>
      Mre [(ld1 h3 t14, t15)] (
      Mapp T_uint8 1 1 h3 t15 t24 fun t25 h4 =>
      Mpu (nck t0) fun t26 =>
      Mpu (fld 0 t26) fun t27 =>
      Mwr (st1 h4 t27 t25) fun h5 =>
      Mpu (binV .no .add t8 (.int .i64 1)) fun t28 =>
      k1 t28 h5)) (
      R (.tuple #[]) h2)) ((.int .i64 0)) H
theorem sh_wire_Out_number_chk : fchk prg [8] Try.f27 3 = true := by kernel_rfl
theorem sh_wire_Out_number_den (t0 t1 t2 : Value) (H : Heap) (R : Value → Heap → Prop) : fden prg [8] Try.f27 [t0, t1, t2] H R = sh_wire_Out_number t0 t1 t2 H R := by kernel_rfl
theorem sh_wire_Out_number_calls {t0 t1 t2 : Value} {H : Heap} {R : Value → Heap → Prop} (h : sh_wire_Out_number t0 t1 t2 H R) : HCalls prg f_wire_Out_number [t0, t1, t2] H R :=
  calls_of Try.func27 sh_wire_Out_number_chk (by rw [sh_wire_Out_number_den]; exact h)

-- (*syngraph/history.History).Len
def sh_history_History_Len (t0 : Value) (H : Heap) (R : Value → Heap → Prop) : Prop :=
  Mpu (nck t0) fun t4 =>
  Mpu (fld 0 t4) fun t5 =>
  Mpu (ld1 H t5) fun t6 =>
  Mpu (lenV t6) fun t7 =>
  R t7 H
theorem sh_history_History_Len_chk : fchk prg [] Try.f28 1 = true := by kernel_rfl
theorem sh_history_History_Len_den (t0 : Value) (H : Heap) (R : Value → Heap → Prop) : fden prg [] Try.f28 [t0] H R = sh_history_History_Len t0 H R := by kernel_rfl
theorem sh_history_History_Len_calls {t0 : Value} {H : Heap} {R : Value → Heap → Prop} (h : sh_history_History_Len t0 H R) : HCalls prg f_history_History_Len [t0] H R :=
  calls_of Try.func28 sh_history_History_Len_chk (by rw [sh_history_History_Len_den]; exact h)

-- (*syngraph/history.History).Top
def sh_history_History_Top (t0 : Value) (H : Heap) (R : Value → Heap → Prop) : Prop :=
  Mnew H T_sha_Hash (zcells prg T_sha_Hash) fun t2 h1 =>
  Mpu (nck t0) fun t4 =>
  Mpu (fld 1 t4) fun t5 =>
  Mpu (ld1 h1 t5) fun t6 =>
  Mpu (lenV t6) fun t7 =>
  Mpu (binV .no .eql t7 (.int .i64 0)) fun t8 =>
  Mcd t8 (
    Mpu (buildV prg T_sha_Hash []) fun t9 =>
    Mwr (stN 32 h1 t2 t9) fun h2 =>
    Mpu (ldN 32 h2 t2) fun r3 =>
    R r3 h2) (
    Mpu (nck t0) fun t11 =>
    Mpu (fld 1 t11) fun t12 =>
    Mpu (ld1 h1 t12) fun t13 =>
    Mpu (nck t0) fun t15 =>
    Mpu (fld 1 t15) fun t16 =>
    Mpu (ld1 h1 t16) fun t17 =>
    Mpu (lenV t17) fun t18 =>
    Mpu (binV .no .sub t18 (.int .i64 1)) fun t19 =>
    Mpu (ixS 32 t13 t19) fun t20 =>
    Mpu (ldN 32 h1 t20) fun t21 =>
    Mwr (stN 32 h1 t2 t21) fun h4 =>
    Mpu (ldN 32 h4 t2) fun r5 =>
    R r5 h4)
theorem sh_history_History_Top_chk : fchk prg [] Try.f29 1 = true := by kernel_rfl
theorem sh_history_History_Top_den (t0 : Value) (H : Heap) (R : Value → Heap → Prop) : fden prg [] Try.f29 [t0] H R = sh_history_History_Top t0 H R := by kernel_rfl
theorem sh_history_History_Top_calls {t0 : Value} {H : Heap} {R : Value → Heap → Prop} (h : sh_history_History_Top t0 H R) : HCalls prg f_history_History_Top [t0] H R :=
  calls_of Try.func29 sh_history_History_Top_chk (by rw [sh_history_History_Top_den]; exact h)

-- syngraph/wire.number
def sh_wire_number (t0 : Value) (H : Heap) (R : Value → Heap → Prop) : Prop :=
  J2 (fun k1 =>
    Mpu (lenV t0) fun t7 =>
    L2 (fun k3 => fun t3 t8 h4 =>
      Mpu (binV .no .lss t8 t7) fun t9 =>
      Mcd t9 (
        Mpu (ixS 1 t0 t8) fun t10 =>
        Mpu (ld1 h4 t10) fun t11 =>
        Mpu (binV .no .shl t3 (.int .u64 8)) fun t13 =>
        Mpu (cvI .u64 t11) fun t15 =>
        Mpu (binV .no .or t13 t15) fun t16 =>
        Mpu (binV .no .add t8 (.int .i64 1)) fun t17 =>
        k3 t16 t17 h4) (
        k1 t3 t8 h4)) ((.int .u64 0)) ((.int .i64 0)) H) fun t3 t8 h2 =>
  Mpu (cvI .i64 t3) fun t19 =>
  R t19 h2
theorem sh_wire_number_chk : fchk prg [3, 8] Try.f30 1 = true := by kernel_rfl
theorem sh_wire_number_den (t0 : Value) (H : Heap) (R : Value → Heap → Prop) : fden prg [3, 8] Try.f30 [t0] H R = sh_wire_number t0 H R := by kernel_rfl
theorem sh_wire_number_calls {t0 : Value} {H : Heap} {R : Value → Heap → Prop} (h : sh_wire_number t0 H R) : HCalls prg f_wire_number [t0] H R :=
  calls_of Try.func30 sh_wire_number_chk (by rw [sh_wire_number_den]; exact h)

end Go.Proofs.Ytdmciknajaedmaa
