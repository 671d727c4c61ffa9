/- JOINED: Sj7 Sj8 -/
import Derived.Test.YtanhgihfgmbojaaGreatDoorGE
set_option linter.unusedSimpArgs false
set_option linter.unusedVariables false
/- PRINTED: clean texts -/
namespace Go.Proofs.YtanhgihfgmbojaaGreatDoor
open Go.X
set_option maxRecDepth 100000
-- (syngraph/manifest.File).name
def sh_manifest_File_name (t0 : Value) (H : Heap) (R : Value → Heap → Prop) : Prop :=
  Mnew H T_manifest_File (some (Value.cells t0)) fun t1 h1 =>
  Mpu (fld 0 t1) fun t3 =>
  Mpu (ld1 h1 t3) fun t4 =>
  R t4 h1
theorem sh_manifest_File_name_chk : fchkF prg [] Tryz.f97 1 = true := by kernel_rfl
theorem sh_manifest_File_name_den (t0 : Value) (H : Heap) (R : Value → Heap → Prop) : fdenF prg [] Tryz.f97 [t0] H R = sh_manifest_File_name t0 H R := by kernel_rfl
theorem sh_manifest_File_name_calls {t0 : Value} {H : Heap} {R : Value → Heap → Prop} (h : sh_manifest_File_name t0 H R) : HCalls prg f_manifest_File_name [t0] H R :=
  calls_ofF Tryz.func97 sh_manifest_File_name_chk (by rw [sh_manifest_File_name_den]; exact h)

-- syngraph/files.Name
def sh_files_Name (t0 : Value) (H : Heap) (R : Value → Heap → Prop) : Prop :=
  Mnew H T_bool (zcells prg T_bool) fun t2 h1 =>
  Mpu (binV .no .eql t0 (.string ⟨#[]⟩)) fun t5 =>
  J1 (fun k2 => Mif t5 false (
      Mpu (lenT t0) fun t8 =>
      Mpu (binV .no .gtr t8 (.int .i64 64)) fun t9 =>
      k2 t9 h1) (
      k2 undef h1)) fun t9_2 h3 =>
  Mpu (pickV t5 (.bool true) t9_2) fun t10 =>
  Mcd t10 (
    Mwr (st1 h3 t2 (.bool false)) fun h4 =>
    Mcl H.size h4 fun h5 =>
    Mpu (ld1 h5 t2) fun r6 =>
    R r6 h5) (
    Mcall prg f_strings_SplitSeq [t0, (.string ⟨#[47]⟩)] h3 fun t12 h7 =>
    Mrange prg H.size t12 h7 (fun a8 h9 k10 => a8.length = 1 ∧ (
        Mbeg (h7.size + 1) h9 fun h13 =>
        Mpu (binV .no .eql (a8.getD 0 undef) (.string ⟨#[]⟩)) fun t15 =>
        J1 (fun k14 => Mif t15 false (
            Mpu (binV .no .eql (a8.getD 0 undef) (.string ⟨#[46]⟩)) fun t18 =>
            k14 t18 h13) (
            k14 undef h13)) fun t18_2 h15 =>
        Mpu (pickV t15 (.bool true) t18_2) fun t19 =>
        J1 (fun k16 => Mif t19 false (
            Mpu (binV .no .eql (a8.getD 0 undef) (.string ⟨#[46, 46]⟩)) fun t22 =>
            k16 t22 h15) (
            k16 undef h15)) fun t22_2 h17 =>
        Mpu (pickV t19 (.bool true) t22_2) fun t23 =>
        J1 (fun k18 => Mif t23 false (
            Mcall prg f_strings_Trim [(a8.getD 0 undef), (.string ⟨#[97, 98, 99, 100, 101, 102, 103, 104, 105, 106, 107, 108, 109, 110, 111, 112, 113, 114, 115, 116, 117, 118, 119, 120, 121, 122, 48, 49, 50, 51, 52, 53, 54, 55, 56, 57, 46, 95, 45]⟩)] h17 fun t26 h19 =>
            Mpu (binV .no .neq t26 (.string ⟨#[]⟩)) fun t27 =>
            k18 t27 h19) (
            k18 undef h17)) fun t27_2 h20 =>
        Mpu (pickV t23 (.bool true) t27_2) fun t28 =>
        Mcd t28 (
          Mwr (st1 h20 t2 (.bool false)) fun h21 =>
          k10 (some Code.ret) h21) (
          k10 none h20))) fun j11 h12 =>
      (j11 = none ∧ (
        Mwr (st1 h12 t2 (.bool true)) fun h22 =>
        Mcl H.size h22 fun h23 =>
        Mpu (ld1 h23 t2) fun r24 =>
        R r24 h23)) ∨
      (j11 = some Code.ret ∧ (
        Mcl H.size h12 fun h25 =>
        Mpu (ld1 h25 t2) fun r26 =>
        R r26 h25)))
theorem sh_files_Name_chk : fchkF prg [9, 18, 22, 27] Tryz.f98 1 = true := by kernel_rfl
theorem sh_files_Name_den (t0 : Value) (H : Heap) (R : Value → Heap → Prop) : fdenF prg [9, 18, 22, 27] Tryz.f98 [t0] H R = sh_files_Name t0 H R := by kernel_rfl
theorem sh_files_Name_calls {t0 : Value} {H : Heap} {R : Value → Heap → Prop} (h : sh_files_Name t0 H R) : HCalls prg f_files_Name [t0] H R :=
  calls_ofF Tryz.func98 sh_files_Name_chk (by rw [sh_files_Name_den]; exact h)

-- syngraph/manifest.under
def sh_manifest_under (t0 t1 : Value) (H : Heap) (R : Value → Heap → Prop) : Prop :=
  Mpu (binV .no .eql t0 t1) fun t7 =>
  J1 (fun k1 => Mif t7 false (
      Mpu (binV .no .add t1 (.string ⟨#[47]⟩)) fun t11 =>
      Mcall prg f_strings_HasPrefix [t0, t11] H fun t12 h2 =>
      k1 t12 h2) (
      k1 undef H)) fun t12_2 h3 =>
  Mpu (pickV t7 (.bool true) t12_2) fun t13 =>
  R t13 h3
theorem sh_manifest_under_chk : fchkF prg [12] Tryz.f99 2 = true := by kernel_rfl
theorem sh_manifest_under_den (t0 t1 : Value) (H : Heap) (R : Value → Heap → Prop) : fdenF prg [12] Tryz.f99 [t0, t1] H R = sh_manifest_under t0 t1 H R := by kernel_rfl
theorem sh_manifest_under_calls {t0 t1 : Value} {H : Heap} {R : Value → Heap → Prop} (h : sh_manifest_under t0 t1 H R) : HCalls prg f_manifest_under [t0, t1] H R :=
  calls_ofF Tryz.func99 sh_manifest_under_chk (by rw [sh_manifest_under_den]; exact h)

-- slices.IndexFunc[[]syngraph/manifest.Dep,syngraph/manifest.Dep]
def sh_slices_IndexFunc_S_manifest_Dep_manifest_Dep (t0 t1 : Value) (H : Heap) (R : Value → Heap → Prop) : Prop :=
  J1 (fun k1 =>
    Mpu (lenV t0) fun t7 =>
    L1 (fun k3 => fun t8_2 h4 =>
      Mpu (binV .no .lss t8_2 t7) fun t9 =>
      Mcd t9 (
        Mpu (ixS 6 t0 t8_2) fun t14 =>
        Mpu (ldN 6 h4 t14) fun t15 =>
        Mcallv prg t1 [t15] h4 fun t16 h5 =>
        Mcd t16 (
          R t8_2 h5) (
          Mpu (binV .no .add t8_2 (.int .i64 1)) fun t18 =>
          k3 t18 h5)) (
        k1 t8_2 h4)) ((.int .i64 0)) H) fun t8_4 h2 =>
  R (.int .i64 (-1)) h2
theorem sh_slices_IndexFunc_S_manifest_Dep_manifest_Dep_chk : fchkF prg [8] Tryz.f108 2 = true := by kernel_rfl
theorem sh_slices_IndexFunc_S_manifest_Dep_manifest_Dep_den (t0 t1 : Value) (H : Heap) (R : Value → Heap → Prop) : fdenF prg [8] Tryz.f108 [t0, t1] H R = sh_slices_IndexFunc_S_manifest_Dep_manifest_Dep t0 t1 H R := by kernel_rfl
theorem sh_slices_IndexFunc_S_manifest_Dep_manifest_Dep_calls {t0 t1 : Value} {H : Heap} {R : Value → Heap → Prop} (h : sh_slices_IndexFunc_S_manifest_Dep_manifest_Dep t0 t1 H R) : HCalls prg f_slices_IndexFunc_S_manifest_Dep_manifest_Dep [t0, t1] H R :=
  calls_ofF Tryz.func108 sh_slices_IndexFunc_S_manifest_Dep_manifest_Dep_chk (by rw [sh_slices_IndexFunc_S_manifest_Dep_manifest_Dep_den]; exact h)

-- slices.rotateLeft[string]
-- slices.insertionSortCmpFunc[int]
def sh_slices_insertionSortCmpFunc_int (t0 t1 t2 t3 : Value) (H : Heap) (R : Value → Heap → Prop) : Prop :=
  Mpu (binV .no .add t1 (.int .i64 1)) fun t11 =>
  L1 (fun k1 => fun t8_2 h2 =>
    Mpu (binV .no .lss t8_2 t2) fun t14 =>
    Mcd t14 (
      J2 (fun k3 =>
        L1 (fun k5 => fun t9_2 h6 =>
          Mpu (binV .no .gtr t9_2 t1) fun t20 =>
          J1 (fun k7 => Mif t20 true (
              Mpu (ixS 1 t0 t9_2) fun t25 =>
              Mpu (ld1 h6 t25) fun t26 =>
              Mpu (binV .no .sub t9_2 (.int .i64 1)) fun t29 =>
              Mpu (ixS 1 t0 t29) fun t30 =>
              Mpu (ld1 h6 t30) fun t31 =>
              Mcallv prg t3 [t26, t31] h6 fun t32 h8 =>
              Mpu (binV .no .lss t32 (.int .i64 0)) fun t33 =>
              k7 t33 h8) (
              k7 undef h6)) fun t33_2 h9 =>
          Mpu (pickV t20 t33_2 (.bool false)) fun t34 =>
          Mcd t34 (
            Mpu (binV .no .sub t9_2 (.int .i64 1)) fun t41 =>
            Mpu (binV .no .sub t9_2 (.int .i64 1)) fun t44 =>
            Mpu (ixS 1 t0 t44) fun t45 =>
            Mpu (ld1 h9 t45) fun t46 =>
            Mpu (ixS 1 t0 t9_2) fun t49 =>
            Mpu (ld1 h9 t49) fun t50 =>
            Mpu (ixS 1 t0 t9_2) fun t51 =>
            Mwr (st1 h9 t51 t46) fun h10 =>
            Mpu (ixS 1 t0 t41) fun t52 =>
            Mwr (st1 h10 t52 t50) fun h11 =>
            Mpu (binV .no .sub t9_2 (.int .i64 1)) fun t36 =>
            k5 t36 h11) (
            k3 t9_2 t33_2 h9)) (t8_2) h2) fun t9_4 t33_3 h4 =>
      Mpu (binV .no .add t8_2 (.int .i64 1)) fun t16 =>
      k1 t16 h4) (
      R (.tuple #[]) h2)) (t11) H
theorem sh_slices_insertionSortCmpFunc_int_chk : fchkF prg [8, 9, 33] Tryz.f117 4 = true := by kernel_rfl
theorem sh_slices_insertionSortCmpFunc_int_den (t0 t1 t2 t3 : Value) (H : Heap) (R : Value → Heap → Prop) : fdenF prg [8, 9, 33] Tryz.f117 [t0, t1, t2, t3] H R = sh_slices_insertionSortCmpFunc_int t0 t1 t2 t3 H R := by kernel_rfl
theorem sh_slices_insertionSortCmpFunc_int_calls {t0 t1 t2 t3 : Value} {H : Heap} {R : Value → Heap → Prop} (h : sh_slices_insertionSortCmpFunc_int t0 t1 t2 t3 H R) : HCalls prg f_slices_insertionSortCmpFunc_int [t0, t1, t2, t3] H R :=
  calls_ofF Tryz.func117 sh_slices_insertionSortCmpFunc_int_chk (by rw [sh_slices_insertionSortCmpFunc_int_den]; exact h)

-- slices.heapSortCmpFunc[int]
-- slices.breakPatternsCmpFunc[int]
-- slices.choosePivotCmpFunc[int]
-- slices.reverseRangeCmpFunc[int]
end Go.Proofs.YtanhgihfgmbojaaGreatDoor

/- PRINTED: clean texts -/
namespace Go.Proofs.YtanhgihfgmbojaaGreatDoor
open Go.X
set_option maxRecDepth 100000
-- slices.partialInsertionSortCmpFunc[int]
-- slices.partitionEqualCmpFunc[int]
-- slices.partitionCmpFunc[int]
-- math/bits.Len32
-- strings.HasPrefix
def sh_strings_HasPrefix (t0 t1 : Value) (H : Heap) (R : Value → Heap → Prop) : Prop :=
  Mcall prg f_internal_stringslite_HasPrefix [t0, t1] H fun t7 h1 =>
  R t7 h1
theorem sh_strings_HasPrefix_chk : fchkF prg [] Tryz.f129 2 = true := by kernel_rfl
theorem sh_strings_HasPrefix_den (t0 t1 : Value) (H : Heap) (R : Value → Heap → Prop) : fdenF prg [] Tryz.f129 [t0, t1] H R = sh_strings_HasPrefix t0 t1 H R := by kernel_rfl
theorem sh_strings_HasPrefix_calls {t0 t1 : Value} {H : Heap} {R : Value → Heap → Prop} (h : sh_strings_HasPrefix t0 t1 H R) : HCalls prg f_strings_HasPrefix [t0, t1] H R :=
  calls_ofF Tryz.func129 sh_strings_HasPrefix_chk (by rw [sh_strings_HasPrefix_den]; exact h)

-- slices.Reverse[[]string,string]
-- slices.siftDownCmpFunc[int]
-- slices.nextPowerOfTwo
-- (*slices.xorshift).Next
-- slices.medianAdjacentCmpFunc[int]
end Go.Proofs.YtanhgihfgmbojaaGreatDoor

