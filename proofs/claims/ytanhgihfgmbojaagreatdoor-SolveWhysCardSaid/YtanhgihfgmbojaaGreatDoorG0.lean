/- JOINED: V38 V39 -/
import Derived.Test.YtanhgihfgmbojaaGreatDoorGO
import Derived.Test.YtanhgihfgmbojaaGreatDoorGJ
set_option linter.unusedSimpArgs false
set_option linter.unusedVariables false
/- wants: right, shown, what fits. -/
namespace Go.Proofs.YtanhgihfgmbojaaGreatDoor
open Go.X Go.X.Diff
set_option maxRecDepth 100000

structure Want where
  op : List UInt8
  ver : Ver
instance : DecidableEq Want := fun a b => decidable_of_iff (a.op = b.op ∧ a.ver = b.ver) (by cases a; cases b; simp)
structure Want.wf (w : Want) : Prop where
  ver : w.ver.wf
  op : w.op.length ≤ 9223372036854775807
def wantC (w : Want) : List Value := str w.op :: verC w.ver
theorem wantC_len {w : Want} (h : w.wf) : (wantC w).length = 5 := by simp [wantC, verC_len h.ver]
theorem wantC_one {w : Want} : ∀ c ∈ wantC w, c.oneCell' = true := by
  intro c hc
  rcases List.mem_cons.1 hc with rfl | hc
  · rfl
  · exact verC_one c hc
def zeroW : Want := ⟨[], zeroV⟩
theorem zeroW_wf : zeroW.wf := ⟨zeroV_wf, by simp [zeroW]⟩
section
variable {h : Heap} {q : Nat} {w : Want}
theorem want_ld5 (a : At h q (wantC w)) (hw : w.wf) : ldN 5 h (Ptr q 0) = some (.agg (wantC w).toArray) := a.ldN (wantC_len hw)
theorem want_op (a : At h q (wantC w)) : ld1 h (Ptr q 0) = some (str w.op) := a.ld rfl
theorem want_ver (a : At h q (wantC w)) (hw : w.wf) : ldN 4 h (Ptr q 1) = some (.agg (verC w.ver).toArray) := by
  obtain ⟨T, a⟩ := a
  exact ldN_mid (A := [str w.op]) (B := verC w.ver) (C := []) (by rw [List.append_nil]; exact a) rfl (verC_len hw.ver).symm
end
def opsP : List (List UInt8) := [[33, 61], [60, 61], [62, 61], [61], [60], [62], [94], [42]]
def OpsT (H : Heap) : Prop := ∃ T f, H[g_version_ops]? = some (.cells (opsP.map str).toArray T f)
theorem OpsT.keep {S : Nat → Prop} {H H' : Heap} (h : OpsT H) (k : Keep S H H') (hs : ∀ b, S b → NG ≤ b) : OpsT H' := by
  obtain ⟨T, f, h⟩ := h
  exact ⟨T, f, k.at h fun h => absurd (hs _ h) (by decide)⟩
theorem opsP_iff {op : List UInt8} : op ∈ opsP ↔ op ∈ opsR ∨ op = [42] := by
  unfold opsP opsR
  simp only [List.mem_cons, List.not_mem_nil, or_false]
  constructor
  · rintro (h | h | h | h | h | h | h | h) <;> simp [h]
  · rintro ((h | h | h | h | h | h | h) | h) <;> simp [h]
theorem c_Contains {H : Heap} {op : List UInt8} (hO : OpsT H) : HCalls prg f_slices_Contains_S_string_string [.slice (some ⟨g_version_ops, 0, none⟩) 8 8, str op] H fun u H' => u = .bool (decide (op ∈ opsP)) ∧ H = H' := by
  apply sh_slices_Contains_S_string_string_calls
  unfold sh_slices_Contains_S_string_string
  refine call_i (R := fun u H' => (∃ i : Int, u = .int .i64 i ∧ (decide (i ≥ 0) = decide (op ∈ opsP))) ∧ H = H') ?_ ?_
  · apply sh_slices_Index_S_string_string_calls
    unfold sh_slices_Index_S_string_string
    obtain ⟨T, f, hO⟩ := hO
    refine J1_i (fun u h => op ∉ opsP ∧ H = h) (fun k2 hk2 => ?_) ?_
    · rw [lenV_slice, Mpu_some]
      refine L1_i (fun u h => ∃ i : Nat, i ≤ 8 ∧ u = .int .i64 (i : Nat) ∧ op ∉ opsP.take i ∧ H = h) (fun u _ => match u with | .int _ t => 8 - t.toNat | _ => 0) ⟨0, by omega, rfl, by simp, rfl⟩ ?_
      rintro _ _ ⟨i, hi, rfl, hn, rfl⟩ k hk
      have e8 : ((8 : Nat) : Int) = 8 := rfl
      simp only [e8, binV_int, intV, Mpu_some, Mcd_bool, decide_eq_true_eq]
      by_cases hlt : (i : Int) < 8
      · rw [if_pos hlt]
        have hl : opsP.length = 8 := rfl
        have hx : opsP[i]? = some (opsP[i]'(by omega)) := List.getElem?_eq_getElem _
        generalize (opsP[i]'(by omega)) = x at hx
        have e1 : ixS 1 (.slice (some ⟨g_version_ops, 0, none⟩) 8 8) (.int .i64 (i : Nat)) = some (Ptr g_version_ops i) := by
          simp only [ixS]; rw [if_pos ⟨by omega, by omega⟩]; simp
        have e2 : ld1 H (Ptr g_version_ops i) = some (str x) := ld_l hO (by simp [hx])
        have hinc : IntKind.i64.wrap ((i : Int) + 1) = (i + 1 : Nat) := by rw [wrap_id] <;> omega
        simp only [e1, e2, Mpu_some, str_eql, Mcd_bool, binV_int, intV, hinc, decide_eq_true_eq]
        by_cases hxo : op = x
        · rw [if_pos hxo]
          refine ⟨⟨i, rfl, ?_⟩, by trivial⟩
          rw [decide_eq_true (show op ∈ opsP from hxo ▸ List.mem_of_getElem? hx), decide_eq_true (by omega)]
        · rw [if_neg hxo]
          refine hk _ _ ⟨i + 1, by omega, rfl, ?_, rfl⟩ (by show 8 - (i + 1) < 8 - i; omega)
          rw [List.take_add_one, hx]
          simp only [Option.toList_some, List.mem_append, List.mem_singleton, not_or]
          exact ⟨hn, hxo⟩
      · rw [if_neg hlt]
        rw [List.take_of_length_le (by show 8 ≤ i; omega)] at hn
        exact hk2 _ _ ⟨hn, rfl⟩
    rintro _ _ ⟨hn, rfl⟩
    exact ⟨⟨-1, rfl, by rw [decide_eq_false hn]; rfl⟩, rfl⟩
  · rintro _ _ ⟨⟨i, rfl, hi⟩, rfl⟩
    simp only [binV_int, intV, Mpu_some, hi]
    exact ⟨by trivial, by trivial⟩

def wantOk (w : Want) : Bool := bif decide (w.op = [42]) then decide (w.ver = zeroV) else decide (w.op ∈ opsR) && verOk w.ver
theorem c_WantRight {H : Heap} {w : Want} (hw : w.wf) (hO : OpsT H) : HCalls prg f_version_Want_Right [.agg (wantC w).toArray] H fun u H' => u = .bool (wantOk w) ∧ Keep (fun _ => False) H H' := by
  apply sh_version_Want_Right_calls
  unfold sh_version_Want_Right
  simp only [Cells_agg, Mnew_some]
  generalize hH1 : H.push (.cells (wantC w).toArray T_version_Want (0, 0)) = H1
  have k1 : Keep (fun _ => False) H H1 := by rw [← hH1]; exact Keep.push
  have a1 : At H1 H.size (wantC w) := by rw [← hH1]; exact At.push
  have es := fun q => str_eql (q := q) (a := w.op) (b := [42])
  have sl : slA 8 1 (.pointer (some ⟨g_version_ops, 0, none⟩)) none none none = some (.slice (some ⟨g_version_ops, 0, none⟩) 8 8) := by simp [slA, bnds, bnd]
  unfold wantOk
  cases hs : decide (w.op = [42]) <;> simp only [fld_ptr, Nat.zero_add, want_op a1, want_ver a1 hw, es, hs, b_V0, eqVer hw.ver zeroV_wf, sl, unV_not, Bool.not_true, Bool.not_false, Mif_bool, Mif_undef, pickV_bool, Mcd_bool, Mpu_some, if_true, if_false, Bool.false_eq_true, Bool.true_eq_false, decide_true, decide_false, reduceCtorEq, J1_eq, ex20, ex21, ex30, ex31, ex32, Mre_ok, Mre_nil, cond_true, cond_false]
  · refine call_i (c_Contains (hO.keep k1 fun _ h => h.elim)) ?_
    rintro _ _ ⟨rfl, rfl⟩
    have hm : decide (w.op ∈ opsP) = decide (w.op ∈ opsR) := by
      rw [decide_eq_decide, opsP_iff]
      exact ⟨fun h => h.resolve_right (of_decide_eq_false hs), .inl⟩
    rw [hm]
    cases hr : decide (w.op ∈ opsR) <;> simp only [unV_not, Bool.not_true, Bool.not_false, Mif_bool, Mif_undef, pickV_bool, Mcd_bool, Mpu_some, if_true, if_false, Bool.false_eq_true, Bool.true_eq_false, decide_true, decide_false, reduceCtorEq, J1_eq, ex20, ex21, ex30, ex31, ex32, Mre_ok, Mre_nil, fld_ptr, Nat.zero_add, want_ver a1 hw, Bool.false_and, Bool.true_and]
    · exact ⟨by trivial, k1⟩
    · refine call_i (c_VerRight hw.ver) ?_
      rintro _ h2 ⟨rfl, k2⟩
      simp only [unV_not, Bool.not_true, Bool.not_false, Mif_bool, Mif_undef, pickV_bool, Mcd_bool, Mpu_some, if_true, if_false, Bool.false_eq_true, Bool.true_eq_false, decide_true, decide_false, reduceCtorEq, J1_eq, ex20, ex21, ex30, ex31, ex32, Mre_ok, Mre_nil]
      exact ⟨by trivial, k1.trans k2⟩
  · exact ⟨by trivial, k1⟩
theorem opsR_len {op : List UInt8} (h : op ∈ opsR) : op.length ≤ 2 := by
  unfold opsR at h
  simp only [List.mem_cons, List.not_mem_nil, or_false] at h
  rcases h with h | h | h | h | h | h | h <;> simp [h]
def wantS (w : Want) : List UInt8 := bif wantOk w then (bif decide (w.op = [42]) then [42] else w.op ++ showF w.ver) else []
theorem wantOk_op {w : Want} (h : wantOk w = true) (hs : decide (w.op = [42]) = false) : w.op ∈ opsR ∧ verOk w.ver = true := by
  unfold wantOk at h
  rw [hs, cond_false, Bool.and_eq_true, decide_eq_true_eq] at h
  exact h
theorem c_WantShow {H : Heap} {w : Want} (hw : w.wf) (hO : OpsT H) (hT : PowT H) : HCalls prg f_version_Want_Show [.agg (wantC w).toArray] H fun u H' => u = str (wantS w) ∧ Keep (fun _ => False) H H' := by
  apply sh_version_Want_Show_calls
  unfold sh_version_Want_Show
  simp only [Cells_agg, Mnew_some]
  generalize hH1 : H.push (.cells (wantC w).toArray T_version_Want (0, 0)) = H1
  have k1 : Keep (fun _ => False) H H1 := by rw [← hH1]; exact Keep.push
  have a1 : At H1 H.size (wantC w) := by rw [← hH1]; exact At.push
  rw [show (Value.pointer (some ⟨H.size, 0, none⟩)) = Ptr H.size 0 from rfl, want_ld5 a1 hw, Mpu_some]
  refine call_i (c_WantRight hw (hO.keep k1 fun _ h => h.elim)) ?_
  rintro _ h2 ⟨rfl, k2⟩
  have a2 := a1.keep k2 id
  have k12 := k1.trans k2
  have es := fun q => str_eql (q := q) (a := w.op) (b := [42])
  unfold wantS
  cases hok : wantOk w <;> simp only [unV_not, Bool.not_true, Bool.not_false, Mif_bool, Mif_undef, pickV_bool, Mcd_bool, Mpu_some, if_true, if_false, Bool.false_eq_true, Bool.true_eq_false, decide_true, decide_false, reduceCtorEq, J1_eq, ex20, ex21, ex30, ex31, ex32, Mre_ok, Mre_nil, cond_true, cond_false]
  · exact ⟨by trivial, k12⟩
  · cases hs : decide (w.op = [42]) <;> simp only [fld_ptr, Nat.zero_add, want_op a2, want_ver a2 hw, es, hs, unV_not, Bool.not_true, Bool.not_false, Mif_bool, Mif_undef, pickV_bool, Mcd_bool, Mpu_some, if_true, if_false, Bool.false_eq_true, Bool.true_eq_false, decide_true, decide_false, reduceCtorEq, J1_eq, ex20, ex21, ex30, ex31, ex32, Mre_ok, Mre_nil, cond_true, cond_false]
    · refine call_i (c_ShowT hw.ver (hT.keep k12 fun _ h => h.elim)) ?_
      rintro _ h3 ⟨rfl, k3⟩
      have a3 := a2.keep k3 id
      obtain ⟨hr, hv⟩ := wantOk_op hok hs
      have l1 := opsR_len hr
      have l2 := showF_len (v := w.ver) hw.ver.p3
      simp only [want_op a3, str_app (show w.op.length + (showF w.ver).length ≤ 9223372036854775807 by omega), unV_not, Bool.not_true, Bool.not_false, Mif_bool, Mif_undef, pickV_bool, Mcd_bool, Mpu_some, if_true, if_false, Bool.false_eq_true, Bool.true_eq_false, decide_true, decide_false, reduceCtorEq, J1_eq, ex20, ex21, ex30, ex31, ex32, Mre_ok, Mre_nil]
      exact ⟨by trivial, k12.trans k3⟩
    · exact ⟨by trivial, k12⟩

theorem c_EqInts {H : Heap} {q r n c c' : Nat} {v w : Ver} (hv : v.wf) (hw : w.wf) (a : At H q (verC v)) (b : At H r (verC w)) (hn : n ≤ 3) :
    HCalls prg f_slices_Equal_S_int_int [.slice (some ⟨q, 0, none⟩) n c, .slice (some ⟨r, 0, none⟩) n c'] H fun u H' => u = .bool (decide (v.p.take n = w.p.take n)) ∧ H = H' := by
  apply sh_slices_Equal_S_int_int_calls
  unfold sh_slices_Equal_S_int_int
  have hp3 := hv.p3
  have hq3 := hw.p3
  have e0 : binV .no .neq (.int .i64 (n : Nat)) (.int .i64 (n : Nat)) = some (.bool false) := by rw [binV_int]; simp [intV]
  simp only [lenV_slice, e0, unV_not, Bool.not_true, Bool.not_false, Mif_bool, Mif_undef, pickV_bool, Mcd_bool, Mpu_some, if_true, if_false, Bool.false_eq_true, Bool.true_eq_false, decide_true, decide_false, reduceCtorEq, J1_eq, ex20, ex21, ex30, ex31, ex32, Mre_ok, Mre_nil]
  refine L1_i (fun u h => ∃ i : Nat, i ≤ n ∧ u = .int .i64 (i : Nat) ∧ v.p.take i = w.p.take i ∧ H = h) (fun u _ => match u with | .int _ t => n - t.toNat | _ => 0) ⟨0, by omega, rfl, rfl, rfl⟩ ?_
  rintro _ _ ⟨i, hi, rfl, ht, rfl⟩ k hk
  simp only [binV_int, intV, Mpu_some, Mcd_bool, decide_eq_true_eq]
  by_cases hlt : (i : Int) < n
  · rw [if_pos hlt]
    have h1 : v.p[i]? = some (v.p[i]'(by omega)) := List.getElem?_eq_getElem _
    have h2 : w.p[i]? = some (w.p[i]'(by omega)) := List.getElem?_eq_getElem _
    generalize (v.p[i]'(by omega)) = x at h1
    generalize (w.p[i]'(by omega)) = y at h2
    have hinc : IntKind.i64.wrap ((i : Int) + 1) = (i + 1 : Nat) := by rw [wrap_id] <;> omega
    have i1 : ixS 1 (.slice (some ⟨q, 0, none⟩) n c) (.int .i64 (i : Nat)) = some (Ptr q i) := by
      simp only [ixS]; rw [if_pos ⟨by omega, by omega⟩]; simp
    have i2 : ixS 1 (.slice (some ⟨r, 0, none⟩) n c') (.int .i64 (i : Nat)) = some (Ptr r i) := by
      simp only [ixS]; rw [if_pos ⟨by omega, by omega⟩]; simp
    simp only [i1, i2, Mpu_some, ver_part a h1, ver_part b h2, binV_int, intV, Mcd_bool, hinc, bne_iff_ne, ne_eq]
    by_cases hxy : x = y
    · subst hxy
      rw [if_neg (by simp)]
      exact hk _ _ ⟨i + 1, by omega, rfl, take_ext ht h1 h2, rfl⟩ (by show n - (i + 1) < n - i; omega)
    · rw [if_pos hxy]
      refine ⟨?_, by trivial⟩
      rw [decide_eq_false]
      intro he
      have := congrArg (·[i]?) he
      simp only [List.getElem?_take] at this
      rw [if_pos (by omega), if_pos (by omega), h1, h2] at this
      exact hxy (Option.some.inj this)
  · rw [if_neg hlt]
    obtain rfl : i = n := by omega
    exact ⟨by rw [decide_eq_true ht], by trivial⟩

theorem c_near {H : Heap} {w v : Ver} (hw : w.wf) (hv : v.wf) : HCalls prg f_version_near [.agg (verC w).toArray, .agg (verC v).toArray] H fun u H' => u = .bool ((vp0 v == vp0 w) && (vp0 w != 0 || vp1 v == vp1 w)) ∧ Keep (fun _ => False) H H' := by
  apply sh_version_near_calls
  unfold sh_version_near
  simp only [Cells_agg, Mnew_some]
  generalize hH1 : H.push (.cells (verC w).toArray T_version_Version (0, 0)) = H1
  have k1 : Keep (fun _ => False) H H1 := by rw [← hH1]; exact Keep.push
  have a1 : At H1 H.size (verC w) := by rw [← hH1]; exact At.push
  generalize hH2 : H1.push (.cells (verC v).toArray T_version_Version (0, 0)) = H2
  have k2 : Keep (fun _ => False) H1 H2 := by rw [← hH2]; exact Keep.push
  have b2 : At H2 H1.size (verC v) := by rw [← hH2]; exact At.push
  have a2 := a1.keep k2 id
  have kk := k1.trans k2
  obtain ⟨x, y, z, hp⟩ := Ver.cases3 hv
  obtain ⟨x', y', z', hp'⟩ := Ver.cases3 hw
  have px' : ld1 H2 (Ptr H.size 0) = some (.int .i64 x') := ver_part a2 (i := 0) (by rw [hp']; rfl)
  have p0v : vp0 v = x := by unfold vp0; rw [hp]; rfl
  have p1v : vp1 v = y := by unfold vp1; rw [hp]; rfl
  have p0w : vp0 w = x' := by unfold vp0; rw [hp']; rfl
  have p1w : vp1 w = y' := by unfold vp1; rw [hp']; rfl
  have sl2 : ∀ q : Nat, slA 3 1 (Ptr q 0) none (some (.int .i64 2)) none = some (.slice (some ⟨q, 0, none⟩) 2 3) := fun q => by simp [slA, bnds, bnd]
  have sl1 : ∀ q : Nat, slA 3 1 (Ptr q 0) none (some (.int .i64 1)) none = some (.slice (some ⟨q, 0, none⟩) 1 3) := fun q => by simp [slA, bnds, bnd]
  rw [p0v, p1v, p0w, p1w]
  cases h0 : (x' == 0) <;> simp only [fld_ptr, Nat.zero_add, ix0, px', binV_int, intV, h0, sl1, sl2, unV_not, Bool.not_true, Bool.not_false, Mif_bool, Mif_undef, pickV_bool, Mcd_bool, Mpu_some, if_true, if_false, Bool.false_eq_true, Bool.true_eq_false, decide_true, decide_false, reduceCtorEq, J1_eq, ex20, ex21, ex30, ex31, ex32, Mre_ok, Mre_nil]
  · refine call_i (c_EqInts hw hv a2 b2 (n := 1) (by omega)) ?_
    rintro _ _ ⟨rfl, rfl⟩
    refine ⟨?_, kk⟩
    congr 1
    have h0' : x' ≠ 0 := by simpa using h0
    rw [hp, hp', show List.take 1 [x', y', z'] = [x'] from rfl, show List.take 1 [x, y, z] = [x] from rfl, Bool.eq_iff_iff]
    simp only [decide_eq_true_eq, List.cons.injEq, and_true, Bool.and_eq_true, beq_iff_eq, Bool.or_eq_true, bne_iff_ne, ne_eq, h0', not_false_eq_true, true_or]
    exact ⟨Eq.symm, Eq.symm⟩
  · refine call_i (c_EqInts hw hv a2 b2 (n := 2) (by omega)) ?_
    rintro _ _ ⟨rfl, rfl⟩
    refine ⟨?_, kk⟩
    congr 1
    have h0' : x' = 0 := by simpa using h0
    rw [hp, hp', show List.take 2 [x', y', z'] = [x', y'] from rfl, show List.take 2 [x, y, z] = [x, y] from rfl, Bool.eq_iff_iff]
    simp only [decide_eq_true_eq, List.cons.injEq, and_true, Bool.and_eq_true, beq_iff_eq, Bool.or_eq_true, bne_iff_ne, ne_eq, h0', not_true_eq_false, false_or]
    exact ⟨fun h => ⟨h.1.symm, h.2.symm⟩, fun h => ⟨h.1.symm, h.2.symm⟩⟩
end Go.Proofs.YtanhgihfgmbojaaGreatDoor

/- wants: what fits; read from a text; the fixed answer of layer 18's statements. -/
namespace Go.Proofs.YtanhgihfgmbojaaGreatDoor
open Go.X Go.X.Diff
set_option maxRecDepth 100000

theorem c_WantFits {H : Heap} {w : Want} {v : Ver} (hw : w.wf) (hv : v.wf) (hO : OpsT H) : HCalls prg f_version_Want_Fits [.agg (wantC w).toArray, .agg (verC v).toArray] H fun u H' => u = .bool (wantOk w && verOk v && fitsF w.op w.ver v) ∧ Keep (fun _ => False) H H' := by
  apply sh_version_Want_Fits_calls
  unfold sh_version_Want_Fits
  simp only [Cells_agg, Mnew_some]
  generalize hH1 : H.push (.cells (wantC w).toArray T_version_Want (0, 0)) = H1
  have k1 : Keep (fun _ => False) H H1 := by rw [← hH1]; exact Keep.push
  have a1 : At H1 H.size (wantC w) := by rw [← hH1]; exact At.push
  generalize hH2 : H1.push (.cells (verC v).toArray T_version_Version (0, 0)) = H2
  have k2 : Keep (fun _ => False) H1 H2 := by rw [← hH2]; exact Keep.push
  have b2 : At H2 H1.size (verC v) := by rw [← hH2]; exact At.push
  have a2 := a1.keep k2 id
  have k02 := k1.trans k2
  rw [show (Value.pointer (some ⟨H.size, 0, none⟩)) = Ptr H.size 0 from rfl, want_ld5 a2 hw, Mpu_some]
  refine call_i (c_WantRight hw (hO.keep k02 fun _ h => h.elim)) ?_
  rintro _ h3 ⟨rfl, k3⟩
  have a3 := a2.keep k3 id
  have b3 := b2.keep k3 id
  have k03 := k02.trans k3
  cases hok : wantOk w <;> simp only [unV_not, Bool.not_true, Bool.not_false, Mif_bool, Mif_undef, pickV_bool, Mcd_bool, Mpu_some, if_true, if_false, Bool.false_eq_true, Bool.true_eq_false, decide_true, decide_false, reduceCtorEq, J1_eq, ex20, ex21, ex30, ex31, ex32, Mre_ok, Mre_nil, Bool.false_and, Bool.true_and, ver_ld4 b3 hv]
  · exact ⟨by trivial, k03⟩
  refine call_i (c_VerRight hv) ?_
  rintro _ h4 ⟨rfl, k4⟩
  have a4 := a3.keep k4 id
  have b4 := b3.keep k4 id
  have k04 := k03.trans k4
  cases hvo : verOk v <;> simp only [unV_not, Bool.not_true, Bool.not_false, Mif_bool, Mif_undef, pickV_bool, Mcd_bool, Mpu_some, if_true, if_false, Bool.false_eq_true, Bool.true_eq_false, decide_true, decide_false, reduceCtorEq, J1_eq, ex20, ex21, ex30, ex31, ex32, Mre_ok, Mre_nil, fld_ptr, Nat.zero_add, ver_ld4 b4 hv, want_ver a4 hw, Bool.false_and, Bool.true_and]
  · exact ⟨by trivial, k04⟩
  refine call_i (c_Cmp hv hw.ver) ?_
  rintro _ h7 ⟨rfl, k7⟩
  have a7 := a4.keep k7 id
  have b7 := b4.keep k7 id
  have kk := k04.trans k7
  have e1 := fun q => str_eql (q := q) (a := w.op) (b := [61])
  have e2 := fun q => str_eql (q := q) (a := w.op) (b := [33, 61])
  have e3 := fun q => str_eql (q := q) (a := w.op) (b := [60])
  have e4 := fun q => str_eql (q := q) (a := w.op) (b := [60, 61])
  have e5 := fun q => str_eql (q := q) (a := w.op) (b := [62])
  have e6 := fun q => str_eql (q := q) (a := w.op) (b := [62, 61])
  have e7 := fun q => str_eql (q := q) (a := w.op) (b := [94])
  have ht := cmpV_ord.turn v w.ver
  have l1 : ltV v w.ver = decide (cmpV v w.ver < 0) := rfl
  have l2 : ltV w.ver v = decide (0 < cmpV v w.ver) := by unfold ltV; rw [decide_eq_decide]; omega
  unfold fitsF
  rw [l1, l2]
  generalize cmpV v w.ver = c
  simp only [want_op a7, Mpu_some]
  rw [e1, Mpu_some]
  cases h1 : decide (w.op = [61])
  rotate_left
  · simp only [unV_not, Bool.not_true, Bool.not_false, Mif_bool, Mif_undef, pickV_bool, Mcd_bool, Mpu_some, if_true, if_false, Bool.false_eq_true, Bool.true_eq_false, decide_true, decide_false, reduceCtorEq, J1_eq, ex20, ex21, ex30, ex31, ex32, Mre_ok, Mre_nil, binV_int, intV, cond_true]
    refine ⟨?_, kk⟩
    congr 1; rw [Bool.eq_iff_iff]; simp; omega
  rw [Mcd_bool, if_neg (by decide), e2, Mpu_some]
  cases h2 : decide (w.op = [33, 61])
  rotate_left
  · simp only [unV_not, Bool.not_true, Bool.not_false, Mif_bool, Mif_undef, pickV_bool, Mcd_bool, Mpu_some, if_true, if_false, Bool.false_eq_true, Bool.true_eq_false, decide_true, decide_false, reduceCtorEq, J1_eq, ex20, ex21, ex30, ex31, ex32, Mre_ok, Mre_nil, binV_int, intV, cond_true, cond_false]
    refine ⟨?_, kk⟩
    congr 1; rw [Bool.eq_iff_iff]; simp; omega
  rw [Mcd_bool, if_neg (by decide), e3, Mpu_some]
  cases h3 : decide (w.op = [60])
  rotate_left
  · simp only [unV_not, Bool.not_true, Bool.not_false, Mif_bool, Mif_undef, pickV_bool, Mcd_bool, Mpu_some, if_true, if_false, Bool.false_eq_true, Bool.true_eq_false, decide_true, decide_false, reduceCtorEq, J1_eq, ex20, ex21, ex30, ex31, ex32, Mre_ok, Mre_nil, binV_int, intV, cond_true, cond_false]; exact ⟨by trivial, kk⟩
  rw [Mcd_bool, if_neg (by decide), e4, Mpu_some]
  cases h4' : decide (w.op = [60, 61])
  rotate_left
  · simp only [unV_not, Bool.not_true, Bool.not_false, Mif_bool, Mif_undef, pickV_bool, Mcd_bool, Mpu_some, if_true, if_false, Bool.false_eq_true, Bool.true_eq_false, decide_true, decide_false, reduceCtorEq, J1_eq, ex20, ex21, ex30, ex31, ex32, Mre_ok, Mre_nil, binV_int, intV, cond_true, cond_false]
    refine ⟨?_, kk⟩
    congr 1; rw [Bool.eq_iff_iff]; simp
  rw [Mcd_bool, if_neg (by decide), e5, Mpu_some]
  cases h5 : decide (w.op = [62])
  rotate_left
  · simp only [unV_not, Bool.not_true, Bool.not_false, Mif_bool, Mif_undef, pickV_bool, Mcd_bool, Mpu_some, if_true, if_false, Bool.false_eq_true, Bool.true_eq_false, decide_true, decide_false, reduceCtorEq, J1_eq, ex20, ex21, ex30, ex31, ex32, Mre_ok, Mre_nil, binV_int, intV, cond_true, cond_false]; exact ⟨by trivial, kk⟩
  rw [Mcd_bool, if_neg (by decide), e6, Mpu_some]
  cases h6 : decide (w.op = [62, 61])
  rotate_left
  · simp only [unV_not, Bool.not_true, Bool.not_false, Mif_bool, Mif_undef, pickV_bool, Mcd_bool, Mpu_some, if_true, if_false, Bool.false_eq_true, Bool.true_eq_false, decide_true, decide_false, reduceCtorEq, J1_eq, ex20, ex21, ex30, ex31, ex32, Mre_ok, Mre_nil, binV_int, intV, cond_true, cond_false]
    refine ⟨?_, kk⟩
    congr 1; rw [Bool.eq_iff_iff]; simp
  rw [Mcd_bool, if_neg (by decide), e7, Mpu_some]
  cases h7 : decide (w.op = [94])
  rotate_left
  · have hge : (c ≥ 0) ↔ ¬ (c < 0) := by omega
    have hd : decide (c ≥ 0) = !decide (c < 0) := by rw [Bool.eq_iff_iff]; simp
    cases hc : decide (c < 0) <;> rw [hc] at hd <;> simp only [unV_not, Bool.not_true, Bool.not_false, Mif_bool, Mif_undef, pickV_bool, Mcd_bool, Mpu_some, if_true, if_false, Bool.false_eq_true, Bool.true_eq_false, decide_true, decide_false, reduceCtorEq, J1_eq, ex20, ex21, ex30, ex31, ex32, Mre_ok, Mre_nil, fld_ptr, Nat.zero_add, binV_int, intV, hd, want_ver a7 hw, ver_ld4 b7 hv, cond_true, cond_false, Bool.false_and, Bool.true_and]
    · refine call_i (c_near hw.ver hv) ?_
      rintro _ h9 ⟨rfl, k9⟩
      simp only [unV_not, Bool.not_true, Bool.not_false, Mif_bool, Mif_undef, pickV_bool, Mcd_bool, Mpu_some, if_true, if_false, Bool.false_eq_true, Bool.true_eq_false, decide_true, decide_false, reduceCtorEq, J1_eq, ex20, ex21, ex30, ex31, ex32, Mre_ok, Mre_nil]
      exact ⟨by trivial, kk.trans k9⟩
    · exact ⟨by trivial, kk⟩
  · simp only [unV_not, Bool.not_true, Bool.not_false, Mif_bool, Mif_undef, pickV_bool, Mcd_bool, Mpu_some, if_true, if_false, Bool.false_eq_true, Bool.true_eq_false, decide_true, decide_false, reduceCtorEq, J1_eq, ex20, ex21, ex30, ex31, ex32, Mre_ok, Mre_nil, cond_false]; exact ⟨by trivial, kk⟩

theorem find_at {α : Type} {f : α → Bool} : ∀ {l : List α} {i : Nat} {x : α}, (∀ p ∈ l.take i, f p = false) → l[i]? = some x → f x = true → l.find? f = some x
  | [], i, x, _, h, _ => by simp at h
  | y :: l, 0, x, _, h, hx => by
    obtain rfl : y = x := by simpa using h
    simp [List.find?, hx]
  | y :: l, i + 1, x, h1, h, hx => by
    have hy := h1 y (by simp)
    simp only [List.find?, hy]
    exact find_at (i := i) (fun p hp => h1 p (by rw [List.take_succ_cons]; exact List.mem_cons_of_mem _ hp)) (by simpa using h) hx
theorem showF_head {v : Ver} (hp : v.p.length = 3) (hok : verOk v = true) : ∃ d r, showF v = d :: r ∧ isD d := by
  obtain ⟨p, pre⟩ := v
  match p, hp with
  | [a, b, c], _ =>
    unfold showF
    rw [if_pos hok]
    cases hd : decF a.toNat with
    | nil => exact absurd hd (decF_ne _)
    | cons d r =>
      have := decF_digits a.toNat d (by rw [hd]; simp)
      refine ⟨d, r ++ ([46] ++ decF b.toNat ++ ([46] ++ decF c.toNat)) ++ (if pre = [] then [] else 45 :: pre), ?_, this⟩
      simp [joinF, hd]
theorem want_first {w : Want} (hw : w.wf) (hok : wantOk w = true) : opsP.find? (fun p => p.isPrefixOf (wantS w)) = some w.op := by
  unfold wantS
  rw [hok, cond_true]
  cases hs : decide (w.op = [42])
  · obtain ⟨hr, hv⟩ := wantOk_op hok hs
    rw [cond_false]
    obtain ⟨d, r, hd, hD⟩ := showF_head hw.ver.p3 hv
    rw [hd]
    have h61 : ((61 : UInt8) == d) = false := by
      rw [beq_eq_false_iff_ne]; rintro rfl; unfold isD at hD; exact absurd hD.2 (by decide)
    unfold opsR at hr
    simp only [List.mem_cons, List.not_mem_nil, or_false] at hr
    rcases hr with h | h | h | h | h | h | h <;> rw [h] <;> simp [opsP, List.find?, List.isPrefixOf, h61]
  · rw [cond_true, of_decide_eq_true hs]
    decide
theorem want_inj {w w' : Want} (hw : w.wf) (hw' : w'.wf) (hok : wantOk w = true) (hok' : wantOk w' = true) (h : wantS w = wantS w') : w = w' := by
  have h1 := want_first hw hok
  have h2 := want_first hw' hok'
  rw [h, h2] at h1
  have hop : w'.op = w.op := Option.some.inj h1
  unfold wantS at h
  rw [hok, hok', cond_true, cond_true, hop] at h
  obtain ⟨op, v⟩ := w
  obtain ⟨op', v'⟩ := w'
  simp only at hop h
  subst hop
  congr 1
  cases hs : decide (op' = [42])
  · rw [hs, cond_false, cond_false] at h
    exact show_inj hw.ver.p3 hw'.ver.p3 (wantOk_op hok hs).2 (wantOk_op hok' hs).2 (List.append_cancel_left h)
  · unfold wantOk at hok hok'
    simp only [hs, cond_true, decide_eq_true_eq] at hok hok'
    rw [hok, hok']

def WantR (s : List UInt8) (u : Value) : Prop :=
  (∃ w : Want, w.wf ∧ wantOk w = true ∧ wantS w = s ∧ u = .tuple #[.agg (wantC w).toArray, .int .i64 0]) ∨
  ((∀ w : Want, w.wf → wantOk w = true → wantS w ≠ s) ∧ u = .tuple #[.agg (wantC zeroW).toArray, .int .i64 10])
theorem z_Want : zcells prg T_version_Want = some (wantC zeroW).toArray := by kernel_rfl
theorem k_Want : structK prg T_version_Want = some ([(0, 1), (1, 4)], (wantC zeroW).toArray) := by kernel_rfl
theorem b_W {op : List UInt8} : buildV prg T_version_Want [(0, str op)] = some (.agg (wantC ⟨op, zeroV⟩).toArray) := by rw [buildV_of k_Want]; rfl
theorem b_W0 : buildV prg T_version_Want [] = some (.agg (wantC zeroW).toArray) := by kernel_rfl

set_option maxHeartbeats 1000000 in
theorem c_ParseWant {H : Heap} {s : List UInt8} (hE : ErrT H) (hT : PowT H) (hO : OpsT H) (hl : s.length ≤ 1048576) : HCalls prg f_version_ParseWant [str s] H fun u H' => WantR s u ∧ Keep (fun _ => False) H H' := by
  apply sh_version_ParseWant_calls
  unfold sh_version_ParseWant
  simp only [z_Want, Mnew_some]
  generalize hH1 : H.push (.cells (wantC zeroW).toArray T_version_Want (0, 0)) = H1
  have k1 : Keep (fun _ => False) H H1 := by rw [← hH1]; exact Keep.push
  have a1 : At H1 H.size (wantC zeroW) := by rw [← hH1]; exact At.push
  have s1 : H1.size = H.size + 1 := by rw [← hH1]; simp
  refine J1_i (fun _ h => (∀ w : Want, w.wf → wantOk w = true → wantS w ≠ s) ∧ At h H.size (wantC zeroW) ∧ Keep (fun _ => False) H h) (fun k2 hk2 => ?_) ?_
  · obtain ⟨T, f, hO1⟩ := hO.keep k1 fun _ h => h.elim
    have hld : ldN 8 H1 (.pointer (some ⟨g_version_ops, 0, none⟩)) = some (.agg (opsP.map str).toArray) := (Pt.of hO1).agg (by rfl)
    rw [hld, Mpu_some]
    refine L1_i (fun u h => ∃ i : Nat, i ≤ 8 ∧ u = .int .i64 (i : Nat) ∧ (∀ p ∈ opsP.take i, p.isPrefixOf s = false) ∧ H1 = h) (fun u _ => match u with | .int _ t => 8 - t.toNat | _ => 0) ⟨0, by omega, rfl, by simp, rfl⟩ ?_
    rintro _ _ ⟨i, hi, rfl, hn, rfl⟩ k hk
    simp only [binV_int, intV, Mpu_some, Mcd_bool, decide_eq_true_eq]
    by_cases hlt : (i : Int) < 8
    · rw [if_pos hlt]
      have hl8 : opsP.length = 8 := rfl
      have hx : opsP[i]? = some (opsP[i]'(by omega)) := List.getElem?_eq_getElem _
      generalize (opsP[i]'(by omega)) = p at hx
      have hix : ixV 8 false 1 (.agg (opsP.map str).toArray) (.int .i64 (i : Nat)) = some (str p) := by
        simp only [ixV]; rw [if_pos ⟨by omega, by omega⟩]
        simp [hx]
      rw [hix, Mpu_some]
      refine call_i c_CutPrefix ?_
      rintro _ _ ⟨hR, rfl⟩
      have hinc : IntKind.i64.wrap ((i : Int) + 1) = (i + 1 : Nat) := by rw [wrap_id] <;> omega
      rcases hR with ⟨hp, rfl⟩ | ⟨hp, rfl⟩
      rotate_left
      · simp only [unV_not, Bool.not_true, Bool.not_false, Mif_bool, Mif_undef, pickV_bool, Mcd_bool, Mpu_some, if_true, if_false, Bool.false_eq_true, Bool.true_eq_false, decide_true, decide_false, reduceCtorEq, J1_eq, ex20, ex21, ex30, ex31, ex32, Mre_ok, Mre_nil, hinc]
        refine hk _ _ ⟨i + 1, by omega, rfl, fun q hq => ?_, rfl⟩ (by show 8 - (i + 1) < 8 - i; omega)
        rw [List.take_add_one, hx] at hq
        rcases List.mem_append.1 hq with hq | hq
        · exact hn q hq
        · obtain rfl : q = p := by simpa using hq
          exact hp
      · have hfirst := find_at (f := fun p : List UInt8 => p.isPrefixOf s) hn hx hp
        have hps : s = p ++ s.drop p.length := by
          have := List.isPrefixOf_iff_prefix.1 hp
          have := List.prefix_iff_eq_take.1 this
          conv => lhs; rw [← List.take_append_drop p.length s, ← this]
        have hmem : p ∈ opsP := List.mem_of_getElem? hx
        have huniq : ∀ w : Want, w.wf → wantOk w = true → wantS w = s → w.op = p := fun w hw hok hs => by
          have := want_first hw hok
          rw [hs, hfirst] at this
          exact (Option.some.inj this).symm
        simp only [unV_not, Bool.not_true, Bool.not_false, Mif_bool, Mif_undef, pickV_bool, Mcd_bool, Mpu_some, if_true, if_false, Bool.false_eq_true, Bool.true_eq_false, decide_true, decide_false, reduceCtorEq, J1_eq, ex20, ex21, ex30, ex31, ex32, Mre_ok, Mre_nil, b_W, Mnew_some]
        generalize hH7 : H1.push (.cells (wantC zeroW).toArray T_version_Want (0, 0)) = h7
        have k7 : Keep (fun _ => False) H1 h7 := by rw [← hH7]; exact Keep.push
        have c7 : At h7 H1.size (wantC zeroW) := by rw [← hH7]; exact At.push
        have a7 := a1.keep k7 id
        obtain ⟨h8, st8, c8, k8⟩ := c7.st (n := 5) (ds := wantC ⟨p, zeroV⟩) (wantC_len zeroW_wf) rfl wantC_one
        have a8 := a7.keep k8 (show ¬ H.size = H1.size by omega)
        have k08 : Keep (fun _ => False) H h8 := (k1.trans k7).fresh k8 fun b hb => by omega
        have hpl : p.length ≤ 2 := by
          rcases opsP_iff.1 hmem with h | h
          · exact opsR_len h
          · subst h; simp
        simp only [st8, Mwr_some]
        have es := fun q => str_neq (q := q) (a := p) (b := [42])
        /- the want that was read, and what the text is of -/
        refine J0_i (fun h => ∃ v : Ver, v.wf ∧ At h H1.size (wantC ⟨p, v⟩) ∧ At h H.size (wantC zeroW) ∧ Keep (fun _ => False) H h ∧
          ((wantOk ⟨p, v⟩ = true ∧ wantS ⟨p, v⟩ = s) ∨ (wantS ⟨p, v⟩ ≠ s ∧ ∀ w : Want, w.wf → wantOk w = true → wantS w ≠ s))) (fun k9 hk9 => ?_) ?_
        · cases hst : decide (p = [42])
          · have hpR : p ∈ opsR := (opsP_iff.1 hmem).resolve_right (of_decide_eq_false hst)
            have okR : ∀ v : Ver, verOk v = true → wantOk ⟨p, v⟩ = true ∧ wantS ⟨p, v⟩ = p ++ showF v := fun v hv => by
              have h1 : wantOk ⟨p, v⟩ = true := by unfold wantOk; rw [hst, cond_false, hv]; simpa using hpR
              refine ⟨h1, ?_⟩
              unfold wantS; rw [h1, hst]; rfl
            simp only [es, hst, unV_not, Bool.not_true, Bool.not_false, Mif_bool, Mif_undef, pickV_bool, Mcd_bool, Mpu_some, if_true, if_false, Bool.false_eq_true, Bool.true_eq_false, decide_true, decide_false, reduceCtorEq, J1_eq, ex20, ex21, ex30, ex31, ex32, Mre_ok, Mre_nil]
            refine call_i (c_Parse (hE.keep k08 fun _ h => h.elim) (hT.keep k08 fun _ h => h.elim) (by rw [List.length_drop]; omega)) ?_
            rintro _ h11 ⟨hPR, k11⟩
            have a11 := a8.keep k11 id
            have c11 := c8.keep k11 id
            have fin : ∀ v : Ver, v.wf → ((wantOk ⟨p, v⟩ = true ∧ wantS ⟨p, v⟩ = s) ∨ (wantS ⟨p, v⟩ ≠ s ∧ ∀ w : Want, w.wf → wantOk w = true → wantS w ≠ s)) →
                Mpu (fld 1 (Ptr H1.size 0)) fun t30 => Mwr (stN 4 h11 t30 (.agg (verC v).toArray)) fun h12 => k9 h12 := by
              intro v hv hor
              obtain ⟨T', c11'⟩ := c11
              have hstm := stN_mid (n := 4) (o := 1) (A := [str p]) (B := verC zeroV) (C := []) (B' := verC v) (by rw [List.append_nil]; exact c11') rfl (verC_len zeroV_wf).symm (verC_len hv) (all_of verC_one)
              rw [List.append_nil] at hstm
              rw [fld_ptr, Mpu_some, Nat.zero_add, show (Value.pointer (some ⟨H1.size, 1, none⟩)) = Ptr H1.size 1 from rfl, hstm, Mwr_some]
              have k12 : Keep (· = H1.size) h11 (h11.setIfInBounds H1.size (.cells ([str p] ++ verC v).toArray T' (0, 0))) := Keep.set rfl
              exact hk9 _ ⟨v, hv, ⟨T', set_self c11'⟩, a11.keep k12 (show ¬ H.size = H1.size by omega), (k08.trans k11).fresh k12 fun b hb => by omega, hor⟩
            rcases hPR with ⟨v, hv, hvo, hvs, rfl⟩ | ⟨hno, rfl⟩
            · simp only [unV_not, Bool.not_true, Bool.not_false, Mif_bool, Mif_undef, pickV_bool, Mcd_bool, Mpu_some, if_true, if_false, Bool.false_eq_true, Bool.true_eq_false, decide_true, decide_false, reduceCtorEq, J1_eq, ex20, ex21, ex30, ex31, ex32, Mre_ok, Mre_nil]
              refine fin v hv (.inl ⟨(okR v hvo).1, ?_⟩)
              rw [(okR v hvo).2, hvs]; exact hps.symm
            · simp only [unV_not, Bool.not_true, Bool.not_false, Mif_bool, Mif_undef, pickV_bool, Mcd_bool, Mpu_some, if_true, if_false, Bool.false_eq_true, Bool.true_eq_false, decide_true, decide_false, reduceCtorEq, J1_eq, ex20, ex21, ex30, ex31, ex32, Mre_ok, Mre_nil]
              have hz : verOk zeroV = true := by decide +kernel
              refine fin zeroV zeroV_wf (.inr ⟨fun hs => ?_, fun w hw hok hs => ?_⟩)
              · rw [(okR zeroV hz).2] at hs
                rw [hps] at hs
                exact hno zeroV rfl hz (List.append_cancel_left hs)
              · have hop := huniq w hw hok hs
                have hwst : decide (w.op = [42]) = false := by rw [hop]; exact hst
                obtain ⟨_, hwv⟩ := wantOk_op hok hwst
                unfold wantS at hs
                rw [hok, hwst, cond_true, cond_false, hop] at hs
                rw [hps] at hs
                exact hno w.ver hw.ver.p3 hwv (List.append_cancel_left hs)
          · have hp42 := of_decide_eq_true hst
            have hwo : wantOk ⟨p, zeroV⟩ = true := by unfold wantOk; rw [hst, cond_true]; exact decide_eq_true rfl
            have hws : wantS ⟨p, zeroV⟩ = [42] := by unfold wantS; rw [hwo, hst]; rfl
            simp only [es, hst, unV_not, Bool.not_true, Bool.not_false, Mif_bool, Mif_undef, pickV_bool, Mcd_bool, Mpu_some, if_true, if_false, Bool.false_eq_true, Bool.true_eq_false, decide_true, decide_false, reduceCtorEq, J1_eq, ex20, ex21, ex30, ex31, ex32, Mre_ok, Mre_nil]
            refine hk9 _ ⟨zeroV, zeroV_wf, c8, a8, k08, ?_⟩
            by_cases hs42 : s = [42]
            · exact .inl ⟨hwo, by rw [hws, hs42]⟩
            · refine .inr ⟨by rw [hws]; exact fun e => hs42 e.symm, fun w hw hok hs => hs42 ?_⟩
              have hop := huniq w hw hok hs
              have hwst : decide (w.op = [42]) = true := by rw [hop]; exact hst
              unfold wantS at hs
              rw [hok, hwst, cond_true, cond_true] at hs
              exact hs.symm
        rintro h ⟨v, hv, ch, ah, kh, hor⟩
        have hwf : (⟨p, v⟩ : Want).wf := ⟨hv, by show p.length ≤ _; omega⟩
        rw [show (Value.pointer (some ⟨H1.size, 0, none⟩)) = Ptr H1.size 0 from rfl, want_ld5 ch hwf, Mpu_some]
        refine call_i (c_WantShow hwf (hO.keep kh fun _ h => h.elim) (hT.keep kh fun _ h => h.elim)) ?_
        rintro _ h13 ⟨rfl, k13⟩
        have c13 := ch.keep k13 id
        have a13 := ah.keep k13 id
        have k013 := kh.trans k13
        have ee := fun q => str_eql (q := q) (a := wantS ⟨p, v⟩) (b := s)
        rcases hor with ⟨hok, hsh⟩ | ⟨hne, hno⟩
        · obtain ⟨h14, st14, a14, k14⟩ := a13.st (n := 5) (ds := wantC ⟨p, v⟩) (wantC_len zeroW_wf) (wantC_len hwf) wantC_one
          simp only [ee, decide_eq_true hsh, want_ld5 c13 hwf, st14, Mwr_some, want_ld5 a14 hwf, unV_not, Bool.not_true, Bool.not_false, Mif_bool, Mif_undef, pickV_bool, Mcd_bool, Mpu_some, if_true, if_false, Bool.false_eq_true, Bool.true_eq_false, decide_true, decide_false, reduceCtorEq, J1_eq, ex20, ex21, ex30, ex31, ex32, Mre_ok, Mre_nil]
          exact ⟨.inl ⟨⟨p, v⟩, hwf, hok, hsh, rfl⟩, k013.fresh k14 fun b hb => by omega⟩
        · simp only [ee, decide_eq_false hne, unV_not, Bool.not_true, Bool.not_false, Mif_bool, Mif_undef, pickV_bool, Mcd_bool, Mpu_some, if_true, if_false, Bool.false_eq_true, Bool.true_eq_false, decide_true, decide_false, reduceCtorEq, J1_eq, ex20, ex21, ex30, ex31, ex32, Mre_ok, Mre_nil]
          exact hk2 _ _ ⟨hno, a13, k013⟩
    · rw [if_neg hlt]
      rw [List.take_of_length_le (by show 8 ≤ i; omega)] at hn
      refine hk2 _ _ ⟨fun w hw hok hs => ?_, a1, k1⟩
      have := want_first hw hok
      rw [hs] at this
      have hm := List.mem_of_find?_eq_some this
      have hp := List.find?_some this
      rw [hn _ hm] at hp
      cases hp
  rintro _ h ⟨hno, ah, kh⟩
  obtain ⟨h16, st16, a16, k16⟩ := ah.st (n := 5) (ds := wantC zeroW) (wantC_len zeroW_wf) (wantC_len zeroW_wf) wantC_one
  simp only [b_W0, st16, Mwr_some, want_ld5 a16 zeroW_wf, unV_not, Bool.not_true, Bool.not_false, Mif_bool, Mif_undef, pickV_bool, Mcd_bool, Mpu_some, if_true, if_false, Bool.false_eq_true, Bool.true_eq_false, decide_true, decide_false, reduceCtorEq, J1_eq, ex20, ex21, ex30, ex31, ex32, Mre_ok, Mre_nil]
  exact ⟨.inr ⟨hno, rfl⟩, kh.fresh k16 fun b hb => by omega⟩

structure VerT (H : Heap) : Prop where
  err : ErrT H
  pow : PowT H
  ops : OpsT H
theorem VerT.keep {S : Nat → Prop} {H H' : Heap} (h : VerT H) (k : Keep S H H') (hs : ∀ b, S b → NG ≤ b) : VerT H' := ⟨h.err.keep k hs, h.pow.keep k hs, h.ops.keep k hs⟩
end Go.Proofs.YtanhgihfgmbojaaGreatDoor

