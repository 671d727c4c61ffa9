/- anchor: the audit of an empty history; Parse; the law. -/
import Derived.Test.YtdmciknajaedmaaW4
namespace Go.Proofs.Ytdmciknajaedmaa
open Go.X
set_option maxRecDepth 100000

theorem bld_Hist : buildV prg T_history_History [] = some (.agg #[.slice none 0 0, .slice none 0 0]) := by kernel_rfl
def Hist0 (q : Nat) (H : Heap) : Prop := H[q]? = some (.cells #[.slice none 0 0, .slice none 0 0] T_history_History (0, 0))
theorem c_HNew {H : Heap} : HCalls prg f_history_New [] H fun u H' => u = Ptr H.size 0 ∧ Hist0 H.size H' ∧ Keep (fun _ => False) H H' := by
  apply sh_history_New_calls
  unfold sh_history_New
  simp only [bld_Hist, Mpu_some, Mnew_some, Cells_agg]
  exact ⟨trivial, push_new, Keep.push⟩
theorem c_HLen {q : Nat} {H : Heap} (h : Hist0 q H) : HCalls prg f_history_History_Len [Ptr q 0] H fun u H' => u = .int .i64 0 ∧ H' = H := by
  apply sh_history_History_Len_calls
  unfold sh_history_History_Len
  simp only [nck_ptr, fld_ptr, Mpu_some, Nat.zero_add, ld1_at h, List.getElem?_toArray, List.getElem?_cons_zero, lenV_slice]
  exact ⟨rfl, trivial⟩
theorem bld_Hash0 : buildV prg T_sha_Hash [] = some (bv zeroH) := by kernel_rfl
theorem bld_Hash1 : buildV prg T_sha_Hash [(0, .int .u8 1)] = some (bv (1 :: List.replicate 31 0)) := by kernel_rfl
theorem c_HTop {q : Nat} {H : Heap} (h : Hist0 q H) : HCalls prg f_history_History_Top [Ptr q 0] H fun u H' => u = bv zeroH ∧ Keep (fun _ => False) H H' := by
  apply sh_history_History_Top_calls
  unfold sh_history_History_Top
  have h' : Hist0 q (H.push (.cells (bcells zeroH).toArray T_sha_Hash (0, 0))) := push_old h
  simp only [z_Hash, Mnew_some, nck_ptr, fld_ptr, Mpu_some, Nat.zero_add, ld1_at h', List.getElem?_toArray, List.getElem?_cons_succ, List.getElem?_cons_zero, lenV_slice, binV_int, intV]
  rw [Mcd_bool, if_pos (by decide)]
  simp only [bld_Hash0, Mpu_some, stN_bytes push_new (n := 32) (l := zeroH) (m := zeroH) rfl rfl, Mwr_some, ldN_bytes (set_self push_new) (n := 32) (l := zeroH) rfl]
  refine ⟨trivial, by simp, fun i hi _ => ?_⟩
  rw [Array.getElem?_setIfInBounds, if_neg (by omega), Array.getElem?_push, if_neg (by omega)]
theorem c_Of {q : Nat} {H : Heap} (h : Hist0 q H) : HCalls prg f_anchor_Of [Ptr q 0] H fun u H' => u = mk 0 zeroH ∧ Keep (fun _ => False) H H' := by
  apply sh_anchor_Of_calls
  unfold sh_anchor_Of
  have h' : Hist0 q (H.push (.cells (.int .i64 0 :: bcells zeroH).toArray T_anchor_Mark (0, 0))) := push_old h
  simp only [z_Mark, Mnew_some]
  refine call_i (c_HLen h') ?_
  rintro _ _ ⟨rfl, rfl⟩
  refine call_i (c_HTop h') ?_
  rintro _ h3 ⟨rfl, k3⟩
  have hb := k3.at push_new id
  simp only [bld_Mark (l := zeroH) rfl, Mpu_some, stN_mk hb (l := zeroH) (k := zeroH) rfl rfl, Mwr_some, ldN_mk (set_self hb) (l := zeroH) rfl]
  have := k3.1
  simp at this
  refine ⟨trivial, by simp; omega, fun i hi _ => ?_⟩
  rw [Array.getElem?_setIfInBounds, if_neg (by omega), k3.2 i (by simp; omega) id, Array.getElem?_push, if_neg (by omega)]

theorem c_Audit {p q : Nat} {H : Heap} {r : Reg} (h : RegAt p H r) (hq : Hist0 q H) : HCalls prg f_anchor_Register_Audit [Ptr p 0, Ptr q 0] H fun u H' => u = .int .i64 (if r.n = 0 ∧ r.top = zeroH then 0 else 33) ∧ Keep (fun _ => False) H H' := by
  apply sh_anchor_Register_Audit_calls
  unfold sh_anchor_Register_Audit
  simp only [nck_ptr, fld_ptr, Mpu_some, Nat.zero_add, h.ld_mark]
  refine call_i (c_Of hq) ?_
  rintro _ h1 ⟨rfl, k1⟩
  have r1 := h.keep k1 id
  have e : binV (eqK prg T_anchor_Mark) .neq (mk 0 zeroH) (mk r.n r.top) = _ := binV_agg_ne
  have e2 := eq_Mark (a := 0) (b := r.n) (l := zeroH) (m := r.top) rfl h.2.1
  unfold mk at e2
  rw [e2] at e
  simp only [r1.ld_mark, Mre_cons, Mre_nil, true_and, and_true, e, Option.map_some, Mpu_some, Mcd_bool]
  by_cases h1 : r.n = 0 <;> by_cases h2 : r.top = zeroH <;> simp [h1, h2, k1, eq_comm (a := (0 : Int)), eq_comm (a := zeroH)]

def one : List UInt8 := 1 :: List.replicate 31 0
theorem c_awake {H : Heap} : HCalls prg f_syngraphlaw23_awake [] H fun u H' => u = .bool true ∧ Keep (fun _ => False) H H' := by
  apply sh_syngraphlaw23_awake_calls
  unfold sh_syngraphlaw23_awake
  refine call_i c_New ?_
  rintro _ h1 ⟨rfl, r1, k1⟩
  refine call_i c_HNew ?_
  rintro _ h2 ⟨rfl, q2, k2⟩
  have r2 := r1.keep k2 id
  have n1 : H.size ≤ h1.size := k1.1
  have hlt : H.size < h1.size := lt_of r1.1
  generalize hp : H.size = p at *
  generalize hq : h1.size = q at *
  have e1 : ∀ x, binV .ptr .neq (Ptr x 0) (.pointer none) = some (.bool true) := fun x => rfl
  simp only [e1, Mpu_some, J1_eq, Mif_bool, if_true, pickV_bool]
  refine call_i (c_Audit r2 q2) ?_
  rintro _ h3 ⟨rfl, k3⟩
  have r3 := r2.keep k3 id
  have q3 : Hist0 q h3 := k3.at q2 id
  simp only [and_self, if_true, binV_int, intV, Mpu_some, pickV_bool, J1_eq, Mif_bool, beq_self_eq_true, bld_Hash1]
  refine call_i (c_Begin r3 (l := one) rfl) ?_
  rintro _ h4 ⟨rfl, r4, k4⟩
  have q4 : Hist0 q h4 := k4.at q3 (by omega)
  simp only [Bool.false_eq_true, if_false, binV_int, intV, Mpu_some, pickV_bool, J1_eq, Mif_bool, beq_self_eq_true, if_true, bld_Hash1]
  refine call_i (c_Begin r4 (l := one) rfl) ?_
  rintro _ h5 ⟨rfl, r5, k5⟩
  have q5 : Hist0 q h5 := k5.at q4 (by omega)
  have b5 : begR (begR ⟨0, zeroH, 0, zeroH, false⟩ one) one = ⟨0, zeroH, 1, one, true⟩ := rfl
  have b4 : (begR ⟨0, zeroH, 0, zeroH, false⟩ one).busy = true := rfl
  rw [b5] at r5
  simp only [b4, binV_int, intV, Mpu_some, pickV_bool, J1_eq, Mif_bool, beq_self_eq_true, if_true]
  refine call_i (c_End r5) ?_
  rintro _ h6 ⟨rfl, r6, k6⟩
  have q6 : Hist0 q h6 := k6.at q5 (by omega)
  have b6 : endR ⟨0, zeroH, 1, one, true⟩ = ⟨1, one, 0, zeroH, false⟩ := rfl
  rw [b6] at r6
  simp only [binV_int, intV, Mpu_some, pickV_bool, J1_eq, Mif_bool, beq_self_eq_true, if_true]
  refine call_i (c_End r6) ?_
  rintro _ h7 ⟨rfl, r7, k7⟩
  have q7 : Hist0 q h7 := k7.at q6 (by omega)
  have b7 : endR ⟨1, one, 0, zeroH, false⟩ = ⟨1, one, 0, zeroH, false⟩ := rfl
  rw [b7] at r7
  simp only [Bool.false_eq_true, if_false, binV_int, intV, Mpu_some, pickV_bool, J1_eq, Mif_bool, beq_self_eq_true, if_true]
  refine call_i (c_Audit r7 q7) ?_
  rintro _ h8 ⟨rfl, k8⟩
  have r8 := r7.keep k8 id
  have e8 : (if (1 : Int) = 0 ∧ one = zeroH then (0 : Int) else 33) = 33 := by decide
  simp only [e8, binV_int, intV, Mpu_some, pickV_bool, J1_eq, Mif_bool, beq_self_eq_true, if_true]
  refine call_i (c_Mark r8) ?_
  rintro _ h9 ⟨rfl, k9⟩
  have e9 : partV false 1 0 (mk 1 one) = some (.int .i64 1) := rfl
  simp only [e9, binV_int, intV, Mpu_some, pickV_bool, beq_self_eq_true, if_true]
  have kk := k4.trans (k5.trans (k6.trans k7))
  have s1 := k1.1; have s2 := k2.1; have s3 := k3.1; have s4 := kk.1; have s8 := k8.1; have s9 := k9.1
  refine ⟨trivial, by omega, fun i hi _ => ?_⟩
  rw [k9.2 i (by omega) id, k8.2 i (by omega) id, kk.2 i (by omega) (by omega), k3.2 i (by omega) id, k2.2 i (by omega) id, k1.2 i (by omega) id]

end Go.Proofs.Ytdmciknajaedmaa
