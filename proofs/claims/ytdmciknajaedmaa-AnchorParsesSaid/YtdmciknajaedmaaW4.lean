/- anchor: the register. -/
import Derived.Test.YtdmciknajaedmaaW3
namespace Go.Proofs.Ytdmciknajaedmaa
open Go.X
set_option maxRecDepth 100000

/-- a mark as a value -/
def mk (n : Int) (l : List UInt8) : Value := .agg (.int .i64 n :: bcells l).toArray
@[simp] theorem cells_mk {n : Int} {l : List UInt8} : (mk n l).cells = (.int .i64 n :: bcells l).toArray := rfl
theorem z_Mark : zcells prg T_anchor_Mark = some (.int .i64 0 :: bcells zeroH).toArray := by kernel_rfl
theorem k_Mark : structK prg T_anchor_Mark = some ([(0, 1), (1, 32)], (.int .i64 0 :: bcells zeroH).toArray) := by kernel_rfl
theorem q_Mark : eqK prg T_anchor_Mark = .flat (List.replicate 33 0) := by kernel_rfl
theorem bld_Mark0 : buildV prg T_anchor_Mark [] = some (mk 0 zeroH) := by kernel_rfl
theorem bld_Mark1 {n : Int} : buildV prg T_anchor_Mark [(0, .int .i64 n)] = some (mk n zeroH) := by kernel_rfl
theorem bld_Mark {n : Int} {l : List UInt8} (h : l.length = 32) : buildV prg T_anchor_Mark [(0, .int .i64 n), (1, bv l)] = some (mk n l) := by
  rw [buildV_of k_Mark, bfill_cons (off := 0) (n := 1) rfl rfl (by simp), bfill_cons (off := 1) (n := 32) rfl (by simp [h]) (by simp [spl, zeroH]; omega), bfill_nil]
  have h1 : spl (.int .i64 0 :: bcells zeroH).toArray 0 (Value.cells (.int .i64 n)) = (.int .i64 n :: bcells zeroH).toArray := rfl
  have h2 := spl_mid (A := [.int .i64 n]) (B := bcells zeroH) (C := []) (B' := bcells l) (o := 1) rfl (by simp [h, zeroH])
  rw [h1, cells_bv]
  simp only [List.append_nil, List.singleton_append] at h2
  rw [h2]; rfl
theorem eq_Mark {a b : Int} {l m : List UInt8} (hl : l.length = 32) (hm : m.length = 32) : eqV (eqK prg T_anchor_Mark) (mk a l) (mk b m) = some (decide (a = b) && decide (l = m)) := by
  rw [q_Mark]
  show eqCells (0 :: List.replicate 32 0) (.int .i64 a :: bcells l) (.int .i64 b :: bcells m) = _
  have := eqCells_bytes (l := l) (m := m) (by omega)
  rw [hl] at this
  simp only [eqCells, this, eqCell, if_true]
  congr 1

structure Reg where
  n : Int
  top : List UInt8
  nn : Int
  ntop : List UInt8
  busy : Bool
def regC (r : Reg) : List Value := (.int .i64 r.n :: bcells r.top) ++ (.int .i64 r.nn :: bcells r.ntop) ++ [.bool r.busy]
def RegAt (p : Nat) (H : Heap) (r : Reg) : Prop := H[p]? = some (.cells (regC r).toArray T_anchor_Register (0, 0)) ∧ r.top.length = 32 ∧ r.ntop.length = 32
theorem RegAt.keep {S : Nat → Prop} {p : Nat} {H H' : Heap} {r : Reg} (h : RegAt p H r) (k : Keep S H H') (hs : ¬ S p) : RegAt p H' r := ⟨k.at h.1 hs, h.2⟩

section
variable {p : Nat} {H : Heap} {r : Reg}
theorem RegAt.ld_n (h : RegAt p H r) : ld1 H (Ptr p 0) = some (.int .i64 r.n) := ld1_mid (A := []) (C := bcells r.top ++ (.int .i64 r.nn :: bcells r.ntop) ++ [.bool r.busy]) (by simpa [regC] using h.1) rfl
theorem RegAt.ld_top (h : RegAt p H r) : ldN 32 H (Ptr p 1) = some (bv r.top) := ldN_mid (A := [.int .i64 r.n]) (B := bcells r.top) (C := (.int .i64 r.nn :: bcells r.ntop) ++ [.bool r.busy]) (by simpa [regC] using h.1) rfl (by simp [h.2.1])
theorem RegAt.ld_mark (h : RegAt p H r) : ldN 33 H (Ptr p 0) = some (mk r.n r.top) := ldN_mid (A := []) (B := .int .i64 r.n :: bcells r.top) (C := (.int .i64 r.nn :: bcells r.ntop) ++ [.bool r.busy]) (by simpa [regC] using h.1) rfl (by simp [h.2.1])
theorem RegAt.ld_next (h : RegAt p H r) : ldN 33 H (Ptr p 33) = some (mk r.nn r.ntop) := ldN_mid (A := .int .i64 r.n :: bcells r.top) (B := .int .i64 r.nn :: bcells r.ntop) (C := [.bool r.busy]) (by simpa [regC] using h.1) (by simp [h.2.1]) (by simp [h.2.2])
theorem RegAt.ld_ntop (h : RegAt p H r) : ldN 32 H (Ptr p 34) = some (bv r.ntop) := ldN_mid (A := .int .i64 r.n :: bcells r.top ++ [.int .i64 r.nn]) (B := bcells r.ntop) (C := [.bool r.busy]) (by simpa [regC] using h.1) (by simp [h.2.1]) (by simp [h.2.2])
theorem RegAt.ld_busy (h : RegAt p H r) : ld1 H (Ptr p 66) = some (.bool r.busy) := ld1_mid (A := .int .i64 r.n :: bcells r.top ++ (.int .i64 r.nn :: bcells r.ntop)) (C := []) (by simpa [regC] using h.1) (by simp [h.2.1, h.2.2])

theorem RegAt.st_top (h : RegAt p H r) {l : List UInt8} (hl : l.length = 32) : ∃ H', stN 32 H (Ptr p 1) (bv l) = some H' ∧ RegAt p H' { r with top := l } ∧ Keep (· = p) H H' := by
  refine ⟨_, stN_mid (A := [.int .i64 r.n]) (B := bcells r.top) (C := (.int .i64 r.nn :: bcells r.ntop) ++ [.bool r.busy]) (B' := bcells l) (by simpa [regC] using h.1) rfl (by simp [h.2.1]) (by simp [hl]) bcells_all, ⟨?_, hl, h.2.2⟩, Keep.set rfl⟩
  rw [set_self h.1]; simp [regC]
theorem all_mk {n : Int} {l : List UInt8} : (Value.int .i64 n :: bcells l).toArray.all (·.oneCell') = true := by
  rw [Array.all_eq_true_iff_forall_mem]; intro v hv
  simp only [List.mem_toArray, List.mem_cons] at hv
  rcases hv with rfl | hv
  · rfl
  · exact bcells_one v hv
theorem RegAt.st_mark (h : RegAt p H r) {n : Int} {l : List UInt8} (hl : l.length = 32) : ∃ H', stN 33 H (Ptr p 0) (mk n l) = some H' ∧ RegAt p H' { r with n := n, top := l } ∧ Keep (· = p) H H' := by
  refine ⟨_, stN_mid (A := []) (B := .int .i64 r.n :: bcells r.top) (C := (.int .i64 r.nn :: bcells r.ntop) ++ [.bool r.busy]) (B' := .int .i64 n :: bcells l) (by simpa [regC] using h.1) rfl (by simp [h.2.1]) (by simp [hl]) all_mk, ⟨?_, hl, h.2.2⟩, Keep.set rfl⟩
  rw [set_self h.1]; simp [regC]
theorem RegAt.st_next (h : RegAt p H r) {n : Int} {l : List UInt8} (hl : l.length = 32) : ∃ H', stN 33 H (Ptr p 33) (mk n l) = some H' ∧ RegAt p H' { r with nn := n, ntop := l } ∧ Keep (· = p) H H' := by
  refine ⟨_, stN_mid (A := .int .i64 r.n :: bcells r.top) (B := .int .i64 r.nn :: bcells r.ntop) (C := [.bool r.busy]) (B' := .int .i64 n :: bcells l) (by simpa [regC] using h.1) (by simp [h.2.1]) (by simp [h.2.2]) (by simp [hl]) all_mk, ⟨?_, h.2.1, hl⟩, Keep.set rfl⟩
  rw [set_self h.1]; simp [regC]
theorem RegAt.st_busy (h : RegAt p H r) (b : Bool) : ∃ H', st1 H (Ptr p 66) (.bool b) = some H' ∧ RegAt p H' { r with busy := b } ∧ Keep (· = p) H H' := by
  refine ⟨_, st1_mid (A := .int .i64 r.n :: bcells r.top ++ (.int .i64 r.nn :: bcells r.ntop)) (C := []) (v := .bool r.busy) (by simpa [regC] using h.1) (by simp [h.2.1, h.2.2]) rfl, ⟨?_, h.2⟩, Keep.set rfl⟩
  rw [set_self h.1]; simp [regC]
end

theorem bld_Reg0 : buildV prg T_anchor_Register [] = some (.agg (regC ⟨0, zeroH, 0, zeroH, false⟩).toArray) := by kernel_rfl
theorem bld_Reg {n : Int} : buildV prg T_anchor_Register [(0, mk n zeroH)] = some (.agg (regC ⟨n, zeroH, 0, zeroH, false⟩).toArray) := by kernel_rfl

theorem c_New {H : Heap} : HCalls prg f_anchor_New [] H fun u H' => u = Ptr H.size 0 ∧ RegAt H.size H' ⟨0, zeroH, 0, zeroH, false⟩ ∧ Keep (fun _ => False) H H' := by
  apply sh_anchor_New_calls
  unfold sh_anchor_New
  simp only [bld_Reg0, Mpu_some, Mnew_some, Cells_agg]
  exact ⟨trivial, ⟨push_new, rfl, rfl⟩, Keep.push⟩

theorem c_over {p : Nat} {H : Heap} {r : Reg} (h : RegAt p H r) : HCalls prg f_anchor_Register_over [Ptr p 0] H fun u H' => u = .tuple #[] ∧ RegAt p H' ⟨r.n, r.top, 0, zeroH, false⟩ ∧ Keep (· = p) H H' := by
  apply sh_anchor_Register_over_calls
  unfold sh_anchor_Register_over
  obtain ⟨h1, e1, r1, k1⟩ := h.st_next (n := 0) (l := zeroH) rfl
  obtain ⟨h2, e2, r2, k2⟩ := r1.st_busy false
  simp only [nck_ptr, fld_ptr, Mpu_some, Nat.zero_add, bld_Mark0, e1, Mwr_some, e2]
  exact ⟨trivial, r2, k1.trans k2⟩

def begR (r : Reg) (l : List UInt8) : Reg := if r.busy then r else { r with nn := IntKind.i64.wrap (r.n + 1), ntop := l, busy := true }
theorem c_Begin {p : Nat} {H : Heap} {r : Reg} {l : List UInt8} (h : RegAt p H r) (hl : l.length = 32) : HCalls prg f_anchor_Register_Begin [Ptr p 0, bv l] H fun u H' => u = .int .i64 (if r.busy then 50 else 0) ∧ RegAt p H' (begR r l) ∧ Keep (· = p) H H' := by
  apply sh_anchor_Register_Begin_calls
  unfold sh_anchor_Register_Begin
  have kp : Keep (· = p) H (H.push (.cells (bcells l).toArray T_sha_Hash (0, 0))) := Keep.push
  have hp : p < H.size := lt_of h.1
  have r0 : RegAt p (H.push (.cells (bcells l).toArray T_sha_Hash (0, 0))) r := h.keep (S := fun _ => False) Keep.push id
  simp only [Mnew_some, cells_bv, nck_ptr, fld_ptr, Mpu_some, Nat.zero_add, r0.ld_busy, Mcd_bool, r0.ld_n, binV_int, intV, ldN_bytes push_new hl, bld_Mark hl]
  cases hb : r.busy
  · obtain ⟨h1, e1, r1, k1⟩ := r0.st_next (n := IntKind.i64.wrap (r.n + 1)) (l := l) hl
    obtain ⟨h2, e2, r2, k2⟩ := r1.st_busy true
    simp only [e1, Mwr_some, e2, Bool.false_eq_true, if_false]
    refine ⟨trivial, ?_, kp.trans (k1.trans k2)⟩
    rw [begR, hb]; exact r2
  · simp only [if_true]
    refine ⟨trivial, ?_, kp⟩
    rw [begR, if_pos hb]; exact r0

def endR (r : Reg) : Reg := if r.busy then ⟨r.nn, r.ntop, 0, zeroH, false⟩ else r
theorem c_End {p : Nat} {H : Heap} {r : Reg} (h : RegAt p H r) : HCalls prg f_anchor_Register_End [Ptr p 0] H fun u H' => u = .int .i64 (if r.busy then 0 else 14) ∧ RegAt p H' (endR r) ∧ Keep (· = p) H H' := by
  apply sh_anchor_Register_End_calls
  unfold sh_anchor_Register_End
  obtain ⟨h1, e1, r1, k1⟩ := h.st_mark (n := r.nn) (l := r.ntop) h.2.2
  simp only [nck_ptr, fld_ptr, Mpu_some, Nat.zero_add, h.ld_busy, unV_not, Mcd_bool, h.ld_next, e1, Mwr_some]
  cases hb : r.busy
  · simp only [Bool.not_false, if_true, Bool.false_eq_true, if_false]
    exact ⟨trivial, by rw [endR, hb]; exact h, Keep.refl⟩
  · simp only [Bool.not_true, if_true, Bool.false_eq_true, if_false]
    refine call_i (c_over r1) ?_
    rintro u h2 ⟨_, r2, k2⟩
    exact ⟨trivial, by rw [endR, if_pos hb]; exact r2, k1.trans k2⟩

theorem stN_mk {H : Heap} {b : Nat} {n m : Int} {l k : List UInt8} {T : TypeId} (h : H[b]? = some (.cells (.int .i64 n :: bcells l).toArray T (0, 0))) (hl : l.length = 32) (hk : k.length = 32) : stN 33 H (Ptr b 0) (mk m k) = some (H.setIfInBounds b (.cells (.int .i64 m :: bcells k).toArray T (0, 0))) := by
  have := stN_mid (b := b) (n := 33) (o := 0) (A := []) (B := .int .i64 n :: bcells l) (C := []) (B' := .int .i64 m :: bcells k) (T := T) (by simpa using h) rfl (by simp [hl]) (by simp [hk]) all_mk
  simpa [mk] using this
theorem ldN_mk {H : Heap} {b : Nat} {n : Int} {l : List UInt8} {T : TypeId} {f : Nat × Nat} (h : H[b]? = some (.cells (.int .i64 n :: bcells l).toArray T f)) (hl : l.length = 32) : ldN 33 H (Ptr b 0) = some (mk n l) :=
  ldN_mid (A := []) (B := .int .i64 n :: bcells l) (C := []) (by simpa using h) rfl (by simp [hl])

theorem c_Mark {p : Nat} {H : Heap} {r : Reg} (h : RegAt p H r) : HCalls prg f_anchor_Register_Mark [Ptr p 0] H fun u H' => u = mk r.n r.top ∧ Keep (fun _ => False) H H' := by
  apply sh_anchor_Register_Mark_calls
  unfold sh_anchor_Register_Mark
  have r0 : RegAt p (H.push (.cells (.int .i64 0 :: bcells zeroH).toArray T_anchor_Mark (0, 0))) r := h.keep (S := fun _ => False) Keep.push id
  simp only [z_Mark, Mnew_some, nck_ptr, fld_ptr, Mpu_some, Nat.zero_add, r0.ld_mark, stN_mk push_new (l := zeroH) rfl h.2.1, Mwr_some, ldN_mk (set_self push_new) h.2.1]
  refine ⟨trivial, by simp, fun i hi _ => ?_⟩
  rw [Array.getElem?_setIfInBounds, if_neg (by omega), Array.getElem?_push, if_neg (by omega)]

def regB (r : Reg) : List UInt8 := numB r.n 8 ++ r.top ++ [if r.busy then 1 else 0] ++ if r.busy then r.ntop else []
theorem bld_Out : buildV prg T_wire_Out [] = some (.agg #[.slice none 0 0]) := by kernel_rfl
theorem c_Bytes {p : Nat} {H : Heap} {r : Reg} (h : RegAt p H r) : HCalls prg f_anchor_Register_Bytes [Ptr p 0] H fun u H' => Own (H.size < ·) H' u (regB r) ∧ Keep (fun _ => False) H H' := by
  apply sh_anchor_Register_Bytes_calls
  unfold sh_anchor_Register_Bytes
  have hp : p < H.size := lt_of h.1
  simp only [bld_Out, Mpu_some, Mnew_some, Cells_agg, nck_ptr, fld_ptr, Nat.zero_add]
  generalize hH1 : H.push (.cells #[.slice none 0 0] T_wire_Out (0, 0)) = H1
  have k0 : Keep (fun _ => False) H H1 := by rw [← hH1]; exact Keep.push
  have r0 : RegAt p H1 r := h.keep k0 id
  have hs1 : H1.size = H.size + 1 := by rw [← hH1]; simp
  have o0 : OutAt (H.size < ·) H.size H1 [] := ⟨Nat.lt_irrefl _, .slice none 0 0, by rw [← hH1]; exact push_new, .inl ⟨rfl, rfl⟩⟩
  have hW : ¬ Wr (H.size < ·) H.size p := by unfold Wr; omega
  simp only [r0.ld_n, r0.ld_top, r0.ld_busy, Mpu_some]
  refine call_i (c_Out_Int o0 r.n (by simp) (fun b hb => by omega)) ?_
  rintro u h2 ⟨rfl, o2, k2⟩
  have r2 := r0.keep k2 hW
  have hs2 := k2.1
  simp only [Mre_cons, Mre_nil, r2.ld_busy, r2.ld_top, true_and, and_true]
  refine call_i (c_Out_Hash o2 h.2.1 (by simp) (fun b hb => by omega)) ?_
  rintro u h3 ⟨rfl, o3, k3⟩
  have r3 := r2.keep k3 hW
  have hs3 := k3.1
  simp only [r3.ld_busy, true_and]
  refine call_i (c_Out_Bool o3 r.busy (by simp [h.2.1]) (fun b hb => by omega)) ?_
  rintro u h4 ⟨rfl, o4, k4⟩
  have r4 := r3.keep k4 hW
  have hs4 := k4.1
  have kk := k2.trans (k3.trans k4)
  have fin : ∀ h6 l, OutAt (H.size < ·) H.size h6 l → Keep (Wr (H.size < ·) H.size) h4 h6 → l = regB r → l.length ≤ 140737488355328 → Mcall prg f_wire_Out_All [Ptr H.size 0] h6 fun t36 h8 => Own (H.size < ·) h8 t36 (regB r) ∧ Keep (fun _ => False) H h8 := by
    rintro h6 l o6 k6 rfl hl
    have hs6 := k6.1
    refine call_i (c_Out_All o6 hl (fun b hb => by omega)) ?_
    rintro u h8 ⟨ho, k8⟩
    refine ⟨ho, ?_, fun i hi _ => ?_⟩
    · have := k8.1; omega
    · rw [k8.2 i (by omega) (by omega), k6.2 i (by omega) (by unfold Wr; omega), kk.2 i (by omega) (by unfold Wr; omega), k0.2 i hi id]
  simp only [J0_eq, r4.ld_busy, Mpu_some, Mcd_bool]
  cases hb : r.busy
  · simp only [Bool.false_eq_true, if_false]
    refine fin _ _ o4 Keep.refl ?_ ?_
    · simp [regB, hb]
    · simp [h.2.1]
  · simp only [if_true, r4.ld_ntop, Mpu_some]
    refine call_i (c_Out_Hash o4 h.2.2 (by simp [h.2.1]) (fun b hb => by omega)) ?_
    rintro u h5 ⟨_, o5, k5⟩
    refine fin _ _ o5 k5 ?_ ?_
    · simp [regB, hb]
    · simp [h.2.1, h.2.2]

end Go.Proofs.Ytdmciknajaedmaa
