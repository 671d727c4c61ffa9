/- JOINED: V100 V101 V102 -/
import Derived.Test.YtdmciknajaedmaaGreatDoorGJ
import Derived.Test.YtdmciknajaedmaaGreatDoorGZ
set_option linter.unusedSimpArgs false
set_option linter.unusedVariables false
/- anchor: the register, beside any history. -/
namespace Go.Proofs.YtdmciknajaedmaaGreatDoor
open Go.X
set_option maxRecDepth 100000

theorem c_Out_Bool {F : Nat → Prop} {p : Nat} {H : Heap} {l : List UInt8} (h : OutAt F p H l) (b : Bool) (hl : l.length + 1 ≤ 140737488355328) (hf : ∀ b, H.size ≤ b → F b) :
    HCalls prg f_wire_Out_Bool [Ptr p 0, .bool b] H fun u H' => u = Ptr p 0 ∧ OutAt F p H' (l ++ [if b then 1 else 0]) ∧ Keep (Wr F p) H H' := by
  apply sh_wire_Out_Bool_calls
  unfold sh_wire_Out_Bool
  have key : ∀ x : UInt8, Mpu (ld1 H (Ptr p 0)) fun t11 => Mnews H T_uint8 1 (bslV prg T_uint8 1 [(0, .int .u8 x.toNat)]) fun t13 h3 => Mapp T_uint8 1 1 h3 t11 t13 fun t14 h4 => Mwr (st1 h4 (Ptr p 0) t14) fun h5 => True ∧ OutAt F p h5 (l ++ [x]) ∧ Keep (Wr F p) H h5 := fun x => by
    have kp : Keep (fun _ => False) H (H.push (.cells #[.int .u8 x.toNat] T_uint8 (0, 0))) := Keep.push
    obtain ⟨v2, hv2, happ⟩ := (h.keep kp fun _ _ => id).app (x := .slice (some ⟨H.size, 0, none⟩) 1 1) (m := [x]) (k := fun h5 => True ∧ OutAt F p h5 (l ++ [x]) ∧ Keep (Wr F p) H h5) (Bs.mk push_new rfl (by simp) rfl) (by simpa using hl) (hf _ (by simp)) fun H' ho' hk' => ⟨trivial, ho', (kp.mono fun _ _ h => h.elim).trans hk'⟩
    obtain ⟨hnp, v0, hp, _⟩ := h
    have e1 : v2 = v0 := by rw [ld1_at (push_old hp)] at hv2; simpa using hv2.symm
    subst e1
    rw [ld1_at hp, bsl1]
    exact ⟨v2, rfl, Mnews_some.2 happ⟩
  cases b
  · simp only [J1_eq, Mcd_bool, nck_ptr, fld_ptr, Mpu_some, Nat.zero_add, Bool.false_eq_true, if_false]
    exact key 0
  · simp only [J1_eq, Mcd_bool, nck_ptr, fld_ptr, Mpu_some, Nat.zero_add, if_true]
    exact key 1

/-- a mark as a value -/
def mk (n : Int) (l : List UInt8) : Value := .agg (.int .i64 n :: bcells l).toArray
@[simp] theorem cells_mk {n : Int} {l : List UInt8} : (mk n l).cells = (.int .i64 n :: bcells l).toArray := rfl
theorem z_Mark : zcells prg T_anchor_Mark = some (.int .i64 0 :: bcells zeroH).toArray := by kernel_rfl
theorem k_Mark : structK prg T_anchor_Mark = some ([(0, 1), (1, 32)], (.int .i64 0 :: bcells zeroH).toArray) := by kernel_rfl
theorem q_Mark : eqK prg T_anchor_Mark = .flat (List.replicate 33 0) := by kernel_rfl
theorem bld_Mark0 : buildV prg T_anchor_Mark [] = some (mk 0 zeroH) := by kernel_rfl
theorem bld_Mark1 {n : Int} : buildV prg T_anchor_Mark [(0, .int .i64 n)] = some (mk n zeroH) := by kernel_rfl
theorem bld_Mark {n : Int} {l : List UInt8} (h : l.length = 32) : buildV prg T_anchor_Mark [(0, .int .i64 n), (1, bv l)] = some (mk n l) := by
  rw [buildV_of k_Mark, bfill_cons (off := 0) (n := 1) rfl rfl (by simp), bfill_cons (off := 1) (n := 32) rfl (by simp [h]) (by simp [spl, zeroH]; omega), bfill_nil]
  have h1 : spl (.int .i64 0 :: bcells zeroH).toArray 0 (Value.cells (.int .i64 n)) = (.int .i64 n :: bcells zeroH).toArray := rfl
  have h2 := spl_mid (A := [.int .i64 n]) (B := bcells zeroH) (C := []) (B' := bcells l) (o := 1) rfl (by simp [h, zeroH])
  rw [h1, cells_bv]
  simp only [List.append_nil, List.singleton_append] at h2
  rw [h2]; rfl
theorem eq_Mark {a b : Int} {l m : List UInt8} (hl : l.length = 32) (hm : m.length = 32) : eqV (eqK prg T_anchor_Mark) (mk a l) (mk b m) = some (decide (a = b) && decide (l = m)) := by
  rw [q_Mark]
  show eqCells (0 :: List.replicate 32 0) (.int .i64 a :: bcells l) (.int .i64 b :: bcells m) = _
  have := eqCells_bytes (l := l) (m := m) (by omega)
  rw [hl] at this
  simp only [eqCells, this, eqCell, if_true]
  congr 1

structure Reg where
  n : Int
  top : List UInt8
  nn : Int
  ntop : List UInt8
  busy : Bool
def regC (r : Reg) : List Value := (.int .i64 r.n :: bcells r.top) ++ (.int .i64 r.nn :: bcells r.ntop) ++ [.bool r.busy]
def RegAt (p : Nat) (H : Heap) (r : Reg) : Prop := (∃ T, H[p]? = some (.cells (regC r).toArray T (0, 0))) ∧ r.top.length = 32 ∧ r.ntop.length = 32
theorem RegAt.keep {S : Nat → Prop} {p : Nat} {H H' : Heap} {r : Reg} (h : RegAt p H r) (k : Keep S H H') (hs : ¬ S p) : RegAt p H' r := ⟨⟨_, k.at h.1.choose_spec hs⟩, h.2⟩

section
variable {p : Nat} {H : Heap} {r : Reg}
theorem RegAt.ld_n (h : RegAt p H r) : ld1 H (Ptr p 0) = some (.int .i64 r.n) := ld1_mid (A := []) (C := bcells r.top ++ (.int .i64 r.nn :: bcells r.ntop) ++ [.bool r.busy]) (by simpa [regC] using h.1.choose_spec) rfl
theorem RegAt.ld_top (h : RegAt p H r) : ldN 32 H (Ptr p 1) = some (bv r.top) := ldN_mid (A := [.int .i64 r.n]) (B := bcells r.top) (C := (.int .i64 r.nn :: bcells r.ntop) ++ [.bool r.busy]) (by simpa [regC] using h.1.choose_spec) rfl (by simp [h.2.1])
theorem RegAt.ld_mark (h : RegAt p H r) : ldN 33 H (Ptr p 0) = some (mk r.n r.top) := ldN_mid (A := []) (B := .int .i64 r.n :: bcells r.top) (C := (.int .i64 r.nn :: bcells r.ntop) ++ [.bool r.busy]) (by simpa [regC] using h.1.choose_spec) rfl (by simp [h.2.1])
theorem RegAt.ld_next (h : RegAt p H r) : ldN 33 H (Ptr p 33) = some (mk r.nn r.ntop) := ldN_mid (A := .int .i64 r.n :: bcells r.top) (B := .int .i64 r.nn :: bcells r.ntop) (C := [.bool r.busy]) (by simpa [regC] using h.1.choose_spec) (by simp [h.2.1]) (by simp [h.2.2])
theorem RegAt.ld_ntop (h : RegAt p H r) : ldN 32 H (Ptr p 34) = some (bv r.ntop) := ldN_mid (A := .int .i64 r.n :: bcells r.top ++ [.int .i64 r.nn]) (B := bcells r.ntop) (C := [.bool r.busy]) (by simpa [regC] using h.1.choose_spec) (by simp [h.2.1]) (by simp [h.2.2])
theorem RegAt.ld_busy (h : RegAt p H r) : ld1 H (Ptr p 66) = some (.bool r.busy) := ld1_mid (A := .int .i64 r.n :: bcells r.top ++ (.int .i64 r.nn :: bcells r.ntop)) (C := []) (by simpa [regC] using h.1.choose_spec) (by simp [h.2.1, h.2.2])

theorem RegAt.st_top (h : RegAt p H r) {l : List UInt8} (hl : l.length = 32) : ∃ H', stN 32 H (Ptr p 1) (bv l) = some H' ∧ RegAt p H' { r with top := l } ∧ Keep (· = p) H H' := by
  refine ⟨_, stN_mid (A := [.int .i64 r.n]) (B := bcells r.top) (C := (.int .i64 r.nn :: bcells r.ntop) ++ [.bool r.busy]) (B' := bcells l) (by simpa [regC] using h.1.choose_spec) rfl (by simp [h.2.1]) (by simp [hl]) bcells_all, ⟨⟨h.1.choose, ?_⟩, hl, h.2.2⟩, Keep.set rfl⟩
  rw [set_self h.1.choose_spec]; simp [regC]
theorem all_mk {n : Int} {l : List UInt8} : (Value.int .i64 n :: bcells l).toArray.all (·.oneCell') = true := by
  rw [Array.all_eq_true_iff_forall_mem]; intro v hv
  simp only [List.mem_toArray, List.mem_cons] at hv
  rcases hv with rfl | hv
  · rfl
  · exact bcells_one v hv
theorem RegAt.st_mark (h : RegAt p H r) {n : Int} {l : List UInt8} (hl : l.length = 32) : ∃ H', stN 33 H (Ptr p 0) (mk n l) = some H' ∧ RegAt p H' { r with n := n, top := l } ∧ Keep (· = p) H H' := by
  refine ⟨_, stN_mid (A := []) (B := .int .i64 r.n :: bcells r.top) (C := (.int .i64 r.nn :: bcells r.ntop) ++ [.bool r.busy]) (B' := .int .i64 n :: bcells l) (by simpa [regC] using h.1.choose_spec) rfl (by simp [h.2.1]) (by simp [hl]) all_mk, ⟨⟨h.1.choose, ?_⟩, hl, h.2.2⟩, Keep.set rfl⟩
  rw [set_self h.1.choose_spec]; simp [regC]
theorem RegAt.st_next (h : RegAt p H r) {n : Int} {l : List UInt8} (hl : l.length = 32) : ∃ H', stN 33 H (Ptr p 33) (mk n l) = some H' ∧ RegAt p H' { r with nn := n, ntop := l } ∧ Keep (· = p) H H' := by
  refine ⟨_, stN_mid (A := .int .i64 r.n :: bcells r.top) (B := .int .i64 r.nn :: bcells r.ntop) (C := [.bool r.busy]) (B' := .int .i64 n :: bcells l) (by simpa [regC] using h.1.choose_spec) (by simp [h.2.1]) (by simp [h.2.2]) (by simp [hl]) all_mk, ⟨⟨h.1.choose, ?_⟩, h.2.1, hl⟩, Keep.set rfl⟩
  rw [set_self h.1.choose_spec]; simp [regC]
theorem RegAt.st_busy (h : RegAt p H r) (b : Bool) : ∃ H', st1 H (Ptr p 66) (.bool b) = some H' ∧ RegAt p H' { r with busy := b } ∧ Keep (· = p) H H' := by
  refine ⟨_, st1_mid (A := .int .i64 r.n :: bcells r.top ++ (.int .i64 r.nn :: bcells r.ntop)) (C := []) (v := .bool r.busy) (by simpa [regC] using h.1.choose_spec) (by simp [h.2.1, h.2.2]) rfl, ⟨⟨h.1.choose, ?_⟩, h.2⟩, Keep.set rfl⟩
  rw [set_self h.1.choose_spec]; simp [regC]
end

theorem bld_Reg0 : buildV prg T_anchor_Register [] = some (.agg (regC ⟨0, zeroH, 0, zeroH, false⟩).toArray) := by kernel_rfl
theorem bld_Reg {n : Int} : buildV prg T_anchor_Register [(0, mk n zeroH)] = some (.agg (regC ⟨n, zeroH, 0, zeroH, false⟩).toArray) := by kernel_rfl

theorem c_RegNew {H : Heap} : HCalls prg f_anchor_New [] H fun u H' => u = Ptr H.size 0 ∧ RegAt H.size H' ⟨0, zeroH, 0, zeroH, false⟩ ∧ Keep (fun _ => False) H H' := by
  apply sh_anchor_New_calls
  unfold sh_anchor_New
  simp only [bld_Reg0, Mpu_some, Mnew_some, Cells_agg]
  exact ⟨trivial, ⟨⟨_, push_new⟩, rfl, rfl⟩, Keep.push⟩

theorem c_over {p : Nat} {H : Heap} {r : Reg} (h : RegAt p H r) : HCalls prg f_anchor_Register_over [Ptr p 0] H fun u H' => u = .tuple #[] ∧ RegAt p H' ⟨r.n, r.top, 0, zeroH, false⟩ ∧ Keep (· = p) H H' := by
  apply sh_anchor_Register_over_calls
  unfold sh_anchor_Register_over
  obtain ⟨h1, e1, r1, k1⟩ := h.st_next (n := 0) (l := zeroH) rfl
  obtain ⟨h2, e2, r2, k2⟩ := r1.st_busy false
  simp only [nck_ptr, fld_ptr, Mpu_some, Nat.zero_add, bld_Mark0, e1, Mwr_some, e2]
  exact ⟨trivial, r2, k1.trans k2⟩

def begR (r : Reg) (l : List UInt8) : Reg := if r.busy then r else { r with nn := IntKind.i64.wrap (r.n + 1), ntop := l, busy := true }
theorem c_Begin {p : Nat} {H : Heap} {r : Reg} {l : List UInt8} (h : RegAt p H r) (hl : l.length = 32) : HCalls prg f_anchor_Register_Begin [Ptr p 0, bv l] H fun u H' => u = .int .i64 (if r.busy then 50 else 0) ∧ RegAt p H' (begR r l) ∧ Keep (· = p) H H' := by
  apply sh_anchor_Register_Begin_calls
  unfold sh_anchor_Register_Begin
  have kp : Keep (· = p) H (H.push (.cells (bcells l).toArray T_sha_Hash (0, 0))) := Keep.push
  have hp : p < H.size := lt_of h.1.choose_spec
  have r0 : RegAt p (H.push (.cells (bcells l).toArray T_sha_Hash (0, 0))) r := h.keep (S := fun _ => False) Keep.push id
  simp only [Mnew_some, cells_bv, nck_ptr, fld_ptr, Mpu_some, Nat.zero_add, r0.ld_busy, Mcd_bool, r0.ld_n, binV_int, intV, ldN_bytes push_new hl, bld_Mark hl]
  cases hb : r.busy
  · obtain ⟨h1, e1, r1, k1⟩ := r0.st_next (n := IntKind.i64.wrap (r.n + 1)) (l := l) hl
    obtain ⟨h2, e2, r2, k2⟩ := r1.st_busy true
    simp only [e1, Mwr_some, e2, Bool.false_eq_true, if_false]
    refine ⟨trivial, ?_, kp.trans (k1.trans k2)⟩
    rw [begR, hb]; exact r2
  · simp only [if_true]
    refine ⟨trivial, ?_, kp⟩
    rw [begR, if_pos hb]; exact r0

def endR (r : Reg) : Reg := if r.busy then ⟨r.nn, r.ntop, 0, zeroH, false⟩ else r
theorem c_End {p : Nat} {H : Heap} {r : Reg} (h : RegAt p H r) : HCalls prg f_anchor_Register_End [Ptr p 0] H fun u H' => u = .int .i64 (if r.busy then 0 else 14) ∧ RegAt p H' (endR r) ∧ Keep (· = p) H H' := by
  apply sh_anchor_Register_End_calls
  unfold sh_anchor_Register_End
  obtain ⟨h1, e1, r1, k1⟩ := h.st_mark (n := r.nn) (l := r.ntop) h.2.2
  simp only [nck_ptr, fld_ptr, Mpu_some, Nat.zero_add, h.ld_busy, unV_not, Mcd_bool, h.ld_next, e1, Mwr_some]
  cases hb : r.busy
  · simp only [Bool.not_false, if_true, Bool.false_eq_true, if_false]
    exact ⟨trivial, by rw [endR, hb]; exact h, Keep.refl⟩
  · simp only [Bool.not_true, if_true, Bool.false_eq_true, if_false]
    refine call_i (c_over r1) ?_
    rintro u h2 ⟨_, r2, k2⟩
    exact ⟨trivial, by rw [endR, if_pos hb]; exact r2, k1.trans k2⟩

theorem stN_mk {H : Heap} {b : Nat} {n m : Int} {l k : List UInt8} {T : TypeId} (h : H[b]? = some (.cells (.int .i64 n :: bcells l).toArray T (0, 0))) (hl : l.length = 32) (hk : k.length = 32) : stN 33 H (Ptr b 0) (mk m k) = some (H.setIfInBounds b (.cells (.int .i64 m :: bcells k).toArray T (0, 0))) := by
  have := stN_mid (b := b) (n := 33) (o := 0) (A := []) (B := .int .i64 n :: bcells l) (C := []) (B' := .int .i64 m :: bcells k) (T := T) (by simpa using h) rfl (by simp [hl]) (by simp [hk]) all_mk
  simpa [mk] using this
theorem ldN_mk {H : Heap} {b : Nat} {n : Int} {l : List UInt8} {T : TypeId} {f : Nat × Nat} (h : H[b]? = some (.cells (.int .i64 n :: bcells l).toArray T f)) (hl : l.length = 32) : ldN 33 H (Ptr b 0) = some (mk n l) :=
  ldN_mid (A := []) (B := .int .i64 n :: bcells l) (C := []) (by simpa using h) rfl (by simp [hl])

theorem c_Mark {p : Nat} {H : Heap} {r : Reg} (h : RegAt p H r) : HCalls prg f_anchor_Register_Mark [Ptr p 0] H fun u H' => u = mk r.n r.top ∧ Keep (fun _ => False) H H' := by
  apply sh_anchor_Register_Mark_calls
  unfold sh_anchor_Register_Mark
  have r0 : RegAt p (H.push (.cells (.int .i64 0 :: bcells zeroH).toArray T_anchor_Mark (0, 0))) r := h.keep (S := fun _ => False) Keep.push id
  simp only [z_Mark, Mnew_some, nck_ptr, fld_ptr, Mpu_some, Nat.zero_add, r0.ld_mark, stN_mk push_new (l := zeroH) rfl h.2.1, Mwr_some, ldN_mk (set_self push_new) h.2.1]
  refine ⟨trivial, by simp, fun i hi _ => ?_⟩
  rw [Array.getElem?_setIfInBounds, if_neg (by omega), Array.getElem?_push, if_neg (by omega)]

def regB (r : Reg) : List UInt8 := numB r.n 8 ++ r.top ++ [if r.busy then 1 else 0] ++ if r.busy then r.ntop else []
theorem c_RegBytes {p : Nat} {H : Heap} {r : Reg} (h : RegAt p H r) : HCalls prg f_anchor_Register_Bytes [Ptr p 0] H fun u H' => Buf (H.size < ·) H' u (regB r) ∧ Keep (fun _ => False) H H' := by
  apply sh_anchor_Register_Bytes_calls
  unfold sh_anchor_Register_Bytes
  have hp : p < H.size := lt_of h.1.choose_spec
  simp only [bld_Out, Mpu_some, Mnew_some, Cells_agg, nck_ptr, fld_ptr, Nat.zero_add]
  generalize hH1 : H.push (.cells #[.slice none 0 0] T_wire_Out (0, 0)) = H1
  have k0 : Keep (fun _ => False) H H1 := by rw [← hH1]; exact Keep.push
  have r0 : RegAt p H1 r := h.keep k0 id
  have hs1 : H1.size = H.size + 1 := by rw [← hH1]; simp
  have o0 : OutAt (H.size < ·) H.size H1 [] := ⟨Nat.lt_irrefl _, .slice none 0 0, by rw [← hH1]; exact push_new, .inl ⟨rfl, rfl⟩⟩
  have hW : ¬ Wr (H.size < ·) H.size p := by unfold Wr; omega
  simp only [r0.ld_n, r0.ld_top, r0.ld_busy, Mpu_some]
  refine call_i (c_Out_Int o0 r.n (by simp) (fun b hb => by omega)) ?_
  rintro u h2 ⟨rfl, o2, k2⟩
  have r2 := r0.keep k2 hW
  have hs2 := k2.1
  simp only [Mre_cons, Mre_nil, r2.ld_busy, r2.ld_top, true_and, and_true]
  refine call_i (c_Out_Hash o2 h.2.1 (by simp) (fun b hb => by omega)) ?_
  rintro u h3 ⟨rfl, o3, k3⟩
  have r3 := r2.keep k3 hW
  have hs3 := k3.1
  simp only [r3.ld_busy, true_and]
  refine call_i (c_Out_Bool o3 r.busy (by simp [h.2.1]) (fun b hb => by omega)) ?_
  rintro u h4 ⟨rfl, o4, k4⟩
  have r4 := r3.keep k4 hW
  have hs4 := k4.1
  have kk := k2.trans (k3.trans k4)
  have fin : ∀ h6 l, OutAt (H.size < ·) H.size h6 l → Keep (Wr (H.size < ·) H.size) h4 h6 → l = regB r → l.length ≤ 140737488355328 → Mcall prg f_wire_Out_All [Ptr H.size 0] h6 fun t36 h8 => Buf (H.size < ·) h8 t36 (regB r) ∧ Keep (fun _ => False) H h8 := by
    rintro h6 l o6 k6 rfl hl
    have hs6 := k6.1
    refine call_i (c_Out_All o6 hl (fun b hb => by omega)) ?_
    rintro u h8 ⟨ho, k8⟩
    refine ⟨ho, ?_, fun i hi _ => ?_⟩
    · have := k8.1; omega
    · rw [k8.2 i (by omega) (by omega), k6.2 i (by omega) (by unfold Wr; omega), kk.2 i (by omega) (by unfold Wr; omega), k0.2 i hi id]
  simp only [J0_eq, r4.ld_busy, Mpu_some, Mcd_bool]
  cases hb : r.busy
  · simp only [Bool.false_eq_true, if_false]
    refine fin _ _ o4 Keep.refl ?_ ?_
    · simp [regB, hb]
    · simp [h.2.1]
  · simp only [if_true, r4.ld_ntop, Mpu_some]
    refine call_i (c_Out_Hash o4 h.2.2 (by simp [h.2.1]) (fun b hb => by omega)) ?_
    rintro u h5 ⟨_, o5, k5⟩
    refine fin _ _ o5 k5 ?_ ?_
    · simp [regB, hb]
    · simp [h.2.1, h.2.2]


/- a mark of a history -/
theorem c_Of {q : Nat} {Fr Fc Fi : Nat → Prop} {H : Heap} {rs : List RecA} {ch : List (List UInt8)} (h : HistAt q Fr Fc Fi H rs ch) : HCalls prg f_anchor_Of [Ptr q 0] H fun u H' => u = mk rs.length (topF ch) ∧ Keep (fun _ => False) H H' := by
  apply sh_anchor_Of_calls
  unfold sh_anchor_Of
  have kp : Keep (fun _ => False) H (H.push (.cells (.int .i64 0 :: bcells zeroH).toArray T_anchor_Mark (0, 0))) := Keep.push
  have h' := h.keep kp fun _ _ => id
  have ht := topF_len h.c32
  simp only [z_Mark, Mnew_some]
  refine call_i (c_HistLen h') ?_
  rintro _ _ ⟨rfl, rfl⟩
  refine call_i (c_HistTop h') ?_
  rintro _ h3 ⟨rfl, k3⟩
  have hb := k3.at push_new id
  simp only [bld_Mark ht, Mpu_some, stN_mk hb (l := zeroH) rfl ht, Mwr_some, ldN_mk (set_self hb) ht]
  have := k3.1
  simp at this
  refine ⟨trivial, by simp; omega, fun i hi _ => ?_⟩
  rw [Array.getElem?_setIfInBounds, if_neg (by omega), k3.2 i (by simp; omega) id, Array.getElem?_push, if_neg (by omega)]
theorem eqMark {a b : Int} {l m : List UInt8} (hl : l.length = 32) (hm : m.length = 32) : binV (eqK prg T_anchor_Mark) .eql (mk a l) (mk b m) = some (.bool (decide (a = b) && decide (l = m))) := by
  have e : binV (eqK prg T_anchor_Mark) .eql (mk a l) (mk b m) = _ := binV_agg_eq
  have e2 := eq_Mark (a := a) (b := b) hl hm
  unfold mk at e2
  rw [e, e2]; rfl
theorem neMark {a b : Int} {l m : List UInt8} (hl : l.length = 32) (hm : m.length = 32) : binV (eqK prg T_anchor_Mark) .neq (mk a l) (mk b m) = some (.bool (!(decide (a = b) && decide (l = m)))) := by
  have e : binV (eqK prg T_anchor_Mark) .neq (mk a l) (mk b m) = _ := binV_agg_ne
  have e2 := eq_Mark (a := a) (b := b) hl hm
  unfold mk at e2
  rw [e, e2]; rfl
end Go.Proofs.YtdmciknajaedmaaGreatDoor
/- anchor: the rest of the register; the document's register; copies. -/
namespace Go.Proofs.YtdmciknajaedmaaGreatDoor
open Go.X Go.X.Diff
set_option maxRecDepth 100000

section
variable {p q : Nat} {Fr Fc Fi : Nat → Prop} {H : Heap} {r : Reg} {rs : List RecA} {ch : List (List UInt8)}
theorem HistAt.top32 (h : HistAt q Fr Fc Fi H rs ch) : (topF ch).length = 32 := topF_len h.c32
def isM (r : Reg) (n : Int) (l : List UInt8) : Bool := decide (n = r.n) && decide (l = r.top)
def isN (r : Reg) (n : Int) (l : List UInt8) : Bool := decide (n = r.nn) && decide (l = r.ntop)

theorem RegAt.ld_nn (h : RegAt p H r) : ld1 H (Ptr p 33) = some (.int .i64 r.nn) := ld1_mid (A := .int .i64 r.n :: bcells r.top) (C := bcells r.ntop ++ [.bool r.busy]) (by simpa [regC] using h.1.choose_spec) (by simp [h.2.1])
theorem c_AuditH (h : RegAt p H r) (hq : HistAt q Fr Fc Fi H rs ch) : HCalls prg f_anchor_Register_Audit [Ptr p 0, Ptr q 0] H fun u H' => u = .int .i64 (if isM r rs.length (topF ch) then 0 else 33) ∧ Keep (fun _ => False) H H' := by
  apply sh_anchor_Register_Audit_calls
  unfold sh_anchor_Register_Audit
  simp only [nck_ptr, fld_ptr, Mpu_some, Nat.zero_add, h.ld_mark]
  refine call_i (c_Of hq) ?_
  rintro _ h1 ⟨rfl, k1⟩
  have r1 := h.keep k1 id
  simp only [r1.ld_mark, Mre_cons, Mre_nil, true_and, neMark hq.top32 h.2.1, Mpu_some, Mcd_bool]
  have e : (decide ((rs.length : Int) = r.n) && decide (topF ch = r.top)) = isM r rs.length (topF ch) := rfl
  rw [e]
  cases isM r rs.length (topF ch)
  · simp only [Bool.not_false, if_true, Bool.false_eq_true, if_false]; exact ⟨trivial, k1⟩
  · simp only [Bool.not_true, if_true, Bool.false_eq_true, if_false]; exact ⟨trivial, k1⟩

def canR (r : Reg) : Reg := if r.busy then ⟨r.n, r.top, 0, zeroH, false⟩ else r
theorem c_Cancel (h : RegAt p H r) : HCalls prg f_anchor_Register_Cancel [Ptr p 0] H fun u H' => u = .int .i64 (if r.busy then 0 else 14) ∧ RegAt p H' (canR r) ∧ Keep (· = p) H H' := by
  apply sh_anchor_Register_Cancel_calls
  unfold sh_anchor_Register_Cancel
  simp only [nck_ptr, fld_ptr, Mpu_some, Nat.zero_add, h.ld_busy, unV_not, Mcd_bool]
  cases hb : r.busy
  · simp only [Bool.not_false, if_true, Bool.false_eq_true, if_false]
    exact ⟨trivial, by rw [canR, hb]; exact h, Keep.refl⟩
  · simp only [Bool.not_true, if_true, Bool.false_eq_true, if_false]
    refine call_i (c_over h) ?_
    rintro u h2 ⟨_, r2, k2⟩
    exact ⟨trivial, by rw [canR, if_pos hb]; exact r2, k2⟩

def setE (r : Reg) (n : Int) (l : List UInt8) : Int := if isM r n l then 0 else if r.busy && isN r n l then 0 else 33
def setR (r : Reg) (n : Int) (l : List UInt8) : Reg := if r.busy then (if isM r n l then canR r else if isN r n l then endR r else r) else r
theorem c_Settle (h : RegAt p H r) (hq : HistAt q Fr Fc Fi H rs ch) (hpq : ¬ HB q Fr Fc Fi p) : HCalls prg f_anchor_Register_Settle [Ptr p 0, Ptr q 0] H fun u H' => u = .int .i64 (setE r rs.length (topF ch)) ∧ RegAt p H' (setR r rs.length (topF ch)) ∧ Keep (· = p) H H' := by
  apply sh_anchor_Register_Settle_calls
  unfold sh_anchor_Register_Settle
  simp only [nck_ptr, fld_ptr, Mpu_some, Nat.zero_add, h.ld_busy, unV_not, Mcd_bool]
  have ht := hq.top32
  cases hb : r.busy
  · simp only [Bool.not_false, if_true]
    refine call_i (c_AuditH h hq) ?_
    rintro u h1 ⟨rfl, k1⟩
    refine ⟨by simp [setE, hb], ?_, k1.mono fun _ _ h => h.elim⟩
    rw [setR, hb]; exact h.keep k1 id
  · simp only [Bool.not_true, Bool.false_eq_true, if_false, h.ld_mark, Mpu_some]
    refine call_i (c_Of hq) ?_
    rintro _ h2 ⟨rfl, k2⟩
    have r2 := h.keep k2 id
    have hq2 := hq.keep k2 fun _ _ => id
    simp only [r2.ld_mark, Mre_cons, Mre_nil, true_and, eqMark ht h.2.1, Mpu_some, Mcd_bool]
    have e : (decide ((rs.length : Int) = r.n) && decide (topF ch = r.top)) = isM r rs.length (topF ch) := rfl
    rw [e]
    cases hm : isM r rs.length (topF ch)
    · simp only [Bool.false_eq_true, if_false, r2.ld_next, Mpu_some]
      refine call_i (c_Of hq2) ?_
      rintro _ h4 ⟨rfl, k4⟩
      have r4 := r2.keep k4 id
      simp only [r4.ld_next, Mre_cons, Mre_nil, true_and, eqMark ht h.2.2, Mpu_some, Mcd_bool]
      have e : (decide ((rs.length : Int) = r.nn) && decide (topF ch = r.ntop)) = isN r rs.length (topF ch) := rfl
      rw [e]
      cases hn : isN r rs.length (topF ch)
      · simp only [Bool.false_eq_true, if_false]
        exact ⟨by simp [setE, hm, hn], by simp only [setR, hb, hm, hn, if_true, Bool.false_eq_true, if_false]; exact r4, (k2.trans k4).mono fun _ _ h => h.elim⟩
      · simp only [if_true]
        refine call_i (c_End r4) ?_
        rintro u h5 ⟨rfl, r5, k5⟩
        exact ⟨by simp [setE, hm, hn, hb], by simp only [setR, hb, hm, hn, if_true, Bool.false_eq_true, if_false]; exact r5, ((k2.trans k4).mono fun _ _ h => h.elim).trans k5⟩
    · simp only [if_true]
      refine call_i (c_Cancel r2) ?_
      rintro u h3 ⟨rfl, r3, k3⟩
      exact ⟨by simp [setE, hm, hb], by simp only [setR, hb, hm, if_true]; exact r3, (k2.mono fun _ _ h => h.elim).trans k3⟩

theorem c_Next (h : RegAt p H r) : HCalls prg f_anchor_Register_Next [Ptr p 0] H fun u H' => u = .tuple #[mk r.nn r.ntop, .bool r.busy] ∧ Keep (fun _ => False) H H' := by
  apply sh_anchor_Register_Next_calls
  unfold sh_anchor_Register_Next
  have r0 : RegAt p (H.push (.cells (.int .i64 0 :: bcells zeroH).toArray T_anchor_Mark (0, 0))) r := h.keep (S := fun _ => False) Keep.push id
  have kk : Keep (fun _ => False) H ((H.push (.cells (.int .i64 0 :: bcells zeroH).toArray T_anchor_Mark (0, 0))).setIfInBounds H.size (.cells (.int .i64 r.nn :: bcells r.ntop).toArray T_anchor_Mark (0, 0))) := by
    refine ⟨by simp, fun i hi _ => ?_⟩
    rw [Array.getElem?_setIfInBounds, if_neg (by omega), Array.getElem?_push, if_neg (by omega)]
  have r1 := h.keep kk id
  simp only [z_Mark, Mnew_some, nck_ptr, fld_ptr, Mpu_some, Nat.zero_add, r0.ld_next, r0.ld_busy, stN_mk push_new (l := zeroH) rfl h.2.2, Mwr_some, r1.ld_busy, Mre_cons, Mre_nil, true_and, ldN_mk (set_self push_new) h.2.2]
  exact kk

/- the document's register: it lies as the other one -/
theorem z_rMark : zcells prg T_syngraphref23_Mark = some (.int .i64 0 :: bcells zeroH).toArray := by kernel_rfl
theorem k_rMark : structK prg T_syngraphref23_Mark = some ([(0, 1), (1, 32)], (.int .i64 0 :: bcells zeroH).toArray) := by kernel_rfl
theorem q_rMark : eqK prg T_syngraphref23_Mark = eqK prg T_anchor_Mark := by rw [q_Mark]; kernel_rfl
theorem bld_rMark0 : buildV prg T_syngraphref23_Mark [] = some (mk 0 zeroH) := by kernel_rfl
theorem bld_rMark {n : Int} {l : List UInt8} (h : l.length = 32) : buildV prg T_syngraphref23_Mark [(0, .int .i64 n), (1, bv l)] = some (mk n l) := by
  rw [buildV_of k_rMark, ← bld_Mark h, buildV_of k_Mark]
theorem bld_rReg0 : buildV prg T_syngraphref23_Register [] = some (.agg (regC ⟨0, zeroH, 0, zeroH, false⟩).toArray) := by kernel_rfl

theorem c_refBegin {l : List UInt8} (h : RegAt p H r) (hl : l.length = 32) : HCalls prg f_syngraphref23_Register_Begin [Ptr p 0, bv l] H fun u H' => u = .int .i64 (if r.busy then 50 else 0) ∧ RegAt p H' (begR r l) ∧ Keep (· = p) H H' := by
  apply sh_syngraphref23_Register_Begin_calls
  unfold sh_syngraphref23_Register_Begin
  have kp : Keep (· = p) H (H.push (.cells (bcells l).toArray T_A32_uint8 (0, 0))) := Keep.push
  have r0 : RegAt p (H.push (.cells (bcells l).toArray T_A32_uint8 (0, 0))) r := h.keep (S := fun _ => False) Keep.push id
  simp only [Mnew_some, cells_bv, nck_ptr, fld_ptr, Mpu_some, Nat.zero_add, r0.ld_busy, Mcd_bool, r0.ld_n, binV_int, intV, ldN_bytes push_new hl, bld_rMark hl]
  cases hb : r.busy
  · obtain ⟨h1, e1, r1, k1⟩ := r0.st_next (n := IntKind.i64.wrap (r.n + 1)) (l := l) hl
    obtain ⟨h2, e2, r2, k2⟩ := r1.st_busy true
    simp only [e1, Mwr_some, e2, Bool.false_eq_true, if_false]
    refine ⟨trivial, ?_, kp.trans (k1.trans k2)⟩
    rw [begR, hb]; exact r2
  · simp only [if_true]
    refine ⟨trivial, ?_, kp⟩
    rw [begR, if_pos hb]; exact r0

theorem c_refFinish {b : Bool} (h : RegAt p H r) : HCalls prg f_syngraphref23_Register_Finish [Ptr p 0, .bool b] H fun u H' => u = .int .i64 (if r.busy then 0 else 14) ∧ RegAt p H' (if b then endR r else canR r) ∧ Keep (· = p) H H' := by
  apply sh_syngraphref23_Register_Finish_calls
  unfold sh_syngraphref23_Register_Finish
  simp only [nck_ptr, fld_ptr, Mpu_some, Nat.zero_add, h.ld_busy, unV_not, Mcd_bool]
  cases hb : r.busy
  · simp only [Bool.not_false, if_true, Bool.false_eq_true, if_false]
    refine ⟨trivial, ?_, Keep.refl⟩
    cases b <;> simp only [endR, canR, hb, if_true, Bool.false_eq_true, if_false] <;> exact h
  · simp only [Bool.not_true, if_true, Bool.false_eq_true, if_false]
    refine J0_i (fun h2 => RegAt p h2 { r with n := if b then r.nn else r.n, top := if b then r.ntop else r.top } ∧ Keep (· = p) H h2) (fun k hk => ?_) ?_
    · cases b
      · simp only [Bool.false_eq_true, if_false]
        exact hk _ ⟨h, Keep.refl⟩
      · obtain ⟨h1, e1, r1, k1⟩ := h.st_mark (n := r.nn) (l := r.ntop) h.2.2
        simp only [if_true, h.ld_next, Mpu_some, e1, Mwr_some]
        exact hk _ ⟨r1, k1⟩
    · rintro h2 ⟨r2, k2⟩
      obtain ⟨h3, e3, r3, k3⟩ := r2.st_next (n := 0) (l := zeroH) rfl
      obtain ⟨h4, e4, r4, k4⟩ := r3.st_busy false
      simp only [bld_rMark0, Mpu_some, e3, Mwr_some, e4]
      refine ⟨trivial, ?_, k2.trans (k3.trans k4)⟩
      cases b <;> simp only [endR, canR, hb, if_true, Bool.false_eq_true, if_false] at r4 ⊢ <;> exact r4

theorem c_refSettle {n : Int} {l : List UInt8} (h : RegAt p H r) (hl : l.length = 32) : HCalls prg f_syngraphref23_Register_Settle [Ptr p 0, mk n l] H fun u H' => u = .int .i64 (setE r n l) ∧ RegAt p H' (setR r n l) ∧ Keep (· = p) H H' := by
  apply sh_syngraphref23_Register_Settle_calls
  unfold sh_syngraphref23_Register_Settle
  have kp : Keep (· = p) H (H.push (.cells (.int .i64 n :: bcells l).toArray T_syngraphref23_Mark (0, 0))) := Keep.push
  have r0 : RegAt p (H.push (.cells (.int .i64 n :: bcells l).toArray T_syngraphref23_Mark (0, 0))) r := h.keep (S := fun _ => False) Keep.push id
  simp only [Mnew_some, cells_mk, nck_ptr, fld_ptr, Mpu_some, Nat.zero_add, r0.ld_busy, unV_not, Mcd_bool, r0.ld_mark, r0.ld_next, ldN_mk push_new hl, q_rMark, neMark hl h.2.1, eqMark hl h.2.1, eqMark hl h.2.2]
  have e : (decide (n = r.n) && decide (l = r.top)) = isM r n l := rfl
  have e2 : (decide (n = r.nn) && decide (l = r.ntop)) = isN r n l := rfl
  rw [e, e2]
  cases hb : r.busy
  · cases hm : isM r n l
    · simp only [Bool.not_false, if_true]
      exact ⟨by simp [setE, hm, hb], by simp only [setR, hb, Bool.false_eq_true, if_false]; exact r0, kp⟩
    · simp only [Bool.not_false, Bool.not_true, if_true, Bool.false_eq_true, if_false]
      exact ⟨by simp [setE, hm], by simp only [setR, hb, Bool.false_eq_true, if_false]; exact r0, kp⟩
  · cases hm : isM r n l
    · cases hn : isN r n l
      · simp only [Bool.not_true, Bool.false_eq_true, if_false]
        exact ⟨by simp [setE, hm, hn], by simp only [setR, hb, hm, hn, if_true, Bool.false_eq_true, if_false]; exact r0, kp⟩
      · simp only [Bool.not_true, Bool.false_eq_true, if_false, if_true]
        refine call_i (c_refFinish r0) ?_
        rintro u h3 ⟨rfl, r3, k3⟩
        exact ⟨by simp [setE, hm, hn, hb], by simp only [setR, hb, hm, hn, if_true, Bool.false_eq_true, if_false] at r3 ⊢; exact r3, kp.trans k3⟩
    · simp only [Bool.not_true, Bool.false_eq_true, if_false, if_true]
      refine call_i (c_refFinish r0) ?_
      rintro u h3 ⟨rfl, r3, k3⟩
      exact ⟨by simp [setE, hm, hb], by simp only [setR, hb, hm, if_true, Bool.false_eq_true, if_false] at r3 ⊢; exact r3, kp.trans k3⟩

theorem c_lawOf (h : HistAt q Fr Fc Fi H rs ch) : HCalls prg f_syngraphlaw23_of [Ptr q 0] H fun u H' => u = mk rs.length (topF ch) ∧ Keep (fun _ => False) H H' := by
  apply sh_syngraphlaw23_of_calls
  unfold sh_syngraphlaw23_of
  have kp : Keep (fun _ => False) H (H.push (.cells (.int .i64 0 :: bcells zeroH).toArray T_syngraphref23_Mark (0, 0))) := Keep.push
  have h' := h.keep kp fun _ _ => id
  have ht := topF_len h.c32
  simp only [z_rMark, Mnew_some]
  refine call_i (c_HistLen h') ?_
  rintro _ _ ⟨rfl, rfl⟩
  refine call_i (c_HistTop h') ?_
  rintro _ h3 ⟨rfl, k3⟩
  have hb := k3.at push_new id
  simp only [bld_rMark ht, Mpu_some, stN_mk hb (l := zeroH) rfl ht, Mwr_some, ldN_mk (set_self hb) ht]
  have := k3.1
  simp at this
  refine ⟨trivial, by simp; omega, fun i hi _ => ?_⟩
  rw [Array.getElem?_setIfInBounds, if_neg (by omega), k3.2 i (by simp; omega) id, Array.getElem?_push, if_neg (by omega)]

theorem c_RegCopy (h : RegAt p H r) : HCalls prg f_anchor_Register_Copy [Ptr p 0] H fun u H' => u = Ptr H.size 0 ∧ RegAt H.size H' r ∧ Keep (fun _ => False) H H' := by
  apply sh_anchor_Register_Copy_calls
  unfold sh_anchor_Register_Copy
  have hl : (regC r).length = 67 := by simp [regC, h.2.1, h.2.2]
  have hz : zcells prg T_anchor_Register = some (regC ⟨0, zeroH, 0, zeroH, false⟩).toArray := by kernel_rfl
  have hone : ∀ v ∈ regC r, v.oneCell' = true := by
    intro v hv
    simp only [regC, List.mem_append, List.mem_cons, List.not_mem_nil, or_false] at hv
    rcases hv with ((rfl | hv) | rfl | hv) | rfl
    · rfl
    · exact bcells_one v hv
    · rfl
    · exact bcells_one v hv
    · rfl
  have ld : ldN 67 H (Ptr p 0) = some (.agg (regC r).toArray) := ldN_mid (A := []) (B := regC r) (C := []) (by rw [List.nil_append, List.append_nil]; exact h.1.choose_spec) rfl (by rw [hl])
  have a0 : At (H.push (.cells (regC ⟨0, zeroH, 0, zeroH, false⟩).toArray T_anchor_Register (0, 0))) H.size (regC ⟨0, zeroH, 0, zeroH, false⟩) := At.push
  obtain ⟨h2, st, a2, k2⟩ := a0.st (n := 67) (ds := regC r) (by rfl) hl hone
  simp only [nck_ptr, Mpu_some, ld, hz, Mnew_some]
  rw [show (Value.pointer (some ⟨H.size, 0, none⟩)) = Ptr H.size 0 from rfl, st, Mwr_some]
  exact ⟨by trivial, ⟨a2, h.2⟩, Keep.push.fresh k2 fun b hb => by omega⟩

end
/- copies of slices -/
theorem bslR0 : bslV prg T_history_Record 0 [] = some #[] := by kernel_rfl
theorem bslH0 : bslV prg T_sha_Hash 0 [] = some #[] := by kernel_rfl
theorem clone_i {n bytes T : Nat} {P : Nat → Prop} {H : Heap} {v : Value} {xs : List (List Value)} {R : Value → Heap → Prop} (hv : SlE n P H v xs) (hz : bslV prg T 0 [] = some #[]) (hb : 0 < bytes) (hl : xs.length * bytes ≤ 140737488355328)
    (hR : ∀ u H', BufE n (New H H') H' u xs → Keep (fun _ => False) H H' → R u H') :
    Mpu (binV .slc .eql v (.slice none 0 0)) fun t4 => Mcd t4 (R (.slice none 0 0) H) (Mnews H T 0 (bslV prg T 0 []) fun t5 h1 => Mapp T n bytes h1 t5 v fun t7 h2 => R t7 h2) := by
  obtain ⟨⟨a, c, rfl, hc, hx⟩, hel, hone⟩ := id hv
  cases a with
  | none =>
    have hx0 : xs = [] := by
      rcases hx with h | ⟨b, o, e, _⟩
      · simpa using h
      · cases e
    subst hx0
    simp only [binV_slc_eq, eqV_slc_none, Option.map_some, Mpu_some, Mcd_bool, Option.isNone_none, if_true]
    exact hR _ _ BufE.nil Keep.refl
  | some a =>
    simp only [binV_slc_eq, eqV_slc_some, Option.map_some, Mpu_some, Mcd_bool, Bool.false_eq_true, if_false, hz, Mnews_some]
    have hk := hv.keep (S := fun _ => False) (Keep.push (o := .cells #[] T (0, 0))) fun _ _ => id
    refine BufE.app (F := (H.size ≤ ·)) (xs := []) (.fresh (cs := []) ⟨H.size, rfl, Nat.le_refl _, push_new⟩ (Nat.le_refl _) (by simp) (fun _ _ => by simp [thaw]) (by simp) (fun x h => by cases h) (fun x h => by cases h)) hk hb (by simpa using hl) (by simp) fun u H' hu k' => ?_
    rw [List.nil_append] at hu
    refine hR _ _ (BufE.re hu fun b hb hF => ⟨hF, hb⟩) ⟨by have := k'.1; simp at this; omega, fun i hi _ => ?_⟩
    rw [k'.2 i (by simp; omega) (by omega), Array.getElem?_push, if_neg (by omega)]

theorem bld_Hist2 {v w : Value} (hv : v.cells.size = 1) (hw : w.cells.size = 1) : buildV prg T_history_History [(0, v), (1, w)] = some (.agg (v.cells ++ w.cells)) := by
  have k : structK prg T_history_History = some ([(0, 1), (1, 1)], #[.slice none 0 0, .slice none 0 0]) := by kernel_rfl
  rw [buildV_of k, bfill_cons (off := 0) (n := 1) rfl hv (by decide), bfill_cons (off := 1) (n := 1) rfl hw (by simp [spl, hv]), bfill_nil]
  rw [Option.map_some]
  refine congrArg (fun x => some (Value.agg x)) (Array.ext' ?_)
  simp [spl, hv, hw]
theorem c_HistCopy {q : Nat} {Fr Fc Fi : Nat → Prop} {H : Heap} {rs : List RecA} {ch : List (List UInt8)} (h : HistAt q Fr Fc Fi H rs ch) :
    HCalls prg f_history_History_Copy [Ptr q 0] H fun u H' => Keep (fun _ => False) H H' ∧ ∃ p' Fr' Fc', u = Ptr p' 0 ∧ H.size ≤ p' ∧ HistAt p' Fr' Fc' Fi H' rs ch ∧ ∀ b, Fr' b ∨ Fc' b → H.size ≤ b := by
  apply sh_history_History_Copy_calls
  unfold sh_history_History_Copy
  obtain ⟨vr, vc, xs, hp, hr, hc, hl, hx⟩ := h.blk
  have hlt := h.lt
  have hzl : (List.zipWith rawC rs xs).length = rs.length := by simp [hl]
  have hfew := h.few
  have hlen := h.len
  have hng := h.ng
  have hpH : q < H.size := lt_of hp
  have d0 : ld1 H (Ptr q 0) = some vr := by rw [ld1_at hp]; rfl
  have d1 : ∀ {g}, Keep (fun _ => False) H g → ld1 g (Ptr q 1) = some vc := fun k => by rw [ld1_at (k.at hp id)]; rfl
  simp only [nck_ptr, fld_ptr, Mpu_some, Nat.zero_add, d0, d1 Keep.refl]
  refine call_i (R := fun u H' => BufE 36 (New H H') H' u (List.zipWith rawC rs xs) ∧ Keep (fun _ => False) H H') ?_ ?_
  · apply sh_slices_Clone_S_history_Record_history_Record_calls
    unfold sh_slices_Clone_S_history_Record_history_Record
    exact clone_i (n := 36) (bytes := 96) (xs := List.zipWith rawC rs xs) (R := fun u H' => BufE 36 (New H H') H' u (List.zipWith rawC rs xs) ∧ Keep (fun _ => False) H H') hr.sl bslR0 (by omega) (by omega) fun u H' hu k => ⟨hu, k⟩
  rintro ur h1 ⟨br, k1⟩
  simp only [d1 k1, Mre_cons, Mre_nil, true_and]
  refine call_i (R := fun u H' => BufE 32 (New h1 H') H' u (ch.map bcells) ∧ Keep (fun _ => False) h1 H') ?_ ?_
  · apply sh_slices_Clone_S_sha_Hash_sha_Hash_calls
    unfold sh_slices_Clone_S_sha_Hash_sha_Hash
    exact clone_i (n := 32) (bytes := 32) (xs := ch.map bcells) (R := fun u H' => BufE 32 (New h1 H') H' u (ch.map bcells) ∧ Keep (fun _ => False) h1 H') (hc.keep k1 fun _ _ => id).sl bslH0 (by omega) (by rw [List.length_map]; omega) fun u H' hu k => ⟨hu, k⟩
  rintro uc h2 ⟨bc, k2⟩
  have k02 := k1.trans k2
  have s1 := k1.1
  have s2 := k2.1
  obtain ⟨⟨ar, cr, er, _⟩, _⟩ := br.sl
  obtain ⟨⟨ac, cc, ec, _⟩, _⟩ := bc.sl
  have kp : Keep (fun _ => False) h2 (h2.push (.cells #[ur, uc] T_history_History (0, 0))) := Keep.push
  have e2 : (ur.cells ++ uc.cells) = #[ur, uc] := by subst er ec; rfl
  rw [bld_Hist2 (by subst er; rfl) (by subst ec; rfl), e2, Mpu_some, Cells_agg, Mnew_some]
  refine ⟨k02.trans kp, h2.size, New H h1, New h1 h2, rfl, by omega, ⟨fun b => ⟨fun hb => ?_, fun hb => ?_, fun hb => ?_⟩, by omega, h.len, h.few, h.c32, ur, uc, xs, push_new, (br.keep k2 fun _ _ => id).keep kp fun _ _ => id, bc.keep kp fun _ _ => id, hl, fun i a x ha hx' => ((hx i a x ha hx').keep k02 fun _ _ => id).keep kp fun _ _ => id⟩, fun b hb => ?_⟩
  · have := hb.1; have := hb.2
    refine ⟨by omega, by simp; omega, by omega, fun h' => by have := h'.1; omega, fun h' => by have := (hlt b (.inr (.inr (.inr h')))).2; omega⟩
  · have := hb.1; have := hb.2
    refine ⟨by omega, by simp; omega, by omega, fun h' => by have := (hlt b (.inr (.inr (.inr h')))).2; omega⟩
  · have := hlt b (.inr (.inr (.inr hb)))
    exact ⟨this.1, by simp; omega, by omega⟩
  · rcases hb with hb | hb
    · exact hb.1
    · have := hb.1; omega

/- what the document's register tells -/
theorem slA32 {p o : Nat} : slA 32 1 (Ptr p o) none none none = some (.slice (some ⟨p, o, none⟩) 32 32) := by
  simp [slA, bnds, bnd]
theorem RegAt.sl_top {p : Nat} {H : Heap} {r : Reg} (h : RegAt p H r) : Sl (· = p) H (.slice (some ⟨p, 1, none⟩) 32 32) r.top :=
  ⟨Bs.mk h.1.choose_spec h.2.1.symm (by simp [regC, h.2.1, h.2.2]) (by
    have : (regC r).drop 1 = bcells r.top ++ ((.int .i64 r.nn :: bcells r.ntop) ++ [.bool r.busy]) := by simp [regC]
    rw [List.toList_toArray, this, List.take_left' (by simp [h.2.1])]), ⟨_, 32, by rw [h.2.1], by rw [h.2.1]; omega, fun x hx => by cases hx; rfl⟩, fun b hb => by cases hb; rfl⟩
theorem RegAt.sl_ntop {p : Nat} {H : Heap} {r : Reg} (h : RegAt p H r) : Sl (· = p) H (.slice (some ⟨p, 34, none⟩) 32 32) r.ntop :=
  ⟨Bs.mk h.1.choose_spec h.2.2.symm (by simp [regC, h.2.1, h.2.2]) (by
    have : (regC r).drop 34 = bcells r.ntop ++ [.bool r.busy] := by
      have e : regC r = (.int .i64 r.n :: bcells r.top ++ [.int .i64 r.nn]) ++ (bcells r.ntop ++ [.bool r.busy]) := by simp [regC]
      rw [e, List.drop_left' (by simp [h.2.1])]
    rw [List.toList_toArray, this, List.take_left' (by simp [h.2.2])]), ⟨_, 32, by rw [h.2.2], by rw [h.2.2]; omega, fun x hx => by cases hx; rfl⟩, fun b hb => by cases hb; rfl⟩

theorem c_lawBytes {p n : Nat} {H : Heap} {r : Reg} (h : RegAt p H r) (hn : r.n = (n : Int)) : HCalls prg f_syngraphlaw23_bytes [Ptr p 0] H fun u H' => u = str (regB r) ∧ Keep (fun _ => False) H H' := by
  apply sh_syngraphlaw23_bytes_calls
  unfold sh_syngraphlaw23_bytes
  have sll : ∀ {P : Nat → Prop} {h : Heap} {v : Value} {l : List UInt8}, Sl P h v l → ∃ a c, v = .slice a l.length c := fun s => let ⟨a, c, e, _⟩ := s.sl; ⟨a, c, e⟩
  simp only [nck_ptr, fld_ptr, Mpu_some, Nat.zero_add, h.ld_n, slA32, hn]
  refine call_i c_refInt ?_
  rintro t9 h1 ⟨b9, k1⟩
  have r1 := h.keep k1 id
  obtain ⟨a9, c9, e9⟩ := sll b9.sl
  rw [e9, bsl2S, Mnews_some, ← e9]
  generalize hH2 : h1.push (.cells #[t9, .slice (some ⟨p, 1, none⟩) 32 32] T_S_uint8 (0, 0)) = h2
  have k2 : Keep (fun _ => False) h1 h2 := by rw [← hH2]; exact Keep.push
  have n2 : At h2 h1.size [t9, .slice (some ⟨p, 1, none⟩) 32 32] := by rw [← hH2]; exact At.push
  have r2 := r1.keep k2 id
  refine call_i (c_refJoin (P := fun _ => True) (n := 2) (ls := [numB n 8, r.top]) n2 rfl rfl (fun i v l hv hl => ?_) (by simp [h.2.1]) (by omega)) ?_
  · match i, hv, hl with
    | 0, hv, hl => cases hv; cases hl; exact (b9.sl.keep k2 fun _ _ => id).mono fun _ _ => trivial
    | 1, hv, hl => cases hv; cases hl; exact r2.sl_top.mono fun _ _ => trivial
    | i + 2, hv, hl => simp at hv
  rintro t16 h3 ⟨b16, k3⟩
  have e2 : [numB (n : Int) 8, r.top].flatten = numB n 8 ++ r.top := by simp
  rw [e2] at b16
  have r3 := r2.keep k3 id
  have k03 := k1.trans (k2.trans k3)
  simp only [r3.ld_busy, Mpu_some, Mcd_bool]
  cases hb : r.busy
  · simp only [Bool.false_eq_true, if_false, b16.sl.b2s, Mpu_some]
    have : binV .no .add (.string ⟨(numB (n : Int) 8 ++ r.top).toArray⟩) (.string ⟨#[0]⟩) = some (str ((numB n 8 ++ r.top) ++ [0])) := strV_add (b := [0]) (by simp [h.2.1])
    rw [this, Mpu_some]
    exact ⟨by simp [regB, hb, hn], k03⟩
  · simp only [if_true]
    have hb1 : bslV prg T_uint8 1 [(0, .int .u8 1)] = some #[.int .u8 1] := bsl1 (n := 1)
    rw [hb1, Mnews_some]
    generalize hH4 : h3.push (.cells #[.int .u8 1] T_uint8 (0, 0)) = h4
    have k4 : Keep (fun _ => False) h3 h4 := by rw [← hH4]; exact Keep.push
    have b1 : Sl (fun _ => True) h4 (.slice (some ⟨h3.size, 0, none⟩) 1 1) [1] := ⟨Bs.mk (cs := #[.int .u8 1]) (by rw [← hH4]; exact push_new) rfl (by simp) rfl, ⟨_, 1, rfl, by simp, fun x hx => by cases hx; rfl⟩, fun _ _ => trivial⟩
    obtain ⟨a16, c16, e16⟩ := sll b16.sl
    rw [e16, bsl3S, Mnews_some, ← e16]
    generalize hH5 : h4.push (.cells #[t16, .slice (some ⟨h3.size, 0, none⟩) 1 1, .slice (some ⟨p, 34, none⟩) 32 32] T_S_uint8 (0, 0)) = h5
    have k5 : Keep (fun _ => False) h4 h5 := by rw [← hH5]; exact Keep.push
    have n5 : At h5 h4.size [t16, .slice (some ⟨h3.size, 0, none⟩) 1 1, .slice (some ⟨p, 34, none⟩) 32 32] := by rw [← hH5]; exact At.push
    have k35 := k4.trans k5
    have r5 := r3.keep k35 id
    refine call_i (c_refJoin (P := fun _ => True) (n := 3) (ls := [numB n 8 ++ r.top, [1], r.ntop]) n5 rfl rfl (fun i v l hv hl => ?_) (by simp [h.2.1, h.2.2]) (by omega)) ?_
    · match i, hv, hl with
      | 0, hv, hl => cases hv; cases hl; exact (b16.sl.keep k35 fun _ _ => id).mono fun _ _ => trivial
      | 1, hv, hl => cases hv; cases hl; exact b1.keep k5 fun _ _ => id
      | 2, hv, hl => cases hv; cases hl; exact r5.sl_ntop.mono fun _ _ => trivial
      | i + 3, hv, hl => simp at hv
    rintro t29 h6 ⟨b29, k6⟩
    simp only [b29.sl.b2s, Mpu_some]
    exact ⟨by simp [regB, hb, hn], k03.trans (k35.trans k6)⟩

theorem new_mk {h : Heap} {n : Int} {l : List UInt8} (hl : l.length = 32) {k : Value → Heap → Prop} (hk : ∀ h', At h' h.size (.int .i64 n :: bcells l) → Keep (fun _ => False) h h' → k (Ptr h.size 0) h') :
    Mnew h T_anchor_Mark (zcells prg T_anchor_Mark) fun t h6 => Mwr (stN 33 h6 t (mk n l)) fun h7 => k t h7 := by
  rw [z_Mark, Mnew_some, stN_mk push_new (l := zeroH) rfl hl, Mwr_some]
  refine hk _ ⟨_, set_self push_new⟩ ⟨by simp, fun i hi _ => ?_⟩
  rw [Array.getElem?_setIfInBounds, if_neg (by omega), Array.getElem?_push, if_neg (by omega)]
theorem at_top {H : Heap} {q : Nat} {n : Int} {l : List UInt8} (a : At H q (.int .i64 n :: bcells l)) (hl : l.length = 32) : ldN 32 H (Ptr q 1) = some (bv l) :=
  ldN_mid (A := [.int .i64 n]) (B := bcells l) (C := []) (by simpa using a.choose_spec) rfl (by simp [hl])

theorem c_sameA {p q n : Nat} {H : Heap} {r : Reg} (h : RegAt p H r) (hq : RegAt q H r) (hn : r.n = (n : Int)) : HCalls prg f_syngraphlaw23_same [Ptr p 0, Ptr q 0] H fun u H' => u = .bool true ∧ Keep (fun _ => False) H H' := by
  apply sh_syngraphlaw23_same_calls
  unfold sh_syngraphlaw23_same
  refine call_i (c_Next h) ?_
  rintro _ h1 ⟨rfl, k1⟩
  have ex0 : ∀ x y : Value, extV 0 (.tuple #[x, y]) = some x := fun _ _ => rfl
  have ex1 : ∀ x y : Value, extV 1 (.tuple #[x, y]) = some y := fun _ _ => rfl
  simp only [ex0, ex1, Mpu_some]
  refine new_mk h.2.2 fun h3 a3 k3 => ?_
  have k03 := k1.trans k3
  refine call_i (c_Mark (h.keep k03 id)) ?_
  rintro _ h4 ⟨rfl, k4⟩
  refine new_mk h.2.1 fun h6 a6 k6 => ?_
  have k36 := k4.trans k6
  have k06 := k03.trans k36
  have a36 := a3.keep k36 id
  have p6 := h.keep k06 id
  have q6 := hq.keep k06 id
  have ei : ∀ x : Int, binV .no .eql (.int .i64 x) (.int .i64 x) = some (.bool true) := fun x => by rw [binV_int]; simp [intV]
  have eb : ∀ x : Bool, binV .bool .eql (.bool x) (.bool x) = some (.bool true) := fun x => by cases x <;> rfl
  have eh : ∀ {x : List UInt8}, x.length = 32 → binV (eqK prg T_sha_Hash) .eql (bv x) (bv x) = some (.bool true) := fun hx => by rw [eq_Hash hx hx]; simp
  simp only [fld_ptr, nck_ptr, Nat.zero_add, Nat.reduceAdd, Mpu_some, a6.ld (i := 0) rfl, q6.ld_n, ei, unV_not, Bool.not_true, Bool.not_false, Mif_bool, Mif_undef, pickV_bool, Mcd_bool, Mpu_some, if_true, if_false, Bool.false_eq_true, Bool.true_eq_false, decide_true, decide_false, reduceCtorEq, ex20, ex21, ex30, ex31, ex32, Mre_ok, Mre_nil]
  refine J1_eq.2 ?_
  simp only [at_top a6 h.2.1, q6.ld_top, eh h.2.1, unV_not, Bool.not_true, Bool.not_false, Mif_bool, Mif_undef, pickV_bool, Mcd_bool, Mpu_some, if_true, if_false, Bool.false_eq_true, Bool.true_eq_false, decide_true, decide_false, reduceCtorEq, ex20, ex21, ex30, ex31, ex32, Mre_ok, Mre_nil]
  refine J1_eq.2 ?_
  simp only [q6.ld_busy, eb, unV_not, Bool.not_true, Bool.not_false, Mif_bool, Mif_undef, pickV_bool, Mcd_bool, Mpu_some, if_true, if_false, Bool.false_eq_true, Bool.true_eq_false, decide_true, decide_false, reduceCtorEq, ex20, ex21, ex30, ex31, ex32, Mre_ok, Mre_nil]
  refine J1_eq.2 ?_
  simp only [a36.ld (i := 0) rfl, show ld1 h6 (Ptr q 33) = some (.int .i64 r.nn) from q6.ld_nn, ei, unV_not, Bool.not_true, Bool.not_false, Mif_bool, Mif_undef, pickV_bool, Mcd_bool, Mpu_some, if_true, if_false, Bool.false_eq_true, Bool.true_eq_false, decide_true, decide_false, reduceCtorEq, ex20, ex21, ex30, ex31, ex32, Mre_ok, Mre_nil]
  refine J1_eq.2 ?_
  simp only [at_top a36 h.2.2, q6.ld_ntop, eh h.2.2, unV_not, Bool.not_true, Bool.not_false, Mif_bool, Mif_undef, pickV_bool, Mcd_bool, Mpu_some, if_true, if_false, Bool.false_eq_true, Bool.true_eq_false, decide_true, decide_false, reduceCtorEq, ex20, ex21, ex30, ex31, ex32, Mre_ok, Mre_nil]
  refine J1_eq.2 ?_
  refine call_i (c_RegBytes p6) ?_
  rintro t63 h16 ⟨b63, k16⟩
  simp only [b63.sl.b2s, Mpu_some]
  refine call_i (c_lawBytes (q6.keep k16 id) hn) ?_
  rintro _ h17 ⟨rfl, k17⟩
  have b17 := b63.keep k17 fun _ _ => id
  have es : binV .no .eql (.string ⟨(regB r).toArray⟩) (str (regB r)) = some (.bool true) := by
    have := strV_eq (a := regB r) (b := regB r)
    simp only [decide_true] at this
    exact this
  simp only [b17.sl.b2s, Mre_cons, Mre_nil, true_and, es, unV_not, Bool.not_true, Bool.not_false, Mif_bool, Mif_undef, pickV_bool, Mcd_bool, Mpu_some, if_true, if_false, Bool.false_eq_true, Bool.true_eq_false, decide_true, decide_false, reduceCtorEq, ex20, ex21, ex30, ex31, ex32, Mre_ok, Mre_nil]
  exact k06.trans (k16.trans k17)
end Go.Proofs.YtdmciknajaedmaaGreatDoor
/- anchor's laws: one call (step); the parts told apart by colours. -/
namespace Go.Proofs.YtdmciknajaedmaaGreatDoor
open Go.X Go.X.Diff
set_option maxRecDepth 100000

/-- a register of colour j -/
def RegC (col : Nat → Nat) (j p : Nat) (H : Heap) (r : Reg) : Prop := RegAt p H r ∧ col p = j
/-- a history of colour j; its items' rows, that copies share, are of colour 2 -/
def HistC (col : Nat → Nat) (j q : Nat) (H : Heap) (rs : List RecA) (ch : List (List UInt8)) : Prop :=
  ∃ Fr Fc Fi, HistAt q Fr Fc Fi H rs ch ∧ col q = j ∧ (∀ b, Fr b ∨ Fc b → col b = j) ∧ ∀ b, Fi b → col b = 2
section
variable {col col' : Nat → Nat} {K : Nat → Prop} {j p q : Nat} {h h' : Heap} {r : Reg} {rs : List RecA} {ch : List (List UInt8)}
theorem RegC.mv (a : RegC col j p h r) (m : Mv col col' K h h') (hj : ¬ K j) : RegC col' j p h' r := by
  have hp := lt_of a.1.1.choose_spec
  refine ⟨a.1.keep m.keep fun hS => ?_, (m.same _ hp).trans a.2⟩
  rcases hS with hS | hS
  · omega
  · exact hj (a.2 ▸ hS)
theorem HistC.mv (a : HistC col j q h rs ch) (m : Mv col col' K h h') (hj : ¬ K j) (h2 : ¬ K 2) : HistC col' j q h' rs ch := by
  obtain ⟨Fr, Fc, Fi, hh, c1, c2, c3⟩ := a
  have hlt := hh.lt
  have hc : ∀ b, HB q Fr Fc Fi b → col b = j ∨ col b = 2 := fun b hb => by
    rcases hb with rfl | hb | hb | hb
    · exact .inl c1
    · exact .inl (c2 b (.inl hb))
    · exact .inl (c2 b (.inr hb))
    · exact .inr (c3 b hb)
  refine ⟨Fr, Fc, Fi, hh.keep m.keep fun b hb hS => ?_, (m.same _ (hlt q (.inl rfl)).2).trans c1, fun b hb => ?_, fun b hb => (m.same _ (hlt b (.inr (.inr (.inr hb)))).2).trans (c3 b hb)⟩
  · have := (hlt b hb).2
    rcases hS with hS | hS
    · omega
    · rcases hc b hb with e | e
      · exact hj (e ▸ hS)
      · exact h2 (e ▸ hS)
  · refine (m.same _ (hlt b ?_).2).trans (c2 b hb)
    rcases hb with hb | hb
    · exact .inr (.inl hb)
    · exact .inr (.inr (.inl hb))
theorem RegC.pure (a : RegC col j p h r) (k : Keep (fun _ => False) h h') : RegC col j p h' r := a.mv (Mv.pure (K := fun _ => False) k) id
theorem HistC.pure (a : HistC col j q h rs ch) (k : Keep (fun _ => False) h h') : HistC col j q h' rs ch := a.mv (Mv.pure (K := fun _ => False) k) id id
/-- a block of its own is written to -/
theorem Mv.one {q : Nat} (kk : Keep (· = q) h h') (hq : q < h.size) (hK : K (col q)) : Mv col col K h h' := ⟨kk.mono fun b hb e => .inr (e ▸ hK), fun _ _ => rfl⟩
end

/- THE CALLS -/
structure OpA where
  kind : Int
  top : List UInt8
  rcd : RecA
  x : Value × Value
def opC (o : OpA) : List Value := .int .i64 o.kind :: bcells o.top ++ rawC o.rcd o.x
def OpIn (P : Nat → Prop) (H : Heap) (o : OpA) : Prop := o.top.length = 32 ∧ RawIn P H o.rcd o.x
theorem OpIn.keep {P S : Nat → Prop} {H H' : Heap} {o : OpA} (h : OpIn P H o) (k : Keep S H H') (hs : ∀ b, P b → ¬ S b) : OpIn P H' o := ⟨h.1, h.2.keep k hs⟩
theorem opC_len {P : Nat → Prop} {H : Heap} {o : OpA} (h : OpIn P H o) : (opC o).length = 69 := by
  have := rawC_len (x := o.x) h.2.1
  simp [opC, h.1, this]
theorem opC_one {P : Nat → Prop} {H : Heap} {o : OpA} (h : OpIn P H o) : ∀ c ∈ opC o, c.oneCell' = true := by
  intro c hc
  simp only [opC, List.cons_append, List.mem_cons, List.mem_append] at hc
  rcases hc with rfl | hc | hc
  · rfl
  · exact bcells_one c hc
  · exact rawC_one h.2 c hc
def Ops (P : Nat → Prop) (H : Heap) (v : Value) (l : List OpA) : Prop := SlE 69 P H v (l.map opC) ∧ ∀ o ∈ l, OpIn P H o
section
variable {P : Nat → Prop} {H : Heap} {v : Value} {l : List OpA}
theorem Ops.keep {S : Nat → Prop} {H' : Heap} (h : Ops P H v l) (k : Keep S H H') (hs : ∀ b, P b → ¬ S b) : Ops P H' v l := ⟨h.1.keep k hs, fun r hr => (h.2 r hr).keep k hs⟩
theorem Ops.len (h : Ops P H v l) : lenV v = some (.int .i64 l.length) := by have := h.1.len; simpa using this
theorem Ops.at (h : Ops P H v l) {i : Nat} {o : OpA} (hi : l[i]? = some o) : OpIn P H o ∧ ∃ b k, (∀ i', ixS 69 v (.int i' i) = some (Ptr b k)) ∧ Pt H b k (opC o) ∧ P b := by
  refine ⟨h.2 o (List.mem_of_getElem? hi), ?_⟩
  exact h.1.at (x := opC o) (by rw [List.getElem?_map, hi]; rfl)
end
theorem z_Op : ∃ z : List Value, zcells prg T_syngraphlaw23_Op = some z.toArray ∧ z.length = 69 := by
  have h : (match zcells prg T_syngraphlaw23_Op with | some z => z.size == 69 | none => false) = true := by kernel_rfl
  split at h
  · rename_i z hz; exact ⟨z.toList, by simp [hz], by simpa using h⟩
  · cases h
theorem new_op {h : Heap} {cs : List Value} (hl : cs.length = 69) (h1 : ∀ c ∈ cs, c.oneCell' = true) {k : Value → Heap → Prop}
    (hk : ∀ h', At h' h.size cs → Keep (fun _ => False) h h' → k (Ptr h.size 0) h') :
    Mnew h T_syngraphlaw23_Op (zcells prg T_syngraphlaw23_Op) fun t h6 => Mwr (stN 69 h6 t (.agg cs.toArray)) fun h7 => k t h7 := by
  obtain ⟨z, hz, hzl⟩ := z_Op
  rw [hz, Mnew_some]
  have a1 : At (h.push (.cells z.toArray T_syngraphlaw23_Op (0, 0))) h.size z := At.push
  obtain ⟨h', st, a2, k2⟩ := a1.st (n := 69) (ds := cs) hzl hl h1
  rw [show (Value.pointer (some ⟨h.size, 0, none⟩)) = Ptr h.size 0 from rfl, st, Mwr_some]
  exact hk _ a2 (Keep.push.fresh k2 fun b hb => by omega)
section
variable {H : Heap} {q : Nat} {P : Nat → Prop} {o : OpA}
theorem op_kind (a : At H q (opC o)) : ld1 H (Ptr q 0) = some (.int .i64 o.kind) := a.ld rfl
theorem op_top (a : At H q (opC o)) (h : OpIn P H o) : ldN 32 H (Ptr q 1) = some (bv o.top) :=
  ldN_mid (A := [.int .i64 o.kind]) (B := bcells o.top) (C := rawC o.rcd o.x) (by simpa [opC] using a.choose_spec) rfl (by simp [h.1])
theorem op_rec (a : At H q (opC o)) (h : OpIn P H o) : ldN 36 H (Ptr q 33) = some (.agg (rawC o.rcd o.x).toArray) :=
  ldN_mid (A := .int .i64 o.kind :: bcells o.top) (B := rawC o.rcd o.x) (C := []) (by simpa [opC] using a.choose_spec) (by simp [h.1]) (by rw [rawC_len h.2.1])
end

/- what a call comes to -/
def appB (rs : List RecA) (a : RecA) : Bool := appOk rs a && !decide (rs.length = 4096)
def appRs (rs : List RecA) (a : RecA) : List RecA := if appB rs a then rs ++ [a] else rs
def appCh (rs : List RecA) (ch : List (List UInt8)) (a : RecA) : List (List UInt8) := if appB rs a then ch ++ [chainF ch a] else ch
def stepR (r : Reg) (rs : List RecA) (ch : List (List UInt8)) (o : OpA) : Reg :=
  if o.kind = 1 then begR r (if appB rs o.rcd then chainF ch o.rcd else o.top)
  else if o.kind = 2 then endR r else if o.kind = 3 then canR r else if o.kind = 4 then setR r rs.length (topF ch) else r
def stepRs (rs : List RecA) (o : OpA) : List RecA := if o.kind = 6 then appRs rs o.rcd else rs
def stepCh (rs : List RecA) (ch : List (List UInt8)) (o : OpA) : List (List UInt8) := if o.kind = 6 then appCh rs ch o.rcd else ch

/-- what is appended to: of colour j -/
theorem c_AppendC {col : Nat → Nat} {n0 j q : Nat} {H0 H : Heap} {rs : List RecA} {ch : List (List UInt8)} {a : RecA} {x : Value × Value} (hc : HistC col j q H rs ch) (hn0 : n0 = H0.size) (kH : Keep (fun _ => False) H0 H) (inp : ∀ b, b < n0 → col b = 1) (hj1 : j ≠ 1) (hS : ShaT H0) (hT : PowT H0)
    (ha : RawIn (· < n0) H a x) (hs : smallB a.bef a.aft = true) :
    HCalls prg f_history_History_Append [Ptr q 0, .agg (rawC a x).toArray] H fun u H' => u = .int .i64 (if appOk rs a then (if rs.length = 4096 then 12 else 0) else 10) ∧
      ∃ col', Mv col col' (fun k => k = j) H H' ∧ HistC col' j q H' (appRs rs a) (appCh rs ch a) := by
  subst hn0
  obtain ⟨Fr, Fc, Fi, hh, c1, c2, c3⟩ := hc
  obtain ⟨r1, r2, r3⟩ := recB_small ha hs
  have hlt := hh.lt
  refine (c_AppendS hh (hS.keep kH fun _ h => h.elim) ha.2.1 ha.2.2.1 (fun b hb => ⟨Nat.lt_of_lt_of_le hb kH.1, fun hB => ?_⟩) ha.1 (hT.keep kH fun _ h => h.elim) (by omega) (by omega) (by omega)).mono fun u H' hR => ?_
  · have e := inp b hb
    rcases hB with rfl | hB | hB | hB
    · omega
    · have := c2 b (.inl hB); omega
    · have := c2 b (.inr hB); omega
    · have := c3 b hB; omega
  have stay : appB rs a = false → Keep (fun _ => False) H H' → ∃ col', Mv col col' (fun k => k = j) H H' ∧ HistC col' j q H' (appRs rs a) (appCh rs ch a) := fun hb k => by
    refine ⟨col, Mv.pure k, ?_⟩
    unfold appRs appCh
    rw [hb]
    exact HistC.pure ⟨Fr, Fc, Fi, hh, c1, c2, c3⟩ k
  rcases hR with ⟨h1, rfl, k⟩ | ⟨h1, h2, rfl, k⟩ | ⟨h1, h2, rfl, k, Fr', Fc', Fi', hh', x1, x2⟩
  · exact ⟨by rw [h1]; rfl, stay (by unfold appB; rw [h1]; rfl) k⟩
  · exact ⟨by rw [if_pos h1, if_pos h2], stay (by unfold appB; rw [h1, decide_eq_true h2]; rfl) k⟩
  · refine ⟨by rw [if_pos h1, if_neg h2], ?_⟩
    have hb : appB rs a = true := by unfold appB; rw [h1, decide_eq_false h2]; rfl
    classical
    let col' : Nat → Nat := fun b => if b < H.size then col b else if Fr' b ∨ Fc' b then j else 2
    have hold : ∀ b, b < H.size → col' b = col b := fun b hb => if_pos hb
    have hnew : ∀ b, H.size ≤ b → (Fr' b ∨ Fc' b) → col' b = j := fun b hb hF => by show (if b < H.size then _ else _) = _; rw [if_neg (by omega), if_pos hF]
    have hown := hh'.own
    refine ⟨col', ⟨k.mono fun b _ h => .inr ?_, hold⟩, ?_⟩
    · rcases h with rfl | h | h
      · exact c1
      · exact c2 b (.inl h)
      · exact c2 b (.inr h)
    · unfold appRs appCh
      rw [hb]
      refine ⟨Fr', Fc', Fi', hh', (hold q (hlt q (.inl rfl)).2).trans c1, fun b hF => ?_, fun b hF => ?_⟩
      · by_cases hlt' : b < H.size
        · rw [hold b hlt']
          rcases x1 b hF with h | h | h
          · exact c2 b (.inl h)
          · exact c2 b (.inr h)
          · omega
        · exact hnew b (by omega) hF
      · by_cases hlt' : b < H.size
        · rw [hold b hlt']
          rcases x2 b hF with h | h
          · exact c3 b h
          · omega
        · show (if b < H.size then _ else _) = _
          rw [if_neg hlt', if_neg]
          rintro (h | h)
          · exact ((hown b).1 h).2.2.2.2 hF
          · exact ((hown b).2.1 h).2.2.2 hF

theorem topF_snoc {ch : List (List UInt8)} {c : List UInt8} : topF (ch ++ [c]) = c := by unfold topF; simp

theorem c_step {col : Nat → Nat} {n0 jr jx jh p q hq : Nat} {H0 H : Heap} {r : Reg} {rs : List RecA} {ch : List (List UInt8)} {o : OpA} (hr : RegC col jr p H r) (hx : RegC col jx q H r) (hh : HistC col jh hq H rs ch)
    (d1 : jr ≠ jx) (d2 : jr ≠ jh) (d3 : jx ≠ jh) (g1 : 2 < jr) (g2 : 2 < jx) (g3 : 2 < jh)
    (hn0 : n0 = H0.size) (kH : Keep (fun _ => False) H0 H) (inp : ∀ b, b < n0 → col b = 1) (hS : ShaT H0) (hT : PowT H0) (ho : OpIn (· < n0) H o) (hs : smallB o.rcd.bef o.rcd.aft = true) :
    HCalls prg f_syngraphlaw23_step [Ptr p 0, Ptr q 0, Ptr hq 0, .agg (opC o).toArray] H fun u H' => u = .bool true ∧
      ∃ col', Mv col col' (fun k => k = jr ∨ k = jx ∨ k = jh) H H' ∧ RegC col' jr p H' (stepR r rs ch o) ∧ RegC col' jx q H' (stepR r rs ch o) ∧ HistC col' jh hq H' (stepRs rs o) (stepCh rs ch o) := by
  apply sh_syngraphlaw23_step_calls
  unfold sh_syngraphlaw23_step
  rw [Cells_agg, Mnew_some]
  generalize hH1 : H.push (.cells (opC o).toArray T_syngraphlaw23_Op (0, 0)) = h1
  have k1 : Keep (fun _ => False) H h1 := by rw [← hH1]; exact Keep.push
  have a1 : At h1 H.size (opC o) := by rw [← hH1]; exact At.push
  have o1 := ho.keep k1 fun _ _ => id
  have r1 := hr.pure k1
  have x1 := hx.pure k1
  have hh1 := hh.pure k1
  have kH1 := kH.trans k1
  have np : p < H.size := lt_of hr.1.1.choose_spec
  have nq : q < H.size := lt_of hx.1.1.choose_spec
  have pq : p ≠ q := fun e => d1 (by rw [← hr.2, ← hx.2, e])
  have ei : ∀ x y : Int, binV .no .eql (.int .i64 x) (.int .i64 y) = some (.bool (decide (x = y))) := fun x y => by rw [binV_int]; simp only [intV]; congr 2
  have ei1 : ∀ x : Int, binV .no .eql (.int .i64 x) (.int .i64 x) = some (.bool true) := fun x => by rw [ei, decide_eq_true rfl]
  /- both registers were written to -/
  have fin : ∀ (r' : Reg) (g g' : Heap), Keep (fun _ => False) H g → Keep (fun b => b = p ∨ b = q) g g' → RegAt p g' r' → RegAt q g' r' → o.kind ≠ 6 → stepR r rs ch o = r' →
      ∃ col', Mv col col' (fun k => k = jr ∨ k = jx ∨ k = jh) H g' ∧ RegC col' jr p g' (stepR r rs ch o) ∧ RegC col' jx q g' (stepR r rs ch o) ∧ HistC col' jh hq g' (stepRs rs o) (stepCh rs ch o) := by
    rintro r' g g' kg kg' rp rq h6 rfl
    have kk : Keep (fun b => b = p ∨ b = q) H g' := (kg.mono fun _ _ h => h.elim).trans kg'
    have m : Mv col col (fun k => k = jr ∨ k = jx) H g' := ⟨kk.mono fun b _ e => .inr (by
      rcases e with rfl | rfl
      · exact .inl hr.2
      · exact .inr hx.2), fun _ _ => rfl⟩
    refine ⟨col, m.mono fun j h => by rcases h with h | h <;> simp [h], ⟨rp, hr.2⟩, ⟨rq, hx.2⟩, ?_⟩
    unfold stepRs stepCh
    rw [if_neg h6, if_neg h6]
    exact hh.mv m (by omega) (by omega)
  refine J0_i (fun h => ∃ col', Mv col col' (fun k => k = jr ∨ k = jx ∨ k = jh) H h ∧ RegC col' jr p h (stepR r rs ch o) ∧ RegC col' jx q h (stepR r rs ch o) ∧ HistC col' jh hq h (stepRs rs o) (stepCh rs ch o)) (fun k hk => ?_) ?_
  rotate_left
  · intro h hx; exact ⟨rfl, hx⟩
  have fl : ∀ i, fld i (Value.pointer (some ⟨H.size, 0, none⟩)) = some (Ptr H.size i) := fun i => by show some _ = _; rw [Nat.zero_add]
  simp only [fl, Mpu_some, op_kind a1, ei, Mcd_bool, decide_eq_true_eq]
  by_cases e1 : o.kind = 1
  · rw [if_pos e1]
    obtain ⟨Fr, Fc, Fi, hat, c1, c2, c3⟩ := id hh1
    refine call_i (c_HistCopy hat) ?_
    rintro _ h4 ⟨k4, p', Fr', Fc', rfl, np', hat4, hnew⟩
    have a4 := a1.keep k4 id
    have o4 := o1.keep k4 fun _ _ => id
    rw [op_top a4 o4, Mpu_some]
    obtain ⟨z, hz⟩ : ∃ z, z = zeroH := ⟨_, rfl⟩
    have zH : zcells prg T_sha_Hash = some (bcells zeroH).toArray := z_Hash
    rw [zH, Mnew_some]
    generalize hH5 : h4.push (.cells (bcells zeroH).toArray T_sha_Hash (0, 0)) = h5
    have k5 : Keep (fun _ => False) h4 h5 := by rw [← hH5]; exact Keep.push
    have a5 : At h5 h4.size (bcells zeroH) := by rw [← hH5]; exact At.push
    obtain ⟨h6, st6, a6, k6⟩ := a5.st (n := 32) (ds := bcells o.top) (by simp [zeroH]) (by simp [o1.1]) bcells_one
    have hbv : (bv o.top) = .agg (bcells o.top).toArray := rfl
    rw [show (Value.pointer (some ⟨h4.size, 0, none⟩)) = Ptr h4.size 0 from rfl, hbv, st6, Mwr_some]
    have k46 : Keep (fun _ => False) h4 h6 := k5.fresh k6 fun b hb => by omega
    have k16 := k4.trans k46
    have kH6 := kH1.trans k16
    have hat6 := hat4.keep k46 fun _ _ => id
    have o6 := o1.keep k16 fun _ _ => id
    have s4 := k4.1
    have s46 := k46.1
    have q4 := (hat4.lt p' (.inl rfl)).2
    have n0H : n0 ≤ H.size := by rw [hn0]; exact kH.1
    have sH1 := k1.1
    obtain ⟨b1, b2, b3⟩ := recB_small o6.2 hs
    have hown := hat4.own
    refine J0_i (fun h => At h h4.size (bcells (if appB rs o.rcd then chainF ch o.rcd else o.top)) ∧ Keep (fun _ => False) H h) (fun k' hk' => ?_) ?_
    · rw [op_rec (a1.keep k16 id) o6, Mpu_some]
      refine call_i (c_AppendS hat6 (hS.keep kH6 fun _ h => h.elim) o6.2.2.1 o6.2.2.2.1 (fun b hb => ⟨by omega, fun hB => ?_⟩) o6.2.1 (hT.keep kH6 fun _ h => h.elim) (by omega) (by omega) (by omega)) ?_
      · have e := inp b hb
        rcases hB with rfl | hB | hB | hB
        · omega
        · have := hnew b (.inl hB); omega
        · have := hnew b (.inr hB); omega
        · have := c3 b hB; omega
      rintro u h9 hR
      have f36 := k1.trans k16
      rcases hR with ⟨h1', rfl, k9⟩ | ⟨h1', h2', rfl, k9⟩ | ⟨h1', h2', rfl, k9, Fr9, Fc9, Fi9, hat9, y1, y2⟩
      · have hb : appB rs o.rcd = false := by unfold appB; rw [h1']; rfl
        rw [ei, Mpu_some, Mcd_bool, if_neg (by decide)]
        refine hk' _ ⟨?_, f36.trans k9⟩
        rw [hb]; exact a6.keep k9 id
      · have hb : appB rs o.rcd = false := by unfold appB; rw [h1', decide_eq_true h2']; rfl
        rw [ei, Mpu_some, Mcd_bool, if_neg (by decide)]
        refine hk' _ ⟨?_, f36.trans k9⟩
        rw [hb]; exact a6.keep k9 id
      · have hb : appB rs o.rcd = true := by unfold appB; rw [h1', decide_eq_false h2']; rfl
        rw [ei, Mpu_some, Mcd_bool, if_pos (by decide)]
        have nS : ∀ b, (b = p' ∨ Fr' b ∨ Fc' b) → H.size ≤ b ∧ b < h4.size := fun b hb => by
          rcases hb with rfl | hb | hb
          · omega
          · have := hnew b (.inl hb); have := ((hown b).1 hb).2.1; omega
          · have := hnew b (.inr hb); have := ((hown b).2.1 hb).2.1; omega
        have a9 := a6.keep k9 fun hS => by have := (nS _ hS).2; omega
        refine call_i (c_HistTop hat9) ?_
        rintro _ h10 ⟨rfl, k10⟩
        have htop : topF (ch ++ [chainF ch o.rcd]) = chainF ch o.rcd := topF_snoc
        have h32 := hat9.top32
        obtain ⟨h11, st11, a11, k11⟩ := (a9.keep k10 id).st (n := 32) (ds := bcells (topF (ch ++ [chainF ch o.rcd]))) (by simp [o1.1]) (by simp [h32]) bcells_one
        have hbv : (bv (topF (ch ++ [chainF ch o.rcd]))) = .agg (bcells (topF (ch ++ [chainF ch o.rcd]))).toArray := rfl
        rw [hbv, st11, Mwr_some]
        refine hk' _ ⟨?_, ?_⟩
        · rw [hb, if_pos rfl, ← htop]; exact a11
        · exact ((f36.fresh k9 fun b hb => (nS b hb).1).trans k10).fresh k11 fun b hb => by omega
    · rintro h8 ⟨a8, k8⟩
      generalize ht : (if appB rs o.rcd then chainF ch o.rcd else o.top) = tp at a8
      have htl : tp.length = 32 := by
        rw [← ht]
        split
        · exact shaF_len
        · exact o1.1
      have l8 : ∀ {g}, Keep (· = p) h8 g → ldN 32 g (Ptr h4.size 0) = some (bv tp) := fun k => (a8.keep k (by omega)).ldN (by simp [htl])
      rw [l8 Keep.refl]
      simp only [Mpu_some]
      refine call_i (c_Begin (hr.1.keep k8 id) htl) ?_
      rintro _ h12 ⟨rfl, r12, k12⟩
      simp only [l8 k12, Mre_cons, Mre_nil, true_and]
      refine call_i (c_refBegin ((hx.1.keep k8 id).keep k12 (fun e => pq e.symm)) htl) ?_
      rintro _ h13 ⟨rfl, x13, k13⟩
      rw [ei1, Mpu_some]
      exact ⟨rfl, fin (begR r tp) h8 h13 k8 ((k12.mono fun _ _ h => .inl h).trans (k13.mono fun _ _ h => .inr h)) (r12.keep k13 pq) x13 (by omega) (by unfold stepR; rw [if_pos e1, ht])⟩
  rw [if_neg e1]
  by_cases e2 : o.kind = 2
  · rw [if_pos e2]
    refine call_i (c_End r1.1) ?_
    rintro _ h14 ⟨rfl, r14, k14⟩
    refine call_i (c_refFinish (b := true) (x1.1.keep k14 (fun e => pq e.symm))) ?_
    rintro _ h15 ⟨rfl, x15, k15⟩
    rw [ei1, Mpu_some]
    exact ⟨rfl, fin (endR r) h1 h15 k1 ((k14.mono fun _ _ h => .inl h).trans (k15.mono fun _ _ h => .inr h)) (r14.keep k15 pq) x15 (by omega) (by unfold stepR; rw [if_neg e1, if_pos e2])⟩
  rw [if_neg e2]
  by_cases e3 : o.kind = 3
  · rw [if_pos e3]
    refine call_i (c_Cancel r1.1) ?_
    rintro _ h14 ⟨rfl, r14, k14⟩
    refine call_i (c_refFinish (b := false) (x1.1.keep k14 (fun e => pq e.symm))) ?_
    rintro _ h15 ⟨rfl, x15, k15⟩
    rw [ei1, Mpu_some]
    exact ⟨rfl, fin (canR r) h1 h15 k1 ((k14.mono fun _ _ h => .inl h).trans (k15.mono fun _ _ h => .inr h)) (r14.keep k15 pq) x15 (by omega) (by unfold stepR; rw [if_neg e1, if_neg e2, if_pos e3])⟩
  rw [if_neg e3]
  by_cases e4 : o.kind = 4
  · rw [if_pos e4]
    obtain ⟨Fr, Fc, Fi, hat, c1, c2, c3⟩ := id hh1
    have hpB : ¬ HB hq Fr Fc Fi p := fun hB => by
      have := hr.2
      rcases hB with rfl | hB | hB | hB
      · omega
      · have := c2 _ (.inl hB); omega
      · have := c2 _ (.inr hB); omega
      · have := c3 _ hB; omega
    have hqB : ∀ b, HB hq Fr Fc Fi b → b ≠ p := fun b hB e => hpB (e ▸ hB)
    refine call_i (c_Settle r1.1 hat hpB) ?_
    rintro _ h18 ⟨rfl, r18, k18⟩
    have hat18 := hat.keep k18 hqB
    refine call_i (c_lawOf hat18) ?_
    rintro _ h19 ⟨rfl, k19⟩
    have k1819 : Keep (· = p) h1 h19 := k18.trans (k19.mono fun _ _ h => h.elim)
    refine call_i (c_refSettle (x1.1.keep k1819 (fun e => pq e.symm)) hat.top32) ?_
    rintro _ h20 ⟨rfl, x20, k20⟩
    rw [ei1, Mpu_some]
    exact ⟨rfl, fin (setR r rs.length (topF ch)) h1 h20 k1 ((k1819.mono fun _ _ h => .inl h).trans (k20.mono fun _ _ h => .inr h)) ((r18.keep k19 id).keep k20 pq) x20 (by omega) (by unfold stepR; rw [if_neg e1, if_neg e2, if_neg e3, if_pos e4])⟩
  rw [if_neg e4]
  by_cases e5 : o.kind = 5
  · rw [if_pos e5]
    obtain ⟨Fr, Fc, Fi, hat, c1, c2, c3⟩ := id hh1
    refine J1_i (fun u h => u = .int .i64 (if isM r rs.length (topF ch) then 0 else 33) ∧ Keep (fun _ => False) h1 h) (fun k' hk' => ?_) ?_
    · simp only [nck_ptr, fld_ptr, Nat.zero_add, Mpu_some, x1.1.ld_mark]
      refine call_i (c_lawOf hat) ?_
      rintro _ h23 ⟨rfl, k23⟩
      have x23 := x1.1.keep k23 id
      simp only [x23.ld_mark, Mre_cons, Mre_nil, true_and, q_rMark, neMark hat.top32 x1.1.2.1, Mpu_some, Mcd_bool]
      have e : (decide ((rs.length : Int) = r.n) && decide (topF ch = r.top)) = isM r rs.length (topF ch) := rfl
      rw [e]
      cases hm : isM r rs.length (topF ch)
      · rw [Bool.not_false, if_pos rfl]; exact hk' _ _ ⟨by rw [hm]; rfl, k23⟩
      · rw [Bool.not_true, if_neg (by decide)]; exact hk' _ _ ⟨by rw [hm]; rfl, k23⟩
    rintro _ h22 ⟨rfl, k22⟩
    refine call_i (c_AuditH (r1.1.keep k22 id) (hat.keep k22 fun _ _ => id)) ?_
    rintro _ h24 ⟨rfl, k24⟩
    rw [ei1, Mpu_some]
    have kk := k1.trans (k22.trans k24)
    exact ⟨rfl, fin r h24 h24 kk Keep.refl (hr.1.keep kk id) (hx.1.keep kk id) (by omega) (by unfold stepR; rw [if_neg e1, if_neg e2, if_neg e3, if_neg e4])⟩
  rw [if_neg e5]
  by_cases e6 : o.kind = 6
  · rw [if_pos e6, op_rec a1 o1, Mpu_some]
    refine call_i (c_AppendC hh1 hn0 kH1 inp (by omega) hS hT o1.2 hs) ?_
    rintro u h25 ⟨_, col', m, hc⟩
    have m2 : Mv col col' (fun k => k = jh) H h25 := (Mv.pure k1 (col := col) (K := fun k => k = jh)).trans m
    refine hk _ ⟨col', m2.mono fun j h => .inr (.inr h), ?_, ?_, ?_⟩
    · have : stepR r rs ch o = r := by unfold stepR; rw [if_neg e1, if_neg e2, if_neg e3, if_neg e4]
      rw [this]; exact hr.mv m2 (by omega)
    · have : stepR r rs ch o = r := by unfold stepR; rw [if_neg e1, if_neg e2, if_neg e3, if_neg e4]
      rw [this]; exact hx.mv m2 (by omega)
    · unfold stepRs stepCh
      rw [if_pos e6, if_pos e6]
      exact hc
  · rw [if_neg e6]
    refine hk _ (fin r h1 h1 k1 Keep.refl r1.1 x1.1 e6 (by unfold stepR; rw [if_neg e1, if_neg e2, if_neg e3, if_neg e4]))
end Go.Proofs.YtdmciknajaedmaaGreatDoor
