/- JOINED: V100 V101 V102 -/
import Derived.Test.YtdmciknajaedmaaDoorGJ
import Derived.Test.YtdmciknajaedmaaDoorGZ
set_option linter.unusedSimpArgs false
set_option linter.unusedVariables false
/- anchor: the register, beside any history. -/
namespace Go.Proofs.YtdmciknajaedmaaDoor
open Go.X
set_option maxRecDepth 100000

/-- a mark as a value -/
def mk (n : Int) (l : List UInt8) : Value := .agg (.int .i64 n :: bcells l).toArray
@[simp] theorem cells_mk {n : Int} {l : List UInt8} : (mk n l).cells = (.int .i64 n :: bcells l).toArray := rfl
theorem z_Mark : zcells prg T_anchor_Mark = some (.int .i64 0 :: bcells zeroH).toArray := by kernel_rfl
theorem k_Mark : structK prg T_anchor_Mark = some ([(0, 1), (1, 32)], (.int .i64 0 :: bcells zeroH).toArray) := by kernel_rfl
theorem q_Mark : eqK prg T_anchor_Mark = .flat (List.replicate 33 0) := by kernel_rfl
theorem bld_Mark0 : buildV prg T_anchor_Mark [] = some (mk 0 zeroH) := by kernel_rfl
theorem bld_Mark1 {n : Int} : buildV prg T_anchor_Mark [(0, .int .i64 n)] = some (mk n zeroH) := by kernel_rfl
theorem bld_Mark {n : Int} {l : List UInt8} (h : l.length = 32) : buildV prg T_anchor_Mark [(0, .int .i64 n), (1, bv l)] = some (mk n l) := by
  rw [buildV_of k_Mark, bfill_cons (off := 0) (n := 1) rfl rfl (by simp), bfill_cons (off := 1) (n := 32) rfl (by simp [h]) (by simp [spl, zeroH]; omega), bfill_nil]
  have h1 : spl (.int .i64 0 :: bcells zeroH).toArray 0 (Value.cells (.int .i64 n)) = (.int .i64 n :: bcells zeroH).toArray := rfl
  have h2 := spl_mid (A := [.int .i64 n]) (B := bcells zeroH) (C := []) (B' := bcells l) (o := 1) rfl (by simp [h, zeroH])
  rw [h1, cells_bv]
  simp only [List.append_nil, List.singleton_append] at h2
  rw [h2]; rfl
theorem eq_Mark {a b : Int} {l m : List UInt8} (hl : l.length = 32) (hm : m.length = 32) : eqV (eqK prg T_anchor_Mark) (mk a l) (mk b m) = some (decide (a = b) && decide (l = m)) := by
  rw [q_Mark]
  show eqCells (0 :: List.replicate 32 0) (.int .i64 a :: bcells l) (.int .i64 b :: bcells m) = _
  have := eqCells_bytes (l := l) (m := m) (by omega)
  rw [hl] at this
  simp only [eqCells, this, eqCell, if_true]
  congr 1

structure Reg where
  n : Int
  top : List UInt8
  nn : Int
  ntop : List UInt8
  busy : Bool
def regC (r : Reg) : List Value := (.int .i64 r.n :: bcells r.top) ++ (.int .i64 r.nn :: bcells r.ntop) ++ [.bool r.busy]
def RegAt (p : Nat) (H : Heap) (r : Reg) : Prop := (∃ T, H[p]? = some (.cells (regC r).toArray T (0, 0))) ∧ r.top.length = 32 ∧ r.ntop.length = 32
theorem RegAt.keep {S : Nat → Prop} {p : Nat} {H H' : Heap} {r : Reg} (h : RegAt p H r) (k : Keep S H H') (hs : ¬ S p) : RegAt p H' r := ⟨⟨_, k.at h.1.choose_spec hs⟩, h.2⟩

section
variable {p : Nat} {H : Heap} {r : Reg}
theorem RegAt.ld_n (h : RegAt p H r) : ld1 H (Ptr p 0) = some (.int .i64 r.n) := ld1_mid (A := []) (C := bcells r.top ++ (.int .i64 r.nn :: bcells r.ntop) ++ [.bool r.busy]) (by simpa [regC] using h.1.choose_spec) rfl
theorem RegAt.ld_top (h : RegAt p H r) : ldN 32 H (Ptr p 1) = some (bv r.top) := ldN_mid (A := [.int .i64 r.n]) (B := bcells r.top) (C := (.int .i64 r.nn :: bcells r.ntop) ++ [.bool r.busy]) (by simpa [regC] using h.1.choose_spec) rfl (by simp [h.2.1])
theorem RegAt.ld_mark (h : RegAt p H r) : ldN 33 H (Ptr p 0) = some (mk r.n r.top) := ldN_mid (A := []) (B := .int .i64 r.n :: bcells r.top) (C := (.int .i64 r.nn :: bcells r.ntop) ++ [.bool r.busy]) (by simpa [regC] using h.1.choose_spec) rfl (by simp [h.2.1])
theorem RegAt.ld_next (h : RegAt p H r) : ldN 33 H (Ptr p 33) = some (mk r.nn r.ntop) := ldN_mid (A := .int .i64 r.n :: bcells r.top) (B := .int .i64 r.nn :: bcells r.ntop) (C := [.bool r.busy]) (by simpa [regC] using h.1.choose_spec) (by simp [h.2.1]) (by simp [h.2.2])
theorem RegAt.ld_ntop (h : RegAt p H r) : ldN 32 H (Ptr p 34) = some (bv r.ntop) := ldN_mid (A := .int .i64 r.n :: bcells r.top ++ [.int .i64 r.nn]) (B := bcells r.ntop) (C := [.bool r.busy]) (by simpa [regC] using h.1.choose_spec) (by simp [h.2.1]) (by simp [h.2.2])
theorem RegAt.ld_busy (h : RegAt p H r) : ld1 H (Ptr p 66) = some (.bool r.busy) := ld1_mid (A := .int .i64 r.n :: bcells r.top ++ (.int .i64 r.nn :: bcells r.ntop)) (C := []) (by simpa [regC] using h.1.choose_spec) (by simp [h.2.1, h.2.2])

theorem RegAt.st_top (h : RegAt p H r) {l : List UInt8} (hl : l.length = 32) : ∃ H', stN 32 H (Ptr p 1) (bv l) = some H' ∧ RegAt p H' { r with top := l } ∧ Keep (· = p) H H' := by
  refine ⟨_, stN_mid (A := [.int .i64 r.n]) (B := bcells r.top) (C := (.int .i64 r.nn :: bcells r.ntop) ++ [.bool r.busy]) (B' := bcells l) (by simpa [regC] using h.1.choose_spec) rfl (by simp [h.2.1]) (by simp [hl]) bcells_all, ⟨⟨h.1.choose, ?_⟩, hl, h.2.2⟩, Keep.set rfl⟩
  rw [set_self h.1.choose_spec]; simp [regC]
theorem all_mk {n : Int} {l : List UInt8} : (Value.int .i64 n :: bcells l).toArray.all (·.oneCell') = true := by
  rw [Array.all_eq_true_iff_forall_mem]; intro v hv
  simp only [List.mem_toArray, List.mem_cons] at hv
  rcases hv with rfl | hv
  · rfl
  · exact bcells_one v hv
theorem RegAt.st_mark (h : RegAt p H r) {n : Int} {l : List UInt8} (hl : l.length = 32) : ∃ H', stN 33 H (Ptr p 0) (mk n l) = some H' ∧ RegAt p H' { r with n := n, top := l } ∧ Keep (· = p) H H' := by
  refine ⟨_, stN_mid (A := []) (B := .int .i64 r.n :: bcells r.top) (C := (.int .i64 r.nn :: bcells r.ntop) ++ [.bool r.busy]) (B' := .int .i64 n :: bcells l) (by simpa [regC] using h.1.choose_spec) rfl (by simp [h.2.1]) (by simp [hl]) all_mk, ⟨⟨h.1.choose, ?_⟩, hl, h.2.2⟩, Keep.set rfl⟩
  rw [set_self h.1.choose_spec]; simp [regC]
theorem RegAt.st_next (h : RegAt p H r) {n : Int} {l : List UInt8} (hl : l.length = 32) : ∃ H', stN 33 H (Ptr p 33) (mk n l) = some H' ∧ RegAt p H' { r with nn := n, ntop := l } ∧ Keep (· = p) H H' := by
  refine ⟨_, stN_mid (A := .int .i64 r.n :: bcells r.top) (B := .int .i64 r.nn :: bcells r.ntop) (C := [.bool r.busy]) (B' := .int .i64 n :: bcells l) (by simpa [regC] using h.1.choose_spec) (by simp [h.2.1]) (by simp [h.2.2]) (by simp [hl]) all_mk, ⟨⟨h.1.choose, ?_⟩, h.2.1, hl⟩, Keep.set rfl⟩
  rw [set_self h.1.choose_spec]; simp [regC]
theorem RegAt.st_busy (h : RegAt p H r) (b : Bool) : ∃ H', st1 H (Ptr p 66) (.bool b) = some H' ∧ RegAt p H' { r with busy := b } ∧ Keep (· = p) H H' := by
  refine ⟨_, st1_mid (A := .int .i64 r.n :: bcells r.top ++ (.int .i64 r.nn :: bcells r.ntop)) (C := []) (v := .bool r.busy) (by simpa [regC] using h.1.choose_spec) (by simp [h.2.1, h.2.2]) rfl, ⟨⟨h.1.choose, ?_⟩, h.2⟩, Keep.set rfl⟩
  rw [set_self h.1.choose_spec]; simp [regC]
end

theorem bld_Reg0 : buildV prg T_anchor_Register [] = some (.agg (regC ⟨0, zeroH, 0, zeroH, false⟩).toArray) := by kernel_rfl
theorem bld_Reg {n : Int} : buildV prg T_anchor_Register [(0, mk n zeroH)] = some (.agg (regC ⟨n, zeroH, 0, zeroH, false⟩).toArray) := by kernel_rfl

theorem c_RegNew {H : Heap} : HCalls prg f_anchor_New [] H fun u H' => u = Ptr H.size 0 ∧ RegAt H.size H' ⟨0, zeroH, 0, zeroH, false⟩ ∧ Keep (fun _ => False) H H' := by
  apply sh_anchor_New_calls
  unfold sh_anchor_New
  simp only [bld_Reg0, Mpu_some, Mnew_some, Cells_agg]
  exact ⟨trivial, ⟨⟨_, push_new⟩, rfl, rfl⟩, Keep.push⟩

theorem c_over {p : Nat} {H : Heap} {r : Reg} (h : RegAt p H r) : HCalls prg f_anchor_Register_over [Ptr p 0] H fun u H' => u = .tuple #[] ∧ RegAt p H' ⟨r.n, r.top, 0, zeroH, false⟩ ∧ Keep (· = p) H H' := by
  apply sh_anchor_Register_over_calls
  unfold sh_anchor_Register_over
  obtain ⟨h1, e1, r1, k1⟩ := h.st_next (n := 0) (l := zeroH) rfl
  obtain ⟨h2, e2, r2, k2⟩ := r1.st_busy false
  simp only [nck_ptr, fld_ptr, Mpu_some, Nat.zero_add, bld_Mark0, e1, Mwr_some, e2]
  exact ⟨trivial, r2, k1.trans k2⟩

def begR (r : Reg) (l : List UInt8) : Reg := if r.busy then r else { r with nn := IntKind.i64.wrap (r.n + 1), ntop := l, busy := true }
theorem c_Begin {p : Nat} {H : Heap} {r : Reg} {l : List UInt8} (h : RegAt p H r) (hl : l.length = 32) : HCalls prg f_anchor_Register_Begin [Ptr p 0, bv l] H fun u H' => u = .int .i64 (if r.busy then 50 else 0) ∧ RegAt p H' (begR r l) ∧ Keep (· = p) H H' := by
  apply sh_anchor_Register_Begin_calls
  unfold sh_anchor_Register_Begin
  have kp : Keep (· = p) H (H.push (.cells (bcells l).toArray T_sha_Hash (0, 0))) := Keep.push
  have hp : p < H.size := lt_of h.1.choose_spec
  have r0 : RegAt p (H.push (.cells (bcells l).toArray T_sha_Hash (0, 0))) r := h.keep (S := fun _ => False) Keep.push id
  simp only [Mnew_some, cells_bv, nck_ptr, fld_ptr, Mpu_some, Nat.zero_add, r0.ld_busy, Mcd_bool, r0.ld_n, binV_int, intV, ldN_bytes push_new hl, bld_Mark hl]
  cases hb : r.busy
  · obtain ⟨h1, e1, r1, k1⟩ := r0.st_next (n := IntKind.i64.wrap (r.n + 1)) (l := l) hl
    obtain ⟨h2, e2, r2, k2⟩ := r1.st_busy true
    simp only [e1, Mwr_some, e2, Bool.false_eq_true, if_false]
    refine ⟨trivial, ?_, kp.trans (k1.trans k2)⟩
    rw [begR, hb]; exact r2
  · simp only [if_true]
    refine ⟨trivial, ?_, kp⟩
    rw [begR, if_pos hb]; exact r0

def endR (r : Reg) : Reg := if r.busy then ⟨r.nn, r.ntop, 0, zeroH, false⟩ else r
theorem c_End {p : Nat} {H : Heap} {r : Reg} (h : RegAt p H r) : HCalls prg f_anchor_Register_End [Ptr p 0] H fun u H' => u = .int .i64 (if r.busy then 0 else 14) ∧ RegAt p H' (endR r) ∧ Keep (· = p) H H' := by
  apply sh_anchor_Register_End_calls
  unfold sh_anchor_Register_End
  obtain ⟨h1, e1, r1, k1⟩ := h.st_mark (n := r.nn) (l := r.ntop) h.2.2
  simp only [nck_ptr, fld_ptr, Mpu_some, Nat.zero_add, h.ld_busy, unV_not, Mcd_bool, h.ld_next, e1, Mwr_some]
  cases hb : r.busy
  · simp only [Bool.not_false, if_true, Bool.false_eq_true, if_false]
    exact ⟨trivial, by rw [endR, hb]; exact h, Keep.refl⟩
  · simp only [Bool.not_true, if_true, Bool.false_eq_true, if_false]
    refine call_i (c_over r1) ?_
    rintro u h2 ⟨_, r2, k2⟩
    exact ⟨trivial, by rw [endR, if_pos hb]; exact r2, k1.trans k2⟩

theorem stN_mk {H : Heap} {b : Nat} {n m : Int} {l k : List UInt8} {T : TypeId} (h : H[b]? = some (.cells (.int .i64 n :: bcells l).toArray T (0, 0))) (hl : l.length = 32) (hk : k.length = 32) : stN 33 H (Ptr b 0) (mk m k) = some (H.setIfInBounds b (.cells (.int .i64 m :: bcells k).toArray T (0, 0))) := by
  have := stN_mid (b := b) (n := 33) (o := 0) (A := []) (B := .int .i64 n :: bcells l) (C := []) (B' := .int .i64 m :: bcells k) (T := T) (by simpa using h) rfl (by simp [hl]) (by simp [hk]) all_mk
  simpa [mk] using this
theorem ldN_mk {H : Heap} {b : Nat} {n : Int} {l : List UInt8} {T : TypeId} {f : Nat × Nat} (h : H[b]? = some (.cells (.int .i64 n :: bcells l).toArray T f)) (hl : l.length = 32) : ldN 33 H (Ptr b 0) = some (mk n l) :=
  ldN_mid (A := []) (B := .int .i64 n :: bcells l) (C := []) (by simpa using h) rfl (by simp [hl])

theorem c_Mark {p : Nat} {H : Heap} {r : Reg} (h : RegAt p H r) : HCalls prg f_anchor_Register_Mark [Ptr p 0] H fun u H' => u = mk r.n r.top ∧ Keep (fun _ => False) H H' := by
  apply sh_anchor_Register_Mark_calls
  unfold sh_anchor_Register_Mark
  have r0 : RegAt p (H.push (.cells (.int .i64 0 :: bcells zeroH).toArray T_anchor_Mark (0, 0))) r := h.keep (S := fun _ => False) Keep.push id
  simp only [z_Mark, Mnew_some, nck_ptr, fld_ptr, Mpu_some, Nat.zero_add, r0.ld_mark, stN_mk push_new (l := zeroH) rfl h.2.1, Mwr_some, ldN_mk (set_self push_new) h.2.1]
  refine ⟨trivial, by simp, fun i hi _ => ?_⟩
  rw [Array.getElem?_setIfInBounds, if_neg (by omega), Array.getElem?_push, if_neg (by omega)]

def regB (r : Reg) : List UInt8 := numB r.n 8 ++ r.top ++ [if r.busy then 1 else 0] ++ if r.busy then r.ntop else []
/- a mark of a history -/
theorem c_Of {q : Nat} {Fr Fc Fi : Nat → Prop} {H : Heap} {rs : List RecA} {ch : List (List UInt8)} (h : HistAt q Fr Fc Fi H rs ch) : HCalls prg f_anchor_Of [Ptr q 0] H fun u H' => u = mk rs.length (topF ch) ∧ Keep (fun _ => False) H H' := by
  apply sh_anchor_Of_calls
  unfold sh_anchor_Of
  have kp : Keep (fun _ => False) H (H.push (.cells (.int .i64 0 :: bcells zeroH).toArray T_anchor_Mark (0, 0))) := Keep.push
  have h' := h.keep kp fun _ _ => id
  have ht := topF_len h.c32
  simp only [z_Mark, Mnew_some]
  refine call_i (c_HistLen h') ?_
  rintro _ _ ⟨rfl, rfl⟩
  refine call_i (c_HistTop h') ?_
  rintro _ h3 ⟨rfl, k3⟩
  have hb := k3.at push_new id
  simp only [bld_Mark ht, Mpu_some, stN_mk hb (l := zeroH) rfl ht, Mwr_some, ldN_mk (set_self hb) ht]
  have := k3.1
  simp at this
  refine ⟨trivial, by simp; omega, fun i hi _ => ?_⟩
  rw [Array.getElem?_setIfInBounds, if_neg (by omega), k3.2 i (by simp; omega) id, Array.getElem?_push, if_neg (by omega)]
theorem eqMark {a b : Int} {l m : List UInt8} (hl : l.length = 32) (hm : m.length = 32) : binV (eqK prg T_anchor_Mark) .eql (mk a l) (mk b m) = some (.bool (decide (a = b) && decide (l = m))) := by
  have e : binV (eqK prg T_anchor_Mark) .eql (mk a l) (mk b m) = _ := binV_agg_eq
  have e2 := eq_Mark (a := a) (b := b) hl hm
  unfold mk at e2
  rw [e, e2]; rfl
theorem neMark {a b : Int} {l m : List UInt8} (hl : l.length = 32) (hm : m.length = 32) : binV (eqK prg T_anchor_Mark) .neq (mk a l) (mk b m) = some (.bool (!(decide (a = b) && decide (l = m)))) := by
  have e : binV (eqK prg T_anchor_Mark) .neq (mk a l) (mk b m) = _ := binV_agg_ne
  have e2 := eq_Mark (a := a) (b := b) hl hm
  unfold mk at e2
  rw [e, e2]; rfl
end Go.Proofs.YtdmciknajaedmaaDoor
/- anchor: the rest of the register; the document's register; copies. -/
namespace Go.Proofs.YtdmciknajaedmaaDoor
open Go.X Go.X.Diff
set_option maxRecDepth 100000

section
variable {p q : Nat} {Fr Fc Fi : Nat → Prop} {H : Heap} {r : Reg} {rs : List RecA} {ch : List (List UInt8)}
theorem HistAt.top32 (h : HistAt q Fr Fc Fi H rs ch) : (topF ch).length = 32 := topF_len h.c32
def isM (r : Reg) (n : Int) (l : List UInt8) : Bool := decide (n = r.n) && decide (l = r.top)
def isN (r : Reg) (n : Int) (l : List UInt8) : Bool := decide (n = r.nn) && decide (l = r.ntop)

theorem RegAt.ld_nn (h : RegAt p H r) : ld1 H (Ptr p 33) = some (.int .i64 r.nn) := ld1_mid (A := .int .i64 r.n :: bcells r.top) (C := bcells r.ntop ++ [.bool r.busy]) (by simpa [regC] using h.1.choose_spec) (by simp [h.2.1])
theorem c_AuditH (h : RegAt p H r) (hq : HistAt q Fr Fc Fi H rs ch) : HCalls prg f_anchor_Register_Audit [Ptr p 0, Ptr q 0] H fun u H' => u = .int .i64 (if isM r rs.length (topF ch) then 0 else 33) ∧ Keep (fun _ => False) H H' := by
  apply sh_anchor_Register_Audit_calls
  unfold sh_anchor_Register_Audit
  simp only [nck_ptr, fld_ptr, Mpu_some, Nat.zero_add, h.ld_mark]
  refine call_i (c_Of hq) ?_
  rintro _ h1 ⟨rfl, k1⟩
  have r1 := h.keep k1 id
  simp only [r1.ld_mark, Mre_cons, Mre_nil, true_and, neMark hq.top32 h.2.1, Mpu_some, Mcd_bool]
  have e : (decide ((rs.length : Int) = r.n) && decide (topF ch = r.top)) = isM r rs.length (topF ch) := rfl
  rw [e]
  cases isM r rs.length (topF ch)
  · simp only [Bool.not_false, if_true, Bool.false_eq_true, if_false]; exact ⟨trivial, k1⟩
  · simp only [Bool.not_true, if_true, Bool.false_eq_true, if_false]; exact ⟨trivial, k1⟩

def canR (r : Reg) : Reg := if r.busy then ⟨r.n, r.top, 0, zeroH, false⟩ else r
theorem c_Cancel (h : RegAt p H r) : HCalls prg f_anchor_Register_Cancel [Ptr p 0] H fun u H' => u = .int .i64 (if r.busy then 0 else 14) ∧ RegAt p H' (canR r) ∧ Keep (· = p) H H' := by
  apply sh_anchor_Register_Cancel_calls
  unfold sh_anchor_Register_Cancel
  simp only [nck_ptr, fld_ptr, Mpu_some, Nat.zero_add, h.ld_busy, unV_not, Mcd_bool]
  cases hb : r.busy
  · simp only [Bool.not_false, if_true, Bool.false_eq_true, if_false]
    exact ⟨trivial, by rw [canR, hb]; exact h, Keep.refl⟩
  · simp only [Bool.not_true, if_true, Bool.false_eq_true, if_false]
    refine call_i (c_over h) ?_
    rintro u h2 ⟨_, r2, k2⟩
    exact ⟨trivial, by rw [canR, if_pos hb]; exact r2, k2⟩

def setE (r : Reg) (n : Int) (l : List UInt8) : Int := if isM r n l then 0 else if r.busy && isN r n l then 0 else 33
def setR (r : Reg) (n : Int) (l : List UInt8) : Reg := if r.busy then (if isM r n l then canR r else if isN r n l then endR r else r) else r
theorem c_Settle (h : RegAt p H r) (hq : HistAt q Fr Fc Fi H rs ch) (hpq : ¬ HB q Fr Fc Fi p) : HCalls prg f_anchor_Register_Settle [Ptr p 0, Ptr q 0] H fun u H' => u = .int .i64 (setE r rs.length (topF ch)) ∧ RegAt p H' (setR r rs.length (topF ch)) ∧ Keep (· = p) H H' := by
  apply sh_anchor_Register_Settle_calls
  unfold sh_anchor_Register_Settle
  simp only [nck_ptr, fld_ptr, Mpu_some, Nat.zero_add, h.ld_busy, unV_not, Mcd_bool]
  have ht := hq.top32
  cases hb : r.busy
  · simp only [Bool.not_false, if_true]
    refine call_i (c_AuditH h hq) ?_
    rintro u h1 ⟨rfl, k1⟩
    refine ⟨by simp [setE, hb], ?_, k1.mono fun _ _ h => h.elim⟩
    rw [setR, hb]; exact h.keep k1 id
  · simp only [Bool.not_true, Bool.false_eq_true, if_false, h.ld_mark, Mpu_some]
    refine call_i (c_Of hq) ?_
    rintro _ h2 ⟨rfl, k2⟩
    have r2 := h.keep k2 id
    have hq2 := hq.keep k2 fun _ _ => id
    simp only [r2.ld_mark, Mre_cons, Mre_nil, true_and, eqMark ht h.2.1, Mpu_some, Mcd_bool]
    have e : (decide ((rs.length : Int) = r.n) && decide (topF ch = r.top)) = isM r rs.length (topF ch) := rfl
    rw [e]
    cases hm : isM r rs.length (topF ch)
    · simp only [Bool.false_eq_true, if_false, r2.ld_next, Mpu_some]
      refine call_i (c_Of hq2) ?_
      rintro _ h4 ⟨rfl, k4⟩
      have r4 := r2.keep k4 id
      simp only [r4.ld_next, Mre_cons, Mre_nil, true_and, eqMark ht h.2.2, Mpu_some, Mcd_bool]
      have e : (decide ((rs.length : Int) = r.nn) && decide (topF ch = r.ntop)) = isN r rs.length (topF ch) := rfl
      rw [e]
      cases hn : isN r rs.length (topF ch)
      · simp only [Bool.false_eq_true, if_false]
        exact ⟨by simp [setE, hm, hn], by simp only [setR, hb, hm, hn, if_true, Bool.false_eq_true, if_false]; exact r4, (k2.trans k4).mono fun _ _ h => h.elim⟩
      · simp only [if_true]
        refine call_i (c_End r4) ?_
        rintro u h5 ⟨rfl, r5, k5⟩
        exact ⟨by simp [setE, hm, hn, hb], by simp only [setR, hb, hm, hn, if_true, Bool.false_eq_true, if_false]; exact r5, ((k2.trans k4).mono fun _ _ h => h.elim).trans k5⟩
    · simp only [if_true]
      refine call_i (c_Cancel r2) ?_
      rintro u h3 ⟨rfl, r3, k3⟩
      exact ⟨by simp [setE, hm, hb], by simp only [setR, hb, hm, if_true]; exact r3, (k2.mono fun _ _ h => h.elim).trans k3⟩

theorem c_Next (h : RegAt p H r) : HCalls prg f_anchor_Register_Next [Ptr p 0] H fun u H' => u = .tuple #[mk r.nn r.ntop, .bool r.busy] ∧ Keep (fun _ => False) H H' := by
  apply sh_anchor_Register_Next_calls
  unfold sh_anchor_Register_Next
  have r0 : RegAt p (H.push (.cells (.int .i64 0 :: bcells zeroH).toArray T_anchor_Mark (0, 0))) r := h.keep (S := fun _ => False) Keep.push id
  have kk : Keep (fun _ => False) H ((H.push (.cells (.int .i64 0 :: bcells zeroH).toArray T_anchor_Mark (0, 0))).setIfInBounds H.size (.cells (.int .i64 r.nn :: bcells r.ntop).toArray T_anchor_Mark (0, 0))) := by
    refine ⟨by simp, fun i hi _ => ?_⟩
    rw [Array.getElem?_setIfInBounds, if_neg (by omega), Array.getElem?_push, if_neg (by omega)]
  have r1 := h.keep kk id
  simp only [z_Mark, Mnew_some, nck_ptr, fld_ptr, Mpu_some, Nat.zero_add, r0.ld_next, r0.ld_busy, stN_mk push_new (l := zeroH) rfl h.2.2, Mwr_some, r1.ld_busy, Mre_cons, Mre_nil, true_and, ldN_mk (set_self push_new) h.2.2]
  exact kk

/- the document's register: it lies as the other one -/
end
/- copies of slices -/
theorem bslR0 : bslV prg T_history_Record 0 [] = some #[] := by kernel_rfl
theorem bslH0 : bslV prg T_sha_Hash 0 [] = some #[] := by kernel_rfl
theorem clone_i {n bytes T : Nat} {P : Nat → Prop} {H : Heap} {v : Value} {xs : List (List Value)} {R : Value → Heap → Prop} (hv : SlE n P H v xs) (hz : bslV prg T 0 [] = some #[]) (hb : 0 < bytes) (hl : xs.length * bytes ≤ 140737488355328)
    (hR : ∀ u H', BufE n (New H H') H' u xs → Keep (fun _ => False) H H' → R u H') :
    Mpu (binV .slc .eql v (.slice none 0 0)) fun t4 => Mcd t4 (R (.slice none 0 0) H) (Mnews H T 0 (bslV prg T 0 []) fun t5 h1 => Mapp T n bytes h1 t5 v fun t7 h2 => R t7 h2) := by
  obtain ⟨⟨a, c, rfl, hc, hx⟩, hel, hone⟩ := id hv
  cases a with
  | none =>
    have hx0 : xs = [] := by
      rcases hx with h | ⟨b, o, e, _⟩
      · simpa using h
      · cases e
    subst hx0
    simp only [binV_slc_eq, eqV_slc_none, Option.map_some, Mpu_some, Mcd_bool, Option.isNone_none, if_true]
    exact hR _ _ BufE.nil Keep.refl
  | some a =>
    simp only [binV_slc_eq, eqV_slc_some, Option.map_some, Mpu_some, Mcd_bool, Bool.false_eq_true, if_false, hz, Mnews_some]
    have hk := hv.keep (S := fun _ => False) (Keep.push (o := .cells #[] T (0, 0))) fun _ _ => id
    refine BufE.app (F := (H.size ≤ ·)) (xs := []) (.fresh (cs := []) ⟨H.size, rfl, Nat.le_refl _, push_new⟩ (Nat.le_refl _) (by simp) (fun _ _ => by simp [thaw]) (by simp) (fun x h => by cases h) (fun x h => by cases h)) hk hb (by simpa using hl) (by simp) fun u H' hu k' => ?_
    rw [List.nil_append] at hu
    refine hR _ _ (BufE.re hu fun b hb hF => ⟨hF, hb⟩) ⟨by have := k'.1; simp at this; omega, fun i hi _ => ?_⟩
    rw [k'.2 i (by simp; omega) (by omega), Array.getElem?_push, if_neg (by omega)]

theorem bld_Hist2 {v w : Value} (hv : v.cells.size = 1) (hw : w.cells.size = 1) : buildV prg T_history_History [(0, v), (1, w)] = some (.agg (v.cells ++ w.cells)) := by
  have k : structK prg T_history_History = some ([(0, 1), (1, 1)], #[.slice none 0 0, .slice none 0 0]) := by kernel_rfl
  rw [buildV_of k, bfill_cons (off := 0) (n := 1) rfl hv (by decide), bfill_cons (off := 1) (n := 1) rfl hw (by simp [spl, hv]), bfill_nil]
  rw [Option.map_some]
  refine congrArg (fun x => some (Value.agg x)) (Array.ext' ?_)
  simp [spl, hv, hw]
theorem c_HistCopy {q : Nat} {Fr Fc Fi : Nat → Prop} {H : Heap} {rs : List RecA} {ch : List (List UInt8)} (h : HistAt q Fr Fc Fi H rs ch) :
    HCalls prg f_history_History_Copy [Ptr q 0] H fun u H' => Keep (fun _ => False) H H' ∧ ∃ p' Fr' Fc', u = Ptr p' 0 ∧ H.size ≤ p' ∧ HistAt p' Fr' Fc' Fi H' rs ch ∧ ∀ b, Fr' b ∨ Fc' b → H.size ≤ b := by
  apply sh_history_History_Copy_calls
  unfold sh_history_History_Copy
  obtain ⟨vr, vc, xs, hp, hr, hc, hl, hx⟩ := h.blk
  have hlt := h.lt
  have hzl : (List.zipWith rawC rs xs).length = rs.length := by simp [hl]
  have hfew := h.few
  have hlen := h.len
  have hng := h.ng
  have hpH : q < H.size := lt_of hp
  have d0 : ld1 H (Ptr q 0) = some vr := by rw [ld1_at hp]; rfl
  have d1 : ∀ {g}, Keep (fun _ => False) H g → ld1 g (Ptr q 1) = some vc := fun k => by rw [ld1_at (k.at hp id)]; rfl
  simp only [nck_ptr, fld_ptr, Mpu_some, Nat.zero_add, d0, d1 Keep.refl]
  refine call_i (R := fun u H' => BufE 36 (New H H') H' u (List.zipWith rawC rs xs) ∧ Keep (fun _ => False) H H') ?_ ?_
  · apply sh_slices_Clone_S_history_Record_history_Record_calls
    unfold sh_slices_Clone_S_history_Record_history_Record
    exact clone_i (n := 36) (bytes := 96) (xs := List.zipWith rawC rs xs) (R := fun u H' => BufE 36 (New H H') H' u (List.zipWith rawC rs xs) ∧ Keep (fun _ => False) H H') hr.sl bslR0 (by omega) (by omega) fun u H' hu k => ⟨hu, k⟩
  rintro ur h1 ⟨br, k1⟩
  simp only [d1 k1, Mre_cons, Mre_nil, true_and]
  refine call_i (R := fun u H' => BufE 32 (New h1 H') H' u (ch.map bcells) ∧ Keep (fun _ => False) h1 H') ?_ ?_
  · apply sh_slices_Clone_S_sha_Hash_sha_Hash_calls
    unfold sh_slices_Clone_S_sha_Hash_sha_Hash
    exact clone_i (n := 32) (bytes := 32) (xs := ch.map bcells) (R := fun u H' => BufE 32 (New h1 H') H' u (ch.map bcells) ∧ Keep (fun _ => False) h1 H') (hc.keep k1 fun _ _ => id).sl bslH0 (by omega) (by rw [List.length_map]; omega) fun u H' hu k => ⟨hu, k⟩
  rintro uc h2 ⟨bc, k2⟩
  have k02 := k1.trans k2
  have s1 := k1.1
  have s2 := k2.1
  obtain ⟨⟨ar, cr, er, _⟩, _⟩ := br.sl
  obtain ⟨⟨ac, cc, ec, _⟩, _⟩ := bc.sl
  have kp : Keep (fun _ => False) h2 (h2.push (.cells #[ur, uc] T_history_History (0, 0))) := Keep.push
  have e2 : (ur.cells ++ uc.cells) = #[ur, uc] := by subst er ec; rfl
  rw [bld_Hist2 (by subst er; rfl) (by subst ec; rfl), e2, Mpu_some, Cells_agg, Mnew_some]
  refine ⟨k02.trans kp, h2.size, New H h1, New h1 h2, rfl, by omega, ⟨fun b => ⟨fun hb => ?_, fun hb => ?_, fun hb => ?_⟩, by omega, h.len, h.few, h.c32, ur, uc, xs, push_new, (br.keep k2 fun _ _ => id).keep kp fun _ _ => id, bc.keep kp fun _ _ => id, hl, fun i a x ha hx' => ((hx i a x ha hx').keep k02 fun _ _ => id).keep kp fun _ _ => id⟩, fun b hb => ?_⟩
  · have := hb.1; have := hb.2
    refine ⟨by omega, by simp; omega, by omega, fun h' => by have := h'.1; omega, fun h' => by have := (hlt b (.inr (.inr (.inr h')))).2; omega⟩
  · have := hb.1; have := hb.2
    refine ⟨by omega, by simp; omega, by omega, fun h' => by have := (hlt b (.inr (.inr (.inr h')))).2; omega⟩
  · have := hlt b (.inr (.inr (.inr hb)))
    exact ⟨this.1, by simp; omega, by omega⟩
  · rcases hb with hb | hb
    · exact hb.1
    · have := hb.1; omega

/- what the document's register tells -/
theorem slA32 {p o : Nat} : slA 32 1 (Ptr p o) none none none = some (.slice (some ⟨p, o, none⟩) 32 32) := by
  simp [slA, bnds, bnd]
theorem RegAt.sl_top {p : Nat} {H : Heap} {r : Reg} (h : RegAt p H r) : Sl (· = p) H (.slice (some ⟨p, 1, none⟩) 32 32) r.top :=
  ⟨Bs.mk h.1.choose_spec h.2.1.symm (by simp [regC, h.2.1, h.2.2]) (by
    have : (regC r).drop 1 = bcells r.top ++ ((.int .i64 r.nn :: bcells r.ntop) ++ [.bool r.busy]) := by simp [regC]
    rw [List.toList_toArray, this, List.take_left' (by simp [h.2.1])]), ⟨_, 32, by rw [h.2.1], by rw [h.2.1]; omega, fun x hx => by cases hx; rfl⟩, fun b hb => by cases hb; rfl⟩
theorem RegAt.sl_ntop {p : Nat} {H : Heap} {r : Reg} (h : RegAt p H r) : Sl (· = p) H (.slice (some ⟨p, 34, none⟩) 32 32) r.ntop :=
  ⟨Bs.mk h.1.choose_spec h.2.2.symm (by simp [regC, h.2.1, h.2.2]) (by
    have : (regC r).drop 34 = bcells r.ntop ++ [.bool r.busy] := by
      have e : regC r = (.int .i64 r.n :: bcells r.top ++ [.int .i64 r.nn]) ++ (bcells r.ntop ++ [.bool r.busy]) := by simp [regC]
      rw [e, List.drop_left' (by simp [h.2.1])]
    rw [List.toList_toArray, this, List.take_left' (by simp [h.2.2])]), ⟨_, 32, by rw [h.2.2], by rw [h.2.2]; omega, fun x hx => by cases hx; rfl⟩, fun b hb => by cases hb; rfl⟩

theorem new_mk {h : Heap} {n : Int} {l : List UInt8} (hl : l.length = 32) {k : Value → Heap → Prop} (hk : ∀ h', At h' h.size (.int .i64 n :: bcells l) → Keep (fun _ => False) h h' → k (Ptr h.size 0) h') :
    Mnew h T_anchor_Mark (zcells prg T_anchor_Mark) fun t h6 => Mwr (stN 33 h6 t (mk n l)) fun h7 => k t h7 := by
  rw [z_Mark, Mnew_some, stN_mk push_new (l := zeroH) rfl hl, Mwr_some]
  refine hk _ ⟨_, set_self push_new⟩ ⟨by simp, fun i hi _ => ?_⟩
  rw [Array.getElem?_setIfInBounds, if_neg (by omega), Array.getElem?_push, if_neg (by omega)]
theorem at_top {H : Heap} {q : Nat} {n : Int} {l : List UInt8} (a : At H q (.int .i64 n :: bcells l)) (hl : l.length = 32) : ldN 32 H (Ptr q 1) = some (bv l) :=
  ldN_mid (A := [.int .i64 n]) (B := bcells l) (C := []) (by simpa using a.choose_spec) rfl (by simp [hl])

end Go.Proofs.YtdmciknajaedmaaDoor
/- anchor's laws: one call (step); the parts told apart by colours. -/
namespace Go.Proofs.YtdmciknajaedmaaDoor
open Go.X Go.X.Diff
set_option maxRecDepth 100000

/-- a register of colour j -/
def RegC (col : Nat → Nat) (j p : Nat) (H : Heap) (r : Reg) : Prop := RegAt p H r ∧ col p = j
/-- a history of colour j; its items' rows, that copies share, are of colour 2 -/
def HistC (col : Nat → Nat) (j q : Nat) (H : Heap) (rs : List RecA) (ch : List (List UInt8)) : Prop :=
  ∃ Fr Fc Fi, HistAt q Fr Fc Fi H rs ch ∧ col q = j ∧ (∀ b, Fr b ∨ Fc b → col b = j) ∧ ∀ b, Fi b → col b = 2
section
variable {col col' : Nat → Nat} {K : Nat → Prop} {j p q : Nat} {h h' : Heap} {r : Reg} {rs : List RecA} {ch : List (List UInt8)}
theorem RegC.mv (a : RegC col j p h r) (m : Mv col col' K h h') (hj : ¬ K j) : RegC col' j p h' r := by
  have hp := lt_of a.1.1.choose_spec
  refine ⟨a.1.keep m.keep fun hS => ?_, (m.same _ hp).trans a.2⟩
  rcases hS with hS | hS
  · omega
  · exact hj (a.2 ▸ hS)
theorem HistC.mv (a : HistC col j q h rs ch) (m : Mv col col' K h h') (hj : ¬ K j) (h2 : ¬ K 2) : HistC col' j q h' rs ch := by
  obtain ⟨Fr, Fc, Fi, hh, c1, c2, c3⟩ := a
  have hlt := hh.lt
  have hc : ∀ b, HB q Fr Fc Fi b → col b = j ∨ col b = 2 := fun b hb => by
    rcases hb with rfl | hb | hb | hb
    · exact .inl c1
    · exact .inl (c2 b (.inl hb))
    · exact .inl (c2 b (.inr hb))
    · exact .inr (c3 b hb)
  refine ⟨Fr, Fc, Fi, hh.keep m.keep fun b hb hS => ?_, (m.same _ (hlt q (.inl rfl)).2).trans c1, fun b hb => ?_, fun b hb => (m.same _ (hlt b (.inr (.inr (.inr hb)))).2).trans (c3 b hb)⟩
  · have := (hlt b hb).2
    rcases hS with hS | hS
    · omega
    · rcases hc b hb with e | e
      · exact hj (e ▸ hS)
      · exact h2 (e ▸ hS)
  · refine (m.same _ (hlt b ?_).2).trans (c2 b hb)
    rcases hb with hb | hb
    · exact .inr (.inl hb)
    · exact .inr (.inr (.inl hb))
theorem RegC.pure (a : RegC col j p h r) (k : Keep (fun _ => False) h h') : RegC col j p h' r := a.mv (Mv.pure (K := fun _ => False) k) id
theorem HistC.pure (a : HistC col j q h rs ch) (k : Keep (fun _ => False) h h') : HistC col j q h' rs ch := a.mv (Mv.pure (K := fun _ => False) k) id id
/-- a block of its own is written to -/
theorem Mv.one {q : Nat} (kk : Keep (· = q) h h') (hq : q < h.size) (hK : K (col q)) : Mv col col K h h' := ⟨kk.mono fun b hb e => .inr (e ▸ hK), fun _ _ => rfl⟩
end

/- THE CALLS -/
structure OpA where
  kind : Int
  top : List UInt8
  rcd : RecA
  x : Value × Value
def opC (o : OpA) : List Value := .int .i64 o.kind :: bcells o.top ++ rawC o.rcd o.x
def OpIn (P : Nat → Prop) (H : Heap) (o : OpA) : Prop := o.top.length = 32 ∧ RawIn P H o.rcd o.x
theorem OpIn.keep {P S : Nat → Prop} {H H' : Heap} {o : OpA} (h : OpIn P H o) (k : Keep S H H') (hs : ∀ b, P b → ¬ S b) : OpIn P H' o := ⟨h.1, h.2.keep k hs⟩
theorem opC_len {P : Nat → Prop} {H : Heap} {o : OpA} (h : OpIn P H o) : (opC o).length = 69 := by
  have := rawC_len (x := o.x) h.2.1
  simp [opC, h.1, this]
theorem opC_one {P : Nat → Prop} {H : Heap} {o : OpA} (h : OpIn P H o) : ∀ c ∈ opC o, c.oneCell' = true := by
  intro c hc
  simp only [opC, List.cons_append, List.mem_cons, List.mem_append] at hc
  rcases hc with rfl | hc | hc
  · rfl
  · exact bcells_one c hc
  · exact rawC_one h.2 c hc
def Ops (P : Nat → Prop) (H : Heap) (v : Value) (l : List OpA) : Prop := SlE 69 P H v (l.map opC) ∧ ∀ o ∈ l, OpIn P H o
section
variable {P : Nat → Prop} {H : Heap} {v : Value} {l : List OpA}
theorem Ops.keep {S : Nat → Prop} {H' : Heap} (h : Ops P H v l) (k : Keep S H H') (hs : ∀ b, P b → ¬ S b) : Ops P H' v l := ⟨h.1.keep k hs, fun r hr => (h.2 r hr).keep k hs⟩
theorem Ops.len (h : Ops P H v l) : lenV v = some (.int .i64 l.length) := by have := h.1.len; simpa using this
theorem Ops.at (h : Ops P H v l) {i : Nat} {o : OpA} (hi : l[i]? = some o) : OpIn P H o ∧ ∃ b k, (∀ i', ixS 69 v (.int i' i) = some (Ptr b k)) ∧ Pt H b k (opC o) ∧ P b := by
  refine ⟨h.2 o (List.mem_of_getElem? hi), ?_⟩
  exact h.1.at (x := opC o) (by rw [List.getElem?_map, hi]; rfl)
end
theorem z_Op : ∃ z : List Value, zcells prg T_syngraphlaw23_Op = some z.toArray ∧ z.length = 69 := by
  have h : (match zcells prg T_syngraphlaw23_Op with | some z => z.size == 69 | none => false) = true := by kernel_rfl
  split at h
  · rename_i z hz; exact ⟨z.toList, by simp [hz], by simpa using h⟩
  · cases h
theorem new_op {h : Heap} {cs : List Value} (hl : cs.length = 69) (h1 : ∀ c ∈ cs, c.oneCell' = true) {k : Value → Heap → Prop}
    (hk : ∀ h', At h' h.size cs → Keep (fun _ => False) h h' → k (Ptr h.size 0) h') :
    Mnew h T_syngraphlaw23_Op (zcells prg T_syngraphlaw23_Op) fun t h6 => Mwr (stN 69 h6 t (.agg cs.toArray)) fun h7 => k t h7 := by
  obtain ⟨z, hz, hzl⟩ := z_Op
  rw [hz, Mnew_some]
  have a1 : At (h.push (.cells z.toArray T_syngraphlaw23_Op (0, 0))) h.size z := At.push
  obtain ⟨h', st, a2, k2⟩ := a1.st (n := 69) (ds := cs) hzl hl h1
  rw [show (Value.pointer (some ⟨h.size, 0, none⟩)) = Ptr h.size 0 from rfl, st, Mwr_some]
  exact hk _ a2 (Keep.push.fresh k2 fun b hb => by omega)
section
variable {H : Heap} {q : Nat} {P : Nat → Prop} {o : OpA}
theorem op_kind (a : At H q (opC o)) : ld1 H (Ptr q 0) = some (.int .i64 o.kind) := a.ld rfl
theorem op_top (a : At H q (opC o)) (h : OpIn P H o) : ldN 32 H (Ptr q 1) = some (bv o.top) :=
  ldN_mid (A := [.int .i64 o.kind]) (B := bcells o.top) (C := rawC o.rcd o.x) (by simpa [opC] using a.choose_spec) rfl (by simp [h.1])
theorem op_rec (a : At H q (opC o)) (h : OpIn P H o) : ldN 36 H (Ptr q 33) = some (.agg (rawC o.rcd o.x).toArray) :=
  ldN_mid (A := .int .i64 o.kind :: bcells o.top) (B := rawC o.rcd o.x) (C := []) (by simpa [opC] using a.choose_spec) (by simp [h.1]) (by rw [rawC_len h.2.1])
end

/- what a call comes to -/
def appB (rs : List RecA) (a : RecA) : Bool := appOk rs a && !decide (rs.length = 4096)
def appRs (rs : List RecA) (a : RecA) : List RecA := if appB rs a then rs ++ [a] else rs
def appCh (rs : List RecA) (ch : List (List UInt8)) (a : RecA) : List (List UInt8) := if appB rs a then ch ++ [chainF ch a] else ch
def stepR (r : Reg) (rs : List RecA) (ch : List (List UInt8)) (o : OpA) : Reg :=
  if o.kind = 1 then begR r (if appB rs o.rcd then chainF ch o.rcd else o.top)
  else if o.kind = 2 then endR r else if o.kind = 3 then canR r else if o.kind = 4 then setR r rs.length (topF ch) else r
def stepRs (rs : List RecA) (o : OpA) : List RecA := if o.kind = 6 then appRs rs o.rcd else rs
def stepCh (rs : List RecA) (ch : List (List UInt8)) (o : OpA) : List (List UInt8) := if o.kind = 6 then appCh rs ch o.rcd else ch

/-- what is appended to: of colour j -/
theorem c_AppendP {P : Nat → Prop} {col : Nat → Nat} {j q : Nat} {H : Heap} {rs : List RecA} {ch : List (List UInt8)} {a : RecA} {x : Value × Value} (hc : HistC col j q H rs ch) (hP : ∀ b, P b → b < H.size ∧ col b = 1) (hj1 : j ≠ 1) (hS : ShaT H) (hT : PowT H)
    (ha : RawIn P H a x) (hs : smallB a.bef a.aft = true) :
    HCalls prg f_history_History_Append [Ptr q 0, .agg (rawC a x).toArray] H fun u H' => u = .int .i64 (if appOk rs a then (if rs.length = 4096 then 12 else 0) else 10) ∧
      ∃ col', Mv col col' (fun k => k = j) H H' ∧ HistC col' j q H' (appRs rs a) (appCh rs ch a) := by
  obtain ⟨Fr, Fc, Fi, hh, c1, c2, c3⟩ := hc
  obtain ⟨r1, r2, r3⟩ := recB_small ha hs
  have hlt := hh.lt
  refine (c_AppendS hh hS ha.2.1 ha.2.2.1 (fun b hb => ⟨(hP b hb).1, fun hB => ?_⟩) ha.1 hT (by omega) (by omega) (by omega)).mono fun u H' hR => ?_
  · have e := (hP b hb).2
    rcases hB with rfl | hB | hB | hB
    · omega
    · have := c2 b (.inl hB); omega
    · have := c2 b (.inr hB); omega
    · have := c3 b hB; omega
  have stay : appB rs a = false → Keep (fun _ => False) H H' → ∃ col', Mv col col' (fun k => k = j) H H' ∧ HistC col' j q H' (appRs rs a) (appCh rs ch a) := fun hb k => by
    refine ⟨col, Mv.pure k, ?_⟩
    unfold appRs appCh
    rw [hb]
    exact HistC.pure ⟨Fr, Fc, Fi, hh, c1, c2, c3⟩ k
  rcases hR with ⟨h1, rfl, k⟩ | ⟨h1, h2, rfl, k⟩ | ⟨h1, h2, rfl, k, Fr', Fc', Fi', hh', x1, x2⟩
  · exact ⟨by rw [h1]; rfl, stay (by unfold appB; rw [h1]; rfl) k⟩
  · exact ⟨by rw [if_pos h1, if_pos h2], stay (by unfold appB; rw [h1, decide_eq_true h2]; rfl) k⟩
  · refine ⟨by rw [if_pos h1, if_neg h2], ?_⟩
    have hb : appB rs a = true := by unfold appB; rw [h1, decide_eq_false h2]; rfl
    classical
    let col' : Nat → Nat := fun b => if b < H.size then col b else if Fr' b ∨ Fc' b then j else 2
    have hold : ∀ b, b < H.size → col' b = col b := fun b hb => if_pos hb
    have hnew : ∀ b, H.size ≤ b → (Fr' b ∨ Fc' b) → col' b = j := fun b hb hF => by show (if b < H.size then _ else _) = _; rw [if_neg (by omega), if_pos hF]
    have hown := hh'.own
    refine ⟨col', ⟨k.mono fun b _ h => .inr ?_, hold⟩, ?_⟩
    · rcases h with rfl | h | h
      · exact c1
      · exact c2 b (.inl h)
      · exact c2 b (.inr h)
    · unfold appRs appCh
      rw [hb]
      refine ⟨Fr', Fc', Fi', hh', (hold q (hlt q (.inl rfl)).2).trans c1, fun b hF => ?_, fun b hF => ?_⟩
      · by_cases hlt' : b < H.size
        · rw [hold b hlt']
          rcases x1 b hF with h | h | h
          · exact c2 b (.inl h)
          · exact c2 b (.inr h)
          · omega
        · exact hnew b (by omega) hF
      · by_cases hlt' : b < H.size
        · rw [hold b hlt']
          rcases x2 b hF with h | h
          · exact c3 b h
          · omega
        · show (if b < H.size then _ else _) = _
          rw [if_neg hlt', if_neg]
          rintro (h | h)
          · exact ((hown b).1 h).2.2.2.2 hF
          · exact ((hown b).2.1 h).2.2.2 hF

theorem c_AppendC {col : Nat → Nat} {n0 j q : Nat} {H0 H : Heap} {rs : List RecA} {ch : List (List UInt8)} {a : RecA} {x : Value × Value} (hc : HistC col j q H rs ch) (hn0 : n0 = H0.size) (kH : Keep (fun _ => False) H0 H) (inp : ∀ b, b < n0 → col b = 1) (hj1 : j ≠ 1) (hS : ShaT H0) (hT : PowT H0)
    (ha : RawIn (· < n0) H a x) (hs : smallB a.bef a.aft = true) :
    HCalls prg f_history_History_Append [Ptr q 0, .agg (rawC a x).toArray] H fun u H' => u = .int .i64 (if appOk rs a then (if rs.length = 4096 then 12 else 0) else 10) ∧
      ∃ col', Mv col col' (fun k => k = j) H H' ∧ HistC col' j q H' (appRs rs a) (appCh rs ch a) := by
  subst hn0
  exact c_AppendP hc (fun b hb => ⟨Nat.lt_of_lt_of_le hb kH.1, inp b hb⟩) hj1 (hS.keep kH fun _ h => h.elim) (hT.keep kH fun _ h => h.elim) ha hs

theorem topF_snoc {ch : List (List UInt8)} {c : List UInt8} : topF (ch ++ [c]) = c := by unfold topF; simp

end Go.Proofs.YtdmciknajaedmaaDoor
