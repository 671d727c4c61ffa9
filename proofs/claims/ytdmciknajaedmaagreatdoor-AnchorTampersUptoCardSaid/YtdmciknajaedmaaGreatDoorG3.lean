/- JOINED: V104 -/
import Derived.Test.YtdmciknajaedmaaGreatDoorG2
set_option linter.unusedSimpArgs false
set_option linter.unusedVariables false
/- The walk of AnchorPlays. -/
namespace Go.Proofs.YtdmciknajaedmaaGreatDoor
open Go.X Go.X.Diff
set_option maxRecDepth 100000

def colA (n0 p q hq : Nat) : Nat → Nat := fun b => if b < n0 then 1 else if b = p then 3 else if b = q then 4 else if b = hq then 5 else 99
theorem hist0C {col : Nat → Nat} {j q : Nat} {H : Heap} (h : HistAt q (fun _ => False) (fun _ => False) (fun _ => False) H [] []) (hj : col q = j) : HistC col j q H [] [] :=
  ⟨_, _, _, h, hj, fun b hb => hb.elim False.elim False.elim, fun b hb => hb.elim⟩

theorem c_AnchorPlays {H : Heap} {v : Value} {l : List OpA} (hv : Ops (· < H.size) H v l) (hl : l.length ≤ 9223372036854775807) (hS : ShaT H) (hT : PowT H) :
    HCalls prg f_syngraphlaw23_AnchorPlays [v] H fun u H' => u = .bool true ∧ Keep (fun _ => False) H H' := by
  apply sh_syngraphlaw23_AnchorPlays_calls
  unfold sh_syngraphlaw23_AnchorPlays
  have hNG := hT.sz
  refine call_i c_RegNew ?_
  rintro _ h1 ⟨rfl, r1, k1⟩
  have s1 := lt_of r1.1.choose_spec
  refine call_i (c_HistNew (by omega)) ?_
  rintro _ h2 ⟨rfl, q2, k2⟩
  have s2 := (q2.lt h1.size (.inl rfl)).2
  have r2 := r1.keep k2 id
  have k02 := k1.trans k2
  have pn : ∀ x, binV .ptr .eql (Ptr x 0) (.pointer none) = some (.bool false) := fun x => rfl
  have pne : ∀ x, binV .ptr .neq (Ptr x 0) (.pointer none) = some (.bool true) := fun x => rfl
  simp only [pn, unV_not, Bool.not_true, Bool.not_false, Mif_bool, Mif_undef, pickV_bool, Mcd_bool, Mpu_some, if_true, if_false, Bool.false_eq_true, Bool.true_eq_false, decide_true, decide_false, reduceCtorEq, ex20, ex21, ex30, ex31, ex32, Mre_ok, Mre_nil]
  refine J1_eq.2 ?_
  simp only [unV_not, Bool.not_true, Bool.not_false, Mif_bool, Mif_undef, pickV_bool, Mcd_bool, Mpu_some, if_true, if_false, Bool.false_eq_true, Bool.true_eq_false, decide_true, decide_false, reduceCtorEq, ex20, ex21, ex30, ex31, ex32, Mre_ok, Mre_nil]
  refine J1_eq.2 ?_
  refine call_i (c_smallA (hv.keep k02 fun _ _ => id) hl) ?_
  rintro _ h6 ⟨rfl, k6⟩
  have k06 := k02.trans k6
  simp only [unV_not, Bool.not_true, Bool.not_false, Mif_bool, Mif_undef, pickV_bool, Mcd_bool, Mpu_some, if_true, if_false, Bool.false_eq_true, Bool.true_eq_false, decide_true, decide_false, reduceCtorEq, ex20, ex21, ex30, ex31, ex32, Mre_ok, Mre_nil]
  cases hsm : smallA l
  · simp only [pne, unV_not, Bool.not_true, Bool.not_false, Mif_bool, Mif_undef, pickV_bool, Mcd_bool, Mpu_some, if_true, if_false, Bool.false_eq_true, Bool.true_eq_false, decide_true, decide_false, reduceCtorEq, ex20, ex21, ex30, ex31, ex32, Mre_ok, Mre_nil]
    refine J1_eq.2 ?_
    refine call_i (c_awake23 (Nat.le_trans hNG k06.1)) ?_
    rintro _ h9 ⟨rfl, k9⟩
    simp only [unV_not, Bool.not_true, Bool.not_false, Mif_bool, Mif_undef, pickV_bool, Mcd_bool, Mpu_some, if_true, if_false, Bool.false_eq_true, Bool.true_eq_false, decide_true, decide_false, reduceCtorEq, ex20, ex21, ex30, ex31, ex32, Mre_ok, Mre_nil]
    exact ⟨trivial, k06.trans k9⟩
  simp only [unV_not, Bool.not_true, Bool.not_false, Mif_bool, Mif_undef, pickV_bool, Mcd_bool, Mpu_some, if_true, if_false, Bool.false_eq_true, Bool.true_eq_false, decide_true, decide_false, reduceCtorEq, ex20, ex21, ex30, ex31, ex32, Mre_ok, Mre_nil]
  have hall : l.all opSm = true ∧ l.length ≤ 40 := by
    unfold smallA at hsm
    simpa using hsm
  rw [bld_rReg0, Mpu_some, Cells_agg, Mnew_some]
  generalize hH11 : h6.push (.cells (regC ⟨0, zeroH, 0, zeroH, false⟩).toArray T_syngraphref23_Register (0, 0)) = h11
  have k11 : Keep (fun _ => False) h6 h11 := by rw [← hH11]; exact Keep.push
  have x11 : RegAt h6.size h11 ⟨0, zeroH, 0, zeroH, false⟩ := ⟨by rw [← hH11]; exact ⟨_, push_new⟩, rfl, rfl⟩
  have k0 := k06.trans k11
  have s6 := k6.1
  let col := colA H.size H.size h6.size h1.size
  have hc1 : ∀ b, b < H.size → col b = 1 := fun b hb => if_pos hb
  have hcp : col H.size = 3 := by show (if H.size < H.size then _ else _) = _; rw [if_neg (Nat.lt_irrefl _), if_pos rfl]
  have hcq : col h6.size = 4 := by show (if h6.size < H.size then _ else _) = _; rw [if_neg (by omega), if_neg (by omega), if_pos rfl]
  have hch : col h1.size = 5 := by show (if h1.size < H.size then _ else _) = _; rw [if_neg (by omega), if_neg (by omega), if_neg (by omega), if_pos rfl]
  have G0 : RegC col 3 H.size h11 ⟨0, zeroH, 0, zeroH, false⟩ ∧ RegC col 4 h6.size h11 ⟨0, zeroH, 0, zeroH, false⟩ ∧ HistC col 5 h1.size h11 [] [] :=
    ⟨⟨r2.keep (k6.trans k11) id, hcp⟩, ⟨x11, hcq⟩, hist0C (q2.keep (k6.trans k11) fun _ _ => id) hch⟩
  clear_value col
  refine J1_i (fun _ h => Keep (fun _ => False) H h) (fun k12 hk12 => ?_) ?_
  rotate_left
  · rintro _ h13 k13
    refine call_i (c_awake23 (Nat.le_trans hNG k13.1)) ?_
    rintro _ h14 ⟨rfl, k14⟩
    exact ⟨rfl, k13.trans k14⟩
  rw [hv.len, Mpu_some]
  refine L1_i (fun u h => ∃ (i : Nat) (col : Nat → Nat) (r : Reg) (rs : List RecA) (ch : List (List UInt8)), i ≤ l.length ∧ u = .int .i64 (i : Nat) ∧ RegW i r ∧ RegC col 3 H.size h r ∧ RegC col 4 h6.size h r ∧ HistC col 5 h1.size h rs ch ∧ (∀ b, b < H.size → col b = 1) ∧ Keep (fun _ => False) H h)
    (fun u _ => match u with | .int _ t => l.length - t.toNat | _ => 0) ⟨0, col, _, [], [], Nat.zero_le _, rfl, ⟨0, Nat.le_refl _, rfl, fun h => by cases h⟩, G0.1, G0.2.1, G0.2.2, hc1, k0⟩ ?_
  clear G0 hc1 hcp hcq hch
  clear col
  rintro _ h ⟨i, col, r, rs, ch, hi, rfl, hw, hr, hx, hh, inp, kh⟩ k hk
  have elt : binV .no .lss (.int .i64 (i : Nat)) (.int .i64 (l.length : Nat)) = some (.bool (decide (i < l.length))) := by
    rw [binV_int]; simp only [intV]; congr 2; rw [decide_eq_decide]; omega
  rw [elt, Mpu_some, Mcd_bool]
  by_cases hlt : i < l.length
  rotate_left
  · rw [if_neg (by simpa using hlt)]
    exact hk12 _ _ kh
  rw [if_pos (by simpa using hlt)]
  have hg : l[i]? = some l[i] := List.getElem?_eq_getElem hlt
  have hsm := opSm_small (List.all_eq_true.1 hall.1 l[i] (List.getElem_mem _))
  generalize l[i] = o at hg hsm
  obtain ⟨ho, b, kk, hix, hpt, hpb⟩ := (hv.keep kh fun _ _ => id).at hg
  rw [hix, Mpu_some, hpt.agg (opC_len ho), Mpu_some]
  refine new_op (opC_len ho) (opC_one ho) fun h17 a17 k17 => ?_
  have pv : ∀ (n : Int) (t : List UInt8), partV false 1 0 (mk n t) = some (.int .i64 n) := fun n t => rfl
  refine call_i (c_Mark (hr.1.keep k17 id)) ?_
  rintro _ h18 ⟨rfl, k18⟩
  have k1718 := k17.trans k18
  rw [pv, Mpu_some, (a17.keep k18 id).ldN (opC_len ho), Mpu_some]
  have o18 := ho.keep k1718 fun _ _ => id
  refine call_i (c_step (hr.pure k1718) (hx.pure k1718) (hh.pure k1718) (by omega) (by omega) (by omega) (by omega) (by omega) (by omega) rfl (kh.trans k1718) inp hS hT o18 hsm) ?_
  rintro _ h19 ⟨rfl, col', m, hr', hx', hh'⟩
  obtain ⟨hw', hmono⟩ := stepR_w hw (by omega) rs ch o
  have inp' : ∀ b, b < H.size → col' b = 1 := fun b hb => (m.same b (Nat.lt_of_lt_of_le hb (kh.trans k1718).1)).trans (inp b hb)
  have kH19 := m.keep0 (by omega) (kh.trans k1718) inp
  generalize stepR r rs ch o = r' at hr' hx' hw' hmono
  generalize stepRs rs o = rs' at hh'
  generalize stepCh rs ch o = ch' at hh'
  clear hr hx hh inp
  simp only [unV_not, Bool.not_true, Bool.not_false, Mif_bool, Mif_undef, pickV_bool, Mcd_bool, Mpu_some, if_true, if_false, Bool.false_eq_true, Bool.true_eq_false, decide_true, decide_false, reduceCtorEq, ex20, ex21, ex30, ex31, ex32, Mre_ok, Mre_nil]
  refine J1_eq.2 ?_
  obtain ⟨n, _, hn, _⟩ := id hw'
  refine call_i (c_sameA hr'.1 hx'.1 hn) ?_
  rintro _ h21 ⟨rfl, k21⟩
  simp only [unV_not, Bool.not_true, Bool.not_false, Mif_bool, Mif_undef, pickV_bool, Mcd_bool, Mpu_some, if_true, if_false, Bool.false_eq_true, Bool.true_eq_false, decide_true, decide_false, reduceCtorEq, ex20, ex21, ex30, ex31, ex32, Mre_ok, Mre_nil]
  refine J1_eq.2 ?_
  refine call_i (c_Mark (hr'.1.keep k21 id)) ?_
  rintro _ h24 ⟨rfl, k24⟩
  have eless : binV .no .lss (.int .i64 r'.n) (.int .i64 r.n) = some (.bool false) := by
    rw [binV_int]; simp only [intV]; rw [decide_eq_false (by omega)]
  simp only [pv, eless, unV_not, Bool.not_true, Bool.not_false, Mif_bool, Mif_undef, pickV_bool, Mcd_bool, Mpu_some, if_true, if_false, Bool.false_eq_true, Bool.true_eq_false, decide_true, decide_false, reduceCtorEq, ex20, ex21, ex30, ex31, ex32, Mre_ok, Mre_nil]
  refine J1_eq.2 ?_
  have k1924 := k21.trans k24
  obtain ⟨Fr, Fc, Fi, hat, _⟩ := hh'.pure k1924
  refine call_i (c_Of hat) ?_
  rintro _ h27 ⟨rfl, k27⟩
  have hat27 := hat.keep k27 fun _ _ => id
  refine call_i (c_HistLen hat27) ?_
  rintro _ _ ⟨rfl, rfl⟩
  refine call_i (c_HistTop hat27) ?_
  rintro _ h29 ⟨rfl, k29⟩
  have kall := k1924.trans (k27.trans k29)
  simp only [bld_Mark hat.top32, neMark hat.top32 hat.top32, decide_true, Bool.and_true, unV_not, Bool.not_true, Bool.not_false, Mif_bool, Mif_undef, pickV_bool, Mcd_bool, Mpu_some, if_true, if_false, Bool.false_eq_true, Bool.true_eq_false, decide_true, decide_false, reduceCtorEq, ex20, ex21, ex30, ex31, ex32, Mre_ok, Mre_nil]
  rw [add1M (by omega), Mpu_some]
  exact hk _ _ ⟨i + 1, col', r', rs', ch', hlt, rfl, hw', hr'.pure kall, hx'.pure kall, hh'.pure kall, inp', kH19.trans kall⟩ (by show l.length - (i + 1) < l.length - i; omega)
end Go.Proofs.YtdmciknajaedmaaGreatDoor
