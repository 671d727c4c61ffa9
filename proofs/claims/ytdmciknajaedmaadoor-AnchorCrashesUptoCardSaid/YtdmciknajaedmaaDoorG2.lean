/- JOINED: V103 -/
import Derived.Test.YtdmciknajaedmaaDoorG1
set_option linter.unusedSimpArgs false
set_option linter.unusedVariables false
/- anchor's laws: small, awake. -/
namespace Go.Proofs.YtdmciknajaedmaaDoor
open Go.X Go.X.Diff
set_option maxRecDepth 50000

def bigJ (x : Item) : Bool := decide (x.name.length > 50) || decide (x.ver.pre.length > 50)
theorem big_loopJ {P : Nat → Prop} {h : Heap} {z : Value} {zs : List Item} {Rf : Heap → Prop} {k7 : Value → Heap → Prop} (hz : Items P h z zs) (hl : zs.length ≤ 9223372036854775807)
    (hbad : zs.any bigJ = true → ∀ h', Keep (fun _ => False) h h' → Rf h') (hok : zs.any bigJ = false → ∀ u h', Keep (fun _ => False) h h' → k7 u h') :
    L1 (fun k9 => fun t19_2 h10 =>
      Mpu (binV .no .lss t19_2 (.int .i64 zs.length)) fun t20 =>
      Mcd t20 (
        Mpu (ixS 37 z t19_2) fun t21 =>
        Mpu (ldN 37 h10 t21) fun t22 =>
        Mnew h10 T_history_Item (zcells prg T_history_Item) fun t6 h11 =>
        Mwr (stN 37 h11 t6 t22) fun h12 =>
        Mpu (fld 0 t6) fun t23 =>
        Mpu (ld1 h12 t23) fun t24 =>
        Mpu (lenT t24) fun t25 =>
        Mpu (binV .no .gtr t25 (.int .i64 50)) fun t26 =>
        J1 (fun k13 => Mif t26 false (
            Mpu (fld 1 t6) fun t28 =>
            Mpu (fld 3 t28) fun t29 =>
            Mpu (ld1 h12 t29) fun t30 =>
            Mpu (lenT t30) fun t31 =>
            Mpu (binV .no .gtr t31 (.int .i64 50)) fun t32 =>
            k13 t32 h12) (
            k13 undef h12)) fun t32_2 h14 =>
        Mpu (pickV t26 (.bool true) t32_2) fun t33 =>
        Mcd t33 (
          Rf h14) (
          Mpu (binV .no .add t19_2 (.int .i64 1)) fun t34 =>
          k9 t34 h14)) (
        k7 t19_2 h10)) ((.int .i64 0)) h := by
  refine L1_i (fun u h' => ∃ i : Nat, i ≤ zs.length ∧ u = .int .i64 (i : Nat) ∧ (zs.take i).any bigJ = false ∧ Keep (fun _ => False) h h') (fun u _ => match u with | .int _ t => zs.length - t.toNat | _ => 0) ⟨0, Nat.zero_le _, rfl, rfl, Keep.refl⟩ ?_
  rintro _ h' ⟨i, hi, rfl, hno, kh⟩ k hk
  simp only [binV_int (op := .lss), intV, Mpu_some, Mcd_bool, decide_eq_true_eq]
  by_cases hlt : (i : Int) < zs.length
  · rw [if_pos hlt]
    have hlt' : i < zs.length := by omega
    have hg : zs[i]? = some zs[i] := List.getElem?_eq_getElem hlt'
    have ht : zs.take (i + 1) = zs.take i ++ [zs[i]] := by rw [List.take_add_one, hg]; rfl
    have hmem : zs[i] ∈ zs := List.getElem_mem _
    generalize hx : zs[i] = x at *
    obtain ⟨hwf, b, o, hix, hpt, hpb⟩ := (hz.keep kh fun _ _ => id).at hg
    have hinc : IntKind.i64.wrap ((i : Int) + 1) = (i + 1 : Nat) := by rw [wrap_id] <;> omega
    simp only [hix, Mpu_some, hpt.agg (itemC_len hwf)]
    refine new_item hwf fun h2 k2 ⟨T, f, hq⟩ => ?_
    have d0 : ld1 h2 (Ptr h'.size 0) = some (str x.name) := ld_l hq rfl
    have d4 : ld1 h2 (Ptr h'.size 4) = some (str x.ver.pre) := ld_l hq (by
      unfold itemC verC
      rw [List.getElem?_cons_succ, List.getElem?_append_left (by simp [hwf.ver.p3]), List.getElem?_append_right (by simp [hwf.ver.p3])]
      simp [hwf.ver.p3])
    have f0 : fld 0 (Ptr h'.size 0) = some (Ptr h'.size 0) := rfl
    have f1 : fld 1 (Ptr h'.size 0) = some (Ptr h'.size 1) := rfl
    have f3 : fld 3 (Ptr h'.size 1) = some (Ptr h'.size 4) := rfl
    have end_ : (Value.bool (bigJ x) = Value.bool (bigJ x)) → (if bigJ x = true then Rf h2 else Mpu (binV .no .add (.int .i64 (i : Nat)) (.int .i64 1)) fun t34 => k t34 h2) := fun _ => by
      cases hb : bigJ x with
      | true => rw [if_pos rfl]; exact hbad (List.any_eq_true.2 ⟨x, hmem, hb⟩) _ (kh.trans k2)
      | false =>
        rw [if_neg (by decide)]
        simp only [binV_int (op := .add), intV, hinc, Mpu_some]
        exact hk _ _ ⟨i + 1, hlt', rfl, by rw [ht, List.any_append, hno]; simp [hb], kh.trans k2⟩ (by show zs.length - (i + 1) < zs.length - i; omega)
    have e50 : ∀ n : Nat, binV .no .gtr (.int .i64 (n : Nat)) (.int .i64 50) = some (.bool (decide (n > 50))) := fun n => by
      rw [binV_int]; simp only [intV]; congr 2; rw [decide_eq_decide]; omega
    simp only [f0, Mpu_some, d0, lenT_str, e50]
    refine J1_i (fun u h3 => (decide (x.name.length > 50) = true ∨ u = .bool (decide (x.ver.pre.length > 50))) ∧ h2 = h3) (fun k' hk' => ?_) ?_
    · by_cases hn : x.name.length > 50
      · simp only [hn, decide_true, Mif_bool, Bool.true_eq_false, if_false]
        exact hk' _ _ ⟨.inl (decide_eq_true hn), rfl⟩
      · simp only [hn, decide_false, Mif_bool, if_true, f1, f3, d4, lenT_str, e50, Mpu_some]
        exact hk' _ _ ⟨.inr rfl, rfl⟩
    rintro u3 _ ⟨hu, rfl⟩
    have hp : pickV (.bool (decide (x.name.length > 50))) (.bool true) u3 = some (.bool (bigJ x)) := by
      unfold bigJ
      rw [pickV_bool]
      by_cases hn : x.name.length > 50
      · simp [hn]
      · rcases hu with hu | rfl
        · exact absurd (of_decide_eq_true hu) hn
        · simp [hn]
    rw [hp, Mpu_some, Mcd_bool]
    exact end_ rfl
  · rw [if_neg hlt]
    obtain rfl : i = zs.length := by omega
    rw [List.take_length] at hno
    exact hok hno _ _ kh


theorem add1M {q : EqK} {i : Nat} (h : i < 9223372036854775807) : binV q .add (.int .i64 (i : Nat)) (.int .i64 1) = some (.int .i64 ((i + 1 : Nat) : Int)) := by
  have hinc : IntKind.i64.wrap ((i : Int) + 1) = (i + 1 : Nat) := by rw [wrap_id] <;> omega
  rw [binV_int]; simp only [intV, hinc]
def opSm (o : OpA) : Bool := decide (o.rcd.bef.length ≤ 8) && decide (o.rcd.aft.length ≤ 8) && !(o.rcd.bef ++ o.rcd.aft).any bigJ
def smallA (l : List OpA) : Bool := l.all opSm && decide (l.length ≤ 40)
theorem opSm_small {o : OpA} (h : opSm o = true) : smallB o.rcd.bef o.rcd.aft = true := by
  unfold opSm at h
  simp only [Bool.and_eq_true, decide_eq_true_eq, Bool.not_eq_true', List.any_append, Bool.or_eq_false_iff] at h
  obtain ⟨⟨h1, h2⟩, h3, h4⟩ := h
  have big : ∀ {l : List Item}, l.any bigJ = false → l.any bigI = false := fun hl => by
    rw [List.any_eq_false] at hl ⊢
    intro x hx hb
    refine hl x hx ?_
    unfold bigI at hb
    unfold bigJ
    simp only [Bool.or_eq_true, decide_eq_true_eq] at hb ⊢
    omega
  unfold smallB
  simp only [big h3, big h4, Bool.not_false, Bool.true_and, Bool.and_eq_true, decide_eq_true_eq]
  omega
section
variable {H : Heap} {q : Nat} {P : Nat → Prop} {o : OpA}
theorem op_bef (a : At H q (opC o)) (h : o.top.length = 32) : ld1 H (Ptr q 34) = some o.x.1 := a.ld (by
  unfold opC
  rw [List.getElem?_append_right (by simp [h])]
  simp [h]; rfl)
theorem op_aft (a : At H q (opC o)) (h : o.top.length = 32) : ld1 H (Ptr q 35) = some o.x.2 := a.ld (by
  unfold opC
  rw [List.getElem?_append_right (by simp [h])]
  simp [h]; rfl)
end

theorem c_smallA {P : Nat → Prop} {H : Heap} {v : Value} {l : List OpA} (hv : Ops P H v l) (hl : l.length ≤ 9223372036854775807) : HCalls prg f_syngraphlaw23_small [v] H fun u H' => u = .bool (smallA l) ∧ Keep (fun _ => False) H H' := by
  apply sh_syngraphlaw23_small_calls
  unfold sh_syngraphlaw23_small
  have e8 : ∀ n : Nat, binV .no .gtr (.int .i64 (n : Nat)) (.int .i64 8) = some (.bool (decide (n > 8))) := fun n => by
    rw [binV_int]; simp only [intV]; congr 2; rw [decide_eq_decide]; omega
  have e40 : binV .no .leq (.int .i64 (l.length : Nat)) (.int .i64 40) = some (.bool (decide (l.length ≤ 40))) := by
    rw [binV_int]; simp only [intV]; congr 2; rw [decide_eq_decide]; omega
  refine J1_i (fun _ h => l.all opSm = true ∧ Keep (fun _ => False) H h) (fun k1 hk1 => ?_) ?_
  rotate_left
  · rintro _ h ⟨ha, kh⟩
    rw [hv.len, Mpu_some, e40, Mpu_some]
    exact ⟨by unfold smallA; rw [ha, Bool.true_and], kh⟩
  rw [hv.len, Mpu_some]
  refine L1_i (fun u h => ∃ i : Nat, i ≤ l.length ∧ u = .int .i64 (i : Nat) ∧ (l.take i).all opSm = true ∧ Keep (fun _ => False) H h) (fun u _ => match u with | .int _ t => l.length - t.toNat | _ => 0) ⟨0, Nat.zero_le _, rfl, rfl, Keep.refl⟩ ?_
  rintro _ h ⟨i, hi, rfl, hall, kh⟩ k hk
  have elt : binV .no .lss (.int .i64 (i : Nat)) (.int .i64 (l.length : Nat)) = some (.bool (decide (i < l.length))) := by
    rw [binV_int]; simp only [intV]; congr 2; rw [decide_eq_decide]; omega
  rw [elt, Mpu_some, Mcd_bool]
  by_cases hlt : i < l.length
  rotate_left
  · rw [if_neg (by simpa using hlt)]
    rw [List.take_of_length_le (by omega)] at hall
    exact hk1 _ _ ⟨hall, kh⟩
  rw [if_pos (by simpa using hlt)]
  have hg : l[i]? = some l[i] := List.getElem?_eq_getElem hlt
  have hmem : l[i] ∈ l := List.getElem_mem _
  have ht : l.take (i + 1) = l.take i ++ [l[i]] := by rw [List.take_add_one, hg]; rfl
  generalize l[i] = o at hg hmem ht
  obtain ⟨ho, b, kk, hix, hpt, hpb⟩ := (hv.keep kh fun _ _ => id).at hg
  have bad : opSm o = false → ∀ g, Keep (fun _ => False) H g → Value.bool false = .bool (smallA l) ∧ Keep (fun _ => False) H g := fun hb g kg => by
    refine ⟨?_, kg⟩
    have : l.all opSm = false := List.all_eq_false.2 ⟨o, hmem, by simp [hb]⟩
    unfold smallA; rw [this]; rfl
  refine J2_i (fun _ _ g => opSm o = true ∧ Keep (fun _ => False) H g) (fun k5 hk5 => ?_) ?_
  rotate_left
  · rintro _ _ g ⟨hs, kg⟩
    rw [add1M (by omega), Mpu_some]
    exact hk _ _ ⟨i + 1, hlt, rfl, by rw [ht, List.all_append, hall]; simp [hs], kg⟩ (by show l.length - (i + 1) < l.length - i; omega)
  rw [hix, Mpu_some, hpt.agg (opC_len ho), Mpu_some]
  refine new_op (opC_len ho) (opC_one ho) fun h8 a8 k8 => ?_
  have k08 := kh.trans k8
  have o8 := ho.keep k8 fun _ _ => id
  have fl : ∀ a b, fld a (Ptr h.size b) = some (Ptr h.size (b + a)) := fun a b => rfl
  have Lb : ∀ {g}, Keep (fun _ => False) h8 g → ld1 g (Ptr h.size 34) = some o.x.1 := fun k => op_bef (a8.keep k id) ho.1
  have La : ∀ {g}, Keep (fun _ => False) h8 g → ld1 g (Ptr h.size 35) = some o.x.2 := fun k => op_aft (a8.keep k id) ho.1
  simp only [fl, Nat.zero_add, Nat.reduceAdd, Mpu_some, Lb Keep.refl, o8.2.2.1.len, e8]
  refine J1_i (fun u g => (decide (o.rcd.bef.length > 8) = true ∨ u = .bool (decide (o.rcd.aft.length > 8))) ∧ h8 = g) (fun k' hk' => ?_) ?_
  · by_cases hn : o.rcd.bef.length > 8
    · simp only [hn, decide_true, Mif_bool, Bool.true_eq_false, if_false]
      exact hk' _ _ ⟨.inl (decide_eq_true hn), rfl⟩
    · simp only [hn, decide_false, Mif_bool, if_true, La Keep.refl, o8.2.2.2.1.len, e8, Mpu_some]
      exact hk' _ _ ⟨.inr rfl, rfl⟩
  rintro u _ ⟨hu, rfl⟩
  have hp : pickV (.bool (decide (o.rcd.bef.length > 8))) (.bool true) u = some (.bool (decide (o.rcd.bef.length > 8) || decide (o.rcd.aft.length > 8))) := by
    rw [pickV_bool]
    by_cases hn : o.rcd.bef.length > 8
    · simp [hn]
    · rcases hu with hu | rfl
      · exact absurd (of_decide_eq_true hu) hn
      · simp [hn]
  rw [hp, Mpu_some, Mcd_bool]
  by_cases hbig : o.rcd.bef.length > 8 ∨ o.rcd.aft.length > 8
  · rw [if_pos (by simpa using hbig)]
    refine bad ?_ _ k08
    unfold opSm
    rcases hbig with hn | hn
    · rw [decide_eq_false (by omega)]; rfl
    · rw [decide_eq_false (p := o.rcd.aft.length ≤ 8) (by omega)]; simp
  · rw [if_neg (by simpa using hbig)]
    simp only [bslI0, Mnews_some, Lb Keep.refl, La Keep.refl, Mpu_some]
    generalize hH11 : h8.push (.cells #[] T_history_Item (0, 0)) = h11
    have k11 : Keep (fun _ => False) h8 h11 := by rw [← hH11]; exact Keep.push
    have n11 : h11[h8.size]? = some (.cells #[] T_history_Item (0, 0)) := by rw [← hH11]; exact push_new
    simp only [La k11, Lb k11, Mre_cons, Mre_nil, true_and]
    have ib := o8.2.2.1.keep k11 fun _ _ => id
    have ia := o8.2.2.2.1.keep k11 fun _ _ => id
    refine BufE.app (F := (h8.size ≤ ·)) (xs := []) (.fresh (cs := []) ⟨h8.size, rfl, Nat.le_refl _, n11⟩ (Nat.le_refl _) (by simp) (fun _ _ => by simp [thaw]) (by simp) (fun x h => by cases h) (fun x h => by cases h)) ib.1 (show 0 < 88 by omega) (by rw [List.length_map, List.length_nil]; omega) k11.1 fun t29 h12 b29 k12 => ?_
    have k812 : Keep (fun _ => False) h8 h12 := k11.fresh k12 fun b hb => hb
    simp only [La k812, Mre_cons, Mre_nil, true_and]
    refine BufE.app b29 (o8.2.2.2.1.keep k812 fun _ _ => id).1 (by omega) (by simp; omega) k812.1 fun t33 h13 b33 k13 => ?_
    have k813 : Keep (fun _ => False) h8 h13 := k812.fresh k13 fun b hb => hb
    have i33 : Items (h8.size ≤ ·) h13 t33 (o.rcd.bef ++ o.rcd.aft) := by
      refine ⟨?_, fun x hx => ?_⟩
      · have := b33.sl
        rw [List.nil_append] at this
        rw [List.map_append]
        exact this
      · rcases List.mem_append.1 hx with hx | hx
        · exact ib.2 x hx
        · exact ia.2 x hx
    have kk := k08.trans k813
    rw [i33.len, Mpu_some]
    refine big_loopJ i33 (by rw [List.length_append]; omega) (fun hb g kg => bad ?_ _ (kk.trans kg)) fun hok u g kg => hk5 _ _ _ ⟨?_, kk.trans kg⟩
    · unfold opSm; rw [hb]; simp
    · unfold opSm; rw [hok]; simp; omega

def one23 : List UInt8 := 1 :: List.replicate 31 0
theorem bld_Hash1 : buildV prg T_sha_Hash [(0, .int .u8 1)] = some (bv one23) := by kernel_rfl
theorem c_awake23 {H : Heap} (hT : NG ≤ H.size) : HCalls prg f_syngraphlaw23_awake [] H fun u H' => u = .bool true ∧ Keep (fun _ => False) H H' := by
  apply sh_syngraphlaw23_awake_calls
  unfold sh_syngraphlaw23_awake
  refine call_i c_RegNew ?_
  rintro _ h1 ⟨rfl, r1, k1⟩
  refine call_i (c_HistNew (Nat.le_trans hT k1.1)) ?_
  rintro _ h2 ⟨rfl, q2, k2⟩
  have r2 := r1.keep k2 id
  have n1 : H.size ≤ h1.size := k1.1
  have hlt : H.size < h1.size := lt_of r1.1.choose_spec
  generalize hp : H.size = p at *
  generalize hq : h1.size = q at *
  have nB : ∀ b, HB q (fun _ => False) (fun _ => False) (fun _ => False) b → b = q := fun b hb => by rcases hb with h | h | h | h <;> first | exact h | exact h.elim
  have e1 : ∀ x, binV .ptr .neq (Ptr x 0) (.pointer none) = some (.bool true) := fun x => rfl
  have ei : ∀ x : Int, binV .no .eql (.int .i64 x) (.int .i64 x) = some (.bool true) := fun x => by rw [binV_int]; simp [intV]
  simp only [e1, Mpu_some, J1_eq, Mif_bool, if_true, pickV_bool]
  refine call_i (c_AuditH r2 q2) ?_
  rintro _ h3 ⟨rfl, k3⟩
  have r3 := r2.keep k3 id
  have q3 := q2.keep k3 fun _ _ => id
  have i3 : isM ⟨0, zeroH, 0, zeroH, false⟩ (([] : List RecA).length : Nat) (topF []) = true := by decide
  simp only [i3, if_true, ei, Mpu_some, pickV_bool, J1_eq, Mif_bool, bld_Hash1]
  refine call_i (c_Begin r3 (l := one23) rfl) ?_
  rintro _ h4 ⟨rfl, r4, k4⟩
  have q4 := q3.keep k4 fun b hb e => by have := nB b hb; omega
  simp only [Bool.false_eq_true, if_false, ei, Mpu_some, pickV_bool, J1_eq, Mif_bool, if_true, bld_Hash1]
  refine call_i (c_Begin r4 (l := one23) rfl) ?_
  rintro _ h5 ⟨rfl, r5, k5⟩
  have q5 := q4.keep k5 fun b hb e => by have := nB b hb; omega
  have b5 : begR (begR ⟨0, zeroH, 0, zeroH, false⟩ one23) one23 = ⟨0, zeroH, 1, one23, true⟩ := rfl
  have b4 : (begR ⟨0, zeroH, 0, zeroH, false⟩ one23).busy = true := rfl
  rw [b5] at r5
  simp only [b4, ei, Mpu_some, pickV_bool, J1_eq, Mif_bool, if_true]
  refine call_i (c_End r5) ?_
  rintro _ h6 ⟨rfl, r6, k6⟩
  have q6 := q5.keep k6 fun b hb e => by have := nB b hb; omega
  have b6 : endR ⟨0, zeroH, 1, one23, true⟩ = ⟨1, one23, 0, zeroH, false⟩ := rfl
  rw [b6] at r6
  simp only [ei, Mpu_some, pickV_bool, J1_eq, Mif_bool, if_true]
  refine call_i (c_End r6) ?_
  rintro _ h7 ⟨rfl, r7, k7⟩
  have q7 := q6.keep k7 fun b hb e => by have := nB b hb; omega
  have b7 : endR ⟨1, one23, 0, zeroH, false⟩ = ⟨1, one23, 0, zeroH, false⟩ := rfl
  rw [b7] at r7
  simp only [Bool.false_eq_true, if_false, ei, Mpu_some, pickV_bool, J1_eq, Mif_bool, if_true]
  refine call_i (c_AuditH r7 q7) ?_
  rintro _ h8 ⟨rfl, k8⟩
  have r8 := r7.keep k8 id
  have i8 : isM ⟨1, one23, 0, zeroH, false⟩ (([] : List RecA).length : Nat) (topF []) = false := by decide
  simp only [i8, Bool.false_eq_true, if_false, ei, Mpu_some, pickV_bool, J1_eq, Mif_bool, if_true]
  refine call_i (c_Mark r8) ?_
  rintro _ h9 ⟨rfl, k9⟩
  have e9 : partV false 1 0 (mk 1 one23) = some (.int .i64 1) := rfl
  simp only [e9, ei, Mpu_some, pickV_bool, if_true]
  have kk := k4.trans (k5.trans (k6.trans k7))
  have s1 := k1.1; have s2 := k2.1; have s3 := k3.1; have s4 := kk.1; have s8 := k8.1; have s9 := k9.1
  refine ⟨trivial, by omega, fun i hi _ => ?_⟩
  rw [k9.2 i (by omega) id, k8.2 i (by omega) id, kk.2 i (by omega) (by omega), k3.2 i (by omega) id, k2.2 i (by omega) id, k1.2 i (by omega) id]

/- what a register may hold -/
def RegW (i : Nat) (r : Reg) : Prop := ∃ n : Nat, n ≤ i ∧ r.n = (n : Int) ∧ (r.busy = true → r.nn = (n : Int) + 1)
theorem stepR_w {i : Nat} {r : Reg} (h : RegW i r) (hi : i ≤ 100000) (rs : List RecA) (ch : List (List UInt8)) (o : OpA) : RegW (i + 1) (stepR r rs ch o) ∧ r.n ≤ (stepR r rs ch o).n := by
  obtain ⟨n, hn, e, hb⟩ := h
  have stay : RegW (i + 1) r ∧ r.n ≤ r.n := ⟨⟨n, by omega, e, hb⟩, by omega⟩
  have hend : RegW (i + 1) (endR r) ∧ r.n ≤ (endR r).n := by
    unfold endR
    cases hbb : r.busy
    · rw [if_neg (by decide)]; exact stay
    · rw [if_pos rfl]
      have := hb hbb
      exact ⟨⟨n + 1, by omega, by show r.nn = _; omega, fun h => by cases h⟩, by show r.n ≤ r.nn; omega⟩
  have hcan : RegW (i + 1) (canR r) ∧ r.n ≤ (canR r).n := by
    unfold canR
    cases hbb : r.busy
    · rw [if_neg (by decide)]; exact stay
    · rw [if_pos rfl]
      exact ⟨⟨n, by omega, e, fun h => by cases h⟩, by show r.n ≤ r.n; omega⟩
  unfold stepR
  split
  · generalize (if appB rs o.rcd then chainF ch o.rcd else o.top) = tp
    unfold begR
    cases hbb : r.busy
    · rw [if_neg (by decide)]
      refine ⟨⟨n, by omega, e, fun _ => ?_⟩, by show r.n ≤ r.n; omega⟩
      show IntKind.i64.wrap (r.n + 1) = _
      rw [e, wrap_id] <;> omega
    · rw [if_pos rfl]; exact stay
  split
  · exact hend
  split
  · exact hcan
  split
  · unfold setR
    split
    · split
      · exact hcan
      split
      · exact hend
      · exact stay
    · exact stay
  · exact stay
theorem RegW.mono {i j : Nat} {r : Reg} (h : RegW i r) (hij : i ≤ j) : RegW j r := let ⟨n, a, b⟩ := h; ⟨n, Nat.le_trans a hij, b⟩
end Go.Proofs.YtdmciknajaedmaaDoor
