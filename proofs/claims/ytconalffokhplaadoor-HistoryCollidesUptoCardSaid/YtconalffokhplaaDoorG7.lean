/- JOINED: V114 -/
import Derived.Test.YtconalffokhplaaDoorG6
import Derived.Test.YtconalffokhplaaDoorGJ
set_option linter.unusedSimpArgs false
set_option linter.unusedVariables false
/- The walk of HistoryCollides. -/
namespace Go.Proofs.YtconalffokhplaaDoor
open Go.X Go.X.Diff
set_option maxRecDepth 100000

theorem c_made {P : Nat → Prop} {H : Heap} {v : Value} {l : List (RecA × Value × Value)} (hv : Recs P H v l) (hP : ∀ b, P b → b < H.size) (hl : l.length ≤ 1048576) (hs : ∀ r ∈ l, smallB r.1.bef r.1.aft = true) (hT : ShaT H) (hW : PowT H) :
    HCalls prg f_syngraphlaw22_made [v] H fun u H' => ∃ p, u = Ptr p 0 ∧ Hist H.size p H' (madeF (l.map (·.1))) ∧ Keep (fun _ => False) H H' := by
  apply sh_syngraphlaw22_made_calls
  unfold sh_syngraphlaw22_made
  refine call_i (c_HistNew hT.sz) ?_
  rintro _ h1 ⟨rfl, hh1, k1⟩
  have hpn : binV .ptr .eql (Ptr H.size 0) (.pointer none) = some (.bool false) := rfl
  simp only [hpn, unV_not, Bool.not_true, Bool.not_false, Mif_bool, Mif_undef, pickV_bool, Mcd_bool, Mpu_some, if_true, if_false, Bool.false_eq_true, Bool.true_eq_false, decide_true, decide_false, reduceCtorEq, ex20, ex21, ex30, ex31, ex32, Mre_ok, Mre_nil]
  have hm : NG ≤ H.size := hT.sz
  have hh1 : Hist H.size H.size h1 [] := ⟨_, _, _, hh1, fun b hb => by rcases hb with h | h | h | h <;> first | omega | exact h.elim⟩
  refine J1_i (fun _ h => Hist H.size H.size h (madeF (l.map (·.1))) ∧ Keep (fun _ => False) H h) (fun k2 hk2 => ?_) ?_
  · rw [hv.len, Mpu_some]
    refine L1_i (fun u h => ∃ i : Nat, i ≤ l.length ∧ u = .int .i64 (i : Nat) ∧ Hist H.size H.size h (madeF ((l.take i).map (·.1))) ∧ Keep (fun _ => False) H h) (fun u _ => match u with | .int _ t => l.length - t.toNat | _ => 0) ⟨0, Nat.zero_le _, rfl, hh1, k1⟩ ?_
    rintro _ h ⟨i, hi, rfl, hH, kh⟩ k hk
    have elt : binV .no .lss (.int .i64 (i : Nat)) (.int .i64 (l.length : Nat)) = some (.bool (decide (i < l.length))) := by
      rw [binV_int]; simp only [intV]; congr 2; rw [decide_eq_decide]; omega
    rw [elt, Mpu_some, Mcd_bool]
    by_cases hlt : i < l.length
    · rw [if_pos (by simpa using hlt)]
      have hg : l[i]? = some l[i] := List.getElem?_eq_getElem hlt
      have hsm := hs l[i] (List.getElem_mem _)
      generalize l[i] = r at hg hsm
      obtain ⟨hr, b, o, hix, hpt, hpb⟩ := (hv.keep kh fun _ _ => id).at hg
      have hrl := rawC_len (x := r.2) hr.1
      rw [hix, Mpu_some, hpt.agg hrl, Mpu_some]
      refine new_rec hrl (rawC_one hr) fun h7 hs7 a7 k7 => ?_
      have k07 := kh.trans k7
      rw [a7.ldN hrl, Mpu_some]
      have hH7 := hH.keep k7 fun _ _ _ => id
      refine call_i (c_AppendH hH7 (hT.keep k07 fun _ h => h.elim) (hW.keep k07 fun _ h => h.elim) (hr.keep k7 fun _ _ => id) (fun b hb => ⟨by have := hP b hb; have := k07.1; omega, hP b hb⟩) hsm hm) ?_
      rintro _ h8 ⟨rfl, hH8, k8⟩
      rw [show binV .no .add (.int .i64 (i : Nat)) (.int .i64 1) = some (.int .i64 ((i + 1 : Nat) : Int)) from add_one' (by omega), Mpu_some]
      refine hk _ _ ⟨i + 1, by omega, rfl, ?_, k07.fresh k8 fun b hb => hb⟩ (by show l.length - (i + 1) < l.length - i; omega)
      rw [List.take_add_one, hg, Option.toList_some, List.map_append, List.map_singleton, madeF_snoc]
      exact hH8
    · rw [if_neg (by simpa using hlt)]
      rw [List.take_of_length_le (by omega)] at hH
      exact hk2 _ _ ⟨hH, kh⟩
  rintro _ h ⟨hH, kh⟩
  exact ⟨_, rfl, hH, kh⟩


theorem made_grown : ∀ {l : List (RecA × Value × Value)} {P : Nat → Prop} {H : Heap}, l.length ≤ 4000 → (∀ r ∈ l, RawIn P H r.1 r.2) → Grown (madeF (l.map (·.1))) := by
  intro l P H hl hin
  have key : ∀ i, i ≤ l.length → Grown (madeF ((l.take i).map (·.1))) ∧ (madeF ((l.take i).map (·.1))).length ≤ i := by
    intro i
    induction i with
    | zero => intro _; exact ⟨⟨by simp [madeF], fun i a h => by simp [madeF] at h⟩, by simp [madeF]⟩
    | succ i ih =>
      intro hi
      obtain ⟨h1, h2⟩ := ih (by omega)
      have hg : l[i]? = some (l[i]'(by omega)) := List.getElem?_eq_getElem _
      have hm : (l[i]'(by omega)) ∈ l := List.getElem_mem _
      generalize (l[i]'(by omega)) = r at hg hm
      have hr := hin r hm
      rw [take_snoc hg, List.map_append, List.map_singleton, madeF_snoc]
      split
      · rename_i hc
        exact ⟨h1.snoc (by omega) hc.1 ⟨hr.2.1.2, hr.2.2.1.2, hr.1⟩, by rw [List.length_append, List.length_singleton]; omega⟩
      · exact ⟨h1, by omega⟩
  have := (key l.length (Nat.le_refl _)).1
  rwa [List.take_length] at this

theorem c_HistoryCollides {H : Heap} {v w : Value} {l m : List (RecA × Value × Value)} (hv : Recs (· < H.size) H v l) (hl : l.length ≤ 1048576) (hw : Recs (· < H.size) H w m) (hm : m.length ≤ 1048576) (hS : ShaT H) (hT : PowT H) :
    HCalls prg f_syngraphlaw22_HistoryCollides [v, w] H fun u H' => u = .bool true ∧ Keep (fun _ => False) H H' := by
  apply sh_syngraphlaw22_HistoryCollides_calls
  unfold sh_syngraphlaw22_HistoryCollides
  have hNG := hT.sz
  have bslR0 : bslV prg T_history_Record 0 [] = some #[] := by kernel_rfl
  have hin : ∀ r ∈ l ++ m, RawIn (· < H.size) H r.1 r.2 := fun r hr => by
    rcases List.mem_append.1 hr with hr | hr
    · exact hv.2 r hr
    · exact hw.2 r hr
  refine J1_i (fun _ h => (∀ r ∈ l ++ m, smallB r.1.bef r.1.aft = true) ∧ Keep (fun _ => False) H h) (fun k1 hk1 => ?_) ?_
  · rw [bslR0, Mnews_some]
    generalize hH3 : H.push (.cells #[] T_history_Record (0, 0)) = h3
    have k3 : Keep (fun _ => False) H h3 := by rw [← hH3]; exact Keep.push
    have n3 : h3[H.size]? = some (.cells #[] T_history_Record (0, 0)) := by rw [← hH3]; exact push_new
    have sv := (hv.keep k3 fun _ _ => id).1
    refine BufE.app (F := (H.size ≤ ·)) (xs := []) (.fresh (cs := []) ⟨H.size, rfl, Nat.le_refl _, n3⟩ (Nat.le_refl _) (by simp) (fun _ _ => by simp [thaw]) (by simp) (fun x h => by cases h) (fun x h => by cases h)) sv (by omega) (by simp; omega) k3.1 fun t19 h4 b4 k4 => ?_
    have k04 : Keep (fun _ => False) H h4 := k3.fresh k4 fun b hb => hb
    rw [List.nil_append] at b4
    refine BufE.app b4 (hw.keep k04 fun _ _ => id).1 (by omega) (by simp; omega) k04.1 fun t21 h5 b5 k5 => ?_
    have k05 : Keep (fun _ => False) H h5 := k04.fresh k5 fun b hb => hb
    have e : (l.map fun r => rawC r.1 r.2) ++ (m.map fun r => rawC r.1 r.2) = (l ++ m).map fun r => rawC r.1 r.2 := by rw [List.map_append]
    rw [e] at b5
    have hall : (l ++ m).length ≤ 2097152 := by rw [List.length_append]; omega
    generalize hal : l ++ m = all at *
    have hln := b5.sl.len
    rw [List.length_map] at hln
    rw [hln, Mpu_some]
    have sb := b5.sl
    refine L1_i (fun u h => ∃ i : Nat, i ≤ all.length ∧ u = .int .i64 (i : Nat) ∧ (∀ r ∈ all.take i, smallB r.1.bef r.1.aft = true) ∧ Keep (fun _ => False) h5 h) (fun u _ => match u with | .int _ t => all.length - t.toNat | _ => 0) ⟨0, Nat.zero_le _, rfl, fun r h => by simp at h, Keep.refl⟩ ?_
    rintro _ h ⟨i, hi, rfl, hsm, kh⟩ k hk
    have elt : binV .no .lss (.int .i64 (i : Nat)) (.int .i64 (all.length : Nat)) = some (.bool (decide (i < all.length))) := by
      rw [binV_int]; simp only [intV]; congr 2; rw [decide_eq_decide]; omega
    rw [elt, Mpu_some, Mcd_bool]
    by_cases hlt : i < all.length
    rotate_left
    · rw [if_neg (by simpa using hlt)]
      rw [List.take_of_length_le (by omega)] at hsm
      exact hk1 _ _ ⟨hsm, k05.trans kh⟩
    rw [if_pos (by simpa using hlt)]
    have hg : all[i]? = some all[i] := List.getElem?_eq_getElem hlt
    have hmm : all[i] ∈ all := List.getElem_mem _
    generalize all[i] = r at hg hmm
    have hr := (hin r hmm).keep (k05.trans kh) fun _ _ => id
    obtain ⟨b, o, hix, hpt, _⟩ := (sb.keep kh fun _ _ => id).at (i := i) (x := rawC r.1 r.2) (by rw [List.getElem?_map, hg]; rfl)
    have hrl := rawC_len (x := r.2) hr.1
    rw [hix, Mpu_some, hpt.agg hrl, Mpu_some]
    refine new_rec hrl (rawC_one hr) fun h9 _ a9 k9 => ?_
    rw [a9.ldN hrl, Mpu_some]
    have kk := (k05.trans kh).trans k9
    refine call_i (c_smallR (hr.2.1.keep k9 fun _ _ => id) (hr.2.2.1.keep k9 fun _ _ => id) hr.1 hr.2.2.2.1 hr.2.2.2.2) ?_
    rintro _ h10 ⟨rfl, k10⟩
    rw [unV_not, Mpu_some, Mcd_bool]
    have kk10 := kk.trans k10
    cases hs : smallB r.1.bef r.1.aft
    · rw [Bool.not_false, if_pos rfl]
      refine call_i (c_awake22 (hS.keep kk10 fun _ h => h.elim) (hT.keep kk10 fun _ h => h.elim)) ?_
      rintro _ h11 ⟨rfl, k11⟩
      exact ⟨rfl, kk10.trans k11⟩
    · rw [Bool.not_true, if_neg (by decide), show binV .no .add (.int .i64 (i : Nat)) (.int .i64 1) = some (.int .i64 ((i + 1 : Nat) : Int)) from add_one' (by omega), Mpu_some]
      refine hk _ _ ⟨i + 1, hlt, rfl, fun x hx => ?_, kh.trans (k9.trans k10)⟩ (by show all.length - (i + 1) < all.length - i; omega)
      rw [take_snoc hg] at hx
      rcases List.mem_append.1 hx with hx | hx
      · exact hsm x hx
      · simp at hx; subst hx; exact hs
  rintro _ h2 ⟨hsl, k2⟩
  have g15 : ∀ n : Nat, binV .no .gtr (.int .i64 (n : Nat)) (.int .i64 15) = some (.bool (decide (15 < n))) := fun n => by
    rw [binV_int]; simp only [intV]; congr 2; rw [decide_eq_decide]; omega
  simp only [hv.len, hw.len, g15, Mpu_some]
  refine J1_i (fun u h => h2 = h ∧ (decide (15 < l.length) = false → u = .bool (decide (15 < m.length)))) (fun k12 hk12 => ?_) ?_
  · cases hb : decide (15 < l.length)
    · simp only [unV_not, Bool.not_true, Bool.not_false, Mif_bool, Mif_undef, pickV_bool, Mcd_bool, Mpu_some, if_true, if_false, Bool.false_eq_true, Bool.true_eq_false, decide_true, decide_false, reduceCtorEq, ex20, ex21, ex30, ex31, ex32, Mre_ok, Mre_nil]
      exact hk12 _ _ ⟨rfl, fun _ => rfl⟩
    · simp only [unV_not, Bool.not_true, Bool.not_false, Mif_bool, Mif_undef, pickV_bool, Mcd_bool, Mpu_some, if_true, if_false, Bool.false_eq_true, Bool.true_eq_false, decide_true, decide_false, reduceCtorEq, ex20, ex21, ex30, ex31, ex32, Mre_ok, Mre_nil]
      exact hk12 _ _ ⟨rfl, fun h => by rw [hb] at h; cases h⟩
  rintro u _ ⟨rfl, hu⟩
  have hp : pickV (.bool (decide (15 < l.length))) (.bool true) u = some (.bool (decide (15 < l.length ∨ 15 < m.length))) := by
    rw [pickV_bool]
    by_cases hb : 15 < l.length
    · simp [hb]
    · rw [hu (by simpa using hb)]; simp [hb]
  rw [hp, Mpu_some, Mcd_bool]
  by_cases hbig : 15 < l.length ∨ 15 < m.length
  · rw [if_pos (by simpa using hbig)]
    refine call_i (c_awake22 (hS.keep k2 fun _ h => h.elim) (hT.keep k2 fun _ h => h.elim)) ?_
    rintro _ h11 ⟨rfl, k11⟩
    exact ⟨rfl, k2.trans k11⟩
  rw [if_neg (by simpa using hbig)]
  refine call_i (c_made (hv.keep k2 fun _ _ => id) (fun b hb => Nat.lt_of_lt_of_le hb k2.1) (by omega) (fun r hr => hsl r (List.mem_append_left _ hr)) (hS.keep k2 fun _ h => h.elim) (hT.keep k2 fun _ h => h.elim)) ?_
  rintro _ h15 ⟨p1, rfl, hh1, k15⟩
  have k215 := k2.trans k15
  refine call_i (c_made (hw.keep k215 fun _ _ => id) (fun b hb => Nat.lt_of_lt_of_le hb k215.1) (by omega) (fun r hr => hsl r (List.mem_append_right _ hr)) (hS.keep k215 fun _ h => h.elim) (hT.keep k215 fun _ h => h.elim)) ?_
  rintro _ h16 ⟨p2, rfl, hh2, k16⟩
  have k216 := k215.trans k16
  have hh1 := hh1.keep k16 fun _ _ _ => id
  have g1 := made_grown (by omega) hv.2
  have g2 := made_grown (by omega) hw.2
  generalize madeF (l.map (·.1)) = rs at *
  generalize madeF (m.map (·.1)) = rs2 at *
  obtain ⟨Fr, Fc, Fi, ha, _⟩ := hh1
  obtain ⟨Gr, Gc, Gi, hb, _⟩ := hh2
  have pn : ∀ x, binV .ptr .eql (Ptr x 0) (.pointer none) = some (.bool false) := fun x => rfl
  simp only [pn, unV_not, Bool.not_true, Bool.not_false, Mif_bool, Mif_undef, pickV_bool, Mcd_bool, Mpu_some, if_true, if_false, Bool.false_eq_true, Bool.true_eq_false, decide_true, decide_false, reduceCtorEq, ex20, ex21, ex30, ex31, ex32, Mre_ok, Mre_nil]
  refine J1_eq.2 ?_
  simp only [pn, unV_not, Bool.not_true, Bool.not_false, Mif_bool, Mif_undef, pickV_bool, Mcd_bool, Mpu_some, if_true, if_false, Bool.false_eq_true, Bool.true_eq_false, decide_true, decide_false, reduceCtorEq, ex20, ex21, ex30, ex31, ex32, Mre_ok, Mre_nil]
  refine call_i (c_Collide ha hb g1 g2 (hS.keep k216 fun _ h => h.elim) (hT.keep k216 fun _ h => h.elim)) ?_
  rintro u19 h19 ⟨hcol, k19⟩
  have k219 := k216.trans k19
  have ex0 : ∀ x y : Value, extV 0 (.tuple #[x, y]) = some x := fun _ _ => rfl
  have ex1 : ∀ x y : Value, extV 1 (.tuple #[x, y]) = some y := fun _ _ => rfl
  obtain ⟨va, vb, f, rfl, two, hf0, hf1⟩ : ∃ va vb f, u19 = .tuple #[.agg [va, vb].toArray, .bool f] ∧ (∀ c ∈ [va, vb], c.oneCell' = true) ∧ (f = false → rs.length = rs2.length → topF (chL rs) = topF (chL rs2) → rs = rs2) ∧
      (f = true → rs.length = rs2.length ∧ topF (chL rs) = topF (chL rs2) ∧ rs ≠ rs2 ∧ ∃ A B, Sl (fun x => h16.size ≤ x ∧ x < h19.size) h19 va A ∧ Sl (fun x => h16.size ≤ x ∧ x < h19.size) h19 vb B ∧ A ≠ B ∧ shaF A = shaF B ∧ A.length ≤ 200000 ∧ B.length ≤ 200000) := by
    rcases hcol with ⟨h1, h2⟩ | ⟨va, vb, i, a, b, h1, h2, h3, ga, gb, sa, sb, hab, hsum⟩
    · exact ⟨_, _, false, h1, fun c hc => by simp at hc; subst hc; rfl, fun _ => h2, fun h => by cases h⟩
    · exact ⟨va, vb, true, h1, two_one sa sb, fun h => (by cases h), fun _ => ⟨h2, h3, coll_ne ⟨a, b, ga, gb, hab, hsum⟩, _, _, sa, sb, hab, hsum, (inp_len g1 ga).1, (inp_len g2 gb).1⟩⟩
  rw [ex0, Mpu_some, ex1, Mpu_some, z_Coll, Mnew_some]
  generalize hH20 : h19.push (.cells [Value.slice none 0 0, .slice none 0 0].toArray T_collide_Collision (0, 0)) = h20
  have k20 : Keep (fun _ => False) h19 h20 := by rw [← hH20]; exact Keep.push
  have a20 : At h20 h19.size [.slice none 0 0, .slice none 0 0] := by rw [← hH20]; exact At.push
  obtain ⟨h21, st, a21, k21⟩ := a20.st (n := 2) (ds := [va, vb]) rfl rfl two
  rw [show (Value.pointer (some ⟨h19.size, 0, none⟩)) = Ptr h19.size 0 from rfl, st, Mwr_some]
  have kk21 : Keep (fun _ => False) h19 h21 := k20.fresh k21 fun b hb => by omega
  have k1921 := k19.trans kk21
  have kH21 := k216.trans k1921
  have ha21 := ha.keep k1921 fun _ _ => id
  have hb21 := hb.keep k1921 fun _ _ => id
  refine call_i (c_HistLen ha21) ?_
  rintro _ _ ⟨rfl, rfl⟩
  refine call_i (c_HistLen hb21) ?_
  rintro _ _ ⟨rfl, rfl⟩
  have elen : binV .no .eql (.int .i64 (rs.length : Nat)) (.int .i64 (rs2.length : Nat)) = some (.bool (decide (rs.length = rs2.length))) := by
    rw [binV_int]; simp only [intV]; congr 2
    rw [Bool.eq_iff_iff]; simp; omega
  rw [elen, Mpu_some]
  refine J1_i (fun u h => Keep (fun _ => False) h21 h ∧ (rs.length = rs2.length → u = .bool (decide (topF (chL rs) = topF (chL rs2))))) (fun k24 hk24 => ?_) ?_
  · by_cases hll : rs.length = rs2.length
    · simp only [hll, decide_true, Mif_bool, if_true]
      refine call_i (c_HistTop ha21) ?_
      rintro _ h25 ⟨rfl, k25⟩
      refine call_i (c_HistTop (hb21.keep k25 fun _ _ => id)) ?_
      rintro _ h26 ⟨rfl, k26⟩
      rw [eq_Hash (topF_len ha.c32) (topF_len hb.c32), Mpu_some]
      exact hk24 _ _ ⟨k25.trans k26, fun _ => rfl⟩
    · simp only [hll, decide_false, Mif_bool, Bool.false_eq_true, if_false]
      exact hk24 _ _ ⟨Keep.refl, fun h => absurd h hll⟩
  rintro u h27 ⟨k27, hu⟩
  have hp2 : pickV (.bool (decide (rs.length = rs2.length))) u (.bool false) = some (.bool (decide (rs.length = rs2.length ∧ topF (chL rs) = topF (chL rs2)))) := by
    rw [pickV_bool]
    by_cases hll : rs.length = rs2.length
    · rw [hu hll]; simp [hll]
    · simp [hll]
  rw [hp2, Mpu_some]
  have k2127 := k1921.trans k27
  refine J1_i (fun u h => Keep (fun _ => False) h27 h ∧ (rs.length = rs2.length ∧ topF (chL rs) = topF (chL rs2) → ∃ b, u = .bool b ∧ (b = true ↔ rs ≠ rs2))) (fun k28 hk28 => ?_) ?_
  · by_cases hc : rs.length = rs2.length ∧ topF (chL rs) = topF (chL rs2)
    · simp only [hc, and_self, decide_true, Mif_bool, if_true]
      refine call_i (c_HistEqualG (ha.keep k2127 fun _ _ => id) (hb.keep k2127 fun _ _ => id)) ?_
      rintro _ h29 ⟨⟨b, rfl, hbb⟩, k29⟩
      rw [unV_not, Mpu_some]
      refine hk28 _ _ ⟨k29, fun _ => ⟨!b, rfl, ?_⟩⟩
      cases b
      · simp only [Bool.not_false, true_iff]; exact fun e => by cases hbb.2 e
      · simp only [Bool.not_true, Bool.false_eq_true, false_iff]; exact fun h => h (hbb.1 rfl)
    · simp only [hc, decide_false, Mif_bool, Bool.false_eq_true, if_false]
      exact hk28 _ _ ⟨Keep.refl, fun h => absurd h hc⟩
  rintro u h30 ⟨k30, hu2⟩
  have hp3 : pickV (.bool (decide (rs.length = rs2.length ∧ topF (chL rs) = topF (chL rs2)))) u (.bool false) = some (.bool f) := by
    rw [pickV_bool]
    by_cases hc : rs.length = rs2.length ∧ topF (chL rs) = topF (chL rs2)
    · obtain ⟨b, rfl, hbb⟩ := hu2 hc
      rw [if_pos (by simpa using hc)]
      cases f
      · cases b
        · rfl
        · exact absurd (hf0 rfl hc.1 hc.2) (hbb.1 rfl)
      · cases b
        · exact absurd (hbb.2 (hf1 rfl).2.2.1) (by decide)
        · rfl
    · rw [if_neg (by simpa using hc)]
      cases f
      · rfl
      · exact absurd ⟨(hf1 rfl).1, (hf1 rfl).2.1⟩ hc
  have eb : ∀ x : Bool, binV .bool .eql (.bool x) (.bool x) = some (.bool true) := fun x => by cases x <;> rfl
  rw [hp3, Mpu_some, eb, Mpu_some]
  have kH30 := kH21.trans (k27.trans k30)
  have k2130 := k27.trans k30
  have fin : ∀ g, Keep (fun _ => False) H g → Mcall prg f_syngraphlaw22_awake [] g fun t96 h45 => t96 = .bool true ∧ Keep (fun _ => False) H h45 := fun g kg => by
    refine call_i (c_awake22 (hS.keep kg fun _ h => h.elim) (hT.keep kg fun _ h => h.elim)) ?_
    rintro _ h11 ⟨rfl, k11⟩
    exact ⟨rfl, kg.trans k11⟩
  refine J1_eq.2 ?_
  simp only [Mif_bool, if_true, unV_not, Mpu_some]
  cases f
  · refine J1_eq.2 ?_
    simp only [Bool.not_false, Mif_bool, Bool.true_eq_false, if_false]
    refine J1_eq.2 ?_
    simp only [Mif_undef]
    refine J1_eq.2 ?_
    simp only [Mif_bool, Bool.true_eq_false, if_false]
    refine J1_eq.2 ?_
    simp only [pickV_bool, if_true, Mpu_some]
    refine J1_eq.2 ?_
    try simp only [Mif_bool, if_true]
    exact fin _ kH30
  · obtain ⟨_, _, _, A, B, sa, sb, hab, hsum, lA, lB⟩ := hf1 rfl
    have k1930 := kk21.trans k2130
    have s30 := k1930.1
    have sa30 := (sa.keep k1930 fun _ _ => id).mono (Q := fun x => x < h30.size) fun x hx => Nat.lt_of_lt_of_le hx.2 s30
    have sb30 := (sb.keep k1930 fun _ _ => id).mono (Q := fun x => x < h30.size) fun x hx => Nat.lt_of_lt_of_le hx.2 s30
    have L0 : ∀ {g}, Keep (fun _ => False) h21 g → ld1 g (Ptr h19.size 0) = some va := fun k => (a21.keep k id).ld rfl
    have L1 : ∀ {g}, Keep (fun _ => False) h21 g → ld1 g (Ptr h19.size 1) = some vb := fun k => (a21.keep k id).ld rfl
    have f0 : fld 0 (Ptr h19.size 0) = some (Ptr h19.size 0) := rfl
    have f1 : fld 1 (Ptr h19.size 0) = some (Ptr h19.size 1) := rfl
    have estr : binV .no .neq (.string ⟨A.toArray⟩) (.string ⟨B.toArray⟩) = some (.bool true) := by
      have : binV .no .neq (.string ⟨A.toArray⟩) (.string ⟨B.toArray⟩) = some (.bool (!decide (A = B))) := strV_ne
      rw [this, decide_eq_false hab]; rfl
    refine J1_eq.2 ?_
    simp only [Bool.not_true, Mif_bool, if_true, f0, f1, L0 k2130, L1 k2130, sa30.b2s, sb30.b2s, estr, Mpu_some]
    refine J1_eq.2 ?_
    simp only [Mif_bool, if_true, f0, f1, L0 k2130, L1 k2130, Mpu_some]
    refine call_i (c_ShaSum sa30 (hS.keep kH30 fun _ h => h.elim) (fun _ h => h) (by omega)) ?_
    rintro _ h36 ⟨rfl, k36⟩
    simp only [L1 (k2130.trans k36), Mre_cons, Mre_nil, true_and]
    refine call_i (c_ShaSum (sb30.keep k36 fun _ _ => id) (hS.keep (kH30.trans k36) fun _ h => h.elim) (fun _ h => Nat.lt_of_lt_of_le h k36.1) (by omega)) ?_
    rintro _ h37 ⟨rfl, k37⟩
    rw [eq_Hash shaF_len shaF_len, decide_eq_true hsum, Mpu_some]
    refine J1_eq.2 ?_
    simp only [Mif_bool, if_true, pickV_bool, Mpu_some]
    refine J1_eq.2 ?_
    simp only [Mif_bool, if_true, pickV_bool, Mpu_some, Bool.false_eq_true, if_false]
    refine J1_eq.2 ?_
    try simp only [Mif_bool, if_true]
    exact fin _ (kH30.trans (k36.trans k37))
end Go.Proofs.YtconalffokhplaaDoor
