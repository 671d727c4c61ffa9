/- JOINED: V189 V190 -/
import Derived.Test.YtanhgihfgmbojaaGreatDoorG21
import Derived.Test.YtanhgihfgmbojaaGreatDoorG6
set_option linter.unusedSimpArgs false
set_option linter.unusedVariables false
/- slices.Delete of one int. -/
namespace Go.Proofs.YtanhgihfgmbojaaGreatDoor
open Go.X Go.X.Diff
set_option maxRecDepth 100000
set_option linter.unusedSimpArgs false
set_option linter.unusedVariables false

theorem z_int' : zcells prg T_int = some #[Value.int .i64 0] := by kernel_rfl
theorem u_SI : prg.underlying T_S_int = some (.slice T_int) := by kernel_rfl
theorem clear_one {H : Heap} {b o cap : Nat} {cs : Array Value} {T : TypeId} {f : Nat × Nat} {k : Value → Heap → Prop} (hb : H[b]? = some (.cells cs T f)) (ho : o + 1 ≤ cs.size) (ht : ∀ i n, thaw f i n = true)
    (hk : k (.tuple #[]) (H.setIfInBounds b (.cells (spl cs o #[Value.int .i64 0]) T f))) : Msem prg (Builtin.clear_ #[T_S_int] 0 #[.slice (some ⟨b, o, none⟩) 1 cap]) H k := by
  intro w hwH
  obtain ⟨z, hz, hzc⟩ := zero_run (P := prg) (w := w) z_int'
  have hst0 := stA_at hb o #[Value.int .i64 0] (ht _ _) (by simpa using ho) (all_of (l := [.int .i64 0]) fun c hc => by simp at hc; subst hc; rfl)
  have hrun := stA_run (P := prg) (w := w) (by rw [hwH]; exact hst0)
  have hzl : (Builtin.zeroCells z.cells 1).toList = (#[Value.int .i64 0] : Array Value).toList := by rw [hzc]; kernel_rfl
  refine ⟨.tuple #[], { w with heap := H.setIfInBounds b (.cells (spl cs o #[Value.int .i64 0]) T f) }, ?_, ⟨rfl, rfl, rfl, ?_⟩, hk⟩
  · have hrun' := hrun
    rw [← hzl] at hrun'
    simp [Builtin.clear_, run_und u_SI, hz, hrun']
  · rw [hwH]; exact Solid.set hb
theorem takeA {A B : List Value} {n : Nat} (h : A.length = n) : (A ++ B).take n = A := by rw [← h, List.take_left]
theorem c_DeleteI {F : Nat → Prop} {H : Heap} {v : Value} {xs : List Int} {i : Nat} (h : BufE 1 F H v (ints xs)) (hi : i < xs.length) (hl : xs.length ≤ 1000000) :
    HCalls prg f_slices_Delete_S_int_int [v, .int .i64 (i : Nat), .int .i64 ((i + 1 : Nat) : Int)] H fun u H' => BufE 1 F H' u (ints (xs.take i ++ xs.drop (i + 1))) ∧ Keep F H H' := by
  apply sh_slices_Delete_S_int_int_calls
  unfold sh_slices_Delete_S_int_int
  have hsl := h.sl
  have lv := hsl.len
  rw [ints_len] at lv
  have hne : ints xs ≠ [] := fun e => by have := congrArg List.length e; rw [ints_len, List.length_nil] at this; omega
  obtain ⟨t25, e25, hs25⟩ := hsl.cut hne (lo := i + 1) (hi := (ints xs).length) (by rw [ints_len]; omega) (Nat.le_refl _) (l := some (.int .i64 ((i + 1 : Nat) : Int))) (r := none) (by simp only [bnd]; rw [ints_len, if_pos (by omega)]; rfl) (fun c hc => rfl)
  rw [List.take_length] at hs25
  obtain ⟨g1, g2, h0 | ⟨b, o, c, cs, T, f, rfl, hf, hc, hb, hle, ht, hcells⟩⟩ := h
  · exact absurd h0.2 hne
  rw [ints_len] at hc hcells
  rw [Nat.mul_one] at hle hcells
  have efl : (ints xs).flatten = xs.map (Value.int .i64) := rows1_flat
  rw [efl] at hcells
  have hcs : cs.toList.length = cs.size := by simp
  have x13 : ∃ t13, slS 1 (.slice (some ⟨b, o, none⟩) (ints xs).length c) (some (.int .i64 (i : Nat))) (some (.int .i64 ((i + 1 : Nat) : Int))) (some (.int .i64 (xs.length : Nat))) = some t13 := by
    have hbn : bnds (ints xs).length c (some (.int .i64 (i : Nat))) (some (.int .i64 ((i + 1 : Nat) : Int))) (some (.int .i64 (xs.length : Nat))) = some (i, i + 1, xs.length) := by
      simp only [bnds, bnd]
      rw [if_pos (by omega)]
      simp only [Option.bind_some, Int.toNat_natCast]
      rw [if_pos (by omega)]
      simp only [Option.bind_some, Int.toNat_natCast]
      rw [if_pos (by omega)]; rfl
    exact ⟨.slice (some ⟨b, if xs.length = i then o else o + i * 1, none⟩) (i + 1 - i) (xs.length - i), by simp only [slS]; rw [hbn]; rfl⟩
  obtain ⟨t13, e13⟩ := x13
  have e22 : slS 1 (.slice (some ⟨b, o, none⟩) (ints xs).length c) none (some (.int .i64 (i : Nat))) none = some (.slice (some ⟨b, o, none⟩) i c) := by
    have hbn : bnds (ints xs).length c none (some (.int .i64 (i : Nat))) none = some (0, i, c) := by
      simp only [bnds, bnd, Option.bind_some]
      rw [if_pos (by omega)]; rfl
    simp only [slS]; rw [hbn]; simp
  have eil : binV .no .eql (.int .i64 (i : Nat)) (.int .i64 ((i + 1 : Nat) : Int)) = some (.bool false) := by rw [eqNn, decide_eq_false (by omega)]
  rw [lv, Mpu_some, e13, Mpu_some, eil, Mpu_some, Mcd_bool, if_neg (by decide), Mpu_some, e22, Mpu_some, e25, Mpu_some]
  have hel := hs25.elems
  have hal := hs25.all
  have hdl : ((ints xs).drop (i + 1)).length = xs.length - (i + 1) := by rw [List.length_drop, ints_len]
  have hdf : ((ints xs).drop (i + 1)).flatten = (xs.drop (i + 1)).map (Value.int .i64) := by
    rw [show (ints xs).drop (i + 1) = ints (xs.drop (i + 1)) by simp [rows1, List.map_drop]]; exact rows1_flat
  rw [hdl] at hel
  rw [hdf] at hel hal
  have hnl : ((xs.drop (i + 1)).map (Value.int .i64)).length = xs.length - (i + 1) := by simp
  refine ⟨some ⟨b, o, none⟩, i, c, xs.length - (i + 1), _, rfl, hel, hal, fun h0 => ?_, fun h0 => by omega⟩
  have hsz : o + i * 1 + ((xs.drop (i + 1)).map (Value.int .i64)).toArray.size ≤ cs.size := by simp only [List.size_toArray, hnl]; omega
  refine ⟨_, stA_at hb _ _ (ht _ _) hsz hal, ?_⟩
  generalize hcs1 : spl cs (o + i * 1) ((xs.drop (i + 1)).map (Value.int .i64)).toArray = cs1
  have sz1 : cs1.size = cs.size := by rw [← hcs1]; exact spl_size hsz
  generalize hH1 : H.setIfInBounds b (.cells cs1 T f) = H1
  have hb1 : H1[b]? = some (.cells cs1 T f) := by rw [← hH1]; exact set_self hb
  have kk1 : Keep F H H1 := by rw [← hH1]; exact Keep.set hf
  have hc1 : (cs1.toList.drop o).take (xs.length - 1) = (xs.take i ++ xs.drop (i + 1)).map (Value.int .i64) := by
    rw [← hcs1]
    unfold spl
    show ((List.take (o + i * 1) cs.toList ++ (xs.drop (i + 1)).map (Value.int .i64) ++ _).drop o).take _ = _
    rw [Nat.mul_one, List.append_assoc, List.drop_append_of_le_length (by rw [List.length_take]; omega), List.drop_take, Nat.add_sub_cancel_left]
    have e1 : (cs.toList.drop o).take i = (xs.take i).map (Value.int .i64) := by
      have := congrArg (List.take i) hcells
      rw [List.take_take, Nat.min_eq_left (by omega), ← List.map_take] at this
      exact this
    rw [e1, ← List.append_assoc, ← List.map_append]
    exact takeA (by rw [List.length_map, List.length_append, List.length_take, List.length_drop]; omega)
  have l26 : lenV (.slice (some ⟨b, o, none⟩) (i + (xs.length - (i + 1))) c) = some (.int .i64 ((xs.length - 1 : Nat) : Int)) := by
    rw [show i + (xs.length - (i + 1)) = xs.length - 1 by omega]; rfl
  have e31 : slS 1 (.slice (some ⟨b, o, none⟩) (i + (xs.length - (i + 1))) c) (some (.int .i64 ((xs.length - 1 : Nat) : Int))) (some (.int .i64 (xs.length : Nat))) none = some (.slice (some ⟨b, o + (xs.length - 1), none⟩) 1 (c - (xs.length - 1))) := by
    have hbn : bnds (i + (xs.length - (i + 1))) c (some (.int .i64 ((xs.length - 1 : Nat) : Int))) (some (.int .i64 (xs.length : Nat))) none = some (xs.length - 1, xs.length, c) := by
      simp only [bnds, bnd, Option.bind_some]
      rw [if_pos (by omega)]
      simp only [Option.bind_some, Int.toNat_natCast]
      rw [if_pos (by omega)]; rfl
    simp only [slS]; rw [hbn]
    simp only [Option.isSome_none, Bool.false_and, Bool.false_eq_true, if_false, Option.bind_some, Nat.mul_one]
    rw [if_neg (by omega), show xs.length - (xs.length - 1) = 1 by omega]
  show Mpu (lenV (.slice (some ⟨b, o, none⟩) (i + (xs.length - (i + 1))) c)) _
  rw [l26, Mpu_some, e31, Mpu_some]
  refine clear_one hb1 (by omega) ht ?_
  have hsz2 : o + (xs.length - 1) + (#[Value.int .i64 0] : Array Value).size ≤ cs1.size := by simp; omega
  refine ⟨⟨rows1_el, rows1_one fun y hy => ?_, .inr ⟨b, o, c, spl cs1 (o + (xs.length - 1)) #[.int .i64 0], T, f, ?_, hf, ?_, set_self hb1, ?_, ht, ?_⟩⟩, kk1.trans (Keep.set hf)⟩
  · obtain ⟨n, _, rfl⟩ := List.mem_map.1 hy; rfl
  · rw [ints_len, List.length_append, List.length_take, List.length_drop]
    congr 1; omega
  · rw [ints_len, List.length_append, List.length_take, List.length_drop]; omega
  · rw [spl_size hsz2, sz1]; omega
  · rw [rows1_flat, ints_len, ← hc1, Nat.mul_one, List.length_append, List.length_take, List.length_drop, show min i xs.length + (xs.length - (i + 1)) = xs.length - 1 by omega]
    unfold spl
    have hcs1l : cs1.toList.length = cs1.size := by simp
    show ((List.take (o + (xs.length - 1)) cs1.toList ++ _ ++ _).drop o).take _ = _
    rw [List.append_assoc, List.drop_append_of_le_length (by rw [List.length_take]; omega), List.drop_take, Nat.add_sub_cancel_left]
    exact takeA (by rw [List.length_take, List.length_drop]; omega)
end Go.Proofs.YtanhgihfgmbojaaGreatDoor

/- solve: ready, Order. -/
namespace Go.Proofs.YtanhgihfgmbojaaGreatDoor
open Go.X Go.X.Diff
set_option maxRecDepth 100000
set_option linter.unusedSimpArgs false
set_option linter.unusedVariables false

theorem of_any {hv : List Man} {left : List Nat} {nm : List UInt8} {k : Nat} (hN : Names hv left) (hk : k ∈ left) : (match ofF hv left nm with | some j => decide (j ≠ k) | none => false) = left.any fun j => decide ((gM hv j).name = nm) && decide (j ≠ k) := by
  cases hof : ofF hv left nm with
  | none =>
    rw [List.any_eq_false.2 fun j hj => ?_]
    have := of_none hof j hj
    simp [this]
  | some j =>
    obtain ⟨h1, h2⟩ := of_some hof
    by_cases e : j = k
    · subst e
      simp only [ne_eq, not_true_eq_false, decide_false]
      rw [List.any_eq_false.2 fun i hi => ?_]
      by_cases hn : (gM hv i).name = nm
      · rw [hN.same hi h1 (hn.trans h2.symm)]; simp
      · simp [hn]
    · rw [List.any_eq_true.2 ⟨j, h1, by simp [h2, e]⟩]
      simp [e]
theorem c_ready11 {P Q : Nat → Prop} {H : Heap} {mv : List MV} {wants : List Dep} {vh vw vl : Value} {b : Int} {q r t k : Nat} {left : List Nat} {d : Dep} (hp : Prb P H mv wants vh vw) (aq : At H q (prbC vh vw b)) (ar : At H r [vl]) (at' : At H t [.int .i64 (k : Nat)]) (hs : SlE 1 Q H vl (ints (zs left))) (hN : Names (hvOf mv) left) (hk : k ∈ left) (hd : d.wf) (hl : left.length ≤ 1000) :
    HCalls prg f_solve_Problem_ready_1_1 [.agg (depC d).toArray, Ptr q 0, Ptr r 0, Ptr t 0] H fun u H' => u = .bool (left.any fun j => decide ((gM (hvOf mv) j).name = d.name) && decide (j ≠ k)) ∧ Keep (fun _ => False) H H' := by
  apply sh_solve_Problem_ready_1_1_calls
  unfold sh_solve_Problem_ready_1_1
  simp only [Cells_agg, Mnew_some]
  generalize hH1 : H.push (.cells (depC d).toArray T_manifest_Dep (0, 0)) = H1
  have k1 : Keep (fun _ => False) H H1 := by rw [← hH1]; exact Keep.push
  have a1 : At H1 H.size (depC d) := by rw [← hH1]; exact At.push
  rw [(aq.keep k1 id).ldN (n := 3) rfl, Mpu_some, (ar.keep k1 id).ld (i := 0) rfl, Mpu_some, fld_ptr, Mpu_some, Nat.add_zero, depNm a1, Mpu_some]
  refine call_i (c_of (hp.keep k1 fun _ _ => id) (hs.keep k1 fun _ _ => id) hN.1 (by omega)) ?_
  rintro _ h2 ⟨rfl, k2⟩
  rw [← of_any hN hk]
  cases hof : ofF (hvOf mv) left d.name with
  | none =>
    simp only [extV_tuple]
    rw [show (#[Value.int .i64 0, .bool false][0]?) = some (.int .i64 0) from rfl, Mpu_some, show (#[Value.int .i64 0, .bool false][1]?) = some (.bool false) from rfl, Mpu_some]
    refine J1_no (by decide) ?_
    rw [pickV_bool, if_neg (by decide), Mpu_some]
    exact ⟨rfl, k1.trans k2⟩
  | some j =>
    simp only [extV_tuple]
    rw [show (#[Value.int .i64 (j : Nat), .bool true][0]?) = some (.int .i64 (j : Nat)) from rfl, Mpu_some, show (#[Value.int .i64 (j : Nat), .bool true][1]?) = some (.bool true) from rfl, Mpu_some]
    have enq : binV .no .neq (.int .i64 (j : Nat)) (.int .i64 (k : Nat)) = some (.bool (decide (j ≠ k))) := by
      rw [binV_int]; simp only [intV]; congr 2; rw [Bool.eq_iff_iff]; simp; omega
    refine J1_yes rfl ?_
    rw [((at'.keep k1 id).keep k2 id).ld (i := 0) rfl, Mpu_some, enq, Mpu_some]
    show Mpu (pickV (.bool true) (.bool (decide (j ≠ k))) (.bool false)) _
    rw [pickV_bool, if_pos rfl, Mpu_some]
    exact ⟨rfl, k1.trans k2⟩
theorem minV_no : minV false [.int .i64 (-1), .int .i64 0] = some (.int .i64 0) := rfl
theorem minV_nat {i : Nat} : minV false [.int .i64 (i : Nat), .int .i64 0] = some (.int .i64 (i : Nat)) := by
  simp only [minV, Bool.false_eq_true, if_false]
  rw [if_neg (by omega)]
theorem c_ready {P Q : Nat → Prop} {H : Heap} {mv : List MV} {wants : List Dep} {vh vw vl : Value} {b : Int} {left : List Nat} (hp : Prb P H mv wants vh vw) (hs : SlE 1 Q H vl (ints (zs left))) (hN : Names (hvOf mv) left) (hl : left.length ≤ 1000) :
    HCalls prg f_solve_Problem_ready [.agg (prbC vh vw b).toArray, vl] H fun u H' => (∃ i, u = .int .i64 (i : Nat) ∧ (left ≠ [] → left[i]? = some (pickF (hvOf mv) left))) ∧ Keep (fun _ => False) H H' := by
  apply sh_solve_Problem_ready_calls
  unfold sh_solve_Problem_ready
  obtain ⟨pv, cv, ev⟩ := hs.shape
  have ec : Value.cells vl = [vl].toArray := by rw [ev]; rfl
  rw [ec]
  simp only [Cells_agg, Mnew_some]
  generalize hH1 : H.push (.cells (prbC vh vw b).toArray T_solve_Problem (0, 0)) = H1
  have k1 : Keep (fun _ => False) H H1 := by rw [← hH1]; exact Keep.push
  have a1 : At H1 H.size (prbC vh vw b) := by rw [← hH1]; exact At.push
  generalize hH2 : H1.push (.cells [vl].toArray T_S_int (0, 0)) = H2
  have k2 : Keep (fun _ => False) H1 H2 := by rw [← hH2]; exact Keep.push
  have a2 : At H2 H1.size [vl] := by rw [← hH2]; exact At.push
  have k02 := k1.trans k2
  have b1 := a1.keep k2 id
  rw [a2.ld (i := 0) rfl, Mpu_some]
  have hd : DelI (.func (.func f_solve_Problem_ready_1) #[] #[Ptr H.size 0, Ptr H1.size 0]) (zs left) (fun n => freeF (hvOf mv) left n.toNat) (fun h => Keep (fun _ => False) H2 h) := fun n h hn kh => by
    obtain ⟨k, hkm, rfl⟩ := zs_mem hn
    refine .inl ⟨f_solve_Problem_ready_1, #[], #[Ptr H.size 0, Ptr H1.size 0], rfl, by kernel_rfl, ?_⟩
    show HCalls prg f_solve_Problem_ready_1 [.int .i64 (k : Nat), Ptr H.size 0, Ptr H1.size 0] h _
    apply sh_solve_Problem_ready_1_calls
    unfold sh_solve_Problem_ready_1
    have ec2 : Value.cells (.int .i64 (k : Nat)) = [Value.int .i64 (k : Nat)].toArray := rfl
    rw [ec2]
    simp only [Mnew_some]
    generalize hG1 : h.push (.cells [Value.int .i64 (k : Nat)].toArray T_int (0, 0)) = g1
    have kg : Keep (fun _ => False) h g1 := by rw [← hG1]; exact Keep.push
    have ag : At g1 h.size [.int .i64 (k : Nat)] := by rw [← hG1]; exact At.push
    have k0g := (k02.trans kh).trans kg
    have c1 := (b1.keep kh id).keep kg id
    have c2 := (a2.keep kh id).keep kg id
    obtain ⟨x, hx, hgx, hxm, hmx, bx, ox, hix, hpx, _⟩ := (hp.keep k0g fun _ _ => id).at (hN.1 k hkm)
    rw [fld_ptr, Mpu_some, Nat.add_zero, c1.ld (i := 0) rfl, Mpu_some, ag.ld (i := 0) rfl, Mpu_some, hix .i64, Mpu_some, fld_ptr, Mpu_some, show ld1 g1 (Ptr bx (ox + 5)) = some x.2.1 from hpx.cell (i := 5) (by simp [mvC, manC, verC_len hmx.wf.ver, List.getElem?_append_right]), Mpu_some]
    have hdd : DelD (.func (.func f_solve_Problem_ready_1_1) #[] #[Ptr H.size 0, Ptr H1.size 0, Ptr h.size 0]) x.1.deps (fun d => left.any fun j => decide ((gM (hvOf mv) j).name = d.name) && decide (j ≠ k)) (fun g => Keep (fun _ => False) g1 g) := fun d g hdm kgg => by
      refine .inl ⟨f_solve_Problem_ready_1_1, #[], #[Ptr H.size 0, Ptr H1.size 0, Ptr h.size 0], rfl, by kernel_rfl, ?_⟩
      exact c_ready11 (hp.keep (k0g.trans kgg) fun _ _ => id) (c1.keep kgg id) (c2.keep kgg id) (ag.keep kgg id) (hs.keep (k0g.trans kgg) fun _ _ => id) hN hkm (hmx.wf.deps d hdm) hl
    refine call_i (c_ContainsDep hmx.d hmx.wf.deps hdd (fun g kg => kg) (by have := (hp.sm x hxm).1; omega)) ?_
    rintro _ h2 ⟨rfl, k2'⟩
    rw [unV_not, Mpu_some]
    refine ⟨?_, kg.trans k2'⟩
    show Value.bool _ = .bool (freeF (hvOf mv) left ((k : Nat) : Int).toNat)
    rw [Int.toNat_natCast]
    unfold freeF
    rw [hgx]
  refine call_i (c_IndexInt (hs.keep k02 fun _ _ => id) hd (fun h kh => kh) (by rw [zs_len]; omega)) ?_
  rintro _ h3 ⟨k3, ⟨rfl, hno⟩ | ⟨i, rfl, hno, x, hg, hx⟩⟩
  · rw [minV_no, Mpu_some]
    refine ⟨⟨0, rfl, fun hne => ?_⟩, k02.trans k3⟩
    have hfind : left.find? (freeF (hvOf mv) left) = none := List.find?_eq_none.2 fun k hk => by
      have := hno _ (zs_mem' hk)
      rw [Int.toNat_natCast] at this
      simp [this]
    unfold pickF
    rw [hfind]
    cases left with
    | nil => exact absurd rfl hne
    | cons a l => rfl
  · rw [minV_nat, Mpu_some]
    refine ⟨⟨i, rfl, fun hne => ?_⟩, k02.trans k3⟩
    obtain ⟨k, hgk, rfl⟩ := zs_get' hg
    rw [Int.toNat_natCast] at hx
    have hfind : left.find? (freeF (hvOf mv) left) = some k := find_at (i := i) (fun p hp => by
      have := hno (p : Int) (by rw [zs_take]; exact zs_mem' hp)
      rw [Int.toNat_natCast] at this
      exact this) hgk hx
    unfold pickF
    rw [hfind, hgk]; rfl
end Go.Proofs.YtanhgihfgmbojaaGreatDoor

