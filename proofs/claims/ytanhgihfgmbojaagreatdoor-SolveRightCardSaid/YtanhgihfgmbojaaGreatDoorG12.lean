/- JOINED: V175 V176 -/
import Derived.Test.YtanhgihfgmbojaaGreatDoorG11
set_option linter.unusedSimpArgs false
set_option linter.unusedVariables false
/- law 20: right. -/
namespace Go.Proofs.YtanhgihfgmbojaaGreatDoor
open Go.X Go.X.Diff
set_option maxRecDepth 100000
set_option linter.unusedSimpArgs false
set_option linter.unusedVariables false

set_option maxHeartbeats 4000000 in
theorem c_right20 {P : Nat → Prop} {H : Heap} {mv : List MV} {wants : List Dep} {vh vw : Value} {b : Int} (hp : Prb P H mv wants vh vw) (hl : mv.length ≤ 256) (hwl : wants.length ≤ 64) (hO : OpsT H) :
    HCalls prg f_syngraphlaw20_right [.agg (prbC vh vw b).toArray] H fun u H' => u = .bool (probOk (hvOf mv) wants b) ∧ Keep (fun _ => False) H H' := by
  apply sh_syngraphlaw20_right_calls
  unfold sh_syngraphlaw20_right
  simp only [Cells_agg, Mnew_some, fld_ptr, Nat.zero_add, Nat.add_zero, Mpu_some]
  generalize hH1 : H.push (.cells (prbC vh vw b).toArray T_solve_Problem (0, 0)) = H1
  have k1 : Keep (fun _ => False) H H1 := by rw [← hH1]; exact Keep.push
  have a1 : At H1 H.size (prbC vh vw b) := by rw [← hH1]; exact At.push
  have d0 : ∀ h, Keep (fun _ => False) H1 h → ld1 h (Ptr H.size 0) = some vh := fun h k => (a1.keep k id).ld rfl
  have d1 : ∀ h, Keep (fun _ => False) H1 h → ld1 h (Ptr H.size 1) = some vw := fun h k => (a1.keep k id).ld rfl
  have d2 : ∀ h, Keep (fun _ => False) H1 h → ld1 h (Ptr H.size 2) = some (.int .i64 b) := fun h k => (a1.keep k id).ld rfl
  have lh := hp.h.len
  have lw := hp.w.len
  rw [List.length_map] at lh lw
  have hvl : (hvOf mv).length = mv.length := by simp
  have hpo : probOk (hvOf mv) wants b = (decide (0 ≤ b) && decide (b ≤ 65536) && (List.range (hvOf mv).length).all (haveAt (hvOf mv)) && wantsOk wants) := rfl
  have no : ∀ h, Keep (fun _ => False) H h → probOk (hvOf mv) wants b = false → (Value.bool false = .bool (probOk (hvOf mv) wants b) ∧ Keep (fun _ => False) H h) := fun h kh hf => ⟨by rw [hf], kh⟩
  refine J1_i (fun _ h => (List.range (hvOf mv).length).all (haveAt (hvOf mv)) = true ∧ Keep (fun _ => False) H1 h) (fun k2 hk2 => ?_) ?_
  · rw [d0 _ Keep.refl, Mpu_some, lh, Mpu_some]
    refine L1_i (fun u h => ∃ i : Nat, i ≤ mv.length ∧ u = .int .i64 (i : Nat) ∧ (List.range i).all (haveAt (hvOf mv)) = true ∧ Keep (fun _ => False) H1 h) (fun u _ => match u with | .int _ t => mv.length - t.toNat | _ => 0) ⟨0, Nat.zero_le _, rfl, rfl, Keep.refl⟩ ?_
    rintro _ h ⟨i, hi, rfl, hall, kh⟩ k4 hk4
    rw [ltNn, Mpu_some, Mcd_bool]
    by_cases hlt : i < mv.length
    rotate_left
    · rw [if_neg (by simpa using hlt)]
      obtain rfl : i = mv.length := by omega
      exact hk2 _ _ ⟨by rw [hvl]; exact hall, kh⟩
    rw [if_pos (by simpa using hlt)]
    have k0h := k1.trans kh
    obtain ⟨x, hx, hgx, hxm, hmx, bx, ox, hix, hpx, _⟩ := (hp.keep k0h fun _ _ => id).at (k := i) (by rw [hvl]; exact hlt)
    have hha : haveAt (hvOf mv) i = (manOkG x.1 && !twinF (hvOf mv) i) := by unfold haveAt; rw [hgx]
    have htw : twinF (hvOf mv) i = (mv.take i).any fun y => decide (y.1.name = x.1.name) && decide (y.1.ver = x.1.ver) := by
      unfold twinF
      rw [hv_take, List.any_map, hgx]; rfl
    have bad : haveAt (hvOf mv) i = false → probOk (hvOf mv) wants b = false := fun hf => by rw [hpo, range_bad (by rw [hvl]; exact hlt) hf, Bool.and_false, Bool.false_and]
    refine J1_i (fun _ h' => haveAt (hvOf mv) i = true ∧ Keep (fun _ => False) H1 h') (fun k6 hk6 => ?_) ?_
    rotate_left
    · rintro _ h' ⟨hok, kh'⟩
      rw [add_one' (by omega), Mpu_some]
      exact hk4 _ _ ⟨i + 1, by omega, rfl, range_snoc hall hok, kh'⟩ (by show mv.length - (i + 1) < mv.length - i; omega)
    rw [hix .i64, Mpu_some, mv_agg hpx hmx.wf, Mpu_some]
    simp only [z_Man', Mnew_some]
    generalize hH12 : h.push (.cells (manC ⟨[], zeroV, [], [], []⟩ nilS nilS nilS).toArray T_manifest_Manifest (0, 0)) = h12
    have k12 : Keep (fun _ => False) h h12 := by rw [← hH12]; exact Keep.push
    have a12 : At h12 h.size (manC ⟨[], zeroV, [], [], []⟩ nilS nilS nilS) := by rw [← hH12]; exact At.push
    obtain ⟨h13, st13, a13, k13⟩ := a12.st (n := 8) (ds := mvC x) (manC_len zM_wf) (manC_len hmx.wf) (mvC_one hmx)
    have gh := kh.1
    have khh : Keep (fun _ => False) h h13 := k12.fresh k13 fun b hb => by omega
    have k113 := kh.trans khh
    have k013 := k1.trans k113
    have hsm := hp.sm x hxm
    rw [st13, Mwr_some, a13.ldN (manC_len hmx.wf), Mpu_some]
    refine call_i (c_RightG (hmx.keep khh fun _ _ => id) (by omega) (by omega) (hO.keep k013 fun _ h => h.elim)) ?_
    rintro _ h10 ⟨rfl, k10⟩
    have k110 := k113.trans k10
    rw [unV_not, Mpu_some, Mcd_bool]
    cases r1 : manOkG x.1
    · rw [if_pos (by rfl)]
      exact no _ (k1.trans k110) (bad (by rw [hha, r1]; rfl))
    rw [if_neg (by decide), d0 _ k110, Mpu_some]
    obtain ⟨u, hu, hsu⟩ := (hp.keep (k1.trans k110) fun _ _ => id).h.pre (m := i) (by rw [List.length_map]; omega)
    have hmt : (mv.map mvC).take i = (mv.take i).map mvC := by rw [List.map_take]
    rw [hmt] at hsu
    have lu := hsu.len
    rw [List.length_map] at lu
    rw [hu, Mpu_some, lu, Mpu_some]
    have a10 := a13.keep k10 id
    refine L1_i (fun v h' => ∃ j : Nat, j ≤ (mv.take i).length ∧ v = .int .i64 (j : Nat) ∧ ((mv.take i).take j).any (fun y => decide (y.1.name = x.1.name) && decide (y.1.ver = x.1.ver)) = false ∧ Keep (fun _ => False) h10 h') (fun v _ => match v with | .int _ t => (mv.take i).length - t.toNat | _ => 0) ⟨0, Nat.zero_le _, rfl, rfl, Keep.refl⟩ ?_
    rintro _ g ⟨j, hj, rfl, hany, kg⟩ k11 hk11
    rw [ltNn, Mpu_some, Mcd_bool]
    by_cases hlj : j < (mv.take i).length
    rotate_left
    · rw [if_neg (by simpa using hlj)]
      rw [List.take_of_length_le (by omega)] at hany
      exact hk6 _ _ ⟨by rw [hha, r1, htw, hany]; rfl, k110.trans kg⟩
    rw [if_pos (by simpa using hlj)]
    have hgy : (mv.take i)[j]? = some (mv.take i)[j] := List.getElem?_eq_getElem hlj
    have hym : (mv.take i)[j] ∈ mv.take i := List.getElem_mem hlj
    have htk : (mv.take i).take (j + 1) = (mv.take i).take j ++ [(mv.take i)[j]] := by rw [List.take_add_one, hgy]; rfl
    generalize (mv.take i)[j] = y at *
    have hmy := hp.m y (List.mem_of_mem_take hym)
    obtain ⟨py, oy, hiy, hpy, _⟩ := (hsu.keep kg fun _ _ => id).at (i := j) (x := mvC y) (by rw [List.getElem?_map, hgy]; rfl)
    have hml : mv.length ≤ 256 := hl
    have hil : (mv.take i).length ≤ 256 := by rw [List.length_take]; omega
    rw [hiy .i64, Mpu_some, mv_agg hpy hmy.wf, Mpu_some]
    generalize hG1 : g.push (.cells (manC ⟨[], zeroV, [], [], []⟩ nilS nilS nilS).toArray T_manifest_Manifest (0, 0)) = g1
    have kg1 : Keep (fun _ => False) g g1 := by rw [← hG1]; exact Keep.push
    have ag1 : At g1 g.size (manC ⟨[], zeroV, [], [], []⟩ nilS nilS nilS) := by rw [← hG1]; exact At.push
    obtain ⟨g2, stg, ag, kg2⟩ := ag1.st (n := 8) (ds := mvC y) (manC_len zM_wf) (manC_len hmy.wf) (mvC_one hmy)
    have kgg : Keep (fun _ => False) g g2 := kg1.fresh kg2 fun b hb => by omega
    have ag' : At g2 g.size (manC y.1 y.2.1 y.2.2.1 y.2.2.2) := ag
    have bg : At g2 h.size (manC x.1 x.2.1 x.2.2.1 x.2.2.2) := (a10.keep kg id).keep kgg id
    have kall := (k110.trans kg).trans kgg
    have e := fun q => str_eql (q := q) (a := y.1.name) (b := x.1.name)
    rw [stg, Mwr_some]
    simp only [fld_ptr, Nat.zero_add, Nat.add_zero, Mpu_some]
    rw [man_name ag', Mpu_some, man_name bg, Mpu_some, e, Mpu_some]
    have step : (decide (y.1.name = x.1.name) && decide (y.1.ver = x.1.ver)) = false → ((mv.take i).take (j + 1)).any (fun y => decide (y.1.name = x.1.name) && decide (y.1.ver = x.1.ver)) = false := fun hf => by
      rw [htk, List.any_append, hany]; simpa using hf
    cases hn : decide (y.1.name = x.1.name)
    · refine J1_no (by decide) ?_
      rw [pickV_bool, if_neg (by decide), Mpu_some, Mcd_bool, if_neg (by decide), add_one' (by omega), Mpu_some]
      exact hk11 _ _ ⟨j + 1, by omega, rfl, step (by rw [hn]; rfl), kg.trans kgg⟩ (by show (mv.take i).length - (j + 1) < (mv.take i).length - j; omega)
    refine J1_yes rfl ?_
    rw [man_ver ag' hmy.wf, Mpu_some, man_ver bg hmx.wf, Mpu_some, eqVer hmy.wf.ver hmx.wf.ver, Mpu_some]
    show Mpu (pickV (.bool true) (.bool (decide (y.1.ver = x.1.ver))) (.bool false)) _
    rw [pickV_bool, if_pos rfl, Mpu_some, Mcd_bool]
    cases hv : decide (y.1.ver = x.1.ver)
    · rw [if_neg (by decide), add_one' (by omega), Mpu_some]
      exact hk11 _ _ ⟨j + 1, by omega, rfl, step (by rw [hn, hv]; rfl), kg.trans kgg⟩ (by show (mv.take i).length - (j + 1) < (mv.take i).length - j; omega)
    · rw [if_pos rfl]
      refine no _ (k1.trans kall) (bad ?_)
      rw [hha, htw, List.any_eq_true.2 ⟨y, hym, by rw [hn, hv]; rfl⟩, Bool.not_true, Bool.and_false]
  rintro _ h3 ⟨hall, k3⟩
  rw [hall, Bool.and_true] at hpo
  refine J1_i (fun _ h => wantsOk wants = true ∧ Keep (fun _ => False) H1 h) (fun k hk => ?_) ?_
  · rw [d1 _ k3, Mpu_some, lw, Mpu_some]
    refine L1_i (fun u h => ∃ i : Nat, i ≤ wants.length ∧ u = .int .i64 (i : Nat) ∧ wantsOk (wants.take i) = true ∧ Keep (fun _ => False) H1 h) (fun u _ => match u with | .int _ t => wants.length - t.toNat | _ => 0) ⟨0, Nat.zero_le _, rfl, rfl, k3⟩ ?_
    rintro _ h ⟨i, hi, rfl, hok, kh⟩ kk hkk
    rw [ltNn, Mpu_some, Mcd_bool]
    by_cases hlt : i < wants.length
    rotate_left
    · rw [if_neg (by simpa using hlt)]
      rw [List.take_of_length_le (by omega)] at hok
      exact hk _ _ ⟨hok, kh⟩
    rw [if_pos (by simpa using hlt)]
    have hg : wants[i]? = some wants[i] := List.getElem?_eq_getElem hlt
    have hdm : wants[i] ∈ wants := List.getElem_mem hlt
    have htk : wants.take (i + 1) = wants.take i ++ [wants[i]] := by rw [List.take_add_one, hg]; rfl
    generalize wants[i] = d at *
    have hdw := hp.ww d hdm
    have k0h := k1.trans kh
    obtain ⟨bd, od, hid, hpd, _⟩ := (hp.keep k0h fun _ _ => id).w.at (i := i) (x := depC d) (by rw [List.getElem?_map, hg]; rfl)
    rw [hid .i64, Mpu_some, hpd.agg (depC_len hdw), Mpu_some]
    simp only [z_Dep', Mnew_some]
    generalize hH22 : h.push (.cells (depC zeroD).toArray T_manifest_Dep (0, 0)) = h22
    have k22 : Keep (fun _ => False) h h22 := by rw [← hH22]; exact Keep.push
    have a22 : At h22 h.size (depC zeroD) := by rw [← hH22]; exact At.push
    obtain ⟨h23, st23, a23, k23⟩ := a22.st (n := 6) (ds := depC d) (depC_len zeroD_wf) (depC_len hdw) depC_one
    have khh : Keep (fun _ => False) h h23 := k22.fresh k23 fun b hb => by omega
    rw [st23, Mwr_some]
    simp only [fld_ptr, Nat.zero_add, Nat.add_zero, Mpu_some]
    rw [depNm a23, Mpu_some]
    refine call_i (c_Name hdw.name) ?_
    rintro _ h24 ⟨rfl, k24⟩
    have bad : (nameOk d.name && wantOk d.want) = false → probOk (hvOf mv) wants b = false := fun hf => by
      rw [hpo, show wantsOk wants = false from List.all_eq_false.2 ⟨d, hdm, by simpa using hf⟩, Bool.and_false]
    rw [unV_not, Mpu_some]
    cases r1 : nameOk d.name
    · refine J1_no (by decide) ?_
      rw [Bool.not_false, pickV_bool, if_pos rfl, Mpu_some, Mcd_bool, if_pos rfl]
      exact no _ (k0h.trans (khh.trans k24)) (bad (by rw [r1]; rfl))
    · refine J1_yes rfl ?_
      rw [depWant (a23.keep k24 id) hdw, Mpu_some]
      have kall := k0h.trans (khh.trans k24)
      refine call_i (c_WantRight hdw.want (hO.keep kall fun _ h => h.elim)) ?_
      rintro _ h26 ⟨rfl, k26⟩
      rw [unV_not, Mpu_some]
      show Mpu (pickV (.bool false) (.bool true) (.bool (!wantOk d.want))) _
      rw [pickV_bool, if_neg (by decide), Mpu_some, Mcd_bool]
      cases r2 : wantOk d.want
      · rw [if_pos (show (!false) = true from rfl)]
        exact no _ (kall.trans k26) (bad (by rw [r1, r2]; rfl))
      · rw [if_neg (by decide), add_one' (by omega), Mpu_some]
        refine hkk _ _ ⟨i + 1, by omega, rfl, ?_, kh.trans (khh.trans (k24.trans k26))⟩ (by show wants.length - (i + 1) < wants.length - i; omega)
        rw [htk]
        unfold wantsOk at hok ⊢
        rw [List.all_append, hok]; simp [r1, r2]
  rintro _ h18 ⟨hw, k18⟩
  rw [hw, Bool.and_true] at hpo
  have ge : binV .no .geq (.int .i64 b) (.int .i64 0) = some (.bool (decide (0 ≤ b))) := by rw [binV_int]; rfl
  have le : binV .no .leq (.int .i64 b) (.int .i64 65536) = some (.bool (decide (b ≤ 65536))) := by rw [binV_int]; rfl
  rw [d2 _ k18, Mpu_some, ge, Mpu_some, hpo]
  cases q1 : decide (0 ≤ b)
  · refine J1_no (by decide) ?_
    rw [pickV_bool, if_neg (by decide), Mpu_some, Bool.false_and]
    exact ⟨rfl, k1.trans k18⟩
  · refine J1_yes rfl ?_
    rw [Mpu_some, le, Mpu_some]
    show Mpu (pickV (.bool true) (.bool (decide (b ≤ 65536))) (.bool false)) _
    rw [pickV_bool, if_pos rfl, Mpu_some, Bool.true_and]
    exact ⟨rfl, k1.trans k18⟩
end Go.Proofs.YtanhgihfgmbojaaGreatDoor

/- law 20: SolveBounds. -/
namespace Go.Proofs.YtanhgihfgmbojaaGreatDoor
open Go.X Go.X.Diff
set_option maxRecDepth 100000
set_option linter.unusedSimpArgs false
set_option linter.unusedVariables false

/-- a search's answer, whatever it is -/
def resC : Res → Int
  | .ok _ => 0
  | .fail => 40
  | .over => 42
def resL (hv : List Man) : Res → List Nat
  | .ok l => sortedF hv l
  | .fail => []
  | .over => []
theorem SolR.open {hv : List Man} {wants : List Dep} {bd : Nat} {H H' : Heap} {u : Value} (h : SolR hv wants bd H H' u) : ∃ r s v, Run hv bd (.sol [] wants) 0 r s ∧ u = .tuple #[v, .int .i64 (s : Nat), .int .i64 (resC r)] ∧ SlE 1 (fun b => H.size ≤ b ∧ b < H'.size) H' v (ints (zs (resL hv r))) ∧ ∀ l, r = .ok l → Names hv l := by
  obtain ⟨r, s, hr, hu⟩ := h
  cases r with
  | ok l =>
    obtain ⟨hN, v, rfl, hb⟩ := hu
    exact ⟨.ok l, s, v, hr, rfl, hb.sl, fun l' e => by cases e; exact hN⟩
  | fail =>
    subst hu
    exact ⟨.fail, s, _, hr, rfl, SlE.nil, fun l' e => by cases e⟩
  | over =>
    subst hu
    exact ⟨.over, s, _, hr, rfl, SlE.nil, fun l' e => by cases e⟩
end Go.Proofs.YtanhgihfgmbojaaGreatDoor

