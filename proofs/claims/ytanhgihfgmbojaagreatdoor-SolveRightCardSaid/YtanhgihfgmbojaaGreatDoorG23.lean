/- JOINED: V188 -/
import Derived.Test.YtanhgihfgmbojaaGreatDoorG21
set_option linter.unusedSimpArgs false
set_option linter.unusedVariables false
/- law 20: SolveRight. -/
namespace Go.Proofs.YtanhgihfgmbojaaGreatDoor
open Go.X Go.X.Diff
set_option maxRecDepth 100000
set_option linter.unusedSimpArgs false
set_option linter.unusedVariables false

theorem shl_one {n : Nat} (h : n ≤ 12) : ∃ T : Nat, T ≤ 4096 ∧ binV .no .shl (.int .i64 1) (.int .i64 (n : Nat)) = some (.int .i64 (T : Nat)) := by
  have h2 : 2 ^ n ≤ 2 ^ 12 := Nat.pow_le_pow_right (by omega) h
  refine ⟨2 ^ n, h2, ?_⟩
  have hm : min n IntKind.i64.bits = n := Nat.min_eq_left (Nat.le_trans h (by decide))
  have hT : ((1 : Int) * 2 ^ n) = ((2 ^ n : Nat) : Int) := by rw [Int.one_mul, Int.natCast_pow]; rfl
  rw [binV_shl]
  simp only [intV]
  rw [if_neg (by omega), Int.toNat_natCast, hm, hT]
  generalize 2 ^ n = m at *
  rw [wrap_id (by omega) (by omega)]
set_option maxHeartbeats 8000000 in
theorem c_SolveRight {P : Nat → Prop} {H : Heap} {mv : List MV} {wants : List Dep} {vh vw : Value} {b : Int} (hp : Prb0 P H mv wants vh vw) (hP : ∀ b, P b → b < H.size) (hT : VerT H) :
    HCalls prg f_syngraphlaw20_SolveRight [.agg (prbC vh vw b).toArray] H fun u H' => u = .bool true ∧ Keep (fun _ => False) H H' := by
  apply sh_syngraphlaw20_SolveRight_calls
  unfold sh_syngraphlaw20_SolveRight
  simp only [Cells_agg, Mnew_some]
  generalize hH1 : H.push (.cells (prbC vh vw b).toArray T_solve_Problem (0, 0)) = H1
  have k1 : Keep (fun _ => False) H H1 := by rw [← hH1]; exact Keep.push
  have a1 : At H1 H.size (prbC vh vw b) := by rw [← hH1]; exact At.push
  have s1 : H1.size = H.size + 1 := by rw [← hH1]; simp
  have hO : ∀ {h : Heap}, Keep (fun _ => False) H h → OpsT h := fun k => (hT.keep k fun _ h => h.elim).ops
  have aw : ∀ h, Keep (fun _ => False) H h → Mcall prg f_syngraphlaw20_awake [] h fun t h' => t = .bool true ∧ Keep (fun _ => False) H h' := fun h k => by
    refine call_i (c_awake20 (hT.keep k fun _ h => h.elim)) ?_
    rintro _ h' ⟨rfl, k'⟩
    exact ⟨rfl, k.trans k'⟩
  rw [a1.ldN (n := 3) rfl, Mpu_some]
  refine call_i (c_small20 (hp.keep k1 fun _ _ => id)) ?_
  rintro _ h2 ⟨rfl, k2⟩
  have k02 := k1.trans k2
  rw [unV_not, Mpu_some]
  cases hsm : smallP (hvOf mv) wants b
  · simp only [J1_eq, Mif_bool, Bool.not_false, Bool.not_true, Bool.true_eq_false, Bool.false_eq_true, if_false, pickV_bool, if_true, Mpu_some, Mcd_bool]
    exact aw _ k02
  obtain ⟨hq, hl, hwl, hb3⟩ := hp.to hsm
  have hvl : (hvOf mv).length = mv.length := by simp
  have hPk : ∀ {h : Heap}, Keep (fun _ => False) H h → ∀ b, P b → b < h.size := fun k b hb => Nat.lt_of_lt_of_le (hP b hb) k.1
  have hqk : ∀ {h : Heap}, Keep (fun _ => False) H h → Prb P h mv wants vh vw := fun k => hq.keep k fun _ _ => id
  refine J1_yes rfl ?_
  rw [(a1.keep k2 id).ldN (n := 3) rfl, Mpu_some]
  refine call_i (c_right20 (hqk k02) (by omega) (by omega) (hO k02)) ?_
  rintro _ h4 ⟨rfl, k4⟩
  have k04 := k02.trans k4
  have k14 := k2.trans k4
  rw [unV_not, Mpu_some]
  show Mpu (pickV (.bool false) (.bool true) (.bool (!probOk (hvOf mv) wants b))) _
  rw [pickV_bool, if_neg (by decide), Mpu_some, Mcd_bool]
  cases hok : probOk (hvOf mv) wants b
  · rw [if_pos (by rfl)]
    exact aw _ k04
  rw [if_neg (by decide), (a1.keep k14 id).ldN (n := 3) rfl, Mpu_some]
  refine call_i (c_Solve (hqk k04) (hPk k04) hok hl (by omega) (hO k04)) ?_
  rintro u h7 ⟨hS, k7⟩
  obtain ⟨r, s, v, hr, rfl, hv, hN⟩ := hS.open
  have k07 := k04.trans k7
  have k17 := k14.trans k7
  have b7 := a1.keep k17 id
  have lh := hq.h.len
  rw [List.length_map] at lh
  simp only [extV_tuple]
  rw [show (#[v, Value.int .i64 (s : Nat), .int .i64 (resC r)][0]?) = some v from rfl, Mpu_some, show (#[v, Value.int .i64 (s : Nat), .int .i64 (resC r)][1]?) = some (.int .i64 (s : Nat)) from rfl, Mpu_some, show (#[v, Value.int .i64 (s : Nat), .int .i64 (resC r)][2]?) = some (.int .i64 (resC r)) from rfl, Mpu_some, fld_ptr, Mpu_some, Nat.add_zero, b7.ld (i := 0) rfl, Mpu_some, fld_ptr, Mpu_some, Nat.zero_add, b7.ld (i := 1) rfl, Mpu_some]
  refine call_i (c_packages (hqk k07).h (hqk k07).m hq.sm (by omega)) ?_
  rintro vpk h8 ⟨⟨pk, hpk, hpe⟩, k8⟩
  simp only [Mre_cons, Mre_nil]
  refine ⟨(b7.keep k8 id).ld (i := 1) rfl, ?_⟩
  have k08 := k07.trans k8
  refine call_i (c_lawDeps (hqk k08).w hq.ww (by omega)) ?_
  rintro t33 h9 ⟨hb33, k9⟩
  have k09 := k08.trans k9
  have b9 := (b7.keep k8 id).keep k9 id
  have hpk9 := hpk.keep k9 fun _ _ => id
  obtain ⟨hokH, hww⟩ := OkH.of hq hok
  have hv9 := (hv.keep k8 fun _ _ => id).keep k9 fun _ _ => id
  have lt79 : h7.size ≤ h9.size := (k8.trans k9).1
  have lv := hv9.len
  rw [ints_len, zs_len] at lv
  cases r with
  | ok l =>
    have hNl := hN l rfl
    have hpart := hr.sound Part.start l rfl
    have hRl := hpart.right
    have hNL : NeedL (hvOf mv) wants l (sortedF (hvOf mv) l) := NeedL.all hRl hpart.rc
    have hRs := hNL.right hRl
    have hsl : (sortedF (hvOf mv) l).length ≤ 12 := by
      have h1 := hNl.len
      unfold sortedF
      rw [isort_len]; omega
    have e0 : binV .no .eql (.int .i64 (resC (.ok l))) (.int .i64 0) = some (.bool true) := rfl
    have hzl : (zs (sortedF (hvOf mv) l)).length ≤ 1000000 := by rw [zs_len]; omega
    refine J0_eq.2 ?_
    rw [e0, Mpu_some, Mcd_bool, if_pos rfl, b9.ldN (n := 3) rfl, Mpu_some]
    refine call_i (c_Needed (hqk k09) (hPk k09) hv9 (fun b hb => by have := hb.2; omega) hok hl (by omega) hzl (hO k09)) ?_
    rintro vn h12 ⟨hM, k12⟩
    have k012 := k09.trans k12
    rcases hM with ⟨hf, _⟩ | ⟨c', m, hcc, hR', hML, _, hsm'⟩
    · rw [show rightB (hvOf mv) wants (zs (resL (hvOf mv) (.ok l))) = true from rightB_nat.2 hRs] at hf; cases hf
    obtain rfl : sortedF (hvOf mv) l = c' := cast_inj hcc
    obtain rfl := hNL.again hML
    have lm := hsm'.len
    rw [ints_len, zs_len] at lm
    have lv' : lenV v = some (.int .i64 ((sortedF (hvOf mv) l).length : Nat)) := lv
    have nI : ∀ x : Int, binV .no .neq (.int .i64 x) (.int .i64 x) = some (.bool false) := fun x => by
      rw [binV_int]; simp [intV]
    rw [lm, Mpu_some, lv', Mpu_some, nI, Mpu_some, Mcd_bool, if_neg (by decide)]
    refine J1_i (fun _ h => Keep (fun _ => False) h12 h) (fun k13 hk13 => ?_) ?_
    · rw [Mpu_some]
      refine L1_i (fun u h => ∃ i : Nat, i ≤ (sortedF (hvOf mv) l).length ∧ u = .int .i64 (i : Nat) ∧ Keep (fun _ => False) h12 h) (fun u _ => match u with | .int _ t => (sortedF (hvOf mv) l).length - t.toNat | _ => 0) ⟨0, Nat.zero_le _, rfl, Keep.refl⟩ ?_
      rintro _ h ⟨i, hi, rfl, kh⟩ k15 hk15
      rw [ltNn, Mpu_some, Mcd_bool]
      by_cases hlt : i < (sortedF (hvOf mv) l).length
      rotate_left
      · rw [if_neg (by simpa using hlt)]
        exact hk13 _ _ kh
      rw [if_pos (by simpa using hlt)]
      have hg : (sortedF (hvOf mv) l)[i]? = some (sortedF (hvOf mv) l)[i] := List.getElem?_eq_getElem hlt
      generalize (sortedF (hvOf mv) l)[i] = y at hg
      obtain ⟨p, o, hix, hpt, _⟩ := (hsm'.keep kh fun _ _ => id).at (i := i) (x := [.int .i64 (y : Int)]) (ints_get (zs_get hg))
      obtain ⟨p', o', hix', hpt', _⟩ := ((hv9.keep k12 fun _ _ => id).keep kh fun _ _ => id).at (i := i) (x := [.int .i64 (y : Int)]) (ints_get (zs_get hg))
      rw [hix .i64, Mpu_some, hpt.cell0 rfl, Mpu_some, hix' .i64, Mpu_some, hpt'.cell0 rfl, Mpu_some, nI, Mpu_some, Mcd_bool, if_neg (by decide), add_one' (by omega), Mpu_some]
      exact hk15 _ _ ⟨i + 1, by omega, rfl, kh⟩ (by show (sortedF (hvOf mv) l).length - (i + 1) < (sortedF (hvOf mv) l).length - i; omega)
    rintro _ h14 k14'
    have k014 := k012.trans k14'
    have b14 := (b9.keep k12 id).keep k14' id
    have hv14 := (hv9.keep k12 fun _ _ => id).keep k14' fun _ _ => id
    rw [b14.ldN (n := 3) rfl, Mpu_some]
    refine call_i (c_Right (hqk k014) (hPk k014) hv14 (fun b hb => by have := hb.2; have := (k12.trans k14').1; omega) (by omega) (by omega) hzl (hO k014)) ?_
    rintro _ h17 ⟨rfl, k17'⟩
    have k017 := k014.trans k17'
    rw [hok, show rightB (hvOf mv) wants (zs (resL (hvOf mv) (.ok l))) = true from rightB_nat.2 hRs, Bool.and_self]
    refine J1_yes rfl ?_
    have k917 := (k12.trans k14').trans k17'
    have hv17 : SlE 1 (fun b => h4.size ≤ b ∧ b < h7.size) h17 v (ints (zs (sortedF (hvOf mv) l))) := hv14.keep k17' fun _ _ => id
    refine call_i (c_rRight hokH hpe (hpk9.keep k917 fun _ _ => id) (hb33.sl.keep k917 fun _ _ => id) hww (by omega) hv17 hRs.nm.1 (by omega)) ?_
    rintro _ h19 ⟨rfl, k19⟩
    have k019 := k017.trans k19
    rw [rightB_nat.2 hRs]
    show Mpu (pickV (.bool true) (.bool true) (.bool false)) _
    rw [pickV_bool, if_pos rfl, Mpu_some]
    refine J1_yes rfl ?_
    refine call_i (c_awake20 (hT.keep k019 fun _ h => h.elim)) ?_
    rintro _ h' ⟨rfl, k'⟩
    show Mpu (pickV (.bool true) (.bool true) (.bool false)) _
    rw [pickV_bool, if_pos rfl, Mpu_some]
    exact ⟨rfl, k019.trans k'⟩
  | over =>
    have e0 : binV .no .eql (.int .i64 (resC .over)) (.int .i64 0) = some (.bool false) := rfl
    have e42 : binV .no .eql (.int .i64 (resC .over)) (.int .i64 42) = some (.bool true) := rfl
    refine J0_eq.2 ?_
    rw [e0, Mpu_some, Mcd_bool, if_neg (by decide)]
    show Mpu (binV .no .eql (.int .i64 (resC .over)) (.int .i64 42)) _
    rw [e42, Mpu_some, Mcd_bool, if_pos rfl]
    exact aw _ k09
  | fail =>
    have hno : ∀ c : List Nat, rightB (hvOf mv) wants (zs c) = false := fun c => by
      cases e : rightB (hvOf mv) wants (zs c)
      · rfl
      · have hR := rightB_nat.1 e
        exact absurd hR.comp (hr.complete hR.toX rfl)
    have e0 : binV .no .eql (.int .i64 (resC .fail)) (.int .i64 0) = some (.bool false) := rfl
    have e42 : binV .no .eql (.int .i64 (resC .fail)) (.int .i64 42) = some (.bool false) := rfl
    have e40 : binV .no .eql (.int .i64 (resC .fail)) (.int .i64 40) = some (.bool true) := rfl
    refine J0_eq.2 ?_
    rw [e0, Mpu_some, Mcd_bool, if_neg (by decide)]
    show Mpu (binV .no .eql (.int .i64 (resC .fail)) (.int .i64 42)) _
    rw [e42, Mpu_some, Mcd_bool, if_neg (by decide)]
    refine J1_i (fun _ h => Keep (fun _ => False) h9 h) (fun k25 hk25 => ?_) ?_
    rotate_left
    · rintro _ h26 k26
      have k026 := k09.trans k26
      rw [e40, Mpu_some]
      refine J1_yes rfl ?_
      refine call_i (c_awake20 (hT.keep k026 fun _ h => h.elim)) ?_
      rintro _ h' ⟨rfl, k'⟩
      show Mpu (pickV (.bool true) (.bool true) (.bool false)) _
      rw [pickV_bool, if_pos rfl, Mpu_some]
      exact ⟨rfl, k026.trans k'⟩
    obtain ⟨T, hT1, hT2⟩ := shl_one hl
    rw [Mpu_some, b9.ld (i := 0) rfl, Mpu_some, lh, Mpu_some, hT2, Mpu_some]
    refine L1_i (fun u h => ∃ i : Nat, i ≤ T ∧ u = .int .i64 (i : Nat) ∧ Keep (fun _ => False) h9 h) (fun u _ => match u with | .int _ t => T - t.toNat | _ => 0) ⟨0, Nat.zero_le _, rfl, Keep.refl⟩ ?_
    rintro _ h28 ⟨i, hi, rfl, k28⟩ k27 hk27
    rw [ltNn, Mpu_some, Mcd_bool]
    by_cases hlt : i < T
    rotate_left
    · rw [if_neg (by simpa using hlt)]
      exact hk25 _ _ k28
    rw [if_pos (by simpa using hlt)]
    have k028 := k09.trans k28
    refine J2_i (fun _ _ h => Keep (fun _ => False) h9 h) (fun k29 hk29 => ?_) ?_
    rotate_left
    · rintro _ _ h30 k30
      rw [add_one' (by omega), Mpu_some]
      exact hk27 _ _ ⟨i + 1, by omega, rfl, k30⟩ (by show T - (i + 1) < T - i; omega)
    refine J2_i (fun t11 _ h => (∃ c : List Nat, BufE 1 (fun b => h28.size ≤ b) h t11 (ints (zs c)) ∧ (∀ k ∈ c, k < mv.length) ∧ c.length ≤ mv.length) ∧ Keep (fun _ => False) h28 h) (fun k31 hk31 => ?_) ?_
    rotate_left
    · rintro t11 _ h32 ⟨⟨c, hbc, hcl, hcn⟩, k32⟩
      have k932 := k28.trans k32
      refine call_i (c_rRight hokH hpe (hpk9.keep k932 fun _ _ => id) (hb33.sl.keep k932 fun _ _ => id) hww (by omega) hbc.sl (fun k hk => by rw [hvl]; exact hcl k hk) (by omega)) ?_
      rintro _ h39 ⟨rfl, k39⟩
      rw [hno, Mcd_bool, if_neg (by decide)]
      exact hk29 _ _ _ (k932.trans k39)
    have b28 := b9.keep k28 id
    rw [Mpu_some, b28.ld (i := 0) rfl, Mpu_some, lh, Mpu_some]
    refine L2_i (fun t11 u h => (∃ j : Nat, j ≤ mv.length ∧ u = .int .i64 (j : Nat) ∧ ∃ c : List Nat, BufE 1 (fun b => h28.size ≤ b) h t11 (ints (zs c)) ∧ (∀ k ∈ c, k < mv.length) ∧ c.length ≤ j) ∧ Keep (fun _ => False) h28 h) (fun _ u _ => match u with | .int _ t => mv.length - t.toNat | _ => 0) ⟨⟨0, Nat.zero_le _, rfl, [], BufE.nil, (fun k hk => absurd hk (by simp)), Nat.le_refl _⟩, Keep.refl⟩ ?_
    rintro t11 _ h34 ⟨⟨j, hj, rfl, c, hbc, hcl, hcn⟩, k34⟩ k33 hk33
    rw [ltNn, Mpu_some, Mcd_bool]
    by_cases hjl : j < mv.length
    rotate_left
    · rw [if_neg (by simpa using hjl)]
      exact hk31 _ _ _ ⟨⟨c, hbc, hcl, by omega⟩, k34⟩
    rw [if_pos (by simpa using hjl)]
    refine J1_i (fun t h => (∃ c : List Nat, BufE 1 (fun b => h28.size ≤ b) h t (ints (zs c)) ∧ (∀ k ∈ c, k < mv.length) ∧ c.length ≤ j + 1) ∧ Keep (fun _ => False) h28 h) (fun k35 hk35 => ?_) ?_
    rotate_left
    · rintro t h36 ⟨hcc, k36⟩
      rw [add_one' (by omega), Mpu_some]
      exact hk33 _ _ _ ⟨⟨j + 1, by omega, rfl, hcc⟩, k36⟩ (by show mv.length - (j + 1) < mv.length - j; omega)
    obtain ⟨x, hx⟩ : ∃ x, binV .no .shr (.int .i64 (i : Nat)) (.int .i64 (j : Nat)) = some (.int .i64 x) := by
      rw [binV_shr]; simp only [intV]; rw [if_neg (by omega)]; exact ⟨_, rfl⟩
    obtain ⟨y, hy⟩ : ∃ y, binV .no .and (.int .i64 x) (.int .i64 1) = some (.int .i64 y) := by
      rw [binV_int]; exact ⟨_, rfl⟩
    rw [hx, Mpu_some, hy, Mpu_some, eqI, Mpu_some, Mcd_bool]
    split
    rotate_left
    · exact hk35 _ _ ⟨⟨c, hbc, hcl, by omega⟩, k34⟩
    rw [bslI1', Mnews_some]
    generalize hH37 : h34.push (.cells #[.int .i64 (j : Nat)] T_int (0, 0)) = h37
    have k37 : Keep (fun _ => False) h34 h37 := by rw [← hH37]; exact Keep.push
    have hx37 : SlE 1 (· = h34.size) h37 (.slice (some ⟨h34.size, 0, none⟩) 1 1) (ints [(j : Int)]) :=
      ⟨⟨_, 1, rfl, Nat.le_refl _, .inr ⟨h34.size, 0, rfl, rfl, by rw [rows1_flat, ← hH37]; exact Pt.of push_new⟩⟩, rows1_el, rows1_one fun v hv => by simp at hv; subst hv; rfl⟩
    have g37 := (k34.trans k37).1
    refine (hbc.keep k37 fun _ _ => id).app hx37 (by omega) (by rw [ints_len, ints_len, zs_len, List.length_singleton]; omega) (by show h28.size ≤ h37.size; omega) fun t95 h38 hb95 k38 => ?_
    refine hk35 _ _ ⟨⟨c ++ [j], ?_, fun k hk => ?_, by simp; omega⟩, (k34.trans k37).fresh k38 fun b hb => hb⟩
    · rw [show ints (zs (c ++ [j])) = ints (zs c) ++ ints [(j : Int)] by simp [zs, rows1]]
      exact hb95
    · rcases List.mem_append.1 hk with hk | hk
      · exact hcl k hk
      · rw [List.mem_singleton.1 hk]; exact hjl
end Go.Proofs.YtanhgihfgmbojaaGreatDoor

