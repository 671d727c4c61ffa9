/- JOINED: V40 V41 V42 -/
import Derived.Test.YtmhfanpijdgkjaaDoorGQ
set_option linter.unusedSimpArgs false
set_option linter.unusedVariables false
/- The walks of VersionOrders, VersionShows and VersionParses. -/
namespace Go.Proofs.YtmhfanpijdgkjaaDoor
open Go.X Go.X.Diff
set_option maxRecDepth 100000

theorem ne_bool {x y : Bool} : binV .bool .neq (.bool x) (.bool y) = some (.bool (x != y)) := by cases x <;> cases y <;> rfl
theorem eq_bool {x y : Bool} : binV .bool .eql (.bool x) (.bool y) = some (.bool (x == y)) := by cases x <;> cases y <;> rfl
/-- what awake gives at the end -/
theorem awake_end {H h : Heap} (hT : VerT H) (k : Keep (fun _ => False) H h) {R : Value → Heap → Prop} (hR : ∀ h', Keep (fun _ => False) H h' → R (.bool true) h') : Mcall prg f_syngraphlaw18_awake [] h R := by
  refine call_i (c_awake18 (hT.keep k fun _ h => h.elim)) ?_
  rintro _ h' ⟨rfl, k'⟩
  exact hR _ (k.trans k')

theorem c_VersionOrders {H : Heap} {a b : Ver} (ha : a.wf) (hb : b.wf) (hT : VerT H) : HCalls prg f_syngraphlaw18_VersionOrders [.agg (verC a).toArray, .agg (verC b).toArray] H fun u H' => u = .bool true ∧ Keep (fun _ => False) H H' := by
  apply sh_syngraphlaw18_VersionOrders_calls
  unfold sh_syngraphlaw18_VersionOrders
  simp only [Cells_agg, Mnew_some]
  generalize hH1 : H.push (.cells (verC a).toArray T_version_Version (0, 0)) = H1
  have k1 : Keep (fun _ => False) H H1 := by rw [← hH1]; exact Keep.push
  have a1 : At H1 H.size (verC a) := by rw [← hH1]; exact At.push
  generalize hH2 : H1.push (.cells (verC b).toArray T_version_Version (0, 0)) = H2
  have k2 : Keep (fun _ => False) H1 H2 := by rw [← hH2]; exact Keep.push
  have b2 : At H2 H1.size (verC b) := by rw [← hH2]; exact At.push
  have a2 := a1.keep k2 id
  have k02 := k1.trans k2
  have A : ∀ {h}, Keep (fun _ => False) H2 h → ldN 4 h (Ptr H.size 0) = some (.agg (verC a).toArray) := fun k => ver_ld4 (a2.keep k id) ha
  have B : ∀ {h}, Keep (fun _ => False) H2 h → ldN 4 h (Ptr H1.size 0) = some (.agg (verC b).toArray) := fun k => ver_ld4 (b2.keep k id) hb
  simp only [A Keep.refl, B Keep.refl, Mpu_some]
  refine call_i (c_VerRight ha) ?_
  rintro _ h3 ⟨rfl, k3⟩
  simp only [A k3, unV_not, Bool.not_true, Bool.not_false, Mif_bool, Mif_undef, pickV_bool, Mcd_bool, Mpu_some, if_true, if_false, Bool.false_eq_true, Bool.true_eq_false, decide_true, decide_false, reduceCtorEq, ex20, ex21, ex30, ex31, ex32, Mre_ok, Mre_nil]
  refine call_i (c_right18 ha) ?_
  rintro _ h4 ⟨rfl, k4⟩
  have k24 := k3.trans k4
  simp only [ne_bool, bne_self_eq_false, A k24, unV_not, Bool.not_true, Bool.not_false, Mif_bool, Mif_undef, pickV_bool, Mcd_bool, Mpu_some, if_true, if_false, Bool.false_eq_true, Bool.true_eq_false, decide_true, decide_false, reduceCtorEq, ex20, ex21, ex30, ex31, ex32, Mre_ok, Mre_nil]
  refine call_i (c_right18 ha) ?_
  rintro _ h5 ⟨rfl, k5⟩
  have k25 := k24.trans k5
  simp only [unV_not, Mpu_some]
  refine J1_eq.2 ?_
  cases hao : verOk a <;> simp only [unV_not, Bool.not_true, Bool.not_false, Mif_bool, Mif_undef, pickV_bool, Mcd_bool, Mpu_some, if_true, if_false, Bool.false_eq_true, Bool.true_eq_false, decide_true, decide_false, reduceCtorEq, ex20, ex21, ex30, ex31, ex32, Mre_ok, Mre_nil, B k25]
  · exact awake_end hT (k02.trans k25) fun h' k => ⟨by trivial, k⟩
  refine call_i (c_right18 hb) ?_
  rintro _ h7 ⟨rfl, k7⟩
  have k27 := k25.trans k7
  cases hbo : verOk b <;> simp only [unV_not, Bool.not_true, Bool.not_false, Mif_bool, Mif_undef, pickV_bool, Mcd_bool, Mpu_some, if_true, if_false, Bool.false_eq_true, Bool.true_eq_false, decide_true, decide_false, reduceCtorEq, ex20, ex21, ex30, ex31, ex32, Mre_ok, Mre_nil, A k27, B k27]
  · exact awake_end hT (k02.trans k27) fun h' k => ⟨by trivial, k⟩
  /- the rest, at an order that is known -/
  have rest : ∀ c : Int, (c = -1 ∨ c = 0 ∨ c = 1) → cmpV a b = c → ∀ h, Keep (fun _ => False) H2 h →
      Mpu (ldN 4 h (Ptr H.size 0)) fun t30 => Mpu (ldN 4 h (Ptr H1.size 0)) fun t31 => Mcall prg f_version_Version_Cmp [t30, t31] h fun t32 h20 =>
      Mpu (binV .no .eql t32 (.int .i64 c)) fun t34 =>
      J1 (fun k21 => Mif t34 true (
          Mpu (ldN 4 h20 (Ptr H1.size 0)) fun t36 => Mpu (ldN 4 h20 (Ptr H.size 0)) fun t37 =>
          Mcall prg f_version_Version_Cmp [t36, t37] h20 fun t38 h22 =>
          Mpu (unV .neg (.int .i64 c)) fun t40 => Mpu (binV .no .eql t38 t40) fun t41 => k21 t41 h22) (
          k21 undef h20)) fun t41_2 h23 =>
      Mpu (pickV t34 t41_2 (.bool false)) fun t42 =>
      J1 (fun k24 => Mif t42 true (
          Mpu (binV .no .eql (.int .i64 c) (.int .i64 0)) fun t45 =>
          Mpu (ldN 4 h23 (Ptr H.size 0)) fun t46 => Mpu (ldN 4 h23 (Ptr H1.size 0)) fun t47 =>
          Mpu (binV (eqK prg T_version_Version) .eql t46 t47) fun t48 => Mpu (binV .bool .eql t45 t48) fun t49 => k24 t49 h23) (
          k24 undef h23)) fun t49_2 h25 =>
      Mpu (pickV t42 t49_2 (.bool false)) fun t50 =>
      J1 (fun k26 => Mif t50 true (Mcall prg f_syngraphlaw18_awake [] h25 fun t52 h27 => k26 t52 h27) (k26 undef h25)) fun t52_2 h28 =>
      Mpu (pickV t50 t52_2 (.bool false)) fun t53 => t53 = .bool true ∧ Keep (fun _ => False) H h28 := by
    intro c hc hcm h k
    simp only [A k, B k, Mpu_some]
    refine call_i (c_Cmp ha hb) ?_
    rintro _ h20 ⟨rfl, k20⟩
    have k2h := k.trans k20
    have e1 : binV .no .eql (.int .i64 (cmpV a b)) (.int .i64 c) = some (.bool true) := by rw [hcm, binV_int]; simp [intV]
    simp only [e1, A k2h, B k2h, unV_not, Bool.not_true, Bool.not_false, Mif_bool, Mif_undef, pickV_bool, Mcd_bool, Mpu_some, if_true, if_false, Bool.false_eq_true, Bool.true_eq_false, decide_true, decide_false, reduceCtorEq, J1_eq, ex20, ex21, ex30, ex31, ex32, Mre_ok, Mre_nil]
    refine call_i (c_Cmp hb ha) ?_
    rintro _ h22 ⟨rfl, k22⟩
    have k2h2 := k2h.trans k22
    have e2 : unV .neg (.int .i64 c) = some (.int .i64 (-c)) := by
      show some (Value.int .i64 (IntKind.i64.wrap (0 - c))) = _
      rw [wrap_id (by omega) (by omega)]; simp
    have e3 : binV .no .eql (.int .i64 (cmpV b a)) (.int .i64 (-c)) = some (.bool true) := by rw [cmpV_ord.turn a b, hcm, binV_int]; simp [intV]
    have e4 : binV .no .eql (.int .i64 c) (.int .i64 0) = some (.bool (decide (a = b))) := by
      rw [binV_int]; simp only [intV]
      congr 2
      rw [Bool.eq_iff_iff, beq_iff_eq, decide_eq_true_eq, ← hcm]
      exact cmpV_ord.zero a b
    simp only [e2, e3, e4, A k2h2, B k2h2, eqVer ha hb, eq_bool, beq_self_eq_true, unV_not, Bool.not_true, Bool.not_false, Mif_bool, Mif_undef, pickV_bool, Mcd_bool, Mpu_some, if_true, if_false, Bool.false_eq_true, Bool.true_eq_false, decide_true, decide_false, reduceCtorEq, J1_eq, ex20, ex21, ex30, ex31, ex32, Mre_ok, Mre_nil]
    refine awake_end hT (k02.trans k2h2) fun h' k' => ?_
    simp only [unV_not, Bool.not_true, Bool.not_false, Mif_bool, Mif_undef, pickV_bool, Mcd_bool, Mpu_some, if_true, if_false, Bool.false_eq_true, Bool.true_eq_false, decide_true, decide_false, reduceCtorEq, J1_eq, ex20, ex21, ex30, ex31, ex32, Mre_ok, Mre_nil]
    exact ⟨by trivial, k'⟩
  have ht := cmpV_ord.turn a b
  have second : ∀ t5 : Value, (ltV b a = true → cmpV a b = 1) → (ltV b a = false → ∃ c, t5 = .int .i64 c ∧ (c = -1 ∨ c = 0 ∨ c = 1) ∧ cmpV a b = c) → ∀ h, Keep (fun _ => False) H2 h → ∀ F : Value → Heap → Prop, (∀ c, (c = -1 ∨ c = 0 ∨ c = 1) → cmpV a b = c → ∀ h, Keep (fun _ => False) H2 h → F (.int .i64 c) h) →
      Mpu (ldN 4 h (Ptr H1.size 0)) fun t25 => Mpu (ldN 4 h (Ptr H.size 0)) fun t27 => Mcall prg f_syngraphlaw18_ref [t25] h fun t26 h17 => Mre [(ldN 4 h17 (Ptr H.size 0), t27)] (Mcall prg f_syngraphlaw18_ref [t27] h17 fun t28 h18 => Mcall prg f_syngraphref18_Less [t26, t28] h18 fun t29 h19 => Mcd t29 (F (.int .i64 1) h19) (F t5 h19)) := by
    intro t5 h1 h2 h k F hF
    simp only [A k, B k, Mpu_some]
    refine call_i (c_ref hb) ?_
    rintro _ h17 ⟨rfl, k17⟩
    have kk := k.trans k17
    simp only [A kk, unV_not, Bool.not_true, Bool.not_false, Mif_bool, Mif_undef, pickV_bool, Mcd_bool, Mpu_some, if_true, if_false, Bool.false_eq_true, Bool.true_eq_false, decide_true, decide_false, reduceCtorEq, J1_eq, ex20, ex21, ex30, ex31, ex32, Mre_ok, Mre_nil]
    refine call_i (c_ref ha) ?_
    rintro _ h18 ⟨rfl, k18⟩
    refine call_i (c_refLess hb ha) ?_
    rintro _ h19 ⟨rfl, k19⟩
    have kk3 := kk.trans (k18.trans k19)
    cases hl : ltV b a <;> simp only [unV_not, Bool.not_true, Bool.not_false, Mif_bool, Mif_undef, pickV_bool, Mcd_bool, Mpu_some, if_true, if_false, Bool.false_eq_true, Bool.true_eq_false, decide_true, decide_false, reduceCtorEq, J1_eq, ex20, ex21, ex30, ex31, ex32, Mre_ok, Mre_nil]
    · obtain ⟨c, rfl, hc, hcm⟩ := h2 hl
      exact hF c hc hcm _ kk3
    · exact hF 1 (.inr (.inr rfl)) (h1 hl) _ kk3
  have h3 := cmpV_ord.three a b
  have up : ltV b a = true → cmpV a b = 1 := fun h => by unfold ltV at h; have := of_decide_eq_true h; omega
  refine J1_i (fun t5 h => ((ltV b a = false → ∃ c, t5 = .int .i64 c ∧ (c = -1 ∨ c = 0 ∨ c = 1) ∧ cmpV a b = c)) ∧ Keep (fun _ => False) H2 h) (fun k10 hk10 => ?_) ?_
  · refine call_i (c_ref ha) ?_
    rintro _ h12 ⟨rfl, k12⟩
    have k212 := k27.trans k12
    simp only [B k212, unV_not, Bool.not_true, Bool.not_false, Mif_bool, Mif_undef, pickV_bool, Mcd_bool, Mpu_some, if_true, if_false, Bool.false_eq_true, Bool.true_eq_false, decide_true, decide_false, reduceCtorEq, ex20, ex21, ex30, ex31, ex32, Mre_ok, Mre_nil]
    refine call_i (c_ref hb) ?_
    rintro _ h13 ⟨rfl, k13⟩
    refine call_i (c_refLess ha hb) ?_
    rintro _ h14 ⟨rfl, k14⟩
    have k214 := k212.trans (k13.trans k14)
    cases hl : ltV a b <;> simp only [unV_not, Bool.not_true, Bool.not_false, Mif_bool, Mif_undef, pickV_bool, Mcd_bool, Mpu_some, if_true, if_false, Bool.false_eq_true, Bool.true_eq_false, decide_true, decide_false, reduceCtorEq, ex20, ex21, ex30, ex31, ex32, Mre_ok, Mre_nil]
    · refine hk10 _ _ ⟨fun h => ⟨0, rfl, .inr (.inl rfl), ?_⟩, k214⟩
      have e1 := of_decide_eq_false hl
      have e2 := of_decide_eq_false h
      omega
    · refine hk10 _ _ ⟨fun h => ⟨-1, rfl, .inl rfl, ?_⟩, k214⟩
      have e1 := of_decide_eq_true hl
      omega
  rintro t5 h ⟨h2, k⟩
  refine J1_i (fun t5 h => (∃ c, t5 = .int .i64 c ∧ (c = -1 ∨ c = 0 ∨ c = 1) ∧ cmpV a b = c) ∧ Keep (fun _ => False) H2 h) (fun k15 hk15 => ?_) ?_
  · exact second t5 up h2 h k k15 fun c hc hcm h k => hk15 _ _ ⟨⟨c, rfl, hc, hcm⟩, k⟩
  rintro _ h ⟨⟨c, rfl, hc, hcm⟩, k⟩
  exact rest c hc hcm h k

theorem c_VersionShows {H : Heap} {v : Ver} (hv : v.wf) (hT : VerT H) : HCalls prg f_syngraphlaw18_VersionShows [.agg (verC v).toArray] H fun u H' => u = .bool true ∧ Keep (fun _ => False) H H' := by
  apply sh_syngraphlaw18_VersionShows_calls
  unfold sh_syngraphlaw18_VersionShows
  simp only [Cells_agg, Mnew_some]
  generalize hH1 : H.push (.cells (verC v).toArray T_version_Version (0, 0)) = H1
  have k1 : Keep (fun _ => False) H H1 := by rw [← hH1]; exact Keep.push
  have a1 : At H1 H.size (verC v) := by rw [← hH1]; exact At.push
  have A : ∀ {h}, Keep (fun _ => False) H1 h → ldN 4 h (Ptr H.size 0) = some (.agg (verC v).toArray) := fun k => ver_ld4 (a1.keep k id) hv
  have T1 := hT.keep k1 fun _ h => h.elim
  simp only [A Keep.refl, Mpu_some]
  refine call_i (c_ShowT hv T1.pow) ?_
  rintro _ h2 ⟨rfl, k2⟩
  simp only [A k2, Mpu_some]
  refine call_i (c_right18 hv) ?_
  rintro _ h3 ⟨rfl, k3⟩
  have k13 := k2.trans k3
  have k03 := k1.trans k13
  cases hok : verOk v <;> simp only [unV_not, Bool.not_true, Bool.not_false, Mif_bool, Mif_undef, pickV_bool, Mcd_bool, Mpu_some, if_true, if_false, Bool.false_eq_true, Bool.true_eq_false, decide_true, decide_false, reduceCtorEq, J1_eq, ex20, ex21, ex30, ex31, ex32, Mre_ok, Mre_nil]
  · have hs : showF v = [] := by unfold showF; rw [hok]; rfl
    have es := fun q => str_eql (q := q) (a := showF v) (b := [])
    simp only [es, decide_eq_true hs, unV_not, Bool.not_true, Bool.not_false, Mif_bool, Mif_undef, pickV_bool, Mcd_bool, Mpu_some, if_true, if_false, Bool.false_eq_true, Bool.true_eq_false, decide_true, decide_false, reduceCtorEq, J1_eq, ex20, ex21, ex30, ex31, ex32, Mre_ok, Mre_nil]
    refine awake_end hT k03 fun h' k => ?_
    simp only [unV_not, Bool.not_true, Bool.not_false, Mif_bool, Mif_undef, pickV_bool, Mcd_bool, Mpu_some, if_true, if_false, Bool.false_eq_true, Bool.true_eq_false, decide_true, decide_false, reduceCtorEq, J1_eq, ex20, ex21, ex30, ex31, ex32, Mre_ok, Mre_nil]
    exact ⟨by trivial, k⟩
  · have T3 := T1.keep k13 fun _ h => h.elim
    refine call_i (c_Parse T3.err T3.pow (s := showF v) (by have := showF_len (v := v) hv.p3; omega)) ?_
    rintro u h7 ⟨hR, k7⟩
    obtain rfl : u = Value.tuple #[.agg (verC v).toArray, .int .i64 0] := by
      rcases hR with ⟨w, hw, ho, hs, rfl⟩ | ⟨hno, rfl⟩
      · rw [show w = v from show_inj hw.p3 hv.p3 ho hok hs]
      · exact absurd rfl (hno v hv.p3 hok)
    have k17 := k13.trans k7
    simp only [unV_not, Bool.not_true, Bool.not_false, Mif_bool, Mif_undef, pickV_bool, Mcd_bool, Mpu_some, if_true, if_false, Bool.false_eq_true, Bool.true_eq_false, decide_true, decide_false, reduceCtorEq, J1_eq, ex20, ex21, ex30, ex31, ex32, Mre_ok, Mre_nil, z_VV, Mnew_some]
    generalize hH8 : h7.push (.cells (verC ⟨[0, 0, 0], []⟩).toArray T_version_Version (0, 0)) = h8
    have k8 : Keep (fun _ => False) h7 h8 := by rw [← hH8]; exact Keep.push
    have p8 : At h8 h7.size (verC zeroV) := by rw [← hH8]; exact At.push
    obtain ⟨h9, st9, p9, k9⟩ := p8.st (n := 4) (ds := verC v) (verC_len zeroV_wf) (verC_len hv) verC_one
    have q7 := k17.1
    have lt1 := a1.lt
    have k19 : Keep (fun _ => False) H1 h9 := (k17.trans k8).fresh k9 fun b hb => by omega
    simp only [st9, Mwr_some, A k19, Mpu_some]
    refine call_i (c_ref hv) ?_
    rintro _ h10 ⟨rfl, k10⟩
    refine call_i (c_refShow hv hok) ?_
    rintro _ h11 ⟨rfl, k11⟩
    have p11 := p9.keep (k10.trans k11) id
    have k111 := k19.trans (k10.trans k11)
    have es := fun q => str_eql (q := q) (a := showF v) (b := showF v)
    have i0 : binV .no .eql (.int .i64 0) (.int .i64 0) = some (.bool true) := rfl
    simp only [es, decide_true, i0, ver_ld4 p11 hv, A k111, eqVer hv hv, unV_not, Bool.not_true, Bool.not_false, Mif_bool, Mif_undef, pickV_bool, Mcd_bool, Mpu_some, if_true, if_false, Bool.false_eq_true, Bool.true_eq_false, decide_true, decide_false, reduceCtorEq, J1_eq, ex20, ex21, ex30, ex31, ex32, Mre_ok, Mre_nil]
    refine awake_end hT (k1.trans k111) fun h' k => ?_
    simp only [unV_not, Bool.not_true, Bool.not_false, Mif_bool, Mif_undef, pickV_bool, Mcd_bool, Mpu_some, if_true, if_false, Bool.false_eq_true, Bool.true_eq_false, decide_true, decide_false, reduceCtorEq, J1_eq, ex20, ex21, ex30, ex31, ex32, Mre_ok, Mre_nil]
    exact ⟨by trivial, k⟩

theorem c_VersionParses {H : Heap} {s : List UInt8} (hs : s.length ≤ 9223372036854775807) (hT : VerT H) : HCalls prg f_syngraphlaw18_VersionParses [str s] H fun u H' => u = .bool true ∧ Keep (fun _ => False) H H' := by
  apply sh_syngraphlaw18_VersionParses_calls
  unfold sh_syngraphlaw18_VersionParses
  have e200 : binV .no .gtr (.int .i64 (s.length : Nat)) (.int .i64 200) = some (.bool (decide (200 < s.length))) := by
    rw [binV_int]; simp only [intV]; congr 2; rw [decide_eq_decide]; omega
  simp only [lenT_str, e200, Mpu_some]
  cases h200 : decide (200 < s.length) <;> simp only [unV_not, Bool.not_true, Bool.not_false, Mif_bool, Mif_undef, pickV_bool, Mcd_bool, Mpu_some, if_true, if_false, Bool.false_eq_true, Bool.true_eq_false, decide_true, decide_false, reduceCtorEq, J1_eq, ex20, ex21, ex30, ex31, ex32, Mre_ok, Mre_nil]
  rotate_left
  · exact awake_end hT Keep.refl fun h' k => ⟨by trivial, k⟩
  have hl := of_decide_eq_false h200
  refine call_i (c_Parse hT.err hT.pow (s := s) (by omega)) ?_
  rintro u h2 ⟨hR, k2⟩
  have q2 := k2.1
  rcases hR with ⟨v, hv, hok, hsh, rfl⟩ | ⟨hno, rfl⟩
  · simp only [unV_not, Bool.not_true, Bool.not_false, Mif_bool, Mif_undef, pickV_bool, Mcd_bool, Mpu_some, if_true, if_false, Bool.false_eq_true, Bool.true_eq_false, decide_true, decide_false, reduceCtorEq, J1_eq, ex20, ex21, ex30, ex31, ex32, Mre_ok, Mre_nil, z_VV, Mnew_some]
    generalize hH3 : h2.push (.cells (verC ⟨[0, 0, 0], []⟩).toArray T_version_Version (0, 0)) = h3
    have k3 : Keep (fun _ => False) h2 h3 := by rw [← hH3]; exact Keep.push
    have p3 : At h3 h2.size (verC zeroV) := by rw [← hH3]; exact At.push
    obtain ⟨h4, st4, p4, k4⟩ := p3.st (n := 4) (ds := verC v) (verC_len zeroV_wf) (verC_len hv) verC_one
    have k04 : Keep (fun _ => False) H h4 := (k2.trans k3).fresh k4 fun b hb => by omega
    have i0 : binV .no .neq (.int .i64 0) (.int .i64 0) = some (.bool false) := rfl
    have i1 : binV .no .eql (.int .i64 0) (.int .i64 0) = some (.bool true) := rfl
    simp only [st4, Mwr_some, i0, i1, ver_ld4 p4 hv, unV_not, Bool.not_true, Bool.not_false, Mif_bool, Mif_undef, pickV_bool, Mcd_bool, Mpu_some, if_true, if_false, Bool.false_eq_true, Bool.true_eq_false, decide_true, decide_false, reduceCtorEq, J1_eq, ex20, ex21, ex30, ex31, ex32, Mre_ok, Mre_nil]
    refine call_i (c_right18 hv) ?_
    rintro _ h14 ⟨rfl, k14⟩
    have p14 := p4.keep k14 id
    simp only [hok, unV_not, Bool.not_true, Bool.not_false, Mif_bool, Mif_undef, pickV_bool, Mcd_bool, Mpu_some, if_true, if_false, Bool.false_eq_true, Bool.true_eq_false, decide_true, decide_false, reduceCtorEq, J1_eq, ex20, ex21, ex30, ex31, ex32, Mre_ok, Mre_nil, ver_ld4 p14 hv]
    refine call_i (c_ref hv) ?_
    rintro _ h17 ⟨rfl, k17⟩
    refine call_i (c_refShow hv hok) ?_
    rintro _ h18 ⟨rfl, k18⟩
    have es := fun q => str_neq (q := q) (a := showF v) (b := s)
    simp only [es, decide_eq_true hsh, unV_not, Bool.not_true, Bool.not_false, Mif_bool, Mif_undef, pickV_bool, Mcd_bool, Mpu_some, if_true, if_false, Bool.false_eq_true, Bool.true_eq_false, decide_true, decide_false, reduceCtorEq, J1_eq, ex20, ex21, ex30, ex31, ex32, Mre_ok, Mre_nil]
    have kh := k04.trans (k14.trans (k17.trans k18))
    have Th := hT.keep kh fun _ h => h.elim
    refine call_i (c_ParseWant Th.err Th.pow Th.ops (by omega)) ?_
    rintro u h24 ⟨hR, k24⟩
    have k024 := kh.trans k24
    rcases hR with ⟨w, hw, hok, hsh, rfl⟩ | ⟨hno, rfl⟩
    · simp only [unV_not, Bool.not_true, Bool.not_false, Mif_bool, Mif_undef, pickV_bool, Mcd_bool, Mpu_some, if_true, if_false, Bool.false_eq_true, Bool.true_eq_false, decide_true, decide_false, reduceCtorEq, J1_eq, ex20, ex21, ex30, ex31, ex32, Mre_ok, Mre_nil, z_Want, Mnew_some]
      generalize hH25 : h24.push (.cells (wantC zeroW).toArray T_version_Want (0, 0)) = h25
      have k25 : Keep (fun _ => False) h24 h25 := by rw [← hH25]; exact Keep.push
      have p25 : At h25 h24.size (wantC zeroW) := by rw [← hH25]; exact At.push
      obtain ⟨h26, st26, p26, k26⟩ := p25.st (n := 5) (ds := wantC w) (wantC_len zeroW_wf) (wantC_len hw) wantC_one
      have q := k024.1
      have k026 : Keep (fun _ => False) H h26 := (k024.trans k25).fresh k26 fun b hb => by omega
      have i0 : binV .no .neq (.int .i64 0) (.int .i64 0) = some (.bool false) := rfl
      simp only [st26, Mwr_some, i0, want_ld5 p26 hw, unV_not, Bool.not_true, Bool.not_false, Mif_bool, Mif_undef, pickV_bool, Mcd_bool, Mpu_some, if_true, if_false, Bool.false_eq_true, Bool.true_eq_false, decide_true, decide_false, reduceCtorEq, J1_eq, ex20, ex21, ex30, ex31, ex32, Mre_ok, Mre_nil]
      refine call_i (c_rightWant hw) ?_
      rintro _ h32 ⟨rfl, k32⟩
      have p32 := p26.keep k32 id
      have k032 := k026.trans k32
      have es := fun q => str_eql (q := q) (a := w.op) (b := [42])
      have es2 := fun q => str_eql (q := q) (a := s) (b := [42])
      simp only [hok, unV_not, Bool.not_true, Bool.not_false, Mif_bool, Mif_undef, pickV_bool, Mcd_bool, Mpu_some, if_true, if_false, Bool.false_eq_true, Bool.true_eq_false, decide_true, decide_false, reduceCtorEq, J1_eq, ex20, ex21, ex30, ex31, ex32, Mre_ok, Mre_nil, fld_ptr, Nat.zero_add, want_op p32, es]
      have hsh' := hsh
      unfold wantS at hsh'
      rw [hok, cond_true] at hsh'
      cases hst : decide (w.op = [42]) <;> rw [hst] at hsh' <;> simp only [unV_not, Bool.not_true, Bool.not_false, Mif_bool, Mif_undef, pickV_bool, Mcd_bool, Mpu_some, if_true, if_false, Bool.false_eq_true, Bool.true_eq_false, decide_true, decide_false, reduceCtorEq, J1_eq, ex20, ex21, ex30, ex31, ex32, Mre_ok, Mre_nil, fld_ptr, Nat.zero_add, want_op p32, want_ver p32 hw]
      · obtain ⟨hr, hvo⟩ := wantOk_op hok hst
        have l1 := opsR_len hr
        have l2 := showF_len (v := w.ver) hw.ver.p3
        refine call_i (c_ref hw.ver) ?_
        rintro _ h36 ⟨rfl, k36⟩
        have p36 := p32.keep k36 id
        simp only [want_op p36, unV_not, Bool.not_true, Bool.not_false, Mif_bool, Mif_undef, pickV_bool, Mcd_bool, Mpu_some, if_true, if_false, Bool.false_eq_true, Bool.true_eq_false, decide_true, decide_false, reduceCtorEq, J1_eq, ex20, ex21, ex30, ex31, ex32, Mre_ok, Mre_nil]
        refine call_i (c_refShow hw.ver hvo) ?_
        rintro _ h37 ⟨rfl, k37⟩
        have p37 := p36.keep k37 id
        rw [cond_false] at hsh'
        have es3 := fun q => str_eql (q := q) (a := s) (b := w.op ++ showF w.ver)
        simp only [want_op p37, str_app (show w.op.length + (showF w.ver).length ≤ 9223372036854775807 by omega), es3, decide_eq_true hsh'.symm, unV_not, Bool.not_true, Bool.not_false, Mif_bool, Mif_undef, pickV_bool, Mcd_bool, Mpu_some, if_true, if_false, Bool.false_eq_true, Bool.true_eq_false, decide_true, decide_false, reduceCtorEq, J1_eq, ex20, ex21, ex30, ex31, ex32, Mre_ok, Mre_nil]
        refine awake_end hT (k032.trans (k36.trans k37)) fun h' k => ?_
        simp only [unV_not, Bool.not_true, Bool.not_false, Mif_bool, Mif_undef, pickV_bool, Mcd_bool, Mpu_some, if_true, if_false, Bool.false_eq_true, Bool.true_eq_false, decide_true, decide_false, reduceCtorEq, J1_eq, ex20, ex21, ex30, ex31, ex32, Mre_ok, Mre_nil]
        exact ⟨by trivial, k⟩
      · rw [cond_true] at hsh'
        simp only [es2, decide_eq_true hsh'.symm, unV_not, Bool.not_true, Bool.not_false, Mif_bool, Mif_undef, pickV_bool, Mcd_bool, Mpu_some, if_true, if_false, Bool.false_eq_true, Bool.true_eq_false, decide_true, decide_false, reduceCtorEq, J1_eq, ex20, ex21, ex30, ex31, ex32, Mre_ok, Mre_nil]
        refine awake_end hT k032 fun h' k => ?_
        simp only [unV_not, Bool.not_true, Bool.not_false, Mif_bool, Mif_undef, pickV_bool, Mcd_bool, Mpu_some, if_true, if_false, Bool.false_eq_true, Bool.true_eq_false, decide_true, decide_false, reduceCtorEq, J1_eq, ex20, ex21, ex30, ex31, ex32, Mre_ok, Mre_nil]
        exact ⟨by trivial, k⟩
    · simp only [unV_not, Bool.not_true, Bool.not_false, Mif_bool, Mif_undef, pickV_bool, Mcd_bool, Mpu_some, if_true, if_false, Bool.false_eq_true, Bool.true_eq_false, decide_true, decide_false, reduceCtorEq, J1_eq, ex20, ex21, ex30, ex31, ex32, Mre_ok, Mre_nil, z_Want, Mnew_some]
      generalize hH25 : h24.push (.cells (wantC zeroW).toArray T_version_Want (0, 0)) = h25
      have k25 : Keep (fun _ => False) h24 h25 := by rw [← hH25]; exact Keep.push
      have p25 : At h25 h24.size (wantC zeroW) := by rw [← hH25]; exact At.push
      obtain ⟨h26, st26, p26, k26⟩ := p25.st (n := 5) (ds := wantC zeroW) (wantC_len zeroW_wf) (wantC_len zeroW_wf) wantC_one
      have q := k024.1
      have k026 : Keep (fun _ => False) H h26 := (k024.trans k25).fresh k26 fun b hb => by omega
      have i0 : binV .no .neq (.int .i64 10) (.int .i64 0) = some (.bool true) := rfl
      have i1 : binV .no .eql (.int .i64 10) (.int .i64 10) = some (.bool true) := rfl
      simp only [st26, Mwr_some, i0, i1, want_ld5 p26 zeroW_wf, b_W0, eqWant zeroW_wf zeroW_wf, unV_not, Bool.not_true, Bool.not_false, Mif_bool, Mif_undef, pickV_bool, Mcd_bool, Mpu_some, if_true, if_false, Bool.false_eq_true, Bool.true_eq_false, decide_true, decide_false, reduceCtorEq, J1_eq, ex20, ex21, ex30, ex31, ex32, Mre_ok, Mre_nil]
      refine awake_end hT k026 fun h' k => ?_
      simp only [unV_not, Bool.not_true, Bool.not_false, Mif_bool, Mif_undef, pickV_bool, Mcd_bool, Mpu_some, if_true, if_false, Bool.false_eq_true, Bool.true_eq_false, decide_true, decide_false, reduceCtorEq, J1_eq, ex20, ex21, ex30, ex31, ex32, Mre_ok, Mre_nil]
      exact ⟨by trivial, k⟩
  · simp only [unV_not, Bool.not_true, Bool.not_false, Mif_bool, Mif_undef, pickV_bool, Mcd_bool, Mpu_some, if_true, if_false, Bool.false_eq_true, Bool.true_eq_false, decide_true, decide_false, reduceCtorEq, J1_eq, ex20, ex21, ex30, ex31, ex32, Mre_ok, Mre_nil, z_VV, Mnew_some]
    generalize hH3 : h2.push (.cells (verC ⟨[0, 0, 0], []⟩).toArray T_version_Version (0, 0)) = h3
    have k3 : Keep (fun _ => False) h2 h3 := by rw [← hH3]; exact Keep.push
    have p3 : At h3 h2.size (verC zeroV) := by rw [← hH3]; exact At.push
    obtain ⟨h4, st4, p4, k4⟩ := p3.st (n := 4) (ds := verC zeroV) (verC_len zeroV_wf) (verC_len zeroV_wf) verC_one
    have k04 : Keep (fun _ => False) H h4 := (k2.trans k3).fresh k4 fun b hb => by omega
    have i0 : binV .no .neq (.int .i64 10) (.int .i64 0) = some (.bool true) := rfl
    have i1 : binV .no .neq (.int .i64 10) (.int .i64 10) = some (.bool false) := rfl
    have i2 : binV .no .eql (.int .i64 10) (.int .i64 0) = some (.bool false) := rfl
    simp only [st4, Mwr_some, i0, i1, i2, ver_ld4 p4 zeroV_wf, b_V0, neVer zeroV_wf zeroV_wf, unV_not, Bool.not_true, Bool.not_false, Mif_bool, Mif_undef, pickV_bool, Mcd_bool, Mpu_some, if_true, if_false, Bool.false_eq_true, Bool.true_eq_false, decide_true, decide_false, reduceCtorEq, J1_eq, ex20, ex21, ex30, ex31, ex32, Mre_ok, Mre_nil]
    have kh := k04
    have Th := hT.keep kh fun _ h => h.elim
    refine call_i (c_ParseWant Th.err Th.pow Th.ops (by omega)) ?_
    rintro u h24 ⟨hR, k24⟩
    have k024 := kh.trans k24
    rcases hR with ⟨w, hw, hok, hsh, rfl⟩ | ⟨hno, rfl⟩
    · simp only [unV_not, Bool.not_true, Bool.not_false, Mif_bool, Mif_undef, pickV_bool, Mcd_bool, Mpu_some, if_true, if_false, Bool.false_eq_true, Bool.true_eq_false, decide_true, decide_false, reduceCtorEq, J1_eq, ex20, ex21, ex30, ex31, ex32, Mre_ok, Mre_nil, z_Want, Mnew_some]
      generalize hH25 : h24.push (.cells (wantC zeroW).toArray T_version_Want (0, 0)) = h25
      have k25 : Keep (fun _ => False) h24 h25 := by rw [← hH25]; exact Keep.push
      have p25 : At h25 h24.size (wantC zeroW) := by rw [← hH25]; exact At.push
      obtain ⟨h26, st26, p26, k26⟩ := p25.st (n := 5) (ds := wantC w) (wantC_len zeroW_wf) (wantC_len hw) wantC_one
      have q := k024.1
      have k026 : Keep (fun _ => False) H h26 := (k024.trans k25).fresh k26 fun b hb => by omega
      have i0 : binV .no .neq (.int .i64 0) (.int .i64 0) = some (.bool false) := rfl
      simp only [st26, Mwr_some, i0, want_ld5 p26 hw, unV_not, Bool.not_true, Bool.not_false, Mif_bool, Mif_undef, pickV_bool, Mcd_bool, Mpu_some, if_true, if_false, Bool.false_eq_true, Bool.true_eq_false, decide_true, decide_false, reduceCtorEq, J1_eq, ex20, ex21, ex30, ex31, ex32, Mre_ok, Mre_nil]
      refine call_i (c_rightWant hw) ?_
      rintro _ h32 ⟨rfl, k32⟩
      have p32 := p26.keep k32 id
      have k032 := k026.trans k32
      have es := fun q => str_eql (q := q) (a := w.op) (b := [42])
      have es2 := fun q => str_eql (q := q) (a := s) (b := [42])
      simp only [hok, unV_not, Bool.not_true, Bool.not_false, Mif_bool, Mif_undef, pickV_bool, Mcd_bool, Mpu_some, if_true, if_false, Bool.false_eq_true, Bool.true_eq_false, decide_true, decide_false, reduceCtorEq, J1_eq, ex20, ex21, ex30, ex31, ex32, Mre_ok, Mre_nil, fld_ptr, Nat.zero_add, want_op p32, es]
      have hsh' := hsh
      unfold wantS at hsh'
      rw [hok, cond_true] at hsh'
      cases hst : decide (w.op = [42]) <;> rw [hst] at hsh' <;> simp only [unV_not, Bool.not_true, Bool.not_false, Mif_bool, Mif_undef, pickV_bool, Mcd_bool, Mpu_some, if_true, if_false, Bool.false_eq_true, Bool.true_eq_false, decide_true, decide_false, reduceCtorEq, J1_eq, ex20, ex21, ex30, ex31, ex32, Mre_ok, Mre_nil, fld_ptr, Nat.zero_add, want_op p32, want_ver p32 hw]
      · obtain ⟨hr, hvo⟩ := wantOk_op hok hst
        have l1 := opsR_len hr
        have l2 := showF_len (v := w.ver) hw.ver.p3
        refine call_i (c_ref hw.ver) ?_
        rintro _ h36 ⟨rfl, k36⟩
        have p36 := p32.keep k36 id
        simp only [want_op p36, unV_not, Bool.not_true, Bool.not_false, Mif_bool, Mif_undef, pickV_bool, Mcd_bool, Mpu_some, if_true, if_false, Bool.false_eq_true, Bool.true_eq_false, decide_true, decide_false, reduceCtorEq, J1_eq, ex20, ex21, ex30, ex31, ex32, Mre_ok, Mre_nil]
        refine call_i (c_refShow hw.ver hvo) ?_
        rintro _ h37 ⟨rfl, k37⟩
        have p37 := p36.keep k37 id
        rw [cond_false] at hsh'
        have es3 := fun q => str_eql (q := q) (a := s) (b := w.op ++ showF w.ver)
        simp only [want_op p37, str_app (show w.op.length + (showF w.ver).length ≤ 9223372036854775807 by omega), es3, decide_eq_true hsh'.symm, unV_not, Bool.not_true, Bool.not_false, Mif_bool, Mif_undef, pickV_bool, Mcd_bool, Mpu_some, if_true, if_false, Bool.false_eq_true, Bool.true_eq_false, decide_true, decide_false, reduceCtorEq, J1_eq, ex20, ex21, ex30, ex31, ex32, Mre_ok, Mre_nil]
        refine awake_end hT (k032.trans (k36.trans k37)) fun h' k => ?_
        simp only [unV_not, Bool.not_true, Bool.not_false, Mif_bool, Mif_undef, pickV_bool, Mcd_bool, Mpu_some, if_true, if_false, Bool.false_eq_true, Bool.true_eq_false, decide_true, decide_false, reduceCtorEq, J1_eq, ex20, ex21, ex30, ex31, ex32, Mre_ok, Mre_nil]
        exact ⟨by trivial, k⟩
      · rw [cond_true] at hsh'
        simp only [es2, decide_eq_true hsh'.symm, unV_not, Bool.not_true, Bool.not_false, Mif_bool, Mif_undef, pickV_bool, Mcd_bool, Mpu_some, if_true, if_false, Bool.false_eq_true, Bool.true_eq_false, decide_true, decide_false, reduceCtorEq, J1_eq, ex20, ex21, ex30, ex31, ex32, Mre_ok, Mre_nil]
        refine awake_end hT k032 fun h' k => ?_
        simp only [unV_not, Bool.not_true, Bool.not_false, Mif_bool, Mif_undef, pickV_bool, Mcd_bool, Mpu_some, if_true, if_false, Bool.false_eq_true, Bool.true_eq_false, decide_true, decide_false, reduceCtorEq, J1_eq, ex20, ex21, ex30, ex31, ex32, Mre_ok, Mre_nil]
        exact ⟨by trivial, k⟩
    · simp only [unV_not, Bool.not_true, Bool.not_false, Mif_bool, Mif_undef, pickV_bool, Mcd_bool, Mpu_some, if_true, if_false, Bool.false_eq_true, Bool.true_eq_false, decide_true, decide_false, reduceCtorEq, J1_eq, ex20, ex21, ex30, ex31, ex32, Mre_ok, Mre_nil, z_Want, Mnew_some]
      generalize hH25 : h24.push (.cells (wantC zeroW).toArray T_version_Want (0, 0)) = h25
      have k25 : Keep (fun _ => False) h24 h25 := by rw [← hH25]; exact Keep.push
      have p25 : At h25 h24.size (wantC zeroW) := by rw [← hH25]; exact At.push
      obtain ⟨h26, st26, p26, k26⟩ := p25.st (n := 5) (ds := wantC zeroW) (wantC_len zeroW_wf) (wantC_len zeroW_wf) wantC_one
      have q := k024.1
      have k026 : Keep (fun _ => False) H h26 := (k024.trans k25).fresh k26 fun b hb => by omega
      have i0 : binV .no .neq (.int .i64 10) (.int .i64 0) = some (.bool true) := rfl
      have i1 : binV .no .eql (.int .i64 10) (.int .i64 10) = some (.bool true) := rfl
      simp only [st26, Mwr_some, i0, i1, want_ld5 p26 zeroW_wf, b_W0, eqWant zeroW_wf zeroW_wf, unV_not, Bool.not_true, Bool.not_false, Mif_bool, Mif_undef, pickV_bool, Mcd_bool, Mpu_some, if_true, if_false, Bool.false_eq_true, Bool.true_eq_false, decide_true, decide_false, reduceCtorEq, J1_eq, ex20, ex21, ex30, ex31, ex32, Mre_ok, Mre_nil]
      refine awake_end hT k026 fun h' k => ?_
      simp only [unV_not, Bool.not_true, Bool.not_false, Mif_bool, Mif_undef, pickV_bool, Mcd_bool, Mpu_some, if_true, if_false, Bool.false_eq_true, Bool.true_eq_false, decide_true, decide_false, reduceCtorEq, J1_eq, ex20, ex21, ex30, ex31, ex32, Mre_ok, Mre_nil]
      exact ⟨by trivial, k⟩
end Go.Proofs.YtmhfanpijdgkjaaDoor
/- The walks of VersionFits and VersionChains. -/
namespace Go.Proofs.YtmhfanpijdgkjaaDoor
open Go.X Go.X.Diff
set_option maxRecDepth 100000

theorem c_VersionFits {H : Heap} {w : Want} {v : Ver} (hw : w.wf) (hv : v.wf) (hT : VerT H) : HCalls prg f_syngraphlaw18_VersionFits [.agg (wantC w).toArray, .agg (verC v).toArray] H fun u H' => u = .bool true ∧ Keep (fun _ => False) H H' := by
  apply sh_syngraphlaw18_VersionFits_calls
  unfold sh_syngraphlaw18_VersionFits
  simp only [Cells_agg, Mnew_some]
  generalize hH1 : H.push (.cells (wantC w).toArray T_version_Want (0, 0)) = H1
  have k1 : Keep (fun _ => False) H H1 := by rw [← hH1]; exact Keep.push
  have a1 : At H1 H.size (wantC w) := by rw [← hH1]; exact At.push
  generalize hH2 : H1.push (.cells (verC v).toArray T_version_Version (0, 0)) = H2
  have k2 : Keep (fun _ => False) H1 H2 := by rw [← hH2]; exact Keep.push
  have b2 : At H2 H1.size (verC v) := by rw [← hH2]; exact At.push
  have a2 := a1.keep k2 id
  have k02 := k1.trans k2
  have A : ∀ {h}, Keep (fun _ => False) H2 h → ldN 5 h (Ptr H.size 0) = some (.agg (wantC w).toArray) := fun k => want_ld5 (a2.keep k id) hw
  have AO : ∀ {h}, Keep (fun _ => False) H2 h → ld1 h (Ptr H.size 0) = some (str w.op) := fun k => want_op (a2.keep k id)
  have AV : ∀ {h}, Keep (fun _ => False) H2 h → ldN 4 h (Ptr H.size 1) = some (.agg (verC w.ver).toArray) := fun k => want_ver (a2.keep k id) hw
  have B : ∀ {h}, Keep (fun _ => False) H2 h → ldN 4 h (Ptr H1.size 0) = some (.agg (verC v).toArray) := fun k => ver_ld4 (b2.keep k id) hv
  have TT : ∀ {h}, Keep (fun _ => False) H2 h → VerT h := fun k => hT.keep (k02.trans k) fun _ h => h.elim
  simp only [A Keep.refl, Mpu_some]
  refine call_i (c_WantRight hw (TT Keep.refl).ops) ?_
  rintro _ h3 ⟨rfl, k3⟩
  simp only [A k3, unV_not, Bool.not_true, Bool.not_false, Mif_bool, Mif_undef, pickV_bool, Mcd_bool, Mpu_some, if_true, if_false, Bool.false_eq_true, Bool.true_eq_false, decide_true, decide_false, reduceCtorEq, J1_eq, ex20, ex21, ex30, ex31, ex32, Mre_ok, Mre_nil]
  refine call_i (c_rightWant hw) ?_
  rintro _ h4 ⟨rfl, k4⟩
  have k24 := k3.trans k4
  simp only [ne_bool, bne_self_eq_false, A k24, unV_not, Bool.not_true, Bool.not_false, Mif_bool, Mif_undef, pickV_bool, Mcd_bool, Mpu_some, if_true, if_false, Bool.false_eq_true, Bool.true_eq_false, decide_true, decide_false, reduceCtorEq, J1_eq, ex20, ex21, ex30, ex31, ex32, Mre_ok, Mre_nil]
  refine call_i (c_WantShow hw (TT k24).ops (TT k24).pow) ?_
  rintro _ h5 ⟨rfl, k5⟩
  have k25 := k24.trans k5
  simp only [A k25, unV_not, Bool.not_true, Bool.not_false, Mif_bool, Mif_undef, pickV_bool, Mcd_bool, Mpu_some, if_true, if_false, Bool.false_eq_true, Bool.true_eq_false, decide_true, decide_false, reduceCtorEq, J1_eq, ex20, ex21, ex30, ex31, ex32, Mre_ok, Mre_nil]
  refine call_i (c_rightWant hw) ?_
  rintro _ h6 ⟨rfl, k6⟩
  have k26 := k25.trans k6
  cases hok : wantOk w <;> simp only [unV_not, Bool.not_true, Bool.not_false, Mif_bool, Mif_undef, pickV_bool, Mcd_bool, Mpu_some, if_true, if_false, Bool.false_eq_true, Bool.true_eq_false, decide_true, decide_false, reduceCtorEq, J1_eq, ex20, ex21, ex30, ex31, ex32, Mre_ok, Mre_nil]
  · have hs : wantS w = [] := by unfold wantS; rw [hok]; rfl
    have es := fun q => str_eql (q := q) (a := wantS w) (b := [])
    simp only [es, decide_eq_true hs, A k26, B k26, unV_not, Bool.not_true, Bool.not_false, Mif_bool, Mif_undef, pickV_bool, Mcd_bool, Mpu_some, if_true, if_false, Bool.false_eq_true, Bool.true_eq_false, decide_true, decide_false, reduceCtorEq, J1_eq, ex20, ex21, ex30, ex31, ex32, Mre_ok, Mre_nil]
    refine call_i (c_WantFits hw hv (TT k26).ops) ?_
    rintro _ h8 ⟨rfl, k8⟩
    simp only [hok, Bool.false_and, unV_not, Bool.not_true, Bool.not_false, Mif_bool, Mif_undef, pickV_bool, Mcd_bool, Mpu_some, if_true, if_false, Bool.false_eq_true, Bool.true_eq_false, decide_true, decide_false, reduceCtorEq, J1_eq, ex20, ex21, ex30, ex31, ex32, Mre_ok, Mre_nil]
    refine awake_end hT (k02.trans (k26.trans k8)) fun h' k => ?_
    simp only [unV_not, Bool.not_true, Bool.not_false, Mif_bool, Mif_undef, pickV_bool, Mcd_bool, Mpu_some, if_true, if_false, Bool.false_eq_true, Bool.true_eq_false, decide_true, decide_false, reduceCtorEq, J1_eq, ex20, ex21, ex30, ex31, ex32, Mre_ok, Mre_nil]
    exact ⟨by trivial, k⟩
  · have hsl : (wantS w).length ≤ 1048576 := by
      unfold wantS
      rw [hok, cond_true]
      cases hst : decide (w.op = [42])
      · have l1 := opsR_len (wantOk_op hok hst).1
        have l2 := showF_len (v := w.ver) hw.ver.p3
        rw [cond_false, List.length_append]; omega
      · rw [cond_true]; simp
    refine call_i (c_ParseWant (TT k26).err (TT k26).pow (TT k26).ops hsl) ?_
    rintro u h13 ⟨hR, k13⟩
    obtain rfl : u = Value.tuple #[.agg (wantC w).toArray, .int .i64 0] := by
      rcases hR with ⟨w', hw', ho, hs, rfl⟩ | ⟨hno, rfl⟩
      · rw [show w' = w from want_inj hw' hw ho hok hs]
      · exact absurd rfl (hno w hw hok)
    have k213 := k26.trans k13
    simp only [unV_not, Bool.not_true, Bool.not_false, Mif_bool, Mif_undef, pickV_bool, Mcd_bool, Mpu_some, if_true, if_false, Bool.false_eq_true, Bool.true_eq_false, decide_true, decide_false, reduceCtorEq, J1_eq, ex20, ex21, ex30, ex31, ex32, Mre_ok, Mre_nil, z_Want, Mnew_some]
    generalize hH14 : h13.push (.cells (wantC zeroW).toArray T_version_Want (0, 0)) = h14
    have k14 : Keep (fun _ => False) h13 h14 := by rw [← hH14]; exact Keep.push
    have p14 : At h14 h13.size (wantC zeroW) := by rw [← hH14]; exact At.push
    obtain ⟨h15, st15, p15, k15⟩ := p14.st (n := 5) (ds := wantC w) (wantC_len zeroW_wf) (wantC_len hw) wantC_one
    have q := k213.1
    have k215 : Keep (fun _ => False) H2 h15 := (k213.trans k14).fresh k15 fun b hb => by omega
    have i0 : binV .no .neq (.int .i64 0) (.int .i64 0) = some (.bool false) := rfl
    simp only [st15, Mwr_some, i0, want_ld5 p15 hw, A k215, B k215, neWant hw hw, decide_true, unV_not, Bool.not_true, Bool.not_false, Mif_bool, Mif_undef, pickV_bool, Mcd_bool, Mpu_some, if_true, if_false, Bool.false_eq_true, Bool.true_eq_false, decide_true, decide_false, reduceCtorEq, J1_eq, ex20, ex21, ex30, ex31, ex32, Mre_ok, Mre_nil]
    refine call_i (c_WantFits hw hv (TT k215).ops) ?_
    rintro _ h18 ⟨rfl, k18⟩
    have k218 := k215.trans k18
    simp only [B k218, unV_not, Bool.not_true, Bool.not_false, Mif_bool, Mif_undef, pickV_bool, Mcd_bool, Mpu_some, if_true, if_false, Bool.false_eq_true, Bool.true_eq_false, decide_true, decide_false, reduceCtorEq, J1_eq, ex20, ex21, ex30, ex31, ex32, Mre_ok, Mre_nil]
    refine call_i (c_right18 hv) ?_
    rintro _ h19 ⟨rfl, k19⟩
    have k219 := k218.trans k19
    cases hvo : verOk v <;> simp only [hok, Bool.true_and, Bool.and_false, Bool.false_and, eq_bool, beq_self_eq_true, fld_ptr, Nat.zero_add, AO k219, AV k219, B k219, unV_not, Bool.not_true, Bool.not_false, Mif_bool, Mif_undef, pickV_bool, Mcd_bool, Mpu_some, if_true, if_false, Bool.false_eq_true, Bool.true_eq_false, decide_true, decide_false, reduceCtorEq, J1_eq, ex20, ex21, ex30, ex31, ex32, Mre_ok, Mre_nil]
    · refine awake_end hT (k02.trans k219) fun h' k => ?_
      simp only [unV_not, Bool.not_true, Bool.not_false, Mif_bool, Mif_undef, pickV_bool, Mcd_bool, Mpu_some, if_true, if_false, Bool.false_eq_true, Bool.true_eq_false, decide_true, decide_false, reduceCtorEq, J1_eq, ex20, ex21, ex30, ex31, ex32, Mre_ok, Mre_nil]
      exact ⟨by trivial, k⟩
    · refine call_i (c_ref hw.ver) ?_
      rintro _ h21 ⟨rfl, k21⟩
      have k221 := k219.trans k21
      simp only [B k221, AO k221, unV_not, Bool.not_true, Bool.not_false, Mif_bool, Mif_undef, pickV_bool, Mcd_bool, Mpu_some, if_true, if_false, Bool.false_eq_true, Bool.true_eq_false, decide_true, decide_false, reduceCtorEq, J1_eq, ex20, ex21, ex30, ex31, ex32, Mre_ok, Mre_nil]
      refine call_i (c_ref hv) ?_
      rintro _ h22 ⟨rfl, k22⟩
      have k222 := k221.trans k22
      simp only [AO k222, unV_not, Bool.not_true, Bool.not_false, Mif_bool, Mif_undef, pickV_bool, Mcd_bool, Mpu_some, if_true, if_false, Bool.false_eq_true, Bool.true_eq_false, decide_true, decide_false, reduceCtorEq, J1_eq, ex20, ex21, ex30, ex31, ex32, Mre_ok, Mre_nil]
      refine call_i (c_refFits hv hw.ver) ?_
      rintro _ h23 ⟨rfl, k23⟩
      simp only [eq_bool, beq_self_eq_true, unV_not, Bool.not_true, Bool.not_false, Mif_bool, Mif_undef, pickV_bool, Mcd_bool, Mpu_some, if_true, if_false, Bool.false_eq_true, Bool.true_eq_false, decide_true, decide_false, reduceCtorEq, J1_eq, ex20, ex21, ex30, ex31, ex32, Mre_ok, Mre_nil]
      refine awake_end hT (k02.trans (k222.trans k23)) fun h' k => ?_
      simp only [unV_not, Bool.not_true, Bool.not_false, Mif_bool, Mif_undef, pickV_bool, Mcd_bool, Mpu_some, if_true, if_false, Bool.false_eq_true, Bool.true_eq_false, decide_true, decide_false, reduceCtorEq, J1_eq, ex20, ex21, ex30, ex31, ex32, Mre_ok, Mre_nil]
      exact ⟨by trivial, k⟩

theorem c_VersionChains {H : Heap} {a b c : Ver} (ha : a.wf) (hb : b.wf) (hc : c.wf) (hT : VerT H) : HCalls prg f_syngraphlaw18_VersionChains [.agg (verC a).toArray, .agg (verC b).toArray, .agg (verC c).toArray] H fun u H' => u = .bool true ∧ Keep (fun _ => False) H H' := by
  apply sh_syngraphlaw18_VersionChains_calls
  unfold sh_syngraphlaw18_VersionChains
  simp only [Cells_agg, Mnew_some]
  generalize hH1 : H.push (.cells (verC a).toArray T_version_Version (0, 0)) = H1
  have k1 : Keep (fun _ => False) H H1 := by rw [← hH1]; exact Keep.push
  have a1 : At H1 H.size (verC a) := by rw [← hH1]; exact At.push
  generalize hH2 : H1.push (.cells (verC b).toArray T_version_Version (0, 0)) = H2
  have k2 : Keep (fun _ => False) H1 H2 := by rw [← hH2]; exact Keep.push
  have b2 : At H2 H1.size (verC b) := by rw [← hH2]; exact At.push
  generalize hH3 : H2.push (.cells (verC c).toArray T_version_Version (0, 0)) = H3
  have k3 : Keep (fun _ => False) H2 H3 := by rw [← hH3]; exact Keep.push
  have c3 : At H3 H2.size (verC c) := by rw [← hH3]; exact At.push
  have a3 := (a1.keep k2 id).keep k3 id
  have b3 := b2.keep k3 id
  have k03 := k1.trans (k2.trans k3)
  have A : ∀ {h}, Keep (fun _ => False) H3 h → ldN 4 h (Ptr H.size 0) = some (.agg (verC a).toArray) := fun k => ver_ld4 (a3.keep k id) ha
  have B : ∀ {h}, Keep (fun _ => False) H3 h → ldN 4 h (Ptr H1.size 0) = some (.agg (verC b).toArray) := fun k => ver_ld4 (b3.keep k id) hb
  have C : ∀ {h}, Keep (fun _ => False) H3 h → ldN 4 h (Ptr H2.size 0) = some (.agg (verC c).toArray) := fun k => ver_ld4 (c3.keep k id) hc
  have out : ∀ {h}, Keep (fun _ => False) H3 h → Mcall prg f_syngraphlaw18_awake [] h fun t32 h17 => t32 = .bool true ∧ Keep (fun _ => False) H h17 := fun k => awake_end hT (k03.trans k) fun h' k => ⟨by trivial, k⟩
  simp only [A Keep.refl, Mpu_some]
  refine call_i (c_right18 ha) ?_
  rintro _ h4 ⟨rfl, k4⟩
  cases hao : verOk a
  · simp only [unV_not, Bool.not_true, Bool.not_false, Mif_bool, Mif_undef, pickV_bool, Mcd_bool, Mpu_some, if_true, if_false, Bool.false_eq_true, Bool.true_eq_false, decide_true, decide_false, reduceCtorEq, J1_eq, ex20, ex21, ex30, ex31, ex32, Mre_ok, Mre_nil]; exact out k4
  simp only [unV_not, Bool.not_true, Bool.not_false, Mif_bool, Mif_undef, pickV_bool, Mcd_bool, Mpu_some, if_true, if_false, Bool.false_eq_true, Bool.true_eq_false, decide_true, decide_false, reduceCtorEq, ex20, ex21, ex30, ex31, ex32, Mre_ok, Mre_nil]
  refine J1_eq.2 ?_
  simp only [B k4, unV_not, Bool.not_true, Bool.not_false, Mif_bool, Mif_undef, pickV_bool, Mcd_bool, Mpu_some, if_true, if_false, Bool.false_eq_true, Bool.true_eq_false, decide_true, decide_false, reduceCtorEq, ex20, ex21, ex30, ex31, ex32, Mre_ok, Mre_nil]
  refine call_i (c_right18 hb) ?_
  rintro _ h6 ⟨rfl, k6⟩
  have k36 := k4.trans k6
  cases hbo : verOk b
  · simp only [unV_not, Bool.not_true, Bool.not_false, Mif_bool, Mif_undef, pickV_bool, Mcd_bool, Mpu_some, if_true, if_false, Bool.false_eq_true, Bool.true_eq_false, decide_true, decide_false, reduceCtorEq, J1_eq, ex20, ex21, ex30, ex31, ex32, Mre_ok, Mre_nil]; exact out k36
  simp only [unV_not, Bool.not_true, Bool.not_false, Mif_bool, Mif_undef, pickV_bool, Mcd_bool, Mpu_some, if_true, if_false, Bool.false_eq_true, Bool.true_eq_false, decide_true, decide_false, reduceCtorEq, ex20, ex21, ex30, ex31, ex32, Mre_ok, Mre_nil]
  refine J1_eq.2 ?_
  simp only [C k36, unV_not, Bool.not_true, Bool.not_false, Mif_bool, Mif_undef, pickV_bool, Mcd_bool, Mpu_some, if_true, if_false, Bool.false_eq_true, Bool.true_eq_false, decide_true, decide_false, reduceCtorEq, ex20, ex21, ex30, ex31, ex32, Mre_ok, Mre_nil]
  refine call_i (c_right18 hc) ?_
  rintro _ h9 ⟨rfl, k9⟩
  have k39 := k36.trans k9
  cases hco : verOk c
  · simp only [unV_not, Bool.not_true, Bool.not_false, Mif_bool, Mif_undef, pickV_bool, Mcd_bool, Mpu_some, if_true, if_false, Bool.false_eq_true, Bool.true_eq_false, decide_true, decide_false, reduceCtorEq, J1_eq, ex20, ex21, ex30, ex31, ex32, Mre_ok, Mre_nil]; exact out k39
  simp only [unV_not, Bool.not_true, Bool.not_false, Mif_bool, Mif_undef, pickV_bool, Mcd_bool, Mpu_some, if_true, if_false, Bool.false_eq_true, Bool.true_eq_false, decide_true, decide_false, reduceCtorEq, ex20, ex21, ex30, ex31, ex32, Mre_ok, Mre_nil]
  refine J1_eq.2 ?_
  simp only [A k39, B k39, unV_not, Bool.not_true, Bool.not_false, Mif_bool, Mif_undef, pickV_bool, Mcd_bool, Mpu_some, if_true, if_false, Bool.false_eq_true, Bool.true_eq_false, decide_true, decide_false, reduceCtorEq, ex20, ex21, ex30, ex31, ex32, Mre_ok, Mre_nil]
  refine call_i (c_Cmp ha hb) ?_
  rintro _ h12 ⟨rfl, k12⟩
  have k312 := k39.trans k12
  have g1 : binV .no .gtr (.int .i64 (cmpV a b)) (.int .i64 0) = some (.bool (decide (cmpV a b > 0))) := by rw [binV_int]; rfl
  cases hab : decide (cmpV a b > 0)
  rotate_left
  · simp only [g1, hab, unV_not, Bool.not_true, Bool.not_false, Mif_bool, Mif_undef, pickV_bool, Mcd_bool, Mpu_some, if_true, if_false, Bool.false_eq_true, Bool.true_eq_false, decide_true, decide_false, reduceCtorEq, J1_eq, ex20, ex21, ex30, ex31, ex32, Mre_ok, Mre_nil]; exact out k312
  simp only [g1, hab, unV_not, Bool.not_true, Bool.not_false, Mif_bool, Mif_undef, pickV_bool, Mcd_bool, Mpu_some, if_true, if_false, Bool.false_eq_true, Bool.true_eq_false, decide_true, decide_false, reduceCtorEq, ex20, ex21, ex30, ex31, ex32, Mre_ok, Mre_nil]
  refine J1_eq.2 ?_
  simp only [B k312, C k312, unV_not, Bool.not_true, Bool.not_false, Mif_bool, Mif_undef, pickV_bool, Mcd_bool, Mpu_some, if_true, if_false, Bool.false_eq_true, Bool.true_eq_false, decide_true, decide_false, reduceCtorEq, ex20, ex21, ex30, ex31, ex32, Mre_ok, Mre_nil]
  refine call_i (c_Cmp hb hc) ?_
  rintro _ h15 ⟨rfl, k15⟩
  have k315 := k312.trans k15
  have g2 : binV .no .gtr (.int .i64 (cmpV b c)) (.int .i64 0) = some (.bool (decide (cmpV b c > 0))) := by rw [binV_int]; rfl
  cases hbc : decide (cmpV b c > 0)
  rotate_left
  · simp only [g2, hbc, unV_not, Bool.not_true, Bool.not_false, Mif_bool, Mif_undef, pickV_bool, Mcd_bool, Mpu_some, if_true, if_false, Bool.false_eq_true, Bool.true_eq_false, decide_true, decide_false, reduceCtorEq, J1_eq, ex20, ex21, ex30, ex31, ex32, Mre_ok, Mre_nil]; exact out k315
  simp only [g2, hbc, A k315, C k315, unV_not, Bool.not_true, Bool.not_false, Mif_bool, Mif_undef, pickV_bool, Mcd_bool, Mpu_some, if_true, if_false, Bool.false_eq_true, Bool.true_eq_false, decide_true, decide_false, reduceCtorEq, ex20, ex21, ex30, ex31, ex32, Mre_ok, Mre_nil]
  have hab' : cmpV a b ≤ 0 := by have := of_decide_eq_false hab; omega
  have hbc' : cmpV b c ≤ 0 := by have := of_decide_eq_false hbc; omega
  have hac := cmpV_ord.trans hab' hbc'
  have hch := cmpV_ord.chain hab' hbc'
  refine call_i (c_Cmp ha hc) ?_
  rintro _ h18 ⟨rfl, k18⟩
  have k318 := k315.trans k18
  have g3 : binV .no .leq (.int .i64 (cmpV a c)) (.int .i64 0) = some (.bool true) := by rw [binV_int]; simp only [intV]; rw [decide_eq_true hac]
  simp only [g3, A k318, B k318, C k318, eqVer ha hb, J2_eq, unV_not, Bool.not_true, Bool.not_false, Mif_bool, Mif_undef, pickV_bool, Mcd_bool, Mpu_some, if_true, if_false, Bool.false_eq_true, Bool.true_eq_false, decide_true, decide_false, reduceCtorEq, J1_eq, ex20, ex21, ex30, ex31, ex32, Mre_ok, Mre_nil]
  refine call_i (c_Cmp ha hc) ?_
  rintro _ h20 ⟨rfl, k20⟩
  have k320 := k318.trans k20
  have g4 : binV .no .eql (.int .i64 (cmpV a c)) (.int .i64 0) = some (.bool (decide (a = b) && decide (b = c))) := by
    rw [binV_int]; simp only [intV]; congr 2; rw [Bool.eq_iff_iff]; simp [hch]
  cases hE : decide (a = b) <;> simp only [g4, hE, Bool.false_and, Bool.true_and, A k320, B k320, C k320, eqVer hb hc, eq_bool, beq_self_eq_true, unV_not, Bool.not_true, Bool.not_false, Mif_bool, Mif_undef, pickV_bool, Mcd_bool, Mpu_some, if_true, if_false, Bool.false_eq_true, Bool.true_eq_false, decide_true, decide_false, reduceCtorEq, J1_eq, ex20, ex21, ex30, ex31, ex32, Mre_ok, Mre_nil]
  · refine awake_end hT (k03.trans k320) fun h' k => ?_
    simp only [unV_not, Bool.not_true, Bool.not_false, Mif_bool, Mif_undef, pickV_bool, Mcd_bool, Mpu_some, if_true, if_false, Bool.false_eq_true, Bool.true_eq_false, decide_true, decide_false, reduceCtorEq, J1_eq, ex20, ex21, ex30, ex31, ex32, Mre_ok, Mre_nil]
    exact ⟨by trivial, k⟩
  · refine awake_end hT (k03.trans k320) fun h' k => ?_
    simp only [unV_not, Bool.not_true, Bool.not_false, Mif_bool, Mif_undef, pickV_bool, Mcd_bool, Mpu_some, if_true, if_false, Bool.false_eq_true, Bool.true_eq_false, decide_true, decide_false, reduceCtorEq, J1_eq, ex20, ex21, ex30, ex31, ex32, Mre_ok, Mre_nil]
    exact ⟨by trivial, k⟩
end Go.Proofs.YtmhfanpijdgkjaaDoor
/- Bump; the walk of VersionBumps. -/
namespace Go.Proofs.YtmhfanpijdgkjaaDoor
open Go.X Go.X.Diff
set_option maxRecDepth 100000

theorem copy_cells {H : Heap} {q r n c c' : Nat} {cs ds : List Value} {k : Value → Heap → Prop} (a : At H q cs) (b : At H r ds) (hn : n ≤ cs.length) (hd : n ≤ ds.length) (hc : n ≤ c') (h1 : ∀ v ∈ cs, v.oneCell' = true)
    (hk : ∀ h', At h' r (cs.take n ++ ds.drop n) → Keep (· = r) H h' → k (.int .i64 n) h') : Mcopy 1 H (.slice (some ⟨r, 0, none⟩) c' c) (.slice (some ⟨q, 0, none⟩) n c) k := by
  obtain ⟨T, a⟩ := a
  obtain ⟨T', b⟩ := b
  have el : elemsOf 1 H (.slice (some ⟨q, 0, none⟩) n c) = some (n, (cs.take n).toArray) := by
    unfold elemsOf
    by_cases h0 : n = 0
    · subst h0; simp
    · simp only [h0, if_false, a, Nat.mul_one]
      rw [if_pos (by simpa using hn)]
      congr 2
      simp
  have hm : Nat.min n c' = n := Nat.min_eq_left hc
  have hall : (cs.take n).toArray.all (·.oneCell') = true := all_of fun v hv => h1 v (List.mem_of_mem_take hv)
  refine ⟨n, _, some ⟨r, 0, none⟩, c', c, el, rfl, hall, ?_⟩
  show Mwr (stA H r 0 ((cs.take n).toArray.extract 0 (Nat.min n c' * 1))) fun h => k (.int .i64 (Nat.min n c' : Nat)) h
  rw [hm, Nat.mul_one]
  have hex : (cs.take n).toArray.extract 0 n = (cs.take n).toArray := by
    apply Array.ext'
    simp [List.take_take]
  rw [hex, stA_at b 0 _ thaw_00 (by simp; omega) hall, Mwr_some]
  refine hk _ ⟨T', ?_⟩ (Keep.set rfl)
  rw [set_self b]
  unfold spl
  congr 2
  simp [List.length_take, Nat.min_eq_left hn]

def bump (v : Ver) (j : Nat) (x : Int) : Ver := ⟨v.p.take j ++ (x + 1) :: List.replicate (2 - j) 0, []⟩
theorem bump_wf {v : Ver} {j : Nat} {x : Int} (hv : v.wf) (hj : j < 3) : (bump v j x).wf := ⟨by simp [bump, hv.p3]; omega, by simp [bump]⟩
def BumpR (v : Ver) (i : Int) (u : Value) : Prop :=
  (verOk v = false ∧ u = .tuple #[.agg (verC zeroV).toArray, .int .i64 10]) ∨
  (verOk v = true ∧ (i < 0 ∨ i > 2 ∨ ∃ j : Nat, i = j ∧ v.p[j]? = some 999999) ∧ u = .tuple #[.agg (verC zeroV).toArray, .int .i64 11]) ∨
  (verOk v = true ∧ ∃ (j : Nat) (x : Int), j < 3 ∧ i = j ∧ v.p[j]? = some x ∧ x ≠ 999999 ∧ u = .tuple #[.agg (verC (bump v j x)).toArray, .int .i64 0])

theorem bump_cat {v : Ver} {j : Nat} {x : Int} (hv : v.wf) (hj : j < 3) (hx : v.p[j]? = some x) : (verC v).take (j + 1) ++ (verC zeroV).drop (j + 1) = verC ⟨v.p.take j ++ x :: List.replicate (2 - j) 0, []⟩ := by
  obtain ⟨a, b, c, hp⟩ := Ver.cases3 hv
  obtain ⟨p, pre⟩ := v
  simp only at hp hx
  subst hp
  match j, hj with
  | 0, _ => simp at hx; subst hx; rfl
  | 1, _ => simp at hx; subst hx; rfl
  | 2, _ => simp at hx; subst hx; rfl
theorem c_Bump {H : Heap} {v : Ver} {i : Int} (hv : v.wf) (hi : -9223372036854775808 ≤ i ∧ i ≤ 9223372036854775807) : HCalls prg f_version_Version_Bump [.agg (verC v).toArray, .int .i64 i] H fun u H' => BumpR v i u ∧ Keep (fun _ => False) H H' := by
  apply sh_version_Version_Bump_calls
  unfold sh_version_Version_Bump
  simp only [Cells_agg, Mnew_some, z_VV]
  generalize hH1 : H.push (.cells (verC v).toArray T_version_Version (0, 0)) = H1
  have k1 : Keep (fun _ => False) H H1 := by rw [← hH1]; exact Keep.push
  have a1 : At H1 H.size (verC v) := by rw [← hH1]; exact At.push
  have s1 : H1.size = H.size + 1 := by rw [← hH1]; simp
  generalize hH2 : H1.push (.cells (verC ⟨[0, 0, 0], []⟩).toArray T_version_Version (0, 0)) = H2
  have k2 : Keep (fun _ => False) H1 H2 := by rw [← hH2]; exact Keep.push
  have r2 : At H2 H1.size (verC zeroV) := by rw [← hH2]; exact At.push
  have s2 : H2.size = H1.size + 1 := by rw [← hH2]; simp
  have a2 := a1.keep k2 id
  rw [show (Value.pointer (some ⟨H.size, 0, none⟩)) = Ptr H.size 0 from rfl, ver_ld4 a2 hv, Mpu_some]
  refine call_i (c_VerRight hv) ?_
  rintro _ h3 ⟨rfl, k3⟩
  have a3 := a2.keep k3 id
  have r3 := r2.keep k3 id
  have k03 := k1.trans (k2.trans k3)
  have q3 := k3.1
  /- what is told of a version that is none -/
  have fail : ∀ (e : Int) (h : Heap), Keep (fun _ => False) h3 h → ∀ R : Value → Heap → Prop, (∀ h', Keep (fun _ => False) H h' → R (.tuple #[.agg (verC zeroV).toArray, .int .i64 e]) h') →
      Mpu (buildV prg T_version_Version []) fun t11 => Mwr (stN 4 h (Ptr H1.size 0) t11) fun h4 => Mpu (ldN 4 h4 (Ptr H1.size 0)) fun r5 => R (.tuple #[r5, .int .i64 e]) h4 := by
    intro e h k R hR
    obtain ⟨h4, st4, p4, k4⟩ := (r3.keep k id).st (n := 4) (ds := verC zeroV) (verC_len zeroV_wf) (verC_len zeroV_wf) verC_one
    rw [b_V0, Mpu_some, st4, Mwr_some, ver_ld4 p4 zeroV_wf, Mpu_some]
    exact hR _ ((k03.trans k).fresh k4 fun b hb => by omega)
  have l1 : binV .no .lss (.int .i64 i) (.int .i64 0) = some (.bool (decide (i < 0))) := by rw [binV_int]; rfl
  have l2 : binV .no .geq (.int .i64 i) (.int .i64 3) = some (.bool (decide (i ≥ 3))) := by rw [binV_int]; rfl
  cases hok : verOk v
  · simp only [unV_not, Bool.not_true, Bool.not_false, Mif_bool, Mif_undef, pickV_bool, Mcd_bool, Mpu_some, if_true, if_false, Bool.false_eq_true, Bool.true_eq_false, decide_true, decide_false, reduceCtorEq, J1_eq, ex20, ex21, ex30, ex31, ex32, Mre_ok, Mre_nil]
    exact fail 10 h3 Keep.refl (fun u h' => BumpR v i u ∧ Keep (fun _ => False) H h') fun h' k => ⟨.inl ⟨hok, rfl⟩, k⟩
  cases hneg : decide (i < 0)
  rotate_left
  · simp only [l1, hneg, unV_not, Bool.not_true, Bool.not_false, Mif_bool, Mif_undef, pickV_bool, Mcd_bool, Mpu_some, if_true, if_false, Bool.false_eq_true, Bool.true_eq_false, decide_true, decide_false, reduceCtorEq, J1_eq, ex20, ex21, ex30, ex31, ex32, Mre_ok, Mre_nil]
    exact fail 11 h3 Keep.refl (fun u h' => BumpR v i u ∧ Keep (fun _ => False) H h') fun h' k => ⟨.inr (.inl ⟨hok, .inl (of_decide_eq_true hneg), rfl⟩), k⟩
  cases h3' : decide (i ≥ 3)
  rotate_left
  · simp only [l1, l2, hneg, h3', unV_not, Bool.not_true, Bool.not_false, Mif_bool, Mif_undef, pickV_bool, Mcd_bool, Mpu_some, if_true, if_false, Bool.false_eq_true, Bool.true_eq_false, decide_true, decide_false, reduceCtorEq, J1_eq, ex20, ex21, ex30, ex31, ex32, Mre_ok, Mre_nil]
    exact fail 11 h3 Keep.refl (fun u h' => BumpR v i u ∧ Keep (fun _ => False) H h') fun h' k => ⟨.inr (.inl ⟨hok, .inr (.inl (by have := of_decide_eq_true h3'; omega)), rfl⟩), k⟩
  have hi0 := of_decide_eq_false hneg
  have hi3 := of_decide_eq_false h3'
  obtain ⟨j, rfl⟩ : ∃ j : Nat, i = j := ⟨i.toNat, by omega⟩
  have hj : j < 3 := by omega
  have hx : v.p[j]? = some (v.p[j]'(by have := hv.p3; omega)) := List.getElem?_eq_getElem _
  generalize (v.p[j]'(by have := hv.p3; omega)) = x at hx
  have hix : ixA 3 1 (Ptr H.size 0) (.int .i64 (j : Nat)) = some (Ptr H.size j) := ixA_at' hj
  have hpart := ver_part a3 hx
  have l3 : binV .no .eql (.int .i64 x) (.int .i64 999999) = some (.bool (decide (x = 999999))) := by
    rw [binV_int]; simp only [intV]; congr 2
  have hxr : partOk x = true := by
    have hall : v.p.all partOk = true := by unfold verOk at hok; simp only [Bool.and_eq_true] at hok; exact hok.1
    exact List.all_eq_true.1 hall x (List.mem_of_getElem? hx)
  have hxr := partOk_iff hxr
  cases h9 : decide (x = 999999)
  rotate_left
  · simp only [l1, l2, hneg, h3', fld_ptr, Nat.zero_add, hix, hpart, l3, h9, unV_not, Bool.not_true, Bool.not_false, Mif_bool, Mif_undef, pickV_bool, Mcd_bool, Mpu_some, if_true, if_false, Bool.false_eq_true, Bool.true_eq_false, decide_true, decide_false, reduceCtorEq, J1_eq, ex20, ex21, ex30, ex31, ex32, Mre_ok, Mre_nil]
    have hx9 := of_decide_eq_true h9
    subst hx9
    exact fail 11 h3 Keep.refl (fun u h' => BumpR v (j : Int) u ∧ Keep (fun _ => False) H h') fun h' k => ⟨.inr (.inl ⟨hok, .inr (.inr ⟨j, rfl, hx⟩), rfl⟩), k⟩
  have hx9 := of_decide_eq_false h9
  simp only [l1, l2, hneg, h3', fld_ptr, Nat.zero_add, hix, hpart, l3, h9, unV_not, Bool.not_true, Bool.not_false, Mif_bool, Mif_undef, pickV_bool, Mcd_bool, Mpu_some, if_true, if_false, Bool.false_eq_true, Bool.true_eq_false, decide_true, decide_false, reduceCtorEq, J1_eq, ex20, ex21, ex30, ex31, ex32, Mre_ok, Mre_nil, Mnew_some]
  generalize hH12 : h3.push (.cells (verC ⟨[0, 0, 0], []⟩).toArray T_version_Version (0, 0)) = h12
  have k12 : Keep (fun _ => False) h3 h12 := by rw [← hH12]; exact Keep.push
  have o12 : At h12 h3.size (verC zeroV) := by rw [← hH12]; exact At.push
  have a12 := a3.keep k12 id
  have r12 := r3.keep k12 id
  have sl : slA 3 1 (Ptr h3.size 0) none none none = some (.slice (some ⟨h3.size, 0, none⟩) 3 3) := by simp [slA, bnds, bnd]
  have hinc : binV .no .add (.int .i64 (j : Nat)) (.int .i64 1) = some (.int .i64 ((j + 1 : Nat) : Int)) := add_one' (by omega)
  have sl2 : slA 3 1 (Ptr H.size 0) none (some (.int .i64 ((j + 1 : Nat) : Int))) none = some (.slice (some ⟨H.size, 0, none⟩) (j + 1) 3) := by
    have : bnds 3 3 none (some (.int .i64 ((j + 1 : Nat) : Int))) none = some (0, j + 1, 3) := by
      unfold bnds
      rw [show bnd 3 3 none = some 3 from rfl]
      have hb : bnd 3 3 (some (.int .i64 ((j + 1 : Nat) : Int))) = some (j + 1) := by
        simp only [bnd]; rw [if_pos ⟨by omega, by omega⟩]; rfl
      simp only [Option.bind_some, hb]; rfl
    simp only [slA, Option.isSome_none, Bool.false_and, Bool.false_eq_true, if_false, this, Option.map_some]
    rfl
  simp only [sl, hinc, sl2, Mpu_some]
  refine copy_cells a12 o12 (by rw [verC_len hv]; omega) (by rw [verC_len zeroV_wf]; omega) (by omega) verC_one fun h13 o13 k13 => ?_
  have hlt := a12.lt
  have r13 := r12.keep k13 (show ¬ H1.size = h3.size by omega)
  have hcat := bump_cat hv hj hx
  rw [hcat] at o13
  have ow : (⟨v.p.take j ++ x :: List.replicate (2 - j) 0, []⟩ : Ver).wf := ⟨by simp [hv.p3]; omega, by simp⟩
  have hlen : (v.p.take j).length = j := by rw [List.length_take, hv.p3]; omega
  have hget : (⟨v.p.take j ++ x :: List.replicate (2 - j) 0, []⟩ : Ver).p[j]? = some x := by
    show (v.p.take j ++ x :: List.replicate (2 - j) 0)[j]? = some x
    rw [List.getElem?_append_right (by omega), hlen, Nat.sub_self]; rfl
  have hix2 : ixA 3 1 (Ptr h3.size 0) (.int .i64 (j : Nat)) = some (Ptr h3.size j) := ixA_at' hj
  have hinc2 : binV .no .add (.int .i64 x) (.int .i64 1) = some (.int .i64 (x + 1)) := by
    rw [binV_int]; simp only [intV]; rw [wrap_id (by omega) (by omega)]
  obtain ⟨h14, st14, o14, k14⟩ := o13.st1 (i := j) (v := .int .i64 (x + 1)) (by rw [verC_len ow]; omega) rfl
  rw [ver_set ow hj] at o14
  have hset : (⟨(v.p.take j ++ x :: List.replicate (2 - j) 0).set j (x + 1), []⟩ : Ver) = bump v j x := by
    unfold bump
    congr 1
    rw [List.set_append_right _ _ (by omega), hlen, Nat.sub_self]; rfl
  rw [hset] at o14
  have r14 := r13.keep k14 (show ¬ H1.size = h3.size by omega)
  obtain ⟨h15, st15, r15, k15⟩ := r14.st (n := 4) (ds := verC (bump v j x)) (verC_len zeroV_wf) (verC_len (bump_wf hv hj)) verC_one
  simp only [fld_ptr, Nat.zero_add, hix2, ver_part o13 hget, hinc2, st14, Mwr_some, ver_ld4 o14 (bump_wf hv hj), st15, ver_ld4 r15 (bump_wf hv hj), Mpu_some]
  refine ⟨.inr (.inr ⟨hok, j, x, hj, rfl, hx, hx9, rfl⟩), ?_⟩
  exact (((k03.trans k12).fresh k13 fun b hb => by omega).fresh k14 fun b hb => by omega).fresh k15 fun b hb => by omega

theorem bump_ok {v : Ver} {j : Nat} {x : Int} (hv : v.wf) (hj : j < 3) (hok : verOk v = true) (hx : v.p[j]? = some x) (h9 : x ≠ 999999) : verOk (bump v j x) = true := by
  have hall : v.p.all partOk = true := by unfold verOk at hok; simp only [Bool.and_eq_true] at hok; exact hok.1
  have h1 := partOk_iff (List.all_eq_true.1 hall x (List.mem_of_getElem? hx))
  unfold verOk bump
  simp only [List.all_append, List.all_cons, Bool.and_eq_true]
  refine ⟨⟨?_, ?_, ?_⟩, by decide⟩
  · rw [List.all_eq_true] at *
    exact fun y hy => hall y (List.mem_of_mem_take hy)
  · unfold partOk; simp; omega
  · rw [List.all_eq_true]
    intro y hy
    rw [List.eq_of_mem_replicate hy]; decide
theorem bump_lt {v : Ver} {j : Nat} {x : Int} (hv : v.wf) (hj : j < 3) (hx : v.p[j]? = some x) : ltV v (bump v j x) = true := by
  have hlen : (v.p.take j).length = j := by rw [List.length_take, hv.p3]; omega
  have h1 : v.p.take j = (bump v j x).p.take j := by
    show v.p.take j = (v.p.take j ++ (x + 1) :: List.replicate (2 - j) 0).take j
    rw [List.take_append_of_le_length (by omega), List.take_take, Nat.min_self]
  have h2 : (bump v j x).p[j]? = some (x + 1) := by
    show (v.p.take j ++ (x + 1) :: List.replicate (2 - j) 0)[j]? = some (x + 1)
    rw [List.getElem?_append_right (by omega), hlen, Nat.sub_self]; rfl
  have h3 := cmpL_at h1 hx h2 (by omega)
  have h4 : cmpI x (x + 1) = -1 := by unfold cmpI; rw [if_pos (by omega)]
  unfold ltV cmpV
  rw [if_pos (by rw [h3, h4]; decide), h3, h4]; rfl
theorem bump_get {v : Ver} {j k : Nat} {x y : Int} (hv : v.wf) (hj : j < 3) (hk : k < 3) (hx : v.p[j]? = some x) (hy : v.p[k]? = some y) : (bump v j x).p[k]? = some (if k > j then 0 else if k = j then y + 1 else y) := by
  have hlen : (v.p.take j).length = j := by rw [List.length_take, hv.p3]; omega
  show (v.p.take j ++ (x + 1) :: List.replicate (2 - j) 0)[k]? = _
  by_cases h1 : k < j
  · rw [List.getElem?_append_left (by omega), List.getElem?_take, if_pos h1, hy, if_neg (by omega), if_neg (by omega)]
  · rw [List.getElem?_append_right (by omega), hlen]
    by_cases h2 : k = j
    · subst h2
      rw [hx] at hy
      cases hy
      rw [Nat.sub_self, if_neg (by omega), if_pos rfl]; rfl
    · rw [if_pos (by omega), show k - j = (k - j - 1) + 1 by omega, List.getElem?_cons_succ, List.getElem?_replicate, if_pos (by omega)]

theorem c_VersionBumps {H : Heap} {v : Ver} {i : Int} (hv : v.wf) (hi : -9223372036854775808 ≤ i ∧ i ≤ 9223372036854775807) (hT : VerT H) : HCalls prg f_syngraphlaw18_VersionBumps [.agg (verC v).toArray, .int .i64 i] H fun u H' => u = .bool true ∧ Keep (fun _ => False) H H' := by
  apply sh_syngraphlaw18_VersionBumps_calls
  unfold sh_syngraphlaw18_VersionBumps
  simp only [Cells_agg, Mnew_some, z_VV]
  generalize hH1 : H.push (.cells (verC v).toArray T_version_Version (0, 0)) = H1
  have k1 : Keep (fun _ => False) H H1 := by rw [← hH1]; exact Keep.push
  have a1 : At H1 H.size (verC v) := by rw [← hH1]; exact At.push
  rw [show (Value.pointer (some ⟨H.size, 0, none⟩)) = Ptr H.size 0 from rfl, ver_ld4 a1 hv, Mpu_some]
  refine call_i (c_Bump hv hi) ?_
  rintro u h2 ⟨hR, k2⟩
  have a2 := a1.keep k2 id
  have k02 := k1.trans k2
  have l1 : binV .no .lss (.int .i64 i) (.int .i64 0) = some (.bool (decide (i < 0))) := by rw [binV_int]; rfl
  have l2 : binV .no .gtr (.int .i64 i) (.int .i64 2) = some (.bool (decide (i > 2))) := by rw [binV_int]; rfl
  obtain ⟨n, e, hn, rfl⟩ : ∃ (n : Ver) (e : Int), n.wf ∧ u = .tuple #[.agg (verC n).toArray, .int .i64 e] := by
    rcases hR with ⟨_, rfl⟩ | ⟨_, _, rfl⟩ | ⟨_, j, x, hj, _, _, _, rfl⟩
    · exact ⟨_, _, zeroV_wf, rfl⟩
    · exact ⟨_, _, zeroV_wf, rfl⟩
    · exact ⟨_, _, bump_wf hv hj, rfl⟩
  simp only [unV_not, Bool.not_true, Bool.not_false, Mif_bool, Mif_undef, pickV_bool, Mcd_bool, Mpu_some, if_true, if_false, Bool.false_eq_true, Bool.true_eq_false, decide_true, decide_false, reduceCtorEq, ex20, ex21, ex30, ex31, ex32, Mre_ok, Mre_nil]
  generalize hH3 : h2.push (.cells (verC ⟨[0, 0, 0], []⟩).toArray T_version_Version (0, 0)) = h3
  have k3 : Keep (fun _ => False) h2 h3 := by rw [← hH3]; exact Keep.push
  have p3 : At h3 h2.size (verC zeroV) := by rw [← hH3]; exact At.push
  obtain ⟨h4, st4, p4, k4⟩ := p3.st (n := 4) (ds := verC n) (verC_len zeroV_wf) (verC_len hn) verC_one
  have hlt := a2.lt
  have q1 := k02.1
  have a4 := (a2.keep k3 id).keep k4 (show ¬ H.size = h2.size by omega)
  have k04 : Keep (fun _ => False) H h4 := (k02.trans k3).fresh k4 fun b hb => by omega
  simp only [st4, Mwr_some, ver_ld4 a4 hv, Mpu_some]
  refine call_i (c_right18 hv) ?_
  rintro _ h5 ⟨rfl, k5⟩
  have a5 := a4.keep k5 id
  have p5 := p4.keep k5 id
  have k05 := k04.trans k5
  have pair : ∀ {n' : Ver} {e' : Int}, Value.tuple #[.agg (verC n).toArray, .int .i64 e] = .tuple #[.agg (verC n').toArray, .int .i64 e'] → n'.wf → n = n' ∧ e = e' := fun {n' e'} h hn' => by
    have h1 : verC n = verC n' ∧ e = e' := by simpa using h
    refine ⟨?_, h1.2⟩
    have := eqC_Ver hn hn'
    rw [h1.1] at this
    have h2 := eqC_Ver hn' hn'
    rw [h2] at this
    have := Option.some.inj this
    rw [decide_eq_true rfl] at this
    exact of_decide_eq_true this.symm
  have ten : ∀ e : Int, binV .no .eql (.int .i64 e) (.int .i64 e) = some (.bool true) := fun e => by rw [binV_int]; simp [intV]
  rcases hR with ⟨hok, hu⟩ | ⟨hok, hbad, hu⟩ | ⟨hok, j, x, hj, rfl, hx, h9, hu⟩
  · obtain ⟨rfl, rfl⟩ := pair hu zeroV_wf
    simp only [hok, ten, ver_ld4 p5 zeroV_wf, b_V0, eqVer zeroV_wf zeroV_wf, unV_not, Bool.not_true, Bool.not_false, Mif_bool, Mif_undef, pickV_bool, Mcd_bool, Mpu_some, if_true, if_false, Bool.false_eq_true, Bool.true_eq_false, decide_true, decide_false, reduceCtorEq, J1_eq, ex20, ex21, ex30, ex31, ex32, Mre_ok, Mre_nil]
    refine awake_end hT k05 fun h' k => ?_
    simp only [unV_not, Bool.not_true, Bool.not_false, Mif_bool, Mif_undef, pickV_bool, Mcd_bool, Mpu_some, if_true, if_false, Bool.false_eq_true, Bool.true_eq_false, decide_true, decide_false, reduceCtorEq, J1_eq, ex20, ex21, ex30, ex31, ex32, Mre_ok, Mre_nil]
    exact ⟨by trivial, k⟩
  · obtain ⟨rfl, rfl⟩ := pair hu zeroV_wf
    have fin : Mpu (binV .no .eql (.int .i64 11) (.int .i64 11)) fun t45 =>
        J1 (fun k15 => Mif t45 true (Mpu (ldN 4 h5 (Ptr h2.size 0)) fun t47 => Mpu (buildV prg T_version_Version []) fun t48 => Mpu (binV (eqK prg T_version_Version) .eql t47 t48) fun t49 => k15 t49 h5) (k15 undef h5)) fun t49_2 h16 =>
        Mpu (pickV t45 t49_2 (.bool false)) fun t50 =>
        J1 (fun k17 => Mif t50 true (Mcall prg f_syngraphlaw18_awake [] h16 fun t52 h18 => k17 t52 h18) (k17 undef h16)) fun t52_2 h19 =>
        Mpu (pickV t50 t52_2 (.bool false)) fun t53 => t53 = .bool true ∧ Keep (fun _ => False) H h19 := by
      simp only [ten, ver_ld4 p5 zeroV_wf, b_V0, eqVer zeroV_wf zeroV_wf, unV_not, Bool.not_true, Bool.not_false, Mif_bool, Mif_undef, pickV_bool, Mcd_bool, Mpu_some, if_true, if_false, Bool.false_eq_true, Bool.true_eq_false, decide_true, decide_false, reduceCtorEq, J1_eq, ex20, ex21, ex30, ex31, ex32, Mre_ok, Mre_nil]
      refine awake_end hT k05 fun h' k => ?_
      simp only [unV_not, Bool.not_true, Bool.not_false, Mif_bool, Mif_undef, pickV_bool, Mcd_bool, Mpu_some, if_true, if_false, Bool.false_eq_true, Bool.true_eq_false, decide_true, decide_false, reduceCtorEq, J1_eq, ex20, ex21, ex30, ex31, ex32, Mre_ok, Mre_nil]
      exact ⟨by trivial, k⟩
    simp only [hok, unV_not, Bool.not_true, Bool.not_false, Mif_bool, Mif_undef, pickV_bool, Mcd_bool, Mpu_some, if_true, if_false, Bool.false_eq_true, Bool.true_eq_false, decide_true, decide_false, reduceCtorEq, ex20, ex21, ex30, ex31, ex32, Mre_ok, Mre_nil]
    rcases hbad with h | h | ⟨j, rfl, hp⟩
    · simp only [l1, decide_eq_true h, unV_not, Bool.not_true, Bool.not_false, Mif_bool, Mif_undef, pickV_bool, Mcd_bool, Mpu_some, if_true, if_false, Bool.false_eq_true, Bool.true_eq_false, decide_true, decide_false, reduceCtorEq, ex20, ex21, ex30, ex31, ex32, Mre_ok, Mre_nil]
      refine J1_eq.2 ?_
      simp only [unV_not, Bool.not_true, Bool.not_false, Mif_bool, Mif_undef, pickV_bool, Mcd_bool, Mpu_some, if_true, if_false, Bool.false_eq_true, Bool.true_eq_false, decide_true, decide_false, reduceCtorEq, ex20, ex21, ex30, ex31, ex32, Mre_ok, Mre_nil]
      refine J1_eq.2 ?_
      simp only [unV_not, Bool.not_true, Bool.not_false, Mif_bool, Mif_undef, pickV_bool, Mcd_bool, Mpu_some, if_true, if_false, Bool.false_eq_true, Bool.true_eq_false, decide_true, decide_false, reduceCtorEq, ex20, ex21, ex30, ex31, ex32, Mre_ok, Mre_nil]
      exact fin
    · have h0 : ¬ i < 0 := by omega
      simp only [l1, l2, decide_eq_false h0, decide_eq_true h, unV_not, Bool.not_true, Bool.not_false, Mif_bool, Mif_undef, pickV_bool, Mcd_bool, Mpu_some, if_true, if_false, Bool.false_eq_true, Bool.true_eq_false, decide_true, decide_false, reduceCtorEq, ex20, ex21, ex30, ex31, ex32, Mre_ok, Mre_nil]
      refine J1_eq.2 ?_
      simp only [l2, decide_eq_true h, unV_not, Bool.not_true, Bool.not_false, Mif_bool, Mif_undef, pickV_bool, Mcd_bool, Mpu_some, if_true, if_false, Bool.false_eq_true, Bool.true_eq_false, decide_true, decide_false, reduceCtorEq, ex20, ex21, ex30, ex31, ex32, Mre_ok, Mre_nil]
      refine J1_eq.2 ?_
      simp only [unV_not, Bool.not_true, Bool.not_false, Mif_bool, Mif_undef, pickV_bool, Mcd_bool, Mpu_some, if_true, if_false, Bool.false_eq_true, Bool.true_eq_false, decide_true, decide_false, reduceCtorEq, ex20, ex21, ex30, ex31, ex32, Mre_ok, Mre_nil]
      exact fin
    · have hj : j < 3 := by have := (List.getElem?_eq_some_iff.1 hp).1; have := hv.p3; omega
      have h0 : ¬ ((j : Int) < 0) := by omega
      have h2' : ¬ ((j : Int) > 2) := by omega
      have hix : ixA 3 1 (Ptr H.size 0) (.int .i64 (j : Nat)) = some (Ptr H.size j) := ixA_at' hj
      simp only [l1, l2, decide_eq_false h0, decide_eq_false h2', unV_not, Bool.not_true, Bool.not_false, Mif_bool, Mif_undef, pickV_bool, Mcd_bool, Mpu_some, if_true, if_false, Bool.false_eq_true, Bool.true_eq_false, decide_true, decide_false, reduceCtorEq, ex20, ex21, ex30, ex31, ex32, Mre_ok, Mre_nil]
      refine J1_eq.2 ?_
      simp only [l2, decide_eq_false h2', unV_not, Bool.not_true, Bool.not_false, Mif_bool, Mif_undef, pickV_bool, Mcd_bool, Mpu_some, if_true, if_false, Bool.false_eq_true, Bool.true_eq_false, decide_true, decide_false, reduceCtorEq, ex20, ex21, ex30, ex31, ex32, Mre_ok, Mre_nil]
      refine J1_eq.2 ?_
      simp only [fld_ptr, Nat.zero_add, hix, ver_part a5 hp, ten 999999, unV_not, Bool.not_true, Bool.not_false, Mif_bool, Mif_undef, pickV_bool, Mcd_bool, Mpu_some, if_true, if_false, Bool.false_eq_true, Bool.true_eq_false, decide_true, decide_false, reduceCtorEq, ex20, ex21, ex30, ex31, ex32, Mre_ok, Mre_nil]
      exact fin
  · obtain ⟨rfl, rfl⟩ := pair hu (bump_wf hv hj)
    have h0 : ¬ ((j : Int) < 0) := by omega
    have h2' : ¬ ((j : Int) > 2) := by omega
    have hix : ixA 3 1 (Ptr H.size 0) (.int .i64 (j : Nat)) = some (Ptr H.size j) := ixA_at' hj
    have e9 : binV .no .eql (.int .i64 x) (.int .i64 999999) = some (.bool false) := by
      rw [binV_int]; simp only [intV]; congr 2; simpa using h9
    simp only [hok, l1, l2, decide_eq_false h0, decide_eq_false h2', unV_not, Bool.not_true, Bool.not_false, Mif_bool, Mif_undef, pickV_bool, Mcd_bool, Mpu_some, if_true, if_false, Bool.false_eq_true, Bool.true_eq_false, decide_true, decide_false, reduceCtorEq, ex20, ex21, ex30, ex31, ex32, Mre_ok, Mre_nil]
    refine J1_eq.2 ?_
    simp only [l2, decide_eq_false h2', unV_not, Bool.not_true, Bool.not_false, Mif_bool, Mif_undef, pickV_bool, Mcd_bool, Mpu_some, if_true, if_false, Bool.false_eq_true, Bool.true_eq_false, decide_true, decide_false, reduceCtorEq, ex20, ex21, ex30, ex31, ex32, Mre_ok, Mre_nil]
    refine J1_eq.2 ?_
    simp only [fld_ptr, Nat.zero_add, hix, ver_part a5 hx, e9, unV_not, Bool.not_true, Bool.not_false, Mif_bool, Mif_undef, pickV_bool, Mcd_bool, Mpu_some, if_true, if_false, Bool.false_eq_true, Bool.true_eq_false, decide_true, decide_false, reduceCtorEq, ex20, ex21, ex30, ex31, ex32, Mre_ok, Mre_nil]
    have hall : v.p.all partOk = true := by unfold verOk at hok; simp only [Bool.and_eq_true] at hok; exact hok.1
    refine J1_i (fun _ h => h5 = h) (fun k20 hk20 => ?_) ?_
    · rw [ver_ld3 p5 hn, Mpu_some]
      refine L1_i (fun u h => ∃ k : Nat, k ≤ 3 ∧ u = .int .i64 (k : Nat) ∧ h5 = h) (fun u _ => match u with | .int _ t => 3 - t.toNat | _ => 0) ⟨0, by omega, rfl, rfl⟩ ?_
      rintro _ _ ⟨k, hk3, rfl, rfl⟩ kk hkk
      have elt : binV .no .lss (.int .i64 (k : Nat)) (.int .i64 3) = some (.bool (decide (k < 3))) := by
        rw [binV_int]; simp only [intV]; congr 2; rw [decide_eq_decide]; omega
      rw [elt, Mpu_some, Mcd_bool]
      by_cases hlt3 : k < 3
      · rw [if_pos (by simpa using hlt3)]
        have hy : v.p[k]? = some (v.p[k]'(by have := hv.p3; omega)) := List.getElem?_eq_getElem _
        generalize (v.p[k]'(by have := hv.p3; omega)) = y at hy
        have hyr := partOk_iff (List.all_eq_true.1 hall y (List.mem_of_getElem? hy))
        have hg := bump_get hv hj hlt3 hx hy
        have hixv : ixV 3 false 1 (.agg (icells .i64 (bump v j x).p).toArray) (.int .i64 (k : Nat)) = some (.int .i64 (if k > j then 0 else if k = j then y + 1 else y)) := by
          simp only [ixV]; rw [if_pos ⟨by omega, by omega⟩]
          have := icells_get (k := .i64) hg
          simpa using this
        have hixk : ixA 3 1 (Ptr H.size 0) (.int .i64 (k : Nat)) = some (Ptr H.size k) := ixA_at' hlt3
        have eq1 : binV .no .eql (.int .i64 (k : Nat)) (.int .i64 (j : Nat)) = some (.bool (decide (k = j))) := by
          rw [binV_int]; simp only [intV]; congr 2; rw [Bool.eq_iff_iff]; simp; omega
        have gt1 : binV .no .gtr (.int .i64 (k : Nat)) (.int .i64 (j : Nat)) = some (.bool (decide (k > j))) := by
          rw [binV_int]; simp only [intV]; congr 2; rw [decide_eq_decide]; omega
        have yinc : binV .no .add (.int .i64 y) (.int .i64 1) = some (.int .i64 (y + 1)) := by
          rw [binV_int]; simp only [intV]; rw [wrap_id (by omega) (by omega)]
        have kinc : binV .no .add (.int .i64 (k : Nat)) (.int .i64 1) = some (.int .i64 ((k + 1 : Nat) : Int)) := add_one' (by omega)
        have nee : ∀ z : Int, binV .no .neq (.int .i64 z) (.int .i64 z) = some (.bool false) := fun z => by rw [binV_int]; simp [intV]
        rw [hixv, Mpu_some]
        have stp : kk (.int .i64 ((k + 1 : Nat) : Int)) h5 := hkk _ _ ⟨k + 1, by omega, rfl, rfl⟩ (by show 3 - (k + 1) < 3 - k; omega)
        cases e1 : decide (k = j) <;> cases e2 : decide (k > j) <;> simp only [fld_ptr, Nat.zero_add, hixk, ver_part a5 hy, eq1, gt1, e1, e2, yinc, unV_not, Bool.not_true, Bool.not_false, Mif_bool, Mif_undef, pickV_bool, Mcd_bool, Mpu_some, if_true, if_false, Bool.false_eq_true, Bool.true_eq_false, decide_true, decide_false, reduceCtorEq, J1_eq, ex20, ex21, ex30, ex31, ex32, Mre_ok, Mre_nil]
        · have n1 := of_decide_eq_false e1
          have n2 := of_decide_eq_false e2
          rw [if_neg n2, if_neg n1]
          simp only [nee, kinc, unV_not, Bool.not_true, Bool.not_false, Mif_bool, Mif_undef, pickV_bool, Mcd_bool, Mpu_some, if_true, if_false, Bool.false_eq_true, Bool.true_eq_false, decide_true, decide_false, reduceCtorEq, J1_eq, ex20, ex21, ex30, ex31, ex32, Mre_ok, Mre_nil]
          exact stp
        · have n2 := of_decide_eq_true e2
          rw [if_pos n2]
          simp only [nee, kinc, unV_not, Bool.not_true, Bool.not_false, Mif_bool, Mif_undef, pickV_bool, Mcd_bool, Mpu_some, if_true, if_false, Bool.false_eq_true, Bool.true_eq_false, decide_true, decide_false, reduceCtorEq, J1_eq, ex20, ex21, ex30, ex31, ex32, Mre_ok, Mre_nil]
          exact stp
        · have n1 := of_decide_eq_true e1
          have n2 := of_decide_eq_false e2
          rw [if_neg n2, if_pos n1]
          simp only [nee, kinc, unV_not, Bool.not_true, Bool.not_false, Mif_bool, Mif_undef, pickV_bool, Mcd_bool, Mpu_some, if_true, if_false, Bool.false_eq_true, Bool.true_eq_false, decide_true, decide_false, reduceCtorEq, J1_eq, ex20, ex21, ex30, ex31, ex32, Mre_ok, Mre_nil]
          exact stp
        · have n1 := of_decide_eq_true e1
          have n2 := of_decide_eq_true e2
          omega
      · rw [if_neg (by simpa using hlt3)]
        exact hk20 _ _ rfl
    rintro _ _ rfl
    have hnp : (bump v j x).pre = [] := rfl
    have es := fun q => str_eql (q := q) (a := (bump v j x).pre) (b := [])
    simp only [ten, fld_ptr, Nat.zero_add, ver_pre p5 hn, es, decide_eq_true hnp, ver_ld4 p5 hn, unV_not, Bool.not_true, Bool.not_false, Mif_bool, Mif_undef, pickV_bool, Mcd_bool, Mpu_some, if_true, if_false, Bool.false_eq_true, Bool.true_eq_false, decide_true, decide_false, reduceCtorEq, J1_eq, ex20, ex21, ex30, ex31, ex32, Mre_ok, Mre_nil]
    refine call_i (c_right18 hn) ?_
    rintro _ h31 ⟨rfl, k31⟩
    have p31 := p5.keep k31 id
    have a31 := a5.keep k31 id
    simp only [bump_ok hv hj hok hx h9, ver_ld4 p31 hn, ver_ld4 a31 hv, unV_not, Bool.not_true, Bool.not_false, Mif_bool, Mif_undef, pickV_bool, Mcd_bool, Mpu_some, if_true, if_false, Bool.false_eq_true, Bool.true_eq_false, decide_true, decide_false, reduceCtorEq, J1_eq, ex20, ex21, ex30, ex31, ex32, Mre_ok, Mre_nil]
    refine call_i (c_ref hv) ?_
    rintro _ h34 ⟨rfl, k34⟩
    have p34 := p31.keep k34 id
    simp only [ver_ld4 p34 hn, unV_not, Bool.not_true, Bool.not_false, Mif_bool, Mif_undef, pickV_bool, Mcd_bool, Mpu_some, if_true, if_false, Bool.false_eq_true, Bool.true_eq_false, decide_true, decide_false, reduceCtorEq, J1_eq, ex20, ex21, ex30, ex31, ex32, Mre_ok, Mre_nil]
    refine call_i (c_ref hn) ?_
    rintro _ h35 ⟨rfl, k35⟩
    refine call_i (c_refLess hv hn) ?_
    rintro _ h36 ⟨rfl, k36⟩
    simp only [bump_lt hv hj hx, unV_not, Bool.not_true, Bool.not_false, Mif_bool, Mif_undef, pickV_bool, Mcd_bool, Mpu_some, if_true, if_false, Bool.false_eq_true, Bool.true_eq_false, decide_true, decide_false, reduceCtorEq, J1_eq, ex20, ex21, ex30, ex31, ex32, Mre_ok, Mre_nil]
    refine awake_end hT (k05.trans (k31.trans (k34.trans (k35.trans k36)))) fun h' k => ?_
    simp only [unV_not, Bool.not_true, Bool.not_false, Mif_bool, Mif_undef, pickV_bool, Mcd_bool, Mpu_some, if_true, if_false, Bool.false_eq_true, Bool.true_eq_false, decide_true, decide_false, reduceCtorEq, J1_eq, ex20, ex21, ex30, ex31, ex32, Mre_ok, Mre_nil]
    exact ⟨by trivial, k⟩
end Go.Proofs.YtmhfanpijdgkjaaDoor
