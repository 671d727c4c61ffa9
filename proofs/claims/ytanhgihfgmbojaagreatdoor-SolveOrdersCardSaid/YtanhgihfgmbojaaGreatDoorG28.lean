/- JOINED: V194 -/
import Derived.Test.YtanhgihfgmbojaaGreatDoorG27
set_option linter.unusedSimpArgs false
set_option linter.unusedVariables false
/- law 20: SolveOrders. -/
namespace Go.Proofs.YtanhgihfgmbojaaGreatDoor
open Go.X Go.X.Diff
set_option maxRecDepth 100000
set_option linter.unusedSimpArgs false
set_option linter.unusedVariables false

theorem orderF_len {hv : List Man} : ∀ (n : Nat) {l : List Nat}, l.length = n → (orderF hv n l).length = n
  | 0, l, _ => by cases l <;> rfl
  | n + 1, [], h => by simp at h
  | n + 1, a :: l, h => by
    have hm := pick_mem (hv := hv) (left := a :: l) (by simp)
    rw [orderF, List.length_cons, orderF_len n (by rw [List.length_erase_of_mem hm, h]; rfl)]
set_option maxHeartbeats 8000000 in
theorem c_SolveOrders {P : Nat → Prop} {H : Heap} {mv : List MV} {wants : List Dep} {vh vw vc : Value} {b : Int} {z : List Int} (hp : Prb0 P H mv wants vh vw) (hP : ∀ b, P b → b < H.size) (hc : SlE 1 P H vc (ints z)) (hT : VerT H) :
    HCalls prg f_syngraphlaw20_SolveOrders [.agg (prbC vh vw b).toArray, vc] H fun u H' => u = .bool true ∧ Keep (fun _ => False) H H' := by
  apply sh_syngraphlaw20_SolveOrders_calls
  unfold sh_syngraphlaw20_SolveOrders
  simp only [Cells_agg, Mnew_some]
  generalize hH1 : H.push (.cells (prbC vh vw b).toArray T_solve_Problem (0, 0)) = H1
  have k1 : Keep (fun _ => False) H H1 := by rw [← hH1]; exact Keep.push
  have a1 : At H1 H.size (prbC vh vw b) := by rw [← hH1]; exact At.push
  have s1 : H1.size = H.size + 1 := by rw [← hH1]; simp
  have hO : ∀ {h : Heap}, Keep (fun _ => False) H h → OpsT h := fun k => (hT.keep k fun _ h => h.elim).ops
  have aw : ∀ h, Keep (fun _ => False) H h → Mcall prg f_syngraphlaw20_awake [] h fun t h' => t = .bool true ∧ Keep (fun _ => False) H h' := fun h k => by
    refine call_i (c_awake20 (hT.keep k fun _ h => h.elim)) ?_
    rintro _ h' ⟨rfl, k'⟩
    exact ⟨rfl, k.trans k'⟩
  have lz := hc.len
  rw [ints_len] at lz
  rw [a1.ldN (n := 3) rfl, Mpu_some]
  refine call_i (c_small20 (hp.keep k1 fun _ _ => id)) ?_
  rintro _ h2 ⟨rfl, k2⟩
  have k02 := k1.trans k2
  rw [unV_not, Mpu_some]
  cases hsm : smallP (hvOf mv) wants b
  · simp only [J1_eq, Mif_bool, Bool.not_false, Bool.not_true, Bool.true_eq_false, Bool.false_eq_true, if_false, pickV_bool, if_true, Mpu_some, Mcd_bool]
    exact aw _ k02
  obtain ⟨hq, hl, hwl, hb3⟩ := hp.to hsm
  have hvl : (hvOf mv).length = mv.length := by simp
  have hPk : ∀ {h : Heap}, Keep (fun _ => False) H h → ∀ b, P b → b < h.size := fun k b hb => Nat.lt_of_lt_of_le (hP b hb) k.1
  have hqk : ∀ {h : Heap}, Keep (fun _ => False) H h → Prb P h mv wants vh vw := fun k => hq.keep k fun _ _ => id
  have egt : binV .no .gtr (.int .i64 (z.length : Nat)) (.int .i64 15) = some (.bool (decide (z.length > 15))) := gtNn (m := 15)
  refine J1_yes rfl ?_
  rw [lz, Mpu_some, egt, Mpu_some]
  show Mpu (pickV (.bool false) (.bool true) (.bool (decide (z.length > 15)))) _
  rw [pickV_bool, if_neg (by decide), Mpu_some, Mcd_bool]
  by_cases hz15 : z.length > 15
  · rw [if_pos (by simpa using hz15)]
    exact aw _ k02
  rw [if_neg (by simpa using hz15)]
  refine J2_i (fun t _ h => (∃ z' : List Int, SlE 1 (fun b => b < h.size) h t (ints z') ∧ z'.length ≤ 15) ∧ Keep (fun _ => False) H1 h) (fun k6 hk6 => ?_) ?_
  · rw [(a1.keep k2 id).ldN (n := 3) rfl, Mpu_some]
    have own : ∀ h, Keep (fun _ => False) H1 h → (∃ z' : List Int, SlE 1 (fun b => b < h.size) h vc (ints z') ∧ z'.length ≤ 15) ∧ Keep (fun _ => False) H1 h := fun h k =>
      ⟨⟨z, (hc.keep (k1.trans k) fun _ _ => id).mono fun b hb => hPk (k1.trans k) b hb, by omega⟩, k⟩
    cases hok : probOk (hvOf mv) wants b
    · refine call_i (c_SolveBad (hqk k02) hok hl (by omega) (hO k02)) ?_
      rintro _ h8 ⟨rfl, k8⟩
      have e : binV .no .eql (.int .i64 10) (.int .i64 0) = some (.bool false) := rfl
      simp only [extV_tuple]
      rw [show (#[Value.slice none 0 0, .int .i64 0, .int .i64 10][0]?) = some (.slice none 0 0) from rfl, Mpu_some, show (#[Value.slice none 0 0, .int .i64 0, .int .i64 10][1]?) = some (.int .i64 0) from rfl, Mpu_some, show (#[Value.slice none 0 0, .int .i64 0, .int .i64 10][2]?) = some (.int .i64 10) from rfl, Mpu_some, e, Mpu_some]
      simp only [J1_eq, Mif_bool, Bool.false_eq_true, if_false, pickV_bool, Mpu_some, Mcd_bool]
      exact hk6 _ _ _ (own _ (k2.trans k8))
    · refine call_i (c_Solve (hqk k02) (hPk k02) hok hl (by omega) (hO k02)) ?_
      rintro u h8 ⟨hS, k8⟩
      obtain ⟨r, s, v, hr, rfl, hv, hN⟩ := hS.open
      have kk := k2.trans k8
      simp only [extV_tuple]
      rw [show (#[v, Value.int .i64 (s : Nat), .int .i64 (resC r)][0]?) = some v from rfl, Mpu_some, show (#[v, Value.int .i64 (s : Nat), .int .i64 (resC r)][1]?) = some (.int .i64 (s : Nat)) from rfl, Mpu_some, show (#[v, Value.int .i64 (s : Nat), .int .i64 (resC r)][2]?) = some (.int .i64 (resC r)) from rfl, Mpu_some, eqI, Mpu_some]
      cases he : decide (resC r = 0)
      · simp only [J1_eq, Mif_bool, Bool.false_eq_true, if_false, pickV_bool, Mpu_some, Mcd_bool]
        exact hk6 _ _ _ (own _ kk)
      refine J1_yes rfl ?_
      rw [Mpu_some, show binV .no .eql (.int .i64 (z.length : Nat)) (.int .i64 0) = some (.bool (decide (z.length = 0))) from eqNn (m := 0), Mpu_some]
      show Mpu (pickV (.bool true) (.bool (decide (z.length = 0))) (.bool false)) _
      rw [pickV_bool, if_pos rfl, Mpu_some, Mcd_bool]
      split
      · have hrl : (resL (hvOf mv) r).length ≤ 15 := by
          cases r with
          | ok l =>
            show (sortedF (hvOf mv) l).length ≤ 15
            unfold sortedF
            rw [isort_len]
            have := (hN l rfl).len
            rw [List.length_map] at this
            omega
          | fail => exact Nat.zero_le _
          | over => exact Nat.zero_le _
        exact hk6 _ _ _ ⟨⟨zs (resL (hvOf mv) r), hv.mono fun b hb => hb.2, by rw [zs_len]; exact hrl⟩, kk⟩
      · exact hk6 _ _ _ (own _ kk)
  clear lz hz15 egt
  rintro t1 _ h7 ⟨⟨z', hz', hz15⟩, k7⟩
  have k07 := k1.trans k7
  have b7 := a1.keep k7 id
  rw [b7.ldN (n := 3) rfl, Mpu_some]
  refine call_i (c_Order (hqk k07) (hPk k07) hz' (fun b hb => hb) hl (by omega) (by omega) (hO k07)) ?_
  rintro t36 h11 ⟨hU, k11⟩
  have k011 := k07.trans k11
  have b11 := b7.keep k11 id
  have hz11 : SlE 1 (fun b => b < h11.size) h11 t1 (ints z') := (hz'.keep k11 fun _ _ => id).mono fun b hb => Nat.lt_of_lt_of_le hb k11.1
  rw [b11.ldN (n := 3) rfl, Mpu_some]
  refine call_i (c_Right (hqk k011) (hPk k011) hz11 (fun b hb => hb) (by omega) (by omega) (by omega) (hO k011)) ?_
  rintro _ h12 ⟨rfl, k12⟩
  have k012 := k011.trans k12
  have b12 := b11.keep k12 id
  rw [unV_not, Mpu_some, Mcd_bool]
  rcases hU with ⟨hf, rfl⟩ | ⟨c, rfl, w1, hR, hu⟩
  · rw [hf, if_pos (by rfl)]
    have ln : lenV (.slice none 0 0) = some (.int .i64 0) := rfl
    have i0 : binV .no .eql (.int .i64 0) (.int .i64 0) = some (.bool true) := rfl
    rw [ln, Mpu_some, i0, Mpu_some]
    refine J1_yes rfl ?_
    refine call_i (c_awake20 (hT.keep k012 fun _ h => h.elim)) ?_
    rintro _ h' ⟨rfl, k'⟩
    show Mpu (pickV (.bool true) (.bool true) (.bool false)) _
    rw [pickV_bool, if_pos rfl, Mpu_some]
    exact ⟨rfl, k012.trans k'⟩
  rw [w1, rightB_nat.2 hR, Bool.and_self, if_neg (by decide)]
  obtain ⟨hokH, hww⟩ := OkH.of hq w1
  have hNs := hR.nm.sorted
  have hsl := hNs.len
  rw [fld_ptr, Mpu_some, Nat.add_zero, b12.ld (i := 0) rfl, Mpu_some, b12.ldN (n := 3) rfl, Mpu_some]
  refine call_i (c_packages (hqk k012).h (hqk k012).m hq.sm (by omega)) ?_
  rintro vpk h16 ⟨⟨pk, hpk, hpe⟩, k16⟩
  simp only [Mre_cons, Mre_nil]
  refine ⟨(b12.keep k16 id).ldN (n := 3) rfl, ?_⟩
  have k016 := k012.trans k16
  rw [zs_len] at hz15
  refine call_i (c_lawSorted (hqk k016) (hPk k016) ((hz11.keep k12 fun _ _ => id).keep k16 fun _ _ => id) hR.nm (by omega)) ?_
  rintro t52 h17 ⟨hs52, k17⟩
  have k017 := k016.trans k17
  refine call_i (c_rOrder hokH hpe (hpk.keep k17 fun _ _ => id) hs52 hNs.1 hNs.nodup (by omega)) ?_
  rintro t53 h18 ⟨hs53, k18⟩
  have k018 := k017.trans k18
  have hu18 := (((hu.keep k12 fun _ _ => id).keep k16 fun _ _ => id).keep k17 fun _ _ => id).keep k18 fun _ _ => id
  generalize hord : orderF (hvOf mv) (sortedF (hvOf mv) c).length (sortedF (hvOf mv) c) = W at hu18 hs53
  have hWl : W.length ≤ 12 := by rw [← hord, orderF_len _ rfl]; omega
  have l36 := hu18.len
  have l53 := hs53.len
  rw [ints_len, zs_len] at l36 l53
  have nI : ∀ x : Int, binV .no .neq (.int .i64 x) (.int .i64 x) = some (.bool false) := fun x => by
    rw [binV_int]; simp [intV]
  rw [l36, Mpu_some, l53, Mpu_some, nI, Mpu_some, Mcd_bool, if_neg (by decide)]
  refine J1_i (fun _ h => Keep (fun _ => False) h18 h) (fun k19 hk19 => ?_) ?_
  rotate_left
  · intro _ h20 k20
    exact aw _ (k018.trans k20)
  rw [Mpu_some]
  refine L1_i (fun u h => ∃ i : Nat, i ≤ W.length ∧ u = .int .i64 (i : Nat) ∧ Keep (fun _ => False) h18 h) (fun u _ => match u with | .int _ t => W.length - t.toNat | _ => 0) ⟨0, Nat.zero_le _, rfl, Keep.refl⟩ ?_
  rintro _ h ⟨i, hi, rfl, kh⟩ k21 hk21
  rw [ltNn, Mpu_some, Mcd_bool]
  by_cases hlt : i < W.length
  rotate_left
  · rw [if_neg (by simpa using hlt)]
    exact hk19 _ _ kh
  rw [if_pos (by simpa using hlt)]
  have hg : W[i]? = some W[i] := List.getElem?_eq_getElem hlt
  generalize W[i] = m at hg
  obtain ⟨p, o, hix, hpt, _⟩ := (hu18.keep kh fun _ _ => id).at (i := i) (x := [.int .i64 (m : Int)]) (ints_get (zs_get hg))
  obtain ⟨p', o', hix', hpt', _⟩ := (hs53.keep kh fun _ _ => id).at (i := i) (x := [.int .i64 (m : Int)]) (ints_get (zs_get hg))
  rw [hix .i64, Mpu_some, hpt.cell0 rfl, Mpu_some, hix' .i64, Mpu_some, hpt'.cell0 rfl, Mpu_some, nI, Mpu_some, Mcd_bool, if_neg (by decide), add_one' (by omega), Mpu_some]
  exact hk21 _ _ ⟨i + 1, by omega, rfl, kh⟩ (by show W.length - (i + 1) < W.length - i; omega)
end Go.Proofs.YtanhgihfgmbojaaGreatDoor

