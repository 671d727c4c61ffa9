/- JOINED: V182 -/
import Derived.Test.YtanhgihfgmbojaaGreatDoorG16
import Derived.Test.YtanhgihfgmbojaaGreatDoorG12
set_option linter.unusedSimpArgs false
set_option linter.unusedVariables false
/- law 20: SolveFinds. -/
namespace Go.Proofs.YtanhgihfgmbojaaGreatDoor
open Go.X Go.X.Diff
set_option maxRecDepth 100000
set_option linter.unusedSimpArgs false
set_option linter.unusedVariables false

theorem OkH.of {P : Nat → Prop} {H : Heap} {mv : List MV} {wants : List Dep} {vh vw : Value} {b : Int} (hp : Prb P H mv wants vh vw) (h : probOk (hvOf mv) wants b = true) : OkH (hvOf mv) ∧ (∀ d ∈ wants, d.wf ∧ wantOk d.want = true) := by
  unfold probOk at h
  simp only [Bool.and_eq_true, decide_eq_true_eq] at h
  obtain ⟨⟨_, hr⟩, hw⟩ := h
  have hm : ∀ k, k < (hvOf mv).length → manOk (gM (hvOf mv) k) = true := fun k hk => by
    have := List.all_eq_true.1 hr k (List.mem_range.2 hk)
    unfold haveAt manOkG at this
    simp only [Bool.and_eq_true] at this
    exact this.1.1
  have hdep : ∀ (own : List UInt8) (l : List Dep), depsOk own l = true → ∀ d ∈ l, wantOk d.want = true := fun own l h d hd => by
    unfold depsOk at h
    simp only [Bool.and_eq_true, List.all_eq_true] at h
    have := h.1.1 d hd
    unfold depAt at this
    simp only [Bool.and_eq_true] at this
    exact this.2
  have hman : ∀ k, k < (hvOf mv).length → verOk (gM (hvOf mv) k).ver = true ∧ depsOk (gM (hvOf mv) k).name (gM (hvOf mv) k).deps = true ∧ depsOk (gM (hvOf mv) k).name (gM (hvOf mv) k).conf = true := fun k hk => by
    have := hm k hk
    unfold manOk at this
    simp only [Bool.and_eq_true] at this
    exact ⟨this.1.1.2, this.1.2, this.2⟩
  refine ⟨⟨fun k hk => (hman k hk).1, fun k hk d hd => ⟨?_, hdep _ _ (hman k hk).2.1 d hd⟩, fun k hk => hdep _ _ (hman k hk).2.2, fun k hk => ?_, hr⟩, fun d hd => ⟨hp.ww d hd, ?_⟩⟩
  · obtain ⟨x, _, hgx, _, hmx, _⟩ := hp.at hk
    rw [hgx] at hd
    exact hmx.wf.deps d hd
  · obtain ⟨x, _, hgx, hxm, _, _⟩ := hp.at hk
    rw [hgx]
    exact hp.sm x hxm
  · have := List.all_eq_true.1 hw d hd
    simp only [Bool.and_eq_true] at this
    exact this.2
theorem c_SolveBad {P : Nat → Prop} {H : Heap} {mv : List MV} {wants : List Dep} {vh vw : Value} {b : Int} (hp : Prb P H mv wants vh vw) (hok : probOk (hvOf mv) wants b = false) (hl : mv.length ≤ 12) (hwl : wants.length ≤ 64) (hO : OpsT H) :
    HCalls prg f_solve_Solve [.agg (prbC vh vw b).toArray] H fun u H' => u = .tuple #[.slice none 0 0, .int .i64 0, .int .i64 10] ∧ Keep (fun _ => False) H H' := by
  apply sh_solve_Solve_calls
  unfold sh_solve_Solve
  simp only [Cells_agg, Mnew_some]
  generalize hH1 : H.push (.cells (prbC vh vw b).toArray T_solve_Problem (0, 0)) = H1
  have k1 : Keep (fun _ => False) H H1 := by rw [← hH1]; exact Keep.push
  have a1 : At H1 H.size (prbC vh vw b) := by rw [← hH1]; exact At.push
  rw [a1.ldN (n := 3) rfl, Mpu_some]
  refine call_i (c_Check (hp.keep k1 fun _ _ => id) (by omega) hwl (hO.keep k1 fun _ h => h.elim)) ?_
  rintro _ h2 ⟨rfl, k2⟩
  rw [hok]
  have en : binV .no .neq (.int .i64 (if false = true then 0 else 10)) (.int .i64 0) = some (.bool true) := rfl
  rw [en, Mpu_some, Mcd_bool, if_pos rfl]
  exact ⟨rfl, k1.trans k2⟩
theorem b_Find {a : Option Addr} {n c : Nat} {b : Int} : buildV prg T_syngraphref20_Find [(0, .slice a n c), (1, .int .i64 b)] = some (.agg #[.slice a n c, .int .i64 b, .int .i64 0, .bool false]) := by kernel_rfl
theorem Rise.next {hv : List Man} : ∀ {l : List Nat}, Rise hv l → ∀ {i a b : Nat}, l[i]? = some a → l[i + 1]? = some b → cmpB (gM hv a).name (gM hv b).name < 0 := fun {l} h i a b ha hb => by
  obtain ⟨h1, rfl⟩ := List.getElem?_eq_some_iff.1 ha
  obtain ⟨h2, rfl⟩ := List.getElem?_eq_some_iff.1 hb
  exact (List.pairwise_iff_getElem.1 h) i (i + 1) h1 h2 (by omega)
theorem less_of {a b : List UInt8} (h : cmpB a b < 0) : less a b = true := by
  unfold cmpB at h
  split at h
  · assumption
  · split at h <;> omega
theorem str_geq {a b : List UInt8} {q : EqK} : binV q .geq (str a) (str b) = some (.bool (!less a b)) := by
  rw [binV_str]; exact strV_geq
set_option maxHeartbeats 8000000 in
theorem c_SolveFinds {P : Nat → Prop} {H : Heap} {mv : List MV} {wants : List Dep} {vh vw : Value} {b : Int} (hp : Prb0 P H mv wants vh vw) (hP : ∀ b, P b → b < H.size) (hT : VerT H) :
    HCalls prg f_syngraphlaw20_SolveFinds [.agg (prbC vh vw b).toArray] H fun u H' => u = .bool true ∧ Keep (fun _ => False) H H' := by
  apply sh_syngraphlaw20_SolveFinds_calls
  unfold sh_syngraphlaw20_SolveFinds
  simp only [Cells_agg, Mnew_some]
  generalize hH1 : H.push (.cells (prbC vh vw b).toArray T_solve_Problem (0, 0)) = H1
  have k1 : Keep (fun _ => False) H H1 := by rw [← hH1]; exact Keep.push
  have a1 : At H1 H.size (prbC vh vw b) := by rw [← hH1]; exact At.push
  have s1 : H1.size = H.size + 1 := by rw [← hH1]; simp
  have hO : ∀ {h : Heap}, Keep (fun _ => False) H h → OpsT h := fun k => (hT.keep k fun _ h => h.elim).ops
  have aw : ∀ h, Keep (fun _ => False) H h → Mcall prg f_syngraphlaw20_awake [] h fun t h' => t = .bool true ∧ Keep (fun _ => False) H h' := fun h k => by
    refine call_i (c_awake20 (hT.keep k fun _ h => h.elim)) ?_
    rintro _ h' ⟨rfl, k'⟩
    exact ⟨rfl, k.trans k'⟩
  rw [a1.ldN (n := 3) rfl, Mpu_some]
  refine call_i (c_small20 (hp.keep k1 fun _ _ => id)) ?_
  rintro _ h2 ⟨rfl, k2⟩
  have k02 := k1.trans k2
  rw [unV_not, Mpu_some, Mcd_bool]
  cases hsm : smallP (hvOf mv) wants b
  · rw [if_pos (by rfl)]
    exact aw _ k02
  rw [if_neg (by decide)]
  obtain ⟨hq, hl, hwl, hb3⟩ := hp.to hsm
  have hPk : ∀ {h : Heap}, Keep (fun _ => False) H h → ∀ b, P b → b < h.size := fun k b hb => Nat.lt_of_lt_of_le (hP b hb) k.1
  have hqk : ∀ {h : Heap}, Keep (fun _ => False) H h → Prb P h mv wants vh vw := fun k => hq.keep k fun _ _ => id
  have i0 : binV .no .eql (.int .i64 0) (.int .i64 0) = some (.bool true) := rfl
  have n0 : binV .no .neq (.int .i64 0) (.int .i64 0) = some (.bool false) := rfl
  have i10 : binV .no .eql (.int .i64 10) (.int .i64 10) = some (.bool true) := rfl
  have ln : lenV (.slice none 0 0) = some (.int .i64 0) := rfl
  rw [(a1.keep k2 id).ldN (n := 3) rfl, Mpu_some]
  cases hok : probOk (hvOf mv) wants b
  · refine call_i (c_SolveBad (hqk k02) hok hl (by omega) (hO k02)) ?_
    rintro _ h4 ⟨rfl, k4⟩
    have k04 := k02.trans k4
    have k14 := k2.trans k4
    simp only [extV_tuple]
    rw [show (#[Value.slice none 0 0, .int .i64 0, .int .i64 10][0]?) = some (.slice none 0 0) from rfl, Mpu_some, show (#[Value.slice none 0 0, .int .i64 0, .int .i64 10][1]?) = some (.int .i64 0) from rfl, Mpu_some, show (#[Value.slice none 0 0, .int .i64 0, .int .i64 10][2]?) = some (.int .i64 10) from rfl, Mpu_some, (a1.keep k14 id).ldN (n := 3) rfl, Mpu_some]
    refine call_i (c_right20 (hqk k04) (by omega) (by omega) (hO k04)) ?_
    rintro _ h5 ⟨rfl, k5⟩
    rw [hok, unV_not, Mpu_some, Mcd_bool, if_pos (by rfl), (a1.keep (k14.trans k5) id).ldN (n := 3) rfl, Mpu_some]
    have k05 := k04.trans k5
    refine call_i (c_Check (hqk k05) (by omega) (by omega) (hO k05)) ?_
    rintro _ h6 ⟨rfl, k6⟩
    rw [hok]
    have i10' : binV .no .eql (.int .i64 (if false = true then 0 else 10)) (.int .i64 10) = some (.bool true) := rfl
    have k06 := k05.trans k6
    simp only [i10', i10, i0, ln, J1_eq, Mif_bool, if_true, pickV_bool, Mpu_some]
    refine call_i (c_awake20 (hT.keep k06 fun _ h => h.elim)) ?_
    rintro _ h' ⟨rfl, k'⟩
    exact ⟨rfl, k06.trans k'⟩
  have hb0 : 0 ≤ b := by
    unfold probOk at hok
    simp only [Bool.and_eq_true, decide_eq_true_eq] at hok
    exact hok.1.1.1
  refine call_i (c_Solve (hqk k02) (hPk k02) hok hl (by omega) (hO k02)) ?_
  rintro u h4 ⟨hS, k4⟩
  obtain ⟨r, s, v, hr, rfl, hv, hN⟩ := hS.open
  have k04 := k02.trans k4
  have k14 := k2.trans k4
  simp only [extV_tuple]
  rw [show (#[v, Value.int .i64 (s : Nat), .int .i64 (resC r)][0]?) = some v from rfl, Mpu_some, show (#[v, Value.int .i64 (s : Nat), .int .i64 (resC r)][1]?) = some (.int .i64 (s : Nat)) from rfl, Mpu_some, show (#[v, Value.int .i64 (s : Nat), .int .i64 (resC r)][2]?) = some (.int .i64 (resC r)) from rfl, Mpu_some, (a1.keep k14 id).ldN (n := 3) rfl, Mpu_some]
  refine call_i (c_right20 (hqk k04) (by omega) (by omega) (hO k04)) ?_
  rintro _ h5 ⟨rfl, k5⟩
  have k05 := k04.trans k5
  have k15 := k14.trans k5
  have b5 := a1.keep k15 id
  rw [hok, unV_not, Mpu_some, Mcd_bool, if_neg (by decide), fld_ptr, Mpu_some, Nat.add_zero, b5.ld (i := 0) rfl, Mpu_some, fld_ptr, Mpu_some, Nat.zero_add, b5.ld (i := 2) rfl, Mpu_some]
  refine call_i (c_packages (hqk k05).h (hqk k05).m hq.sm (by omega)) ?_
  rintro vpk h16 ⟨⟨pk, hpk, hpe⟩, k16⟩
  have k016 := k05.trans k16
  have b16 := b5.keep k16 id
  simp only [Mre_cons, Mre_nil]
  refine ⟨b16.ld (i := 2) rfl, ?_⟩
  obtain ⟨pv, cv, ev⟩ := hpk.s.shape
  obtain ⟨bd, rfl⟩ : ∃ bd : Nat, b = (bd : Int) := ⟨b.toNat, by omega⟩
  have hbd : bd ≤ 3000 := by omega
  have ebf : buildV prg T_syngraphref20_Find [(0, vpk), (1, .int .i64 (bd : Nat))] = some (.agg (fndC vpk bd 0 false).toArray) := by rw [ev]; exact b_Find
  rw [ebf, Mpu_some]
  simp only [Cells_agg, Mnew_some]
  generalize hH17 : h16.push (.cells (fndC vpk bd 0 false).toArray T_syngraphref20_Find (0, 0)) = h17
  have k17 : Keep (fun _ => False) h16 h17 := by rw [← hH17]; exact Keep.push
  have a17 : At h17 h16.size (fndC vpk bd 0 false) := by rw [← hH17]; exact At.push
  have k017 := k016.trans k17
  have b17 := b16.keep k17 id
  rw [fld_ptr, Mpu_some, Nat.zero_add, b17.ld (i := 1) rfl, Mpu_some]
  refine call_i (c_lawDeps (hqk k017).w hq.ww (by omega)) ?_
  rintro t57 h18 ⟨hb57, k18⟩
  have k018 := k017.trans k18
  obtain ⟨hokH, hww⟩ := OkH.of hq hok
  have g16 := k016.1
  have g17 : h16.size < h17.size := a17.lt
  have hr : Run (hvOf mv) bd (.sol [] wants) 0 r s := hr
  refine call_i (c_find (q := h16.size) hpe hokH (by simpa using hl) (by omega) _ [] wants 0 h18 (.slice none 0 0) t57 (Nat.lt_succ_self _) Names.nil hww (by simp; omega) (Nat.zero_le _) ((hpk.keep (k17.trans k18) fun _ _ => id).mono fun b hb => by omega) SlE.nil (hb57.sl.mono fun b hb => by omega) (a17.keep k18 id)) ?_
  rintro u h19 ⟨r', s', hr', hat, k19, hu⟩
  obtain ⟨rfl, rfl⟩ := hr.det hr'
  have k019 : Keep (fun _ => False) H h19 := k018.fresh k19 fun b hb => by omega
  have hv19 : SlE 1 (fun b => h2.size ≤ b ∧ b < h4.size) h19 v (ints (zs (resL (hvOf mv) r))) := (hv.keep (((k5.trans k16).trans k17).trans k18) fun _ _ => id).keep k19 fun b hb e => by have := (k5.trans k16).1; omega
  have lt2 := (a1.keep k2 id).lt
  have b19 : At h19 H.size (prbC vh vw (bd : Int)) := (b17.keep k18 id).keep k19 (by have := b16.lt; omega)
  have lv := hv19.len
  rw [ints_len, zs_len] at lv
  have nI : ∀ x : Int, binV .no .neq (.int .i64 x) (.int .i64 x) = some (.bool false) := fun x => by
    rw [binV_int]; simp [intV]
  have eI : ∀ x : Int, binV .no .eql (.int .i64 x) (.int .i64 x) = some (.bool true) := fun x => by
    rw [binV_int]; simp [intV]
  have ext : ∀ (t59 : Value) (ok : Bool), extV 0 (.tuple #[t59, .bool ok]) = some t59 ∧ extV 1 (.tuple #[t59, .bool ok]) = some (.bool ok) := fun _ _ => ⟨rfl, rfl⟩
  have chk : ∀ (K : Value → Heap → Prop), (∀ h20, Keep (fun _ => False) h19 h20 → K (.int .i64 0) h20) → Mcall prg f_solve_Problem_Check [.agg (prbC vh vw (bd : Int)).toArray] h19 K := fun K hK => by
    refine call_i (c_Check (hqk k019) (by omega) (by omega) (hO k019)) ?_
    rintro _ h20 ⟨rfl, k20⟩
    rw [hok]
    exact hK h20 k20
  cases r with
  | over =>
    subst hu
    rw [(ext _ _).1, Mpu_some, (ext _ _).2, Mpu_some, b19.ldN (n := 3) rfl, Mpu_some]
    refine chk _ fun h20 k20 => ?_
    have hat20 := hat.keep k20 id
    have k020 := k019.trans k20
    have b20 := b19.keep k20 id
    obtain rfl := hr.at_over rfl
    have e42 : binV .no .eql (.int .i64 (resC .over)) (.int .i64 42) = some (.bool true) := rfl
    have lv0 : lenV v = some (.int .i64 0) := lv
    have l2 : ld1 h20 (Ptr h16.size 2) = some (.int .i64 (s : Nat)) := hat20.ld (i := 2) rfl
    have l3 : ld1 h20 (Ptr h16.size 3) = some (.bool true) := hat20.ld (i := 3) rfl
    have lb : ld1 h20 (Ptr H.size 2) = some (.int .i64 ((s : Nat) : Int)) := b20.ld (i := 2) rfl
    simp only [n0, nI, eI, J1_eq, Mif_bool, if_true, pickV_bool, Mpu_some, nck_ptr, fld_ptr, Nat.zero_add, l2, l3, lb, Bool.false_eq_true, if_false, Mcd_bool, e42, lv0, i0]
    refine call_i (c_awake20 (hT.keep k020 fun _ h => h.elim)) ?_
    rintro _ h' ⟨rfl, k'⟩
    exact ⟨rfl, k020.trans k'⟩
  | fail =>
    subst hu
    rw [(ext _ _).1, Mpu_some, (ext _ _).2, Mpu_some, b19.ldN (n := 3) rfl, Mpu_some]
    refine chk _ fun h20 k20 => ?_
    have hat20 := hat.keep k20 id
    have k020 := k019.trans k20
    have e40 : binV .no .eql (.int .i64 (resC .fail)) (.int .i64 40) = some (.bool true) := rfl
    have lv0 : lenV v = some (.int .i64 0) := lv
    have l2 : ld1 h20 (Ptr h16.size 2) = some (.int .i64 (s : Nat)) := hat20.ld (i := 2) rfl
    have l3 : ld1 h20 (Ptr h16.size 3) = some (.bool false) := hat20.ld (i := 3) rfl
    simp only [n0, nI, J1_eq, Mif_bool, if_true, pickV_bool, Mpu_some, nck_ptr, fld_ptr, Nat.zero_add, l2, l3, Bool.false_eq_true, if_false, Mcd_bool, unV_not, Bool.not_false, e40, lv0, i0]
    refine call_i (c_awake20 (hT.keep k020 fun _ h => h.elim)) ?_
    rintro _ h' ⟨rfl, k'⟩
    exact ⟨rfl, k020.trans k'⟩
  | ok l =>
    obtain ⟨x, rfl, hx, hNl⟩ := hu
    rw [(ext _ _).1, Mpu_some, (ext _ _).2, Mpu_some, b19.ldN (n := 3) rfl, Mpu_some]
    refine chk _ fun h20 k20 => ?_
    have hat20 := hat.keep k20 id
    have k020 := k019.trans k20
    have l2 : ld1 h20 (Ptr h16.size 2) = some (.int .i64 (s : Nat)) := hat20.ld (i := 2) rfl
    have l3 : ld1 h20 (Ptr h16.size 3) = some (.bool false) := hat20.ld (i := 3) rfl
    have e0 : binV .no .neq (.int .i64 (resC (.ok l))) (.int .i64 0) = some (.bool false) := rfl
    have lx := hx.len
    rw [ints_len, zs_len] at lx
    have hll : (resL (hvOf mv) (.ok l)).length = l.length := isort_len
    rw [hll] at lv
    simp only [n0, nI, J1_eq, Mif_bool, if_true, pickV_bool, Mpu_some, nck_ptr, fld_ptr, Nat.zero_add, l2, l3, Bool.false_eq_true, if_false, Mcd_bool, unV_not, Bool.not_true, e0, lv, lx]
    have hrise : Rise (hvOf mv) (sortedF (hvOf mv) l) := sorted_rise hNl
    have hsl : ∀ k ∈ sortedF (hvOf mv) l, k ∈ l := fun k hk => sorted_mem.1 hk
    have hln : l.length ≤ 12 := by have := hNl.len; rw [List.length_map] at this; omega
    refine L1_i (fun u h => ∃ i : Nat, i ≤ l.length ∧ u = .int .i64 (i : Nat) ∧ Keep (fun _ => False) h20 h) (fun u _ => match u with | .int _ t => l.length - t.toNat | _ => 0) ⟨0, Nat.zero_le _, rfl, Keep.refl⟩ ?_
    rintro _ h ⟨i, hi, rfl, kh⟩ k39 hk39
    have k0h := k020.trans kh
    rw [ltNn, Mpu_some, Mcd_bool]
    by_cases hlt : i < l.length
    rotate_left
    · rw [if_neg (by simpa using hlt)]
      refine call_i (c_awake20 (hT.keep k0h fun _ h => h.elim)) ?_
      rintro _ h' ⟨rfl, k'⟩
      exact ⟨rfl, k0h.trans k'⟩
    rw [if_pos (by simpa using hlt)]
    have hsl' : (sortedF (hvOf mv) l).length = l.length := isort_len
    have hg : (sortedF (hvOf mv) l)[i]? = some (sortedF (hvOf mv) l)[i] := List.getElem?_eq_getElem (by omega)
    generalize (sortedF (hvOf mv) l)[i]'(by omega) = m at hg
    have hml : m ∈ l := hsl m (List.mem_of_getElem? hg)
    have hv40 := (hv19.keep k20 fun _ _ => id).keep kh fun _ _ => id
    have hx40 := (hx.keep k20 fun _ _ => id).keep kh fun _ _ => id
    obtain ⟨p, o, hix, hpt, _⟩ := hv40.at (i := i) (x := [.int .i64 (m : Int)]) (ints_get (zs_get hg))
    refine J5_eq.2 ?_
    rw [hix .i64, Mpu_some, hpt.cell0 rfl, Mpu_some]
    refine J2_i (fun t11 _ h' => t11 = .bool true ∧ Keep (fun _ => False) h h') (fun k43 hk43 => ?_) ?_
    · refine L2_i (fun t11 u h' => (∃ j : Nat, j ≤ l.length ∧ u = .int .i64 (j : Nat) ∧ t11 = .bool ((l.take j).any fun y => decide (y = m))) ∧ Keep (fun _ => False) h h') (fun _ u _ => match u with | .int _ t => l.length - t.toNat | _ => 0) ⟨⟨0, Nat.zero_le _, rfl, rfl⟩, Keep.refl⟩ ?_
      rintro _ _ g ⟨⟨j, hj, rfl, rfl⟩, kg⟩ k45 hk45
      rw [ltNn, Mpu_some, Mcd_bool]
      by_cases hlj : j < l.length
      rotate_left
      · rw [if_neg (by simpa using hlj)]
        rw [List.take_of_length_le (by omega)]
        exact hk43 _ _ _ ⟨by rw [List.any_eq_true.2 ⟨m, hml, by simp⟩], kg⟩
      rw [if_pos (by simpa using hlj)]
      have hgj : l[j]? = some l[j] := List.getElem?_eq_getElem hlj
      have htk : l.take (j + 1) = l.take j ++ [l[j]] := by rw [List.take_add_one, hgj]; rfl
      generalize l[j] = y at *
      obtain ⟨p', o', hix', hpt', _⟩ := (hx40.keep kg fun _ _ => id).at (i := j) (x := [.int .i64 (y : Int)]) (ints_get (zs_get hgj))
      have hst : (l.take (j + 1)).any (fun y => decide (y = m)) = ((l.take j).any (fun y => decide (y = m)) || decide (y = m)) := by rw [htk, List.any_append]; simp
      have fin : k45 (.bool ((l.take (j + 1)).any fun y => decide (y = m))) (.int .i64 ((j + 1 : Nat) : Int)) g := hk45 _ _ _ ⟨⟨j + 1, by omega, rfl, rfl⟩, kg⟩ (by show l.length - (j + 1) < l.length - j; omega)
      rw [hst] at fin
      rw [hix' .i64, Mpu_some, hpt'.cell0 rfl, Mpu_some]
      cases hc : (l.take j).any (fun y => decide (y = m))
      · rw [hc] at fin
        rw [Mif_bool, if_pos rfl, eqNn, Mpu_some, pickV_bool, if_neg (by decide), Mpu_some, add_one' (by omega), Mpu_some]
        simpa using fin
      · rw [hc] at fin
        simp only [J1_eq, Mif_bool, Bool.true_eq_false, if_false, pickV_bool, if_true, Mpu_some]
        rw [add_one' (by omega), Mpu_some]
        exact fin
    rintro _ _ h44 ⟨rfl, k44⟩
    have k044 := k0h.trans k44
    rw [unV_not, Mpu_some]
    have fin : k39 (.int .i64 ((i + 1 : Nat) : Int)) h44 := hk39 _ _ ⟨i + 1, by omega, rfl, kh.trans k44⟩ (by show l.length - (i + 1) < l.length - i; omega)
    have egt : binV .no .gtr (.int .i64 (i : Nat)) (.int .i64 0) = some (.bool (decide (i > 0))) := gtNn (m := 0)
    rw [Mif_bool, if_pos (by rfl), egt, Mpu_some]
    cases i with
    | zero =>
      simp only [Nat.lt_irrefl, gt_iff_lt, decide_false, J1_eq, Mif_bool, Mif_undef, Bool.not_true, Bool.false_eq_true, if_false, pickV_bool, if_true, Mpu_some, Mcd_bool]
      rw [add_one' (by omega), Mpu_some]
      exact fin
    | succ i =>
      have hgp : (sortedF (hvOf mv) l)[i]? = some (sortedF (hvOf mv) l)[i] := List.getElem?_eq_getElem (by omega)
      generalize (sortedF (hvOf mv) l)[i]'(by omega) = mp at hgp
      have hmp : mp ∈ l := hsl mp (List.mem_of_getElem? hgp)
      have hlt' := hrise.next hgp hg
      have b44 := (b19.keep k20 id).keep (kh.trans k44) id
      obtain ⟨y1, _, hg1, _, hm1, b1', o1', hix1, hpt1, _⟩ := (hqk k044).at (hNl.1 mp hmp)
      obtain ⟨y2, _, hg2, _, hm2, b2', o2', hix2, hpt2, _⟩ := (hqk k044).at (hNl.1 m hml)
      obtain ⟨p', o', hix', hpt', _⟩ := (hv40.keep k44 fun _ _ => id).at (i := i) (x := [.int .i64 (mp : Int)]) (ints_get (zs_get hgp))
      have hge : binV .no .geq (str y1.1.name) (str y2.1.name) = some (.bool false) := by
        rw [str_geq, ← hg1, ← hg2, less_of hlt']; rfl
      have lh : ld1 h44 (Ptr H.size 0) = some vh := b44.ld (i := 0) rfl
      rw [decide_eq_true (show i + 1 > 0 by omega), Mif_bool, if_pos rfl]
      simp only [fld_ptr, Nat.zero_add, Nat.add_zero, Mpu_some, lh, subN1 (show i + 1 ≤ 9223372036854775807 by omega), hix' .i64, hpt'.cell0 rfl, hix1 .i64, hix2 .i64, mv_name hpt1, mv_name hpt2, hge, J1_eq, Mif_bool, Bool.not_true, Bool.false_eq_true, if_false, pickV_bool, if_true, Mcd_bool]
      rw [add_one' (by omega), Mpu_some]
      exact fin
end Go.Proofs.YtanhgihfgmbojaaGreatDoor

