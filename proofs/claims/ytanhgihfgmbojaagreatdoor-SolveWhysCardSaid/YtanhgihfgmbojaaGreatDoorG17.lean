/- JOINED: V182 -/
import Derived.Test.YtanhgihfgmbojaaGreatDoorG16
import Derived.Test.YtanhgihfgmbojaaGreatDoorG12
set_option linter.unusedSimpArgs false
set_option linter.unusedVariables false
/- law 20: SolveFinds. -/
namespace Go.Proofs.YtanhgihfgmbojaaGreatDoor
open Go.X Go.X.Diff
set_option maxRecDepth 100000
set_option linter.unusedSimpArgs false
set_option linter.unusedVariables false

theorem OkH.of {P : Nat → Prop} {H : Heap} {mv : List MV} {wants : List Dep} {vh vw : Value} {b : Int} (hp : Prb P H mv wants vh vw) (h : probOk (hvOf mv) wants b = true) : OkH (hvOf mv) ∧ (∀ d ∈ wants, d.wf ∧ wantOk d.want = true) := by
  unfold probOk at h
  simp only [Bool.and_eq_true, decide_eq_true_eq] at h
  obtain ⟨⟨_, hr⟩, hw⟩ := h
  have hm : ∀ k, k < (hvOf mv).length → manOk (gM (hvOf mv) k) = true := fun k hk => by
    have := List.all_eq_true.1 hr k (List.mem_range.2 hk)
    unfold haveAt manOkG at this
    simp only [Bool.and_eq_true] at this
    exact this.1.1
  have hdep : ∀ (own : List UInt8) (l : List Dep), depsOk own l = true → ∀ d ∈ l, wantOk d.want = true := fun own l h d hd => by
    unfold depsOk at h
    simp only [Bool.and_eq_true, List.all_eq_true] at h
    have := h.1.1 d hd
    unfold depAt at this
    simp only [Bool.and_eq_true] at this
    exact this.2
  have hman : ∀ k, k < (hvOf mv).length → verOk (gM (hvOf mv) k).ver = true ∧ depsOk (gM (hvOf mv) k).name (gM (hvOf mv) k).deps = true ∧ depsOk (gM (hvOf mv) k).name (gM (hvOf mv) k).conf = true := fun k hk => by
    have := hm k hk
    unfold manOk at this
    simp only [Bool.and_eq_true] at this
    exact ⟨this.1.1.2, this.1.2, this.2⟩
  refine ⟨⟨fun k hk => (hman k hk).1, fun k hk d hd => ⟨?_, hdep _ _ (hman k hk).2.1 d hd⟩, fun k hk => hdep _ _ (hman k hk).2.2, fun k hk => ?_, hr⟩, fun d hd => ⟨hp.ww d hd, ?_⟩⟩
  · obtain ⟨x, _, hgx, _, hmx, _⟩ := hp.at hk
    rw [hgx] at hd
    exact hmx.wf.deps d hd
  · obtain ⟨x, _, hgx, hxm, _, _⟩ := hp.at hk
    rw [hgx]
    exact hp.sm x hxm
  · have := List.all_eq_true.1 hw d hd
    simp only [Bool.and_eq_true] at this
    exact this.2
theorem c_SolveBad {P : Nat → Prop} {H : Heap} {mv : List MV} {wants : List Dep} {vh vw : Value} {b : Int} (hp : Prb P H mv wants vh vw) (hok : probOk (hvOf mv) wants b = false) (hl : mv.length ≤ 12) (hwl : wants.length ≤ 64) (hO : OpsT H) :
    HCalls prg f_solve_Solve [.agg (prbC vh vw b).toArray] H fun u H' => u = .tuple #[.slice none 0 0, .int .i64 0, .int .i64 10] ∧ Keep (fun _ => False) H H' := by
  apply sh_solve_Solve_calls
  unfold sh_solve_Solve
  simp only [Cells_agg, Mnew_some]
  generalize hH1 : H.push (.cells (prbC vh vw b).toArray T_solve_Problem (0, 0)) = H1
  have k1 : Keep (fun _ => False) H H1 := by rw [← hH1]; exact Keep.push
  have a1 : At H1 H.size (prbC vh vw b) := by rw [← hH1]; exact At.push
  rw [a1.ldN (n := 3) rfl, Mpu_some]
  refine call_i (c_Check (hp.keep k1 fun _ _ => id) (by omega) hwl (hO.keep k1 fun _ h => h.elim)) ?_
  rintro _ h2 ⟨rfl, k2⟩
  rw [hok]
  have en : binV .no .neq (.int .i64 (if false = true then 0 else 10)) (.int .i64 0) = some (.bool true) := rfl
  rw [en, Mpu_some, Mcd_bool, if_pos rfl]
  exact ⟨rfl, k1.trans k2⟩
theorem Rise.next {hv : List Man} : ∀ {l : List Nat}, Rise hv l → ∀ {i a b : Nat}, l[i]? = some a → l[i + 1]? = some b → cmpB (gM hv a).name (gM hv b).name < 0 := fun {l} h i a b ha hb => by
  obtain ⟨h1, rfl⟩ := List.getElem?_eq_some_iff.1 ha
  obtain ⟨h2, rfl⟩ := List.getElem?_eq_some_iff.1 hb
  exact (List.pairwise_iff_getElem.1 h) i (i + 1) h1 h2 (by omega)
end Go.Proofs.YtanhgihfgmbojaaGreatDoor

