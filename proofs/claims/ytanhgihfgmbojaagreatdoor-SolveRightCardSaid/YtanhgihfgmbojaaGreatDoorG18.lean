/- JOINED: V183 -/
import Derived.Test.YtanhgihfgmbojaaGreatDoorG17
set_option linter.unusedSimpArgs false
set_option linter.unusedVariables false
/- ref 20: Right. -/
namespace Go.Proofs.YtanhgihfgmbojaaGreatDoor
open Go.X Go.X.Diff
set_option maxRecDepth 100000
set_option linter.unusedSimpArgs false
set_option linter.unusedVariables false

def PairOk (hv : List Man) (c : List Nat) (i j : Nat) : Prop := ∀ a b, c[i]? = some a → c[j]? = some b → i ≠ j → (gM hv a).name ≠ (gM hv b).name ∧ refR (gM hv a) (gM hv b) = false
def SatR (hv : List Man) (c : List Nat) (d : Dep) : Prop := ∃ k ∈ c, fitR d (gM hv k) = true
section
variable {hv : List Man} {wants : List Dep} {c : List Nat}
theorem pairs_names (hok : OkH hv) (hl : ∀ k ∈ c, k < hv.length) (h : ∀ i, i < c.length → ∀ j, j < c.length → PairOk hv c i j) : Names hv c ∧ NoRef hv c := by
  refine ⟨⟨hl, ?_⟩, fun a ha b hb hne => ?_⟩
  · rw [List.nodup_iff_pairwise_ne]
    refine List.pairwise_map.2 (List.pairwise_iff_getElem.2 fun i j hi hj hij => ?_)
    exact (h i hi j hj _ _ (List.getElem?_eq_getElem hi) (List.getElem?_eq_getElem hj) (by omega)).1
  · obtain ⟨i, hi, rfl⟩ := List.getElem_of_mem ha
    obtain ⟨j, hj, rfl⟩ := List.getElem_of_mem hb
    rw [← hok.ref (hl _ ha) (hl _ hb)]
    exact (h i hi j hj _ _ (List.getElem?_eq_getElem hi) (List.getElem?_eq_getElem hj) (fun e => hne (by subst e; rfl))).2
theorem right_pairs (hok : OkH hv) (h : RightC hv wants c) {i j : Nat} : PairOk hv c i j := fun a b ha hb hne => by
  obtain ⟨hi, rfl⟩ := List.getElem?_eq_some_iff.1 ha
  obtain ⟨hj, rfl⟩ := List.getElem?_eq_some_iff.1 hb
  have hp := List.pairwise_iff_getElem.1 (List.pairwise_map.1 (List.nodup_iff_pairwise_ne.1 h.nm.2))
  have hnm : (gM hv c[i]).name ≠ (gM hv c[j]).name := by
    rcases Nat.lt_or_gt_of_ne hne with hij | hij
    · exact hp i j hi hj hij
    · exact fun e => hp j i hj hi hij e.symm
  refine ⟨hnm, ?_⟩
  rw [hok.ref (h.nm.1 _ (List.getElem_mem hi)) (h.nm.1 _ (List.getElem_mem hj))]
  exact h.nr _ (List.getElem_mem hi) _ (List.getElem_mem hj) fun e => hnm (by rw [e])
def roundL (hv : List Man) (wants : List Dep) (c : List Nat) : Nat → List Dep
  | 0 => wants
  | p + 1 => (gM hv (c.getD p 0)).deps
theorem satR_iff (hok : OkH hv) (hl : ∀ k ∈ c, k < hv.length) {d : Dep} (hd : wantOk d.want = true) : SatR hv c d ↔ ∃ k ∈ c, fitM d (gM hv k) = true :=
  ⟨fun ⟨k, hk, hf⟩ => ⟨k, hk, by rw [← fitR_eq hd (hok.v k (hl k hk))]; exact hf⟩, fun ⟨k, hk, hf⟩ => ⟨k, hk, by rw [fitR_eq hd (hok.v k (hl k hk))]; exact hf⟩⟩
end
set_option maxHeartbeats 8000000 in
theorem c_rRight {Q R S : Nat → Prop} {H : Heap} {hv : List Man} {pk : List PK} {vpk vw vc : Value} {wants : List Dep} {c : List Nat} (hok : OkH hv) (he : pk.map (·.1) = hv) (hp : PksV Q H vpk pk) (hsw : SlE 6 R H vw (wants.map depC)) (hww : ∀ d ∈ wants, d.wf ∧ wantOk d.want = true) (hwl : wants.length ≤ 1000)
    (hc : SlE 1 S H vc (ints (zs c))) (hlt : ∀ k ∈ c, k < hv.length) (hcl : c.length ≤ 1000) :
    HCalls prg f_syngraphref20_Right [vpk, vw, vc] H fun u H' => u = .bool (rightB hv wants (zs c)) ∧ Keep (fun _ => False) H H' := by
  apply sh_syngraphref20_Right_calls
  unfold sh_syngraphref20_Right
  have lc := hc.len
  rw [ints_len, zs_len] at lc
  have bad : ∀ h, Keep (fun _ => False) H h → ¬ RightC hv wants c → Value.bool false = .bool (rightB hv wants (zs c)) ∧ Keep (fun _ => False) H h := fun h kh hn => by
    refine ⟨?_, kh⟩
    rw [rightB_no fun c' e hr => hn (by rw [cast_inj e]; exact hr)]
  have cat : ∀ {h : Heap} {i : Nat} (kh : Keep (fun _ => False) H h) (hi : i < c.length), ∃ x b o bc oc, (∀ q, ixS 1 vc (.int q i) = some (Ptr bc oc)) ∧ ld1 h (Ptr bc oc) = some (.int .i64 ((c[i] : Nat) : Int)) ∧ gM hv c[i] = x.1 ∧ PkV Q h x ∧ (∀ q, ixS 7 vpk (.int q ((c[i] : Nat) : Int)) = some (Ptr b o)) ∧ Pt h b o (pkgC x) ∧ c[i] < hv.length := by
    intro h i kh hi
    have hg : c[i]? = some c[i] := List.getElem?_eq_getElem hi
    have hil := hlt _ (List.getElem_mem hi)
    obtain ⟨x, hgx, hmx, hxm, hpx, b, o, hix, hpt⟩ := (hp.keep kh fun _ _ => id).at he hil
    obtain ⟨bc, oc, hixc, hptc, _⟩ := (hc.keep kh fun _ _ => id).at (i := i) (x := [.int .i64 ((c[i] : Nat) : Int)]) (ints_get (zs_get hg))
    exact ⟨x, b, o, bc, oc, hixc, hptc.cell0 rfl, hmx, hpx, hix, hpt, hil⟩
  refine J1_i (fun _ h => (∀ i, i < c.length → ∀ j, j < c.length → PairOk hv c i j) ∧ Keep (fun _ => False) H h) (fun k1 hk1 => ?_) ?_
  · refine L1_i (fun u h => ∃ i : Nat, i ≤ c.length ∧ u = .int .i64 (i : Nat) ∧ (∀ i', i' < i → ∀ j, j < c.length → PairOk hv c i' j) ∧ Keep (fun _ => False) H h) (fun u _ => match u with | .int _ t => c.length - t.toNat | _ => 0) ⟨0, Nat.zero_le _, rfl, fun i hi => by omega, Keep.refl⟩ ?_
    rintro _ h4 ⟨i, hi, rfl, hall, kh⟩ k3 hk3
    rw [lc, Mpu_some, ltNn, Mpu_some, Mcd_bool]
    by_cases hil : i < c.length
    rotate_left
    · rw [if_neg (by simpa using hil)]
      obtain rfl : i = c.length := by omega
      exact hk1 _ _ ⟨hall, kh⟩
    rw [if_pos (by simpa using hil)]
    refine J1_i (fun _ h => (∀ j, j < c.length → PairOk hv c i j) ∧ Keep (fun _ => False) H h) (fun k5 hk5 => ?_) ?_
    rotate_left
    · rintro _ h6 ⟨hj, k6⟩
      rw [add_one' (by omega), Mpu_some]
      refine hk3 _ _ ⟨i + 1, by omega, rfl, fun i' hi' => ?_, k6⟩ (by show c.length - (i + 1) < c.length - i; omega)
      by_cases e : i' = i
      · subst e; exact hj
      · exact hall i' (by omega)
    refine L1_i (fun u h => ∃ j : Nat, j ≤ c.length ∧ u = .int .i64 (j : Nat) ∧ (∀ j', j' < j → PairOk hv c i j') ∧ Keep (fun _ => False) H h) (fun u _ => match u with | .int _ t => c.length - t.toNat | _ => 0) ⟨0, Nat.zero_le _, rfl, fun i hi => by omega, kh⟩ ?_
    rintro _ h8 ⟨j, hj, rfl, hpj, k8⟩ k7 hk7
    rw [Mpu_some, ltNn, Mpu_some, Mcd_bool]
    by_cases hjl : j < c.length
    rotate_left
    · rw [if_neg (by simpa using hjl)]
      obtain rfl : j = c.length := by omega
      exact hk5 _ _ ⟨hpj, k8⟩
    rw [if_pos (by simpa using hjl)]
    obtain ⟨x, bx, ox, bc, oc, hixc, hlc, hmx, hpx, hix, hpt, hil'⟩ := cat k8 hil
    obtain ⟨y, by', oy, bd, od, hiyd, hld, hmy, hpy, hiy, hpty, hjl'⟩ := cat k8 hjl
    refine J2_i (fun t10 t11 h => ∃ qa qb, t10 = Ptr qa 0 ∧ t11 = Ptr qb 0 ∧ At h qa (pkgC x) ∧ At h qb (pkgC y) ∧ Keep (fun _ => False) h8 h) (fun k9 hk9 => ?_) ?_
    · rw [hixc .i64, Mpu_some, hlc, Mpu_some, hix .i64, Mpu_some, hpt.agg (pkgC_len hpx.wf), Mpu_some, hiyd .i64, Mpu_some, hld, Mpu_some, hiy .i64, Mpu_some, hpty.agg (pkgC_len hpy.wf), Mpu_some]
      have re : ∀ h, Keep (fun _ => False) h8 h → ldN 7 h (Ptr by' oy) = some (.agg (pkgC y).toArray) ∧ ld1 h (Ptr bd od) = some (.int .i64 ((c[j] : Nat) : Int)) ∧ ldN 7 h (Ptr bx ox) = some (.agg (pkgC x).toArray) ∧ ld1 h (Ptr bc oc) = some (.int .i64 ((c[i] : Nat) : Int)) := fun h k => by
        obtain ⟨x', bx', ox', bc', oc', hixc', hlc', hmx', hpx', hix', hpt', _⟩ := cat (k8.trans k) hil
        obtain ⟨y', by2, oy', bd', od', hiyd', hld', hmy', hpy', hiy', hpty', _⟩ := cat (k8.trans k) hjl
        have e1 := Option.some.inj ((hixc .i64).symm.trans (hixc' .i64))
        have e2 := Option.some.inj ((hiyd .i64).symm.trans (hiyd' .i64))
        exact ⟨(hpty.keep k id).agg (pkgC_len hpy.wf), by rw [e2]; exact hld', (hpt.keep k id).agg (pkgC_len hpx.wf), by rw [e1]; exact hlc'⟩
      simp only [z_Pkg, Mnew_some]
      generalize hHa : h8.push (.cells (pkgC (⟨[], zeroV, [], [], []⟩, nilS, nilS)).toArray T_syngraphref20_Package (0, 0)) = ha
      have ka : Keep (fun _ => False) h8 ha := by rw [← hHa]; exact Keep.push
      have aa : At ha h8.size (pkgC (⟨[], zeroV, [], [], []⟩, nilS, nilS)) := by rw [← hHa]; exact At.push
      have sa : ha.size = h8.size + 1 := by rw [← hHa]; simp
      generalize hHb : ha.push (.cells (pkgC (⟨[], zeroV, [], [], []⟩, nilS, nilS)).toArray T_syngraphref20_Package (0, 0)) = hb
      have kb : Keep (fun _ => False) ha hb := by rw [← hHb]; exact Keep.push
      have ab : At hb ha.size (pkgC (⟨[], zeroV, [], [], []⟩, nilS, nilS)) := by rw [← hHb]; exact At.push
      have aa' := aa.keep kb id
      have kab := ka.trans kb
      have len0 : (pkgC (⟨[], zeroV, [], [], []⟩, nilS, nilS)).length = 7 := rfl
      simp only [Mre_cons, Mre_nil]
      obtain ⟨r1, r2, r3, r4⟩ := re ha ka
      obtain ⟨q1, q2, q3, q4⟩ := re hb kab
      refine ⟨⟨r1, r2, r3, r4, q1, q2, q3, q4, ?_⟩, ⟨r1, r2, r3, r4, q1, q2, q3, q4, ?_⟩⟩
      · obtain ⟨h12, st12, a12, k12⟩ := aa'.st (n := 7) (ds := pkgC x) len0 (pkgC_len hpx.wf) (pkgC_one hpx)
        have k812 : Keep (fun _ => False) h8 h12 := kab.fresh k12 fun b hb => by omega
        rw [st12, Mwr_some]
        obtain ⟨z1, z2, _, _⟩ := re h12 k812
        refine ⟨z1, z2, ?_⟩
        obtain ⟨h13, st13, a13, k13⟩ := (ab.keep k12 (show ¬ ha.size = h8.size by omega)).st (n := 7) (ds := pkgC y) len0 (pkgC_len hpy.wf) (pkgC_one hpy)
        rw [st13, Mwr_some]
        exact hk9 _ _ _ ⟨_, _, rfl, rfl, a12.keep k13 (by omega), a13, k812.fresh k13 fun b hb => by omega⟩
      · obtain ⟨h12, st12, a12, k12⟩ := ab.st (n := 7) (ds := pkgC x) len0 (pkgC_len hpx.wf) (pkgC_one hpx)
        have k812 : Keep (fun _ => False) h8 h12 := kab.fresh k12 fun b hb => by omega
        rw [st12, Mwr_some]
        obtain ⟨z1, z2, _, _⟩ := re h12 k812
        refine ⟨z1, z2, ?_⟩
        obtain ⟨h13, st13, a13, k13⟩ := (aa'.keep k12 (show ¬ h8.size = ha.size by omega)).st (n := 7) (ds := pkgC y) len0 (pkgC_len hpy.wf) (pkgC_one hpy)
        rw [st13, Mwr_some]
        exact hk9 _ _ _ ⟨_, _, rfl, rfl, a12.keep k13 (by omega), a13, k812.fresh k13 fun b hb => by omega⟩
    rintro _ _ h18 ⟨qa, qb, rfl, rfl, aA, aB, k18⟩
    have k018 := k8.trans k18
    have enq : binV .no .neq (.int .i64 (i : Nat)) (.int .i64 (j : Nat)) = some (.bool (!decide (i = j))) := by
      rw [binV_int]; simp only [intV]; congr 2; rw [Bool.eq_iff_iff]; simp; omega
    have fin : ∀ h', Keep (fun _ => False) h18 h' → PairOk hv c i j → k7 (.int .i64 ((j + 1 : Nat) : Int)) h' := fun h' k' hpo => by
      refine hk7 _ _ ⟨j + 1, by omega, rfl, fun j' hj' => ?_, k018.trans k'⟩ (by show c.length - (j + 1) < c.length - j; omega)
      by_cases e : j' = j
      · subst e; exact hpo
      · exact hpj j' (by omega)
    have badp : ∀ h', Keep (fun _ => False) h18 h' → i ≠ j → ((gM hv c[i]).name = (gM hv c[j]).name ∨ refR (gM hv c[i]) (gM hv c[j]) = true) → Value.bool false = .bool (rightB hv wants (zs c)) ∧ Keep (fun _ => False) H h' := fun h' k' hne hor =>
      bad h' (k018.trans k') fun hr => by
        obtain ⟨p1, p2⟩ := right_pairs hok hr (i := i) (j := j) _ _ (List.getElem?_eq_getElem hil) (List.getElem?_eq_getElem hjl) hne
        rcases hor with hor | hor
        · exact p1 hor
        · rw [p2] at hor; cases hor
    rw [enq, Mpu_some]
    by_cases hij : i = j
    · rw [decide_eq_true hij]
      simp only [Bool.not_true, J1_eq, Mif_bool, Mif_undef, Bool.false_eq_true, if_false, pickV_bool, Mpu_some, Mcd_bool]
      rw [add_one' (by omega), Mpu_some]
      exact fin _ Keep.refl fun a b _ _ hne => absurd hij hne
    rw [decide_eq_false hij]
    have e := fun q => str_eql (q := q) (a := x.1.name) (b := y.1.name)
    have nA : ld1 h18 (Ptr qa 0) = some (str x.1.name) := aA.ld (i := 0) rfl
    have nB : ld1 h18 (Ptr qb 0) = some (str y.1.name) := aB.ld (i := 0) rfl
    have dA : ldN 7 h18 (Ptr qa 0) = some (.agg (pkgC x).toArray) := aA.ldN (pkgC_len hpx.wf)
    have dB : ldN 7 h18 (Ptr qb 0) = some (.agg (pkgC y).toArray) := aB.ldN (pkgC_len hpy.wf)
    simp only [Bool.not_false, J1_eq, Mif_bool, if_true, fld_ptr, Nat.add_zero, Mpu_some, nA, nB, e]
    cases hn : decide (x.1.name = y.1.name)
    rotate_left
    · simp only [Mif_bool, Mif_undef, Bool.true_eq_false, if_false, pickV_bool, if_true, Mpu_some, Mcd_bool]
      exact badp _ Keep.refl hij (.inl (by rw [hmx, hmy]; exact of_decide_eq_true hn))
    simp only [Mif_bool, if_true, dA, dB, Mpu_some]
    have hcx := (hok.s _ hil').2
    rw [hmx] at hcx
    refine call_i (c_rrefuses (hpx.keep k18 fun _ _ => id) hpy.wf hcx) ?_
    rintro _ h22 ⟨rfl, k22⟩
    simp only [pickV_bool, Bool.false_eq_true, if_false, if_true, Mpu_some, Mcd_bool]
    cases hr : refR x.1 y.1
    · simp only [Bool.false_eq_true, if_false]
      rw [add_one' (by omega), Mpu_some]
      refine fin _ k22 fun a b ha hb _ => ?_
      rw [List.getElem?_eq_getElem hil] at ha
      rw [List.getElem?_eq_getElem hjl] at hb
      cases ha; cases hb
      rw [hmx, hmy]
      exact ⟨of_decide_eq_false hn, hr⟩
    · simp only [if_true]
      exact badp _ k22 hij (.inr (by rw [hmx, hmy]; exact hr))
  rintro _ h2 ⟨hall, k2⟩
  obtain ⟨hN, hNR⟩ := pairs_names hok hlt hall
  have hrd : ∀ n, n ≤ c.length → (∀ d ∈ roundL hv wants c n, d.wf ∧ wantOk d.want = true) ∧ (roundL hv wants c n).length ≤ 1000 := fun n hn => by
    cases n with
    | zero => exact ⟨hww, hwl⟩
    | succ p =>
      have hm : c.getD p 0 < hv.length := by
        rw [List.getD_eq_getElem?_getD, List.getElem?_eq_getElem (by omega)]
        exact hlt _ (List.getElem_mem (by omega))
      exact ⟨hok.d _ hm, (hok.s _ hm).1⟩
  have satb : ∀ d, SatR hv c d ↔ c.any (fun k => fitR d (gM hv k)) = true := fun d => by unfold SatR; rw [List.any_eq_true]
  refine J2_i (fun _ _ h => (∀ p, p ≤ c.length → ∀ d ∈ roundL hv wants c p, SatR hv c d) ∧ Keep (fun _ => False) H h) (fun k26 hk26 => ?_) ?_
  rotate_left
  · rintro _ _ h ⟨hsat, kh⟩
    refine ⟨?_, kh⟩
    rw [rightB_nat.2]
    refine ⟨hN, hNR, fun d hd => ?_⟩
    rcases hd with hd | ⟨k, hk, hd⟩
    · exact (satR_iff hok hlt (hww d hd).2).1 (hsat 0 (Nat.zero_le _) d hd)
    · obtain ⟨p, hp', rfl⟩ := List.getElem_of_mem hk
      have e : c.getD p 0 = c[p] := by rw [List.getD_eq_getElem?_getD, List.getElem?_eq_getElem hp']; rfl
      exact (satR_iff hok hlt (hok.d _ (hlt _ hk) d hd).2).1 (hsat (p + 1) (by omega) d (by show d ∈ (gM hv (c.getD p 0)).deps; rw [e]; exact hd))
  refine L2_i (fun t7 u h => ∃ n : Nat, n ≤ c.length + 1 ∧ u = .int .i64 ((n : Int) - 1) ∧ (n = 0 → t7 = vw) ∧ (∀ p, p < n → ∀ d ∈ roundL hv wants c p, SatR hv c d) ∧ Keep (fun _ => False) H h) (fun _ u _ => match u with | .int _ t => c.length + 1 - (t + 1).toNat | _ => 0) ⟨0, Nat.zero_le _, rfl, fun _ => rfl, fun p hp => by omega, k2⟩ ?_
  rintro t7 _ h29 ⟨n, hn, rfl, ht7, hsat, k29⟩ k28 hk28
  have elt : binV .no .lss (.int .i64 ((n : Int) - 1)) (.int .i64 (c.length : Nat)) = some (.bool (decide (n ≤ c.length))) := by
    rw [binV_int]; simp only [intV]; congr 2; rw [decide_eq_decide]; omega
  have ead : binV .no .add (.int .i64 ((n : Int) - 1)) (.int .i64 1) = some (.int .i64 (((n + 1 : Nat) : Int) - 1)) := by
    rw [binV_int]; simp only [intV]; rw [wrap_id (by omega) (by omega)]; congr 2; omega
  rw [lc, Mpu_some, elt, Mpu_some, Mcd_bool]
  by_cases hnl : n ≤ c.length
  rotate_left
  · rw [if_neg (by simpa using hnl)]
    exact hk26 _ _ _ ⟨fun p hp => hsat p (by omega), k29⟩
  rw [if_pos (by simpa using hnl)]
  obtain ⟨hdw, hdl⟩ := hrd n hnl
  refine J2_i (fun _ _ h => (∀ d ∈ roundL hv wants c n, SatR hv c d) ∧ Keep (fun _ => False) H h) (fun k30 hk30 => ?_) ?_
  rotate_left
  · rintro t7' _ h31 ⟨hs', k31⟩
    rw [ead, Mpu_some]
    refine hk28 _ _ _ ⟨n + 1, by omega, rfl, fun h => by omega, fun p hp => ?_, k31⟩ (by show c.length + 1 - ((((n + 1 : Nat) : Int) - 1) + 1).toNat < c.length + 1 - (((n : Int) - 1) + 1).toNat; omega)
    by_cases e : p = n
    · subst e; exact hs'
    · exact hsat p (by omega)
  refine J1_i (fun t h => (∃ Q', SlE 6 Q' h t ((roundL hv wants c n).map depC)) ∧ Keep (fun _ => False) H h) (fun k32 hk32 => ?_) ?_
  · have ege : binV .no .geq (.int .i64 ((n : Int) - 1)) (.int .i64 0) = some (.bool (decide (1 ≤ n))) := by
      rw [binV_int]; simp only [intV]; congr 2; rw [decide_eq_decide]; omega
    rw [ege, Mpu_some, Mcd_bool]
    cases n with
    | zero =>
      rw [if_neg (by decide), ht7 rfl]
      exact hk32 _ _ ⟨⟨R, hsw.keep k29 fun _ _ => id⟩, k29⟩
    | succ p =>
      rw [if_pos (by simp)]
      obtain ⟨x, bx, ox, bc, oc, hixc, hlc, hmx, hpx, hix, hpt, hil'⟩ := cat k29 (show p < c.length by omega)
      have ep : (((p + 1 : Nat) : Int) - 1) = (p : Nat) := by omega
      have e : c.getD p 0 = c[p] := by rw [List.getD_eq_getElem?_getD, List.getElem?_eq_getElem (by omega)]; rfl
      rw [ep, hixc .i64, Mpu_some, hlc, Mpu_some, hix .i64, Mpu_some, fld_ptr, Mpu_some, pk_d hpt hpx.wf, Mpu_some]
      refine hk32 _ _ ⟨⟨Q, ?_⟩, k29⟩
      show SlE 6 Q h29 x.2.1 ((gM hv (c.getD p 0)).deps.map depC)
      rw [e, hmx]; exact hpx.d
  rintro t7d h33 ⟨⟨Q', hsd⟩, k33⟩
  have ld := hsd.len
  rw [List.length_map] at ld
  refine L1_i (fun u h => ∃ m : Nat, m ≤ (roundL hv wants c n).length ∧ u = .int .i64 (m : Nat) ∧ (∀ d ∈ (roundL hv wants c n).take m, SatR hv c d) ∧ Keep (fun _ => False) h33 h) (fun u _ => match u with | .int _ t => (roundL hv wants c n).length - t.toNat | _ => 0) ⟨0, Nat.zero_le _, rfl, fun d hd => absurd hd (by simp), Keep.refl⟩ ?_
  rintro _ h35 ⟨m, hm, rfl, hsm, k35⟩ k34 hk34
  rw [ld, Mpu_some, ltNn, Mpu_some, Mcd_bool]
  by_cases hml : m < (roundL hv wants c n).length
  rotate_left
  · rw [if_neg (by simpa using hml)]
    rw [List.take_of_length_le (by omega)] at hsm
    exact hk30 _ _ _ ⟨hsm, k33.trans k35⟩
  rw [if_pos (by simpa using hml)]
  have hg : (roundL hv wants c n)[m]? = some (roundL hv wants c n)[m] := List.getElem?_eq_getElem hml
  have hmem : (roundL hv wants c n)[m] ∈ roundL hv wants c n := List.getElem_mem hml
  have htk : (roundL hv wants c n).take (m + 1) = (roundL hv wants c n).take m ++ [(roundL hv wants c n)[m]] := by rw [List.take_add_one, hg]; rfl
  generalize (roundL hv wants c n)[m] = d at *
  obtain ⟨hdwf, hdok⟩ := hdw d hmem
  refine J2_i (fun _ _ h => SatR hv c d ∧ Keep (fun _ => False) h35 h) (fun k36 hk36 => ?_) ?_
  rotate_left
  · rintro _ _ h37 ⟨hs', k37⟩
    rw [add_one' (by omega), Mpu_some]
    refine hk34 _ _ ⟨m + 1, by omega, rfl, fun y hy => ?_, k35.trans k37⟩ (by show (roundL hv wants c n).length - (m + 1) < (roundL hv wants c n).length - m; omega)
    rw [htk] at hy
    rcases List.mem_append.1 hy with hy | hy
    · exact hsm y hy
    · rw [List.mem_singleton.1 hy]; exact hs'
  refine J2_i (fun t14 _ h => t14 = .bool (c.any fun k => fitR d (gM hv k)) ∧ Keep (fun _ => False) h35 h) (fun k38 hk38 => ?_) ?_
  rotate_left
  · rintro _ t15 h39 ⟨rfl, k39⟩
    rw [unV_not, Mpu_some, Mcd_bool]
    cases hany : c.any (fun k => fitR d (gM hv k))
    · rw [if_pos (by rfl)]
      refine bad _ ((k33.trans k35).trans k39) fun hr => ?_
      have hs' : SatR hv c d := (satR_iff hok hlt hdok).2 (hr.sat d (by
        cases n with
        | zero => exact .inl hmem
        | succ p =>
          have e : c.getD p 0 = c[p] := by rw [List.getD_eq_getElem?_getD, List.getElem?_eq_getElem (by omega)]; rfl
          refine .inr ⟨c[p], List.getElem_mem (by omega), ?_⟩
          rw [← e]; exact hmem))
      rw [(satb d).1 hs'] at hany; cases hany
    · rw [if_neg (by decide)]
      exact hk36 _ _ _ ⟨(satb d).2 hany, k39⟩
  refine L2_i (fun t14 u h => (∃ j : Nat, j ≤ c.length ∧ u = .int .i64 (j : Nat) ∧ t14 = .bool ((c.take j).any fun k => fitR d (gM hv k))) ∧ Keep (fun _ => False) h35 h) (fun _ u _ => match u with | .int _ t => c.length - t.toNat | _ => 0) ⟨⟨0, Nat.zero_le _, rfl, rfl⟩, Keep.refl⟩ ?_
  rintro _ _ h41 ⟨⟨j, hj, rfl, rfl⟩, k41⟩ k40 hk40
  rw [Mpu_some, ltNn, Mpu_some, Mcd_bool]
  by_cases hjl : j < c.length
  rotate_left
  · rw [if_neg (by simpa using hjl)]
    rw [List.take_of_length_le (by omega)]
    exact hk38 _ _ _ ⟨rfl, k41⟩
  rw [if_pos (by simpa using hjl)]
  have htj : c.take (j + 1) = c.take j ++ [c[j]] := by rw [List.take_add_one, List.getElem?_eq_getElem hjl]; rfl
  obtain ⟨y, by', oy, bd, od, hiyd, hld, hmy, hpy, hiy, hpty, hjl'⟩ := cat ((k33.trans k35).trans k41) hjl
  have hst : (c.take (j + 1)).any (fun k => fitR d (gM hv k)) = ((c.take j).any (fun k => fitR d (gM hv k)) || fitR d y.1) := by rw [htj, List.any_append, ← hmy]; simp
  have fin : ∀ h', Keep (fun _ => False) h41 h' → k40 (.bool ((c.take (j + 1)).any fun k => fitR d (gM hv k))) (.int .i64 ((j + 1 : Nat) : Int)) h' := fun h' k' =>
    hk40 _ _ _ ⟨⟨j + 1, by omega, rfl, rfl⟩, k41.trans k'⟩ (by show c.length - (j + 1) < c.length - j; omega)
  rw [hst] at fin
  obtain ⟨pd, odd, hixd, hptd, _⟩ := ((hsd.keep k35 fun _ _ => id).keep k41 fun _ _ => id).at (i := m) (x := depC d) (by rw [List.getElem?_map, hg]; rfl)
  cases hc' : (c.take j).any (fun k => fitR d (gM hv k))
  · rw [hc'] at fin
    refine J1_yes rfl ?_
    rw [hixd .i64, Mpu_some, hptd.agg (depC_len hdwf), Mpu_some, hiyd .i64, Mpu_some, hld, Mpu_some, hiy .i64, Mpu_some, hpty.agg (pkgC_len hpy.wf), Mpu_some]
    refine call_i (c_rfits hdwf hpy.wf) ?_
    rintro _ h43 ⟨rfl, k43⟩
    show Mpu (pickV (.bool false) (.bool true) (.bool (fitR d y.1))) _
    rw [pickV_bool, if_neg (by decide), Mpu_some, add_one' (by omega), Mpu_some]
    have := fin _ k43
    simpa using this
  · rw [hc'] at fin
    simp only [J1_eq, Mif_bool, Bool.true_eq_false, if_false, pickV_bool, if_true, Mpu_some]
    rw [add_one' (by omega), Mpu_some]
    exact fin _ Keep.refl
end Go.Proofs.YtanhgihfgmbojaaGreatDoor

