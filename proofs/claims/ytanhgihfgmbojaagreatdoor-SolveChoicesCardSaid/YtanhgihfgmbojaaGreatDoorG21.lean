/- JOINED: V186 -/
import Derived.Test.YtanhgihfgmbojaaGreatDoorG20
set_option linter.unusedSimpArgs false
set_option linter.unusedVariables false
/- law 20: SolveChoices, the walk. -/
namespace Go.Proofs.YtanhgihfgmbojaaGreatDoor
open Go.X Go.X.Diff Go.MapKept
set_option maxRecDepth 100000
set_option linter.unusedSimpArgs false
set_option linter.unusedVariables false

theorem boolNeq {a b : Bool} : binV .bool .neq (.bool a) (.bool b) = some (.bool (a != b)) := by cases a <;> cases b <;> rfl
theorem NeedL.sub {hv : List Man} {wants : List Dep} {c n : List Nat} (h : NeedL hv wants c n) : ∀ k ∈ n, k ∈ c := fun k hk => ((h.2 k).1 hk).mem
theorem sub_len : ∀ {l m : List Nat}, l.Nodup → (∀ x ∈ l, x ∈ m) → l.length ≤ m.length
  | [], m, _, _ => Nat.zero_le _
  | x :: l, m, hn, hs => by
    obtain ⟨h1, h2⟩ := List.nodup_cons.1 hn
    have hx := hs x (by simp)
    have h3 := sub_len (l := l) (m := m.erase x) h2 fun y hy => (List.mem_erase_of_ne (fun e => h1 (by rw [← e]; exact hy))).2 (hs y (by simp [hy]))
    rw [List.length_erase_of_mem hx] at h3
    have := List.length_pos_of_mem hx
    rw [List.length_cons]; omega
theorem NeedL.le {hv : List Man} {wants : List Dep} {c n : List Nat} (h : NeedL hv wants c n) (hR : RightC hv wants c) : n.length ≤ c.length := by
  have hn : n.Nodup := (List.pairwise_map.1 h.1.nodup).imp fun hne e => hne (by rw [e])
  exact sub_len hn fun k hk => h.sub k hk
set_option maxHeartbeats 8000000 in
theorem c_SolveChoices {P : Nat → Prop} {H : Heap} {mv : List MV} {wants : List Dep} {vh vw vc : Value} {b : Int} {z : List Int} (hp : Prb0 P H mv wants vh vw) (hP : ∀ b, P b → b < H.size) (hc : SlE 1 P H vc (ints z)) (hT : VerT H) :
    HCalls prg f_syngraphlaw20_SolveChoices [.agg (prbC vh vw b).toArray, vc] H fun u H' => u = .bool true ∧ Keep (fun _ => False) H H' := by
  apply sh_syngraphlaw20_SolveChoices_calls
  unfold sh_syngraphlaw20_SolveChoices
  simp only [Cells_agg, Mnew_some]
  generalize hH1 : H.push (.cells (prbC vh vw b).toArray T_solve_Problem (0, 0)) = H1
  have k1 : Keep (fun _ => False) H H1 := by rw [← hH1]; exact Keep.push
  have a1 : At H1 H.size (prbC vh vw b) := by rw [← hH1]; exact At.push
  have s1 : H1.size = H.size + 1 := by rw [← hH1]; simp
  have hO : ∀ {h : Heap}, Keep (fun _ => False) H h → OpsT h := fun k => (hT.keep k fun _ h => h.elim).ops
  have aw : ∀ h, Keep (fun _ => False) H h → Mcall prg f_syngraphlaw20_awake [] h fun t h' => t = .bool true ∧ Keep (fun _ => False) H h' := fun h k => by
    refine call_i (c_awake20 (hT.keep k fun _ h => h.elim)) ?_
    rintro _ h' ⟨rfl, k'⟩
    exact ⟨rfl, k.trans k'⟩
  have lz := hc.len
  rw [ints_len] at lz
  rw [a1.ldN (n := 3) rfl, Mpu_some]
  refine call_i (c_small20 (hp.keep k1 fun _ _ => id)) ?_
  rintro _ h2 ⟨rfl, k2⟩
  have k02 := k1.trans k2
  rw [unV_not, Mpu_some]
  cases hsm : smallP (hvOf mv) wants b
  · simp only [J1_eq, Mif_bool, Bool.not_false, Bool.not_true, Bool.true_eq_false, Bool.false_eq_true, if_false, pickV_bool, if_true, Mpu_some, Mcd_bool]
    exact aw _ k02
  obtain ⟨hq, hl, hwl, hb3⟩ := hp.to hsm
  have hvl : (hvOf mv).length = mv.length := by simp
  have hPk : ∀ {h : Heap}, Keep (fun _ => False) H h → ∀ b, P b → b < h.size := fun k b hb => Nat.lt_of_lt_of_le (hP b hb) k.1
  have hqk : ∀ {h : Heap}, Keep (fun _ => False) H h → Prb P h mv wants vh vw := fun k => hq.keep k fun _ _ => id
  have hck : ∀ {h : Heap}, Keep (fun _ => False) H h → SlE 1 P h vc (ints z) := fun k => hc.keep k fun _ _ => id
  have egt : binV .no .gtr (.int .i64 (z.length : Nat)) (.int .i64 15) = some (.bool (decide (z.length > 15))) := gtNn (m := 15)
  refine J1_yes rfl ?_
  rw [lz, Mpu_some, egt, Mpu_some]
  show Mpu (pickV (.bool false) (.bool true) (.bool (decide (z.length > 15)))) _
  rw [pickV_bool, if_neg (by decide), Mpu_some, Mcd_bool]
  by_cases hz15 : z.length > 15
  · rw [if_pos (by simpa using hz15)]
    exact aw _ k02
  rw [if_neg (by simpa using hz15), (a1.keep k2 id).ldN (n := 3) rfl, Mpu_some]
  refine call_i (c_right20 (hqk k02) (by omega) (by omega) (hO k02)) ?_
  rintro _ h6 ⟨rfl, k6⟩
  have k06 := k02.trans k6
  have k16 := k2.trans k6
  have g16 := k16.1
  refine makeMap_i ?_
  generalize hH7 : h6.push (.map #[] 0) = h7
  have k7 : Keep (fun _ => False) h6 h7 := by rw [← hH7]; exact Keep.push
  have hset7 : SetAt h7 h6.size [] := ⟨[], by rw [← hH7]; exact MapAt.new, (fun x hx => absurd hx (by simp)), fun n => by simp⟩
  have k07 := k06.trans k7
  have b7 := (a1.keep k16 id).keep k7 id
  have g6 : H1.size ≤ h6.size := g16
  have qH : h6.size ≠ H.size := by omega
  have g06 := k06.1
  have lh := hq.h.len
  rw [List.length_map] at lh
  refine J2_i (fun t5 _ h => t5 = .bool (probOk (hvOf mv) wants b && okL (hvOf mv).length z) ∧ SetAt h h6.size z ∧ Keep (fun b => b = h6.size) h7 h) (fun k8 hk8 => ?_) ?_
  · rw [Mpu_some]
    refine L2_i (fun t5 u h => (∃ i : Nat, i ≤ z.length ∧ u = .int .i64 (i : Nat) ∧ t5 = .bool (probOk (hvOf mv) wants b && okL (hvOf mv).length (z.take i)) ∧ SetAt h h6.size (z.take i)) ∧ Keep (fun b => b = h6.size) h7 h) (fun _ u _ => match u with | .int _ t => z.length - t.toNat | _ => 0)
      ⟨⟨0, Nat.zero_le _, rfl, by rw [show okL (hvOf mv).length (z.take 0) = true from decide_eq_true ⟨fun k hk => absurd hk (by simp), List.nodup_nil⟩, Bool.and_true], hset7⟩, Keep.refl⟩ ?_
    rintro _ _ h ⟨⟨i, hi, rfl, rfl, hset⟩, kh⟩ k10 hk10
    rw [ltNn, Mpu_some, Mcd_bool]
    by_cases hlt : i < z.length
    rotate_left
    · rw [if_neg (by simpa using hlt)]
      rw [List.take_of_length_le (by omega)] at hset ⊢
      exact hk8 _ _ _ ⟨rfl, hset, kh⟩
    rw [if_pos (by simpa using hlt)]
    have k0h : Keep (fun _ => False) H h := k07.fresh kh fun b hb => by omega
    have hg : z[i]? = some z[i] := List.getElem?_eq_getElem hlt
    have htk : z.take (i + 1) = z.take i ++ [z[i]] := by rw [List.take_add_one, hg]; rfl
    generalize z[i] = n at *
    have hst : (probOk (hvOf mv) wants b && okL (hvOf mv).length (z.take (i + 1))) = (((probOk (hvOf mv) wants b && okL (hvOf mv).length (z.take i)) && decide (0 ≤ n)) && decide (n < ((hvOf mv).length : Int)) && !decide (n ∈ z.take i)) := by
      rw [htk, okL_snoc]
      cases probOk (hvOf mv) wants b <;> simp
    obtain ⟨p, o, hix, hpt, _⟩ := (hck k0h).at (i := i) (x := [.int .i64 n]) (ints_get hg)
    have d0 : ld1 h (Ptr H.size 0) = some vh := (b7.keep kh (fun e => qH e.symm)).ld (i := 0) rfl
    have ege : binV .no .geq (.int .i64 n) (.int .i64 0) = some (.bool (decide (0 ≤ n))) := by rw [binV_int]; rfl
    have elt : binV .no .lss (.int .i64 n) (.int .i64 (mv.length : Nat)) = some (.bool (decide (n < ((hvOf mv).length : Int)))) := by rw [binV_int, hvl]; rfl
    have fin : Msu prg (Instr.mapUpdate T_map_int_bool (.map (some h6.size)) (.int .i64 n) (.bool true)) h fun t_ h19 => Mpu (binV .no .add (.int .i64 (i : Nat)) (.int .i64 1)) fun t51 => k10 (.bool (probOk (hvOf mv) wants b && okL (hvOf mv).length (z.take (i + 1)))) t51 h19 := by
      refine set_add hset fun H' hs' kk => ?_
      rw [add_one' (by omega), Mpu_some]
      exact hk10 _ _ _ ⟨⟨i + 1, by omega, rfl, rfl, by rw [htk]; exact hs'⟩, kh.trans kk⟩ (by show z.length - (i + 1) < z.length - i; omega)
    rw [hst] at fin
    rw [hix .i64, Mpu_some, hpt.cell0 rfl, Mpu_some]
    cases w1 : (probOk (hvOf mv) wants b && okL (hvOf mv).length (z.take i))
    · rw [w1] at fin
      simp only [J1_eq, Mif_bool, Bool.false_eq_true, if_false, pickV_bool, Mpu_some]
      exact fin
    rw [w1] at fin
    refine J1_yes rfl ?_
    rw [ege, Mpu_some]
    show Mpu (pickV (.bool true) (.bool (decide (0 ≤ n))) (.bool false)) _
    rw [pickV_bool, if_pos rfl, Mpu_some]
    cases w2 : decide (0 ≤ n)
    · rw [w2] at fin
      simp only [J1_eq, Mif_bool, Bool.false_eq_true, if_false, pickV_bool, Mpu_some]
      exact fin
    rw [w2] at fin
    refine J1_yes rfl ?_
    rw [fld_ptr, Mpu_some, Nat.add_zero, d0, Mpu_some, lh, Mpu_some, elt, Mpu_some]
    show Mpu (pickV (.bool true) (.bool (decide (n < ((hvOf mv).length : Int)))) (.bool false)) _
    rw [pickV_bool, if_pos rfl, Mpu_some]
    cases w3 : decide (n < ((hvOf mv).length : Int))
    · rw [w3] at fin
      simp only [J1_eq, Mif_bool, Bool.false_eq_true, if_false, pickV_bool, Mpu_some]
      exact fin
    rw [w3] at fin
    refine J1_yes rfl ?_
    refine set_look hset ?_
    rw [unV_not, Mpu_some]
    show Mpu (pickV (.bool true) (.bool (!decide (n ∈ z.take i))) (.bool false)) _
    rw [pickV_bool, if_pos rfl, Mpu_some]
    simpa using fin
  rintro _ _ h9 ⟨rfl, hset9, k9⟩
  have k09 : Keep (fun _ => False) H h9 := k07.fresh k9 fun b hb => by omega
  have b9 := b7.keep k9 (fun e => qH e.symm)
  have g9 := k9.1
  have g7 : h6.size < h7.size := by rw [← hH7]; simp
  -- what the document says
  have hdoc : ∀ (K : Value → Heap → Prop), (∀ h24, Keep (fun _ => False) h9 h24 → K (.bool (probOk (hvOf mv) wants b && rightB (hvOf mv) wants z)) h24) →
      J1 (fun k20 => Mif (.bool (probOk (hvOf mv) wants b && okL (hvOf mv).length z)) true (
        Mpu (fld 0 (Ptr H.size 0)) fun t54 => Mpu (ld1 h9 t54) fun t55 => Mpu (fld 1 (Ptr H.size 0)) fun t57 => Mpu (ld1 h9 t57) fun t58 =>
        Mcall prg f_syngraphlaw20_packages [t55] h9 fun t56 h21 => Mre [(ld1 h21 t57, t58)] (
        Mcall prg f_syngraphlaw20_deps [t58] h21 fun t59 h22 => Mcall prg f_syngraphref20_Right [t56, t59, vc] h22 fun t61 h23 => k20 t61 h23)) (k20 undef h9)) fun t61_2 h24 =>
      Mpu (pickV (.bool (probOk (hvOf mv) wants b && okL (hvOf mv).length z)) t61_2 (.bool false)) fun t62 => K t62 h24 := fun K hK => by
    cases w : (probOk (hvOf mv) wants b && okL (hvOf mv).length z)
    · refine J1_no (by decide) ?_
      rw [pickV_bool, if_neg (by decide), Mpu_some]
      have : (probOk (hvOf mv) wants b && rightB (hvOf mv) wants z) = false := by
        cases h1 : probOk (hvOf mv) wants b
        · rfl
        · rw [h1, Bool.true_and] at w
          cases h2 : rightB (hvOf mv) wants z
          · rfl
          · rw [okL_right h2] at w; cases w
      rw [this] at hK
      exact hK _ Keep.refl
    obtain ⟨w1, w2⟩ := Bool.and_eq_true_iff.1 w
    obtain ⟨c, rfl, hcl⟩ := okL_zs w2
    obtain ⟨hokH, hww⟩ := OkH.of hq w1
    refine J1_yes rfl ?_
    rw [fld_ptr, Mpu_some, Nat.add_zero, b9.ld (i := 0) rfl, Mpu_some, fld_ptr, Mpu_some, Nat.zero_add, b9.ld (i := 1) rfl, Mpu_some]
    refine call_i (c_packages (hqk k09).h (hqk k09).m hq.sm (by omega)) ?_
    rintro vpk h21 ⟨⟨pk, hpk, hpe⟩, k21⟩
    simp only [Mre_cons, Mre_nil]
    refine ⟨(b9.keep k21 id).ld (i := 1) rfl, ?_⟩
    have k021 := k09.trans k21
    refine call_i (c_lawDeps (hqk k021).w hq.ww (by omega)) ?_
    rintro t59 h22 ⟨hb59, k22⟩
    have k022 := k021.trans k22
    rw [zs_len] at hz15
    refine call_i (c_rRight hokH hpe (hpk.keep k22 fun _ _ => id) hb59.sl hww (by omega) (hck k022) hcl (by omega)) ?_
    rintro _ h23 ⟨rfl, k23⟩
    rw [pickV_bool, if_pos rfl, Mpu_some]
    rw [w1, Bool.true_and] at hK
    exact hK _ ((k21.trans k22).trans k23)
  refine hdoc _ fun h24 k24 => ?_
  have k024 := k09.trans k24
  have b24 := b9.keep k24 id
  have hset24 := hset9.keep k24 id
  rw [b24.ldN (n := 3) rfl, Mpu_some]
  refine call_i (c_Right (hqk k024) (hPk k024) (hck k024) (hPk k024) (by omega) (by omega) (by omega) (hO k024)) ?_
  rintro _ h25 ⟨rfl, k25⟩
  have k025 := k024.trans k25
  have b25 := b24.keep k25 id
  have hset25 := hset24.keep k25 id
  rw [boolNeq, Mpu_some, Mcd_bool, if_neg (by simp), b25.ldN (n := 3) rfl, Mpu_some]
  have i0 : binV .no .eql (.int .i64 0) (.int .i64 0) = some (.bool true) := rfl
  cases hwant : (probOk (hvOf mv) wants b && rightB (hvOf mv) wants z)
  · refine call_i (c_NeededNo (hqk k025) (hPk k025) (hck k025) (hPk k025) hwant hl (by omega) (by omega) (hO k025)) ?_
    rintro _ h26 ⟨rfl, k26⟩
    have k026 := k025.trans k26
    have ln : lenV (.slice none 0 0) = some (.int .i64 0) := rfl
    rw [unV_not, Mpu_some, Mcd_bool, if_pos (by rfl), ln, Mpu_some, i0, Mpu_some]
    refine J1_yes rfl ?_
    refine call_i (c_awake20 (hT.keep k026 fun _ h => h.elim)) ?_
    rintro _ h' ⟨rfl, k'⟩
    show Mpu (pickV (.bool true) (.bool true) (.bool false)) _
    rw [pickV_bool, if_pos rfl, Mpu_some]
    exact ⟨rfl, k026.trans k'⟩
  obtain ⟨w1, w2⟩ := Bool.and_eq_true_iff.1 hwant
  refine call_i (c_Needed (hqk k025) (hPk k025) (hck k025) (hPk k025) w1 hl (by omega) (by omega) (hO k025)) ?_
  rintro vn h26 ⟨hN, k26⟩
  rcases hN with ⟨hf, _⟩ | ⟨c, n, rfl, hR, hNL, hn12, hsn⟩
  · rw [w2] at hf; cases hf
  have k026 := k025.trans k26
  have b26 := b25.keep k26 id
  have hset26 := hset25.keep k26 id
  have hRn := hNL.right hR
  have hle := hNL.le hR
  have ln := hsn.len
  rw [ints_len, zs_len] at ln
  rw [zs_len] at hz15
  rw [unV_not, Mpu_some, Mcd_bool, if_neg (by decide), b26.ldN (n := 3) rfl, Mpu_some]
  refine call_i (c_Right (hqk k026) (hPk k026) hsn (fun b hb => hb.2) (by omega) (by omega) (by rw [zs_len]; omega) (hO k026)) ?_
  rintro _ h30 ⟨rfl, k30⟩
  have k030 := k026.trans k30
  have k2630 := k30
  rw [w1, rightB_nat.2 hRn, Bool.and_self, unV_not, Mpu_some]
  refine J1_yes rfl ?_
  have egt2 : binV .no .gtr (.int .i64 (n.length : Nat)) (.int .i64 (c.length : Nat)) = some (.bool false) := by rw [gtNn, decide_eq_false (by omega)]
  rw [ln, Mpu_some, Mpu_some, show (zs c).length = c.length from zs_len, egt2, Mpu_some]
  show Mpu (pickV (.bool false) (.bool true) (.bool false)) _
  rw [pickV_bool, if_neg (by decide), Mpu_some, Mcd_bool, if_neg (by decide)]
  refine J1_i (fun _ h => Keep (fun _ => False) h30 h) (fun k33 hk33 => ?_) ?_
  · rw [Mpu_some]
    refine L1_i (fun u h => ∃ i : Nat, i ≤ n.length ∧ u = .int .i64 (i : Nat) ∧ Keep (fun _ => False) h30 h) (fun u _ => match u with | .int _ t => n.length - t.toNat | _ => 0) ⟨0, Nat.zero_le _, rfl, Keep.refl⟩ ?_
    rintro _ h ⟨i, hi, rfl, kh⟩ k35 hk35
    have k0h := k030.trans kh
    rw [ltNn, Mpu_some, Mcd_bool]
    by_cases hlt : i < n.length
    rotate_left
    · rw [if_neg (by simpa using hlt)]
      exact hk33 _ _ kh
    rw [if_pos (by simpa using hlt)]
    have hg : n[i]? = some n[i] := List.getElem?_eq_getElem hlt
    have hmn : n[i] ∈ n := List.getElem_mem hlt
    generalize n[i] = m at *
    have hsh := (hsn.keep k30 fun _ _ => id).keep kh fun _ _ => id
    obtain ⟨p, o, hix, hpt, _⟩ := hsh.at (i := i) (x := [.int .i64 (m : Int)]) (ints_get (zs_get hg))
    rw [hix .i64, Mpu_some, hpt.cell0 rfl, Mpu_some]
    refine set_look ((hset26.keep k30 id).keep kh id) ?_
    rw [decide_eq_true (zs_mem' (hNL.sub m hmn)), unV_not, Mpu_some]
    have fin : k35 (.int .i64 ((i + 1 : Nat) : Int)) h := hk35 _ _ ⟨i + 1, by omega, rfl, kh⟩ (by show n.length - (i + 1) < n.length - i; omega)
    have egt3 : binV .no .gtr (.int .i64 (i : Nat)) (.int .i64 0) = some (.bool (decide (i > 0))) := gtNn (m := 0)
    refine J1_yes rfl ?_
    rw [egt3, Mpu_some]
    cases i with
    | zero =>
      simp only [Nat.lt_irrefl, gt_iff_lt, decide_false, J1_eq, Mif_bool, Mif_undef, Bool.not_true, Bool.false_eq_true, if_false, pickV_bool, if_true, Mpu_some, Mcd_bool]
      rw [add_one' (by omega), Mpu_some]
      exact fin
    | succ i =>
      have hgp : n[i]? = some n[i] := List.getElem?_eq_getElem (by omega)
      have hmp : n[i] ∈ n := List.getElem_mem (by omega)
      generalize n[i] = mp at *
      have hlt' := hNL.1.next hgp hg
      have bh := (b26.keep k30 id).keep kh id
      obtain ⟨y1, _, hg1, _, hm1, b1', o1', hix1, hpt1, _⟩ := (hqk k0h).at (hRn.nm.1 mp hmp)
      obtain ⟨y2, _, hg2, _, hm2, b2', o2', hix2, hpt2, _⟩ := (hqk k0h).at (hRn.nm.1 m hmn)
      obtain ⟨p', o', hix', hpt', _⟩ := hsh.at (i := i) (x := [.int .i64 (mp : Int)]) (ints_get (zs_get hgp))
      have hge : binV .no .geq (str y1.1.name) (str y2.1.name) = some (.bool false) := by
        rw [str_geq, ← hg1, ← hg2, less_of hlt']; rfl
      have lh' : ld1 h (Ptr H.size 0) = some vh := bh.ld (i := 0) rfl
      rw [decide_eq_true (show i + 1 > 0 by omega)]
      refine J1_yes rfl ?_
      simp only [fld_ptr, Nat.zero_add, Nat.add_zero, Mpu_some, lh', subN1 (show i + 1 ≤ 9223372036854775807 by omega), hix' .i64, hpt'.cell0 rfl, hix1 .i64, hix2 .i64, mv_name hpt1, mv_name hpt2, hge, J1_eq, Mif_bool, Bool.not_true, Bool.false_eq_true, if_false, pickV_bool, if_true, Mcd_bool]
      rw [add_one' (by omega), Mpu_some]
      exact fin
  rintro _ h34 k34
  have k034 := k030.trans k34
  have b34 := (b26.keep k30 id).keep k34 id
  rw [b34.ldN (n := 3) rfl, Mpu_some]
  have hsn34 := (hsn.keep k30 fun _ _ => id).keep k34 fun _ _ => id
  refine call_i (c_Needed (hqk k034) (hPk k034) hsn34 (fun b hb => by have := k30.1; have := k34.1; omega) w1 hl (by omega) (by rw [zs_len]; omega) (hO k034)) ?_
  rintro vm h44 ⟨hM, k44⟩
  have k044 := k034.trans k44
  rcases hM with ⟨hf, _⟩ | ⟨c', m, hcc, hR', hML, _, hsm'⟩
  · rw [rightB_nat.2 hRn] at hf; cases hf
  obtain rfl := cast_inj hcc
  obtain rfl := hNL.again hML
  have lm := hsm'.len
  rw [ints_len, zs_len] at lm
  have eL : binV .no .eql (.int .i64 (m.length : Nat)) (.int .i64 (m.length : Nat)) = some (.bool true) := by rw [eqNn, decide_eq_true rfl]
  rw [lm, Mpu_some, Mpu_some, eL, Mpu_some]
  refine J1_yes rfl ?_
  refine call_i (c_awake20 (hT.keep k044 fun _ h => h.elim)) ?_
  rintro _ h' ⟨rfl, k'⟩
  show Mpu (pickV (.bool true) (.bool true) (.bool false)) _
  rw [pickV_bool, if_pos rfl, Mpu_some]
  exact ⟨rfl, k044.trans k'⟩
end Go.Proofs.YtanhgihfgmbojaaGreatDoor

