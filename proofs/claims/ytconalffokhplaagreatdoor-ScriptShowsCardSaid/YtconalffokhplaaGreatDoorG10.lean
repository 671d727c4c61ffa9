/- JOINED: V157 -/
import Derived.Test.YtconalffokhplaaGreatDoorGY
import Derived.Test.YtconalffokhplaaGreatDoorGZ
set_option linter.unusedSimpArgs false
set_option linter.unusedVariables false
/- ScriptShows. -/
namespace Go.Proofs.YtconalffokhplaaGreatDoor
open Go.X Go.X.Diff Came
set_option maxRecDepth 100000
set_option linter.unusedSimpArgs false
set_option linter.unusedVariables false

theorem b_Step02 {k a : Int} : buildV prg T_world_Step [(0, .int .i64 k), (2, .int .i64 a)] = some (.agg ((lineC { zeroL with kind := k, at' := a } nilS nilS).take 11).toArray) := by
  obtain ⟨z, h, rfl⟩ := k_Step
  rw [buildV_of h]; rfl
theorem b_Step012 {k n a : Int} : buildV prg T_world_Step [(0, .int .i64 k), (1, .int .i64 n), (2, .int .i64 a)] = some (.agg ((lineC { zeroL with kind := k, n := n, at' := a } nilS nilS).take 11).toArray) := by
  obtain ⟨z, h, rfl⟩ := k_Step
  rw [buildV_of h]; rfl
theorem b_Step0125 {k n a : Int} {d : List UInt8} {vd : Value} (hd : vd.oneCell' = true) : buildV prg T_world_Step [(0, .int .i64 k), (1, .int .i64 n), (2, .int .i64 a), (5, vd)] = some (.agg ((lineC { zeroL with kind := k, n := n, at' := a, data := d } vd nilS).take 11).toArray) := by
  obtain ⟨z, h, rfl⟩ := k_Step
  rw [buildV_of h]
  cases vd <;> first | rfl | cases hd
theorem b_Step06 {k : Int} {d : List Int} {vl : Value} (hd : vl.oneCell' = true) : buildV prg T_world_Step [(0, .int .i64 k), (6, vl)] = some (.agg ((lineC { zeroL with kind := k, lost := d } nilS vl).take 11).toArray) := by
  obtain ⟨z, h, rfl⟩ := k_Step
  rw [buildV_of h]
  cases vl <;> first | rfl | cases hd
theorem b_LineM {m : LineA} {vd vl : Value} (hw : m.want = zeroW) (ha : m.ask = 0) : buildV prg T_script_Line [(0, .agg ((lineC m vd vl).take 11).toArray)] = some (.agg (lineC m vd vl).toArray) := by
  obtain ⟨k, n, a, nm, w, d, l, q⟩ := m
  simp only at hw ha
  subst hw ha
  rw [buildV_of k_Line]; rfl
theorem bsl4 {a b c d : Int} : bslV prg T_int 4 [(0, .int .i64 a), (1, .int .i64 b), (2, .int .i64 c), (3, .int .i64 d)] = some ([a, b, c, d].map (Value.int .i64)).toArray := by kernel_rfl
theorem bsl2 {a b : Int} : bslV prg T_int 2 [(0, .int .i64 a), (1, .int .i64 b)] = some ([a, b].map (Value.int .i64)).toArray := by kernel_rfl
theorem show_len {l : LineA} {s : List UInt8} (h : showL l = some s) (ht : ∀ f ∈ FORMS, total (wordsF f l) ≤ 1000000) : s.length ≤ 1048576 := by
  obtain ⟨f, hf, hb⟩ := List.exists_of_findSome?_eq_some h
  have hs : s = joinF [32] (wordsF f l) := by
    unfold showBy at hb
    split at hb
    · split at hb
      · cases hb; rfl
      · cases hb
    · cases hb
  have h1 := join_len [32] (wordsF f l)
  have h2 := ht f hf
  have h3 := forms_parts f hf
  have h4 := List.length_filterMap_le (wordP l) f.parts
  have h5 : (wordsF f l).length = (f.parts.filterMap (wordP l)).length + 1 := rfl
  rw [hs]
  simp only [List.length_singleton] at h1
  omega
theorem same_no {P Q : Nat → Prop} {h : Heap} {x y : LineA} {vd vl wd wl : Value} {k : Value → Heap → Prop} (hx : LineW P h x vd vl) (hy : LineW Q h y wd wl) (hl : y.lost.length ≤ 1048576) (hne : x ≠ y) (hk : ∀ h', Keep (fun _ => False) h h' → k (.bool false) h') :
    Mcall prg f_syngraphlaw30_same [.agg (lineC x vd vl).toArray, .agg (lineC y wd wl).toArray] h k := by
  refine call_i (c_same30 hx hy hl) ?_
  rintro _ h' ⟨rfl, k'⟩
  have : eqL x y = false := by
    cases he : eqL x y
    · rfl
    · exact absurd (eqL_iff.1 he) hne
  rw [this]
  exact hk h' k'
theorem lt_int {x y : Int} : binV .no .lss (.int .i64 x) (.int .i64 y) = some (.bool (decide (x < y))) := by rw [binV_int]; rfl
theorem gt_int {x y : Int} : binV .no .gtr (.int .i64 x) (.int .i64 y) = some (.bool (decide (x > y))) := by rw [binV_int]; rfl
theorem ge_int {x y : Int} : binV .no .geq (.int .i64 x) (.int .i64 y) = some (.bool (decide (x ≥ y))) := by rw [binV_int]; rfl
theorem le_int {x y : Int} : binV .no .leq (.int .i64 x) (.int .i64 y) = some (.bool (decide (x ≤ y))) := by rw [binV_int]; rfl
theorem line_get2 {l : LineA} {vd vl : Value} (h : l.want.wf) : (lineC l vd vl)[4]? = some (str l.want.op) ∧ (lineC l vd vl)[8]? = some (str l.want.ver.pre) := by
  obtain ⟨x, y, z, e⟩ := Ver.cases3 h.ver
  obtain ⟨k, n, a, nm, ⟨op, ⟨p, pre⟩⟩, d, lo, q⟩ := l
  simp only at e
  subst e
  exact ⟨rfl, rfl⟩
/-- one loop over some kinds, of which none is the line's -/
theorem kinds_i {P : Nat → Prop} {H h0 : Heap} {ks : List Int} {n : Nat} (hn : ks.length = n) (hn0 : n ≤ 100) {q : Nat} (aq : At h0 q (ks.map (Value.int .i64))) {body : Value → (Value → Heap → Prop) → Heap → Prop} {k41 : Value → Value → Heap → Prop}
    (k0 : Keep (fun _ => False) H h0)
    (hb : ∀ kd ∈ ks, ∀ (h : Heap) (k : Value → Heap → Prop), Keep (fun _ => False) h0 h → (∀ h', Keep (fun _ => False) h0 h' → k (.bool false) h') → body (.int .i64 kd) k h)
    (hk : ∀ t u h, t = .bool false → Keep (fun _ => False) H h → k41 t u h) :
    L2 (fun k44 => fun t10_2 t124_2 h45 =>
          Mpu (binV .no .lss t124_2 (.int .i64 (n : Nat))) fun t125 =>
          Mcd t125 (
            Mpu (ixS 1 (.slice (some ⟨q, 0, none⟩) n n) t124_2) fun t126 =>
            Mpu (ld1 h45 t126) fun t127 =>
            J1 (fun k46 => Mif t10_2 false (
                body t127 k46 h45) (
                k46 undef h45)) fun t134_2 h48 =>
            Mpu (pickV t10_2 (.bool true) t134_2) fun t135 =>
            Mpu (binV .no .add t124_2 (.int .i64 1)) fun t136 =>
            k44 t135 t136 h48) (
            k41 t10_2 t124_2 h45)) (.bool false) ((.int .i64 0)) h0 := by
  refine L2_i (fun t u h => ∃ i : Nat, i ≤ n ∧ u = .int .i64 (i : Nat) ∧ t = .bool false ∧ Keep (fun _ => False) h0 h) (fun _ u _ => match u with | .int _ t => n - t.toNat | _ => 0) ⟨0, Nat.zero_le _, rfl, rfl, Keep.refl⟩ ?_
  rintro _ _ h ⟨i, hi, rfl, rfl, kh⟩ kk hkk
  rw [ltN0, Mpu_some, Mcd_bool]
  by_cases hlt : i < n
  · rw [if_pos (by simpa using hlt)]
    have hg : ks[i]? = some (ks[i]'(by omega)) := List.getElem?_eq_getElem _
    have hm : ks[i]'(by omega) ∈ ks := List.getElem_mem _
    generalize (ks[i]'(by omega)) = kd at *
    have hld : ld1 h (Ptr q i) = some (.int .i64 kd) := (aq.keep kh id).ld (by rw [List.getElem?_map, hg]; rfl)
    rw [ixS_at hlt, Mpu_some, Nat.zero_add, hld, Mpu_some]
    refine J1_i (fun u h' => u = .bool false ∧ Keep (fun _ => False) h0 h') (fun k46 hk46 => ?_) ?_
    · rw [Mif_bool, if_pos rfl]
      exact hb kd hm h k46 kh fun h' k' => hk46 _ _ ⟨rfl, k'⟩
    · rintro _ h' ⟨rfl, k'⟩
      rw [pickV_bool, if_neg (by decide), Mpu_some, add_one' (by omega), Mpu_some]
      exact hkk _ _ _ ⟨i + 1, by omega, rfl, rfl, k'⟩ (by show n - (i + 1) < n - i; omega)
  · rw [if_neg (by simpa using hlt)]
    exact hk _ _ _ rfl (k0.trans kh)

set_option maxHeartbeats 4000000 in
theorem c_ScriptShows {P : Nat → Prop} {H : Heap} {l : LineA} {vd vl : Value} (hv : LineI P H l vd vl) (hP : ∀ b, P b → b < H.size) (hT : VerT H) :
    HCalls prg f_syngraphlaw30_ScriptShows [.agg (lineC l vd vl).toArray] H fun u H' => u = .bool true ∧ Keep (fun _ => False) H H' := by
  apply sh_syngraphlaw30_ScriptShows_calls
  unfold sh_syngraphlaw30_ScriptShows
  simp only [Cells_agg, Mnew_some, fld_ptr, Nat.zero_add, Nat.add_zero, Nat.reduceAdd, Mpu_some]
  generalize hH1 : H.push (.cells (lineC l vd vl).toArray T_script_Line (0, 0)) = H1
  have k1 : Keep (fun _ => False) H H1 := by rw [← hH1]; exact Keep.push
  have a1 : At H1 H.size (lineC l vd vl) := by rw [← hH1]; exact At.push
  have s1 : H1.size = H.size + 1 := by rw [← hH1]; simp
  obtain ⟨g9, g10, g11⟩ := line_get (vd := vd) (vl := vl) hv.w
  obtain ⟨g4, g8⟩ := line_get2 (vd := vd) (vl := vl) hv.w
  have d3 : ld1 H1 (Ptr H.size 3) = some (str l.name) := a1.ld rfl
  have d9 : ld1 H1 (Ptr H.size 9) = some vd := a1.ld g9
  have d10 : ld1 H1 (Ptr H.size 10) = some vl := a1.ld g10
  have d4 : ld1 H1 (Ptr H.size 4) = some (str l.want.op) := a1.ld g4
  have d8 : ld1 H1 (Ptr H.size 8) = some (str l.want.ver.pre) := a1.ld g8
  have ld := hv.d.len
  have ll := hv.s.len
  rw [rows1_len, List.length_map] at ll
  have e1 : binV .no .gtr (.int .i64 (l.name.length : Nat)) (.int .i64 100) = some (.bool (decide (l.name.length > 100))) := gt_dec
  have e2 : binV .no .gtr (.int .i64 (l.data.length : Nat)) (.int .i64 200) = some (.bool (decide (l.data.length > 200))) := gt_dec
  have e3 : binV .no .gtr (.int .i64 (l.lost.length : Nat)) (.int .i64 40) = some (.bool (decide (l.lost.length > 40))) := gt_dec
  have e4 : binV .no .gtr (.int .i64 (l.want.op.length : Nat)) (.int .i64 10) = some (.bool (decide (l.want.op.length > 10))) := gt_dec
  have e5 : binV .no .gtr (.int .i64 (l.want.ver.pre.length : Nat)) (.int .i64 40) = some (.bool (decide (l.want.ver.pre.length > 40))) := gt_dec
  rw [d3, Mpu_some, lenT_str, Mpu_some, e1, Mpu_some]
  cases c1 : decide (l.name.length > 100)
  rotate_left
  · simp only [J1_eq, Mif_bool, Mif_undef, pickV_bool, if_true, if_false, Bool.false_eq_true, Bool.true_eq_false, Mpu_some, Mcd_bool]
    exact awake30_end hT k1
  refine J1_eq.2 ?_
  rw [Mif_bool, if_pos rfl, d9, Mpu_some, ld, Mpu_some, e2, Mpu_some]
  cases c2 : decide (l.data.length > 200)
  rotate_left
  · simp only [J1_eq, Mif_bool, Mif_undef, pickV_bool, if_true, if_false, Bool.false_eq_true, Bool.true_eq_false, Mpu_some, Mcd_bool]
    exact awake30_end hT k1
  rw [pickV_bool, if_neg (by decide), Mpu_some]
  refine J1_eq.2 ?_
  rw [Mif_bool, if_pos rfl, d10, Mpu_some, ll, Mpu_some, e3, Mpu_some]
  cases c3 : decide (l.lost.length > 40)
  rotate_left
  · simp only [J1_eq, Mif_bool, Mif_undef, pickV_bool, if_true, if_false, Bool.false_eq_true, Bool.true_eq_false, Mpu_some, Mcd_bool]
    exact awake30_end hT k1
  rw [pickV_bool, if_neg (by decide), Mpu_some]
  refine J1_eq.2 ?_
  rw [Mif_bool, if_pos rfl, d4, Mpu_some, lenT_str, Mpu_some, e4, Mpu_some]
  cases c4 : decide (l.want.op.length > 10)
  rotate_left
  · simp only [J1_eq, Mif_bool, Mif_undef, pickV_bool, if_true, if_false, Bool.false_eq_true, Bool.true_eq_false, Mpu_some, Mcd_bool]
    exact awake30_end hT k1
  rw [pickV_bool, if_neg (by decide), Mpu_some]
  refine J1_eq.2 ?_
  rw [Mif_bool, if_pos rfl, d8, Mpu_some, lenT_str, Mpu_some, e5, Mpu_some]
  cases c5 : decide (l.want.ver.pre.length > 40)
  rotate_left
  · simp only [J1_eq, Mif_bool, Mif_undef, pickV_bool, if_true, if_false, Bool.false_eq_true, Bool.true_eq_false, Mpu_some, Mcd_bool]
    exact awake30_end hT k1
  rw [pickV_bool, if_neg (by decide), Mpu_some, Mcd_bool, if_neg (by decide)]
  have b1 := of_decide_eq_false c1
  have b2 := of_decide_eq_false c2
  have b3 := of_decide_eq_false c3
  have tot := words_total hv.n hv.a hv.o (by omega) (by omega) (by omega) hv.w
  have hv1 : LineV P H1 l vd vl := ⟨hv.d.keep k1 fun _ _ => id, hv.s.keep k1 fun _ _ => id, hv.w, hv.n, hv.a, hv.o, by omega, by omega, by omega⟩
  have len := lineC_len (vd := vd) (vl := vl) hv.w
  rw [a1.ldN len, Mpu_some]
  refine call_i (c_scShow hv1 (hT.keep k1 fun _ h => h.elim) tot) ?_
  rintro _ h11 ⟨rfl, k11⟩
  have k011 := k1.trans k11
  have a11 := a1.keep k11 id
  have g011 := k011.1
  cases hs : showL l with
  | some s =>
    have hp := show_some hs
    have e0 : binV .no .eql (.int .i64 0) (.int .i64 0) = some (.bool true) := rfl
    simp only [ex20, ex21, Mpu_some, e0, Mcd_bool, if_true]
    refine call_i (c_scParse (show_len hs tot) (hT.keep k011 fun _ h => h.elim)) ?_
    rintro _ h12 ⟨⟨u0, rfl, hout⟩, k12⟩
    obtain ⟨pd, pl, rfl, od, ol, ow⟩ := hout
    rw [hp] at od ol ow ⊢
    simp only [Option.getD_some, Option.isSome_some, if_true] at od ol ow ⊢
    simp only [ex20, ex21, Mpu_some, z_Line, Mnew_some]
    generalize hH13 : h12.push (.cells (lineC zeroL nilS nilS).toArray T_script_Line (0, 0)) = h13
    have k13 : Keep (fun _ => False) h12 h13 := by rw [← hH13]; exact Keep.push
    have c13 : At h13 h12.size (lineC zeroL nilS nilS) := by rw [← hH13]; exact At.push
    obtain ⟨h14, st14, c14, k14⟩ := c13.st (n := 12) (ds := lineC l pd pl) (lineC_len zeroW_wf) (lineC_len ow) (lineC_one od.one ol.oneC)
    have g12 := k12.1
    have g13 := k13.1
    have k1114 : Keep (fun _ => False) h11 h14 := (k12.trans k13).fresh k14 fun b hb => by omega
    have k014 := k011.trans k1114
    have od14 := (od.keep k13 fun _ _ => id).keep k14 fun b hb e => by omega
    have ol14 := (ol.keep k13 fun _ _ => id).keep k14 fun b hb e => by omega
    rw [st14, Mwr_some]
    simp only [e0, Mpu_some, J1_eq, Mif_bool, if_true]
    rw [c14.ldN (lineC_len ow), Mpu_some, (a11.keep k1114 id).ldN len, Mpu_some]
    refine call_i (c_same30 ⟨od14, ol14, ow⟩ ⟨hv.d.keep k014 fun _ _ => id, hv.s.keep k014 fun _ _ => id, hv.w⟩ (by omega)) ?_
    rintro _ h16 ⟨rfl, k16⟩
    rw [show eqL l l = true from eqL_iff.2 rfl]
    simp only [pickV_bool, if_true, Mpu_some, Mif_bool]
    refine call_i (c_awake30 (hT.keep (k014.trans k16) fun _ h => h.elim)) ?_
    rintro _ h18 ⟨rfl, k18⟩
    exact ⟨rfl, (k014.trans k16).trans k18⟩
  | none =>
    have e60 : binV .no .eql (.int .i64 60) (.int .i64 0) = some (.bool false) := rfl
    have e66 : binV .no .eql (.int .i64 60) (.int .i64 60) = some (.bool true) := rfl
    have s00 : (Value.string ⟨#[]⟩) = str [] := rfl
    have es : ∀ q, binV q .eql (str []) (str []) = some (.bool true) := fun q => by rw [str_eql]; rfl
    simp only [ex20, ex21, Mpu_some]
    rw [e60, Mpu_some, Mcd_bool, if_neg (by decide)]
    have hst := step_ld a11 hv.w
    rw [hst, Mpu_some]
    simp only [z_Step, Mnew_some]
    generalize hH21 : h11.push (.cells ((lineC zeroL nilS nilS).take 11).toArray T_world_Step (0, 0)) = h21
    have k21 : Keep (fun _ => False) h11 h21 := by rw [← hH21]; exact Keep.push
    have p21 : At h21 h11.size ((lineC zeroL nilS nilS).take 11) := by rw [← hH21]; exact At.push
    have zl : ((lineC zeroL nilS nilS).take 11).length = 11 := rfl
    obtain ⟨h22, st22, p22, k22⟩ := p21.st (n := 11) (ds := (lineC l vd vl).take 11) zl (step_len hv.w) (step_one hv.d.one hv.s.oneC)
    have g21 := k21.1
    have k1122 : Keep (fun _ => False) h11 h22 := k21.fresh k22 fun b hb => by omega
    have k022 := k011.trans k1122
    have a22 := a11.keep k1122 id
    have fin : ∀ h, Keep (fun _ => False) H h → Mcall prg f_syngraphlaw30_awake [] h fun u H' => u = Value.bool true ∧ Keep (fun _ => False) H H' := fun h kh => awake30_end hT kh
    simp only [st22, Mwr_some, fld_ptr, Nat.zero_add, Nat.add_zero, Nat.reduceAdd, Mpu_some]
    have dn : ∀ h, Keep (fun _ => False) h22 h → ld1 h (Ptr h11.size 1) = some (.int .i64 l.n) := fun h kh => (p22.keep kh id).ld rfl
    have da : ∀ h, Keep (fun _ => False) h22 h → ld1 h (Ptr h11.size 2) = some (.int .i64 l.at') := fun h kh => (p22.keep kh id).ld rfl
    have dd : ∀ h, Keep (fun _ => False) h22 h → ld1 h (Ptr h11.size 9) = some vd := fun h kh => (p22.keep kh id).ld (step_get hv.w).1
    have dl : ∀ h, Keep (fun _ => False) h22 h → ld1 h (Ptr h11.size 10) = some vl := fun h kh => (p22.keep kh id).ld (step_get hv.w).2
    have dq : ∀ h, Keep (fun _ => False) h22 h → ld1 h (Ptr H.size 11) = some (.int .i64 l.ask) := fun h kh => (a22.keep kh id).ld g11
    have dL : ∀ h, Keep (fun _ => False) h22 h → ldN 12 h (Ptr H.size 0) = some (.agg (lineC l vd vl).toArray) := fun h kh => (a22.keep kh id).ldN len
    have hW : ∀ h, Keep (fun _ => False) h22 h → LineW P h l vd vl := fun h kh => ⟨hv.d.keep (k022.trans kh) fun _ _ => id, hv.s.keep (k022.trans kh) fun _ _ => id, hv.w⟩
    refine J1_i (fun _ h => (∀ x ∈ [l.n, l.at'] ++ l.lost, 0 ≤ x ∧ x ≤ 999999999) ∧ Keep (fun _ => False) h22 h) (fun k hk => ?_) ?_
    · rw [dn _ Keep.refl, Mpu_some, da _ Keep.refl, Mpu_some, bsl2, Mnews_some]
      generalize hH25 : h22.push (.cells ([l.n, l.at'].map (Value.int .i64)).toArray T_int (0, 0)) = h25
      have k25 : Keep (fun _ => False) h22 h25 := by rw [← hH25]; exact Keep.push
      have n25 : h25[h22.size]? = some (.cells ([l.n, l.at'].map (Value.int .i64)).toArray T_int (0, 0)) := by rw [← hH25]; exact push_new
      have s25 : h25.size = h22.size + 1 := by rw [← hH25]; simp
      have b25 : BufE 1 (h22.size ≤ ·) h25 (.slice (some ⟨h22.size, 0, none⟩) 2 2) (ints [l.n, l.at']) :=
        BufE.fresh (cs := [l.n, l.at'].map (Value.int .i64)) ⟨h22.size, rfl, Nat.le_refl _, n25⟩ (Nat.le_refl _) (by simp) (fun _ _ => by simp [thaw]) (by simp [rows1]) rows1_el (rows1_one fun v hv => by simp at hv; rcases hv with rfl | rfl <;> rfl)
      rw [dl _ k25, Mpu_some]
      refine b25.app (hv.s.keep (k022.trans k25) fun _ _ => id) (by omega) (by rw [rows1_len, rows1_len, List.length_map, List.length_map]; simp; omega) (by show h22.size ≤ h25.size; omega) fun u h26 hu k26 => ?_
      have k2226 : Keep (fun _ => False) h22 h26 := k25.fresh k26 fun b hb => hb
      have eapp : ints [l.n, l.at'] ++ ints l.lost = ints ([l.n, l.at'] ++ l.lost) := by simp [rows1]
      rw [eapp] at hu
      generalize hL : [l.n, l.at'] ++ l.lost = L at *
      have hLl : L.length ≤ 42 := by rw [← hL]; simp; omega
      have sl := hu.sl
      have lenL := sl.len
      rw [rows1_len, List.length_map] at lenL
      rw [lenL, Mpu_some]
      refine L1_i (fun u h => ∃ i : Nat, i ≤ L.length ∧ u = .int .i64 (i : Nat) ∧ (∀ x ∈ L.take i, 0 ≤ x ∧ x ≤ 999999999) ∧ Keep (fun _ => False) h26 h) (fun u _ => match u with | .int _ t => L.length - t.toNat | _ => 0) ⟨0, Nat.zero_le _, rfl, by simp, Keep.refl⟩ ?_
      rintro _ h ⟨i, hi, rfl, hok, kh⟩ kk hkk
      rw [ltN0, Mpu_some, Mcd_bool]
      by_cases hlt : i < L.length
      · rw [if_pos (by simpa using hlt)]
        have hg : L[i]? = some L[i] := List.getElem?_eq_getElem hlt
        have htk : L.take (i + 1) = L.take i ++ [L[i]] := by rw [List.take_add_one, hg]; rfl
        generalize L[i] = n at *
        obtain ⟨b, o, hix, hpt, _⟩ := (sl.keep kh fun _ _ => id).at (i := i) (x := [.int .i64 n]) (rows1_get (by rw [List.getElem?_map, hg]; rfl))
        rw [hix .i64, Mpu_some, hpt.cell0 rfl, Mpu_some, lt_int, Mpu_some]
        have bad : Mpu (binV .no .eql (.int .i64 60) (.int .i64 60)) fun t98 =>
              J1 (fun k31 => Mif t98 true (
                  Mpu (binV .no .eql (str []) (.string ⟨#[]⟩)) fun t101 =>
                  k31 t101 h) (
                  k31 undef h)) fun t101_2 h32 =>
              Mpu (pickV t98 t101_2 (.bool false)) fun t102 =>
              J1 (fun k33 => Mif t102 true (
                  Mcall prg f_syngraphlaw30_awake [] h32 fun t104 h34 =>
                  k33 t104 h34) (
                  k33 undef h32)) fun t104_2 h35 =>
              Mpu (pickV t102 t104_2 (.bool false)) fun t105 =>
              (t105 = Value.bool true ∧ Keep (fun _ => False) H h35) := by
          simp only [e66, s00, es, J1_eq, Mif_bool, pickV_bool, if_true, Mpu_some]
          exact fin h ((k022.trans k2226).trans kh)
        cases r1 : decide (n < 0)
        · rw [J1_eq, Mif_bool, if_pos rfl, gt_int, Mpu_some]
          cases r2 : decide (n > 999999999)
          · show Mpu (pickV _ _ _) _
            rw [pickV_bool, if_neg (by decide), Mpu_some, Mcd_bool, if_neg (by decide), add_one' (by omega), Mpu_some]
            refine hkk _ _ ⟨i + 1, by omega, rfl, fun x hx => ?_, kh⟩ (by show L.length - (i + 1) < L.length - i; omega)
            rw [htk] at hx
            have q1 := of_decide_eq_false r1
            have q2 := of_decide_eq_false r2
            rcases List.mem_append.1 hx with hx | hx
            · exact hok x hx
            · simp at hx; subst hx; omega
          · show Mpu (pickV _ _ _) _
            rw [pickV_bool, if_neg (by decide), Mpu_some, Mcd_bool, if_pos rfl]
            exact bad
        · rw [J1_eq, Mif_bool, if_neg (by decide)]
          show Mpu (pickV _ _ _) _
          rw [pickV_bool, if_pos rfl, Mpu_some, Mcd_bool, if_pos rfl]
          exact bad
      · rw [if_neg (by simpa using hlt)]
        rw [List.take_of_length_le (by omega)] at hok
        exact hk _ _ ⟨hok, k2226.trans kh⟩
    rintro _ h24 ⟨hok, k24⟩
    have sm : SmallL l := ⟨hok _ (by simp), hok _ (by simp), fun x hx => hok x (by simp [hx]), by omega, by omega, by omega, hv.w⟩
    have hno : ¬ plainL l := fun hp => by
      obtain ⟨s, h⟩ := plain_shows sm hp
      rw [hs] at h; cases h
    rw [dq _ k24, Mpu_some, ge_int, Mpu_some]
    refine J1_i (fun u h => (u = .bool (decide (l.ask ≤ 4)) ∨ ¬ l.ask ≥ 1) ∧ h24 = h) (fun k hk => ?_) ?_
    · cases q1 : decide (l.ask ≥ 1)
      · rw [Mif_bool, if_neg (by decide)]
        exact hk _ _ ⟨.inr (of_decide_eq_false q1), rfl⟩
      · rw [Mif_bool, if_pos rfl, Mpu_some, le_int, Mpu_some]
        exact hk _ _ ⟨.inl rfl, rfl⟩
    rintro u _ ⟨hu, rfl⟩
    have hpk : pickV (.bool (decide (l.ask ≥ 1))) u (.bool false) = some (.bool (decide (1 ≤ l.ask ∧ l.ask ≤ 4))) := by
      rw [pickV_bool]
      by_cases h : l.ask ≥ 1
      · rcases hu with rfl | hn
        · rw [if_pos (by simpa using h)]
          congr 2
          rw [decide_eq_decide]; omega
        · exact absurd h hn
      · rw [if_neg (by simpa using h), decide_eq_false (by omega)]
    rw [hpk, Mpu_some]
    refine J1_i (fun u h => ((1 ≤ l.ask ∧ l.ask ≤ 4) → u = .bool false) ∧ Keep (fun _ => False) h22 h) (fun k hk => ?_) ?_
    · by_cases h : 1 ≤ l.ask ∧ l.ask ≤ 4
      · rw [Mif_bool, if_pos (by simpa using h), dL _ k24, Mpu_some, dq _ k24, Mpu_some, b_LineA, Mpu_some]
        refine same_no (hW _ k24) (Q := fun _ => False) ⟨Sl.nil, SlE.nil, zeroW_wf⟩ (by simp [zeroL]) (fun e => hno (.inl ⟨h.1, h.2, e⟩)) fun h' k' => ?_
        exact hk _ _ ⟨fun _ => rfl, k24.trans k'⟩
      · rw [Mif_bool, if_neg (by simpa using h)]
        exact hk _ _ ⟨fun hh => absurd hh h, k24⟩
    rintro u h40 ⟨hu2, k40⟩
    have hpk2 : pickV (.bool (decide (1 ≤ l.ask ∧ l.ask ≤ 4))) u (.bool false) = some (.bool false) := by
      rw [pickV_bool]
      by_cases h : 1 ≤ l.ask ∧ l.ask ≤ 4
      · rw [if_pos (by simpa using h), hu2 h]
      · rw [if_neg (by simpa using h)]
    rw [hpk2, Mpu_some]
    -- kinds alone
    refine J2_i (fun t _ h' => t = .bool false ∧ Keep (fun _ => False) h22 h') (fun k hk => ?_) ?_
    · rw [bsl4, Mnews_some]
      generalize hH43 : h40.push (.cells ([(2 : Int), 3, 14, 15].map (Value.int .i64)).toArray T_int (0, 0)) = h43
      have k43 : Keep (fun _ => False) h40 h43 := by rw [← hH43]; exact Keep.push
      have a43 : At h43 h40.size ([(2 : Int), 3, 14, 15].map (Value.int .i64)) := by rw [← hH43]; exact At.push
      have lv : lenV (.slice (some ⟨h40.size, 0, none⟩) 4 4) = some (.int .i64 ((4 : Nat) : Int)) := rfl
      rw [lv, Mpu_some]
      refine kinds_i (P := P) rfl (by decide) a43 (k40.trans k43) (body := fun t127 k46 h45 => Mpu (ldN 12 h45 (Ptr H.size 0)) fun t130 => Mpu (buildV prg T_world_Step [(0, t127)]) fun t132 => Mpu (buildV prg T_script_Line [(0, t132)]) fun t133 => Mcall prg f_syngraphlaw30_same [t130, t133] h45 fun t134 h47 => k46 t134 h47) (fun kd hkd h kf kh hkf => ?_) (fun t u h ht kh => hk _ _ _ ⟨ht, kh⟩)
      have kk := (k40.trans k43).trans kh
      rw [dL _ kk, Mpu_some, b_Step1, Mpu_some, b_LineM rfl rfl, Mpu_some]
      refine same_no (hW _ kk) (Q := fun _ => False) ⟨Sl.nil, SlE.nil, zeroW_wf⟩ (by simp [zeroL]) (fun e => hno (.inr (.inl ⟨kd, by simpa using hkd, e⟩))) fun h' k' => hkf _ (kh.trans k')
    rintro _ _ h42 ⟨rfl, k42⟩
    refine J2_i (fun t _ h' => t = .bool false ∧ Keep (fun _ => False) h22 h') (fun k hk => ?_) ?_
    · rw [bsl4, Mnews_some]
      generalize hH51 : h42.push (.cells ([(4 : Int), 5, 6, 11].map (Value.int .i64)).toArray T_int (0, 0)) = h51
      have k51 : Keep (fun _ => False) h42 h51 := by rw [← hH51]; exact Keep.push
      have a51 : At h51 h42.size ([(4 : Int), 5, 6, 11].map (Value.int .i64)) := by rw [← hH51]; exact At.push
      have lv : lenV (.slice (some ⟨h42.size, 0, none⟩) 4 4) = some (.int .i64 ((4 : Nat) : Int)) := rfl
      rw [lv, Mpu_some]
      refine kinds_i (P := P) rfl (by decide) a51 (k42.trans k51) (body := fun t127 k46 h45 => Mpu (ldN 12 h45 (Ptr H.size 0)) fun t130 => Mpu (ld1 h45 (Ptr h11.size 1)) fun t148 => Mpu (buildV prg T_world_Step [(0, t127), (1, t148)]) fun t132 => Mpu (buildV prg T_script_Line [(0, t132)]) fun t133 => Mcall prg f_syngraphlaw30_same [t130, t133] h45 fun t134 h47 => k46 t134 h47) (fun kd hkd h kf kh hkf => ?_) (fun t u h ht kh => hk _ _ _ ⟨ht, kh⟩)
      have kk := (k42.trans k51).trans kh
      rw [dL _ kk, Mpu_some, dn _ kk, Mpu_some, b_Step2, Mpu_some, b_LineM rfl rfl, Mpu_some]
      refine same_no (hW _ kk) (Q := fun _ => False) ⟨Sl.nil, SlE.nil, zeroW_wf⟩ (by simp [zeroL]) (fun e => hno (.inr (.inr (.inl ⟨kd, by simpa using hkd, e⟩)))) fun h' k' => hkf _ (kh.trans k')
    rintro _ _ h50 ⟨rfl, k50⟩
    refine J2_i (fun t _ h' => t = .bool false ∧ Keep (fun _ => False) h22 h') (fun k hk => ?_) ?_
    · rw [bsl2, Mnews_some]
      generalize hH59 : h50.push (.cells ([(1 : Int), 9].map (Value.int .i64)).toArray T_int (0, 0)) = h59
      have k59 : Keep (fun _ => False) h50 h59 := by rw [← hH59]; exact Keep.push
      have a59 : At h59 h50.size ([(1 : Int), 9].map (Value.int .i64)) := by rw [← hH59]; exact At.push
      have lv : lenV (.slice (some ⟨h50.size, 0, none⟩) 2 2) = some (.int .i64 ((2 : Nat) : Int)) := rfl
      rw [lv, Mpu_some]
      refine kinds_i (P := P) rfl (by decide) a59 (k50.trans k59) (body := fun t127 k46 h45 => Mpu (ldN 12 h45 (Ptr H.size 0)) fun t130 => Mpu (ld1 h45 (Ptr h11.size 2)) fun t148 => Mpu (buildV prg T_world_Step [(0, t127), (2, t148)]) fun t132 => Mpu (buildV prg T_script_Line [(0, t132)]) fun t133 => Mcall prg f_syngraphlaw30_same [t130, t133] h45 fun t134 h47 => k46 t134 h47) (fun kd hkd h kf kh hkf => ?_) (fun t u h ht kh => hk _ _ _ ⟨ht, kh⟩)
      have kk := (k50.trans k59).trans kh
      rw [dL _ kk, Mpu_some, da _ kk, Mpu_some, b_Step02, Mpu_some, b_LineM rfl rfl, Mpu_some]
      refine same_no (hW _ kk) (Q := fun _ => False) ⟨Sl.nil, SlE.nil, zeroW_wf⟩ (by simp [zeroL]) (fun e => hno (.inr (.inr (.inr (.inl ⟨kd, by simpa using hkd, e⟩))))) fun h' k' => hkf _ (kh.trans k')
    rintro _ _ h58 ⟨rfl, k58⟩
    refine J1_i (fun t h' => t = .bool false ∧ Keep (fun _ => False) h22 h') (fun k hk => ?_) ?_
    · rw [Mif_bool, if_pos rfl, dL _ k58, Mpu_some, dn _ k58, Mpu_some, da _ k58, Mpu_some, b_Step012, Mpu_some, b_LineM rfl rfl, Mpu_some]
      refine same_no (hW _ k58) (Q := fun _ => False) ⟨Sl.nil, SlE.nil, zeroW_wf⟩ (by simp [zeroL]) (fun e => hno (.inr (.inr (.inr (.inr (.inl e)))))) fun h' k' => hk _ _ ⟨rfl, k58.trans k'⟩
    rintro _ h67 ⟨rfl, k67⟩
    rw [pickV_bool, if_neg (by decide), Mpu_some]
    refine J1_i (fun t h' => t = .bool false ∧ Keep (fun _ => False) h22 h') (fun k hk => ?_) ?_
    · rw [Mif_bool, if_pos rfl, dL _ k67, Mpu_some, dn _ k67, Mpu_some, da _ k67, Mpu_some, dd _ k67, Mpu_some, b_Step0125 (d := l.data) hv.d.one, Mpu_some, b_LineM rfl rfl, Mpu_some]
      refine same_no (hW _ k67) (Q := P) ⟨(hW _ k67).d, SlE.nil, zeroW_wf⟩ (by simp [zeroL]) (fun e => hno (.inr (.inr (.inr (.inr (.inr (.inl e))))))) fun h' k' => hk _ _ ⟨rfl, k67.trans k'⟩
    rintro _ h70 ⟨rfl, k70⟩
    rw [pickV_bool, if_neg (by decide), Mpu_some]
    refine J1_i (fun t h' => t = .bool false ∧ Keep (fun _ => False) h22 h') (fun k hk => ?_) ?_
    · rw [Mif_bool, if_pos rfl, dL _ k70, Mpu_some, dl _ k70, Mpu_some, b_Step06 (d := l.lost) hv.s.oneC, Mpu_some, b_LineM rfl rfl, Mpu_some]
      refine same_no (hW _ k70) (Q := P) ⟨Sl.nil, (hW _ k70).s, zeroW_wf⟩ (by show l.lost.length ≤ 1048576; omega) (fun e => hno (.inr (.inr (.inr (.inr (.inr (.inr e))))))) fun h' k' => hk _ _ ⟨rfl, k70.trans k'⟩
    rintro _ h73 ⟨rfl, k73⟩
    simp only [e66, s00, es, J1_eq, Mif_bool, pickV_bool, if_true, Mpu_some, unV_not, Bool.false_eq_true, if_false, Bool.not_false]
    exact fin h73 (k022.trans k73)
end Go.Proofs.YtconalffokhplaaGreatDoor

