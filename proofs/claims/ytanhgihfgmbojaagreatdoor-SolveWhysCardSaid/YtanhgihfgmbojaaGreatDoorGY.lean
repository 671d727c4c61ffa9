/- JOINED: V167 V168 -/
import Derived.Test.YtanhgihfgmbojaaGreatDoorGX
import Derived.Test.YtanhgihfgmbojaaGreatDoorGO
import Derived.Test.YtanhgihfgmbojaaGreatDoorG7
set_option linter.unusedSimpArgs false
set_option linter.unusedVariables false
/- solve: newest, sorted; Clone, Concat. -/
namespace Go.Proofs.YtanhgihfgmbojaaGreatDoor
open Go.X Go.X.Diff
set_option maxRecDepth 100000
set_option linter.unusedSimpArgs false
set_option linter.unusedVariables false

theorem insR_map {α β : Type} {lt : α → α → Bool} {lt' : β → β → Bool} {g : α → β} (h : ∀ a b, lt' (g a) (g b) = lt a b) {x : α} : ∀ {l : List α}, insR lt' (g x) (l.map g) = (insR lt x l).map g
  | [] => rfl
  | y :: l => by
    rw [List.map_cons, insR, insR, h]
    split
    · rw [insR_map h, List.map_cons]
    · rw [List.map_cons, List.map_cons]
theorem isort_map {α β : Type} {lt : α → α → Bool} {lt' : β → β → Bool} {g : α → β} (h : ∀ a b, lt' (g a) (g b) = lt a b) {l : List α} : isort lt' (l.map g) = (isort lt l).map g := by
  unfold isort
  rw [List.map_reverse]
  congr 1
  induction l using snoc_ind with
  | h0 => rfl
  | h1 l x ih => rw [List.map_append, List.map_cons, List.map_nil, isortR_snoc, isortR_snoc, ih, insR_map h]
theorem isort_zs {lt : Nat → Nat → Bool} {l : List Nat} : isort (fun a b => lt a.toNat b.toNat) (zs l) = zs (isort lt l) := isort_map (g := fun (k : Nat) => (k : Int)) fun a b => rfl

theorem c_CloneInt {P : Nat → Prop} {H : Heap} {v : Value} {xs : List Int} (hv : SlE 1 P H v (ints xs)) (hl : xs.length ≤ 1099511627776) : HCalls prg f_slices_Clone_S_int_int [v] H fun u H' => BufE 1 (fun b => H.size ≤ b ∧ b < H'.size) H' u (ints xs) ∧ Keep (fun _ => False) H H' := by
  apply sh_slices_Clone_S_int_int_calls
  unfold sh_slices_Clone_S_int_int
  obtain ⟨⟨a, c, rfl, hc, hx⟩, h2, h3⟩ := hv
  cases a with
  | none =>
    have hnil : ints xs = [] := by
      rcases hx with h | ⟨b, o, h, _⟩
      · exact h
      · cases h
    have e : binV .slc .eql (.slice none (ints xs).length c) (.slice none 0 0) = some (.bool true) := rfl
    rw [e, Mpu_some, Mcd_bool, if_pos rfl, hnil]
    exact ⟨BufE.nil, Keep.refl⟩
  | some a =>
    have e : binV .slc .eql (.slice (some a) (ints xs).length c) (.slice none 0 0) = some (.bool false) := rfl
    have b0 : bslV prg T_int 0 [] = some #[] := by kernel_rfl
    rw [e, Mpu_some, Mcd_bool, if_neg (by decide), b0, Mnews_some]
    generalize hH1 : H.push (.cells #[] T_int (0, 0)) = H1
    have k1 : Keep (fun _ => False) H H1 := by rw [← hH1]; exact Keep.push
    have n1 : H1[H.size]? = some (.cells #[] T_int (0, 0)) := by rw [← hH1]; exact push_new
    have s1 : H1.size = H.size + 1 := by rw [← hH1]; simp
    have hb : BufE 1 (H.size ≤ ·) H1 (.slice (some ⟨H.size, 0, none⟩) 0 0) [] := BufE.fresh (cs := []) ⟨H.size, rfl, Nat.le_refl _, n1⟩ (Nat.le_refl _) (by simp) (fun _ _ => by simp [thaw]) (by simp) (fun x h => by cases h) (fun x h => by cases h)
    have hv1 : SlE 1 P H1 (.slice (some a) (ints xs).length c) (ints xs) := SlE.keep ⟨⟨_, c, rfl, hc, hx⟩, h2, h3⟩ k1 fun _ _ => id
    refine hb.app hv1 (by omega) (by simp; omega) (by show H.size ≤ H1.size; omega) fun u h2' hu k2 => ?_
    rw [List.nil_append] at hu
    have k02 := k1.fresh k2 fun b hb => hb
    exact ⟨BufE.re hu fun b hb hF => ⟨hF, hb⟩, k02⟩
theorem c_CloneDep {P : Nat → Prop} {H : Heap} {v : Value} {xs : List Dep} (hv : SlE 6 P H v (xs.map depC)) (hl : xs.length ≤ 1000000) : HCalls prg f_slices_Clone_S_manifest_Dep_manifest_Dep [v] H fun u H' => BufE 6 (fun b => H.size ≤ b ∧ b < H'.size) H' u (xs.map depC) ∧ Keep (fun _ => False) H H' := by
  apply sh_slices_Clone_S_manifest_Dep_manifest_Dep_calls
  unfold sh_slices_Clone_S_manifest_Dep_manifest_Dep
  obtain ⟨⟨a, c, rfl, hc, hx⟩, h2, h3⟩ := hv
  cases a with
  | none =>
    have hnil : xs.map depC = [] := by
      rcases hx with h | ⟨b, o, h, _⟩
      · exact h
      · cases h
    have e : binV .slc .eql (.slice none (xs.map depC).length c) (.slice none 0 0) = some (.bool true) := rfl
    rw [e, Mpu_some, Mcd_bool, if_pos rfl, hnil]
    exact ⟨BufE.nil, Keep.refl⟩
  | some a =>
    have e : binV .slc .eql (.slice (some a) (xs.map depC).length c) (.slice none 0 0) = some (.bool false) := rfl
    have b0 : bslV prg T_manifest_Dep 0 [] = some #[] := by kernel_rfl
    rw [e, Mpu_some, Mcd_bool, if_neg (by decide), b0, Mnews_some]
    generalize hH1 : H.push (.cells #[] T_manifest_Dep (0, 0)) = H1
    have k1 : Keep (fun _ => False) H H1 := by rw [← hH1]; exact Keep.push
    have n1 : H1[H.size]? = some (.cells #[] T_manifest_Dep (0, 0)) := by rw [← hH1]; exact push_new
    have s1 : H1.size = H.size + 1 := by rw [← hH1]; simp
    have hb : BufE 6 (H.size ≤ ·) H1 (.slice (some ⟨H.size, 0, none⟩) 0 0) [] := BufE.fresh (cs := []) ⟨H.size, rfl, Nat.le_refl _, n1⟩ (Nat.le_refl _) (by simp) (fun _ _ => by simp [thaw]) (by simp) (fun x h => by cases h) (fun x h => by cases h)
    have hv1 : SlE 6 P H1 (.slice (some a) (xs.map depC).length c) (xs.map depC) := SlE.keep ⟨⟨_, c, rfl, hc, hx⟩, h2, h3⟩ k1 fun _ _ => id
    refine hb.app hv1 (by omega) (by simp; omega) (by show H.size ≤ H1.size; omega) fun u h2' hu k2 => ?_
    rw [List.nil_append] at hu
    have k02 := k1.fresh k2 fun b hb => hb
    exact ⟨BufE.re hu fun b hb hF => ⟨hF, hb⟩, k02⟩

theorem zrow_ones {z : Array Value} {n : Nat} (h0 : 0 < z.size) (h : z.all (·.oneCell') = true) : (zrow z n).all (·.oneCell') = true := by
  rw [Array.all_eq_true_iff_forall_mem] at h ⊢
  intro c hc
  unfold zrow at hc
  obtain ⟨i, _, rfl⟩ := Array.mem_map.1 hc
  have hlt : i % z.size < z.size := Nat.mod_lt _ h0
  rw [getElem!_pos z (i % z.size) hlt]
  exact h _ (Array.getElem_mem hlt)
theorem zrow_size {z : Array Value} {n : Nat} : (zrow z n).size = n := by simp [zrow]
theorem _root_.Go.X.BufE.cut0 {n : Nat} {F : Nat → Prop} {H : Heap} {b c : Nat} {cs : Array Value} {T : TypeId} {f : Nat × Nat} {m : Nat} (hb : H[b]? = some (.cells cs T f)) (hF : F b) (hc : c * n ≤ cs.size) (ht : ∀ i k, thaw f i k = true) :
    ∃ u, slS n (.slice (some ⟨b, 0, none⟩) m c) none (some (.int .i64 0)) none = some u ∧ BufE n F H u [] := by
  have hbn : bnds m c none (some (.int .i64 0)) none = some (0, 0, c) := by simp [bnds, bnd]
  refine ⟨.slice (some ⟨b, if c = 0 then 0 else 0 + 0 * n, none⟩) 0 c, by simp [slS, hbn], (fun x h => absurd h (by simp)), (fun x h => absurd h (by simp)), .inr ⟨b, _, c, cs, T, f, rfl, hF, Nat.zero_le _, hb, ?_, ht, by simp⟩⟩
  split <;> omega
theorem c_GrowDep {H : Heap} {n : Nat} (hn : n ≤ 1000000) : HCalls prg f_slices_Grow_S_manifest_Dep_manifest_Dep [.slice none 0 0, .int .i64 (n : Nat)] H fun u H' => BufE 6 (fun b => H.size ≤ b ∧ b < H'.size) H' u [] ∧ Keep (fun _ => False) H H' := by
  apply sh_slices_Grow_S_manifest_Dep_manifest_Dep_calls
  unfold sh_slices_Grow_S_manifest_Dep_manifest_Dep
  have e1 : binV .no .lss (.int .i64 (n : Nat)) (.int .i64 0) = some (.bool false) := ltN00
  have e2 : binV .no .sub (.int .i64 0) (.int .i64 0) = some (.int .i64 0) := by rw [binV_int]; rfl
  have e3 : binV .no .sub (.int .i64 (n : Nat)) (.int .i64 0) = some (.int .i64 (n : Nat)) := by
    rw [binV_int]; simp only [intV, Int.sub_zero]; rw [wrap_id] <;> omega
  have e4 : binV .no .gtr (.int .i64 (n : Nat)) (.int .i64 0) = some (.bool (decide (n > 0))) := gtNn (m := 0)
  have c0 : capV (.slice none 0 0) = some (.int .i64 0) := rfl
  have l0 : lenV (.slice none 0 0) = some (.int .i64 0) := rfl
  have s0 : slS 6 (.slice none 0 0) none (some (.int .i64 0)) none = some (.slice none 0 0) := rfl
  refine J0_eq.2 ?_
  rw [e1, Mpu_some, Mcd_bool, if_neg (by decide)]
  refine J1_i (fun u h => BufE 6 (fun b => H.size ≤ b ∧ b < h.size) h u [] ∧ Keep (fun _ => False) H h) (fun k hk => ?_) fun u h hh => hh
  simp only [c0, l0, e2, e3, e4, Mpu_some, Mcd_bool]
  by_cases h0 : n > 0
  · rw [if_pos (by simpa using h0), s0, Mpu_some]
    refine ⟨none, 0, 0, .i64, n, _, rfl, rfl, by omega, by omega, z_Dep', zrow_ones (by simp [depC_len zeroD_wf]) (by rw [Array.all_eq_true_iff_forall_mem]; intro c hc; exact depC_one c (by simpa using hc)), fun h => by omega, fun _ => ⟨by omega, by omega, #[], rfl, fun cap rest h1 h2 h3 => ?_⟩⟩
    rw [Nat.zero_add] at h1 h3 ⊢
    have hsz : (#[] ++ zrow (depC zeroD).toArray (n * 6) ++ rest).size = cap * 6 := by
      simp only [Array.size_append, zrow_size, h3, List.size_toArray, List.length_nil]
      omega
    obtain ⟨u, hu, hbu⟩ := BufE.cut0 (n := 6) (F := fun b => H.size ≤ b ∧ b < (H.push (.cells (#[] ++ zrow (depC zeroD).toArray (n * 6) ++ rest) T_manifest_Dep (0, 0))).size) (m := n) (c := cap) (push_new (H := H) (y := .cells (#[] ++ zrow (depC zeroD).toArray (n * 6) ++ rest) T_manifest_Dep (0, 0))) ⟨Nat.le_refl _, by simp⟩ (by rw [hsz]; exact Nat.le_refl _) (fun _ _ => thaw_00)
    rw [hu, Mpu_some]
    exact hk _ _ ⟨hbu, Keep.push⟩
  · rw [if_neg (by simpa using h0)]
    exact hk _ _ ⟨BufE.nil, Keep.refl⟩
theorem c_ConcatDep {P Q : Nat → Prop} {H : Heap} {q : Nat} {v w : Value} {xs ys : List Dep} (a : At H q [v, w]) (hv : SlE 6 P H v (xs.map depC)) (hw : SlE 6 Q H w (ys.map depC)) (hl : xs.length + ys.length ≤ 1000000) :
    HCalls prg f_slices_Concat_S_manifest_Dep_manifest_Dep [.slice (some ⟨q, 0, none⟩) 2 2] H fun u H' => BufE 6 (fun b => H.size ≤ b ∧ b < H'.size) H' u ((xs ++ ys).map depC) ∧ Keep (fun _ => False) H H' := by
  apply sh_slices_Concat_S_manifest_Dep_manifest_Dep_calls
  unfold sh_slices_Concat_S_manifest_Dep_manifest_Dep
  have hlv : lenV (.slice (some ⟨q, 0, none⟩) 2 2) = some (.int .i64 ((2 : Nat) : Int)) := rfl
  have lv := hv.len
  have lw := hw.len
  rw [List.length_map] at lv lw
  have i0 : ixS 1 (.slice (some ⟨q, 0, none⟩) 2 2) (.int .i64 ((0 : Nat) : Int)) = some (Ptr q 0) := by rw [ixS_at (by omega)]
  have i1 : ixS 1 (.slice (some ⟨q, 0, none⟩) 2 2) (.int .i64 ((1 : Nat) : Int)) = some (Ptr q 1) := by rw [ixS_at (by omega)]
  have d0 : ∀ h, Keep (fun _ => False) H h → ld1 h (Ptr q 0) = some v := fun h k => (a.keep k id).ld rfl
  have d1 : ∀ h, Keep (fun _ => False) H h → ld1 h (Ptr q 1) = some w := fun h k => (a.keep k id).ld rfl
  have adN : ∀ x y : Nat, x + y ≤ 1000000 → binV .no .add (.int .i64 (x : Nat)) (.int .i64 (y : Nat)) = some (.int .i64 ((x + y : Nat) : Int)) := fun x y h => by
    rw [binV_int]; simp only [intV]; rw [wrap_id (by omega) (by omega)]; rfl
  refine J2_i (fun t _ h => t = .int .i64 ((xs.length + ys.length : Nat) : Int) ∧ H = h) (fun k hk => ?_) ?_
  · rw [hlv, Mpu_some]
    refine L2_i (fun t u h => (∃ i : Nat, i ≤ 2 ∧ u = .int .i64 (i : Nat) ∧ t = .int .i64 (((if 0 < i then xs.length else 0) + (if 1 < i then ys.length else 0) : Nat) : Int)) ∧ H = h) (fun _ u _ => match u with | .int _ t => 2 - t.toNat | _ => 0) ⟨⟨0, by omega, rfl, rfl⟩, rfl⟩ ?_
    rintro _ _ h ⟨⟨i, hi, rfl, rfl⟩, rfl⟩ kk hkk
    rw [ltNn, Mpu_some, Mcd_bool]
    have hc : i = 0 ∨ i = 1 ∨ i = 2 := by omega
    rcases hc with rfl | rfl | rfl
    · rw [if_pos (by decide)]
      refine J1_eq.2 ?_
      rw [i0, Mpu_some, d0 _ Keep.refl, Mpu_some, lv, Mpu_some]
      rw [show ((if 0 < 0 then xs.length else 0) + (if 1 < 0 then ys.length else 0) : Nat) = 0 from rfl, adN _ _ (by omega), Mpu_some, ltN00, Mpu_some]
      rw [Mcd_bool, if_neg (by decide)]
      show Mpu (binV .no .add (.int .i64 ((0 : Nat) : Int)) (.int .i64 1)) _
      rw [add_one' (by omega), Mpu_some]
      exact hkk _ _ _ ⟨⟨1, by omega, rfl, by simp⟩, rfl⟩ (by show 2 - 1 < 2 - 0; omega)
    · rw [if_pos (by decide)]
      refine J1_eq.2 ?_
      rw [i1, Mpu_some, d1 _ Keep.refl, Mpu_some, lw, Mpu_some]
      rw [show ((if 0 < 1 then xs.length else 0) + (if 1 < 1 then ys.length else 0) : Nat) = xs.length by simp, adN _ _ (by omega), Mpu_some, ltN00, Mpu_some]
      rw [Mcd_bool, if_neg (by decide)]
      show Mpu (binV .no .add (.int .i64 ((1 : Nat) : Int)) (.int .i64 1)) _
      rw [add_one' (by omega), Mpu_some]
      exact hkk _ _ _ ⟨⟨2, by omega, rfl, by simp⟩, rfl⟩ (by show 2 - 2 < 2 - 1; omega)
    · rw [if_neg (by decide)]
      exact hk _ _ _ ⟨by simp, rfl⟩
  rintro _ _ _ ⟨rfl, rfl⟩
  refine call_i (c_GrowDep (by omega)) ?_
  rintro u7 h7 ⟨hb7, k7⟩
  refine J2_i (fun t _ h => BufE 6 (fun b => H.size ≤ b ∧ b < h.size) h t ((xs ++ ys).map depC) ∧ Keep (fun _ => False) H h) (fun k hk => ?_) fun t _ h hh => hh
  rw [hlv, Mpu_some]
  refine L2_i (fun t u h => (∃ i : Nat, i ≤ 2 ∧ u = .int .i64 (i : Nat) ∧ BufE 6 (fun b => H.size ≤ b ∧ b < h.size) h t (((if 0 < i then xs else []) ++ (if 1 < i then ys else [])).map depC)) ∧ Keep (fun _ => False) H h) (fun _ u _ => match u with | .int _ t => 2 - t.toNat | _ => 0) ⟨⟨0, by omega, rfl, by simpa using hb7⟩, k7⟩ ?_
  rintro t _ h ⟨⟨i, hi, rfl, hb⟩, kh⟩ kk hkk
  rw [ltNn, Mpu_some, Mcd_bool]
  have hc : i = 0 ∨ i = 1 ∨ i = 2 := by omega
  have gh := kh.1
  rcases hc with rfl | rfl | rfl
  · rw [if_pos (by decide), i0, Mpu_some, d0 _ kh, Mpu_some]
    refine (hb.mono fun b hb => hb.1).app (hv.keep kh fun _ _ => id) (by omega) (by simp; omega) (by show H.size ≤ h.size; omega) fun t2 h2 ht k2 => ?_
    rw [add_one' (by omega), Mpu_some]
    refine hkk _ _ _ ⟨⟨1, by omega, rfl, ?_⟩, kh.fresh k2 fun b hb => hb⟩ (by show 2 - 1 < 2 - 0; omega)
    have := BufE.re ht (G := fun b => H.size ≤ b ∧ b < h2.size) fun b hb hF => ⟨hF, hb⟩
    simpa using this
  · rw [if_pos (by decide), i1, Mpu_some, d1 _ kh, Mpu_some]
    refine (hb.mono fun b hb => hb.1).app (hw.keep kh fun _ _ => id) (by omega) (by simp; omega) (by show H.size ≤ h.size; omega) fun t2 h2 ht k2 => ?_
    rw [add_one' (by omega), Mpu_some]
    refine hkk _ _ _ ⟨⟨2, by omega, rfl, ?_⟩, kh.fresh k2 fun b hb => hb⟩ (by show 2 - 2 < 2 - 1; omega)
    have := BufE.re ht (G := fun b => H.size ≤ b ∧ b < h2.size) fun b hb hF => ⟨hF, hb⟩
    simpa using this
  · rw [if_neg (by decide)]
    exact hk _ _ _ ⟨by simpa using hb, kh⟩

/- newest -/
theorem c_newest1 {P : Nat → Prop} {H : Heap} {mv : List MV} {wants : List Dep} {vh vw : Value} {b : Int} {q i j : Nat} (hp : Prb P H mv wants vh vw) (aq : At H q (prbC vh vw b)) (hi : i < (hvOf mv).length) (hj : j < (hvOf mv).length) :
    HCalls prg f_solve_Problem_newest_1 [.int .i64 (i : Nat), .int .i64 (j : Nat), Ptr q 0] H fun u H' => u = .int .i64 (cmpV (gM (hvOf mv) j).ver (gM (hvOf mv) i).ver) ∧ Keep (fun _ => False) H H' := by
  apply sh_solve_Problem_newest_1_calls
  unfold sh_solve_Problem_newest_1
  obtain ⟨x, hx, hgx, hxm, hmx, bx, ox, hix, hpx, _⟩ := hp.at hi
  obtain ⟨y, hy, hgy, hym, hmy, by', oy, hiy, hpy, _⟩ := hp.at hj
  have d0 : ld1 H (Ptr q 0) = some vh := aq.ld rfl
  simp only [fld_ptr, Nat.add_zero, Mpu_some, d0, hix .i64, hiy .i64, mv_ver hpx hmx.wf, mv_ver hpy hmy.wf]
  rw [hgx, hgy]
  exact call_i (c_Cmp hmy.wf.ver hmx.wf.ver) fun _ h hR => hR
theorem c_isNaN {H : Heap} {a : List UInt8} : HCalls prg f_cmp_isNaN_string [str a] H fun u H' => u = .bool false ∧ H = H' := by
  apply sh_cmp_isNaN_string_calls
  unfold sh_cmp_isNaN_string
  rw [str_neq, Mpu_some]
  exact ⟨by simp, rfl⟩
theorem c_CompareStr {H : Heap} {a b : List UInt8} : HCalls prg f_cmp_Compare_string [str a, str b] H fun u H' => u = .int .i64 (cmpB a b) ∧ H = H' := by
  apply sh_cmp_Compare_string_calls
  unfold sh_cmp_Compare_string
  refine call_i c_isNaN ?_
  rintro _ _ ⟨rfl, rfl⟩
  refine call_i c_isNaN ?_
  rintro _ _ ⟨rfl, rfl⟩
  have e1 : binV .no .lss (str a) (str b) = some (.bool (less a b)) := by
    rw [binV_str]; simp only [strV, toList_mk]
  have e2 : binV .no .gtr (str a) (str b) = some (.bool !(less a b || (a == b))) := by
    rw [binV_str]; simp only [strV, toList_mk]
  rw [Mcd_bool, if_neg (by decide), Mcd_bool, if_neg (by decide), e1, Mpu_some, Mcd_bool]
  cases h1 : less a b
  · rw [if_neg (by decide), e2, Mpu_some, Mcd_bool, h1, Bool.false_or]
    have hz := cmpB_ord.zero a b
    have ht := cmpB_ord.three a b
    by_cases hab : a = b
    · have : (a == b) = true := by simpa using hab
      rw [this, if_neg (by decide)]
      exact ⟨by rw [hz.2 hab], rfl⟩
    · have : (a == b) = false := by simpa using hab
      rw [this, if_pos (by rfl)]
      have hne : cmpB a b ≠ 0 := fun e => hab (hz.1 e)
      have hn1 : cmpB a b ≠ -1 := fun e => by
        unfold cmpB at e
        rw [if_neg (by rw [h1]; decide)] at e
        split at e <;> omega
      refine ⟨?_, rfl⟩
      rcases ht with h | h | h
      · exact absurd h hn1
      · exact absurd h hne
      · rw [h]
  · rw [if_pos rfl]
    exact ⟨by unfold cmpB; rw [if_pos h1], rfl⟩
theorem c_sorted1 {P : Nat → Prop} {H : Heap} {mv : List MV} {wants : List Dep} {vh vw : Value} {b : Int} {q i j : Nat} (hp : Prb P H mv wants vh vw) (aq : At H q (prbC vh vw b)) (hi : i < (hvOf mv).length) (hj : j < (hvOf mv).length) :
    HCalls prg f_solve_Problem_sorted_1 [.int .i64 (i : Nat), .int .i64 (j : Nat), Ptr q 0] H fun u H' => u = .int .i64 (cmpB (gM (hvOf mv) i).name (gM (hvOf mv) j).name) ∧ H = H' := by
  apply sh_solve_Problem_sorted_1_calls
  unfold sh_solve_Problem_sorted_1
  obtain ⟨x, hx, hgx, hxm, hmx, bx, ox, hix, hpx, _⟩ := hp.at hi
  obtain ⟨y, hy, hgy, hym, hmy, by', oy, hiy, hpy, _⟩ := hp.at hj
  have d0 : ld1 H (Ptr q 0) = some vh := aq.ld rfl
  simp only [fld_ptr, Nat.add_zero, Mpu_some, d0, hix .i64, hiy .i64, mv_name hpx, mv_name hpy]
  rw [hgx, hgy]
  exact call_i c_CompareStr fun _ h hR => hR

theorem c_sorted {P Q : Nat → Prop} {H : Heap} {mv : List MV} {wants : List Dep} {vh vw vc : Value} {b : Int} {ch : List Nat} (hp : Prb P H mv wants vh vw) (hP : ∀ b, P b → b < H.size) (hc : SlE 1 Q H vc (ints (zs ch))) (hk : ∀ k ∈ ch, k < (hvOf mv).length) (hl : ch.length ≤ 12) :
    HCalls prg f_solve_Problem_sorted [.agg (prbC vh vw b).toArray, vc] H fun u H' => BufE 1 (fun b => H.size ≤ b ∧ b < H'.size) H' u (ints (zs (sortedF (hvOf mv) ch))) ∧ Keep (fun _ => False) H H' := by
  apply sh_solve_Problem_sorted_calls
  unfold sh_solve_Problem_sorted
  simp only [Cells_agg, Mnew_some]
  generalize hH1 : H.push (.cells (prbC vh vw b).toArray T_solve_Problem (0, 0)) = H1
  have k1 : Keep (fun _ => False) H H1 := by rw [← hH1]; exact Keep.push
  have a1 : At H1 H.size (prbC vh vw b) := by rw [← hH1]; exact At.push
  have s1 : H1.size = H.size + 1 := by rw [← hH1]; simp
  refine call_i (c_CloneInt (hc.keep k1 fun _ _ => id) (by rw [zs_len]; omega)) ?_
  rintro v h2 ⟨hv, k2⟩
  have k02 := k1.trans k2
  have a2 := a1.keep k2 id
  have hv' : BufE 1 (fun b => H1.size ≤ b) h2 v (ints (zs ch)) := hv.mono fun b hb => hb.1
  have hcmp : CmpI (.func (.func f_solve_Problem_sorted_1) #[] #[Ptr H.size 0]) (zs ch) (fun x y => byName (hvOf mv) x.toNat y.toNat) (fun h => Keep (fun b => H1.size ≤ b) h2 h) := fun x y h hx hy kh => by
    obtain ⟨i, hi, rfl⟩ := zs_mem hx
    obtain ⟨j, hj, rfl⟩ := zs_mem hy
    refine .inl ⟨f_solve_Problem_sorted_1, #[], #[Ptr H.size 0], rfl, by kernel_rfl, ?_⟩
    have k0h : Keep (fun b => H1.size ≤ b) H h := (k02.mono fun _ _ h => h.elim).trans kh
    refine HCalls.mono (c_sorted1 (b := b) (hp.keep k0h fun b hb hS => by have := hP b hb; omega) (a2.keep kh (show ¬ H1.size ≤ H.size by omega)) (hk i hi) (hk j hj)) ?_
    rintro _ h' ⟨rfl, rfl⟩
    exact ⟨⟨_, rfl, rfl⟩, Keep.refl⟩
  refine call_i (c_SortInt hv' hcmp (fun h k => k) (by rw [zs_len]; exact hl)) ?_
  rintro _ h3 ⟨hs, k3⟩
  rw [isort_zs] at hs
  exact ⟨BufE.re hs fun b hb hF => ⟨by have : H1.size ≤ b := hF; omega, hb⟩, k02.fresh k3 fun b hb => by have : H1.size ≤ b := hb; omega⟩

theorem bslI1' {n : Int} : bslV prg T_int 1 [(0, .int .i64 n)] = some #[.int .i64 n] := by kernel_rfl
theorem fitF_take {hv : List Man} {d : Dep} {i : Nat} (h : i < hv.length) : ((List.range (i + 1)).filter fun k => fitM d (gM hv k)) = ((List.range i).filter fun k => fitM d (gM hv k)) ++ (if fitM d (gM hv i) then [i] else []) := by
  rw [List.range_succ, List.filter_append, List.filter_cons]; rfl
set_option maxHeartbeats 2000000 in
theorem c_newest {P : Nat → Prop} {H : Heap} {mv : List MV} {wants : List Dep} {vh vw : Value} {b : Int} {d : Dep} (hp : Prb P H mv wants vh vw) (hP : ∀ b, P b → b < H.size) (hd : d.wf) (hl : mv.length ≤ 12) (hO : OpsT H) :
    HCalls prg f_solve_Problem_newest [.agg (prbC vh vw b).toArray, .agg (depC d).toArray] H fun u H' => BufE 1 (fun b => H.size ≤ b ∧ b < H'.size) H' u (ints (zs (candF (hvOf mv) d))) ∧ Keep (fun _ => False) H H' := by
  apply sh_solve_Problem_newest_calls
  unfold sh_solve_Problem_newest
  simp only [Cells_agg, Mnew_some]
  generalize hH1 : H.push (.cells (prbC vh vw b).toArray T_solve_Problem (0, 0)) = H1
  have k1 : Keep (fun _ => False) H H1 := by rw [← hH1]; exact Keep.push
  have a1 : At H1 H.size (prbC vh vw b) := by rw [← hH1]; exact At.push
  have s1 : H1.size = H.size + 1 := by rw [← hH1]; simp
  generalize hH2 : H1.push (.cells (depC d).toArray T_manifest_Dep (0, 0)) = H2
  have k2 : Keep (fun _ => False) H1 H2 := by rw [← hH2]; exact Keep.push
  have a2 : At H2 H1.size (depC d) := by rw [← hH2]; exact At.push
  have s2 : H2.size = H1.size + 1 := by rw [← hH2]; simp
  have k02 := k1.trans k2
  have b2 := a1.keep k2 id
  have lh := hp.h.len
  rw [List.length_map] at lh
  have hvl : (hvOf mv).length = mv.length := by simp
  refine J2_i (fun t _ h => BufE 1 (fun b => H2.size ≤ b) h t (ints (zs (fitsL (hvOf mv) d))) ∧ Keep (fun _ => False) H2 h) (fun k hk => ?_) ?_
  · have d0 : ld1 H2 (Ptr H.size 0) = some vh := b2.ld rfl
    rw [fld_ptr, Mpu_some, Nat.add_zero, d0, Mpu_some, lh, Mpu_some]
    refine L2_i (fun t u h => (∃ i : Nat, i ≤ mv.length ∧ u = .int .i64 (i : Nat) ∧ BufE 1 (fun b => H2.size ≤ b) h t (ints (zs ((List.range i).filter fun k => fitM d (gM (hvOf mv) k))))) ∧ Keep (fun _ => False) H2 h) (fun _ u _ => match u with | .int _ t => mv.length - t.toNat | _ => 0) ⟨⟨0, Nat.zero_le _, rfl, BufE.nil⟩, Keep.refl⟩ ?_
    rintro t _ h ⟨⟨i, hi, rfl, hb⟩, kh⟩ kk hkk
    rw [ltNn, Mpu_some, Mcd_bool]
    by_cases hlt : i < mv.length
    rotate_left
    · rw [if_neg (by simpa using hlt)]
      obtain rfl : i = mv.length := by omega
      refine hk _ _ _ ⟨?_, kh⟩
      unfold fitsL
      rw [hvl]; exact hb
    rw [if_pos (by simpa using hlt)]
    have gh := kh.1
    have k0h := k02.trans kh
    obtain ⟨x, hx, hgx, hxm, hmx, bx, ox, hix, hpx, _⟩ := (hp.keep k0h fun _ _ => id).at (k := i) (by rw [hvl]; exact hlt)
    have htk := fitF_take (hv := hvOf mv) (d := d) (i := i) (by rw [hvl]; exact hlt)
    refine J2_i (fun t2 _ h' => BufE 1 (fun b => H2.size ≤ b) h' t2 (ints (zs ((List.range (i + 1)).filter fun k => fitM d (gM (hvOf mv) k)))) ∧ Keep (fun _ => False) H2 h') (fun k7 hk7 => ?_) ?_
    rotate_left
    · rintro t2 _ h' ⟨hb', kh'⟩
      rw [add_one' (by omega), Mpu_some]
      exact hkk _ _ _ ⟨⟨i + 1, by omega, rfl, hb'⟩, kh'⟩ (by show mv.length - (i + 1) < mv.length - i; omega)
    rw [hix .i64, Mpu_some, mv_agg hpx hmx.wf, Mpu_some]
    simp only [z_Man', Mnew_some]
    generalize hH9 : h.push (.cells (manC ⟨[], zeroV, [], [], []⟩ nilS nilS nilS).toArray T_manifest_Manifest (0, 0)) = h9
    have k9 : Keep (fun _ => False) h h9 := by rw [← hH9]; exact Keep.push
    have a9 : At h9 h.size (manC ⟨[], zeroV, [], [], []⟩ nilS nilS nilS) := by rw [← hH9]; exact At.push
    obtain ⟨h10, st10, a10, k10⟩ := a9.st (n := 8) (ds := mvC x) (manC_len zM_wf) (manC_len hmx.wf) (mvC_one hmx)
    have khh : Keep (fun _ => False) h h10 := k9.fresh k10 fun b hb => by omega
    have a10' : At h10 h.size (manC x.1 x.2.1 x.2.2.1 x.2.2.2) := a10
    have hb10 := hb.keep khh fun _ _ => id
    have c10 := (a2.keep kh id).keep khh id
    have e := fun q => str_eql (q := q) (a := x.1.name) (b := d.name)
    rw [st10, Mwr_some]
    simp only [fld_ptr, Nat.zero_add, Nat.add_zero, Mpu_some]
    rw [man_name a10', Mpu_some, depNm c10, Mpu_some, e, Mpu_some]
    have no : ∀ h', Keep (fun _ => False) h10 h' → fitM d x.1 = false → BufE 1 (fun b => H2.size ≤ b) h' t (ints (zs ((List.range (i + 1)).filter fun k => fitM d (gM (hvOf mv) k)))) ∧ Keep (fun _ => False) H2 h' := fun h' k' hf => by
      refine ⟨?_, (kh.trans khh).trans k'⟩
      rw [htk, hgx, hf]
      simpa using hb10.keep k' fun _ _ => id
    cases hn : decide (x.1.name = d.name)
    · refine J1_no (by decide) ?_
      rw [pickV_bool, if_neg (by decide), Mpu_some, Mcd_bool, if_neg (by decide)]
      exact hk7 _ _ _ (no _ Keep.refl (by unfold fitM; rw [hn]; rfl))
    · refine J1_yes rfl ?_
      rw [depWant c10 hd, Mpu_some, man_ver a10' hmx.wf, Mpu_some]
      refine call_i (c_WantFits hd.want hmx.wf.ver (hO.keep (k0h.trans khh) fun _ h => h.elim)) ?_
      rintro _ h12 ⟨rfl, k12⟩
      have hfm : fitM d x.1 = (wantOk d.want && verOk x.1.ver && fitsF d.want.op d.want.ver x.1.ver) := by unfold fitM; rw [hn]; rfl
      rw [pickV_bool, if_pos rfl, Mpu_some, Mcd_bool]
      cases hf : (wantOk d.want && verOk x.1.ver && fitsF d.want.op d.want.ver x.1.ver)
      · rw [if_neg (by decide)]
        exact hk7 _ _ _ (no _ k12 (by rw [hfm, hf]))
      · rw [if_pos rfl, bslI1', Mnews_some]
        generalize hH14 : h12.push (.cells #[.int .i64 (i : Nat)] T_int (0, 0)) = h14
        have k14 : Keep (fun _ => False) h12 h14 := by rw [← hH14]; exact Keep.push
        have hx14 : SlE 1 (· = h12.size) h14 (.slice (some ⟨h12.size, 0, none⟩) 1 1) (ints [(i : Int)]) :=
          ⟨⟨_, 1, rfl, Nat.le_refl _, .inr ⟨h12.size, 0, rfl, rfl, by rw [rows1_flat, ← hH14]; exact Pt.of push_new⟩⟩, rows1_el, rows1_one fun v hv => by simp at hv; subst hv; rfl⟩
        have g12 := k12.1
        have g14 := k14.1
        have ghh := khh.1
        have hfl := List.length_filter_le (fun k => fitM d (gM (hvOf mv) k)) (List.range i)
        rw [List.length_range] at hfl
        refine ((hb10.keep k12 fun _ _ => id).keep k14 fun _ _ => id).app hx14 (by omega) (by rw [ints_len, ints_len, zs_len]; simp; omega) (by show H2.size ≤ h14.size; omega) fun t3 h15 ht k15 => ?_
        refine hk7 _ _ _ ⟨?_, (((kh.trans khh).trans k12).trans k14).fresh k15 fun b hb => hb⟩
        have : ints (zs ((List.range (i + 1)).filter fun k => fitM d (gM (hvOf mv) k))) = ints (zs ((List.range i).filter fun k => fitM d (gM (hvOf mv) k))) ++ ints [(i : Int)] := by
          rw [htk, hgx, hfm, hf]; simp [zs, rows1]
        rw [this]; exact ht
  rintro t _ h ⟨hb, kh⟩
  have hmem : ∀ k ∈ fitsL (hvOf mv) d, k < (hvOf mv).length := fun k hk => by
    unfold fitsL at hk
    exact List.mem_range.1 (List.mem_filter.1 hk).1
  have hcmp : CmpI (.func (.func f_solve_Problem_newest_1) #[] #[Ptr H.size 0]) (zs (fitsL (hvOf mv) d)) (fun x y => newLt (hvOf mv) x.toNat y.toNat) (fun g => Keep (fun b => H2.size ≤ b) h g) := fun x y g hx hy kg => by
    obtain ⟨i, hi, rfl⟩ := zs_mem hx
    obtain ⟨j, hj, rfl⟩ := zs_mem hy
    refine .inl ⟨f_solve_Problem_newest_1, #[], #[Ptr H.size 0], rfl, by kernel_rfl, ?_⟩
    have k0g : Keep (fun b => H2.size ≤ b) H g := ((k02.trans kh).mono fun _ _ h => h.elim).trans kg
    refine HCalls.mono (c_newest1 (b := b) (hp.keep k0g fun b hb hS => by have := hP b hb; omega) ((b2.keep kh id).keep kg (show ¬ H2.size ≤ H.size by omega)) (hmem i hi) (hmem j hj)) ?_
    rintro _ h' ⟨rfl, k'⟩
    exact ⟨⟨_, rfl, rfl⟩, k'⟩
  have hfl : (fitsL (hvOf mv) d).length ≤ 12 := by
    unfold fitsL
    have := List.length_filter_le (fun k => fitM d (gM (hvOf mv) k)) (List.range (hvOf mv).length)
    rw [List.length_range, hvl] at this
    rw [hvl]; omega
  refine call_i (c_SortInt hb hcmp (fun h k => k) (by rw [zs_len]; exact hfl)) ?_
  rintro _ h3 ⟨hs, k3⟩
  rw [isort_zs] at hs
  have g2 := kh.1
  exact ⟨BufE.re hs fun b hb hF => ⟨by have : H2.size ≤ b := hF; omega, hb⟩, (k02.trans kh).fresh k3 fun b hb => by have : H2.size ≤ b := hb; omega⟩
end Go.Proofs.YtanhgihfgmbojaaGreatDoor

/- solve: Solve. -/
namespace Go.Proofs.YtanhgihfgmbojaaGreatDoor
open Go.X Go.X.Diff
set_option maxRecDepth 100000
set_option linter.unusedSimpArgs false
set_option linter.unusedVariables false

theorem _root_.Go.X.L4_i {body : (Value → Value → Value → Value → Heap → Prop) → Value → Value → Value → Value → Heap → Prop} {v u x y : Value} {H : Heap} (I : Value → Value → Value → Value → Heap → Prop) (μ : Value → Value → Value → Value → Heap → Nat) (h0 : I v u x y H)
    (hs : ∀ v u x y h, I v u x y h → ∀ k : Value → Value → Value → Value → Heap → Prop, (∀ v' u' x' y' h', I v' u' x' y' h' → μ v' u' x' y' h' < μ v u x y h → k v' u' x' y' h') → body k v u x y h) : L4 body v u x y H := by
  refine ⟨fun vs h => ∃ v u x y, vs = [v, u, x, y] ∧ I v u x y h, fun vs h => match vs with | [v, u, x, y] => μ v u x y h | _ => 0, ⟨v, u, x, y, rfl, h0⟩, ?_⟩
  rintro vs h _ ⟨v, u, x, y, rfl, hI⟩
  exact hs v u x y h hI _ fun v' u' x' y' h' hI' hm => ⟨⟨v', u', x', y', rfl, hI'⟩, hm⟩

/- the points, the last first -/
abbrev PV := Value × Value × Value
def pntC (v : PV) : List Value := [v.1, v.2.1, v.2.2]
structure PntV (Q : Nat → Prop) (H : Heap) (p : Pnt) (v : PV) : Prop where
  c : SlE 1 Q H v.1 (ints (zs p.ch))
  w : SlE 6 Q H v.2.1 (p.ws.map depC)
  l : SlE 1 Q H v.2.2 (ints (zs p.ks))
theorem PntV.keep {Q S : Nat → Prop} {H H' : Heap} {p : Pnt} {v : PV} (h : PntV Q H p v) (k : Keep S H H') (hs : ∀ b, Q b → ¬ S b) : PntV Q H' p v := ⟨h.c.keep k hs, h.w.keep k hs, h.l.keep k hs⟩
theorem PntV.mono {Q R : Nat → Prop} {H : Heap} {p : Pnt} {v : PV} (h : PntV Q H p v) (k : ∀ b, Q b → R b) : PntV R H p v := ⟨h.c.mono k, h.w.mono k, h.l.mono k⟩
def PntsV (Q : Nat → Prop) (H : Heap) : List Pnt → List PV → Prop
  | [], [] => True
  | p :: ps, v :: vs => PntV Q H p v ∧ PntsV Q H ps vs
  | _, _ => False
theorem PntsV.len {Q : Nat → Prop} {H : Heap} : ∀ {ps : List Pnt} {vs : List PV}, PntsV Q H ps vs → vs.length = ps.length
  | [], [], _ => rfl
  | p :: ps, v :: vs, h => by rw [List.length_cons, List.length_cons, PntsV.len h.2]
  | [], _ :: _, h => h.elim
  | _ :: _, [], h => h.elim
theorem PntsV.keep {Q S : Nat → Prop} {H H' : Heap} (k : Keep S H H') (hs : ∀ b, Q b → ¬ S b) : ∀ {ps : List Pnt} {vs : List PV}, PntsV Q H ps vs → PntsV Q H' ps vs
  | [], [], _ => trivial
  | p :: ps, v :: vs, h => ⟨h.1.keep k hs, PntsV.keep k hs h.2⟩
  | [], _ :: _, h => h.elim
  | _ :: _, [], h => h.elim
theorem PntsV.mono {Q R : Nat → Prop} {H : Heap} (k : ∀ b, Q b → R b) : ∀ {ps : List Pnt} {vs : List PV}, PntsV Q H ps vs → PntsV R H ps vs
  | [], [], _ => trivial
  | p :: ps, v :: vs, h => ⟨h.1.mono k, PntsV.mono k h.2⟩
  | [], _ :: _, h => h.elim
  | _ :: _, [], h => h.elim
/-- the blocks from B on that are no block of F -/
def Qf (B : Nat) (F : Nat → Prop) (h : Heap) : Nat → Prop := fun b => B ≤ b ∧ b < h.size ∧ ¬ F b
theorem Qf.up {B : Nat} {F : Nat → Prop} {h h' : Heap} (k : h.size ≤ h'.size) : ∀ b, Qf B F h b → Qf B F h' b := fun b ⟨h1, h2, h3⟩ => ⟨h1, Nat.lt_of_lt_of_le h2 k, h3⟩
def Stk (B : Nat) (h : Heap) (F : Nat → Prop) (ps : List Pnt) (t : Value) : Prop := (∀ b, F b → B ≤ b ∧ b < h.size) ∧ ∃ vs : List PV, BufE 3 F h t (vs.reverse.map pntC) ∧ PntsV (Qf B F h) h ps vs
section
variable {B : Nat} {h h' : Heap} {F : Nat → Prop} {ps : List Pnt} {p : Pnt} {t : Value}
theorem Stk.nil : Stk B h (fun _ => False) [] (.slice none 0 0) := ⟨fun b hb => hb.elim, [], BufE.nil, trivial⟩
theorem Stk.keep (s : Stk B h F ps t) (k : Keep (fun _ => False) h h') : Stk B h' F ps t := by
  obtain ⟨h1, vs, h2, h3⟩ := s
  exact ⟨fun b hb => ⟨(h1 b hb).1, Nat.lt_of_lt_of_le (h1 b hb).2 k.1⟩, vs, h2.keep k fun _ _ => id, (h3.keep k fun _ _ => id).mono (Qf.up k.1)⟩
theorem Stk.len (s : Stk B h F ps t) : lenV t = some (.int .i64 (ps.length : Nat)) := by
  obtain ⟨h1, vs, h2, h3⟩ := s
  have := h2.sl.len
  rw [List.length_map, List.length_reverse, h3.len] at this
  exact this
theorem Stk.shape (s : Stk B h F ps t) : ∃ a c, t = .slice a ps.length c := by
  obtain ⟨h1, vs, h2, h3⟩ := s
  obtain ⟨⟨a, c, e, _⟩, _⟩ := h2.sl
  rw [List.length_map, List.length_reverse, h3.len] at e
  exact ⟨a, c, e⟩
theorem Stk.push {T : TypeId} {P : Nat → Prop} {x : Value} {v : PV} {k : Value → Heap → Prop} (s : Stk B h F ps t) (hp : PntV (Qf B F h) h p v) (hB : B ≤ h.size) (hl : ps.length ≤ 1000) (hx : SlE 3 P h x [pntC v])
    (hk : ∀ u h' F', Stk B h' F' (p :: ps) u → Keep (fun b => F b ∨ h.size ≤ b) h h' → k u h') : Mapp T 3 72 h t x k := by
  obtain ⟨h1, vs, h2, h3⟩ := s
  have hvl := h3.len
  refine BufE.app (F := fun b => F b ∨ h.size ≤ b) (h2.mono fun b hb => .inl hb) hx (by omega) (by simp; omega) (.inr (Nat.le_refl _)) fun u h' hu ku => ?_
  have gu := ku.1
  have hq : ∀ b, Qf B F h b → Qf B (fun b => (F b ∨ h.size ≤ b) ∧ b < h'.size) h' b := fun b ⟨q1, q2, q3⟩ => ⟨q1, by omega, fun hh => hh.1.elim q3 fun hh => by omega⟩
  have hn : ∀ b, Qf B F h b → ¬ (F b ∨ h.size ≤ b) := fun b ⟨q1, q2, q3⟩ hh => hh.elim q3 fun hh => by omega
  refine hk u h' (fun b => (F b ∨ h.size ≤ b) ∧ b < h'.size) ⟨fun b hb => ⟨hb.1.elim (fun hb => (h1 b hb).1) fun hb => by omega, hb.2⟩, v :: vs, ?_, (hp.keep ku hn).mono hq, (h3.keep ku hn).mono hq⟩ ku
  rw [List.reverse_cons, List.map_append, List.map_cons, List.map_nil]
  exact BufE.re hu fun b hb hF => ⟨hF, hb⟩
theorem row_at {v : PV} {vs : List PV} : ((v :: vs).reverse.map pntC)[vs.length]? = some (pntC v) := by
  rw [List.reverse_cons, List.map_append, List.getElem?_append_right (by simp), List.length_map, List.length_reverse, Nat.sub_self]; rfl
theorem Stk.top (s : Stk B h F (p :: ps) t) : ∃ b o v, (∀ k, ixS 3 t (.int k (ps.length : Nat)) = some (Ptr b o)) ∧ Pt h b o (pntC v) ∧ PntV (Qf B F h) h p v ∧
    ∀ (w : Value) (ks : List Nat), w.oneCell' = true → SlE 1 (Qf B F h) h w (ints (zs ks)) → ∃ h', st1 h (Ptr b (o + 2)) w = some h' ∧ Keep F h h' ∧ Stk B h' F (⟨p.ch, p.ws, ks⟩ :: ps) t ∧ Pt h' b o (pntC (v.1, v.2.1, w)) ∧ PntV (Qf B F h') h' ⟨p.ch, p.ws, ks⟩ (v.1, v.2.1, w) := by
  obtain ⟨h1, vs, h2, h3⟩ := s
  cases vs with
  | nil => exact h3.elim
  | cons v vs =>
    have hvl := h3.2.len
    obtain ⟨b, o, hix, hpt, hF⟩ := h2.sl.at row_at
    refine ⟨b, o, v, fun k => by rw [← hvl]; exact hix k, hpt, h3.1, fun w ks hw hs => ?_⟩
    obtain ⟨b', o', h', hix', hpt', hst, hb', hk⟩ := h2.st (i := vs.length) (j := 2) row_at (by omega) hw
    have hpe : Ptr b o = Ptr b' o' := Option.some.inj ((hix .i64).symm.trans (hix' .i64))
    injection hpe with hpe
    injection hpe with hpe
    injection hpe with hpb hpo
    subst hpb hpo
    have hn : ∀ b, Qf B F h b → ¬ F b := fun b q => q.2.2
    have hrow : ((v :: vs).reverse.map pntC).set vs.length ((pntC v).set 2 w) = (((v.1, v.2.1, w) : PV) :: vs).reverse.map pntC := by
      rw [List.reverse_cons, List.map_append, List.set_append_right _ _ (by simp), List.length_map, List.length_reverse, Nat.sub_self, List.reverse_cons, List.map_append]; rfl
    rw [hrow] at hb'
    have hnew : PntV (Qf B F h') h' ⟨p.ch, p.ws, ks⟩ (v.1, v.2.1, w) := ⟨(h3.1.c.keep hk hn).mono (Qf.up hk.1), (h3.1.w.keep hk hn).mono (Qf.up hk.1), (hs.keep hk hn).mono (Qf.up hk.1)⟩
    refine ⟨h', hst, hk, ⟨fun b hb => ⟨(h1 b hb).1, Nat.lt_of_lt_of_le (h1 b hb).2 hk.1⟩, _, hb', hnew, (h3.2.keep hk hn).mono (Qf.up hk.1)⟩, ?_, hnew⟩
    obtain ⟨b2, o2, hix2, hpt2, _⟩ := hb'.sl.at (row_at (v := (v.1, v.2.1, w)))
    have hpe : Ptr b o = Ptr b2 o2 := Option.some.inj ((hix .i64).symm.trans (hix2 .i64))
    injection hpe with hpe
    injection hpe with hpe
    injection hpe with hpb hpo
    subst hpb hpo
    exact hpt2
theorem _root_.Go.X.BufE.pre {n : Nat} {F : Nat → Prop} {H : Heap} {v : Value} {xs ys : List (List Value)} (h : BufE n F H v (xs ++ ys)) : ∃ u, slS n v none (some (.int .i64 (xs.length : Nat))) none = some u ∧ BufE n F H u xs := by
  obtain ⟨h1, h2, h | ⟨b, o, c, cs, T, f, rfl, hf, hc, hb, hle, ht, hl⟩⟩ := h
  · obtain ⟨rfl, he⟩ := h
    obtain ⟨rfl, rfl⟩ := List.append_eq_nil_iff.1 he
    exact ⟨.slice none 0 0, rfl, BufE.nil⟩
  · rw [List.length_append] at hc hl
    have hbn : bnds (xs.length + ys.length) c none (some (.int .i64 (xs.length : Nat))) none = some (0, xs.length, c) := by
      simp only [bnds, bnd, Option.bind_some]
      rw [if_pos (by omega)]; rfl
    have e1 : ∀ x ∈ xs, x.length = n := fun x hx => h1 x (List.mem_append_left _ hx)
    refine ⟨.slice (some ⟨b, if c = 0 then o else o + 0 * n, none⟩) xs.length c, by simp [slS, hbn], e1, fun x hx => h2 x (List.mem_append_left _ hx), .inr ⟨b, _, c, cs, T, f, rfl, hf, by omega, hb, ?_, ht, ?_⟩⟩
    · rw [Nat.zero_mul, Nat.add_zero, ite_self]; exact hle
    · rw [Nat.zero_mul, Nat.add_zero, ite_self]
      have := congrArg (List.take (xs.length * n)) hl
      rw [List.take_take, Nat.min_eq_left (Nat.mul_le_mul_right n (by omega)), List.flatten_append, List.take_append_of_le_length (by rw [flat_len e1]; exact Nat.le_refl _)] at this
      exact this.trans (List.take_of_length_le (by rw [flat_len e1]; exact Nat.le_refl _))
theorem Stk.pop (s : Stk B h F (p :: ps) t) : ∃ u, slS 3 t none (some (.int .i64 (ps.length : Nat))) none = some u ∧ Stk B h F ps u := by
  obtain ⟨h1, vs, h2, h3⟩ := s
  cases vs with
  | nil => exact h3.elim
  | cons v vs =>
    have hvl := h3.2.len
    rw [List.reverse_cons, List.map_append] at h2
    obtain ⟨u, hu, hb⟩ := h2.pre
    rw [List.length_map, List.length_reverse, hvl] at hu
    exact ⟨u, hu, h1, vs, hb, h3.2⟩
end
def PntP (hv : List Man) (p : Pnt) (n : Nat) : Prop := p.ch.length = n ∧ n ≤ 12 ∧ (∀ d ∈ p.ws, d.wf) ∧ p.ws.length ≤ 64 + 1000 * n ∧ p.ks.length ≤ 12 ∧ ∀ k ∈ p.ks, Names hv (p.ch ++ [k])
def StkP (hv : List Man) : List Pnt → Prop
  | [] => True
  | p :: ps => PntP hv p ps.length ∧ StkP hv ps
end Go.Proofs.YtanhgihfgmbojaaGreatDoor

