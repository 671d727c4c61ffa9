/- JOINED: V152 V153 V154 -/
import Derived.Test.YtconalffokhplaaGreatDoorGX
set_option linter.unusedSimpArgs false
set_option linter.unusedVariables false
/- scripts: the document's Data. -/
namespace Go.Proofs.YtconalffokhplaaGreatDoor
open Go.X Go.X.Diff
set_option maxRecDepth 100000
set_option linter.unusedSimpArgs false
set_option linter.unusedVariables false

theorem pairs_even_snoc : ∀ {l : List UInt8} {x : UInt8}, l.length % 2 = 0 → pairs (l ++ [x]) = pairs l
  | [], x, _ => rfl
  | [a], _, h => by simp at h
  | a :: b :: r, x, h => by
    show _ :: pairs (r ++ [x]) = _ :: pairs r
    rw [pairs_even_snoc (by simp at h; omega)]
theorem all_take_succ {l : List UInt8} {i : Nat} {x : UInt8} (htk : l.take (i + 1) = l.take i ++ [x]) (h : ∀ y ∈ l.take i, hexOk y = true) (hx : hexOk x = true) : ∀ y ∈ l.take (i + 1), hexOk y = true := fun y hy => by
  rw [htk] at hy
  rcases List.mem_append.1 hy with hy | hy
  · exact h y hy
  · simp at hy; subst hy; exact hx

set_option maxHeartbeats 2000000 in
theorem c_Data {H : Heap} {l : List UInt8} (hl : l.length ≤ 1048576) :
    HCalls prg f_syngraphref30_Data [str l] H fun u H' => u = .tuple #[str ((dataF l).getD []), .bool (dataF l).isSome] ∧ Keep (fun _ => False) H H' := by
  apply sh_syngraphref30_Data_calls
  unfold sh_syngraphref30_Data
  have s0 : (Value.string ⟨#[45]⟩) = str [45] := rfl
  have s1 : (Value.string ⟨#[]⟩) = str [] := rfl
  have e0 := fun q => str_eql (q := q) (a := l) (b := [45])
  rw [s0, s1, e0, Mpu_some, Mcd_bool]
  by_cases h45 : l = [45]
  · rw [if_pos (by simpa using h45)]
    have : dataF l = some [] := by unfold dataF; rw [if_pos h45]
    exact ⟨by rw [this]; rfl, Keep.refl⟩
  rw [if_neg (by simpa using h45)]
  have no : ∀ h, Keep (fun _ => False) H h → ¬ (l ≠ [] ∧ l.length % 2 = 0 ∧ l.all hexOk = true) → Value.tuple #[str [], .bool false] = .tuple #[str ((dataF l).getD []), .bool (dataF l).isSome] ∧ Keep (fun _ => False) H h := fun h kh hn => by
    have : dataF l = none := by unfold dataF; rw [if_neg h45, if_neg hn]
    exact ⟨by rw [this]; rfl, kh⟩
  have e1 : binV .no .eql (.int .i64 (l.length : Nat)) (.int .i64 0) = some (.bool (decide (l = []))) := by
    rw [binV_int]; simp only [intV]; congr 2
    rw [Bool.eq_iff_iff]
    simp only [beq_iff_eq, decide_eq_true_eq]
    rw [← List.length_eq_zero_iff]; omega
  have rem : ∀ n : Nat, binV .no .rem (.int .i64 (n : Nat)) (.int .i64 2) = some (.int .i64 ((n % 2 : Nat) : Int)) := fun n => by
    rw [binV_int]; simp only [intV]; rw [if_neg (by decide), Int.tmod_eq_emod_of_nonneg (by omega)]; rfl
  have one : ∀ n : Nat, binV .no .eql (.int .i64 ((n % 2 : Nat) : Int)) (.int .i64 1) = some (.bool (decide (n % 2 = 1))) := fun n => by
    rw [binV_int]; simp only [intV]; congr 2; rw [Bool.eq_iff_iff]; simp <;> omega
  rw [lenT_str, Mpu_some, e1, Mpu_some]
  cases hnil : decide (l = [])
  rotate_left
  · simp only [unV_not, Bool.not_true, Bool.not_false, Mif_bool, Mif_undef, pickV_bool, Mcd_bool, Mpu_some, if_true, if_false, Bool.false_eq_true, Bool.true_eq_false, decide_true, decide_false, reduceCtorEq, J1_eq, ex20, ex21, ex30, ex31, ex32, Mre_ok, Mre_nil]
    exact no _ Keep.refl (fun h => h.1 (of_decide_eq_true hnil))
  have hne := of_decide_eq_false hnil
  cases hodd : decide (l.length % 2 = 1)
  rotate_left
  · simp only [lenT_str, rem, one, hodd, unV_not, Bool.not_true, Bool.not_false, Mif_bool, Mif_undef, pickV_bool, Mcd_bool, Mpu_some, if_true, if_false, Bool.false_eq_true, Bool.true_eq_false, decide_true, decide_false, reduceCtorEq, J1_eq, ex20, ex21, ex30, ex31, ex32, Mre_ok, Mre_nil]
    exact no _ Keep.refl (fun h => by have := of_decide_eq_true hodd; omega)
  have hev : l.length % 2 = 0 := by have := of_decide_eq_false hodd; omega
  simp only [lenT_str, rem, one, hodd, unV_not, Bool.not_true, Bool.not_false, Mif_bool, Mif_undef, pickV_bool, Mcd_bool, Mpu_some, if_true, if_false, Bool.false_eq_true, Bool.true_eq_false, decide_true, decide_false, reduceCtorEq, ex20, ex21, ex30, ex31, ex32, Mre_ok, Mre_nil, J1_eq]
  have fin : ∀ h, Keep (fun _ => False) H h → (∀ x ∈ l, hexOk x = true) → Value.tuple #[str (pairs l), .bool true] = .tuple #[str ((dataF l).getD []), .bool (dataF l).isSome] ∧ Keep (fun _ => False) H h := fun h kh hx => by
    have : dataF l = some (pairs l) := by unfold dataF; rw [if_neg h45, if_pos ⟨hne, hev, List.all_eq_true.2 hx⟩]
    exact ⟨by rw [this]; rfl, kh⟩
  refine J3_i (fun t _ _ h => t = str (pairs l) ∧ (∀ x ∈ l, hexOk x = true) ∧ Keep (fun _ => False) H h) (fun k hk => ?_) ?_
  rotate_left
  · rintro _ _ _ h ⟨rfl, h1, h2⟩
    exact fin h h2 h1
  refine L3_i (fun t n u h => ∃ i : Nat, i ≤ l.length ∧ u = .int .i64 (i : Nat) ∧ t = str (pairs (l.take i)) ∧ n = .int .i64 ((if i % 2 = 1 then hexV (l.getD (i - 1) 0) else 0 : Nat) : Int) ∧ (∀ x ∈ l.take i, hexOk x = true) ∧ Keep (fun _ => False) H h) (fun _ _ u _ => match u with | .int _ t => l.length - t.toNat | _ => 0) ⟨0, Nat.zero_le _, rfl, rfl, rfl, by simp, Keep.refl⟩ ?_
  rintro _ _ _ h ⟨i, hi, rfl, rfl, rfl, hok, kh⟩ kk hkk
  have el : binV .no .lss (.int .i64 (i : Nat)) (.int .i64 (l.length : Nat)) = some (.bool (decide (i < l.length))) := by
    rw [binV_int]; simp only [intV]; congr 2; rw [decide_eq_decide]; omega
  rw [el, Mpu_some, Mcd_bool]
  by_cases hlt : i < l.length
  rotate_left
  · rw [if_neg (by simpa using hlt)]
    rw [List.take_of_length_le (by omega)] at hok
    exact hk _ _ _ _ ⟨by rw [List.take_of_length_le (by omega)], hok, kh⟩
  rw [if_pos (by simpa using hlt)]
  have hg : l[i]? = some l[i] := List.getElem?_eq_getElem hlt
  have hix : ixT (str l) (.int .i64 (i : Nat)) = some (.int .u8 l[i].toNat) := ixT_str hg
  have hmem : l[i] ∈ l := List.getElem_mem hlt
  have htk : l.take (i + 1) = l.take i ++ [l[i]] := by rw [List.take_add_one, hg]; rfl
  have hgd : l.getD i 0 = l[i] := by simp [List.getD, hg]
  generalize l[i] = x at *
  have xlt := x.toNat_lt
  have ge : ∀ c : Nat, binV .no .geq (.int .u8 x.toNat) (.int .u8 (c : Nat)) = some (.bool (decide (c ≤ x.toNat))) := fun c => by
    rw [binV_int]; simp only [intV]; congr 2; rw [decide_eq_decide]; omega
  have le : ∀ c : Nat, binV .no .leq (.int .u8 x.toNat) (.int .u8 (c : Nat)) = some (.bool (decide (x.toNat ≤ c))) := fun c => by
    rw [binV_int]; simp only [intV]; congr 2; rw [decide_eq_decide]; omega
  have sb : ∀ c : Nat, c ≤ x.toNat → binV .no .sub (.int .u8 x.toNat) (.int .u8 (c : Nat)) = some (.int .u8 ((x.toNat - c : Nat) : Int)) := fun c hc => by
    rw [binV_int]; simp only [intV]; rw [wrap_u8 (by omega) (by omega)]; congr 2; omega
  have cv : ∀ c : Nat, cvI .i64 (.int .u8 ((x.toNat - c : Nat) : Int)) = some (.int .i64 ((x.toNat - c : Nat) : Int)) := fun c => by
    rw [cvI_int, wrap_id (by omega) (by omega)]
  have g48 : binV .no .geq (.int .u8 x.toNat) (.int .u8 48) = some (.bool (decide (48 ≤ x.toNat))) := ge 48
  have l57 : binV .no .leq (.int .u8 x.toNat) (.int .u8 57) = some (.bool (decide (x.toNat ≤ 57))) := le 57
  have g97 : binV .no .geq (.int .u8 x.toNat) (.int .u8 97) = some (.bool (decide (97 ≤ x.toNat))) := ge 97
  have l102 : binV .no .leq (.int .u8 x.toNat) (.int .u8 102) = some (.bool (decide (x.toNat ≤ 102))) := le 102
  refine J5_eq.2 ?_
  refine J2_i (fun t _ h' => t = .int .i64 (if 48 ≤ x.toNat ∧ x.toNat ≤ 57 then ((x.toNat - 48 : Nat) : Int) else -1) ∧ h = h') (fun k9 hk9 => ?_) ?_
  · by_cases a1 : 48 ≤ x.toNat
    · by_cases a2 : x.toNat ≤ 57
      · have s : binV .no .sub (.int .u8 x.toNat) (.int .u8 48) = some (.int .u8 ((x.toNat - 48 : Nat) : Int)) := sb 48 a1
        have c := cv 48
        have d1 := decide_eq_true a1
        have d2 := decide_eq_true a2
        rw [d1] at g48; rw [d2] at l57
        simp only [hix, g48, l57, s, c, Mif_bool, Mif_undef, pickV_bool, Mcd_bool, Mpu_some, if_true, J1_eq]
        exact hk9 _ _ _ ⟨by rw [if_pos ⟨a1, a2⟩], rfl⟩
      · have d1 := decide_eq_true a1
        have d2 := decide_eq_false a2
        rw [d1] at g48; rw [d2] at l57
        simp only [hix, g48, l57, Mif_bool, Mif_undef, pickV_bool, Mcd_bool, Mpu_some, if_true, Bool.false_eq_true, if_false, J1_eq]
        exact hk9 _ _ _ ⟨by rw [if_neg (fun h => a2 h.2)], rfl⟩
    · have d1 := decide_eq_false a1
      rw [d1] at g48
      simp only [hix, g48, Mif_bool, Mif_undef, pickV_bool, Mcd_bool, Mpu_some, Bool.false_eq_true, if_false, J1_eq]
      exact hk9 _ _ _ ⟨by rw [if_neg (fun h => a1 h.1)], rfl⟩
  rintro _ _ _ ⟨rfl, rfl⟩
  have hexOk_eq : hexOk x = true ↔ (48 ≤ x.toNat ∧ x.toNat ≤ 57) ∨ (97 ≤ x.toNat ∧ x.toNat ≤ 102) := by
    unfold hexOk; simp
  refine J2_i (fun t _ h' => t = .int .i64 (if hexOk x = true then ((hexV x : Nat) : Int) else -1) ∧ h = h') (fun k9 hk9 => ?_) ?_
  · by_cases a1 : 97 ≤ x.toNat
    · by_cases a2 : x.toNat ≤ 102
      · have s : binV .no .sub (.int .u8 x.toNat) (.int .u8 97) = some (.int .u8 ((x.toNat - 97 : Nat) : Int)) := sb 97 a1
        have c := cv 97
        have d1 := decide_eq_true a1
        have d2 := decide_eq_true a2
        have ad : binV .no .add (.int .i64 ((x.toNat - 97 : Nat) : Int)) (.int .i64 10) = some (.int .i64 ((hexV x : Nat) : Int)) := by
          rw [binV_int]; simp only [intV]; rw [wrap_id (by omega) (by omega)]; congr 2
          unfold hexV; rw [if_neg (by omega)]; omega
        rw [d1] at g97; rw [d2] at l102
        simp only [hix, g97, l102, s, c, ad, Mif_bool, Mif_undef, pickV_bool, Mcd_bool, Mpu_some, if_true, J1_eq]
        exact hk9 _ _ _ ⟨by rw [if_pos (hexOk_eq.2 (.inr ⟨a1, a2⟩))], rfl⟩
      · have d1 := decide_eq_true a1
        have d2 := decide_eq_false a2
        rw [d1] at g97; rw [d2] at l102
        simp only [hix, g97, l102, Mif_bool, Mif_undef, pickV_bool, Mcd_bool, Mpu_some, if_true, Bool.false_eq_true, if_false, J1_eq]
        exact hk9 _ _ _ ⟨by rw [if_neg (fun h => by omega), if_neg (fun h => by have := hexOk_eq.1 h; omega)], rfl⟩
    · have d1 := decide_eq_false a1
      rw [d1] at g97
      simp only [hix, g97, Mif_bool, Mif_undef, pickV_bool, Mcd_bool, Mpu_some, Bool.false_eq_true, if_false, J1_eq]
      refine hk9 _ _ _ ⟨?_, rfl⟩
      by_cases a3 : 48 ≤ x.toNat ∧ x.toNat ≤ 57
      · rw [if_pos a3, if_pos (hexOk_eq.2 (.inl a3))]
        unfold hexV; rw [if_pos a3.2]
      · rw [if_neg a3, if_neg (fun h => by have := hexOk_eq.1 h; omega)]
  rintro _ _ _ ⟨rfl, rfl⟩
  by_cases hx : hexOk x = true
  rotate_left
  · have e : binV .no .lss (.int .i64 (-1)) (.int .i64 0) = some (.bool true) := rfl
    rw [if_neg hx, e, Mpu_some, Mcd_bool, if_pos rfl]
    exact no _ kh (fun hh => hx (List.all_eq_true.1 hh.2.2 x hmem))
  have hv := hexV_lt x hx
  have e : binV .no .lss (.int .i64 ((hexV x : Nat) : Int)) (.int .i64 0) = some (.bool false) := by
    rw [binV_int]; simp only [intV]; rw [decide_eq_false (by omega)]
  rw [if_pos hx, e, Mpu_some, Mcd_bool, if_neg (by decide)]
  have hok' := all_take_succ htk hok hx
  by_cases ho : i % 2 = 1
  · obtain ⟨k, rfl⟩ : ∃ k, i = 2 * k + 1 := ⟨i / 2, by omega⟩
    have hga : l[2 * k]? = some (l.getD (2 * k) 0) := by
      simp [List.getD, List.getElem?_eq_getElem (show 2 * k < l.length by omega)]
    have ham : l.getD (2 * k) 0 ∈ l.take (2 * k + 1) := by
      rw [List.take_add_one, hga]; simp
    have ha := hok _ ham
    have htp := pairs_take hga hg
    have hpe : pairs (l.take (2 * k + 1)) = pairs (l.take (2 * k)) := by
      rw [List.take_add_one, hga]
      exact pairs_even_snoc (by rw [List.length_take]; omega)
    rw [if_pos ho, show 2 * k + 1 - 1 = 2 * k by omega]
    generalize l.getD (2 * k) 0 = a at *
    have va := hexV_lt a ha
    have m1 : binV .no .mul (.int .i64 16) (.int .i64 ((hexV a : Nat) : Int)) = some (.int .i64 ((16 * hexV a : Nat) : Int)) := by
      rw [binV_int]; simp only [intV]; rw [wrap_id (by omega) (by omega)]; rfl
    have m2 : binV .no .add (.int .i64 ((16 * hexV a : Nat) : Int)) (.int .i64 ((hexV x : Nat) : Int)) = some (.int .i64 ((hexV a * 16 + hexV x : Nat) : Int)) := by
      rw [binV_int]; simp only [intV]; rw [wrap_id (by omega) (by omega)]; congr 2; omega
    have cv2 : cvI .u8 (.int .i64 ((hexV a * 16 + hexV x : Nat) : Int)) = some (.int .u8 ((UInt8.ofNat (hexV a * 16 + hexV x)).toNat : Nat)) := by
      rw [cvI_int, wrap_u8 (by omega) (by omega), UInt8.toNat_ofNat']; congr 2; omega
    rw [m1, Mpu_some, m2, Mpu_some, rem, Mpu_some, one, Mpu_some, Mcd_bool, if_pos (by simp), cv2, Mpu_some, bsl1, Mnews_some]
    generalize hH5 : h.push (.cells #[.int .u8 ((UInt8.ofNat (hexV a * 16 + hexV x)).toNat : Nat)] T_uint8 (0, 0)) = h5
    have k5 : Keep (fun _ => False) h h5 := by rw [← hH5]; exact Keep.push
    have hbs : Bs h5 (.slice (some ⟨h.size, 0, none⟩) 1 1) [UInt8.ofNat (hexV a * 16 + hexV x)] := by
      rw [← hH5]; exact Bs.mk push_new rfl (by simp) rfl
    have hpl := pairs_len (l.take (2 * k))
    have htl : (l.take (2 * k)).length ≤ l.length := by rw [List.length_take]; omega
    have hb2 : b2s h5 (.slice (some ⟨h.size, 0, none⟩) 1 1) = some (str [UInt8.ofNat (hexV a * 16 + hexV x)]) := hbs.b2s fun s e => by cases e
    rw [hb2, Mpu_some, str_app (by rw [hpe]; simp; omega), Mpu_some]
    rw [add_one' (by omega)]
    refine Mpu_some.2 ?_
    refine hkk _ _ _ _ ⟨2 * k + 1 + 1, by omega, rfl, ?_, ?_, hok', kh.trans k5⟩ (by show l.length - (2 * k + 1 + 1) < l.length - (2 * k + 1); omega)
    · rw [show 2 * k + 1 + 1 = 2 * k + 2 by omega, htp, hpe]
    · rw [if_neg (by omega)]; rfl
  · have ho' : i % 2 = 0 := by omega
    have m1 : binV .no .mul (.int .i64 16) (.int .i64 ((0 : Nat) : Int)) = some (.int .i64 ((0 : Nat) : Int)) := rfl
    have m2 : binV .no .add (.int .i64 ((0 : Nat) : Int)) (.int .i64 ((hexV x : Nat) : Int)) = some (.int .i64 ((hexV x : Nat) : Int)) := by
      rw [binV_int]; simp only [intV]; rw [wrap_id (by omega) (by omega)]; congr 2; omega
    rw [if_neg ho, m1, Mpu_some, m2, Mpu_some, rem, Mpu_some, one, Mpu_some, Mcd_bool, if_neg (by simpa using ho)]
    rw [add_one' (by omega)]
    refine Mpu_some.2 ?_
    refine hkk _ _ _ _ ⟨i + 1, by omega, rfl, ?_, ?_, hok', kh⟩ (by show l.length - (i + 1) < l.length - i; omega)
    · rw [htk, pairs_even_snoc (by rw [List.length_take]; omega)]
    · rw [if_pos (by omega), Nat.add_sub_cancel, hgd]
end Go.Proofs.YtconalffokhplaaGreatDoor

/- scripts: the law's want is Parse. -/
namespace Go.Proofs.YtconalffokhplaaGreatDoor
open Go.X Go.X.Diff
set_option maxRecDepth 100000
set_option linter.unusedSimpArgs false
set_option linter.unusedVariables false

theorem b_LineSA {k n a : Int} : buildV prg T_script_Line [(0, .agg ((lineC { zeroL with kind := k, n := n } nilS nilS).take 11).toArray), (1, .int .i64 a)] = some (.agg (lineC { zeroL with kind := k, n := n, ask := a } nilS nilS).toArray) := by
  rw [buildV_of k_Line]; rfl
theorem name_split {s w : List UInt8} (h10 : (10 : UInt8) ∉ s) (hw : w ∈ splitF 32 s) : scNameOk w = (decide (1 ≤ w.length) && decide (w.length ≤ 64)) := by
  have h1 := split_not hw
  have h2 : (10 : UInt8) ∉ w := fun hm => h10 (by
    have := join_split 32 s
    rw [← this]
    have : ∀ {ws : List (List UInt8)}, w ∈ ws → (10 : UInt8) ∈ joinF [32] ws := by
      intro ws
      induction ws with
      | nil => intro h; cases h
      | cons a r ih =>
        intro h
        cases r with
        | nil =>
          have e : joinF [32] [a] = a := by simp [joinF]
          rw [e]
          simp at h; subst h; exact hm
        | cons b r =>
          rw [join_cons]
          rcases List.mem_cons.1 h with rfl | h
          · exact List.mem_append.2 (.inl hm)
          · exact List.mem_append.2 (.inr (List.mem_cons_of_mem _ (ih h)))
    exact this hw)
  unfold scNameOk
  rw [decide_eq_false h1, decide_eq_false h2]
  simp only [Bool.not_false, Bool.and_true]
  congr 1
  rw [decide_eq_decide, ← List.length_pos_iff]; omega
theorem gtN0 {n m : Nat} : binV .no .geq (.int .i64 (n : Nat)) (.int .i64 (m : Nat)) = some (.bool (decide (m ≤ n))) := by
  rw [binV_int]; simp only [intV]; congr 2; rw [decide_eq_decide]; omega
theorem leN0 {n m : Nat} : binV .no .leq (.int .i64 (n : Nat)) (.int .i64 (m : Nat)) = some (.bool (decide (n ≤ m))) := by
  rw [binV_int]; simp only [intV]; congr 2; rw [decide_eq_decide]; omega
theorem ltN0 {n m : Nat} : binV .no .lss (.int .i64 (n : Nat)) (.int .i64 (m : Nat)) = some (.bool (decide (n < m))) := by
  rw [binV_int]; simp only [intV]; congr 2; rw [decide_eq_decide]; omega
theorem neN0 {n m : Nat} : binV .no .neq (.int .i64 (n : Nat)) (.int .i64 (m : Nat)) = some (.bool (!decide (n = m))) := by
  rw [binV_int]; simp only [intV]; congr 2; rw [Bool.eq_iff_iff]; simp <;> omega

theorem _root_.Go.X.Sl.lt' {P : Nat → Prop} {H : Heap} {v : Value} {l : List UInt8} (h : Sl P H v l) : Sl (fun b => P b ∧ b < H.size) H v l := ⟨h.bs, h.sl, fun b hb => ⟨h.own b hb, by
  rcases h.cases with ⟨a, c, rfl, _, _⟩ | ⟨b', o, c, cs, T, f, rfl, _, _, hb', _⟩
  · cases a <;> cases hb
  · obtain ⟨rfl, _⟩ := blk_slice hb; exact lt_of hb'⟩⟩
/-- what one part of a line makes of it, as the law reads it -/
def WantK (q base : Nat) (p : UInt8) (w : List UInt8) (l : LineA) (h : Heap) (u : Value) (h' : Heap) : Prop :=
  u = .bool (readP p w l).isSome ∧ (∀ l', readP p w l = some l' → LineAt q base l' h') ∧ Keep (· = q) h h'

set_option maxHeartbeats 4000000 in
theorem c_want {H : Heap} {s : List UInt8} (hs : s.length ≤ 1048576) (hT : VerT H) :
    HCalls prg f_syngraphlaw30_want [str s] H fun u H' => (∃ u0, u = .tuple #[u0, .bool (parseL s).isSome] ∧ LineOut H.size u0 ((parseL s).getD zeroL) H') ∧ Keep (fun _ => False) H H' := by
  apply sh_syngraphlaw30_want_calls
  unfold sh_syngraphlaw30_want
  simp only [z_Line, Mnew_some]
  generalize hH1 : H.push (.cells (lineC zeroL nilS nilS).toArray T_script_Line (0, 0)) = H1
  have k1 : Keep (fun _ => False) H H1 := by rw [← hH1]; exact Keep.push
  have b1 : At H1 H.size (lineC zeroL nilS nilS) := by rw [← hH1]; exact At.push
  have s1 : H1.size = H.size + 1 := by rw [← hH1]; simp
  have fin : ∀ (l : LineA) (vd vl : Value) (h : Heap) (b : Bool), At h H.size (lineC zeroL nilS nilS) → Keep (fun _ => False) H h → vd.oneCell' = true → vl.oneCell' = true → l.want.wf → Sl (fun b => H.size ≤ b ∧ b < h.size ∧ b ≠ H.size) h vd l.data → SlE 1 (fun b => H.size ≤ b ∧ b < h.size ∧ b ≠ H.size) h vl (ints l.lost) → b = (parseL s).isSome → l = (parseL s).getD zeroL →
      Mwr (stN 12 h (Ptr H.size 0) (.agg (lineC l vd vl).toArray)) fun h7 => Mpu (ldN 12 h7 (Ptr H.size 0)) fun r8 => (∃ u0, Value.tuple #[r8, .bool b] = .tuple #[u0, .bool (parseL s).isSome] ∧ LineOut H.size u0 ((parseL s).getD zeroL) h7) ∧ Keep (fun _ => False) H h7 := by
    intro l vd vl h b hz kh o1 o2 hw' hd' hl' hb hl0
    obtain ⟨h7, st7, a7, k7⟩ := hz.st (n := 12) (ds := lineC l vd vl) (lineC_len zeroW_wf) (lineC_len hw') (lineC_one o1 o2)
    have g7 := k7.1
    rw [st7, Mwr_some, a7.ldN (lineC_len hw'), Mpu_some]
    refine ⟨⟨_, by rw [hb], ?_⟩, kh.fresh k7 fun b hb => by omega⟩
    rw [← hl0]
    exact ⟨vd, vl, rfl, (hd'.keep k7 fun b hb e => hb.2.2 e).mono fun b hb => ⟨hb.1, by omega⟩, (hl'.keep k7 fun b hb e => hb.2.2 e).mono fun b hb => ⟨hb.1, by omega⟩, hw'⟩
  have zero : ∀ h, At h H.size (lineC zeroL nilS nilS) → Keep (fun _ => False) H h → parseL s = none → Mwr (stN 12 h (Ptr H.size 0) (.agg (lineC zeroL nilS nilS).toArray)) fun h7 => Mpu (ldN 12 h7 (Ptr H.size 0)) fun r8 => (∃ u0, Value.tuple #[r8, .bool false] = .tuple #[u0, .bool (parseL s).isSome] ∧ LineOut H.size u0 ((parseL s).getD zeroL) h7) ∧ Keep (fun _ => False) H h7 := fun h hz kh hn =>
    fin zeroL nilS nilS h false hz kh rfl rfl zeroW_wf Sl.nil SlE.nil (by rw [hn]; rfl) (by rw [hn]; rfl)
  refine J1_i (fun _ h => (10 : UInt8) ∉ s ∧ H1 = h) (fun k hk => ?_) ?_
  · rw [lenT_str, Mpu_some]
    refine L1_i (fun u h => ∃ i : Nat, i ≤ s.length ∧ u = .int .i64 (i : Nat) ∧ (10 : UInt8) ∉ s.take i ∧ H1 = h) (fun u _ => match u with | .int _ t => s.length - t.toNat | _ => 0) ⟨0, Nat.zero_le _, rfl, by simp, rfl⟩ ?_
    rintro _ _ ⟨i, hi, rfl, hno, rfl⟩ kk hkk
    rw [ltN0, Mpu_some, Mcd_bool]
    by_cases hlt : i < s.length
    · rw [if_pos (by simpa using hlt)]
      have hg : s[i]? = some s[i] := List.getElem?_eq_getElem hlt
      have hix : ixT (str s) (.int .i64 (i : Nat)) = some (.int .u8 s[i].toNat) := ixT_str hg
      have hmem : s[i] ∈ s := List.getElem_mem hlt
      have htk : s.take (i + 1) = s.take i ++ [s[i]] := by rw [List.take_add_one, hg]; rfl
      generalize s[i] = x at *
      have e10 : binV .no .eql (.int .u8 x.toNat) (.int .u8 10) = some (.bool (decide (x = 10))) := u8_eql (q := 10)
      rw [hix, Mpu_some, e10, Mpu_some, Mcd_bool]
      by_cases hx : x = 10
      · rw [if_pos (by simpa using hx), b_Line0, Mpu_some]
        exact zero H1 b1 k1 (by unfold parseL; rw [if_pos (by rw [← hx]; exact hmem)])
      · rw [if_neg (by simpa using hx), add_one' (by omega), Mpu_some]
        refine hkk _ _ ⟨i + 1, by omega, rfl, ?_, rfl⟩ (by show s.length - (i + 1) < s.length - i; omega)
        rw [htk, List.mem_append]
        rintro (h | h)
        · exact hno h
        · simp at h; exact hx h.symm
    · rw [if_neg (by simpa using hlt)]
      rw [List.take_of_length_le (by omega)] at hno
      exact hk _ _ ⟨hno, rfl⟩
  rintro _ _ ⟨h10, rfl⟩
  have hpl : parseL s = (formOf ((splitF 32 s).headD [])).bind fun f => parseForm f (splitF 32 s) := by unfold parseL; rw [if_neg h10]
  refine call_i (c_Words hs) ?_
  rintro v h8 ⟨hv, k8⟩
  have k08 := k1.trans k8
  have b8 := b1.keep k8 id
  have g1 := k1.1
  have g8 := k8.1
  have hcnt : (splitF 32 s).length ≤ 1048577 := by
    rw [split_count]
    have := List.count_le_length (a := (32 : UInt8)) (l := s)
    omega
  have hwl : ∀ w ∈ splitF 32 s, w.length ≤ 1048576 := fun w hw => by have := splitF_len hw; omega
  have hnm : ∀ w ∈ splitF 32 s, scNameOk w = (decide (1 ≤ w.length) && decide (w.length ≤ 64)) := fun w hw => name_split h10 hw
  have hw0 : (splitF 32 s)[0]? = some ((splitF 32 s).headD []) := by
    cases h : splitF 32 s with
    | nil => exact absurd h splitF_ne
    | cons a t => rfl
  have hwne : splitF 32 s ≠ [] := splitF_ne
  generalize hws : splitF 32 s = ws at *
  generalize hw0' : ws.headD [] = w0 at *
  have hv8 : SlE 1 (fun b => H1.size ≤ b ∧ b < h8.size) h8 v (strs ws) := by
    obtain ⟨⟨ea, ec, e1, e2, e3⟩, e4, e5⟩ := hv.sl
    exact ⟨⟨ea, ec, e1, e2, e3.imp id fun ⟨b, o, e, hb, hp⟩ => ⟨b, o, e, ⟨hb, hp.lt⟩, hp⟩⟩, e4, e5⟩
  obtain ⟨bb0, o0, hi0, hp0, _⟩ := hv8.at (strs_get hw0)
  have hi0 : ixS 1 v (.int .i64 0) = some (Ptr bb0 o0) := hi0 .i64
  rw [hi0, Mpu_some, hp0.cell0 rfl, Mpu_some]
  refine call_i c_Parts ?_
  rintro _ h9 ⟨rfl, k9⟩
  have k09 := k08.trans k9
  have b9 := b8.keep k9 id
  have hv9 := hv8.keep k9 fun _ _ => id
  have g9 := k9.1
  have hlen := hv9.len
  rw [strs_len] at hlen
  cases hfo : formOf w0 with
  | none =>
    have e0 : extV 0 (.tuple #[str [], .int .i64 0, .int .i64 0, .int .i64 0, .bool false]) = some (str []) := rfl
    have e1 : extV 1 (.tuple #[str [], .int .i64 0, .int .i64 0, .int .i64 0, .bool false]) = some (.int .i64 0) := rfl
    have e2 : extV 2 (.tuple #[str [], .int .i64 0, .int .i64 0, .int .i64 0, .bool false]) = some (.int .i64 0) := rfl
    have e3 : extV 3 (.tuple #[str [], .int .i64 0, .int .i64 0, .int .i64 0, .bool false]) = some (.int .i64 0) := rfl
    have e4 : extV 4 (.tuple #[str [], .int .i64 0, .int .i64 0, .int .i64 0, .bool false]) = some (.bool false) := rfl
    simp only [e0, e1, e2, e3, e4, Mpu_some, b_Step2, b_LineSA]
    generalize hH10 : h9.push (.cells (lineC zeroL nilS nilS).toArray T_script_Line (0, 0)) = h10'
    have k10 : Keep (fun _ => False) h9 h10' := by rw [← hH10]; exact Keep.push
    have c10 : At h10' h9.size (lineC zeroL nilS nilS) := by rw [← hH10]; exact At.push
    obtain ⟨h11, st11, c11, k11⟩ := c10.st (n := 12) (ds := lineC { zeroL with kind := 0, n := 0, ask := 0 } nilS nilS) (lineC_len zeroW_wf) (lineC_len zeroW_wf) (lineC_one rfl rfl)
    have k011 := (k09.trans k10).fresh k11 fun b hb => by omega
    have b11 := (b9.keep k10 id).keep k11 (by omega)
    simp only [st11, Mwr_some, unV_not, Bool.not_false, Mif_bool, Mif_undef, J1_eq, Bool.true_eq_false, if_false, Mpu_some, pickV_bool, if_true, Mcd_bool, b_Line0]
    exact zero h11 b11 k011 (by rw [hpl, hfo]; rfl)
  | some f =>
  have hf : f ∈ FORMS := List.mem_of_find?_eq_some hfo
  obtain ⟨_, _, _, _, _, g6, _, _, _, _, _⟩ := forms_good f hf
  have e0 : extV 0 (.tuple #[str f.parts, .int .i64 f.kind, .int .i64 f.n, .int .i64 f.ask, .bool true]) = some (str f.parts) := rfl
  have e1 : extV 1 (.tuple #[str f.parts, .int .i64 f.kind, .int .i64 f.n, .int .i64 f.ask, .bool true]) = some (.int .i64 f.kind) := rfl
  have e2 : extV 2 (.tuple #[str f.parts, .int .i64 f.kind, .int .i64 f.n, .int .i64 f.ask, .bool true]) = some (.int .i64 f.n) := rfl
  have e3 : extV 3 (.tuple #[str f.parts, .int .i64 f.kind, .int .i64 f.n, .int .i64 f.ask, .bool true]) = some (.int .i64 f.ask) := rfl
  have e4 : extV 4 (.tuple #[str f.parts, .int .i64 f.kind, .int .i64 f.n, .int .i64 f.ask, .bool true]) = some (.bool true) := rfl
  have hps : parseL s = parseForm f ws := by rw [hpl, hfo]; rfl
  simp only [e0, e1, e2, e3, e4, Mpu_some, b_Step2, b_LineSA]
  generalize hH10 : h9.push (.cells (lineC zeroL nilS nilS).toArray T_script_Line (0, 0)) = h10'
  have k10 : Keep (fun _ => False) h9 h10' := by rw [← hH10]; exact Keep.push
  have c10 : At h10' h9.size (lineC zeroL nilS nilS) := by rw [← hH10]; exact At.push
  obtain ⟨h11, st11, c11, k11⟩ := c10.st (n := 12) (ds := lineC (baseL f) nilS nilS) (lineC_len zeroW_wf) (lineC_len zeroW_wf) (lineC_one rfl rfl)
  have k011 := (k09.trans k10).fresh k11 fun b hb => by omega
  have k811 := (k9.trans k10).fresh k11 fun b hb => by omega
  have b11 := (b9.keep k10 id).keep k11 (by omega)
  have hv11 := hv8.keep k811 fun _ _ => id
  have g011 := k011.1
  have g10 := k10.1
  have g11 := k11.1
  have s10 : h10'.size = h9.size + 1 := by rw [← hH10]; simp
  have st11' : stN 12 h10' (.pointer (some ⟨h9.size, 0, none⟩)) (.agg (lineC { zeroL with kind := f.kind, n := f.n, ask := f.ask } nilS nilS).toArray) = some h11 := st11
  have ead : binV .no .add (.int .i64 1) (.int .i64 (f.parts.length : Nat)) = some (.int .i64 ((1 + f.parts.length : Nat) : Int)) := by
    rw [binV_int]; simp only [intV]; rw [wrap_id (by omega) (by omega)]; rfl
  have ene : binV .no .neq (.int .i64 (ws.length : Nat)) (.int .i64 ((1 + f.parts.length : Nat) : Int)) = some (.bool (!decide (ws.length = 1 + f.parts.length))) := neN0
  have en1 : binV .no .neq (.int .i64 (ws.length : Nat)) (.int .i64 1) = some (.bool (!decide (ws.length = 1))) := neN0 (m := 1)
  have en8 : binV .no .neq (str f.parts) (.string ⟨#[108]⟩) = some (.bool (!decide (f.parts = [108]))) := str_neq (b := [108])
  -- the test of how many words there are
  rw [st11', Mwr_some, unV_not, Mpu_some, Bool.not_true]
  refine J1_eq.2 ?_
  rw [Mif_bool, if_pos rfl, hlen, Mpu_some, lenT_str, Mpu_some, ead, Mpu_some, ene, Mpu_some]
  have bad : ¬ (ws.length = 1 + f.parts.length) → ¬ (ws.length = 1 ∧ f.parts = [108]) → parseL s = none := fun h1 h2 => by
    rw [hps]; unfold parseForm; rw [if_neg h2, if_neg h1]
  have main : (ws.length = 1 + f.parts.length ∨ (ws.length = 1 ∧ f.parts = [108])) → J2 (fun k24 =>
      Mpu (slS 1 v (some (.int .i64 1)) none none) fun t67 =>
      Mpu (lenV t67) fun t68 =>
      L2 (fun k26 => fun t10_2 t69_2 h27 =>
        Mpu (binV .no .lss t69_2 t68) fun t70 =>
        Mcd t70 (
          Mpu (ixS 1 t67 t69_2) fun t72 =>
          Mpu (ld1 h27 t72) fun t73 =>
          J1 (fun k28 =>
            Mpu (ixT (str f.parts) t69_2) fun t76 =>
            Mpu (binV .no .eql t76 (.int .u8 110)) fun t78 =>
            Mcd t78 (
              Mcall prg f_syngraphref30_Number [t73] h27 fun t81 h30 =>
              Mpu (extV 0 t81) fun t82 =>
              Mpu (extV 1 t81) fun t83 =>
              Mpu (fld 0 (Ptr h9.size 0)) fun t84 =>
              Mpu (fld 1 t84) fun t85 =>
              Mwr (st1 h30 t85 t82) fun h31 =>
              k28 t83 h31) (
              Mpu (binV .no .eql t76 (.int .u8 97)) fun t87 =>
              Mcd t87 (
                Mcall prg f_syngraphref30_Number [t73] h27 fun t90 h32 =>
                Mpu (extV 0 t90) fun t91 =>
                Mpu (extV 1 t90) fun t92 =>
                Mpu (fld 0 (Ptr h9.size 0)) fun t93 =>
                Mpu (fld 2 t93) fun t94 =>
                Mwr (st1 h32 t94 t91) fun h33 =>
                k28 t92 h33) (
                Mpu (binV .no .eql t76 (.int .u8 115)) fun t96 =>
                Mcd t96 (
                  Mpu (lenT t73) fun t99 =>
                  Mpu (binV .no .geq t99 (.int .i64 1)) fun t100 =>
                  J1 (fun k34 => Mif t100 true (
                      Mpu (lenT t73) fun t103 =>
                      Mpu (binV .no .leq t103 (.int .i64 64)) fun t104 =>
                      k34 t104 h27) (
                      k34 undef h27)) fun t104_2 h35 =>
                  Mpu (pickV t100 t104_2 (.bool false)) fun t105 =>
                  Mpu (fld 0 (Ptr h9.size 0)) fun t106 =>
                  Mpu (fld 3 t106) fun t107 =>
                  Mwr (st1 h35 t107 t73) fun h36 =>
                  k28 t105 h36) (
                  Mpu (binV .no .eql t76 (.int .u8 119)) fun t109 =>
                  Mcd t109 (
                    Mcall prg f_version_ParseWant [t73] h27 fun t112 h37 =>
                    Mpu (extV 0 t112) fun t113 =>
                    Mpu (extV 1 t112) fun t114 =>
                    Mnew h37 T_version_Want (zcells prg T_version_Want) fun t14 h38 =>
                    Mwr (stN 5 h38 t14 t113) fun h39 =>
                    Mpu (ldN 5 h39 t14) fun t115 =>
                    Mpu (binV .no .eql t114 (.int .i64 0)) fun t117 =>
                    Mpu (fld 0 (Ptr h9.size 0)) fun t118 =>
                    Mpu (fld 4 t118) fun t119 =>
                    Mwr (stN 5 h39 t119 t115) fun h40 =>
                    k28 t117 h40) (
                    Mpu (binV .no .eql t76 (.int .u8 100)) fun t121 =>
                    Mcd t121 (
                      Mcall prg f_syngraphref30_Data [t73] h27 fun t124 h41 =>
                      Mpu (extV 0 t124) fun t125 =>
                      Mpu (extV 1 t124) fun t126 =>
                      Ms2b T_uint8 h41 t125 fun t128 h42 =>
                      Mpu (fld 0 (Ptr h9.size 0)) fun t130 =>
                      Mpu (fld 9 t130) fun t131 =>
                      Mwr (st1 h42 t131 t128) fun h43 =>
                      k28 t126 h43) (
                      Mpu (binV .no .eql t76 (.int .u8 108)) fun t133 =>
                      Mcd t133 (
                        Mcall prg f_syngraphlaw30_lost [t73] h27 fun t136 h44 =>
                        Mpu (extV 0 t136) fun t137 =>
                        Mpu (extV 1 t136) fun t138 =>
                        Mpu (fld 0 (Ptr h9.size 0)) fun t139 =>
                        Mpu (fld 10 t139) fun t140 =>
                        Mwr (st1 h44 t140 t137) fun h45 =>
                        k28 t138 h45) (
                        k28 t10_2 h27))))))) fun t10_9 h29 =>
          Mpu (unV .not t10_9) fun t142 =>
          Mcd t142 (
            Mpu (buildV prg T_script_Line []) fun t143 =>
            Mwr (stN 12 h29 (Ptr H.size 0) t143) fun h46 =>
            Mpu (ldN 12 h46 (Ptr H.size 0)) fun r47 =>
            (∃ u0, Value.tuple #[r47, .bool false] = .tuple #[u0, .bool (parseL s).isSome] ∧ LineOut H.size u0 ((parseL s).getD zeroL) h46) ∧ Keep (fun _ => False) H h46) (
            Mpu (binV .no .add t69_2 (.int .i64 1)) fun t144 =>
            k26 t10_9 t144 h29)) (
          k24 t10_2 t69_2 h27)) (.bool true) ((.int .i64 0)) h11) fun t10_10 t69_4 h25 =>
    Mpu (ldN 12 h25 (Ptr h9.size 0)) fun t145 =>
    Mwr (stN 12 h25 (Ptr H.size 0) t145) fun h48 =>
    Mpu (ldN 12 h48 (Ptr H.size 0)) fun r49 =>
    (∃ u0, Value.tuple #[r49, .bool true] = .tuple #[u0, .bool (parseL s).isSome] ∧ LineOut H.size u0 ((parseL s).getD zeroL) h48) ∧ Keep (fun _ => False) H h48 := by
    intro hgood
    have hpf : parseL s = readAll (f.parts.take ws.tail.length) ws.tail (baseL f) := by
      rw [hps]
      unfold parseForm
      rcases hgood with h | ⟨h1, h2⟩
      · have hl : f.parts.length = ws.tail.length := by rw [List.length_tail]; omega
        rw [if_neg (fun hc => by rw [hc.2, hc.1] at h; simp at h), if_pos h, List.take_of_length_le (by omega)]
      · have ht : ws.tail = [] := List.length_eq_zero_iff.1 (by rw [List.length_tail]; omega)
        rw [if_pos ⟨h1, h2⟩, ht, readAll_nil]
    have htl : ws.tail.length ≤ f.parts.length := by rw [List.length_tail]; rcases hgood with h | ⟨h1, h2⟩ <;> omega
    have hpl2 : (f.parts.take ws.tail.length).length = ws.tail.length := by rw [List.length_take]; omega
    have la11 : LineAt h9.size h9.size (baseL f) h11 := ⟨⟨nilS, nilS, c11, Sl.nil, SlE.nil⟩, zeroW_wf⟩
    have hNG := hT.pow.sz
    refine J2_i (fun _ _ h => ∃ l, parseL s = some l ∧ LineAt h9.size h9.size l h ∧ At h H.size (lineC zeroL nilS nilS) ∧ Keep (fun _ => False) H h) (fun k hk => ?_) ?_
    · obtain ⟨vt, hvt, hst⟩ := hv11.cut (lo := 1) (hi := ws.length) (by simpa [rows1] using hwne) (by have := List.length_pos_iff.2 hwne; omega) (by rw [strs_len]; omega) (l := some (.int .i64 1)) (r := none) (by simp [bnd]; have := List.length_pos_iff.2 hwne; omega) (fun c hc => by rw [strs_len]; rfl)
      have etl : ((strs ws).take ws.length).drop 1 = strs ws.tail := by
        rw [List.take_of_length_le (by rw [strs_len]; omega)]
        simp [rows1]
      rw [etl] at hst
      have hlt := hst.len
      rw [strs_len] at hlt
      rw [hvt, Mpu_some, hlt, Mpu_some]
      refine L2_i (fun t u h => ∃ i : Nat, i ≤ ws.tail.length ∧ u = .int .i64 (i : Nat) ∧ t = .bool true ∧ (∃ l, readAll ((f.parts.take ws.tail.length).take i) (ws.tail.take i) (baseL f) = some l ∧ LineAt h9.size h9.size l h) ∧ Keep (· = h9.size) h11 h) (fun _ u _ => match u with | .int _ t => ws.tail.length - t.toNat | _ => 0)
        ⟨0, Nat.zero_le _, rfl, rfl, ⟨baseL f, by simp [readAll], la11⟩, Keep.refl⟩ ?_
      rintro _ _ h ⟨i, hi, rfl, rfl, ⟨l, hrl, hla⟩, kh⟩ kk hkk
      rw [ltN0, Mpu_some, Mcd_bool]
      have k0h : Keep (fun _ => False) H h := k011.fresh kh fun b hb => by omega
      have bh : At h H.size (lineC zeroL nilS nilS) := b11.keep kh (by omega)
      have gkh := kh.1
      by_cases hlt : i < ws.tail.length
      · rw [if_pos (by simpa using hlt)]
        have hgp : (f.parts.take ws.tail.length)[i]? = some (f.parts[i]'(by omega)) := by
          rw [List.getElem?_take_of_lt hlt]; exact List.getElem?_eq_getElem _
        have hgp0 : f.parts[i]? = some (f.parts[i]'(by omega)) := List.getElem?_eq_getElem _
        have hgt : ws.tail[i]? = some ws.tail[i] := List.getElem?_eq_getElem hlt
        have hwm : ws.tail[i] ∈ ws := List.mem_of_mem_tail (List.getElem_mem hlt)
        have hwl' := hwl _ hwm
        have hnm' := hnm _ hwm
        have hst' := readAll_step (l := baseL f) hpl2 hgp hgt
        have hsp := readAll_split (ps := f.parts.take ws.tail.length) (ws := ws.tail) (l := baseL f) (i + 1) hpl2
        have hpL : (f.parts[i]'(by omega)) ∈ LET := (forms_good f hf).2.2.1 _ (List.getElem_mem _)
        generalize (f.parts[i]'(by omega)) = p at *
        generalize ws.tail[i] = w at *
        obtain ⟨b, o, hib, hpt, _⟩ := (hst.keep kh fun b hb e => by omega).at (strs_get hgt)
        rw [hib .i64, Mpu_some, hpt.cell0 rfl, Mpu_some]
        obtain ⟨vd, vl, a, hd, hl⟩ := hla.ex
        have wf := hla.wf
        have hql := a.lt
        have hlenL := lineC_len (vd := vd) (vl := vl) wf
        have hTh := hT.keep k0h fun _ h => h.elim
        refine J1_i (WantK h9.size h9.size p w l h) (fun k28 hk28 => ?_) ?_
        rotate_left
        · rintro _ h29 ⟨rfl, hnext, k29⟩
          rw [hrl, Option.bind_some] at hst'
          have k029 := k0h.fresh k29 fun b hb => by omega
          have b29 := bh.keep k29 (by omega)
          cases hr : readP p w l with
          | none =>
            rw [hr] at hst'
            simp only [Option.isSome_none, unV_not, Bool.not_false, Mpu_some, Mcd_bool, if_true, b_Line0]
            exact zero h29 b29 k029 (by rw [hpf, hsp, hst']; rfl)
          | some l2 =>
            rw [hr] at hst'
            simp only [Option.isSome_some, unV_not, Bool.not_true, Mpu_some, Mcd_bool, Bool.false_eq_true, if_false]
            rw [add_one' (by omega), Mpu_some]
            exact hkk _ _ _ ⟨i + 1, by omega, rfl, rfl, ⟨l2, hst', hnext l2 hr⟩, kh.trans k29⟩ (by show ws.tail.length - (i + 1) < ws.tail.length - i; omega)
        have hixp : ixT (str f.parts) (.int .i64 (i : Nat)) = some (.int .u8 p.toNat) := ixT_str hgp0
        have e1 : binV .no .eql (.int .u8 (p.toNat : Nat)) (.int .u8 110) = some (.bool (decide (p = 110))) := u8_eql (q := 110)
        have e2 : binV .no .eql (.int .u8 (p.toNat : Nat)) (.int .u8 97) = some (.bool (decide (p = 97))) := u8_eql (q := 97)
        have e3 : binV .no .eql (.int .u8 (p.toNat : Nat)) (.int .u8 115) = some (.bool (decide (p = 115))) := u8_eql (q := 115)
        have e4 : binV .no .eql (.int .u8 (p.toNat : Nat)) (.int .u8 119) = some (.bool (decide (p = 119))) := u8_eql (q := 119)
        have e5 : binV .no .eql (.int .u8 (p.toNat : Nat)) (.int .u8 100) = some (.bool (decide (p = 100))) := u8_eql (q := 100)
        have e6 : binV .no .eql (.int .u8 (p.toNat : Nat)) (.int .u8 108) = some (.bool (decide (p = 108))) := u8_eql (q := 108)
        have one : ∀ (i : Nat) (v : Value) (g : Heap) (b : Bool), i < 12 → v.oneCell' = true → Keep (fun _ => False) h g → b = (readP p w l).isSome →
            (∀ l', readP p w l = some l' → ∀ h', At h' h9.size ((lineC l vd vl).set i v) → Keep (· = h9.size) g h' → LineAt h9.size h9.size l' h') →
            ∃ h', st1 g (Ptr h9.size i) v = some h' ∧ k28 (.bool b) h' := fun i v g b hi hv kg hb hP => by
          obtain ⟨h', st, a', k'⟩ := (a.keep kg id).st1 (i := i) (v := v) (by omega) hv
          exact ⟨h', st, hk28 _ _ ⟨by rw [hb], fun l' hl' => hP l' hl' h' a' k', (kg.mono fun _ _ h => h.elim).trans k'⟩⟩
        have slow : ∀ {g h' : Heap}, Keep (fun _ => False) h g → Keep (· = h9.size) g h' → Sl (fun b => h9.size ≤ b ∧ b < h'.size ∧ b ≠ h9.size) h' vd l.data ∧ SlE 1 (fun b => h9.size ≤ b ∧ b < h'.size ∧ b ≠ h9.size) h' vl (ints l.lost) := fun {g h'} kg k' => by
          have g1 := kg.1
          have g2 := k'.1
          exact ⟨((hd.keep kg fun _ _ => id).keep k' fun b hb e => hb.2.2 e).mono fun b hb => ⟨hb.1, by omega, hb.2.2⟩, ((hl.keep kg fun _ _ => id).keep k' fun b hb e => hb.2.2 e).mono fun b hb => ⟨hb.1, by omega, hb.2.2⟩⟩
        rw [hixp, Mpu_some, e1, Mpu_some, Mcd_bool]
        by_cases p1 : p = 110
        · rw [if_pos (by simpa using p1)]
          refine call_i (c_ref30Number hwl') ?_
          rintro _ h3 ⟨rfl, k3⟩
          have hr : readP p w l = if numOk w = true then some { l with n := (valF w : Nat) } else none := by unfold readP; rw [if_pos p1]
          obtain ⟨h', st, hk'⟩ := one 1 (.int .i64 (if numOk w then (valF w : Nat) else 0 : Int)) h3 (numOk w) (by omega) rfl k3 (by rw [hr]; cases numOk w <;> rfl) fun l' hl' h' a' k' => by
            rw [hr] at hl'
            cases hok : numOk w
            · rw [hok] at hl'; cases hl'
            · rw [hok] at hl' a'
              cases hl'
              obtain ⟨h1, h2⟩ := slow k3 k'
              exact ⟨⟨vd, vl, a', h1, h2⟩, wf⟩
          simp only [ex20, ex21, Mpu_some, fld_ptr, Nat.zero_add, Nat.add_zero, st, Mwr_some]
          exact hk'
        rw [if_neg (by simpa using p1), e2, Mpu_some, Mcd_bool]
        by_cases p2 : p = 97
        · rw [if_pos (by simpa using p2)]
          refine call_i (c_ref30Number hwl') ?_
          rintro _ h3 ⟨rfl, k3⟩
          have hr : readP p w l = if numOk w = true then some { l with at' := (valF w : Nat) } else none := by unfold readP; rw [if_neg p1, if_pos p2]
          obtain ⟨h', st, hk'⟩ := one 2 (.int .i64 (if numOk w then (valF w : Nat) else 0 : Int)) h3 (numOk w) (by omega) rfl k3 (by rw [hr]; cases numOk w <;> rfl) fun l' hl' h' a' k' => by
            rw [hr] at hl'
            cases hok : numOk w
            · rw [hok] at hl'; cases hl'
            · rw [hok] at hl' a'
              cases hl'
              obtain ⟨h1, h2⟩ := slow k3 k'
              exact ⟨⟨vd, vl, a', h1, h2⟩, wf⟩
          simp only [ex20, ex21, Mpu_some, fld_ptr, Nat.zero_add, Nat.add_zero, st, Mwr_some]
          exact hk'
        rw [if_neg (by simpa using p2), e3, Mpu_some, Mcd_bool]
        by_cases p3 : p = 115
        · rw [if_pos (by simpa using p3)]
          have hr : readP p w l = if scNameOk w = true then some { l with name := w } else none := by unfold readP; rw [if_neg p1, if_neg p2, if_pos p3]
          obtain ⟨h', st, hk'⟩ := one 3 (str w) h (scNameOk w) (by omega) rfl Keep.refl (by rw [hr]; cases scNameOk w <;> rfl) fun l' hl' h' a' k' => by
            rw [hr] at hl'
            cases hok : scNameOk w
            · rw [hok] at hl'; cases hl'
            · rw [hok] at hl'
              cases hl'
              obtain ⟨h1, h2⟩ := slow Keep.refl k'
              exact ⟨⟨vd, vl, a', h1, h2⟩, wf⟩
          have q1 : binV .no .geq (.int .i64 (w.length : Nat)) (.int .i64 1) = some (.bool (decide (1 ≤ w.length))) := gtN0 (m := 1)
          have q2 : binV .no .leq (.int .i64 (w.length : Nat)) (.int .i64 64) = some (.bool (decide (w.length ≤ 64))) := leN0 (m := 64)
          rw [hnm'] at hk'
          cases r1 : decide (1 ≤ w.length)
          · rw [r1] at hk'
            simp only [lenT_str, q1, r1, Mpu_some, J1_eq, Mif_bool, Bool.false_eq_true, if_false, pickV_bool, fld_ptr, Nat.zero_add, Nat.add_zero, st, Mwr_some]
            exact hk'
          · rw [r1, Bool.true_and] at hk'
            simp only [lenT_str, q1, q2, r1, Mpu_some, J1_eq, Mif_bool, if_true, pickV_bool, fld_ptr, Nat.zero_add, Nat.add_zero, st, Mwr_some]
            exact hk'
        rw [if_neg (by simpa using p3), e4, Mpu_some, Mcd_bool]
        by_cases p4 : p = 119
        · rw [if_pos (by simpa using p4)]
          refine call_i (c_ParseWant hTh.err hTh.pow hTh.ops hwl') ?_
          rintro u h9' ⟨hR, k9'⟩
          have hr : readP p w l = (wantP w).map fun w => { l with want := w } := by unfold readP; rw [if_neg p1, if_neg p2, if_neg p3, if_pos p4]
          obtain ⟨x, e, rfl, hx, hb, hsome⟩ : ∃ x e, u = .tuple #[.agg (wantC x).toArray, .int .i64 e] ∧ x.wf ∧ binV .no .eql (.int .i64 e) (.int .i64 0) = some (.bool (wantP w).isSome) ∧ ∀ y, wantP w = some y → x = y := by
            rcases wantP_of hR with ⟨x, h1, h2, rfl⟩ | ⟨h1, rfl⟩
            · exact ⟨x, 0, rfl, h2, by rw [h1]; rfl, fun y hy => by rw [h1] at hy; cases hy; rfl⟩
            · exact ⟨zeroW, 10, rfl, zeroW_wf, by rw [h1]; rfl, fun y hy => by rw [h1] at hy; cases hy⟩
          simp only [ex20, ex21, Mpu_some, z_Want, Mnew_some]
          generalize hH11' : h9'.push (.cells (wantC zeroW).toArray T_version_Want (0, 0)) = g11
          have kg11 : Keep (fun _ => False) h9' g11 := by rw [← hH11']; exact Keep.push
          have w11 : At g11 h9'.size (wantC zeroW) := by rw [← hH11']; exact At.push
          obtain ⟨g12, st12, w12, k12⟩ := w11.st (n := 5) (ds := wantC x) (wantC_len zeroW_wf) (wantC_len hx) wantC_one
          have gg9 := k9'.1
          have k012 : Keep (fun _ => False) h g12 := (k9'.trans kg11).fresh k12 fun b hb => by omega
          have a12 := a.keep k012 id
          rw [line_mid] at a12
          obtain ⟨g13, st13, a13, k13⟩ := at_mid a12 (o := 4) (n := 5) (B' := wantC x) rfl (wantC_len wf) (wantC_len hx) wantC_one
          simp only [st12, Mwr_some, want_ld5 w12 hx, hb, fld_ptr, Nat.zero_add, st13, Mpu_some]
          refine hk28 _ _ ⟨by rw [hr]; cases wantP w <;> rfl, fun l' hl' => ?_, (k012.mono fun _ _ h => h.elim).trans k13⟩
          rw [hr] at hl'
          obtain ⟨y, hy, rfl⟩ := Option.map_eq_some_iff.1 hl'
          have := hsome y hy
          subst this
          obtain ⟨h1, h2⟩ := slow k012 k13
          exact ⟨⟨vd, vl, a13, h1, h2⟩, hx⟩
        rw [if_neg (by simpa using p4), e5, Mpu_some, Mcd_bool]
        by_cases p5 : p = 100
        · rw [if_pos (by simpa using p5)]
          refine call_i (c_Data hwl') ?_
          rintro _ h41 ⟨rfl, k41⟩
          have hr : readP p w l = (dataF w).map fun d => { l with data := d } := by unfold readP; rw [if_neg p1, if_neg p2, if_neg p3, if_neg p4, if_pos p5]
          have hdl : ((dataF w).getD []).length ≤ 1048576 := by
            unfold dataF
            split
            · simp
            · split
              · have := pairs_len w
                simp only [Option.getD_some]; omega
              · simp
          simp only [ex20, ex21, Mpu_some]
          refine s2b_i (by omega) fun vb h42 hvb k42 => ?_
          have g41 := k41.1
          have g42 := k42.1
          obtain ⟨h', st, hk'⟩ := one 9 vb h42 (dataF w).isSome (by omega) hvb.one (k41.trans k42) (by rw [hr]; cases dataF w <;> rfl) fun l' hl' h' a' k' => by
            rw [hr] at hl'
            obtain ⟨y, hy, rfl⟩ := Option.map_eq_some_iff.1 hl'
            obtain ⟨h1, h2⟩ := slow (k41.trans k42) k'
            rw [line_set9 wf] at a'
            have g' := k'.1
            rw [hy] at hvb
            refine ⟨⟨vb, vl, a', (hvb.lt'.keep k' fun b hb e => by omega).mono fun b hb => ⟨by omega, by omega, by omega⟩, h2⟩, wf⟩
          simp only [fld_ptr, Nat.zero_add, Nat.add_zero, Mpu_some, st, Mwr_some]
          exact hk'
        rw [if_neg (by simpa using p5), e6, Mpu_some, Mcd_bool]
        by_cases p6 : p = 108
        · rw [if_pos (by simpa using p6)]
          refine call_i (c_lost hwl') ?_
          rintro u h44 ⟨hR, k44⟩
          have hr : readP p w l = if listOk w = true then some { l with lost := listV w } else none := by unfold readP; rw [if_neg p1, if_neg p2, if_neg p3, if_neg p4, if_neg p5, if_pos p6]
          obtain ⟨v', rfl, hv', hsome⟩ : ∃ v', u = .tuple #[v', .bool (listOk w)] ∧ v'.oneCell' = true ∧ (listOk w = true → SlE 1 (fun b => h.size ≤ b ∧ b < h44.size) h44 v' (ints (listV w))) := by
            rcases hR with ⟨h1, v', rfl, h2⟩ | ⟨h1, rfl⟩
            · refine ⟨v', by rw [h1], h2.sl.oneC, fun _ => ?_⟩
              obtain ⟨⟨ea, ec, e1, e2, e3⟩, e4, e5⟩ := h2.sl
              exact ⟨⟨ea, ec, e1, e2, e3.imp id fun ⟨b, o, e, hb, hp⟩ => ⟨b, o, e, ⟨hb, hp.lt⟩, hp⟩⟩, e4, e5⟩
            · exact ⟨_, by rw [h1], rfl, fun hy => by rw [h1] at hy; cases hy⟩
          obtain ⟨h', st, hk'⟩ := one 10 v' h44 (listOk w) (by omega) hv' k44 (by rw [hr]; cases listOk w <;> rfl) fun l' hl' h' a' k' => by
            rw [hr] at hl'
            cases hok : listOk w
            · rw [hok] at hl'; cases hl'
            · rw [hok] at hl'
              cases hl'
              obtain ⟨h1, h2⟩ := slow k44 k'
              rw [line_set10 wf] at a'
              have g' := k'.1
              exact ⟨⟨vd, v', a', h1, ((hsome hok).keep k' fun b hb e => by omega).mono fun b hb => ⟨by omega, by omega, by omega⟩⟩, wf⟩
          simp only [ex20, ex21, Mpu_some, fld_ptr, Nat.zero_add, Nat.add_zero, st, Mwr_some]
          exact hk'
        rcases let_cases hpL with h | h | h | h | h | h <;> first | exact absurd h p1 | exact absurd h p2 | exact absurd h p3 | exact absurd h p4 | exact absurd h p5 | exact absurd h p6
      · rw [if_neg (by simpa using hlt)]
        have q1 : (f.parts.take ws.tail.length).take i = f.parts.take ws.tail.length := List.take_of_length_le (by omega)
        have q2 : ws.tail.take i = ws.tail := List.take_of_length_le (by omega)
        rw [q1, q2] at hrl
        exact hk _ _ _ ⟨l, by rw [hpf, hrl], hla, bh, k0h⟩
    · rintro _ _ h ⟨l, hrl, hla, bh, k0h⟩
      obtain ⟨vd, vl, al, hd', hl'⟩ := hla.ex
      rw [al.ldN (lineC_len hla.wf), Mpu_some]
      exact fin l vd vl h true bh k0h hd'.one hl'.oneC hla.wf (hd'.mono fun b hb => ⟨by omega, hb.2.1, by omega⟩) (hl'.mono fun b hb => ⟨by omega, hb.2.1, by omega⟩) (by rw [hrl]; rfl) (by rw [hrl]; rfl)
  refine J1_eq.2 ?_
  cases hn : decide (ws.length = 1 + f.parts.length)
  · have hn' := of_decide_eq_false hn
    cases h8' : decide (f.parts = [108])
    · have h8n := of_decide_eq_false h8'
      simp only [en8, h8', Bool.not_false, Bool.not_true, Mif_bool, Mif_undef, pickV_bool, if_true, Bool.false_eq_true, Bool.true_eq_false, if_false, Mpu_some, Mcd_bool]
      refine J1_eq.2 ?_
      simp only [Bool.not_false, Bool.not_true, Mif_bool, Mif_undef, pickV_bool, if_true, Bool.false_eq_true, Bool.true_eq_false, if_false, Mpu_some, Mcd_bool]
      refine J1_eq.2 ?_
      simp only [Bool.not_false, Bool.not_true, Mif_bool, Mif_undef, pickV_bool, if_true, Bool.false_eq_true, Bool.true_eq_false, if_false, Mpu_some, Mcd_bool]
      refine J1_eq.2 ?_
      simp only [b_Line0, Bool.not_false, Bool.not_true, Mif_bool, Mif_undef, pickV_bool, if_true, Bool.false_eq_true, Bool.true_eq_false, if_false, Mpu_some, Mcd_bool]
      exact zero h11 b11 k011 (bad hn' fun h => h8n h.2)
    · cases h1' : decide (ws.length = 1)
      · have h1n := of_decide_eq_false h1'
        simp only [en8, en1, h8', Bool.not_false, Bool.not_true, Mif_bool, Mif_undef, pickV_bool, if_true, Bool.false_eq_true, Bool.true_eq_false, if_false, Mpu_some, Mcd_bool]
        refine J1_eq.2 ?_
        simp only [en1, h1', Bool.not_false, Bool.not_true, Mif_bool, Mif_undef, pickV_bool, if_true, Bool.false_eq_true, Bool.true_eq_false, if_false, Mpu_some, Mcd_bool]
        refine J1_eq.2 ?_
        simp only [Bool.not_false, Bool.not_true, Mif_bool, Mif_undef, pickV_bool, if_true, Bool.false_eq_true, Bool.true_eq_false, if_false, Mpu_some, Mcd_bool]
        refine J1_eq.2 ?_
        simp only [b_Line0, Bool.not_false, Bool.not_true, Mif_bool, Mif_undef, pickV_bool, if_true, Bool.false_eq_true, Bool.true_eq_false, if_false, Mpu_some, Mcd_bool]
        exact zero h11 b11 k011 (bad hn' fun h => h1n h.1)
      · simp only [en8, en1, h8', Bool.not_false, Bool.not_true, Mif_bool, Mif_undef, pickV_bool, if_true, Bool.false_eq_true, Bool.true_eq_false, if_false, Mpu_some, Mcd_bool]
        refine J1_eq.2 ?_
        simp only [en1, h1', Bool.not_false, Bool.not_true, Mif_bool, Mif_undef, pickV_bool, if_true, Bool.false_eq_true, Bool.true_eq_false, if_false, Mpu_some, Mcd_bool]
        refine J1_eq.2 ?_
        simp only [Bool.not_false, Bool.not_true, Mif_bool, Mif_undef, pickV_bool, if_true, Bool.false_eq_true, Bool.true_eq_false, if_false, Mpu_some, Mcd_bool]
        refine J1_eq.2 ?_
        simp only [Bool.not_false, Bool.not_true, Mif_bool, Mif_undef, pickV_bool, if_true, Bool.false_eq_true, Bool.true_eq_false, if_false, Mpu_some, Mcd_bool]
        exact main (.inr ⟨of_decide_eq_true h1', of_decide_eq_true h8'⟩)
  · simp only [Bool.not_false, Bool.not_true, Mif_bool, Mif_undef, pickV_bool, if_true, Bool.false_eq_true, Bool.true_eq_false, if_false, Mpu_some, Mcd_bool]
    refine J1_eq.2 ?_
    simp only [Bool.not_false, Bool.not_true, Mif_bool, Mif_undef, pickV_bool, if_true, Bool.false_eq_true, Bool.true_eq_false, if_false, Mpu_some, Mcd_bool]
    refine J1_eq.2 ?_
    simp only [Bool.not_false, Bool.not_true, Mif_bool, Mif_undef, pickV_bool, if_true, Bool.false_eq_true, Bool.true_eq_false, if_false, Mpu_some, Mcd_bool]
    refine J1_eq.2 ?_
    simp only [Bool.not_false, Bool.not_true, Mif_bool, Mif_undef, pickV_bool, if_true, Bool.false_eq_true, Bool.true_eq_false, if_false, Mpu_some, Mcd_bool]
    exact main (.inl (of_decide_eq_true hn))
end Go.Proofs.YtconalffokhplaaGreatDoor

/- The law's awake, and ScriptParses. -/
namespace Go.Proofs.YtconalffokhplaaGreatDoor
open Go.X Go.X.Diff
set_option maxRecDepth 100000
set_option linter.unusedSimpArgs false
set_option linter.unusedVariables false

theorem SmallL.v {P : Nat → Prop} {H : Heap} {l : LineA} {vd vl : Value} (s : SmallL l) (hd : Sl P H vd l.data) (hl : SlE 1 P H vl (ints l.lost)) : LineV P H l vd vl := by
  obtain ⟨h1, h2, h3, h4, h5, h6, h7⟩ := s
  exact ⟨hd, hl, h7, by unfold rng64; omega, by unfold rng64; omega, fun x hx => by have := h3 x hx; unfold rng64; omega, by omega, by omega, by omega⟩
theorem SmallL.total {l : LineA} (s : SmallL l) : ∀ f ∈ FORMS, total (wordsF f l) ≤ 1000000 := by
  obtain ⟨h1, h2, h3, h4, h5, h6, h7⟩ := s
  exact words_total (by unfold rng64; omega) (by unfold rng64; omega) (fun x hx => by have := h3 x hx; unfold rng64; omega) h4 h5 h6 h7

def awT : List UInt8 := [105, 110, 115, 116, 97, 108, 108, 32, 97, 32, 94, 49, 46, 48, 46, 48]
def awW : Want := ⟨[94], ⟨[1, 0, 0], []⟩⟩
def awL : LineA := ⟨10, 2, 0, [97], awW, [], [], 0⟩
theorem awW_P : wantP [94, 49, 46, 48, 46, 48] = some awW :=
  wantP_some ⟨⟨rfl, by simp [awW]⟩, by simp [awW]⟩ (by decide +kernel) (by decide +kernel)
theorem awT_P : parseL awT = some awL := by
  unfold parseL
  rw [if_neg (by decide)]
  have h1 : splitF 32 awT = [[105, 110, 115, 116, 97, 108, 108], [97], [94, 49, 46, 48, 46, 48]] := by decide +kernel
  have h2 : formOf [105, 110, 115, 116, 97, 108, 108] = some ⟨[105, 110, 115, 116, 97, 108, 108], [115, 119], 10, 2, 0⟩ := by decide +kernel
  rw [h1, List.headD_cons, h2, Option.bind_some]
  unfold parseForm
  rw [if_neg (by decide), if_pos (by rfl)]
  show (readP 115 [97] _).bind (readAll [119] [[94, 49, 46, 48, 46, 48]]) = _
  have h3 : ∀ l : LineA, readP 115 [97] l = some { l with name := [97] } := fun l => by
    unfold readP
    rw [if_neg (by decide), if_neg (by decide), if_pos rfl, if_pos (by decide +kernel)]
  have h4 : ∀ l : LineA, readP 119 [94, 49, 46, 48, 46, 48] l = some { l with want := awW } := fun l => by
    unfold readP
    rw [if_neg (by decide), if_neg (by decide), if_neg (by decide), if_pos rfl, awW_P]; rfl
  rw [h3]
  show (readP 119 [94, 49, 46, 48, 46, 48] _).bind (readAll [] []) = _
  rw [h4]; rfl

theorem c_awake30 {H : Heap} (hT : VerT H) : HCalls prg f_syngraphlaw30_awake [] H fun u H' => u = .bool true ∧ Keep (fun _ => False) H H' := by
  apply sh_syngraphlaw30_awake_calls
  unfold sh_syngraphlaw30_awake
  have sw : (Value.string ⟨#[105, 110, 115, 116, 97, 108, 108, 32, 97, 32, 94, 49, 46, 48, 46, 48]⟩) = str awT := rfl
  have sa : (Value.string ⟨#[97]⟩) = str [97] := rfl
  rw [sw, sa]
  refine call_i (c_scParse (by decide) hT) ?_
  rintro _ h1 ⟨⟨u0, rfl, hout⟩, k1⟩
  obtain ⟨vd, vl, rfl, hd, hl, hw⟩ := hout
  have hP := awT_P
  simp only [hP, Option.getD_some, Option.isSome_some, if_true] at hd hl hw ⊢
  simp only [ex20, ex21, Mpu_some, z_Line, Mnew_some]
  generalize hH2 : h1.push (.cells (lineC zeroL nilS nilS).toArray T_script_Line (0, 0)) = h2
  have k2 : Keep (fun _ => False) h1 h2 := by rw [← hH2]; exact Keep.push
  have a2 : At h2 h1.size (lineC zeroL nilS nilS) := by rw [← hH2]; exact At.push
  obtain ⟨h3, st3, a3, k3⟩ := a2.st (n := 12) (ds := lineC awL vd vl) (lineC_len zeroW_wf) (lineC_len hw) (lineC_one hd.one hl.oneC)
  have g1 := k1.1
  have g2 := k2.1
  have k03 : Keep (fun _ => False) H h3 := (k1.trans k2).fresh k3 fun b hb => by omega
  have hd3 := (hd.keep k2 fun _ _ => id).keep k3 fun b hb e => by omega
  have hl3 := (hl.keep k2 fun _ _ => id).keep k3 fun b hb e => by omega
  have sm : SmallL awL := ⟨by decide, by decide, fun x hx => absurd hx (by simp [awL]), by decide, by decide, by decide, hw⟩
  rw [st3, Mwr_some, a3.ldN (lineC_len hw), Mpu_some]
  refine call_i (c_scShow (sm.v hd3 hl3) (hT.keep k03 fun _ h => h.elim) sm.total) ?_
  rintro _ h4 ⟨rfl, k4⟩
  rw [show_parse awT_P]
  have a4 := a3.keep k4 id
  have d0 : ld1 h4 (Ptr h1.size 0) = some (.int .i64 10) := a4.ld rfl
  have d1 : ld1 h4 (Ptr h1.size 1) = some (.int .i64 2) := a4.ld rfl
  have d3 : ld1 h4 (Ptr h1.size 3) = some (str [97]) := a4.ld rfl
  have es := fun q => str_eql (q := q) (a := awT) (b := awT)
  have ea := fun q => str_eql (q := q) (a := [97]) (b := [97])
  simp only [ex20, ex21, fld_ptr, Nat.zero_add, Nat.add_zero, d0, d1, d3, eq_int, es, ea, decide_true, unV_not, Bool.not_true, Bool.not_false, Mif_bool, Mif_undef, pickV_bool, Mcd_bool, Mpu_some, if_true, if_false, Bool.false_eq_true, Bool.true_eq_false, decide_true, decide_false, reduceCtorEq, J1_eq, ex20, ex21, ex30, ex31, ex32, Mre_ok, Mre_nil]
  exact ⟨by trivial, k03.trans k4⟩
theorem awake30_end {H h : Heap} (hT : VerT H) (k : Keep (fun _ => False) H h) : Mcall prg f_syngraphlaw30_awake [] h fun u H' => u = Value.bool true ∧ Keep (fun _ => False) H H' := by
  refine call_i (c_awake30 (hT.keep k fun _ h => h.elim)) ?_
  rintro _ h7 ⟨rfl, k7⟩
  exact ⟨rfl, k.trans k7⟩

set_option maxHeartbeats 2000000 in
theorem c_ScriptParses {H : Heap} {s : List UInt8} (hs : s.length ≤ 9223372036854775807) (hT : VerT H) :
    HCalls prg f_syngraphlaw30_ScriptParses [str s] H fun u H' => u = .bool true ∧ Keep (fun _ => False) H H' := by
  apply sh_syngraphlaw30_ScriptParses_calls
  unfold sh_syngraphlaw30_ScriptParses
  have e4 : binV .no .gtr (.int .i64 (s.length : Nat)) (.int .i64 400) = some (.bool (decide (s.length > 400))) := gt_dec
  rw [lenT_str, Mpu_some, e4, Mpu_some, Mcd_bool]
  by_cases h4 : s.length > 400
  · rw [if_pos (by simpa using h4)]
    exact awake30_end hT Keep.refl
  rw [if_neg (by simpa using h4)]
  refine call_i (c_scParse (by omega) hT) ?_
  rintro _ h2 ⟨⟨u0, rfl, hout⟩, k2⟩
  obtain ⟨vd, vl, rfl, hd, hl, hw⟩ := hout
  simp only [ex20, ex21, Mpu_some, z_Line, Mnew_some]
  generalize hH3 : h2.push (.cells (lineC zeroL nilS nilS).toArray T_script_Line (0, 0)) = h3
  have k3 : Keep (fun _ => False) h2 h3 := by rw [← hH3]; exact Keep.push
  have a3 : At h3 h2.size (lineC zeroL nilS nilS) := by rw [← hH3]; exact At.push
  have s3 : h3.size = h2.size + 1 := by rw [← hH3]; simp
  obtain ⟨h4', st4, a4, k4⟩ := a3.st (n := 12) (ds := lineC ((parseL s).getD zeroL) vd vl) (lineC_len zeroW_wf) (lineC_len hw) (lineC_one hd.one hl.oneC)
  have g2 := k2.1
  have g3 := k3.1
  have g4 := k4.1
  have k04 : Keep (fun _ => False) H h4' := (k2.trans k3).fresh k4 fun b hb => by omega
  have hd4 := (hd.keep k3 fun _ _ => id).keep k4 fun b hb e => by omega
  have hl4 := (hl.keep k3 fun _ _ => id).keep k4 fun b hb e => by omega
  rw [st4, Mwr_some]
  refine call_i (c_want (by omega) (hT.keep k04 fun _ h => h.elim)) ?_
  rintro _ h5 ⟨⟨u1, rfl, hout⟩, k5⟩
  obtain ⟨wd, wl, rfl, hwd, hwl, hww⟩ := hout
  simp only [ex20, ex21, Mpu_some]
  generalize hH6 : h5.push (.cells (lineC zeroL nilS nilS).toArray T_script_Line (0, 0)) = h6
  have k6 : Keep (fun _ => False) h5 h6 := by rw [← hH6]; exact Keep.push
  have b6 : At h6 h5.size (lineC zeroL nilS nilS) := by rw [← hH6]; exact At.push
  obtain ⟨h7, st7, b7, k7⟩ := b6.st (n := 12) (ds := lineC ((parseL s).getD zeroL) wd wl) (lineC_len zeroW_wf) (lineC_len hww) (lineC_one hwd.one hwl.oneC)
  have g5 := k5.1
  have g6 := k6.1
  have k47 : Keep (fun _ => False) h4' h7 := (k5.trans k6).fresh k7 fun b hb => by omega
  have k07 := k04.trans k47
  have a7 := a4.keep k47 id
  have hd7 := hd4.keep k47 fun _ _ => id
  have hl7 := hl4.keep k47 fun _ _ => id
  have hwd7 := (hwd.keep k6 fun _ _ => id).keep k7 fun b hb e => by omega
  have hwl7 := (hwl.keep k6 fun _ _ => id).keep k7 fun b hb e => by omega
  rw [st7, Mwr_some, unV_not, Mpu_some, Mcd_bool]
  cases hp : parseL s with
  | none =>
    rw [hp] at hd7 hl7 a7 hw
    simp only [Option.getD_none] at hd7 hl7 a7 hw
    have e60 : binV .no .eql (.int .i64 60) (.int .i64 60) = some (.bool true) := rfl
    rw [if_pos (by rfl)]
    simp only [Option.isSome_none, Bool.false_eq_true, if_false, e60, Mpu_some, J1_eq, Mif_bool, if_true]
    rw [a7.ldN (lineC_len hw), Mpu_some, b_Line0, Mpu_some]
    refine call_i (c_same30 (P := fun b => H.size ≤ b ∧ b < h2.size) (Q := fun _ => False) ⟨hd7, hl7, hw⟩ ⟨Sl.nil, SlE.nil, zeroW_wf⟩ (by simp [zeroL])) ?_
    rintro _ h9 ⟨rfl, k9⟩
    rw [show eqL zeroL zeroL = true from eqL_iff.2 rfl]
    simp only [pickV_bool, if_true, Mpu_some, Mif_bool]
    refine call_i (c_awake30 (hT.keep (k07.trans k9) fun _ h => h.elim)) ?_
    rintro _ h10 ⟨rfl, k10⟩
    exact ⟨rfl, (k07.trans k9).trans k10⟩
  | some l =>
    rw [hp] at hd7 hl7 a7 hw hwd7 hwl7 b7 hww
    simp only [Option.getD_some] at hd7 hl7 a7 hw hwd7 hwl7 b7 hww
    have e0 : binV .no .eql (.int .i64 0) (.int .i64 0) = some (.bool true) := rfl
    rw [if_neg (by simp)]
    obtain ⟨_, _, _, _, hsm⟩ := parse_spec hp
    have sm := hsm (by omega)
    rw [a7.ldN (lineC_len hw), Mpu_some]
    refine call_i (c_scShow (sm.v hd7 hl7) (hT.keep k07 fun _ h => h.elim) sm.total) ?_
    rintro _ h14 ⟨rfl, k14⟩
    rw [show_parse hp]
    have k014 := k07.trans k14
    simp only [ex20, ex21, Option.isSome_some, if_true, e0, Mpu_some, J1_eq, Mif_bool]
    rw [(a7.keep k14 id).ldN (lineC_len hw), Mpu_some, (b7.keep k14 id).ldN (lineC_len hww), Mpu_some]
    have hll := sm.ll
    refine call_i (c_same30 ⟨hd7.keep k14 fun _ _ => id, hl7.keep k14 fun _ _ => id, hw⟩ ⟨hwd7.keep k14 fun _ _ => id, hwl7.keep k14 fun _ _ => id, hww⟩ (by omega)) ?_
    rintro _ h16 ⟨rfl, k16⟩
    have es := fun q => str_eql (q := q) (a := s) (b := s)
    rw [show eqL l l = true from eqL_iff.2 rfl]
    simp only [pickV_bool, if_true, Mpu_some, Mif_bool, e0, es, decide_true]
    refine call_i (c_awake30 (hT.keep (k014.trans k16) fun _ h => h.elim)) ?_
    rintro _ h18 ⟨rfl, k18⟩
    exact ⟨rfl, (k014.trans k16).trans k18⟩
end Go.Proofs.YtconalffokhplaaGreatDoor

