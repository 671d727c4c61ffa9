/- JOINED: V134 V135 V136 V137 V138 -/
import Derived.Test.YtconalffokhplaaGreatDoorG6
import Derived.Test.YtconalffokhplaaGreatDoorG1
import Derived.Test.YtconalffokhplaaGreatDoorGO
set_option linter.unusedSimpArgs false
set_option linter.unusedVariables false
/- scripts: the document's numbers, names, Contains. -/
namespace Go.Proofs.YtconalffokhplaaGreatDoor
open Go.X Go.X.Diff
set_option maxRecDepth 100000

/- digits without noughts ahead are just the decimal texts -/
theorem digit_of {x : UInt8} (h : isD x) : digit (x.toNat - 48) = x := by
  unfold isD at h
  apply UInt8.toNat_inj.1
  rw [digit_nat (by omega)]; omega
theorem rev_ind {P : List UInt8 → Prop} (h0 : P []) (h1 : ∀ l x, P l → P (l ++ [x])) : ∀ l, P l := fun l => by
  rw [← List.reverse_reverse l]
  induction l.reverse with
  | nil => exact h0
  | cons x r ih => rw [List.reverse_cons]; exact h1 _ _ ih
theorem val_pos : ∀ {l : List UInt8}, (∀ x ∈ l, isD x) → l ≠ [] → l.headD 0 ≠ 48 → 10 ^ (l.length - 1) ≤ valF l := by
  intro l
  induction l using rev_ind with
  | h0 => intro _ h; exact absurd rfl h
  | h1 l x ih =>
    intro hd _ hh
    rw [valF_snoc]
    cases l with
    | nil =>
      have hx := hd x (by simp)
      unfold isD at hx
      have : x.toNat ≠ 48 := fun e => hh (by
        have : x = 48 := UInt8.toNat_inj.1 (by rw [e]; rfl)
        simp [this])
      simp [valF]; omega
    | cons y r =>
      have := ih (fun z hz => hd z (by simp at hz ⊢; rcases hz with rfl | hz <;> simp_all)) (by simp) (by simpa using hh)
      simp only [List.length_append, List.length_cons, List.length_nil] at this ⊢
      have e : 10 ^ (r.length + 1 + (0 + 1) - 1) = 10 ^ (r.length + 1 - 1) * 10 := by
        rw [show r.length + 1 + (0 + 1) - 1 = (r.length + 1 - 1) + 1 by omega, Nat.pow_succ]
      rw [e]; omega
theorem dec_of : ∀ {l : List UInt8}, (∀ x ∈ l, isD x) → l ≠ [] → (1 < l.length → l.headD 0 ≠ 48) → l = decF (valF l) := by
  intro l
  induction l using rev_ind with
  | h0 => intro _ h; exact absurd rfl h
  | h1 l x ih =>
    intro hd _ hh
    have hx := hd x (by simp)
    have hdx := digit_of hx
    unfold isD at hx
    cases l with
    | nil =>
      rw [List.nil_append, decF]
      have : valF [x] = x.toNat - 48 := by simp [valF]
      rw [this, if_pos (by omega), hdx]
    | cons y r =>
      have hd' : ∀ z ∈ y :: r, isD z := fun z hz => hd z (by rw [List.mem_append]; exact .inl hz)
      have h1 := ih hd' (by simp) (fun _ => by simpa using hh (by simp))
      have hp := val_pos hd' (by simp) (by simpa using hh (by simp))
      have hpos : 0 < 10 ^ ((y :: r).length - 1) := Nat.pow_pos (by omega)
      rw [valF_snoc, decF, if_neg (by omega)]
      rw [show (valF (y :: r) * 10 + (x.toNat - 48)) / 10 = valF (y :: r) by omega, show (valF (y :: r) * 10 + (x.toNat - 48)) % 10 = x.toNat - 48 by omega, hdx, ← h1]
theorem numOk_eq {l : List UInt8} : numOk l = (decide (1 ≤ l.length) && decide (l.length ≤ 9) && !(decide (1 < l.length) && decide (l.headD 0 = 48)) && l.all fun x => decide (48 ≤ x.toNat ∧ x.toNat ≤ 57)) := by
  rw [Bool.eq_iff_iff]
  constructor
  · intro h
    obtain ⟨m, hm, rfl⟩ := numOk_iff.1 h
    have h1 := List.length_pos_iff.2 (decF_ne m)
    have h9 := decF_len_le (k := 9) (n := m) (by omega) hm
    have hdig := decF_digits m
    simp only [Bool.and_eq_true, decide_eq_true_eq, Bool.not_eq_true', Bool.and_eq_false_imp, decide_eq_false_iff_not, List.all_eq_true]
    refine ⟨⟨⟨h1, h9⟩, fun hl hh => ?_⟩, fun x hx => hdig x hx⟩
    have hv := valF_dec m
    -- a nought ahead would make the value too small
    generalize hL : decF m = L at *
    cases L with
    | nil => simp at h1
    | cons y r =>
      simp only [List.headD_cons] at hh
      subst hh
      have hr : ∀ x ∈ r, isD x := fun x hx => hdig x (by simp [hx])
      have hlt := valF_lt hr
      have hvr : valF (48 :: r) = valF r := by simp [valF]
      rw [hvr] at hv
      have h2 := decF_len_le (k := r.length) (n := m) (by simp at hl; omega) (by omega)
      rw [hL] at h2
      simp at h2
      omega
  · intro h
    simp only [Bool.and_eq_true, decide_eq_true_eq, Bool.not_eq_true', Bool.and_eq_false_imp, decide_eq_false_iff_not, List.all_eq_true] at h
    obtain ⟨⟨⟨h1, h9⟩, h0⟩, hd⟩ := h
    unfold numOk
    simp only [Bool.and_eq_true, decide_eq_true_eq]
    exact ⟨h9, dec_of (fun x hx => hd x hx) (List.length_pos_iff.1 h1) h0⟩

theorem c_ref30Number {H : Heap} {l : List UInt8} (hl : l.length ≤ 1048576) : HCalls prg f_syngraphref30_Number [str l] H fun u H' => u = .tuple #[.int .i64 (if numOk l then (valF l : Nat) else 0 : Int), .bool (numOk l)] ∧ Keep (fun _ => False) H H' := by
  apply sh_syngraphref30_Number_calls
  unfold sh_syngraphref30_Number
  have e1 : binV .no .lss (.int .i64 (l.length : Nat)) (.int .i64 1) = some (.bool (decide (l.length < 1))) := by
    rw [binV_int]; simp only [intV]; congr 2; rw [decide_eq_decide]; omega
  have e9 : binV .no .gtr (.int .i64 (l.length : Nat)) (.int .i64 9) = some (.bool (decide (l.length > 9))) := by
    rw [binV_int]; simp only [intV]; congr 2; rw [decide_eq_decide]; omega
  have eg : binV .no .gtr (.int .i64 (l.length : Nat)) (.int .i64 1) = some (.bool (decide (l.length > 1))) := by
    rw [binV_int]; simp only [intV]; congr 2; rw [decide_eq_decide]; omega
  have no : numOk l = false → Value.tuple #[.int .i64 0, .bool false] = .tuple #[.int .i64 (if numOk l then (valF l : Nat) else 0 : Int), .bool (numOk l)] ∧ Keep (fun _ => False) H H := fun h => ⟨by rw [h]; rfl, Keep.refl⟩
  cases h1 : decide (l.length < 1)
  rotate_left
  · simp only [lenT_str, e1, h1, unV_not, Bool.not_true, Bool.not_false, Mif_bool, Mif_undef, pickV_bool, Mcd_bool, Mpu_some, if_true, if_false, Bool.false_eq_true, Bool.true_eq_false, decide_true, decide_false, reduceCtorEq, J1_eq, ex20, ex21, ex30, ex31, ex32, Mre_ok, Mre_nil]
    exact no (by rw [numOk_eq, decide_eq_false (by have := of_decide_eq_true h1; omega)]; rfl)
  have h1' := of_decide_eq_false h1
  obtain ⟨x, r, hlx⟩ : ∃ x r, l = x :: r := by cases l with
    | nil => simp at h1'
    | cons x r => exact ⟨x, r, rfl⟩
  cases h9 : decide (l.length > 9)
  rotate_left
  · simp only [lenT_str, e1, h1, e9, h9, unV_not, Bool.not_true, Bool.not_false, Mif_bool, Mif_undef, pickV_bool, Mcd_bool, Mpu_some, if_true, if_false, Bool.false_eq_true, Bool.true_eq_false, decide_true, decide_false, reduceCtorEq, J1_eq, ex20, ex21, ex30, ex31, ex32, Mre_ok, Mre_nil]
    exact no (by rw [numOk_eq, decide_eq_false (show ¬ l.length ≤ 9 by have := of_decide_eq_true h9; omega), Bool.and_false, Bool.false_and, Bool.false_and])
  have h9' := of_decide_eq_false h9
  have hi : ixT (str l) (.int .i64 0) = some (.int .u8 x.toNat) := ixT_str (i := 0) (by rw [hlx]; rfl)
  have e48 : binV .no .eql (.int .u8 x.toNat) (.int .u8 48) = some (.bool (decide (x = 48))) := by
    rw [binV_int]; simp only [intV]; congr 2
    rw [Bool.eq_iff_iff]
    simp only [beq_iff_eq, decide_eq_true_eq]
    constructor
    · intro h; exact UInt8.toNat_inj.1 (by have : x.toNat = 48 := by omega
                                           rw [this]; rfl)
    · rintro rfl; rfl
  have hbad : decide (l.length > 1) = true → decide (x = 48) = true → numOk l = false := fun ha hb => by
    have : l.headD 0 = 48 := by rw [hlx]; simpa using hb
    rw [numOk_eq, decide_eq_true (show 1 < l.length by simpa using ha), decide_eq_true this]
    simp
  have good : ∀ b1 b2 : Bool, decide (l.length > 1) = b1 → decide (x = 48) = b2 → (b1 && b2) = false → J2 (fun k9 =>
      L2 (fun k11 => fun t4_2 t5_2 h12 =>
        Mpu (some (Value.int .i64 (l.length : Nat))) fun t26 =>
        Mpu (binV .no .lss t5_2 t26) fun t27 =>
        Mcd t27 (
          Mpu (ixT (str l) t5_2) fun t32 =>
          Mpu (binV .no .lss t32 (.int .u8 48)) fun t33 =>
          J1 (fun k13 => Mif t33 false (
              Mpu (ixT (str l) t5_2) fun t37 =>
              Mpu (binV .no .gtr t37 (.int .u8 57)) fun t38 =>
              k13 t38 h12) (
              k13 undef h12)) fun t38_2 h14 =>
          Mpu (pickV t33 (.bool true) t38_2) fun t39 =>
          Mcd t39 (
            (fun (u : Value) (H' : Heap) => u = Value.tuple #[.int .i64 (if numOk l then (valF l : Nat) else 0 : Int), .bool (numOk l)] ∧ Keep (fun _ => False) H H') (Value.tuple #[(.int .i64 0), (.bool false)]) h14) (
            Mpu (binV .no .mul (.int .i64 10) t4_2) fun t41 =>
            Mpu (ixT (str l) t5_2) fun t44 =>
            Mpu (binV .no .sub t44 (.int .u8 48)) fun t45 =>
            Mpu (cvI .i64 t45) fun t46 =>
            Mpu (binV .no .add t41 t46) fun t47 =>
            Mpu (binV .no .add t5_2 (.int .i64 1)) fun t29 =>
            k11 t47 t29 h14)) (
          k9 t4_2 t5_2 h12)) ((.int .i64 0)) ((.int .i64 0)) H) fun t4_4 t5_4 h10 =>
    (fun (u : Value) (H' : Heap) => u = Value.tuple #[.int .i64 (if numOk l then (valF l : Nat) else 0 : Int), .bool (numOk l)] ∧ Keep (fun _ => False) H H') (Value.tuple #[t4_4, (.bool true)]) h10 := by
    intro b1 b2 hb1 hb2 hb
    have hyes : (∀ y ∈ l, isD y) → numOk l = true := fun hd => by
      rw [numOk_eq, decide_eq_true (show 1 ≤ l.length by omega), decide_eq_true (show l.length ≤ 9 by omega)]
      have e : l.headD 0 = x := by rw [hlx]; rfl
      have e2 : decide (1 < l.length) = b1 := hb1
      rw [e, e2, hb2, hb]
      simp only [Bool.and_self, Bool.not_false, Bool.true_and, List.all_eq_true, decide_eq_true_eq]
      exact fun y hy => hd y hy
    refine J2_i (fun t _ h => t = .int .i64 (valF l : Nat) ∧ (∀ y ∈ l, isD y) ∧ H = h) (fun k hk => ?_) ?_
    · refine L2_i (fun t u h => ∃ i : Nat, i ≤ l.length ∧ u = .int .i64 (i : Nat) ∧ t = .int .i64 (valF (l.take i) : Nat) ∧ (∀ y ∈ l.take i, isD y) ∧ H = h) (fun _ u _ => match u with | .int _ t => l.length - t.toNat | _ => 0) ⟨0, Nat.zero_le _, rfl, rfl, by simp, rfl⟩ ?_
      rintro _ _ _ ⟨i, hi, rfl, rfl, hD, rfl⟩ kk hkk
      have el : binV .no .lss (.int .i64 (i : Nat)) (.int .i64 (l.length : Nat)) = some (.bool (decide (i < l.length))) := by
        rw [binV_int]; simp only [intV]; congr 2; rw [decide_eq_decide]; omega
      rw [Mpu_some, el, Mpu_some, Mcd_bool]
      by_cases hlt : i < l.length
      · rw [if_pos (by simpa using hlt)]
        have hg : l[i]? = some l[i] := List.getElem?_eq_getElem hlt
        have hix : ixT (str l) (.int .i64 (i : Nat)) = some (.int .u8 l[i].toNat) := ixT_str hg
        have hmem : l[i] ∈ l := List.getElem_mem hlt
        have htk : l.take (i + 1) = l.take i ++ [l[i]] := by rw [List.take_add_one, hg]; rfl
        generalize l[i] = y at *
        have c1 : binV .no .lss (.int .u8 y.toNat) (.int .u8 48) = some (.bool (decide (y.toNat < 48))) := by
          rw [binV_int]; simp only [intV]; congr 2; rw [decide_eq_decide]; omega
        have c2 : binV .no .gtr (.int .u8 y.toNat) (.int .u8 57) = some (.bool (decide (y.toNat > 57))) := by
          rw [binV_int]; simp only [intV]; congr 2; rw [decide_eq_decide]; omega
        have bad : ¬ isD y → numOk l = false := fun hn => by
          cases hok : numOk l
          · rfl
          · rw [numOk_eq] at hok
            simp only [Bool.and_eq_true, List.all_eq_true, decide_eq_true_eq] at hok
            exact absurd (hok.2 y hmem) hn
        cases q1 : decide (y.toNat < 48)
        rotate_left
        · simp only [hix, c1, q1, unV_not, Bool.not_true, Bool.not_false, Mif_bool, Mif_undef, pickV_bool, Mcd_bool, Mpu_some, if_true, if_false, Bool.false_eq_true, Bool.true_eq_false, decide_true, decide_false, reduceCtorEq, J1_eq, ex20, ex21, ex30, ex31, ex32, Mre_ok, Mre_nil]
          exact no (bad fun h => by have := of_decide_eq_true q1; unfold isD at h; omega)
        cases q2 : decide (y.toNat > 57)
        rotate_left
        · simp only [hix, c1, q1, c2, q2, unV_not, Bool.not_true, Bool.not_false, Mif_bool, Mif_undef, pickV_bool, Mcd_bool, Mpu_some, if_true, if_false, Bool.false_eq_true, Bool.true_eq_false, decide_true, decide_false, reduceCtorEq, J1_eq, ex20, ex21, ex30, ex31, ex32, Mre_ok, Mre_nil]
          exact no (bad fun h => by have := of_decide_eq_true q2; unfold isD at h; omega)
        have q1' := of_decide_eq_false q1
        have q2' := of_decide_eq_false q2
        have hdy : isD y := by unfold isD; omega
        have hvl := valF_lt hD
        have hp : (10 : Nat) ^ (l.take i).length ≤ 10 ^ 9 := Nat.pow_le_pow_right (by omega) (by simp; omega)
        have a1 : binV .no .mul (.int .i64 10) (.int .i64 (valF (l.take i) : Nat)) = some (.int .i64 ((valF (l.take i) * 10 : Nat) : Int)) := by
          rw [binV_int]; simp only [intV]; rw [wrap_id (by omega) (by omega)]; congr 2; omega
        have a2 : binV .no .sub (.int .u8 y.toNat) (.int .u8 48) = some (.int .u8 ((y.toNat - 48 : Nat) : Int)) := by
          rw [binV_int]; simp only [intV]; rw [wrap_u8 (by omega) (by omega)]; congr 2; omega
        have a3 : cvI .i64 (.int .u8 ((y.toNat - 48 : Nat) : Int)) = some (.int .i64 ((y.toNat - 48 : Nat) : Int)) := by
          rw [cvI_int, wrap_id (by omega) (by omega)]
        have a4 : binV .no .add (.int .i64 ((valF (l.take i) * 10 : Nat) : Int)) (.int .i64 ((y.toNat - 48 : Nat) : Int)) = some (.int .i64 ((valF (l.take (i + 1)) : Nat) : Int)) := by
          rw [binV_int]; simp only [intV]; rw [wrap_id (by omega) (by omega), htk, valF_snoc]; rfl
        have a5 := add_one' (n := i) (by omega)
        simp only [hix, c1, q1, c2, q2, a1, a2, a3, a4, a5, unV_not, Bool.not_true, Bool.not_false, Mif_bool, Mif_undef, pickV_bool, Mcd_bool, Mpu_some, if_true, if_false, Bool.false_eq_true, Bool.true_eq_false, decide_true, decide_false, reduceCtorEq, J1_eq, ex20, ex21, ex30, ex31, ex32, Mre_ok, Mre_nil]
        refine hkk _ _ _ ⟨i + 1, by omega, rfl, rfl, fun z hz => ?_, rfl⟩ (by show l.length - (i + 1) < l.length - i; omega)
        rw [htk] at hz
        rcases List.mem_append.1 hz with hz | hz
        · exact hD z hz
        · simp at hz; subst hz; exact hdy
      · rw [if_neg (by simpa using hlt)]
        rw [List.take_of_length_le (by omega)] at hD ⊢
        exact hk _ _ _ ⟨rfl, hD, rfl⟩
    · rintro _ _ _ ⟨rfl, hD, rfl⟩
      exact ⟨by rw [hyes hD]; rfl, Keep.refl⟩
  cases hg : decide (l.length > 1)
  · simp only [lenT_str, e1, h1, e9, h9, eg, hg, unV_not, Bool.not_true, Bool.not_false, Mif_bool, Mif_undef, pickV_bool, Mcd_bool, Mpu_some, if_true, if_false, Bool.false_eq_true, Bool.true_eq_false, decide_true, decide_false, reduceCtorEq, J1_eq, ex20, ex21, ex30, ex31, ex32, Mre_ok, Mre_nil]
    simpa only [Mpu_some, J1_eq] using good false _ hg rfl rfl
  cases h48 : decide (x = 48)
  · simp only [lenT_str, e1, h1, e9, h9, eg, hg, hi, e48, h48, unV_not, Bool.not_true, Bool.not_false, Mif_bool, Mif_undef, pickV_bool, Mcd_bool, Mpu_some, if_true, if_false, Bool.false_eq_true, Bool.true_eq_false, decide_true, decide_false, reduceCtorEq, J1_eq, ex20, ex21, ex30, ex31, ex32, Mre_ok, Mre_nil]
    simpa only [Mpu_some, J1_eq] using good true false hg h48 rfl
  · simp only [lenT_str, e1, h1, e9, h9, eg, hg, hi, e48, h48, unV_not, Bool.not_true, Bool.not_false, Mif_bool, Mif_undef, pickV_bool, Mcd_bool, Mpu_some, if_true, if_false, Bool.false_eq_true, Bool.true_eq_false, decide_true, decide_false, reduceCtorEq, J1_eq, ex20, ex21, ex30, ex31, ex32, Mre_ok, Mre_nil]
    exact no (hbad hg h48)
end Go.Proofs.YtconalffokhplaaGreatDoor

/- scripts: names, lists of numbers. -/
namespace Go.Proofs.YtconalffokhplaaGreatDoor
open Go.X Go.X.Diff
set_option maxRecDepth 100000

theorem c_strContains {H : Heap} {l : List UInt8} {c : UInt8} : HCalls prg f_strings_Contains [str l, str [c]] H fun u H' => u = .bool (decide (c ∈ l)) ∧ Keep (fun _ => False) H H' := by
  apply sh_strings_Contains_calls
  unfold sh_strings_Contains
  refine call_i c_sIndex ?_
  rintro _ _ ⟨rfl, rfl⟩
  rcases index_cases l c with he | ⟨o, he⟩
  · have e1 : binV .no .geq (.int .i64 (-1)) (.int .i64 0) = some (.bool false) := rfl
    rw [he, e1, Mpu_some]
    exact ⟨by rw [decide_eq_false (index_none he)], Keep.refl⟩
  · rw [he, ge_zero', Mpu_some]
    obtain ⟨h1, h2, h3⟩ := index_some he
    exact ⟨by rw [decide_eq_true (by rw [h3]; simp)], Keep.refl⟩

def scNameOk (l : List UInt8) : Bool := decide (l ≠ []) && decide (l.length ≤ 64) && !decide (32 ∈ l) && !decide (10 ∈ l)
theorem c_scName {H : Heap} {l : List UInt8} (hl : l.length ≤ 1048576) : HCalls prg f_script_name [str l] H fun u H' => u = .bool (scNameOk l) ∧ Keep (fun _ => False) H H' := by
  apply sh_script_name_calls
  unfold sh_script_name
  have e0 : binV .no .neq (str l) (.string ⟨#[]⟩) = some (.bool (decide (l ≠ []))) := by
    have := str_neq (q := .no) (a := l) (b := [])
    rw [show (!decide (l = [])) = decide (l ≠ []) by simp] at this
    exact this
  have e64 : binV .no .leq (.int .i64 (l.length : Nat)) (.int .i64 64) = some (.bool (decide (l.length ≤ 64))) := by
    rw [binV_int]; simp only [intV]; congr 2; rw [decide_eq_decide]; omega
  have s1 : (Value.string ⟨#[32]⟩) = str [32] := rfl
  have s2 : (Value.string ⟨#[10]⟩) = str [10] := rfl
  unfold scNameOk
  rw [e0, Mpu_some, s1, s2]
  cases h0 : decide (l ≠ [])
  · simp only [unV_not, Bool.not_true, Bool.not_false, Mif_bool, Mif_undef, pickV_bool, Mcd_bool, Mpu_some, if_true, if_false, Bool.false_eq_true, Bool.true_eq_false, decide_true, decide_false, reduceCtorEq, J1_eq, ex20, ex21, ex30, ex31, ex32, Mre_ok, Mre_nil, Bool.false_and]
    exact ⟨by trivial, Keep.refl⟩
  cases h1 : decide (l.length ≤ 64)
  · simp only [lenT_str, e64, h1, unV_not, Bool.not_true, Bool.not_false, Mif_bool, Mif_undef, pickV_bool, Mcd_bool, Mpu_some, if_true, if_false, Bool.false_eq_true, Bool.true_eq_false, decide_true, decide_false, reduceCtorEq, J1_eq, ex20, ex21, ex30, ex31, ex32, Mre_ok, Mre_nil, Bool.true_and, Bool.false_and]
    exact ⟨by trivial, Keep.refl⟩
  simp only [lenT_str, e64, h1, unV_not, Bool.not_true, Bool.not_false, Mif_bool, Mif_undef, pickV_bool, Mcd_bool, Mpu_some, if_true, if_false, Bool.false_eq_true, Bool.true_eq_false, decide_true, decide_false, reduceCtorEq, J1_eq, ex20, ex21, ex30, ex31, ex32, Mre_ok, Mre_nil, Bool.true_and]
  refine call_i c_strContains ?_
  rintro _ h2 ⟨rfl, k2⟩
  cases h3 : decide (32 ∈ l)
  · simp only [unV_not, Bool.not_true, Bool.not_false, Mif_bool, Mif_undef, pickV_bool, Mcd_bool, Mpu_some, if_true, if_false, Bool.false_eq_true, Bool.true_eq_false, decide_true, decide_false, reduceCtorEq, J1_eq, ex20, ex21, ex30, ex31, ex32, Mre_ok, Mre_nil, Bool.true_and]
    refine call_i c_strContains ?_
    rintro _ h4 ⟨rfl, k4⟩
    simp only [unV_not, Bool.not_true, Bool.not_false, Mif_bool, Mif_undef, pickV_bool, Mcd_bool, Mpu_some, if_true, if_false, Bool.false_eq_true, Bool.true_eq_false, decide_true, decide_false, reduceCtorEq, J1_eq, ex20, ex21, ex30, ex31, ex32, Mre_ok, Mre_nil]
    exact ⟨by trivial, k2.trans k4⟩
  · simp only [unV_not, Bool.not_true, Bool.not_false, Mif_bool, Mif_undef, pickV_bool, Mcd_bool, Mpu_some, if_true, if_false, Bool.false_eq_true, Bool.true_eq_false, decide_true, decide_false, reduceCtorEq, J1_eq, ex20, ex21, ex30, ex31, ex32, Mre_ok, Mre_nil, Bool.false_and]
    exact ⟨by trivial, k2⟩

/- lists -/
def listOk (l : List UInt8) : Bool := (splitF 44 l).all numOk
def listV (l : List UInt8) : List Int := (splitF 44 l).map fun x => ((valF x : Nat) : Int)
abbrev ints (l : List Int) : List (List Value) := rows1 (l.map (Value.int .i64))
theorem z_SInt : zcells prg T_S_int = some [Value.slice none 0 0].toArray := by kernel_rfl
theorem z_bool : zcells prg T_bool = some [Value.bool false].toArray := by kernel_rfl
theorem bslI1 {n : Int} : bslV prg T_int 1 [(0, .int .i64 n)] = some #[.int .i64 n] := by kernel_rfl

structure LsI (H : Heap) (q2 q3 q4 n5 : Nat) (l : List UInt8) (j : Nat) (h : Heap) : Prop where
  a : At h q2 [.slice none 0 0]
  b : At h q3 [.bool false]
  c : ∃ v, At h q4 [v] ∧ BufE 1 (n5 + 2 ≤ ·) h v (ints (((splitF 44 l).take j).map fun x => ((valF x : Nat) : Int)))
  ok : ((splitF 44 l).take j).all numOk = true
  k : Keep (fun _ => False) H h
theorem LsI.keep {H : Heap} {q2 q3 q4 n5 : Nat} {l : List UInt8} {j : Nat} {h h' : Heap} {S : Nat → Prop} (p : LsI H q2 q3 q4 n5 l j h) (k : Keep S h h') (hs : ∀ b, S b → H.size ≤ b ∧ b ≠ q2 ∧ b ≠ q3 ∧ b ≠ q4 ∧ b < n5 + 2) : LsI H q2 q3 q4 n5 l j h' := by
  obtain ⟨v, h1, h2⟩ := p.c
  exact ⟨p.a.keep k fun h => (hs _ h).2.1 rfl, p.b.keep k fun h => (hs _ h).2.2.1 rfl, ⟨v, h1.keep k fun h => (hs _ h).2.2.2.1 rfl, h2.keep k fun b hb hS => by have := (hs b hS).2.2.2.2; omega⟩, p.ok, p.k.fresh k fun b h => (hs b h).1⟩

set_option maxHeartbeats 1000000 in
theorem c_scList {H : Heap} {l : List UInt8} (hE : ErrT H) (hT : PowT H) (hl : l.length ≤ 1048576) :
    HCalls prg f_script_list [str l] H fun u H' => ((listOk l = true ∧ ∃ v, u = .tuple #[v, .bool true] ∧ SlE 1 (fun b => H.size ≤ b ∧ b < H'.size) H' v (ints (listV l))) ∨ (listOk l = false ∧ u = .tuple #[.slice none 0 0, .bool false])) ∧ Keep (fun _ => False) H H' := by
  apply sh_script_list_calls
  unfold sh_script_list
  simp only [z_SInt, z_bool, Mnew_some]
  generalize hH1 : H.push (.cells [Value.slice none 0 0].toArray T_S_int (0, 0)) = H1
  have k1 : Keep (fun _ => False) H H1 := by rw [← hH1]; exact Keep.push
  have a1 : At H1 H.size [.slice none 0 0] := by rw [← hH1]; exact At.push
  have s1 : H1.size = H.size + 1 := by rw [← hH1]; simp
  generalize hH2 : H1.push (.cells [Value.bool false].toArray T_bool (0, 0)) = H2
  have k2 : Keep (fun _ => False) H1 H2 := by rw [← hH2]; exact Keep.push
  have b2 : At H2 H1.size [.bool false] := by rw [← hH2]; exact At.push
  have s2 : H2.size = H1.size + 1 := by rw [← hH2]; simp
  generalize hH3 : H2.push (.cells [Value.slice none 0 0].toArray T_S_int (0, 0)) = H3
  have k3 : Keep (fun _ => False) H2 H3 := by rw [← hH3]; exact Keep.push
  have c3 : At H3 H2.size [.slice none 0 0] := by rw [← hH3]; exact At.push
  have s3 : H3.size = H2.size + 1 := by rw [← hH3]; simp
  have sc : (Value.string ⟨#[44]⟩) = str [44] := rfl
  rw [sc]
  refine call_i c_SplitSeq ?_
  rintro _ h5 ⟨qs, qp, qn, rfl, hst, hq, k5⟩
  have g5 := k5.1
  have k05 := k1.trans (k2.trans (k3.trans k5))
  have inv0 : LsI H H.size H1.size H2.size h5.size l 0 h5 :=
    ⟨(((a1.keep k2 id).keep k3 id).keep k5 id), ((b2.keep k3 id).keep k5 id), ⟨_, c3.keep k5 id, BufE.nil⟩, rfl, k05⟩
  have hne : ∀ b, (b = H.size ∨ b = H1.size ∨ b = H2.size ∨ h5.size + 2 ≤ b) → b ≠ h5.size ∧ b ≠ h5.size + 1 ∧ ¬ (b = qs ∨ b = qp ∨ b = qn) := fun b hb => by
    refine ⟨by omega, by omega, fun hbq => ?_⟩
    have := hq b hbq
    omega
  have hxl : ((splitF 44 l).map fun x => [str x]).length = (splitF 44 l).length := by simp
  refine range_i (xs := (splitF 44 l).map fun x => [str x]) (S := fun b => b = qs ∨ b = qp ∨ b = qn) (W := fun b => b = H.size ∨ b = H1.size ∨ b = H2.size ∨ h5.size + 2 ≤ b) (St := SplitSt qs qp qn l 44)
    (split_iter (by omega)) (fun o o' => ?_) k05.1
    (LsI H H.size H1.size H2.size h5.size l) (fun c h => c = .ret ∧ listOk l = false ∧ At h H.size [.slice none 0 0] ∧ At h H1.size [.bool false] ∧ Keep (fun _ => False) H h) inv0
    (fun i h h' hI k => hI.keep k fun b hb => ?_) (fun c h h' hX k => ?_) (fun b hb => (hq b hb).2) (fun b hb => hne b hb) ?_ ?_ ?_
  · have kp : Keep (fun _ => False) h5 ((h5.push o).push o') := Keep.push.trans Keep.push
    exact ⟨hst.s.keep kp id, hst.p.keep kp id, hst.n.keep kp id, hst.ne⟩
  · rcases hb with hb | rfl | rfl
    · have := hq b hb
      exact ⟨by omega, by omega, by omega, by omega, by omega⟩
    · exact ⟨by omega, by omega, by omega, by omega, by omega⟩
    · exact ⟨by omega, by omega, by omega, by omega, by omega⟩
  · obtain ⟨rfl, x0, x1, x2, x4⟩ := hX
    have nb : ∀ b, (b = qs ∨ b = qp ∨ b = qn) ∨ b = h5.size ∨ b = h5.size + 1 → H.size ≤ b ∧ b ≠ H.size ∧ b ≠ H1.size := fun b hb => by
      rcases hb with hb | rfl | rfl
      · have := hq b hb; omega
      · omega
      · omega
    exact ⟨rfl, x0, x1.keep k fun hb => (nb _ hb).2.1 rfl, x2.keep k fun hb => (nb _ hb).2.2 rfl, x4.fresh k fun b hb => (nb b hb).1⟩
  · intro j x h r hx hI hloop hready K hN hEx
    obtain ⟨y, hy, rfl⟩ : ∃ y, (splitF 44 l)[j]? = some y ∧ x = [str y] := by
      rw [List.getElem?_map] at hx
      obtain ⟨y, h1, h2⟩ := Option.map_eq_some_iff.1 hx
      exact ⟨y, h1, h2.symm⟩
    refine ⟨rfl, r, hloop, hready, ?_⟩
    have hsz := lt_of hloop
    generalize hhb : h.setIfInBounds (h5.size + 1) (.loop { r with state := .busy }) = hb at *
    have kb : Keep (· = h5.size + 1) h hb := by rw [← hhb]; exact Keep.set rfl
    have gb := kb.1
    have hI := hI.keep kb fun b hb => by subst hb; exact ⟨by omega, by omega, by omega, by omega, by omega⟩
    have hmem : y ∈ splitF 44 l := List.mem_of_getElem? hy
    have hyl := splitF_len hmem
    have htk : (splitF 44 l).take (j + 1) = (splitF 44 l).take j ++ [y] := by rw [List.take_add_one, hy]; rfl
    show Mcall prg f_script_number [str y] hb _
    refine call_i (c_scNumber (hE.keep hI.k fun _ h => h.elim) (hT.keep hI.k fun _ h => h.elim) (by omega)) ?_
    rintro _ h11 ⟨⟨n, rfl, hnv⟩, k11⟩
    have hI1 := hI.keep k11 fun b hb => hb.elim
    have g11 := k11.1
    cases hok : numOk y
    · obtain ⟨h12, st12, a12, k12⟩ := hI1.a.st1 (i := 0) (v := .slice none 0 0) (by simp) rfl
      have b12 := hI1.b.keep k12 (show ¬ H1.size = H.size by omega)
      obtain ⟨h13, st13, b13, k13⟩ := b12.st1 (i := 0) (v := .bool false) (by simp) rfl
      simp only [ex20, ex21, st12, st13, Mwr_some, unV_not, Bool.not_true, Bool.not_false, Mif_bool, Mif_undef, pickV_bool, Mcd_bool, Mpu_some, if_true, if_false, Bool.false_eq_true, Bool.true_eq_false, decide_true, decide_false, reduceCtorEq, J1_eq, ex20, ex21, ex30, ex31, ex32, Mre_ok, Mre_nil]
      have kW : Keep (fun b => b = H.size ∨ b = H1.size ∨ b = H2.size ∨ h5.size + 2 ≤ b) hb h13 := ((k11.mono fun _ _ h => h.elim).trans (k12.mono fun b _ h => .inl h)).trans (k13.mono fun b _ h => .inr (.inl h))
      refine hEx _ h13 kW ⟨rfl, List.all_eq_false.2 ⟨y, hmem, by simp [hok]⟩, a12.keep k13 (show ¬ H.size = H1.size by omega), b13, ?_⟩
      exact hI.k.fresh kW fun b hb' => by omega
    · obtain ⟨v, cv, hbv⟩ := hI1.c
      have d4 : ld1 h11 (Ptr H2.size 0) = some v := cv.ld rfl
      simp only [ex20, ex21, d4, bslI1, Mnews_some, unV_not, Bool.not_true, Bool.not_false, Mif_bool, Mif_undef, pickV_bool, Mcd_bool, Mpu_some, if_true, if_false, Bool.false_eq_true, Bool.true_eq_false, decide_true, decide_false, reduceCtorEq, J1_eq, ex20, ex21, ex30, ex31, ex32, Mre_ok, Mre_nil]
      have hn := hnv hok
      subst hn
      generalize hH14 : h11.push (.cells #[.int .i64 ((valF y : Nat) : Int)] T_int (0, 0)) = h14
      have k14 : Keep (fun _ => False) h11 h14 := by rw [← hH14]; exact Keep.push
      have s14 : h14.size = h11.size + 1 := by rw [← hH14]; simp
      have hx14 : SlE 1 (· = h11.size) h14 (.slice (some ⟨h11.size, 0, none⟩) 1 1) (ints [((valF y : Nat) : Int)]) :=
        ⟨⟨_, 1, rfl, Nat.le_refl _, .inr ⟨h11.size, 0, rfl, rfl, by rw [rows1_flat, ← hH14]; exact Pt.of push_new⟩⟩, rows1_el, rows1_one fun v hv => by simp at hv; subst hv; rfl⟩
      have hlen : (splitF 44 l).length ≤ 1048577 := by
        rw [split_count]
        have := List.count_le_length (a := (44 : UInt8)) (l := l)
        omega
      refine (hbv.keep k14 fun _ _ => id).app hx14 (by omega) (by simp; omega) (by show h5.size + 2 ≤ h14.size; omega) fun v2 h15 hv2 k15 => ?_
      have cv15 : At h15 H2.size [v] := (cv.keep k14 id).keep k15 (by omega)
      obtain ⟨h16, st16, c16, k16⟩ := cv15.st1 (i := 0) (v := v2) (by simp) hv2.sl.oneC
      rw [st16, Mwr_some]
      have kW : Keep (fun b => b = H.size ∨ b = H1.size ∨ b = H2.size ∨ h5.size + 2 ≤ b) hb h16 := (((k11.mono fun _ _ h => h.elim).trans (k14.mono fun _ _ h => h.elim)).trans (k15.mono fun b _ h => .inr (.inr (.inr h)))).trans (k16.mono fun b _ h => .inr (.inr (.inl h)))
      have kA : ∀ {q cs}, q ≠ H2.size → q < h5.size → At h11 q cs → At h16 q cs := fun h1 h2 a => ((a.keep k14 id).keep k15 (by omega)).keep k16 h1
      refine hN h16 kW ⟨kA (by omega) (by omega) hI1.a, kA (by omega) (by omega) hI1.b, ⟨v2, c16, ?_⟩, ?_, hI.k.fresh kW fun b hb' => by omega⟩
      · have e : ints (((splitF 44 l).take (j + 1)).map fun x => ((valF x : Nat) : Int)) = ints (((splitF 44 l).take j).map fun x => ((valF x : Nat) : Int)) ++ ints [((valF y : Nat) : Int)] := by
          rw [htk]; simp [rows1]
        rw [e]
        exact hv2.keep k16 fun b hb' e' => by omega
      · rw [htk, List.all_append, hI1.ok]; simp [hok]
  · intro h hsz hI
    refine .inl ⟨rfl, ?_⟩
    rw [hxl] at hI
    have hok := hI.ok
    obtain ⟨v, cv, hbv⟩ := hI.c
    rw [List.take_length] at hok hbv
    have d4 : ld1 h (Ptr H2.size 0) = some v := cv.ld rfl
    obtain ⟨h17, st17, a17, k17⟩ := hI.a.st1 (i := 0) (v := v) (by simp) hbv.sl.oneC
    have b17 := hI.b.keep k17 (show ¬ H1.size = H.size by omega)
    obtain ⟨h18, st18, b18, k18⟩ := b17.st1 (i := 0) (v := .bool true) (by simp) rfl
    rw [d4, Mpu_some, st17, Mwr_some, st18, Mwr_some]
    refine mcl_i fun h19 hc => ?_
    have a18 := a17.keep k18 (show ¬ H.size = H1.size by omega)
    have kk : Keep (fun _ => False) H h18 := (hI.k.fresh k17 fun b hb => by omega).fresh k18 fun b hb => by omega
    have k19 := keep_closed kk hc
    have d2 : ld1 h19 (Ptr H.size 0) = some v := (a18.closed hc).ld rfl
    have d3 : ld1 h19 (Ptr H1.size 0) = some (.bool true) := (b18.closed hc).ld rfl
    rw [d2, Mpu_some, d3, Mpu_some]
    have hs := (hbv.keep k17 fun b hb e => by omega).keep k18 fun b hb e => by omega
    obtain ⟨⟨ea, ec, e1, e2, e3⟩, e4, e5⟩ := hs.sl
    refine ⟨.inl ⟨hok, v, rfl, ⟨ea, ec, e1, e2, ?_⟩, e4, e5⟩, k19⟩
    rcases e3 with e3 | ⟨b, o, e3, hb, hp⟩
    · exact .inl e3
    · obtain ⟨xx, T, f, hbb, h1⟩ := hp
      have := hc.2.2 _ _ hbb (fun ds e => by cases e)
      exact .inr ⟨b, o, e3, ⟨by omega, lt_of this⟩, xx, T, f, this, h1⟩
  · rintro c h hsz ⟨rfl, x0, x1, x2, x4⟩
    refine .inr ⟨rfl, mcl_i fun h19 hc => ?_⟩
    have k19 := keep_closed x4 hc
    have d2 : ld1 h19 (Ptr H.size 0) = some (.slice none 0 0) := (x1.closed hc).ld rfl
    have d3 : ld1 h19 (Ptr H1.size 0) = some (.bool false) := (x2.closed hc).ld rfl
    rw [d2, Mpu_some, d3, Mpu_some]
    exact ⟨.inr ⟨x0, rfl⟩, k19⟩
end Go.Proofs.YtconalffokhplaaGreatDoor

/- scripts: data and its digits. -/
namespace Go.Proofs.YtconalffokhplaaGreatDoor
open Go.X Go.X.Diff
set_option maxRecDepth 100000

def hexL : List UInt8 := [48, 49, 50, 51, 52, 53, 54, 55, 56, 57, 97, 98, 99, 100, 101, 102]
def hexOk (x : UInt8) : Bool := (decide (48 ≤ x.toNat) && decide (x.toNat ≤ 57)) || (decide (97 ≤ x.toNat) && decide (x.toNat ≤ 102))
def hexV (x : UInt8) : Nat := if x.toNat ≤ 57 then x.toNat - 48 else x.toNat - 87
theorem all_u8 {P : UInt8 → Prop} (h : ∀ n : Fin 256, P (UInt8.ofNat n.val)) (x : UInt8) : P x := by
  have := h ⟨x.toNat, x.toNat_lt⟩
  simpa using this
theorem hex_contains : ∀ x : UInt8, hexL.contains x = hexOk x := all_u8 (by decide +kernel)
theorem hex_index : ∀ x : UInt8, hexOk x = true → Lib.indexByte hexL x = (hexV x : Nat) := all_u8 (by decide +kernel)
theorem hexV_lt : ∀ x : UInt8, hexOk x = true → hexV x < 16 := all_u8 (by decide +kernel)
def pairs : List UInt8 → List UInt8
  | a :: b :: r => UInt8.ofNat (hexV a * 16 + hexV b) :: pairs r
  | _ => []
theorem pairs_len : ∀ l : List UInt8, (pairs l).length ≤ l.length
  | [] => by simp [pairs]
  | [_] => by simp [pairs]
  | a :: b :: r => by have := pairs_len r; simp [pairs]; omega
theorem pairs_take : ∀ {l : List UInt8} {k : Nat} {a b : UInt8}, l[2 * k]? = some a → l[2 * k + 1]? = some b → pairs (l.take (2 * k + 2)) = pairs (l.take (2 * k)) ++ [UInt8.ofNat (hexV a * 16 + hexV b)]
  | [], k, a, b, h, _ => by simp at h
  | [x], k, a, b, _, h => by simp at h
  | x :: y :: r, 0, a, b, h1, h2 => by
    simp at h1 h2; subst h1 h2
    simp [pairs]
  | x :: y :: r, k + 1, a, b, h1, h2 => by
    have e1 : 2 * (k + 1) = 2 * k + 2 := by omega
    rw [e1] at h1 h2 ⊢
    have ih := pairs_take (l := r) (k := k) (a := a) (b := b) (by simpa using h1) (by simpa using h2)
    rw [List.take_succ_cons, List.take_succ_cons, pairs, ih, List.take_succ_cons, List.take_succ_cons, pairs]; rfl

def dataF (l : List UInt8) : Option (List UInt8) := if l = [45] then some [] else if l ≠ [] ∧ l.length % 2 = 0 ∧ l.all hexOk = true then some (pairs l) else none

theorem or_hex : ∀ a : Fin 16, ∀ b : Fin 16, binV .no .or (.int .i64 ((a.val * 16 : Nat) : Int)) (.int .i64 ((b.val : Nat) : Int)) = some (.int .i64 ((a.val * 16 + b.val : Nat) : Int)) := by
  intro a b
  rw [binV_int]; simp only [intV]
  congr 2
  revert a b
  decide +kernel
theorem shl_hex {a : Nat} (h : a < 16) : binV .no .shl (.int .i64 (a : Nat)) (.int .u64 4) = some (.int .i64 ((a * 16 : Nat) : Int)) := by
  rw [binV_shl]; simp only [intV]
  rw [if_neg (by decide)]
  have : (2 : Int) ^ (min (4 : Int).toNat IntKind.i64.bits) = 16 := rfl
  rw [this, wrap_id (by omega) (by omega)]; rfl

set_option maxHeartbeats 1000000 in
theorem c_scData {H : Heap} {l : List UInt8} (hl : l.length ≤ 1048576) :
    HCalls prg f_script_data [str l] H fun u H' => ((∃ v d, dataF l = some d ∧ u = .tuple #[v, .bool true] ∧ Sl (fun b => H.size ≤ b ∧ b < H'.size) H' v d) ∨ (dataF l = none ∧ u = .tuple #[.slice none 0 0, .bool false])) ∧ Keep (fun _ => False) H H' := by
  apply sh_script_data_calls
  unfold sh_script_data
  have s0 : (Value.string ⟨#[45]⟩) = str [45] := rfl
  have s1 : (Value.string ⟨#[]⟩) = str [] := rfl
  have sh : (Value.string ⟨#[48, 49, 50, 51, 52, 53, 54, 55, 56, 57, 97, 98, 99, 100, 101, 102]⟩) = str hexL := rfl
  have e0 := fun q => str_eql (q := q) (a := l) (b := [45])
  have e1 := fun q => str_eql (q := q) (a := l) (b := [])
  rw [s0, s1, sh]
  rw [e0, Mpu_some, Mcd_bool]
  by_cases h45 : l = [45]
  · rw [if_pos (by simpa using h45)]
    exact ⟨.inl ⟨_, [], by unfold dataF; rw [if_pos h45], rfl, Sl.nil⟩, Keep.refl⟩
  rw [if_neg (by simpa using h45)]
  have no : ∀ h, Keep (fun _ => False) H h → ¬ (l ≠ [] ∧ l.length % 2 = 0 ∧ l.all hexOk = true) → ((∃ v d, dataF l = some d ∧ Value.tuple #[.slice none 0 0, .bool false] = .tuple #[v, .bool true] ∧ Sl (fun b => H.size ≤ b ∧ b < h.size) h v d) ∨ (dataF l = none ∧ Value.tuple #[.slice none 0 0, .bool false] = .tuple #[.slice none 0 0, .bool false])) ∧ Keep (fun _ => False) H h := fun h kh hn => ⟨.inr ⟨by unfold dataF; rw [if_neg h45, if_neg hn], rfl⟩, kh⟩
  cases hnil : decide (l = [])
  rotate_left
  · simp only [e1, hnil, unV_not, Bool.not_true, Bool.not_false, Mif_bool, Mif_undef, pickV_bool, Mcd_bool, Mpu_some, if_true, if_false, Bool.false_eq_true, Bool.true_eq_false, decide_true, decide_false, reduceCtorEq, J1_eq, ex20, ex21, ex30, ex31, ex32, Mre_ok, Mre_nil]
    have := no _ Keep.refl (fun h => h.1 (of_decide_eq_true hnil))
    simpa using this
  have hne := of_decide_eq_false hnil
  have er : binV .no .rem (.int .i64 (l.length : Nat)) (.int .i64 2) = some (.int .i64 ((l.length % 2 : Nat) : Int)) := by
    rw [binV_int]; simp only [intV]; rw [if_neg (by decide), Int.tmod_eq_emod_of_nonneg (by omega)]; rfl
  have en : binV .no .neq (.int .i64 ((l.length % 2 : Nat) : Int)) (.int .i64 0) = some (.bool (decide (l.length % 2 ≠ 0))) := by
    rw [binV_int]; simp only [intV]; congr 2; rw [Bool.eq_iff_iff]; simp <;> omega
  cases hodd : decide (l.length % 2 ≠ 0)
  rotate_left
  · simp only [e1, hnil, lenT_str, er, en, hodd, unV_not, Bool.not_true, Bool.not_false, Mif_bool, Mif_undef, pickV_bool, Mcd_bool, Mpu_some, if_true, if_false, Bool.false_eq_true, Bool.true_eq_false, decide_true, decide_false, reduceCtorEq, J1_eq, ex20, ex21, ex30, ex31, ex32, Mre_ok, Mre_nil]
    have := no _ Keep.refl (fun h => (of_decide_eq_true hodd) h.2.1)
    simpa using this
  have hev : l.length % 2 = 0 := by have := of_decide_eq_false hodd; omega
  simp only [e1, hnil, lenT_str, er, en, hodd, unV_not, Bool.not_true, Bool.not_false, Mif_bool, Mif_undef, pickV_bool, Mcd_bool, Mpu_some, if_true, if_false, Bool.false_eq_true, Bool.true_eq_false, decide_true, decide_false, reduceCtorEq, J1_eq, ex20, ex21, ex30, ex31, ex32, Mre_ok, Mre_nil]
  refine call_i (c_Trim (cs := hexL) (by decide) (by decide) (by decide) (by omega)) ?_
  rintro _ h4 ⟨rfl, k4⟩
  have et : binV .no .neq (str (trimL hexL (trimR hexL l))) (str []) = some (.bool (!(l.all hexOk))) := by
    rw [str_neq]
    congr 2
    have h1 : decide (trimL hexL (trimR hexL l) = []) = l.all hexOk := by
      rw [Bool.eq_iff_iff, decide_eq_true_eq, trim_nil, List.all_eq_true]
      constructor
      · intro h x hx; rw [← hex_contains]; exact h x hx
      · intro h x hx; rw [hex_contains]; exact h x hx
    rw [h1]
  cases hall : l.all hexOk
  · simp only [et, hall, unV_not, Bool.not_true, Bool.not_false, Mif_bool, Mif_undef, pickV_bool, Mcd_bool, Mpu_some, if_true, if_false, Bool.false_eq_true, Bool.true_eq_false, decide_true, decide_false, reduceCtorEq, J1_eq, ex20, ex21, ex30, ex31, ex32, Mre_ok, Mre_nil]
    have := no _ k4 (fun h => by rw [hall] at h; cases h.2.2)
    simpa using this
  have hx : ∀ x ∈ l, hexOk x = true := fun x hx => List.all_eq_true.1 hall x hx
  have hd : dataF l = some (pairs l) := by unfold dataF; rw [if_neg h45, if_pos ⟨hne, hev, hall⟩]
  simp only [et, hall, unV_not, Bool.not_true, Bool.not_false, Mif_bool, Mif_undef, pickV_bool, Mcd_bool, Mpu_some, if_true, if_false, Bool.false_eq_true, Bool.true_eq_false, decide_true, decide_false, reduceCtorEq, J1_eq, ex20, ex21, ex30, ex31, ex32, Mre_ok, Mre_nil]
  have g4 := k4.1
  refine J2_i (fun v _ h => Buf (h4.size ≤ ·) h v (pairs l) ∧ Keep (fun _ => False) h4 h) (fun k hk => ?_) ?_
  · refine L2_i (fun v u h => ∃ i : Nat, 2 * i ≤ l.length ∧ u = .int .i64 ((2 * i : Nat) : Int) ∧ Buf (h4.size ≤ ·) h v (pairs (l.take (2 * i))) ∧ Keep (fun _ => False) h4 h) (fun _ u _ => match u with | .int _ t => l.length - t.toNat | _ => 0) ⟨0, Nat.zero_le _, rfl, .inl ⟨rfl, rfl⟩, Keep.refl⟩ ?_
    rintro v _ h ⟨i, hi, rfl, hb, kh⟩ kk hkk
    have el : binV .no .lss (.int .i64 ((2 * i : Nat) : Int)) (.int .i64 (l.length : Nat)) = some (.bool (decide (2 * i < l.length))) := by
      rw [binV_int]; simp only [intV]; congr 2; rw [decide_eq_decide]; omega
    simp only [el, Mpu_some, Mcd_bool]
    by_cases hlt : 2 * i < l.length
    · rw [if_pos (by simpa using hlt)]
      have hga : l[2 * i]? = some l[2 * i] := List.getElem?_eq_getElem hlt
      have hgb : l[2 * i + 1]? = some (l[2 * i + 1]'(by omega)) := List.getElem?_eq_getElem (by omega)
      have ia : ixT (str l) (.int .i64 ((2 * i : Nat) : Int)) = some (.int .u8 l[2 * i].toNat) := ixT_str hga
      have ib : ixT (str l) (.int .i64 ((2 * i + 1 : Nat) : Int)) = some (.int .u8 (l[2 * i + 1]'(by omega)).toNat) := ixT_str hgb
      have ha := hx _ (List.getElem_mem hlt)
      have hb' := hx _ (List.getElem_mem (show 2 * i + 1 < l.length by omega))
      have htk := pairs_take hga hgb
      generalize l[2 * i] = a at *
      generalize (l[2 * i + 1]'(by omega)) = b at *
      have va := hexV_lt a ha
      have vb := hexV_lt b hb'
      have xa := hex_index a ha
      have xb := hex_index b hb'
      have ho := or_hex ⟨hexV a, va⟩ ⟨hexV b, vb⟩
      simp only at ho
      have cv : cvI .u8 (.int .i64 ((hexV a * 16 + hexV b : Nat) : Int)) = some (.int .u8 ((UInt8.ofNat (hexV a * 16 + hexV b)).toNat : Nat)) := by
        rw [cvI_int, wrap_u8 (by omega) (by omega), UInt8.toNat_ofNat']; congr 2; omega
      have a2 : binV .no .add (.int .i64 ((2 * i : Nat) : Int)) (.int .i64 2) = some (.int .i64 ((2 * (i + 1) : Nat) : Int)) := by
        rw [binV_int]; simp only [intV]; rw [wrap_id (by omega) (by omega)]; congr 2 <;> omega
      rw [ia, Mpu_some, add_one' (by omega), Mpu_some, ib, Mpu_some]
      refine call_i (c_IndexByte (l := hexL) (x := a)) ?_
      rintro _ _ ⟨rfl, rfl⟩
      rw [xa, shl_hex va, Mpu_some]
      refine call_i (c_IndexByte (l := hexL) (x := b)) ?_
      rintro _ _ ⟨rfl, rfl⟩
      rw [xb, ho, Mpu_some, cv, Mpu_some, bsl1, Mnews_some]
      generalize hH5 : h.push (.cells #[.int .u8 ((UInt8.ofNat (hexV a * 16 + hexV b)).toNat : Nat)] T_uint8 (0, 0)) = h5
      have k5 : Keep (fun _ => False) h h5 := by rw [← hH5]; exact Keep.push
      have s5 : h5.size = h.size + 1 := by rw [← hH5]; simp
      have hbs : Bs h5 (.slice (some ⟨h.size, 0, none⟩) 1 1) [UInt8.ofNat (hexV a * 16 + hexV b)] := by
        rw [← hH5]; exact Bs.mk push_new rfl (by simp) rfl
      have gh := kh.1
      have hpl := pairs_len (l.take (2 * i))
      have htl : (l.take (2 * i)).length ≤ l.length := by rw [List.length_take]; omega
      refine (hb.keep k5 fun _ _ => id).app hbs (by simp; omega) (by show h4.size ≤ h5.size; omega) fun v2 h6 hv2 k6 => ?_
      rw [a2, Mpu_some]
      refine hkk _ _ _ ⟨i + 1, by omega, rfl, by rw [show 2 * (i + 1) = 2 * i + 2 by omega, htk]; exact hv2, (kh.trans k5).fresh k6 fun b hb => hb⟩ ?_
      show l.length - 2 * (i + 1) < l.length - 2 * i
      omega
    · rw [if_neg (by simpa using hlt)]
      rw [List.take_of_length_le (by omega)] at hb
      exact hk _ _ _ ⟨hb, kh⟩
  · rintro v _ h ⟨hb, kh⟩
    have hs := hb.sl
    have gh := kh.1
    refine ⟨.inl ⟨v, pairs l, hd, rfl, hs.bs, hs.sl, fun b hbb => ⟨by have := hs.own b hbb; omega, ?_⟩⟩, k4.trans kh⟩
    rcases hb with ⟨rfl, _⟩ | ⟨b', o, c, cs, T, f, rfl, hp, hc, hb', _⟩
    · cases hbb
    · obtain ⟨rfl, _⟩ := blk_slice hbb; exact lt_of hb'
end Go.Proofs.YtconalffokhplaaGreatDoor

/- scripts: digits of data, there and back. -/
namespace Go.Proofs.YtconalffokhplaaGreatDoor
open Go.X Go.X.Diff
set_option maxRecDepth 100000

def hexD (n : Nat) : UInt8 := if n < 10 then UInt8.ofNat (48 + n) else UInt8.ofNat (87 + n)
def two (c : UInt8) : List UInt8 := [hexD (c.toNat / 16), hexD (c.toNat % 16)]
def digitsF (d : List UInt8) : List UInt8 := if d = [] then [45] else (d.map two).flatten
theorem hexD_ok : ∀ n : Fin 16, hexOk (hexD n.val) = true ∧ hexV (hexD n.val) = n.val ∧ hexL[n.val]? = some (hexD n.val) := by decide +kernel
theorem hexD_V : ∀ x : UInt8, hexOk x = true → hexD (hexV x) = x := all_u8 (by decide +kernel)
theorem hexOk_n {n : Nat} (h : n < 16) : hexOk (hexD n) = true ∧ hexV (hexD n) = n ∧ hexL[n]? = some (hexD n) := hexD_ok ⟨n, h⟩
theorem two_len {c : UInt8} : (two c).length = 2 := rfl
theorem pairs_two : ∀ d : List UInt8, pairs ((d.map two).flatten) = d
  | [] => rfl
  | c :: d => by
    have hc := c.toNat_lt
    have h1 := hexOk_n (n := c.toNat / 16) (by omega)
    have h2 := hexOk_n (n := c.toNat % 16) (by omega)
    rw [List.map_cons, List.flatten_cons]
    show UInt8.ofNat (hexV (hexD (c.toNat / 16)) * 16 + hexV (hexD (c.toNat % 16))) :: pairs ((d.map two).flatten) = c :: d
    rw [h1.2.1, h2.2.1, pairs_two d]
    congr 1
    apply UInt8.toNat_inj.1
    rw [UInt8.toNat_ofNat']; omega
theorem two_all : ∀ d : List UInt8, ((d.map two).flatten).all hexOk = true ∧ ((d.map two).flatten).length = 2 * d.length
  | [] => ⟨rfl, rfl⟩
  | c :: d => by
    have hc := c.toNat_lt
    have h1 := hexOk_n (n := c.toNat / 16) (by omega)
    have h2 := hexOk_n (n := c.toNat % 16) (by omega)
    obtain ⟨i1, i2⟩ := two_all d
    rw [List.map_cons, List.flatten_cons]
    refine ⟨?_, by rw [List.length_append, i2, two_len, List.length_cons]; omega⟩
    rw [List.all_append, i1, Bool.and_true]
    simp [two, h1.1, h2.1]
theorem data_digits (d : List UInt8) : dataF (digitsF d) = some d := by
  unfold digitsF dataF
  by_cases hd : d = []
  · subst hd; rfl
  · rw [if_neg hd]
    obtain ⟨i1, i2⟩ := two_all d
    have hp := List.length_pos_iff.2 hd
    rw [if_neg (fun e => by rw [e] at i2; simp at i2; omega), if_pos ⟨fun e => by rw [e] at i2; simp at i2; omega, by rw [i2]; omega, i1⟩, pairs_two]
theorem two_pairs : ∀ {l : List UInt8}, l.length % 2 = 0 → (∀ x ∈ l, hexOk x = true) → ((pairs l).map two).flatten = l
  | [], _, _ => rfl
  | [x], h, _ => by simp at h
  | a :: b :: r, h, hx => by
    have ha := hx a (by simp)
    have hb := hx b (by simp)
    have va := hexV_lt a ha
    have vb := hexV_lt b hb
    rw [pairs, List.map_cons, List.flatten_cons, two_pairs (l := r) (by simp at h; omega) fun x hx' => hx x (by simp [hx'])]
    have e : (UInt8.ofNat (hexV a * 16 + hexV b)).toNat = hexV a * 16 + hexV b := by rw [UInt8.toNat_ofNat']; omega
    unfold two
    rw [e, show (hexV a * 16 + hexV b) / 16 = hexV a by omega, show (hexV a * 16 + hexV b) % 16 = hexV b by omega, hexD_V a ha, hexD_V b hb]; rfl
theorem digits_data {l d : List UInt8} (h : dataF l = some d) : digitsF d = l := by
  unfold dataF at h
  by_cases h45 : l = [45]
  · rw [if_pos h45] at h
    cases h; rw [h45]; rfl
  rw [if_neg h45] at h
  by_cases hc : l ≠ [] ∧ l.length % 2 = 0 ∧ l.all hexOk = true
  · rw [if_pos hc] at h
    cases h
    obtain ⟨h1, h2, h3⟩ := hc
    have := two_pairs h2 fun x hx => List.all_eq_true.1 h3 x hx
    unfold digitsF
    rw [this]
    match l, h1, h2 with
    | [x], _, h2 => simp at h2
    | a :: b :: r, _, _ => rw [if_neg (by simp [pairs])]
  · rw [if_neg hc] at h; cases h

theorem u8_shr : ∀ c : UInt8, binV .no .shr (.int .u8 (c.toNat : Nat)) (.int .u64 4) = some (.int .u8 ((c.toNat / 16 : Nat) : Int)) := fun c => by
  rw [v_shr (by omega)]
  exact congrArg (fun z => some (Value.int .u8 z)) (shr_nat (k := .u8) (u := c.toNat) (b := 4) (by decide))
theorem u8_and : ∀ c : UInt8, binV .no .and (.int .u8 (c.toNat : Nat)) (.int .u8 15) = some (.int .u8 ((c.toNat % 16 : Nat) : Int)) := fun c => by
  rw [binV_int]; simp only [intV]
  congr 2
  revert c
  exact all_u8 (by decide +kernel)
theorem bsl2u {a b : Int} : bslV prg T_uint8 2 [(0, .int .u8 a), (1, .int .u8 b)] = some #[.int .u8 a, .int .u8 b] := by kernel_rfl

theorem c_scDigits {P : Nat → Prop} {H : Heap} {v : Value} {d : List UInt8} (hv : Sl P H v d) (hl : d.length ≤ 1099511627776) :
    HCalls prg f_script_digits [v] H fun u H' => u = str (digitsF d) ∧ Keep (fun _ => False) H H' := by
  apply sh_script_digits_calls
  unfold sh_script_digits
  have e0 : binV .no .eql (.int .i64 (d.length : Nat)) (.int .i64 0) = some (.bool (decide (d = []))) := by
    rw [binV_int]; simp only [intV]; congr 2
    rw [Bool.eq_iff_iff]
    simp only [beq_iff_eq, decide_eq_true_eq]
    rw [← List.length_eq_zero_iff]; omega
  rw [hv.len, Mpu_some, e0, Mpu_some, Mcd_bool]
  unfold digitsF
  by_cases hd : d = []
  · rw [if_pos (by simpa using hd), if_pos hd]
    exact ⟨rfl, Keep.refl⟩
  rw [if_neg (by simpa using hd), if_neg hd]
  have sh : (Value.string ⟨#[48, 49, 50, 51, 52, 53, 54, 55, 56, 57, 97, 98, 99, 100, 101, 102]⟩) = str hexL := rfl
  rw [sh]
  refine J2_i (fun u _ h => Buf (H.size ≤ ·) h u ((d.map two).flatten) ∧ Keep (fun _ => False) H h) (fun k hk => ?_) ?_
  · rw [Mpu_some]
    refine L2_i (fun u t h => ∃ i : Nat, i ≤ d.length ∧ t = .int .i64 (i : Nat) ∧ Buf (H.size ≤ ·) h u (((d.take i).map two).flatten) ∧ Keep (fun _ => False) H h) (fun _ u _ => match u with | .int _ t => d.length - t.toNat | _ => 0) ⟨0, Nat.zero_le _, rfl, .inl ⟨rfl, rfl⟩, Keep.refl⟩ ?_
    rintro u _ h ⟨i, hi, rfl, hb, kh⟩ kk hkk
    have el : binV .no .lss (.int .i64 (i : Nat)) (.int .i64 (d.length : Nat)) = some (.bool (decide (i < d.length))) := by
      rw [binV_int]; simp only [intV]; congr 2; rw [decide_eq_decide]; omega
    rw [el, Mpu_some, Mcd_bool]
    by_cases hlt : i < d.length
    · rw [if_pos (by simpa using hlt)]
      have hg : d[i]? = some d[i] := List.getElem?_eq_getElem hlt
      obtain ⟨p, hix, hld, _⟩ := (hv.keep kh fun _ _ => id).at hg
      have htk : ((d.take (i + 1)).map two).flatten = ((d.take i).map two).flatten ++ two d[i] := by
        rw [List.take_add_one, hg, List.map_append, List.flatten_append]
        simp only [Option.toList_some, List.map_cons, List.map_nil, List.flatten_cons, List.flatten_nil, List.append_nil]
      generalize d[i] = c at *
      have hc := c.toNat_lt
      have h1 := (hexOk_n (n := c.toNat / 16) (by omega)).2.2
      have h2 := (hexOk_n (n := c.toNat % 16) (by omega)).2.2
      rw [hix, Mpu_some, hld, Mpu_some, u8_shr, Mpu_some, ixT_str h1, Mpu_some, u8_and, Mpu_some, ixT_str h2, Mpu_some, bsl2u, Mnews_some]
      generalize hH5 : h.push (.cells #[.int .u8 ((hexD (c.toNat / 16)).toNat : Nat), .int .u8 ((hexD (c.toNat % 16)).toNat : Nat)] T_uint8 (0, 0)) = h5
      have k5 : Keep (fun _ => False) h h5 := by rw [← hH5]; exact Keep.push
      have s5 : h5.size = h.size + 1 := by rw [← hH5]; simp
      have hbs : Bs h5 (.slice (some ⟨h.size, 0, none⟩) 2 2) (two c) := by
        rw [← hH5]; exact Bs.mk push_new rfl (by simp) rfl
      have gh := kh.1
      have hl2 := (two_all (d.take i)).2
      have hl3 : (d.take i).length ≤ d.length := by rw [List.length_take]; omega
      refine (hb.keep k5 fun _ _ => id).app hbs (by rw [hl2, two_len]; omega) (by show H.size ≤ h5.size; omega) fun v2 h6 hv2 k6 => ?_
      rw [add_one' (by omega), Mpu_some]
      exact hkk _ _ _ ⟨i + 1, by omega, rfl, by rw [htk]; exact hv2, (kh.trans k5).fresh k6 fun b hb => hb⟩ (by show d.length - (i + 1) < d.length - i; omega)
    · rw [if_neg (by simpa using hlt)]
      rw [List.take_of_length_le (by omega)] at hb
      exact hk _ _ _ ⟨hb, kh⟩
  · rintro u _ h ⟨hb, kh⟩
    rw [hb.sl.b2s, Mpu_some]
    exact ⟨rfl, kh⟩
end Go.Proofs.YtconalffokhplaaGreatDoor

/- scripts: the document's Words. -/
namespace Go.Proofs.YtconalffokhplaaGreatDoor
open Go.X Go.X.Diff
set_option maxRecDepth 100000

theorem split_snoc_sep {c : UInt8} : ∀ l : List UInt8, splitF c (l ++ [c]) = splitF c l ++ [[]]
  | [] => by simp [splitF]
  | x :: l => by
    have ih := split_snoc_sep (c := c) l
    rw [List.cons_append, splitF, splitF, ih]
    by_cases hx : x = c
    · rw [if_pos hx, if_pos hx]; rfl
    · rw [if_neg hx, if_neg hx]
      cases h : splitF c l with
      | nil => exact absurd h splitF_ne
      | cons a t => rfl
theorem split_snoc {c x : UInt8} (hx : x ≠ c) : ∀ l : List UInt8, ∃ pre last, splitF c l = pre ++ [last] ∧ splitF c (l ++ [x]) = pre ++ [last ++ [x]]
  | [] => ⟨[], [], rfl, by simp [splitF, hx]⟩
  | y :: l => by
    obtain ⟨pre, last, h1, h2⟩ := split_snoc hx l
    rw [List.cons_append, splitF, splitF, h1, h2]
    by_cases hy : y = c
    · rw [if_pos hy, if_pos hy]
      exact ⟨[] :: pre, last, rfl, rfl⟩
    · rw [if_neg hy, if_neg hy]
      cases pre with
      | nil => exact ⟨[], y :: last, rfl, rfl⟩
      | cons a t => exact ⟨(y :: a) :: t, last, rfl, rfl⟩

theorem st1_of_stA {h h' : Heap} {b o : Nat} {v : Value} (e : stA h b o #[v] = some h') : st1 h (Ptr b o) v = some h' := by
  unfold stA at e
  simp only [st1]
  split at e
  · rename_i c T f hb
    split at e
    · rename_i hc
      obtain ⟨c1, c2, c3⟩ := hc
      have c1' : o < c.size := by
        have : o + 1 ≤ c.size := c1
        omega
      rw [if_pos ⟨c1', by simpa using c2, by simpa using c3⟩]
      rw [← e]
      congr 3
      unfold spl
      apply Array.ext'
      rw [Array.toList_setIfInBounds, List.set_eq_take_append_cons_drop, if_pos (by simpa using c1')]
      simp
    · cases e
  · cases e
set_option maxHeartbeats 1000000 in
theorem c_Words {H : Heap} {l : List UInt8} (hl : l.length ≤ 1048576) : HCalls prg f_syngraphref30_Words [str l] H fun u H' => BufE 1 (H.size ≤ ·) H' u (strs (splitF 32 l)) ∧ Keep (fun _ => False) H H' := by
  apply sh_syngraphref30_Words_calls
  unfold sh_syngraphref30_Words
  have s1 : (Value.string ⟨#[]⟩) = str [] := rfl
  have hb1 : ∀ a : List UInt8, bslV prg T_string 1 [(0, str a)] = some #[str a] := fun a => bslS
  simp only [s1, hb1, Mnews_some]
  generalize hH1 : H.push (.cells #[str []] T_string (0, 0)) = H1
  have k1 : Keep (fun _ => False) H H1 := by rw [← hH1]; exact Keep.push
  have n1 : H1[H.size]? = some (.cells [str []].toArray T_string (0, 0)) := by rw [← hH1]; exact push_new
  have s1' : H1.size = H.size + 1 := by rw [← hH1]; simp
  have hstr : ∀ a : List UInt8, ∀ c ∈ ([str a] : List Value), c.oneCell' = true := fun a c hc => by simp at hc; subst hc; rfl
  have b1 : BufE 1 (H.size ≤ ·) H1 (.slice (some ⟨H.size, 0, none⟩) 1 1) (strs (splitF 32 [])) :=
    BufE.fresh (cs := [str []]) ⟨H.size, rfl, Nat.le_refl _, n1⟩ (Nat.le_refl _) (by simp) (fun _ _ => by simp [thaw]) (by simp [splitF, rows1]) rows1_el (rows1_one fun v hv => by simp [splitF] at hv; subst hv; rfl)
  have cnt : ∀ m : List UInt8, (splitF 32 m).length ≤ m.length + 1 := fun m => by
    rw [split_count]
    have := List.count_le_length (a := (32 : UInt8)) (l := m)
    omega
  refine J2_i (fun u _ h => BufE 1 (H.size ≤ ·) h u (strs (splitF 32 l)) ∧ Keep (fun _ => False) H h) (fun k hk => ?_) ?_
  · refine L2_i (fun u t h => ∃ i : Nat, i ≤ l.length ∧ t = .int .i64 (i : Nat) ∧ BufE 1 (H.size ≤ ·) h u (strs (splitF 32 (l.take i))) ∧ Keep (fun _ => False) H h) (fun _ u _ => match u with | .int _ t => l.length - t.toNat | _ => 0) ⟨0, Nat.zero_le _, rfl, b1, k1⟩ ?_
    rintro u _ h ⟨i, hi, rfl, hb, kh⟩ kk hkk
    have el : binV .no .lss (.int .i64 (i : Nat)) (.int .i64 (l.length : Nat)) = some (.bool (decide (i < l.length))) := by
      rw [binV_int]; simp only [intV]; congr 2; rw [decide_eq_decide]; omega
    rw [lenT_str, Mpu_some, el, Mpu_some, Mcd_bool]
    by_cases hlt : i < l.length
    · rw [if_pos (by simpa using hlt)]
      have hg : l[i]? = some l[i] := List.getElem?_eq_getElem hlt
      have hix : ixT (str l) (.int .i64 (i : Nat)) = some (.int .u8 l[i].toNat) := ixT_str hg
      have htk : l.take (i + 1) = l.take i ++ [l[i]] := by rw [List.take_add_one, hg]; rfl
      have hsl : slT (str l) (some (.int .i64 (i : Nat))) (some (.int .i64 ((i + 1 : Nat) : Int))) = some (str [l[i]]) := by
        rw [slT_str (lo := i) (hi := i + 1) (by omega) (by omega) (by simp [bnd] <;> omega) (by simp [bnd] <;> omega)]
        rw [htk, List.drop_append_of_le_length (by simp; omega), List.drop_eq_nil_of_le (by simp; omega)]; rfl
      generalize l[i] = x at *
      have e32 : binV .no .eql (.int .u8 x.toNat) (.int .u8 32) = some (.bool (decide (x = 32))) := by
        rw [binV_int]; simp only [intV]; congr 2
        rw [Bool.eq_iff_iff]
        simp only [beq_iff_eq, decide_eq_true_eq]
        constructor
        · intro h
          exact UInt8.toNat_inj.1 (by have : x.toNat = 32 := by omega
                                      rw [this]; rfl)
        · rintro rfl; rfl
      have hcl := cnt (l.take i)
      have htl : (l.take i).length = i := by simp; omega
      have gh := kh.1
      refine J1_i (fun u h => BufE 1 (H.size ≤ ·) h u (strs (splitF 32 (l.take (i + 1)))) ∧ Keep (fun _ => False) H h) (fun k6 hk6 => ?_) ?_
      · rw [hix, Mpu_some, e32, Mpu_some, Mcd_bool]
        by_cases hx : x = 32
        · rw [if_pos (by simpa using hx)]
          subst hx
          generalize hH8 : h.push (.cells #[str []] T_string (0, 0)) = h8
          have k8 : Keep (fun _ => False) h h8 := by rw [← hH8]; exact Keep.push
          have s8 : h8.size = h.size + 1 := by rw [← hH8]; simp
          have hx8 : SlE 1 (· = h.size) h8 (.slice (some ⟨h.size, 0, none⟩) 1 1) (strs [[]]) :=
            ⟨⟨_, 1, rfl, Nat.le_refl _, .inr ⟨h.size, 0, rfl, rfl, by rw [rows1_flat, ← hH8]; exact Pt.of push_new⟩⟩, rows1_el, rows1_one fun v hv => by simp at hv; subst hv; rfl⟩
          refine (hb.keep k8 fun _ _ => id).app hx8 (by omega) (by simp; omega) (by show H.size ≤ h8.size; omega) fun u2 h9 hu2 k9 => ?_
          refine hk6 _ _ ⟨?_, (kh.trans k8).fresh k9 fun b hb => hb⟩
          rw [htk, split_snoc_sep]
          have : strs (splitF 32 (l.take i) ++ [[]]) = strs (splitF 32 (l.take i)) ++ strs [[]] := by simp [rows1]
          rw [this]; exact hu2
        · rw [if_neg (by simpa using hx)]
          obtain ⟨pre, last, q1, q2⟩ := split_snoc hx (l.take i)
          have hlen := hb.sl.len
          rw [strs_len, q1, List.length_append, List.length_singleton] at hlen
          have hpl : pre.length + 1 ≤ i + 1 := by
            have := hcl; rw [q1, List.length_append, List.length_singleton, htl] at this; omega
          have e1 : binV .no .sub (.int .i64 ((pre.length + 1 : Nat) : Int)) (.int .i64 1) = some (.int .i64 (pre.length : Nat)) := by
            rw [binV_int]; simp only [intV]; rw [wrap_id (by omega) (by omega)]; congr 2; omega
          have hget : (strs (splitF 32 (l.take i)))[pre.length]? = some [str last] := strs_get (by rw [q1]; simp)
          obtain ⟨b, o, hib, hpt, _⟩ := hb.sl.at hget
          have hll : last.length ≤ i := by
            have := splitF_len (c := 32) (l := l.take i) (x := last) (by rw [q1]; simp)
            rw [htl] at this; exact this
          obtain ⟨p, h10, hip, st10, hb10, k10⟩ := hb.set (i := pre.length) (by rw [strs_len, q1]; simp) (x := [str (last ++ [x])]) rfl (hstr _)
          have hpe : p = Ptr b o := Option.some.inj ((hip .i64).symm.trans (hib .i64))
          subst hpe
          have st1' : st1 h (Ptr b o) (str (last ++ [x])) = some h10 := by
            have e := st10
            simp only [stN] at e
            rw [if_pos (by rfl)] at e
            exact st1_of_stA e
          rw [hlen, Mpu_some, e1, Mpu_some, hib .i64, Mpu_some, hpt.cell0 rfl, Mpu_some, add_one' (by omega), Mpu_some, hsl, Mpu_some, str_app (by simp; omega), Mpu_some, Mpu_some, st1', Mwr_some]
          refine hk6 _ _ ⟨?_, kh.fresh k10 fun b hb => hb⟩
          rw [htk, q2]
          have : strs (pre ++ [last ++ [x]]) = (strs (splitF 32 (l.take i))).set pre.length [str (last ++ [x])] := by
            rw [q1]
            simp [rows1, List.set_append_right]
          rw [this]; exact hb10
      · rintro u2 h7 ⟨hb7, k7⟩
        rw [add_one' (by omega), Mpu_some]
        exact hkk _ _ _ ⟨i + 1, by omega, rfl, hb7, k7⟩ (by show l.length - (i + 1) < l.length - i; omega)
    · rw [if_neg (by simpa using hlt)]
      rw [List.take_of_length_le (by omega)] at hb
      exact hk _ _ _ ⟨hb, kh⟩
  · rintro u _ h ⟨hb, kh⟩
    exact ⟨hb, kh⟩
end Go.Proofs.YtconalffokhplaaGreatDoor

