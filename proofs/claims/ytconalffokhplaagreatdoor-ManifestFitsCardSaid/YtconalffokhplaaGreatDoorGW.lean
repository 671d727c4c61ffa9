/- JOINED: V21t V75 -/
import Derived.Test.YtconalffokhplaaGreatDoorGJ
import Derived.Test.YtconalffokhplaaGreatDoorGU
import Derived.Test.YtconalffokhplaaGreatDoorGI
import Derived.Test.YtconalffokhplaaGreatDoorGV
import Derived.Test.YtconalffokhplaaGreatDoorGN
set_option linter.unusedSimpArgs false
set_option linter.unusedVariables false
/- HistoryDiffs: is what comes in small? -/
namespace Go.Proofs.YtconalffokhplaaGreatDoor
open Go.X Go.X.Diff
set_option maxRecDepth 100000

def bigI (x : Item) : Bool := decide (x.name.length > 100) || decide (x.ver.pre.length > 100)
def smallB (a b : List Item) : Bool := !(a.any bigI) && !(b.any bigI) && (decide (a.length ≤ 20) && decide (b.length ≤ 20))
theorem Items.slice {P : Nat → Prop} {H : Heap} {v : Value} {xs : List Item} (h : Items P H v xs) : ∃ a c, v = .slice a xs.length c := by
  obtain ⟨⟨⟨a, c, rfl, _⟩, _⟩, _⟩ := h; exact ⟨a, c, by simp⟩
end Go.Proofs.YtconalffokhplaaGreatDoor
/- the reference's items. -/
namespace Go.Proofs.YtconalffokhplaaGreatDoor
open Go.X Go.X.Diff
set_option maxRecDepth 100000

def nameC (n : Nat) : Bool := decide (97 ≤ n) && decide (n ≤ 122) || decide (48 ≤ n) && decide (n ≤ 57) || decide (n = 45)
theorem nameL_range : ∀ x : UInt8, nameL.contains x = nameC x.toNat := by
  have h : ∀ n, n < 256 → nameL.contains (UInt8.ofNat n) = nameC n := by decide +kernel
  intro x
  have := h x.toNat x.toNat_lt
  rwa [UInt8.ofNat_toNat] at this
theorem azL_index : ∀ x : UInt8, decide (Lib.indexByte azL x ≥ 0) = (decide (97 ≤ x.toNat) && decide (x.toNat ≤ 122)) := by
  have h : ∀ n, n < 256 → decide (Lib.indexByte azL (UInt8.ofNat n) ≥ 0) = (decide (97 ≤ n) && decide (n ≤ 122)) := by decide +kernel
  intro x
  have := h x.toNat x.toNat_lt
  rwa [UInt8.ofNat_toNat] at this
theorem nameOk_eq {l : List UInt8} : nameOk l = (decide (l ≠ []) && decide (l.length ≤ 32) && l.all (fun x => nameC x.toNat) && (decide (97 ≤ (l.headD 0).toNat) && decide ((l.headD 0).toNat ≤ 122))) := by
  unfold nameOk
  rw [azL_index]
  congr 2
  rw [Bool.eq_iff_iff]
  simp only [decide_eq_true_eq, List.all_eq_true, nameL_range]

theorem nameOk_cons {x : UInt8} {t : List UInt8} : nameOk (x :: t) = (decide ((x :: t).length ≤ 32) && (x :: t).all (fun x => nameC x.toNat) && (decide (97 ≤ x.toNat) && decide (x.toNat ≤ 122))) := by
  rw [nameOk_eq, decide_eq_true (by simp : x :: t ≠ []), Bool.true_and]; rfl

theorem c_refName {H : Heap} {l : List UInt8} : HCalls prg f_syngraphref19_Name [str l] H fun u H' => u = .bool (nameOk l) ∧ H' = H := by
  apply sh_syngraphref19_Name_calls
  unfold sh_syngraphref19_Name
  have e1 : binV .no .lss (.int .i64 (l.length : Nat)) (.int .i64 1) = some (.bool (decide (l.length < 1))) := by
    rw [binV_int]; simp only [intV]; congr 2; rw [decide_eq_decide]; omega
  have e2 : binV .no .gtr (.int .i64 (l.length : Nat)) (.int .i64 32) = some (.bool (decide (32 < l.length))) := by
    rw [binV_int]; simp only [intV]; congr 2; rw [decide_eq_decide]; omega
  simp only [lenT_str, e1, Mpu_some]
  refine J1_eq.2 ?_
  cases h1 : decide (l.length < 1)
  rotate_left
  · simp only [unV_not, Bool.not_true, Bool.not_false, Mif_bool, Mif_undef, pickV_bool, Mcd_bool, Mpu_some, if_true, if_false, Bool.false_eq_true, Bool.true_eq_false, decide_true, decide_false, reduceCtorEq, J1_eq, ex20, ex21, ex30, ex31, ex32, Mre_ok, Mre_nil]
    have := of_decide_eq_true h1
    obtain rfl : l = [] := List.length_eq_zero_iff.1 (by omega)
    exact ⟨rfl, trivial⟩
  have hne : l ≠ [] := by have := of_decide_eq_false h1; rintro rfl; simp at this
  simp only [e2, unV_not, Bool.not_true, Bool.not_false, Mif_bool, Mif_undef, pickV_bool, Mcd_bool, Mpu_some, if_true, if_false, Bool.false_eq_true, Bool.true_eq_false, decide_true, decide_false, reduceCtorEq, ex20, ex21, ex30, ex31, ex32, Mre_ok, Mre_nil]
  refine J1_eq.2 ?_
  cases h2 : decide (32 < l.length)
  rotate_left
  · simp only [unV_not, Bool.not_true, Bool.not_false, Mif_bool, Mif_undef, pickV_bool, Mcd_bool, Mpu_some, if_true, if_false, Bool.false_eq_true, Bool.true_eq_false, decide_true, decide_false, reduceCtorEq, J1_eq, ex20, ex21, ex30, ex31, ex32, Mre_ok, Mre_nil]
    have h := of_decide_eq_true h2
    have : decide (l.length ≤ 32) = false := by simp; omega
    refine ⟨?_, trivial⟩
    rw [nameOk_eq, this]; simp
  have h32 : decide (l.length ≤ 32) = true := by have := of_decide_eq_false h2; simp; omega
  obtain ⟨x, t, rfl⟩ : ∃ x t, l = x :: t := by
    cases l with
    | nil => exact absurd rfl hne
    | cons x t => exact ⟨x, t, rfl⟩
  have hx : ixT (str (x :: t)) (.int .i64 0) = some (.int .u8 x.toNat) := ixT_str (i := 0) rfl
  have e3 : binV .no .lss (.int .u8 x.toNat) (.int .u8 97) = some (.bool (!decide (97 ≤ x.toNat))) := by
    rw [binV_int]; simp only [intV]; congr 2; rw [← decide_not, decide_eq_decide]; omega
  have e4 : binV .no .gtr (.int .u8 x.toNat) (.int .u8 122) = some (.bool (!decide (x.toNat ≤ 122))) := by
    rw [binV_int]; simp only [intV]; congr 2; rw [← decide_not, decide_eq_decide]; omega
  simp only [hx, e3, unV_not, Bool.not_true, Bool.not_false, Mif_bool, Mif_undef, pickV_bool, Mcd_bool, Mpu_some, if_true, if_false, Bool.false_eq_true, Bool.true_eq_false, decide_true, decide_false, reduceCtorEq, ex20, ex21, ex30, ex31, ex32, Mre_ok, Mre_nil]
  refine J1_eq.2 ?_
  cases h3 : decide (97 ≤ x.toNat)
  · simp only [unV_not, Bool.not_true, Bool.not_false, Mif_bool, Mif_undef, pickV_bool, Mcd_bool, Mpu_some, if_true, if_false, Bool.false_eq_true, Bool.true_eq_false, decide_true, decide_false, reduceCtorEq, J1_eq, ex20, ex21, ex30, ex31, ex32, Mre_ok, Mre_nil]
    refine ⟨?_, trivial⟩
    rw [nameOk_cons, h3]; simp
  simp only [hx, e4, unV_not, Bool.not_true, Bool.not_false, Mif_bool, Mif_undef, pickV_bool, Mcd_bool, Mpu_some, if_true, if_false, Bool.false_eq_true, Bool.true_eq_false, decide_true, decide_false, reduceCtorEq, ex20, ex21, ex30, ex31, ex32, Mre_ok, Mre_nil]
  cases h4 : decide (x.toNat ≤ 122)
  · simp only [unV_not, Bool.not_true, Bool.not_false, Mif_bool, Mif_undef, pickV_bool, Mcd_bool, Mpu_some, if_true, if_false, Bool.false_eq_true, Bool.true_eq_false, decide_true, decide_false, reduceCtorEq, ex20, ex21, ex30, ex31, ex32, Mre_ok, Mre_nil]
    refine ⟨?_, trivial⟩
    rw [nameOk_cons, h4]; simp
  simp only [unV_not, Bool.not_true, Bool.not_false, Mif_bool, Mif_undef, pickV_bool, Mcd_bool, Mpu_some, if_true, if_false, Bool.false_eq_true, Bool.true_eq_false, decide_true, decide_false, reduceCtorEq, ex20, ex21, ex30, ex31, ex32, Mre_ok, Mre_nil]
  refine J1_i (fun _ h => (x :: t).all (fun x => nameC x.toNat) = true ∧ h = H) (fun k7 hk7 => ?_) ?_
  · refine L1_i (fun u h => ∃ i : Nat, i ≤ (x :: t).length ∧ u = .int .i64 (i : Nat) ∧ ((x :: t).take i).all (fun x => nameC x.toNat) = true ∧ h = H) (fun u _ => match u with | .int _ n => (x :: t).length - n.toNat | _ => 0) ⟨0, Nat.zero_le _, rfl, rfl, rfl⟩ ?_
    rintro _ h ⟨i, hi, rfl, hall, rfl⟩ k hk
    have hlen32 := of_decide_eq_true h32
    have elt : binV .no .lss (.int .i64 (i : Nat)) (.int .i64 ((x :: t).length : Nat)) = some (.bool (decide (i < (x :: t).length))) := by
      rw [binV_int]; simp only [intV]; congr 2; rw [decide_eq_decide]; omega
    simp only [elt, Mpu_some, Mcd_bool]
    by_cases hlt : i < (x :: t).length
    · rw [if_pos (by simpa using hlt)]
      have hg : (x :: t)[i]? = some (x :: t)[i] := List.getElem?_eq_getElem hlt
      generalize (x :: t)[i] = y at hg
      have hy : ixT (str (x :: t)) (.int .i64 (i : Nat)) = some (.int .u8 y.toNat) := ixT_str hg
      have f1 : binV .no .geq (.int .u8 y.toNat) (.int .u8 97) = some (.bool (decide (97 ≤ y.toNat))) := by
        rw [binV_int]; simp only [intV]; congr 2; rw [decide_eq_decide]; omega
      have f2 : binV .no .leq (.int .u8 y.toNat) (.int .u8 122) = some (.bool (decide (y.toNat ≤ 122))) := by
        rw [binV_int]; simp only [intV]; congr 2; rw [decide_eq_decide]; omega
      have f3 : binV .no .geq (.int .u8 y.toNat) (.int .u8 48) = some (.bool (decide (48 ≤ y.toNat))) := by
        rw [binV_int]; simp only [intV]; congr 2; rw [decide_eq_decide]; omega
      have f4 : binV .no .leq (.int .u8 y.toNat) (.int .u8 57) = some (.bool (decide (y.toNat ≤ 57))) := by
        rw [binV_int]; simp only [intV]; congr 2; rw [decide_eq_decide]; omega
      have f5 : binV .no .eql (.int .u8 y.toNat) (.int .u8 45) = some (.bool (decide (y.toNat = 45))) := by
        rw [binV_int]; simp only [intV]; congr 2
        rw [Bool.eq_iff_iff, beq_iff_eq, decide_eq_true_eq]; omega
      have bad : nameC y.toNat = false → Value.bool false = .bool (nameOk (x :: t)) ∧ True := fun hb => by
        refine ⟨?_, trivial⟩
        have : (x :: t).all (fun x => nameC x.toNat) = false := by
          rw [List.all_eq_false]
          exact ⟨y, List.mem_of_getElem? hg, by rw [hb]; decide⟩
        rw [nameOk_cons, this]; simp
      have good : nameC y.toNat = true → k (.int .i64 (i + 1 : Nat)) h := fun hb => by
        refine hk _ _ ⟨i + 1, hlt, rfl, ?_, rfl⟩ (by show (x :: t).length - (i + 1) < (x :: t).length - i; omega)
        rw [List.take_add_one, hg, List.all_append, hall]
        show (true && (nameC y.toNat && true)) = true
        rw [hb]; rfl
      have eadd := add_one' (n := i) (by omega)
      simp only [hy, f1, f2, f3, f4, f5, Mpu_some]
      cases g1 : decide (97 ≤ y.toNat) <;> cases g2 : decide (y.toNat ≤ 122) <;> cases g3 : decide (48 ≤ y.toNat) <;> cases g4 : decide (y.toNat ≤ 57) <;> cases g5 : decide (y.toNat = 45) <;>
        simp only [eadd, unV_not, Bool.not_true, Bool.not_false, Mif_bool, Mif_undef, pickV_bool, Mcd_bool, Mpu_some, if_true, if_false, Bool.false_eq_true, Bool.true_eq_false, decide_true, decide_false, reduceCtorEq, J1_eq, ex20, ex21, ex30, ex31, ex32, Mre_ok, Mre_nil] <;>
        first
        | exact good (by unfold nameC; rw [g1, g2, g3, g4, g5]; rfl)
        | exact bad (by unfold nameC; rw [g1, g2, g3, g4, g5]; rfl)
    · rw [if_neg (by simpa using hlt)]
      rw [List.take_of_length_le (by omega)] at hall
      exact hk7 _ _ ⟨hall, rfl⟩
  · rintro _ _ ⟨hall, rfl⟩
    refine ⟨?_, rfl⟩
    rw [nameOk_cons, hall, h32, h3, h4]; rfl
end Go.Proofs.YtconalffokhplaaGreatDoor
