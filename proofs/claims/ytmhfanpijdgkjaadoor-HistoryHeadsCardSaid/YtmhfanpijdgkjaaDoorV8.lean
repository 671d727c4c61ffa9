/- strings.Join; small numbers as texts. -/
import Derived.Test.YtmhfanpijdgkjaaDoorV7
namespace Go.Proofs.YtmhfanpijdgkjaaDoor
open Go.X
set_option maxRecDepth 100000

def joinF (sep : List UInt8) : List (List UInt8) → List UInt8
  | [] => []
  | x :: xs => x ++ (xs.map (sep ++ ·)).flatten
def total (l : List (List UInt8)) : Nat := l.flatten.length
theorem total_take {l : List (List UInt8)} {i : Nat} {x : List UInt8} (h : l[i]? = some x) : total (l.take (i + 1)) = total (l.take i) + x.length := by
  obtain ⟨hlt, rfl⟩ := List.getElem?_eq_some_iff.1 h
  unfold total
  rw [show l.take (i + 1) = l.take i ++ [l[i]] by rw [List.take_add_one, List.getElem?_eq_getElem hlt]; rfl, List.flatten_append]; simp
theorem total_le {l : List (List UInt8)} {i : Nat} : total (l.take i) ≤ total l := by
  unfold total
  conv => rhs; rw [← List.take_append_drop i l, List.flatten_append, List.length_append]
  omega
theorem joined_len {sep : List UInt8} {l : List (List UInt8)} : ((l.map (sep ++ ·)).flatten).length = sep.length * l.length + total l := by
  unfold total
  induction l with
  | nil => simp
  | cons x l ih => simp only [List.map_cons, List.flatten_cons, List.length_append, List.length_cons, ih, Nat.mul_succ]; omega
theorem joined_take {sep : List UInt8} {l : List (List UInt8)} {i : Nat} {x : List UInt8} (h : l[i]? = some x) : ((l.take (i + 1)).map (sep ++ ·)).flatten = (((l.take i).map (sep ++ ·)).flatten ++ sep) ++ x := by
  obtain ⟨hlt, rfl⟩ := List.getElem?_eq_some_iff.1 h
  rw [show l.take (i + 1) = l.take i ++ [l[i]] by rw [List.take_add_one, List.getElem?_eq_getElem hlt]; rfl, List.map_append, List.flatten_append]; simp

abbrev strs (l : List (List UInt8)) : List (List Value) := rows1 (l.map str)
theorem strs_get {l : List (List UInt8)} {i : Nat} {x : List UInt8} (h : l[i]? = some x) : (strs l)[i]? = some [str x] := rows1_get (by simp [h])
@[simp] theorem strs_len {l : List (List UInt8)} : (strs l).length = l.length := by simp [strs]

theorem c_Join {P : Nat → Prop} {H : Heap} {v : Value} {sep : List UInt8} {l : List (List UInt8)} (hv : SlE 1 P H v (strs l)) (hP : ∀ b, P b → b < H.size) (hn : l.length ≤ 1048576) (hs : sep.length ≤ 1048576) (ht : total l ≤ 1099511627776) :
    HCalls prg f_strings_Join [v, str sep] H fun u H' => u = str (joinF sep l) ∧ Keep (fun _ => False) H H' := by
  apply sh_strings_Join_calls
  unfold sh_strings_Join
  have hlen := hv.len
  rw [strs_len] at hlen
  simp only [hlen, Mpu_some, binV_int, intV, Mcd_bool]
  match l, hv, hn, ht, hlen with
  | [], _, _, _, _ => rw [if_pos (by rfl)]; exact ⟨rfl, Keep.refl⟩
  | [x], hv, _, _, _ =>
    rw [if_neg (by simp), if_pos (by rfl)]
    obtain ⟨b, o, hix, hpt, _⟩ := hv.at (i := 0) (x := [str x]) rfl
    have hix : ixS 1 v (.int .i64 0) = some (Ptr b o) := hix .i64
    rw [hix, Mpu_some, hpt.cell0 rfl, Mpu_some]
    exact ⟨by simp [joinF], Keep.refl⟩
  | x :: y :: l, hv, hn, ht, hlen =>
    generalize hL : x :: y :: l = L at *
    have hL2 : 2 ≤ L.length := by rw [← hL]; simp
    have hL0 : L[0]? = some x := by rw [← hL]; rfl
    have n0 : ((L.length : Int) == 0) = false := by rw [beq_eq_false_iff_ne]; omega
    have n1 : ((L.length : Int) == 1) = false := by rw [beq_eq_false_iff_ne]; omega
    rw [n0, if_neg (by decide), n1, if_neg (by decide)]
    have w1 : IntKind.i64.wrap ((L.length : Int) - 1) = ((L.length - 1 : Nat) : Int) := by rw [wrap_id] <;> omega
    have hq : (1 : Int) ≤ Int.tdiv 9223372036854775807 ((L.length - 1 : Nat) : Int) ∧ Int.tdiv 9223372036854775807 ((L.length - 1 : Nat) : Int) ≤ 9223372036854775807 ∧ (sep.length : Int) < Int.tdiv 9223372036854775807 ((L.length - 1 : Nat) : Int) := by
      rw [Int.tdiv_eq_ediv_of_nonneg (by omega)]
      have h1 : (8796093022207 : Int) ≤ 9223372036854775807 / ((L.length - 1 : Nat) : Int) := by
        rw [Int.le_ediv_iff_mul_le (by omega)]
        have : ((L.length - 1 : Nat) : Int) ≤ 1048576 := by omega
        omega
      have h2 : 9223372036854775807 / ((L.length - 1 : Nat) : Int) ≤ 9223372036854775807 := Int.ediv_le_self _ (by omega)
      omega
    have w2 : IntKind.i64.wrap (Int.tdiv 9223372036854775807 ((L.length - 1 : Nat) : Int)) = Int.tdiv 9223372036854775807 ((L.length - 1 : Nat) : Int) := by rw [wrap_id] <;> omega
    have w3 : IntKind.i64.wrap ((sep.length : Int) * ((L.length - 1 : Nat) : Int)) = ((sep.length * (L.length - 1) : Nat) : Int) := by
      have hb : sep.length * (L.length - 1) ≤ 1048576 * 1048576 := Nat.mul_le_mul hs (by omega)
      rw [wrap_id] <;> rw [← Int.natCast_mul] <;> omega
    have hb : sep.length * (L.length - 1) ≤ 1099511627776 := Nat.le_trans (Nat.mul_le_mul hs (show L.length - 1 ≤ 1048576 by omega)) (by decide)
    have w4 : IntKind.i64.wrap (0 + ((sep.length * (L.length - 1) : Nat) : Int)) = ((sep.length * (L.length - 1) : Nat) : Int) := by rw [wrap_id] <;> omega
    have hne : ¬ (((L.length - 1 : Nat) : Int) = 0) := by omega
    have hng : ¬ ((sep.length : Int) ≥ Int.tdiv 9223372036854775807 ((L.length - 1 : Nat) : Int)) := by omega
    refine J1_i (fun x h => x = .int .i64 ((sep.length * (L.length - 1) : Nat) : Int) ∧ H = h) (fun k hk => ?_) ?_
    · simp only [lenT_str, Mpu_some, binV_int, intV, Mcd_bool, decide_eq_true_eq, J0_eq, w1]
      by_cases hs0 : (sep.length : Int) > 0
      · rw [if_pos hs0]
        simp only [hlen, Mpu_some, binV_int, intV, Mcd_bool, decide_eq_true_eq, w1, if_neg hne, w2, if_neg hng, w3, w4]
        exact hk _ _ ⟨rfl, rfl⟩
      · rw [if_neg hs0]
        have hs0' : sep.length = 0 := by omega
        exact hk _ _ ⟨by rw [hs0', Nat.zero_mul]; rfl, rfl⟩
    · rintro _ _ ⟨rfl, rfl⟩
      simp only [J2_eq]
      refine L2_i (fun n i h => ∃ j : Nat, j ≤ L.length ∧ i = .int .i64 (j : Nat) ∧ n = .int .i64 ((sep.length * (L.length - 1) + total (L.take j) : Nat) : Int) ∧ H = h) (fun _ i _ => match i with | .int _ i => L.length - i.toNat | _ => 0)
        ⟨0, Nat.zero_le _, rfl, by simp [total], rfl⟩ ?_
      rintro _ _ _ ⟨j, hj, rfl, rfl, rfl⟩ k hk
      simp only [binV_int, intV, Mpu_some, Mcd_bool, decide_eq_true_eq, J0_eq]
      have htj := total_le (l := L) (i := j)
      by_cases hlt : (j : Int) < L.length
      · rw [if_pos hlt]
        have hlt' : j < L.length := by omega
        have hg : L[j]? = some L[j] := List.getElem?_eq_getElem hlt'
        obtain ⟨b, o, hix, hpt, _⟩ := hv.at (strs_get hg)
        have htj1 := total_le (l := L) (i := j + 1)
        rw [total_take hg] at htj1
        have e1 : IntKind.i64.wrap (9223372036854775807 - ((sep.length * (L.length - 1) + total (L.take j) : Nat) : Int)) = 9223372036854775807 - ((sep.length * (L.length - 1) + total (L.take j) : Nat) : Int) := by rw [wrap_id] <;> omega
        have e2 : IntKind.i64.wrap (((sep.length * (L.length - 1) + total (L.take j) : Nat) : Int) + (L[j].length : Int)) = ((sep.length * (L.length - 1) + total (L.take (j + 1)) : Nat) : Int) := by rw [total_take hg, wrap_id] <;> omega
        have e3 : IntKind.i64.wrap ((j : Int) + 1) = (j + 1 : Nat) := by rw [wrap_id] <;> omega
        simp only [hix, Mpu_some, hpt.cell0 rfl, lenT_str, binV_int, intV, e1, e2, e3, Mcd_bool, decide_eq_true_eq]
        rw [if_neg (by omega)]
        exact hk _ _ _ ⟨j + 1, hlt', rfl, rfl, rfl⟩ (by show L.length - (j + 1) < L.length - j; omega)
      · rw [if_neg hlt]
        obtain rfl : j = L.length := by omega
        rw [List.take_length]
        simp only [z_Builder, Mnew_some, J1_eq]
        generalize hp : H.size = p at *
        generalize hH1 : H.push (.cells #[.pointer none, .slice none 0 0] T_strings_Builder (0, 0)) = H1
        have k1 : Keep (fun _ => False) H H1 := by rw [← hH1]; exact Keep.push
        have hs1 : H1.size = p + 1 := by rw [← hH1]; simp [hp]
        have hp1 : H1[p]? = some (.cells #[.pointer none, .slice none 0 0] T_strings_Builder (0, 0)) := by rw [← hH1, ← hp]; exact push_new
        have hB : BAt (p < ·) p H1 [] := ⟨Nat.lt_irrefl _, _, _, hp1, .inl rfl, .inl ⟨rfl, rfl⟩⟩
        refine call_i (c_Grow hB (by omega) ⟨_, hp1⟩ fun b hb => by omega) ?_
        rintro _ H2 ⟨rfl, hB2, k2⟩
        have k02 : Keep (p ≤ ·) H H2 := (k1.mono fun _ _ h => h.elim).trans (k2.mono fun b _ h => by rcases h with h | h <;> omega)
        obtain ⟨b, o, hix, hpt, _⟩ := (hv.keep k02 fun b hb hb' => by have := hP b hb; omega).at (strs_get hL0)
        have hix : ixS 1 v (.int .i64 0) = some (Ptr b o) := hix .i64
        have hx0 : x.length ≤ 1099511627776 := by
          have := total_take hL0
          have := total_le (l := L) (i := 0 + 1)
          omega
        simp only [hix, Mpu_some, hpt.cell0 rfl]
        refine call_i (c_WriteString hB2 (by simp; omega) fun b hb => by have := k02.1; have := k2.1; omega) ?_
        rintro _ H3 ⟨rfl, hB3, k3⟩
        have k03 : Keep (p ≤ ·) H H3 := k02.trans (k3.mono fun b _ h => by rcases h with h | h <;> omega)
        obtain ⟨u, hu, hsu⟩ := hv.cut (by rw [← hL]; simp [strs, rows1]) (lo := 1) (hi := L.length) (by omega) (by simp) (l := some (.int .i64 1)) (r := none) (by simp [bnd]; omega) (fun c hc => by simp [bnd])
        have hdrop : ((strs L).take L.length).drop 1 = strs (L.drop 1) := by
          rw [List.take_of_length_le (by simp)]; simp [strs, rows1, List.map_drop]
        rw [hdrop] at hsu
        have hlu := hsu.len
        rw [strs_len] at hlu
        simp only [hu, Mpu_some, hlu]
        have hD : L = x :: L.drop 1 := by rw [← hL]; rfl
        have hDl : (L.drop 1).length = L.length - 1 := by simp
        generalize L.drop 1 = D at *
        have hjl : joinF sep L = x ++ (D.map (sep ++ ·)).flatten := by rw [hD]; rfl
        have htD : total L = x.length + total D := by rw [hD]; simp [total]
        refine L1_i (fun i h => ∃ j : Nat, j ≤ D.length ∧ i = .int .i64 (j : Nat) ∧ BAt (p < ·) p h (x ++ ((D.take j).map (sep ++ ·)).flatten) ∧ Keep (p ≤ ·) H h ∧ p < h.size) (fun i _ => match i with | .int _ i => D.length - i.toNat | _ => 0)
          ⟨0, Nat.zero_le _, rfl, by simpa using hB3, k03, by have := k2.1; have := k3.1; omega⟩ ?_
        rintro _ h ⟨j, hj, rfl, hBj, kj, hpj⟩ k hk
        simp only [binV_int, intV, Mpu_some, Mcd_bool, decide_eq_true_eq]
        have hjt : ((((D.take j).map (sep ++ ·)).flatten).length) = sep.length * (D.take j).length + total (D.take j) := joined_len
        have htDj := total_le (l := D) (i := j)
        have hmj : sep.length * (D.take j).length ≤ sep.length * (L.length - 1) := Nat.mul_le_mul_left _ (by simp; omega)
        by_cases hlt : (j : Int) < D.length
        · rw [if_pos hlt]
          have hlt' : j < D.length := by omega
          have hg : D[j]? = some D[j] := List.getElem?_eq_getElem hlt'
          obtain ⟨b, o, hix, hpt, _⟩ := (hsu.keep kj fun b hb hb' => by have := hP b hb; omega).at (strs_get hg)
          have htj1 := total_le (l := D) (i := j + 1)
          rw [total_take hg] at htj1
          have e3 : IntKind.i64.wrap ((j : Int) + 1) = (j + 1 : Nat) := by rw [wrap_id] <;> omega
          simp only [hix, Mpu_some, hpt.cell0 rfl, e3]
          refine call_i (c_WriteString hBj (by simp only [List.length_append, hjt]; omega) fun b hb => by omega) ?_
          rintro _ h1 ⟨rfl, hB4, k4⟩
          refine call_i (c_WriteString hB4 (by simp only [List.length_append, hjt]; omega) fun b hb => by have := k4.1; omega) ?_
          rintro _ h2 ⟨rfl, hB5, k5⟩
          refine hk _ _ ⟨j + 1, hlt', rfl, ?_, (kj.trans (k4.mono fun b _ h => by rcases h with h | h <;> omega)).trans (k5.mono fun b _ h => by rcases h with h | h <;> omega), by have := k4.1; have := k5.1; omega⟩ (by show D.length - (j + 1) < D.length - j; omega)
          rw [joined_take hg]
          simpa only [List.append_assoc] using hB5
        · rw [if_neg hlt]
          obtain rfl : j = D.length := by omega
          rw [List.take_length] at hBj
          have hjD : ((D.map (sep ++ ·)).flatten).length = sep.length * D.length + total D := joined_len
          have hmD : sep.length * D.length ≤ sep.length * (L.length - 1) := by rw [hDl]; exact Nat.le_refl _
          refine call_i (c_BString hBj (by simp only [List.length_append, hjD]; omega)) ?_
          rintro _ h2 ⟨rfl, k5⟩
          rw [hjl]
          refine ⟨by trivial, Nat.le_trans kj.1 k5.1, fun i hi _ => ?_⟩
          rw [k5.2 i (by have := kj.1; omega) (by omega), kj.2 i hi (by omega)]
/- small numbers -/
def digit (n : Nat) : UInt8 := UInt8.ofNat (48 + n)
def smallF (n : Nat) : List UInt8 := if n < 10 then [digit n] else [digit (n / 10), digit (n % 10)]
theorem c_small {H : Heap} {n : Nat} (hn : n < 100) : HCalls prg f_internal_strconv_small [.int .i64 n] H fun u H' => u = str (smallF n) ∧ H = H' := by
  apply sh_internal_strconv_small_calls
  unfold sh_internal_strconv_small
  simp only [binV_int, intV, Mpu_some, Mcd_bool, decide_eq_true_eq]
  have w1 : IntKind.i64.wrap ((n : Int) + 1) = (n + 1 : Nat) := by rw [wrap_id] <;> omega
  have w2 : IntKind.i64.wrap ((n : Int) * 2) = (n * 2 : Nat) := by rw [wrap_id] <;> omega
  have w3 : IntKind.i64.wrap (((n * 2 : Nat) : Int) + 2) = (n * 2 + 2 : Nat) := by rw [wrap_id] <;> omega
  simp only [w1, w2, w3]
  by_cases h : (n : Int) < 10
  · rw [if_pos h]
    have hn' : n < 10 := by omega
    have : slT (str [48, 49, 50, 51, 52, 53, 54, 55, 56, 57, 97, 98, 99, 100, 101, 102, 103, 104, 105, 106, 107, 108, 109, 110, 111, 112, 113, 114, 115, 116, 117, 118, 119, 120, 121, 122]) (some (.int .i64 n)) (some (.int .i64 (n + 1 : Nat))) = some (str (smallF n)) := by
      rw [slT_str (lo := n) (hi := n + 1) (by omega) (by simp; omega) (by simp [bnd]; omega) (by simp [bnd]; omega)]
      match n, hn' with
      | 0, _ => rfl | 1, _ => rfl | 2, _ => rfl | 3, _ => rfl | 4, _ => rfl
      | 5, _ => rfl | 6, _ => rfl | 7, _ => rfl | 8, _ => rfl | 9, _ => rfl
    have this' : slT (.string ⟨#[48, 49, 50, 51, 52, 53, 54, 55, 56, 57, 97, 98, 99, 100, 101, 102, 103, 104, 105, 106, 107, 108, 109, 110, 111, 112, 113, 114, 115, 116, 117, 118, 119, 120, 121, 122]⟩) (some (.int .i64 n)) (some (.int .i64 (n + 1 : Nat))) = some (str (smallF n)) := this
    rw [this', Mpu_some]
    exact ⟨by trivial, by trivial⟩
  · rw [if_neg h]
    have hn' : ¬ n < 10 := by omega
    generalize hs : (⟨#[48, 48, 48, 49, 48, 50, 48, 51, 48, 52, 48, 53, 48, 54, 48, 55, 48, 56, 48, 57, 49, 48, 49, 49, 49, 50, 49, 51, 49, 52, 49, 53, 49, 54, 49, 55, 49, 56, 49, 57, 50, 48, 50, 49, 50, 50, 50, 51, 50, 52, 50, 53, 50, 54, 50, 55, 50, 56, 50, 57, 51, 48, 51, 49, 51, 50, 51, 51, 51, 52, 51, 53, 51, 54, 51, 55, 51, 56, 51, 57, 52, 48, 52, 49, 52, 50, 52, 51, 52, 52, 52, 53, 52, 54, 52, 55, 52, 56, 52, 57, 53, 48, 53, 49, 53, 50, 53, 51, 53, 52, 53, 53, 53, 54, 53, 55, 53, 56, 53, 57, 54, 48, 54, 49, 54, 50, 54, 51, 54, 52, 54, 53, 54, 54, 54, 55, 54, 56, 54, 57, 55, 48, 55, 49, 55, 50, 55, 51, 55, 52, 55, 53, 55, 54, 55, 55, 55, 56, 55, 57, 56, 48, 56, 49, 56, 50, 56, 51, 56, 52, 56, 53, 56, 54, 56, 55, 56, 56, 56, 57, 57, 48, 57, 49, 57, 50, 57, 51, 57, 52, 57, 53, 57, 54, 57, 55, 57, 56, 57, 57]⟩ : ByteArray) = S
    have hS : S = ⟨((List.range 100).flatMap fun i => [digit (i / 10), digit (i % 10)]).toArray⟩ := by rw [← hs]; rfl
    have hlen : ((List.range 100).flatMap fun i => [digit (i / 10), digit (i % 10)]).length = 200 := by decide
    have : slT (str ((List.range 100).flatMap fun i => [digit (i / 10), digit (i % 10)])) (some (.int .i64 (n * 2 : Nat))) (some (.int .i64 (n * 2 + 2 : Nat))) = some (str (smallF n)) := by
      rw [slT_str (lo := n * 2) (hi := n * 2 + 2) (by omega) (by omega) (by simp [bnd]; omega) (by rw [hlen]; simp [bnd]; omega)]
      congr 1
      have key : ∀ m, m < 100 → ((((List.range 100).flatMap fun i => [digit (i / 10), digit (i % 10)]).take (m * 2 + 2)).drop (m * 2)) = [digit (m / 10), digit (m % 10)] := by decide
      rw [key n hn]
      unfold smallF; rw [if_neg hn']
    rw [hS, this, Mpu_some]
    exact ⟨by trivial, by trivial⟩

end Go.Proofs.YtmhfanpijdgkjaaDoor
