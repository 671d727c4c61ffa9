/- JOINED: V60 V130 V131 V132 V133 -/
import Derived.Test.YtconalffokhplaaGreatDoorG0
import Derived.Test.YtconalffokhplaaGreatDoorGI
import Derived.Test.YtconalffokhplaaGreatDoorGO
set_option linter.unusedSimpArgs false
set_option linter.unusedVariables false
/- slices of versions: Clone, DeleteFunc, MaxFunc; Best. -/
namespace Go.Proofs.YtconalffokhplaaGreatDoor
open Go.X Go.X.Diff
set_option maxRecDepth 100000

theorem flat_set {n i : Nat} {xs : List (List Value)} {x : List Value} (h : ∀ x ∈ xs, x.length = n) (hi : i < xs.length) : (xs.set i x).flatten = xs.flatten.take (i * n) ++ x ++ xs.flatten.drop ((i + 1) * n) := by
  rw [List.set_eq_take_append_cons_drop, if_pos hi, List.flatten_append, List.flatten_cons, flat_take h, flat_drop h, List.append_assoc]
/-- v[i] = x, of an owned slice -/
theorem _root_.Go.X.BufE.set {n : Nat} {F : Nat → Prop} {H : Heap} {v : Value} {xs : List (List Value)} (h : BufE n F H v xs) {i : Nat} (hi : i < xs.length) {x : List Value} (hx : x.length = n) (h1 : ∀ c ∈ x, c.oneCell' = true) :
    ∃ p H', (∀ k, ixS n v (.int k i) = some p) ∧ stN n H p (.agg x.toArray) = some H' ∧ BufE n F H' v (xs.set i x) ∧ Keep F H H' := by
  obtain ⟨g1, g2, h | ⟨b, o, c, cs, T, f, rfl, hf, hc, hb, hle, ht, hl⟩⟩ := h
  · obtain ⟨rfl, rfl⟩ := h; simp at hi
  · have hn1 : i * n + n = (i + 1) * n := by rw [Nat.succ_mul]
    have hn2 : (i + 1) * n ≤ xs.length * n := Nat.mul_le_mul_right n hi
    have hn3 : xs.length * n ≤ c * n := Nat.mul_le_mul_right n hc
    have hsz : o + i * n + x.toArray.size ≤ cs.size := by simp only [List.size_toArray, hx]; omega
    refine ⟨Ptr b (o + i * n), _, fun k => ?_, by simp only [stN]; rw [if_pos (by simpa using hx)]; exact stA_at hb _ _ (ht _ _) hsz (all_of h1), ⟨?_, ?_, .inr ⟨b, o, c, _, T, f, by simp, hf, by simpa using hc, set_self hb, ?_, ht, ?_⟩⟩, Keep.set hf⟩
    · simp only [ixS]; rw [if_pos ⟨by omega, by omega⟩]; rfl
    · intro y hy
      rcases List.mem_or_eq_of_mem_set hy with hy | rfl
      · exact g1 y hy
      · exact hx
    · intro y hy
      rcases List.mem_or_eq_of_mem_set hy with hy | rfl
      · exact g2 y hy
      · exact h1
    · rw [spl_size hsz]; exact hle
    · rw [List.length_set, flat_set g1 hi, ← hl]
      unfold spl
      have hlo : o + i * n ≤ cs.toList.length := by simp; omega
      have e1 : (List.take (o + i * n) cs.toList).drop o = (cs.toList.drop o).take (i * n) := by rw [List.drop_take, Nat.add_sub_cancel_left]
      have e2 : cs.toList.drop (o + i * n + x.toArray.size) = (cs.toList.drop o).drop ((i + 1) * n) := by
        rw [List.drop_drop]; congr 1; simp only [List.size_toArray, hx]; omega
      show ((List.take (o + i * n) cs.toList ++ x ++ cs.toList.drop (o + i * n + x.toArray.size)).drop o).take (xs.length * n) = _
      rw [List.append_assoc, List.drop_append_of_le_length (by simp; omega), e1, e2]
      generalize hL : cs.toList.drop o = L
      have hLl : xs.length * n ≤ L.length := by rw [← hL]; simp; omega
      have hA : (L.take (i * n) ++ x).length = (i + 1) * n := by rw [List.length_append, List.length_take, hx]; omega
      rw [← List.append_assoc, List.take_append, hA, List.take_of_length_le (by omega), List.take_take, Nat.min_eq_left (by omega), List.drop_take]

def Vers (P : Nat → Prop) (H : Heap) (v : Value) (xs : List Ver) : Prop := SlE 4 P H v (xs.map verC) ∧ ∀ x ∈ xs, x.wf
theorem Vers.keep {P S : Nat → Prop} {H H' : Heap} {v : Value} {xs : List Ver} (h : Vers P H v xs) (k : Keep S H H') (hs : ∀ b, P b → ¬ S b) : Vers P H' v xs := ⟨h.1.keep k hs, h.2⟩
theorem Vers.len {P : Nat → Prop} {H : Heap} {v : Value} {xs : List Ver} (h : Vers P H v xs) : lenV v = some (.int .i64 xs.length) := by have := h.1.len; simpa using this
theorem Vers.at {P : Nat → Prop} {H : Heap} {v : Value} {xs : List Ver} (h : Vers P H v xs) {i : Nat} {x : Ver} (hi : xs[i]? = some x) : x.wf ∧ ∃ b o, (∀ k, ixS 4 v (.int k i) = some (Ptr b o)) ∧ Pt H b o (verC x) ∧ P b :=
  ⟨h.2 x (List.mem_of_getElem? hi), h.1.at (x := verC x) (by rw [List.getElem?_map, hi]; rfl)⟩
/-- an owned slice of versions -/
def VBuf (F : Nat → Prop) (H : Heap) (v : Value) (xs : List Ver) : Prop := BufE 4 F H v (xs.map verC) ∧ ∀ x ∈ xs, x.wf
theorem VBuf.keep {F S : Nat → Prop} {H H' : Heap} {v : Value} {xs : List Ver} (h : VBuf F H v xs) (k : Keep S H H') (hs : ∀ b, F b → ¬ S b) : VBuf F H' v xs := ⟨h.1.keep k hs, h.2⟩
theorem VBuf.set {F : Nat → Prop} {H : Heap} {v : Value} {xs : List Ver} (h : VBuf F H v xs) {i : Nat} (hi : i < xs.length) {x : Ver} (hx : x.wf) :
    ∃ p H', (∀ k, ixS 4 v (.int k i) = some p) ∧ stN 4 H p (.agg (verC x).toArray) = some H' ∧ VBuf F H' v (xs.set i x) ∧ Keep F H H' := by
  obtain ⟨p, H', h1, h2, h3, h4⟩ := h.1.set (i := i) (by simpa using hi) (verC_len hx) verC_one
  refine ⟨p, H', h1, h2, ⟨by rw [List.map_set]; exact h3, fun y hy => ?_⟩, h4⟩
  rcases List.mem_or_eq_of_mem_set hy with hy | rfl
  · exact h.2 y hy
  · exact hx
/-- v[:i] of an owned slice -/
theorem VBuf.cut {F : Nat → Prop} {H : Heap} {v : Value} {xs : List Ver} (h : VBuf F H v xs) {i : Nat} (hi : i ≤ xs.length) (hne : xs ≠ []) : ∃ u, slS 4 v none (some (.int .i64 (i : Nat))) none = some u ∧ Vers F H u (xs.take i) := by
  obtain ⟨u, h1, h2⟩ := h.1.sl.cut (lo := 0) (hi := i) (l := none) (r := some (.int .i64 (i : Nat))) (by simpa using hne) (Nat.zero_le _) (by simpa using hi) rfl (fun c hc => by
    simp at hc
    simp only [bnd]; rw [if_pos ⟨by omega, by omega⟩]; rfl)
  refine ⟨u, h1, by rw [List.map_take]; simpa using h2, fun x hx => h.2 x (List.mem_of_mem_take hx)⟩
end Go.Proofs.YtconalffokhplaaGreatDoor

/- strconv: all numbers in digits. -/
namespace Go.Proofs.YtconalffokhplaaGreatDoor
open Go.X
set_option maxRecDepth 100000

/- how many bits -/
theorem c_Len64A {H : Heap} {u : Nat} (h0 : 0 < u) (hu : u < 18446744073709551616) : HCalls prg f_math_bits_Len64 [.int .u64 (u : Nat)] H (LenR H u) := by
  apply sh_math_bits_Len64_calls
  unfold sh_math_bits_Len64
  have sh : ∀ (x b : Nat), b ≤ 64 → binV .no .shr (.int .u64 (x : Nat)) (.int .u64 (b : Nat)) = some (.int .u64 ((x / 2 ^ b : Nat) : Int)) := fun x b hb => by
    rw [v_shr (by omega)]; exact congrArg (fun z => some (Value.int .u64 z)) (shr_nat (k := .u64) (u := x) (b := b) hb)
  have ge : ∀ (x b : Nat), binV .no .geq (.int .u64 (x : Nat)) (.int .u64 (b : Nat)) = some (.bool (decide (b ≤ x))) := fun x b => by
    rw [binV_int]; simp only [intV]; congr 2; rw [decide_eq_decide]; omega
  have ad : ∀ (x b : Nat), x ≤ 100 → b ≤ 100 → binV .no .add (.int .i64 (x : Nat)) (.int .i64 (b : Nat)) = some (.int .i64 ((x + b : Nat) : Int)) := fun x b h1 h2 => by
    rw [binV_int]; simp only [intV]; rw [wrap_id (by omega) (by omega)]; rfl
  let I : Nat → Nat → Value → Value → Heap → Prop := fun top m a b h => H = h ∧ ∃ x off : Nat, a = .int .u64 (x : Nat) ∧ b = .int .i64 (off : Nat) ∧ x = u / 2 ^ off ∧ 0 < x ∧ x < top ∧ off ≤ m
  have div : ∀ (x off b : Nat), x = u / 2 ^ off → x / 2 ^ b = u / 2 ^ (off + b) := fun x off b h => by rw [h, Nat.div_div_eq_div_mul, Nat.pow_add]
  refine J2_i (I 4294967296 32) (fun k hk => ?_) ?_
  · rw [show (Value.int .u64 4294967296) = .int .u64 ((4294967296 : Nat) : Int) from rfl, ge, Mpu_some, Mcd_bool]
    by_cases h : 4294967296 ≤ u
    · rw [if_pos (by simpa using h), show (Value.int .u64 32) = .int .u64 ((32 : Nat) : Int) from rfl, sh _ _ (by omega), Mpu_some]
      exact hk _ _ _ ⟨rfl, u / 2 ^ 32, 32, rfl, rfl, rfl, by omega, by omega, by omega⟩
    · rw [if_neg (by simpa using h)]
      exact hk _ _ _ ⟨rfl, u, 0, rfl, rfl, by simp, h0, by omega, by omega⟩
  rintro _ _ _ ⟨rfl, x, off, rfl, rfl, hx, x0, xt, ho⟩
  refine J2_i (I 65536 48) (fun k hk => ?_) ?_
  · rw [show (Value.int .u64 65536) = .int .u64 ((65536 : Nat) : Int) from rfl, ge, Mpu_some, Mcd_bool]
    by_cases h : 65536 ≤ x
    · rw [if_pos (by simpa using h), show (Value.int .u64 16) = .int .u64 ((16 : Nat) : Int) from rfl, sh _ _ (by omega), Mpu_some, show (Value.int .i64 16) = .int .i64 ((16 : Nat) : Int) from rfl, ad _ _ (by omega) (by omega), Mpu_some]
      exact hk _ _ _ ⟨rfl, x / 2 ^ 16, off + 16, rfl, rfl, div _ _ _ hx, by omega, by omega, by omega⟩
    · rw [if_neg (by simpa using h)]
      exact hk _ _ _ ⟨rfl, x, off, rfl, rfl, hx, x0, by omega, by omega⟩
  rintro _ _ _ ⟨rfl, x, off, rfl, rfl, hx, x0, xt, ho⟩
  refine J2_i (I 256 56) (fun k hk => ?_) ?_
  · rw [show (Value.int .u64 256) = .int .u64 ((256 : Nat) : Int) from rfl, ge, Mpu_some, Mcd_bool]
    by_cases h : 256 ≤ x
    · rw [if_pos (by simpa using h), show (Value.int .u64 8) = .int .u64 ((8 : Nat) : Int) from rfl, sh _ _ (by omega), Mpu_some, show (Value.int .i64 8) = .int .i64 ((8 : Nat) : Int) from rfl, ad _ _ (by omega) (by omega), Mpu_some]
      exact hk _ _ _ ⟨rfl, x / 2 ^ 8, off + 8, rfl, rfl, div _ _ _ hx, by omega, by omega, by omega⟩
    · rw [if_neg (by simpa using h)]
      exact hk _ _ _ ⟨rfl, x, off, rfl, rfl, hx, x0, by omega, by omega⟩
  rintro _ _ _ ⟨rfl, x, off, rfl, rfl, hx, x0, xt, ho⟩
  refine len_tail (R := LenR H u) (H := H) (off := off) (x := x) xt (by omega) ?_
  obtain ⟨l1, l2, l3⟩ := len2_spec x0
  generalize len2 x = m at *
  have hp : 0 < 2 ^ off := Nat.pos_of_ne_zero (by simp)
  refine ⟨rfl, off + m, rfl, by omega, ?_, ?_⟩
  · rw [show off + m - 1 = (m - 1) + off by omega, Nat.pow_add]
    rw [hx] at l2
    exact (Nat.le_div_iff_mul_le hp).1 l2
  · rw [show off + m = m + off by omega, Nat.pow_add]
    rw [hx] at l3
    exact (Nat.div_lt_iff_lt_mul hp).1 l3
theorem bits10A : ∀ m, m < 65 → 1 ≤ m → 10 ^ (m * 78913 / 262144 - 1) ≤ 2 ^ (m - 1) ∧ 2 ^ m ≤ 10 ^ (m * 78913 / 262144 + 1) ∧ m * 78913 / 262144 < 20 := by decide +kernel
theorem c_numDigitsA {H : Heap} {u : Nat} (h0 : 0 < u) (hu : u < 18446744073709551616) (hT : PowT H) : HCalls prg f_internal_strconv_numDigits [.int .u64 (u : Nat)] H fun v H' => H = H' ∧ ∃ nd : Nat, v = .int .i64 (nd : Nat) ∧ 1 ≤ nd ∧ nd ≤ 20 ∧ 10 ^ (nd - 1) ≤ u ∧ u < 10 ^ nd := by
  apply sh_internal_strconv_numDigits_calls
  unfold sh_internal_strconv_numDigits
  refine call_i (c_Len64A h0 hu) ?_
  rintro _ _ ⟨rfl, m, rfl, hm0, hm1, hm2⟩
  have m65 : m < 65 := by
    rcases Nat.lt_or_ge m 65 with h | h
    · exact h
    · have : 2 ^ 64 ≤ 2 ^ (m - 1) := Nat.pow_le_pow_right (by omega) (by omega)
      omega
  obtain ⟨b1, b2, b3⟩ := bits10A m m65 hm0
  generalize hq : m * 78913 / 262144 = q at *
  refine call_i (R := fun v H' => H = H' ∧ v = .int .i64 (q : Nat)) ?_ ?_
  · apply sh_internal_strconv_log10Pow2_calls
    unfold sh_internal_strconv_log10Pow2
    have e : binV .no .mul (.int .i64 (m : Nat)) (.int .i64 78913) = some (.int .i64 ((m * 78913 : Nat) : Int)) := by
      rw [binV_int]; simp only [intV]; rw [wrap_id] <;> first | rfl | omega
    rw [e, Mpu_some, v_shr (by omega), Mpu_some]
    refine ⟨rfl, ?_⟩
    have := shr_nat (k := .i64) (u := m * 78913) (b := 18) (by decide)
    rw [show (2 : Nat) ^ 18 = 262144 by rfl, hq] at this
    exact congrArg (Value.int .i64) this
  rintro _ _ ⟨rfl, rfl⟩
  rw [ixA_at' b3, Mpu_some, hT.tab.ld (pow10_get q b3), Mpu_some]
  simp only [binV_int (op := .geq), intV, Mpu_some]
  refine call_i (R := fun v H' => H = H' ∧ v = .int .i64 ((if 10 ^ q ≤ u then 1 else 0 : Nat) : Int)) ?_ ?_
  · apply sh_internal_strconv_bool2_int_calls
    unfold sh_internal_strconv_bool2_int
    rw [Mcd_bool]
    by_cases h : 10 ^ q ≤ u
    · rw [if_pos (by simpa using Int.ofNat_le.2 h), if_pos h]; exact ⟨rfl, rfl⟩
    · rw [if_neg (by simpa using fun h' => h (Int.ofNat_le.1 h')), if_neg h]; exact ⟨rfl, rfl⟩
  rintro _ _ ⟨rfl, rfl⟩
  have key : ∃ nd : Nat, nd = q + (if 10 ^ q ≤ u then 1 else 0) ∧ 1 ≤ nd ∧ nd ≤ 20 ∧ 10 ^ (nd - 1) ≤ u ∧ u < 10 ^ nd := by
    by_cases h : 10 ^ q ≤ u
    · rw [if_pos h]
      exact ⟨q + 1, rfl, by omega, by omega, by simpa using h, Nat.lt_of_lt_of_le hm2 b2⟩
    · rw [if_neg h]
      have hq0 : q ≠ 0 := fun e => h (by rw [e]; simp; omega)
      exact ⟨q, rfl, by omega, by omega, Nat.le_trans b1 hm1, by omega⟩
  obtain ⟨nd, hnd, k3, k6, k1, k2⟩ := key
  have e : binV .no .add (.int .i64 (q : Nat)) (.int .i64 ((if 10 ^ q ≤ u then 1 else 0 : Nat) : Int)) = some (.int .i64 (nd : Nat)) := by
    rw [binV_int]; simp only [intV]; rw [hnd]; push_cast; rw [wrap_id] <;> first | rfl | (split <;> omega)
  rw [e, Mpu_some]
  exact ⟨rfl, nd, rfl, k3, k6, k1, k2⟩

/- the digits, from behind -/
theorem padDec_len : ∀ n u : Nat, (padDec n u).length = n
  | 0, _ => rfl
  | n + 1, u => by rw [padDec, List.length_append, padDec_len n]; rfl
theorem padDec_get : ∀ (n u i : Nat), i < n → (padDec n u)[i]? = some (digit (u / 10 ^ (n - 1 - i) % 10))
  | 0, _, _, h => by omega
  | n + 1, u, i, h => by
    rw [padDec]
    by_cases hi : i < n
    · rw [List.getElem?_append_left (by rw [padDec_len]; exact hi), padDec_get n (u / 10) i hi]
      congr 2
      rw [Nat.div_div_eq_div_mul, show n + 1 - 1 - i = (n - 1 - i) + 1 by omega, Nat.pow_succ, Nat.mul_comm]
    · obtain rfl : i = n := by omega
      rw [List.getElem?_append_right (by rw [padDec_len]; omega), padDec_len]
      simp
structure F10 (q u nd : Nat) (H0 : Heap) (i : Nat) (h : Heap) : Prop where
  ex : ∃ (cs : List Value) (T : TypeId), h[q]? = some (.cells cs.toArray T (0, 0)) ∧ cs.length = 24 ∧ (cs.drop (1 + i)).take (nd - i) = bcells ((padDec nd u).drop i)
  le : i ≤ nd
  k : Keep (· = q) H0 h
theorem F10.put {q u nd i : Nat} {H0 h : Heap} (hI : F10 q u nd H0 (i + 1) h) (hn : nd ≤ 20) {d : UInt8} (hd : d = digit (u / 10 ^ (nd - 1 - i) % 10)) :
    ∃ h', st1 h (Ptr q (1 + i)) (.int .u8 d.toNat) = some h' ∧ F10 q u nd H0 i h' := by
  obtain ⟨cs, T, hq, hl, hc⟩ := hI.ex
  have hle := hI.le
  refine ⟨_, st_at' hq d (by omega), ⟨cs.set (1 + i) (.int .u8 d.toNat), T, set_self hq, by simpa using hl, ?_⟩, by omega, hI.k.trans (Keep.set rfl)⟩
  have hp := padDec_get nd u i (by omega)
  rw [← hd] at hp
  have e1 : (padDec nd u).drop i = d :: (padDec nd u).drop (i + 1) := by
    obtain ⟨hlt, he⟩ := List.getElem?_eq_some_iff.1 hp
    rw [List.drop_eq_getElem_cons hlt, he]
  have e2 : (cs.set (1 + i) (.int .u8 d.toNat)).drop (1 + i) = .int .u8 d.toNat :: cs.drop (1 + (i + 1)) := by
    have hlt : 1 + i < (cs.set (1 + i) (Value.int .u8 d.toNat)).length := by rw [List.length_set]; omega
    rw [List.drop_eq_getElem_cons hlt, List.getElem_set_self, List.drop_set_of_lt (by omega)]
    rfl
  rw [e1, e2, show nd - i = (nd - (i + 1)) + 1 by omega, List.take_succ_cons, hc, bcells_cons]
end Go.Proofs.YtconalffokhplaaGreatDoor

/- strconv: formatBase10 of all numbers; Itoa of all numbers. -/
namespace Go.Proofs.YtconalffokhplaaGreatDoor
open Go.X
set_option maxRecDepth 100000

theorem F10.pair {q u nd i : Nat} {H0 h : Heap} (hI : F10 q u nd H0 (i + 2) h) (hn : nd ≤ 20) {y : Nat} (hy : y = u / 10 ^ (nd - (i + 2)) % 100) :
    ∃ h1 h2, st1 h (Ptr q (1 + (i + 1))) (.int .u8 (digit (y % 10)).toNat) = some h1 ∧ st1 h1 (Ptr q (1 + i)) (.int .u8 (digit (y / 10)).toNat) = some h2 ∧ F10 q u nd H0 i h2 := by
  have hle := hI.le
  obtain ⟨h1, s1, I1⟩ := hI.put hn (d := digit (y % 10)) (by
    rw [show nd - 1 - (i + 1) = nd - (i + 2) by omega]; congr 1; rw [hy]; omega)
  obtain ⟨h2, s2, I2⟩ := I1.put hn (d := digit (y / 10)) (by
    rw [show nd - 1 - i = (nd - (i + 2)) + 1 by omega, Nat.pow_succ, ← Nat.div_div_eq_div_mul]; congr 1; rw [hy]; omega)
  exact ⟨h1, h2, s1, s2, I2⟩
theorem pow_step {u nd i k : Nat} (h : i + k ≤ nd) : u / 10 ^ (nd - i) = u / 10 ^ (nd - (i + k)) / 10 ^ k := by
  rw [Nat.div_div_eq_div_mul, ← Nat.pow_add, show nd - (i + k) + k = nd - i by omega]
theorem r8 {x : Nat} : binV .no .rem (.int .u64 (x : Nat)) (.int .u64 100000000) = some (.int .u64 ((x % 100000000 : Nat) : Int)) := by
  rw [binV_int]; simp only [intV]; rw [if_neg (by decide), Int.tmod_eq_emod_of_nonneg (by omega)]; rfl
theorem q8 {x : Nat} (h : x < 18446744073709551616) : binV .no .quo (.int .u64 (x : Nat)) (.int .u64 100000000) = some (.int .u64 ((x / 100000000 : Nat) : Int)) := by
  rw [binV_int]; simp only [intV]; rw [if_neg (by decide), Int.tdiv_eq_ediv_of_nonneg (by omega), wrap_u64 (by omega) (by omega)]; rfl
theorem cv32 {k : IntKind} {x : Nat} (h : x < 4294967296) : cvI .u32 (.int k (x : Nat)) = some (.int .u32 (x : Nat)) := by rw [cvI_int, wrap_u32 (by omega) (by omega)]
theorem geN {n m : Nat} : binV .no .geq (.int .i64 (n : Nat)) (.int .i64 (m : Nat)) = some (.bool (decide (m ≤ n))) := by
  rw [binV_int]; simp only [intV]; congr 2; rw [decide_eq_decide]; omega
theorem subN {n m : Nat} (h : m ≤ n) (h2 : n ≤ 1000) : binV .no .sub (.int .i64 (n : Nat)) (.int .i64 (m : Nat)) = some (.int .i64 ((n - m : Nat) : Int)) := by
  rw [binV_int]; simp only [intV]; rw [wrap_id (by omega) (by omega)]; congr 2; omega

set_option maxHeartbeats 2000000 in
theorem c_format10A {H : Heap} {q nd u : Nat} {cs : List Value} {T : TypeId} (hq : H[q]? = some (.cells cs.toArray T (0, 0))) (hl : cs.length = 24) (h20 : nd ≤ 20) (hu : u < 10 ^ nd) (hu64 : u < 18446744073709551616) :
    HCalls prg f_internal_strconv_formatBase10 [.slice (some ⟨q, 1, none⟩) nd 23, .int .u64 (u : Nat)] H fun _ H' => ∃ (cs' : List Value) (T' : TypeId), H'[q]? = some (.cells cs'.toArray T' (0, 0)) ∧ cs'.length = 24 ∧ (cs'.drop 1).take nd = bcells (padDec nd u) ∧ Keep (· = q) H H' := by
  apply sh_internal_strconv_formatBase10_calls
  unfold sh_internal_strconv_formatBase10
  refine Mpu_some.2 ?_
  have I0 : F10 q u nd H nd H := ⟨⟨cs, T, hq, hl, by rw [Nat.sub_self, List.take_zero, List.drop_eq_nil_of_le (by rw [padDec_len]; omega)]; rfl⟩, Nat.le_refl _, Keep.refl⟩
  have small : ∀ i, i ≤ nd → u / 10 ^ (nd - i) < 10 ^ i := fun i hi => by
    have hp : 0 < 10 ^ (nd - i) := Nat.pow_pos (by omega)
    rw [Nat.div_lt_iff_lt_mul hp, ← Nat.pow_add, show i + (nd - i) = nd by omega]; exact hu
  have ge8 : ∀ n : Nat, binV .no .geq (.int .i64 (n : Nat)) (.int .i64 8) = some (.bool (decide (8 ≤ n))) := fun n => geN (m := 8)
  have ge4 : ∀ n : Nat, binV .no .geq (.int .i64 (n : Nat)) (.int .i64 4) = some (.bool (decide (4 ≤ n))) := fun n => geN (m := 4)
  have ge2 : ∀ n : Nat, binV .no .geq (.int .i64 (n : Nat)) (.int .i64 2) = some (.bool (decide (2 ≤ n))) := fun n => geN (m := 2)
  have ix : ∀ i : Nat, i < nd → ixS 1 (.slice (some ⟨q, 1, none⟩) nd 23) (.int .i64 (i : Nat)) = some (Ptr q (1 + i)) := fun i hi => ixS_at hi
  refine J2_i (fun x n h => ∃ i : Nat, i < 8 ∧ x = .int .u64 ((u / 10 ^ (nd - i) : Nat) : Int) ∧ n = .int .i64 (i : Nat) ∧ F10 q u nd H i h) (fun k hk => ?_) ?_
  · refine L2_i (fun x n h => ∃ i : Nat, x = .int .u64 ((u / 10 ^ (nd - i) : Nat) : Int) ∧ n = .int .i64 (i : Nat) ∧ F10 q u nd H i h) (fun _ n _ => match n with | .int _ t => t.toNat | _ => 0) ⟨nd, by simp, rfl, I0⟩ ?_
    rintro _ _ h ⟨i, rfl, rfl, hI⟩ k' hk'
    have hle := hI.le
    rw [ge8, Mpu_some, Mcd_bool]
    by_cases h8 : 8 ≤ i
    · rw [if_pos (by simpa using h8)]
      obtain ⟨j, rfl⟩ : ∃ j, i = j + 8 := ⟨i - 8, by omega⟩
      have hx64 : u / 10 ^ (nd - (j + 8)) < 18446744073709551616 := Nat.lt_of_le_of_lt (Nat.div_le_self _ _) hu64
      have p6 := pow_step (u := u) (nd := nd) (i := j + 6) (k := 2) (by omega)
      have p4 := pow_step (u := u) (nd := nd) (i := j + 4) (k := 4) (by omega)
      have p2 := pow_step (u := u) (nd := nd) (i := j + 2) (k := 6) (by omega)
      have p0 := pow_step (u := u) (nd := nd) (i := j) (k := 8) (by omega)
      simp only [Nat.add_assoc, Nat.reduceAdd] at p6 p4 p2
      generalize hX : u / 10 ^ (nd - (j + 8)) = x at *
      generalize hA : x % 100000000 = A
      have hAlt : A < 100000000 := by omega
      obtain ⟨g1, g2, w1, w2, J1⟩ := hI.pair (i := j + 6) h20 (y := A % 10000 % 100) (by rw [hX]; omega)
      obtain ⟨g3, g4, w3, w4, J2⟩ := J1.pair (i := j + 4) h20 (y := A % 10000 / 100) (by rw [show j + 4 + 2 = j + 6 from rfl, p6]; omega)
      obtain ⟨g5, g6, w5, w6, J3⟩ := J2.pair (i := j + 2) h20 (y := A / 10000 % 100) (by rw [show j + 2 + 2 = j + 4 from rfl, p4]; omega)
      obtain ⟨g7, g8, w7, w8, J4⟩ := J3.pair (i := j) h20 (y := A / 10000 / 100) (by rw [p2]; omega)
      have sb : ∀ m : Nat, m ≤ 8 → binV .no .sub (.int .i64 ((j + 8 : Nat) : Int)) (.int .i64 (m : Nat)) = some (.int .i64 ((j + 8 - m : Nat) : Int)) := fun m hm => subN (by omega) (by omega)
      have b1 : binV .no .sub (.int .i64 ((j + 8 : Nat) : Int)) (.int .i64 1) = some (.int .i64 ((j + 6 + 1 : Nat) : Int)) := sb 1 (by omega)
      have b2 : binV .no .sub (.int .i64 ((j + 8 : Nat) : Int)) (.int .i64 2) = some (.int .i64 ((j + 6 : Nat) : Int)) := sb 2 (by omega)
      have b3 : binV .no .sub (.int .i64 ((j + 8 : Nat) : Int)) (.int .i64 3) = some (.int .i64 ((j + 4 + 1 : Nat) : Int)) := sb 3 (by omega)
      have b4 : binV .no .sub (.int .i64 ((j + 8 : Nat) : Int)) (.int .i64 4) = some (.int .i64 ((j + 4 : Nat) : Int)) := sb 4 (by omega)
      have b5 : binV .no .sub (.int .i64 ((j + 8 : Nat) : Int)) (.int .i64 5) = some (.int .i64 ((j + 2 + 1 : Nat) : Int)) := sb 5 (by omega)
      have b6 : binV .no .sub (.int .i64 ((j + 8 : Nat) : Int)) (.int .i64 6) = some (.int .i64 ((j + 2 : Nat) : Int)) := sb 6 (by omega)
      have b7 : binV .no .sub (.int .i64 ((j + 8 : Nat) : Int)) (.int .i64 7) = some (.int .i64 ((j + 1 : Nat) : Int)) := sb 7 (by omega)
      have b8 : binV .no .sub (.int .i64 ((j + 8 : Nat) : Int)) (.int .i64 8) = some (.int .i64 ((j : Nat) : Int)) := sb 8 (by omega)
      rw [r8, hA, Mpu_some, cv32 (by omega), Mpu_some, q8 hx64, Mpu_some, q10k (by omega), Mpu_some, r10k, Mpu_some, q100 (by omega), Mpu_some, m2 (by omega), Mpu_some, r100, Mpu_some, m2 (by omega), Mpu_some, q100 (by omega), Mpu_some, m2 (by omega), Mpu_some, r100, Mpu_some, m2 (by omega), Mpu_some]
      have s1 := sm1 (m := A % 10000 % 100) (by omega)
      have s2 := sm0 (m := A % 10000 % 100) (by omega)
      have s3 := sm1 (m := A % 10000 / 100) (by omega)
      have s4 := sm0 (m := A % 10000 / 100) (by omega)
      have s5 := sm1 (m := A / 10000 % 100) (by omega)
      have s6 := sm0 (m := A / 10000 % 100) (by omega)
      have s7 := sm1 (m := A / 10000 / 100) (by omega)
      have s8 := sm0 (m := A / 10000 / 100) (by omega)
      unfold SM at s1 s2 s3 s4 s5 s6 s7 s8
      rw [b1, Mpu_some, b2, Mpu_some, p1 (by omega), Mpu_some, s1, Mpu_some, s2, Mpu_some, ix _ (by omega), Mpu_some, w1, Mwr_some, ix _ (by omega), Mpu_some, w2, Mwr_some]
      rw [b3, Mpu_some, b4, Mpu_some, p1 (by omega), Mpu_some, s3, Mpu_some, s4, Mpu_some, ix _ (by omega), Mpu_some, w3, Mwr_some, ix _ (by omega), Mpu_some, w4, Mwr_some]
      rw [b5, Mpu_some, b6, Mpu_some, p1 (by omega), Mpu_some, s5, Mpu_some, s6, Mpu_some, ix _ (by omega), Mpu_some, w5, Mwr_some, ix _ (by omega), Mpu_some, w6, Mwr_some]
      rw [b7, Mpu_some, b8, Mpu_some, p1 (by omega), Mpu_some, s7, Mpu_some, s8, Mpu_some, ix _ (by omega), Mpu_some, w7, Mwr_some, ix _ (by omega), Mpu_some, w8, Mwr_some, Mpu_some]
      refine hk' _ _ _ ⟨j, by rw [p0], rfl, J4⟩ ?_
      show j < j + 8
      omega
    · rw [if_neg (by simpa using h8)]
      exact hk _ _ _ ⟨i, by omega, rfl, rfl, hI⟩
  rintro _ _ h2 ⟨i, hi8, rfl, rfl, hI⟩
  have hle := hI.le
  have hsm := small i hle
  have h7 : 10 ^ i ≤ 10 ^ 7 := Nat.pow_le_pow_right (by omega) (by omega)
  rw [cv32 (by omega), Mpu_some]
  refine J2_i (fun n x h => ∃ i : Nat, i < 4 ∧ n = .int .i64 (i : Nat) ∧ x = .int .u32 ((u / 10 ^ (nd - i) : Nat) : Int) ∧ F10 q u nd H i h) (fun k hk => ?_) ?_
  · rw [ge4, Mpu_some, Mcd_bool]
    by_cases h4 : 4 ≤ i
    · rw [if_pos (by simpa using h4)]
      obtain ⟨j, rfl⟩ : ∃ j, i = j + 4 := ⟨i - 4, by omega⟩
      have p2 := pow_step (u := u) (nd := nd) (i := j + 2) (k := 2) (by omega)
      have p0 := pow_step (u := u) (nd := nd) (i := j) (k := 4) (by omega)
      simp only [Nat.add_assoc, Nat.reduceAdd] at p2
      generalize hX : u / 10 ^ (nd - (j + 4)) = x at *
      generalize hA : x % 10000 = A
      obtain ⟨g1, g2, w1, w2, J1⟩ := hI.pair (i := j + 2) h20 (y := A % 100) (by rw [hX]; omega)
      obtain ⟨g3, g4, w3, w4, J2⟩ := J1.pair (i := j) h20 (y := A / 100) (by rw [p2]; omega)
      have sb : ∀ m : Nat, m ≤ 4 → binV .no .sub (.int .i64 ((j + 4 : Nat) : Int)) (.int .i64 (m : Nat)) = some (.int .i64 ((j + 4 - m : Nat) : Int)) := fun m hm => subN (by omega) (by omega)
      have b1 : binV .no .sub (.int .i64 ((j + 4 : Nat) : Int)) (.int .i64 1) = some (.int .i64 ((j + 2 + 1 : Nat) : Int)) := sb 1 (by omega)
      have b2 : binV .no .sub (.int .i64 ((j + 4 : Nat) : Int)) (.int .i64 2) = some (.int .i64 ((j + 2 : Nat) : Int)) := sb 2 (by omega)
      have b3 : binV .no .sub (.int .i64 ((j + 4 : Nat) : Int)) (.int .i64 3) = some (.int .i64 ((j + 1 : Nat) : Int)) := sb 3 (by omega)
      have b4 : binV .no .sub (.int .i64 ((j + 4 : Nat) : Int)) (.int .i64 4) = some (.int .i64 ((j : Nat) : Int)) := sb 4 (by omega)
      rw [r10k, hA, Mpu_some, q10k (by omega), Mpu_some, q100 (by omega), Mpu_some, m2 (by omega), Mpu_some, r100, Mpu_some, m2 (by omega), Mpu_some]
      have s1 := sm1 (m := A % 100) (by omega)
      have s2 := sm0 (m := A % 100) (by omega)
      have s3 := sm1 (m := A / 100) (by omega)
      have s4 := sm0 (m := A / 100) (by omega)
      unfold SM at s1 s2 s3 s4
      rw [b1, Mpu_some, b2, Mpu_some, p1 (by omega), Mpu_some, s1, Mpu_some, s2, Mpu_some, ix _ (by omega), Mpu_some, w1, Mwr_some, ix _ (by omega), Mpu_some, w2, Mwr_some]
      rw [b3, Mpu_some, b4, Mpu_some, p1 (by omega), Mpu_some, s3, Mpu_some, s4, Mpu_some, ix _ (by omega), Mpu_some, w3, Mwr_some, ix _ (by omega), Mpu_some, w4, Mwr_some, Mpu_some]
      exact hk _ _ _ ⟨j, by omega, rfl, by rw [p0], J2⟩
    · rw [if_neg (by simpa using h4)]
      exact hk _ _ _ ⟨i, by omega, rfl, rfl, hI⟩
  clear hI hle hsm h7
  rintro _ _ h3 ⟨i, hi4, rfl, rfl, hI⟩
  have hle := hI.le
  have hsm := small i hle
  have h7 : 10 ^ i ≤ 10 ^ 3 := Nat.pow_le_pow_right (by omega) (by omega)
  refine J2_i (fun n x h => ∃ i : Nat, i < 2 ∧ n = .int .i64 (i : Nat) ∧ x = .int .u32 ((u / 10 ^ (nd - i) : Nat) : Int) ∧ F10 q u nd H i h) (fun k hk => ?_) ?_
  · rw [ge2, Mpu_some, Mcd_bool]
    by_cases h4 : 2 ≤ i
    · rw [if_pos (by simpa using h4)]
      obtain ⟨j, rfl⟩ : ∃ j, i = j + 2 := ⟨i - 2, by omega⟩
      have p0 := pow_step (u := u) (nd := nd) (i := j) (k := 2) (by omega)
      generalize hX : u / 10 ^ (nd - (j + 2)) = x at *
      generalize hA : x % 100 = A
      obtain ⟨g1, g2, w1, w2, J1⟩ := hI.pair (i := j) h20 (y := A) (by rw [hX]; omega)
      have sb : ∀ m : Nat, m ≤ 2 → binV .no .sub (.int .i64 ((j + 2 : Nat) : Int)) (.int .i64 (m : Nat)) = some (.int .i64 ((j + 2 - m : Nat) : Int)) := fun m hm => subN (by omega) (by omega)
      have b1 : binV .no .sub (.int .i64 ((j + 2 : Nat) : Int)) (.int .i64 1) = some (.int .i64 ((j + 1 : Nat) : Int)) := sb 1 (by omega)
      have b2 : binV .no .sub (.int .i64 ((j + 2 : Nat) : Int)) (.int .i64 2) = some (.int .i64 ((j : Nat) : Int)) := sb 2 (by omega)
      rw [r100, hA, Mpu_some, m2 (by omega), Mpu_some, q100 (by omega), Mpu_some]
      have s1 := sm1 (m := A) (by omega)
      have s2 := sm0 (m := A) (by omega)
      unfold SM at s1 s2
      rw [b1, Mpu_some, b2, Mpu_some, p1 (by omega), Mpu_some, s1, Mpu_some, s2, Mpu_some, ix _ (by omega), Mpu_some, w1, Mwr_some, ix _ (by omega), Mpu_some, w2, Mwr_some, Mpu_some]
      exact hk _ _ _ ⟨j, by omega, rfl, by rw [p0], J1⟩
    · rw [if_neg (by simpa using h4)]
      exact hk _ _ _ ⟨i, by omega, rfl, rfl, hI⟩
  clear hI hle hsm h7
  rintro _ _ h4 ⟨i, hi2, rfl, rfl, hI⟩
  have hle := hI.le
  have gt0 : binV .no .gtr (.int .i64 (i : Nat)) (.int .i64 0) = some (.bool (decide (0 < i))) := by
    rw [binV_int]; simp only [intV]; congr 2; rw [decide_eq_decide]; omega
  rw [gt0, Mpu_some, Mcd_bool]
  by_cases h0 : 0 < i
  · rw [if_pos (by simpa using h0)]
    obtain rfl : i = 1 := by omega
    have hsm := small 1 hle
    have hlt : u / 10 ^ (nd - 1) < 10 := hsm
    obtain ⟨g1, w1, J1⟩ := hI.put (i := 0) h20 (d := digit (u / 10 ^ (nd - 1))) (by rw [Nat.sub_zero, Nat.mod_eq_of_lt hlt])
    have i0 : ixS 1 (.slice (some ⟨q, 1, none⟩) nd 23) (.int .i64 0) = some (Ptr q (1 + 0)) := ix 0 (by omega)
    simp only [binV_int (op := .add), intV, Mpu_some, cvI_int, last_digit hlt, i0, w1, Mwr_some]
    obtain ⟨cs', T', e1, e2, e3⟩ := J1.ex
    exact ⟨cs', T', e1, e2, by simpa using e3, J1.k⟩
  · rw [if_neg (by simpa using h0)]
    obtain rfl : i = 0 := by omega
    obtain ⟨cs', T', e1, e2, e3⟩ := hI.ex
    exact ⟨cs', T', e1, e2, by simpa using e3, hI.k⟩
end Go.Proofs.YtconalffokhplaaGreatDoor

/- strconv.Itoa of all numbers. -/
namespace Go.Proofs.YtconalffokhplaaGreatDoor
open Go.X
set_option maxRecDepth 100000

def intS (n : Int) : List UInt8 := if n < 0 then 45 :: decF (-n).toNat else decF n.toNat
theorem c_ItoaN {n : Int} (h1 : -9223372036854775808 ≤ n) (h2 : n ≤ 9223372036854775807) {H : Heap} (hT : PowT H) : HCalls prg f_strconv_Itoa [.int .i64 n] H fun u H' => u = str (intS n) ∧ Keep (fun _ => False) H H' := by
  by_cases hs : 0 ≤ n ∧ n < 100
  · obtain ⟨m, rfl⟩ : ∃ m : Nat, n = m := ⟨n.toNat, by omega⟩
    have : intS (m : Int) = decF m := by unfold intS; rw [if_neg (by omega)]; rfl
    rw [this]
    exact c_ItoaSmall (by omega)
  apply sh_strconv_Itoa_calls
  unfold sh_strconv_Itoa
  refine call_i (R := fun u H' => u = str (intS n) ∧ Keep (fun _ => False) H H') ?_ fun u h hR => hR
  apply sh_internal_strconv_Itoa_calls
  unfold sh_internal_strconv_Itoa
  refine call_i (R := fun u H' => u = str (intS n) ∧ Keep (fun _ => False) H H') ?_ fun u h hR => hR
  apply sh_internal_strconv_FormatInt_calls
  unfold sh_internal_strconv_FormatInt
  generalize hm : n.natAbs = m
  have hm64 : m < 18446744073709551616 := by omega
  have hm0 : 0 < m := by omega
  have e1 : binV .no .eql (.int .i64 10) (.int .i64 10) = some (.bool true) := rfl
  have e2 : binV .no .leq (.int .i64 0) (.int .i64 n) = some (.bool (decide (0 ≤ n))) := by rw [binV_int]; rfl
  have e3 : binV .no .lss (.int .i64 n) (.int .i64 100) = some (.bool (decide (n < 100))) := by rw [binV_int]; rfl
  have e4 : binV .no .lss (.int .i64 n) (.int .i64 0) = some (.bool (decide (n < 0))) := by rw [binV_int]; rfl
  have hbig : pickV (.bool (decide (0 ≤ n))) (.bool (decide (n < 100))) (.bool false) = some (.bool false) := by
    rw [pickV_bool]
    by_cases h : 0 ≤ n
    · rw [if_pos (by simpa using h), decide_eq_false (by omega)]
    · rw [if_neg (by simpa using h)]
  rw [e1, Mpu_some, Mcd_bool, if_pos rfl, e2, Mpu_some]
  refine J1_i (fun u h => (u = .bool (decide (n < 100)) ∨ ¬ 0 ≤ n) ∧ H = h) (fun k hk => ?_) ?_
  · by_cases h : 0 ≤ n
    · rw [Mif_bool, if_pos (by simpa using h), e3, Mpu_some]
      exact hk _ _ ⟨.inl rfl, rfl⟩
    · rw [Mif_bool, if_neg (by simpa using h)]
      exact hk _ _ ⟨.inr h, rfl⟩
  rintro u _ ⟨hu, rfl⟩
  have hp : pickV (.bool (decide (0 ≤ n))) u (.bool false) = some (.bool false) := by
    rw [pickV_bool]
    by_cases h : 0 ≤ n
    · rw [if_pos (by simpa using h)]
      rcases hu with rfl | hu
      · rw [decide_eq_false (by omega)]
      · exact absurd h hu
    · rw [if_neg (by simpa using h)]
  rw [hp, Mpu_some, Mcd_bool, if_neg (by decide), z_A24, Mnew_some]
  generalize hH1 : H.push (.cells (bcells (List.replicate 24 0)).toArray T_A24_uint8 (0, 0)) = H1
  have k1 : Keep (fun _ => False) H H1 := by rw [← hH1]; exact Keep.push
  have hq1 : H1[H.size]? = some (.cells (bcells (List.replicate 24 0)).toArray T_A24_uint8 (0, 0)) := by rw [← hH1]; exact push_new
  rw [cvI_int, Mpu_some]
  refine J1_i (fun u h => u = .int .u64 (m : Nat) ∧ H1 = h) (fun k hk => ?_) ?_
  · rw [e4, Mpu_some, Mcd_bool]
    by_cases hneg : n < 0
    · rw [if_pos (by simpa using hneg)]
      have e5 : unV .neg (.int .u64 (IntKind.u64.wrap n)) = some (.int .u64 (m : Nat)) := by
        simp only [unV]
        congr 2
        simp only [IntKind.wrap, IntKind.bits, IntKind.signed]
        simp
        omega
      rw [e5, Mpu_some]
      exact hk _ _ ⟨rfl, rfl⟩
    · rw [if_neg (by simpa using hneg)]
      have e5 : IntKind.u64.wrap n = (m : Nat) := by rw [wrap_u64 (by omega) (by omega)]; omega
      exact hk _ _ ⟨by rw [e5], rfl⟩
  rintro _ _ ⟨rfl, rfl⟩
  refine call_i (c_numDigitsA hm0 hm64 (hT.keep k1 fun _ h => h.elim)) ?_
  rintro _ _ ⟨rfl, nd, rfl, d1, d20, p1, p2⟩
  have a1 : binV .no .add (.int .i64 1) (.int .i64 (nd : Nat)) = some (.int .i64 ((1 + nd : Nat) : Int)) := by
    rw [binV_int]; simp only [intV]; rw [wrap_id] <;> first | rfl | omega
  have hcs : nd = 1 ∨ nd = 2 ∨ nd = 3 ∨ nd = 4 ∨ nd = 5 ∨ nd = 6 ∨ nd = 7 ∨ nd = 8 ∨ nd = 9 ∨ nd = 10 ∨ nd = 11 ∨ nd = 12 ∨ nd = 13 ∨ nd = 14 ∨ nd = 15 ∨ nd = 16 ∨ nd = 17 ∨ nd = 18 ∨ nd = 19 ∨ nd = 20 := by omega
  have sl : slA 24 1 (.pointer (some ⟨H.size, 0, none⟩)) (some (.int .i64 1)) (some (.int .i64 ((1 + nd : Nat) : Int))) none = some (.slice (some ⟨H.size, 1, none⟩) nd 23) := by
    rcases hcs with rfl | rfl | rfl | rfl | rfl | rfl | rfl | rfl | rfl | rfl | rfl | rfl | rfl | rfl | rfl | rfl | rfl | rfl | rfl | rfl <;> rfl
  have sl0 : slA 24 1 (.pointer (some ⟨H.size, 0, none⟩)) none (some (.int .i64 ((1 + nd : Nat) : Int))) none = some (.slice (some ⟨H.size, 0, none⟩) (1 + nd) 24) := by
    rcases hcs with rfl | rfl | rfl | rfl | rfl | rfl | rfl | rfl | rfl | rfl | rfl | rfl | rfl | rfl | rfl | rfl | rfl | rfl | rfl | rfl <;> rfl
  rw [a1, Mpu_some, sl, Mpu_some]
  refine call_i (c_format10A hq1 (by simp) d20 p2 hm64) ?_
  rintro _ h8 ⟨cs, T', hq8, hl8, hd, k8⟩
  obtain ⟨e, rfl⟩ : ∃ e, nd = e + 1 := ⟨nd - 1, by omega⟩
  have hpl : (padDec (e + 1) m).length = e + 1 := padDec_len _ _
  have hdec : padDec (e + 1) m = decF m := (decF_pad e m (by simpa using p1) p2).symm
  have kk : Keep (fun _ => False) H h8 := ⟨Nat.le_trans k1.1 k8.1, fun i hi _ => by rw [k8.2 i (Nat.lt_of_lt_of_le hi k1.1) (by omega), k1.2 i hi id]⟩
  rw [e4, Mpu_some, Mcd_bool]
  by_cases hneg : n < 0
  · rw [if_pos (by simpa using hneg)]
    have ix : ixA 24 1 (.pointer (some ⟨H.size, 0, none⟩)) (.int .i64 0) = some (Ptr H.size 0) := rfl
    have st := st_at' (i := 0) hq8 45 (by omega)
    have st' : st1 h8 (Ptr H.size 0) (.int .u8 45) = some (h8.setIfInBounds H.size (.cells (cs.set 0 (.int .u8 ((45 : UInt8).toNat : Int))).toArray T' (0, 0))) := st
    rw [ix, Mpu_some, st', Mwr_some, Mpu_some, sl0, Mpu_some]
    have hq9 := set_self (y := .cells (cs.set 0 (.int .u8 ((45 : UInt8).toNat : Int))).toArray T' (0, 0)) hq8
    have hb : Bs (h8.setIfInBounds H.size (.cells (cs.set 0 (.int .u8 ((45 : UInt8).toNat : Int))).toArray T' (0, 0))) (.slice (some ⟨H.size, 0, none⟩) (1 + (e + 1)) 24) (45 :: padDec (e + 1) m) := by
      refine Bs.mk hq9 (by rw [List.length_cons, hpl]; omega) (by simp [hl8]; omega) ?_
      cases cs with
      | nil => simp at hl8
      | cons c cs =>
        have hd' : cs.take (e + 1) = bcells (padDec (e + 1) m) := by simpa using hd
        rw [List.toList_toArray, List.set_cons_zero, List.drop_zero, show 1 + (e + 1) = (e + 1) + 1 by omega, List.take_succ_cons, hd', bcells_cons]
    rw [hb.b2s (fun s h => by cases h), Mpu_some]
    have hi : intS n = 45 :: decF m := by unfold intS; rw [if_pos hneg, show (-n).toNat = m by omega]
    refine ⟨by rw [hi, hdec], ?_⟩
    exact ⟨by simp only [Array.size_setIfInBounds]; exact kk.1, fun i hi _ => by rw [Array.getElem?_setIfInBounds, if_neg (by omega), kk.2 i hi id]⟩
  · rw [if_neg (by simpa using hneg)]
    have hb : Bs h8 (.slice (some ⟨H.size, 1, none⟩) (e + 1) 23) (padDec (e + 1) m) := Bs.mk hq8 hpl.symm (by simp [hl8]; omega) (by simpa using hd)
    simp only [sl, hb.b2s (fun s h => by cases h), Mpu_some]
    have hi : intS n = decF m := by unfold intS; rw [if_neg hneg, show n.toNat = m by omega]
    exact ⟨by rw [hi, hdec], kk⟩
end Go.Proofs.YtconalffokhplaaGreatDoor

/- strconv.Atoi of all numbers; script.number. -/
namespace Go.Proofs.YtconalffokhplaaGreatDoor
open Go.X Go.X.Diff
set_option maxRecDepth 100000

theorem decF_len_le : ∀ {k n : Nat}, 1 ≤ k → n < 10 ^ k → (decF n).length ≤ k
  | 0, _, h, _ => by omega
  | 1, n, _, h => by rw [decF, if_pos (by omega)]; simp
  | k + 2, n, _, h => by
    rw [decF]
    split
    · simp
    · have e : 10 ^ (k + 2) = 10 ^ (k + 1) * 10 := Nat.pow_succ ..
      have := decF_len_le (k := k + 1) (n := n / 10) (by omega) (by omega)
      rw [List.length_append, List.length_singleton]; omega
theorem decF_lt : ∀ {k n : Nat}, (decF n).length ≤ k → n < 10 ^ k
  | 0, n, h => by
    have := List.length_pos_iff.2 (decF_ne n); omega
  | k + 1, n, h => by
    rw [decF] at h
    have e : 10 ^ (k + 1) = 10 ^ k * 10 := Nat.pow_succ ..
    split at h
    · have hp : 0 < 10 ^ k := Nat.pow_pos (by omega)
      omega
    · rw [List.length_append, List.length_singleton] at h
      have := decF_lt (k := k) (n := n / 10) (by omega)
      omega

theorem c_toErrorX {H : Heap} {a l : List UInt8} {e : Value} (hE : ErrT H) (hl : l.length ≤ 1048576) (he : e = err 1 ∨ e = err 2) :
    HCalls prg f_strconv_toError [str a, str l, .int .i64 0, .int .i64 0, e] H fun u H' => (∃ T x, u = .iface T x) ∧ Keep (fun _ => False) H H' := by
  apply sh_strconv_toError_calls
  unfold sh_strconv_toError
  rcases he with rfl | rfl
  · simp only [mk_err, err_eq, unV_not, Bool.not_true, Bool.not_false, Mif_bool, Mif_undef, pickV_bool, Mcd_bool, Mpu_some, if_true, if_false, Bool.false_eq_true, Bool.true_eq_false, decide_true, decide_false, reduceCtorEq, J1_eq, ex20, ex21, ex30, ex31, ex32, Mre_ok, Mre_nil, show ((1 : Int) == 2) = false from rfl, show ((1 : Int) == 1) = true from rfl]
    refine call_i (c_rangeError hE hl) ?_
    intro u h k
    simp only [mk_P, unV_not, Bool.not_true, Bool.not_false, Mif_bool, Mif_undef, pickV_bool, Mcd_bool, Mpu_some, if_true, if_false, Bool.false_eq_true, Bool.true_eq_false, decide_true, decide_false, reduceCtorEq, J1_eq, ex20, ex21, ex30, ex31, ex32, Mre_ok, Mre_nil]
    exact ⟨⟨_, _, rfl⟩, k⟩
  · simp only [mk_err, err_eq, unV_not, Bool.not_true, Bool.not_false, Mif_bool, Mif_undef, pickV_bool, Mcd_bool, Mpu_some, if_true, if_false, Bool.false_eq_true, Bool.true_eq_false, decide_true, decide_false, reduceCtorEq, J1_eq, ex20, ex21, ex30, ex31, ex32, Mre_ok, Mre_nil, show ((2 : Int) == 2) = true from rfl]
    refine call_i (c_syntaxError hE hl) ?_
    intro u h k
    simp only [mk_P, unV_not, Bool.not_true, Bool.not_false, Mif_bool, Mif_undef, pickV_bool, Mcd_bool, Mpu_some, if_true, if_false, Bool.false_eq_true, Bool.true_eq_false, decide_true, decide_false, reduceCtorEq, J1_eq, ex20, ex21, ex30, ex31, ex32, Mre_ok, Mre_nil]
    exact ⟨⟨_, _, rfl⟩, k⟩
theorem c_ParseInt0 {H : Heap} : HCalls prg f_internal_strconv_ParseInt [str [], .int .i64 10, .int .i64 0] H fun u H' => u = .tuple #[.int .i64 0, err 2] ∧ H = H' := by
  apply sh_internal_strconv_ParseInt_calls
  unfold sh_internal_strconv_ParseInt
  have e0 := fun q => str_eql (q := q) (a := []) (b := [])
  rw [e0, Mpu_some, Mcd_bool, if_pos (by simp), mk_err, Mpu_some]
  exact ⟨rfl, rfl⟩

def AtN (l : List UInt8) (n : Int) (e : Value) : Prop := (0 < l.length → l.length < 19 → -1000000000000000000 ≤ n ∧ n ≤ 1000000000000000000) ∧ (∀ m : Nat, m < 1000000000000000000 → l = decF m → n = m ∧ e = .nilIface) ∧ (l = [] → e ≠ .nilIface)
def AiN (l : List UInt8) (H : Heap) (u : Value) (H' : Heap) : Prop := (∃ n e, u = .tuple #[.int .i64 n, e] ∧ IErr e ∧ AtN l n e) ∧ Keep (fun _ => False) H H'
set_option maxHeartbeats 1000000 in
theorem c_iAtoiN {H : Heap} {l : List UInt8} (hl : l.length ≤ 1048576) : HCalls prg f_internal_strconv_Atoi [str l] H (AiN l H) := by
  apply sh_internal_strconv_Atoi_calls
  unfold sh_internal_strconv_Atoi
  have e1 : binV .no .lss (.int .i64 0) (.int .i64 (l.length : Nat)) = some (.bool (decide (0 < l.length))) := by
    rw [binV_int]; simp only [intV]; congr 2; rw [decide_eq_decide]; omega
  have e2 : binV .no .lss (.int .i64 (l.length : Nat)) (.int .i64 19) = some (.bool (decide (l.length < 19))) := by
    rw [binV_int]; simp only [intV]; congr 2; rw [decide_eq_decide]; omega
  have far : ∀ (h : ¬ (0 < l.length ∧ l.length < 19)), ∀ n e, (l = [] → e ≠ .nilIface) → AtN l n e := fun h n e he => ⟨fun h1 h2 => absurd ⟨h1, h2⟩ h, fun m hm e' => absurd (by
    have h1 := decF_len_le (k := 18) (n := m) (by omega) hm
    have h2 := List.length_pos_iff.2 (decF_ne m)
    rw [← e'] at h1 h2; omega) h, he⟩
  have slow : ¬ (0 < l.length ∧ l.length < 19) → Mcall prg f_internal_strconv_ParseInt [str l, .int .i64 10, .int .i64 0] H fun t72 h30 => Mpu (extV 0 t72) fun t73 => Mpu (extV 1 t72) fun t74 => AiN l H (.tuple #[t73, t74]) h30 := fun h => by
    by_cases hnil : l = []
    · subst hnil
      refine call_i c_ParseInt0 ?_
      rintro _ _ ⟨rfl, rfl⟩
      simp only [unV_not, Bool.not_true, Bool.not_false, Mif_bool, Mif_undef, pickV_bool, Mcd_bool, Mpu_some, if_true, if_false, Bool.false_eq_true, Bool.true_eq_false, decide_true, decide_false, reduceCtorEq, J1_eq, ex20, ex21, ex30, ex31, ex32, Mre_ok, Mre_nil]
      exact ⟨⟨0, _, rfl, .inr (.inr rfl), far h _ _ fun _ e => by cases e⟩, Keep.refl⟩
    refine call_i (c_ParseInt hl) ?_
    rintro _ h3 ⟨⟨n, e, rfl, he⟩, k3⟩
    simp only [unV_not, Bool.not_true, Bool.not_false, Mif_bool, Mif_undef, pickV_bool, Mcd_bool, Mpu_some, if_true, if_false, Bool.false_eq_true, Bool.true_eq_false, decide_true, decide_false, reduceCtorEq, J1_eq, ex20, ex21, ex30, ex31, ex32, Mre_ok, Mre_nil]
    exact ⟨⟨n, e, rfl, he, far h n e fun hn => absurd hn hnil⟩, k3⟩
  simp only [lenT_str, e1, e2, unV_not, Bool.not_true, Bool.not_false, Mif_bool, Mif_undef, pickV_bool, Mcd_bool, Mpu_some, if_true, if_false, Bool.false_eq_true, Bool.true_eq_false, decide_true, decide_false, reduceCtorEq, J1_eq, ex20, ex21, ex30, ex31, ex32, Mre_ok, Mre_nil, J9_eq]
  cases h0 : decide (0 < l.length) <;> simp only [unV_not, Bool.not_true, Bool.not_false, Mif_bool, Mif_undef, pickV_bool, Mcd_bool, Mpu_some, if_true, if_false, Bool.false_eq_true, Bool.true_eq_false, decide_true, decide_false, reduceCtorEq, J1_eq, ex20, ex21, ex30, ex31, ex32, Mre_ok, Mre_nil]
  · exact slow fun h => absurd h.1 (of_decide_eq_false h0)
  cases h19 : decide (l.length < 19) <;> simp only [unV_not, Bool.not_true, Bool.not_false, Mif_bool, Mif_undef, pickV_bool, Mcd_bool, Mpu_some, if_true, if_false, Bool.false_eq_true, Bool.true_eq_false, decide_true, decide_false, reduceCtorEq, J1_eq, ex20, ex21, ex30, ex31, ex32, Mre_ok, Mre_nil]
  · exact slow fun h => absurd h.2 (of_decide_eq_false h19)
  have h0 := of_decide_eq_true h0
  have h19 := of_decide_eq_true h19
  obtain ⟨x, r, rfl⟩ : ∃ x r, l = x :: r := by cases l with
    | nil => simp at h0
    | cons x r => exact ⟨x, r, rfl⟩
  have hi : ixT (str (x :: r)) (.int .i64 0) = some (.int .u8 x.toNat) := ixT_str (i := 0) rfl
  have hs : slT (str (x :: r)) (some (.int .i64 1)) none = some (str r) := sl_from (l := x :: r) (o := 1) (by simp)
  have sg : ∀ m, x :: r = decF m → isD x := fun m e => decF_digits m x (by rw [← e]; simp)
  refine J2_i (fun t0 _ h => (∃ l2 : List UInt8, t0 = str l2 ∧ l2.length < 19 ∧ ∀ m, x :: r = decF m → l2 = x :: r) ∧ H = h) (fun k hk => ?_) ?_
  · simp only [hi, Mpu_some, binV_int, intV]
    have hr : r.length < 19 := by simp at h19; omega
    have e3 : binV .no .lss (.int .i64 (r.length : Nat)) (.int .i64 1) = some (.bool (decide (r.length < 1))) := by
      rw [binV_int]; simp only [intV]; congr 2; rw [decide_eq_decide]; omega
    have hbad : ∀ c : Nat, c < 48 → (x.toNat : Int) = c → ∀ m, x :: r = decF m → False := fun c hc hx m e => by
      have := sg m e; unfold isD at this; omega
    cases h45 : ((x.toNat : Int) == 45) <;> simp only [unV_not, Bool.not_true, Bool.not_false, Mif_bool, Mif_undef, pickV_bool, Mcd_bool, Mpu_some, if_true, if_false, Bool.false_eq_true, Bool.true_eq_false, decide_true, decide_false, reduceCtorEq, J1_eq, ex20, ex21, ex30, ex31, ex32, Mre_ok, Mre_nil]
    · cases h43 : ((x.toNat : Int) == 43) <;> simp only [unV_not, Bool.not_true, Bool.not_false, Mif_bool, Mif_undef, pickV_bool, Mcd_bool, Mpu_some, if_true, if_false, Bool.false_eq_true, Bool.true_eq_false, decide_true, decide_false, reduceCtorEq, J1_eq, ex20, ex21, ex30, ex31, ex32, Mre_ok, Mre_nil]
      · exact hk _ _ _ ⟨⟨_, rfl, h19, fun _ _ => rfl⟩, rfl⟩
      · have h43 := eq_of_beq h43
        simp only [hs, lenT_str, e3, unV_not, Bool.not_true, Bool.not_false, Mif_bool, Mif_undef, pickV_bool, Mcd_bool, Mpu_some, if_true, if_false, Bool.false_eq_true, Bool.true_eq_false, decide_true, decide_false, reduceCtorEq, J1_eq, ex20, ex21, ex30, ex31, ex32, Mre_ok, Mre_nil]
        cases h1 : decide (r.length < 1) <;> simp only [unV_not, Bool.not_true, Bool.not_false, Mif_bool, Mif_undef, pickV_bool, Mcd_bool, Mpu_some, if_true, if_false, Bool.false_eq_true, Bool.true_eq_false, decide_true, decide_false, reduceCtorEq, J1_eq, ex20, ex21, ex30, ex31, ex32, Mre_ok, Mre_nil]
        · exact hk _ _ _ ⟨⟨_, rfl, hr, fun m e => (hbad 43 (by omega) h43 m e).elim⟩, rfl⟩
        · rw [mk_err, Mpu_some]
          exact ⟨⟨0, _, rfl, .inr (.inr rfl), ⟨fun _ _ => by omega, fun m _ e => (hbad 43 (by omega) h43 m e).elim, fun e => by cases e⟩⟩, Keep.refl⟩
    · have h45 := eq_of_beq h45
      simp only [hs, lenT_str, e3, unV_not, Bool.not_true, Bool.not_false, Mif_bool, Mif_undef, pickV_bool, Mcd_bool, Mpu_some, if_true, if_false, Bool.false_eq_true, Bool.true_eq_false, decide_true, decide_false, reduceCtorEq, J1_eq, ex20, ex21, ex30, ex31, ex32, Mre_ok, Mre_nil]
      cases h1 : decide (r.length < 1) <;> simp only [unV_not, Bool.not_true, Bool.not_false, Mif_bool, Mif_undef, pickV_bool, Mcd_bool, Mpu_some, if_true, if_false, Bool.false_eq_true, Bool.true_eq_false, decide_true, decide_false, reduceCtorEq, J1_eq, ex20, ex21, ex30, ex31, ex32, Mre_ok, Mre_nil]
      · exact hk _ _ _ ⟨⟨_, rfl, hr, fun m e => (hbad 45 (by omega) h45 m e).elim⟩, rfl⟩
      · rw [mk_err, Mpu_some]
        exact ⟨⟨0, _, rfl, .inr (.inr rfl), ⟨fun _ _ => by omega, fun m _ e => (hbad 45 (by omega) h45 m e).elim, fun e => by cases e⟩⟩, Keep.refl⟩
  rintro _ _ _ ⟨⟨l2, rfl, hl2, hsame⟩, rfl⟩
  refine J2_i (fun t6 _ h => t6 = .int .i64 (valF l2 : Nat) ∧ valF l2 < 1000000000000000000 ∧ Keep (fun _ => False) H h) (fun k23 hk23 => ?_) ?_
  · refine s2b_i (by omega) fun v h1 hv k1 => ?_
    simp only [hv.len, Mpu_some]
    refine L2_i (fun t6 t49 h => ∃ i : Nat, i ≤ l2.length ∧ t49 = .int .i64 (i : Nat) ∧ t6 = .int .i64 (valF (l2.take i) : Nat) ∧ (∀ y ∈ l2.take i, isD y) ∧ h1 = h) (fun _ u _ => match u with | .int _ t => l2.length - t.toNat | _ => 0) ⟨0, Nat.zero_le _, rfl, rfl, by simp, rfl⟩ ?_
    rintro _ _ _ ⟨i, hi, rfl, rfl, hD, rfl⟩ k hk
    have elt : binV .no .lss (.int .i64 (i : Nat)) (.int .i64 (l2.length : Nat)) = some (.bool (decide (i < l2.length))) := by
      rw [binV_int]; simp only [intV]; congr 2; rw [decide_eq_decide]; omega
    rw [elt, Mpu_some, Mcd_bool]
    by_cases hlt : i < l2.length
    · rw [if_pos (by simpa using hlt)]
      have hg : l2[i]? = some l2[i] := List.getElem?_eq_getElem hlt
      generalize l2[i] = y at hg
      obtain ⟨p, hix, hld, _⟩ := hv.at hg
      have hmem : y ∈ l2 := List.mem_of_getElem? hg
      have htk : l2.take (i + 1) = l2.take i ++ [y] := by rw [List.take_add_one, hg]; rfl
      simp only [hix, hld, Mpu_some, binV_int, intV]
      have hw : IntKind.u8.wrap ((y.toNat : Int) - 48) = if 48 ≤ y.toNat then (y.toNat : Int) - 48 else (y.toNat : Int) + 208 := by
        have := y.toNat_lt
        simp only [IntKind.wrap, IntKind.bits, IntKind.signed]
        simp
        split <;> omega
      have hyl := y.toNat_lt
      by_cases hd : isD y
      · have hd' := hd
        unfold isD at hd'
        have hwe : IntKind.u8.wrap ((y.toNat : Int) - 48) = ((y.toNat - 48 : Nat) : Int) := by rw [hw, if_pos hd'.1]; omega
        have hng : ¬ (((y.toNat - 48 : Nat) : Int) > 9) := by omega
        have hvl := valF_lt hD
        have hp : (10 : Nat) ^ (l2.take i).length ≤ 10 ^ 17 := Nat.pow_le_pow_right (by omega) (by simp; omega)
        have w1 : IntKind.i64.wrap (((valF (l2.take i) : Nat) : Int) * 10) = ((valF (l2.take i) * 10 : Nat) : Int) := by rw [wrap_id] <;> omega
        have w2 : IntKind.i64.wrap ((y.toNat - 48 : Nat) : Int) = ((y.toNat - 48 : Nat) : Int) := by rw [wrap_id] <;> omega
        have w3 : IntKind.i64.wrap (((valF (l2.take i) * 10 : Nat) : Int) + ((y.toNat - 48 : Nat) : Int)) = ((valF (l2.take (i + 1)) : Nat) : Int) := by
          rw [htk, valF_snoc, wrap_id] <;> omega
        have w4 : IntKind.i64.wrap ((i : Int) + 1) = (i + 1 : Nat) := by rw [wrap_id] <;> omega
        simp only [hwe, decide_eq_false hng, unV_not, Bool.not_true, Bool.not_false, Mif_bool, Mif_undef, pickV_bool, Mcd_bool, Mpu_some, if_true, if_false, Bool.false_eq_true, Bool.true_eq_false, decide_true, decide_false, reduceCtorEq, J1_eq, ex20, ex21, ex30, ex31, ex32, Mre_ok, Mre_nil, cvI_int, w1, w2, binV_int, intV, w3, w4]
        refine hk _ _ _ ⟨i + 1, by omega, rfl, rfl, ?_, rfl⟩ (by show l2.length - (i + 1) < l2.length - i; omega)
        intro z hz
        rw [htk] at hz
        rcases List.mem_append.1 hz with hz | hz
        · exact hD z hz
        · obtain rfl : z = y := by simpa using hz
          exact hd
      · have hg9 : IntKind.u8.wrap ((y.toNat : Int) - 48) > 9 := by
          rw [hw]; unfold isD at hd; split <;> omega
        rw [decide_eq_true hg9]
        simp only [unV_not, Bool.not_true, Bool.not_false, Mif_bool, Mif_undef, pickV_bool, Mcd_bool, Mpu_some, if_true, if_false, Bool.false_eq_true, Bool.true_eq_false, decide_true, decide_false, reduceCtorEq, J1_eq, ex20, ex21, ex30, ex31, ex32, Mre_ok, Mre_nil]
        rw [mk_err, Mpu_some]
        refine ⟨⟨0, _, rfl, .inr (.inr rfl), ⟨fun _ _ => by omega, fun m _ e => ?_, fun e => by cases e⟩⟩, k1⟩
        have := decF_digits m y (by rw [← e, ← hsame m e]; exact hmem)
        exact absurd this hd
    · rw [if_neg (by simpa using hlt)]
      rw [List.take_of_length_le (by omega)] at hD ⊢
      have hvl := valF_lt hD
      have hp : (10 : Nat) ^ l2.length ≤ 10 ^ 18 := Nat.pow_le_pow_right (by omega) (by omega)
      exact hk23 _ _ _ ⟨rfl, by omega, k1⟩
  rintro _ _ h4 ⟨rfl, hvl, k4⟩
  simp only [hi, Mpu_some, binV_int, intV]
  cases h45 : ((x.toNat : Int) == 45) <;> simp only [unV_not, Bool.not_true, Bool.not_false, Mif_bool, Mif_undef, pickV_bool, Mcd_bool, Mpu_some, if_true, if_false, Bool.false_eq_true, Bool.true_eq_false, decide_true, decide_false, reduceCtorEq, J1_eq, ex20, ex21, ex30, ex31, ex32, Mre_ok, Mre_nil]
  · refine ⟨⟨_, _, rfl, .inl rfl, ⟨fun _ _ => by omega, fun m hm e => ⟨?_, rfl⟩, fun e => by cases e⟩⟩, k4⟩
    rw [hsame m e, e, valF_dec]
  · have h45 := eq_of_beq h45
    simp only [unV, Mpu_some]
    have hwr : IntKind.i64.wrap (0 - ((valF l2 : Nat) : Int)) = -((valF l2 : Nat) : Int) := by rw [wrap_id] <;> omega
    rw [hwr]
    refine ⟨⟨_, _, rfl, .inl rfl, ⟨fun _ _ => by omega, fun m hm e => ?_, fun e => by cases e⟩⟩, k4⟩
    have := sg m e
    unfold isD at this; omega


theorem c_AtoiN {H : Heap} {l : List UInt8} (hE : ErrT H) (hl : l.length ≤ 1048576) : HCalls prg f_strconv_Atoi [str l] H fun u H' => (∃ n e, u = .tuple #[.int .i64 n, e] ∧ (e = .nilIface ∨ ∃ T x, e = .iface T x) ∧ AtN l n e) ∧ Keep (fun _ => False) H H' := by
  apply sh_strconv_Atoi_calls
  unfold sh_strconv_Atoi
  refine call_i (c_iAtoiN hl) ?_
  rintro _ h1 ⟨⟨n, e, rfl, he, hn⟩, k1⟩
  have no : e ≠ .nilIface → ∀ T x, AtN l n (.iface T x) := fun hne T x => ⟨hn.1, fun m hm el => absurd (hn.2.1 m hm el).2 hne, fun _ e => by cases e⟩
  rcases he with rfl | rfl | rfl
  · simp only [nil_nil, unV_not, Bool.not_true, Bool.not_false, Mif_bool, Mif_undef, pickV_bool, Mcd_bool, Mpu_some, if_true, if_false, Bool.false_eq_true, Bool.true_eq_false, decide_true, decide_false, reduceCtorEq, J1_eq, ex20, ex21, ex30, ex31, ex32, Mre_ok, Mre_nil]
    exact ⟨⟨n, _, rfl, .inl rfl, hn⟩, k1⟩
  · simp only [err_nil, unV_not, Bool.not_true, Bool.not_false, Mif_bool, Mif_undef, pickV_bool, Mcd_bool, Mpu_some, if_true, if_false, Bool.false_eq_true, Bool.true_eq_false, decide_true, decide_false, reduceCtorEq, J1_eq, ex20, ex21, ex30, ex31, ex32, Mre_ok, Mre_nil]
    refine (call_i (c_toErrorX (a := [65, 116, 111, 105]) (hE.keep k1 fun _ h => h.elim) hl (.inl rfl)) ?_)
    rintro _ h2 ⟨⟨T, x, rfl⟩, k2⟩
    exact ⟨⟨n, _, rfl, .inr ⟨T, x, rfl⟩, no (fun e => by cases e) T x⟩, k1.trans k2⟩
  · simp only [err_nil, unV_not, Bool.not_true, Bool.not_false, Mif_bool, Mif_undef, pickV_bool, Mcd_bool, Mpu_some, if_true, if_false, Bool.false_eq_true, Bool.true_eq_false, decide_true, decide_false, reduceCtorEq, J1_eq, ex20, ex21, ex30, ex31, ex32, Mre_ok, Mre_nil]
    refine (call_i (c_toErrorX (a := [65, 116, 111, 105]) (hE.keep k1 fun _ h => h.elim) hl (.inr rfl)) ?_)
    rintro _ h2 ⟨⟨T, x, rfl⟩, k2⟩
    exact ⟨⟨n, _, rfl, .inr ⟨T, x, rfl⟩, no (fun e => by cases e) T x⟩, k1.trans k2⟩

/- script.number -/
def numOk (l : List UInt8) : Bool := decide (l.length ≤ 9) && decide (l = decF (valF l))
theorem numOk_iff {l : List UInt8} : numOk l = true ↔ ∃ m : Nat, m < 1000000000 ∧ l = decF m := by
  unfold numOk
  simp only [Bool.and_eq_true, decide_eq_true_eq]
  constructor
  · rintro ⟨h1, h2⟩
    refine ⟨valF l, ?_, h2⟩
    rw [h2] at h1
    exact decF_lt (k := 9) h1
  · rintro ⟨m, h1, rfl⟩
    exact ⟨decF_len_le (by omega) h1, by rw [valF_dec]⟩
theorem c_scNumber {H : Heap} {l : List UInt8} (hE : ErrT H) (hT : PowT H) (hl : l.length ≤ 1048576) :
    HCalls prg f_script_number [str l] H fun u H' => (∃ n : Int, u = .tuple #[.int .i64 n, .bool (numOk l)] ∧ (numOk l = true → n = (valF l : Nat))) ∧ Keep (fun _ => False) H H' := by
  apply sh_script_number_calls
  unfold sh_script_number
  refine call_i (c_AtoiN hE hl) ?_
  rintro _ h1 ⟨⟨n, e, rfl, he, hn⟩, k1⟩
  have e9 : binV .no .leq (.int .i64 (l.length : Nat)) (.int .i64 9) = some (.bool (decide (l.length ≤ 9))) := by
    rw [binV_int]; simp only [intV]; congr 2; rw [decide_eq_decide]; omega
  have e0 : binV .no .geq (.int .i64 n) (.int .i64 0) = some (.bool (decide (0 ≤ n))) := by rw [binV_int]; rfl
  have no : ∀ h, Keep (fun _ => False) H h → numOk l = false → ((∃ n' : Int, Value.tuple #[.int .i64 n, .bool false] = .tuple #[.int .i64 n', .bool (numOk l)] ∧ (numOk l = true → n' = (valF l : Nat))) ∧ Keep (fun _ => False) H h) := fun h kh hf => ⟨⟨n, by rw [hf], fun h' => by rw [hf] at h'; cases h'⟩, kh⟩
  have bad : e ≠ .nilIface → numOk l = false := fun hne => by
    cases hok : numOk l
    · rfl
    · obtain ⟨m, hm, rfl⟩ := numOk_iff.1 hok
      exact absurd (hn.2.1 m (by omega) rfl).2 hne
  rcases he with rfl | ⟨T, x, rfl⟩
  rotate_left
  · have ee : binV (.ifc (intB prg) true) .eql (.iface T x) .nilIface = some (.bool false) := rfl
    simp only [ex20, ex21, ee, unV_not, Bool.not_true, Bool.not_false, Mif_bool, Mif_undef, pickV_bool, Mcd_bool, Mpu_some, if_true, if_false, Bool.false_eq_true, Bool.true_eq_false, decide_true, decide_false, reduceCtorEq, J1_eq, ex20, ex21, ex30, ex31, ex32, Mre_ok, Mre_nil]
    exact no _ k1 (bad fun e => by cases e)
  have ee : binV (.ifc (intB prg) true) .eql .nilIface .nilIface = some (.bool true) := rfl
  cases h9 : decide (l.length ≤ 9)
  · simp only [ex20, ex21, ee, lenT_str, e9, h9, unV_not, Bool.not_true, Bool.not_false, Mif_bool, Mif_undef, pickV_bool, Mcd_bool, Mpu_some, if_true, if_false, Bool.false_eq_true, Bool.true_eq_false, decide_true, decide_false, reduceCtorEq, J1_eq, ex20, ex21, ex30, ex31, ex32, Mre_ok, Mre_nil]
    exact no _ k1 (by unfold numOk; rw [h9]; rfl)
  have h9' := of_decide_eq_true h9
  cases h0 : decide (0 ≤ n)
  · simp only [ex20, ex21, ee, lenT_str, e9, h9, e0, h0, unV_not, Bool.not_true, Bool.not_false, Mif_bool, Mif_undef, pickV_bool, Mcd_bool, Mpu_some, if_true, if_false, Bool.false_eq_true, Bool.true_eq_false, decide_true, decide_false, reduceCtorEq, J1_eq, ex20, ex21, ex30, ex31, ex32, Mre_ok, Mre_nil]
    refine no _ k1 ?_
    cases hok : numOk l
    · rfl
    · obtain ⟨m, hm, rfl⟩ := numOk_iff.1 hok
      have := (hn.2.1 m (by omega) rfl).1
      have := of_decide_eq_false h0
      omega
  have h0' := of_decide_eq_true h0
  have hne : l ≠ [] := fun e => hn.2.2 e rfl
  have hrng := hn.1 (List.length_pos_iff.2 hne) (by omega)
  simp only [ex20, ex21, ee, lenT_str, e9, h9, e0, h0, unV_not, Bool.not_true, Bool.not_false, Mif_bool, Mif_undef, pickV_bool, Mcd_bool, Mpu_some, if_true, if_false, Bool.false_eq_true, Bool.true_eq_false, decide_true, decide_false, reduceCtorEq, J1_eq, ex20, ex21, ex30, ex31, ex32, Mre_ok, Mre_nil]
  refine call_i (c_ItoaN (by omega) (by omega) (hT.keep k1 fun _ h => h.elim)) ?_
  rintro _ h2 ⟨rfl, k2⟩
  obtain ⟨m, rfl⟩ : ∃ m : Nat, n = m := ⟨n.toNat, by omega⟩
  have hi : intS (m : Int) = decF m := by unfold intS; rw [if_neg (by omega)]; rfl
  have eq : binV .no .eql (str (decF m)) (str l) = some (.bool (decide (decF m = l))) := str_eql
  simp only [hi, eq, unV_not, Bool.not_true, Bool.not_false, Mif_bool, Mif_undef, pickV_bool, Mcd_bool, Mpu_some, if_true, if_false, Bool.false_eq_true, Bool.true_eq_false, decide_true, decide_false, reduceCtorEq, J1_eq, ex20, ex21, ex30, ex31, ex32, Mre_ok, Mre_nil]
  have hres : decide (decF m = l) = numOk l := by
    unfold numOk
    rw [h9, Bool.true_and, decide_eq_decide]
    constructor
    · rintro rfl; rw [valF_dec]
    · intro h
      have hlt : valF l < 10 ^ 9 := decF_lt (k := 9) (by rw [← h]; exact h9')
      have := (hn.2.1 (valF l) (by omega) h).1
      have : m = valF l := by omega
      rw [this]; exact h.symm
  refine ⟨⟨m, by rw [hres], fun hok => ?_⟩, k1.trans k2⟩
  obtain ⟨k, hk, rfl⟩ := numOk_iff.1 hok
  rw [valF_dec]
  exact (hn.2.1 k (by omega) rfl).1
end Go.Proofs.YtconalffokhplaaGreatDoor

