/- anchor: Parse, and the law on parsing. -/
import Derived.Test.YtdmciknajaedmaaW5
namespace Go.Proofs.Ytdmciknajaedmaa
open Go.X
set_option maxRecDepth 100000

theorem RegAt.new {H : Heap} {n : Int} : RegAt H.size (H.push (.cells (regC ⟨n, zeroH, 0, zeroH, false⟩).toArray T_anchor_Register (0, 0))) ⟨n, zeroH, 0, zeroH, false⟩ := ⟨push_new, rfl, rfl⟩

abbrev lim : Int := 1099511627776
def parse (l : List UInt8) : Reg × RS :=
  let s1 := rCountS 0 lim (l, false)
  let s2 := tkS 32 s1
  let s3 := rBoolS s2
  let r : Reg := ⟨rCount 0 lim (l, false), rHash s1, 0, zeroH, false⟩
  if rBool s2 then (begR r (rHash s3), tkS 32 s3) else (r, s3)
def parseOk (l : List UInt8) : Bool := !(parse l).2.2 && (parse l).2.1.isEmpty

def ParseR (H : Heap) (l : List UInt8) (u : Value) (H' : Heap) : Prop := (if parseOk l then ∃ p, u = .tuple #[Ptr p 0, .int .i64 0] ∧ H.size ≤ p ∧ RegAt p H' (parse l).1 else u = .tuple #[.pointer none, .int .i64 10]) ∧ Keep (H.size ≤ ·) H H'
theorem c_Parse {H : Heap} {a : Option Addr} {n c : Nat} {l : List UInt8} (h : Bs H (.slice a n c) l) (hl : l.length ≤ 140737488355328) :
    HCalls prg f_anchor_Parse [.slice a n c] H (ParseR H l) := by
  apply sh_anchor_Parse_calls
  unfold sh_anchor_Parse
  refine call_i (c_NewIn h hl) ?_
  rintro _ h1 ⟨P, q, rfl, i1, hq, hP, k1⟩
  refine call_i (c_In_Count i1 hl 0 lim) ?_
  rintro _ h2 ⟨rfl, i2, k2⟩
  simp only [bld_Mark1, Mpu_some, bld_Reg, Mnew_some, Cells_agg]
  generalize hs1 : rCountS 0 lim (l, false) = s1 at *
  generalize hn : rCount 0 lim (l, false) = n at *
  have r3 := RegAt.new (H := h2) (n := n)
  have k3 : Keep (fun _ => False) h2 (h2.push (.cells (regC ⟨n, zeroH, 0, zeroH, false⟩).toArray T_anchor_Register (0, 0))) := Keep.push
  have i3 := i2.keep k3 id fun _ _ => id
  have hqp : q < h2.size := i2.lt
  have hPp := i2.1.2
  have z1 := k1.1; have z2 := k2.1
  generalize hp : h2.size = p at *
  generalize h2.push (.cells (regC ⟨n, zeroH, 0, zeroH, false⟩).toArray T_anchor_Register (0, 0)) = h3 at *
  have z3 := k3.1
  refine call_i (c_In_Hash i3) ?_
  rintro _ h4 ⟨rfl, i4, k4⟩
  have z4 := k4.1
  have r4 := r3.keep k4 (by omega)
  obtain ⟨h5, e5, r5, k5⟩ := r4.st_top (l := rHash s1) rHash_len
  have z5 := k5.1
  have i5 := i4.keep k5 (by omega) fun b hb => by have := hPp b hb; omega
  simp only [nck_ptr, fld_ptr, Mpu_some, Nat.zero_add, e5, Mwr_some, J0_eq]
  refine call_i (c_In_Bool i5) ?_
  rintro _ h6 ⟨rfl, i6, k6⟩
  have z6 := k6.1
  have r6 := r5.keep k6 (by omega)
  have fin : ∀ h7, InAt P q h7 (parse l).2 → RegAt p h7 (parse l).1 → Keep (fun b => b = q ∨ b = p) h6 h7 →
      Mcall prg f_wire_In_Done [Ptr q 0] h7 fun t26 h11 => Mpu (unV .not t26) fun t27 => Mcd t27
        (ParseR H l (.tuple #[.pointer none, .int .i64 10]) h11) (ParseR H l (.tuple #[Ptr p 0, .int .i64 0]) h11) := fun h7 i7 r7 k7 => by
    refine call_i (c_In_Done i7) ?_
    rintro _ h8 ⟨rfl, rfl⟩
    have z7 := k7.1
    have kk : Keep (H.size ≤ ·) H h8 := by
      refine ⟨by omega, fun i hi hn => ?_⟩
      rw [k7.2 i (by omega) (by omega), k6.2 i (by omega) (by omega), k5.2 i (by omega) (by omega), k4.2 i (by omega) (by omega), k3.2 i (by omega) id, k2.2 i (by omega) (by omega), k1.2 i hi hn]
    simp only [unV_not, Mpu_some, Mcd_bool]
    have e : (!(parse l).2.2 && (parse l).2.1.isEmpty) = parseOk l := rfl
    rw [e]
    cases hok : parseOk l
    · simp only [Bool.not_false, if_true]; exact ⟨by rw [hok]; rfl, kk⟩
    · simp only [Bool.not_true, Bool.false_eq_true, if_false]; exact ⟨by rw [if_pos hok]; exact ⟨p, rfl, by omega, r7⟩, kk⟩
  have ep : parse l = if rBool (tkS 32 s1) then (begR ⟨n, rHash s1, 0, zeroH, false⟩ (rHash (rBoolS (tkS 32 s1))), tkS 32 (rBoolS (tkS 32 s1))) else (⟨n, rHash s1, 0, zeroH, false⟩, rBoolS (tkS 32 s1)) := by
    unfold parse; rw [hs1, hn]
  rw [Mcd_bool]
  by_cases hb : rBool (tkS 32 s1) = true
  · rw [if_pos hb] at ep ⊢
    refine call_i (c_In_Hash i6) ?_
    rintro _ h9 ⟨rfl, i9, k9⟩
    have z9 := k9.1
    have r9 := r6.keep k9 (by omega)
    refine call_i (c_Begin r9 rHash_len) ?_
    rintro _ h10 ⟨rfl, r10, k10⟩
    have i10 := i9.keep k10 (by omega) fun b hb => by have := hPp b hb; omega
    refine fin h10 (by rw [ep]; exact i10) (by rw [ep]; exact r10) ((k9.mono fun _ _ h => .inl h).trans (k10.mono fun _ _ h => .inr h))
  · rw [if_neg hb] at ep ⊢
    exact fin h6 (by rw [ep]; exact i6) (by rw [ep]; exact r6) Keep.refl

/- THE PLAIN LAW -/
theorem num_lt {l : List UInt8} : num l < 18446744073709551616 := by
  unfold num
  rcases List.eq_nil_or_concat l with rfl | ⟨l, b, rfl⟩
  · decide
  · simp; omega

theorem byteOf_num {l : List UInt8} (hl : l.length = 8) (hn : num l < 9223372036854775808) : numB (num l : Nat) 8 = l := by
  match l, hl with
  | [b0, b1, b2, b3, b4, b5, b6, b7], _ =>
    have e : num [b0, b1, b2, b3, b4, b5, b6, b7] = b0.toNat * 72057594037927936 + b1.toNat * 281474976710656 + b2.toNat * 1099511627776 + b3.toNat * 4294967296 + b4.toNat * 16777216 + b5.toNat * 65536 + b6.toNat * 256 + b7.toNat := by
      have h0 := b0.toNat_lt; have h1 := b1.toNat_lt; have h2 := b2.toNat_lt; have h3 := b3.toNat_lt; have h4 := b4.toNat_lt; have h5 := b5.toNat_lt; have h6 := b6.toNat_lt; have h7 := b7.toNat_lt
      simp only [num, List.foldl_cons, List.foldl_nil]
      omega
    have h0 := b0.toNat_lt; have h1 := b1.toNat_lt; have h2 := b2.toNat_lt; have h3 := b3.toNat_lt; have h4 := b4.toNat_lt; have h5 := b5.toNat_lt; have h6 := b6.toNat_lt; have h7 := b7.toNat_lt
    have key : ∀ (s : Nat) (b : UInt8), (num [b0, b1, b2, b3, b4, b5, b6, b7] / 2 ^ s) % 256 = b.toNat → byteOf (num [b0, b1, b2, b3, b4, b5, b6, b7] : Nat) s = b := fun s b h => by
      unfold byteOf
      have e2 : ((num [b0, b1, b2, b3, b4, b5, b6, b7] : Nat) : Int).fdiv (2 ^ s) % 256 = ((num [b0, b1, b2, b3, b4, b5, b6, b7] / 2 ^ s % 256 : Nat) : Int) := by
        rw [Int.fdiv_eq_ediv_of_nonneg _ (by exact Int.le_of_lt (Int.pow_pos (by decide)))]
        simp
      rw [e2, h]
      simp
    simp only [numB, List.range, List.range.loop, List.map_cons, List.map_nil]
    rw [key _ b0 (by rw [e]; simp; omega), key _ b1 (by rw [e]; simp; omega), key _ b2 (by rw [e]; simp; omega), key _ b3 (by rw [e]; simp; omega), key _ b4 (by rw [e]; simp; omega), key _ b5 (by rw [e]; simp; omega), key _ b6 (by rw [e]; simp; omega), key _ b7 (by rw [e]; simp; omega)]


theorem wrap_small {n : Nat} (h : n < 18446744073709551616) (h0 : 0 ≤ IntKind.i64.wrap n) (h1 : IntKind.i64.wrap n ≤ 1099511627776) : (n : Int) = IntKind.i64.wrap n ∧ n < 9223372036854775808 := by
  simp only [IntKind.wrap, IntKind.bits, IntKind.signed, Bool.true_and] at *
  split at h0 <;> rename_i hc <;> simp at hc <;> simp [hc] at h0 h1 ⊢ <;> omega

theorem begR_idle {r : Reg} {l : List UInt8} (h : r.busy = false) : begR r l = { r with nn := IntKind.i64.wrap (r.n + 1), ntop := l, busy := true } := by unfold begR; rw [h]; rfl

theorem tk_ok {n : Nat} {s : RS} (h : (tkS n s).2 = false) : s.2 = false ∧ n ≤ s.1.length ∧ tkS n s = (s.1.drop n, false) ∧ tkB n s = false := by
  have hb : tkB n s = false := h
  have h' := hb
  simp only [tkB, Bool.or_eq_false_iff, decide_eq_false_iff_not] at h'
  exact ⟨h'.1, by omega, by simp [tkS, hb], hb⟩

/-- what Parse takes, Bytes gives back, and its count lies within the limits -/
theorem parse_bytes {l : List UInt8} (h : parseOk l = true) : regB (parse l).1 = l ∧ 0 ≤ (parse l).1.n ∧ (parse l).1.n ≤ lim := by
  have hok : (parse l).2.2 = false ∧ (parse l).2.1 = [] := by simpa [parseOk] using h
  generalize hs1 : rCountS 0 lim (l, false) = s1 at *
  generalize hn : rCount 0 lim (l, false) = n at *
  have ep : parse l = if rBool (tkS 32 s1) then (begR ⟨n, rHash s1, 0, zeroH, false⟩ (rHash (rBoolS (tkS 32 s1))), tkS 32 (rBoolS (tkS 32 s1))) else (⟨n, rHash s1, 0, zeroH, false⟩, rBoolS (tkS 32 s1)) := by
    unfold parse; rw [hs1, hn]
  have go : (rBoolS (tkS 32 s1)).2 = false → s1 = (l.drop 8, false) ∧ numB n 8 = l.take 8 ∧ 0 ≤ n ∧ n ≤ lim ∧ rHash s1 = (l.drop 8).take 32 ∧ 41 ≤ l.length ∧ (rBoolS (tkS 32 s1)).1 = l.drop 41 ∧ [if rBool (tkS 32 s1) then (1 : UInt8) else 0] = (l.drop 40).take 1 := fun hb => by
    have hb1 : tkB 1 (tkS 32 s1) = false ∧ ¬ ((tkS 32 s1).1.headD 0).toNat > 1 := by simpa [rBoolS] using hb
    obtain ⟨hb2, hl2, ht2, _⟩ := tk_ok (n := 1) (s := tkS 32 s1) hb1.1
    obtain ⟨hb3, hl3, ht3, hk3⟩ := tk_ok hb2
    have hc : (tkS 8 (l, false)).2 = false ∧ ¬ rInt (l, false) < 0 ∧ ¬ rInt (l, false) > lim := by
      rw [← hs1] at hb3
      simpa [rCountS, and_assoc] using hb3
    obtain ⟨_, hl4, ht4, hk4⟩ := tk_ok hc.1
    have e1 : s1 = (l.drop 8, false) := by
      rw [← hs1, rCountS, ht4]; simp [hc.2.1]; omega
    have en : n = IntKind.i64.wrap (num (l.take 8)) := by
      rw [← hn, rCount, ht4]
      have : rInt (l, false) = IntKind.i64.wrap (num (l.take 8)) := by simp [rInt, hk4]
      rw [this] at hc ⊢
      simp; omega
    have hr : rInt (l, false) = n := by rw [en]; simp [rInt, hk4]
    rw [hr] at hc
    subst e1
    simp only [List.length_drop] at hl3
    have e3 : (tkS 32 (l.drop 8, false)).1 = l.drop 40 := by rw [ht3]; simp
    rw [e3] at hl2
    simp only [List.length_drop] at hl2
    have hw := wrap_small (n := num (l.take 8)) num_lt (by rw [← en]; omega) (by rw [← en]; simp only [lim] at hc; omega)
    refine ⟨rfl, ?_, by omega, by omega, by simp [rHash, hk3], by simp at hl4; omega, ?_, ?_⟩
    · rw [en, ← hw.1]; exact byteOf_num (by simp at hl4 ⊢; omega) hw.2
    · show (tkS 1 _).1 = _
      rw [ht2, e3]; simp
    · have h40 : 40 < l.length := by omega
      have e4 : l.drop 40 = l[40] :: l.drop 41 := List.drop_eq_getElem_cons h40
      have hle := hb1.2
      rw [e3, e4, List.headD_cons] at hle
      have : rBool (tkS 32 (l.drop 8, false)) = (l[40] == 1) := by
        rw [rBool, hb1.1, e3, e4, List.headD_cons]; simp only [Bool.not_false, Bool.true_and]
      rw [this, e4]
      simp only [List.take_succ_cons, List.take_zero, List.cons.injEq, and_true]
      by_cases h1 : l[40] = 1
      · simp [h1]
      · have : l[40] = 0 := by
          apply UInt8.toNat.inj
          have h2 : l[40].toNat ≠ 1 := fun h => h1 (UInt8.toNat.inj (by simpa using h))
          show l[40].toNat = 0
          omega
        simp [this]
  have split4 : ∀ {m : List UInt8}, 41 ≤ l.length → l.drop 41 = m → l.take 8 ++ (l.drop 8).take 32 ++ (l.drop 40).take 1 ++ m = l := by
    rintro m h41 rfl
    have a1 : (l.drop 40).take 1 ++ l.drop 41 = l.drop 40 := by
      have := List.take_append_drop 1 (l.drop 40); rwa [List.drop_drop] at this
    have a2 : (l.drop 8).take 32 ++ l.drop 40 = l.drop 8 := by
      have := List.take_append_drop 32 (l.drop 8); rwa [List.drop_drop] at this
    rw [List.append_assoc, a1, List.append_assoc, a2, List.take_append_drop]
  by_cases hb : rBool (tkS 32 s1) = true
  · rw [if_pos hb] at ep
    rw [ep] at hok ⊢
    obtain ⟨h1, h2, h3, h4⟩ := tk_ok hok.1
    obtain ⟨e1, e2, e3, e4, e5, e6, e7, e8⟩ := go h1
    rw [begR_idle rfl]
    rw [hb] at e8
    refine ⟨?_, e3, e4⟩
    have ht : rHash (rBoolS (tkS 32 s1)) = l.drop 41 := by
      rw [rHash, h4]
      have h5 := hok.2
      rw [h3, e7] at h5
      rw [e7] at h2 ⊢
      have h6 : (l.drop 41).length ≤ 32 := by
        have := List.length_eq_zero_iff.2 h5; rw [List.length_drop] at this; omega
      simp only [Bool.false_eq_true, if_false]
      exact List.take_of_length_le h6
    simp only [regB, if_true]
    rw [ht, e2, e5]
    rw [if_pos rfl] at e8
    rw [e8]
    exact split4 e6 rfl
  · rw [if_neg hb] at ep
    rw [ep] at hok ⊢
    obtain ⟨e1, e2, e3, e4, e5, e6, e7, e8⟩ := go hok.1
    refine ⟨?_, e3, e4⟩
    rw [if_neg hb] at e8
    simp only [regB, Bool.false_eq_true, if_false]
    rw [e2, e5, e8]
    exact split4 e6 (by rw [← e7]; exact hok.2)

end Go.Proofs.Ytdmciknajaedmaa
