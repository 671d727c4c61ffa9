/- wire: numbers, hashes and bools read. -/
import Derived.Test.YtdmciknajaedmaaW1
namespace Go.Proofs.Ytdmciknajaedmaa
open Go.X
set_option maxRecDepth 100000

theorem wrap_u64 {n : Int} (h : 0 ≤ n) : IntKind.u64.wrap n = n % 18446744073709551616 := by
  simp only [IntKind.wrap, IntKind.bits, IntKind.signed]; simp

theorem or_lo (a b : Nat) (hb : b < 256) : IntKind.u64.wrap ((BitVec.ofInt 64 (IntKind.u64.wrap ((a : Int) * 256)) ||| BitVec.ofInt 64 (b : Int)).toNat : Int) = (((a * 256 + b) % 18446744073709551616 : Nat) : Int) := by
  rw [wrap_u64 (n := (a : Int) * 256) (by omega)]
  have h1 : (a : Int) * 256 % 18446744073709551616 = ((a % 72057594037927936 * 256 : Nat) : Int) := by omega
  rw [h1, BitVec.ofInt_natCast, BitVec.ofInt_natCast, BitVec.toNat_or, BitVec.toNat_ofNat, BitVec.toNat_ofNat]
  rw [Nat.mod_eq_of_lt (by omega), Nat.mod_eq_of_lt (a := b) (by omega)]
  have h2 := Nat.shiftLeft_add_eq_or_of_lt (i := 8) hb (a % 72057594037927936)
  rw [Nat.shiftLeft_eq] at h2
  rw [wrap_u64 (by omega)]
  have h3 : a % 72057594037927936 * 256 ||| b = a % 72057594037927936 * 2 ^ 8 + b := h2.symm
  rw [h3]; omega

theorem num_snoc {l : List UInt8} {b : UInt8} : num (l ++ [b]) = (num l * 256 + b.toNat) % 18446744073709551616 := by simp [num]
theorem num_nil : num [] = 0 := rfl
theorem take_succ {l : List UInt8} {i : Nat} (h : i < l.length) : l.take (i + 1) = l.take i ++ [l[i]] := by simp

theorem c_number {P : Nat → Prop} {H : Heap} {v : Value} {l : List UInt8} (h : Sl P H v l) (hl : l.length ≤ 140737488355328) :
    HCalls prg f_wire_number [v] H fun u H' => u = .int .i64 (IntKind.i64.wrap (num l)) ∧ H' = H := by
  apply sh_wire_number_calls
  unfold sh_wire_number
  simp only [J2_eq, h.len, Mpu_some]
  refine L2_i (fun a u h' => ∃ i, i ≤ l.length ∧ a = .int .u64 (num (l.take i)) ∧ u = .int .i64 (i : Nat) ∧ h' = H) (fun _ u _ => match u with | .int _ i => l.length - i.toNat | _ => 0) ⟨0, Nat.zero_le _, rfl, rfl, rfl⟩ ?_
  rintro _ _ _ ⟨i, hi, rfl, rfl, rfl⟩ k hk
  simp only [binV_int, intV, Mpu_some, Mcd_bool, decide_eq_true_eq]
  by_cases hlt : (i : Int) < l.length
  · rw [if_pos hlt]
    have hlt' : i < l.length := by omega
    obtain ⟨u, hu, hu', _⟩ := h.at (i := i) (x := l[i]) (by simp [hlt'])
    have hb := l[i].toNat_lt
    simp only [hu, Mpu_some, hu', binV_shl, intV, cvI_int, binV_int]
    rw [if_neg (by decide)]
    simp only [Mpu_some, binV_int, intV]
    have hw : IntKind.i64.wrap (i + 1) = (i + 1 : Nat) := by rw [wrap_id] <;> omega
    have e1 : (2 : Int) ^ (min (Int.toNat 8) 64) = 256 := by decide
    have e2 : IntKind.u64.wrap (l[i].toNat : Int) = l[i].toNat := by rw [wrap_u64 (by omega)]; omega
    simp only [e2, Mpu_some, hw, show IntKind.u64.bits = 64 from rfl]
    simp only [e1]
    erw [or_lo _ _ hb]
    refine hk _ _ _ ⟨i + 1, hlt', ?_, rfl, rfl⟩ ?_
    · rw [take_succ hlt', num_snoc]
    · show l.length - (i + 1) < l.length - i; omega
  · rw [if_neg hlt]
    have : i = l.length := by omega
    subst this
    simp only [cvI_int, Mpu_some, List.take_length]
    first | trivial | exact ⟨trivial, trivial⟩

/- the reader's steps -/
def rInt (s : RS) : Int := if tkB 8 s then 0 else IntKind.i64.wrap (num (s.1.take 8))

theorem InAt.bad {P : Nat → Prop} {p : Nat} {H : Heap} {s : RS} (h : InAt P p H s) : ld1 H (Ptr p 1) = some (.bool s.2) := by
  obtain ⟨_, v, hp, _⟩ := h
  rw [ld1_at hp]; rfl
theorem InAt.setBad {P : Nat → Prop} {p : Nat} {H : Heap} {s : RS} (h : InAt P p H s) (x : Bool) : ∃ H', st1 H (Ptr p 1) (.bool x) = some H' ∧ InAt P p H' (s.1, x) ∧ Keep (· = p) H H' := by
  obtain ⟨⟨hn, hP⟩, v, hp, hs⟩ := h
  refine ⟨_, st1_at hp 1 _ (by simp) rfl, ⟨⟨hn, by simpa using hP⟩, v, ?_, ?_⟩, Keep.set rfl⟩
  · rw [set_self hp]; simp
  · exact hs.keep (Keep.set (S := (· = p)) rfl) fun b hb e => hn (e ▸ hb)

theorem c_In_Int {P : Nat → Prop} {p : Nat} {H : Heap} {s : RS} (h : InAt P p H s) (hl : s.1.length ≤ 140737488355328) :
    HCalls prg f_wire_In_Int [Ptr p 0] H fun u H' => u = .int .i64 (rInt s) ∧ InAt P p H' (tkS 8 s) ∧ Keep (· = p) H H' := by
  apply sh_wire_In_Int_calls
  unfold sh_wire_In_Int
  refine call_i (c_take h 8) ?_
  rintro u h1 ⟨hu, hi, hk⟩
  simp only [nck_ptr, fld_ptr, Mpu_some, Nat.zero_add, hi.bad, Mcd_bool]
  have e : (tkS 8 s).2 = tkB 8 s := rfl
  rw [e]
  by_cases hb : tkB 8 s = true
  · rw [if_pos hb]
    exact ⟨by rw [rInt, if_pos hb], hi, hk⟩
  · rw [if_neg hb]
    refine call_i (c_number hu (by rw [tkO]; split <;> simp; omega)) ?_
    rintro v h2 ⟨rfl, rfl⟩
    exact ⟨by rw [rInt, if_neg hb, tkO, if_neg hb], hi, hk⟩

def rCount (lo hi : Int) (s : RS) : Int := if (tkS 8 s).2 || decide (rInt s < lo) || decide (rInt s > hi) then 0 else rInt s
def rCountS (lo hi : Int) (s : RS) : RS := ((tkS 8 s).1, (tkS 8 s).2 || decide (rInt s < lo) || decide (rInt s > hi))
theorem c_In_Count {P : Nat → Prop} {p : Nat} {H : Heap} {s : RS} (h : InAt P p H s) (hl : s.1.length ≤ 140737488355328) (lo hi : Int) :
    HCalls prg f_wire_In_Count [Ptr p 0, .int .i64 lo, .int .i64 hi] H fun u H' => u = .int .i64 (rCount lo hi s) ∧ InAt P p H' (rCountS lo hi s) ∧ Keep (· = p) H H' := by
  apply sh_wire_In_Count_calls
  unfold sh_wire_In_Count
  refine call_i (c_In_Int h hl) ?_
  rintro u h1 ⟨rfl, hi', hk⟩
  obtain ⟨h2, hst, hin, hk2⟩ := hi'.setBad true
  simp only [nck_ptr, fld_ptr, Mpu_some, Nat.zero_add, hi'.bad, Mcd_bool, J1_eq, Mif_bool, binV_int, intV]
  simp only [rCount, rCountS]
  generalize tkS 8 s = S at *
  obtain ⟨l2, b⟩ := S
  by_cases h3 : rInt s < lo <;> by_cases h4 : rInt s > hi <;> cases b <;>
    simp [h3, h4, hst] <;> first | exact ⟨by simpa [h3, h4] using hin, hk.trans hk2⟩ | exact ⟨by simpa [h3, h4] using hi', hk⟩

end Go.Proofs.Ytdmciknajaedmaa
