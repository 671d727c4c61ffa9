/- sha: what a block of 64 bytes does to the eight numbers. -/
import Derived.Test.YtmhfanpijdgkjaaDoorV0
import Derived.KernelRfl
namespace Go.Proofs.YtmhfanpijdgkjaaDoor
open Go.X
set_option maxRecDepth 100000

/- numbers in rows -/
def icells (k : IntKind) (l : List Int) : List Value := l.map (Value.int k)
@[simp] theorem icells_len {k : IntKind} {l : List Int} : (icells k l).length = l.length := by simp [icells]
theorem icells_get {k : IntKind} {l : List Int} {i : Nat} {x : Int} (h : l[i]? = some x) : (icells k l)[i]? = some (.int k x) := by simp [icells, h]
theorem icells_one {k : IntKind} {l : List Int} : ∀ v ∈ icells k l, v.oneCell' = true := by
  intro v hv; obtain ⟨b, _, rfl⟩ := List.mem_map.1 hv; rfl
theorem icells_all {k : IntKind} {l : List Int} : (icells k l).toArray.all (·.oneCell') = true := by
  rw [Array.all_eq_true_iff_forall_mem]; intro v hv; exact icells_one v (by simpa using hv)
theorem icells_set {k : IntKind} {l : List Int} {i : Nat} {x : Int} : (icells k l).set i (.int k x) = icells k (l.set i x) := by simp [icells]

/- a number's table among the variables -/
def ITab (H : Heap) (g : Nat) (k : IntKind) (zs : List Int) : Prop := ∃ T f, H[g]? = some (.cells (icells k zs).toArray T f)
theorem ITab.keep {S : Nat → Prop} {H H' : Heap} {g : Nat} {k : IntKind} {zs : List Int} (h : ITab H g k zs) (kp : Keep S H H') (hs : ¬ S g) : ITab H' g k zs := by
  obtain ⟨T, f, h⟩ := h; exact ⟨T, f, kp.at h hs⟩
theorem ITab.lt {H : Heap} {g : Nat} {k : IntKind} {zs : List Int} (h : ITab H g k zs) : g < H.size := by obtain ⟨T, f, h⟩ := h; exact lt_of h
theorem ITab.ld {H : Heap} {g : Nat} {k : IntKind} {zs : List Int} (h : ITab H g k zs) {i : Nat} {x : Int} (hi : zs[i]? = some x) : ld1 H (Ptr g i) = some (.int k x) := by
  obtain ⟨T, f, h⟩ := h; exact ld_l h (icells_get hi)

def beginL : List Int := [0x6a09e667, 0xbb67ae85, 0x3c6ef372, 0xa54ff53a, 0x510e527f, 0x9b05688c, 0x1f83d9ab, 0x5be0cd19]
def tableL : List Int := [
  0x428a2f98, 0x71374491, 0xb5c0fbcf, 0xe9b5dba5, 0x3956c25b, 0x59f111f1, 0x923f82a4, 0xab1c5ed5,
  0xd807aa98, 0x12835b01, 0x243185be, 0x550c7dc3, 0x72be5d74, 0x80deb1fe, 0x9bdc06a7, 0xc19bf174,
  0xe49b69c1, 0xefbe4786, 0x0fc19dc6, 0x240ca1cc, 0x2de92c6f, 0x4a7484aa, 0x5cb0a9dc, 0x76f988da,
  0x983e5152, 0xa831c66d, 0xb00327c8, 0xbf597fc7, 0xc6e00bf3, 0xd5a79147, 0x06ca6351, 0x14292967,
  0x27b70a85, 0x2e1b2138, 0x4d2c6dfc, 0x53380d13, 0x650a7354, 0x766a0abb, 0x81c2c92e, 0x92722c85,
  0xa2bfe8a1, 0xa81a664b, 0xc24b8b70, 0xc76c51a3, 0xd192e819, 0xd6990624, 0xf40e3585, 0x106aa070,
  0x19a4c116, 0x1e376c08, 0x2748774c, 0x34b0bcb5, 0x391c0cb3, 0x4ed8aa4a, 0x5b9cca4f, 0x682e6ff3,
  0x748f82ee, 0x78a5636f, 0x84c87814, 0x8cc70208, 0x90befffa, 0xa4506ceb, 0xbef9a3f7, 0xc67178f2]
structure ShaT (H : Heap) : Prop where
  bgn : ITab H g_sha_begin .u32 beginL
  tab : ITab H g_sha_table .u32 tableL
  sz : NG ≤ H.size
theorem ShaT.keep {S : Nat → Prop} {H H' : Heap} (h : ShaT H) (k : Keep S H H') (hs : ∀ b, S b → NG ≤ b) : ShaT H' :=
  ⟨h.bgn.keep k fun h => absurd (hs _ h) (by decide), h.tab.keep k fun h => absurd (hs _ h) (by decide), Nat.le_trans h.sz k.1⟩

/- the reckonings -/
def andI (k : IntKind) (a b : Int) : Int := k.wrap (BitVec.ofInt k.bits a &&& BitVec.ofInt k.bits b).toNat
def orI (k : IntKind) (a b : Int) : Int := k.wrap (BitVec.ofInt k.bits a ||| BitVec.ofInt k.bits b).toNat
def xorI (k : IntKind) (a b : Int) : Int := k.wrap (BitVec.ofInt k.bits a ^^^ BitVec.ofInt k.bits b).toNat
def notI (k : IntKind) (a : Int) : Int := k.wrap (BitVec.ofInt k.bits (if k.signed then -1 else k.max) ^^^ BitVec.ofInt k.bits a).toNat
def addI (k : IntKind) (a b : Int) : Int := k.wrap (a + b)
def shlI (k : IntKind) (a b : Int) : Int := k.wrap (a * 2 ^ (min b.toNat k.bits))
def shrI (k : IntKind) (a b : Int) : Int := a.fdiv (2 ^ (min b.toNat k.bits))
theorem v_and {q : EqK} {k : IntKind} {a b : Int} : binV q .and (.int k a) (.int k b) = some (.int k (andI k a b)) := by rw [binV_int]; rfl
theorem v_or {q : EqK} {k : IntKind} {a b : Int} : binV q .or (.int k a) (.int k b) = some (.int k (orI k a b)) := by rw [binV_int]; rfl
theorem v_xor {q : EqK} {k : IntKind} {a b : Int} : binV q .xor (.int k a) (.int k b) = some (.int k (xorI k a b)) := by rw [binV_int]; rfl
theorem v_not {k : IntKind} {a : Int} : unV .xor (.int k a) = some (.int k (notI k a)) := rfl
theorem v_add {q : EqK} {k : IntKind} {a b : Int} : binV q .add (.int k a) (.int k b) = some (.int k (addI k a b)) := by rw [binV_int]; rfl
theorem v_shl {q : EqK} {k k' : IntKind} {a b : Int} (h : 0 ≤ b) : binV q .shl (.int k a) (.int k' b) = some (.int k (shlI k a b)) := by
  rw [binV_shl]; simp only [intV]; rw [if_neg (by omega)]; rfl
theorem v_shr {q : EqK} {k k' : IntKind} {a b : Int} (h : 0 ≤ b) : binV q .shr (.int k a) (.int k' b) = some (.int k (shrI k a b)) := by
  rw [binV_shr]; simp only [intV]; rw [if_neg (by omega)]; rfl
theorem u64_nonneg {n : Int} : 0 ≤ IntKind.u64.wrap n := by
  simp only [IntKind.wrap, IntKind.bits, IntKind.signed]; simp; omega

def rotS (n : Int) : Int := andI .u64 (IntKind.u64.wrap n) 31
def rotl (x n : Int) : Int := orI .u32 (shlI .u32 x (rotS n)) (shrI .u32 x (IntKind.u64.wrap (32 - rotS n)))
def rotr (x n : Int) : Int := rotl x (IntKind.i64.wrap (0 - n))
theorem rotS_nonneg {n : Int} : 0 ≤ rotS n := u64_nonneg
theorem c_RotateLeft32 {H : Heap} {x n : Int} : HCalls prg f_math_bits_RotateLeft32 [.int .u32 x, .int .i64 n] H fun u H' => u = .int .u32 (rotl x n) ∧ H = H' := by
  apply sh_math_bits_RotateLeft32_calls
  unfold sh_math_bits_RotateLeft32
  simp only [cvI_int, Mpu_some, v_and]
  rw [show andI .u64 (IntKind.u64.wrap n) 31 = rotS n from rfl, v_shl rotS_nonneg]
  simp only [Mpu_some, binV_int, intV]
  rw [v_shr u64_nonneg]
  simp only [Mpu_some, v_or]
  exact ⟨rfl, trivial⟩
theorem c_right {H : Heap} {x n : Int} : HCalls prg f_sha_right [.int .u32 x, .int .i64 n] H fun u H' => u = .int .u32 (rotr x n) ∧ H = H' := by
  apply sh_sha_right_calls
  unfold sh_sha_right
  have e : unV .neg (.int .i64 n) = some (.int .i64 (IntKind.i64.wrap (0 - n))) := rfl
  simp only [e, Mpu_some]
  refine call_i c_RotateLeft32 ?_
  rintro _ _ ⟨rfl, rfl⟩
  exact ⟨rfl, rfl⟩

def wordF (l : List UInt8) : Int :=
  orI .u32 (orI .u32 (orI .u32 (shlI .u32 (IntKind.u32.wrap (l.getD 0 0).toNat) 24) (shlI .u32 (IntKind.u32.wrap (l.getD 1 0).toNat) 16)) (shlI .u32 (IntKind.u32.wrap (l.getD 2 0).toNat) 8)) (IntKind.u32.wrap (l.getD 3 0).toNat)
theorem c_word {P : Nat → Prop} {H : Heap} {v : Value} {l : List UInt8} (h : Sl P H v l) (hl : 4 ≤ l.length) : HCalls prg f_sha_word [v] H fun u H' => u = .int .u32 (wordF l) ∧ H = H' := by
  apply sh_sha_word_calls
  unfold sh_sha_word
  have g : ∀ i, i < 4 → l[i]? = some (l.getD i 0) := fun i hi => by
    have : i < l.length := by omega
    simp [List.getD, this]
  obtain ⟨u0, i0, d0, _⟩ := h.at (g 0 (by omega))
  obtain ⟨u1, i1, d1, _⟩ := h.at (g 1 (by omega))
  obtain ⟨u2, i2, d2, _⟩ := h.at (g 2 (by omega))
  obtain ⟨u3, i3, d3, _⟩ := h.at (g 3 (by omega))
  have i0 : ixS 1 v (.int .i64 0) = some u0 := i0
  have i1 : ixS 1 v (.int .i64 1) = some u1 := i1
  have i2 : ixS 1 v (.int .i64 2) = some u2 := i2
  have i3 : ixS 1 v (.int .i64 3) = some u3 := i3
  simp only [i0, i1, i2, i3, Mpu_some, d0, d1, d2, d3, cvI_int]
  rw [v_shl (by omega)]
  simp only [Mpu_some]
  rw [v_shl (by omega)]
  simp only [Mpu_some, v_or]
  rw [v_shl (by omega)]
  simp only [Mpu_some, v_or]
  exact ⟨rfl, trivial⟩

/-- the number behind those of l -/
def wNext (b : List UInt8) (l : List Int) : Int :=
  let t := l.length
  if t < 16 then wordF (b.drop (4 * t)) else
  let x := l.getD (t - 15) 0
  let y := l.getD (t - 2) 0
  addI .u32 (addI .u32 (addI .u32 (xorI .u32 (xorI .u32 (rotr y 17) (rotr y 19)) (shrI .u32 y 10)) (l.getD (t - 7) 0)) (xorI .u32 (xorI .u32 (rotr x 7) (rotr x 18)) (shrI .u32 x 3))) (l.getD (t - 16) 0)
def wOf (b : List UInt8) : Nat → List Int
  | 0 => []
  | t + 1 => wOf b t ++ [wNext b (wOf b t)]
@[simp] theorem wOf_len {b : List UInt8} {t : Nat} : (wOf b t).length = t := by induction t <;> simp_all [wOf]

/-- one round -/
def rnd (K W : Int) : List Int → List Int
  | [a, b, c, d, e, f, g, h] =>
    let t1 := addI .u32 (addI .u32 (addI .u32 (addI .u32 h (xorI .u32 (xorI .u32 (rotr e 6) (rotr e 11)) (rotr e 25))) (xorI .u32 (andI .u32 e f) (andI .u32 (notI .u32 e) g))) K) W
    let t2 := addI .u32 (xorI .u32 (xorI .u32 (rotr a 2) (rotr a 13)) (rotr a 22)) (xorI .u32 (xorI .u32 (andI .u32 a b) (andI .u32 a c)) (andI .u32 b c))
    [addI .u32 t1 t2, a, b, c, addI .u32 d t1, e, f, g]
  | s => s
theorem rnd_len {K W : Int} {s : List Int} (h : s.length = 8) : (rnd K W s).length = 8 := by
  match s, h with
  | [a, b, c, d, e, f, g, h], _ => rfl
def rnds (b : List UInt8) (s : List Int) : Nat → List Int
  | 0 => s
  | t + 1 => rnd (tableL.getD t 0) ((wOf b 64).getD t 0) (rnds b s t)
theorem rnds_len {b : List UInt8} {s : List Int} (h : s.length = 8) {t : Nat} : (rnds b s t).length = 8 := by
  induction t with
  | zero => exact h
  | succ t ih => exact rnd_len ih
/-- the eight numbers behind a block -/
def blkF (s : List Int) (b : List UInt8) : List Int := List.zipWith (addI .u32) s (rnds b s 64)
theorem blkF_len {s : List Int} {b : List UInt8} (h : s.length = 8) : (blkF s b).length = 8 := by simp [blkF, h, rnds_len h]

end Go.Proofs.YtmhfanpijdgkjaaDoor
