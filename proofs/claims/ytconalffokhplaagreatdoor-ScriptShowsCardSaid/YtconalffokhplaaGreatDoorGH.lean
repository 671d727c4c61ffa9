/- JOINED: V0 V1 V2 V3 V4 -/
import Derived.Test.YtconalffokhplaaGreatDoorGF
import Derived.Test.YtconalffokhplaaGreatDoorGG
import Derived.Test.YtconalffokhplaaGreatDoorGE
import Derived.Test.YtconalffokhplaaGreatDoorGS
import Derived.Test.YtconalffokhplaaGreatDoorGQ
import Derived.Test.YtconalffokhplaaGreatDoorGT
import Derived.KernelRfl
set_option linter.unusedSimpArgs false
set_option linter.unusedVariables false
/- wire: what the writers do. -/
namespace Go.Proofs.YtconalffokhplaaGreatDoor
open Go.X
set_option maxRecDepth 100000

theorem bsl1 {n : Int} : bslV prg T_uint8 1 [(0, .int .u8 n)] = some #[.int .u8 n] := by kernel_rfl
/- THE WRITER -/
def Wr (F : Nat → Prop) (p : Nat) : Nat → Prop := fun b => F b ∨ b = p
def byteOf (n : Int) (s : Nat) : UInt8 := UInt8.ofNat ((n.fdiv (2 ^ s)) % 256).toNat
def numB (n : Int) (size : Nat) : List UInt8 := (List.range size).map fun i => byteOf n (8 * (size - 1 - i))
def numTo (n : Int) (size j : Nat) : List UInt8 := (List.range j).map fun i => byteOf n (8 * (size - 1 - i))
@[simp] theorem numB_len {n : Int} {s : Nat} : (numB n s).length = s := by simp [numB]
@[simp] theorem numTo_len {n : Int} {s j : Nat} : (numTo n s j).length = j := by simp [numTo]
end Go.Proofs.YtconalffokhplaaGreatDoor

/- sha: what a block of 64 bytes does to the eight numbers. -/
namespace Go.Proofs.YtconalffokhplaaGreatDoor
open Go.X
set_option maxRecDepth 100000

/- numbers in rows -/
def icells (k : IntKind) (l : List Int) : List Value := l.map (Value.int k)
@[simp] theorem icells_len {k : IntKind} {l : List Int} : (icells k l).length = l.length := by simp [icells]
theorem icells_get {k : IntKind} {l : List Int} {i : Nat} {x : Int} (h : l[i]? = some x) : (icells k l)[i]? = some (.int k x) := by simp [icells, h]
theorem icells_one {k : IntKind} {l : List Int} : ∀ v ∈ icells k l, v.oneCell' = true := by
  intro v hv; obtain ⟨b, _, rfl⟩ := List.mem_map.1 hv; rfl
theorem icells_all {k : IntKind} {l : List Int} : (icells k l).toArray.all (·.oneCell') = true := by
  rw [Array.all_eq_true_iff_forall_mem]; intro v hv; exact icells_one v (by simpa using hv)
theorem icells_set {k : IntKind} {l : List Int} {i : Nat} {x : Int} : (icells k l).set i (.int k x) = icells k (l.set i x) := by simp [icells]

/- a number's table among the variables -/
def ITab (H : Heap) (g : Nat) (k : IntKind) (zs : List Int) : Prop := ∃ T f, H[g]? = some (.cells (icells k zs).toArray T f)
theorem ITab.keep {S : Nat → Prop} {H H' : Heap} {g : Nat} {k : IntKind} {zs : List Int} (h : ITab H g k zs) (kp : Keep S H H') (hs : ¬ S g) : ITab H' g k zs := by
  obtain ⟨T, f, h⟩ := h; exact ⟨T, f, kp.at h hs⟩
theorem ITab.lt {H : Heap} {g : Nat} {k : IntKind} {zs : List Int} (h : ITab H g k zs) : g < H.size := by obtain ⟨T, f, h⟩ := h; exact lt_of h
theorem ITab.ld {H : Heap} {g : Nat} {k : IntKind} {zs : List Int} (h : ITab H g k zs) {i : Nat} {x : Int} (hi : zs[i]? = some x) : ld1 H (Ptr g i) = some (.int k x) := by
  obtain ⟨T, f, h⟩ := h; exact ld_l h (icells_get hi)

def beginL : List Int := [0x6a09e667, 0xbb67ae85, 0x3c6ef372, 0xa54ff53a, 0x510e527f, 0x9b05688c, 0x1f83d9ab, 0x5be0cd19]
def tableL : List Int := [
  0x428a2f98, 0x71374491, 0xb5c0fbcf, 0xe9b5dba5, 0x3956c25b, 0x59f111f1, 0x923f82a4, 0xab1c5ed5,
  0xd807aa98, 0x12835b01, 0x243185be, 0x550c7dc3, 0x72be5d74, 0x80deb1fe, 0x9bdc06a7, 0xc19bf174,
  0xe49b69c1, 0xefbe4786, 0x0fc19dc6, 0x240ca1cc, 0x2de92c6f, 0x4a7484aa, 0x5cb0a9dc, 0x76f988da,
  0x983e5152, 0xa831c66d, 0xb00327c8, 0xbf597fc7, 0xc6e00bf3, 0xd5a79147, 0x06ca6351, 0x14292967,
  0x27b70a85, 0x2e1b2138, 0x4d2c6dfc, 0x53380d13, 0x650a7354, 0x766a0abb, 0x81c2c92e, 0x92722c85,
  0xa2bfe8a1, 0xa81a664b, 0xc24b8b70, 0xc76c51a3, 0xd192e819, 0xd6990624, 0xf40e3585, 0x106aa070,
  0x19a4c116, 0x1e376c08, 0x2748774c, 0x34b0bcb5, 0x391c0cb3, 0x4ed8aa4a, 0x5b9cca4f, 0x682e6ff3,
  0x748f82ee, 0x78a5636f, 0x84c87814, 0x8cc70208, 0x90befffa, 0xa4506ceb, 0xbef9a3f7, 0xc67178f2]
structure ShaT (H : Heap) : Prop where
  bgn : ITab H g_sha_begin .u32 beginL
  tab : ITab H g_sha_table .u32 tableL
  sz : NG ≤ H.size
theorem ShaT.keep {S : Nat → Prop} {H H' : Heap} (h : ShaT H) (k : Keep S H H') (hs : ∀ b, S b → NG ≤ b) : ShaT H' :=
  ⟨h.bgn.keep k fun h => absurd (hs _ h) (by decide), h.tab.keep k fun h => absurd (hs _ h) (by decide), Nat.le_trans h.sz k.1⟩

/- the reckonings -/
def andI (k : IntKind) (a b : Int) : Int := k.wrap (BitVec.ofInt k.bits a &&& BitVec.ofInt k.bits b).toNat
def orI (k : IntKind) (a b : Int) : Int := k.wrap (BitVec.ofInt k.bits a ||| BitVec.ofInt k.bits b).toNat
def xorI (k : IntKind) (a b : Int) : Int := k.wrap (BitVec.ofInt k.bits a ^^^ BitVec.ofInt k.bits b).toNat
def notI (k : IntKind) (a : Int) : Int := k.wrap (BitVec.ofInt k.bits (if k.signed then -1 else k.max) ^^^ BitVec.ofInt k.bits a).toNat
def addI (k : IntKind) (a b : Int) : Int := k.wrap (a + b)
def shlI (k : IntKind) (a b : Int) : Int := k.wrap (a * 2 ^ (min b.toNat k.bits))
def shrI (k : IntKind) (a b : Int) : Int := a.fdiv (2 ^ (min b.toNat k.bits))
theorem v_and {q : EqK} {k : IntKind} {a b : Int} : binV q .and (.int k a) (.int k b) = some (.int k (andI k a b)) := by rw [binV_int]; rfl
theorem v_or {q : EqK} {k : IntKind} {a b : Int} : binV q .or (.int k a) (.int k b) = some (.int k (orI k a b)) := by rw [binV_int]; rfl
theorem v_xor {q : EqK} {k : IntKind} {a b : Int} : binV q .xor (.int k a) (.int k b) = some (.int k (xorI k a b)) := by rw [binV_int]; rfl
theorem v_not {k : IntKind} {a : Int} : unV .xor (.int k a) = some (.int k (notI k a)) := rfl
theorem v_add {q : EqK} {k : IntKind} {a b : Int} : binV q .add (.int k a) (.int k b) = some (.int k (addI k a b)) := by rw [binV_int]; rfl
theorem v_shl {q : EqK} {k k' : IntKind} {a b : Int} (h : 0 ≤ b) : binV q .shl (.int k a) (.int k' b) = some (.int k (shlI k a b)) := by
  rw [binV_shl]; simp only [intV]; rw [if_neg (by omega)]; rfl
theorem v_shr {q : EqK} {k k' : IntKind} {a b : Int} (h : 0 ≤ b) : binV q .shr (.int k a) (.int k' b) = some (.int k (shrI k a b)) := by
  rw [binV_shr]; simp only [intV]; rw [if_neg (by omega)]; rfl
theorem u64_nonneg {n : Int} : 0 ≤ IntKind.u64.wrap n := by
  simp only [IntKind.wrap, IntKind.bits, IntKind.signed]; simp; omega

def rotS (n : Int) : Int := andI .u64 (IntKind.u64.wrap n) 31
def rotl (x n : Int) : Int := orI .u32 (shlI .u32 x (rotS n)) (shrI .u32 x (IntKind.u64.wrap (32 - rotS n)))
def rotr (x n : Int) : Int := rotl x (IntKind.i64.wrap (0 - n))
theorem rotS_nonneg {n : Int} : 0 ≤ rotS n := u64_nonneg
theorem c_RotateLeft32 {H : Heap} {x n : Int} : HCalls prg f_math_bits_RotateLeft32 [.int .u32 x, .int .i64 n] H fun u H' => u = .int .u32 (rotl x n) ∧ H = H' := by
  apply sh_math_bits_RotateLeft32_calls
  unfold sh_math_bits_RotateLeft32
  simp only [cvI_int, Mpu_some, v_and]
  rw [show andI .u64 (IntKind.u64.wrap n) 31 = rotS n from rfl, v_shl rotS_nonneg]
  simp only [Mpu_some, binV_int, intV]
  rw [v_shr u64_nonneg]
  simp only [Mpu_some, v_or]
  exact ⟨rfl, trivial⟩
theorem c_right {H : Heap} {x n : Int} : HCalls prg f_sha_right [.int .u32 x, .int .i64 n] H fun u H' => u = .int .u32 (rotr x n) ∧ H = H' := by
  apply sh_sha_right_calls
  unfold sh_sha_right
  have e : unV .neg (.int .i64 n) = some (.int .i64 (IntKind.i64.wrap (0 - n))) := rfl
  simp only [e, Mpu_some]
  refine call_i c_RotateLeft32 ?_
  rintro _ _ ⟨rfl, rfl⟩
  exact ⟨rfl, rfl⟩

def wordF (l : List UInt8) : Int :=
  orI .u32 (orI .u32 (orI .u32 (shlI .u32 (IntKind.u32.wrap (l.getD 0 0).toNat) 24) (shlI .u32 (IntKind.u32.wrap (l.getD 1 0).toNat) 16)) (shlI .u32 (IntKind.u32.wrap (l.getD 2 0).toNat) 8)) (IntKind.u32.wrap (l.getD 3 0).toNat)
theorem c_word {P : Nat → Prop} {H : Heap} {v : Value} {l : List UInt8} (h : Sl P H v l) (hl : 4 ≤ l.length) : HCalls prg f_sha_word [v] H fun u H' => u = .int .u32 (wordF l) ∧ H = H' := by
  apply sh_sha_word_calls
  unfold sh_sha_word
  have g : ∀ i, i < 4 → l[i]? = some (l.getD i 0) := fun i hi => by
    have : i < l.length := by omega
    simp [List.getD, this]
  obtain ⟨u0, i0, d0, _⟩ := h.at (g 0 (by omega))
  obtain ⟨u1, i1, d1, _⟩ := h.at (g 1 (by omega))
  obtain ⟨u2, i2, d2, _⟩ := h.at (g 2 (by omega))
  obtain ⟨u3, i3, d3, _⟩ := h.at (g 3 (by omega))
  have i0 : ixS 1 v (.int .i64 0) = some u0 := i0
  have i1 : ixS 1 v (.int .i64 1) = some u1 := i1
  have i2 : ixS 1 v (.int .i64 2) = some u2 := i2
  have i3 : ixS 1 v (.int .i64 3) = some u3 := i3
  simp only [i0, i1, i2, i3, Mpu_some, d0, d1, d2, d3, cvI_int]
  rw [v_shl (by omega)]
  simp only [Mpu_some]
  rw [v_shl (by omega)]
  simp only [Mpu_some, v_or]
  rw [v_shl (by omega)]
  simp only [Mpu_some, v_or]
  exact ⟨rfl, trivial⟩

/-- the number behind those of l -/
def wNext (b : List UInt8) (l : List Int) : Int :=
  let t := l.length
  if t < 16 then wordF (b.drop (4 * t)) else
  let x := l.getD (t - 15) 0
  let y := l.getD (t - 2) 0
  addI .u32 (addI .u32 (addI .u32 (xorI .u32 (xorI .u32 (rotr y 17) (rotr y 19)) (shrI .u32 y 10)) (l.getD (t - 7) 0)) (xorI .u32 (xorI .u32 (rotr x 7) (rotr x 18)) (shrI .u32 x 3))) (l.getD (t - 16) 0)
def wOf (b : List UInt8) : Nat → List Int
  | 0 => []
  | t + 1 => wOf b t ++ [wNext b (wOf b t)]
@[simp] theorem wOf_len {b : List UInt8} {t : Nat} : (wOf b t).length = t := by induction t <;> simp_all [wOf]

/-- one round -/
def rnd (K W : Int) : List Int → List Int
  | [a, b, c, d, e, f, g, h] =>
    let t1 := addI .u32 (addI .u32 (addI .u32 (addI .u32 h (xorI .u32 (xorI .u32 (rotr e 6) (rotr e 11)) (rotr e 25))) (xorI .u32 (andI .u32 e f) (andI .u32 (notI .u32 e) g))) K) W
    let t2 := addI .u32 (xorI .u32 (xorI .u32 (rotr a 2) (rotr a 13)) (rotr a 22)) (xorI .u32 (xorI .u32 (andI .u32 a b) (andI .u32 a c)) (andI .u32 b c))
    [addI .u32 t1 t2, a, b, c, addI .u32 d t1, e, f, g]
  | s => s
theorem rnd_len {K W : Int} {s : List Int} (h : s.length = 8) : (rnd K W s).length = 8 := by
  match s, h with
  | [a, b, c, d, e, f, g, h], _ => rfl
def rnds (b : List UInt8) (s : List Int) : Nat → List Int
  | 0 => s
  | t + 1 => rnd (tableL.getD t 0) ((wOf b 64).getD t 0) (rnds b s t)
theorem rnds_len {b : List UInt8} {s : List Int} (h : s.length = 8) {t : Nat} : (rnds b s t).length = 8 := by
  induction t with
  | zero => exact h
  | succ t ih => exact rnd_len ih
/-- the eight numbers behind a block -/
def blkF (s : List Int) (b : List UInt8) : List Int := List.zipWith (addI .u32) s (rnds b s 64)
theorem blkF_len {s : List Int} {b : List UInt8} (h : s.length = 8) : (blkF s b).length = 8 := by simp [blkF, h, rnds_len h]

end Go.Proofs.YtconalffokhplaaGreatDoor

/- sha: a block, walked. -/
namespace Go.Proofs.YtconalffokhplaaGreatDoor
open Go.X
set_option maxRecDepth 100000

theorem z_A64 : zcells prg T_A64_uint32 = some (icells .u32 (List.replicate 64 0)).toArray := by kernel_rfl
theorem z_A8 : zcells prg T_A8_uint32 = some (icells .u32 (List.replicate 8 0)).toArray := by kernel_rfl

theorem getD_of {l : List Int} {i : Nat} (h : i < l.length) : l[i]? = some (l.getD i 0) := by simp [List.getD, h]
theorem wset {b : List UInt8} {t : Nat} (ht : t < 64) : (wOf b t ++ List.replicate (64 - t) 0).set t (wNext b (wOf b t)) = wOf b (t + 1) ++ List.replicate (64 - (t + 1)) 0 := by
  rw [List.set_append_right _ _ (by simp), wOf_len, Nat.sub_self, show 64 - t = (64 - (t + 1)) + 1 by omega, List.replicate_succ]
  simp [wOf]
theorem wget {b : List UInt8} {t i : Nat} (h : i < t) : (wOf b t ++ List.replicate (64 - t) 0)[i]? = some ((wOf b t).getD i 0) := by
  rw [List.getElem?_append_left (by simpa using h), getD_of (by simpa using h)]

theorem copy8 {H : Heap} {q : Nat} {T : TypeId} {a b c d e f g h : Int} {k : Value → Heap → Prop} (hq : H[q]? = some (.cells (icells .u32 [a, b, c, d, e, f, g, h]).toArray T (0, 0)))
    (hk : k (.int .i64 7) (H.setIfInBounds q (.cells (icells .u32 [a, a, b, c, d, e, f, g]).toArray T (0, 0)))) : Mcopy 1 H (.slice (some ⟨q, 1, none⟩) 7 7) (.slice (some ⟨q, 0, none⟩) 7 8) k := by
  refine ⟨7, (icells .u32 [a, b, c, d, e, f, g]).toArray, some ⟨q, 1, none⟩, 7, 7, ?_, rfl, icells_all, ?_⟩
  · simp only [elemsOf, hq]; rfl
  · have e : ((icells .u32 [a, b, c, d, e, f, g]).toArray.extract 0 (Nat.min 7 7 * 1)) = (icells .u32 [a, b, c, d, e, f, g]).toArray := rfl
    simp only [e]
    rw [stA_at hq 1 _ thaw_00 (by simp [icells]) icells_all, Mwr_some]
    exact hk

theorem zip_set {s R : List Int} {i : Nat} (hs : s.length = 8) (hR : R.length = 8) (hi : i < 8) :
    ((List.zipWith (addI .u32) s R).take i ++ s.drop i).set i (addI .u32 (s.getD i 0) (R.getD i 0)) = (List.zipWith (addI .u32) s R).take (i + 1) ++ s.drop (i + 1) := by
  match s, hs, R, hR with
  | [a, b, c, d, e, f, g, h], _, [a', b', c', d', e', f', g', h'], _ =>
    match i, hi with
    | 0, _ => rfl
    | 1, _ => rfl
    | 2, _ => rfl
    | 3, _ => rfl
    | 4, _ => rfl
    | 5, _ => rfl
    | 6, _ => rfl
    | 7, _ => rfl

theorem c_block {P : Nat → Prop} {p : Nat} {H : Heap} {v : Value} {l : List UInt8} {s : List Int} {r : List Value} {T : TypeId} (hT : ShaT H) (hd : H[p]? = some (.cells (icells .u32 s ++ r).toArray T (0, 0))) (hs : s.length = 8)
    (hb : Sl P H v l) (hl : 64 ≤ l.length) (hP : ∀ b, P b → b < H.size) :
    HCalls prg f_sha_Digest_block [Ptr p 0, v] H fun u H' => u = .tuple #[] ∧ H'[p]? = some (.cells (icells .u32 (blkF s l) ++ r).toArray T (0, 0)) ∧ Keep (· = p) H H' := by
  apply sh_sha_Digest_block_calls
  unfold sh_sha_Digest_block
  simp only [z_A64, Mnew_some, J1_eq, z_A8]
  have hplt := lt_of hd
  have hNG : NG ≤ H.size := hT.sz
  generalize hH1 : H.push (.cells (icells .u32 (List.replicate 64 0)).toArray T_A64_uint32 (0, 0)) = H1
  have k1 : Keep (fun _ => False) H H1 := by rw [← hH1]; exact Keep.push
  have hq1 : H1[H.size]? = some (.cells (icells .u32 (List.replicate 64 0)).toArray T_A64_uint32 (0, 0)) := by rw [← hH1]; exact push_new
  have hs1 : H1.size = H.size + 1 := by rw [← hH1]; simp
  generalize hqe : H.size = q at *
  refine L1_i (fun u h => ∃ t, t ≤ 64 ∧ u = .int .i64 (t : Nat) ∧ h[q]? = some (.cells (icells .u32 (wOf l t ++ List.replicate (64 - t) 0)).toArray T_A64_uint32 (0, 0)) ∧ Keep (· = q) H1 h)
    (fun u _ => match u with | .int _ t => 64 - t.toNat | _ => 0) ⟨0, by omega, rfl, by simpa [wOf] using hq1, Keep.refl⟩ ?_
  rintro _ h ⟨t, ht, rfl, hw, kw⟩ k hk
  simp only [binV_int, intV, Mpu_some, Mcd_bool, decide_eq_true_eq, J0_eq]
  have hinc : IntKind.i64.wrap ((t : Int) + 1) = (t + 1 : Nat) := by rw [wrap_id] <;> omega
  by_cases hlt : (t : Int) < 64
  · rw [if_pos hlt]
    have hlt' : t < 64 := by omega
    have fin : ∀ x, x = wNext l (wOf l t) → ∃ h', st1 h (Ptr q t) (.int .u32 x) = some h' ∧ k (.int .i64 (t + 1 : Nat)) h' := by
      rintro _ rfl
      have hst := st_l hw (i := t) (v := .int .u32 (wNext l (wOf l t))) (by simp; omega) rfl
      refine ⟨_, hst, hk _ _ ⟨t + 1, hlt', rfl, ?_, kw.trans (Keep.set rfl)⟩ (by show 64 - (t + 1) < 64 - t; omega)⟩
      rw [set_self hw, icells_set, wset hlt']
    have ea : ixA 64 1 (.pointer (some ⟨q, 0, none⟩)) (.int .i64 (t : Nat)) = some (Ptr q t) := by rw [ixA_at hlt']; simp
    by_cases h16 : (t : Int) < 16
    · rw [if_pos h16]
      have hm : IntKind.i64.wrap (4 * (t : Int)) = ((4 * t : Nat) : Int) := by rw [wrap_id] <;> omega
      have hb' := (hb.keep k1 fun _ _ => id).keep kw fun b hb e => by have := hP b hb; omega
      obtain ⟨u, hu, hsu⟩ := hb'.tail (n := 4 * t) (by omega)
      simp only [hm, hu, Mpu_some]
      refine call_i (c_word hsu (by simp; omega)) ?_
      rintro _ _ ⟨rfl, rfl⟩
      obtain ⟨h', hst, hkk⟩ := fin (wordF (l.drop (4 * t))) (by unfold wNext; simp only [wOf_len]; rw [if_pos (by omega)])
      simp only [ea, Mpu_some, hst, Mwr_some, hinc]
      exact hkk
    · rw [if_neg h16]
      have e15 : IntKind.i64.wrap ((t : Int) - 15) = ((t - 15 : Nat) : Int) := by rw [wrap_id] <;> omega
      have e2 : IntKind.i64.wrap ((t : Int) - 2) = ((t - 2 : Nat) : Int) := by rw [wrap_id] <;> omega
      have e7 : IntKind.i64.wrap ((t : Int) - 7) = ((t - 7 : Nat) : Int) := by rw [wrap_id] <;> omega
      have e16 : IntKind.i64.wrap ((t : Int) - 16) = ((t - 16 : Nat) : Int) := by rw [wrap_id] <;> omega
      have ix : ∀ j, j < 64 → ixA 64 1 (.pointer (some ⟨q, 0, none⟩)) (.int .i64 (j : Nat)) = some (Ptr q j) := fun j hj => by rw [ixA_at hj]; simp
      have ld : ∀ j, j < t → ld1 h (Ptr q j) = some (.int .u32 ((wOf l t).getD j 0)) := fun j hj => ld_l hw (icells_get (wget hj))
      have s3 : ∀ x, binV .no .shr (.int .u32 x) (.int .u64 3) = some (.int .u32 (shrI .u32 x 3)) := fun x => v_shr (by omega)
      have s10 : ∀ x, binV .no .shr (.int .u32 x) (.int .u64 10) = some (.int .u32 (shrI .u32 x 10)) := fun x => v_shr (by omega)
      simp only [e15, e2, e7, e16, ix (t - 15) (by omega), ix (t - 2) (by omega), Mpu_some, ld (t - 15) (by omega), ld (t - 2) (by omega)]
      refine call_i c_right ?_; rintro _ _ ⟨rfl, rfl⟩
      refine call_i c_right ?_; rintro _ _ ⟨rfl, rfl⟩
      simp only [v_xor, s3, Mpu_some]
      refine call_i c_right ?_; rintro _ _ ⟨rfl, rfl⟩
      refine call_i c_right ?_; rintro _ _ ⟨rfl, rfl⟩
      simp only [v_xor, s10, Mpu_some, ix (t - 7) (by omega), ld (t - 7) (by omega), v_add, ix (t - 16) (by omega), ld (t - 16) (by omega), ea]
      obtain ⟨h', hst, hkk⟩ := fin _ (by unfold wNext; simp only [wOf_len]; rw [if_neg (by omega)])
      simp only [hst, Mwr_some, Mpu_some]
      rw [hinc]
      exact hkk
  · rw [if_neg hlt]
    obtain rfl : t = 64 := by omega
    clear hk hinc hlt ht
    have hd1 := kw.at (k1.at hd id) (show p ≠ q by omega)
    have hld : ldN 8 h (Ptr p 0) = some (.agg (icells .u32 s).toArray) := ldN_mid (A := []) (B := icells .u32 s) (C := r) (by simpa using hd1) rfl (by simp [hs])
    simp only [nck_ptr, fld_ptr, Mpu_some, Nat.zero_add, hld]
    have hT1 := (hT.keep k1 fun _ h => h.elim).keep kw fun b hb => by omega
    have hq2 : (h.push (.cells (icells .u32 (List.replicate 8 0)).toArray T_A8_uint32 (0, 0)))[h.size]? = some (.cells (icells .u32 (List.replicate 8 0)).toArray T_A8_uint32 (0, 0)) := push_new
    have hst := stN_mid (n := 8) (o := 0) (A := []) (B := icells .u32 (List.replicate 8 0)) (C := []) (B' := icells .u32 s) (by rw [List.nil_append, List.append_nil]; exact hq2) rfl (by simp) (by simp [hs]) icells_all
    simp only [List.nil_append, List.append_nil] at hst
    rw [hst, Mwr_some]
    generalize hH2 : (h.push (.cells (icells .u32 (List.replicate 8 0)).toArray T_A8_uint32 (0, 0))).setIfInBounds h.size (.cells (icells .u32 s).toArray T_A8_uint32 (0, 0)) = H2
    have k2 : Keep (fun _ => False) h H2 := by
      rw [← hH2]
      refine ⟨by simp, fun i hi _ => ?_⟩
      rw [Array.getElem?_setIfInBounds, if_neg (by omega), Array.getElem?_push, if_neg (by omega)]
    have hs2 : H2[h.size]? = some (.cells (icells .u32 s).toArray T_A8_uint32 (0, 0)) := by rw [← hH2]; exact set_self hq2
    have hqlt : q < h.size := lt_of hw
    generalize hq2e : h.size = q2 at *
    refine L1_i (fun u g => ∃ t, t ≤ 64 ∧ u = .int .i64 (t : Nat) ∧ g[q2]? = some (.cells (icells .u32 (rnds l s t)).toArray T_A8_uint32 (0, 0)) ∧ Keep (· = q2) H2 g)
      (fun u _ => match u with | .int _ t => 64 - t.toNat | _ => 0) ⟨0, by omega, rfl, hs2, Keep.refl⟩ ?_
    rintro _ g ⟨t, ht, rfl, hg, kg⟩ k hk
    simp only [binV_int, intV, Mpu_some, Mcd_bool, decide_eq_true_eq]
    have hinc : IntKind.i64.wrap ((t : Int) + 1) = (t + 1 : Nat) := by rw [wrap_id] <;> omega
    by_cases hlt : (t : Int) < 64
    · rw [if_pos hlt]
      have hlt' : t < 64 := by omega
      obtain ⟨a, b, c, d, e, f, g', h', hR⟩ : ∃ a b c d e f g h, rnds l s t = [a, b, c, d, e, f, g, h] := by
        have := rnds_len (b := l) hs (t := t)
        match rnds l s t, this with
        | [a, b, c, d, e, f, g, h], _ => exact ⟨a, b, c, d, e, f, g, h, rfl⟩
      rw [hR] at hg
      have i0 : ixA 8 1 (.pointer (some ⟨q2, 0, none⟩)) (.int .i64 0) = some (Ptr q2 0) := rfl
      have i1 : ixA 8 1 (.pointer (some ⟨q2, 0, none⟩)) (.int .i64 1) = some (Ptr q2 1) := rfl
      have i2 : ixA 8 1 (.pointer (some ⟨q2, 0, none⟩)) (.int .i64 2) = some (Ptr q2 2) := rfl
      have i4 : ixA 8 1 (.pointer (some ⟨q2, 0, none⟩)) (.int .i64 4) = some (Ptr q2 4) := rfl
      have i5 : ixA 8 1 (.pointer (some ⟨q2, 0, none⟩)) (.int .i64 5) = some (Ptr q2 5) := rfl
      have i6 : ixA 8 1 (.pointer (some ⟨q2, 0, none⟩)) (.int .i64 6) = some (Ptr q2 6) := rfl
      have i7 : ixA 8 1 (.pointer (some ⟨q2, 0, none⟩)) (.int .i64 7) = some (Ptr q2 7) := rfl
      have d0 : ld1 g (Ptr q2 0) = some (.int .u32 a) := ld_l hg rfl
      have d1 : ld1 g (Ptr q2 1) = some (.int .u32 b) := ld_l hg rfl
      have d2 : ld1 g (Ptr q2 2) = some (.int .u32 c) := ld_l hg rfl
      have d4 : ld1 g (Ptr q2 4) = some (.int .u32 e) := ld_l hg rfl
      have d5 : ld1 g (Ptr q2 5) = some (.int .u32 f) := ld_l hg rfl
      have d6 : ld1 g (Ptr q2 6) = some (.int .u32 g') := ld_l hg rfl
      have d7 : ld1 g (Ptr q2 7) = some (.int .u32 h') := ld_l hg rfl
      have ik : ixA 64 1 (.pointer (some ⟨g_sha_table, 0, none⟩)) (.int .i64 (t : Nat)) = some (Ptr g_sha_table t) := by rw [ixA_at hlt']; simp
      have iw : ixA 64 1 (.pointer (some ⟨q, 0, none⟩)) (.int .i64 (t : Nat)) = some (Ptr q t) := by rw [ixA_at hlt']; simp
      have hT2 := (hT1.keep k2 fun _ h => h.elim).keep kg fun b hb => by omega
      have dk : ld1 g (Ptr g_sha_table t) = some (.int .u32 (tableL.getD t 0)) := hT2.tab.ld (getD_of (by show t < 64; exact hlt'))
      have hw2 := kg.at (k2.at hw id) (show q ≠ q2 by omega)
      have dw : ld1 g (Ptr q t) = some (.int .u32 ((wOf l 64).getD t 0)) := ld_l hw2 (icells_get (wget hlt'))
      simp only [i0, i1, i2, i4, i5, i6, i7, d0, d1, d2, d4, d5, d6, d7, Mpu_some, v_and, v_not, v_xor, ik, dk, iw, dw]
      refine call_i c_right ?_; rintro _ _ ⟨rfl, rfl⟩
      simp only [Mre_cons, Mre_nil, dw, dk, d6, d5, d7, true_and]
      refine call_i c_right ?_; rintro _ _ ⟨rfl, rfl⟩
      simp only [dw, dk, d6, d5, d7, true_and, v_xor, Mpu_some]
      refine call_i c_right ?_; rintro _ _ ⟨rfl, rfl⟩
      simp only [dw, dk, d6, d5, d7, true_and, v_xor, Mpu_some, v_add, d1, d2, v_and]
      refine call_i c_right ?_; rintro _ _ ⟨rfl, rfl⟩
      simp only [d1, d2, true_and]
      refine call_i c_right ?_; rintro _ _ ⟨rfl, rfl⟩
      simp only [d1, d2, true_and, v_xor, Mpu_some]
      refine call_i c_right ?_; rintro _ _ ⟨rfl, rfl⟩
      have sl1 : slA 8 1 (.pointer (some ⟨q2, 0, none⟩)) (some (.int .i64 1)) none none = some (.slice (some ⟨q2, 1, none⟩) 7 7) := rfl
      have sl2 : slA 8 1 (.pointer (some ⟨q2, 0, none⟩)) none (some (.int .i64 7)) none = some (.slice (some ⟨q2, 0, none⟩) 7 8) := rfl
      simp only [d1, d2, true_and, v_xor, Mpu_some, v_add, sl1, sl2]
      refine copy8 hg ?_
      have g1 := set_self (y := .cells (icells .u32 [a, a, b, c, d, e, f, g']).toArray T_A8_uint32 (0, 0)) hg
      have d4' : ∀ x, ld1 (g.setIfInBounds q2 (.cells (icells .u32 [a, a, b, c, d, e, f, g']).toArray T_A8_uint32 (0, 0))) (Ptr q2 4) = some x ↔ x = .int .u32 d := fun x => by
        rw [ld_l g1 (i := 4) (v := .int .u32 d) rfl]; simp [eq_comm]
      have d4'' := (d4' _).2 rfl
      simp only [d4'', Mpu_some, v_add]
      rw [st_l g1 (i := 4) (by simp) rfl, Mwr_some, st_l (set_self g1) (i := 0) (by simp [icells]) rfl, Mwr_some, hinc]
      refine hk _ _ ⟨t + 1, hlt', rfl, ?_, ((kg.trans (Keep.set rfl)).trans (Keep.set rfl)).trans (Keep.set rfl)⟩ (by show 64 - (t + 1) < 64 - t; omega)
      rw [set_self (set_self g1)]
      have : rnds l s (t + 1) = rnd (tableL.getD t 0) ((wOf l 64).getD t 0) [a, b, c, d, e, f, g', h'] := by rw [← hR]; rfl
      rw [this]; rfl
    · rw [if_neg hlt]
      obtain rfl : t = 64 := by omega
      clear hk hinc hlt ht
      have kall : Keep (fun _ => False) H g := by
        refine ⟨by have := k1.1; have := kw.1; have := k2.1; have := kg.1; omega, fun i hi _ => ?_⟩
        rw [kg.2 i (by have := k2.1; omega) (by omega), k2.2 i (by omega) id, kw.2 i (by omega) (by omega), k1.2 i (by omega) id]
      have hdg := kall.at hd id
      have hRl := rnds_len (b := l) hs (t := 64)
      refine L1_i (fun u x => ∃ i, i ≤ 8 ∧ u = .int .i64 (i : Nat) ∧ x[p]? = some (.cells (icells .u32 ((blkF s l).take i ++ s.drop i) ++ r).toArray T (0, 0)) ∧ Keep (· = p) g x)
        (fun u _ => match u with | .int _ t => 8 - t.toNat | _ => 0) ⟨0, by omega, rfl, by simpa using hdg, Keep.refl⟩ ?_
      rintro _ x ⟨i, hi, rfl, hx, kx⟩ k hk
      simp only [binV_int, intV, Mpu_some, Mcd_bool, decide_eq_true_eq, nck_ptr, fld_ptr, Nat.zero_add]
      have hinc : IntKind.i64.wrap ((i : Int) + 1) = (i + 1 : Nat) := by rw [wrap_id] <;> omega
      by_cases hlt : (i : Int) < 8
      · rw [if_pos hlt]
        have hlt' : i < 8 := by omega
        have ip : ∀ y : Nat, ixA 8 1 (.pointer (some ⟨y, 0, none⟩)) (.int .i64 (i : Nat)) = some (Ptr y i) := fun y => by rw [ixA_at hlt']; simp
        have hlen : ((blkF s l).take i ++ s.drop i).length = 8 := by simp [blkF_len hs, hs]; omega
        have dp : ld1 x (Ptr p i) = some (.int .u32 (s.getD i 0)) := by
          refine ld_l hx ?_
          rw [List.getElem?_append_left (by rw [icells_len, hlen]; exact hlt')]
          refine icells_get ?_
          rw [List.getElem?_append_right (by simp [blkF_len hs]; omega)]
          simp only [List.length_take, blkF_len hs, List.getElem?_drop]
          rw [show i + (i - min i 8) = i by omega]
          exact getD_of (by omega)
        have hg2 := kx.at hg (show q2 ≠ p by omega)
        have ds : ld1 x (Ptr q2 i) = some (.int .u32 ((rnds l s 64).getD i 0)) := ld_l hg2 (icells_get (getD_of (by omega)))
        simp only [ip, dp, ds, Mpu_some, v_add]
        rw [st_l hx (i := i) (by simp [blkF_len hs, hs]; omega) rfl, Mwr_some, hinc]
        refine hk _ _ ⟨i + 1, hlt', rfl, ?_, kx.trans (Keep.set rfl)⟩ (by show 8 - (i + 1) < 8 - i; omega)
        rw [set_self hx, List.set_append_left _ _ (by rw [icells_len, hlen]; exact hlt'), icells_set]
        unfold blkF
        rw [zip_set hs hRl hlt']
      · rw [if_neg hlt]
        obtain rfl : i = 8 := by omega
        refine ⟨trivial, ?_, (kall.mono fun _ _ h => h.elim).trans kx⟩
        rw [hx, List.take_of_length_le (by rw [blkF_len hs]; omega), List.drop_eq_nil_of_le (by omega), List.append_nil]

end Go.Proofs.YtconalffokhplaaGreatDoor

/- sha: bytes are written; the sum. -/
namespace Go.Proofs.YtconalffokhplaaGreatDoor
open Go.X
set_option maxRecDepth 100000

def chew (s : List Int) (l : List UInt8) : List Int × List UInt8 := if h : 64 ≤ l.length then chew (blkF s (l.take 64)) (l.drop 64) else (s, l)
termination_by l.length
decreasing_by simp; omega
/-- a digest at block p, its rest in blocks of F: the eight numbers, the rest, the count -/
def DigS (F : Nat → Prop) (p : Nat) (H : Heap) (s : List Int) (r : List UInt8) (n : Int) : Prop :=
  (¬ F p ∧ NG ≤ p ∧ ∀ b, F b → NG ≤ b) ∧ s.length = 8 ∧ ∃ v, H[p]? = some (.cells (icells .u32 s ++ [v, .int .i64 n]).toArray T_sha_Digest (0, 0)) ∧ Buf F H v r
/-- a digest that has read l -/
def Dig (F : Nat → Prop) (p : Nat) (H : Heap) (l : List UInt8) : Prop := DigS F p H (chew beginL l).1 (chew beginL l).2 l.length
theorem DigS.keep {F S : Nat → Prop} {p : Nat} {H H' : Heap} {s : List Int} {r : List UInt8} {n : Int} (h : DigS F p H s r n) (k : Keep S H H') (hs : ∀ b, Wr F p b → ¬ S b) : DigS F p H' s r n := by
  obtain ⟨h1, h2, v, h3, h4⟩ := h
  exact ⟨h1, h2, v, k.at h3 (hs p (.inr rfl)), h4.keep k fun b hb => hs b (.inl hb)⟩
theorem Dig.keep {F S : Nat → Prop} {p : Nat} {H H' : Heap} {l : List UInt8} (h : Dig F p H l) (k : Keep S H H') (hs : ∀ b, Wr F p b → ¬ S b) : Dig F p H' l := DigS.keep h k hs
theorem Dig.lt {F : Nat → Prop} {p : Nat} {H : Heap} {l : List UInt8} (h : Dig F p H l) : p < H.size := by obtain ⟨_, _, v, h3, _⟩ := h; exact lt_of h3

theorem DigS.block {F P : Nat → Prop} {p : Nat} {H : Heap} {s : List Int} {r m : List UInt8} {n : Int} {v : Value} {k : Value → Heap → Prop} (h : DigS F p H s r n) (hT : ShaT H) (hb : Sl P H v m) (hm : 64 ≤ m.length) (hP : ∀ b, P b → b < H.size)
    (hk : ∀ H', DigS F p H' (blkF s m) r n → Keep (· = p) H H' → k (.tuple #[]) H') : Mcall prg f_sha_Digest_block [Ptr p 0, v] H k := by
  obtain ⟨h1, h2, w, h3, h4⟩ := h
  refine call_i (c_block hT h3 h2 hb hm hP) ?_
  rintro _ H' ⟨rfl, hd, kp⟩
  exact hk H' ⟨h1, blkF_len h2, w, hd, h4.keep kp fun b hb e => h1.1 (e ▸ hb)⟩ kp

end Go.Proofs.YtconalffokhplaaGreatDoor

/- sha: Copy and Sum. -/
namespace Go.Proofs.YtconalffokhplaaGreatDoor
open Go.X
set_option maxRecDepth 100000

/- the sum -/
def bO (n : Int) : UInt8 := UInt8.ofNat (n % 256).toNat
def lenB (N : Int) (i : Nat) : UInt8 := bO (shrI .u64 N (8 * (i : Int)))
def lensB (N : Int) (j : Nat) : List UInt8 := (List.range j).map fun i => lenB N (7 - i)
@[simp] theorem lensB_len {N : Int} {j : Nat} : (lensB N j).length = j := by simp [lensB]
end Go.Proofs.YtconalffokhplaaGreatDoor

