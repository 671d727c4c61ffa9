/- JOINED: V0 V1 V4 -/
import Derived.Test.YtanhgihfgmbojaaGreatDoorGF
import Derived.Test.YtanhgihfgmbojaaGreatDoorGG
import Derived.Test.YtanhgihfgmbojaaGreatDoorGE
import Derived.Test.YtanhgihfgmbojaaGreatDoorGS
import Derived.Test.YtanhgihfgmbojaaGreatDoorGQ
import Derived.Test.YtanhgihfgmbojaaGreatDoorGT
import Derived.Test.YtanhgihfgmbojaaGreatDoorGK
import Derived.KernelRfl
set_option linter.unusedSimpArgs false
set_option linter.unusedVariables false
/- wire: what the writers do. -/
namespace Go.Proofs.YtanhgihfgmbojaaGreatDoor
open Go.X
set_option maxRecDepth 100000

/- THE WRITER -/
def Wr (F : Nat → Prop) (p : Nat) : Nat → Prop := fun b => F b ∨ b = p
def byteOf (n : Int) (s : Nat) : UInt8 := UInt8.ofNat ((n.fdiv (2 ^ s)) % 256).toNat
def numB (n : Int) (size : Nat) : List UInt8 := (List.range size).map fun i => byteOf n (8 * (size - 1 - i))
def numTo (n : Int) (size j : Nat) : List UInt8 := (List.range j).map fun i => byteOf n (8 * (size - 1 - i))
@[simp] theorem numB_len {n : Int} {s : Nat} : (numB n s).length = s := by simp [numB]
@[simp] theorem numTo_len {n : Int} {s j : Nat} : (numTo n s j).length = j := by simp [numTo]
end Go.Proofs.YtanhgihfgmbojaaGreatDoor

/- sha: what a block of 64 bytes does to the eight numbers. -/
namespace Go.Proofs.YtanhgihfgmbojaaGreatDoor
open Go.X
set_option maxRecDepth 100000

/- numbers in rows -/
def icells (k : IntKind) (l : List Int) : List Value := l.map (Value.int k)
@[simp] theorem icells_len {k : IntKind} {l : List Int} : (icells k l).length = l.length := by simp [icells]
theorem icells_get {k : IntKind} {l : List Int} {i : Nat} {x : Int} (h : l[i]? = some x) : (icells k l)[i]? = some (.int k x) := by simp [icells, h]
theorem icells_one {k : IntKind} {l : List Int} : ∀ v ∈ icells k l, v.oneCell' = true := by
  intro v hv; obtain ⟨b, _, rfl⟩ := List.mem_map.1 hv; rfl
theorem icells_set {k : IntKind} {l : List Int} {i : Nat} {x : Int} : (icells k l).set i (.int k x) = icells k (l.set i x) := by simp [icells]

/- a number's table among the variables -/
def ITab (H : Heap) (g : Nat) (k : IntKind) (zs : List Int) : Prop := ∃ T f, H[g]? = some (.cells (icells k zs).toArray T f)
theorem ITab.keep {S : Nat → Prop} {H H' : Heap} {g : Nat} {k : IntKind} {zs : List Int} (h : ITab H g k zs) (kp : Keep S H H') (hs : ¬ S g) : ITab H' g k zs := by
  obtain ⟨T, f, h⟩ := h; exact ⟨T, f, kp.at h hs⟩
theorem ITab.lt {H : Heap} {g : Nat} {k : IntKind} {zs : List Int} (h : ITab H g k zs) : g < H.size := by obtain ⟨T, f, h⟩ := h; exact lt_of h
theorem ITab.ld {H : Heap} {g : Nat} {k : IntKind} {zs : List Int} (h : ITab H g k zs) {i : Nat} {x : Int} (hi : zs[i]? = some x) : ld1 H (Ptr g i) = some (.int k x) := by
  obtain ⟨T, f, h⟩ := h; exact ld_l h (icells_get hi)

/- the reckonings -/
def andI (k : IntKind) (a b : Int) : Int := k.wrap (BitVec.ofInt k.bits a &&& BitVec.ofInt k.bits b).toNat
def orI (k : IntKind) (a b : Int) : Int := k.wrap (BitVec.ofInt k.bits a ||| BitVec.ofInt k.bits b).toNat
def xorI (k : IntKind) (a b : Int) : Int := k.wrap (BitVec.ofInt k.bits a ^^^ BitVec.ofInt k.bits b).toNat
def notI (k : IntKind) (a : Int) : Int := k.wrap (BitVec.ofInt k.bits (if k.signed then -1 else k.max) ^^^ BitVec.ofInt k.bits a).toNat
def addI (k : IntKind) (a b : Int) : Int := k.wrap (a + b)
def shlI (k : IntKind) (a b : Int) : Int := k.wrap (a * 2 ^ (min b.toNat k.bits))
def shrI (k : IntKind) (a b : Int) : Int := a.fdiv (2 ^ (min b.toNat k.bits))
theorem v_shr {q : EqK} {k k' : IntKind} {a b : Int} (h : 0 ≤ b) : binV q .shr (.int k a) (.int k' b) = some (.int k (shrI k a b)) := by
  rw [binV_shr]; simp only [intV]; rw [if_neg (by omega)]; rfl
def rotS (n : Int) : Int := andI .u64 (IntKind.u64.wrap n) 31
def rotl (x n : Int) : Int := orI .u32 (shlI .u32 x (rotS n)) (shrI .u32 x (IntKind.u64.wrap (32 - rotS n)))
def rotr (x n : Int) : Int := rotl x (IntKind.i64.wrap (0 - n))
def wordF (l : List UInt8) : Int :=
  orI .u32 (orI .u32 (orI .u32 (shlI .u32 (IntKind.u32.wrap (l.getD 0 0).toNat) 24) (shlI .u32 (IntKind.u32.wrap (l.getD 1 0).toNat) 16)) (shlI .u32 (IntKind.u32.wrap (l.getD 2 0).toNat) 8)) (IntKind.u32.wrap (l.getD 3 0).toNat)
/-- the number behind those of l -/
def wNext (b : List UInt8) (l : List Int) : Int :=
  let t := l.length
  if t < 16 then wordF (b.drop (4 * t)) else
  let x := l.getD (t - 15) 0
  let y := l.getD (t - 2) 0
  addI .u32 (addI .u32 (addI .u32 (xorI .u32 (xorI .u32 (rotr y 17) (rotr y 19)) (shrI .u32 y 10)) (l.getD (t - 7) 0)) (xorI .u32 (xorI .u32 (rotr x 7) (rotr x 18)) (shrI .u32 x 3))) (l.getD (t - 16) 0)
def wOf (b : List UInt8) : Nat → List Int
  | 0 => []
  | t + 1 => wOf b t ++ [wNext b (wOf b t)]
@[simp] theorem wOf_len {b : List UInt8} {t : Nat} : (wOf b t).length = t := by induction t <;> simp_all [wOf]

/-- one round -/
def rnd (K W : Int) : List Int → List Int
  | [a, b, c, d, e, f, g, h] =>
    let t1 := addI .u32 (addI .u32 (addI .u32 (addI .u32 h (xorI .u32 (xorI .u32 (rotr e 6) (rotr e 11)) (rotr e 25))) (xorI .u32 (andI .u32 e f) (andI .u32 (notI .u32 e) g))) K) W
    let t2 := addI .u32 (xorI .u32 (xorI .u32 (rotr a 2) (rotr a 13)) (rotr a 22)) (xorI .u32 (xorI .u32 (andI .u32 a b) (andI .u32 a c)) (andI .u32 b c))
    [addI .u32 t1 t2, a, b, c, addI .u32 d t1, e, f, g]
  | s => s
end Go.Proofs.YtanhgihfgmbojaaGreatDoor

/- sha: Copy and Sum. -/
namespace Go.Proofs.YtanhgihfgmbojaaGreatDoor
open Go.X
set_option maxRecDepth 100000

/- the sum -/
def bO (n : Int) : UInt8 := UInt8.ofNat (n % 256).toNat
def lenB (N : Int) (i : Nat) : UInt8 := bO (shrI .u64 N (8 * (i : Int)))
def lensB (N : Int) (j : Nat) : List UInt8 := (List.range j).map fun i => lenB N (7 - i)
@[simp] theorem lensB_len {N : Int} {j : Nat} : (lensB N j).length = j := by simp [lensB]
end Go.Proofs.YtanhgihfgmbojaaGreatDoor

