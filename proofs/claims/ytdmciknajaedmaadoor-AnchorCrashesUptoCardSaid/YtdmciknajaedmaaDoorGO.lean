/- JOINED: V34 V35 V36 V37 V38a -/
import Derived.Test.YtdmciknajaedmaaDoorGN
import Derived.Test.YtdmciknajaedmaaDoorGJ
set_option linter.unusedSimpArgs false
set_option linter.unusedVariables false
/- strconv.Atoi: of whatever text; of a number's digits their number. -/
namespace Go.Proofs.YtdmciknajaedmaaDoor
open Go.X Go.X.Diff
set_option maxRecDepth 100000

theorem nil_nil : binV (.ifc (intB prg) true) .neq .nilIface .nilIface = some (.bool false) := rfl

end Go.Proofs.YtdmciknajaedmaaDoor
/- strconv.Atoi: the readers of numbers. -/
namespace Go.Proofs.YtdmciknajaedmaaDoor
open Go.X Go.X.Diff
set_option maxRecDepth 100000

theorem _root_.Go.X.J3_i {body : (Value → Value → Value → Heap → Prop) → Prop} {rest : Value → Value → Value → Heap → Prop} (I : Value → Value → Value → Heap → Prop) (h1 : ∀ k : Value → Value → Value → Heap → Prop, (∀ x y z h, I x y z h → k x y z h) → body k) (h2 : ∀ x y z h, I x y z h → rest x y z h) : J3 body rest := .mk (h1 rest h2)
theorem _root_.Go.X.J4_i {body : (Value → Value → Value → Value → Heap → Prop) → Prop} {rest : Value → Value → Value → Value → Heap → Prop} (I : Value → Value → Value → Value → Heap → Prop) (h1 : ∀ k : Value → Value → Value → Value → Heap → Prop, (∀ x y z t h, I x y z t h → k x y z t h) → body k) (h2 : ∀ x y z t h, I x y z t h → rest x y z t h) : J4 body rest := .mk (h1 rest h2)

theorem s2b_i {T : TypeId} {H : Heap} {l : List UInt8} {k : Value → Heap → Prop} (hl : l.length ≤ 1099511627776)
    (hk : ∀ v h', Sl (· = H.size) h' v l → Keep (fun _ => False) H h' → k v h') : Ms2b T H (str l) k := by
  refine ⟨_, rfl, by rw [size_mk]; omega, fun cap h1 h2 => hk _ _ ?_ Keep.push⟩
  rw [size_mk] at h1
  refine ⟨?_, ⟨_, cap, by rw [size_mk], by omega, fun x hx => by cases hx; rfl⟩, fun b hb => by cases hb; rfl⟩
  refine Bs.mk push_new size_mk (by simp [ByteArray.size]) ?_
  rw [size_mk, List.drop_zero, Array.toList_append, List.take_append_of_le_length (by simp), List.take_of_length_le (by simp)]
  simp [bcells]

end Go.Proofs.YtdmciknajaedmaaDoor
/- strconv.Atoi. -/
namespace Go.Proofs.YtdmciknajaedmaaDoor
open Go.X Go.X.Diff
set_option maxRecDepth 100000

theorem decF_len1 (n : Nat) (h : n < 1000000) : 1 ≤ (decF n).length ∧ (decF n).length ≤ 6 := ⟨List.length_pos_iff.2 (decF_ne n), decF_len h⟩
theorem AtoiR.not {l : List UInt8} {n : Int} (h : ∀ m, m ≤ 999999 → l ≠ decF m) : AtoiR l n := fun m hm e => absurd e (h m hm)
def isD (x : UInt8) : Prop := 48 ≤ x.toNat ∧ x.toNat ≤ 57
theorem valF_lt_aux : ∀ {l : List UInt8} {n : Nat}, (∀ x ∈ l, isD x) → l.foldl (fun n c => n * 10 + (c.toNat - 48)) n < (n + 1) * 10 ^ l.length
  | [], n, _ => by simp
  | x :: l, n, h => by
    have h2 := h x (by simp)
    unfold isD at h2
    have h1 := valF_lt_aux (l := l) (n := n * 10 + (x.toNat - 48)) fun y hy => h y (by simp [hy])
    rw [List.foldl_cons, List.length_cons, Nat.pow_succ]
    have h3 : (n * 10 + (x.toNat - 48) + 1) * 10 ^ l.length ≤ ((n + 1) * 10) * 10 ^ l.length := Nat.mul_le_mul_right _ (by omega)
    have h4 : ((n + 1) * 10) * 10 ^ l.length = (n + 1) * (10 ^ l.length * 10) := by rw [Nat.mul_assoc, Nat.mul_comm 10]
    omega
theorem valF_lt {l : List UInt8} (h : ∀ x ∈ l, isD x) : valF l < 10 ^ l.length := by
  have := valF_lt_aux (n := 0) h
  rw [Nat.zero_add, Nat.one_mul] at this
  exact this

end Go.Proofs.YtdmciknajaedmaaDoor
/- version.Parse. -/
namespace Go.Proofs.YtdmciknajaedmaaDoor
open Go.X Go.X.Diff
set_option maxRecDepth 100000

theorem z_Errno : zcells prg T_api_Errno = some [Value.int .i64 0].toArray := by kernel_rfl
theorem z_int : zcells prg T_int = some [Value.int .i64 0].toArray := by kernel_rfl
theorem splitF_len {c : UInt8} : ∀ {l x : List UInt8}, x ∈ splitF c l → x.length ≤ l.length
  | [], x, h => by simp [splitF] at h; subst h; simp
  | y :: l, x, h => by
    rw [splitF] at h
    split at h
    · rcases List.mem_cons.1 h with rfl | h
      · simp
      · have := splitF_len h; simp; omega
    · split at h
      · obtain rfl : x = [y] := by simpa using h
        simp
      · rename_i h' t he
        rcases List.mem_cons.1 h with rfl | h
        · have := splitF_len (c := c) (l := l) (x := h') (by rw [he]; simp)
          simp; omega
        · have := splitF_len (c := c) (l := l) (x := x) (by rw [he]; simp [h])
          simp; omega
theorem cutA_len {c : UInt8} {l : List UInt8} : (cutA c l).length ≤ l.length := by
  unfold cutA
  have := congrArg List.length (List.takeWhile_append_dropWhile (p := (· != c)) (l := l))
  rw [List.length_append] at this; omega
theorem cutB_len {c : UInt8} {l : List UInt8} : (cutB c l).length ≤ l.length := by
  unfold cutB
  have := congrArg List.length (List.takeWhile_append_dropWhile (p := (· != c)) (l := l))
  rw [List.length_append] at this
  rw [List.length_drop]; omega

def ParseR (s : List UInt8) (u : Value) : Prop :=
  (∃ v : Ver, v.wf ∧ verOk v = true ∧ showF v = s ∧ u = .tuple #[.agg (verC v).toArray, .int .i64 0]) ∨
  ((∀ v : Ver, v.p.length = 3 → verOk v = true → showF v ≠ s) ∧ u = .tuple #[.agg (verC zeroV).toArray, .int .i64 10])

structure PInv (H : Heap) (q2 q3 q4 q8 : Nat) (s : List UInt8) (j : Nat) (h : Heap) : Prop where
  r : At h q2 (verC zeroV)
  e : At h q3 [.int .i64 0]
  i : At h q8 [.int .i64 (j : Nat)]
  le : j ≤ 3
  v : ∃ v : Ver, v.wf ∧ At h q4 (verC v) ∧ v.pre = cutB 45 s ∧ ∀ (i : Nat) (l : List UInt8), i < j → (splitF 46 (cutA 45 s))[i]? = some l → ∃ n, v.p[i]? = some n ∧ AtoiR l n
  k : Keep (fun _ => False) H h
theorem PInv.keep {H : Heap} {q2 q3 q4 q8 : Nat} {s : List UInt8} {j : Nat} {h h' : Heap} {S : Nat → Prop} (p : PInv H q2 q3 q4 q8 s j h) (k : Keep S h h') (hs : ∀ b, S b → H.size ≤ b ∧ b ≠ q2 ∧ b ≠ q3 ∧ b ≠ q4 ∧ b ≠ q8) : PInv H q2 q3 q4 q8 s j h' := by
  obtain ⟨v, h1, h2, h3⟩ := p.v
  exact ⟨p.r.keep k fun h => (hs _ h).2.1 rfl, p.e.keep k fun h => (hs _ h).2.2.1 rfl, p.i.keep k fun h => (hs _ h).2.2.2.2 rfl, p.le, ⟨v, h1, h2.keep k fun h => (hs _ h).2.2.2.1 rfl, h3⟩, p.k.fresh k fun b h => (hs b h).1⟩
theorem ver_set {v : Ver} (hv : v.wf) {j : Nat} {n : Int} (hj : j < 3) : (verC v).set j (.int .i64 n) = verC ⟨v.p.set j n, v.pre⟩ := by
  unfold verC
  rw [List.set_append_left _ _ (by simp [hv.p3]; exact hj), icells_set]

theorem mcl_i {n0 : Nat} {h : Heap} {k : Heap → Prop} (hk : ∀ h', Closed n0 h h' → k h') : Mcl n0 h k := hk
theorem At.closed {n0 : Nat} {h h' : Heap} {q : Nat} {cs : List Value} (a : At h q cs) (c : Closed n0 h h') : At h' q cs := by
  obtain ⟨T, a⟩ := a
  exact ⟨T, c.2.2 _ _ a fun ds e => by cases e⟩
theorem keep_closed {H h h' : Heap} (k : Keep (fun _ => False) H h) (c : Closed H.size h h') : Keep (fun _ => False) H h' :=
  ⟨by rw [c.1]; exact k.1, fun i hi _ => by rw [c.2.1 i hi, k.2 i hi id]⟩

end Go.Proofs.YtdmciknajaedmaaDoor
/- comparing versions; bools compared. -/
namespace Go.Proofs.YtdmciknajaedmaaDoor
open Go.X Go.X.Diff
set_option maxRecDepth 100000

def kVer : List Nat := List.replicate 3 0 ++ [2]
theorem eqK_Ver : eqK prg T_version_Version = .flat kVer := by kernel_rfl
theorem eqC_Ver {x y : Ver} (hx : x.wf) (hy : y.wf) : eqCells kVer (verC x) (verC y) = some (decide (x = y)) := by
  have h1 : eqCells (List.replicate 3 0) (icells .i64 x.p) (icells .i64 y.p) = some (decide (x.p = y.p)) := by
    have := eqCells_ints (k := .i64) (l := x.p) (m := y.p) (by rw [hx.p3, hy.p3])
    rwa [hx.p3] at this
  have h2 := eqCells_app (k1 := List.replicate 3 0) (k2 := [2]) (a1 := icells .i64 x.p) (b1 := icells .i64 y.p) (a2 := [str x.pre]) (b2 := [str y.pre]) (by simp [hx.p3]) (by simp [hy.p3]) h1 eqCells_str
  unfold kVer verC
  rw [h2]
  congr 1
  rw [Bool.eq_iff_iff]
  simp only [Bool.and_eq_true, decide_eq_true_eq]
  cases x; cases y; simp
theorem eqVer {x y : Ver} (hx : x.wf) (hy : y.wf) : binV (eqK prg T_version_Version) .eql (.agg (verC x).toArray) (.agg (verC y).toArray) = some (.bool (decide (x = y))) := by
  rw [binV_agg_eq, eqK_Ver]
  show (eqCells kVer (verC x).toArray.toList (verC y).toArray.toList).map Value.bool = _
  rw [List.toList_toArray, List.toList_toArray, eqC_Ver hx hy]; rfl
theorem neVer {x y : Ver} (hx : x.wf) (hy : y.wf) : binV (eqK prg T_version_Version) .neq (.agg (verC x).toArray) (.agg (verC y).toArray) = some (.bool (!decide (x = y))) := by
  rw [binV_agg_ne, eqK_Ver]
  show (eqCells kVer (verC x).toArray.toList (verC y).toArray.toList).map (fun b => Value.bool (!b)) = _
  rw [List.toList_toArray, List.toList_toArray, eqC_Ver hx hy]; rfl
theorem ne_bool {x y : Bool} : binV .bool .neq (.bool x) (.bool y) = some (.bool (x != y)) := by cases x <;> cases y <;> rfl
theorem eq_bool {x y : Bool} : binV .bool .eql (.bool x) (.bool y) = some (.bool (x == y)) := by cases x <;> cases y <;> rfl
end Go.Proofs.YtdmciknajaedmaaDoor
