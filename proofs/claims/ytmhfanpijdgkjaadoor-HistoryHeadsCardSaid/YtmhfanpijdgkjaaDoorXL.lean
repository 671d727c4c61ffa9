/- Rules for reasoning over the clean texts. -/
import Derived.Test.YtmhfanpijdgkjaaDoorXK
namespace Go.X

section
variable {H : Heap}
@[simp] theorem Mpu_some {v : Value} {k : Value → Prop} : Mpu (some v) k ↔ k v := by simp [Mpu]
@[simp] theorem Mwr_some {h : Heap} {k : Heap → Prop} : Mwr (some h) k ↔ k h := by simp [Mwr]
@[simp] theorem Mnew_some {T : TypeId} {c : Array Value} {k : Value → Heap → Prop} : Mnew H T (some c) k ↔ k (.pointer (some ⟨H.size, 0, none⟩)) (H.push (.cells c T (0, 0))) := by simp [Mnew]
@[simp] theorem Mnews_some {T : TypeId} {n : Nat} {c : Array Value} {k : Value → Heap → Prop} : Mnews H T n (some c) k ↔ k (.slice (some ⟨H.size, 0, none⟩) n n) (H.push (.cells c T (0, 0))) := by simp [Mnews]
@[simp] theorem Mcd_bool {b : Bool} {x y : Prop} : Mcd (.bool b) x y ↔ if b = true then x else y := by cases b <;> simp [Mcd]
@[simp] theorem Mif_bool {b w : Bool} {x y : Prop} : Mif (.bool b) w x y ↔ if b = w then x else y := by cases b <;> cases w <;> simp [Mif]
@[simp] theorem Mif_undef {w : Bool} {x y : Prop} : Mif undef w x y ↔ y := by simp [Mif, undef]
@[simp] theorem Mre_nil {p : Prop} : Mre [] p ↔ p := Iff.rfl
@[simp] theorem Mre_cons {a : Option Value} {b : Value} {l : List (Option Value × Value)} {p : Prop} : Mre ((a, b) :: l) p ↔ a = some b ∧ Mre l p := Iff.rfl
@[simp] theorem nck_ptr {a : Addr} : nck (.pointer (some a)) = some (.pointer (some a)) := rfl
@[simp] theorem fld_ptr {off b o : Nat} : fld off (.pointer (some ⟨b, o, none⟩)) = some (.pointer (some ⟨b, o + off, none⟩)) := rfl
@[simp] theorem pickV_bool {c : Bool} {a b : Value} : pickV (.bool c) a b = some (if c = true then a else b) := rfl
@[simp] theorem lenV_slice {a : Option Addr} {n c : Nat} : lenV (.slice a n c) = some (.int .i64 n) := rfl
@[simp] theorem lenT_string {s : ByteArray} : lenT (.string s) = some (.int .i64 s.size) := rfl
@[simp] theorem unV_not {b : Bool} : unV .not (.bool b) = some (.bool (!b)) := rfl
@[simp] theorem cvI_int {k k' : IntKind} {n : Int} : cvI k (.int k' n) = some (.int k (k.wrap n)) := rfl
@[simp] theorem extV_tuple {i : Nat} {l : Array Value} : extV i (.tuple l) = l[i]? := rfl
@[simp] theorem binV_int {q : EqK} {op : BinOp} {k : IntKind} {a b : Int} : binV q op (.int k a) (.int k b) = intV op k a b := by simp [binV]
@[simp] theorem binV_str {q : EqK} {op : BinOp} {a b : ByteArray} : binV q op (.string a) (.string b) = strV op a b := by simp [binV]
@[simp] theorem binV_shl {q : EqK} {k k' : IntKind} {a b : Int} : binV q .shl (.int k a) (.int k' b) = intV .shl k a b := by unfold binV; split <;> simp_all
@[simp] theorem binV_shr {q : EqK} {k k' : IntKind} {a b : Int} : binV q .shr (.int k a) (.int k' b) = intV .shr k a b := by unfold binV; split <;> simp_all
@[simp] theorem binV_ptr_eq {a b : Option Addr} : binV .ptr .eql (.pointer a) (.pointer b) = (eqV .ptr (.pointer a) (.pointer b)).map .bool := rfl
@[simp] theorem binV_ptr_ne {a b : Option Addr} : binV .ptr .neq (.pointer a) (.pointer b) = (eqV .ptr (.pointer a) (.pointer b)).map fun b => .bool (!b) := rfl
@[simp] theorem eqV_ptr_some {a : Addr} : eqV .ptr (.pointer (some a)) (.pointer none) = some false := rfl
@[simp] theorem eqV_ptr_none {b : Option Addr} : eqV .ptr (.pointer none) (.pointer b) = some b.isNone := rfl
@[simp] theorem binV_slc_eq {a b : Option Addr} {n c m d : Nat} : binV .slc .eql (.slice a n c) (.slice b m d) = (eqV .slc (.slice a n c) (.slice b m d)).map .bool := rfl
@[simp] theorem eqV_slc_some {a : Addr} {n c m d : Nat} : eqV .slc (.slice (some a) n c) (.slice none m d) = some false := rfl
@[simp] theorem eqV_slc_none {b : Option Addr} {n c m d : Nat} : eqV .slc (.slice none n c) (.slice b m d) = some b.isNone := rfl
@[simp] theorem partV_agg {agg : Bool} {n off : Nat} {cs : Array Value} : partV agg n off (.agg cs) = if agg = true then some (.agg (cs.extract off (off + n))) else cs[off]? := rfl
@[simp] theorem Cells_agg {cs : Array Value} : Value.cells (.agg cs) = cs := rfl
end

theorem call_i {P : Program} {f : FuncId} {args : List Value} {H : Heap} {R k : Value → Heap → Prop} (h : HCalls P f args H R) (hk : ∀ v h, R v h → k v h) : Mcall P f args H k := HCalls.mono h hk

/- the arithmetic of int -/
theorem wrap_id {n : Int} (h1 : -9223372036854775808 ≤ n) (h2 : n ≤ 9223372036854775807) : IntKind.i64.wrap n = n := by
  simp only [IntKind.wrap, IntKind.bits, IntKind.signed]
  simp only [Bool.true_and]
  split
  · rename_i h; simp at h; omega
  · rename_i h; simp at h; omega
theorem wrap_u8 {n : Int} (h1 : 0 ≤ n) (h2 : n ≤ 255) : IntKind.u8.wrap n = n := by
  simp only [IntKind.wrap, IntKind.bits, IntKind.signed]
  simp; omega

/- MEMORY -/
/-- blocks outside S are as they were -/
def Keep (S : Nat → Prop) (H H' : Heap) : Prop := H.size ≤ H'.size ∧ ∀ k, k < H.size → ¬ S k → H'[k]? = H[k]?
theorem Keep.refl {S : Nat → Prop} {H : Heap} : Keep S H H := ⟨Nat.le_refl _, fun _ _ _ => rfl⟩
theorem Keep.trans {S : Nat → Prop} {a b c : Heap} (h : Keep S a b) (k : Keep S b c) : Keep S a c :=
  ⟨Nat.le_trans h.1 k.1, fun i hi hs => (k.2 i (Nat.lt_of_lt_of_le hi h.1) hs).trans (h.2 i hi hs)⟩
theorem Keep.mono {S S' : Nat → Prop} {a b : Heap} (h : Keep S a b) (hs : ∀ k, k < a.size → S k → S' k) : Keep S' a b := ⟨h.1, fun i hi hn => h.2 i hi fun hk => hn (hs i hi hk)⟩
theorem Keep.push {S : Nat → Prop} {H : Heap} {o : Obj} : Keep S H (H.push o) := ⟨by simp, fun i hi _ => by rw [Array.getElem?_push, if_neg (by omega)]⟩
theorem Keep.set {S : Nat → Prop} {H : Heap} {b : Nat} {o : Obj} (h : S b) : Keep S H (H.setIfInBounds b o) := ⟨by simp, fun i hi hn => by
  rw [Array.getElem?_setIfInBounds, if_neg (by rintro rfl; exact hn h)]⟩
theorem lt_of {H : Heap} {b : Nat} {x : Obj} (h : H[b]? = some x) : b < H.size := (Array.getElem?_eq_some_iff.1 h).1
theorem Keep.at {S : Nat → Prop} {H H' : Heap} (h : Keep S H H') {b : Nat} {x : Obj} (hb : H[b]? = some x) (hs : ¬ S b) : H'[b]? = some x := by rw [h.2 b (lt_of hb) hs]; exact hb
theorem set_self {H : Heap} {b : Nat} {x y : Obj} (h : H[b]? = some x) : (H.setIfInBounds b y)[b]? = some y := by simp [lt_of h]
theorem set_other {H : Heap} {b c : Nat} {x y : Obj} (h : H[c]? = some x) (hn : b ≠ c) : (H.setIfInBounds b y)[c]? = some x := by rw [Array.getElem?_setIfInBounds, if_neg hn]; exact h
theorem push_old {H : Heap} {b : Nat} {x y : Obj} (h : H[b]? = some x) : (H.push y)[b]? = some x := by rw [Array.getElem?_push, if_neg (Nat.ne_of_lt (lt_of h))]; exact h
@[simp] theorem push_new {H : Heap} {y : Obj} : (H.push y)[H.size]? = some y := by simp

/- the block that a slice or a pointer leads to -/
def blk : Value → Option Nat
  | .slice (some a) _ _ => some a.block
  | .pointer (some a) => some a.block
  | _ => none

theorem elems_keep {S : Nat → Prop} {H H' : Heap} (h : Keep S H H') {n : Nat} {x : Value} {r : Nat × Array Value} (hl : elemsOf n H x = some r) (hs : ∀ b, blk x = some b → ¬ S b) : elemsOf n H' x = some r := by
  unfold elemsOf at hl ⊢
  split at hl
  · split at hl
    · rename_i h0; rw [if_pos h0]; exact hl
    · rename_i h0; rw [if_neg h0]
      split at hl
      · split at hl
        · rename_i hb; simp only [h.at hb (hs _ rfl)]; exact hl
        · cases hl
      · cases hl
  · exact hl
  · cases hl

/- BYTES -/
def bcells (l : List UInt8) : List Value := l.map fun b => .int .u8 b.toNat
@[simp] theorem bcells_length {l : List UInt8} : (bcells l).length = l.length := by simp [bcells]
@[simp] theorem bcells_append {l m : List UInt8} : bcells (l ++ m) = bcells l ++ bcells m := by simp [bcells]
@[simp] theorem bcells_nil : bcells [] = [] := rfl
@[simp] theorem bcells_cons {b : UInt8} {l : List UInt8} : bcells (b :: l) = .int .u8 b.toNat :: bcells l := rfl
theorem bcells_take {l : List UInt8} {n : Nat} : bcells (l.take n) = (bcells l).take n := by simp [bcells, List.map_take]
theorem bcells_drop {l : List UInt8} {n : Nat} : bcells (l.drop n) = (bcells l).drop n := by simp [bcells, List.map_drop]
theorem bcells_one {l : List UInt8} : ∀ v ∈ bcells l, v.oneCell' = true := by
  intro v hv
  obtain ⟨b, _, rfl⟩ := List.mem_map.1 hv
  rfl
theorem bcells_all {l : List UInt8} : (bcells l).toArray.all (·.oneCell') = true := by
  rw [Array.all_eq_true_iff_forall_mem]; intro v hv; exact bcells_one v (by simpa using hv)
theorem bytesOf_bcells {l : List UInt8} : bytesOf (bcells l) = some l := by
  induction l with
  | nil => rfl
  | cons b l ih =>
    show (bytesOf (bcells l)).map (UInt8.ofNat ((b.toNat : Int)).toNat :: ·) = some (b :: l)
    rw [ih]; simp
theorem bcells_inj {l m : List UInt8} (h : bcells l = bcells m) : l = m := by
  have := congrArg bytesOf h
  rw [bytesOf_bcells, bytesOf_bcells] at this
  exact Option.some.inj this

/-- a slice that reads as these bytes -/
def Bs (H : Heap) (v : Value) (l : List UInt8) : Prop := elemsOf 1 H v = some (l.length, (bcells l).toArray)
theorem Bs.keep {S : Nat → Prop} {H H' : Heap} {v : Value} {l : List UInt8} (h : Bs H v l) (k : Keep S H H') (hs : ∀ b, blk v = some b → ¬ S b) : Bs H' v l := elems_keep k h hs
theorem Bs_nil {H : Heap} {a : Option Addr} {c : Nat} : Bs H (.slice a 0 c) [] := by unfold Bs elemsOf; simp

theorem Bs.shape {H : Heap} {v : Value} {l : List UInt8} (h : Bs H v l) : (∃ a c, v = .slice a 0 c ∧ l = []) ∨ (∃ b o c cs T f, v = .slice (some ⟨b, o, none⟩) l.length c ∧ H[b]? = some (.cells cs T f) ∧ o + l.length ≤ cs.size ∧ (cs.toList.drop o).take l.length = bcells l) ∨ ∃ s, v = .string s ∧ l = s.data.toList := by
  unfold Bs elemsOf at h
  split at h
  · rename_i a n c
    split at h
    · rename_i hn
      simp only [Option.some.injEq, Prod.mk.injEq] at h
      have : l = [] := List.length_eq_zero_iff.1 h.1.symm
      subst this hn
      exact .inl ⟨a, c, rfl, rfl⟩
    · split at h
      · rename_i b o
        split at h
        · rename_i cs T f hb
          split at h
          · rename_i hle
            simp only [Option.some.injEq, Prod.mk.injEq] at h
            obtain ⟨rfl, h⟩ := h
            refine .inr (.inl ⟨b, o, c, cs, T, f, rfl, hb, by simpa using hle, ?_⟩)
            have := congrArg Array.toList h
            simpa using this
          · cases h
        · cases h
      · cases h
  · rename_i s
    simp only [if_true, Option.some.injEq, Prod.mk.injEq] at h
    refine .inr (.inr ⟨s, rfl, ?_⟩)
    apply bcells_inj
    have := congrArg Array.toList h.2
    simp at this
    rw [← this]
    simp [bcells]
  · cases h

theorem Bs.mk {H : Heap} {b o n c : Nat} {cs : Array Value} {T : TypeId} {f : Nat × Nat} {l : List UInt8} (hb : H[b]? = some (.cells cs T f)) (hn : n = l.length) (hle : o + n ≤ cs.size) (hl : (cs.toList.drop o).take n = bcells l) : Bs H (.slice (some ⟨b, o, none⟩) n c) l := by
  subst hn
  unfold Bs elemsOf
  simp only [hb, Nat.mul_one]
  split
  · rename_i h0
    have : l = [] := List.length_eq_zero_iff.1 h0
    subst this; rfl
  · congr 2
    apply Array.ext'
    simpa using hl

theorem Bs.b2s {H : Heap} {v : Value} {l : List UInt8} (h : Bs H v l) (hv : ∀ s, v ≠ .string s) : b2s H v = some (.string ⟨l.toArray⟩) := by
  unfold Go.X.b2s
  have h' : elemsOf 1 H v = _ := h
  rcases h.shape with ⟨a, c, rfl, rfl⟩ | ⟨b, o, c, cs, T, f, rfl, _⟩ | ⟨s, rfl, _⟩
  · simp only [h', Option.bind_some, bytesOf_bcells, Option.map_some]
  · simp only [h', Option.bind_some, bytesOf_bcells, Option.map_some]
  · exact absurd rfl (hv s)

end Go.X
