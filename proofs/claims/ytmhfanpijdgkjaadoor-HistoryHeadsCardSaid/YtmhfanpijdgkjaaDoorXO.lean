/- Rules: strings as lists of bytes. -/
import Derived.Test.YtmhfanpijdgkjaaDoorXN
namespace Go.X

/-- the string of these bytes -/
abbrev str (l : List UInt8) : Value := .string ⟨l.toArray⟩
theorem str_of (s : ByteArray) : Value.string s = str s.data.toList := by
  obtain ⟨a⟩ := s; simp
theorem size_mk {l : List UInt8} : (ByteArray.mk l.toArray).size = l.length := by simp [ByteArray.size]
theorem toList_mk {l : List UInt8} : (ByteArray.mk l.toArray).toList = l := by simp
@[simp] theorem lenT_str {l : List UInt8} : lenT (str l) = some (.int .i64 l.length) := by rw [lenT_string, size_mk]
theorem ixT_str {l : List UInt8} {i : Nat} {x : UInt8} {k : IntKind} (h : l[i]? = some x) : ixT (str l) (.int k i) = some (.int .u8 x.toNat) := by
  obtain ⟨hlt, rfl⟩ := List.getElem?_eq_some_iff.1 h
  have e : (ByteArray.mk l.toArray)[i]? = some l[i] := by
    rw [getElem?_pos (ByteArray.mk l.toArray) i (by rw [size_mk]; exact hlt)]
    rfl
  simp only [ixT]; rw [if_pos (by omega)]
  simp only [Int.toNat_natCast, e, Option.map_some]
theorem slT_str {l : List UInt8} {lo hi : Nat} {a b : Option Value} (h1 : lo ≤ hi) (h2 : hi ≤ l.length) (ha : bnd 0 hi a = some lo) (hb : bnd l.length l.length b = some hi) : slT (str l) a b = some (str ((l.take hi).drop lo)) := by
  have hbn : bnds l.length l.length a b none = some (lo, hi, l.length) := by
    unfold bnds
    rw [show bnd l.length l.length none = some l.length from rfl]
    simp only [Option.bind_some, hb, ha, Option.map_some]
  have e : (ByteArray.mk l.toArray).extract lo hi = ⟨((l.take hi).drop lo).toArray⟩ := by
    apply ByteArray.ext
    rw [ByteArray.data_extract]
    apply Array.ext'
    simp [List.extract_eq_take_drop, List.drop_take]
  simp only [slT, size_mk, hbn, Option.map_some, e]
theorem strV_eq {a b : List UInt8} : strV .eql ⟨a.toArray⟩ ⟨b.toArray⟩ = some (.bool (decide (a = b))) := by
  simp only [strV, toList_mk]; congr 2; rw [Bool.eq_iff_iff]; simp
theorem strV_ne {a b : List UInt8} : strV .neq ⟨a.toArray⟩ ⟨b.toArray⟩ = some (.bool (!decide (a = b))) := by
  simp only [strV, toList_mk]; congr 2; rw [Bool.eq_iff_iff]; simp
theorem strV_add {a b : List UInt8} (h : a.length + b.length ≤ 9223372036854775807) : strV .add ⟨a.toArray⟩ ⟨b.toArray⟩ = some (str (a ++ b)) := by
  simp only [strV, size_mk]
  rw [if_neg (by show ¬ ((a.length + b.length : Nat) : Int) > 9223372036854775807; omega)]
  congr 2
@[simp] theorem str_one {l : List UInt8} : (str l).oneCell' = true := rfl
theorem Bs_str {H : Heap} {l : List UInt8} : Bs H (str l) l := by
  unfold Bs elemsOf
  simp only [if_true, size_mk]
  congr 2
  apply Array.ext'
  simp [bcells]
theorem Sl.str {P : Nat → Prop} {H : Heap} {v : Value} {l : List UInt8} (h : Sl P H v l) : Go.X.b2s H v = some (str l) := h.b2s

end Go.X
