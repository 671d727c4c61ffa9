/- strings: Trim of plain letters, IndexByte; a package's name. -/
import Derived.Test.YtmhfanpijdgkjaaDoorV0
import Derived.Lib.Bytealg
namespace Go.Proofs.YtmhfanpijdgkjaaDoor
open Go.X
set_option maxRecDepth 100000

/- the set of letters -/
def setC (cs : List UInt8) : List Value := (List.range 256).map fun i => .bool (cs.any fun c => c.toNat == i)
@[simp] theorem setC_len {cs : List UInt8} : (setC cs).length = 256 := by simp [setC]
theorem setC_one {cs : List UInt8} : (setC cs).toArray.all (·.oneCell') = true := by
  rw [Array.all_eq_true_iff_forall_mem]; intro v hv
  simp only [setC, List.mem_toArray, List.mem_map] at hv
  obtain ⟨i, _, rfl⟩ := hv; rfl
theorem setC_get {cs : List UInt8} {x : UInt8} : (setC cs)[x.toNat]? = some (.bool (cs.contains x)) := by
  have hx : x.toNat < 256 := x.toNat_lt
  simp only [setC, List.getElem?_map, List.getElem?_range hx, Option.map_some]
  congr 2
  rw [Bool.eq_iff_iff]
  simp only [List.any_eq_true, beq_iff_eq, List.contains_iff_mem]
  constructor
  · rintro ⟨c, hc, he⟩; rwa [← UInt8.toNat.inj he]
  · intro h; exact ⟨x, h, rfl⟩
theorem setC_set {cs : List UInt8} {x : UInt8} : (setC cs).set x.toNat (.bool true) = setC (cs ++ [x]) := by
  apply List.ext_getElem?
  intro i
  rw [List.getElem?_set]
  by_cases hi : i < 256
  · simp only [setC, List.getElem?_map, List.getElem?_range hi, Option.map_some, List.length_map, List.length_range, List.any_append, List.any_cons, List.any_nil, Bool.or_false]
    split
    · rename_i h; subst h; rw [if_pos hi]; simp
    · rename_i h
      congr 2
      have : (x.toNat == i) = false := by simpa using h
      rw [this, Bool.or_false]
  · simp [setC, hi]
    intro h; have := x.toNat_lt; omega
theorem z_set : zcells prg T_strings_asciiSet = some (setC []).toArray := by kernel_rfl

theorem ld256 {H : Heap} {q : Nat} {cs : List UInt8} {T : TypeId} {f : Nat × Nat} (h : H[q]? = some (.cells (setC cs).toArray T f)) : ldN 256 H (Ptr q 0) = some (.agg (setC cs).toArray) :=
  ldN_mid (A := []) (B := setC cs) (C := []) (by rw [List.nil_append, List.append_nil]; exact h) rfl (by simp)
theorem st256 {H : Heap} {q : Nat} {cs ds : List UInt8} {T : TypeId} (h : H[q]? = some (.cells (setC cs).toArray T (0, 0))) : stN 256 H (Ptr q 0) (.agg (setC ds).toArray) = some (H.setIfInBounds q (.cells (setC ds).toArray T (0, 0))) := by
  have := stN_mid (n := 256) (o := 0) (A := []) (B := setC cs) (C := []) (B' := setC ds) (by rw [List.nil_append, List.append_nil]; exact h) rfl (by simp) (by simp) setC_one
  rw [List.nil_append, List.append_nil] at this
  exact this

theorem c_makeASCIISet {H : Heap} {cs : List UInt8} (hcs : ∀ c ∈ cs, c.toNat < 128) (hl : cs.length ≤ 1000) :
    HCalls prg f_strings_makeASCIISet [str cs] H fun u H' => u = .tuple #[.agg (setC cs).toArray, .bool true] ∧ Keep (fun _ => False) H H' := by
  apply sh_strings_makeASCIISet_calls
  unfold sh_strings_makeASCIISet
  simp only [z_set, Mnew_some, J1_eq, lenT_str, Mpu_some]
  generalize hH1 : H.push (.cells (setC []).toArray T_strings_asciiSet (0, 0)) = H1
  have k1 : Keep (fun _ => False) H H1 := by rw [← hH1]; exact Keep.push
  have hq1 : H1[H.size]? = some (.cells (setC []).toArray T_strings_asciiSet (0, 0)) := by rw [← hH1]; exact push_new
  refine L1_i (fun u h => ∃ i, i ≤ cs.length ∧ u = .int .i64 (i : Nat) ∧ h[H.size]? = some (.cells (setC (cs.take i)).toArray T_strings_asciiSet (0, 0)) ∧ Keep (· = H.size) H1 h) (fun u _ => match u with | .int _ t => cs.length - t.toNat | _ => 0)
    ⟨0, Nat.zero_le _, rfl, hq1, Keep.refl⟩ ?_
  rintro _ h ⟨i, hi, rfl, hq, kh⟩ k hk
  simp only [binV_int, intV, Mpu_some, Mcd_bool, decide_eq_true_eq]
  by_cases hlt : (i : Int) < cs.length
  · rw [if_pos hlt]
    have hlt' : i < cs.length := by omega
    have hg : cs[i]? = some cs[i] := List.getElem?_eq_getElem hlt'
    have hc := hcs cs[i] (by simp)
    have hx : cs[i].toNat < 256 := cs[i].toNat_lt
    have hinc : IntKind.i64.wrap ((i : Int) + 1) = (i + 1 : Nat) := by rw [wrap_id] <;> omega
    rw [ixT_str hg, Mpu_some]
    simp only [binV_int, intV, Mpu_some, Mcd_bool, decide_eq_true_eq]
    rw [if_neg (by omega), ixA_at' hx, Mpu_some, st_l hq (by simpa using hx) rfl, Mwr_some, setC_set, hinc]
    refine hk _ _ ⟨i + 1, hlt', rfl, ?_, kh.trans (Keep.set rfl)⟩ (by show cs.length - (i + 1) < cs.length - i; omega)
    rw [set_self hq, List.take_add_one, hg]; rfl
  · rw [if_neg hlt]
    obtain rfl : i = cs.length := by omega
    rw [List.take_length] at hq
    rw [ld256 hq, Mpu_some, st256 hq, Mwr_some, ld256 (set_self hq), Mpu_some]
    refine ⟨rfl, ?_⟩
    have := k1.1; have := kh.1
    refine ⟨by simp; omega, fun i hi _ => ?_⟩
    rw [Array.getElem?_setIfInBounds, if_neg (by omega), kh.2 i (by omega) (by omega), k1.2 i hi id]

theorem c_contains {H : Heap} {q : Nat} {cs : List UInt8} {T : TypeId} {f : Nat × Nat} (h : H[q]? = some (.cells (setC cs).toArray T f)) {x : UInt8} :
    HCalls prg f_strings_asciiSet_contains [Ptr q 0, .int .u8 x.toNat] H fun u H' => u = .bool (cs.contains x) ∧ H = H' := by
  apply sh_strings_asciiSet_contains_calls
  unfold sh_strings_asciiSet_contains
  simp only [nck_ptr, Mpu_some]
  rw [ixA_at' x.toNat_lt, Mpu_some, ld1_at h]
  have := setC_get (cs := cs) (x := x)
  simp only [List.getElem?_toArray, this, Mpu_some]
  exact ⟨by trivial, by trivial⟩

def trimL (cs l : List UInt8) : List UInt8 := l.dropWhile cs.contains
def trimR (cs l : List UInt8) : List UInt8 := (l.reverse.dropWhile cs.contains).reverse
theorem trimR_snoc {cs m : List UInt8} {x : UInt8} : trimR cs (m ++ [x]) = if cs.contains x then trimR cs m else m ++ [x] := by
  unfold trimR
  rw [List.reverse_append]
  simp only [List.reverse_cons, List.reverse_nil, List.nil_append, List.singleton_append, List.dropWhile_cons]
  split <;> simp
theorem dropWhile_nil {p : UInt8 → Bool} {l : List UInt8} : l.dropWhile p = [] ↔ ∀ x ∈ l, p x = true := by
  induction l with
  | nil => simp
  | cons a l ih =>
    rw [List.dropWhile_cons]
    by_cases h : p a = true
    · rw [if_pos h, ih]; simp [h]
    · rw [if_neg h]; simp [h]
theorem trim_nil {cs l : List UInt8} : trimL cs (trimR cs l) = [] ↔ ∀ x ∈ l, cs.contains x = true := by
  unfold trimL
  rw [dropWhile_nil]
  unfold trimR
  constructor
  · intro h
    have h2 : ∀ x ∈ l.reverse.dropWhile cs.contains, cs.contains x = true := fun x hx => h x (List.mem_reverse.2 hx)
    have h3 : l.reverse.dropWhile cs.contains = [] := by
      cases hd : l.reverse.dropWhile cs.contains with
      | nil => rfl
      | cons y t =>
        have := List.head?_dropWhile_not (p := cs.contains) l.reverse
        rw [hd] at this
        simp only [List.head?_cons] at this
        have h4 := h2 y (by rw [hd]; simp)
        rw [h4] at this
        cases this
    intro x hx
    exact dropWhile_nil.1 h3 x (List.mem_reverse.2 hx)
  · intro h x hx
    have := (List.dropWhile_sublist cs.contains (l := l.reverse)).subset (List.mem_reverse.1 hx)
    exact h x (List.mem_reverse.1 this)

theorem c_trimLeftASCII {H : Heap} {q : Nat} {cs l : List UInt8} {T : TypeId} {f : Nat × Nat} (h : H[q]? = some (.cells (setC cs).toArray T f)) :
    HCalls prg f_strings_trimLeftASCII [str l, Ptr q 0] H fun u H' => u = str (trimL cs l) ∧ H = H' := by
  apply sh_strings_trimLeftASCII_calls
  unfold sh_strings_trimLeftASCII
  simp only [J1_eq]
  refine L1_i (fun u h => ∃ m, u = str m ∧ trimL cs m = trimL cs l ∧ H = h) (fun u _ => match u with | .string s => s.size | _ => 0) ⟨l, rfl, rfl, rfl⟩ ?_
  rintro _ _ ⟨m, rfl, hm, rfl⟩ k hk
  simp only [lenT_str, Mpu_some, binV_int, intV, Mcd_bool, decide_eq_true_eq]
  cases m with
  | nil => rw [if_neg (by simp)]; exact ⟨by rw [← hm]; rfl, by trivial⟩
  | cons x m =>
    rw [if_pos (by simp only [List.length_cons]; omega)]
    have e : ixT (str (x :: m)) (.int .i64 0) = some (.int .u8 x.toNat) := ixT_str (i := 0) rfl
    rw [e, Mpu_some]
    refine call_i (c_contains h) ?_
    rintro _ _ ⟨rfl, rfl⟩
    simp only [unV_not, Mpu_some, Mcd_bool]
    by_cases hc : cs.contains x = true
    · rw [if_neg (by rw [hc]; decide)]
      have e2 : slT (str (x :: m)) (some (.int .i64 1)) none = some (str m) := by
        have := slT_str (l := x :: m) (lo := 1) (hi := (x :: m).length) (a := some (.int .i64 1)) (b := none) (by simp) (Nat.le_refl _) (by simp [bnd]; omega) (by simp [bnd])
        simpa using this
      rw [e2, Mpu_some]
      refine hk _ _ ⟨m, rfl, ?_, rfl⟩ (by show (ByteArray.mk m.toArray).size < (ByteArray.mk (x :: m).toArray).size; rw [size_mk, size_mk]; simp)
      rw [← hm]; unfold trimL; rw [List.dropWhile_cons, if_pos hc]
    · rw [if_pos (by rw [eq_false_of_ne_true hc]; rfl)]
      refine ⟨?_, by trivial⟩
      rw [← hm]; unfold trimL; rw [List.dropWhile_cons, if_neg hc]

theorem c_trimRightASCII {H : Heap} {q : Nat} {cs l : List UInt8} {T : TypeId} {f : Nat × Nat} (h : H[q]? = some (.cells (setC cs).toArray T f)) (hl : l.length ≤ 140737488355328) :
    HCalls prg f_strings_trimRightASCII [str l, Ptr q 0] H fun u H' => u = str (trimR cs l) ∧ H = H' := by
  apply sh_strings_trimRightASCII_calls
  unfold sh_strings_trimRightASCII
  simp only [J1_eq]
  refine L1_i (fun u h => ∃ m, u = str m ∧ trimR cs m = trimR cs l ∧ m.length ≤ l.length ∧ H = h) (fun u _ => match u with | .string s => s.size | _ => 0) ⟨l, rfl, rfl, Nat.le_refl _, rfl⟩ ?_
  rintro _ _ ⟨m, rfl, hm, hml, rfl⟩ k hk
  simp only [lenT_str, Mpu_some, binV_int, intV, Mcd_bool, decide_eq_true_eq]
  rcases List.eq_nil_or_concat m with rfl | ⟨m, x, rfl⟩
  · rw [if_neg (by simp)]; exact ⟨by rw [← hm]; rfl, by trivial⟩
  · rw [List.concat_eq_append] at *
    rw [if_pos (by simp only [List.length_append, List.length_cons]; omega)]
    have hw : IntKind.i64.wrap (((m ++ [x]).length : Int) - 1) = (m.length : Nat) := by rw [wrap_id] <;> simp at hml ⊢ <;> omega
    have e : ixT (str (m ++ [x])) (.int .i64 (m.length : Nat)) = some (.int .u8 x.toNat) := ixT_str (by simp)
    rw [hw, e, Mpu_some]
    refine call_i (c_contains h) ?_
    rintro _ _ ⟨rfl, rfl⟩
    simp only [unV_not, Mpu_some, Mcd_bool]
    by_cases hc : cs.contains x = true
    · rw [if_neg (by rw [hc]; decide)]
      have e2 : slT (str (m ++ [x])) none (some (.int .i64 (m.length : Nat))) = some (str m) := by
        have := slT_str (l := m ++ [x]) (lo := 0) (hi := m.length) (a := none) (b := some (.int .i64 (m.length : Nat))) (Nat.zero_le _) (by simp) (by simp [bnd]) (by simp [bnd]; omega)
        simpa using this
      rw [e2, Mpu_some]
      refine hk _ _ ⟨m, rfl, ?_, by simp at hml; omega, rfl⟩ (by show (ByteArray.mk m.toArray).size < (ByteArray.mk (m ++ [x]).toArray).size; rw [size_mk, size_mk]; simp)
      rw [← hm, trimR_snoc, if_pos hc]
    · rw [if_pos (by rw [eq_false_of_ne_true hc]; rfl)]
      refine ⟨?_, by trivial⟩
      rw [← hm, trimR_snoc, if_neg hc]

theorem c_Trim {H : Heap} {cs l : List UInt8} (hcs : ∀ c ∈ cs, c.toNat < 128) (h2 : 2 ≤ cs.length) (h3 : cs.length ≤ 1000) (hl : l.length ≤ 140737488355328) :
    HCalls prg f_strings_Trim [str l, str cs] H fun u H' => u = str (trimL cs (trimR cs l)) ∧ Keep (fun _ => False) H H' := by
  apply sh_strings_Trim_calls
  unfold sh_strings_Trim
  have e1 : strV .eql ⟨l.toArray⟩ ⟨#[]⟩ = some (.bool (decide (l = []))) := strV_eq (b := [])
  have e2 : strV .eql ⟨cs.toArray⟩ ⟨#[]⟩ = some (.bool (decide (cs = []))) := strV_eq (b := [])
  have hne : decide (cs = []) = false := by cases cs <;> simp at h2 ⊢
  simp only [binV_str, e1, e2, hne, Mpu_some, J1_eq, Mif_bool, lenT_str]
  by_cases h0 : l = []
  · subst h0
    simp only [decide_true, Bool.true_eq_false, if_false, pickV_bool, if_true, Mpu_some, Mcd_bool]
    exact ⟨rfl, Keep.refl⟩
  · have hd : decide (l = []) = false := by simpa using h0
    have hn1 : ((cs.length : Int) == 1) = false := by simp; omega
    simp only [hd, if_true, pickV_bool, Bool.false_eq_true, if_false, Mpu_some, Mcd_bool, binV_int, intV, hn1, Mif_bool]
    refine call_i (c_makeASCIISet hcs h3) ?_
    rintro _ h1 ⟨rfl, k1⟩
    simp only [extV_tuple, List.getElem?_toArray, List.getElem?_cons_succ, List.getElem?_cons_zero, Mpu_some, z_set, Mnew_some]
    have hq : (h1.push (.cells (setC []).toArray T_strings_asciiSet (0, 0)))[h1.size]? = some (.cells (setC []).toArray T_strings_asciiSet (0, 0)) := push_new
    rw [st256 hq, Mwr_some, Mcd_bool, if_pos rfl]
    have hq2 := set_self (y := .cells (setC cs).toArray T_strings_asciiSet (0, 0)) hq
    refine call_i (c_trimRightASCII hq2 hl) ?_
    rintro _ _ ⟨rfl, rfl⟩
    refine call_i (c_trimLeftASCII hq2) ?_
    rintro _ _ ⟨rfl, rfl⟩
    refine ⟨rfl, ?_⟩
    have := k1.1
    refine ⟨by simp; omega, fun i hi _ => ?_⟩
    rw [Array.getElem?_setIfInBounds, if_neg (by omega), Array.getElem?_push, if_neg (by omega), k1.2 i hi id]

theorem xt_IndexByteString {args : Array Value} : xtV prg f_internal_bytealg_IndexByteString args = Extern.BytealgIndexByte.indexByte args := by kernel_rfl
theorem c_IndexByte {H : Heap} {l : List UInt8} {x : UInt8} : HCalls prg f_strings_IndexByte [str l, .int .u8 x.toNat] H fun u H' => u = .int .i64 (Lib.indexByte l x) ∧ H = H' := by
  apply sh_strings_IndexByte_calls
  unfold sh_strings_IndexByte
  refine HCalls.mono (R := fun u H' => u = .int .i64 (Lib.indexByte l x) ∧ H = H') ?_ fun u h hR => hR
  apply sh_internal_stringslite_IndexByte_calls
  unfold sh_internal_stringslite_IndexByte
  intro w hw
  refine ⟨_, w, by rw [xt_IndexByteString]; exact Lib.run_indexByteString _ _ w, Same.rfl' w, ?_, hw.symm⟩
  simp

/- a package's name -/
def azL : List UInt8 := [97, 98, 99, 100, 101, 102, 103, 104, 105, 106, 107, 108, 109, 110, 111, 112, 113, 114, 115, 116, 117, 118, 119, 120, 121, 122]
def az09L : List UInt8 := azL ++ [48, 49, 50, 51, 52, 53, 54, 55, 56, 57]
def nameL : List UInt8 := az09L ++ [45]
def nameOk (l : List UInt8) : Bool := decide (l ≠ []) && decide (l.length ≤ 32) && decide (∀ x ∈ l, nameL.contains x = true) && decide (Lib.indexByte azL (l.headD 0) ≥ 0)
theorem c_Name {H : Heap} {l : List UInt8} (hl : l.length ≤ 140737488355328) : HCalls prg f_manifest_Name [str l] H fun u H' => u = .bool (nameOk l) ∧ Keep (fun _ => False) H H' := by
  apply sh_manifest_Name_calls
  unfold sh_manifest_Name
  have e1 : strV .neq ⟨l.toArray⟩ ⟨#[]⟩ = some (.bool (!decide (l = []))) := strV_ne (b := [])
  simp only [binV_str, e1, Mpu_some, J1_eq, Mif_bool, lenT_str, binV_int, intV]
  cases l with
  | nil => simp [nameOk, Keep.refl]
  | cons x l =>
    have hd : (!decide (x :: l = [])) = true := by simp
    have hi : ixT (str (x :: l)) (.int .i64 0) = some (.int .u8 x.toNat) := ixT_str (i := 0) rfl
    simp only [hd, if_true, pickV_bool, Mpu_some]
    by_cases h32 : (((x :: l).length : Nat) : Int) ≤ 32
    · have h32' : (x :: l).length ≤ 32 := by omega
      simp only [h32, decide_true, Mif_bool, if_true]
      refine call_i (c_Trim (cs := nameL) (by decide) (by decide) (by decide) hl) ?_
      rintro _ h1 ⟨rfl, k1⟩
      have e3 : strV .eql ⟨(trimL nameL (trimR nameL (x :: l))).toArray⟩ ⟨#[]⟩ = some (.bool (decide (trimL nameL (trimR nameL (x :: l)) = []))) := strV_eq (b := [])
      have e4 : decide (trimL nameL (trimR nameL (x :: l)) = []) = decide (∀ y ∈ x :: l, nameL.contains y = true) := by rw [decide_eq_decide]; exact trim_nil
      simp only [binV_str, e3, e4, Mpu_some]
      by_cases ha : ∀ y ∈ x :: l, nameL.contains y = true
      · simp only [decide_eq_true ha, Mif_bool, if_true, hi, Mpu_some]
        refine call_i (c_IndexByte (l := azL) (x := x)) ?_
        rintro _ _ ⟨rfl, rfl⟩
        simp only [binV_int, intV, pickV_bool, if_true, Mpu_some]
        refine ⟨?_, k1⟩
        unfold nameOk
        rw [decide_eq_true ha, decide_eq_true h32']
        simp
      · simp only [decide_eq_false ha, Mif_bool, Bool.false_eq_true, if_false, pickV_bool, Mpu_some]
        refine ⟨?_, k1⟩
        unfold nameOk
        rw [decide_eq_false ha]; simp
    · have h32' : ¬ (x :: l).length ≤ 32 := by omega
      simp only [h32, decide_false, Mif_bool, Bool.false_eq_true, if_false, pickV_bool, Mpu_some]
      refine ⟨?_, Keep.refl⟩
      unfold nameOk
      rw [decide_eq_false h32']; simp

end Go.Proofs.YtmhfanpijdgkjaaDoor
