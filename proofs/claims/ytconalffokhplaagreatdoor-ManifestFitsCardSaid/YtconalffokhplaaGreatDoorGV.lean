/- JOINED: P4 V70 V71 V72 V73 V74 -/
import Derived.Test.YtconalffokhplaaGreatDoorGJ
import Derived.Test.YtconalffokhplaaGreatDoorGU
import Derived.Test.YtconalffokhplaaGreatDoorGO
set_option linter.unusedSimpArgs false
set_option linter.unusedVariables false
/- The plain law of records in bytes: two right records with the same bytes are one. -/
namespace Go.Proofs.YtconalffokhplaaGreatDoor
open Go.X Go.X.Diff
set_option maxRecDepth 100000

def valB (l : List UInt8) : Nat := l.foldl (fun n c => n * 256 + c.toNat) 0
theorem valB_snoc {l : List UInt8} {c : UInt8} : valB (l ++ [c]) = valB l * 256 + c.toNat := by simp [valB]
theorem byteOf_nat {n s : Nat} : (byteOf (n : Int) s).toNat = n / 2 ^ s % 256 := by
  unfold byteOf
  rw [Int.fdiv_eq_ediv_of_nonneg _ (by exact Int.le_of_lt (Int.pow_pos (by decide)))]
  have e : ((n : Int) / 2 ^ s) % 256 = ((n / 2 ^ s % 256 : Nat) : Int) := by push_cast; rfl
  rw [e, Int.toNat_natCast, UInt8.toNat_ofNat']
  omega
theorem valB_numTo {n s : Nat} (hn : n < 256 ^ s) : ∀ {j : Nat}, j ≤ s → valB (numTo (n : Int) s j) = n / 256 ^ (s - j)
  | 0, _ => by
    rw [Nat.sub_zero, Nat.div_eq_of_lt hn]; rfl
  | j + 1, hj => by
    rw [numTo_succ, valB_snoc, valB_numTo hn (by omega), byteOf_nat]
    have e : (2 : Nat) ^ (8 * (s - 1 - j)) = 256 ^ (s - (j + 1)) := by rw [Nat.pow_mul, show s - 1 - j = s - (j + 1) by omega]
    rw [e, show s - j = (s - (j + 1)) + 1 by omega, Nat.pow_succ, ← Nat.div_div_eq_div_mul]
    omega
theorem valB_num {n s : Nat} (hn : n < 256 ^ s) : valB (numB (n : Int) s) = n := by
  have := valB_numTo hn (Nat.le_refl s)
  rw [Nat.sub_self, Nat.pow_zero, Nat.div_one] at this
  exact this
theorem num_inj {n m s : Nat} (hn : n < 256 ^ s) (hm : m < 256 ^ s) (h : numB (n : Int) s = numB (m : Int) s) : n = m := by
  have := congrArg valB h
  rwa [valB_num hn, valB_num hm] at this
theorem num_app {n m s : Nat} {X Y : List UInt8} (hn : n < 256 ^ s) (hm : m < 256 ^ s) (h : numB (n : Int) s ++ X = numB (m : Int) s ++ Y) : n = m ∧ X = Y := by
  obtain ⟨h1, h2⟩ := List.append_inj h (by rw [numB_len, numB_len])
  exact ⟨num_inj hn hm h1, h2⟩
theorem text_app {a b X Y : List UInt8} (ha : a.length < 4294967296) (hb : b.length < 4294967296) (h : textB a ++ X = textB b ++ Y) : a = b ∧ X = Y := by
  unfold textB at h
  rw [List.append_assoc, List.append_assoc] at h
  obtain ⟨h1, h2⟩ := num_app ha hb h
  exact List.append_inj h2 h1
theorem nameOk_len {l : List UInt8} (h : nameOk l = true) : l.length ≤ 32 := by
  unfold nameOk at h; simp only [Bool.and_eq_true, decide_eq_true_eq] at h; exact h.1.1.2
/-- an item that may stand in a right record -/
def itOk (x : Item) : Prop := x.wf ∧ nameOk x.name = true ∧ verOk x.ver = true
theorem item_app {x y : Item} {X Y : List UInt8} (hx : itOk x) (hy : itOk y) (h : itemB x ++ X = itemB y ++ Y) : x = y ∧ X = Y := by
  obtain ⟨x1, x2, x3⟩ := hx
  obtain ⟨y1, y2, y3⟩ := hy
  have a1 := nameOk_len x2
  have a2 := nameOk_len y2
  have b1 := showF_len (v := x.ver) x1.ver.p3
  have b2 := showF_len (v := y.ver) y1.ver.p3
  unfold itemB at h
  rw [List.append_assoc, List.append_assoc, List.append_assoc, List.append_assoc] at h
  obtain ⟨e1, h⟩ := text_app (by omega) (by omega) h
  obtain ⟨e2, h⟩ := text_app (by omega) (by omega) h
  obtain ⟨e3, h⟩ := List.append_inj h (by rw [x1.sum, y1.sum])
  have e2 := show_inj x1.ver.p3 y1.ver.p3 x3 y3 e2
  refine ⟨?_, h⟩
  cases x; cases y; simp only at e1 e2 e3; rw [e1, e2, e3]
theorem items_app {X Y : List UInt8} : ∀ {xs ys : List Item}, xs.length = ys.length → (∀ x ∈ xs, itOk x) → (∀ y ∈ ys, itOk y) → (xs.map itemB).flatten ++ X = (ys.map itemB).flatten ++ Y → xs = ys ∧ X = Y
  | [], [], _, _, _, h => ⟨rfl, h⟩
  | x :: xs, y :: ys, hl, hx, hy, h => by
    simp only [List.map_cons, List.flatten_cons, List.append_assoc] at h
    obtain ⟨e1, h1⟩ := item_app (hx x (by simp)) (hy y (by simp)) h
    obtain ⟨e2, h2⟩ := items_app (by simpa using hl) (fun z hz => hx z (by simp [hz])) (fun z hz => hy z (by simp [hz])) h1
    exact ⟨by rw [e1, e2], h2⟩
theorem put_app {xs ys : List Item} {X Y : List UInt8} (hlx : xs.length ≤ 256) (hly : ys.length ≤ 256) (hx : ∀ x ∈ xs, itOk x) (hy : ∀ y ∈ ys, itOk y) (h : putB xs ++ X = putB ys ++ Y) : xs = ys ∧ X = Y := by
  unfold putB at h
  rw [List.append_assoc, List.append_assoc] at h
  obtain ⟨e, h⟩ := num_app (s := 8) (by omega) (by omega) h
  exact items_app e hx hy h
theorem itemsOk_spec {xs : List Item} (h : itemsOk xs = true) (hw : ∀ x ∈ xs, x.wf) : xs.length ≤ 256 ∧ ∀ x ∈ xs, itOk x := by
  unfold itemsOk at h
  simp only [Bool.and_eq_true, decide_eq_true_eq, List.all_eq_true] at h
  refine ⟨h.2, fun x hx => ?_⟩
  obtain ⟨i, hi⟩ := List.getElem?_of_mem hx
  have := h.1 i (by have := (List.getElem?_eq_some_iff.1 hi).1; simpa using this)
  unfold itemAt at this
  rw [hi] at this
  simp only [Bool.and_eq_true] at this
  exact ⟨hw x hx, this.1.1, this.1.2⟩
theorem recB_inj {a b : RecA} (ha : recOk a = true) (hb : recOk b = true) (wa : (∀ x ∈ a.bef, x.wf) ∧ (∀ x ∈ a.aft, x.wf) ∧ a.r.length = 32) (wb : (∀ x ∈ b.bef, x.wf) ∧ (∀ x ∈ b.aft, x.wf) ∧ b.r.length = 32) (h : recB a = recB b) : a = b := by
  unfold recOk headOk at ha hb
  simp only [Bool.and_eq_true, decide_eq_true_eq] at ha hb
  obtain ⟨⟨⟨⟨a1, a2⟩, a3⟩, a4⟩, a5, a6⟩ := ha
  obtain ⟨⟨⟨⟨b1, b2⟩, b3⟩, b4⟩, b5, b6⟩ := hb
  obtain ⟨l1, i1⟩ := itemsOk_spec a3 wa.1
  obtain ⟨l2, i2⟩ := itemsOk_spec a4 wa.2.1
  obtain ⟨l3, i3⟩ := itemsOk_spec b3 wb.1
  obtain ⟨l4, i4⟩ := itemsOk_spec b4 wb.2.1
  unfold recB at h
  simp only [List.append_assoc] at h
  rw [show a.k = ((a.k.toNat : Nat) : Int) by omega, show b.k = ((b.k.toNat : Nat) : Int) by omega, show a.s = ((a.s.toNat : Nat) : Int) by omega, show b.s = ((b.s.toNat : Nat) : Int) by omega] at h
  obtain ⟨e1, h1⟩ := num_app (s := 8) (by omega) (by omega) h
  obtain ⟨e2, h2⟩ := put_app l1 l3 i1 i3 h1
  obtain ⟨e3, h3⟩ := put_app l2 l4 i2 i4 h2
  obtain ⟨e4, h4⟩ := num_app (s := 8) (by omega) (by omega) h3
  clear h h1 h2 h3 i1 i2 i3 i4
  obtain ⟨k, bf, af, s, r⟩ := a
  obtain ⟨k', bf', af', s', r'⟩ := b
  simp only at *
  subst e2 e3 h4
  congr 1 <;> omega
theorem valB_lt : ∀ (l : List UInt8), valB l < 256 ^ l.length := by
  intro l
  induction h : l.length generalizing l with
  | zero => obtain rfl := List.length_eq_zero_iff.1 h; decide
  | succ n ih =>
    obtain ⟨m, c, rfl⟩ : ∃ m c, l = m ++ [c] := ⟨l.dropLast, l.getLast (by rintro rfl; simp at h), (List.dropLast_concat_getLast _).symm⟩
    have hm := ih m (by simpa using h)
    have hc := c.toNat_lt
    rw [valB_snoc, Nat.pow_succ]
    omega
end Go.Proofs.YtconalffokhplaaGreatDoor
/- wire: what the readers do. -/
namespace Go.Proofs.YtconalffokhplaaGreatDoor
open Go.X
set_option maxRecDepth 100000

/- THE READER -/
abbrev RS := List UInt8 × Bool
def tkB (n : Nat) (s : RS) : Bool := s.2 || decide (s.1.length < n)
def tkO (n : Nat) (s : RS) : List UInt8 := if tkB n s then [] else s.1.take n
def tkS (n : Nat) (s : RS) : RS := (if tkB n s then s.1 else s.1.drop n, tkB n s)

/- numbers -/
def num (l : List UInt8) : Nat := l.foldl (fun a b => (a * 256 + b.toNat) % 18446744073709551616) 0

theorem wrap_u64m {n : Int} (h : 0 ≤ n) : IntKind.u64.wrap n = n % 18446744073709551616 := by
  simp only [IntKind.wrap, IntKind.bits, IntKind.signed]; simp

theorem or_lo (a b : Nat) (hb : b < 256) : IntKind.u64.wrap ((BitVec.ofInt 64 (IntKind.u64.wrap ((a : Int) * 256)) ||| BitVec.ofInt 64 (b : Int)).toNat : Int) = (((a * 256 + b) % 18446744073709551616 : Nat) : Int) := by
  rw [wrap_u64m (n := (a : Int) * 256) (by omega)]
  have h1 : (a : Int) * 256 % 18446744073709551616 = ((a % 72057594037927936 * 256 : Nat) : Int) := by omega
  rw [h1, BitVec.ofInt_natCast, BitVec.ofInt_natCast, BitVec.toNat_or, BitVec.toNat_ofNat, BitVec.toNat_ofNat]
  rw [Nat.mod_eq_of_lt (by omega), Nat.mod_eq_of_lt (a := b) (by omega)]
  have h2 := Nat.shiftLeft_add_eq_or_of_lt (i := 8) hb (a % 72057594037927936)
  rw [Nat.shiftLeft_eq] at h2
  rw [wrap_u64m (by omega)]
  have h3 : a % 72057594037927936 * 256 ||| b = a % 72057594037927936 * 2 ^ 8 + b := h2.symm
  rw [h3]; omega

theorem num_snoc {l : List UInt8} {b : UInt8} : num (l ++ [b]) = (num l * 256 + b.toNat) % 18446744073709551616 := by simp [num]
theorem num_nil : num [] = 0 := rfl
theorem take_succ {l : List UInt8} {i : Nat} (h : i < l.length) : l.take (i + 1) = l.take i ++ [l[i]] := by simp

/- the reader's steps -/
def rInt (s : RS) : Int := if tkB 8 s then 0 else IntKind.i64.wrap (num (s.1.take 8))

def rCount (lo hi : Int) (s : RS) : Int := if (tkS 8 s).2 || decide (rInt s < lo) || decide (rInt s > hi) then 0 else rInt s
def rCountS (lo hi : Int) (s : RS) : RS := ((tkS 8 s).1, (tkS 8 s).2 || decide (rInt s < lo) || decide (rInt s > hi))
def rHash (s : RS) : List UInt8 := if tkB 32 s then zeroH else s.1.take 32
theorem rHash_len {s : RS} : (rHash s).length = 32 := by
  unfold rHash tkB
  split
  · rfl
  · rename_i h; simp at h; simp [h.2]

end Go.Proofs.YtconalffokhplaaGreatDoor
/- wire: texts read. -/
namespace Go.Proofs.YtconalffokhplaaGreatDoor
open Go.X
set_option maxRecDepth 100000

theorem num_val : ∀ (l : List UInt8), num l = valB l % 18446744073709551616 := by
  intro l
  induction h : l.length generalizing l with
  | zero => obtain rfl := List.length_eq_zero_iff.1 h; rfl
  | succ n ih =>
    obtain ⟨m, c, rfl⟩ : ∃ m c, l = m ++ [c] := ⟨l.dropLast, l.getLast (by rintro rfl; simp at h), (List.dropLast_concat_getLast _).symm⟩
    rw [valB_snoc, num_snoc, ih m (by simpa using h)]
    omega
theorem num_small {l : List UInt8} (h : l.length ≤ 4) : num l = valB l ∧ valB l < 4294967296 := by
  have h1 := valB_lt l
  have h2 : (256 : Nat) ^ l.length ≤ 256 ^ 4 := Nat.pow_le_pow_right (by decide) h
  rw [num_val]
  have : (256 : Nat) ^ 4 = 4294967296 := by decide
  omega

/-- how many bytes the text has -/
def rCnt (m : Nat) (s : RS) : Nat := if tkB 4 s then 0 else if m < valB (s.1.take 4) ∨ s.1.length - 4 < valB (s.1.take 4) then 0 else valB (s.1.take 4)
def rCntS (m : Nat) (s : RS) : RS := if tkB 4 s then tkS 4 s else if m < valB (s.1.take 4) ∨ s.1.length - 4 < valB (s.1.take 4) then (s.1.drop 4, true) else tkS 4 s
def rText (m : Nat) (s : RS) : List UInt8 := tkO (rCnt m s) (rCntS m s)
def rTextS (m : Nat) (s : RS) : RS := tkS (rCnt m s) (rCntS m s)
theorem tkS_len {n : Nat} {s : RS} : (tkS n s).1.length ≤ s.1.length := by
  unfold tkS
  simp only
  split
  · exact Nat.le_refl _
  · simp
theorem rCntS_len {m : Nat} {s : RS} : (rCntS m s).1.length ≤ s.1.length := by
  unfold rCntS
  split
  · exact tkS_len
  · split
    · simp
    · exact tkS_len
theorem rTextS_len {m : Nat} {s : RS} : (rTextS m s).1.length ≤ s.1.length := Nat.le_trans tkS_len rCntS_len
theorem rCnt_le {m : Nat} {s : RS} : rCnt m s ≤ m := by
  unfold rCnt
  split
  · exact Nat.zero_le _
  · split
    · exact Nat.zero_le _
    · rename_i h; omega
theorem rText_len {m : Nat} {s : RS} : (rText m s).length ≤ m := by
  unfold rText tkO
  split
  · simp
  · have := rCnt_le (m := m) (s := s); simp; omega
/- what was written is read -/
theorem tk_app {n : Nat} {a r : List UInt8} (h : a.length = n) : tkB n (a ++ r, false) = false ∧ tkO n (a ++ r, false) = a ∧ tkS n (a ++ r, false) = (r, false) := by
  have hb : tkB n (a ++ r, false) = false := by
    unfold tkB; simp; omega
  refine ⟨hb, ?_, ?_⟩
  · rw [tkO, hb]; simp [← h]
  · rw [tkS, hb]; simp [← h]
theorem read_text {m : Nat} {a r : List UInt8} (h : a.length ≤ m) (hm : m < 4294967296) : rText m (textB a ++ r, false) = a ∧ rTextS m (textB a ++ r, false) = (r, false) := by
  unfold textB
  rw [List.append_assoc]
  obtain ⟨b1, b2, b3⟩ := tk_app (n := 4) (a := numB (a.length : Nat) 4) (r := a ++ r) numB_len
  have hv : valB ((numB (a.length : Nat) 4 ++ (a ++ r)).take 4) = a.length := by
    rw [List.take_left' numB_len, valB_num (by omega)]
  have hno : ¬ (m < a.length ∨ (numB (a.length : Nat) 4 ++ (a ++ r)).length - 4 < a.length) := by
    rw [List.length_append, numB_len, List.length_append]; omega
  have e1 : rCnt m (numB (a.length : Nat) 4 ++ (a ++ r), false) = a.length := by
    unfold rCnt; rw [b1]; simp only [hv, if_neg hno]; rfl
  have e2 : rCntS m (numB (a.length : Nat) 4 ++ (a ++ r), false) = (a ++ r, false) := by
    unfold rCntS; rw [b1]; simp only [hv, if_neg hno]; exact b3
  obtain ⟨c1, c2, c3⟩ := tk_app (n := a.length) (a := a) (r := r) rfl
  exact ⟨by rw [rText, e1, e2, c2], by rw [rTextS, e1, e2, c3]⟩
theorem read_hash {a r : List UInt8} (h : a.length = 32) : rHash (a ++ r, false) = a ∧ tkS 32 (a ++ r, false) = (r, false) := by
  obtain ⟨b1, b2, b3⟩ := tk_app (n := 32) (r := r) h
  refine ⟨?_, b3⟩
  rw [rHash, b1]
  simp only [Bool.false_eq_true, if_false]
  rw [← h]; exact List.take_left' rfl
theorem read_int {n : Nat} {r : List UInt8} (h : n < 9223372036854775808) : rInt (numB (n : Nat) 8 ++ r, false) = n ∧ tkS 8 (numB (n : Nat) 8 ++ r, false) = (r, false) := by
  obtain ⟨b1, b2, b3⟩ := tk_app (n := 8) (a := numB (n : Nat) 8) (r := r) numB_len
  refine ⟨?_, b3⟩
  rw [rInt, b1]
  simp only [Bool.false_eq_true, if_false]
  rw [List.take_left' numB_len, num_val, valB_num (by omega), Nat.mod_eq_of_lt (by omega), wrap_id (by omega) (by omega)]
theorem read_count {n : Nat} {r : List UInt8} (h : n ≤ 256) : rCount 0 256 (numB (n : Nat) 8 ++ r, false) = n ∧ rCountS 0 256 (numB (n : Nat) 8 ++ r, false) = (r, false) := by
  obtain ⟨e1, e2⟩ := read_int (n := n) (r := r) (by omega)
  have h1 : ¬ (n : Int) < 0 := by omega
  have h2 : ¬ (n : Int) > 256 := by omega
  refine ⟨?_, ?_⟩
  · rw [rCount, e1, e2]; simp; omega
  · rw [rCountS, e1, e2]; simp; omega
end Go.Proofs.YtconalffokhplaaGreatDoor
/- history.get: the items of bytes. -/
namespace Go.Proofs.YtconalffokhplaaGreatDoor
open Go.X Go.X.Diff
set_option maxRecDepth 100000

theorem verC_inj {v w : Ver} (hv : v.wf) (hw : w.wf) (h : verC v = verC w) : v = w := by
  have h1 := eqC_Ver hv hv
  have h2 := eqC_Ver hv hw
  rw [← h, h1] at h2
  simpa using h2
theorem At.mid {h : Heap} {q n o : Nat} {A B C B' : List Value} (a : At h q (A ++ B ++ C)) (ho : A.length = o) (hB : B.length = n) (hB' : B'.length = n) (h1 : ∀ c ∈ B', c.oneCell' = true) :
    ∃ h', stN n h (Ptr q o) (.agg B'.toArray) = some h' ∧ At h' q (A ++ B' ++ C) ∧ Keep (· = q) h h' := by
  obtain ⟨T, a⟩ := a
  have := stN_mid (n := n) (o := o) (A := A) (B := B) (C := C) (B' := B') a ho.symm hB.symm hB' (all_of h1)
  exact ⟨_, this, ⟨T, set_self a⟩, Keep.set rfl⟩
theorem rCount_rng {s : RS} : 0 ≤ rCount 0 256 s ∧ rCount 0 256 s ≤ 256 := by
  unfold rCount
  split
  · omega
  · rename_i h
    simp only [Bool.or_eq_true, decide_eq_true_eq, not_or] at h
    omega
theorem rCountS_len {s : RS} : (rCountS 0 256 s).1.length ≤ s.1.length := tkS_len

theorem bcells_one {l : List UInt8} : ∀ c ∈ bcells l, c.oneCell' = true := by
  intro c hc
  simp only [bcells, List.mem_map] at hc
  obtain ⟨x, _, rfl⟩ := hc; rfl
end Go.Proofs.YtconalffokhplaaGreatDoor
/- history.ParseRecord. -/
namespace Go.Proofs.YtconalffokhplaaGreatDoor
open Go.X Go.X.Diff
set_option maxRecDepth 100000

structure RecWf (a : RecA) : Prop where
  bef : ∀ x ∈ a.bef, x.wf
  aft : ∀ x ∈ a.aft, x.wf
  r : a.r.length = 32
theorem textB_len4 {l : List UInt8} : (textB l).length = 4 + l.length := by unfold textB; rw [List.length_append, numB_len]
theorem itemB_len4 {x : Item} (h : itOk x) : (itemB x).length ≤ 112 := by
  obtain ⟨w, n, v⟩ := h
  have h1 := nameOk_len n
  have h2 := showF_len (v := x.ver) w.ver.p3
  unfold itemB
  rw [List.length_append, List.length_append, textB_len4, textB_len4, w.sum]; omega
theorem putB_len4 : ∀ {xs : List Item}, (∀ x ∈ xs, itOk x) → (putB xs).length ≤ 8 + xs.length * 112 := by
  intro xs h
  unfold putB
  rw [List.length_append, numB_len]
  have : ((xs.map itemB).flatten).length ≤ xs.length * 112 := by
    induction xs with
    | nil => simp
    | cons x xs ih =>
      have h1 := itemB_len4 (h x (by simp))
      have h2 := ih fun y hy => h y (by simp [hy])
      rw [List.map_cons, List.flatten_cons, List.length_append, List.length_cons]; omega
  omega
theorem recB_len4 {a : RecA} (h : recOk a = true) (w : RecWf a) : (recB a).length ≤ 100000 ∧ a.bef.length ≤ 256 ∧ a.aft.length ≤ 256 := by
  unfold recOk at h
  simp only [Bool.and_eq_true] at h
  obtain ⟨⟨⟨_, h3⟩, h4⟩, _⟩ := h
  obtain ⟨l1, i1⟩ := itemsOk_spec h3 w.bef
  obtain ⟨l2, i2⟩ := itemsOk_spec h4 w.aft
  have p1 := putB_len4 i1
  have p2 := putB_len4 i2
  refine ⟨?_, l1, l2⟩
  unfold recB
  rw [List.length_append, List.length_append, List.length_append, List.length_append, numB_len, numB_len, w.r]
  omega
theorem Items.bound {P : Nat → Prop} {H : Heap} {v : Value} {xs : List Item} (h : Items P H v xs) : Items (fun b => P b ∧ b < H.size) H v xs := by
  obtain ⟨⟨hex, hel, hone⟩, hw⟩ := h
  obtain ⟨a, c, hve, hc, hx⟩ := hex
  exact ⟨⟨⟨a, c, hve, hc, hx.imp id fun ⟨b, o, e, hb, hpt⟩ => ⟨b, o, e, ⟨hb, hpt.lt⟩, hpt⟩⟩, hel, hone⟩, hw⟩

/-- bytes that came from anywhere -/
def BRow (H : Heap) (v : Value) (l : List UInt8) : Prop := Bs H v l ∧ ∃ a c, v = .slice a l.length c
theorem BRow.keep {H H' : Heap} {v : Value} {l : List UInt8} (h : BRow H v l) (k : Keep (fun _ => False) H H') : BRow H' v l := ⟨h.1.keep k fun _ _ => id, h.2⟩
theorem BRow.b2s {H : Heap} {v : Value} {l : List UInt8} (h : BRow H v l) : Go.X.b2s H v = some (str l) := by
  obtain ⟨a, c, rfl⟩ := h.2
  exact h.1.b2s fun s e => by cases e
theorem BRow.len {H : Heap} {v : Value} {l : List UInt8} (h : BRow H v l) : lenV v = some (.int .i64 l.length) := by
  obtain ⟨a, c, rfl⟩ := h.2; rfl
theorem _root_.Go.X.Sl.brow {P : Nat → Prop} {H : Heap} {v : Value} {l : List UInt8} (h : Sl P H v l) : BRow H v l := by
  obtain ⟨a, c, e, _⟩ := h.sl
  exact ⟨h.bs, a, c, e⟩

/-- what ParseRecord tells of the bytes l -/
def ParseRec (n0 : Nat) (l : List UInt8) (u : Value) (H' : Heap) : Prop :=
  (∃ (a : RecA) (vb va : Value), recOk a = true ∧ RecWf a ∧ recB a = l ∧ Items (fun b => n0 ≤ b ∧ b < H'.size) H' vb a.bef ∧ Items (fun b => n0 ≤ b ∧ b < H'.size) H' va a.aft ∧ u = .tuple #[.agg (recC a.k vb va a.s a.r).toArray, .int .i64 0]) ∨
  ((∀ a : RecA, recOk a = true → RecWf a → recB a ≠ l) ∧ u = .tuple #[.agg (recC 0 (.slice none 0 0) (.slice none 0 0) 0 zeroH).toArray, .int .i64 10])

end Go.Proofs.YtconalffokhplaaGreatDoor
/- the reference's bytes. -/
namespace Go.Proofs.YtconalffokhplaaGreatDoor
open Go.X Go.X.Diff
set_option maxRecDepth 100000

theorem zrow_one {v : Value} {n : Nat} : zrow #[v] n = (List.replicate n v).toArray := by
  apply Array.ext'
  unfold zrow
  simp only [Array.toList_map, Array.toList_range, List.toList_toArray]
  apply List.ext_getElem
  · simp
  · intro i h1 h2
    simp [Nat.mod_one]
theorem z_u8 : zcells prg T_uint8 = some #[.int .u8 0] := by kernel_rfl
theorem b_u8 : prg.bytesOf T_uint8 = 1 := by kernel_rfl
theorem bcells_rep {n : Nat} : bcells (List.replicate n 0) = List.replicate n (Value.int .u8 0) := by simp [bcells]

theorem _root_.Go.X.Buf.bound {F : Nat → Prop} {H : Heap} {v : Value} {l : List UInt8} (h : Buf F H v l) : Buf (fun b => F b ∧ b < H.size) H v l := by
  rcases h with h | ⟨b, o, c, cs, T, f, e, hf, hc, hb, hr⟩
  · exact .inl h
  · exact .inr ⟨b, o, c, cs, T, f, e, ⟨hf, lt_of hb⟩, hc, hb, hr⟩
theorem flat_take_le {ls : List (List UInt8)} {i : Nat} : ((ls.take i).flatten).length ≤ ls.flatten.length := by
  have := congrArg (fun l : List (List UInt8) => l.flatten.length) (List.take_append_drop i ls)
  simp only [List.flatten_append, List.length_append] at this
  omega
theorem sl_arr {h : Heap} {q : Nat} {l : List UInt8} (a : At h q (bcells l)) : Sl (· = q) h (.slice (some ⟨q, 0, none⟩) l.length l.length) l := by
  obtain ⟨T, hb⟩ := a
  exact ⟨Bs.mk hb rfl (by simp [bcells]) (by rw [List.drop_zero, List.take_of_length_le (by simp [bcells])]), ⟨_, _, rfl, Nat.le_refl _, fun x hx => by cases hx; rfl⟩, fun b hb => by obtain ⟨rfl, _⟩ := blk_slice hb; rfl⟩

theorem bsl3S {a b c : Option Addr} {n m o d e f : Nat} : bslV prg T_S_uint8 3 [(0, .slice a n d), (1, .slice b m e), (2, .slice c o f)] = some #[.slice a n d, .slice b m e, .slice c o f] := by kernel_rfl
end Go.Proofs.YtconalffokhplaaGreatDoor
