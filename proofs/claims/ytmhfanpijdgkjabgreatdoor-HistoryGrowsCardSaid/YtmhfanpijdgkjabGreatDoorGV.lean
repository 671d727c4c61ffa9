/- JOINED: P4 V70 V71 V72 V73 V74 -/
import Derived.Test.YtmhfanpijdgkjabGreatDoorGJ
import Derived.Test.YtmhfanpijdgkjabGreatDoorGU
import Derived.Test.YtmhfanpijdgkjabGreatDoorGR
import Derived.Test.YtmhfanpijdgkjabGreatDoorGO
set_option linter.unusedSimpArgs false
set_option linter.unusedVariables false
/- The plain law of records in bytes: two right records with the same bytes are one. -/
namespace Go.Proofs.YtmhfanpijdgkjabGreatDoor
open Go.X Go.X.Diff
set_option maxRecDepth 100000

def valB (l : List UInt8) : Nat := l.foldl (fun n c => n * 256 + c.toNat) 0
theorem valB_snoc {l : List UInt8} {c : UInt8} : valB (l ++ [c]) = valB l * 256 + c.toNat := by simp [valB]
theorem byteOf_nat {n s : Nat} : (byteOf (n : Int) s).toNat = n / 2 ^ s % 256 := by
  unfold byteOf
  rw [Int.fdiv_eq_ediv_of_nonneg _ (by exact Int.le_of_lt (Int.pow_pos (by decide)))]
  have e : ((n : Int) / 2 ^ s) % 256 = ((n / 2 ^ s % 256 : Nat) : Int) := by push_cast; rfl
  rw [e, Int.toNat_natCast, UInt8.toNat_ofNat']
  omega
theorem valB_numTo {n s : Nat} (hn : n < 256 ^ s) : ∀ {j : Nat}, j ≤ s → valB (numTo (n : Int) s j) = n / 256 ^ (s - j)
  | 0, _ => by
    rw [Nat.sub_zero, Nat.div_eq_of_lt hn]; rfl
  | j + 1, hj => by
    rw [numTo_succ, valB_snoc, valB_numTo hn (by omega), byteOf_nat]
    have e : (2 : Nat) ^ (8 * (s - 1 - j)) = 256 ^ (s - (j + 1)) := by rw [Nat.pow_mul, show s - 1 - j = s - (j + 1) by omega]
    rw [e, show s - j = (s - (j + 1)) + 1 by omega, Nat.pow_succ, ← Nat.div_div_eq_div_mul]
    omega
theorem valB_num {n s : Nat} (hn : n < 256 ^ s) : valB (numB (n : Int) s) = n := by
  have := valB_numTo hn (Nat.le_refl s)
  rw [Nat.sub_self, Nat.pow_zero, Nat.div_one] at this
  exact this
theorem num_inj {n m s : Nat} (hn : n < 256 ^ s) (hm : m < 256 ^ s) (h : numB (n : Int) s = numB (m : Int) s) : n = m := by
  have := congrArg valB h
  rwa [valB_num hn, valB_num hm] at this
theorem num_app {n m s : Nat} {X Y : List UInt8} (hn : n < 256 ^ s) (hm : m < 256 ^ s) (h : numB (n : Int) s ++ X = numB (m : Int) s ++ Y) : n = m ∧ X = Y := by
  obtain ⟨h1, h2⟩ := List.append_inj h (by rw [numB_len, numB_len])
  exact ⟨num_inj hn hm h1, h2⟩
theorem text_app {a b X Y : List UInt8} (ha : a.length < 4294967296) (hb : b.length < 4294967296) (h : textB a ++ X = textB b ++ Y) : a = b ∧ X = Y := by
  unfold textB at h
  rw [List.append_assoc, List.append_assoc] at h
  obtain ⟨h1, h2⟩ := num_app ha hb h
  exact List.append_inj h2 h1
theorem nameOk_len {l : List UInt8} (h : nameOk l = true) : l.length ≤ 32 := by
  unfold nameOk at h; simp only [Bool.and_eq_true, decide_eq_true_eq] at h; exact h.1.1.2
/-- an item that may stand in a right record -/
def itOk (x : Item) : Prop := x.wf ∧ nameOk x.name = true ∧ verOk x.ver = true
theorem item_app {x y : Item} {X Y : List UInt8} (hx : itOk x) (hy : itOk y) (h : itemB x ++ X = itemB y ++ Y) : x = y ∧ X = Y := by
  obtain ⟨x1, x2, x3⟩ := hx
  obtain ⟨y1, y2, y3⟩ := hy
  have a1 := nameOk_len x2
  have a2 := nameOk_len y2
  have b1 := showF_len (v := x.ver) x1.ver.p3
  have b2 := showF_len (v := y.ver) y1.ver.p3
  unfold itemB at h
  rw [List.append_assoc, List.append_assoc, List.append_assoc, List.append_assoc] at h
  obtain ⟨e1, h⟩ := text_app (by omega) (by omega) h
  obtain ⟨e2, h⟩ := text_app (by omega) (by omega) h
  obtain ⟨e3, h⟩ := List.append_inj h (by rw [x1.sum, y1.sum])
  have e2 := show_inj x1.ver.p3 y1.ver.p3 x3 y3 e2
  refine ⟨?_, h⟩
  cases x; cases y; simp only at e1 e2 e3; rw [e1, e2, e3]
theorem items_app {X Y : List UInt8} : ∀ {xs ys : List Item}, xs.length = ys.length → (∀ x ∈ xs, itOk x) → (∀ y ∈ ys, itOk y) → (xs.map itemB).flatten ++ X = (ys.map itemB).flatten ++ Y → xs = ys ∧ X = Y
  | [], [], _, _, _, h => ⟨rfl, h⟩
  | x :: xs, y :: ys, hl, hx, hy, h => by
    simp only [List.map_cons, List.flatten_cons, List.append_assoc] at h
    obtain ⟨e1, h1⟩ := item_app (hx x (by simp)) (hy y (by simp)) h
    obtain ⟨e2, h2⟩ := items_app (by simpa using hl) (fun z hz => hx z (by simp [hz])) (fun z hz => hy z (by simp [hz])) h1
    exact ⟨by rw [e1, e2], h2⟩
theorem put_app {xs ys : List Item} {X Y : List UInt8} (hlx : xs.length ≤ 256) (hly : ys.length ≤ 256) (hx : ∀ x ∈ xs, itOk x) (hy : ∀ y ∈ ys, itOk y) (h : putB xs ++ X = putB ys ++ Y) : xs = ys ∧ X = Y := by
  unfold putB at h
  rw [List.append_assoc, List.append_assoc] at h
  obtain ⟨e, h⟩ := num_app (s := 8) (by omega) (by omega) h
  exact items_app e hx hy h
theorem itemsOk_spec {xs : List Item} (h : itemsOk xs = true) (hw : ∀ x ∈ xs, x.wf) : xs.length ≤ 256 ∧ ∀ x ∈ xs, itOk x := by
  unfold itemsOk at h
  simp only [Bool.and_eq_true, decide_eq_true_eq, List.all_eq_true] at h
  refine ⟨h.2, fun x hx => ?_⟩
  obtain ⟨i, hi⟩ := List.getElem?_of_mem hx
  have := h.1 i (by have := (List.getElem?_eq_some_iff.1 hi).1; simpa using this)
  unfold itemAt at this
  rw [hi] at this
  simp only [Bool.and_eq_true] at this
  exact ⟨hw x hx, this.1.1, this.1.2⟩
theorem recB_inj {a b : RecA} (ha : recOk a = true) (hb : recOk b = true) (wa : (∀ x ∈ a.bef, x.wf) ∧ (∀ x ∈ a.aft, x.wf) ∧ a.r.length = 32) (wb : (∀ x ∈ b.bef, x.wf) ∧ (∀ x ∈ b.aft, x.wf) ∧ b.r.length = 32) (h : recB a = recB b) : a = b := by
  unfold recOk headOk at ha hb
  simp only [Bool.and_eq_true, decide_eq_true_eq] at ha hb
  obtain ⟨⟨⟨⟨a1, a2⟩, a3⟩, a4⟩, a5, a6⟩ := ha
  obtain ⟨⟨⟨⟨b1, b2⟩, b3⟩, b4⟩, b5, b6⟩ := hb
  obtain ⟨l1, i1⟩ := itemsOk_spec a3 wa.1
  obtain ⟨l2, i2⟩ := itemsOk_spec a4 wa.2.1
  obtain ⟨l3, i3⟩ := itemsOk_spec b3 wb.1
  obtain ⟨l4, i4⟩ := itemsOk_spec b4 wb.2.1
  unfold recB at h
  simp only [List.append_assoc] at h
  rw [show a.k = ((a.k.toNat : Nat) : Int) by omega, show b.k = ((b.k.toNat : Nat) : Int) by omega, show a.s = ((a.s.toNat : Nat) : Int) by omega, show b.s = ((b.s.toNat : Nat) : Int) by omega] at h
  obtain ⟨e1, h1⟩ := num_app (s := 8) (by omega) (by omega) h
  obtain ⟨e2, h2⟩ := put_app l1 l3 i1 i3 h1
  obtain ⟨e3, h3⟩ := put_app l2 l4 i2 i4 h2
  obtain ⟨e4, h4⟩ := num_app (s := 8) (by omega) (by omega) h3
  clear h h1 h2 h3 i1 i2 i3 i4
  obtain ⟨k, bf, af, s, r⟩ := a
  obtain ⟨k', bf', af', s', r'⟩ := b
  simp only at *
  subst e2 e3 h4
  congr 1 <;> omega
theorem valB_lt : ∀ (l : List UInt8), valB l < 256 ^ l.length := by
  intro l
  induction h : l.length generalizing l with
  | zero => obtain rfl := List.length_eq_zero_iff.1 h; decide
  | succ n ih =>
    obtain ⟨m, c, rfl⟩ : ∃ m c, l = m ++ [c] := ⟨l.dropLast, l.getLast (by rintro rfl; simp at h), (List.dropLast_concat_getLast _).symm⟩
    have hm := ih m (by simpa using h)
    have hc := c.toNat_lt
    rw [valB_snoc, Nat.pow_succ]
    omega
end Go.Proofs.YtmhfanpijdgkjabGreatDoor
/- wire: what the readers do. -/
namespace Go.Proofs.YtmhfanpijdgkjabGreatDoor
open Go.X
set_option maxRecDepth 100000

theorem bld_In {v : Value} {a : Option Addr} {n c : Nat} (h : v = .slice a n c) : buildV prg T_wire_In [(0, v)] = some (.agg #[v, .bool false]) := by subst h; kernel_rfl

/- THE READER -/
abbrev RS := List UInt8 × Bool
/-- the reader at block p holds s; its bytes lie in blocks of P -/
def InAt (P : Nat → Prop) (p : Nat) (H : Heap) (s : RS) : Prop :=
  (¬ P p ∧ ∀ b, P b → b < H.size) ∧ ∃ v, H[p]? = some (.cells #[v, .bool s.2] T_wire_In (0, 0)) ∧ Sl P H v s.1
theorem InAt.keep {P S : Nat → Prop} {p : Nat} {H H' : Heap} {s : RS} (h : InAt P p H s) (k : Keep S H H') (hp : ¬ S p) (hs : ∀ b, P b → ¬ S b) : InAt P p H' s := by
  obtain ⟨h1, v, h2, h3⟩ := h
  exact ⟨⟨h1.1, fun b hb => Nat.lt_of_lt_of_le (h1.2 b hb) k.1⟩, v, k.at h2 hp, h3.keep k hs⟩
theorem InAt.lt {P : Nat → Prop} {p : Nat} {H : Heap} {s : RS} (h : InAt P p H s) : p < H.size := by
  obtain ⟨h1, v, h2, h3⟩ := h; exact lt_of h2

def tkB (n : Nat) (s : RS) : Bool := s.2 || decide (s.1.length < n)
def tkO (n : Nat) (s : RS) : List UInt8 := if tkB n s then [] else s.1.take n
def tkS (n : Nat) (s : RS) : RS := (if tkB n s then s.1 else s.1.drop n, tkB n s)

theorem c_NewIn {H : Heap} {a : Option Addr} {n c : Nat} {l : List UInt8} (h : Bs H (.slice a n c) l) (hl : l.length ≤ 140737488355328) :
    HCalls prg f_wire_NewIn [.slice a n c] H fun u H' => ∃ P p, u = Ptr p 0 ∧ InAt P p H' (l, false) ∧ H.size ≤ p ∧ (∀ b, P b → H.size ≤ b) ∧ Keep (H.size ≤ ·) H H' := by
  apply sh_wire_NewIn_calls
  unfold sh_wire_NewIn
  refine call_i (c_Clone (F := (H.size ≤ ·)) h hl fun b h => h) ?_
  rintro u h1 ⟨ho, hk⟩
  have hs := ho.sl
  obtain ⟨a0, c0, hv, _⟩ := hs.sl
  simp only [bld_In hv, Mpu_some, Mnew_some, Cells_agg]
  refine ⟨fun b => H.size ≤ b ∧ b < h1.size, h1.size, rfl, ⟨⟨fun h => Nat.lt_irrefl _ h.2, fun b h => by simp; omega⟩, u, push_new, ?_⟩, hk.1, fun b h => h.1, hk.trans Keep.push⟩
  refine Sl.keep (S := fun _ => False) ⟨hs.bs, hs.sl, fun b hb => ⟨hs.own b hb, ?_⟩⟩ Keep.push fun _ _ h => h
  rcases ho with ⟨rfl, _⟩ | ⟨b', o, c, cs, T, f, rfl, hp, hc, hb', _⟩
  · cases hb
  · cases hb; exact lt_of hb'

theorem c_take {P : Nat → Prop} {p : Nat} {H : Heap} {s : RS} (h : InAt P p H s) (n : Nat) :
    HCalls prg f_wire_In_take [Ptr p 0, .int .i64 n] H fun u H' => Sl P H' u (tkO n s) ∧ InAt P p H' (tkS n s) ∧ Keep (· = p) H H' := by
  apply sh_wire_In_take_calls
  unfold sh_wire_In_take
  obtain ⟨l, bad⟩ := s
  obtain ⟨⟨hnp, hP⟩, v, hp, hs⟩ := h
  simp only [nck_ptr, fld_ptr, Mpu_some, ld1_at hp, Nat.zero_add, List.getElem?_toArray, List.getElem?_cons_succ, List.getElem?_cons_zero, Mif_bool, hs.len, binV_int, intV, J1_eq]
  have fin : tkB n (l, bad) = true → (Mwr (st1 H (Ptr p 1) (.bool true)) fun h3 => Sl P h3 (.slice none 0 0) (tkO n (l, bad)) ∧ InAt P p h3 (tkS n (l, bad)) ∧ Keep (· = p) H h3) := fun hb => by
    rw [st1_at hp 1 _ (by simp) rfl, Mwr_some]
    refine ⟨?_, ⟨⟨hnp, by simpa using hP⟩, v, ?_, ?_⟩, Keep.set rfl⟩
    · rw [tkO, if_pos hb]; exact Sl.nil
    · rw [set_self hp]; simp [tkS, hb]
    · rw [tkS, if_pos hb]; exact hs.keep (Keep.set (S := (· = p)) rfl) fun b hb e => hnp (e ▸ hb)
  cases bad with
  | true => simpa using fin rfl
  | false =>
    simp only [if_true, pickV_bool, Bool.false_eq_true, if_false, Mpu_some, Mcd_bool]
    by_cases hn : l.length < n
    · rw [if_pos (by simpa using hn)]; exact fin (by simp [tkB, hn])
    · rw [if_neg (by simpa using hn)]
      have hn' : n ≤ l.length := by omega
      obtain ⟨u, hu, hu'⟩ := hs.head hn'
      obtain ⟨x, hx, hx'⟩ := hs.tail hn'
      have hb : tkB n (l, false) = false := by simp [tkB, hn]
      simp only [hu, hx, Mpu_some, st1_at hp 0 x (by simp) hx'.one, Mwr_some]
      refine ⟨?_, ⟨⟨hnp, by simpa using hP⟩, x, ?_, ?_⟩, Keep.set rfl⟩
      · rw [tkO, hb]; exact hu'.keep (Keep.set (S := (· = p)) rfl) fun b hb e => hnp (e ▸ hb)
      · rw [set_self hp]; simp [tkS, hb]
      · rw [tkS, hb]; exact hx'.keep (Keep.set (S := (· = p)) rfl) fun b hb e => hnp (e ▸ hb)

/- numbers -/
def num (l : List UInt8) : Nat := l.foldl (fun a b => (a * 256 + b.toNat) % 18446744073709551616) 0

theorem wrap_u64m {n : Int} (h : 0 ≤ n) : IntKind.u64.wrap n = n % 18446744073709551616 := by
  simp only [IntKind.wrap, IntKind.bits, IntKind.signed]; simp

theorem or_lo (a b : Nat) (hb : b < 256) : IntKind.u64.wrap ((BitVec.ofInt 64 (IntKind.u64.wrap ((a : Int) * 256)) ||| BitVec.ofInt 64 (b : Int)).toNat : Int) = (((a * 256 + b) % 18446744073709551616 : Nat) : Int) := by
  rw [wrap_u64m (n := (a : Int) * 256) (by omega)]
  have h1 : (a : Int) * 256 % 18446744073709551616 = ((a % 72057594037927936 * 256 : Nat) : Int) := by omega
  rw [h1, BitVec.ofInt_natCast, BitVec.ofInt_natCast, BitVec.toNat_or, BitVec.toNat_ofNat, BitVec.toNat_ofNat]
  rw [Nat.mod_eq_of_lt (by omega), Nat.mod_eq_of_lt (a := b) (by omega)]
  have h2 := Nat.shiftLeft_add_eq_or_of_lt (i := 8) hb (a % 72057594037927936)
  rw [Nat.shiftLeft_eq] at h2
  rw [wrap_u64m (by omega)]
  have h3 : a % 72057594037927936 * 256 ||| b = a % 72057594037927936 * 2 ^ 8 + b := h2.symm
  rw [h3]; omega

theorem num_snoc {l : List UInt8} {b : UInt8} : num (l ++ [b]) = (num l * 256 + b.toNat) % 18446744073709551616 := by simp [num]
theorem num_nil : num [] = 0 := rfl
theorem take_succ {l : List UInt8} {i : Nat} (h : i < l.length) : l.take (i + 1) = l.take i ++ [l[i]] := by simp

theorem c_number {P : Nat → Prop} {H : Heap} {v : Value} {l : List UInt8} (h : Sl P H v l) (hl : l.length ≤ 140737488355328) :
    HCalls prg f_wire_number [v] H fun u H' => u = .int .i64 (IntKind.i64.wrap (num l)) ∧ H' = H := by
  apply sh_wire_number_calls
  unfold sh_wire_number
  simp only [J2_eq, h.len, Mpu_some]
  refine L2_i (fun a u h' => ∃ i, i ≤ l.length ∧ a = .int .u64 (num (l.take i)) ∧ u = .int .i64 (i : Nat) ∧ h' = H) (fun _ u _ => match u with | .int _ i => l.length - i.toNat | _ => 0) ⟨0, Nat.zero_le _, rfl, rfl, rfl⟩ ?_
  rintro _ _ _ ⟨i, hi, rfl, rfl, rfl⟩ k hk
  simp only [binV_int, intV, Mpu_some, Mcd_bool, decide_eq_true_eq]
  by_cases hlt : (i : Int) < l.length
  · rw [if_pos hlt]
    have hlt' : i < l.length := by omega
    obtain ⟨u, hu, hu', _⟩ := h.at (i := i) (x := l[i]) (by simp [hlt'])
    have hb := l[i].toNat_lt
    simp only [hu, Mpu_some, hu', binV_shl, intV, cvI_int, binV_int]
    rw [if_neg (by decide)]
    simp only [Mpu_some, binV_int, intV]
    have hw : IntKind.i64.wrap (i + 1) = (i + 1 : Nat) := by rw [wrap_id] <;> omega
    have e1 : (2 : Int) ^ (min (Int.toNat 8) 64) = 256 := by decide
    have e2 : IntKind.u64.wrap (l[i].toNat : Int) = l[i].toNat := by rw [wrap_u64m (by omega)]; omega
    simp only [e2, Mpu_some, hw, show IntKind.u64.bits = 64 from rfl]
    simp only [e1]
    erw [or_lo _ _ hb]
    refine hk _ _ _ ⟨i + 1, hlt', ?_, rfl, rfl⟩ ?_
    · rw [take_succ hlt', num_snoc]
    · show l.length - (i + 1) < l.length - i; omega
  · rw [if_neg hlt]
    have : i = l.length := by omega
    subst this
    simp only [cvI_int, Mpu_some, List.take_length]
    first | trivial | exact ⟨trivial, trivial⟩

/- the reader's steps -/
def rInt (s : RS) : Int := if tkB 8 s then 0 else IntKind.i64.wrap (num (s.1.take 8))

theorem InAt.bad {P : Nat → Prop} {p : Nat} {H : Heap} {s : RS} (h : InAt P p H s) : ld1 H (Ptr p 1) = some (.bool s.2) := by
  obtain ⟨_, v, hp, _⟩ := h
  rw [ld1_at hp]; rfl
theorem InAt.setBad {P : Nat → Prop} {p : Nat} {H : Heap} {s : RS} (h : InAt P p H s) (x : Bool) : ∃ H', st1 H (Ptr p 1) (.bool x) = some H' ∧ InAt P p H' (s.1, x) ∧ Keep (· = p) H H' := by
  obtain ⟨⟨hn, hP⟩, v, hp, hs⟩ := h
  refine ⟨_, st1_at hp 1 _ (by simp) rfl, ⟨⟨hn, by simpa using hP⟩, v, ?_, ?_⟩, Keep.set rfl⟩
  · rw [set_self hp]; simp
  · exact hs.keep (Keep.set (S := (· = p)) rfl) fun b hb e => hn (e ▸ hb)

theorem c_In_Int {P : Nat → Prop} {p : Nat} {H : Heap} {s : RS} (h : InAt P p H s) (hl : s.1.length ≤ 140737488355328) :
    HCalls prg f_wire_In_Int [Ptr p 0] H fun u H' => u = .int .i64 (rInt s) ∧ InAt P p H' (tkS 8 s) ∧ Keep (· = p) H H' := by
  apply sh_wire_In_Int_calls
  unfold sh_wire_In_Int
  refine call_i (c_take h 8) ?_
  rintro u h1 ⟨hu, hi, hk⟩
  simp only [nck_ptr, fld_ptr, Mpu_some, Nat.zero_add, hi.bad, Mcd_bool]
  have e : (tkS 8 s).2 = tkB 8 s := rfl
  rw [e]
  by_cases hb : tkB 8 s = true
  · rw [if_pos hb]
    exact ⟨by rw [rInt, if_pos hb], hi, hk⟩
  · rw [if_neg hb]
    refine call_i (c_number hu (by rw [tkO]; split <;> simp; omega)) ?_
    rintro v h2 ⟨rfl, rfl⟩
    exact ⟨by rw [rInt, if_neg hb, tkO, if_neg hb], hi, hk⟩

def rCount (lo hi : Int) (s : RS) : Int := if (tkS 8 s).2 || decide (rInt s < lo) || decide (rInt s > hi) then 0 else rInt s
def rCountS (lo hi : Int) (s : RS) : RS := ((tkS 8 s).1, (tkS 8 s).2 || decide (rInt s < lo) || decide (rInt s > hi))
theorem c_In_Count {P : Nat → Prop} {p : Nat} {H : Heap} {s : RS} (h : InAt P p H s) (hl : s.1.length ≤ 140737488355328) (lo hi : Int) :
    HCalls prg f_wire_In_Count [Ptr p 0, .int .i64 lo, .int .i64 hi] H fun u H' => u = .int .i64 (rCount lo hi s) ∧ InAt P p H' (rCountS lo hi s) ∧ Keep (· = p) H H' := by
  apply sh_wire_In_Count_calls
  unfold sh_wire_In_Count
  refine call_i (c_In_Int h hl) ?_
  rintro u h1 ⟨rfl, hi', hk⟩
  obtain ⟨h2, hst, hin, hk2⟩ := hi'.setBad true
  simp only [nck_ptr, fld_ptr, Mpu_some, Nat.zero_add, hi'.bad, Mcd_bool, J1_eq, Mif_bool, binV_int, intV]
  simp only [rCount, rCountS]
  generalize tkS 8 s = S at *
  obtain ⟨l2, b⟩ := S
  by_cases h3 : rInt s < lo <;> by_cases h4 : rInt s > hi <;> cases b <;>
    simp [h3, h4, hst] <;> first | exact ⟨by simpa [h3, h4] using hin, hk.trans hk2⟩ | exact ⟨by simpa [h3, h4] using hi', hk⟩

def rHash (s : RS) : List UInt8 := if tkB 32 s then zeroH else s.1.take 32
theorem rHash_len {s : RS} : (rHash s).length = 32 := by
  unfold rHash tkB
  split
  · rfl
  · rename_i h; simp at h; simp [h.2]

theorem c_In_Hash {P : Nat → Prop} {p : Nat} {H : Heap} {s : RS} (h : InAt P p H s) :
    HCalls prg f_wire_In_Hash [Ptr p 0] H fun u H' => u = bv (rHash s) ∧ InAt P p H' (tkS 32 s) ∧ Keep (· = p) H H' := by
  apply sh_wire_In_Hash_calls
  unfold sh_wire_In_Hash
  have hz : zeroH.length = 32 := rfl
  have hlt := h.lt
  have hP := h.1.2
  have e : ∀ q o, slA 32 1 (.pointer (some ⟨q, o, none⟩)) none none none = some (.slice (some ⟨q, o, none⟩) zeroH.length 32) := fun q o => rfl
  simp only [z_Hash, Mnew_some, e, Mpu_some]
  have k2 : Keep (fun _ => False) H ((H.push (.cells (bcells zeroH).toArray T_sha_Hash (0, 0))).push (.cells (bcells zeroH).toArray T_sha_Hash (0, 0))) := Keep.push.trans Keep.push
  refine call_i (c_take (h.keep k2 id fun _ _ => id) 32) ?_
  rintro u h3 ⟨hu, hi, hk⟩
  have hr : h3[H.size]? = some (.cells (bcells zeroH).toArray T_sha_Hash (0, 0)) := hk.at (push_old push_new) (by omega)
  have hq : h3[(H.push (.cells (bcells zeroH).toArray T_sha_Hash (0, 0))).size]? = some (.cells (bcells zeroH).toArray T_sha_Hash (0, 0)) := hk.at push_new (by simp; omega)
  generalize hqe : (H.push (.cells (bcells zeroH).toArray T_sha_Hash (0, 0))).size = q at *
  have hqr : H.size < q := by rw [← hqe]; simp
  have ho : (tkO 32 s).length ≤ zeroH.length := by rw [tkO, hz]; split <;> simp; omega
  refine copy_bytes hq hu.bs ho ?_
  have hw : tkO 32 s ++ zeroH.drop (tkO 32 s).length = rHash s := by
    unfold rHash tkO
    split
    · rfl
    · rename_i hb
      simp only [tkB, Bool.or_eq_true, decide_eq_true_eq, not_or] at hb
      have : (s.1.take 32).length = 32 := by simp; omega
      rw [this]; simp [zeroH]
  rw [hw, ldN_bytes (set_self hq) rHash_len, Mpu_some, stN_bytes (set_other hr (by omega)) hz rHash_len, Mwr_some, ldN_bytes (set_self (set_other hr (by omega))) rHash_len, Mpu_some]
  have k4 : Keep (fun b => b = q ∨ b = H.size) h3 ((h3.setIfInBounds q (.cells (bcells (rHash s)).toArray T_sha_Hash (0, 0))).setIfInBounds H.size (.cells (bcells (rHash s)).toArray T_sha_Hash (0, 0))) := (Keep.set (Or.inl rfl)).trans (Keep.set (Or.inr rfl))
  have hle := hk.1
  refine ⟨rfl, hi.keep k4 (by omega) fun b hb => ?_, ?_⟩
  · have := hP b hb; omega
  · refine ⟨Nat.le_trans k2.1 (Nat.le_trans hle k4.1), fun i hi' hn => ?_⟩
    rw [k4.2 i (by have := k2.1; omega) (by omega), hk.2 i (by have := k2.1; omega) hn, k2.2 i hi' id]

theorem c_In_Done {P : Nat → Prop} {p : Nat} {H : Heap} {s : RS} (h : InAt P p H s) :
    HCalls prg f_wire_In_Done [Ptr p 0] H fun u H' => u = .bool (!s.2 && s.1.isEmpty) ∧ H' = H := by
  apply sh_wire_In_Done_calls
  unfold sh_wire_In_Done
  obtain ⟨l, bad⟩ := s
  obtain ⟨_, v, hp, hs⟩ := h
  simp only [nck_ptr, fld_ptr, Mpu_some, ld1_at hp, Nat.zero_add, List.getElem?_toArray, List.getElem?_cons_succ, List.getElem?_cons_zero, Mif_bool, hs.len, binV_int, intV, J1_eq, unV_not]
  cases bad
  · simp
    cases l <;> simp <;> omega
  · simp

end Go.Proofs.YtmhfanpijdgkjabGreatDoor
/- wire: texts read. -/
namespace Go.Proofs.YtmhfanpijdgkjabGreatDoor
open Go.X
set_option maxRecDepth 100000

theorem num_val : ∀ (l : List UInt8), num l = valB l % 18446744073709551616 := by
  intro l
  induction h : l.length generalizing l with
  | zero => obtain rfl := List.length_eq_zero_iff.1 h; rfl
  | succ n ih =>
    obtain ⟨m, c, rfl⟩ : ∃ m c, l = m ++ [c] := ⟨l.dropLast, l.getLast (by rintro rfl; simp at h), (List.dropLast_concat_getLast _).symm⟩
    rw [valB_snoc, num_snoc, ih m (by simpa using h)]
    omega
theorem num_small {l : List UInt8} (h : l.length ≤ 4) : num l = valB l ∧ valB l < 4294967296 := by
  have h1 := valB_lt l
  have h2 : (256 : Nat) ^ l.length ≤ 256 ^ 4 := Nat.pow_le_pow_right (by decide) h
  rw [num_val]
  have : (256 : Nat) ^ 4 = 4294967296 := by decide
  omega

/-- how many bytes the text has -/
def rCnt (m : Nat) (s : RS) : Nat := if tkB 4 s then 0 else if m < valB (s.1.take 4) ∨ s.1.length - 4 < valB (s.1.take 4) then 0 else valB (s.1.take 4)
def rCntS (m : Nat) (s : RS) : RS := if tkB 4 s then tkS 4 s else if m < valB (s.1.take 4) ∨ s.1.length - 4 < valB (s.1.take 4) then (s.1.drop 4, true) else tkS 4 s
theorem c_In_count {P : Nat → Prop} {p : Nat} {H : Heap} {s : RS} (h : InAt P p H s) (hl : s.1.length ≤ 140737488355328) (m : Nat) :
    HCalls prg f_wire_In_count [Ptr p 0, .int .i64 (m : Nat), .int .i64 1] H fun u H' => u = .int .i64 (rCnt m s : Nat) ∧ InAt P p H' (rCntS m s) ∧ Keep (· = p) H H' := by
  apply sh_wire_In_count_calls
  unfold sh_wire_In_count
  refine call_i (c_take h 4) ?_
  rintro u h1 ⟨hu, hi, hk⟩
  simp only [nck_ptr, fld_ptr, Mpu_some, Nat.zero_add, hi.bad, Mcd_bool]
  have e : (tkS 4 s).2 = tkB 4 s := rfl
  rw [e]
  by_cases hb : tkB 4 s = true
  · rw [if_pos hb]
    exact ⟨by rw [rCnt, if_pos hb]; rfl, by rw [rCntS, if_pos hb]; exact hi, hk⟩
  · rw [if_neg hb]
    have ho : tkO 4 s = s.1.take 4 := by rw [tkO, if_neg hb]
    rw [ho] at hu
    have hb' : tkB 4 s = false := by simpa using hb
    have hs1 : (tkS 4 s).1 = s.1.drop 4 := by unfold tkS; rw [hb']; rfl
    have hs2 : (tkS 4 s).2 = false := hb'
    refine call_i (c_number hu (by simp; omega)) ?_
    rintro _ h2 ⟨rfl, rfl⟩
    obtain ⟨n1, n2⟩ := num_small (l := s.1.take 4) (by simp; omega)
    rw [n1, wrap_id (by omega) (by omega)]
    generalize hN : valB (s.1.take 4) = N at *
    have g1 : binV .no .gtr (.int .i64 (N : Nat)) (.int .i64 (m : Nat)) = some (.bool (decide (m < N))) := by
      rw [binV_int]; simp only [intV]; congr 2; rw [decide_eq_decide]; omega
    have fin : (m < N ∨ s.1.length - 4 < N) → Mpu (nck (Ptr p 0)) fun t32 => Mpu (fld 1 t32) fun t33 => Mwr (st1 h2 t33 (.bool true)) fun h5 =>
        Value.int .i64 0 = .int .i64 (rCnt m s : Nat) ∧ InAt P p h5 (rCntS m s) ∧ Keep (· = p) H h5 := by
      intro hbad
      obtain ⟨h5, hst, hin, hk5⟩ := hi.setBad true
      simp only [nck_ptr, fld_ptr, Mpu_some, Nat.zero_add, hst, Mwr_some]
      refine ⟨by rw [rCnt, if_neg hb, hN, if_pos hbad]; rfl, ?_, hk.trans hk5⟩
      rw [rCntS, if_neg hb, hN, if_pos hbad, ← hs1]; exact hin
    rw [g1, Mpu_some]
    refine J1_eq.2 ?_
    cases hm : decide (m < N)
    rotate_left
    · simp only [Mif_bool, Bool.true_eq_false, if_false, pickV_bool, if_true, Mpu_some, Mcd_bool]
      have := fin (.inl (of_decide_eq_true hm))
      simpa only [nck_ptr, fld_ptr, Mpu_some, Nat.zero_add] using this
    · obtain ⟨hP, v, hp, hs⟩ := hi
      have hld : ld1 h2 (Ptr p 0) = some v := by rw [ld1_at hp]; rfl
      have hq : binV .no .quo (.int .i64 ((tkS 4 s).1.length : Nat)) (.int .i64 1) = some (.int .i64 ((tkS 4 s).1.length : Nat)) := by
        have hle : (tkS 4 s).1.length ≤ s.1.length := by rw [hs1]; simp
        rw [binV_int]
        simp [intV, Int.tdiv_one]
        rw [wrap_id (by omega) (by omega)]
      have g2 : binV .no .gtr (.int .i64 (N : Nat)) (.int .i64 ((tkS 4 s).1.length : Nat)) = some (.bool (decide (s.1.length - 4 < N))) := by
        rw [binV_int, hs1]; simp only [intV, List.length_drop]; congr 2; rw [decide_eq_decide]; omega
      simp only [Mif_bool, if_true, nck_ptr, fld_ptr, Mpu_some, Nat.zero_add, hld, hs.len, hq, g2, pickV_bool, if_false, Bool.false_eq_true]
      cases hn : decide (s.1.length - 4 < N)
      · simp only [Mcd_bool, Bool.false_eq_true, if_false]
        have hno : ¬ (m < N ∨ s.1.length - 4 < N) := by
          have := of_decide_eq_false hm; have := of_decide_eq_false hn; omega
        refine ⟨by rw [rCnt, if_neg hb, hN, if_neg hno], ?_, hk⟩
        rw [rCntS, if_neg hb, hN, if_neg hno]
        exact ⟨hP, v, hp, hs⟩
      · simp only [Mcd_bool, if_true]
        have := fin (.inr (of_decide_eq_true hn))
        simpa only [nck_ptr, fld_ptr, Mpu_some, Nat.zero_add] using this

def rText (m : Nat) (s : RS) : List UInt8 := tkO (rCnt m s) (rCntS m s)
def rTextS (m : Nat) (s : RS) : RS := tkS (rCnt m s) (rCntS m s)
theorem tkS_len {n : Nat} {s : RS} : (tkS n s).1.length ≤ s.1.length := by
  unfold tkS
  simp only
  split
  · exact Nat.le_refl _
  · simp
theorem rCntS_len {m : Nat} {s : RS} : (rCntS m s).1.length ≤ s.1.length := by
  unfold rCntS
  split
  · exact tkS_len
  · split
    · simp
    · exact tkS_len
theorem rTextS_len {m : Nat} {s : RS} : (rTextS m s).1.length ≤ s.1.length := Nat.le_trans tkS_len rCntS_len
theorem rCnt_le {m : Nat} {s : RS} : rCnt m s ≤ m := by
  unfold rCnt
  split
  · exact Nat.zero_le _
  · split
    · exact Nat.zero_le _
    · rename_i h; omega
theorem rText_len {m : Nat} {s : RS} : (rText m s).length ≤ m := by
  unfold rText tkO
  split
  · simp
  · have := rCnt_le (m := m) (s := s); simp; omega
theorem c_In_Text {P : Nat → Prop} {p : Nat} {H : Heap} {s : RS} (h : InAt P p H s) (hl : s.1.length ≤ 140737488355328) (m : Nat) :
    HCalls prg f_wire_In_Text [Ptr p 0, .int .i64 (m : Nat)] H fun u H' => u = str (rText m s) ∧ InAt P p H' (rTextS m s) ∧ Keep (· = p) H H' := by
  apply sh_wire_In_Text_calls
  unfold sh_wire_In_Text
  have hB : HCalls prg f_wire_In_Bytes [Ptr p 0, .int .i64 (m : Nat)] H fun u H' => Sl P H' u (rText m s) ∧ InAt P p H' (rTextS m s) ∧ Keep (· = p) H H' := by
    apply sh_wire_In_Bytes_calls
    unfold sh_wire_In_Bytes
    refine call_i (c_In_count h hl m) ?_
    rintro _ h1 ⟨rfl, hi, hk⟩
    refine call_i (c_take hi (rCnt m s)) ?_
    rintro u h2 ⟨hu, hi2, hk2⟩
    exact ⟨hu, hi2, hk.trans hk2⟩
  refine call_i hB ?_
  rintro u h1 ⟨hu, hi, hk⟩
  rw [hu.b2s, Mpu_some]
  exact ⟨rfl, hi, hk⟩

/- what was written is read -/
theorem tk_app {n : Nat} {a r : List UInt8} (h : a.length = n) : tkB n (a ++ r, false) = false ∧ tkO n (a ++ r, false) = a ∧ tkS n (a ++ r, false) = (r, false) := by
  have hb : tkB n (a ++ r, false) = false := by
    unfold tkB; simp; omega
  refine ⟨hb, ?_, ?_⟩
  · rw [tkO, hb]; simp [← h]
  · rw [tkS, hb]; simp [← h]
theorem read_text {m : Nat} {a r : List UInt8} (h : a.length ≤ m) (hm : m < 4294967296) : rText m (textB a ++ r, false) = a ∧ rTextS m (textB a ++ r, false) = (r, false) := by
  unfold textB
  rw [List.append_assoc]
  obtain ⟨b1, b2, b3⟩ := tk_app (n := 4) (a := numB (a.length : Nat) 4) (r := a ++ r) numB_len
  have hv : valB ((numB (a.length : Nat) 4 ++ (a ++ r)).take 4) = a.length := by
    rw [List.take_left' numB_len, valB_num (by omega)]
  have hno : ¬ (m < a.length ∨ (numB (a.length : Nat) 4 ++ (a ++ r)).length - 4 < a.length) := by
    rw [List.length_append, numB_len, List.length_append]; omega
  have e1 : rCnt m (numB (a.length : Nat) 4 ++ (a ++ r), false) = a.length := by
    unfold rCnt; rw [b1]; simp only [hv, if_neg hno]; rfl
  have e2 : rCntS m (numB (a.length : Nat) 4 ++ (a ++ r), false) = (a ++ r, false) := by
    unfold rCntS; rw [b1]; simp only [hv, if_neg hno]; exact b3
  obtain ⟨c1, c2, c3⟩ := tk_app (n := a.length) (a := a) (r := r) rfl
  exact ⟨by rw [rText, e1, e2, c2], by rw [rTextS, e1, e2, c3]⟩
theorem read_hash {a r : List UInt8} (h : a.length = 32) : rHash (a ++ r, false) = a ∧ tkS 32 (a ++ r, false) = (r, false) := by
  obtain ⟨b1, b2, b3⟩ := tk_app (n := 32) (r := r) h
  refine ⟨?_, b3⟩
  rw [rHash, b1]
  simp only [Bool.false_eq_true, if_false]
  rw [← h]; exact List.take_left' rfl
theorem read_int {n : Nat} {r : List UInt8} (h : n < 9223372036854775808) : rInt (numB (n : Nat) 8 ++ r, false) = n ∧ tkS 8 (numB (n : Nat) 8 ++ r, false) = (r, false) := by
  obtain ⟨b1, b2, b3⟩ := tk_app (n := 8) (a := numB (n : Nat) 8) (r := r) numB_len
  refine ⟨?_, b3⟩
  rw [rInt, b1]
  simp only [Bool.false_eq_true, if_false]
  rw [List.take_left' numB_len, num_val, valB_num (by omega), Nat.mod_eq_of_lt (by omega), wrap_id (by omega) (by omega)]
theorem read_count {n : Nat} {r : List UInt8} (h : n ≤ 256) : rCount 0 256 (numB (n : Nat) 8 ++ r, false) = n ∧ rCountS 0 256 (numB (n : Nat) 8 ++ r, false) = (r, false) := by
  obtain ⟨e1, e2⟩ := read_int (n := n) (r := r) (by omega)
  have h1 : ¬ (n : Int) < 0 := by omega
  have h2 : ¬ (n : Int) > 256 := by omega
  refine ⟨?_, ?_⟩
  · rw [rCount, e1, e2]; simp; omega
  · rw [rCountS, e1, e2]; simp; omega
end Go.Proofs.YtmhfanpijdgkjabGreatDoor
/- history.get: the items of bytes. -/
namespace Go.Proofs.YtmhfanpijdgkjabGreatDoor
open Go.X Go.X.Diff
set_option maxRecDepth 100000

theorem z_Item0 : zcells prg T_history_Item = some (itemC ⟨[], zeroV, zeroH⟩).toArray := by kernel_rfl
theorem k_Item : structK prg T_history_Item = some ([(0, 1), (1, 4), (5, 32)], (itemC ⟨[], zeroV, zeroH⟩).toArray) := by kernel_rfl
theorem b_Item0 {t : List UInt8} : buildV prg T_history_Item [(0, str t)] = some (.agg (itemC ⟨t, zeroV, zeroH⟩).toArray) := by rw [buildV_of k_Item]; rfl
theorem verC_inj {v w : Ver} (hv : v.wf) (hw : w.wf) (h : verC v = verC w) : v = w := by
  have h1 := eqC_Ver hv hv
  have h2 := eqC_Ver hv hw
  rw [← h, h1] at h2
  simpa using h2
theorem At.mid {h : Heap} {q n o : Nat} {A B C B' : List Value} (a : At h q (A ++ B ++ C)) (ho : A.length = o) (hB : B.length = n) (hB' : B'.length = n) (h1 : ∀ c ∈ B', c.oneCell' = true) :
    ∃ h', stN n h (Ptr q o) (.agg B'.toArray) = some h' ∧ At h' q (A ++ B' ++ C) ∧ Keep (· = q) h h' := by
  obtain ⟨T, a⟩ := a
  have := stN_mid (n := n) (o := o) (A := A) (B := B) (C := C) (B' := B') a ho.symm hB.symm hB' (all_of h1)
  exact ⟨_, this, ⟨T, set_self a⟩, Keep.set rfl⟩
theorem rCount_rng {s : RS} : 0 ≤ rCount 0 256 s ∧ rCount 0 256 s ≤ 256 := by
  unfold rCount
  split
  · omega
  · rename_i h
    simp only [Bool.or_eq_true, decide_eq_true_eq, not_or] at h
    omega
theorem rCountS_len {s : RS} : (rCountS 0 256 s).1.length ≤ s.1.length := tkS_len

theorem bcells_one {l : List UInt8} : ∀ c ∈ bcells l, c.oneCell' = true := by
  intro c hc
  simp only [bcells, List.mem_map] at hc
  obtain ⟨x, _, rfl⟩ := hc; rfl
theorem c_get {P : Nat → Prop} {p : Nat} {H : Heap} {s : RS} (h : InAt P p H s) (hl : s.1.length ≤ 140737488355328) (hE : ErrT H) (hT : PowT H) (hp : NG ≤ p) :
    HCalls prg f_history_get [Ptr p 0] H fun u H' => ∃ (xs : List Item) (s' : RS), Items (H.size ≤ ·) H' u xs ∧ InAt P p H' s' ∧ xs.length ≤ 256 ∧ s'.1.length ≤ s.1.length ∧
      (∀ (ys : List Item) (rest : List UInt8), ys.length ≤ 256 → (∀ y ∈ ys, itOk y) → s = (putB ys ++ rest, false) → xs = ys ∧ s' = (rest, false)) ∧ Keep (· = p) H H' := by
  apply sh_history_get_calls
  unfold sh_history_get
  obtain ⟨c, hc⟩ : ∃ c : Nat, rCount 0 256 s = (c : Int) := ⟨(rCount 0 256 s).toNat, by have := rCount_rng (s := s); omega⟩
  have hc256 : c ≤ 256 := by have := (rCount_rng (s := s)).2; omega
  have hplt := h.lt
  refine J2_i (fun t3 _ h' => ∃ (xs : List Item) (s' : RS), Items (H.size ≤ ·) h' t3 xs ∧ InAt P p h' s' ∧ xs.length ≤ 256 ∧ s'.1.length ≤ s.1.length ∧
      (∀ (ys : List Item) (rest : List UInt8), ys.length ≤ 256 → (∀ y ∈ ys, itOk y) → s = (putB ys ++ rest, false) → xs = ys ∧ s' = (rest, false)) ∧ Keep (· = p) H h') (fun k1 hk1 => ?_) ?_
  · refine call_i (c_In_Count h hl 0 256) ?_
    rintro _ h3 ⟨rfl, hi3, hk3⟩
    rw [hc]
    have hs1l := rCountS_len (s := s)
    generalize hs1e : rCountS 0 256 s = s1 at *
    refine L2_i (fun t3 t7 h' => ∃ (i : Nat) (xs : List Item) (si : RS), t7 = .int .i64 (i : Nat) ∧ i ≤ c ∧ xs.length = i ∧ BufE 37 (H.size ≤ ·) h' t3 (xs.map itemC) ∧ (∀ x ∈ xs, x.wf) ∧ InAt P p h' si ∧ si.1.length ≤ s.1.length ∧
        (∀ (ys : List Item) (rest : List UInt8), ys.length = c → (∀ y ∈ ys, itOk y) → s1 = ((ys.map itemB).flatten ++ rest, false) → xs = ys.take i ∧ si = (((ys.drop i).map itemB).flatten ++ rest, false)) ∧ Keep (· = p) H h')
      (fun _ u _ => match u with | .int _ t => c - t.toNat | _ => 0) ⟨0, [], s1, rfl, Nat.zero_le _, rfl, BufE.nil, fun x hx => (by cases hx), hi3, hs1l, fun ys rest _ _ e => ⟨rfl, e⟩, hk3⟩ ?_
    rintro t3 _ h5 ⟨i, xs, si, rfl, hic, hxl, hbuf, hxw, hin, hsl, hpost, kh⟩ k hk
    have elt : binV .no .lss (.int .i64 (i : Nat)) (.int .i64 (c : Nat)) = some (.bool (decide (i < c))) := by
      rw [binV_int]; simp only [intV]; congr 2; rw [decide_eq_decide]; omega
    rw [elt, Mpu_some, Mcd_bool]
    by_cases hlt : i < c
    · rw [if_pos (by simpa using hlt)]
      refine call_i (c_In_Text hin (by omega) 64) ?_
      rintro _ h6 ⟨rfl, hi6, hk6⟩
      rw [b_Item0, Mpu_some, z_Item0, Mnew_some]
      generalize ht1 : rText 64 si = t1
      have ht1l : t1.length ≤ 64 := by rw [← ht1]; exact rText_len
      have hs2l := rTextS_len (m := 64) (s := si)
      generalize hs2 : rTextS 64 si = s2 at hi6 hs2l
      generalize hH7 : h6.push (.cells (itemC ⟨[], zeroV, zeroH⟩).toArray T_history_Item (0, 0)) = h7
      have k7 : Keep (fun _ => False) h6 h7 := by rw [← hH7]; exact Keep.push
      have q7 : At h7 h6.size (itemC ⟨[], zeroV, zeroH⟩) := by rw [← hH7]; exact At.push
      have hz0 : ∀ t : List UInt8, (itemC ⟨t, zeroV, zeroH⟩).length = 37 := fun t => rfl
      obtain ⟨h8, st8, q8, k8⟩ := q7.st (n := 37) (ds := itemC ⟨t1, zeroV, zeroH⟩) (hz0 _) (hz0 _) itemC_one
      rw [show (Value.pointer (some ⟨h6.size, 0, none⟩)) = Ptr h6.size 0 from rfl, st8, Mwr_some]
      have k68 : Keep (fun _ => False) h6 h8 := k7.fresh k8 fun b hb => by omega
      have hi8 := hi6.keep k68 id fun _ _ => id
      refine call_i (c_In_Text hi8 (by omega) 64) ?_
      rintro _ h9 ⟨rfl, hi9, hk9⟩
      have hp6 := hi6.lt
      have q9 := q8.keep hk9 (show ¬ h6.size = p by omega)
      generalize ht2 : rText 64 s2 = t2
      have ht2l : t2.length ≤ 64 := by rw [← ht2]; exact rText_len
      have hs3l := rTextS_len (m := 64) (s := s2)
      generalize hs3 : rTextS 64 s2 = s3 at hi9 hs3l
      have kH6 := kh.trans hk6
      have kH9 : Keep (· = p) H h9 := (kH6.trans (k68.mono fun _ _ h => h.elim)).trans hk9
      refine call_i (c_Parse (hE.keep kH9 fun b hb => by omega) (hT.keep kH9 fun b hb => by omega) (by omega)) ?_
      rintro u15 h10 ⟨hR, k10⟩
      obtain ⟨v, e, hu15, hvw⟩ : ∃ v e, u15 = .tuple #[.agg (verC v).toArray, e] ∧ v.wf := by
        rcases hR with ⟨v, hv, _, _, rfl⟩ | ⟨_, rfl⟩
        · exact ⟨v, _, rfl, hv⟩
        · exact ⟨zeroV, _, rfl, zeroV_wf⟩
      have ev0 : extV 0 u15 = some (.agg (verC v).toArray) := by rw [hu15]; rfl
      have ev1 : extV 1 u15 = some e := by rw [hu15]; rfl
      have q10 := q9.keep k10 id
      have hi10 := hi9.keep k10 id fun _ _ => id
      obtain ⟨h11, st11, q11, k11⟩ := At.mid (n := 4) (o := 1) (A := [str t1]) (B := verC zeroV) (C := bcells zeroH) (B' := verC v) (by exact q10) rfl rfl (verC_len hvw) verC_one
      have q6lt : h6.size ≥ H.size := kH6.1
      simp only [ev0, ev1, Mpu_some, fld_ptr, Nat.zero_add, st11, Mwr_some]
      have hi11 := hi10.keep k11 (show ¬ p = h6.size by omega) fun b hb => by have := h.1.2 b hb; omega
      refine call_i (c_In_Hash hi11) ?_
      rintro _ h12 ⟨rfl, hi12, hk12⟩
      have q12 := q11.keep hk12 (show ¬ h6.size = p by omega)
      have hs4l := tkS_len (n := 32) (s := s3)
      generalize hs4 : tkS 32 s3 = s4 at hi12 hs4l
      generalize hrh : rHash s3 = rh
      have hrhl : rh.length = 32 := by rw [← hrh]; exact rHash_len
      obtain ⟨h13, st13, q13, k13⟩ := At.mid (n := 32) (o := 5) (A := [str t1] ++ verC v) (B := bcells zeroH) (C := []) (B' := bcells rh) (by rw [List.append_nil]; exact q12) (by simp [verC_len hvw]) rfl (by simp [bcells, hrhl]) bcells_one
      rw [List.append_nil] at q13
      have q13 : At h13 h6.size (itemC ⟨t1, v, rh⟩) := q13
      have hxw' : (⟨t1, v, rh⟩ : Item).wf := ⟨hvw, hrhl, by show t1.length ≤ _; omega⟩
      have ld13 := q13.ldN (n := 37) (itemC_len hxw')
      have hbone : bslV prg T_history_Item 1 [(0, .agg (itemC ⟨t1, v, rh⟩).toArray)] = some (itemC ⟨t1, v, rh⟩).toArray := bsl_one c_Item (by omega) (by omega) z_Item0 rfl (by simp [itemC_len hxw'])
      have hbv : (bv rh) = .agg (bcells rh).toArray := rfl
      simp only [hbv, st13, Mwr_some, ld13, Mpu_some, hbone, Mnews_some]
      have hi13 := hi12.keep k13 (show ¬ p = h6.size by omega) fun b hb => by have := h.1.2 b hb; omega
      generalize hH14 : h13.push (.cells (itemC ⟨t1, v, rh⟩).toArray T_history_Item (0, 0)) = h14
      have k14 : Keep (fun _ => False) h13 h14 := by rw [← hH14]; exact Keep.push
      have q14 : h14[h13.size]? = some (.cells (itemC ⟨t1, v, rh⟩).toArray T_history_Item (0, 0)) := by rw [← hH14]; exact push_new
      have k511 : Keep (fun b => b = p ∨ b = h6.size) h5 h14 :=
        (((((((hk6.mono fun _ _ h => .inl h).trans (k68.mono fun _ _ h => h.elim)).trans (hk9.mono fun _ _ h => .inl h)).trans (k10.mono fun _ _ h => h.elim)).trans (k11.mono fun _ _ h => .inr h)).trans (hk12.mono fun _ _ h => .inl h)).trans (k13.mono fun _ _ h => .inr h)).trans (k14.mono fun _ _ h => h.elim)
      have h5le : h5.size ≤ h6.size := hk6.1
      have hbuf14 : BufE 37 (H.size ≤ ·) h14 t3 (xs.map itemC) := by
        obtain ⟨g1, g2, g3⟩ := hbuf
        refine ⟨g1, g2, ?_⟩
        rcases g3 with g3 | ⟨b', o', c', cs, T, f, e1, hf, hc', hb, hr⟩
        · exact .inl g3
        · exact .inr ⟨b', o', c', cs, T, f, e1, hf, hc', k511.at hb (by have := lt_of hb; omega), hr⟩
      have hi14 := hi13.keep k14 id fun _ _ => id
      have kH14 : Keep (· = p) H h14 := by
        refine ⟨Nat.le_trans kh.1 k511.1, fun j hj hjp => ?_⟩
        rw [k511.2 j (by have := kh.1; omega) (by omega), kh.2 j hj hjp]
      have hsl1 : SlE 37 (fun _ => True) h14 (.slice (some ⟨h13.size, 0, none⟩) 1 1) ([⟨t1, v, rh⟩].map itemC) :=
        ⟨⟨_, 1, rfl, Nat.le_refl _, .inr ⟨h13.size, 0, rfl, trivial, by simp only [List.map_cons, List.map_nil, List.flatten_cons, List.flatten_nil, List.append_nil]; exact Pt.of q14⟩⟩, fun x hx => by simp at hx; subst hx; exact itemC_len hxw', fun x hx => by simp at hx; subst hx; exact itemC_one⟩
      refine BufE.app (F := (H.size ≤ ·)) hbuf14 hsl1 (by omega) (by simp; omega) kH14.1 fun u25 h15 hb15 k15 => ?_
      rw [add_one' (by omega), Mpu_some]
      rw [← List.map_append] at hb15
      refine hk _ _ _ ⟨i + 1, xs ++ [⟨t1, v, rh⟩], s4, rfl, hlt, by simp [hxl], hb15, ?_, hi14.keep k15 (by omega) (fun b hb => by have := h.1.2 b hb; omega), by omega, ?_, ?_⟩ (by show c - (i + 1) < c - i; omega)
      · intro x hx
        rcases List.mem_append.1 hx with hx | hx
        · exact hxw x hx
        · obtain rfl : x = _ := by simpa using hx
          exact hxw'
      · intro ys rest hyl hyo e1
        obtain ⟨g1, g2⟩ := hpost ys rest hyl hyo e1
        have hiy : i < ys.length := by omega
        have hd : ys.drop i = ys[i] :: ys.drop (i + 1) := List.drop_eq_getElem_cons hiy
        have hyi : ys[i]? = some ys[i] := List.getElem?_eq_getElem hiy
        have hyok := hyo ys[i] (List.getElem_mem hiy)
        generalize ys[i] = y at hd hyok hyi
        obtain ⟨yw, yn, yv⟩ := hyok
        have eb : si = (textB y.name ++ (textB (showF y.ver) ++ (y.sum ++ (((ys.drop (i + 1)).map itemB).flatten ++ rest))), false) := by
          rw [g2, hd]; simp [itemB]
        obtain ⟨r1, r2⟩ := read_text (m := 64) (a := y.name) (r := textB (showF y.ver) ++ (y.sum ++ (((ys.drop (i + 1)).map itemB).flatten ++ rest))) (by have := nameOk_len yn; omega) (by omega)
        rw [← eb] at r1 r2
        have et1 : t1 = y.name := ht1.symm.trans r1
        have es2 := hs2.symm.trans r2
        obtain ⟨r3, r4⟩ := read_text (m := 64) (a := showF y.ver) (r := y.sum ++ (((ys.drop (i + 1)).map itemB).flatten ++ rest)) (by have := showF_len (v := y.ver) yw.ver.p3; omega) (by omega)
        rw [← es2] at r3 r4
        have et2 : t2 = showF y.ver := ht2.symm.trans r3
        have es3 := hs3.symm.trans r4
        obtain ⟨r5, r6⟩ := read_hash (a := y.sum) (r := ((ys.drop (i + 1)).map itemB).flatten ++ rest) yw.sum
        rw [← es3] at r5 r6
        have erh : rh = y.sum := hrh.symm.trans r5
        have es4 := hs4.symm.trans r6
        have ev : v = y.ver := by
          rcases hR with ⟨v', hv', ho', hs', e'⟩ | ⟨hno, _⟩
          · have hcells : Value.tuple #[.agg (verC v).toArray, e] = .tuple #[.agg (verC v').toArray, .int .i64 0] := hu15.symm.trans e'
            have hvv : verC v = verC v' := by
              injection hcells with hh
              have := congrArg (fun a : Array Value => a[0]?) hh
              simp at this
              exact this
            have hvv' : v = v' := verC_inj hvw hv' hvv
            rw [hvv']
            exact show_inj hv'.p3 yw.ver.p3 ho' yv (hs'.trans et2)
          · exact absurd et2.symm (hno y.ver yw.ver.p3 yv)
        refine ⟨?_, es4⟩
        rw [List.take_add_one, hyi, g1, et1, ev, erh]; rfl
      · refine ⟨Nat.le_trans kH14.1 k15.1, fun j hj hjp => ?_⟩
        rw [k15.2 j (Nat.lt_of_lt_of_le hj kH14.1) (by omega), kH14.2 j hj hjp]
    · rw [if_neg (by simpa using hlt)]
      refine hk1 _ _ _ ⟨xs, si, ⟨hbuf.sl, hxw⟩, hin, by omega, hsl, fun ys rest hyl hyo e1 => ?_, kh⟩
      obtain ⟨n1, n2⟩ := read_count (n := ys.length) (r := (ys.map itemB).flatten ++ rest) hyl
      have es : s = (numB (ys.length : Nat) 8 ++ ((ys.map itemB).flatten ++ rest), false) := by rw [e1]; simp [putB]
      rw [← es] at n1 n2
      have hcy : ys.length = c := by omega
      obtain ⟨g1, g2⟩ := hpost ys rest hcy hyo (hs1e.symm.trans n2)
      refine ⟨?_, ?_⟩
      · rw [g1, List.take_of_length_le (by omega)]
      · rw [g2, List.drop_eq_nil_of_le (by omega)]; rfl
  · rintro t3 _ h' hres
    exact hres
end Go.Proofs.YtmhfanpijdgkjabGreatDoor
/- history.ParseRecord. -/
namespace Go.Proofs.YtmhfanpijdgkjabGreatDoor
open Go.X Go.X.Diff
set_option maxRecDepth 100000

structure RecWf (a : RecA) : Prop where
  bef : ∀ x ∈ a.bef, x.wf
  aft : ∀ x ∈ a.aft, x.wf
  r : a.r.length = 32
theorem textB_len4 {l : List UInt8} : (textB l).length = 4 + l.length := by unfold textB; rw [List.length_append, numB_len]
theorem itemB_len4 {x : Item} (h : itOk x) : (itemB x).length ≤ 112 := by
  obtain ⟨w, n, v⟩ := h
  have h1 := nameOk_len n
  have h2 := showF_len (v := x.ver) w.ver.p3
  unfold itemB
  rw [List.length_append, List.length_append, textB_len4, textB_len4, w.sum]; omega
theorem putB_len4 : ∀ {xs : List Item}, (∀ x ∈ xs, itOk x) → (putB xs).length ≤ 8 + xs.length * 112 := by
  intro xs h
  unfold putB
  rw [List.length_append, numB_len]
  have : ((xs.map itemB).flatten).length ≤ xs.length * 112 := by
    induction xs with
    | nil => simp
    | cons x xs ih =>
      have h1 := itemB_len4 (h x (by simp))
      have h2 := ih fun y hy => h y (by simp [hy])
      rw [List.map_cons, List.flatten_cons, List.length_append, List.length_cons]; omega
  omega
theorem recB_len4 {a : RecA} (h : recOk a = true) (w : RecWf a) : (recB a).length ≤ 100000 ∧ a.bef.length ≤ 256 ∧ a.aft.length ≤ 256 := by
  unfold recOk at h
  simp only [Bool.and_eq_true] at h
  obtain ⟨⟨⟨_, h3⟩, h4⟩, _⟩ := h
  obtain ⟨l1, i1⟩ := itemsOk_spec h3 w.bef
  obtain ⟨l2, i2⟩ := itemsOk_spec h4 w.aft
  have p1 := putB_len4 i1
  have p2 := putB_len4 i2
  refine ⟨?_, l1, l2⟩
  unfold recB
  rw [List.length_append, List.length_append, List.length_append, List.length_append, numB_len, numB_len, w.r]
  omega
theorem Items.bound {P : Nat → Prop} {H : Heap} {v : Value} {xs : List Item} (h : Items P H v xs) : Items (fun b => P b ∧ b < H.size) H v xs := by
  obtain ⟨⟨hex, hel, hone⟩, hw⟩ := h
  obtain ⟨a, c, hve, hc, hx⟩ := hex
  exact ⟨⟨⟨a, c, hve, hc, hx.imp id fun ⟨b, o, e, hb, hpt⟩ => ⟨b, o, e, ⟨hb, hpt.lt⟩, hpt⟩⟩, hel, hone⟩, hw⟩

theorem z_Rec0 : zcells prg T_history_Record = some (recC 0 (.slice none 0 0) (.slice none 0 0) 0 zeroH).toArray := by kernel_rfl
theorem k_Rec : structK prg T_history_Record = some ([(0, 1), (1, 1), (2, 1), (3, 33)], (recC 0 (.slice none 0 0) (.slice none 0 0) 0 zeroH).toArray) := by kernel_rfl
theorem b_Rec0 {n : Int} : buildV prg T_history_Record [(0, .int .i64 n)] = some (.agg (recC n (.slice none 0 0) (.slice none 0 0) 0 zeroH).toArray) := by rw [buildV_of k_Rec]; rfl

/-- bytes that came from anywhere -/
def BRow (H : Heap) (v : Value) (l : List UInt8) : Prop := Bs H v l ∧ ∃ a c, v = .slice a l.length c
theorem BRow.keep {H H' : Heap} {v : Value} {l : List UInt8} (h : BRow H v l) (k : Keep (fun _ => False) H H') : BRow H' v l := ⟨h.1.keep k fun _ _ => id, h.2⟩
theorem BRow.b2s {H : Heap} {v : Value} {l : List UInt8} (h : BRow H v l) : Go.X.b2s H v = some (str l) := by
  obtain ⟨a, c, rfl⟩ := h.2
  exact h.1.b2s fun s e => by cases e
theorem BRow.len {H : Heap} {v : Value} {l : List UInt8} (h : BRow H v l) : lenV v = some (.int .i64 l.length) := by
  obtain ⟨a, c, rfl⟩ := h.2; rfl
theorem _root_.Go.X.Sl.brow {P : Nat → Prop} {H : Heap} {v : Value} {l : List UInt8} (h : Sl P H v l) : BRow H v l := by
  obtain ⟨a, c, e, _⟩ := h.sl
  exact ⟨h.bs, a, c, e⟩

/-- what ParseRecord tells of the bytes l -/
def ParseRec (n0 : Nat) (l : List UInt8) (u : Value) (H' : Heap) : Prop :=
  (∃ (a : RecA) (vb va : Value), recOk a = true ∧ RecWf a ∧ recB a = l ∧ Items (fun b => n0 ≤ b ∧ b < H'.size) H' vb a.bef ∧ Items (fun b => n0 ≤ b ∧ b < H'.size) H' va a.aft ∧ u = .tuple #[.agg (recC a.k vb va a.s a.r).toArray, .int .i64 0]) ∨
  ((∀ a : RecA, recOk a = true → RecWf a → recB a ≠ l) ∧ u = .tuple #[.agg (recC 0 (.slice none 0 0) (.slice none 0 0) 0 zeroH).toArray, .int .i64 10])

theorem c_ParseRecord {H : Heap} {v0 : Value} {l : List UInt8} (h0 : BRow H v0 l) (hl : l.length ≤ 140737488355328) (hE : ErrT H) (hT : PowT H) :
    HCalls prg f_history_ParseRecord [v0] H fun u H' => ParseRec H.size l u H' ∧ Keep (fun _ => False) H H' := by
  apply sh_history_ParseRecord_calls
  unfold sh_history_ParseRecord
  obtain ⟨a0, c0, hv0⟩ := h0.2
  subst hv0
  have hNG := hT.sz
  rw [z_Rec0, Mnew_some]
  generalize hH1 : H.push (.cells (recC 0 (.slice none 0 0) (.slice none 0 0) 0 zeroH).toArray T_history_Record (0, 0)) = h1
  have k1 : Keep (fun _ => False) H h1 := by rw [← hH1]; exact Keep.push
  have r1 : At h1 H.size (recC 0 (.slice none 0 0) (.slice none 0 0) 0 zeroH) := by rw [← hH1]; exact At.push
  have s1l : h1.size = H.size + 1 := by rw [← hH1]; simp
  have h01 := h0.keep k1
  refine call_i (c_NewIn h01.1 hl) ?_
  rintro _ h2 ⟨P, p, rfl, hi2, hpp, hPP, k2'⟩
  have k2 : Keep (fun _ => False) H h2 := k1.fresh k2' fun b hb => by omega
  have r2 := r1.keep k2' (show ¬ h1.size ≤ H.size by omega)
  refine call_i (c_In_Int hi2 hl) ?_
  rintro _ h3 ⟨rfl, hi3, k3'⟩
  have k3 := k2.fresh k3' fun b hb => by omega
  have r3 := r2.keep k3' (show ¬ H.size = p by omega)
  generalize hkk : rInt (l, false) = kk
  have hl1 : (tkS 8 (l, false)).1.length ≤ l.length := tkS_len
  generalize hS1 : tkS 8 (l, false) = S1 at hi3 hl1
  have hz36 : ∀ {k s : Int}, (recC k (.slice none 0 0) (.slice none 0 0) s zeroH).length = 36 := fun {_ _} => recC_len rfl
  have hone0 : ∀ {k s : Int}, ∀ c ∈ recC k (.slice none 0 0) (.slice none 0 0) s zeroH, c.oneCell' = true := fun {k s} => recC_one (k := k) (s := s) (r := zeroH) (items0 (P := fun _ => False) (H := H)) (items0 (P := fun _ => False) (H := H))
  rw [b_Rec0, Mpu_some, Mnew_some]
  generalize hH4 : h3.push (.cells (recC 0 (.slice none 0 0) (.slice none 0 0) 0 zeroH).toArray T_history_Record (0, 0)) = h4
  have k4' : Keep (fun _ => False) h3 h4 := by rw [← hH4]; exact Keep.push
  have x4 : At h4 h3.size (recC 0 (.slice none 0 0) (.slice none 0 0) 0 zeroH) := by rw [← hH4]; exact At.push
  obtain ⟨h5, st5, x5, k5'⟩ := x4.st (n := 36) (ds := recC kk (.slice none 0 0) (.slice none 0 0) 0 zeroH) hz36 hz36 hone0
  rw [show (Value.pointer (some ⟨h3.size, 0, none⟩)) = Ptr h3.size 0 from rfl, st5, Mwr_some]
  have k35 : Keep (fun _ => False) h3 h5 := k4'.fresh k5' fun b hb => by omega
  have k5 := k3.trans k35
  have hi5 := hi3.keep k35 id fun _ _ => id
  have r5 := r3.keep k35 id
  have hp3 := hi3.lt
  have q3 := k3.1
  have p_ne : p ≠ h3.size := by omega
  have r_lt := r3.lt
  refine call_i (c_get hi5 (by omega) (hE.keep k5 fun _ h => h.elim) (hT.keep k5 fun _ h => h.elim) (by omega)) ?_
  rintro t12 h6 ⟨xs, S2, hx6, hi6, hxl, hl2, hread2, k6'⟩
  have k6 := k5.fresh k6' fun b hb => by omega
  have r6 := r5.keep k6' (show ¬ H.size = p by omega)
  have x6 := x5.keep k6' (show ¬ h3.size = p by omega)
  have s5 : h3.size < h5.size := x5.lt
  have hx6 := hx6.bound
  obtain ⟨h7, st7, x7, k7'⟩ := x6.st1 (i := 1) (v := t12) (by simp [recC]) hx6.one
  have k7 := k6.fresh k7' fun b hb => by omega
  have r7 := r6.keep k7' (show ¬ H.size = h3.size by omega)
  have hi7 := hi6.keep k7' p_ne (fun b hb => by
    have := hi3.1.2 b hb; omega)
  simp only [fld_ptr, Mpu_some, Nat.zero_add, Nat.reduceAdd, st7, Mwr_some]
  refine call_i (c_get hi7 (by omega) (hE.keep k7 fun _ h => h.elim) (hT.keep k7 fun _ h => h.elim) (by omega)) ?_
  rintro t15 h8 ⟨ys, S3, hy8, hi8, hyl, hl3, hread3, k8'⟩
  have k8 := k7.fresh k8' fun b hb => by omega
  have r8 := r7.keep k8' (show ¬ H.size = p by omega)
  have x8 := x7.keep k8' (show ¬ h3.size = p by omega)
  have hy8 := hy8.bound
  have hx7 := hx6.keep k7' (fun b hb e => by omega)
  have hx8 := hx7.keep k8' (fun b hb e => by omega)
  have s7 : h6.size ≤ h7.size := k7'.1
  have s56 : h5.size ≤ h6.size := k6'.1
  obtain ⟨h9, st9, x9, k9'⟩ := x8.st1 (i := 2) (v := t15) (by simp [recC]) hy8.one
  have k9 := k8.fresh k9' fun b hb => by omega
  have r9 := r8.keep k9' (show ¬ H.size = h3.size by omega)
  have hi9 := hi8.keep k9' p_ne (fun b hb => by
    have := hi3.1.2 b hb; omega)
  have hx9 := hx8.keep k9' (fun b hb e => by omega)
  have hy9 := hy8.keep k9' (fun b hb e => by omega)
  simp only [st9, Mwr_some]
  refine call_i (c_In_Int hi9 (by omega)) ?_
  rintro _ h10 ⟨rfl, hi10, k10'⟩
  have k10 := k9.fresh k10' fun b hb => by omega
  have r10 := r9.keep k10' (show ¬ H.size = p by omega)
  have x10 := x9.keep k10' (show ¬ h3.size = p by omega)
  have hx10 := hx9.keep k10' (fun b hb e => by omega)
  have hy10 := hy9.keep k10' (fun b hb e => by omega)
  generalize hsz : rInt S3 = sz
  generalize hS4 : tkS 8 S3 = S4 at hi10
  obtain ⟨h11, st11, x11, k11'⟩ := x10.st1 (i := 3) (v := .int .i64 sz) (by simp [recC]) rfl
  have k11 := k10.fresh k11' fun b hb => by omega
  have r11 := r10.keep k11' (show ¬ H.size = h3.size by omega)
  have hi11 := hi10.keep k11' p_ne (fun b hb => by
    have := hi3.1.2 b hb; omega)
  have hx11 := hx10.keep k11' (fun b hb e => by omega)
  have hy11 := hy10.keep k11' (fun b hb e => by omega)
  simp only [fld_ptr, Mpu_some, Nat.zero_add, Nat.reduceAdd, st11, Mwr_some]
  refine call_i (c_In_Hash hi11) ?_
  rintro _ h12 ⟨rfl, hi12, k12'⟩
  have k12 := k11.fresh k12' fun b hb => by omega
  have r12 := r11.keep k12' (show ¬ H.size = p by omega)
  have x12 := x11.keep k12' (show ¬ h3.size = p by omega)
  have hx12 := hx11.keep k12' (fun b hb e => by omega)
  have hy12 := hy11.keep k12' (fun b hb e => by omega)
  generalize hrh : rHash S4 = rh
  have hrhl : rh.length = 32 := by rw [← hrh]; exact rHash_len
  generalize hS5 : tkS 32 S4 = S5 at hi12
  obtain ⟨h13, st13, x13, k13'⟩ := At.mid (n := 32) (o := 4) (A := [Value.int .i64 kk, t12, t15, Value.int .i64 sz]) (B := bcells zeroH) (C := []) (B' := bcells rh) (by rw [List.append_nil]; exact x12) rfl rfl (by simp [hrhl]) bcells_one
  rw [List.append_nil] at x13
  have x13 : At h13 h3.size (recC kk t12 t15 sz rh) := x13
  have k13 := k12.fresh k13' fun b hb => by omega
  have r13 := r12.keep k13' (show ¬ H.size = h3.size by omega)
  have hi13 := hi12.keep k13' p_ne (fun b hb => by
    have := hi3.1.2 b hb; omega)
  have hx13 := hx12.keep k13' (fun b hb e => by omega)
  have hy13 := hy12.keep k13' (fun b hb e => by omega)
  have hbv : (bv rh) = .agg (bcells rh).toArray := rfl
  simp only [hbv, st13, Mwr_some]
  /- what was read -/
  obtain ⟨A, hA⟩ : ∃ A : RecA, A = ⟨kk, xs, ys, sz, rh⟩ := ⟨_, rfl⟩
  have wA : RecWf A := by subst hA; exact ⟨hx13.2, hy13.2, hrhl⟩
  have hread : ∀ a : RecA, recOk a = true → RecWf a → recB a = l → A = a ∧ S5 = ([], false) := by
    intro a ha wa e
    obtain ⟨_, lb, la⟩ := recB_len4 ha wa
    unfold recOk headOk at ha
    simp only [Bool.and_eq_true, decide_eq_true_eq] at ha
    obtain ⟨⟨⟨⟨a1, a2⟩, a3⟩, a4⟩, a5, a6⟩ := ha
    obtain ⟨_, i1⟩ := itemsOk_spec a3 wa.bef
    obtain ⟨_, i2⟩ := itemsOk_spec a4 wa.aft
    have e0 : (l, false) = (numB ((a.k.toNat : Nat) : Int) 8 ++ (putB a.bef ++ (putB a.aft ++ (numB ((a.s.toNat : Nat) : Int) 8 ++ (a.r ++ [])))), false) := by
      rw [← e]; unfold recB
      rw [show ((a.k.toNat : Nat) : Int) = a.k by omega, show ((a.s.toNat : Nat) : Int) = a.s by omega]
      simp
    obtain ⟨n1, n2⟩ := read_int (n := a.k.toNat) (r := putB a.bef ++ (putB a.aft ++ (numB ((a.s.toNat : Nat) : Int) 8 ++ (a.r ++ [])))) (by omega)
    rw [← e0] at n1 n2
    obtain ⟨g1, g2⟩ := hread2 _ _ lb i1 (hS1.symm.trans n2)
    obtain ⟨g3, g4⟩ := hread3 _ _ la i2 g2
    obtain ⟨n3, n4⟩ := read_int (n := a.s.toNat) (r := a.r ++ []) (by omega)
    rw [← g4] at n3 n4
    have e4 := hS4.symm.trans n4
    obtain ⟨n5, n6⟩ := read_hash (a := a.r) (r := []) wa.r
    rw [← e4] at n5 n6
    refine ⟨?_, hS5.symm.trans n6⟩
    obtain ⟨ak, ab, aa, as_, ar⟩ := a
    rw [hA]
    simp only at *
    rw [g1, g3, ← hrh, n5]
    congr 1 <;> omega
  have hxA : Items (fun b => h5.size ≤ b ∧ b < h6.size) h13 t12 A.bef := by rw [hA]; exact hx13
  have hyA : Items (fun b => h7.size ≤ b ∧ b < h8.size) h13 t15 A.aft := by rw [hA]; exact hy13
  have xA : At h13 h3.size (recC A.k t12 t15 A.s A.r) := by rw [hA]; exact x13
  have lA : A.bef.length ≤ 256 ∧ A.aft.length ≤ 256 := by rw [hA]; exact ⟨hxl, hyl⟩
  clear hx13 hy13 x13 hx12 hy12 x12 hx11 hy11 x11 hx10 hy10 x10 hx9 hy9 x9 hx8 hy8 x8 hread2 hread3
  have s8 : h8.size ≤ h13.size := Nat.le_trans k9'.1 (Nat.le_trans k10'.1 (Nat.le_trans k11'.1 (Nat.le_trans k12'.1 k13'.1)))
  have s78 : h7.size ≤ h8.size := k8'.1
  have hAll : ∀ {R : Value → Heap → Prop}, (∀ u h', ParseRec H.size l u h' ∧ Keep (fun _ => False) H h' → R u h') → ∀ h, Keep (fun _ => False) h13 h → (∀ a : RecA, recOk a = true → RecWf a → recB a ≠ l) →
      Mpu (buildV prg T_history_Record []) fun t40 => Mwr (stN 36 h (Ptr H.size 0) t40) fun h22 => Mpu (ldN 36 h22 (Ptr H.size 0)) fun r23 => R (.tuple #[r23, (.int .i64 10)]) h22 := by
    intro R hR h kh hno
    obtain ⟨h22, st22, r22, k22⟩ := (r13.keep kh id).st (n := 36) (ds := recC 0 (.slice none 0 0) (.slice none 0 0) 0 zeroH) hz36 hz36 hone0
    rw [bld_Rec0, Mpu_some, st22, Mwr_some, r22.ldN hz36, Mpu_some]
    exact hR _ _ ⟨.inr ⟨hno, rfl⟩, (k13.trans kh).fresh k22 fun b hb => by omega⟩
  refine call_i (c_In_Done hi13) ?_
  rintro _ h14 ⟨rfl, rfl⟩
  have hA36 := xA.ldN (n := 36) (recC_len wA.r)
  cases hdone : (!S5.2 && S5.1.isEmpty)
  · simp only [unV_not, Bool.not_true, Bool.not_false, Mif_bool, Mif_undef, pickV_bool, Mcd_bool, Mpu_some, if_true, if_false, Bool.false_eq_true, Bool.true_eq_false, decide_true, decide_false, reduceCtorEq, J1_eq, ex20, ex21, ex30, ex31, ex32, Mre_ok, Mre_nil]
    refine hAll (fun u h' h => h) _ Keep.refl fun a ha wa e => ?_
    obtain ⟨_, e5⟩ := hread a ha wa e
    rw [e5] at hdone
    simp at hdone
  · simp only [hA36, unV_not, Bool.not_true, Bool.not_false, Mif_bool, Mif_undef, pickV_bool, Mcd_bool, Mpu_some, if_true, if_false, Bool.false_eq_true, Bool.true_eq_false, decide_true, decide_false, reduceCtorEq, ex20, ex21, ex30, ex31, ex32, Mre_ok, Mre_nil]
    refine J1_eq.2 ?_
    simp only [hA36, unV_not, Bool.not_true, Bool.not_false, Mif_bool, Mif_undef, pickV_bool, Mcd_bool, Mpu_some, if_true, if_false, Bool.false_eq_true, Bool.true_eq_false, decide_true, decide_false, reduceCtorEq, ex20, ex21, ex30, ex31, ex32, Mre_ok, Mre_nil]
    have hU : Items (fun b => h5.size ≤ b ∧ b < h8.size) h14 t12 A.bef := ⟨hxA.1.mono fun b hb => ⟨hb.1, by omega⟩, hxA.2⟩
    have hV : Items (fun b => h5.size ≤ b ∧ b < h8.size) h14 t15 A.aft := ⟨hyA.1.mono fun b hb => ⟨by omega, hb.2⟩, hyA.2⟩
    refine call_i (c_RecRight hU hV (fun b hb => by omega) wA.r (by omega) (by omega)) ?_
    rintro _ h16 ⟨rfl, k16⟩
    cases hok : recOk A
    · simp only [unV_not, Bool.not_true, Bool.not_false, Mif_bool, Mif_undef, pickV_bool, Mcd_bool, Mpu_some, if_true, if_false, Bool.false_eq_true, Bool.true_eq_false, decide_true, decide_false, reduceCtorEq, J1_eq, ex20, ex21, ex30, ex31, ex32, Mre_ok, Mre_nil]
      refine hAll (fun u h' h => h) _ k16 fun a ha wa e => ?_
      obtain ⟨rfl, _⟩ := hread a ha wa e
      rw [ha] at hok; cases hok
    · have hA16 := (xA.keep k16 id).ldN (n := 36) (recC_len wA.r)
      simp only [hA16, unV_not, Bool.not_true, Bool.not_false, Mif_bool, Mif_undef, pickV_bool, Mcd_bool, Mpu_some, if_true, if_false, Bool.false_eq_true, Bool.true_eq_false, decide_true, decide_false, reduceCtorEq, ex20, ex21, ex30, ex31, ex32, Mre_ok, Mre_nil]
      refine J1_eq.2 ?_
      simp only [hA16, unV_not, Bool.not_true, Bool.not_false, Mif_bool, Mif_undef, pickV_bool, Mcd_bool, Mpu_some, if_true, if_false, Bool.false_eq_true, Bool.true_eq_false, decide_true, decide_false, reduceCtorEq, ex20, ex21, ex30, ex31, ex32, Mre_ok, Mre_nil]
      obtain ⟨lb, _, _⟩ := recB_len4 hok wA
      have s16 := k16.1
      refine call_i (c_RecBytes (hU.keep k16 fun _ _ => id) (hV.keep k16 fun _ _ => id) (fun b hb => by omega) wA.r (hT.keep (k13.trans k16) fun _ h => h.elim) (by omega) (by omega) (by omega)) ?_
      rintro t35 h19 ⟨hb19, k19⟩
      have kk19 := k16.trans k19
      have h019 := h0.keep (k13.trans kk19)
      have hEq : HCalls prg f_bytes_Equal [t35, .slice a0 l.length c0] h19 fun u H' => u = .bool (decide (recB A = l)) ∧ H' = h19 := by
        apply sh_bytes_Equal_calls
        unfold sh_bytes_Equal
        rw [hb19.sl.brow.b2s, h019.b2s, Mpu_some, Mpu_some]
        have := str_eql (q := .no) (a := recB A) (b := l)
        rw [this, Mpu_some]
        exact ⟨rfl, rfl⟩
      refine call_i hEq ?_
      rintro _ h20 ⟨rfl, rfl⟩
      cases heq : decide (recB A = l)
      · simp only [unV_not, Bool.not_true, Bool.not_false, Mif_bool, Mif_undef, pickV_bool, Mcd_bool, Mpu_some, if_true, if_false, Bool.false_eq_true, Bool.true_eq_false, decide_true, decide_false, reduceCtorEq, J1_eq, ex20, ex21, ex30, ex31, ex32, Mre_ok, Mre_nil]
        refine hAll (fun u h' h => h) _ kk19 fun a ha wa e => ?_
        obtain ⟨rfl, _⟩ := hread a ha wa e
        exact of_decide_eq_false heq e
      · have hA20 := (xA.keep kk19 id).ldN (n := 36) (recC_len wA.r)
        obtain ⟨h24, st24, r24, k24⟩ := (r13.keep kk19 id).st (n := 36) (ds := recC A.k t12 t15 A.s A.r) hz36 (recC_len wA.r) (recC_one hU hV)
        have hA24 := r24.ldN (n := 36) (recC_len wA.r)
        have s20 := kk19.1
        have s24 := k24.1
        simp only [hA20, show (Value.pointer (some ⟨H.size, 0, none⟩)) = Ptr H.size 0 from rfl, st24, Mwr_some, hA24, unV_not, Bool.not_true, Bool.not_false, Mif_bool, Mif_undef, pickV_bool, Mcd_bool, Mpu_some, if_true, if_false, Bool.false_eq_true, Bool.true_eq_false, decide_true, decide_false, reduceCtorEq, J1_eq, ex20, ex21, ex30, ex31, ex32, Mre_ok, Mre_nil]
        have q5 := k5.1
        refine ⟨.inl ⟨A, t12, t15, hok, wA, of_decide_eq_true heq, ?_, ?_, rfl⟩, (k13.trans kk19).fresh k24 fun b hb => by omega⟩
        · have := (hU.keep kk19 fun _ _ => id).keep k24 fun b hb e => by omega
          exact ⟨this.1.mono fun b hb => by omega, this.2⟩
        · have := (hV.keep kk19 fun _ _ => id).keep k24 fun b hb e => by omega
          exact ⟨this.1.mono fun b hb => by omega, this.2⟩
end Go.Proofs.YtmhfanpijdgkjabGreatDoor
/- the reference's bytes. -/
namespace Go.Proofs.YtmhfanpijdgkjabGreatDoor
open Go.X Go.X.Diff
set_option maxRecDepth 100000

theorem zrow_one {v : Value} {n : Nat} : zrow #[v] n = (List.replicate n v).toArray := by
  apply Array.ext'
  unfold zrow
  simp only [Array.toList_map, Array.toList_range, List.toList_toArray]
  apply List.ext_getElem
  · simp
  · intro i h1 h2
    simp [Nat.mod_one]
theorem z_u8 : zcells prg T_uint8 = some #[.int .u8 0] := by kernel_rfl
theorem b_u8 : prg.bytesOf T_uint8 = 1 := by kernel_rfl
theorem bcells_rep {n : Nat} : bcells (List.replicate n 0) = List.replicate n (Value.int .u8 0) := by simp [bcells]

theorem c_refNumber {H : Heap} {n s : Nat} (hs : s ≤ 8) :
    HCalls prg f_syngraphref02_Number [.int .i64 (n : Nat), .int .i64 (s : Nat)] H fun u H' => Buf (fun b => H.size ≤ b ∧ b < H'.size) H' u (numB n s) ∧ Keep (fun _ => False) H H' := by
  apply sh_syngraphref02_Number_calls
  unfold sh_syngraphref02_Number
  refine ⟨.i64, .i64, s, s, _, rfl, rfl, Nat.le_refl _, by rw [b_u8]; omega, by omega, z_u8, by kernel_rfl, ?_⟩
  rw [show prg.cellsOf T_uint8 = 1 from c_u8, Nat.mul_one, zrow_one, ← bcells_rep]
  generalize hH1 : H.push (.cells (bcells (List.replicate s 0)).toArray T_uint8 (0, 0)) = h1
  have k1 : Keep (fun _ => False) H h1 := by rw [← hH1]; exact Keep.push
  have a1 : At h1 H.size (bcells (List.replicate s 0)) := by rw [← hH1]; exact At.push
  refine J2_i (fun _ _ h => At h H.size (bcells (numB n s)) ∧ Keep (fun _ => False) H h) (fun k hk => ?_) ?_
  · have e1 : binV .no .sub (.int .i64 (s : Nat)) (.int .i64 1) = some (.int .i64 ((s : Int) - 1)) := by
      rw [binV_int]; simp only [intV]; rw [wrap_id] <;> omega
    rw [e1, Mpu_some]
    refine L2_i (fun t0 t6 h => ∃ j : Nat, j ≤ s ∧ t6 = .int .i64 ((j : Int) - 1) ∧ t0 = .int .i64 ((n / 256 ^ (s - j) : Nat) : Int) ∧ At h H.size (bcells (List.replicate j 0 ++ (numB n s).drop j)) ∧ Keep (fun _ => False) H h)
      (fun _ u _ => match u with | .int _ t => (t + 1).toNat | _ => 0) ⟨s, Nat.le_refl _, rfl, by simp, by rw [List.drop_eq_nil_of_le (by simp), List.append_nil]; exact a1, k1⟩ ?_
    rintro _ _ h ⟨j, hj, rfl, rfl, ha, kh⟩ k' hk'
    have eg : binV .no .geq (.int .i64 ((j : Int) - 1)) (.int .i64 0) = some (.bool (decide (0 < j))) := by
      rw [binV_int]; simp only [intV]; congr 2; rw [decide_eq_decide]; omega
    rw [eg, Mpu_some, Mcd_bool]
    by_cases h0 : 0 < j
    · rw [if_pos (by simpa using h0)]
      obtain ⟨i, rfl⟩ : ∃ i, j = i + 1 := ⟨j - 1, by omega⟩
      have ei : (((i + 1 : Nat) : Int) - 1) = (i : Nat) := by omega
      have ebyte : cvI .u8 (.int .i64 ((n / 256 ^ (s - (i + 1)) : Nat) : Int)) = some (.int .u8 (byteOf n (8 * (s - 1 - i))).toNat) := by
        rw [cvI_int, wrap_u8']
        congr 3
        unfold byteOf
        rw [Int.fdiv_eq_ediv_of_nonneg _ (by exact Int.le_of_lt (Int.pow_pos (by decide)))]
        have e2 : (2 : Int) ^ (8 * (s - 1 - i)) = ((256 ^ (s - (i + 1)) : Nat) : Int) := by
          rw [show s - (i + 1) = s - 1 - i by omega, Int.pow_mul]; norm_cast
        rw [e2]; norm_cast
      have eshr : binV .no .shr (.int .i64 ((n / 256 ^ (s - (i + 1)) : Nat) : Int)) (.int .u64 8) = some (.int .i64 ((n / 256 ^ (s - i) : Nat) : Int)) := by
        rw [binV_shr]
        have e3 := shr_nat (k := .i64) (u := n / 256 ^ (s - (i + 1))) (b := 8) (by decide)
        have e4 : n / 256 ^ (s - (i + 1)) / 2 ^ 8 = n / 256 ^ (s - i) := by
          rw [Nat.div_div_eq_div_mul, show s - i = (s - (i + 1)) + 1 by omega]
          exact congrArg (n / ·) (Nat.pow_succ (n := 256) (m := s - (i + 1))).symm
        rw [e4] at e3
        rw [← e3]; rfl
      have esub : binV .no .sub (.int .i64 (i : Nat)) (.int .i64 1) = some (.int .i64 ((i : Int) - 1)) := by
        rw [binV_int]; simp only [intV]; rw [wrap_id] <;> omega
      obtain ⟨h6, st6, a6, k6⟩ := ha.st1 (i := i) (v := .int .u8 (byteOf n (8 * (s - 1 - i))).toNat) (by simp [bcells]; omega) rfl
      have hix : ixS 1 (.slice (some ⟨H.size, 0, none⟩) s s) (.int .i64 (i : Nat)) = some (Ptr H.size i) := by
        have := ixS_at (b := H.size) (o := 0) (n := s) (c := s) (k := .i64) (i := i) (by omega)
        rwa [Nat.zero_add] at this
      rw [ei, ebyte, Mpu_some, hix, Mpu_some, st6, Mwr_some, eshr, Mpu_some, esub, Mpu_some]
      refine hk' _ _ _ ⟨i, by omega, rfl, rfl, ?_, kh.fresh k6 fun b hb => by omega⟩ (by show (((i : Nat) : Int) - 1 + 1).toNat < (((i + 1 : Nat) : Int) - 1 + 1).toNat; omega)
      have hset : (bcells (List.replicate (i + 1) 0 ++ (numB n s).drop (i + 1))).set i (.int .u8 (byteOf n (8 * (s - 1 - i))).toNat) = bcells (List.replicate i 0 ++ (numB n s).drop i) := by
        have hd : (numB (n : Int) s).drop i = byteOf n (8 * (s - 1 - i)) :: (numB (n : Int) s).drop (i + 1) := by
          rw [List.drop_eq_getElem_cons (by simp; omega)]
          congr 1
          simp [numB]
        rw [hd, List.replicate_succ', List.append_assoc]
        simp only [bcells, List.map_append, List.map_cons, List.map_replicate]
        rw [List.set_append_right _ _ (by simp)]
        simp
      rw [hset] at a6
      exact a6
    · rw [if_neg (by simpa using h0)]
      obtain rfl : j = 0 := by omega
      exact hk _ _ _ ⟨by simpa using ha, kh⟩
  · rintro _ _ h ⟨ha, kh⟩
    obtain ⟨T, hb⟩ := ha
    exact ⟨.inr ⟨H.size, 0, s, _, T, (0, 0), by rw [numB_len], ⟨Nat.le_refl _, lt_of hb⟩, by simp, hb, by simp [bcells], fun _ _ _ _ => thaw_00, by
      rw [List.drop_zero, List.take_of_length_le (by simp [bcells])]⟩, kh⟩

theorem c_refInt {H : Heap} {n : Nat} : HCalls prg f_syngraphref03_Int [.int .i64 (n : Nat)] H fun u H' => Buf (fun b => H.size ≤ b ∧ b < H'.size) H' u (numB n 8) ∧ Keep (fun _ => False) H H' := by
  apply sh_syngraphref03_Int_calls
  unfold sh_syngraphref03_Int
  refine call_i (c_refNumber (s := 8) (by omega)) ?_
  intro u h h'; exact h'
theorem _root_.Go.X.Buf.bound {F : Nat → Prop} {H : Heap} {v : Value} {l : List UInt8} (h : Buf F H v l) : Buf (fun b => F b ∧ b < H.size) H v l := by
  rcases h with h | ⟨b, o, c, cs, T, f, e, hf, hc, hb, hr⟩
  · exact .inl h
  · exact .inr ⟨b, o, c, cs, T, f, e, ⟨hf, lt_of hb⟩, hc, hb, hr⟩
theorem c_refText {H : Heap} {l : List UInt8} (hl : l.length ≤ 1048576) : HCalls prg f_syngraphref03_Text [str l] H fun u H' => Buf (fun b => H.size ≤ b ∧ b < H'.size) H' u (textB l) ∧ Keep (fun _ => False) H H' := by
  apply sh_syngraphref03_Text_calls
  unfold sh_syngraphref03_Text
  refine s2b_i (by omega) fun v h1 hv k1 => ?_
  have hB : HCalls prg f_syngraphref03_Bytes [v] h1 fun u H' => Buf (fun b => H.size ≤ b ∧ b < H'.size) H' u (textB l) ∧ Keep (fun _ => False) H H' := by
    apply sh_syngraphref03_Bytes_calls
    unfold sh_syngraphref03_Bytes
    have hC : HCalls prg f_syngraphref03_Count [.int .i64 (l.length : Nat)] h1 fun u H' => Buf (fun b => h1.size ≤ b ∧ b < H'.size) H' u (numB l.length 4) ∧ Keep (fun _ => False) h1 H' := by
      apply sh_syngraphref03_Count_calls
      unfold sh_syngraphref03_Count
      refine call_i (c_refNumber (s := 4) (by omega)) ?_
      intro u h h'; exact h'
    rw [hv.len, Mpu_some]
    refine call_i hC ?_
    rintro t5 h2 ⟨hb, k2⟩
    have q1 := k1.1
    have q2 := k2.1
    refine Buf.app (F := (h1.size ≤ ·)) (hb.mono fun b h => h.1) (hv.keep k2 fun _ _ => id).bs (by simp; omega) q2 fun u h3 hb3 k3 => ?_
    refine ⟨hb3.bound.mono fun b h => ⟨by omega, h.2⟩, (k1.trans k2).fresh k3 fun b hb => by omega⟩
  refine call_i hB ?_
  intro u h h'; exact h'

theorem flat_take_le {ls : List (List UInt8)} {i : Nat} : ((ls.take i).flatten).length ≤ ls.flatten.length := by
  have := congrArg (fun l : List (List UInt8) => l.flatten.length) (List.take_append_drop i ls)
  simp only [List.flatten_append, List.length_append] at this
  omega
theorem c_refJoin {P : Nat → Prop} {H : Heap} {q n : Nat} {vs : List Value} {ls : List (List UInt8)} (a : At H q vs) (hn : vs.length = n) (hlen : ls.length = n) (hv : ∀ (i : Nat) (v : Value) (l : List UInt8), vs[i]? = some v → ls[i]? = some l → Sl P H v l) (ht : ls.flatten.length ≤ 1099511627776) (hm : n ≤ 1000) :
    HCalls prg f_syngraphref03_Join [.slice (some ⟨q, 0, none⟩) n n] H fun u H' => Buf (fun b => H.size ≤ b ∧ b < H'.size) H' u ls.flatten ∧ Keep (fun _ => False) H H' := by
  apply sh_syngraphref03_Join_calls
  unfold sh_syngraphref03_Join
  refine J2_i (fun t _ h => Buf (H.size ≤ ·) h t ls.flatten ∧ Keep (fun _ => False) H h) (fun k hk => ?_) ?_
  · refine L2_i (fun t3 t4 h => ∃ i : Nat, i ≤ n ∧ t4 = .int .i64 (i : Nat) ∧ Buf (H.size ≤ ·) h t3 (ls.take i).flatten ∧ Keep (fun _ => False) H h)
      (fun _ u _ => match u with | .int _ t => n - t.toNat | _ => 0) ⟨0, Nat.zero_le _, rfl, .inl ⟨rfl, rfl⟩, Keep.refl⟩ ?_
    rintro t3 _ h ⟨i, hi, rfl, hb, kh⟩ k' hk'
    have elt : binV .no .lss (.int .i64 (i : Nat)) (.int .i64 (n : Nat)) = some (.bool (decide (i < n))) := by
      rw [binV_int]; simp only [intV]; congr 2; rw [decide_eq_decide]; omega
    have hlv : lenV (.slice (some ⟨q, 0, none⟩) n n) = some (.int .i64 (n : Nat)) := rfl
    rw [hlv, Mpu_some, elt, Mpu_some, Mcd_bool]
    by_cases hlt : i < n
    · rw [if_pos (by simpa using hlt)]
      have g1 : vs[i]? = some vs[i] := List.getElem?_eq_getElem (by omega)
      have g2 : ls[i]? = some ls[i] := List.getElem?_eq_getElem (by omega)
      have hsl := hv i _ _ g1 g2
      have hix := ixS_at (b := q) (o := 0) (n := n) (c := n) (k := .i64) (i := i) hlt
      rw [Nat.zero_add] at hix
      rw [hix, Mpu_some, (a.keep kh id).ld g1, Mpu_some]
      have htk : (ls.take (i + 1)).flatten = (ls.take i).flatten ++ ls[i] := by
        rw [List.take_add_one, g2, List.flatten_append]
        show _ ++ ([ls[i]] : List (List UInt8)).flatten = _
        rw [List.flatten_cons, List.flatten_nil, List.append_nil]
      have hle := flat_take_le (ls := ls) (i := i + 1)
      rw [htk, List.length_append] at hle
      refine Buf.app hb (hsl.keep kh fun _ _ => id).bs (by omega) kh.1 fun u h5 hb5 k5 => ?_
      rw [add_one' (by omega), Mpu_some]
      exact hk' _ _ _ ⟨i + 1, hlt, rfl, by rw [htk]; exact hb5, kh.fresh k5 fun b hb => hb⟩ (by show n - (i + 1) < n - i; omega)
    · rw [if_neg (by simpa using hlt)]
      rw [List.take_of_length_le (by omega)] at hb
      exact hk _ _ _ ⟨hb, kh⟩
  · rintro t _ h ⟨hb, kh⟩
    exact ⟨hb.bound, kh⟩
theorem sl_arr {h : Heap} {q : Nat} {l : List UInt8} (a : At h q (bcells l)) : Sl (· = q) h (.slice (some ⟨q, 0, none⟩) l.length l.length) l := by
  obtain ⟨T, hb⟩ := a
  exact ⟨Bs.mk hb rfl (by simp [bcells]) (by rw [List.drop_zero, List.take_of_length_le (by simp [bcells])]), ⟨_, _, rfl, Nat.le_refl _, fun x hx => by cases hx; rfl⟩, fun b hb => by cases hb; rfl⟩

theorem bsl3S {a b c : Option Addr} {n m o d e f : Nat} : bslV prg T_S_uint8 3 [(0, .slice a n d), (1, .slice b m e), (2, .slice c o f)] = some #[.slice a n d, .slice b m e, .slice c o f] := by kernel_rfl
theorem c_refItem {H : Heap} {a b r : List UInt8} (ha : a.length ≤ 1048576) (hb : b.length ≤ 1048576) (hr : r.length = 32) :
    HCalls prg f_syngraphref22_Item [str a, str b, bv r] H fun u H' => Buf (fun b => H.size ≤ b ∧ b < H'.size) H' u (textB a ++ textB b ++ r) ∧ Keep (fun _ => False) H H' := by
  apply sh_syngraphref22_Item_calls
  unfold sh_syngraphref22_Item
  simp only [cells_bv, Mnew_some]
  generalize hH1 : H.push (.cells (bcells r).toArray T_A32_uint8 (0, 0)) = h1
  have k1 : Keep (fun _ => False) H h1 := by rw [← hH1]; exact Keep.push
  have a1 : At h1 H.size (bcells r) := by rw [← hH1]; exact At.push
  have e : slA 32 1 (.pointer (some ⟨H.size, 0, none⟩)) none none none = some (.slice (some ⟨H.size, 0, none⟩) r.length r.length) := by rw [hr]; rfl
  rw [e, Mpu_some]
  refine call_i (c_refText ha) ?_
  rintro t8 h2 ⟨b2, k2⟩
  refine call_i (c_refText hb) ?_
  rintro t10 h3 ⟨b3, k3⟩
  have s2 := b2.sl.keep k3 fun _ _ => id
  have s3 := b3.sl
  have s1 := sl_arr (a1.keep (k2.trans k3) id)
  obtain ⟨x2, c2, e2, _⟩ := s2.sl
  obtain ⟨x3, c3, e3, _⟩ := s3.sl
  subst e2 e3
  rw [bsl3S, Mnews_some]
  generalize hH4 : h3.push (.cells #[.slice x2 (textB a).length c2, .slice x3 (textB b).length c3, .slice (some ⟨H.size, 0, none⟩) r.length r.length] T_S_uint8 (0, 0)) = h4
  have k4 : Keep (fun _ => False) h3 h4 := by rw [← hH4]; exact Keep.push
  have a4 : At h4 h3.size [.slice x2 (textB a).length c2, .slice x3 (textB b).length c3, .slice (some ⟨H.size, 0, none⟩) r.length r.length] := by rw [← hH4]; exact At.push
  have kk := k1.trans (k2.trans (k3.trans k4))
  refine call_i (c_refJoin (P := fun _ => True) (ls := [textB a, textB b, r]) a4 rfl rfl ?_ (by simp [textB]; omega) (by omega)) ?_
  · intro i v l hv hl
    have mono : ∀ {P : Nat → Prop} {v : Value} {l : List UInt8}, Sl P h3 v l → Sl (fun _ => True) h4 v l := fun h => ⟨(h.keep k4 fun _ _ => id).bs, h.sl, fun _ _ => trivial⟩
    match i, hv, hl with
    | 0, hv, hl => cases hv; cases hl; exact mono s2
    | 1, hv, hl => cases hv; cases hl; exact mono s3
    | 2, hv, hl => cases hv; cases hl; exact mono s1
    | i + 3, hv, hl => simp at hv
  · rintro u h5 ⟨hb5, k5⟩
    have q := kk.1
    refine ⟨?_, kk.trans k5⟩
    have e5 : [textB a, textB b, r].flatten = textB a ++ textB b ++ r := by simp
    rw [e5] at hb5
    exact hb5.mono fun b hb => ⟨by omega, hb.2⟩
end Go.Proofs.YtmhfanpijdgkjabGreatDoor
