/- wire: what the readers do. -/
import Derived.Test.YtdmciknajaedmaaSa
import Derived.Test.YtdmciknajaedmaaXM
import Derived.KernelRfl
namespace Go.Proofs.Ytdmciknajaedmaa
open Go.X
set_option maxRecDepth 100000

theorem bsl0 : bslV prg T_uint8 0 [] = some #[] := by kernel_rfl
theorem bsl1 {n : Int} : bslV prg T_uint8 1 [(0, .int .u8 n)] = some #[.int .u8 n] := by kernel_rfl
def zeroH : List UInt8 := List.replicate 32 0
theorem z_Hash : zcells prg T_sha_Hash = some (bcells zeroH).toArray := by kernel_rfl
theorem bld_In {v : Value} {a : Option Addr} {n c : Nat} (h : v = .slice a n c) : buildV prg T_wire_In [(0, v)] = some (.agg #[v, .bool false]) := by subst h; kernel_rfl

theorem c_Clone {F : Nat → Prop} {H : Heap} {a : Option Addr} {n c : Nat} {l : List UInt8} (h : Bs H (.slice a n c) l) (hl : l.length ≤ 140737488355328) (hf : ∀ b, H.size ≤ b → F b) :
    HCalls prg f_bytes_Clone [.slice a n c] H fun u H' => Own F H' u l ∧ Keep F H H' := by
  apply sh_bytes_Clone_calls
  unfold sh_bytes_Clone
  cases a with
  | none =>
    obtain rfl : l = [] := by
      rcases h.shape with ⟨a, c, hv, rfl⟩ | ⟨b, o, c, cs, T, f, hv, _⟩ | ⟨s, hv, _⟩
      · rfl
      · cases hv
      · cases hv
    simp only [binV_slc_eq, eqV_slc_none, Option.map_some, Mpu_some, Mcd_bool, Option.isNone_none, if_true]
    exact ⟨.inl ⟨rfl, rfl⟩, Keep.refl⟩
  | some a =>
    simp only [binV_slc_eq, eqV_slc_some, Option.map_some, Mpu_some, Mcd_bool, Bool.false_eq_true, if_false, bsl0, Mnews_some]
    have hx := elems_ext (H' := H.push (.cells #[] T_uint8 (0, 0))) ⟨by simp, fun i hi => by rw [Array.getElem?_push, if_neg (by omega)]⟩ h
    exact Own.app (F := F) (l := []) (.inr ⟨H.size, 0, 0, #[], T_uint8, (0, 0), rfl, hf _ (Nat.le_refl _), Nat.le_refl _, push_new, Nat.le_refl _, fun _ _ _ _ => thaw_00, rfl⟩) hx (by simpa using hl) (hf _ (by simp)) fun v H' ho hk => ⟨ho, Keep.push.trans hk⟩
theorem c_CloneS {F P : Nat → Prop} {H : Heap} {v : Value} {l : List UInt8} (h : Sl P H v l) (hl : l.length ≤ 140737488355328) (hf : ∀ b, H.size ≤ b → F b) :
    HCalls prg f_bytes_Clone [v] H fun u H' => Own F H' u l ∧ Keep F H H' := by
  obtain ⟨a, c, rfl, _⟩ := h.sl
  exact c_Clone h.bs hl hf

/- THE READER -/
abbrev RS := List UInt8 × Bool
/-- the reader at block p holds s; its bytes lie in blocks of P -/
def InAt (P : Nat → Prop) (p : Nat) (H : Heap) (s : RS) : Prop :=
  (¬ P p ∧ ∀ b, P b → b < H.size) ∧ ∃ v, H[p]? = some (.cells #[v, .bool s.2] T_wire_In (0, 0)) ∧ Sl P H v s.1
theorem InAt.keep {P S : Nat → Prop} {p : Nat} {H H' : Heap} {s : RS} (h : InAt P p H s) (k : Keep S H H') (hp : ¬ S p) (hs : ∀ b, P b → ¬ S b) : InAt P p H' s := by
  obtain ⟨h1, v, h2, h3⟩ := h
  exact ⟨⟨h1.1, fun b hb => Nat.lt_of_lt_of_le (h1.2 b hb) k.1⟩, v, k.at h2 hp, h3.keep k hs⟩
theorem InAt.lt {P : Nat → Prop} {p : Nat} {H : Heap} {s : RS} (h : InAt P p H s) : p < H.size := by
  obtain ⟨h1, v, h2, h3⟩ := h; exact lt_of h2

def tkB (n : Nat) (s : RS) : Bool := s.2 || decide (s.1.length < n)
def tkO (n : Nat) (s : RS) : List UInt8 := if tkB n s then [] else s.1.take n
def tkS (n : Nat) (s : RS) : RS := (if tkB n s then s.1 else s.1.drop n, tkB n s)

theorem c_NewIn {H : Heap} {a : Option Addr} {n c : Nat} {l : List UInt8} (h : Bs H (.slice a n c) l) (hl : l.length ≤ 140737488355328) :
    HCalls prg f_wire_NewIn [.slice a n c] H fun u H' => ∃ P p, u = Ptr p 0 ∧ InAt P p H' (l, false) ∧ H.size ≤ p ∧ (∀ b, P b → H.size ≤ b) ∧ Keep (H.size ≤ ·) H H' := by
  apply sh_wire_NewIn_calls
  unfold sh_wire_NewIn
  refine call_i (c_Clone (F := (H.size ≤ ·)) h hl fun b h => h) ?_
  rintro u h1 ⟨ho, hk⟩
  have hs := ho.sl
  obtain ⟨a0, c0, hv, _⟩ := hs.sl
  simp only [bld_In hv, Mpu_some, Mnew_some, Cells_agg]
  refine ⟨fun b => H.size ≤ b ∧ b < h1.size, h1.size, rfl, ⟨⟨fun h => Nat.lt_irrefl _ h.2, fun b h => by simp; omega⟩, u, push_new, ?_⟩, hk.1, fun b h => h.1, hk.trans Keep.push⟩
  refine Sl.keep (S := fun _ => False) ⟨hs.bs, hs.sl, fun b hb => ⟨hs.own b hb, ?_⟩⟩ Keep.push fun _ _ h => h
  rcases ho with ⟨rfl, _⟩ | ⟨b', o, c, cs, T, f, rfl, hp, hc, hb', _⟩
  · cases hb
  · cases hb; exact lt_of hb'

theorem c_take {P : Nat → Prop} {p : Nat} {H : Heap} {s : RS} (h : InAt P p H s) (n : Nat) :
    HCalls prg f_wire_In_take [Ptr p 0, .int .i64 n] H fun u H' => Sl P H' u (tkO n s) ∧ InAt P p H' (tkS n s) ∧ Keep (· = p) H H' := by
  apply sh_wire_In_take_calls
  unfold sh_wire_In_take
  obtain ⟨l, bad⟩ := s
  obtain ⟨⟨hnp, hP⟩, v, hp, hs⟩ := h
  simp only [nck_ptr, fld_ptr, Mpu_some, ld1_at hp, Nat.zero_add, List.getElem?_toArray, List.getElem?_cons_succ, List.getElem?_cons_zero, Mif_bool, hs.len, binV_int, intV, J1_eq]
  have fin : tkB n (l, bad) = true → (Mwr (st1 H (Ptr p 1) (.bool true)) fun h3 => Sl P h3 (.slice none 0 0) (tkO n (l, bad)) ∧ InAt P p h3 (tkS n (l, bad)) ∧ Keep (· = p) H h3) := fun hb => by
    rw [st1_at hp 1 _ (by simp) rfl, Mwr_some]
    refine ⟨?_, ⟨⟨hnp, by simpa using hP⟩, v, ?_, ?_⟩, Keep.set rfl⟩
    · rw [tkO, if_pos hb]; exact Sl.nil
    · rw [set_self hp]; simp [tkS, hb]
    · rw [tkS, if_pos hb]; exact hs.keep (Keep.set (S := (· = p)) rfl) fun b hb e => hnp (e ▸ hb)
  cases bad with
  | true => simpa using fin rfl
  | false =>
    simp only [if_true, pickV_bool, Bool.false_eq_true, if_false, Mpu_some, Mcd_bool]
    by_cases hn : l.length < n
    · rw [if_pos (by simpa using hn)]; exact fin (by simp [tkB, hn])
    · rw [if_neg (by simpa using hn)]
      have hn' : n ≤ l.length := by omega
      obtain ⟨u, hu, hu'⟩ := hs.head hn'
      obtain ⟨x, hx, hx'⟩ := hs.tail hn'
      have hb : tkB n (l, false) = false := by simp [tkB, hn]
      simp only [hu, hx, Mpu_some, st1_at hp 0 x (by simp) hx'.one, Mwr_some]
      refine ⟨?_, ⟨⟨hnp, by simpa using hP⟩, x, ?_, ?_⟩, Keep.set rfl⟩
      · rw [tkO, hb]; exact hu'.keep (Keep.set (S := (· = p)) rfl) fun b hb e => hnp (e ▸ hb)
      · rw [set_self hp]; simp [tkS, hb]
      · rw [tkS, hb]; exact hx'.keep (Keep.set (S := (· = p)) rfl) fun b hb e => hnp (e ▸ hb)

/- numbers -/
def num (l : List UInt8) : Nat := l.foldl (fun a b => (a * 256 + b.toNat) % 18446744073709551616) 0

end Go.Proofs.Ytdmciknajaedmaa
