/- wire: what the writers do. -/
import Derived.Test.YtmhfanpijdgkjaaDoorSz
import Derived.Test.YtmhfanpijdgkjaaDoorXO
import Derived.KernelRfl
namespace Go.Proofs.YtmhfanpijdgkjaaDoor
open Go.X
set_option maxRecDepth 100000

theorem bsl0 : bslV prg T_uint8 0 [] = some #[] := by kernel_rfl
theorem bsl1 {n : Int} : bslV prg T_uint8 1 [(0, .int .u8 n)] = some #[.int .u8 n] := by kernel_rfl
def zeroH : List UInt8 := List.replicate 32 0
theorem z_Hash : zcells prg T_sha_Hash = some (bcells zeroH).toArray := by kernel_rfl
theorem c_Clone {F : Nat → Prop} {H : Heap} {a : Option Addr} {n c : Nat} {l : List UInt8} (h : Bs H (.slice a n c) l) (hl : l.length ≤ 140737488355328) (hf : ∀ b, H.size ≤ b → F b) :
    HCalls prg f_bytes_Clone [.slice a n c] H fun u H' => Buf F H' u l ∧ Keep F H H' := by
  apply sh_bytes_Clone_calls
  unfold sh_bytes_Clone
  cases a with
  | none =>
    obtain rfl : l = [] := by
      rcases h.shape with ⟨a, c, hv, rfl⟩ | ⟨b, o, c, cs, T, f, hv, _⟩ | ⟨s, hv, _⟩
      · rfl
      · cases hv
      · cases hv
    simp only [binV_slc_eq, eqV_slc_none, Option.map_some, Mpu_some, Mcd_bool, Option.isNone_none, if_true]
    exact ⟨.inl ⟨rfl, rfl⟩, Keep.refl⟩
  | some a =>
    simp only [binV_slc_eq, eqV_slc_some, Option.map_some, Mpu_some, Mcd_bool, Bool.false_eq_true, if_false, bsl0, Mnews_some]
    have hx := elems_ext (H' := H.push (.cells #[] T_uint8 (0, 0))) ⟨by simp, fun i hi => by rw [Array.getElem?_push, if_neg (by omega)]⟩ h
    exact Buf.app (F := F) (l := []) (.inr ⟨H.size, 0, 0, #[], T_uint8, (0, 0), rfl, hf _ (Nat.le_refl _), Nat.le_refl _, push_new, Nat.le_refl _, fun _ _ _ _ => thaw_00, rfl⟩) hx (by simpa using hl) (hf _ (by simp)) fun v H' ho hk => ⟨ho, Keep.push.trans hk⟩
theorem c_CloneS {F P : Nat → Prop} {H : Heap} {v : Value} {l : List UInt8} (h : Sl P H v l) (hl : l.length ≤ 140737488355328) (hf : ∀ b, H.size ≤ b → F b) :
    HCalls prg f_bytes_Clone [v] H fun u H' => Buf F H' u l ∧ Keep F H H' := by
  obtain ⟨a, c, rfl, _⟩ := h.sl
  exact c_Clone h.bs hl hf

/- THE WRITER -/
/-- the writer at block p holds l; its bytes lie in blocks of F -/
def OutAt (F : Nat → Prop) (p : Nat) (H : Heap) (l : List UInt8) : Prop :=
  ¬ F p ∧ ∃ v, H[p]? = some (.cells #[v] T_wire_Out (0, 0)) ∧ Buf F H v l
def Wr (F : Nat → Prop) (p : Nat) : Nat → Prop := fun b => F b ∨ b = p
theorem OutAt.keep {F S : Nat → Prop} {p : Nat} {H H' : Heap} {l : List UInt8} (h : OutAt F p H l) (k : Keep S H H') (hs : ∀ b, Wr F p b → ¬ S b) : OutAt F p H' l := by
  obtain ⟨h1, v, h2, h3⟩ := h
  exact ⟨h1, v, k.at h2 (hs p (.inr rfl)), h3.keep k fun b hb => hs b (.inl hb)⟩

theorem OutAt.app {F : Nat → Prop} {p : Nat} {H : Heap} {l m : List UInt8} {x : Value} {k : Heap → Prop} (h : OutAt F p H l) (hx : Bs H x m) (hlen : l.length + m.length ≤ 140737488355328) (hf : F H.size)
    (hk : ∀ H', OutAt F p H' (l ++ m) → Keep (Wr F p) H H' → k H') : ∃ v, ld1 H (Ptr p 0) = some v ∧ Mapp T_uint8 1 1 H v x fun u h => Mwr (st1 h (Ptr p 0) u) k := by
  obtain ⟨hn, v, hp, ho⟩ := h
  refine ⟨v, by rw [ld1_at hp]; rfl, ho.app hx hlen hf fun u H' ho' hk' => ?_⟩
  have hp' := hk'.at hp hn
  rw [st1_at hp' 0 u (by simp) ho'.sl.one, Mwr_some]
  have k1 : Keep (· = p) H' (H'.setIfInBounds p (.cells (#[v].setIfInBounds 0 u) T_wire_Out (0, 0))) := Keep.set rfl
  exact hk _ ⟨hn, u, by rw [set_self hp']; rfl, ho'.keep k1 fun b hb e => hn (e ▸ hb)⟩ ((hk'.mono fun _ _ h => .inl h).trans (k1.mono fun _ _ h => .inr h))

def byteOf (n : Int) (s : Nat) : UInt8 := UInt8.ofNat ((n.fdiv (2 ^ s)) % 256).toNat
def numB (n : Int) (size : Nat) : List UInt8 := (List.range size).map fun i => byteOf n (8 * (size - 1 - i))
def numTo (n : Int) (size j : Nat) : List UInt8 := (List.range j).map fun i => byteOf n (8 * (size - 1 - i))
@[simp] theorem numB_len {n : Int} {s : Nat} : (numB n s).length = s := by simp [numB]
@[simp] theorem numTo_len {n : Int} {s j : Nat} : (numTo n s j).length = j := by simp [numTo]
theorem numTo_succ {n : Int} {s j : Nat} : numTo n s (j + 1) = numTo n s j ++ [byteOf n (8 * (s - 1 - j))] := by simp [numTo, List.range_succ]
theorem wrap_u8' (m : Int) : IntKind.u8.wrap m = (UInt8.ofNat (m % 256).toNat).toNat := by
  simp only [IntKind.wrap, IntKind.bits, IntKind.signed]; simp; omega

theorem c_Out_number {F : Nat → Prop} {p : Nat} {H : Heap} {l : List UInt8} (h : OutAt F p H l) (n : Int) (size : Nat) (hs : size ≤ 8) (hl : l.length + size ≤ 140737488355328) (hf : ∀ b, H.size ≤ b → F b) :
    HCalls prg f_wire_Out_number [Ptr p 0, .int .i64 n, .int .i64 size] H fun u H' => u = .tuple #[] ∧ OutAt F p H' (l ++ numB n size) ∧ Keep (Wr F p) H H' := by
  apply sh_wire_Out_number_calls
  unfold sh_wire_Out_number
  refine L1_i (fun u h' => ∃ i, i ≤ size ∧ u = .int .i64 (i : Nat) ∧ OutAt F p h' (l ++ numTo n size i) ∧ Keep (Wr F p) H h') (fun u _ => match u with | .int _ i => size - i.toNat | _ => 0) ⟨0, Nat.zero_le _, rfl, by simpa [numTo] using h, Keep.refl⟩ ?_
  rintro _ H1 ⟨i, hi, rfl, ho, hk1⟩ k hk
  simp only [binV_int, intV, Mpu_some, Mcd_bool, decide_eq_true_eq]
  by_cases hlt : (i : Int) < size
  · rw [if_pos hlt]
    have hlt' : i < size := by omega
    have hw1 : IntKind.i64.wrap ((size : Int) - 1) = ((size - 1 : Nat) : Int) := by rw [wrap_id] <;> omega
    have hw2 : IntKind.i64.wrap (((size - 1 : Nat) : Int) - i) = ((size - 1 - i : Nat) : Int) := by rw [wrap_id] <;> omega
    have hw3 : IntKind.i64.wrap (8 * ((size - 1 - i : Nat) : Int)) = ((8 * (size - 1 - i) : Nat) : Int) := by rw [wrap_id] <;> omega
    have hw4 : IntKind.i64.wrap (i + 1) = (i + 1 : Nat) := by rw [wrap_id] <;> omega
    have hmin : min (8 * (size - 1 - i)) IntKind.i64.bits = 8 * (size - 1 - i) := Nat.min_eq_left (by show _ ≤ 64; omega)
    have h1 : ∃ v, ld1 H1 (Ptr p 0) = some v := by obtain ⟨_, v, hp, _⟩ := ho; exact ⟨v, by rw [ld1_at hp]; rfl⟩
    obtain ⟨v, hv⟩ := h1
    have kp : Keep (fun _ => False) H1 (H1.push (.cells #[.int .u8 (byteOf n (8 * (size - 1 - i))).toNat] T_uint8 (0, 0))) := Keep.push
    have ho2 := ho.keep kp fun _ _ => id
    obtain ⟨v2, hv2, happ⟩ := ho2.app (x := .slice (some ⟨H1.size, 0, none⟩) 1 1) (m := [byteOf n (8 * (size - 1 - i))]) (k := fun h5 => k (.int .i64 (i + 1 : Nat)) h5) (Bs.mk push_new rfl (by simp) rfl) (by simp; omega) (hf _ (by have := hk1.1; simp; omega)) fun H' ho' hk' =>
      hk _ _ ⟨i + 1, hlt', rfl, by rw [numTo_succ, ← List.append_assoc]; exact ho', hk1.trans ((kp.mono fun _ _ h => h.elim).trans hk')⟩ (by show size - (i + 1) < size - i; omega)
    have hv3 := hv2
    obtain ⟨hnp, v0, hp, _⟩ := ho
    have e0 : v0 = v := by rw [ld1_at hp] at hv; simpa using hv
    have e1 : v2 = v := by rw [ld1_at (push_old hp)] at hv2; simp at hv2; rw [← hv2, e0]
    subst e1
    simp only [nck_ptr, fld_ptr, Mpu_some, Nat.zero_add, hv, hw1, hw2, hw3, hw4, binV_int, intV, binV_shr, Int.toNat_natCast, hmin]
    rw [if_neg (by omega)]
    simp only [Mpu_some, cvI_int, wrap_u8']
    show Mnews H1 T_uint8 1 (bslV prg T_uint8 1 [(0, .int .u8 (byteOf n (8 * (size - 1 - i))).toNat)]) _
    rw [bsl1, Mnews_some]
    simp only [Mre_cons, Mre_nil, hv2, true_and]
    exact happ
  · rw [if_neg hlt]
    have : i = size := by omega
    subst this
    exact ⟨trivial, ho, hk1⟩

theorem c_Out_Int {F : Nat → Prop} {p : Nat} {H : Heap} {l : List UInt8} (h : OutAt F p H l) (n : Int) (hl : l.length + 8 ≤ 140737488355328) (hf : ∀ b, H.size ≤ b → F b) :
    HCalls prg f_wire_Out_Int [Ptr p 0, .int .i64 n] H fun u H' => u = Ptr p 0 ∧ OutAt F p H' (l ++ numB n 8) ∧ Keep (Wr F p) H H' := by
  apply sh_wire_Out_Int_calls
  unfold sh_wire_Out_Int
  refine call_i (c_Out_number h n 8 (by omega) hl hf) ?_
  rintro u h1 ⟨rfl, ho, hk⟩
  exact ⟨rfl, ho, hk⟩

theorem c_Out_Hash {F : Nat → Prop} {p : Nat} {H : Heap} {l m : List UInt8} (h : OutAt F p H l) (hm : m.length = 32) (hl : l.length + 32 ≤ 140737488355328) (hf : ∀ b, H.size ≤ b → F b) :
    HCalls prg f_wire_Out_Hash [Ptr p 0, bv m] H fun u H' => u = Ptr p 0 ∧ OutAt F p H' (l ++ m) ∧ Keep (Wr F p) H H' := by
  apply sh_wire_Out_Hash_calls
  unfold sh_wire_Out_Hash
  simp only [Mnew_some, cells_bv]
  have kp : Keep (fun _ => False) H (H.push (.cells (bcells m).toArray T_sha_Hash (0, 0))) := Keep.push
  have hx : Bs (H.push (.cells (bcells m).toArray T_sha_Hash (0, 0))) (.slice (some ⟨H.size, 0, none⟩) 32 32) m := Bs.mk push_new hm.symm (by simp [hm]) (by simp [← hm, List.take_of_length_le])
  obtain ⟨v, hv, happ⟩ := (h.keep kp fun _ _ => id).app (k := fun h5 => True ∧ OutAt F p h5 (l ++ m) ∧ Keep (Wr F p) H h5) hx (by omega) (hf _ (by simp)) fun H' ho' hk' => ⟨trivial, ho', (kp.mono fun _ _ h => h.elim).trans hk'⟩
  have e : slA 32 1 (.pointer (some ⟨H.size, 0, none⟩)) none none none = some (.slice (some ⟨H.size, 0, none⟩) 32 32) := rfl
  simp only [nck_ptr, fld_ptr, Mpu_some, Nat.zero_add, hv, e]
  exact happ

theorem c_Out_All {F : Nat → Prop} {p : Nat} {H : Heap} {l : List UInt8} (h : OutAt F p H l) (hl : l.length ≤ 140737488355328) (hf : ∀ b, H.size ≤ b → F b) :
    HCalls prg f_wire_Out_All [Ptr p 0] H fun u H' => Buf F H' u l ∧ Keep F H H' := by
  apply sh_wire_Out_All_calls
  unfold sh_wire_Out_All
  obtain ⟨hnp, v, hp, ho⟩ := h
  simp only [nck_ptr, fld_ptr, Mpu_some, Nat.zero_add, ld1_at hp, List.getElem?_toArray, List.getElem?_cons_zero]
  exact call_i (c_CloneS ho.sl hl hf) fun v h' hR => hR


theorem c_Out_count {F : Nat → Prop} {p : Nat} {H : Heap} {l : List UInt8} (h : OutAt F p H l) (n : Int) (hl : l.length + 4 ≤ 140737488355328) (hf : ∀ b, H.size ≤ b → F b) :
    HCalls prg f_wire_Out_count [Ptr p 0, .int .i64 n] H fun u H' => u = .tuple #[] ∧ OutAt F p H' (l ++ numB n 4) ∧ Keep (Wr F p) H H' := by
  apply sh_wire_Out_count_calls
  unfold sh_wire_Out_count
  refine call_i (c_Out_number h n 4 (by omega) hl hf) ?_
  rintro u h1 ⟨rfl, ho, hk⟩
  exact ⟨rfl, ho, hk⟩

def textB (m : List UInt8) : List UInt8 := numB m.length 4 ++ m
theorem c_Out_Bytes {F : Nat → Prop} {p : Nat} {H : Heap} {l m : List UInt8} {x : Value} (h : OutAt F p H l) (hx : Bs H x m) (hxl : lenV x = some (.int .i64 m.length)) (hxb : ∀ b, blk x = some b → ¬ Wr F p b) (hl : l.length + 4 + m.length ≤ 140737488355328) (hf : ∀ b, H.size ≤ b → F b) :
    HCalls prg f_wire_Out_Bytes [Ptr p 0, x] H fun u H' => u = Ptr p 0 ∧ OutAt F p H' (l ++ textB m) ∧ Keep (Wr F p) H H' := by
  apply sh_wire_Out_Bytes_calls
  unfold sh_wire_Out_Bytes
  simp only [hxl, Mpu_some]
  refine call_i (c_Out_count h m.length (by omega) hf) ?_
  rintro _ h1 ⟨rfl, ho, hk⟩
  have hx1 : Bs h1 x m := hx.keep hk hxb
  obtain ⟨v, hv, happ⟩ := ho.app (k := fun h5 => True ∧ OutAt F p h5 (l ++ textB m) ∧ Keep (Wr F p) H h5) hx1 (by simp; omega) (hf _ hk.1) fun H' ho' hk' => ⟨trivial, by unfold textB; rw [← List.append_assoc]; exact ho', hk.trans hk'⟩
  simp only [nck_ptr, fld_ptr, Mpu_some, Nat.zero_add, hv]
  exact happ

theorem OutAt.avoid {F : Nat → Prop} {p : Nat} {H : Heap} {l : List UInt8} (h : OutAt F p H l) : OutAt (fun b => F b ∧ b ≠ H.size) p H l := by
  obtain ⟨h1, v, h2, h3⟩ := h
  refine ⟨fun h => h1 h.1, v, h2, ?_⟩
  rcases h3 with h | ⟨b, o, c, cs, T, f, rfl, hf, hc, hb, hr⟩
  · exact .inl h
  · exact .inr ⟨b, o, c, cs, T, f, rfl, ⟨hf, Nat.ne_of_lt (lt_of hb)⟩, hc, hb, hr⟩
theorem OutAt.mono {F G : Nat → Prop} {p : Nat} {H : Heap} {l : List UInt8} (h : OutAt F p H l) (k : ∀ b, F b → G b) (hp : ¬ G p) : OutAt G p H l := by
  obtain ⟨h1, v, h2, h3⟩ := h
  exact ⟨hp, v, h2, Buf.mono h3 k⟩

theorem c_Out_Text {F : Nat → Prop} {p : Nat} {H : Heap} {l m : List UInt8} (h : OutAt F p H l) (hl : l.length + 4 + m.length ≤ 140737488355328) (hf : ∀ b, H.size ≤ b → F b) :
    HCalls prg f_wire_Out_Text [Ptr p 0, str m] H fun u H' => u = Ptr p 0 ∧ OutAt F p H' (l ++ textB m) ∧ Keep (Wr F p) H H' := by
  apply sh_wire_Out_Text_calls
  unfold sh_wire_Out_Text
  refine ⟨_, rfl, by rw [size_mk]; omega, fun cap h1 h2 => ?_⟩
  rw [size_mk] at h1 ⊢
  have kp : ∀ c : Array Value, ∀ T f, Keep (fun _ => False) H (H.push (.cells c T f)) := fun c T f => Keep.push
  have hsz : ∀ c : Array Value, ∀ T f, (H.push (.cells c T f)).size = H.size + 1 := fun c T f => by simp
  have hpn : p ≠ H.size := by obtain ⟨_, v, h2, _⟩ := h; exact Nat.ne_of_lt (lt_of h2)
  refine call_i (c_Out_Bytes (F := fun b => F b ∧ b ≠ H.size) (x := .slice (some ⟨H.size, 0, none⟩) m.length cap) (m := m) (h.avoid.keep (kp _ _ _) fun _ _ => id) (Bs.mk push_new rfl (by simp) (by simp [bcells])) rfl ?_ hl fun b hb => ⟨hf b (by rw [hsz] at hb; omega), by rw [hsz] at hb; omega⟩) ?_
  · rintro b hb (h | h)
    · cases hb; exact h.2 rfl
    · cases hb; exact hpn h.symm
  · rintro u h1 ⟨rfl, ho, hk⟩
    exact ⟨rfl, ho.mono (fun b h => h.1) h.1, ((kp _ _ _).mono fun _ _ h => h.elim).trans (hk.mono fun b _ h => h.imp (fun h => h.1) id)⟩

end Go.Proofs.YtmhfanpijdgkjaaDoor
