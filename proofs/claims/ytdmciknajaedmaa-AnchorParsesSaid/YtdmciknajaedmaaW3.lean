/- wire: hashes and bools read; what the writers do. -/
import Derived.Test.YtdmciknajaedmaaW2
namespace Go.Proofs.Ytdmciknajaedmaa
open Go.X
set_option maxRecDepth 100000

def rHash (s : RS) : List UInt8 := if tkB 32 s then zeroH else s.1.take 32
theorem rHash_len {s : RS} : (rHash s).length = 32 := by
  unfold rHash tkB
  split
  · rfl
  · rename_i h; simp at h; simp [h.2]

theorem c_In_Hash {P : Nat → Prop} {p : Nat} {H : Heap} {s : RS} (h : InAt P p H s) :
    HCalls prg f_wire_In_Hash [Ptr p 0] H fun u H' => u = bv (rHash s) ∧ InAt P p H' (tkS 32 s) ∧ Keep (· = p) H H' := by
  apply sh_wire_In_Hash_calls
  unfold sh_wire_In_Hash
  have hz : zeroH.length = 32 := rfl
  have hlt := h.lt
  have hP := h.1.2
  have e : ∀ q o, slA 32 1 (.pointer (some ⟨q, o, none⟩)) none none none = some (.slice (some ⟨q, o, none⟩) zeroH.length 32) := fun q o => rfl
  simp only [z_Hash, Mnew_some, e, Mpu_some]
  have k2 : Keep (fun _ => False) H ((H.push (.cells (bcells zeroH).toArray T_sha_Hash (0, 0))).push (.cells (bcells zeroH).toArray T_sha_Hash (0, 0))) := Keep.push.trans Keep.push
  refine call_i (c_take (h.keep k2 id fun _ _ => id) 32) ?_
  rintro u h3 ⟨hu, hi, hk⟩
  have hr : h3[H.size]? = some (.cells (bcells zeroH).toArray T_sha_Hash (0, 0)) := hk.at (push_old push_new) (by omega)
  have hq : h3[(H.push (.cells (bcells zeroH).toArray T_sha_Hash (0, 0))).size]? = some (.cells (bcells zeroH).toArray T_sha_Hash (0, 0)) := hk.at push_new (by simp; omega)
  generalize hqe : (H.push (.cells (bcells zeroH).toArray T_sha_Hash (0, 0))).size = q at *
  have hqr : H.size < q := by rw [← hqe]; simp
  have ho : (tkO 32 s).length ≤ zeroH.length := by rw [tkO, hz]; split <;> simp; omega
  refine copy_bytes hq hu.bs ho ?_
  have hw : tkO 32 s ++ zeroH.drop (tkO 32 s).length = rHash s := by
    unfold rHash tkO
    split
    · rfl
    · rename_i hb
      simp only [tkB, Bool.or_eq_true, decide_eq_true_eq, not_or] at hb
      have : (s.1.take 32).length = 32 := by simp; omega
      rw [this]; simp [zeroH]
  rw [hw, ldN_bytes (set_self hq) rHash_len, Mpu_some, stN_bytes (set_other hr (by omega)) hz rHash_len, Mwr_some, ldN_bytes (set_self (set_other hr (by omega))) rHash_len, Mpu_some]
  have k4 : Keep (fun b => b = q ∨ b = H.size) h3 ((h3.setIfInBounds q (.cells (bcells (rHash s)).toArray T_sha_Hash (0, 0))).setIfInBounds H.size (.cells (bcells (rHash s)).toArray T_sha_Hash (0, 0))) := (Keep.set (Or.inl rfl)).trans (Keep.set (Or.inr rfl))
  have hle := hk.1
  refine ⟨rfl, hi.keep k4 (by omega) fun b hb => ?_, ?_⟩
  · have := hP b hb; omega
  · refine ⟨Nat.le_trans k2.1 (Nat.le_trans hle k4.1), fun i hi' hn => ?_⟩
    rw [k4.2 i (by have := k2.1; omega) (by omega), hk.2 i (by have := k2.1; omega) hn, k2.2 i hi' id]

def rBool (s : RS) : Bool := !tkB 1 s && (s.1.headD 0 == 1)
def rBoolS (s : RS) : RS := ((tkS 1 s).1, tkB 1 s || decide ((s.1.headD 0).toNat > 1))
theorem c_In_Bool {P : Nat → Prop} {p : Nat} {H : Heap} {s : RS} (h : InAt P p H s) :
    HCalls prg f_wire_In_Bool [Ptr p 0] H fun u H' => u = .bool (rBool s) ∧ InAt P p H' (rBoolS s) ∧ Keep (· = p) H H' := by
  apply sh_wire_In_Bool_calls
  unfold sh_wire_In_Bool
  refine call_i (c_take h 1) ?_
  rintro u h1 ⟨hu, hi, hk⟩
  simp only [nck_ptr, fld_ptr, Mpu_some, Nat.zero_add, hi.bad, Mcd_bool]
  have e : (tkS 1 s).2 = tkB 1 s := rfl
  rw [e]
  by_cases hb : tkB 1 s = true
  · rw [if_pos hb]
    refine ⟨by simp [rBool, hb], ?_, hk⟩
    have : rBoolS s = tkS 1 s := by unfold rBoolS; rw [hb]; exact Prod.ext rfl (by rw [e, hb]; rfl)
    rw [this]; exact hi
  · rw [if_neg hb]
    have hb' : tkB 1 s = false := by simpa using hb
    obtain ⟨l, bad⟩ := s
    have hn : ¬ l.length < 1 := by intro h; simp [tkB, h] at hb'
    obtain ⟨x, l, rfl⟩ := List.exists_cons_of_length_pos (show 0 < l.length by omega)
    have ho : tkO 1 (x :: l, bad) = [x] := by rw [tkO, hb']; rfl
    rw [ho] at hu
    obtain ⟨y, hy, hy', hyb⟩ := hu.at (i := 0) (x := x) rfl
    obtain ⟨h2, hst, hin, hk2⟩ := hi.setBad (decide (x.toNat > 1))
    have hy2 : ld1 h2 y = some (.int .u8 x.toNat) := by
      obtain ⟨z, hz, hz', _⟩ := (hu.keep hk2 fun b hb e => h.1.1 (e ▸ hb)).at (i := 0) (x := x) rfl
      rw [hy] at hz; cases hz; exact hz'
    have hy : ixS 1 u (.int .i64 0) = some y := hy
    have hd : decide ((x.toNat : Int) > 1) = decide (x.toNat > 1) := by rw [decide_eq_decide]; omega
    simp only [hy, Mpu_some, hy', binV_int, intV, hd, hst, Mwr_some, hy2]
    refine ⟨?_, ?_, hk.trans hk2⟩
    · simp only [rBool, hb', List.headD_cons, Bool.not_false, Bool.true_and]
      congr 1
      rw [Bool.eq_iff_iff, beq_iff_eq, beq_iff_eq]
      constructor
      · intro h; apply UInt8.toNat.inj; have : x.toNat = 1 := by omega
        simpa using this
      · rintro rfl; rfl
    · have : rBoolS (x :: l, bad) = ((tkS 1 (x :: l, bad)).1, decide (x.toNat > 1)) := by simp [rBoolS, hb']
      rw [this]; exact hin

theorem c_In_Done {P : Nat → Prop} {p : Nat} {H : Heap} {s : RS} (h : InAt P p H s) :
    HCalls prg f_wire_In_Done [Ptr p 0] H fun u H' => u = .bool (!s.2 && s.1.isEmpty) ∧ H' = H := by
  apply sh_wire_In_Done_calls
  unfold sh_wire_In_Done
  obtain ⟨l, bad⟩ := s
  obtain ⟨_, v, hp, hs⟩ := h
  simp only [nck_ptr, fld_ptr, Mpu_some, ld1_at hp, Nat.zero_add, List.getElem?_toArray, List.getElem?_cons_succ, List.getElem?_cons_zero, Mif_bool, hs.len, binV_int, intV, J1_eq, unV_not]
  cases bad
  · simp
    cases l <;> simp <;> omega
  · simp

/- THE WRITER -/
/-- the writer at block p holds l; its bytes lie in blocks of F -/
def OutAt (F : Nat → Prop) (p : Nat) (H : Heap) (l : List UInt8) : Prop :=
  ¬ F p ∧ ∃ v, H[p]? = some (.cells #[v] T_wire_Out (0, 0)) ∧ Own F H v l
def Wr (F : Nat → Prop) (p : Nat) : Nat → Prop := fun b => F b ∨ b = p
theorem OutAt.keep {F S : Nat → Prop} {p : Nat} {H H' : Heap} {l : List UInt8} (h : OutAt F p H l) (k : Keep S H H') (hs : ∀ b, Wr F p b → ¬ S b) : OutAt F p H' l := by
  obtain ⟨h1, v, h2, h3⟩ := h
  exact ⟨h1, v, k.at h2 (hs p (.inr rfl)), h3.keep k fun b hb => hs b (.inl hb)⟩

theorem OutAt.app {F : Nat → Prop} {p : Nat} {H : Heap} {l m : List UInt8} {x : Value} {k : Heap → Prop} (h : OutAt F p H l) (hx : Bs H x m) (hlen : l.length + m.length ≤ 140737488355328) (hf : F H.size)
    (hk : ∀ H', OutAt F p H' (l ++ m) → Keep (Wr F p) H H' → k H') : ∃ v, ld1 H (Ptr p 0) = some v ∧ Mapp T_uint8 1 1 H v x fun u h => Mwr (st1 h (Ptr p 0) u) k := by
  obtain ⟨hn, v, hp, ho⟩ := h
  refine ⟨v, by rw [ld1_at hp]; rfl, ho.app hx hlen hf fun u H' ho' hk' => ?_⟩
  have hp' := hk'.at hp hn
  rw [st1_at hp' 0 u (by simp) ho'.sl.one, Mwr_some]
  have k1 : Keep (· = p) H' (H'.setIfInBounds p (.cells (#[v].setIfInBounds 0 u) T_wire_Out (0, 0))) := Keep.set rfl
  exact hk _ ⟨hn, u, by rw [set_self hp']; rfl, ho'.keep k1 fun b hb e => hn (e ▸ hb)⟩ ((hk'.mono fun _ _ h => .inl h).trans (k1.mono fun _ _ h => .inr h))

def byteOf (n : Int) (s : Nat) : UInt8 := UInt8.ofNat ((n.fdiv (2 ^ s)) % 256).toNat
def numB (n : Int) (size : Nat) : List UInt8 := (List.range size).map fun i => byteOf n (8 * (size - 1 - i))
def numTo (n : Int) (size j : Nat) : List UInt8 := (List.range j).map fun i => byteOf n (8 * (size - 1 - i))
@[simp] theorem numB_len {n : Int} {s : Nat} : (numB n s).length = s := by simp [numB]
@[simp] theorem numTo_len {n : Int} {s j : Nat} : (numTo n s j).length = j := by simp [numTo]
theorem numTo_succ {n : Int} {s j : Nat} : numTo n s (j + 1) = numTo n s j ++ [byteOf n (8 * (s - 1 - j))] := by simp [numTo, List.range_succ]
theorem wrap_u8' (m : Int) : IntKind.u8.wrap m = (UInt8.ofNat (m % 256).toNat).toNat := by
  simp only [IntKind.wrap, IntKind.bits, IntKind.signed]; simp; omega

theorem c_Out_number {F : Nat → Prop} {p : Nat} {H : Heap} {l : List UInt8} (h : OutAt F p H l) (n : Int) (size : Nat) (hs : size ≤ 8) (hl : l.length + size ≤ 140737488355328) (hf : ∀ b, H.size ≤ b → F b) :
    HCalls prg f_wire_Out_number [Ptr p 0, .int .i64 n, .int .i64 size] H fun u H' => u = .tuple #[] ∧ OutAt F p H' (l ++ numB n size) ∧ Keep (Wr F p) H H' := by
  apply sh_wire_Out_number_calls
  unfold sh_wire_Out_number
  refine L1_i (fun u h' => ∃ i, i ≤ size ∧ u = .int .i64 (i : Nat) ∧ OutAt F p h' (l ++ numTo n size i) ∧ Keep (Wr F p) H h') (fun u _ => match u with | .int _ i => size - i.toNat | _ => 0) ⟨0, Nat.zero_le _, rfl, by simpa [numTo] using h, Keep.refl⟩ ?_
  rintro _ H1 ⟨i, hi, rfl, ho, hk1⟩ k hk
  simp only [binV_int, intV, Mpu_some, Mcd_bool, decide_eq_true_eq]
  by_cases hlt : (i : Int) < size
  · rw [if_pos hlt]
    have hlt' : i < size := by omega
    have hw1 : IntKind.i64.wrap ((size : Int) - 1) = ((size - 1 : Nat) : Int) := by rw [wrap_id] <;> omega
    have hw2 : IntKind.i64.wrap (((size - 1 : Nat) : Int) - i) = ((size - 1 - i : Nat) : Int) := by rw [wrap_id] <;> omega
    have hw3 : IntKind.i64.wrap (8 * ((size - 1 - i : Nat) : Int)) = ((8 * (size - 1 - i) : Nat) : Int) := by rw [wrap_id] <;> omega
    have hw4 : IntKind.i64.wrap (i + 1) = (i + 1 : Nat) := by rw [wrap_id] <;> omega
    have hmin : min (8 * (size - 1 - i)) IntKind.i64.bits = 8 * (size - 1 - i) := Nat.min_eq_left (by show _ ≤ 64; omega)
    have h1 : ∃ v, ld1 H1 (Ptr p 0) = some v := by obtain ⟨_, v, hp, _⟩ := ho; exact ⟨v, by rw [ld1_at hp]; rfl⟩
    obtain ⟨v, hv⟩ := h1
    have kp : Keep (fun _ => False) H1 (H1.push (.cells #[.int .u8 (byteOf n (8 * (size - 1 - i))).toNat] T_uint8 (0, 0))) := Keep.push
    have ho2 := ho.keep kp fun _ _ => id
    obtain ⟨v2, hv2, happ⟩ := ho2.app (x := .slice (some ⟨H1.size, 0, none⟩) 1 1) (m := [byteOf n (8 * (size - 1 - i))]) (k := fun h5 => k (.int .i64 (i + 1 : Nat)) h5) (Bs.mk push_new rfl (by simp) rfl) (by simp; omega) (hf _ (by have := hk1.1; simp; omega)) fun H' ho' hk' =>
      hk _ _ ⟨i + 1, hlt', rfl, by rw [numTo_succ, ← List.append_assoc]; exact ho', hk1.trans ((kp.mono fun _ _ h => h.elim).trans hk')⟩ (by show size - (i + 1) < size - i; omega)
    have hv3 := hv2
    obtain ⟨hnp, v0, hp, _⟩ := ho
    have e0 : v0 = v := by rw [ld1_at hp] at hv; simpa using hv
    have e1 : v2 = v := by rw [ld1_at (push_old hp)] at hv2; simp at hv2; rw [← hv2, e0]
    subst e1
    simp only [nck_ptr, fld_ptr, Mpu_some, Nat.zero_add, hv, hw1, hw2, hw3, hw4, binV_int, intV, binV_shr, Int.toNat_natCast, hmin]
    rw [if_neg (by omega)]
    simp only [Mpu_some, cvI_int, wrap_u8']
    show Mnews H1 T_uint8 1 (bslV prg T_uint8 1 [(0, .int .u8 (byteOf n (8 * (size - 1 - i))).toNat)]) _
    rw [bsl1, Mnews_some]
    simp only [Mre_cons, Mre_nil, hv2, true_and]
    exact happ
  · rw [if_neg hlt]
    have : i = size := by omega
    subst this
    exact ⟨trivial, ho, hk1⟩

theorem c_Out_Int {F : Nat → Prop} {p : Nat} {H : Heap} {l : List UInt8} (h : OutAt F p H l) (n : Int) (hl : l.length + 8 ≤ 140737488355328) (hf : ∀ b, H.size ≤ b → F b) :
    HCalls prg f_wire_Out_Int [Ptr p 0, .int .i64 n] H fun u H' => u = Ptr p 0 ∧ OutAt F p H' (l ++ numB n 8) ∧ Keep (Wr F p) H H' := by
  apply sh_wire_Out_Int_calls
  unfold sh_wire_Out_Int
  refine call_i (c_Out_number h n 8 (by omega) hl hf) ?_
  rintro u h1 ⟨rfl, ho, hk⟩
  exact ⟨rfl, ho, hk⟩

theorem c_Out_Hash {F : Nat → Prop} {p : Nat} {H : Heap} {l m : List UInt8} (h : OutAt F p H l) (hm : m.length = 32) (hl : l.length + 32 ≤ 140737488355328) (hf : ∀ b, H.size ≤ b → F b) :
    HCalls prg f_wire_Out_Hash [Ptr p 0, bv m] H fun u H' => u = Ptr p 0 ∧ OutAt F p H' (l ++ m) ∧ Keep (Wr F p) H H' := by
  apply sh_wire_Out_Hash_calls
  unfold sh_wire_Out_Hash
  simp only [Mnew_some, cells_bv]
  have kp : Keep (fun _ => False) H (H.push (.cells (bcells m).toArray T_sha_Hash (0, 0))) := Keep.push
  have hx : Bs (H.push (.cells (bcells m).toArray T_sha_Hash (0, 0))) (.slice (some ⟨H.size, 0, none⟩) 32 32) m := Bs.mk push_new hm.symm (by simp [hm]) (by simp [← hm, List.take_of_length_le])
  obtain ⟨v, hv, happ⟩ := (h.keep kp fun _ _ => id).app (k := fun h5 => True ∧ OutAt F p h5 (l ++ m) ∧ Keep (Wr F p) H h5) hx (by omega) (hf _ (by simp)) fun H' ho' hk' => ⟨trivial, ho', (kp.mono fun _ _ h => h.elim).trans hk'⟩
  have e : slA 32 1 (.pointer (some ⟨H.size, 0, none⟩)) none none none = some (.slice (some ⟨H.size, 0, none⟩) 32 32) := rfl
  simp only [nck_ptr, fld_ptr, Mpu_some, Nat.zero_add, hv, e]
  exact happ

theorem c_Out_Bool {F : Nat → Prop} {p : Nat} {H : Heap} {l : List UInt8} (h : OutAt F p H l) (b : Bool) (hl : l.length + 1 ≤ 140737488355328) (hf : ∀ b, H.size ≤ b → F b) :
    HCalls prg f_wire_Out_Bool [Ptr p 0, .bool b] H fun u H' => u = Ptr p 0 ∧ OutAt F p H' (l ++ [if b then 1 else 0]) ∧ Keep (Wr F p) H H' := by
  apply sh_wire_Out_Bool_calls
  unfold sh_wire_Out_Bool
  have key : ∀ x : UInt8, Mpu (ld1 H (Ptr p 0)) fun t11 => Mnews H T_uint8 1 (bslV prg T_uint8 1 [(0, .int .u8 x.toNat)]) fun t13 h3 => Mapp T_uint8 1 1 h3 t11 t13 fun t14 h4 => Mwr (st1 h4 (Ptr p 0) t14) fun h5 => True ∧ OutAt F p h5 (l ++ [x]) ∧ Keep (Wr F p) H h5 := fun x => by
    have kp : Keep (fun _ => False) H (H.push (.cells #[.int .u8 x.toNat] T_uint8 (0, 0))) := Keep.push
    obtain ⟨v2, hv2, happ⟩ := (h.keep kp fun _ _ => id).app (x := .slice (some ⟨H.size, 0, none⟩) 1 1) (m := [x]) (k := fun h5 => True ∧ OutAt F p h5 (l ++ [x]) ∧ Keep (Wr F p) H h5) (Bs.mk push_new rfl (by simp) rfl) (by simpa using hl) (hf _ (by simp)) fun H' ho' hk' => ⟨trivial, ho', (kp.mono fun _ _ h => h.elim).trans hk'⟩
    obtain ⟨hnp, v0, hp, _⟩ := h
    have e1 : v2 = v0 := by rw [ld1_at (push_old hp)] at hv2; simpa using hv2.symm
    subst e1
    rw [ld1_at hp, bsl1]
    exact ⟨v2, rfl, Mnews_some.2 happ⟩
  cases b
  · simp only [J1_eq, Mcd_bool, nck_ptr, fld_ptr, Mpu_some, Nat.zero_add, Bool.false_eq_true, if_false]
    exact key 0
  · simp only [J1_eq, Mcd_bool, nck_ptr, fld_ptr, Mpu_some, Nat.zero_add, if_true]
    exact key 1

theorem c_Out_All {F : Nat → Prop} {p : Nat} {H : Heap} {l : List UInt8} (h : OutAt F p H l) (hl : l.length ≤ 140737488355328) (hf : ∀ b, H.size ≤ b → F b) :
    HCalls prg f_wire_Out_All [Ptr p 0] H fun u H' => Own F H' u l ∧ Keep F H H' := by
  apply sh_wire_Out_All_calls
  unfold sh_wire_Out_All
  obtain ⟨hnp, v, hp, ho⟩ := h
  simp only [nck_ptr, fld_ptr, Mpu_some, Nat.zero_add, ld1_at hp, List.getElem?_toArray, List.getElem?_cons_zero]
  exact call_i (c_CloneS ho.sl hl hf) fun v h' hR => hR

end Go.Proofs.Ytdmciknajaedmaa
