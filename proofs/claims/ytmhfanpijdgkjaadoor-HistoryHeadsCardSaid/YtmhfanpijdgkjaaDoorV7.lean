/- strings: the Builder, Join. -/
import Derived.Test.YtmhfanpijdgkjaaDoorV6
import Derived.Lib.Builder
import Derived.Lib.MakeNoZero
import Derived.Lib.UnsafeStr
namespace Go.Proofs.YtmhfanpijdgkjaaDoor
open Go.X
set_option maxRecDepth 100000

/-- a builder's buffer: nil, or the head of a row of bytes of its own -/
def Row (F : Nat → Prop) (H : Heap) (v : Value) (l : List UInt8) : Prop :=
  (v = .slice none 0 0 ∧ l = []) ∨ ∃ b c cs, v = .slice (some ⟨b, 0, none⟩) l.length c ∧ F b ∧ l.length ≤ c ∧ H[b]? = some (.cells cs T_uint8 (0, 0)) ∧ c ≤ cs.size ∧ 0 < c ∧ cs.toList.take l.length = bcells l
theorem Row.one {F : Nat → Prop} {H : Heap} {v : Value} {l : List UInt8} (h : Row F H v l) : v.oneCell' = true := by
  rcases h with ⟨rfl, _⟩ | ⟨b, c, cs, rfl, _⟩ <;> rfl
theorem Row.len {F : Nat → Prop} {H : Heap} {v : Value} {l : List UInt8} (h : Row F H v l) : lenV v = some (.int .i64 l.length) := by
  rcases h with ⟨rfl, rfl⟩ | ⟨b, c, cs, rfl, _⟩ <;> rfl
theorem Row.keep {F S : Nat → Prop} {H H' : Heap} {v : Value} {l : List UInt8} (h : Row F H v l) (k : Keep S H H') (hs : ∀ b, F b → ¬ S b) : Row F H' v l := by
  rcases h with h | ⟨b, c, cs, rfl, hf, hc, hb, hr⟩
  · exact .inl h
  · exact .inr ⟨b, c, cs, rfl, hf, hc, k.at hb (hs b hf), hr⟩
theorem Row.app {F : Nat → Prop} {H : Heap} {s x : Value} {l m : List UInt8} {k : Value → Heap → Prop} (h : Row F H s l) (hx : Bs H x m) (hlen : l.length + m.length ≤ 140737488355328) (hf : F H.size)
    (hk : ∀ v H', Row F H' v (l ++ m) → Keep F H H' → k v H') : Mapp T_uint8 1 1 H s x k := by
  rcases h with ⟨rfl, rfl⟩ | ⟨b, c, cs, rfl, hb', hc, hb, hle, h0c, hl⟩
  · refine ⟨none, 0, 0, m.length, (bcells m).toArray, rfl, hx, bcells_all, fun h0 => ?_, fun h0 => ⟨by simpa using hlen, Nat.one_pos, #[], rfl, fun cap rest h1 h2 h3 => ?_⟩⟩
    · have : m = [] := List.length_eq_zero_iff.1 (by omega)
      subst this
      exact hk _ _ (.inl ⟨rfl, rfl⟩) Keep.refl
    · refine hk _ _ (.inr ⟨H.size, cap, _, by simp, hf, by simpa using h1, push_new, ?_, by omega, ?_⟩) Keep.push
      · simp at h3 ⊢; omega
      · simp
  · refine ⟨some ⟨b, 0, none⟩, l.length, c, m.length, (bcells m).toArray, rfl, hx, bcells_all, fun h0 => ?_, fun h0 => ⟨by simpa using hlen, Nat.one_pos, (bcells l).toArray, ?_, fun cap rest h1 h2 h3 => ?_⟩⟩
    · refine ⟨_, stA_at hb _ _ thaw_00 (by simp; omega) bcells_all, hk _ _ (.inr ⟨b, c, _, by simp, hb', by simpa using h0, set_self hb, ?_, h0c, ?_⟩) (Keep.set hb')⟩
      · rw [spl_size (by simp; omega)]; exact hle
      · show (List.take (0 + l.length * 1) cs.toList ++ bcells m ++ _).take (l ++ m).length = _
        rw [Nat.mul_one, Nat.zero_add, hl, List.take_append_of_le_length (by simp), ← bcells_append, List.take_of_length_le (by simp)]
    · exact Bs.mk hb rfl (by omega) (by simpa using hl)
    · refine hk _ _ (.inr ⟨H.size, cap, _, by simp, hf, by simpa using h1, push_new, ?_, by omega, ?_⟩) Keep.push
      · simp at h3 ⊢; omega
      · show (((bcells l).toArray ++ (bcells m).toArray ++ rest).toList).take (l ++ m).length = _
        simp only [Array.toList_append]; rw [List.take_append_of_le_length (by simp), ← bcells_append, List.take_of_length_le (by simp)]

/-- a builder at block p that holds l -/
def BAt (F : Nat → Prop) (p : Nat) (H : Heap) (l : List UInt8) : Prop :=
  ¬ F p ∧ ∃ a v, H[p]? = some (.cells #[a, v] T_strings_Builder (0, 0)) ∧ (a = .pointer none ∨ a = Ptr p 0) ∧ Row F H v l
theorem BAt.keep {F S : Nat → Prop} {p : Nat} {H H' : Heap} {l : List UInt8} (h : BAt F p H l) (k : Keep S H H') (hs : ∀ b, Wr F p b → ¬ S b) : BAt F p H' l := by
  obtain ⟨h1, a, v, h2, h3, h4⟩ := h
  exact ⟨h1, a, v, k.at h2 (hs p (.inr rfl)), h3, h4.keep k fun b hb => hs b (.inl hb)⟩
theorem z_Builder : zcells prg T_strings_Builder = some #[.pointer none, .slice none 0 0] := by kernel_rfl

theorem xt_NoEscape {args : Array Value} : xtV prg f_internal_abi_NoEscape args = Extern.AbiNoEscape.same args := by kernel_rfl
theorem u_PB : prg.underlying T_P_strings_Builder = some (.pointer T_strings_Builder) := by kernel_rfl
theorem u_UP : prg.underlying T_unsafe_Pointer = some .unsafePointer := by kernel_rfl
theorem i_B : ∃ j, prg.info? T_strings_Builder = some j ∧ j.size ≠ 0 := by
  have h : (match prg.info? T_strings_Builder with | some j => j.size != 0 | none => false) = true := by kernel_rfl
  split at h
  · rename_i j hj; exact ⟨j, hj, by simpa using h⟩
  · cases h
theorem lies_B : liesAt prg prg.depth T_strings_Builder (2 / prg.cellsOf T_strings_Builder) 0 T_strings_Builder 1 = true := by kernel_rfl

theorem c_copyCheck {F : Nat → Prop} {p : Nat} {H : Heap} {l : List UInt8} (h : BAt F p H l) :
    HCalls prg f_strings_Builder_copyCheck [Ptr p 0] H fun u H' => u = .tuple #[] ∧ BAt F p H' l ∧ Keep (· = p) H H' := by
  apply sh_strings_Builder_copyCheck_calls
  unfold sh_strings_Builder_copyCheck
  obtain ⟨hF, a, v, hp, ha, hr⟩ := h
  have d0 : ld1 H (Ptr p 0) = some a := by rw [ld1_at hp]; rfl
  simp only [nck_ptr, fld_ptr, Mpu_some, Nat.zero_add, d0]
  rcases ha with rfl | rfl
  · have e : binV .ptr .eql (.pointer none) (.pointer none) = some (.bool true) := rfl
    simp only [e, Mpu_some, Mcd_bool, if_true]
    obtain ⟨j, hj, hj0⟩ := i_B
    intro w hw
    have hsh : w.shape? p = some (T_strings_Builder, 2) := by simp [World.shape?, hw, hp]
    refine ⟨_, w, Lib.run_to_unsafe w ⟨p, 0, none⟩ u_PB u_UP hj hj0 hsh (by show 0 < 2; omega), Same.rfl' w, ?_⟩
    rw [hw]
    intro w hw
    refine ⟨Ptr p 0, w, by rw [xt_NoEscape]; exact Lib.run_noEscape w _, Same.rfl' w, ?_⟩
    rw [hw]
    intro w hw
    have hsh : w.shape? p = some (T_strings_Builder, 2) := by simp [World.shape?, hw, hp]
    refine ⟨_, w, Lib.run_from_unsafe w ⟨p, 0, none⟩ u_UP u_PB hj hsh lies_B, Same.rfl' w, ?_⟩
    rw [hw]
    show Mwr (st1 H (Ptr p 0) (Ptr p 0)) (fun h4 => True ∧ BAt F p h4 l ∧ Keep (fun x => x = p) H h4)
    rw [st1_at hp 0 _ (by simp) rfl, Mwr_some]
    have k1 : Keep (· = p) H (H.setIfInBounds p (.cells (#[.pointer none, v].setIfInBounds 0 (Ptr p 0)) T_strings_Builder (0, 0))) := Keep.set rfl
    exact ⟨by trivial, ⟨hF, Ptr p 0, v, by rw [set_self hp]; rfl, .inr rfl, hr.keep k1 fun b hb e => hF (e ▸ hb)⟩, k1⟩
  · have e : binV .ptr .eql (Ptr p 0) (.pointer none) = some (.bool false) := rfl
    have e2 : binV .ptr .neq (Ptr p 0) (Ptr p 0) = some (.bool false) := by
      show (eqV .ptr (.pointer (some ⟨p, 0, none⟩)) (.pointer (some ⟨p, 0, none⟩))).map (fun b => Value.bool (!b)) = _
      simp [eqV]
    simp only [e, e2, Mpu_some, Mcd_bool, Bool.false_eq_true, if_false]
    exact ⟨by trivial, ⟨hF, Ptr p 0, v, hp, .inr rfl, hr⟩, Keep.refl⟩

theorem BAt.ld {F : Nat → Prop} {p : Nat} {H : Heap} {l : List UInt8} (h : BAt F p H l) : ∃ v, ld1 H (Ptr p 1) = some v ∧ Row F H v l ∧ ∀ (x : Value) (H' : Heap), H'[p]? = H[p]? → x.oneCell' = true → ∃ H2, st1 H' (Ptr p 1) x = some H2 ∧ Keep (· = p) H' H2 ∧ ∀ m, Row F H' x m → BAt F p H2 m := by
  obtain ⟨hF, a, v, hp, ha, hr⟩ := h
  refine ⟨v, by rw [ld1_at hp]; rfl, hr, fun x H' hH hx => ?_⟩
  rw [hp] at hH
  refine ⟨_, st1_at hH 1 x (by simp) hx, Keep.set rfl, fun m hm => ⟨hF, a, x, by rw [set_self hH]; rfl, ha, hm.keep (Keep.set (S := (· = p)) rfl) fun b hb e => hF (e ▸ hb)⟩⟩

theorem c_WriteString {F : Nat → Prop} {p : Nat} {H : Heap} {l m : List UInt8} (h : BAt F p H l) (hlen : l.length + m.length ≤ 140737488355328) (hf : ∀ b, H.size ≤ b → F b) :
    HCalls prg f_strings_Builder_WriteString [Ptr p 0, str m] H fun u H' => u = .tuple #[.int .i64 m.length, .nilIface] ∧ BAt F p H' (l ++ m) ∧ Keep (Wr F p) H H' := by
  apply sh_strings_Builder_WriteString_calls
  unfold sh_strings_Builder_WriteString
  refine call_i (c_copyCheck h) ?_
  rintro _ h1 ⟨rfl, hb, k1⟩
  obtain ⟨v, hld, hr, hst⟩ := hb.ld
  simp only [nck_ptr, fld_ptr, Mpu_some, Nat.zero_add, hld]
  refine hr.app Bs_str hlen (hf _ k1.1) fun x h2 hx k2 => ?_
  obtain ⟨h3, he, k3, hB⟩ := hst x h2 (k2.2 p (by obtain ⟨_, a, v, hp, _⟩ := hb; exact lt_of hp) hb.1) hx.one
  simp only [he, Mwr_some, lenT_str, Mpu_some]
  exact ⟨trivial, hB _ hx, ((k1.mono fun _ _ h => .inr h).trans (k2.mono fun _ _ h => .inl h)).trans (k3.mono fun _ _ h => .inr h)⟩

theorem xt_MakeNoZero {args : Array Value} : ∃ t, prg.underlying t = some (.slice T_uint8) ∧ ∃ ps, xtV prg f_internal_bytealg_MakeNoZero args = Extern.BytealgMakeNoZero.makeNoZero ps #[t] args :=
  ⟨T_S_uint8, by kernel_rfl, #[], by kernel_rfl⟩

theorem c_Grow {F : Nat → Prop} {p n : Nat} {H : Heap} (h : BAt F p H []) (hn : n ≤ 140737488355328) (hnil : ∃ a, H[p]? = some (.cells #[a, .slice none 0 0] T_strings_Builder (0, 0))) (hf : ∀ b, H.size ≤ b → F b) :
    HCalls prg f_strings_Builder_Grow [Ptr p 0, .int .i64 n] H fun u H' => u = .tuple #[] ∧ BAt F p H' [] ∧ Keep (Wr F p) H H' := by
  apply sh_strings_Builder_Grow_calls
  unfold sh_strings_Builder_Grow
  have hF := h.1
  obtain ⟨a, hp⟩ := hnil
  have hcc : HCalls prg f_strings_Builder_copyCheck [Ptr p 0] H fun u H' => u = .tuple #[] ∧ BAt F p H' [] ∧ Keep (· = p) H H' ∧ ∃ a, H'[p]? = some (.cells #[a, .slice none 0 0] T_strings_Builder (0, 0)) := by
    -- the buffer stays nil
    have ha : a = .pointer none ∨ a = Ptr p 0 := by
      obtain ⟨_, a', v', hp', ha', _⟩ := h
      rw [hp] at hp'; simp at hp'; rw [hp'.1]; exact ha'
    have hnone : BAt (fun _ => False) p H [] := ⟨id, a, _, hp, ha, .inl ⟨rfl, rfl⟩⟩
    refine (c_copyCheck hnone).mono ?_
    rintro u h1 ⟨hu, ⟨_, a1, v1, hp1, ha1, hr1⟩, k1⟩
    rcases hr1 with ⟨rfl, _⟩ | ⟨b, c, cs, rfl, hfb, _⟩
    · exact ⟨hu, ⟨hF, a1, _, hp1, ha1, .inl ⟨rfl, rfl⟩⟩, k1, a1, hp1⟩
    · exact hfb.elim
  refine call_i hcc ?_
  rintro _ h1 ⟨rfl, hb, k1, a1, hp1⟩
  have d1 : ld1 h1 (Ptr p 1) = some (.slice none 0 0) := by rw [ld1_at hp1]; rfl
  have e0 : ¬ ((n : Int) < 0) := by omega
  have hc : capV (.slice none 0 0) = some (.int .i64 (0 : Nat)) := rfl
  have hl : lenV (.slice none 0 0) = some (.int .i64 (0 : Nat)) := rfl
  have w0 : IntKind.i64.wrap (((0 : Nat) : Int) - ((0 : Nat) : Int)) = 0 := rfl
  simp only [binV_int, intV, e0, decide_false, Mpu_some, Mcd_bool, Bool.false_eq_true, if_false, J0_eq, nck_ptr, fld_ptr, Nat.zero_add, d1, hc, hl, w0, decide_eq_true_eq]
  have kk : Keep (Wr F p) H h1 := k1.mono fun _ _ h => .inr h
  by_cases hn0 : (0 : Int) < n
  · rw [if_pos hn0]
    refine call_i (R := fun u H' => u = .tuple #[] ∧ BAt F p H' [] ∧ Keep (Wr F p) h1 H') ?_ fun u h2 ⟨hu, hb2, k2⟩ => ⟨by trivial, hb2, kk.trans k2⟩
    apply sh_strings_Builder_grow_calls
    unfold sh_strings_Builder_grow
    have w1 : IntKind.i64.wrap (2 * ((0 : Nat) : Int)) = 0 := rfl
    have w2 : IntKind.i64.wrap (0 + (n : Int)) = (n : Nat) := by rw [wrap_id] <;> omega
    simp only [nck_ptr, fld_ptr, Mpu_some, Nat.zero_add, d1, hc, hl, binV_int, intV, w1, w2]
    obtain ⟨t, ht, ps, hxt⟩ := xt_MakeNoZero (args := #[.int .i64 n])
    rw [hxt]
    intro w hw
    obtain ⟨cs, hrun, hsz, _⟩ := Lib.run_makeNoZero (P := prg) w ps t T_uint8 ht n (by omega)
    refine ⟨_, _, hrun, ⟨rfl, rfl, rfl, Solid.push⟩, ?_⟩
    have hheap : (w.drew.drew.alloc (.cells cs T_uint8)).heap = h1.push (.cells cs T_uint8 (0, 0)) := by rw [← hw]; rfl
    have hws : w.heap.size = h1.size := by rw [hw]
    rw [hheap, hws]
    have hp2 := push_old (y := .cells cs T_uint8 (0, 0)) hp1
    have d2 : ld1 (h1.push (.cells cs T_uint8 (0, 0))) (Ptr p 1) = some (.slice none 0 0) := by rw [ld1_at hp2]; rfl
    have hsl : slS 1 (.slice (some ⟨h1.size, 0, none⟩) n cs.size) none (some (.int .i64 (0 : Nat))) none = some (.slice (some ⟨h1.size, 0, none⟩) 0 cs.size) := by
      have : cs.size ≠ 0 := by omega
      simp [slS, bnds, bnd, this]
    simp only [d2, Mre_cons, Mre_nil, true_and, hsl, Mpu_some]
    have hq : (h1.push (.cells cs T_uint8 (0, 0)))[h1.size]? = some (.cells cs T_uint8 (0, 0)) := push_new
    refine copy0 hq (Nat.zero_le _) rfl ?_
    have hb2 := hb.keep (S := fun _ => False) (Keep.push (o := .cells cs T_uint8 (0, 0))) fun _ _ => id
    rw [st1_at hp2 1 _ (by simp) rfl, Mwr_some]
    have k3 : Keep (· = p) (h1.push (.cells cs T_uint8 (0, 0))) ((h1.push (.cells cs T_uint8 (0, 0))).setIfInBounds p (.cells (#[a1, .slice none 0 0].setIfInBounds 1 (.slice (some ⟨h1.size, 0, none⟩) 0 cs.size)) T_strings_Builder (0, 0))) := Keep.set rfl
    have hpn : h1.size ≠ p := fun e => by have := lt_of hp1; omega
    refine ⟨?_, Keep.push.trans (k3.mono fun _ _ h => .inr h)⟩
    have ha1 : a1 = .pointer none ∨ a1 = Ptr p 0 := by
      obtain ⟨_, a', v', hp', ha', _⟩ := hb
      rw [hp1] at hp'; simp at hp'; rw [hp'.1]; exact ha'
    exact ⟨hF, a1, _, by rw [set_self hp2]; rfl, ha1, .inr ⟨h1.size, cs.size, cs, rfl, hf _ k1.1, Nat.zero_le _, k3.at hq hpn, Nat.le_refl _, by omega, rfl⟩⟩
  · rw [if_neg hn0]
    exact ⟨trivial, hb, kk⟩

theorem freeze_keep {w : World} {b n : Nat} : (w.freeze ⟨b, 0, none⟩ n).heap.size = w.heap.size ∧ (∀ i : Nat, i ≠ b → (w.freeze ⟨b, 0, none⟩ n).heap[i]? = w.heap[i]?) ∧ ∀ (i : Nat) (ds : Option (List Deferred)), w.heap[i]? = some (Obj.deferred ds) → (w.freeze ⟨b, 0, none⟩ n).heap[i]? = some (Obj.deferred ds) := by
  unfold World.freeze
  split
  · exact ⟨rfl, fun _ _ => rfl, fun _ _ h => h⟩
  · refine ⟨by simp, fun i hi => ?_, fun i ds h => ?_⟩
    · simp only [Array.getElem?_modify]; rw [if_neg (Ne.symm hi)]
    · simp only [Array.getElem?_modify]
      split
      · rw [h]; rfl
      · exact h

theorem u_170 : ∃ t, (170 : Nat) = t ∧ prg.underlying t = some (.pointer T_uint8) := ⟨170, rfl, by kernel_rfl⟩
theorem c_u8 : prg.cellsOf T_uint8 = 1 := by kernel_rfl

theorem c_BString {F : Nat → Prop} {p : Nat} {H : Heap} {l : List UInt8} (h : BAt F p H l) (hl : l.length ≤ 140737488355328) :
    HCalls prg f_strings_Builder_String [Ptr p 0] H fun u H' => u = str l ∧ Keep F H H' := by
  apply sh_strings_Builder_String_calls
  unfold sh_strings_Builder_String
  obtain ⟨v, hld, hr, _⟩ := h.ld
  simp only [nck_ptr, fld_ptr, Mpu_some, Nat.zero_add, hld, hr.len]
  rcases hr with ⟨rfl, rfl⟩ | ⟨b, c, cs, rfl, hf, hc, hb, hle, h0c, hcs⟩
  · have e : usd (.slice none 0 0) = some (.pointer none) := rfl
    rw [e, Mpu_some]
    intro w hw
    refine ⟨_, w, Lib.run_unsafeString_none w _ _ _ none, Same.rfl' w, ?_, by rw [hw]; exact Keep.refl⟩
    rfl
  · have e : usd (.slice (some ⟨b, 0, none⟩) l.length c) = some (Ptr b 0) := by simp only [usd]; rw [if_pos (by omega)]
    rw [e, Mpu_some]
    intro w hw
    by_cases h0 : l = []
    · subst h0
      refine ⟨_, w, Lib.run_unsafeString_none w _ _ _ _, Same.rfl' w, ?_, by rw [hw]; exact Keep.refl⟩
      rfl
    · obtain ⟨t, ht, hu⟩ := u_170
      have hsh : w.shape? b = some (T_uint8, cs.size) := by simp [World.shape?, hw, hb]
      refine ⟨_, _, Lib.run_unsafeString_row w _ _ _ T_uint8 (by rw [ht]; exact hu) c_u8 b cs.size hsh l h0 (by omega) (by omega) ?_, ?_, rfl, ?_⟩
      · intro j x hx
        have hlt := (List.getElem?_eq_some_iff.1 hx).1
        have : (bcells l)[j]? = some (.int .u8 x.toNat) := by simp [bcells, hx]
        rw [← hcs, List.getElem?_take, if_pos hlt] at this
        have e : (⟨b, 0, none⟩ : Addr).add j = ⟨b, j, none⟩ := by
          unfold Addr.add; split
          · rename_i h; subst h; rfl
          · simp
        rw [e]
        unfold World.cell?
        simp only [hw, hb]
        rw [← Array.getElem?_toList]; exact this
      · obtain ⟨_, _, h3⟩ := freeze_keep (w := w) (b := b) (n := l.length)
        refine ⟨?_, ?_, ?_, h3⟩ <;> (unfold World.freeze; split <;> rfl)
      · obtain ⟨h1, h2, _⟩ := freeze_keep (w := w) (b := b) (n := l.length)
        rw [hw] at h1 h2
        exact ⟨Nat.le_of_eq h1.symm, fun i _ hn => h2 i fun e => hn (e ▸ hf)⟩

end Go.Proofs.YtmhfanpijdgkjaaDoor
