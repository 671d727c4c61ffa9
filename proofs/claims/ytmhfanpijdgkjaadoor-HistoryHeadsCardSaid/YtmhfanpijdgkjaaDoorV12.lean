/- a history: made, asked, appended to. -/
import Derived.Test.YtmhfanpijdgkjaaDoorV11
namespace Go.Proofs.YtmhfanpijdgkjaaDoor
open Go.X
set_option maxRecDepth 100000

theorem Items.mono {P Q : Nat → Prop} {H : Heap} {v : Value} {xs : List Item} (h : Items P H v xs) (k : ∀ b, P b → Q b) : Items Q H v xs := ⟨h.1.mono k, h.2⟩
theorem BufE.re {n : Nat} {F G : Nat → Prop} {H : Heap} {v : Value} {xs : List (List Value)} (h : BufE n F H v xs) (k : ∀ b, b < H.size → F b → G b) : BufE n G H v xs := by
  obtain ⟨h1, h2, h | ⟨b, o, c, cs, T, f, rfl, hf, hc, hb, hr⟩⟩ := h
  · exact ⟨h1, h2, .inl h⟩
  · exact ⟨h1, h2, .inr ⟨b, o, c, cs, T, f, rfl, k b (lt_of hb) hf, hc, hb, hr⟩⟩

def rawC (a : RecA) (x : Value × Value) : List Value := recC a.k x.1 x.2 a.s a.r
/-- the items' lists of a record of the history -/
def RawOk (F : Nat → Prop) (H : Heap) (a : RecA) (x : Value × Value) : Prop := a.r.length = 32 ∧ Items F H x.1 a.bef ∧ Items F H x.2 a.aft ∧ a.bef.length ≤ 1048576 ∧ a.aft.length ≤ 1048576
theorem RawOk.keep {F S : Nat → Prop} {H H' : Heap} {a : RecA} {x : Value × Value} (h : RawOk F H a x) (k : Keep S H H') (hs : ∀ b, F b → ¬ S b) : RawOk F H' a x := ⟨h.1, h.2.1.keep k hs, h.2.2.1.keep k hs, h.2.2.2⟩
theorem RawOk.mono {F G : Nat → Prop} {H : Heap} {a : RecA} {x : Value × Value} (h : RawOk F H a x) (k : ∀ b, F b → G b) : RawOk G H a x := ⟨h.1, h.2.1.mono k, h.2.2.1.mono k, h.2.2.2⟩

theorem Keep.back {S : Nat → Prop} {H H' : Heap} (h : Keep (fun _ => False) H H') {b : Nat} (hb : b < H.size) : H[b]? = H'[b]? := (h.2 b hb id).symm
theorem BufE.keepBack {n : Nat} {F : Nat → Prop} {H H' : Heap} {v : Value} {xs : List (List Value)} (h : BufE n F H' v xs) (k : Keep (fun _ => False) H H') (hs : ∀ b, F b → b < H.size) : BufE n F H v xs := by
  obtain ⟨h1, h2, h | ⟨b, o, c, cs, T, f, rfl, hf, hc, hb, hr⟩⟩ := h
  · exact ⟨h1, h2, .inl h⟩
  · exact ⟨h1, h2, .inr ⟨b, o, c, cs, T, f, rfl, hf, hc, by rw [← k.2 b (hs b hf) id]; exact hb, hr⟩⟩
theorem SlE.keepBack {n : Nat} {P : Nat → Prop} {H H' : Heap} {v : Value} {xs : List (List Value)} (h : SlE n P H' v xs) (k : Keep (fun _ => False) H H') (hs : ∀ b, P b → b < H.size) : SlE n P H v xs := by
  obtain ⟨⟨a, c, hv, hc, hx⟩, h2, h3⟩ := h
  refine ⟨⟨a, c, hv, hc, hx.imp id ?_⟩, h2, h3⟩
  rintro ⟨b, o, rfl, hP, cs, T, f, hb, h4, h5⟩
  exact ⟨b, o, rfl, hP, cs, T, f, by rw [← k.2 b (hs b hP) id]; exact hb, h4, h5⟩
theorem Items.keepBack {P : Nat → Prop} {H H' : Heap} {v : Value} {xs : List Item} (h : Items P H' v xs) (k : Keep (fun _ => False) H H') (hs : ∀ b, P b → b < H.size) : Items P H v xs := ⟨SlE.keepBack h.1 k hs, h.2⟩
theorem RawOk.back {F S : Nat → Prop} {H h4 h16 : Heap} {a : RecA} {x : Value × Value} (h : RawOk F h4 a x) (k : Keep (fun _ => False) H h4) (hs : ∀ b, F b → b < H.size) (k2 : Keep S H h16) (hs2 : ∀ b, F b → ¬ S b) : RawOk F h16 a x :=
  ⟨h.1, (Items.keepBack h.2.1 k hs).keep k2 hs2, (Items.keepBack h.2.2.1 k hs).keep k2 hs2, h.2.2.2⟩

/-- the history at block p: its records' row in blocks of Fr, the chain's in Fc, the items' in Fi -/
structure HistAt (p : Nat) (Fr Fc Fi : Nat → Prop) (H : Heap) (rs : List RecA) (ch : List (List UInt8)) : Prop where
  own : ∀ b, (Fr b → NG ≤ b ∧ b < H.size ∧ b ≠ p ∧ ¬ Fc b ∧ ¬ Fi b) ∧ (Fc b → NG ≤ b ∧ b < H.size ∧ b ≠ p ∧ ¬ Fi b) ∧ (Fi b → NG ≤ b ∧ b < H.size ∧ b ≠ p)
  ng : NG ≤ p
  len : ch.length = rs.length
  few : rs.length ≤ 4096
  c32 : ∀ c ∈ ch, c.length = 32
  blk : ∃ vr vc, ∃ xs : List (Value × Value), H[p]? = some (.cells #[vr, vc] T_history_History (0, 0)) ∧ BufE 36 Fr H vr (List.zipWith rawC rs xs) ∧ BufE 32 Fc H vc (ch.map bcells) ∧ xs.length = rs.length ∧
    ∀ (i : Nat) a x, rs[i]? = some a → xs[i]? = some x → RawOk Fi H a x
/-- all blocks of a history -/
def HB (p : Nat) (Fr Fc Fi : Nat → Prop) : Nat → Prop := fun b => b = p ∨ Fr b ∨ Fc b ∨ Fi b
theorem HistAt.keep {p : Nat} {Fr Fc Fi S : Nat → Prop} {H H' : Heap} {rs : List RecA} {ch : List (List UInt8)} (h : HistAt p Fr Fc Fi H rs ch) (k : Keep S H H') (hs : ∀ b, HB p Fr Fc Fi b → ¬ S b) : HistAt p Fr Fc Fi H' rs ch := by
  obtain ⟨h1, h2, h3, h4, h5, vr, vc, xs, hp, hr, hc, hl, hx⟩ := h
  refine ⟨fun b => ⟨fun hb => ?_, fun hb => ?_, fun hb => ?_⟩, h2, h3, h4, h5, vr, vc, xs, k.at hp (hs p (.inl rfl)), hr.keep k fun b hb => hs b (.inr (.inl hb)), hc.keep k fun b hb => hs b (.inr (.inr (.inl hb))), hl, fun i a x ha hxx => (hx i a x ha hxx).keep k fun b hb => hs b (.inr (.inr (.inr hb)))⟩
  · obtain ⟨a, b', c⟩ := (h1 b).1 hb; exact ⟨a, Nat.lt_of_lt_of_le b' k.1, c⟩
  · obtain ⟨a, b', c⟩ := (h1 b).2.1 hb; exact ⟨a, Nat.lt_of_lt_of_le b' k.1, c⟩
  · obtain ⟨a, b', c⟩ := (h1 b).2.2 hb; exact ⟨a, Nat.lt_of_lt_of_le b' k.1, c⟩
theorem HistAt.lt {p : Nat} {Fr Fc Fi : Nat → Prop} {H : Heap} {rs : List RecA} {ch : List (List UInt8)} (h : HistAt p Fr Fc Fi H rs ch) : ∀ b, HB p Fr Fc Fi b → NG ≤ b ∧ b < H.size := by
  obtain ⟨h1, h2, h3, h4, h5, vr, vc, xs, hp, hr, hc, hl, hx⟩ := h
  rintro b (rfl | hb | hb | hb)
  · exact ⟨h2, lt_of hp⟩
  · exact ⟨((h1 b).1 hb).1, ((h1 b).1 hb).2.1⟩
  · exact ⟨((h1 b).2.1 hb).1, ((h1 b).2.1 hb).2.1⟩
  · exact ⟨((h1 b).2.2 hb).1, ((h1 b).2.2 hb).2.1⟩

theorem bld_HistoryN : buildV prg T_history_History [] = some (.agg #[.slice none 0 0, .slice none 0 0]) := by kernel_rfl
theorem c_HistNew {H : Heap} (hT : NG ≤ H.size) : HCalls prg f_history_New [] H fun u H' => u = Ptr H.size 0 ∧ HistAt H.size (fun _ => False) (fun _ => False) (fun _ => False) H' [] [] ∧ Keep (fun _ => False) H H' := by
  apply sh_history_New_calls
  unfold sh_history_New
  simp only [bld_HistoryN, Mpu_some, Mnew_some, Cells_agg]
  exact ⟨by trivial, ⟨fun b => ⟨fun h => h.elim, fun h => h.elim, fun h => h.elim⟩, hT, rfl, by simp, fun c h => (by cases h), _, _, [], push_new, BufE.nil, BufE.nil, rfl, fun i a x ha => (by simp at ha)⟩, Keep.push⟩

section
variable {p : Nat} {Fr Fc Fi : Nat → Prop} {H : Heap} {rs : List RecA} {ch : List (List UInt8)}
theorem c_HistLen (h : HistAt p Fr Fc Fi H rs ch) : HCalls prg f_history_History_Len [Ptr p 0] H fun u H' => u = .int .i64 rs.length ∧ H = H' := by
  apply sh_history_History_Len_calls
  unfold sh_history_History_Len
  obtain ⟨vr, vc, xs, hp, hr, hc, hl, hx⟩ := h.blk
  have d0 : ld1 H (Ptr p 0) = some vr := by rw [ld1_at hp]; rfl
  have e := hr.sl.len
  have hz : (List.zipWith rawC rs xs).length = rs.length := by simp [hl]
  rw [hz] at e
  simp only [nck_ptr, fld_ptr, Mpu_some, Nat.zero_add, d0, e]
  exact ⟨by trivial, by trivial⟩

def topF (ch : List (List UInt8)) : List UInt8 := ch.getLast?.getD zeroH
theorem topF_len (h : ∀ c ∈ ch, c.length = 32) : (topF ch).length = 32 := by
  unfold topF
  cases hg : ch.getLast? with
  | none => rfl
  | some c => exact h c (List.mem_of_getLast? hg)
theorem bld_Hash00 : buildV prg T_sha_Hash [] = some (bv zeroH) := by kernel_rfl
theorem c_HistTop (h : HistAt p Fr Fc Fi H rs ch) : HCalls prg f_history_History_Top [Ptr p 0] H fun u H' => u = bv (topF ch) ∧ Keep (fun _ => False) H H' := by
  apply sh_history_History_Top_calls
  unfold sh_history_History_Top
  have kp : Keep (fun _ => False) H (H.push (.cells (bcells zeroH).toArray T_sha_Hash (0, 0))) := Keep.push
  have hn : (H.push (.cells (bcells zeroH).toArray T_sha_Hash (0, 0)))[H.size]? = some (.cells (bcells zeroH).toArray T_sha_Hash (0, 0)) := push_new
  obtain ⟨vr, vc, xs, hp, hr, hc, hl, hx⟩ := (h.keep kp fun _ _ => id).blk
  have hlen := h.len
  have hfew := h.few
  have hc32 := h.c32
  have d1 : ld1 (H.push (.cells (bcells zeroH).toArray T_sha_Hash (0, 0))) (Ptr p 1) = some vc := by rw [ld1_at hp]; rfl
  have e := hc.sl.len
  rw [List.length_map] at e
  simp only [z_Hash, Mnew_some, nck_ptr, fld_ptr, Mpu_some, Nat.zero_add, d1, e, binV_int, intV, Mcd_bool]
  have fin : ∀ m : List UInt8, m.length = 32 → Keep (fun _ => False) H ((H.push (.cells (bcells zeroH).toArray T_sha_Hash (0, 0))).setIfInBounds H.size (.cells (bcells m).toArray T_sha_Hash (0, 0))) := fun m _ => by
    refine ⟨by simp, fun i hi _ => ?_⟩
    rw [Array.getElem?_setIfInBounds, if_neg (by omega), Array.getElem?_push, if_neg (by omega)]
  by_cases h0 : ch.length = 0
  · have : ch = [] := List.length_eq_zero_iff.1 h0
    subst this
    rw [if_pos (by rfl)]
    simp only [bld_Hash00, Mpu_some, stN_bytes hn (n := 32) (l := zeroH) (m := zeroH) rfl rfl, Mwr_some, ldN_bytes (set_self hn) (n := 32) (l := zeroH) rfl]
    exact ⟨by trivial, fin _ rfl⟩
  · rw [if_neg (by rw [beq_iff_eq]; omega)]
    have w1 : IntKind.i64.wrap ((ch.length : Int) - 1) = ((ch.length - 1 : Nat) : Int) := by rw [wrap_id] <;> omega
    have hg : ch[ch.length - 1]? = some ch[ch.length - 1] := List.getElem?_eq_getElem (by omega)
    have ht : topF ch = ch[ch.length - 1] := by unfold topF; rw [List.getLast?_eq_getElem?, hg]; rfl
    have h32 := hc32 ch[ch.length - 1] (List.getElem_mem _)
    obtain ⟨b, o, hix, hpt, _⟩ := hc.sl.at (i := ch.length - 1) (x := bcells ch[ch.length - 1]) (by simp [hg])
    simp only [w1, hix, Mpu_some, hpt.agg (n := 32) (by simp [h32])]
    have hst : stN 32 (H.push (.cells (bcells zeroH).toArray T_sha_Hash (0, 0))) (.pointer (some ⟨H.size, 0, none⟩)) (.agg (bcells ch[ch.length - 1]).toArray) = some _ := stN_bytes hn (n := 32) (m := ch[ch.length - 1]) rfl h32
    rw [hst, Mwr_some, ldN_bytes (set_self hn) (n := 32) h32, Mpu_some]
    exact ⟨by rw [ht], fin _ h32⟩

theorem bld_Rec0 : buildV prg T_history_Record [] = some (.agg (recC 0 (.slice none 0 0) (.slice none 0 0) 0 zeroH).toArray) := by kernel_rfl
def recZ : RecA := ⟨0, [], [], 0, zeroH⟩
theorem items0 {P : Nat → Prop} {H : Heap} : Items P H (.slice none 0 0) [] := ⟨SlE.nil, fun x h => by cases h⟩

theorem c_HistAt (h : HistAt p Fr Fc Fi H rs ch) (i : Int) (hi : -9223372036854775808 ≤ i ∧ i ≤ 9223372036854775807) :
    HCalls prg f_history_History_At [Ptr p 0, .int .i64 i] H fun u H' => Keep (fun _ => False) H H' ∧
      ((¬ (0 ≤ i ∧ i < rs.length) ∧ u = .tuple #[.agg (recC 0 (.slice none 0 0) (.slice none 0 0) 0 zeroH).toArray, .bool false]) ∨
       ∃ a vb va, rs[i.toNat]? = some a ∧ 0 ≤ i ∧ u = .tuple #[.agg (recC a.k vb va a.s a.r).toArray, .bool true] ∧ RawOk (New H H') H' a (vb, va)) := by
  apply sh_history_History_At_calls
  unfold sh_history_History_At
  obtain ⟨z, hz, hzl⟩ := z_Record
  generalize hH1 : H.push (.cells z.toArray T_history_Record (0, 0)) = H1
  have k1 : Keep (fun _ => False) H H1 := by rw [← hH1]; exact Keep.push
  have hs1 : H1.size = H.size + 1 := by rw [← hH1]; simp
  have hn : H1[H.size]? = some (.cells z.toArray T_history_Record (0, 0)) := by rw [← hH1]; exact push_new
  have h1 := h.keep k1 fun _ _ => id
  obtain ⟨vr, vc, xs, hp, hr, hc, hl, hx⟩ := h1.blk
  have d0 : ld1 H1 (Ptr p 0) = some vr := by rw [ld1_at hp]; rfl
  have e := hr.sl.len
  have hzl2 : (List.zipWith rawC rs xs).length = rs.length := by simp [hl]
  rw [hzl2] at e
  simp only [hz, Mnew_some, hH1, nck_ptr, fld_ptr, Mpu_some, Nat.zero_add, d0, e, binV_int, intV, J1_eq, Mif_bool, decide_eq_true_eq]
  have bad : ¬ (0 ≤ i ∧ i < rs.length) → Mpu (buildV prg T_history_Record []) fun t17 => Mwr (stN 36 H1 (.pointer (some ⟨H.size, 0, none⟩)) t17) fun h4 => Mpu (ldN 36 h4 (.pointer (some ⟨H.size, 0, none⟩))) fun r5 =>
      Keep (fun _ => False) H h4 ∧ ((¬ (0 ≤ i ∧ i < rs.length) ∧ (Value.tuple #[r5, .bool false]) = .tuple #[.agg (recC 0 (.slice none 0 0) (.slice none 0 0) 0 zeroH).toArray, .bool false]) ∨
       ∃ a vb va, rs[i.toNat]? = some a ∧ 0 ≤ i ∧ (Value.tuple #[r5, .bool false]) = .tuple #[.agg (recC a.k vb va a.s a.r).toArray, .bool true] ∧ RawOk (New H h4) h4 a (vb, va)) := fun hbad => by
    have hz36 : (recC 0 (.slice none 0 0) (.slice none 0 0) 0 zeroH).length = 36 := recC_len rfl
    rw [bld_Rec0, Mpu_some, st36 hn hzl hz36 (recC_one (P := fun _ => False) (Q := fun _ => False) (H := H) (H2 := H) items0 items0), Mwr_some, ld36 (set_self hn) hz36, Mpu_some]
    refine ⟨⟨by simp; omega, fun j hj _ => ?_⟩, .inl ⟨hbad, rfl⟩⟩
    rw [Array.getElem?_setIfInBounds, if_neg (by omega), k1.2 j hj id]
  by_cases hneg : i < 0
  · simp only [hneg, decide_true, Bool.true_eq_false, if_false, pickV_bool, if_true, Mpu_some, Mcd_bool]
    exact bad (by omega)
  · simp only [hneg, decide_false, if_true, pickV_bool, Bool.false_eq_true, if_false, Mpu_some, Mcd_bool, decide_eq_true_eq]
    by_cases hge : i ≥ (rs.length : Int)
    · rw [if_pos hge]
      exact bad (by omega)
    · rw [if_neg hge]
      have hlt : i.toNat < rs.length := by omega
      have hg : rs[i.toNat]? = some rs[i.toNat] := List.getElem?_eq_getElem hlt
      have hgx : xs[i.toNat]? = some xs[i.toNat] := List.getElem?_eq_getElem (by omega)
      have hraw := hx _ _ _ hg hgx
      have hgz : (List.zipWith rawC rs xs)[i.toNat]? = some (rawC rs[i.toNat] xs[i.toNat]) := by rw [List.getElem?_zipWith, hg, hgx]
      obtain ⟨b, o, hix, hpt, _⟩ := hr.sl.at hgz
      have hii : ((i.toNat : Nat) : Int) = i := by omega
      rw [hii] at hix
      generalize rs[i.toNat] = a at *
      generalize xs[i.toNat] = x at *
      obtain ⟨r32, ib, ia, l1, l2⟩ := hraw
      simp only [hix, Mpu_some, hpt.agg (n := 36) (recC_len r32)]
      have hlts := h1.lt
      refine call_i (c_copied ib ia (fun b hb => (hlts b (.inr (.inr (.inr hb)))).2) r32 l1 l2) ?_
      rintro _ h6 ⟨vb, va, rfl, ib6, ia6, k6⟩
      have hn6 := k6.at hn id
      rw [st36 hn6 hzl (recC_len r32) (recC_one ib6 ia6), Mwr_some, ld36 (set_self hn6) (recC_len r32), Mpu_some]
      have ks : Keep (· = H.size) h6 (h6.setIfInBounds H.size (.cells (recC a.k vb va a.s a.r).toArray T_history_Record (0, 0))) := Keep.set rfl
      refine ⟨⟨by have := k6.1; simp; omega, fun j hj _ => ?_⟩, .inr ⟨a, vb, va, hg, by omega, rfl, r32, (ib6.keep ks fun b hb e => ?_).mono fun b hb => ⟨?_, ?_⟩, (ia6.keep ks fun b hb e => ?_).mono fun b hb => ⟨?_, ?_⟩, l1, l2⟩⟩
      · rw [Array.getElem?_setIfInBounds, if_neg (by omega), k6.2 j (by omega) id, k1.2 j hj id]
      all_goals (have q1 := hb.1; have q2 := hb.2; first | omega | (simp only [Array.size_setIfInBounds]; omega) | skip)

def nowF (rs : List RecA) : List Item := (rs.getLast?.map (·.aft)).getD []
theorem c_HistNow (h : HistAt p Fr Fc Fi H rs ch) : HCalls prg f_history_History_Now [Ptr p 0] H fun u H' => Items (New H H') H' u (nowF rs) ∧ Keep (fun _ => False) H H' := by
  apply sh_history_History_Now_calls
  unfold sh_history_History_Now
  have hfew := h.few
  refine call_i (c_HistLen h) ?_
  rintro _ _ ⟨rfl, rfl⟩
  have w1 : IntKind.i64.wrap ((rs.length : Int) - 1) = (rs.length : Int) - 1 := by rw [wrap_id] <;> omega
  simp only [binV_int, intV, Mpu_some, w1]
  refine call_i (c_HistAt h _ (by omega)) ?_
  rintro u h2 ⟨k2, hu⟩
  obtain ⟨z, hz, hzl⟩ := z_Record
  have key : ∀ (k s : Int) (vb va : Value) (r : List UInt8) (ok : Bool), r.length = 32 → (∀ c ∈ recC k vb va s r, c.oneCell' = true) → u = .tuple #[.agg (recC k vb va s r).toArray, .bool ok] → Items (New H h2) h2 va (nowF rs) →
      Mpu (extV 0 u) fun t11 => Mpu (extV 1 u) fun t12 => Mnew h2 T_history_Record (zcells prg T_history_Record) fun t3 h3 => Mwr (stN 36 h3 t3 t11) fun h4 => Mpu (fld 2 t3) fun t13 => Mpu (ld1 h4 t13) fun t14 => Items (New H h4) h4 t14 (nowF rs) ∧ Keep (fun _ => False) H h4 := by
    rintro k s vb va r ok hr hone rfl hit
    have hn : (h2.push (.cells z.toArray T_history_Record (0, 0)))[h2.size]? = some (.cells z.toArray T_history_Record (0, 0)) := push_new
    simp only [extV_tuple, List.getElem?_toArray, List.getElem?_cons_succ, List.getElem?_cons_zero, Mpu_some, hz, Mnew_some]
    rw [st36 hn hzl (recC_len hr) hone, Mwr_some]
    have hq := set_self (y := .cells (recC k vb va s r).toArray T_history_Record (0, 0)) hn
    have d2 : ld1 ((h2.push (.cells z.toArray T_history_Record (0, 0))).setIfInBounds h2.size (.cells (recC k vb va s r).toArray T_history_Record (0, 0))) (Ptr h2.size 2) = some va := ld_l hq rfl
    simp only [fld_ptr, Mpu_some, Nat.zero_add, d2]
    have k3 : Keep (fun _ => False) h2 ((h2.push (.cells z.toArray T_history_Record (0, 0))).setIfInBounds h2.size (.cells (recC k vb va s r).toArray T_history_Record (0, 0))) := by
      refine ⟨by simp, fun i hi _ => ?_⟩
      rw [Array.getElem?_setIfInBounds, if_neg (by omega), Array.getElem?_push, if_neg (by omega)]
    exact ⟨(hit.keep k3 fun _ _ => id).mono fun b hb => ⟨hb.1, by have := hb.2; simp; omega⟩, k2.trans k3⟩
  rcases hu with ⟨hbad, hu⟩ | ⟨a, vb, va, hg, h0, hu, hraw⟩
  · have : rs = [] := List.length_eq_zero_iff.1 (by omega)
    subst this
    exact key _ _ _ _ _ _ rfl (recC_one (P := fun _ => False) (Q := fun _ => False) (H := H) (H2 := H) items0 items0) hu items0
  · have hnow : nowF rs = a.aft := by
      have e : ((rs.length : Int) - 1).toNat = rs.length - 1 := by omega
      rw [e] at hg
      unfold nowF; rw [List.getLast?_eq_getElem?, hg]; rfl
    obtain ⟨r32, ib, ia, _⟩ := hraw
    exact key _ _ _ _ _ _ r32 (recC_one ib ia) hu (by rw [hnow]; exact ia)
end

end Go.Proofs.YtmhfanpijdgkjaaDoor
