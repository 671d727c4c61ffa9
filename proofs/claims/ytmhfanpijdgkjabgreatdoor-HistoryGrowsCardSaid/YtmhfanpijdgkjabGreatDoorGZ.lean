/- JOINED: V85 V86 V87 V88 V89 -/
import Derived.Test.YtmhfanpijdgkjabGreatDoorGY
set_option linter.unusedSimpArgs false
set_option linter.unusedVariables false
/- HistoryGrows: what is compared; bytes of the reference. -/
namespace Go.Proofs.YtmhfanpijdgkjabGreatDoor
open Go.X Go.X.Diff
set_option maxRecDepth 100000

theorem mcl_keep {H h : Heap} {R : Heap → Prop} (k : Keep (fun _ => False) H h) (hR : ∀ h', Keep (fun _ => False) H h' → R h') : Mcl H.size h R := fun h' c =>
  hR h' ⟨by rw [c.1]; exact k.1, fun i hi _ => by rw [c.2.1 i hi, k.2 i hi id]⟩
theorem eqItemsNe {x y : Item} (hx : x.wf) (hy : y.wf) : binV (eqK prg T_history_Item) .neq (.agg (itemC x).toArray) (.agg (itemC y).toArray) = some (.bool (!decide (x = y))) := by
  rw [binV_agg_ne, eqK_Item]
  show (eqCells kItem (itemC x).toArray.toList (itemC y).toArray.toList).map (fun b => Value.bool (!b)) = _
  rw [List.toList_toArray, List.toList_toArray, eqItem hx hy]; rfl
theorem c_same {P Q : Nat → Prop} {H : Heap} {v w : Value} {xs ys : List Item} (hv : Items P H v xs) (hw : Items Q H w ys) (hl : xs.length ≤ 1099511627776) :
    HCalls prg f_syngraphlaw22_same [v, w] H fun u H' => u = .bool (decide (xs = ys)) ∧ H = H' := by
  apply sh_syngraphlaw22_same_calls
  unfold sh_syngraphlaw22_same
  simp only [hv.len, hw.len, Mpu_some, binV_int, intV, Mcd_bool]
  by_cases hne : xs.length = ys.length
  · rw [if_neg (by simp [hne])]
    refine J1_i (fun _ h => xs = ys ∧ H = h) (fun k1 hk1 => ?_) ?_
    · refine L1_i (fun u h => ∃ i : Nat, i ≤ xs.length ∧ u = .int .i64 (i : Nat) ∧ xs.take i = ys.take i ∧ H = h) (fun u _ => match u with | .int _ t => xs.length - t.toNat | _ => 0) ⟨0, Nat.zero_le _, rfl, rfl, rfl⟩ ?_
      rintro _ _ ⟨i, hi, rfl, hti, rfl⟩ k hk
      simp only [binV_int, intV, Mpu_some, Mcd_bool, decide_eq_true_eq]
      by_cases hlt : (i : Int) < xs.length
      · rw [if_pos hlt]
        have hlt' : i < xs.length := by omega
        have hg : xs[i]? = some xs[i] := List.getElem?_eq_getElem hlt'
        have hg2 : ys[i]? = some ys[i] := List.getElem?_eq_getElem (by omega)
        obtain ⟨wf1, b1, o1, ix1, pt1, _⟩ := hv.at hg
        obtain ⟨wf2, b2, o2, ix2, pt2, _⟩ := hw.at hg2
        have hinc : IntKind.i64.wrap ((i : Int) + 1) = (i + 1 : Nat) := by rw [wrap_id] <;> omega
        simp only [ix1, ix2, Mpu_some, pt1.agg (itemC_len wf1), pt2.agg (itemC_len wf2), eqItemsNe wf1 wf2, Mcd_bool, hinc]
        by_cases he : xs[i] = ys[i]
        · rw [if_neg (by simp [he])]
          exact hk _ _ ⟨i + 1, hlt', rfl, by rw [List.take_add_one, List.take_add_one, hti, hg, hg2, he], rfl⟩ (by show xs.length - (i + 1) < xs.length - i; omega)
        · rw [if_pos (by simp [he])]
          refine ⟨?_, by trivial⟩
          have : xs ≠ ys := fun e => by subst e; exact he rfl
          simp [this]
      · rw [if_neg hlt]
        obtain rfl : i = xs.length := by omega
        rw [List.take_length, List.take_of_length_le (by omega)] at hti
        exact hk1 _ _ ⟨hti, rfl⟩
    · rintro _ _ ⟨hti, rfl⟩
      exact ⟨by simp [hti], by trivial⟩
  · rw [if_pos (by simp; omega)]
    have : xs ≠ ys := fun e => hne (by rw [e])
    exact ⟨by simp [this], by trivial⟩

theorem c_refBytes {P : Nat → Prop} {H : Heap} {v : Value} {l : List UInt8} (hv : Sl P H v l) (hl : l.length ≤ 1048576) : HCalls prg f_syngraphref03_Bytes [v] H fun u H' => Buf (fun b => H.size ≤ b ∧ b < H'.size) H' u (textB l) ∧ Keep (fun _ => False) H H' := by
  apply sh_syngraphref03_Bytes_calls
  unfold sh_syngraphref03_Bytes
  have hC : HCalls prg f_syngraphref03_Count [.int .i64 (l.length : Nat)] H fun u H' => Buf (fun b => H.size ≤ b ∧ b < H'.size) H' u (numB l.length 4) ∧ Keep (fun _ => False) H H' := by
    apply sh_syngraphref03_Count_calls
    unfold sh_syngraphref03_Count
    refine call_i (c_refNumber (s := 4) (by omega)) ?_
    intro u h h'; exact h'
  rw [hv.len, Mpu_some]
  refine call_i hC ?_
  rintro t5 h2 ⟨hb, k2⟩
  refine Buf.app (F := (H.size ≤ ·)) (hb.mono fun b h => h.1) (hv.keep k2 fun _ _ => id).bs (by simp; omega) k2.1 fun u h3 hb3 k3 => ?_
  exact ⟨hb3.bound.mono fun b h => h, k2.fresh k3 fun b hb => hb⟩

theorem bsl2S' {a b : Option Addr} {n m c d : Nat} : bslV prg T_S_uint8 2 [(0, .slice a n c), (1, .slice b m d)] = some #[.slice a n c, .slice b m d] := by kernel_rfl

/-- two histories, record by record -/
theorem c_HistEqual {p p2 : Nat} {Fr Fc Fi Gr Gc Gi : Nat → Prop} {H : Heap} {rs : List RecA} {ch ch2 : List (List UInt8)} (h1 : HistAt p Fr Fc Fi H rs ch) (h2 : HistAt p2 Gr Gc Gi H rs ch2) :
    HCalls prg f_history_History_Equal [Ptr p 0, Ptr p2 0] H fun u H' => u = .bool true ∧ Keep (fun _ => False) H H' := by
  apply sh_history_History_Equal_calls
  unfold sh_history_History_Equal
  obtain ⟨vr, vc, xs, hp, hr, hc, hxl, hx⟩ := h1.blk
  obtain ⟨wr, wc, ys, hp2, hr2, hc2, hyl, hy⟩ := h2.blk
  have hfew := h1.few
  have e1 : ld1 H (Ptr p 0) = some vr := by rw [ld1_at hp]; rfl
  have e2 : ld1 H (Ptr p2 0) = some wr := by rw [ld1_at hp2]; rfl
  have hzl : (List.zipWith rawC rs xs).length = rs.length := by simp [hxl]
  have hzl2 : (List.zipWith rawC rs ys).length = rs.length := by simp [hyl]
  simp only [nck_ptr, fld_ptr, Nat.zero_add, e1, e2, Mpu_some]
  have main : HCalls prg f_slices_EqualFunc_S_history_Record_S_history_Record_history_R_47 [vr, wr, .func (.func f_history_Record_Equal) #[] #[]] H fun u H' => u = .bool true ∧ Keep (fun _ => False) H H' := by
    apply sh_slices_EqualFunc_S_history_Record_S_history_Record_history_R_47_calls
    unfold sh_slices_EqualFunc_S_history_Record_S_history_Record_history_R_47
    have l1 := hr.sl.len
    have l2 := hr2.sl.len
    rw [hzl] at l1; rw [hzl2] at l2
    have hne : binV .no .neq (.int .i64 (rs.length : Nat)) (.int .i64 (rs.length : Nat)) = some (.bool false) := by rw [binV_int]; simp [intV]
    rw [l1, Mpu_some, l2, Mpu_some, hne, Mpu_some, Mcd_bool, if_neg (by decide)]
    refine J1_i (fun _ h => Keep (fun _ => False) H h) (fun k1 hk1 => ?_) ?_
    · rw [Mpu_some]
      refine L1_i (fun u h => ∃ i : Nat, i ≤ rs.length ∧ u = .int .i64 (i : Nat) ∧ Keep (fun _ => False) H h) (fun u _ => match u with | .int _ t => rs.length - t.toNat | _ => 0) ⟨0, Nat.zero_le _, rfl, Keep.refl⟩ ?_
      rintro _ h ⟨i, hi, rfl, kh⟩ k hk
      have elt : binV .no .lss (.int .i64 (i : Nat)) (.int .i64 (rs.length : Nat)) = some (.bool (decide (i < rs.length))) := by
        rw [binV_int]; simp only [intV]; congr 2; rw [decide_eq_decide]; omega
      rw [elt, Mpu_some, Mcd_bool]
      by_cases hlt : i < rs.length
      · rw [if_pos (by simpa using hlt)]
        have hg : rs[i]? = some rs[i] := List.getElem?_eq_getElem hlt
        generalize rs[i] = a at hg
        have hgx : xs[i]? = some (xs[i]'(by omega)) := List.getElem?_eq_getElem _
        generalize (xs[i]'(by omega)) = x at hgx
        have hgy : ys[i]? = some (ys[i]'(by omega)) := List.getElem?_eq_getElem _
        generalize (ys[i]'(by omega)) = y at hgy
        have r1 := (hx i a x hg hgx).keep kh fun _ _ => id
        have r2 := (hy i a y hg hgy).keep kh fun _ _ => id
        obtain ⟨b, o, hix, hpt, _⟩ := (hr.sl.keep kh fun _ _ => id).at (i := i) (x := rawC a x) (by rw [List.getElem?_zipWith, hg, hgx])
        obtain ⟨b2, o2, hix2, hpt2, _⟩ := (hr2.sl.keep kh fun _ _ => id).at (i := i) (x := rawC a y) (by rw [List.getElem?_zipWith, hg, hgy])
        have n1 := rawC_len (x := x) r1.1
        have n2 := rawC_len (x := y) r1.1
        rw [hix, Mpu_some, hpt.agg n1, Mpu_some]
        refine new_rec n1 (recC_one r1.2.1 r1.2.2.1) fun h6 hs6 a6 k6 => ?_
        rw [hix2, Mpu_some, (hpt2.keep k6 id).agg n2, Mpu_some]
        refine new_rec n2 (recC_one r2.2.1 r2.2.2.1) fun h8 hs8 a8 k8 => ?_
        have k68 := k6.trans k8
        rw [(a6.keep k8 id).ldN n1, Mpu_some, a8.ldN n2, Mpu_some]
        refine .inl ⟨f_history_Record_Equal, #[], #[], rfl, by kernel_rfl, ?_⟩
        show HCalls prg f_history_Record_Equal [.agg (recC a.k x.1 x.2 a.s a.r).toArray, .agg (recC a.k y.1 y.2 a.s a.r).toArray] h8 _
        refine (c_RecEqual (r1.2.1.keep k68 fun _ _ => id) (r1.2.2.1.keep k68 fun _ _ => id) (r2.2.1.keep k68 fun _ _ => id) (r2.2.2.1.keep k68 fun _ _ => id) r1.1 r1.1 r1.2.2.2.1 r1.2.2.2.2).mono ?_
        rintro _ h9 ⟨rfl, k9⟩
        rw [eqRec_self]
        simp only [unV_not, Bool.not_true, Bool.not_false, Mif_bool, Mif_undef, pickV_bool, Mcd_bool, Mpu_some, if_true, if_false, Bool.false_eq_true, Bool.true_eq_false, decide_true, decide_false, reduceCtorEq, ex20, ex21, ex30, ex31, ex32, Mre_ok, Mre_nil]
        rw [add_one' (by omega), Mpu_some]
        exact hk _ _ ⟨i + 1, hlt, rfl, kh.trans (k68.trans k9)⟩ (by show rs.length - (i + 1) < rs.length - i; omega)
      · rw [if_neg (by simpa using hlt)]
        exact hk1 _ _ kh
    · rintro _ h kh
      exact ⟨rfl, kh⟩
  refine call_i main ?_
  intro u h h'; exact h'
end Go.Proofs.YtmhfanpijdgkjabGreatDoor
/- HistoryGrows: what the law holds, its blocks told apart by colours. -/
namespace Go.Proofs.YtmhfanpijdgkjabGreatDoor
open Go.X Go.X.Diff
set_option maxRecDepth 100000

theorem _root_.Go.X.Buf.re {F G : Nat → Prop} {H : Heap} {v : Value} {l : List UInt8} (h : Buf F H v l) (k : ∀ b, b < H.size → F b → G b) : Buf G H v l := h.bound.mono fun b hb => k b hb.2 hb.1
/-- blocks of colours in K are written to; the colours of what was there stay -/
structure Mv (col col' : Nat → Nat) (K : Nat → Prop) (h h' : Heap) : Prop where
  keep : Keep (fun b => h.size ≤ b ∨ K (col b)) h h'
  same : ∀ b, b < h.size → col' b = col b
namespace Mv
variable {col col' : Nat → Nat} {K : Nat → Prop} {j : Nat} {h h' : Heap}
theorem pure (kk : Keep (fun _ => False) h h') : Mv col col K h h' := ⟨kk.mono fun _ _ h => h.elim, fun _ _ => rfl⟩
theorem trans {col2 : Nat → Nat} {h2 : Heap} (a : Mv col col' K h h') (b : Mv col' col2 K h' h2) : Mv col col2 K h h2 :=
  ⟨⟨Nat.le_trans a.keep.1 b.keep.1, fun i hi hS => by
      rw [b.keep.2 i (Nat.lt_of_lt_of_le hi a.keep.1) fun hS2 => ?_, a.keep.2 i hi hS]
      rcases hS2 with hS2 | hS2
      · have := a.keep.1; omega
      · exact hS (.inr (by rw [← a.same i hi]; exact hS2))⟩,
   fun i hi => (b.same i (Nat.lt_of_lt_of_le hi a.keep.1)).trans (a.same i hi)⟩
theorem mono {K2 : Nat → Prop} (a : Mv col col' K h h') (hk : ∀ j, K j → K2 j) : Mv col col' K2 h h' := ⟨a.keep.mono fun b _ hb => hb.imp id (hk _), a.same⟩
theorem buf (m : Mv col col' K h h') (hj : ¬ K j) {n : Nat} {v : Value} {xs : List (List Value)} (b : BufE n (fun b => col b = j) h v xs) : BufE n (fun b => col' b = j) h' v xs := by
  have b1 : BufE n (fun b => col b = j ∧ b < h.size) h v xs := BufE.re b fun b hb e => ⟨e, hb⟩
  have b2 := b1.keep m.keep fun b hb hS => by
    rcases hS with hS | hS
    · omega
    · exact hj (hb.1 ▸ hS)
  exact BufE.re b2 fun b _ hb => (m.same b hb.2).trans hb.1
theorem byt (m : Mv col col' K h h') (hj : ¬ K j) {v : Value} {l : List UInt8} (b : Buf (fun b => col b = j) h v l) : Buf (fun b => col' b = j) h' v l := by
  have b2 := b.bound.keep m.keep fun b hb hS => by
    rcases hS with hS | hS
    · omega
    · exact hj (hb.1 ▸ hS)
  exact b2.re fun b _ hb => (m.same b hb.2).trans hb.1
theorem cell (m : Mv col col' K h h') {q : Nat} {cs : List Value} (a : At h q cs) (hq : ¬ K (col q)) : At h' q cs := a.keep m.keep fun hS => by
  have := a.lt
  rcases hS with hS | hS
  · omega
  · exact hq hS
theorem items (m : Mv col col' K h h') (hk : ¬ K 1) {n0 : Nat} (hn : n0 ≤ h.size) (h1 : ∀ b, b < n0 → col b = 1) {v : Value} {xs : List Item} (a : Items (· < n0) h v xs) : Items (· < n0) h' v xs := a.keep m.keep fun b hb hS => by
  rcases hS with hS | hS
  · omega
  · exact hk (h1 b hb ▸ hS)
theorem keep0 (m : Mv col col' K h h') (hk : ¬ K 1) {H : Heap} (kk : Keep (fun _ => False) H h) (h1 : ∀ b, b < H.size → col b = 1) : Keep (fun _ => False) H h' :=
  ⟨Nat.le_trans kk.1 m.keep.1, fun i hi _ => by
    rw [m.keep.2 i (Nat.lt_of_lt_of_le hi kk.1) fun hS => ?_, kk.2 i hi id]
    rcases hS with hS | hS
    · have := kk.1; omega
    · exact hk (h1 i hi ▸ hS)⟩
theorem hist (m : Mv col col' K h h') (hk : ¬ K 0) {p : Nat} {Fr Fc Fi : Nat → Prop} {rs : List RecA} {ch : List (List UInt8)} (a : HistAt p Fr Fc Fi h rs ch) (hc : ∀ b, HB p Fr Fc Fi b → col b = 0) :
    HistAt p Fr Fc Fi h' rs ch ∧ ∀ b, HB p Fr Fc Fi b → col' b = 0 := by
  have hlt := a.lt
  refine ⟨a.keep m.keep fun b hb hS => ?_, fun b hb => (m.same b (hlt b hb).2).trans (hc b hb)⟩
  rcases hS with hS | hS
  · have := (hlt b hb).2; omega
  · exact hk (hc b hb ▸ hS)
end Mv
/-- new blocks from n on have colour k -/
def paint (n k : Nat) (col : Nat → Nat) : Nat → Nat := fun b => if b < n then col b else k
theorem paint_old {n k b : Nat} {col : Nat → Nat} (h : b < n) : paint n k col b = col b := by unfold paint; rw [if_pos h]
theorem paint_new {n k b : Nat} {col : Nat → Nat} (h : n ≤ b) : paint n k col b = k := by unfold paint; rw [if_neg (by omega)]

/-- the law's cells -/
structure Cells where
  q3 : Nat
  q4 : Nat
  q5 : Nat
  q6 : Nat
  q8 : Nat
  q9 : Nat
structure GSt (n0 p : Nat) (c : Cells) (stop : Int) (col : Nat → Nat) (rs ra : List RecA) (ch : List (List UInt8)) (tp : List UInt8) (nw : List Item) (bs : List UInt8) (t7 t10 : Value) (h : Heap) : Prop where
  nle : n0 ≤ h.size
  inp : ∀ b, b < n0 → col b = 1
  hist : ∃ Fr Fc Fi, HistAt p Fr Fc Fi h rs (chL rs) ∧ ∀ b, HB p Fr Fc Fi b → col b = 0
  c3 : At h c.q3 [.int .i64 stop] ∧ col c.q3 = 13
  c4 : (∃ x, At h c.q4 [.bool x]) ∧ col c.q4 = 14
  c5 : At h c.q5 [Ptr p 0] ∧ col c.q5 = 15
  c6 : (∃ w ys, At h c.q6 [w] ∧ BufE 36 (fun b => col b = 6) h w (List.zipWith rawC ra ys) ∧ ys.length = ra.length ∧ ∀ (i : Nat) a y, ra[i]? = some a → ys[i]? = some y → RawIn (· < n0) h a y) ∧ col c.q6 = 16
  c8 : (∃ w, At h c.q8 [w] ∧ BufE 32 (fun b => col b = 8) h w (ch.map bcells)) ∧ col c.q8 = 18
  c9 : At h c.q9 (bcells tp) ∧ col c.q9 = 19
  now : Items (· < n0) h t7 nw
  byt : Buf (fun b => col b = 10) h t10 bs
namespace GSt
variable {n0 p : Nat} {c : Cells} {stop : Int} {col col' : Nat → Nat} {rs ra : List RecA} {ch : List (List UInt8)} {tp : List UInt8} {nw : List Item} {bs : List UInt8} {t7 t10 : Value} {h h' : Heap}
theorem in6 (s : GSt n0 p c stop col rs ra ch tp nw bs t7 t10 h) {K : Nat → Prop} (m : Mv col col' K h h') (k1 : ¬ K 1) (k2 : ¬ K 6) (k3 : ¬ K 16) : (∃ w ys, At h' c.q6 [w] ∧ BufE 36 (fun b => col' b = 6) h' w (List.zipWith rawC ra ys) ∧ ys.length = ra.length ∧ ∀ (i : Nat) a y, ra[i]? = some a → ys[i]? = some y → RawIn (· < n0) h' a y) ∧ col' c.q6 = 16 := by
  obtain ⟨⟨w, ys, a1, a2, a3, a4⟩, a5⟩ := s.c6
  refine ⟨⟨w, ys, m.cell a1 (by rw [a5]; exact k3), m.buf k2 a2, a3, fun i a y h1 h2 => ?_⟩, (m.same _ a1.lt).trans a5⟩
  obtain ⟨r1, r2, r3, r4⟩ := a4 i a y h1 h2
  exact ⟨r1, m.items k1 s.nle s.inp r2, m.items k1 s.nle s.inp r3, r4⟩
theorem in8 (s : GSt n0 p c stop col rs ra ch tp nw bs t7 t10 h) {K : Nat → Prop} (m : Mv col col' K h h') (k2 : ¬ K 8) (k3 : ¬ K 18) : (∃ w, At h' c.q8 [w] ∧ BufE 32 (fun b => col' b = 8) h' w (ch.map bcells)) ∧ col' c.q8 = 18 := by
  obtain ⟨⟨w, a1, a2⟩, a5⟩ := s.c8
  exact ⟨⟨w, m.cell a1 (by rw [a5]; exact k3), m.buf k2 a2⟩, (m.same _ a1.lt).trans a5⟩
theorem in0 (s : GSt n0 p c stop col rs ra ch tp nw bs t7 t10 h) {K : Nat → Prop} (m : Mv col col' K h h') (hk : ¬ K 0) : ∃ Fr Fc Fi, HistAt p Fr Fc Fi h' rs (chL rs) ∧ ∀ b, HB p Fr Fc Fi b → col' b = 0 := by
  obtain ⟨Fr, Fc, Fi, a1, a2⟩ := s.hist
  obtain ⟨b1, b2⟩ := m.hist hk a1 a2
  exact ⟨Fr, Fc, Fi, b1, b2⟩
theorem inc {K : Nat → Prop} (m : Mv col col' K h h') {q j : Nat} {cs : List Value} (a : At h q cs ∧ col q = j) (hj : ¬ K j) : At h' q cs ∧ col' q = j := ⟨m.cell a.1 (by rw [a.2]; exact hj), (m.same _ a.1.lt).trans a.2⟩
theorem in4 (s : GSt n0 p c stop col rs ra ch tp nw bs t7 t10 h) {K : Nat → Prop} (m : Mv col col' K h h') (hk : ¬ K 14) : (∃ x, At h' c.q4 [.bool x]) ∧ col' c.q4 = 14 := by
  obtain ⟨⟨x, a1⟩, a2⟩ := s.c4
  exact ⟨⟨x, m.cell a1 (by rw [a2]; exact hk)⟩, (m.same _ a1.lt).trans a2⟩
theorem ini (s : GSt n0 p c stop col rs ra ch tp nw bs t7 t10 h) {K : Nat → Prop} (m : Mv col col' K h h') : ∀ b, b < n0 → col' b = 1 := fun b hb => (m.same b (Nat.lt_of_lt_of_le hb s.nle)).trans (s.inp b hb)
/-- nothing of it is written to -/
theorem mv (s : GSt n0 p c stop col rs ra ch tp nw bs t7 t10 h) {K : Nat → Prop} (m : Mv col col' K h h') (hk : ∀ j, K j → 20 ≤ j) : GSt n0 p c stop col' rs ra ch tp nw bs t7 t10 h' := by
  have no : ∀ j, j < 20 → ¬ K j := fun j hj h => by have := hk j h; omega
  exact ⟨Nat.le_trans s.nle m.keep.1, s.ini m, s.in0 m (no _ (by omega)), inc m s.c3 (no _ (by omega)), s.in4 m (no _ (by omega)), inc m s.c5 (no _ (by omega)), s.in6 m (no _ (by omega)) (no _ (by omega)) (no _ (by omega)), s.in8 m (no _ (by omega)) (no _ (by omega)), inc m s.c9 (no _ (by omega)), m.items (no _ (by omega)) s.nle s.inp s.now, m.byt (no _ (by omega)) s.byt⟩
theorem mv0 (s : GSt n0 p c stop col rs ra ch tp nw bs t7 t10 h) {K : Nat → Prop} (m : Mv col col' K h h') (hk : ∀ j, K j → j = 0) {rs' : List RecA} (x : ∃ Fr Fc Fi, HistAt p Fr Fc Fi h' rs' (chL rs') ∧ ∀ b, HB p Fr Fc Fi b → col' b = 0) : GSt n0 p c stop col' rs' ra ch tp nw bs t7 t10 h' := by
  have no : ∀ j, j ≠ 0 → ¬ K j := fun j hj h => hj (hk j h)
  exact ⟨Nat.le_trans s.nle m.keep.1, s.ini m, x, inc m s.c3 (no _ (by omega)), s.in4 m (no _ (by omega)), inc m s.c5 (no _ (by omega)), s.in6 m (no _ (by omega)) (no _ (by omega)) (no _ (by omega)), s.in8 m (no _ (by omega)) (no _ (by omega)), inc m s.c9 (no _ (by omega)), m.items (no _ (by omega)) s.nle s.inp s.now, m.byt (no _ (by omega)) s.byt⟩
theorem mv6 (s : GSt n0 p c stop col rs ra ch tp nw bs t7 t10 h) {K : Nat → Prop} (m : Mv col col' K h h') (hk : ∀ j, K j → j = 6 ∨ j = 16) {ra' : List RecA} (x : ∃ w ys, At h' c.q6 [w] ∧ BufE 36 (fun b => col' b = 6) h' w (List.zipWith rawC ra' ys) ∧ ys.length = ra'.length ∧ ∀ (i : Nat) a y, ra'[i]? = some a → ys[i]? = some y → RawIn (· < n0) h' a y) : GSt n0 p c stop col' rs ra' ch tp nw bs t7 t10 h' := by
  have no : ∀ j, j ≠ 6 ∧ j ≠ 16 → ¬ K j := fun j hj h => by have := hk j h; omega
  obtain ⟨⟨w, ys, a1, _⟩, a5⟩ := s.c6
  exact ⟨Nat.le_trans s.nle m.keep.1, s.ini m, s.in0 m (no _ (by omega)), inc m s.c3 (no _ (by omega)), s.in4 m (no _ (by omega)), inc m s.c5 (no _ (by omega)), ⟨x, (m.same _ a1.lt).trans a5⟩, s.in8 m (no _ (by omega)) (no _ (by omega)), inc m s.c9 (no _ (by omega)), m.items (no _ (by omega)) s.nle s.inp s.now, m.byt (no _ (by omega)) s.byt⟩
theorem mv8 (s : GSt n0 p c stop col rs ra ch tp nw bs t7 t10 h) {K : Nat → Prop} (m : Mv col col' K h h') (hk : ∀ j, K j → j = 8 ∨ j = 18) {ch' : List (List UInt8)} (x : ∃ w, At h' c.q8 [w] ∧ BufE 32 (fun b => col' b = 8) h' w (ch'.map bcells)) : GSt n0 p c stop col' rs ra ch' tp nw bs t7 t10 h' := by
  have no : ∀ j, j ≠ 8 ∧ j ≠ 18 → ¬ K j := fun j hj h => by have := hk j h; omega
  obtain ⟨⟨w, a1, _⟩, a5⟩ := s.c8
  exact ⟨Nat.le_trans s.nle m.keep.1, s.ini m, s.in0 m (no _ (by omega)), inc m s.c3 (no _ (by omega)), s.in4 m (no _ (by omega)), inc m s.c5 (no _ (by omega)), s.in6 m (no _ (by omega)) (no _ (by omega)) (no _ (by omega)), ⟨x, (m.same _ a1.lt).trans a5⟩, inc m s.c9 (no _ (by omega)), m.items (no _ (by omega)) s.nle s.inp s.now, m.byt (no _ (by omega)) s.byt⟩
theorem mv19 (s : GSt n0 p c stop col rs ra ch tp nw bs t7 t10 h) {K : Nat → Prop} (m : Mv col col' K h h') (hk : ∀ j, K j → j = 19) {tp' : List UInt8} (x : At h' c.q9 (bcells tp')) : GSt n0 p c stop col' rs ra ch tp' nw bs t7 t10 h' := by
  have no : ∀ j, j ≠ 19 → ¬ K j := fun j hj h => hj (hk j h)
  exact ⟨Nat.le_trans s.nle m.keep.1, s.ini m, s.in0 m (no _ (by omega)), inc m s.c3 (no _ (by omega)), s.in4 m (no _ (by omega)), inc m s.c5 (no _ (by omega)), s.in6 m (no _ (by omega)) (no _ (by omega)) (no _ (by omega)), s.in8 m (no _ (by omega)) (no _ (by omega)), ⟨x, (m.same _ s.c9.1.lt).trans s.c9.2⟩, m.items (no _ (by omega)) s.nle s.inp s.now, m.byt (no _ (by omega)) s.byt⟩
theorem mv10 (s : GSt n0 p c stop col rs ra ch tp nw bs t7 t10 h) {K : Nat → Prop} (m : Mv col col' K h h') (hk : ∀ j, K j → j = 10) {bs' : List UInt8} {t10' : Value} (x : Buf (fun b => col' b = 10) h' t10' bs') : GSt n0 p c stop col' rs ra ch tp nw bs' t7 t10' h' := by
  have no : ∀ j, j ≠ 10 → ¬ K j := fun j hj h => hj (hk j h)
  exact ⟨Nat.le_trans s.nle m.keep.1, s.ini m, s.in0 m (no _ (by omega)), inc m s.c3 (no _ (by omega)), s.in4 m (no _ (by omega)), inc m s.c5 (no _ (by omega)), s.in6 m (no _ (by omega)) (no _ (by omega)) (no _ (by omega)), s.in8 m (no _ (by omega)) (no _ (by omega)), inc m s.c9 (no _ (by omega)), m.items (no _ (by omega)) s.nle s.inp s.now, x⟩
theorem withNow (s : GSt n0 p c stop col rs ra ch tp nw bs t7 t10 h) {nw' : List Item} {t7' : Value} (x : Items (· < n0) h t7' nw') : GSt n0 p c stop col rs ra ch tp nw' bs t7' t10 h := { s with now := x }
theorem pure (s : GSt n0 p c stop col rs ra ch tp nw bs t7 t10 h) (k : Keep (fun _ => False) h h') : GSt n0 p c stop col rs ra ch tp nw bs t7 t10 h' := s.mv (K := fun _ => False) (Mv.pure k) fun _ h => h.elim
end GSt
end Go.Proofs.YtmhfanpijdgkjabGreatDoor
/- HistoryGrows: a record that was appended is put to the law's own lists. -/
namespace Go.Proofs.YtmhfanpijdgkjabGreatDoor
open Go.X Go.X.Diff
set_option maxRecDepth 100000

theorem Mv.paint {col : Nat → Nat} {K : Nat → Prop} {k : Nat} {h h' : Heap} (kk : Keep (fun b => paint h.size k col b = k) h h') (hk : K k) : Mv col (paint h.size k col) K h h' :=
  ⟨kk.mono fun b hb e => by
    by_cases hlt : b < h.size
    · rw [paint_old hlt] at e; exact .inr (e ▸ hk)
    · exact .inl (by omega), fun b hb => paint_old hb⟩
theorem Mv.at {col : Nat → Nat} {K : Nat → Prop} {q : Nat} {h h' : Heap} (kk : Keep (· = q) h h') (hk : K (col q)) : Mv col col K h h' := ⟨kk.mono fun b hb e => .inr (e ▸ hk), fun _ _ => rfl⟩

theorem grow_step {n0 p : Nat} {c : Cells} {stop : Int} {col : Nat → Nat} {rs : List RecA} {a : RecA} {nw : List Item} {bs : List UInt8} {t7 t10 vb va w : Value} {H h : Heap} {qr : Nat} {Pw : Nat → Prop} {K : Value → Value → Heap → Prop}
    (s : GSt n0 p c stop col (rs ++ [a]) rs (chL rs) (topF (chL rs)) nw bs t7 t10 h) (hn0 : n0 = H.size) (kH : Keep (fun _ => False) H h)
    (ar : At h qr (recC a.k vb va a.s a.r)) (cr : col qr = 50) (hw : Sl Pw h w (recB a)) (hPw : ∀ b, Pw b → b < h.size ∧ col b = 50) (hraw : RawIn (· < n0) h a (vb, va)) (hwf : RecWf a) (hok : recOk a = true)
    (hrl : rs.length ≤ 100) (hbl : bs.length ≤ 100000000) (hS : ShaT H) (h32 : (topF (chL rs)).length = 32)
    (hK : ∀ col' t10' h', GSt n0 p c stop col' (rs ++ [a]) (rs ++ [a]) (chL (rs ++ [a])) (topF (chL (rs ++ [a]))) a.aft (bs ++ textB (recB a)) va t10' h' → Keep (fun _ => False) H h' → K va t10' h') :
    Mpu (ld1 h (Ptr c.q6 0)) fun t81 =>
    Mpu (ldN 36 h (Ptr qr 0)) fun t82 =>
    Mpu (fld 2 (Ptr qr 0)) fun t85 =>
    Mpu (ld1 h t85) fun t86 =>
    Mnews h T_history_Record 1 (bslV prg T_history_Record 1 [(0, t82)]) fun t83 h45 =>
    Mre [(ld1 h45 t85, t86), (ld1 h45 (Ptr c.q6 0), t81)] (
    Mapp T_history_Record 36 96 h45 t81 t83 fun t84 h46 =>
    Mre [(ld1 h46 t85, t86)] (
    Mwr (st1 h46 (Ptr c.q6 0) t84) fun h47 =>
    Mre [(ld1 h47 t85, t86)] (
    Mpu (ldN 32 h47 (Ptr c.q9 0)) fun t87 =>
    Mcall prg f_tag_Record [t87, w] h47 fun t89 h48 =>
    Mwr (stN 32 h48 (Ptr c.q9 0) t89) fun h49 =>
    Mpu (ld1 h49 (Ptr c.q8 0)) fun t90 =>
    Mpu (ldN 32 h49 (Ptr c.q9 0)) fun t91 =>
    Mnews h49 T_sha_Hash 1 (bslV prg T_sha_Hash 1 [(0, t91)]) fun t92 h50 =>
    Mapp T_sha_Hash 32 32 h50 t90 t92 fun t93 h51 =>
    Mwr (st1 h51 (Ptr c.q8 0) t93) fun h52 =>
    Mcall prg f_syngraphref03_Bytes [w] h52 fun t96 h53 =>
    Mapp T_uint8 1 1 h53 t10 t96 fun t97 h54 =>
    K t86 t97 h54))) := by
  subst hn0
  have hrl36 := recC_len (k := a.k) (s := a.s) (vb := vb) (va := va) hraw.1
  have hone := recC_one (k := a.k) (s := a.s) (r := a.r) hraw.2.1 hraw.2.2.1
  obtain ⟨⟨w6, ys, a6, b6, yl, yr⟩, c6⟩ := s.c6
  have f2 : fld 2 (Ptr qr 0) = some (Ptr qr 2) := rfl
  have hb1 : bslV prg T_history_Record 1 [(0, .agg (recC a.k vb va a.s a.r).toArray)] = some (recC a.k vb va a.s a.r).toArray := bsl_one c_Rec (by omega) (by omega) z_Rec0 rfl (by simp [hrl36])
  have D2 : ∀ {g}, At g qr (recC a.k vb va a.s a.r) → ld1 g (Ptr qr 2) = some va := fun x => x.ld rfl
  rw [a6.ld (i := 0) rfl, Mpu_some, ar.ldN hrl36, Mpu_some, f2, Mpu_some, D2 ar, Mpu_some, hb1, Mnews_some]
  generalize hH45 : h.push (.cells (recC a.k vb va a.s a.r).toArray T_history_Record (0, 0)) = h45
  have k45 : Keep (fun _ => False) h h45 := by rw [← hH45]; exact Keep.push
  have n45 : At h45 h.size (recC a.k vb va a.s a.r) := by rw [← hH45]; exact At.push
  have s45 := s.pure k45
  have ar45 := ar.keep k45 id
  have a645 := a6.keep k45 id
  have b645 := b6.keep k45 fun _ _ => id
  have kH45 := kH.trans k45
  rw [D2 ar45, a645.ld (i := 0) rfl]
  simp only [Mre_ok, Mre_nil]
  have sl1 : SlE 36 (fun _ => True) h45 (.slice (some ⟨h.size, 0, none⟩) 1 1) [recC a.k vb va a.s a.r] :=
    ⟨⟨_, 1, rfl, Nat.le_refl _, .inr ⟨h.size, 0, rfl, trivial, by simp only [List.flatten_cons, List.flatten_nil, List.append_nil]; exact n45.pt⟩⟩, fun x hx => by simp at hx; subst hx; exact hrl36, fun x hx => by simp at hx; subst hx; exact hone⟩
  have hzl : (List.zipWith rawC rs ys).length = rs.length := by simp [yl]
  have b645' : BufE 36 (fun b => paint h45.size 6 col b = 6) h45 w6 (List.zipWith rawC rs ys) := BufE.re b645 fun b hb e => (paint_old hb).trans e
  refine BufE.app b645' sl1 (by omega) (by rw [hzl]; simp; omega) (paint_new (Nat.le_refl _)) fun t84 h46 b46 k46 => ?_
  have m46 : Mv col (paint h45.size 6 col) (fun k => k = 6 ∨ k = 16) h45 h46 := Mv.paint k46 (.inl rfl)
  have ar46 := m46.cell ar45 (by rw [cr]; omega)
  have a646 : At h46 c.q6 [w6] := a645.keep k46 fun e => by
    have := a645.lt
    rw [paint_old this, c6] at e; omega
  have cr46 : paint h45.size 6 col qr = 50 := (m46.same _ ar45.lt).trans cr
  have c646 : paint h45.size 6 col c.q6 = 16 := (m46.same _ a645.lt).trans c6
  obtain ⟨h47, st47, a647, k47⟩ := a646.st1 (i := 0) (v := t84) (by simp) b46.sl.oneC
  have m47 : Mv (paint h45.size 6 col) (paint h45.size 6 col) (fun k => k = 6 ∨ k = 16) h46 h47 := Mv.at k47 (.inr c646)
  have ar47 := m47.cell ar46 (by rw [cr46]; omega)
  have m67 := m46.trans m47
  rw [D2 ar46]
  simp only [Mre_ok, Mre_nil, st47, Mwr_some, D2 ar47]
  have hzip : List.zipWith rawC rs ys ++ [recC a.k vb va a.s a.r] = List.zipWith rawC (rs ++ [a]) (ys ++ [(vb, va)]) := by
    rw [List.zipWith_append (by omega)]; rfl
  have s47 : GSt H.size p c stop (paint h45.size 6 col) (rs ++ [a]) (rs ++ [a]) (chL rs) (topF (chL rs)) nw bs t7 t10 h47 := by
    refine s45.mv6 m67 (fun _ h => h) ⟨t84, ys ++ [(vb, va)], a647, ?_, by simp [yl], fun i a' y h1 h2 => ?_⟩
    · rw [← hzip]
      exact b46.keep k47 fun b hb e => by subst e; rw [c646] at hb; omega
    · have back : ∀ {a' : RecA} {y : Value × Value}, RawIn (· < H.size) h45 a' y → RawIn (· < H.size) h47 a' y := fun r => ⟨r.1, m67.items (by omega) s45.nle s45.inp r.2.1, m67.items (by omega) s45.nle s45.inp r.2.2.1, r.2.2.2⟩
      by_cases hi : i < rs.length
      · rw [List.getElem?_append_left hi] at h1
        rw [List.getElem?_append_left (by omega)] at h2
        have r := yr i a' y h1 h2
        exact back ⟨r.1, r.2.1.keep k45 fun _ _ => id, r.2.2.1.keep k45 fun _ _ => id, r.2.2.2⟩
      · have hir : i = rs.length := by
          have := (List.getElem?_eq_some_iff.1 h1).1
          simp at this; omega
        subst hir
        rw [List.getElem?_append_right (Nat.le_refl _)] at h1
        rw [List.getElem?_append_right (by omega), show rs.length - ys.length = 0 by omega] at h2
        simp at h1 h2
        subst h1 h2
        exact back ⟨hraw.1, hraw.2.1.keep k45 fun _ _ => id, hraw.2.2.1.keep k45 fun _ _ => id, hraw.2.2.2⟩
  have kH47 := m67.keep0 (by omega) kH45 s45.inp
  have hw45 := hw.keep k45 fun _ _ => id
  have hsz45 := k45.1
  have hw47 : Sl Pw h47 w (recB a) := hw45.keep m67.keep fun b hb hS => by
    obtain ⟨e1, e2⟩ := hPw b hb
    rcases hS with hS | hS
    · omega
    · rw [e2] at hS; omega
  have hsz47 := m67.keep.1
  have hc50 : ∀ b, Pw b → paint h45.size 6 col b = 50 := fun b hb => (paint_old (by have := (hPw b hb).1; omega)).trans (hPw b hb).2
  generalize paint h45.size 6 col = col2 at *
  /- the chain's top -/
  have l9 : ldN 32 h47 (Ptr c.q9 0) = some (bv (topF (chL rs))) := s47.c9.1.ldN (by simp [h32])
  obtain ⟨bl, _, _⟩ := recB_len4 hok hwf
  rw [l9, Mpu_some]
  refine call_i (c_tag_Record h32 hw47 (hS.keep kH47 fun _ h => h.elim) (fun b hb => by have := (hPw b hb).1; omega) (by omega)) ?_
  rintro _ h48 ⟨rfl, k48⟩
  have s48 := s47.pure k48
  have kH48 := kH47.trans k48
  have hw48 := hw47.keep k48 fun _ _ => id
  have hsz48 := k48.1
  generalize htp : shaF (7 :: (topF (chL rs) ++ recB a)) = tp
  have htpl : tp.length = 32 := by rw [← htp]; exact shaF_len
  obtain ⟨h49, st49, a949, k49⟩ := s48.c9.1.st (n := 32) (ds := bcells tp) (by simp [h32]) (by simp [htpl]) bcells_one
  have m49 : Mv col2 col2 (fun k => k = 19) h48 h49 := Mv.at k49 s48.c9.2
  have s49 := s48.mv19 m49 (fun _ h => h) a949
  have kH49 := m49.keep0 (by omega) kH48 s48.inp
  have hw49 : Sl Pw h49 w (recB a) := hw48.keep m49.keep fun b hb hS => by
    have e1 := (hPw b hb).1
    rcases hS with hS | hS
    · omega
    · rw [hc50 b hb] at hS; omega
  have hsz49 := m49.keep.1
  have hbv : (bv tp) = .agg (bcells tp).toArray := rfl
  rw [hbv, st49, Mwr_some]
  obtain ⟨⟨w8, a8, b8⟩, c8⟩ := s49.c8
  have hb1h : bslV prg T_sha_Hash 1 [(0, .agg (bcells tp).toArray)] = some (bcells tp).toArray := bsl_one c_Hash (by omega) (by omega) z_Hash rfl (by simp [htpl])
  rw [a8.ld (i := 0) rfl, Mpu_some, a949.ldN (n := 32) (by simp [htpl]), Mpu_some, hb1h, Mnews_some]
  generalize hH50 : h49.push (.cells (bcells tp).toArray T_sha_Hash (0, 0)) = h50
  have k50 : Keep (fun _ => False) h49 h50 := by rw [← hH50]; exact Keep.push
  have n50 : At h50 h49.size (bcells tp) := by rw [← hH50]; exact At.push
  have s50 := s49.pure k50
  have a850 := a8.keep k50 id
  have b850 := b8.keep k50 fun _ _ => id
  have hw50 := hw49.keep k50 fun _ _ => id
  have kH50 := kH49.trans k50
  have hsz50 := k50.1
  have sl2 : SlE 32 (fun _ => True) h50 (.slice (some ⟨h49.size, 0, none⟩) 1 1) [bcells tp] :=
    ⟨⟨_, 1, rfl, Nat.le_refl _, .inr ⟨h49.size, 0, rfl, trivial, by simp only [List.flatten_cons, List.flatten_nil, List.append_nil]; exact n50.pt⟩⟩, fun x hx => by simp at hx; subst hx; simp [htpl], fun x hx => by simp at hx; subst hx; exact bcells_one⟩
  have hchl : (chL rs).length = rs.length := by
    obtain ⟨Fr, Fc, Fi, hh, _⟩ := s.hist
    have h1 := hh.len
    rw [chL_snoc] at h1
    simp at h1; exact h1
  have b850' : BufE 32 (fun b => paint h50.size 8 col2 b = 8) h50 w8 ((chL rs).map bcells) := BufE.re b850 fun b hb e => (paint_old hb).trans e
  refine BufE.app b850' sl2 (by omega) (by simp [hchl]; omega) (paint_new (Nat.le_refl _)) fun t93 h51 b51 k51 => ?_
  have m51 : Mv col2 (paint h50.size 8 col2) (fun k => k = 8 ∨ k = 18) h50 h51 := Mv.paint k51 (.inl rfl)
  have a851 : At h51 c.q8 [w8] := a850.keep k51 fun e => by
    have := a850.lt
    rw [paint_old this, c8] at e; omega
  have c851 : paint h50.size 8 col2 c.q8 = 18 := (m51.same _ a850.lt).trans c8
  obtain ⟨h52, st52, a852, k52⟩ := a851.st1 (i := 0) (v := t93) (by simp) b51.sl.oneC
  have m52 : Mv (paint h50.size 8 col2) (paint h50.size 8 col2) (fun k => k = 8 ∨ k = 18) h51 h52 := Mv.at k52 (.inr c851)
  have m82 := m51.trans m52
  rw [st52, Mwr_some]
  have hchain : chainF (chL rs) a = tp := htp
  have s52 : GSt H.size p c stop (paint h50.size 8 col2) (rs ++ [a]) (rs ++ [a]) (chL (rs ++ [a])) tp nw bs t7 t10 h52 := by
    refine s50.mv8 m82 (fun _ h => h) ⟨t93, a852, ?_⟩
    rw [chL_snoc, hchain, List.map_append]
    exact b51.keep k52 fun b hb e => by subst e; rw [c851] at hb; omega
  have kH52 := m82.keep0 (by omega) kH50 s50.inp
  have hw52 : Sl Pw h52 w (recB a) := hw50.keep m82.keep fun b hb hS => by
    have e1 := (hPw b hb).1
    rcases hS with hS | hS
    · omega
    · rw [hc50 b hb] at hS; omega
  generalize paint h50.size 8 col2 = col3 at *
  refine call_i (c_refBytes hw52 (by omega)) ?_
  rintro t96 h53 ⟨hb53, k53⟩
  have s53 := s52.pure k53
  have kH53 := kH52.trans k53
  have b10 : Buf (fun b => paint h53.size 10 col3 b = 10) h53 t10 bs := s53.byt.re fun b hb e => (paint_old hb).trans e
  refine Buf.app b10 hb53.sl.bs (by rw [textB_len]; omega) (paint_new (Nat.le_refl _)) fun t97 h54 b54 k54 => ?_
  have m54 : Mv col3 (paint h53.size 10 col3) (fun k => k = 10) h53 h54 := Mv.paint k54 rfl
  have s54 := s53.mv10 m54 (fun _ h => h) b54
  have kH54 := m54.keep0 (by omega) kH53 s53.inp
  have htop : topF (chL (rs ++ [a])) = tp := by rw [chL_snoc, hchain]; unfold topF; simp
  have hi54 : Items (· < H.size) h54 va a.aft := by
    refine hraw.2.2.1.keep (S := fun b => H.size ≤ b) ⟨?_, fun i hi hS => ?_⟩ fun b hb h => by omega
    · have e1 := k53.1; have e2 := m54.keep.1; have e3 := m82.keep.1
      omega
    · have hlt : i < H.size := by omega
      rw [kH54.2 i hlt id, kH.2 i hlt id]
  refine hK (paint h53.size 10 col3) t97 h54 ?_ kH54
  rw [htop]
  exact s54.withNow hi54
end Go.Proofs.YtmhfanpijdgkjabGreatDoor
/- HistoryGrows: the loop over the records. -/
namespace Go.Proofs.YtmhfanpijdgkjabGreatDoor
open Go.X Go.X.Diff
set_option maxRecDepth 100000

def flatB (rs : List RecA) : List UInt8 := (rs.map fun a => textB (recB a)).flatten
theorem flatB_snoc {rs : List RecA} {a : RecA} : flatB (rs ++ [a]) = flatB rs ++ textB (recB a) := by simp [flatB]
theorem nowF_snoc {rs : List RecA} {a : RecA} : nowF (rs ++ [a]) = a.aft := by simp [nowF]
theorem grown_snoc {rs : List RecA} {a : RecA} (h : Grown rs) (hl : rs.length < 4096) (ha : appOk rs a = true) (w : RecWf a) : Grown (rs ++ [a]) := by
  refine ⟨by simp; omega, fun i b hb => ?_⟩
  by_cases hi : i < rs.length
  · rw [List.getElem?_append_left hi] at hb
    rw [List.take_append_of_le_length (by omega)]
    exact h.2 i b hb
  · have hir : i = rs.length := by
      have := (List.getElem?_eq_some_iff.1 hb).1
      simp at this; omega
    subst hir
    rw [List.getElem?_append_right (Nat.le_refl _)] at hb
    simp at hb
    subst hb
    rw [List.take_left' rfl]
    exact ⟨ha, w⟩
theorem grown_ok {rs : List RecA} (h : Grown rs) : ∀ a ∈ rs, recOk a = true ∧ RecWf a := fun a ha => by
  obtain ⟨i, hi⟩ := List.getElem?_of_mem ha
  obtain ⟨h1, h2⟩ := h.2 i a hi
  exact ⟨appOk_rec h1, h2⟩
/-- the law's state, all lists told by one -/
def GAll (n0 p : Nat) (c : Cells) (stop : Int) (rs : List RecA) (t7 t10 : Value) (h : Heap) : Prop :=
  ∃ col, GSt n0 p c stop col rs rs (chL rs) (topF (chL rs)) (nowF rs) (flatB rs) t7 t10 h ∧ Grown rs

theorem top32 {n0 p : Nat} {c : Cells} {stop : Int} {col : Nat → Nat} {rs ra : List RecA} {ch : List (List UInt8)} {tp : List UInt8} {nw : List Item} {bs : List UInt8} {t7 t10 : Value} {h : Heap} (s : GSt n0 p c stop col rs ra ch tp nw bs t7 t10 h) : (topF (chL rs)).length = 32 := by
  obtain ⟨Fr, Fc, Fi, hh, _⟩ := s.hist
  exact topF_len hh.c32

theorem grow_round {p : Nat} {c : Cells} {stop : Int} {v : Value} {l : List (RecA × Value × Value)} {i : Nat} {rs : List RecA} {t7 t10 : Value} {H h21 : Heap} {K : Value → Value → Heap → Prop} {R : Value → Heap → Prop}
    (hv : Recs (· < H.size) H v l) (hl : l.length ≤ 20) (hS : ShaT H) (hT : PowT H) (hi : i < l.length) (hri : rs.length ≤ i)
    (sg : GAll H.size p c stop rs t7 t10 h21) (kh : Keep (fun _ => False) H h21) (hq4 : H.size ≤ c.q4)
    (hR : ∀ h', Keep (fun _ => False) H h' → R (.bool true) h')
    (hK : ∀ rs' t7' t10' h', GAll H.size p c stop rs' t7' t10' h' → rs'.length ≤ i + 1 → Keep (fun _ => False) H h' → K t7' t10' h') :
    Mpu (ixS 36 v (.int .i64 (i : Nat))) fun t47 =>
          Mpu (ldN 36 h21 t47) fun t48 =>
          Mnew h21 T_history_Record (zcells prg T_history_Record) fun t12 h22 =>
          Mwr (stN 36 h22 t12 t48) fun h23 =>
          Mpu (ldN 36 h23 t12) fun t49 =>
          Mcall prg f_syngraphlaw22_small [t49] h23 fun t50 h24 =>
          Mpu (unV .not t50) fun t51 =>
          Mcd t51 (
            Mcall prg f_syngraphlaw22_awake [] h24 fun t52 h25 =>
            Mwr (st1 h25 (Ptr c.q4 0) t52) fun h26 =>
            Mcl H.size h26 fun h27 =>
            Mpu (ld1 h27 (Ptr c.q4 0)) fun r28 =>
            R r28 h27) (
            Mpu (ldN 36 h24 t12) fun t54 =>
            Mcall prg f_syngraphlaw22_recordBytes [t54] h24 fun t55 h29 =>
            Mpu (extV 0 t55) fun t56 =>
            Mpu (extV 1 t55) fun t57 =>
            J1 (fun k30 => Mif t57 true (
                Mpu (fld 1 t12) fun t60 =>
                Mpu (ld1 h29 t60) fun t61 =>
                Mcall prg f_syngraphlaw22_same [t61, t7] h29 fun t63 h31 =>
                k30 t63 h31) (
                k30 undef h29)) fun t63_2 h32 =>
            Mpu (pickV t57 t63_2 (.bool false)) fun t64 =>
            Mpu (ld1 h32 (Ptr c.q5 0)) fun t65 =>
            Mpu (ldN 36 h32 t12) fun t66 =>
            Mcall prg f_history_History_Append [t65, t66] h32 fun t67 h33 =>
            Mpu (binV .no .eql t67 (.int .i64 0)) fun t70 =>
            Mpu (binV .bool .neq t64 t70) fun t71 =>
            J1 (fun k34 => Mif t71 false (
                Mpu (unV .not t64) fun t74 =>
                k34 t74 h33) (
                k34 undef h33)) fun t75_2 h35 =>
            J1 (fun k36 => Mif t75_2 true (
                Mpu (binV .no .neq t67 (.int .i64 10)) fun t77 =>
                k36 t77 h35) (
                k36 undef h35)) fun t77_2 h37 =>
            J1 (fun k38 => Mif t71 false (
                Mpu (pickV t75_2 t77_2 (.bool false)) fun t78 =>
                k38 t78 h37) (
                k38 undef h37)) fun t78_2 h39 =>
            Mpu (pickV t71 (.bool true) t78_2) fun t79 =>
            Mcd t79 (
              Mwr (st1 h39 (Ptr c.q4 0) (.bool false)) fun h40 =>
              Mcl H.size h40 fun h41 =>
              Mpu (ld1 h41 (Ptr c.q4 0)) fun r42 =>
              R r42 h41) (
              J2 (fun k43 =>
                Mcd t64 (
                  Mpu (ld1 h39 (Ptr c.q6 0)) fun t81 =>
                  Mpu (ldN 36 h39 t12) fun t82 =>
                  Mpu (fld 2 t12) fun t85 =>
                  Mpu (ld1 h39 t85) fun t86 =>
                  Mnews h39 T_history_Record 1 (bslV prg T_history_Record 1 [(0, t82)]) fun t83 h45 =>
                  Mre [(ld1 h45 t85, t86), (ld1 h45 (Ptr c.q6 0), t81)] (
                  Mapp T_history_Record 36 96 h45 t81 t83 fun t84 h46 =>
                  Mre [(ld1 h46 t85, t86)] (
                  Mwr (st1 h46 (Ptr c.q6 0) t84) fun h47 =>
                  Mre [(ld1 h47 t85, t86)] (
                  Mpu (ldN 32 h47 (Ptr c.q9 0)) fun t87 =>
                  Mcall prg f_tag_Record [t87, t56] h47 fun t89 h48 =>
                  Mwr (stN 32 h48 (Ptr c.q9 0) t89) fun h49 =>
                  Mpu (ld1 h49 (Ptr c.q8 0)) fun t90 =>
                  Mpu (ldN 32 h49 (Ptr c.q9 0)) fun t91 =>
                  Mnews h49 T_sha_Hash 1 (bslV prg T_sha_Hash 1 [(0, t91)]) fun t92 h50 =>
                  Mapp T_sha_Hash 32 32 h50 t90 t92 fun t93 h51 =>
                  Mwr (st1 h51 (Ptr c.q8 0) t93) fun h52 =>
                  Mcall prg f_syngraphref03_Bytes [t56] h52 fun t96 h53 =>
                  Mapp T_uint8 1 1 h53 t10 t96 fun t97 h54 =>
                  k43 t86 t97 h54)))) (
                  k43 t7 t10 h39)) fun t7_4 t10_4 h44 =>
              Mpu (ld1 h44 (Ptr c.q5 0)) fun t98 =>
              Mpu (ld1 h44 (Ptr c.q6 0)) fun t100 =>
              Mpu (lenV t100) fun t101 =>
              Mcall prg f_history_History_Len [t98] h44 fun t99 h55 =>
              Mre [(ld1 h55 (Ptr c.q6 0), t100)] (
              Mpu (binV .no .neq t99 t101) fun t102 =>
              J1 (fun k56 => Mif t102 false (
                  Mpu (ld1 h55 (Ptr c.q5 0)) fun t104 =>
                  Mpu (ldN 32 h55 (Ptr c.q9 0)) fun t106 =>
                  Mcall prg f_history_History_Top [t104] h55 fun t105 h57 =>
                  Mre [(ldN 32 h57 (Ptr c.q9 0), t106)] (
                  Mpu (binV (eqK prg T_sha_Hash) .neq t105 t106) fun t107 =>
                  k56 t107 h57)) (
                  k56 undef h55)) fun t107_2 h58 =>
              Mpu (pickV t102 (.bool true) t107_2) fun t108 =>
              J1 (fun k59 => Mif t108 false (
                  Mpu (ld1 h58 (Ptr c.q5 0)) fun t110 =>
                  Mcall prg f_history_History_Now [t110] h58 fun t111 h60 =>
                  Mcall prg f_syngraphlaw22_same [t111, t7_4] h60 fun t113 h61 =>
                  Mpu (unV .not t113) fun t114 =>
                  k59 t114 h61) (
                  k59 undef h58)) fun t114_2 h62 =>
              Mpu (pickV t108 (.bool true) t114_2) fun t115 =>
              Mcd t115 (
                Mwr (st1 h62 (Ptr c.q4 0) (.bool false)) fun h63 =>
                Mcl H.size h63 fun h64 =>
                Mpu (ld1 h64 (Ptr c.q4 0)) fun r65 =>
                R r65 h64) (
                K t7_4 t10_4 h62)))) := by
  obtain ⟨col, s, hg⟩ := sg
  have hgl : l[i]? = some l[i] := List.getElem?_eq_getElem hi
  generalize l[i] = r at hgl
  obtain ⟨a, x⟩ := r
  obtain ⟨hr0, b, o, hix, hpt, _⟩ := (hv.keep kh fun _ _ => id).at hgl
  simp only at hr0 hpt
  obtain ⟨vb, va⟩ := x
  have hraw0 : RawIn (· < H.size) H a (vb, va) := hv.2 (a, vb, va) (List.mem_of_getElem? hgl)
  have hrl36 := rawC_len (x := (vb, va)) hr0.1
  rw [hix, Mpu_some, hpt.agg hrl36, Mpu_some]
  refine new_rec hrl36 (rawC_one hr0) fun h23 hs23 ar k23 => ?_
  have m23 : Mv col (paint h21.size 50 col) (fun k => 20 ≤ k) h21 h23 := ⟨k23.mono fun _ _ h => h.elim, fun b hb => paint_old hb⟩
  have s23 := s.mv m23 (fun _ h => h)
  have cr : paint h21.size 50 col h21.size = 50 := paint_new (Nat.le_refl _)
  have cnew : ∀ b, h21.size ≤ b → paint h21.size 50 col b = 50 := fun b hb => paint_new hb
  generalize paint h21.size 50 col = col1 at *
  have k023 := kh.trans k23
  have RW : ∀ {g}, Keep (fun _ => False) H g → RawIn (· < H.size) g a (vb, va) := fun k => ⟨hraw0.1, hraw0.2.1.keep k fun _ _ => id, hraw0.2.2.1.keep k fun _ _ => id, hraw0.2.2.2⟩
  have A : ∀ {g}, Keep (fun _ => False) h23 g → ldN 36 g (Ptr h21.size 0) = some (.agg (recC a.k vb va a.s a.r).toArray) := fun k => (ar.keep k id).ldN hrl36
  rw [A Keep.refl, Mpu_some]
  refine call_i (c_smallR (RW k023).2.1 (RW k023).2.2.1 hr0.1 hr0.2.2.2.1 hr0.2.2.2.2) ?_
  rintro _ h24 ⟨rfl, k24⟩
  /- the end at t4 -/
  have endT : ∀ (g : Heap) (y : Bool) (cs : List Value), At g c.q4 [.bool y] → Keep (fun _ => False) H g → Mwr (st1 g (Ptr c.q4 0) (.bool true)) fun h26 => Mcl H.size h26 fun h27 => Mpu (ld1 h27 (Ptr c.q4 0)) fun r28 => R r28 h27 := by
    intro g y _ ag kg
    obtain ⟨g2, st, ag2, kg2⟩ := ag.st1 (i := 0) (v := .bool true) (by simp) rfl
    rw [st, Mwr_some]
    refine mcl_i fun h27 cl => ?_
    rw [(ag2.closed cl).ld (i := 0) rfl, Mpu_some]
    exact hR _ (keep_closed (kg.fresh kg2 fun b hb => by omega) cl)
  have k024 := k023.trans k24
  have s24 := s23.pure k24
  have SS : ∀ {g}, Keep (fun _ => False) H g → ShaT g := fun k => hS.keep k fun _ h => h.elim
  have TT : ∀ {g}, Keep (fun _ => False) H g → PowT g := fun k => hT.keep k fun _ h => h.elim
  cases hsm : smallB a.bef a.aft
  · simp only [unV_not, Bool.not_true, Bool.not_false, Mif_bool, Mif_undef, pickV_bool, Mcd_bool, Mpu_some, if_true, if_false, Bool.false_eq_true, Bool.true_eq_false, decide_true, decide_false, reduceCtorEq, J1_eq, ex20, ex21, ex30, ex31, ex32, Mre_ok, Mre_nil]
    refine call_i (c_awake22 (SS k024) (TT k024)) ?_
    rintro _ h25 ⟨rfl, k25⟩
    obtain ⟨⟨y, a4⟩, _⟩ := (s24.pure k25).c4
    exact endT h25 y [] a4 (k024.trans k25)
  obtain ⟨bl, lb, la⟩ := recB_small hraw0 hsm
  have wf : RecWf a := ⟨hraw0.2.1.2, hraw0.2.2.1.2, hraw0.1⟩
  have ex0 : ∀ x y : Value, extV 0 (.tuple #[x, y]) = some x := fun _ _ => rfl
  have ex1 : ∀ x y : Value, extV 1 (.tuple #[x, y]) = some y := fun _ _ => rfl
  simp only [A k24, unV_not, Bool.not_true, Bool.not_false, Mif_bool, Mif_undef, pickV_bool, Mcd_bool, Mpu_some, if_true, if_false, Bool.false_eq_true, Bool.true_eq_false, decide_true, decide_false, reduceCtorEq, ex20, ex21, ex30, ex31, ex32, Mre_ok, Mre_nil]
  refine call_i (c_recordBytes (RW k024).2.1 (RW k024).2.2.1 hr0.1 (by omega) (by omega)) ?_
  rintro _ h29 ⟨⟨w, rfl, hw⟩, k29⟩
  have k029 := k024.trans k29
  have s29 := s24.pure k29
  have k2329 := k24.trans k29
  rw [ex0, Mpu_some, ex1, Mpu_some]
  refine J1_i (fun u h => (recOk a = true → u = .bool (decide (a.bef = nowF rs))) ∧ h29 = h) (fun k30 hk30 => ?_) ?_
  · cases hok : recOk a
    · simp only [unV_not, Bool.not_true, Bool.not_false, Mif_bool, Mif_undef, pickV_bool, Mcd_bool, Mpu_some, if_true, if_false, Bool.false_eq_true, Bool.true_eq_false, decide_true, decide_false, reduceCtorEq, ex20, ex21, ex30, ex31, ex32, Mre_ok, Mre_nil]
      exact hk30 _ _ ⟨fun h => (by rw [hok] at h; cases h), rfl⟩
    · have f1 : fld 1 (Ptr h21.size 0) = some (Ptr h21.size 1) := rfl
      have d1 : ld1 h29 (Ptr h21.size 1) = some vb := (ar.keep k2329 id).ld rfl
      simp only [f1, d1, unV_not, Bool.not_true, Bool.not_false, Mif_bool, Mif_undef, pickV_bool, Mcd_bool, Mpu_some, if_true, if_false, Bool.false_eq_true, Bool.true_eq_false, decide_true, decide_false, reduceCtorEq, ex20, ex21, ex30, ex31, ex32, Mre_ok, Mre_nil]
      refine call_i (c_same (RW k029).2.1 s29.now (by omega)) ?_
      rintro _ h31 ⟨rfl, rfl⟩
      exact hk30 _ _ ⟨fun _ => rfl, rfl⟩
  rintro t63 _ ⟨h63, rfl⟩
  have hap : pickV (.bool (recOk a)) t63 (.bool false) = some (.bool (appOk rs a)) := by
    unfold appOk
    rw [pickV_bool]
    cases hok : recOk a
    · rfl
    · rw [h63 hok]; rfl
  obtain ⟨Fr, Fc, Fi, hh, hcol⟩ := s29.hist
  have c5 := s29.c5.1.ld (i := 0) (v := Ptr p 0) rfl
  rw [hap, Mpu_some, c5, Mpu_some, A k2329, Mpu_some]
  refine call_i (c_Append hh (SS k029) (RW k029).2.1 (RW k029).2.2.1 (fun b hb => ⟨Nat.lt_of_lt_of_le hb k029.1, fun h => by have e1 := hcol b h; have e2 := s29.inp b hb; omega⟩) hr0.1 (TT k029) (by omega) (by omega) (by omega)) ?_
  rintro u h33 hA
  have hfew : rs.length ≤ 20 := by omega
  /- both outcomes told as one -/
  obtain ⟨e, hue, he, col2, s33, k033, ar33, cr33, hw33⟩ : ∃ e : Int, u = .int .i64 e ∧ e = (if appOk rs a = true then 0 else 10) ∧ ∃ col2, GSt H.size p c stop col2 (if appOk rs a = true then rs ++ [a] else rs) rs (chL rs) (topF (chL rs)) (nowF rs) (flatB rs) t7 t10 h33 ∧ Keep (fun _ => False) H h33 ∧
      At h33 h21.size (recC a.k vb va a.s a.r) ∧ col2 h21.size = 50 ∧ (recOk a = true → Sl (fun b => h24.size ≤ b ∧ b < h29.size) h33 w (recB a) ∧ ∀ b, (h24.size ≤ b ∧ b < h29.size) → b < h33.size ∧ col2 b = 50) := by
    have ar29 := ar.keep k2329 id
    have q24 := k24.1
    have q29 := k29.1
    rcases hA with ⟨hno, rfl, k33⟩ | ⟨_, h4096, _⟩ | ⟨hyes, hne, rfl, k33, Fr', Fc', Fi', hh33, hHB33⟩
    · refine ⟨10, rfl, by rw [if_neg (by rw [hno]; decide)], col1, by rw [if_neg (by rw [hno]; decide)]; exact s29.pure k33, k029.trans k33, ar29.keep k33 id, cr, fun hok => ⟨(hw hok).sl.keep k33 fun _ _ => id, fun b hb => ⟨by have := k33.1; omega, cnew b (by omega)⟩⟩⟩
    · omega
    · have m33 : Mv col1 (paint h29.size 0 col1) (fun k => k = 0) h29 h33 := ⟨k33.mono fun b hb h => .inr (hcol b h), fun b hb => paint_old hb⟩
      refine ⟨0, rfl, by rw [if_pos hyes], paint h29.size 0 col1, ?_, m33.keep0 (by omega) k029 s29.inp, m33.cell ar29 (by rw [cr]; omega), (paint_old ar29.lt).trans cr, fun hok => ⟨(hw hok).sl.keep k33 fun b hb h => ?_, fun b hb => ⟨by have := m33.keep.1; omega, (paint_old hb.2).trans (cnew b (by omega))⟩⟩⟩
      · rw [if_pos hyes]
        refine s29.mv0 m33 (fun _ h => h) ⟨Fr', Fc', Fi', by rw [chL_snoc]; exact hh33, fun b hb => ?_⟩
        by_cases hlt : b < h29.size
        · rw [paint_old hlt]
          rcases hHB33 b hb with h | h
          · exact hcol b h
          · omega
        · exact paint_new (by omega)
      · have e1 := hcol b h
        rw [cnew b (by omega)] at e1; omega
  subst hue
  have eq0 : binV .no .eql (.int .i64 e) (.int .i64 0) = some (.bool (appOk rs a)) := by
    rw [he]; cases appOk rs a <;> rfl
  have ne10 : appOk rs a = false → binV .no .neq (.int .i64 e) (.int .i64 10) = some (.bool false) := fun h => by
    rw [he, h]; rfl
  clear he hA hap
  simp only [eq0, ne_bool, bne_self_eq_false, unV_not, Bool.not_true, Bool.not_false, Mif_bool, Mif_undef, pickV_bool, Mcd_bool, Mpu_some, if_true, if_false, Bool.false_eq_true, Bool.true_eq_false, decide_true, decide_false, reduceCtorEq, ex20, ex21, ex30, ex31, ex32, Mre_ok, Mre_nil]
  refine J1_i (fun t75 h => t75 = .bool (!appOk rs a) ∧ h33 = h) (fun k34 hk34 => hk34 _ _ ⟨rfl, rfl⟩) ?_
  rintro _ _ ⟨rfl, rfl⟩
  refine J1_i (fun t77 h => (appOk rs a = false → t77 = .bool false) ∧ h33 = h) (fun k36 hk36 => ?_) ?_
  · cases hap : appOk rs a
    · simp only [ne10 hap, unV_not, Bool.not_true, Bool.not_false, Mif_bool, Mif_undef, pickV_bool, Mcd_bool, Mpu_some, if_true, if_false, Bool.false_eq_true, Bool.true_eq_false, decide_true, decide_false, reduceCtorEq, ex20, ex21, ex30, ex31, ex32, Mre_ok, Mre_nil]
      exact hk36 _ _ ⟨fun _ => rfl, rfl⟩
    · simp only [unV_not, Bool.not_true, Bool.not_false, Mif_bool, Mif_undef, pickV_bool, Mcd_bool, Mpu_some, if_true, if_false, Bool.false_eq_true, Bool.true_eq_false, decide_true, decide_false, reduceCtorEq, ex20, ex21, ex30, ex31, ex32, Mre_ok, Mre_nil]
      exact hk36 _ _ ⟨fun h => (by rw [hap] at h; cases h), rfl⟩
  rintro t77 _ ⟨h77, rfl⟩
  have hp77 : pickV (.bool (!appOk rs a)) t77 (.bool false) = some (.bool false) := by
    rw [pickV_bool]
    cases hap : appOk rs a
    · rw [h77 hap]; rfl
    · rfl
  simp only [hp77, unV_not, Bool.not_true, Bool.not_false, Mif_bool, Mif_undef, pickV_bool, Mcd_bool, Mpu_some, if_true, if_false, Bool.false_eq_true, Bool.true_eq_false, decide_true, decide_false, reduceCtorEq, ex20, ex21, ex30, ex31, ex32, Mre_ok, Mre_nil]
  refine J1_i (fun t78 h => t78 = .bool false ∧ h33 = h) (fun k38 hk38 => hk38 _ _ ⟨rfl, rfl⟩) ?_
  rintro _ _ ⟨rfl, rfl⟩
  simp only [unV_not, Bool.not_true, Bool.not_false, Mif_bool, Mif_undef, pickV_bool, Mcd_bool, Mpu_some, if_true, if_false, Bool.false_eq_true, Bool.true_eq_false, decide_true, decide_false, reduceCtorEq, ex20, ex21, ex30, ex31, ex32, Mre_ok, Mre_nil]
  refine J2_i (fun t7' t10' h => ∃ rs', GAll H.size p c stop rs' t7' t10' h ∧ rs'.length ≤ i + 1 ∧ Keep (fun _ => False) H h) (fun k43 hk43 => ?_) ?_
  · cases hap : appOk rs a
    · rw [hap] at s33
      rw [if_neg (by decide)] at s33
      simp only [unV_not, Bool.not_true, Bool.not_false, Mif_bool, Mif_undef, pickV_bool, Mcd_bool, Mpu_some, if_true, if_false, Bool.false_eq_true, Bool.true_eq_false, decide_true, decide_false, reduceCtorEq, ex20, ex21, ex30, ex31, ex32, Mre_ok, Mre_nil]
      exact hk43 _ _ _ ⟨rs, ⟨col2, s33, hg⟩, by omega, k033⟩
    · rw [hap] at s33
      rw [if_pos rfl] at s33
      simp only [if_true]
      have hok := appOk_rec hap
      obtain ⟨hws, hwc⟩ := hw33 hok
      have hflat : (flatB rs).length ≤ 100000000 := by
        have := flatR_len (grown_ok hg)
        unfold flatB; omega
      refine grow_step s33 rfl k033 ar33 cr33 hws hwc (RW k033) wf hok (by omega) hflat hS (top32 s) fun col' t10' h' s' kk => ?_
      refine hk43 _ _ _ ⟨rs ++ [a], ⟨col', by rw [nowF_snoc, flatB_snoc]; exact s', grown_snoc hg (by omega) hap wf⟩, by simp; omega, kk⟩
  rintro t7' t10' h44 ⟨rs', ⟨col', s', hg'⟩, hl', k044⟩
  obtain ⟨Fr', Fc', Fi', hh', hcol'⟩ := s'.hist
  obtain ⟨⟨w6, ys, a6, b6, yl, yr⟩, c6⟩ := s'.c6
  have hzl : (List.zipWith rawC rs' ys).length = rs'.length := by simp [yl]
  have l6 := b6.sl.len
  rw [hzl] at l6
  have e5 := s'.c5.1.ld (i := 0) (v := Ptr p 0) rfl
  have e6 := a6.ld (i := 0) (v := w6) rfl
  have ht32 := top32 s'
  have e9 : ldN 32 h44 (Ptr c.q9 0) = some (bv (topF (chL rs'))) := s'.c9.1.ldN (by simp [ht32])
  have nl : binV .no .neq (.int .i64 (rs'.length : Nat)) (.int .i64 (rs'.length : Nat)) = some (.bool false) := by rw [binV_int]; simp [intV]
  rw [e5, Mpu_some, e6, Mpu_some, l6, Mpu_some]
  refine call_i (c_HistLen hh') ?_
  rintro _ h55 ⟨rfl, rfl⟩
  simp only [e6, Mre_ok, Mre_nil, nl, unV_not, Bool.not_true, Bool.not_false, Mif_bool, Mif_undef, pickV_bool, Mcd_bool, Mpu_some, if_true, if_false, Bool.false_eq_true, Bool.true_eq_false, decide_true, decide_false, reduceCtorEq, ex20, ex21, ex30, ex31, ex32, Mre_ok, Mre_nil]
  refine J1_eq.2 ?_
  simp only [e5, e9, unV_not, Bool.not_true, Bool.not_false, Mif_bool, Mif_undef, pickV_bool, Mcd_bool, Mpu_some, if_true, if_false, Bool.false_eq_true, Bool.true_eq_false, decide_true, decide_false, reduceCtorEq, ex20, ex21, ex30, ex31, ex32, Mre_ok, Mre_nil]
  refine call_i (c_HistTop hh') ?_
  rintro _ h57 ⟨rfl, k57⟩
  have s57 := s'.pure k57
  have e957 : ldN 32 h57 (Ptr c.q9 0) = some (bv (topF (chL rs'))) := s57.c9.1.ldN (by simp [ht32])
  have e557 := s57.c5.1.ld (i := 0) (v := Ptr p 0) rfl
  have nt := ne_Hash (a := topF (chL rs')) (b := topF (chL rs')) ht32 ht32
  simp only [decide_true, Bool.not_true] at nt
  simp only [e957, Mre_ok, Mre_nil, nt, unV_not, Bool.not_true, Bool.not_false, Mif_bool, Mif_undef, pickV_bool, Mcd_bool, Mpu_some, if_true, if_false, Bool.false_eq_true, Bool.true_eq_false, decide_true, decide_false, reduceCtorEq, ex20, ex21, ex30, ex31, ex32, Mre_ok, Mre_nil]
  refine J1_eq.2 ?_
  simp only [e557, unV_not, Bool.not_true, Bool.not_false, Mif_bool, Mif_undef, pickV_bool, Mcd_bool, Mpu_some, if_true, if_false, Bool.false_eq_true, Bool.true_eq_false, decide_true, decide_false, reduceCtorEq, ex20, ex21, ex30, ex31, ex32, Mre_ok, Mre_nil]
  refine call_i (c_HistNow (hh'.keep k57 fun _ _ => id)) ?_
  rintro t111 h60 ⟨hnow, k60⟩
  have k4460 := k57.trans k60
  have s60 := s'.pure k4460
  have hnl : (nowF rs').length ≤ 1099511627776 := by
    unfold nowF
    cases hgl : rs'.getLast? with
    | none => simp
    | some z =>
      obtain ⟨o1, o2⟩ := grown_ok hg' z (List.mem_of_getLast? hgl)
      have := (recB_len4 o1 o2).2.2
      show z.aft.length ≤ _
      omega
  refine call_i (c_same hnow s60.now hnl) ?_
  rintro _ h61 ⟨rfl, rfl⟩
  simp only [unV_not, Bool.not_true, Bool.not_false, Mif_bool, Mif_undef, pickV_bool, Mcd_bool, Mpu_some, if_true, if_false, Bool.false_eq_true, Bool.true_eq_false, decide_true, decide_false, reduceCtorEq, ex20, ex21, ex30, ex31, ex32, Mre_ok, Mre_nil]
  exact hK rs' t7' t10' _ ⟨col', s60, hg'⟩ hl' (k044.trans k4460)
end Go.Proofs.YtmhfanpijdgkjabGreatDoor
/- The walk of HistoryGrows. -/
namespace Go.Proofs.YtmhfanpijdgkjabGreatDoor
open Go.X Go.X.Diff
set_option maxRecDepth 100000

theorem flatB_inj {X Y : List UInt8} : ∀ {rs rs2 : List RecA}, rs.length = rs2.length → (∀ a ∈ rs, recOk a = true ∧ RecWf a) → (∀ a ∈ rs2, recOk a = true ∧ RecWf a) → flatB rs ++ X = flatB rs2 ++ Y → rs = rs2
  | [], [], _, _, _, _ => rfl
  | a :: rs, b :: rs2, hl, h1, h2, e => by
    have ea : flatB (a :: rs) = textB (recB a) ++ flatB rs := by simp [flatB]
    have eb : flatB (b :: rs2) = textB (recB b) ++ flatB rs2 := by simp [flatB]
    rw [ea, eb, List.append_assoc, List.append_assoc] at e
    obtain ⟨o1, w1⟩ := h1 a (by simp)
    obtain ⟨o2, w2⟩ := h2 b (by simp)
    have l1 := (recB_len4 o1 w1).1
    have l2 := (recB_len4 o2 w2).1
    obtain ⟨e1, e2⟩ := text_app (by omega) (by omega) e
    rw [recB_inj o1 o2 ⟨w1.bef, w1.aft, w1.r⟩ ⟨w2.bef, w2.aft, w2.r⟩ e1, flatB_inj (by simpa using hl) (fun c hc => h1 c (by simp [hc])) (fun c hc => h2 c (by simp [hc])) e2]
theorem histB_inj {rs rs2 : List RecA} (g : Grown rs) (l2 : rs2.length ≤ 4096) (h2 : ∀ a ∈ rs2, recOk a = true ∧ RecWf a) (e : histB rs = histB rs2) : rs = rs2 := by
  have e' : numB (rs.length : Nat) 8 ++ flatB rs = numB (rs2.length : Nat) 8 ++ flatB rs2 := e
  have h4 := g.1
  obtain ⟨e1, e2⟩ := num_app (s := 8) (by omega) (by omega) e'
  exact flatB_inj (X := []) (Y := []) e1 (grown_ok g) h2 (by rw [List.append_nil, List.append_nil]; exact e2)
theorem z_PHist : zcells prg T_P_history_History = some [Value.pointer none].toArray := by kernel_rfl
theorem z_Bool : zcells prg T_bool = some [Value.bool false].toArray := by kernel_rfl
theorem z_IntC : zcells prg T_int = some [Value.int .i64 0].toArray := by kernel_rfl
theorem z_SRec : zcells prg T_S_history_Record = some [Value.slice none 0 0].toArray := by kernel_rfl
theorem z_SHash : zcells prg T_S_sha_Hash = some [Value.slice none 0 0].toArray := by kernel_rfl
theorem cells_int' {n : Int} : Value.cells (.int .i64 n) = [Value.int .i64 n].toArray := rfl

def colG (q3 q4 p q5 q6 q8 q9 : Nat) : Nat → Nat := fun x => if x < q3 then 1 else if x = q3 then 13 else if x = q4 then 14 else if x = p then 0 else if x = q5 then 15 else if x = q6 then 16 else if x = q8 then 18 else if x = q9 then 19 else 50
theorem colG_all {q3 q4 p q5 q6 q8 q9 : Nat} (h1 : q3 < q4) (h2 : q4 < p) (h3 : p < q5) (h4 : q5 < q6) (h5 : q6 < q8) (h6 : q8 < q9) : (∀ b, b < q3 → colG q3 q4 p q5 q6 q8 q9 b = 1) ∧ colG q3 q4 p q5 q6 q8 q9 q3 = 13 ∧ colG q3 q4 p q5 q6 q8 q9 q4 = 14 ∧ colG q3 q4 p q5 q6 q8 q9 p = 0 ∧ colG q3 q4 p q5 q6 q8 q9 q5 = 15 ∧ colG q3 q4 p q5 q6 q8 q9 q6 = 16 ∧ colG q3 q4 p q5 q6 q8 q9 q8 = 18 ∧ colG q3 q4 p q5 q6 q8 q9 q9 = 19 := by
  unfold colG
  refine ⟨fun b hb => if_pos hb, ?_, ?_, ?_, ?_, ?_, ?_, ?_⟩
  · rw [if_neg (show ¬ q3 < q3 by omega), if_pos rfl]
  · rw [if_neg (show ¬ q4 < q3 by omega), if_neg (show ¬ q4 = q3 by omega), if_pos rfl]
  · rw [if_neg (show ¬ p < q3 by omega), if_neg (show ¬ p = q3 by omega), if_neg (show ¬ p = q4 by omega), if_pos rfl]
  · rw [if_neg (show ¬ q5 < q3 by omega), if_neg (show ¬ q5 = q3 by omega), if_neg (show ¬ q5 = q4 by omega), if_neg (show ¬ q5 = p by omega), if_pos rfl]
  · rw [if_neg (show ¬ q6 < q3 by omega), if_neg (show ¬ q6 = q3 by omega), if_neg (show ¬ q6 = q4 by omega), if_neg (show ¬ q6 = p by omega), if_neg (show ¬ q6 = q5 by omega), if_pos rfl]
  · rw [if_neg (show ¬ q8 < q3 by omega), if_neg (show ¬ q8 = q3 by omega), if_neg (show ¬ q8 = q4 by omega), if_neg (show ¬ q8 = p by omega), if_neg (show ¬ q8 = q5 by omega), if_neg (show ¬ q8 = q6 by omega), if_pos rfl]
  · rw [if_neg (show ¬ q9 < q3 by omega), if_neg (show ¬ q9 = q3 by omega), if_neg (show ¬ q9 = q4 by omega), if_neg (show ¬ q9 = p by omega), if_neg (show ¬ q9 = q5 by omega), if_neg (show ¬ q9 = q6 by omega), if_neg (show ¬ q9 = q8 by omega), if_pos rfl]

theorem c_HistoryGrows {H : Heap} {v : Value} {l : List (RecA × Value × Value)} {stop : Int} (hv : Recs (· < H.size) H v l) (hS : ShaT H) (hT : PowT H) (hE : ErrT H) :
    HCalls prg f_syngraphlaw22_HistoryGrows [v, .int .i64 stop] H fun u H' => u = .bool true ∧ Keep (fun _ => False) H H' := by
  apply sh_syngraphlaw22_HistoryGrows_calls
  unfold sh_syngraphlaw22_HistoryGrows
  rw [cells_int', Mnew_some, z_Bool, Mnew_some]
  generalize hH1 : H.push (.cells [Value.int .i64 stop].toArray T_int (0, 0)) = h1
  have k1 : Keep (fun _ => False) H h1 := by rw [← hH1]; exact Keep.push
  have s1 : h1.size = H.size + 1 := by rw [← hH1]; simp
  have a3 : At h1 H.size [.int .i64 stop] := by rw [← hH1]; exact At.push
  generalize hH2 : h1.push (.cells [Value.bool false].toArray T_bool (0, 0)) = h2
  have k2 : Keep (fun _ => False) h1 h2 := by rw [← hH2]; exact Keep.push
  have s2 : h2.size = h1.size + 1 := by rw [← hH2]; simp
  have a4 : At h2 h1.size [.bool false] := by rw [← hH2]; exact At.push
  have hNG := hT.sz
  refine call_i (c_HistNew (by omega)) ?_
  rintro _ h3 ⟨rfl, hh3, k3⟩
  have hp3 := (hh3.lt h2.size (.inl rfl)).2
  rw [z_PHist, Mnew_some]
  generalize hH4 : h3.push (.cells [Value.pointer none].toArray T_P_history_History (0, 0)) = h4
  have k4 : Keep (fun _ => False) h3 h4 := by rw [← hH4]; exact Keep.push
  have s4 : h4.size = h3.size + 1 := by rw [← hH4]; simp
  have a5 : At h4 h3.size [.pointer none] := by rw [← hH4]; exact At.push
  obtain ⟨h5, st5, a55, k5⟩ := a5.st1 (i := 0) (v := Ptr h2.size 0) (by simp) rfl
  have s5 := k5.1
  have pn : binV .ptr .eql (Ptr h2.size 0) (.pointer none) = some (.bool false) := rfl
  have pne : binV .ptr .neq (Ptr h2.size 0) (.pointer none) = some (.bool true) := rfl
  have g20 : binV .no .gtr (.int .i64 (l.length : Nat)) (.int .i64 20) = some (.bool (decide (20 < l.length))) := by
    rw [binV_int]; simp only [intV]; congr 2; rw [decide_eq_decide]; omega
  have k35 : Keep (· = h3.size) h3 h5 := (k4.mono fun _ _ h => h.elim).trans k5
  have k13 : Keep (fun _ => False) h1 h3 := k2.trans k3
  have a35 : At h5 H.size [.int .i64 stop] := (a3.keep k13 id).keep k35 (by omega)
  have a45 : At h5 h1.size [.bool false] := (a4.keep k3 id).keep k35 (by have := k13.1; omega)
  have hh5 := hh3.keep k35 fun b hb e => by
    rcases hb with h | h | h | h <;> first | exact h.elim | omega
  have kH5 : Keep (fun _ => False) H h5 := (k1.trans k13).fresh k35 fun b hb => by have := k13.1; omega
  have d5 : ld1 h5 (Ptr h3.size 0) = some (Ptr h2.size 0) := a55.ld rfl
  simp only [show (Value.pointer (some ⟨h3.size, 0, none⟩)) = Ptr h3.size 0 from rfl, st5, Mwr_some, d5, pn, unV_not, Bool.not_true, Bool.not_false, Mif_bool, Mif_undef, pickV_bool, Mcd_bool, Mpu_some, if_true, if_false, Bool.false_eq_true, Bool.true_eq_false, decide_true, decide_false, reduceCtorEq, ex20, ex21, ex30, ex31, ex32, Mre_ok, Mre_nil]
  refine J1_eq.2 ?_
  simp only [hv.len, g20, unV_not, Bool.not_true, Bool.not_false, Mif_bool, Mif_undef, pickV_bool, Mcd_bool, Mpu_some, if_true, if_false, Bool.false_eq_true, Bool.true_eq_false, decide_true, decide_false, reduceCtorEq, ex20, ex21, ex30, ex31, ex32, Mre_ok, Mre_nil]
  /- the end at t4 -/
  have endT : ∀ (g : Heap) (y : Bool), At g h1.size [.bool y] → Keep (fun _ => False) H g → Mwr (st1 g (Ptr h1.size 0) (.bool true)) fun h26 => Mcl H.size h26 fun h27 => Mpu (ld1 h27 (Ptr h1.size 0)) fun r28 => r28 = Value.bool true ∧ Keep (fun _ => False) H h27 := by
    intro g y ag kg
    obtain ⟨g2, st, ag2, kg2⟩ := ag.st1 (i := 0) (v := .bool true) (by simp) rfl
    rw [st, Mwr_some]
    refine mcl_i fun h27 cl => ?_
    rw [(ag2.closed cl).ld (i := 0) rfl, Mpu_some]
    exact ⟨rfl, keep_closed (kg.fresh kg2 fun b hb => by omega) cl⟩
  have SS : ∀ {g}, Keep (fun _ => False) H g → ShaT g := fun k => hS.keep k fun _ h => h.elim
  have TT : ∀ {g}, Keep (fun _ => False) H g → PowT g := fun k => hT.keep k fun _ h => h.elim
  cases hbig : decide (20 < l.length)
  rotate_left
  · simp only [d5, pne, unV_not, Bool.not_true, Bool.not_false, Mif_bool, Mif_undef, pickV_bool, Mcd_bool, Mpu_some, if_true, if_false, Bool.false_eq_true, Bool.true_eq_false, decide_true, decide_false, reduceCtorEq, ex20, ex21, ex30, ex31, ex32, Mre_ok, Mre_nil]
    refine J1_eq.2 ?_
    simp only [d5, pne, unV_not, Bool.not_true, Bool.not_false, Mif_bool, Mif_undef, pickV_bool, Mcd_bool, Mpu_some, if_true, if_false, Bool.false_eq_true, Bool.true_eq_false, decide_true, decide_false, reduceCtorEq, ex20, ex21, ex30, ex31, ex32, Mre_ok, Mre_nil]
    refine call_i (c_awake22 (SS kH5) (TT kH5)) ?_
    rintro _ h9 ⟨rfl, k9⟩
    exact endT h9 false (a45.keep k9 id) (kH5.trans k9)
  have hl20 : l.length ≤ 20 := by have := of_decide_eq_false hbig; omega
  simp only [unV_not, Bool.not_true, Bool.not_false, Mif_bool, Mif_undef, pickV_bool, Mcd_bool, Mpu_some, if_true, if_false, Bool.false_eq_true, Bool.true_eq_false, decide_true, decide_false, reduceCtorEq, ex20, ex21, ex30, ex31, ex32, Mre_ok, Mre_nil]
  rw [z_SRec, Mnew_some]
  generalize hH14 : h5.push (.cells [Value.slice none 0 0].toArray T_S_history_Record (0, 0)) = h14
  have k14 : Keep (fun _ => False) h5 h14 := by rw [← hH14]; exact Keep.push
  have s14 : h14.size = h5.size + 1 := by rw [← hH14]; simp
  have a6 : At h14 h5.size [.slice none 0 0] := by rw [← hH14]; exact At.push
  simp only [z_SHash, Mnew_some]
  generalize hH15 : h14.push (.cells [Value.slice none 0 0].toArray T_S_sha_Hash (0, 0)) = h15
  have k15 : Keep (fun _ => False) h14 h15 := by rw [← hH15]; exact Keep.push
  have s15 : h15.size = h14.size + 1 := by rw [← hH15]; simp
  have a8 : At h15 h14.size [.slice none 0 0] := by rw [← hH15]; exact At.push
  simp only [bld_Hash00, z_Hash, Mnew_some, Mpu_some]
  generalize hH16 : h15.push (.cells (bcells zeroH).toArray T_sha_Hash (0, 0)) = h16
  have k16 : Keep (fun _ => False) h15 h16 := by rw [← hH16]; exact Keep.push
  have a9 : At h16 h15.size (bcells zeroH) := by rw [← hH16]; exact At.push
  obtain ⟨h17, st17, a917, k17⟩ := a9.st (n := 32) (ds := bcells zeroH) rfl rfl bcells_one
  have hbvz : (bv zeroH) = .agg (bcells zeroH).toArray := rfl
  rw [show (Value.pointer (some ⟨h15.size, 0, none⟩)) = Ptr h15.size 0 from rfl, hbvz, st17, Mwr_some]
  have k517 : Keep (· = h15.size) h5 h17 := ((k14.trans (k15.trans k16)).mono fun _ _ h => h.elim).trans k17
  have q517 := k517.1
  let C : Cells := ⟨H.size, h1.size, h3.size, h5.size, h14.size, h15.size⟩
  have hsz17 : h15.size < h17.size := a917.lt
  have kH17 : Keep (fun _ => False) H h17 := kH5.fresh k517 fun b hb => by have := kH5.1; omega
  have hh17 := hh5.keep k517 fun b hb e => by
    rcases hb with h | h | h | h <;> first | exact h.elim | omega
  obtain ⟨ei, e3, e4, e0, e5, e6, e8, e9⟩ := colG_all (q3 := H.size) (q4 := h1.size) (p := h2.size) (q5 := h3.size) (q6 := h5.size) (q8 := h14.size) (q9 := h15.size) (by omega) (by omega) (by omega) (by omega) (by omega) (by omega)
  have G0 : GAll H.size h2.size C stop [] (.slice none 0 0) (.slice none 0 0) h17 := by
    refine ⟨colG H.size h1.size h2.size h3.size h5.size h14.size h15.size, ⟨kH17.1, ei, ⟨_, _, _, hh17, fun b hb => ?_⟩, ⟨a35.keep k517 (by omega), ?_⟩, ⟨⟨false, a45.keep k517 (by omega)⟩, ?_⟩, ⟨a55.keep k517 (by omega), ?_⟩, ⟨⟨_, [], ((a6.keep k15 id).keep k16 id).keep k17 (by omega), BufE.nil, rfl, fun i a y h => (by simp at h)⟩, ?_⟩, ⟨⟨_, (a8.keep k16 id).keep k17 (by omega), BufE.nil⟩, ?_⟩, ⟨a917, ?_⟩, items0, .inl ⟨rfl, rfl⟩⟩, by simp, fun i a h => (by simp at h)⟩
    · rcases hb with h | h | h | h
      · subst h; exact e0
      · exact h.elim
      · exact h.elim
      · exact h.elim
    · exact e3
    · exact e4
    · exact e5
    · exact e6
    · exact e8
    · exact e9
  refine J3_i (fun t7 t10 _ h => ∃ rs, GAll H.size h2.size C stop rs t7 t10 h ∧ rs.length ≤ 20 ∧ Keep (fun _ => False) H h) (fun k18 hk18 => ?_) ?_
  · refine L3_i (fun t7 t10 t45 h => ∃ (i : Nat) (rs : List RecA), t45 = .int .i64 (i : Nat) ∧ i ≤ l.length ∧ rs.length ≤ i ∧ GAll H.size h2.size C stop rs t7 t10 h ∧ Keep (fun _ => False) H h) (fun _ _ u _ => match u with | .int _ t => l.length - t.toNat | _ => 0) ⟨0, [], rfl, Nat.zero_le _, Nat.le_refl _, G0, kH17⟩ ?_
    rintro t7 t10 _ h ⟨i, rs, rfl, hi, hri, hG, kh⟩ k hk
    have elt : binV .no .lss (.int .i64 (i : Nat)) (.int .i64 (l.length : Nat)) = some (.bool (decide (i < l.length))) := by
      rw [binV_int]; simp only [intV]; congr 2; rw [decide_eq_decide]; omega
    rw [elt, Mpu_some, Mcd_bool]
    by_cases hlt : i < l.length
    · rw [if_pos (by simpa using hlt)]
      refine grow_round (c := C) (R := fun u H' => u = .bool true ∧ Keep (fun _ => False) H H') hv hl20 hS hT hlt hri hG kh (by show H.size ≤ h1.size; omega) (fun h' k' => ⟨rfl, k'⟩) fun rs' t7' t10' h' hG' hl' k' => ?_
      rw [add_one' (by omega), Mpu_some]
      exact hk _ _ _ _ ⟨i + 1, rs', rfl, hlt, hl', hG', k'⟩ (by show l.length - (i + 1) < l.length - i; omega)
    · rw [if_neg (by simpa using hlt)]
      exact hk18 _ _ _ _ ⟨rs, hG, by omega, kh⟩
  rintro t7 t10 _ h19 ⟨rs, ⟨col, s, hg⟩, hrl, kh19⟩
  rw [z_IntC, Mnew_some]
  generalize hH66 : h19.push (.cells [Value.int .i64 0].toArray T_int (0, 0)) = h66
  have k66 : Keep (fun _ => False) h19 h66 := by rw [← hH66]; exact Keep.push
  have n66 : At h66 h19.size [.int .i64 0] := by rw [← hH66]; exact At.push
  obtain ⟨h67, st67, n67, k67'⟩ := n66.st1 (i := 0) (v := .int .i64 0) (by simp) rfl
  have k67 : Keep (fun _ => False) h19 h67 := k66.fresh k67' fun b hb => by omega
  rw [show (Value.pointer (some ⟨h19.size, 0, none⟩)) = Ptr h19.size 0 from rfl, st67, Mwr_some]
  have m67 : Mv col (paint h19.size 20 col) (fun k => k = 20) h19 h67 := ⟨k67.mono fun _ _ h => h.elim, fun b hb => paint_old hb⟩
  have s67 := s.mv m67 fun j h => by omega
  have cn67 : paint h19.size 20 col h19.size = 20 := paint_new (Nat.le_refl _)
  generalize paint h19.size 20 col = col1 at *
  have kH67 := kh19.trans k67
  have n67' : At h67 h19.size [.int .i64 ((0 : Nat) : Int)] := n67
  have lt67 := n67.lt
  refine J0_i (fun h => ∃ (n : Nat) (col' : Nat → Nat), GSt H.size h2.size C stop col' rs rs (chL rs) (topF (chL rs)) (nowF rs) (flatB rs) t7 t10 h ∧ At h h19.size [.int .i64 (n : Nat)] ∧ (n = rs.length ∨ (n : Int) = stop) ∧ Keep (fun _ => False) H h) (fun k68 hk68 => ?_) ?_
  · rw [show ld1 h67 (Value.pointer (some ⟨h3.size, 0, none⟩)) = some (Ptr h2.size 0) from s67.c5.1.ld rfl, Mpu_some]
    refine call_i c_Walk ?_
    rintro _ h70 ⟨rfl, w70, k70⟩
    have m70 : Mv col1 (paint h67.size 99 col1) (fun k => k = 99) h67 h70 := ⟨k70.mono fun _ _ h => h.elim, fun b hb => paint_old hb⟩
    have s70 := s67.mv m70 fun j h => by omega
    have cn70 : paint h67.size 99 col1 h19.size = 20 := (paint_old lt67).trans cn67
    have c99 : ∀ b, h67.size ≤ b → paint h67.size 99 col1 b = 99 := fun b hb => paint_new hb
    generalize paint h67.size 99 col1 = colW at *
    have kH70 := kH67.trans k70
    have n70 := n67'.keep k70 id
    have wlt := w70.lt
    obtain ⟨Fr, Fc, Fi, hh70, hcol⟩ := s70.hist
    have hlt70 := hh70.lt
    have hlen : (chL rs).length = rs.length := hh70.len
    have keepI : ∀ (h h' : Heap) (n : Nat), (GSt H.size h2.size C stop colW rs rs (chL rs) (topF (chL rs)) (nowF rs) (flatB rs) t7 t10 h ∧ At h h19.size [.int .i64 (n : Nat)] ∧ Keep (fun _ => False) H h ∧ h70.size ≤ h.size) →
        Keep (fun b => False ∨ b = h70.size ∨ b = h70.size + 1) h h' → (GSt H.size h2.size C stop colW rs rs (chL rs) (topF (chL rs)) (nowF rs) (flatB rs) t7 t10 h' ∧ At h' h19.size [.int .i64 (n : Nat)] ∧ Keep (fun _ => False) H h' ∧ h70.size ≤ h'.size) := by
      rintro h h' n ⟨i1, i2, i3, i4⟩ kk
      have m : Mv colW colW (fun k => k = 99) h h' := ⟨kk.mono fun b _ hb => .inr (by
        rcases hb with hb | hb | hb
        · exact hb.elim
        · exact c99 b (by omega)
        · exact c99 b (by omega)), fun _ _ => rfl⟩
      exact ⟨i1.mv m fun j h => by omega, m.cell i2 (by rw [cn70]; omega), m.keep0 (by omega) i3 i1.inp, Nat.le_trans i4 kk.1⟩
    refine range_r (n := rs.length) (X := WalkX (h70.size + 2) rs (chL rs)) (Sw := fun _ => False) (Sr := fun b => b = h67.size ∨ HB h2.size Fr Fc Fi b) (W := fun b => b = h19.size ∨ h70.size + 2 ≤ b)
      (St := WalkSt (h70.size + 2) h67.size h2.size Fr Fc Fi rs (chL rs)) walk_iter (fun o o' => ?_) kH70.1
      (fun j h => GSt H.size h2.size C stop colW rs rs (chL rs) (topF (chL rs)) (nowF rs) (flatB rs) t7 t10 h ∧ At h h19.size [.int .i64 (j : Nat)] ∧ Keep (fun _ => False) H h ∧ h70.size ≤ h.size)
      (fun cc h => cc = Code.exit 2 ∧ ∃ n : Nat, (n : Int) = stop ∧ GSt H.size h2.size C stop colW rs rs (chL rs) (topF (chL rs)) (nowF rs) (flatB rs) t7 t10 h ∧ At h h19.size [.int .i64 (n : Nat)] ∧ Keep (fun _ => False) H h ∧ h70.size ≤ h.size)
      ⟨s70, n70, kH70, Nat.le_refl _⟩ (fun j h h' hI kk => keepI h h' j hI kk) (fun cc h h' ⟨e1, n, e2, hI⟩ kk => ⟨e1, n, e2, keepI h h' n hI kk⟩) (fun b hb => hb.elim) (fun b hb => ?_) (fun b hb => ?_) ?_ ?_ ?_
    · have kp : Keep (fun _ => False) h70 ((h70.push o).push o') := Keep.push.trans Keep.push
      exact ⟨w70.keep kp id, hh70.keep kp fun _ _ => id, by simp⟩
    · rcases hb with rfl | hb
      · exact wlt
      · exact (hlt70 b hb).2
    · refine ⟨?_, ?_, fun hS => ?_⟩
      · rcases hb with hb | hb <;> omega
      · rcases hb with hb | hb <;> omega
      · rcases hS with hS | hS
        · rcases hb with hb | hb <;> omega
        · have e1 := hcol b hS
          have e2 := (hlt70 b hS).2
          rcases hb with hb | hb
          · rw [hb, cn70] at e1; omega
          · omega
    · rintro j x h r hj hhs ⟨a, vb, va, c', hg1, hgc, rfl, hraw⟩ ⟨i1, i2, i3, i4⟩ hloop hready K hN hX
      refine ⟨rfl, ?_⟩
      have hrl := rawC_len (x := (vb, va)) hraw.1
      have hone : ∀ v ∈ rawC a (vb, va), v.oneCell' = true := recC_one hraw.2.1 hraw.2.2.1
      show Mnew h T_history_Record (zcells prg T_history_Record) fun t17 h76 => Mwr (stN 36 h76 t17 (.agg (rawC a (vb, va)).toArray)) fun h77 => _
      refine new_rec hrl hone fun h77 hs77 a77 k77 => ?_
      have hc32 := hh70.c32 c' (List.mem_of_getElem? hgc)
      generalize hH78 : h77.push (.cells (bcells zeroH).toArray T_sha_Hash (0, 0)) = h78
      have k78 : Keep (fun _ => False) h77 h78 := by rw [← hH78]; exact Keep.push
      have a78 : At h78 h77.size (bcells zeroH) := by rw [← hH78]; exact At.push
      obtain ⟨h79, st79, a79, k79⟩ := a78.st (n := 32) (ds := bcells c') rfl (by simp [hc32]) bcells_one
      refine (show Mwr (stN 32 h78 (Ptr h77.size 0) (.agg (bcells c').toArray)) _ from ?_)
      rw [st79, Mwr_some]
      have k7779 : Keep (fun _ => False) h77 h79 := k78.fresh k79 fun b hb => by omega
      have k779 := k77.trans k7779
      have q77 := k77.1
      refine ⟨r, k779.at hloop id, hready, ?_⟩
      have kb0 := Keep.busy (o := .loop { r with state := .busy }) k779 hloop
      generalize hhb : h79.setIfInBounds (h70.size + 1) (.loop { r with state := .busy }) = hb at *
      generalize h.setIfInBounds (h70.size + 1) (.loop { r with state := .busy }) = hb0 at *
      have kb : Keep (· = h70.size + 1) h79 hb := by rw [← hhb]; exact Keep.set rfl
      have kab : Keep (· = h70.size + 1) h hb := (k779.mono fun _ _ h => h.elim).trans kb
      have qb := kab.1
      have mb : Mv colW colW (fun k => k = 99) h hb := ⟨kab.mono fun b _ e => .inr (c99 b (by omega)), fun _ _ => rfl⟩
      have sb := i1.mv mb fun j h => by omega
      have nb := mb.cell i2 (by rw [cn70]; omega)
      have kHb := mb.keep0 (by omega) i3 i1.inp
      have a77b := (a77.keep k7779 id).keep kb (show ¬ h.size = h70.size + 1 by omega)
      have a79b := a79.keep kb (show ¬ h77.size = h70.size + 1 by omega)
      have rawb := hraw.keep kab fun b hb => by omega
      obtain ⟨⟨w6, ys, a6, b6, yl, yr⟩, c6⟩ := sb.c6
      obtain ⟨⟨w8, a8, b8⟩, c8⟩ := sb.c8
      have N : ∀ {g}, Keep (fun _ => False) hb g → ld1 g (Ptr h19.size 0) = some (.int .i64 (j : Nat)) := fun k => (nb.keep k id).ld rfl
      have L6 : ∀ {g}, Keep (fun _ => False) hb g → ld1 g (.pointer (some ⟨h5.size, 0, none⟩)) = some w6 := fun k => (a6.keep k id).ld rfl
      have L8 : ∀ {g}, Keep (fun _ => False) hb g → ld1 g (.pointer (some ⟨h14.size, 0, none⟩)) = some w8 := fun k => (a8.keep k id).ld rfl
      have L5 : ∀ {g}, Keep (fun _ => False) hb g → ld1 g (.pointer (some ⟨h3.size, 0, none⟩)) = some (Ptr h2.size 0) := fun k => (sb.c5.1.keep k id).ld rfl
      have L3 : ∀ {g}, Keep (fun _ => False) hb g → ld1 g (.pointer (some ⟨H.size, 0, none⟩)) = some (.int .i64 stop) := fun k => (sb.c3.1.keep k id).ld rfl
      have R17 : ∀ {g}, Keep (fun _ => False) hb g → ldN 36 g (Ptr h.size 0) = some (.agg (recC a.k vb va a.s a.r).toArray) := fun k => (a77b.keep k id).ldN hrl
      have R18 : ∀ {g}, Keep (fun _ => False) hb g → ldN 32 g (.pointer (some ⟨h77.size, 0, none⟩)) = some (bv c') := fun k => (a79b.keep k id).ldN (by simp [hc32])
      have hzl : (List.zipWith rawC rs ys).length = rs.length := by simp [yl]
      have l6 := b6.sl.len
      rw [hzl] at l6
      have ge : binV .no .geq (.int .i64 (j : Nat)) (.int .i64 (rs.length : Nat)) = some (.bool false) := by
        rw [binV_int]; simp only [intV]; rw [decide_eq_false (by omega)]
      have hgy : ys[j]? = some (ys[j]'(by omega)) := List.getElem?_eq_getElem _
      generalize (ys[j]'(by omega)) = y at hgy
      have ry := yr j a y hg1 hgy
      obtain ⟨b1, o1, hix, hpt, _⟩ := b6.sl.at (i := j) (x := rawC a y) (by rw [List.getElem?_zipWith, hg1, hgy])
      obtain ⟨b2, o2, hix2, hpt2, _⟩ := b8.sl.at (i := j) (x := bcells c') (by rw [List.getElem?_map, hgc]; rfl)
      obtain ⟨ok1, ok2⟩ := grown_ok hg a (List.mem_of_getElem? hg1)
      obtain ⟨_, lb, la⟩ := recB_len4 ok1 ok2
      simp only [N Keep.refl, L6 Keep.refl, l6, ge, unV_not, Bool.not_true, Bool.not_false, Mif_bool, Mif_undef, pickV_bool, Mcd_bool, Mpu_some, if_true, if_false, Bool.false_eq_true, Bool.true_eq_false, decide_true, decide_false, reduceCtorEq, ex20, ex21, ex30, ex31, ex32, Mre_ok, Mre_nil]
      refine J1_eq.2 ?_
      simp only [N Keep.refl, L6 Keep.refl, R17 Keep.refl, hix, hpt.agg (n := 36) (rawC_len ry.1), unV_not, Bool.not_true, Bool.not_false, Mif_bool, Mif_undef, pickV_bool, Mcd_bool, Mpu_some, if_true, if_false, Bool.false_eq_true, Bool.true_eq_false, decide_true, decide_false, reduceCtorEq, ex20, ex21, ex30, ex31, ex32, Mre_ok, Mre_nil]
      refine call_i (c_RecEqual (a := a) (b := a) rawb.2.1 rawb.2.2.1 ry.2.1 ry.2.2.1 hraw.1 hraw.1 (by omega) (by omega)) ?_
      rintro _ h82 ⟨rfl, k82⟩
      have hne := ne_Hash (a := c') (b := c') hc32 hc32
      simp only [decide_true, Bool.not_true] at hne
      simp only [eqRec_self, unV_not, Bool.not_true, Bool.not_false, Mif_bool, Mif_undef, pickV_bool, Mcd_bool, Mpu_some, if_true, if_false, Bool.false_eq_true, Bool.true_eq_false, decide_true, decide_false, reduceCtorEq, ex20, ex21, ex30, ex31, ex32, Mre_ok, Mre_nil]
      refine J1_eq.2 ?_
      simp only [N k82, L8 k82, R18 k82, hix2, (hpt2.keep k82 id).agg (n := 32) (by simp [hc32]), show (Value.agg (bcells c').toArray) = bv c' from rfl, hne, unV_not, Bool.not_true, Bool.not_false, Mif_bool, Mif_undef, pickV_bool, Mcd_bool, Mpu_some, if_true, if_false, Bool.false_eq_true, Bool.true_eq_false, decide_true, decide_false, reduceCtorEq, ex20, ex21, ex30, ex31, ex32, Mre_ok, Mre_nil]
      simp only [L5 k82, N k82, unV_not, Bool.not_true, Bool.not_false, Mif_bool, Mif_undef, pickV_bool, Mcd_bool, Mpu_some, if_true, if_false, Bool.false_eq_true, Bool.true_eq_false, decide_true, decide_false, reduceCtorEq, ex20, ex21, ex30, ex31, ex32, Mre_ok, Mre_nil]
      have s82 := sb.pure k82
      obtain ⟨Gr, Gc, Gi, hh82, _⟩ := s82.hist
      have hfew := hh82.few
      refine call_i (c_HistAt hh82 (j : Nat) ⟨by omega, by omega⟩) ?_
      rintro u h87 ⟨k87, hAt⟩
      rcases hAt with ⟨hbad, _⟩ | ⟨a', vb', va', hga', _, rfl, hraw'⟩
      · exact absurd ⟨by omega, by omega⟩ hbad
      obtain rfl : a' = a := by
        rw [Int.toNat_natCast, hg1] at hga'
        exact (Option.some.inj hga').symm
      have ex0 : ∀ x y : Value, extV 0 (.tuple #[x, y]) = some x := fun _ _ => rfl
      have ex1 : ∀ x y : Value, extV 1 (.tuple #[x, y]) = some y := fun _ _ => rfl
      rw [ex0, Mpu_some, ex1, Mpu_some]
      refine new_rec (recC_len hraw'.1) (recC_one hraw'.2.1 hraw'.2.2.1) fun h89 hs89 a89 k89 => ?_
      have k8289 := k87.trans k89
      have kb89 := k82.trans k8289
      have r89 := a89.ldN (n := 36) (recC_len hraw'.1)
      simp only [r89, R17 kb89, unV_not, Bool.not_true, Bool.not_false, Mif_bool, Mif_undef, pickV_bool, Mcd_bool, Mpu_some, if_true, if_false, Bool.false_eq_true, Bool.true_eq_false, decide_true, decide_false, reduceCtorEq, ex20, ex21, ex30, ex31, ex32, Mre_ok, Mre_nil]
      refine J1_eq.2 ?_
      simp only [r89, R17 kb89, unV_not, Bool.not_true, Bool.not_false, Mif_bool, Mif_undef, pickV_bool, Mcd_bool, Mpu_some, if_true, if_false, Bool.false_eq_true, Bool.true_eq_false, decide_true, decide_false, reduceCtorEq, ex20, ex21, ex30, ex31, ex32, Mre_ok, Mre_nil]
      refine call_i (c_RecEqual (a := a') (b := a') (hraw'.2.1.keep k89 fun _ _ => id) (hraw'.2.2.1.keep k89 fun _ _ => id) (rawb.2.1.keep kb89 fun _ _ => id) (rawb.2.2.1.keep kb89 fun _ _ => id) hraw.1 hraw.1 (by omega) (by omega)) ?_
      rintro _ h91 ⟨rfl, k91⟩
      have kb91 := kb89.trans k91
      have hadd : binV .no .add (.int .i64 (j : Nat)) (.int .i64 1) = some (.int .i64 ((j + 1 : Nat) : Int)) := add_one' (by omega)
      obtain ⟨h94, st94, n94, k94⟩ := (nb.keep kb91 id).st1 (i := 0) (v := .int .i64 ((j + 1 : Nat) : Int)) (by simp) rfl
      have m94 : Mv colW colW (fun k => k = 20) h91 h94 := Mv.at k94 cn70
      have s94 := (sb.pure kb91).mv m94 fun j h => by omega
      have kH94 := m94.keep0 (by omega) (kHb.trans kb91) (sb.pure kb91).inp
      have l94 : ld1 h94 (Ptr h19.size 0) = some (.int .i64 ((j + 1 : Nat) : Int)) := n94.ld rfl
      have l394 : ld1 h94 (.pointer (some ⟨H.size, 0, none⟩)) = some (.int .i64 stop) := s94.c3.1.ld rfl
      have heq : binV .no .eql (.int .i64 ((j + 1 : Nat) : Int)) (.int .i64 stop) = some (.bool (decide (((j + 1 : Nat) : Int) = stop))) := by rw [binV_int]; rfl
      simp only [eqRec_self, N kb91, hadd, st94, Mwr_some, l94, l394, heq, unV_not, Bool.not_true, Bool.not_false, Mif_bool, Mif_undef, pickV_bool, Mcd_bool, Mpu_some, if_true, if_false, Bool.false_eq_true, Bool.true_eq_false, decide_true, decide_false, reduceCtorEq, ex20, ex21, ex30, ex31, ex32, Mre_ok, Mre_nil]
      have kW : Keep (fun b => b = h19.size ∨ h70.size + 2 ≤ b) hb0 h94 := (kb0.mono fun _ _ h => h.elim).trans ((kb91.mono fun _ _ h => h.elim).trans (k94.mono fun b _ h => .inl h))
      have q94 : h70.size ≤ h94.size := by have := kb91.1; have := k94.1; omega
      cases hst : decide (((j + 1 : Nat) : Int) = stop)
      · simp only [unV_not, Bool.not_true, Bool.not_false, Mif_bool, Mif_undef, pickV_bool, Mcd_bool, Mpu_some, if_true, if_false, Bool.false_eq_true, Bool.true_eq_false, decide_true, decide_false, reduceCtorEq, ex20, ex21, ex30, ex31, ex32, Mre_ok, Mre_nil]
        exact hN _ kW ⟨s94, n94, kH94, q94⟩
      · simp only [unV_not, Bool.not_true, Bool.not_false, Mif_bool, Mif_undef, pickV_bool, Mcd_bool, Mpu_some, if_true, if_false, Bool.false_eq_true, Bool.true_eq_false, decide_true, decide_false, reduceCtorEq, ex20, ex21, ex30, ex31, ex32, Mre_ok, Mre_nil]
        exact hX _ _ kW ⟨rfl, j + 1, of_decide_eq_true hst, s94, n94, kH94, q94⟩
    · rintro h75 hsz ⟨i1, i2, i3, i4⟩
      exact .inr (.inl ⟨rfl, hk68 _ ⟨rs.length, colW, i1, i2, .inl rfl, i3⟩⟩)
    · rintro cc h75 hsz ⟨rfl, n, e2, i1, i2, i3, i4⟩
      exact .inl ⟨rfl, hk68 _ ⟨n, colW, i1, i2, .inr e2, i3⟩⟩
  rintro h69 ⟨n, col', s69, n69, hn, kH69⟩
  obtain ⟨⟨w6, ys, a6, b6, yl, yr⟩, c6⟩ := s69.c6
  have hzl : (List.zipWith rawC rs ys).length = rs.length := by simp [yl]
  have l6 := b6.sl.len
  rw [hzl] at l6
  obtain ⟨Fr, Fc, Fi, hh, hcol⟩ := s69.hist
  have hfew := hh.few
  have N : ld1 h69 (Ptr h19.size 0) = some (.int .i64 (n : Nat)) := n69.ld rfl
  have L6 : ∀ {g}, Keep (fun _ => False) h69 g → ld1 g (.pointer (some ⟨h5.size, 0, none⟩)) = some w6 := fun k => (a6.keep k id).ld rfl
  have L5 : ∀ {g}, Keep (fun _ => False) h69 g → ld1 g (.pointer (some ⟨h3.size, 0, none⟩)) = some (Ptr h2.size 0) := fun k => (s69.c5.1.keep k id).ld rfl
  have L3 : ld1 h69 (.pointer (some ⟨H.size, 0, none⟩)) = some (.int .i64 stop) := s69.c3.1.ld rfl
  have nel : binV .no .neq (.int .i64 (n : Nat)) (.int .i64 (rs.length : Nat)) = some (.bool (!decide (n = rs.length))) := by
    rw [binV_int]; simp only [intV]
    have : (((n : Nat) : Int) != ((rs.length : Nat) : Int)) = !decide (n = rs.length) := by
      by_cases h : n = rs.length
      · rw [h]; simp
      · have h' : ((n : Nat) : Int) ≠ ((rs.length : Nat) : Int) := by omega
        rw [decide_eq_false h]
        simpa using h'
    rw [this]
  have nes : (n : Int) = stop → binV .no .neq (.int .i64 (n : Nat)) (.int .i64 stop) = some (.bool false) := fun e => by
    rw [binV_int, e]; simp [intV]
  have ht32 := top32 s69
  simp only [L6 Keep.refl, l6, N, nel, unV_not, Bool.not_true, Bool.not_false, Mif_bool, Mif_undef, pickV_bool, Mcd_bool, Mpu_some, if_true, if_false, Bool.false_eq_true, Bool.true_eq_false, decide_true, decide_false, reduceCtorEq, ex20, ex21, ex30, ex31, ex32, Mre_ok, Mre_nil]
  refine J1_i (fun u h => (if (!decide (n = rs.length)) = true then u else Value.bool false) = .bool false ∧ h69 = h) (fun k97 hk97 => ?_) ?_
  · cases hnl : decide (n = rs.length)
    · have e2 : (n : Int) = stop := by
        rcases hn with h | h
        · exact absurd h (of_decide_eq_false hnl)
        · exact h
      simp only [N, L3, nes e2, unV_not, Bool.not_true, Bool.not_false, Mif_bool, Mif_undef, pickV_bool, Mcd_bool, Mpu_some, if_true, if_false, Bool.false_eq_true, Bool.true_eq_false, decide_true, decide_false, reduceCtorEq, ex20, ex21, ex30, ex31, ex32, Mre_ok, Mre_nil]
      exact hk97 _ _ ⟨by rw [hnl]; rfl, rfl⟩
    · simp only [unV_not, Bool.not_true, Bool.not_false, Mif_bool, Mif_undef, pickV_bool, Mcd_bool, Mpu_some, if_true, if_false, Bool.false_eq_true, Bool.true_eq_false, decide_true, decide_false, reduceCtorEq, ex20, ex21, ex30, ex31, ex32, Mre_ok, Mre_nil]
      exact hk97 _ _ ⟨by rw [hnl]; rfl, rfl⟩
  rintro u _ ⟨hp, rfl⟩
  have ex0 : ∀ x y : Value, extV 0 (.tuple #[x, y]) = some x := fun _ _ => rfl
  have ex1 : ∀ x y : Value, extV 1 (.tuple #[x, y]) = some y := fun _ _ => rfl
  rw [hp, Mcd_bool, if_neg (by decide)]
  simp only [L5 Keep.refl, L6 Keep.refl, l6, Mpu_some]
  have hz36 : (recC 0 (.slice none 0 0) (.slice none 0 0) 0 zeroH).length = 36 := recC_len rfl
  have hone0 : ∀ c ∈ recC 0 (.slice none 0 0) (.slice none 0 0) 0 zeroH, c.oneCell' = true := recC_one (k := 0) (s := 0) (r := zeroH) (items0 (P := fun _ => False) (H := H)) (items0 (P := fun _ => False) (H := H))
  refine call_i (c_HistAt hh (rs.length : Nat) ⟨by omega, by omega⟩) ?_
  rintro u2 h102 ⟨k102, hAt⟩
  rcases hAt with ⟨_, rfl⟩ | ⟨a', vb', va', hga', _⟩
  rotate_left
  · rw [Int.toNat_natCast, List.getElem?_eq_none (Nat.le_refl _)] at hga'; cases hga'
  rw [ex0, Mpu_some, ex1, Mpu_some]
  refine new_rec hz36 hone0 fun h104 hs104 a104 k104 => ?_
  have kk104 := k102.trans k104
  rw [L5 kk104, Mpu_some]
  refine call_i (c_HistAt (hh.keep kk104 fun _ _ => id) (-1) ⟨by omega, by omega⟩) ?_
  rintro u3 h105 ⟨k105, hAt⟩
  rcases hAt with ⟨_, rfl⟩ | ⟨a', vb', va', _, hneg, _⟩
  rotate_left
  · omega
  rw [ex0, Mpu_some, ex1, Mpu_some]
  refine new_rec hz36 hone0 fun h107 hs107 a107 k107 => ?_
  have kk107 := kk104.trans (k105.trans k107)
  rw [L6 kk107, Mpu_some, l6, Mpu_some]
  refine call_i c_refInt ?_
  rintro t185 h108 ⟨b185, k108⟩
  have kk108 := kk107.trans k108
  have s108 := s69.pure kk108
  have sl10 := s108.byt.sl
  have sl185 := b185.sl
  obtain ⟨x1, c1, e1, _⟩ := sl185.sl
  obtain ⟨x2, c2, e2, _⟩ := sl10.sl
  subst e1 e2
  rw [bsl2S', Mnews_some]
  generalize hH109 : h108.push (.cells #[.slice x1 (numB (rs.length : Nat) 8).length c1, .slice x2 (flatB rs).length c2] T_S_uint8 (0, 0)) = h109
  have k109 : Keep (fun _ => False) h108 h109 := by rw [← hH109]; exact Keep.push
  have a109 : At h109 h108.size [.slice x1 (numB (rs.length : Nat) 8).length c1, .slice x2 (flatB rs).length c2] := by rw [← hH109]; exact At.push
  have kk109 := kk108.trans k109
  have hfl := flatR_len (grown_ok hg)
  have hflB : (flatB rs).length ≤ 3000000 := by unfold flatB; omega
  refine call_i (c_refJoin (P := fun _ => True) (n := 2) (ls := [numB (rs.length : Nat) 8, flatB rs]) a109 rfl rfl ?_ (by simp; omega) (by omega)) ?_
  · intro i v l hv hl
    have mono : ∀ {P : Nat → Prop} {v : Value} {l : List UInt8}, Sl P h108 v l → Sl (fun _ => True) h109 v l := fun h => ⟨(h.keep k109 fun _ _ => id).bs, h.sl, fun _ _ => trivial⟩
    match i, hv, hl with
    | 0, hv, hl => cases hv; cases hl; exact mono sl185
    | 1, hv, hl => cases hv; cases hl; exact mono sl10
    | i + 2, hv, hl => simp at hv
  rintro t188 h110 ⟨b188, k110⟩
  have ehB : [numB (rs.length : Nat) 8, flatB rs].flatten = histB rs := by simp [histB, flatB]
  rw [ehB] at b188
  have kk110 := kk109.trans k110
  have kH110 := kH69.trans kk110
  have hBl : (histB rs).length ≤ 3000008 := by
    have : (histB rs).length = 8 + (flatB rs).length := by unfold histB flatB; rw [List.length_append, numB_len]
    omega
  refine call_i (c_ParseHist b188.sl.brow (by omega) (hE.keep kH110 fun _ h => h.elim) (TT kH110) (SS kH110)) ?_
  rintro u4 h111 ⟨hP, k111⟩
  rcases hP with ⟨p2, rs2, Gr, Gc, Gi, rfl, hh2, _, heB, hrok2⟩ | ⟨_, hno⟩
  rotate_left
  · exact absurd rfl (hno rs hg)
  obtain rfl : rs = rs2 := histB_inj hg hh2.few hrok2 heB
  have kk111 := kk110.trans k111
  have Q : ∀ {g}, Keep (fun _ => False) h110 g → b2s g t188 = some (str (histB rs)) := fun k => (b188.sl.keep k fun _ _ => id).brow.b2s
  have heq : binV .no .eql (str (histB rs)) (str (histB rs)) = some (.bool true) := by rw [str_eql, decide_eq_true rfl]
  have h00 : binV .no .eql (.int .i64 0) (.int .i64 0) = some (.bool true) := rfl
  have pne2 : binV .ptr .neq (Ptr p2 0) (.pointer none) = some (.bool true) := rfl
  simp only [ex0, ex1, L5 kk111, Q k111, unV_not, Bool.not_true, Bool.not_false, Mif_bool, Mif_undef, pickV_bool, Mcd_bool, Mpu_some, if_true, if_false, Bool.false_eq_true, Bool.true_eq_false, decide_true, decide_false, reduceCtorEq, ex20, ex21, ex30, ex31, ex32, Mre_ok, Mre_nil]
  refine call_i (c_HistBytes (hh.keep kk111 fun _ _ => id) (TT (kH69.trans kk111)) (grown_ok hg)) ?_
  rintro t195 h112 ⟨b195, k112⟩
  have kk112 := kk111.trans k112
  simp only [Q (k111.trans k112), b195.sl.brow.b2s, heq, unV_not, Bool.not_true, Bool.not_false, Mif_bool, Mif_undef, pickV_bool, Mcd_bool, Mpu_some, if_true, if_false, Bool.false_eq_true, Bool.true_eq_false, decide_true, decide_false, reduceCtorEq, ex20, ex21, ex30, ex31, ex32, Mre_ok, Mre_nil]
  refine J1_eq.2 ?_
  simp only [h00, unV_not, Bool.not_true, Bool.not_false, Mif_bool, Mif_undef, pickV_bool, Mcd_bool, Mpu_some, if_true, if_false, Bool.false_eq_true, Bool.true_eq_false, decide_true, decide_false, reduceCtorEq, ex20, ex21, ex30, ex31, ex32, Mre_ok, Mre_nil]
  refine J1_eq.2 ?_
  simp only [pne2, unV_not, Bool.not_true, Bool.not_false, Mif_bool, Mif_undef, pickV_bool, Mcd_bool, Mpu_some, if_true, if_false, Bool.false_eq_true, Bool.true_eq_false, decide_true, decide_false, reduceCtorEq, ex20, ex21, ex30, ex31, ex32, Mre_ok, Mre_nil]
  refine J1_eq.2 ?_
  simp only [L5 kk112, unV_not, Bool.not_true, Bool.not_false, Mif_bool, Mif_undef, pickV_bool, Mcd_bool, Mpu_some, if_true, if_false, Bool.false_eq_true, Bool.true_eq_false, decide_true, decide_false, reduceCtorEq, ex20, ex21, ex30, ex31, ex32, Mre_ok, Mre_nil]
  have hh2' := hh2.keep k112 fun _ _ => id
  refine call_i (c_HistEqual hh2' (hh.keep kk112 fun _ _ => id)) ?_
  rintro _ h118 ⟨rfl, k118⟩
  have kk118 := kk112.trans k118
  have L9 : ∀ {g}, Keep (fun _ => False) h69 g → ldN 32 g (.pointer (some ⟨h15.size, 0, none⟩)) = some (bv (topF (chL rs))) := fun k => (s69.c9.1.keep k id).ldN (by simp [ht32])
  simp only [unV_not, Bool.not_true, Bool.not_false, Mif_bool, Mif_undef, pickV_bool, Mcd_bool, Mpu_some, if_true, if_false, Bool.false_eq_true, Bool.true_eq_false, decide_true, decide_false, reduceCtorEq, ex20, ex21, ex30, ex31, ex32, Mre_ok, Mre_nil]
  refine J1_eq.2 ?_
  simp only [L9 kk118, unV_not, Bool.not_true, Bool.not_false, Mif_bool, Mif_undef, pickV_bool, Mcd_bool, Mpu_some, if_true, if_false, Bool.false_eq_true, Bool.true_eq_false, decide_true, decide_false, reduceCtorEq, ex20, ex21, ex30, ex31, ex32, Mre_ok, Mre_nil]
  refine call_i (c_HistTop (hh2'.keep k118 fun _ _ => id)) ?_
  rintro _ h121 ⟨rfl, k121⟩
  have kk121 := kk118.trans k121
  have hte := eq_Hash (a := topF (chL rs)) (b := topF (chL rs)) ht32 ht32
  simp only [decide_true] at hte
  simp only [L9 kk121, hte, unV_not, Bool.not_true, Bool.not_false, Mif_bool, Mif_undef, pickV_bool, Mcd_bool, Mpu_some, if_true, if_false, Bool.false_eq_true, Bool.true_eq_false, decide_true, decide_false, reduceCtorEq, ex20, ex21, ex30, ex31, ex32, Mre_ok, Mre_nil]
  refine J1_eq.2 ?_
  simp only [unV_not, Bool.not_true, Bool.not_false, Mif_bool, Mif_undef, pickV_bool, Mcd_bool, Mpu_some, if_true, if_false, Bool.false_eq_true, Bool.true_eq_false, decide_true, decide_false, reduceCtorEq, ex20, ex21, ex30, ex31, ex32, Mre_ok, Mre_nil]
  refine J1_eq.2 ?_
  simp only [unV_not, Bool.not_true, Bool.not_false, Mif_bool, Mif_undef, pickV_bool, Mcd_bool, Mpu_some, if_true, if_false, Bool.false_eq_true, Bool.true_eq_false, decide_true, decide_false, reduceCtorEq, ex20, ex21, ex30, ex31, ex32, Mre_ok, Mre_nil]
  refine J1_eq.2 ?_
  simp only [unV_not, Bool.not_true, Bool.not_false, Mif_bool, Mif_undef, pickV_bool, Mcd_bool, Mpu_some, if_true, if_false, Bool.false_eq_true, Bool.true_eq_false, decide_true, decide_false, reduceCtorEq, ex20, ex21, ex30, ex31, ex32, Mre_ok, Mre_nil]
  have kH121 := kH69.trans kk121
  refine call_i (c_awake22 (SS kH121) (TT kH121)) ?_
  rintro _ h128 ⟨rfl, k128⟩
  obtain ⟨⟨y, a4'⟩, _⟩ := (s69.pure (kk121.trans k128)).c4
  exact endT h128 y a4' (kH121.trans k128)
end Go.Proofs.YtmhfanpijdgkjabGreatDoor
