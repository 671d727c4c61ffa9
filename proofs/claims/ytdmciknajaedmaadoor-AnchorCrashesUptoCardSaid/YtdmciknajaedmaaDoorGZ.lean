/- JOINED: V85 V86 V87 -/
import Derived.Test.YtdmciknajaedmaaDoorGY
set_option linter.unusedSimpArgs false
set_option linter.unusedVariables false
/- HistoryGrows: what is compared; bytes of the reference. -/
namespace Go.Proofs.YtdmciknajaedmaaDoor
open Go.X Go.X.Diff
set_option maxRecDepth 100000

theorem mcl_keep {H h : Heap} {R : Heap → Prop} (k : Keep (fun _ => False) H h) (hR : ∀ h', Keep (fun _ => False) H h' → R h') : Mcl H.size h R := fun h' c =>
  hR h' ⟨by rw [c.1]; exact k.1, fun i hi _ => by rw [c.2.1 i hi, k.2 i hi id]⟩
theorem eqItemsNe {x y : Item} (hx : x.wf) (hy : y.wf) : binV (eqK prg T_history_Item) .neq (.agg (itemC x).toArray) (.agg (itemC y).toArray) = some (.bool (!decide (x = y))) := by
  rw [binV_agg_ne, eqK_Item]
  show (eqCells kItem (itemC x).toArray.toList (itemC y).toArray.toList).map (fun b => Value.bool (!b)) = _
  rw [List.toList_toArray, List.toList_toArray, eqItem hx hy]; rfl
theorem bsl2S' {a b : Option Addr} {n m c d : Nat} : bslV prg T_S_uint8 2 [(0, .slice a n c), (1, .slice b m d)] = some #[.slice a n c, .slice b m d] := by kernel_rfl

end Go.Proofs.YtdmciknajaedmaaDoor
/- HistoryGrows: what the law holds, its blocks told apart by colours. -/
namespace Go.Proofs.YtdmciknajaedmaaDoor
open Go.X Go.X.Diff
set_option maxRecDepth 100000

theorem _root_.Go.X.Buf.re {F G : Nat → Prop} {H : Heap} {v : Value} {l : List UInt8} (h : Buf F H v l) (k : ∀ b, b < H.size → F b → G b) : Buf G H v l := h.bound.mono fun b hb => k b hb.2 hb.1
/-- blocks of colours in K are written to; the colours of what was there stay -/
structure Mv (col col' : Nat → Nat) (K : Nat → Prop) (h h' : Heap) : Prop where
  keep : Keep (fun b => h.size ≤ b ∨ K (col b)) h h'
  same : ∀ b, b < h.size → col' b = col b
namespace Mv
variable {col col' : Nat → Nat} {K : Nat → Prop} {j : Nat} {h h' : Heap}
theorem pure (kk : Keep (fun _ => False) h h') : Mv col col K h h' := ⟨kk.mono fun _ _ h => h.elim, fun _ _ => rfl⟩
theorem trans {col2 : Nat → Nat} {h2 : Heap} (a : Mv col col' K h h') (b : Mv col' col2 K h' h2) : Mv col col2 K h h2 :=
  ⟨⟨Nat.le_trans a.keep.1 b.keep.1, fun i hi hS => by
      rw [b.keep.2 i (Nat.lt_of_lt_of_le hi a.keep.1) fun hS2 => ?_, a.keep.2 i hi hS]
      rcases hS2 with hS2 | hS2
      · have := a.keep.1; omega
      · exact hS (.inr (by rw [← a.same i hi]; exact hS2))⟩,
   fun i hi => (b.same i (Nat.lt_of_lt_of_le hi a.keep.1)).trans (a.same i hi)⟩
theorem mono {K2 : Nat → Prop} (a : Mv col col' K h h') (hk : ∀ j, K j → K2 j) : Mv col col' K2 h h' := ⟨a.keep.mono fun b _ hb => hb.imp id (hk _), a.same⟩
theorem buf (m : Mv col col' K h h') (hj : ¬ K j) {n : Nat} {v : Value} {xs : List (List Value)} (b : BufE n (fun b => col b = j) h v xs) : BufE n (fun b => col' b = j) h' v xs := by
  have b1 : BufE n (fun b => col b = j ∧ b < h.size) h v xs := BufE.re b fun b hb e => ⟨e, hb⟩
  have b2 := b1.keep m.keep fun b hb hS => by
    rcases hS with hS | hS
    · omega
    · exact hj (hb.1 ▸ hS)
  exact BufE.re b2 fun b _ hb => (m.same b hb.2).trans hb.1
theorem byt (m : Mv col col' K h h') (hj : ¬ K j) {v : Value} {l : List UInt8} (b : Buf (fun b => col b = j) h v l) : Buf (fun b => col' b = j) h' v l := by
  have b2 := b.bound.keep m.keep fun b hb hS => by
    rcases hS with hS | hS
    · omega
    · exact hj (hb.1 ▸ hS)
  exact b2.re fun b _ hb => (m.same b hb.2).trans hb.1
theorem cell (m : Mv col col' K h h') {q : Nat} {cs : List Value} (a : At h q cs) (hq : ¬ K (col q)) : At h' q cs := a.keep m.keep fun hS => by
  have := a.lt
  rcases hS with hS | hS
  · omega
  · exact hq hS
theorem items (m : Mv col col' K h h') (hk : ¬ K 1) {n0 : Nat} (hn : n0 ≤ h.size) (h1 : ∀ b, b < n0 → col b = 1) {v : Value} {xs : List Item} (a : Items (· < n0) h v xs) : Items (· < n0) h' v xs := a.keep m.keep fun b hb hS => by
  rcases hS with hS | hS
  · omega
  · exact hk (h1 b hb ▸ hS)
theorem keep0 (m : Mv col col' K h h') (hk : ¬ K 1) {H : Heap} (kk : Keep (fun _ => False) H h) (h1 : ∀ b, b < H.size → col b = 1) : Keep (fun _ => False) H h' :=
  ⟨Nat.le_trans kk.1 m.keep.1, fun i hi _ => by
    rw [m.keep.2 i (Nat.lt_of_lt_of_le hi kk.1) fun hS => ?_, kk.2 i hi id]
    rcases hS with hS | hS
    · have := kk.1; omega
    · exact hk (h1 i hi ▸ hS)⟩
theorem hist (m : Mv col col' K h h') (hk : ¬ K 0) {p : Nat} {Fr Fc Fi : Nat → Prop} {rs : List RecA} {ch : List (List UInt8)} (a : HistAt p Fr Fc Fi h rs ch) (hc : ∀ b, HB p Fr Fc Fi b → col b = 0) :
    HistAt p Fr Fc Fi h' rs ch ∧ ∀ b, HB p Fr Fc Fi b → col' b = 0 := by
  have hlt := a.lt
  refine ⟨a.keep m.keep fun b hb hS => ?_, fun b hb => (m.same b (hlt b hb).2).trans (hc b hb)⟩
  rcases hS with hS | hS
  · have := (hlt b hb).2; omega
  · exact hk (hc b hb ▸ hS)
end Mv
/-- new blocks from n on have colour k -/
def paint (n k : Nat) (col : Nat → Nat) : Nat → Nat := fun b => if b < n then col b else k
theorem paint_old {n k b : Nat} {col : Nat → Nat} (h : b < n) : paint n k col b = col b := by unfold paint; rw [if_pos h]
theorem paint_new {n k b : Nat} {col : Nat → Nat} (h : n ≤ b) : paint n k col b = k := by unfold paint; rw [if_neg (by omega)]

/-- the law's cells -/
structure Cells where
  q3 : Nat
  q4 : Nat
  q5 : Nat
  q6 : Nat
  q8 : Nat
  q9 : Nat
structure GSt (n0 p : Nat) (c : Cells) (stop : Int) (col : Nat → Nat) (rs ra : List RecA) (ch : List (List UInt8)) (tp : List UInt8) (nw : List Item) (bs : List UInt8) (t7 t10 : Value) (h : Heap) : Prop where
  nle : n0 ≤ h.size
  inp : ∀ b, b < n0 → col b = 1
  hist : ∃ Fr Fc Fi, HistAt p Fr Fc Fi h rs (chL rs) ∧ ∀ b, HB p Fr Fc Fi b → col b = 0
  c3 : At h c.q3 [.int .i64 stop] ∧ col c.q3 = 13
  c4 : (∃ x, At h c.q4 [.bool x]) ∧ col c.q4 = 14
  c5 : At h c.q5 [Ptr p 0] ∧ col c.q5 = 15
  c6 : (∃ w ys, At h c.q6 [w] ∧ BufE 36 (fun b => col b = 6) h w (List.zipWith rawC ra ys) ∧ ys.length = ra.length ∧ ∀ (i : Nat) a y, ra[i]? = some a → ys[i]? = some y → RawIn (· < n0) h a y) ∧ col c.q6 = 16
  c8 : (∃ w, At h c.q8 [w] ∧ BufE 32 (fun b => col b = 8) h w (ch.map bcells)) ∧ col c.q8 = 18
  c9 : At h c.q9 (bcells tp) ∧ col c.q9 = 19
  now : Items (· < n0) h t7 nw
  byt : Buf (fun b => col b = 10) h t10 bs
namespace GSt
variable {n0 p : Nat} {c : Cells} {stop : Int} {col col' : Nat → Nat} {rs ra : List RecA} {ch : List (List UInt8)} {tp : List UInt8} {nw : List Item} {bs : List UInt8} {t7 t10 : Value} {h h' : Heap}
theorem in6 (s : GSt n0 p c stop col rs ra ch tp nw bs t7 t10 h) {K : Nat → Prop} (m : Mv col col' K h h') (k1 : ¬ K 1) (k2 : ¬ K 6) (k3 : ¬ K 16) : (∃ w ys, At h' c.q6 [w] ∧ BufE 36 (fun b => col' b = 6) h' w (List.zipWith rawC ra ys) ∧ ys.length = ra.length ∧ ∀ (i : Nat) a y, ra[i]? = some a → ys[i]? = some y → RawIn (· < n0) h' a y) ∧ col' c.q6 = 16 := by
  obtain ⟨⟨w, ys, a1, a2, a3, a4⟩, a5⟩ := s.c6
  refine ⟨⟨w, ys, m.cell a1 (by rw [a5]; exact k3), m.buf k2 a2, a3, fun i a y h1 h2 => ?_⟩, (m.same _ a1.lt).trans a5⟩
  obtain ⟨r1, r2, r3, r4⟩ := a4 i a y h1 h2
  exact ⟨r1, m.items k1 s.nle s.inp r2, m.items k1 s.nle s.inp r3, r4⟩
theorem in8 (s : GSt n0 p c stop col rs ra ch tp nw bs t7 t10 h) {K : Nat → Prop} (m : Mv col col' K h h') (k2 : ¬ K 8) (k3 : ¬ K 18) : (∃ w, At h' c.q8 [w] ∧ BufE 32 (fun b => col' b = 8) h' w (ch.map bcells)) ∧ col' c.q8 = 18 := by
  obtain ⟨⟨w, a1, a2⟩, a5⟩ := s.c8
  exact ⟨⟨w, m.cell a1 (by rw [a5]; exact k3), m.buf k2 a2⟩, (m.same _ a1.lt).trans a5⟩
theorem in0 (s : GSt n0 p c stop col rs ra ch tp nw bs t7 t10 h) {K : Nat → Prop} (m : Mv col col' K h h') (hk : ¬ K 0) : ∃ Fr Fc Fi, HistAt p Fr Fc Fi h' rs (chL rs) ∧ ∀ b, HB p Fr Fc Fi b → col' b = 0 := by
  obtain ⟨Fr, Fc, Fi, a1, a2⟩ := s.hist
  obtain ⟨b1, b2⟩ := m.hist hk a1 a2
  exact ⟨Fr, Fc, Fi, b1, b2⟩
theorem inc {K : Nat → Prop} (m : Mv col col' K h h') {q j : Nat} {cs : List Value} (a : At h q cs ∧ col q = j) (hj : ¬ K j) : At h' q cs ∧ col' q = j := ⟨m.cell a.1 (by rw [a.2]; exact hj), (m.same _ a.1.lt).trans a.2⟩
theorem in4 (s : GSt n0 p c stop col rs ra ch tp nw bs t7 t10 h) {K : Nat → Prop} (m : Mv col col' K h h') (hk : ¬ K 14) : (∃ x, At h' c.q4 [.bool x]) ∧ col' c.q4 = 14 := by
  obtain ⟨⟨x, a1⟩, a2⟩ := s.c4
  exact ⟨⟨x, m.cell a1 (by rw [a2]; exact hk)⟩, (m.same _ a1.lt).trans a2⟩
theorem ini (s : GSt n0 p c stop col rs ra ch tp nw bs t7 t10 h) {K : Nat → Prop} (m : Mv col col' K h h') : ∀ b, b < n0 → col' b = 1 := fun b hb => (m.same b (Nat.lt_of_lt_of_le hb s.nle)).trans (s.inp b hb)
/-- nothing of it is written to -/
theorem mv (s : GSt n0 p c stop col rs ra ch tp nw bs t7 t10 h) {K : Nat → Prop} (m : Mv col col' K h h') (hk : ∀ j, K j → 20 ≤ j) : GSt n0 p c stop col' rs ra ch tp nw bs t7 t10 h' := by
  have no : ∀ j, j < 20 → ¬ K j := fun j hj h => by have := hk j h; omega
  exact ⟨Nat.le_trans s.nle m.keep.1, s.ini m, s.in0 m (no _ (by omega)), inc m s.c3 (no _ (by omega)), s.in4 m (no _ (by omega)), inc m s.c5 (no _ (by omega)), s.in6 m (no _ (by omega)) (no _ (by omega)) (no _ (by omega)), s.in8 m (no _ (by omega)) (no _ (by omega)), inc m s.c9 (no _ (by omega)), m.items (no _ (by omega)) s.nle s.inp s.now, m.byt (no _ (by omega)) s.byt⟩
theorem mv0 (s : GSt n0 p c stop col rs ra ch tp nw bs t7 t10 h) {K : Nat → Prop} (m : Mv col col' K h h') (hk : ∀ j, K j → j = 0) {rs' : List RecA} (x : ∃ Fr Fc Fi, HistAt p Fr Fc Fi h' rs' (chL rs') ∧ ∀ b, HB p Fr Fc Fi b → col' b = 0) : GSt n0 p c stop col' rs' ra ch tp nw bs t7 t10 h' := by
  have no : ∀ j, j ≠ 0 → ¬ K j := fun j hj h => hj (hk j h)
  exact ⟨Nat.le_trans s.nle m.keep.1, s.ini m, x, inc m s.c3 (no _ (by omega)), s.in4 m (no _ (by omega)), inc m s.c5 (no _ (by omega)), s.in6 m (no _ (by omega)) (no _ (by omega)) (no _ (by omega)), s.in8 m (no _ (by omega)) (no _ (by omega)), inc m s.c9 (no _ (by omega)), m.items (no _ (by omega)) s.nle s.inp s.now, m.byt (no _ (by omega)) s.byt⟩
theorem mv6 (s : GSt n0 p c stop col rs ra ch tp nw bs t7 t10 h) {K : Nat → Prop} (m : Mv col col' K h h') (hk : ∀ j, K j → j = 6 ∨ j = 16) {ra' : List RecA} (x : ∃ w ys, At h' c.q6 [w] ∧ BufE 36 (fun b => col' b = 6) h' w (List.zipWith rawC ra' ys) ∧ ys.length = ra'.length ∧ ∀ (i : Nat) a y, ra'[i]? = some a → ys[i]? = some y → RawIn (· < n0) h' a y) : GSt n0 p c stop col' rs ra' ch tp nw bs t7 t10 h' := by
  have no : ∀ j, j ≠ 6 ∧ j ≠ 16 → ¬ K j := fun j hj h => by have := hk j h; omega
  obtain ⟨⟨w, ys, a1, _⟩, a5⟩ := s.c6
  exact ⟨Nat.le_trans s.nle m.keep.1, s.ini m, s.in0 m (no _ (by omega)), inc m s.c3 (no _ (by omega)), s.in4 m (no _ (by omega)), inc m s.c5 (no _ (by omega)), ⟨x, (m.same _ a1.lt).trans a5⟩, s.in8 m (no _ (by omega)) (no _ (by omega)), inc m s.c9 (no _ (by omega)), m.items (no _ (by omega)) s.nle s.inp s.now, m.byt (no _ (by omega)) s.byt⟩
theorem mv8 (s : GSt n0 p c stop col rs ra ch tp nw bs t7 t10 h) {K : Nat → Prop} (m : Mv col col' K h h') (hk : ∀ j, K j → j = 8 ∨ j = 18) {ch' : List (List UInt8)} (x : ∃ w, At h' c.q8 [w] ∧ BufE 32 (fun b => col' b = 8) h' w (ch'.map bcells)) : GSt n0 p c stop col' rs ra ch' tp nw bs t7 t10 h' := by
  have no : ∀ j, j ≠ 8 ∧ j ≠ 18 → ¬ K j := fun j hj h => by have := hk j h; omega
  obtain ⟨⟨w, a1, _⟩, a5⟩ := s.c8
  exact ⟨Nat.le_trans s.nle m.keep.1, s.ini m, s.in0 m (no _ (by omega)), inc m s.c3 (no _ (by omega)), s.in4 m (no _ (by omega)), inc m s.c5 (no _ (by omega)), s.in6 m (no _ (by omega)) (no _ (by omega)) (no _ (by omega)), ⟨x, (m.same _ a1.lt).trans a5⟩, inc m s.c9 (no _ (by omega)), m.items (no _ (by omega)) s.nle s.inp s.now, m.byt (no _ (by omega)) s.byt⟩
theorem mv19 (s : GSt n0 p c stop col rs ra ch tp nw bs t7 t10 h) {K : Nat → Prop} (m : Mv col col' K h h') (hk : ∀ j, K j → j = 19) {tp' : List UInt8} (x : At h' c.q9 (bcells tp')) : GSt n0 p c stop col' rs ra ch tp' nw bs t7 t10 h' := by
  have no : ∀ j, j ≠ 19 → ¬ K j := fun j hj h => hj (hk j h)
  exact ⟨Nat.le_trans s.nle m.keep.1, s.ini m, s.in0 m (no _ (by omega)), inc m s.c3 (no _ (by omega)), s.in4 m (no _ (by omega)), inc m s.c5 (no _ (by omega)), s.in6 m (no _ (by omega)) (no _ (by omega)) (no _ (by omega)), s.in8 m (no _ (by omega)) (no _ (by omega)), ⟨x, (m.same _ s.c9.1.lt).trans s.c9.2⟩, m.items (no _ (by omega)) s.nle s.inp s.now, m.byt (no _ (by omega)) s.byt⟩
theorem mv10 (s : GSt n0 p c stop col rs ra ch tp nw bs t7 t10 h) {K : Nat → Prop} (m : Mv col col' K h h') (hk : ∀ j, K j → j = 10) {bs' : List UInt8} {t10' : Value} (x : Buf (fun b => col' b = 10) h' t10' bs') : GSt n0 p c stop col' rs ra ch tp nw bs' t7 t10' h' := by
  have no : ∀ j, j ≠ 10 → ¬ K j := fun j hj h => hj (hk j h)
  exact ⟨Nat.le_trans s.nle m.keep.1, s.ini m, s.in0 m (no _ (by omega)), inc m s.c3 (no _ (by omega)), s.in4 m (no _ (by omega)), inc m s.c5 (no _ (by omega)), s.in6 m (no _ (by omega)) (no _ (by omega)) (no _ (by omega)), s.in8 m (no _ (by omega)) (no _ (by omega)), inc m s.c9 (no _ (by omega)), m.items (no _ (by omega)) s.nle s.inp s.now, x⟩
theorem withNow (s : GSt n0 p c stop col rs ra ch tp nw bs t7 t10 h) {nw' : List Item} {t7' : Value} (x : Items (· < n0) h t7' nw') : GSt n0 p c stop col rs ra ch tp nw' bs t7' t10 h := { s with now := x }
theorem pure (s : GSt n0 p c stop col rs ra ch tp nw bs t7 t10 h) (k : Keep (fun _ => False) h h') : GSt n0 p c stop col rs ra ch tp nw bs t7 t10 h' := s.mv (K := fun _ => False) (Mv.pure k) fun _ h => h.elim
end GSt
end Go.Proofs.YtdmciknajaedmaaDoor
/- HistoryGrows: a record that was appended is put to the law's own lists. -/
namespace Go.Proofs.YtdmciknajaedmaaDoor
open Go.X Go.X.Diff
set_option maxRecDepth 100000

theorem Mv.paint {col : Nat → Nat} {K : Nat → Prop} {k : Nat} {h h' : Heap} (kk : Keep (fun b => paint h.size k col b = k) h h') (hk : K k) : Mv col (paint h.size k col) K h h' :=
  ⟨kk.mono fun b hb e => by
    by_cases hlt : b < h.size
    · rw [paint_old hlt] at e; exact .inr (e ▸ hk)
    · exact .inl (by omega), fun b hb => paint_old hb⟩
theorem Mv.at {col : Nat → Nat} {K : Nat → Prop} {q : Nat} {h h' : Heap} (kk : Keep (· = q) h h') (hk : K (col q)) : Mv col col K h h' := ⟨kk.mono fun b hb e => .inr (e ▸ hk), fun _ _ => rfl⟩

end Go.Proofs.YtdmciknajaedmaaDoor
