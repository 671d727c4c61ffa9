/- records in bytes, compared, copied; a history. -/
import Derived.Test.YtmhfanpijdgkjaaDoorV10
namespace Go.Proofs.YtmhfanpijdgkjaaDoor
open Go.X
set_option maxRecDepth 100000

theorem bld_Out : buildV prg T_wire_Out [] = some (.agg #[.slice none 0 0]) := by kernel_rfl
def recB (a : RecA) : List UInt8 := numB a.k 8 ++ putB a.bef ++ putB a.aft ++ numB a.s 8 ++ a.r

theorem c_RecBytes {P : Nat → Prop} {H : Heap} {vb va : Value} {a : RecA} (hb : Items P H vb a.bef) (ha : Items P H va a.aft) (hP : ∀ b, P b → b < H.size) (hr : a.r.length = 32)
    (hIb : ∀ x ∈ a.bef, ItoaOk x.ver.p) (hIa : ∀ x ∈ a.aft, ItoaOk x.ver.p) (hl : (recB a).length ≤ 1099511627776) (hl1 : a.bef.length ≤ 1099511627776) (hl2 : a.aft.length ≤ 1099511627776) :
    HCalls prg f_history_Record_Bytes [.agg (recC a.k vb va a.s a.r).toArray] H fun u H' => Buf (fun b => H.size ≤ b ∧ b < H'.size) H' u (recB a) ∧ Keep (fun _ => False) H H' := by
  apply sh_history_Record_Bytes_calls
  unfold sh_history_Record_Bytes
  simp only [Cells_agg, Mnew_some, bld_Out, Mpu_some]
  have hlen : (recB a).length = 8 + (putB a.bef).length + (putB a.aft).length + 8 + 32 := by simp [recB, hr]; omega
  generalize hH1 : H.push (.cells (recC a.k vb va a.s a.r).toArray T_history_Record (0, 0)) = H1
  have k1 : Keep (fun _ => False) H H1 := by rw [← hH1]; exact Keep.push
  have hs1 : H1.size = H.size + 1 := by rw [← hH1]; simp
  have hq1 : H1[H.size]? = some (.cells (recC a.k vb va a.s a.r).toArray T_history_Record (0, 0)) := by rw [← hH1]; exact push_new
  generalize hH2 : H1.push (.cells #[.slice none 0 0] T_wire_Out (0, 0)) = H2
  have k2 : Keep (fun _ => False) H1 H2 := by rw [← hH2]; exact Keep.push
  have hs2 : H2.size = H1.size + 1 := by rw [← hH2]; simp
  have hp2 : H2[H1.size]? = some (.cells #[.slice none 0 0] T_wire_Out (0, 0)) := by rw [← hH2]; exact push_new
  generalize hpe : H1.size = p at *
  have ho2 : OutAt (p < ·) p H2 [] := ⟨Nat.lt_irrefl _, _, hp2, .inl ⟨rfl, rfl⟩⟩
  have hq : ∀ g, Keep (Wr (p < ·) p) H2 g → g[H.size]? = some (.cells (recC a.k vb va a.s a.r).toArray T_history_Record (0, 0)) := fun g kg => kg.at (k2.at hq1 id) (fun h => by rcases h with h | h <;> omega)
  have hff : ∀ g : Heap, H2.size ≤ g.size → ∀ b, g.size ≤ b → p < b := fun g hg b hb => by omega
  have ks : ∀ b, P b → ¬ Wr (p < ·) p b := fun b hb h => by have := hP b hb; rcases h with h | h <;> omega
  have d0 : ld1 H2 (Ptr H.size 0) = some (.int .i64 a.k) := ld_l (hq H2 Keep.refl) rfl
  simp only [fld_ptr, Mpu_some, Nat.zero_add, d0]
  refine call_i (c_Out_Int ho2 a.k (by simp) (hff H2 (Nat.le_refl _))) ?_
  rintro _ h3 ⟨rfl, ho3, k3⟩
  have d1 : ld1 h3 (Ptr H.size 1) = some vb := ld_l (hq h3 k3) rfl
  simp only [d1, Mpu_some]
  have hb3 := ((hb.keep k1 fun _ _ => id).keep k2 fun _ _ => id).keep k3 ks
  refine call_i (c_put ho3 hb3 (fun b hb => ⟨by have := hP b hb; have := k3.1; omega, ks b hb⟩) hIb (by simp; omega) hl1 (hff h3 k3.1)) ?_
  rintro _ h4 ⟨rfl, ho4, k4⟩
  have k24 := k3.trans k4
  have d2 : ld1 h4 (Ptr H.size 2) = some va := ld_l (hq h4 k24) rfl
  simp only [d2, Mpu_some]
  have ha4 := ((ha.keep k1 fun _ _ => id).keep k2 fun _ _ => id).keep k24 ks
  refine call_i (c_put ho4 ha4 (fun b hb => ⟨by have := hP b hb; have := k24.1; omega, ks b hb⟩) hIa (by simp; omega) hl2 (hff h4 k24.1)) ?_
  rintro _ h5 ⟨rfl, ho5, k5⟩
  have k25 := k24.trans k5
  have d3 : ld1 h5 (Ptr H.size 3) = some (.int .i64 a.s) := ld_l (hq h5 k25) rfl
  have d4 : ∀ g, Keep (Wr (p < ·) p) H2 g → ldN 32 g (Ptr H.size 4) = some (bv a.r) := fun g kg => ldN_mid (A := [Value.int .i64 a.k, vb, va, Value.int .i64 a.s]) (B := bcells a.r) (C := []) (by rw [List.append_nil]; exact hq g kg) rfl (by simp [hr])
  simp only [d3, d4 h5 k25, Mpu_some]
  refine call_i (c_Out_Int ho5 a.s (by simp; omega) (hff h5 k25.1)) ?_
  rintro _ h6 ⟨rfl, ho6, k6⟩
  have k26 := k25.trans k6
  simp only [d4 h6 k26, Mre_cons, Mre_nil, true_and]
  refine call_i (c_Out_Hash ho6 hr (by simp; omega) (hff h6 k26.1)) ?_
  rintro _ h7 ⟨rfl, ho7, k7⟩
  have k27 := k26.trans k7
  refine call_i (c_Out_All ho7 (by simp [hr]; omega) (hff h7 k27.1)) ?_
  rintro u h8 ⟨hbuf, k8⟩
  have hall : [] ++ numB a.k 8 ++ putB a.bef ++ putB a.aft ++ numB a.s 8 ++ a.r = recB a := by simp [recB]
  rw [hall] at hbuf
  refine ⟨?_, ?_⟩
  · rcases hbuf with h | ⟨b, o, c, cs, T, f, rfl, hf, hc, hb', hr'⟩
    · exact .inl h
    · exact .inr ⟨b, o, c, cs, T, f, rfl, ⟨by omega, lt_of hb'⟩, hc, hb', hr'⟩
  · refine ⟨by have := k1.1; have := k2.1; have := k27.1; have := k8.1; omega, fun i hi _ => ?_⟩
    have q27 := k27.1
    rw [k8.2 i (by omega) (by omega), k27.2 i (by omega) (fun h => by rcases h with h | h <;> omega), k2.2 i (by omega) id, k1.2 i hi id]

/- equal items -/
instance : DecidableEq Ver := fun a b => decidable_of_iff (a.p = b.p ∧ a.pre = b.pre) (by cases a; cases b; simp)
instance : DecidableEq Item := fun a b => decidable_of_iff (a.name = b.name ∧ a.ver = b.ver ∧ a.sum = b.sum) (by cases a; cases b; simp)
theorem eqCells_app {k1 k2 : List Nat} {a1 a2 b1 b2 : List Value} {p q : Bool} (ha : a1.length = k1.length) (hb : b1.length = k1.length) (h1 : eqCells k1 a1 b1 = some p) (h2 : eqCells k2 a2 b2 = some q) : eqCells (k1 ++ k2) (a1 ++ a2) (b1 ++ b2) = some (p && q) := by
  induction k1 generalizing a1 b1 p with
  | nil =>
    obtain rfl := List.length_eq_zero_iff.1 ha
    obtain rfl := List.length_eq_zero_iff.1 hb
    simp only [eqCells, Option.some.injEq] at h1
    subst h1; simpa using h2
  | cons k k1 ih =>
    match a1, b1, ha, hb with
    | a :: a1, b :: b1, ha, hb =>
      simp only [eqCells] at h1
      simp only [List.cons_append, eqCells]
      cases hx : eqCell k a b with
      | none => rw [hx] at h1; cases h1
      | some x =>
        cases hy : eqCells k1 a1 b1 with
        | none => rw [hx, hy] at h1; cases h1
        | some y =>
          rw [hx, hy] at h1
          simp only [Option.some.injEq] at h1
          rw [ih (by simpa using ha) (by simpa using hb) hy]
          simp [← h1, Bool.and_assoc]
theorem eqCells_ints {k : IntKind} {l m : List Int} (h : l.length = m.length) : eqCells (List.replicate l.length 0) (icells k l) (icells k m) = some (decide (l = m)) := by
  induction l generalizing m with
  | nil => cases m with
    | nil => rfl
    | cons b m => cases h
  | cons a l ih => cases m with
    | nil => cases h
    | cons b m =>
      have e : eqCell 0 (.int k a) (.int k b) = some (decide (a = b)) := by
        simp only [eqCell, if_true]; congr 1
      have e2 := ih (m := m) (by simpa using h)
      simp only [icells] at e2
      simp only [List.length_cons, List.replicate_succ, icells, List.map_cons, eqCells, e, e2]
      congr 1
      simp [Bool.eq_iff_iff]
theorem eqCells_str {a b : List UInt8} : eqCells [2] [str a] [str b] = some (decide (a = b)) := by
  simp only [eqCells, eqCell, toList_mk, Bool.and_true]
  congr 1; rw [Bool.eq_iff_iff]; simp
def kItem : List Nat := [2] ++ ((List.replicate 3 0 ++ [2]) ++ List.replicate 32 0)
theorem eqK_Item : eqK prg T_history_Item = .flat kItem := by kernel_rfl
theorem eqItem {x y : Item} (hx : x.wf) (hy : y.wf) : eqCells kItem (itemC x) (itemC y) = some (decide (x = y)) := by
  have h1 : eqCells (List.replicate 3 0) (icells .i64 x.ver.p) (icells .i64 y.ver.p) = some (decide (x.ver.p = y.ver.p)) := by
    have := eqCells_ints (k := .i64) (l := x.ver.p) (m := y.ver.p) (by rw [hx.ver.p3, hy.ver.p3])
    rwa [hx.ver.p3] at this
  have h2 : eqCells (List.replicate 32 0) (bcells x.sum) (bcells y.sum) = some (decide (x.sum = y.sum)) := by
    have := eqCells_bytes (l := x.sum) (m := y.sum) (by rw [hx.sum, hy.sum])
    rwa [hx.sum] at this
  have hv := eqCells_app (by simp [hx.ver.p3]) (by simp [hy.ver.p3]) h1 (eqCells_str (a := x.ver.pre) (b := y.ver.pre))
  have hvs := eqCells_app (by simp [hx.ver.p3]) (by simp [hy.ver.p3]) hv h2
  have := eqCells_app (k1 := [2]) rfl rfl (eqCells_str (a := x.name) (b := y.name)) hvs
  have e : itemC x = [str x.name] ++ ((icells .i64 x.ver.p ++ [str x.ver.pre]) ++ bcells x.sum) := rfl
  have e' : itemC y = [str y.name] ++ ((icells .i64 y.ver.p ++ [str y.ver.pre]) ++ bcells y.sum) := rfl
  rw [e, e']
  unfold kItem
  rw [this]
  congr 1
  rw [Bool.eq_iff_iff]
  obtain ⟨n, ⟨p, q⟩, s⟩ := x
  obtain ⟨n', ⟨p', q'⟩, s'⟩ := y
  simp

theorem c_EqItems {P Q : Nat → Prop} {H : Heap} {v w : Value} {xs ys : List Item} (hv : Items P H v xs) (hw : Items Q H w ys) (hl : xs.length ≤ 1099511627776) :
    HCalls prg f_slices_Equal_S_history_Item_history_Item [v, w] H fun u H' => u = .bool (decide (xs = ys)) ∧ H = H' := by
  apply sh_slices_Equal_S_history_Item_history_Item_calls
  unfold sh_slices_Equal_S_history_Item_history_Item
  simp only [hv.len, hw.len, Mpu_some, binV_int, intV, Mcd_bool, J1_eq]
  by_cases hne : xs.length = ys.length
  · rw [if_neg (by simp [hne])]
    refine L1_i (fun u h => ∃ i : Nat, i ≤ xs.length ∧ u = .int .i64 (i : Nat) ∧ xs.take i = ys.take i ∧ H = h) (fun u _ => match u with | .int _ t => xs.length - t.toNat | _ => 0) ⟨0, Nat.zero_le _, rfl, rfl, rfl⟩ ?_
    rintro _ _ ⟨i, hi, rfl, hti, rfl⟩ k hk
    simp only [binV_int, intV, Mpu_some, Mcd_bool, decide_eq_true_eq]
    by_cases hlt : (i : Int) < xs.length
    · rw [if_pos hlt]
      have hlt' : i < xs.length := by omega
      have hg : xs[i]? = some xs[i] := List.getElem?_eq_getElem hlt'
      have hg2 : ys[i]? = some ys[i] := List.getElem?_eq_getElem (by omega)
      obtain ⟨wf1, b1, o1, ix1, pt1, _⟩ := hv.at hg
      obtain ⟨wf2, b2, o2, ix2, pt2, _⟩ := hw.at hg2
      have hinc : IntKind.i64.wrap ((i : Int) + 1) = (i + 1 : Nat) := by rw [wrap_id] <;> omega
      have hcmp : binV (eqK prg T_history_Item) .neq (.agg (itemC xs[i]).toArray) (.agg (itemC ys[i]).toArray) = some (.bool (!decide (xs[i] = ys[i]))) := by
        rw [binV_agg_ne, eqK_Item]
        show (eqCells kItem (itemC xs[i]).toArray.toList (itemC ys[i]).toArray.toList).map (fun b => Value.bool (!b)) = _
        rw [List.toList_toArray, List.toList_toArray, eqItem wf1 wf2]; rfl
      simp only [ix1, ix2, Mpu_some, pt1.agg (itemC_len wf1), pt2.agg (itemC_len wf2), hcmp, Mcd_bool, hinc]
      by_cases he : xs[i] = ys[i]
      · rw [if_neg (by simp [he])]
        exact hk _ _ ⟨i + 1, hlt', rfl, by rw [List.take_add_one, List.take_add_one, hti, hg, hg2, he], rfl⟩ (by show xs.length - (i + 1) < xs.length - i; omega)
      · rw [if_pos (by simp [he])]
        refine ⟨?_, by trivial⟩
        have : xs ≠ ys := fun e => by subst e; exact he rfl
        simp [this]
    · rw [if_neg hlt]
      obtain rfl : i = xs.length := by omega
      rw [List.take_length, List.take_of_length_le (by omega)] at hti
      exact ⟨by simp [hti], by trivial⟩
  · rw [if_pos (by simp; omega)]
    have : xs ≠ ys := fun e => hne (by rw [e])
    exact ⟨by simp [this], by trivial⟩

theorem bslI0 : bslV prg T_history_Item 0 [] = some #[] := by kernel_rfl
def New (H H' : Heap) : Nat → Prop := fun b => H.size ≤ b ∧ b < H'.size
theorem c_CloneItems {P : Nat → Prop} {H : Heap} {v : Value} {xs : List Item} (hv : Items P H v xs) (hl : xs.length ≤ 1048576) :
    HCalls prg f_slices_Clone_S_history_Item_history_Item [v] H fun u H' => Items (New H H') H' u xs ∧ Keep (fun _ => False) H H' := by
  apply sh_slices_Clone_S_history_Item_history_Item_calls
  unfold sh_slices_Clone_S_history_Item_history_Item
  have hv1 := hv.1
  obtain ⟨⟨a, c, rfl, hc, hx⟩, hel, hone⟩ := hv1
  cases a with
  | none =>
    have hx0 : xs = [] := by
      rcases hx with h | ⟨b, o, e, _⟩
      · simpa using h
      · cases e
    subst hx0
    simp only [binV_slc_eq, eqV_slc_none, Option.map_some, Mpu_some, Mcd_bool, Option.isNone_none, if_true]
    exact ⟨⟨SlE.nil, fun x h => by cases h⟩, Keep.refl⟩
  | some a =>
    simp only [binV_slc_eq, eqV_slc_some, Option.map_some, Mpu_some, Mcd_bool, Bool.false_eq_true, if_false, bslI0, Mnews_some]
    have hk := (hv.keep (S := fun _ => False) (Keep.push (o := .cells #[] T_history_Item (0, 0))) fun _ _ => id).1
    refine BufE.app (F := (H.size ≤ ·)) (xs := []) (.fresh (cs := []) ⟨H.size, rfl, Nat.le_refl _, push_new⟩ (Nat.le_refl _) (by simp) (fun _ _ => by simp [thaw]) (by simp) (fun x h => by cases h) (fun x h => by cases h)) hk (by omega) (by simp; omega) (by simp) fun u H' hu k' => ?_
    have hsl := hu.sl
    rw [List.nil_append] at hsl
    refine ⟨⟨⟨?_, hsl.el, hsl.one⟩, hv.2⟩, ?_⟩
    · obtain ⟨a, c, hve, hc, hx⟩ := hsl.ex
      exact ⟨a, c, hve, hc, hx.imp id fun ⟨b, o, e, hb, hpt⟩ => ⟨b, o, e, ⟨hb, hpt.lt⟩, hpt⟩⟩
    · refine ⟨by have := k'.1; simp at this; omega, fun i hi _ => ?_⟩
      rw [k'.2 i (by simp; omega) (by omega), Array.getElem?_push, if_neg (by omega)]

theorem z_Record : ∃ z : List Value, zcells prg T_history_Record = some z.toArray ∧ z.length = 36 := by
  have h : (match zcells prg T_history_Record with | some z => z.size == 36 | none => false) = true := by kernel_rfl
  split at h
  · rename_i z hz; exact ⟨z.toList, by simp [hz], by simpa using h⟩
  · cases h
theorem st36 {H : Heap} {q : Nat} {z m : List Value} {T : TypeId} (hq : H[q]? = some (.cells z.toArray T (0, 0))) (hz : z.length = 36) (hm : m.length = 36) (h1 : ∀ c ∈ m, c.oneCell' = true) : stN 36 H (Ptr q 0) (.agg m.toArray) = some (H.setIfInBounds q (.cells m.toArray T (0, 0))) := by
  have := stN_mid (n := 36) (o := 0) (A := []) (B := z) (C := []) (B' := m) (by rw [List.nil_append, List.append_nil]; exact hq) rfl (by simp [hz]) hm (all_of h1)
  rw [List.nil_append, List.append_nil] at this
  exact this
theorem ld36 {H : Heap} {q : Nat} {m : List Value} {T : TypeId} {f : Nat × Nat} (hq : H[q]? = some (.cells m.toArray T f)) (hm : m.length = 36) : ldN 36 H (Ptr q 0) = some (.agg m.toArray) :=
  ldN_mid (A := []) (B := m) (C := []) (by rw [List.nil_append, List.append_nil]; exact hq) rfl (by simp [hm])

theorem c_copied {P : Nat → Prop} {H : Heap} {vb va : Value} {a : RecA} (hb : Items P H vb a.bef) (ha : Items P H va a.aft) (hP : ∀ b, P b → b < H.size) (hr : a.r.length = 32) (hl1 : a.bef.length ≤ 1048576) (hl2 : a.aft.length ≤ 1048576) :
    HCalls prg f_history_Record_copied [.agg (recC a.k vb va a.s a.r).toArray] H fun u H' => ∃ vb' va', u = .agg (recC a.k vb' va' a.s a.r).toArray ∧ Items (New H H') H' vb' a.bef ∧ Items (New H H') H' va' a.aft ∧ Keep (fun _ => False) H H' := by
  apply sh_history_Record_copied_calls
  unfold sh_history_Record_copied
  obtain ⟨z, hz, hzl⟩ := z_Record
  simp only [Cells_agg, Mnew_some, hz]
  generalize hH1 : H.push (.cells (recC a.k vb va a.s a.r).toArray T_history_Record (0, 0)) = H1
  have k1 : Keep (fun _ => False) H H1 := by rw [← hH1]; exact Keep.push
  have hs1 : H1.size = H.size + 1 := by rw [← hH1]; simp
  have hq1 : H1[H.size]? = some (.cells (recC a.k vb va a.s a.r).toArray T_history_Record (0, 0)) := by rw [← hH1]; exact push_new
  generalize hH2 : H1.push (.cells z.toArray T_history_Record (0, 0)) = H2
  have k2 : Keep (fun _ => False) H1 H2 := by rw [← hH2]; exact Keep.push
  have hs2 : H2.size = H1.size + 1 := by rw [← hH2]; simp
  have hz2 : H2[H1.size]? = some (.cells z.toArray T_history_Record (0, 0)) := by rw [← hH2]; exact push_new
  have hq2 := k2.at hq1 id
  have d1 : ld1 H2 (Ptr H.size 1) = some vb := ld_l hq2 rfl
  have d2 : ld1 H2 (Ptr H.size 2) = some va := ld_l hq2 rfl
  simp only [fld_ptr, Mpu_some, Nat.zero_add, d1, d2]
  have hb2 := (hb.keep k1 fun _ _ => id).keep k2 fun _ _ => id
  have ha2 := (ha.keep k1 fun _ _ => id).keep k2 fun _ _ => id
  refine call_i (c_CloneItems hb2 hl1) ?_
  rintro vb' H3 ⟨hb3, k3⟩
  have hq3 := k3.at hq2 id
  have d23 : ld1 H3 (Ptr H.size 2) = some va := ld_l hq3 rfl
  simp only [d23, Mre_cons, Mre_nil, true_and]
  refine call_i (c_CloneItems (ha2.keep k3 fun _ _ => id) hl2) ?_
  rintro va' H4 ⟨ha4, k4⟩
  have hq4 := k4.at hq3 id
  have hb4 := hb3.keep k4 fun _ _ => id
  rw [st_l hq4 (i := 1) (by simp [recC]) hb4.one, Mwr_some, st_l (set_self hq4) (i := 2) (by simp [recC]) ha4.one, Mwr_some]
  have hset : ((recC a.k vb va a.s a.r).set 1 vb').set 2 va' = recC a.k vb' va' a.s a.r := rfl
  rw [hset]
  have hq6 := set_self (y := .cells (recC a.k vb' va' a.s a.r).toArray T_history_Record (0, 0)) (set_self (y := .cells ((recC a.k vb va a.s a.r).set 1 vb').toArray T_history_Record (0, 0)) hq4)
  have hone := recC_one (k := a.k) (s := a.s) (r := a.r) hb4 ha4
  rw [ld36 hq6 (recC_len hr), Mpu_some]
  have hz6 := set_other (y := .cells (recC a.k vb' va' a.s a.r).toArray T_history_Record (0, 0)) (set_other (y := .cells ((recC a.k vb va a.s a.r).set 1 vb').toArray T_history_Record (0, 0)) (k4.at (k3.at hz2 id) id) (show H.size ≠ H1.size by omega)) (show H.size ≠ H1.size by omega)
  rw [st36 hz6 hzl (recC_len hr) hone, Mwr_some, ld36 (set_self hz6) (recC_len hr), Mpu_some]
  have kset : Keep (fun b => b = H.size ∨ b = H1.size) H4 (((H4.setIfInBounds H.size (.cells ((recC a.k vb va a.s a.r).set 1 vb').toArray T_history_Record (0, 0))).setIfInBounds H.size (.cells (recC a.k vb' va' a.s a.r).toArray T_history_Record (0, 0))).setIfInBounds H1.size (.cells (recC a.k vb' va' a.s a.r).toArray T_history_Record (0, 0))) :=
    ((Keep.set (.inl rfl)).trans (Keep.set (.inl rfl))).trans (Keep.set (.inr rfl))
  have q3 := k3.1
  have q4 := k4.1
  have mono : ∀ {P : Nat → Prop} {h : Heap} {v : Value} {xs : List Item} {Q : Nat → Prop}, Items P h v xs → (∀ b, P b → Q b) → Items Q h v xs := fun h k => ⟨h.1.mono k, h.2⟩
  refine ⟨vb', va', rfl, mono (hb4.keep kset fun b hb h => ?_) fun b hb => ⟨by have := hb.1; omega, by have := hb.2; simp; omega⟩, mono (ha4.keep kset fun b hb h => ?_) fun b hb => ⟨by have := hb.1; omega, by have := hb.2; simp; omega⟩, ?_⟩
  · have := hb.1; rcases h with h | h <;> omega
  · have := hb.1; rcases h with h | h <;> omega
  · refine ⟨by simp; omega, fun i hi _ => ?_⟩
    rw [kset.2 i (by omega) (by omega), k4.2 i (by omega) id, k3.2 i (by omega) id, k2.2 i (by omega) id, k1.2 i hi id]

end Go.Proofs.YtmhfanpijdgkjaaDoor
