/- JOINED: V10b V11 V12 V13 V14 -/
import Derived.Test.YtdmciknajaedmaaDoorGI
set_option linter.unusedSimpArgs false
set_option linter.unusedVariables false
/- records: right, in bytes. -/
namespace Go.Proofs.YtdmciknajaedmaaDoor
open Go.X
set_option maxRecDepth 100000

/- heads and records -/
def headOk (s : Int) : Bool := decide (s ≥ 0) && decide (s ≤ 1048576)
theorem c_HeadRight {H : Heap} {s : Int} {r : List UInt8} : HCalls prg f_head_Head_Right [.agg (Value.int .i64 s :: bcells r).toArray] H fun u H' => u = .bool (headOk s) ∧ Keep (fun _ => False) H H' := by
  apply sh_head_Head_Right_calls
  unfold sh_head_Head_Right
  simp only [Cells_agg, Mnew_some]
  have hq : (H.push (.cells (Value.int .i64 s :: bcells r).toArray T_head_Head (0, 0)))[H.size]? = some (.cells (Value.int .i64 s :: bcells r).toArray T_head_Head (0, 0)) := push_new
  have d0 : ld1 (H.push (.cells (Value.int .i64 s :: bcells r).toArray T_head_Head (0, 0))) (Ptr H.size 0) = some (.int .i64 s) := ld_l hq rfl
  simp only [fld_ptr, Mpu_some, Nat.zero_add, d0, binV_int, intV, J1_eq, Mif_bool, decide_eq_true_eq]
  unfold headOk
  by_cases h : s ≥ 0
  · simp only [h, decide_true, if_true, pickV_bool, Mpu_some, Bool.true_and]; exact ⟨by trivial, Keep.push⟩
  · simp only [h, decide_false, if_false, pickV_bool, Mpu_some, Bool.false_and, Bool.false_eq_true]; exact ⟨by trivial, Keep.push⟩

def recC (k : Int) (vb va : Value) (s : Int) (r : List UInt8) : List Value := [Value.int .i64 k, vb, va, Value.int .i64 s] ++ bcells r
theorem recC_len {k s : Int} {vb va : Value} {r : List UInt8} (h : r.length = 32) : (recC k vb va s r).length = 36 := by simp [recC, h]
theorem Items.one {P : Nat → Prop} {H : Heap} {v : Value} {xs : List Item} (h : Items P H v xs) : v.oneCell' = true := h.1.oneC
theorem recC_one {P Q : Nat → Prop} {H H2 : Heap} {k s : Int} {vb va : Value} {xs ys : List Item} {r : List UInt8} (hb : Items P H vb xs) (ha : Items Q H2 va ys) : ∀ c ∈ recC k vb va s r, c.oneCell' = true := by
  intro c hc
  simp only [recC, List.mem_append, List.mem_cons, List.not_mem_nil, or_false] at hc
  rcases hc with (rfl | rfl | rfl | rfl) | hc
  · rfl
  · exact hb.one
  · exact ha.one
  · rfl
  · exact bcells_one c hc
structure RecA where
  k : Int
  bef : List Item
  aft : List Item
  s : Int
  r : List UInt8
def recOk (a : RecA) : Bool := decide (a.k ≥ 1) && decide (a.k ≤ 4) && itemsOk a.bef && itemsOk a.aft && headOk a.s

theorem c_RecRight {P : Nat → Prop} {H : Heap} {vb va : Value} {a : RecA} (hb : Items P H vb a.bef) (ha : Items P H va a.aft) (hP : ∀ b, P b → b < H.size) (hr : a.r.length = 32) (hl : a.bef.length ≤ 1099511627776) (hl2 : a.aft.length ≤ 1099511627776) :
    HCalls prg f_history_Record_Right [.agg (recC a.k vb va a.s a.r).toArray] H fun u H' => u = .bool (recOk a) ∧ Keep (fun _ => False) H H' := by
  apply sh_history_Record_Right_calls
  unfold sh_history_Record_Right
  simp only [Cells_agg, Mnew_some]
  generalize hH1 : H.push (.cells (recC a.k vb va a.s a.r).toArray T_history_Record (0, 0)) = H1
  have k1 : Keep (fun _ => False) H H1 := by rw [← hH1]; exact Keep.push
  have hq1 : H1[H.size]? = some (.cells (recC a.k vb va a.s a.r).toArray T_history_Record (0, 0)) := by rw [← hH1]; exact push_new
  have d0 : ld1 H1 (Ptr H.size 0) = some (.int .i64 a.k) := ld_l hq1 rfl
  have d1 : ld1 H1 (Ptr H.size 1) = some vb := ld_l hq1 rfl
  simp only [fld_ptr, Mpu_some, Nat.zero_add, d0, d1, binV_int, intV, J1_eq, Mif_bool, decide_eq_true_eq]
  have hP1 : ∀ b, P b → b < H1.size := fun b hb => Nat.lt_of_lt_of_le (hP b hb) k1.1
  unfold recOk
  by_cases h1 : a.k ≥ 1
  · by_cases h4 : a.k ≤ 4
    · simp only [h1, h4, decide_true, if_true, pickV_bool, Mpu_some, Mif_bool, Bool.true_and]
      refine call_i (c_items (hb.keep k1 fun _ _ => id) hP1 hl) ?_
      rintro _ h2 ⟨rfl, k2⟩
      have hq2 := k2.at hq1 id
      have d2 : ld1 h2 (Ptr H.size 2) = some va := ld_l hq2 rfl
      by_cases hxb : itemsOk a.bef = true
      · simp only [hxb, pickV_bool, if_true, Mpu_some, Mif_bool, d2, Bool.true_and]
        refine call_i (c_items ((ha.keep k1 fun _ _ => id).keep k2 fun _ _ => id) (fun b hb => Nat.lt_of_lt_of_le (hP1 b hb) k2.1) hl2) ?_
        rintro _ h3 ⟨rfl, k3⟩
        have hq3 := k3.at hq2 id
        have d3 : ldN 33 h3 (Ptr H.size 3) = some (.agg (Value.int .i64 a.s :: bcells a.r).toArray) := ldN_mid (A := [Value.int .i64 a.k, vb, va]) (B := Value.int .i64 a.s :: bcells a.r) (C := []) (by rw [List.append_nil]; exact hq3) rfl (by simp [hr])
        by_cases hxa : itemsOk a.aft = true
        · simp only [hxa, pickV_bool, if_true, Mpu_some, Mif_bool, d3, Bool.true_and]
          refine call_i c_HeadRight ?_
          rintro _ h4 ⟨rfl, k4⟩
          exact ⟨by trivial, k1.trans (k2.trans (k3.trans k4))⟩
        · simp only [eq_false_of_ne_true hxa, pickV_bool, Bool.false_eq_true, if_false, Mpu_some, Mif_bool, Bool.false_and]
          exact ⟨by trivial, k1.trans (k2.trans k3)⟩
      · simp only [eq_false_of_ne_true hxb, pickV_bool, Bool.false_eq_true, if_false, Mpu_some, Mif_bool, Bool.false_and]
        exact ⟨by trivial, k1.trans k2⟩
    · simp only [h1, h4, decide_true, decide_false, if_true, pickV_bool, Bool.false_eq_true, if_false, Mpu_some, Mif_bool, Bool.false_and, Bool.true_and]
      exact ⟨by trivial, k1⟩
  · simp only [h1, decide_false, pickV_bool, Bool.false_eq_true, if_false, Mpu_some, Mif_bool, Bool.false_and]
    exact ⟨by trivial, k1⟩

/- bytes -/
def itemB (x : Item) : List UInt8 := textB x.name ++ textB (showF x.ver) ++ x.sum
def putB (xs : List Item) : List UInt8 := numB xs.length 8 ++ (xs.map itemB).flatten
theorem put_take {xs : List Item} {i : Nat} {x : Item} (h : xs[i]? = some x) : ((xs.take (i + 1)).map itemB).flatten = ((xs.take i).map itemB).flatten ++ itemB x := by
  obtain ⟨hlt, rfl⟩ := List.getElem?_eq_some_iff.1 h
  rw [show xs.take (i + 1) = xs.take i ++ [xs[i]] by rw [List.take_add_one, List.getElem?_eq_getElem hlt]; rfl, List.map_append, List.flatten_append]; simp
theorem put_le {xs : List Item} {i : Nat} : (((xs.take i).map itemB).flatten).length ≤ ((xs.map itemB).flatten).length := by
  conv => rhs; rw [← List.take_append_drop i xs, List.map_append, List.flatten_append, List.length_append]
  omega
theorem textB_len {l : List UInt8} : (textB l).length = 4 + l.length := by simp [textB]

theorem c_put {F P : Nat → Prop} {p : Nat} {H : Heap} {l : List UInt8} {v : Value} {xs : List Item} (h : OutAt F p H l) (hv : Items P H v xs) (hP : ∀ b, P b → b < H.size ∧ ¬ Wr F p b) (hT : PowT H) (hG : ∀ b, Wr F p b → NG ≤ b)
    (hl : l.length + (putB xs).length ≤ 140737488355328) (hn : xs.length ≤ 1099511627776) (hf : ∀ b, H.size ≤ b → F b) :
    HCalls prg f_history_put [Ptr p 0, v] H fun u H' => u = .tuple #[] ∧ OutAt F p H' (l ++ putB xs) ∧ Keep (Wr F p) H H' := by
  apply sh_history_put_calls
  unfold sh_history_put
  obtain ⟨z, hz, hzl⟩ := z_Item
  have hpl : (putB xs).length = 8 + ((xs.map itemB).flatten).length := by simp [putB]
  simp only [hv.len, Mpu_some, hz, Mnew_some]
  refine call_i (c_Out_Int h xs.length (by omega) hf) ?_
  rintro _ h1 ⟨rfl, ho, k1⟩
  refine L1_i (fun u h => ∃ i : Nat, i ≤ xs.length ∧ u = .int .i64 (i : Nat) ∧ OutAt F p h (l ++ numB xs.length 8 ++ ((xs.take i).map itemB).flatten) ∧ Keep (Wr F p) H h) (fun u _ => match u with | .int _ t => xs.length - t.toNat | _ => 0)
    ⟨0, Nat.zero_le _, rfl, by simpa using ho, k1⟩ ?_
  rintro _ h ⟨i, hi, rfl, hoi, kh⟩ k hk
  simp only [binV_int, intV, Mpu_some, Mcd_bool, decide_eq_true_eq]
  by_cases hlt : (i : Int) < xs.length
  · rw [if_pos hlt]
    have hlt' : i < xs.length := by omega
    have hg : xs[i]? = some xs[i] := List.getElem?_eq_getElem hlt'
    obtain ⟨hwf, b, o, hix, hpt, hpb⟩ := (hv.keep kh fun b hb => (hP b hb).2).at hg
    have hinc : IntKind.i64.wrap ((i : Int) + 1) = (i + 1 : Nat) := by rw [wrap_id] <;> omega
    have hle := put_le (xs := xs) (i := i + 1)
    rw [put_take hg, List.length_append] at hle
    have htk := put_take hg
    generalize hx : xs[i] = x at *
    have hil : (itemB x).length = (4 + x.name.length) + (4 + (showF x.ver).length) + 32 := by simp [itemB, textB_len, hwf.sum]; omega
    have hpush : (h.push (.cells z.toArray T_history_Item (0, 0)))[h.size]? = some (.cells z.toArray T_history_Item (0, 0)) := push_new
    have hst := stN_mid (n := 37) (o := 0) (A := []) (B := z) (C := []) (B' := itemC x) (by rw [List.nil_append, List.append_nil]; exact hpush) rfl (by simp [hzl]) (itemC_len hwf) (all_of itemC_one)
    rw [List.nil_append, List.append_nil] at hst
    simp only [hix, Mpu_some, hpt.agg (itemC_len hwf), hst, Mwr_some]
    generalize hH2 : (h.push (.cells z.toArray T_history_Item (0, 0))).setIfInBounds h.size (.cells (itemC x).toArray T_history_Item (0, 0)) = h2
    have k2 : Keep (fun _ => False) h h2 := by
      rw [← hH2]
      refine ⟨by simp, fun j hj _ => ?_⟩
      rw [Array.getElem?_setIfInBounds, if_neg (by omega), Array.getElem?_push, if_neg (by omega)]
    have hs2 : h2.size = h.size + 1 := by rw [← hH2]; simp
    have hq : h2[h.size]? = some (.cells (itemC x).toArray T_history_Item (0, 0)) := by rw [← hH2]; exact set_self hpush
    have hpne : h.size ≠ p := by obtain ⟨_, v, h2, _⟩ := hoi; have := lt_of h2; omega
    have hnW : ¬ Wr (fun b => F b ∧ b ≠ h.size) p h.size := fun h => h.elim (fun h => h.2 rfl) hpne
    have d0 : ∀ g, Keep (Wr (fun b => F b ∧ b ≠ h.size) p) h2 g → ld1 g (Ptr h.size 0) = some (str x.name) ∧ ldN 4 g (Ptr h.size 1) = some (.agg (verC x.ver).toArray) ∧ ldN 32 g (Ptr h.size 5) = some (bv x.sum) := fun g kg => by
      have hqg := kg.at hq hnW
      refine ⟨ld_l hqg rfl, ldN_mid (A := [str x.name]) (B := verC x.ver) (C := bcells x.sum) (by rw [← item_shape hwf]; exact hqg) rfl (verC_len hwf.ver).symm, ?_⟩
      exact ldN_mid (A := [str x.name] ++ verC x.ver) (B := bcells x.sum) (C := []) (by rw [List.append_nil, ← item_shape hwf]; exact hqg) (by simp [verC_len hwf.ver]) (by simp [hwf.sum])
    obtain ⟨e0, e1, e5⟩ := d0 h2 Keep.refl
    have hf' : ∀ g : Heap, h2.size ≤ g.size → ∀ b, g.size ≤ b → F b ∧ b ≠ h.size := fun g hg b hb => ⟨hf b (by have := kh.1; omega), by omega⟩
    simp only [fld_ptr, Mpu_some, Nat.zero_add, e0, e1, e5]
    have ho2 := hoi.avoid.keep k2 fun _ _ => id
    have hlb : (l ++ numB xs.length 8 ++ ((xs.take i).map itemB).flatten).length = l.length + 8 + (((xs.take i).map itemB).flatten).length := by simp only [List.length_append, numB_len]
    refine call_i (c_Out_Text ho2 (by omega) (hf' h2 (Nat.le_refl _))) ?_
    rintro _ h3 ⟨rfl, ho3, k3⟩
    obtain ⟨_, e1', e5'⟩ := d0 h3 k3
    simp only [Mre_cons, Mre_nil, e1', e5', true_and]
    refine call_i (c_ShowT hwf.ver (((hT.keep kh hG).keep k2 fun _ h => h.elim).keep k3 fun b h => hG b (h.imp (fun h => h.1) id))) ?_
    rintro _ h4 ⟨rfl, k4⟩
    have k24 : Keep (Wr (fun b => F b ∧ b ≠ h.size) p) h2 h4 := k3.trans (k4.mono fun _ _ h => h.elim)
    obtain ⟨_, _, e54⟩ := d0 h4 k24
    simp only [e54, true_and]
    refine call_i (c_Out_Text (ho3.keep k4 fun _ _ => id) (by rw [List.length_append, hlb, textB_len]; omega) (hf' h4 k24.1)) ?_
    rintro _ h5 ⟨rfl, ho5, k5⟩
    have k25 := k24.trans k5
    obtain ⟨_, _, e55⟩ := d0 h5 k25
    simp only [e55, true_and, hinc]
    refine call_i (c_Out_Hash ho5 hwf.sum (by rw [List.length_append, List.length_append, hlb, textB_len, textB_len]; omega) (hf' h5 k25.1)) ?_
    rintro _ h6 ⟨rfl, ho6, k6⟩
    refine hk _ _ ⟨i + 1, hlt', rfl, ?_, kh.trans ((k2.mono fun _ _ h => h.elim).trans ((k25.trans k6).mono fun b _ h => h.imp (fun h => h.1) id))⟩ (by show xs.length - (i + 1) < xs.length - i; omega)
    rw [htk]
    have := ho6.mono (fun b h => h.1) hoi.1
    simpa only [itemB, List.append_assoc] using this
  · rw [if_neg hlt]
    obtain rfl : i = xs.length := by omega
    rw [List.take_length] at hoi
    exact ⟨by trivial, by unfold putB; rw [← List.append_assoc]; exact hoi, kh⟩

end Go.Proofs.YtdmciknajaedmaaDoor
/- records in bytes, compared, copied; a history. -/
namespace Go.Proofs.YtdmciknajaedmaaDoor
open Go.X
set_option maxRecDepth 100000

theorem bld_Out : buildV prg T_wire_Out [] = some (.agg #[.slice none 0 0]) := by kernel_rfl
def recB (a : RecA) : List UInt8 := numB a.k 8 ++ putB a.bef ++ putB a.aft ++ numB a.s 8 ++ a.r

theorem c_RecBytes {P : Nat → Prop} {H : Heap} {vb va : Value} {a : RecA} (hb : Items P H vb a.bef) (ha : Items P H va a.aft) (hP : ∀ b, P b → b < H.size) (hr : a.r.length = 32)
    (hT : PowT H) (hl : (recB a).length ≤ 1099511627776) (hl1 : a.bef.length ≤ 1099511627776) (hl2 : a.aft.length ≤ 1099511627776) :
    HCalls prg f_history_Record_Bytes [.agg (recC a.k vb va a.s a.r).toArray] H fun u H' => Buf (fun b => H.size ≤ b ∧ b < H'.size) H' u (recB a) ∧ Keep (fun _ => False) H H' := by
  apply sh_history_Record_Bytes_calls
  unfold sh_history_Record_Bytes
  simp only [Cells_agg, Mnew_some, bld_Out, Mpu_some]
  have hlen : (recB a).length = 8 + (putB a.bef).length + (putB a.aft).length + 8 + 32 := by simp [recB, hr]; omega
  generalize hH1 : H.push (.cells (recC a.k vb va a.s a.r).toArray T_history_Record (0, 0)) = H1
  have k1 : Keep (fun _ => False) H H1 := by rw [← hH1]; exact Keep.push
  have hs1 : H1.size = H.size + 1 := by rw [← hH1]; simp
  have hq1 : H1[H.size]? = some (.cells (recC a.k vb va a.s a.r).toArray T_history_Record (0, 0)) := by rw [← hH1]; exact push_new
  generalize hH2 : H1.push (.cells #[.slice none 0 0] T_wire_Out (0, 0)) = H2
  have k2 : Keep (fun _ => False) H1 H2 := by rw [← hH2]; exact Keep.push
  have hs2 : H2.size = H1.size + 1 := by rw [← hH2]; simp
  have hp2 : H2[H1.size]? = some (.cells #[.slice none 0 0] T_wire_Out (0, 0)) := by rw [← hH2]; exact push_new
  generalize hpe : H1.size = p at *
  have ho2 : OutAt (p < ·) p H2 [] := ⟨Nat.lt_irrefl _, _, hp2, .inl ⟨rfl, rfl⟩⟩
  have hq : ∀ g, Keep (Wr (p < ·) p) H2 g → g[H.size]? = some (.cells (recC a.k vb va a.s a.r).toArray T_history_Record (0, 0)) := fun g kg => kg.at (k2.at hq1 id) (fun h => by rcases h with h | h <;> omega)
  have hff : ∀ g : Heap, H2.size ≤ g.size → ∀ b, g.size ≤ b → p < b := fun g hg b hb => by omega
  have hwg : ∀ b, Wr (p < ·) p b → NG ≤ b := fun b h => by have := hT.sz; rcases h with h | h <;> omega
  have ks : ∀ b, P b → ¬ Wr (p < ·) p b := fun b hb h => by have := hP b hb; rcases h with h | h <;> omega
  have d0 : ld1 H2 (Ptr H.size 0) = some (.int .i64 a.k) := ld_l (hq H2 Keep.refl) rfl
  simp only [fld_ptr, Mpu_some, Nat.zero_add, d0]
  refine call_i (c_Out_Int ho2 a.k (by simp) (hff H2 (Nat.le_refl _))) ?_
  rintro _ h3 ⟨rfl, ho3, k3⟩
  have d1 : ld1 h3 (Ptr H.size 1) = some vb := ld_l (hq h3 k3) rfl
  simp only [d1, Mpu_some]
  have hb3 := ((hb.keep k1 fun _ _ => id).keep k2 fun _ _ => id).keep k3 ks
  refine call_i (c_put ho3 hb3 (fun b hb => ⟨by have := hP b hb; have := k3.1; omega, ks b hb⟩) (((hT.keep k1 fun _ h => h.elim).keep k2 fun _ h => h.elim).keep k3 hwg) hwg (by simp; omega) hl1 (hff h3 k3.1)) ?_
  rintro _ h4 ⟨rfl, ho4, k4⟩
  have k24 := k3.trans k4
  have d2 : ld1 h4 (Ptr H.size 2) = some va := ld_l (hq h4 k24) rfl
  simp only [d2, Mpu_some]
  have ha4 := ((ha.keep k1 fun _ _ => id).keep k2 fun _ _ => id).keep k24 ks
  refine call_i (c_put ho4 ha4 (fun b hb => ⟨by have := hP b hb; have := k24.1; omega, ks b hb⟩) (((hT.keep k1 fun _ h => h.elim).keep k2 fun _ h => h.elim).keep k24 hwg) hwg (by simp; omega) hl2 (hff h4 k24.1)) ?_
  rintro _ h5 ⟨rfl, ho5, k5⟩
  have k25 := k24.trans k5
  have d3 : ld1 h5 (Ptr H.size 3) = some (.int .i64 a.s) := ld_l (hq h5 k25) rfl
  have d4 : ∀ g, Keep (Wr (p < ·) p) H2 g → ldN 32 g (Ptr H.size 4) = some (bv a.r) := fun g kg => ldN_mid (A := [Value.int .i64 a.k, vb, va, Value.int .i64 a.s]) (B := bcells a.r) (C := []) (by rw [List.append_nil]; exact hq g kg) rfl (by simp [hr])
  simp only [d3, d4 h5 k25, Mpu_some]
  refine call_i (c_Out_Int ho5 a.s (by simp; omega) (hff h5 k25.1)) ?_
  rintro _ h6 ⟨rfl, ho6, k6⟩
  have k26 := k25.trans k6
  simp only [d4 h6 k26, Mre_cons, Mre_nil, true_and]
  refine call_i (c_Out_Hash ho6 hr (by simp; omega) (hff h6 k26.1)) ?_
  rintro _ h7 ⟨rfl, ho7, k7⟩
  have k27 := k26.trans k7
  refine call_i (c_Out_All ho7 (by simp [hr]; omega) (hff h7 k27.1)) ?_
  rintro u h8 ⟨hbuf, k8⟩
  have hall : [] ++ numB a.k 8 ++ putB a.bef ++ putB a.aft ++ numB a.s 8 ++ a.r = recB a := by simp [recB]
  rw [hall] at hbuf
  refine ⟨?_, ?_⟩
  · rcases hbuf with h | ⟨b, o, c, cs, T, f, rfl, hf, hc, hb', hr'⟩
    · exact .inl h
    · exact .inr ⟨b, o, c, cs, T, f, rfl, ⟨by omega, lt_of hb'⟩, hc, hb', hr'⟩
  · refine ⟨by have := k1.1; have := k2.1; have := k27.1; have := k8.1; omega, fun i hi _ => ?_⟩
    have q27 := k27.1
    rw [k8.2 i (by omega) (by omega), k27.2 i (by omega) (fun h => by rcases h with h | h <;> omega), k2.2 i (by omega) id, k1.2 i hi id]

/- equal items -/
instance : DecidableEq Ver := fun a b => decidable_of_iff (a.p = b.p ∧ a.pre = b.pre) (by cases a; cases b; simp)
instance : DecidableEq Item := fun a b => decidable_of_iff (a.name = b.name ∧ a.ver = b.ver ∧ a.sum = b.sum) (by cases a; cases b; simp)
theorem eqCells_app {k1 k2 : List Nat} {a1 a2 b1 b2 : List Value} {p q : Bool} (ha : a1.length = k1.length) (hb : b1.length = k1.length) (h1 : eqCells k1 a1 b1 = some p) (h2 : eqCells k2 a2 b2 = some q) : eqCells (k1 ++ k2) (a1 ++ a2) (b1 ++ b2) = some (p && q) := by
  induction k1 generalizing a1 b1 p with
  | nil =>
    obtain rfl := List.length_eq_zero_iff.1 ha
    obtain rfl := List.length_eq_zero_iff.1 hb
    simp only [eqCells, Option.some.injEq] at h1
    subst h1; simpa using h2
  | cons k k1 ih =>
    match a1, b1, ha, hb with
    | a :: a1, b :: b1, ha, hb =>
      simp only [eqCells] at h1
      simp only [List.cons_append, eqCells]
      cases hx : eqCell k a b with
      | none => rw [hx] at h1; cases h1
      | some x =>
        cases hy : eqCells k1 a1 b1 with
        | none => rw [hx, hy] at h1; cases h1
        | some y =>
          rw [hx, hy] at h1
          simp only [Option.some.injEq] at h1
          rw [ih (by simpa using ha) (by simpa using hb) hy]
          simp [← h1, Bool.and_assoc]
theorem eqCells_ints {k : IntKind} {l m : List Int} (h : l.length = m.length) : eqCells (List.replicate l.length 0) (icells k l) (icells k m) = some (decide (l = m)) := by
  induction l generalizing m with
  | nil => cases m with
    | nil => rfl
    | cons b m => cases h
  | cons a l ih => cases m with
    | nil => cases h
    | cons b m =>
      have e : eqCell 0 (.int k a) (.int k b) = some (decide (a = b)) := by
        simp only [eqCell, if_true]; congr 1
      have e2 := ih (m := m) (by simpa using h)
      simp only [icells] at e2
      simp only [List.length_cons, List.replicate_succ, icells, List.map_cons, eqCells, e, e2]
      congr 1
      simp [Bool.eq_iff_iff]
theorem eqCells_str {a b : List UInt8} : eqCells [2] [str a] [str b] = some (decide (a = b)) := by
  simp only [eqCells, eqCell, toList_mk, Bool.and_true]
  congr 1; rw [Bool.eq_iff_iff]; simp
def kItem : List Nat := [2] ++ ((List.replicate 3 0 ++ [2]) ++ List.replicate 32 0)
theorem eqK_Item : eqK prg T_history_Item = .flat kItem := by kernel_rfl
theorem eqItem {x y : Item} (hx : x.wf) (hy : y.wf) : eqCells kItem (itemC x) (itemC y) = some (decide (x = y)) := by
  have h1 : eqCells (List.replicate 3 0) (icells .i64 x.ver.p) (icells .i64 y.ver.p) = some (decide (x.ver.p = y.ver.p)) := by
    have := eqCells_ints (k := .i64) (l := x.ver.p) (m := y.ver.p) (by rw [hx.ver.p3, hy.ver.p3])
    rwa [hx.ver.p3] at this
  have h2 : eqCells (List.replicate 32 0) (bcells x.sum) (bcells y.sum) = some (decide (x.sum = y.sum)) := by
    have := eqCells_bytes (l := x.sum) (m := y.sum) (by rw [hx.sum, hy.sum])
    rwa [hx.sum] at this
  have hv := eqCells_app (by simp [hx.ver.p3]) (by simp [hy.ver.p3]) h1 (eqCells_str (a := x.ver.pre) (b := y.ver.pre))
  have hvs := eqCells_app (by simp [hx.ver.p3]) (by simp [hy.ver.p3]) hv h2
  have := eqCells_app (k1 := [2]) rfl rfl (eqCells_str (a := x.name) (b := y.name)) hvs
  have e : itemC x = [str x.name] ++ ((icells .i64 x.ver.p ++ [str x.ver.pre]) ++ bcells x.sum) := rfl
  have e' : itemC y = [str y.name] ++ ((icells .i64 y.ver.p ++ [str y.ver.pre]) ++ bcells y.sum) := rfl
  rw [e, e']
  unfold kItem
  rw [this]
  congr 1
  rw [Bool.eq_iff_iff]
  obtain ⟨n, ⟨p, q⟩, s⟩ := x
  obtain ⟨n', ⟨p', q'⟩, s'⟩ := y
  simp

theorem c_EqItems {P Q : Nat → Prop} {H : Heap} {v w : Value} {xs ys : List Item} (hv : Items P H v xs) (hw : Items Q H w ys) (hl : xs.length ≤ 1099511627776) :
    HCalls prg f_slices_Equal_S_history_Item_history_Item [v, w] H fun u H' => u = .bool (decide (xs = ys)) ∧ H = H' := by
  apply sh_slices_Equal_S_history_Item_history_Item_calls
  unfold sh_slices_Equal_S_history_Item_history_Item
  simp only [hv.len, hw.len, Mpu_some, binV_int, intV, Mcd_bool, J1_eq]
  by_cases hne : xs.length = ys.length
  · rw [if_neg (by simp [hne])]
    refine L1_i (fun u h => ∃ i : Nat, i ≤ xs.length ∧ u = .int .i64 (i : Nat) ∧ xs.take i = ys.take i ∧ H = h) (fun u _ => match u with | .int _ t => xs.length - t.toNat | _ => 0) ⟨0, Nat.zero_le _, rfl, rfl, rfl⟩ ?_
    rintro _ _ ⟨i, hi, rfl, hti, rfl⟩ k hk
    simp only [binV_int, intV, Mpu_some, Mcd_bool, decide_eq_true_eq]
    by_cases hlt : (i : Int) < xs.length
    · rw [if_pos hlt]
      have hlt' : i < xs.length := by omega
      have hg : xs[i]? = some xs[i] := List.getElem?_eq_getElem hlt'
      have hg2 : ys[i]? = some ys[i] := List.getElem?_eq_getElem (by omega)
      obtain ⟨wf1, b1, o1, ix1, pt1, _⟩ := hv.at hg
      obtain ⟨wf2, b2, o2, ix2, pt2, _⟩ := hw.at hg2
      have hinc : IntKind.i64.wrap ((i : Int) + 1) = (i + 1 : Nat) := by rw [wrap_id] <;> omega
      have hcmp : binV (eqK prg T_history_Item) .neq (.agg (itemC xs[i]).toArray) (.agg (itemC ys[i]).toArray) = some (.bool (!decide (xs[i] = ys[i]))) := by
        rw [binV_agg_ne, eqK_Item]
        show (eqCells kItem (itemC xs[i]).toArray.toList (itemC ys[i]).toArray.toList).map (fun b => Value.bool (!b)) = _
        rw [List.toList_toArray, List.toList_toArray, eqItem wf1 wf2]; rfl
      simp only [ix1, ix2, Mpu_some, pt1.agg (itemC_len wf1), pt2.agg (itemC_len wf2), hcmp, Mcd_bool, hinc]
      by_cases he : xs[i] = ys[i]
      · rw [if_neg (by simp [he])]
        exact hk _ _ ⟨i + 1, hlt', rfl, by rw [List.take_add_one, List.take_add_one, hti, hg, hg2, he], rfl⟩ (by show xs.length - (i + 1) < xs.length - i; omega)
      · rw [if_pos (by simp [he])]
        refine ⟨?_, by trivial⟩
        have : xs ≠ ys := fun e => by subst e; exact he rfl
        simp [this]
    · rw [if_neg hlt]
      obtain rfl : i = xs.length := by omega
      rw [List.take_length, List.take_of_length_le (by omega)] at hti
      exact ⟨by simp [hti], by trivial⟩
  · rw [if_pos (by simp; omega)]
    have : xs ≠ ys := fun e => hne (by rw [e])
    exact ⟨by simp [this], by trivial⟩

theorem bslI0 : bslV prg T_history_Item 0 [] = some #[] := by kernel_rfl
def New (H H' : Heap) : Nat → Prop := fun b => H.size ≤ b ∧ b < H'.size
theorem c_CloneItems {P : Nat → Prop} {H : Heap} {v : Value} {xs : List Item} (hv : Items P H v xs) (hl : xs.length ≤ 1048576) :
    HCalls prg f_slices_Clone_S_history_Item_history_Item [v] H fun u H' => Items (New H H') H' u xs ∧ Keep (fun _ => False) H H' := by
  apply sh_slices_Clone_S_history_Item_history_Item_calls
  unfold sh_slices_Clone_S_history_Item_history_Item
  have hv1 := hv.1
  obtain ⟨⟨a, c, rfl, hc, hx⟩, hel, hone⟩ := hv1
  cases a with
  | none =>
    have hx0 : xs = [] := by
      rcases hx with h | ⟨b, o, e, _⟩
      · simpa using h
      · cases e
    subst hx0
    simp only [binV_slc_eq, eqV_slc_none, Option.map_some, Mpu_some, Mcd_bool, Option.isNone_none, if_true]
    exact ⟨⟨SlE.nil, fun x h => by cases h⟩, Keep.refl⟩
  | some a =>
    simp only [binV_slc_eq, eqV_slc_some, Option.map_some, Mpu_some, Mcd_bool, Bool.false_eq_true, if_false, bslI0, Mnews_some]
    have hk := (hv.keep (S := fun _ => False) (Keep.push (o := .cells #[] T_history_Item (0, 0))) fun _ _ => id).1
    refine BufE.app (F := (H.size ≤ ·)) (xs := []) (.fresh (cs := []) ⟨H.size, rfl, Nat.le_refl _, push_new⟩ (Nat.le_refl _) (by simp) (fun _ _ => by simp [thaw]) (by simp) (fun x h => by cases h) (fun x h => by cases h)) hk (by omega) (by simp; omega) (by simp) fun u H' hu k' => ?_
    have hsl := hu.sl
    rw [List.nil_append] at hsl
    refine ⟨⟨⟨?_, hsl.el, hsl.one⟩, hv.2⟩, ?_⟩
    · obtain ⟨a, c, hve, hc, hx⟩ := hsl.ex
      exact ⟨a, c, hve, hc, hx.imp id fun ⟨b, o, e, hb, hpt⟩ => ⟨b, o, e, ⟨hb, hpt.lt⟩, hpt⟩⟩
    · refine ⟨by have := k'.1; simp at this; omega, fun i hi _ => ?_⟩
      rw [k'.2 i (by simp; omega) (by omega), Array.getElem?_push, if_neg (by omega)]

theorem z_Record : ∃ z : List Value, zcells prg T_history_Record = some z.toArray ∧ z.length = 36 := by
  have h : (match zcells prg T_history_Record with | some z => z.size == 36 | none => false) = true := by kernel_rfl
  split at h
  · rename_i z hz; exact ⟨z.toList, by simp [hz], by simpa using h⟩
  · cases h
theorem st36 {H : Heap} {q : Nat} {z m : List Value} {T : TypeId} (hq : H[q]? = some (.cells z.toArray T (0, 0))) (hz : z.length = 36) (hm : m.length = 36) (h1 : ∀ c ∈ m, c.oneCell' = true) : stN 36 H (Ptr q 0) (.agg m.toArray) = some (H.setIfInBounds q (.cells m.toArray T (0, 0))) := by
  have := stN_mid (n := 36) (o := 0) (A := []) (B := z) (C := []) (B' := m) (by rw [List.nil_append, List.append_nil]; exact hq) rfl (by simp [hz]) hm (all_of h1)
  rw [List.nil_append, List.append_nil] at this
  exact this
theorem ld36 {H : Heap} {q : Nat} {m : List Value} {T : TypeId} {f : Nat × Nat} (hq : H[q]? = some (.cells m.toArray T f)) (hm : m.length = 36) : ldN 36 H (Ptr q 0) = some (.agg m.toArray) :=
  ldN_mid (A := []) (B := m) (C := []) (by rw [List.nil_append, List.append_nil]; exact hq) rfl (by simp [hm])

theorem c_copied {P : Nat → Prop} {H : Heap} {vb va : Value} {a : RecA} (hb : Items P H vb a.bef) (ha : Items P H va a.aft) (hP : ∀ b, P b → b < H.size) (hr : a.r.length = 32) (hl1 : a.bef.length ≤ 1048576) (hl2 : a.aft.length ≤ 1048576) :
    HCalls prg f_history_Record_copied [.agg (recC a.k vb va a.s a.r).toArray] H fun u H' => ∃ vb' va', u = .agg (recC a.k vb' va' a.s a.r).toArray ∧ Items (New H H') H' vb' a.bef ∧ Items (New H H') H' va' a.aft ∧ Keep (fun _ => False) H H' := by
  apply sh_history_Record_copied_calls
  unfold sh_history_Record_copied
  obtain ⟨z, hz, hzl⟩ := z_Record
  simp only [Cells_agg, Mnew_some, hz]
  generalize hH1 : H.push (.cells (recC a.k vb va a.s a.r).toArray T_history_Record (0, 0)) = H1
  have k1 : Keep (fun _ => False) H H1 := by rw [← hH1]; exact Keep.push
  have hs1 : H1.size = H.size + 1 := by rw [← hH1]; simp
  have hq1 : H1[H.size]? = some (.cells (recC a.k vb va a.s a.r).toArray T_history_Record (0, 0)) := by rw [← hH1]; exact push_new
  generalize hH2 : H1.push (.cells z.toArray T_history_Record (0, 0)) = H2
  have k2 : Keep (fun _ => False) H1 H2 := by rw [← hH2]; exact Keep.push
  have hs2 : H2.size = H1.size + 1 := by rw [← hH2]; simp
  have hz2 : H2[H1.size]? = some (.cells z.toArray T_history_Record (0, 0)) := by rw [← hH2]; exact push_new
  have hq2 := k2.at hq1 id
  have d1 : ld1 H2 (Ptr H.size 1) = some vb := ld_l hq2 rfl
  have d2 : ld1 H2 (Ptr H.size 2) = some va := ld_l hq2 rfl
  simp only [fld_ptr, Mpu_some, Nat.zero_add, d1, d2]
  have hb2 := (hb.keep k1 fun _ _ => id).keep k2 fun _ _ => id
  have ha2 := (ha.keep k1 fun _ _ => id).keep k2 fun _ _ => id
  refine call_i (c_CloneItems hb2 hl1) ?_
  rintro vb' H3 ⟨hb3, k3⟩
  have hq3 := k3.at hq2 id
  have d23 : ld1 H3 (Ptr H.size 2) = some va := ld_l hq3 rfl
  simp only [d23, Mre_cons, Mre_nil, true_and]
  refine call_i (c_CloneItems (ha2.keep k3 fun _ _ => id) hl2) ?_
  rintro va' H4 ⟨ha4, k4⟩
  have hq4 := k4.at hq3 id
  have hb4 := hb3.keep k4 fun _ _ => id
  rw [st_l hq4 (i := 1) (by simp [recC]) hb4.one, Mwr_some, st_l (set_self hq4) (i := 2) (by simp [recC]) ha4.one, Mwr_some]
  have hset : ((recC a.k vb va a.s a.r).set 1 vb').set 2 va' = recC a.k vb' va' a.s a.r := rfl
  rw [hset]
  have hq6 := set_self (y := .cells (recC a.k vb' va' a.s a.r).toArray T_history_Record (0, 0)) (set_self (y := .cells ((recC a.k vb va a.s a.r).set 1 vb').toArray T_history_Record (0, 0)) hq4)
  have hone := recC_one (k := a.k) (s := a.s) (r := a.r) hb4 ha4
  rw [ld36 hq6 (recC_len hr), Mpu_some]
  have hz6 := set_other (y := .cells (recC a.k vb' va' a.s a.r).toArray T_history_Record (0, 0)) (set_other (y := .cells ((recC a.k vb va a.s a.r).set 1 vb').toArray T_history_Record (0, 0)) (k4.at (k3.at hz2 id) id) (show H.size ≠ H1.size by omega)) (show H.size ≠ H1.size by omega)
  rw [st36 hz6 hzl (recC_len hr) hone, Mwr_some, ld36 (set_self hz6) (recC_len hr), Mpu_some]
  have kset : Keep (fun b => b = H.size ∨ b = H1.size) H4 (((H4.setIfInBounds H.size (.cells ((recC a.k vb va a.s a.r).set 1 vb').toArray T_history_Record (0, 0))).setIfInBounds H.size (.cells (recC a.k vb' va' a.s a.r).toArray T_history_Record (0, 0))).setIfInBounds H1.size (.cells (recC a.k vb' va' a.s a.r).toArray T_history_Record (0, 0))) :=
    ((Keep.set (.inl rfl)).trans (Keep.set (.inl rfl))).trans (Keep.set (.inr rfl))
  have q3 := k3.1
  have q4 := k4.1
  have mono : ∀ {P : Nat → Prop} {h : Heap} {v : Value} {xs : List Item} {Q : Nat → Prop}, Items P h v xs → (∀ b, P b → Q b) → Items Q h v xs := fun h k => ⟨h.1.mono k, h.2⟩
  refine ⟨vb', va', rfl, mono (hb4.keep kset fun b hb h => ?_) fun b hb => ⟨by have := hb.1; omega, by have := hb.2; simp; omega⟩, mono (ha4.keep kset fun b hb h => ?_) fun b hb => ⟨by have := hb.1; omega, by have := hb.2; simp; omega⟩, ?_⟩
  · have := hb.1; rcases h with h | h <;> omega
  · have := hb.1; rcases h with h | h <;> omega
  · refine ⟨by simp; omega, fun i hi _ => ?_⟩
    rw [kset.2 i (by omega) (by omega), k4.2 i (by omega) id, k3.2 i (by omega) id, k2.2 i (by omega) id, k1.2 i hi id]

end Go.Proofs.YtdmciknajaedmaaDoor
/- a history: made, asked, appended to. -/
namespace Go.Proofs.YtdmciknajaedmaaDoor
open Go.X
set_option maxRecDepth 100000

theorem Items.mono {P Q : Nat → Prop} {H : Heap} {v : Value} {xs : List Item} (h : Items P H v xs) (k : ∀ b, P b → Q b) : Items Q H v xs := ⟨h.1.mono k, h.2⟩
theorem BufE.re {n : Nat} {F G : Nat → Prop} {H : Heap} {v : Value} {xs : List (List Value)} (h : BufE n F H v xs) (k : ∀ b, b < H.size → F b → G b) : BufE n G H v xs := by
  obtain ⟨h1, h2, h | ⟨b, o, c, cs, T, f, rfl, hf, hc, hb, hr⟩⟩ := h
  · exact ⟨h1, h2, .inl h⟩
  · exact ⟨h1, h2, .inr ⟨b, o, c, cs, T, f, rfl, k b (lt_of hb) hf, hc, hb, hr⟩⟩

def rawC (a : RecA) (x : Value × Value) : List Value := recC a.k x.1 x.2 a.s a.r
/-- the items' lists of a record of the history -/
def RawOk (F : Nat → Prop) (H : Heap) (a : RecA) (x : Value × Value) : Prop := a.r.length = 32 ∧ Items F H x.1 a.bef ∧ Items F H x.2 a.aft ∧ a.bef.length ≤ 1048576 ∧ a.aft.length ≤ 1048576
theorem RawOk.keep {F S : Nat → Prop} {H H' : Heap} {a : RecA} {x : Value × Value} (h : RawOk F H a x) (k : Keep S H H') (hs : ∀ b, F b → ¬ S b) : RawOk F H' a x := ⟨h.1, h.2.1.keep k hs, h.2.2.1.keep k hs, h.2.2.2⟩
theorem RawOk.mono {F G : Nat → Prop} {H : Heap} {a : RecA} {x : Value × Value} (h : RawOk F H a x) (k : ∀ b, F b → G b) : RawOk G H a x := ⟨h.1, h.2.1.mono k, h.2.2.1.mono k, h.2.2.2⟩

theorem Keep.back {S : Nat → Prop} {H H' : Heap} (h : Keep (fun _ => False) H H') {b : Nat} (hb : b < H.size) : H[b]? = H'[b]? := (h.2 b hb id).symm
theorem BufE.keepBack {n : Nat} {F : Nat → Prop} {H H' : Heap} {v : Value} {xs : List (List Value)} (h : BufE n F H' v xs) (k : Keep (fun _ => False) H H') (hs : ∀ b, F b → b < H.size) : BufE n F H v xs := by
  obtain ⟨h1, h2, h | ⟨b, o, c, cs, T, f, rfl, hf, hc, hb, hr⟩⟩ := h
  · exact ⟨h1, h2, .inl h⟩
  · exact ⟨h1, h2, .inr ⟨b, o, c, cs, T, f, rfl, hf, hc, by rw [← k.2 b (hs b hf) id]; exact hb, hr⟩⟩
theorem SlE.keepBack {n : Nat} {P : Nat → Prop} {H H' : Heap} {v : Value} {xs : List (List Value)} (h : SlE n P H' v xs) (k : Keep (fun _ => False) H H') (hs : ∀ b, P b → b < H.size) : SlE n P H v xs := by
  obtain ⟨⟨a, c, hv, hc, hx⟩, h2, h3⟩ := h
  refine ⟨⟨a, c, hv, hc, hx.imp id ?_⟩, h2, h3⟩
  rintro ⟨b, o, rfl, hP, cs, T, f, hb, h4, h5⟩
  exact ⟨b, o, rfl, hP, cs, T, f, by rw [← k.2 b (hs b hP) id]; exact hb, h4, h5⟩
theorem Items.keepBack {P : Nat → Prop} {H H' : Heap} {v : Value} {xs : List Item} (h : Items P H' v xs) (k : Keep (fun _ => False) H H') (hs : ∀ b, P b → b < H.size) : Items P H v xs := ⟨SlE.keepBack h.1 k hs, h.2⟩
theorem RawOk.back {F S : Nat → Prop} {H h4 h16 : Heap} {a : RecA} {x : Value × Value} (h : RawOk F h4 a x) (k : Keep (fun _ => False) H h4) (hs : ∀ b, F b → b < H.size) (k2 : Keep S H h16) (hs2 : ∀ b, F b → ¬ S b) : RawOk F h16 a x :=
  ⟨h.1, (Items.keepBack h.2.1 k hs).keep k2 hs2, (Items.keepBack h.2.2.1 k hs).keep k2 hs2, h.2.2.2⟩

/-- the history at block p: its records' row in blocks of Fr, the chain's in Fc, the items' in Fi -/
structure HistAt (p : Nat) (Fr Fc Fi : Nat → Prop) (H : Heap) (rs : List RecA) (ch : List (List UInt8)) : Prop where
  own : ∀ b, (Fr b → NG ≤ b ∧ b < H.size ∧ b ≠ p ∧ ¬ Fc b ∧ ¬ Fi b) ∧ (Fc b → NG ≤ b ∧ b < H.size ∧ b ≠ p ∧ ¬ Fi b) ∧ (Fi b → NG ≤ b ∧ b < H.size ∧ b ≠ p)
  ng : NG ≤ p
  len : ch.length = rs.length
  few : rs.length ≤ 4096
  c32 : ∀ c ∈ ch, c.length = 32
  blk : ∃ vr vc, ∃ xs : List (Value × Value), H[p]? = some (.cells #[vr, vc] T_history_History (0, 0)) ∧ BufE 36 Fr H vr (List.zipWith rawC rs xs) ∧ BufE 32 Fc H vc (ch.map bcells) ∧ xs.length = rs.length ∧
    ∀ (i : Nat) a x, rs[i]? = some a → xs[i]? = some x → RawOk Fi H a x
/-- all blocks of a history -/
def HB (p : Nat) (Fr Fc Fi : Nat → Prop) : Nat → Prop := fun b => b = p ∨ Fr b ∨ Fc b ∨ Fi b
theorem HistAt.keep {p : Nat} {Fr Fc Fi S : Nat → Prop} {H H' : Heap} {rs : List RecA} {ch : List (List UInt8)} (h : HistAt p Fr Fc Fi H rs ch) (k : Keep S H H') (hs : ∀ b, HB p Fr Fc Fi b → ¬ S b) : HistAt p Fr Fc Fi H' rs ch := by
  obtain ⟨h1, h2, h3, h4, h5, vr, vc, xs, hp, hr, hc, hl, hx⟩ := h
  refine ⟨fun b => ⟨fun hb => ?_, fun hb => ?_, fun hb => ?_⟩, h2, h3, h4, h5, vr, vc, xs, k.at hp (hs p (.inl rfl)), hr.keep k fun b hb => hs b (.inr (.inl hb)), hc.keep k fun b hb => hs b (.inr (.inr (.inl hb))), hl, fun i a x ha hxx => (hx i a x ha hxx).keep k fun b hb => hs b (.inr (.inr (.inr hb)))⟩
  · obtain ⟨a, b', c⟩ := (h1 b).1 hb; exact ⟨a, Nat.lt_of_lt_of_le b' k.1, c⟩
  · obtain ⟨a, b', c⟩ := (h1 b).2.1 hb; exact ⟨a, Nat.lt_of_lt_of_le b' k.1, c⟩
  · obtain ⟨a, b', c⟩ := (h1 b).2.2 hb; exact ⟨a, Nat.lt_of_lt_of_le b' k.1, c⟩
theorem HistAt.lt {p : Nat} {Fr Fc Fi : Nat → Prop} {H : Heap} {rs : List RecA} {ch : List (List UInt8)} (h : HistAt p Fr Fc Fi H rs ch) : ∀ b, HB p Fr Fc Fi b → NG ≤ b ∧ b < H.size := by
  obtain ⟨h1, h2, h3, h4, h5, vr, vc, xs, hp, hr, hc, hl, hx⟩ := h
  rintro b (rfl | hb | hb | hb)
  · exact ⟨h2, lt_of hp⟩
  · exact ⟨((h1 b).1 hb).1, ((h1 b).1 hb).2.1⟩
  · exact ⟨((h1 b).2.1 hb).1, ((h1 b).2.1 hb).2.1⟩
  · exact ⟨((h1 b).2.2 hb).1, ((h1 b).2.2 hb).2.1⟩

theorem bld_HistoryN : buildV prg T_history_History [] = some (.agg #[.slice none 0 0, .slice none 0 0]) := by kernel_rfl
theorem c_HistNew {H : Heap} (hT : NG ≤ H.size) : HCalls prg f_history_New [] H fun u H' => u = Ptr H.size 0 ∧ HistAt H.size (fun _ => False) (fun _ => False) (fun _ => False) H' [] [] ∧ Keep (fun _ => False) H H' := by
  apply sh_history_New_calls
  unfold sh_history_New
  simp only [bld_HistoryN, Mpu_some, Mnew_some, Cells_agg]
  exact ⟨by trivial, ⟨fun b => ⟨fun h => h.elim, fun h => h.elim, fun h => h.elim⟩, hT, rfl, by simp, fun c h => (by cases h), _, _, [], push_new, BufE.nil, BufE.nil, rfl, fun i a x ha => (by simp at ha)⟩, Keep.push⟩

section
variable {p : Nat} {Fr Fc Fi : Nat → Prop} {H : Heap} {rs : List RecA} {ch : List (List UInt8)}
theorem c_HistLen (h : HistAt p Fr Fc Fi H rs ch) : HCalls prg f_history_History_Len [Ptr p 0] H fun u H' => u = .int .i64 rs.length ∧ H = H' := by
  apply sh_history_History_Len_calls
  unfold sh_history_History_Len
  obtain ⟨vr, vc, xs, hp, hr, hc, hl, hx⟩ := h.blk
  have d0 : ld1 H (Ptr p 0) = some vr := by rw [ld1_at hp]; rfl
  have e := hr.sl.len
  have hz : (List.zipWith rawC rs xs).length = rs.length := by simp [hl]
  rw [hz] at e
  simp only [nck_ptr, fld_ptr, Mpu_some, Nat.zero_add, d0, e]
  exact ⟨by trivial, by trivial⟩

def topF (ch : List (List UInt8)) : List UInt8 := ch.getLast?.getD zeroH
theorem topF_len (h : ∀ c ∈ ch, c.length = 32) : (topF ch).length = 32 := by
  unfold topF
  cases hg : ch.getLast? with
  | none => rfl
  | some c => exact h c (List.mem_of_getLast? hg)
theorem bld_Hash00 : buildV prg T_sha_Hash [] = some (bv zeroH) := by kernel_rfl
theorem c_HistTop (h : HistAt p Fr Fc Fi H rs ch) : HCalls prg f_history_History_Top [Ptr p 0] H fun u H' => u = bv (topF ch) ∧ Keep (fun _ => False) H H' := by
  apply sh_history_History_Top_calls
  unfold sh_history_History_Top
  have kp : Keep (fun _ => False) H (H.push (.cells (bcells zeroH).toArray T_sha_Hash (0, 0))) := Keep.push
  have hn : (H.push (.cells (bcells zeroH).toArray T_sha_Hash (0, 0)))[H.size]? = some (.cells (bcells zeroH).toArray T_sha_Hash (0, 0)) := push_new
  obtain ⟨vr, vc, xs, hp, hr, hc, hl, hx⟩ := (h.keep kp fun _ _ => id).blk
  have hlen := h.len
  have hfew := h.few
  have hc32 := h.c32
  have d1 : ld1 (H.push (.cells (bcells zeroH).toArray T_sha_Hash (0, 0))) (Ptr p 1) = some vc := by rw [ld1_at hp]; rfl
  have e := hc.sl.len
  rw [List.length_map] at e
  simp only [z_Hash, Mnew_some, nck_ptr, fld_ptr, Mpu_some, Nat.zero_add, d1, e, binV_int, intV, Mcd_bool]
  have fin : ∀ m : List UInt8, m.length = 32 → Keep (fun _ => False) H ((H.push (.cells (bcells zeroH).toArray T_sha_Hash (0, 0))).setIfInBounds H.size (.cells (bcells m).toArray T_sha_Hash (0, 0))) := fun m _ => by
    refine ⟨by simp, fun i hi _ => ?_⟩
    rw [Array.getElem?_setIfInBounds, if_neg (by omega), Array.getElem?_push, if_neg (by omega)]
  by_cases h0 : ch.length = 0
  · have : ch = [] := List.length_eq_zero_iff.1 h0
    subst this
    rw [if_pos (by rfl)]
    simp only [bld_Hash00, Mpu_some, stN_bytes hn (n := 32) (l := zeroH) (m := zeroH) rfl rfl, Mwr_some, ldN_bytes (set_self hn) (n := 32) (l := zeroH) rfl]
    exact ⟨by trivial, fin _ rfl⟩
  · rw [if_neg (by rw [beq_iff_eq]; omega)]
    have w1 : IntKind.i64.wrap ((ch.length : Int) - 1) = ((ch.length - 1 : Nat) : Int) := by rw [wrap_id] <;> omega
    have hg : ch[ch.length - 1]? = some ch[ch.length - 1] := List.getElem?_eq_getElem (by omega)
    have ht : topF ch = ch[ch.length - 1] := by unfold topF; rw [List.getLast?_eq_getElem?, hg]; rfl
    have h32 := hc32 ch[ch.length - 1] (List.getElem_mem _)
    obtain ⟨b, o, hix, hpt, _⟩ := hc.sl.at (i := ch.length - 1) (x := bcells ch[ch.length - 1]) (by simp [hg])
    simp only [w1, hix, Mpu_some, hpt.agg (n := 32) (by simp [h32])]
    have hst : stN 32 (H.push (.cells (bcells zeroH).toArray T_sha_Hash (0, 0))) (.pointer (some ⟨H.size, 0, none⟩)) (.agg (bcells ch[ch.length - 1]).toArray) = some _ := stN_bytes hn (n := 32) (m := ch[ch.length - 1]) rfl h32
    rw [hst, Mwr_some, ldN_bytes (set_self hn) (n := 32) h32, Mpu_some]
    exact ⟨by rw [ht], fin _ h32⟩

theorem bld_Rec0 : buildV prg T_history_Record [] = some (.agg (recC 0 (.slice none 0 0) (.slice none 0 0) 0 zeroH).toArray) := by kernel_rfl
def recZ : RecA := ⟨0, [], [], 0, zeroH⟩
theorem items0 {P : Nat → Prop} {H : Heap} : Items P H (.slice none 0 0) [] := ⟨SlE.nil, fun x h => by cases h⟩

theorem c_HistAt (h : HistAt p Fr Fc Fi H rs ch) (i : Int) (hi : -9223372036854775808 ≤ i ∧ i ≤ 9223372036854775807) :
    HCalls prg f_history_History_At [Ptr p 0, .int .i64 i] H fun u H' => Keep (fun _ => False) H H' ∧
      ((¬ (0 ≤ i ∧ i < rs.length) ∧ u = .tuple #[.agg (recC 0 (.slice none 0 0) (.slice none 0 0) 0 zeroH).toArray, .bool false]) ∨
       ∃ a vb va, rs[i.toNat]? = some a ∧ 0 ≤ i ∧ u = .tuple #[.agg (recC a.k vb va a.s a.r).toArray, .bool true] ∧ RawOk (New H H') H' a (vb, va)) := by
  apply sh_history_History_At_calls
  unfold sh_history_History_At
  obtain ⟨z, hz, hzl⟩ := z_Record
  generalize hH1 : H.push (.cells z.toArray T_history_Record (0, 0)) = H1
  have k1 : Keep (fun _ => False) H H1 := by rw [← hH1]; exact Keep.push
  have hs1 : H1.size = H.size + 1 := by rw [← hH1]; simp
  have hn : H1[H.size]? = some (.cells z.toArray T_history_Record (0, 0)) := by rw [← hH1]; exact push_new
  have h1 := h.keep k1 fun _ _ => id
  obtain ⟨vr, vc, xs, hp, hr, hc, hl, hx⟩ := h1.blk
  have d0 : ld1 H1 (Ptr p 0) = some vr := by rw [ld1_at hp]; rfl
  have e := hr.sl.len
  have hzl2 : (List.zipWith rawC rs xs).length = rs.length := by simp [hl]
  rw [hzl2] at e
  simp only [hz, Mnew_some, hH1, nck_ptr, fld_ptr, Mpu_some, Nat.zero_add, d0, e, binV_int, intV, J1_eq, Mif_bool, decide_eq_true_eq]
  have bad : ¬ (0 ≤ i ∧ i < rs.length) → Mpu (buildV prg T_history_Record []) fun t17 => Mwr (stN 36 H1 (.pointer (some ⟨H.size, 0, none⟩)) t17) fun h4 => Mpu (ldN 36 h4 (.pointer (some ⟨H.size, 0, none⟩))) fun r5 =>
      Keep (fun _ => False) H h4 ∧ ((¬ (0 ≤ i ∧ i < rs.length) ∧ (Value.tuple #[r5, .bool false]) = .tuple #[.agg (recC 0 (.slice none 0 0) (.slice none 0 0) 0 zeroH).toArray, .bool false]) ∨
       ∃ a vb va, rs[i.toNat]? = some a ∧ 0 ≤ i ∧ (Value.tuple #[r5, .bool false]) = .tuple #[.agg (recC a.k vb va a.s a.r).toArray, .bool true] ∧ RawOk (New H h4) h4 a (vb, va)) := fun hbad => by
    have hz36 : (recC 0 (.slice none 0 0) (.slice none 0 0) 0 zeroH).length = 36 := recC_len rfl
    rw [bld_Rec0, Mpu_some, st36 hn hzl hz36 (recC_one (P := fun _ => False) (Q := fun _ => False) (H := H) (H2 := H) items0 items0), Mwr_some, ld36 (set_self hn) hz36, Mpu_some]
    refine ⟨⟨by simp; omega, fun j hj _ => ?_⟩, .inl ⟨hbad, rfl⟩⟩
    rw [Array.getElem?_setIfInBounds, if_neg (by omega), k1.2 j hj id]
  by_cases hneg : i < 0
  · simp only [hneg, decide_true, Bool.true_eq_false, if_false, pickV_bool, if_true, Mpu_some, Mcd_bool]
    exact bad (by omega)
  · simp only [hneg, decide_false, if_true, pickV_bool, Bool.false_eq_true, if_false, Mpu_some, Mcd_bool, decide_eq_true_eq]
    by_cases hge : i ≥ (rs.length : Int)
    · rw [if_pos hge]
      exact bad (by omega)
    · rw [if_neg hge]
      have hlt : i.toNat < rs.length := by omega
      have hg : rs[i.toNat]? = some rs[i.toNat] := List.getElem?_eq_getElem hlt
      have hgx : xs[i.toNat]? = some xs[i.toNat] := List.getElem?_eq_getElem (by omega)
      have hraw := hx _ _ _ hg hgx
      have hgz : (List.zipWith rawC rs xs)[i.toNat]? = some (rawC rs[i.toNat] xs[i.toNat]) := by rw [List.getElem?_zipWith, hg, hgx]
      obtain ⟨b, o, hix, hpt, _⟩ := hr.sl.at hgz
      have hii : ((i.toNat : Nat) : Int) = i := by omega
      rw [hii] at hix
      generalize rs[i.toNat] = a at *
      generalize xs[i.toNat] = x at *
      obtain ⟨r32, ib, ia, l1, l2⟩ := hraw
      simp only [hix, Mpu_some, hpt.agg (n := 36) (recC_len r32)]
      have hlts := h1.lt
      refine call_i (c_copied ib ia (fun b hb => (hlts b (.inr (.inr (.inr hb)))).2) r32 l1 l2) ?_
      rintro _ h6 ⟨vb, va, rfl, ib6, ia6, k6⟩
      have hn6 := k6.at hn id
      rw [st36 hn6 hzl (recC_len r32) (recC_one ib6 ia6), Mwr_some, ld36 (set_self hn6) (recC_len r32), Mpu_some]
      have ks : Keep (· = H.size) h6 (h6.setIfInBounds H.size (.cells (recC a.k vb va a.s a.r).toArray T_history_Record (0, 0))) := Keep.set rfl
      refine ⟨⟨by have := k6.1; simp; omega, fun j hj _ => ?_⟩, .inr ⟨a, vb, va, hg, by omega, rfl, r32, (ib6.keep ks fun b hb e => ?_).mono fun b hb => ⟨?_, ?_⟩, (ia6.keep ks fun b hb e => ?_).mono fun b hb => ⟨?_, ?_⟩, l1, l2⟩⟩
      · rw [Array.getElem?_setIfInBounds, if_neg (by omega), k6.2 j (by omega) id, k1.2 j hj id]
      all_goals (have q1 := hb.1; have q2 := hb.2; first | omega | (simp only [Array.size_setIfInBounds]; omega) | skip)

def nowF (rs : List RecA) : List Item := (rs.getLast?.map (·.aft)).getD []
theorem c_HistNow (h : HistAt p Fr Fc Fi H rs ch) : HCalls prg f_history_History_Now [Ptr p 0] H fun u H' => Items (New H H') H' u (nowF rs) ∧ Keep (fun _ => False) H H' := by
  apply sh_history_History_Now_calls
  unfold sh_history_History_Now
  have hfew := h.few
  refine call_i (c_HistLen h) ?_
  rintro _ _ ⟨rfl, rfl⟩
  have w1 : IntKind.i64.wrap ((rs.length : Int) - 1) = (rs.length : Int) - 1 := by rw [wrap_id] <;> omega
  simp only [binV_int, intV, Mpu_some, w1]
  refine call_i (c_HistAt h _ (by omega)) ?_
  rintro u h2 ⟨k2, hu⟩
  obtain ⟨z, hz, hzl⟩ := z_Record
  have key : ∀ (k s : Int) (vb va : Value) (r : List UInt8) (ok : Bool), r.length = 32 → (∀ c ∈ recC k vb va s r, c.oneCell' = true) → u = .tuple #[.agg (recC k vb va s r).toArray, .bool ok] → Items (New H h2) h2 va (nowF rs) →
      Mpu (extV 0 u) fun t11 => Mpu (extV 1 u) fun t12 => Mnew h2 T_history_Record (zcells prg T_history_Record) fun t3 h3 => Mwr (stN 36 h3 t3 t11) fun h4 => Mpu (fld 2 t3) fun t13 => Mpu (ld1 h4 t13) fun t14 => Items (New H h4) h4 t14 (nowF rs) ∧ Keep (fun _ => False) H h4 := by
    rintro k s vb va r ok hr hone rfl hit
    have hn : (h2.push (.cells z.toArray T_history_Record (0, 0)))[h2.size]? = some (.cells z.toArray T_history_Record (0, 0)) := push_new
    simp only [extV_tuple, List.getElem?_toArray, List.getElem?_cons_succ, List.getElem?_cons_zero, Mpu_some, hz, Mnew_some]
    rw [st36 hn hzl (recC_len hr) hone, Mwr_some]
    have hq := set_self (y := .cells (recC k vb va s r).toArray T_history_Record (0, 0)) hn
    have d2 : ld1 ((h2.push (.cells z.toArray T_history_Record (0, 0))).setIfInBounds h2.size (.cells (recC k vb va s r).toArray T_history_Record (0, 0))) (Ptr h2.size 2) = some va := ld_l hq rfl
    simp only [fld_ptr, Mpu_some, Nat.zero_add, d2]
    have k3 : Keep (fun _ => False) h2 ((h2.push (.cells z.toArray T_history_Record (0, 0))).setIfInBounds h2.size (.cells (recC k vb va s r).toArray T_history_Record (0, 0))) := by
      refine ⟨by simp, fun i hi _ => ?_⟩
      rw [Array.getElem?_setIfInBounds, if_neg (by omega), Array.getElem?_push, if_neg (by omega)]
    exact ⟨(hit.keep k3 fun _ _ => id).mono fun b hb => ⟨hb.1, by have := hb.2; simp; omega⟩, k2.trans k3⟩
  rcases hu with ⟨hbad, hu⟩ | ⟨a, vb, va, hg, h0, hu, hraw⟩
  · have : rs = [] := List.length_eq_zero_iff.1 (by omega)
    subst this
    exact key _ _ _ _ _ _ rfl (recC_one (P := fun _ => False) (Q := fun _ => False) (H := H) (H2 := H) items0 items0) hu items0
  · have hnow : nowF rs = a.aft := by
      have e : ((rs.length : Int) - 1).toNat = rs.length - 1 := by omega
      rw [e] at hg
      unfold nowF; rw [List.getLast?_eq_getElem?, hg]; rfl
    obtain ⟨r32, ib, ia, _⟩ := hraw
    exact key _ _ _ _ _ _ r32 (recC_one ib ia) hu (by rw [hnow]; exact ia)
end

end Go.Proofs.YtdmciknajaedmaaDoor
/- a history: one record more. -/
namespace Go.Proofs.YtdmciknajaedmaaDoor
open Go.X
set_option maxRecDepth 100000

theorem bsl_one {P : Program} {e : TypeId} {n : Nat} {z : Array Value} {v : Value} (hn : P.cellsOf e = n) (h0 : 0 < n) (h1 : n ≤ 16777216) (hz : zcells P e = some z) (hzs : z.size = n) (hv : v.cells.size = n) : bslV P e 1 [(0, v)] = some v.cells := by
  unfold bslV
  rw [hn, if_neg (by omega), hz, Option.bind_some, if_pos hzs]
  have hs : (zrow z (1 * n)).size = n := by simp [zrow]
  have hspl : spl (zrow z (1 * n)) (0 * n) v.cells = v.cells := by
    unfold spl
    rw [Nat.zero_mul, Nat.zero_add, hv]
    apply Array.ext'
    have hs' : (zrow z n).size = n := by simpa using hs
    simp [hs']
  simp only [bfill]
  rw [if_pos ⟨hv, by rw [hs]; omega⟩, hspl]
theorem c_Hash : prg.cellsOf T_sha_Hash = 32 := by kernel_rfl
theorem c_Rec : prg.cellsOf T_history_Record = 36 := by kernel_rfl

section
variable {p : Nat} {Fr Fc Fi P : Nat → Prop} {H : Heap} {rs : List RecA} {ch : List (List UInt8)} {vb va : Value} {a : RecA}
def appOk (rs : List RecA) (a : RecA) : Bool := recOk a && decide (a.bef = nowF rs)
def chainF (ch : List (List UInt8)) (a : RecA) : List UInt8 := shaF (7 :: (topF ch ++ recB a))

def AppR (p : Nat) (Fr Fc Fi : Nat → Prop) (H : Heap) (rs : List RecA) (ch : List (List UInt8)) (a : RecA) (u : Value) (H' : Heap) : Prop :=
  (appOk rs a = false ∧ u = .int .i64 10 ∧ Keep (fun _ => False) H H') ∨
  (appOk rs a = true ∧ rs.length = 4096 ∧ u = .int .i64 12 ∧ Keep (fun _ => False) H H') ∨
  (appOk rs a = true ∧ rs.length ≠ 4096 ∧ u = .int .i64 0 ∧ Keep (HB p Fr Fc Fi) H H' ∧ ∃ Fr' Fc' Fi', HistAt p Fr' Fc' Fi' H' (rs ++ [a]) (ch ++ [chainF ch a]) ∧ ∀ b, HB p Fr' Fc' Fi' b → HB p Fr Fc Fi b ∨ H.size ≤ b)
/-- the items that were there are not written to -/
def AppS (p : Nat) (Fr Fc Fi : Nat → Prop) (H : Heap) (rs : List RecA) (ch : List (List UInt8)) (a : RecA) (u : Value) (H' : Heap) : Prop :=
  (appOk rs a = false ∧ u = .int .i64 10 ∧ Keep (fun _ => False) H H') ∨
  (appOk rs a = true ∧ rs.length = 4096 ∧ u = .int .i64 12 ∧ Keep (fun _ => False) H H') ∨
  (appOk rs a = true ∧ rs.length ≠ 4096 ∧ u = .int .i64 0 ∧ Keep (fun b => b = p ∨ Fr b ∨ Fc b) H H' ∧ ∃ Fr' Fc' Fi', HistAt p Fr' Fc' Fi' H' (rs ++ [a]) (ch ++ [chainF ch a]) ∧ (∀ b, Fr' b ∨ Fc' b → Fr b ∨ Fc b ∨ H.size ≤ b) ∧ ∀ b, Fi' b → Fi b ∨ H.size ≤ b)
theorem c_AppendS (h : HistAt p Fr Fc Fi H rs ch) (hT : ShaT H) (hb : Items P H vb a.bef) (ha : Items P H va a.aft) (hP : ∀ b, P b → b < H.size ∧ ¬ HB p Fr Fc Fi b) (hr : a.r.length = 32)
    (hW : PowT H) (hl : (recB a).length ≤ 1099511627776) (hl1 : a.bef.length ≤ 1048576) (hl2 : a.aft.length ≤ 1048576) :
    HCalls prg f_history_History_Append [Ptr p 0, .agg (recC a.k vb va a.s a.r).toArray] H (AppS p Fr Fc Fi H rs ch a) := by
  apply sh_history_History_Append_calls
  unfold sh_history_History_Append
  have hlt := h.lt
  have hpH : p < H.size := (hlt p (.inl rfl)).2
  simp only [Cells_agg, Mnew_some]
  generalize hH1 : H.push (.cells (recC a.k vb va a.s a.r).toArray T_history_Record (0, 0)) = H1
  have k1 : Keep (fun _ => False) H H1 := by rw [← hH1]; exact Keep.push
  have hs1 : H1.size = H.size + 1 := by rw [← hH1]; simp
  have hq1 : H1[H.size]? = some (.cells (recC a.k vb va a.s a.r).toArray T_history_Record (0, 0)) := by rw [← hH1]; exact push_new
  have hrl := recC_len (k := a.k) (s := a.s) (vb := vb) (va := va) hr
  rw [show (Value.pointer (some ⟨H.size, 0, none⟩)) = Ptr H.size 0 from rfl, ld36 hq1 hrl, Mpu_some]
  have hb1 := hb.keep k1 fun _ _ => id
  have ha1 := ha.keep k1 fun _ _ => id
  refine call_i (c_RecRight hb1 ha1 (fun b hb => by have := (hP b hb).1; omega) hr (by omega) (by omega)) ?_
  rintro _ h2 ⟨rfl, k2⟩
  have k02 := k1.trans k2
  simp only [unV_not, Mpu_some, J1_eq]
  by_cases hok : recOk a = true
  case neg =>
    have hok' := eq_false_of_ne_true hok
    simp only [hok', Bool.not_false, Mif_bool, Bool.true_eq_false, if_false, pickV_bool, if_true, Mpu_some, Mcd_bool]
    exact Or.inl ⟨by unfold appOk; rw [hok']; rfl, by trivial, k02⟩
  have hq2 := k2.at hq1 id
  have d1 : ld1 h2 (Ptr H.size 1) = some vb := ld_l hq2 rfl
  simp only [hok, Bool.not_true, Mif_bool, if_true, fld_ptr, Mpu_some, Nat.zero_add, d1, pickV_bool, Bool.false_eq_true, if_false]
  have hh2 := h.keep k02 fun _ _ => id
  refine call_i (c_HistNow hh2) ?_
  rintro w h4 ⟨hnow, k4⟩
  have hq4 := k4.at hq2 id
  have d14 : ld1 h4 (Ptr H.size 1) = some vb := ld_l hq4 rfl
  have k04 := k02.trans k4
  simp only [d14, Mre_cons, Mre_nil, true_and]
  refine call_i (c_EqItems ((hb1.keep k2 fun _ _ => id).keep k4 fun _ _ => id) hnow (by omega)) ?_
  rintro _ _ ⟨rfl, rfl⟩
  simp only [unV_not, Mpu_some, Mcd_bool]
  by_cases heq : a.bef = nowF rs
  case neg =>
    rw [if_pos (by simp [heq])]
    exact Or.inl ⟨by unfold appOk; rw [hok]; simp [heq], by trivial, k04⟩
  rw [if_neg (by simp [heq])]
  have happ : appOk rs a = true := by unfold appOk; rw [hok]; simp [heq]
  have hh4 := h.keep k04 fun _ _ => id
  obtain ⟨vr, vc, xs, hp4, hr4, hc4, hxl, hx4⟩ := hh4.blk
  have e0 : ld1 h4 (Ptr p 0) = some vr := by rw [ld1_at hp4]; rfl
  have e1 : ld1 h4 (Ptr p 1) = some vc := by rw [ld1_at hp4]; rfl
  have el := hr4.sl.len
  have hzl : (List.zipWith rawC rs xs).length = rs.length := by simp [hxl]
  rw [hzl] at el
  have hfew := h.few
  simp only [nck_ptr, fld_ptr, Mpu_some, Nat.zero_add, e0, el, binV_int, intV, Mcd_bool]
  by_cases hfull : rs.length = 4096
  · rw [if_pos (by rw [beq_iff_eq]; omega)]
    exact Or.inr (Or.inl ⟨happ, hfull, by trivial, k04⟩)
  rw [if_neg (by rw [beq_iff_eq]; omega)]
  simp only [e1, Mpu_some, ld36 hq4 hrl]
  refine call_i (c_HistTop hh4) ?_
  rintro _ h7 ⟨rfl, k7⟩
  have hq7 := k7.at hq4 id
  have hp7 := k7.at hp4 id
  have e17 : ld1 h7 (Ptr p 1) = some vc := by rw [ld1_at hp7]; rfl
  have k07 := k04.trans k7
  simp only [ld36 hq7 hrl, e17, Mre_cons, Mre_nil, true_and]
  refine call_i (c_RecBytes (hb.keep k07 fun _ _ => id) (ha.keep k07 fun _ _ => id) (fun b hb => Nat.lt_of_lt_of_le (hP b hb).1 k07.1) hr (hW.keep k07 fun _ h => h.elim) hl (by omega) (by omega)) ?_
  rintro wb h8 ⟨hbuf, k8⟩
  have hp8 := k8.at hp7 id
  have e18 : ld1 h8 (Ptr p 1) = some vc := by rw [ld1_at hp8]; rfl
  have k08 := k07.trans k8
  simp only [e18, true_and]
  refine call_i (c_tag_Record (topF_len h.c32) hbuf.sl (hT.keep k08 fun _ h => h.elim) (fun b hb => hb.2) hl) ?_
  rintro _ h9 ⟨rfl, k9⟩
  have hp9 := k9.at hp8 id
  have e19 : ld1 h9 (Ptr p 1) = some vc := by rw [ld1_at hp9]; rfl
  have k09 := k08.trans k9
  have hcl : (chainF ch a).length = 32 := shaF_len
  have hb1h : bslV prg T_sha_Hash 1 [(0, bv (chainF ch a))] = some (bcells (chainF ch a)).toArray := bsl_one c_Hash (by omega) (by omega) z_Hash rfl (by simp [hcl])
  rw [show shaF (7 :: (topF ch ++ recB a)) = chainF ch a from rfl]
  simp only [e19, true_and, hb1h, Mnews_some]
  generalize hH10 : h9.push (.cells (bcells (chainF ch a)).toArray T_sha_Hash (0, 0)) = h10
  have k10 : Keep (fun _ => False) h9 h10 := by rw [← hH10]; exact Keep.push
  have hs10 : h10.size = h9.size + 1 := by rw [← hH10]; simp
  have hn10 : h10[h9.size]? = some (.cells (bcells (chainF ch a)).toArray T_sha_Hash (0, 0)) := by rw [← hH10]; exact push_new
  have hp10 := k10.at hp9 id
  have e110 : ld1 h10 (Ptr p 1) = some vc := by rw [ld1_at hp10]; rfl
  have k410 : Keep (fun _ => False) h4 h10 := k7.trans (k8.trans (k9.trans k10))
  have k010 := k04.trans k410
  simp only [e110, true_and]
  have hx10 : SlE 32 (· = h9.size) h10 (.slice (some ⟨h9.size, 0, none⟩) 1 1) [bcells (chainF ch a)] :=
    ⟨⟨_, 1, rfl, Nat.le_refl _, .inr ⟨h9.size, 0, rfl, rfl, by rw [List.flatten_cons, List.flatten_nil, List.append_nil]; exact Pt.of hn10⟩⟩, fun x hx => by simp at hx; subst hx; simp [hcl], fun x hx => by simp at hx; subst hx; exact bcells_one⟩
  have hc10 : BufE 32 (fun b => Fc b ∨ b = h10.size) h10 vc (ch.map bcells) := (hc4.keep k410 fun _ _ => id).mono fun b h => .inl h
  have hclen := h.len
  refine hc10.app hx10 (by omega) (by simp; omega) (.inr rfl) fun x h11 hx11 k11 => ?_
  have hown := h.own
  have hpF1 : ¬ (Fc p ∨ p = h10.size) := fun h => h.elim (fun h => ((hown p).2.1 h).2.2.1 rfl) fun h => by have := k010.1; omega
  have hp11 := k11.at hp10 hpF1
  have s11 := k11.1
  rw [st1_at hp11 1 x (by simp) hx11.sl.oneC, Mwr_some]
  generalize hH12 : h11.setIfInBounds p (.cells (#[vr, vc].setIfInBounds 1 x) T_history_History (0, 0)) = h12
  have k12 : Keep (· = p) h11 h12 := by rw [← hH12]; exact Keep.set rfl
  have hs12 : h12.size = h11.size := by rw [← hH12]; simp
  have hp12 : h12[p]? = some (.cells #[vr, x] T_history_History (0, 0)) := by rw [← hH12, set_self hp11]; rfl
  have e012 : ld1 h12 (Ptr p 0) = some vr := by rw [ld1_at hp12]; rfl
  have k012 : Keep (fun b => b = p ∨ Fc b) H h12 := by
    refine ⟨by have := k010.1; omega, fun i hi hn => ?_⟩
    rw [k12.2 i (by have := k010.1; omega) (fun h => hn (.inl h)), k11.2 i (by have := k010.1; omega) (fun h => h.elim (fun h => hn (.inr h)) fun h => by have := k010.1; omega), k010.2 i hi id]
  have hqp : ¬ (H.size = p) := by omega
  have hq12 : h12[H.size]? = some (.cells (recC a.k vb va a.s a.r).toArray T_history_Record (0, 0)) := k12.at (k11.at (k410.at hq4 id) fun h => h.elim (fun h => by have := ((hown _).2.1 h).2.1; omega) fun h => by have := k410.1; have := k4.1; have := k2.1; omega) (by omega)
  simp only [e012, Mpu_some, ld36 hq12 hrl]
  have hPS : ∀ b, P b → ¬ (b = p ∨ Fc b) := fun b hb h => (hP b hb).2 (h.elim .inl fun h => .inr (.inr (.inl h)))
  refine call_i (c_copied (hb.keep k012 hPS) (ha.keep k012 hPS) (fun b hb => Nat.lt_of_lt_of_le (hP b hb).1 k012.1) hr hl1 hl2) ?_
  rintro _ h13 ⟨vb', va', rfl, ib, ia, k13⟩
  have hp13 := k13.at hp12 id
  have e013 : ld1 h13 (Ptr p 0) = some vr := by rw [ld1_at hp13]; rfl
  obtain ⟨z, hz, hz36⟩ := z_Record
  have hb1r : bslV prg T_history_Record 1 [(0, .agg (recC a.k vb' va' a.s a.r).toArray)] = some (recC a.k vb' va' a.s a.r).toArray := bsl_one c_Rec (by omega) (by omega) hz (by simp [hz36]) (by simp [recC_len hr])
  simp only [e013, Mre_cons, Mre_nil, true_and, hb1r, Mnews_some]
  generalize hH14 : h13.push (.cells (recC a.k vb' va' a.s a.r).toArray T_history_Record (0, 0)) = h14
  have k14 : Keep (fun _ => False) h13 h14 := by rw [← hH14]; exact Keep.push
  have hs14 : h14.size = h13.size + 1 := by rw [← hH14]; simp
  have hn14 : h14[h13.size]? = some (.cells (recC a.k vb' va' a.s a.r).toArray T_history_Record (0, 0)) := by rw [← hH14]; exact push_new
  have hp14 := k14.at hp13 id
  have e014 : ld1 h14 (Ptr p 0) = some vr := by rw [ld1_at hp14]; rfl
  simp only [e014, true_and]
  have hx14 : SlE 36 (· = h13.size) h14 (.slice (some ⟨h13.size, 0, none⟩) 1 1) [rawC a (vb', va')] :=
    ⟨⟨_, 1, rfl, Nat.le_refl _, .inr ⟨h13.size, 0, rfl, rfl, by rw [List.flatten_cons, List.flatten_nil, List.append_nil]; exact Pt.of hn14⟩⟩, fun x hx => by simp at hx; subst hx; exact recC_len hr, fun x hx => by simp at hx; subst hx; exact recC_one ib ia⟩
  have k014 : Keep (fun b => b = p ∨ Fc b) H h14 := k012.trans ((k13.trans k14).mono fun _ _ h => h.elim)
  have hr0 : BufE 36 Fr H vr (List.zipWith rawC rs xs) := BufE.keepBack hr4 k04 (fun b hb => ((hown b).1 hb).2.1)
  have hr14 : BufE 36 (fun b => Fr b ∨ b = h14.size) h14 vr (List.zipWith rawC rs xs) := (hr0.keep k014 fun b hb h => by
    obtain ⟨_, _, h1, h2, _⟩ := (hown b).1 hb
    exact h.elim h1 h2).mono fun b h => .inl h
  refine hr14.app hx14 (by omega) (by rw [hzl]; simp; omega) (.inr rfl) fun y h15 hy15 k15 => ?_
  have s13 := k13.1
  have s15 := k15.1
  have s010 := k010.1
  have hpF2 : ¬ (Fr p ∨ p = h14.size) := fun h => h.elim (fun h => ((hown p).1 h).2.2.1 rfl) fun h => by omega
  have hp15 := k15.at hp14 hpF2
  rw [st1_at hp15 0 y (by simp) hy15.sl.oneC, Mwr_some]
  generalize hH16 : h15.setIfInBounds p (.cells (#[vr, x].setIfInBounds 0 y) T_history_History (0, 0)) = h16
  have k16 : Keep (· = p) h15 h16 := by rw [← hH16]; exact Keep.set rfl
  have hs16 : h16.size = h15.size := by rw [← hH16]; simp
  have hp16 : h16[p]? = some (.cells #[y, x] T_history_History (0, 0)) := by rw [← hH16, set_self hp15]; rfl
  have k016 : Keep (fun b => b = p ∨ Fc b ∨ Fr b) H h16 := by
    refine ⟨by omega, fun i hi hn => ?_⟩
    rw [k16.2 i (by omega) (fun h => hn (.inl h)), k15.2 i (by omega) (fun h => h.elim (fun h => hn (.inr (.inr h))) fun h => by omega), k014.2 i hi (fun h => h.elim (fun h => hn (.inl h)) fun h => hn (.inr (.inl h)))]
  have k1116 : ∀ b, b < h11.size → b ≠ p → ¬ Fr b → h16[b]? = h11[b]? := fun b hb h1 h2 => by
    rw [k16.2 b (by omega) h1, k15.2 b (by omega) (fun h => h.elim h2 fun h => by omega), k14.2 b (by omega) id, k13.2 b (by omega) id, k12.2 b hb h1]
  refine Or.inr (Or.inr ⟨happ, hfull, by trivial, k016.mono fun b _ h => (h.elim .inl fun h => h.elim (fun h => .inr (.inr h)) fun h => .inr (.inl h)), fun b => (Fr b ∨ b = h14.size) ∧ b < h15.size, fun b => (Fc b ∨ b = h10.size) ∧ b < h11.size, fun b => Fi b ∨ New h12 h13 b, ?_, ?_⟩)
  · have hng := h.ng
    refine ⟨fun b => ?_, hng, by simp [hclen], by simp; omega, ?_, y, x, xs ++ [(vb', va')], hp16, ?_, ?_, by simp [hxl], ?_⟩
    · obtain ⟨o1, o2, o3⟩ := hown b
      have hn1 : New h12 h13 b → h12.size ≤ b ∧ b < h13.size := id
      refine ⟨?_, ?_, ?_⟩
      · rintro ⟨h1 | h1, h2⟩
        · obtain ⟨a1, a2, a3, a4, a5⟩ := o1 h1
          refine ⟨a1, by omega, a3, fun h => h.1.elim a4 fun h => by omega, fun h => h.elim a5 fun h => by have := hn1 h; omega⟩
        · refine ⟨by omega, by omega, by omega, fun h => by omega, fun h => h.elim (fun h => by have := (o3 h).2.1; omega) fun h => by have := hn1 h; omega⟩
      · rintro ⟨h1 | h1, h2⟩
        · obtain ⟨a1, a2, a3, a4⟩ := o2 h1
          exact ⟨a1, by omega, a3, fun h => h.elim a4 fun h => by have := hn1 h; omega⟩
        · exact ⟨by omega, by omega, by omega, fun h => h.elim (fun h => by have := (o3 h).2.1; omega) fun h => by have := hn1 h; omega⟩
      · rintro (h1 | h1)
        · obtain ⟨a1, a2, a3⟩ := o3 h1
          exact ⟨a1, by omega, a3⟩
        · have := hn1 h1
          exact ⟨by omega, by omega, by omega⟩
    · intro c hc
      rcases List.mem_append.1 hc with hc | hc
      · exact h.c32 c hc
      · simp at hc; subst hc; exact hcl
    · rw [List.zipWith_append (by rw [hxl])]
      have hk16 := hy15.keep k16 fun b hb e => by subst e; exact hpF2 hb
      exact BufE.re hk16 fun b hb h => ⟨h, by omega⟩
    · rw [List.map_append]
      obtain ⟨c1, c2, c3⟩ := hx11
      refine ⟨c1, c2, ?_⟩
      rcases c3 with c3 | ⟨b, o, c, cs, T, f, rfl, hf, hc, hb', hrest⟩
      · exact .inl c3
      · have hblt := lt_of hb'
        refine .inr ⟨b, o, c, cs, T, f, rfl, ⟨hf, hblt⟩, hc, ?_, hrest⟩
        rw [k1116 b hblt (fun e => hpF1 (e ▸ hf)) (fun h => hf.elim (fun h2 => ((hown b).1 h).2.2.2.1 h2) fun h2 => by have := ((hown b).1 h).2.1; omega)]
        exact hb'
    · intro i a' x' ha' hx'
      by_cases hi : i < rs.length
      · rw [List.getElem?_append_left hi] at ha'
        rw [List.getElem?_append_left (by omega)] at hx'
        have hraw := (h.blk)
        have := hx4 i a' x' ha' hx'
        refine RawOk.mono (F := Fi) ?_ fun b h => .inl h
        refine RawOk.back this k04 (fun b hb => ((hown b).2.2 hb).2.1) k016 fun b hb h => ?_
        obtain ⟨_, _, h3⟩ := (hown b).2.2 hb
        rcases h with h | h | h
        · exact h3 h
        · exact ((hown b).2.1 h).2.2.2 hb
        · exact ((hown b).1 h).2.2.2.2 hb
      · rw [List.getElem?_append_right (by omega)] at ha' hx'
        obtain rfl : a = a' := by
          cases hi' : i - rs.length with
          | zero => rw [hi'] at ha'; simpa using ha'
          | succ n => rw [hi'] at ha'; simp at ha'
        obtain rfl : (vb', va') = x' := by
          cases hi' : i - xs.length with
          | zero => rw [hi'] at hx'; simpa using hx'
          | succ n => rw [hi'] at hx'; simp at hx'
        have k1316 : Keep (fun b => b = p ∨ b = h14.size ∨ Fr b) h13 h16 := by
          refine ⟨by omega, fun i hi hn => ?_⟩
          rw [k16.2 i (by omega) (fun h => hn (.inl h)), k15.2 i (by omega) (fun h => h.elim (fun h => hn (.inr (.inr h))) fun h => hn (.inr (.inl h))), k14.2 i hi id]
        have hs : ∀ b, New h12 h13 b → ¬ (b = p ∨ b = h14.size ∨ Fr b) := fun b hb h => by
          have h1 := hb.1; have h2 := hb.2
          rcases h with h | h | h
          · omega
          · omega
          · have := ((hown b).1 h).2.1; omega
        exact ⟨hr, (ib.keep k1316 hs).mono fun b h => .inr h, (ia.keep k1316 hs).mono fun b h => .inr h, hl1, hl2⟩
  · refine ⟨?_, ?_⟩
    · rintro b (⟨h | h, _⟩ | ⟨h | h, _⟩)
      · exact .inl h
      · exact .inr (.inr (by omega))
      · exact .inr (.inl h)
      · exact .inr (.inr (by omega))
    · rintro b (h | h)
      · exact .inl h
      · exact .inr (by have := h.1; omega)
theorem c_Append (h : HistAt p Fr Fc Fi H rs ch) (hT : ShaT H) (hb : Items P H vb a.bef) (ha : Items P H va a.aft) (hP : ∀ b, P b → b < H.size ∧ ¬ HB p Fr Fc Fi b) (hr : a.r.length = 32)
    (hW : PowT H) (hl : (recB a).length ≤ 1099511627776) (hl1 : a.bef.length ≤ 1048576) (hl2 : a.aft.length ≤ 1048576) :
    HCalls prg f_history_History_Append [Ptr p 0, .agg (recC a.k vb va a.s a.r).toArray] H (AppR p Fr Fc Fi H rs ch a) := (c_AppendS h hT hb ha hP hr hW hl hl1 hl2).mono fun u H' hR => by
  rcases hR with hR | hR | ⟨h1, h2, h3, k, hx⟩
  · exact .inl hR
  · exact .inr (.inl hR)
  · obtain ⟨Fr', Fc', Fi', hh, x1, x2⟩ := hx
    exact .inr (.inr ⟨h1, h2, h3, k.mono fun b _ h => h.elim .inl fun h => h.elim (fun h => .inr (.inl h)) fun h => .inr (.inr (.inl h)), Fr', Fc', Fi', hh, fun b hb => by
      rcases hb with hb | hb | hb | hb
      · exact .inl (.inl hb)
      · rcases x1 b (.inl hb) with h | h | h
        · exact .inl (.inr (.inl h))
        · exact .inl (.inr (.inr (.inl h)))
        · exact .inr h
      · rcases x1 b (.inr hb) with h | h | h
        · exact .inl (.inr (.inl h))
        · exact .inl (.inr (.inr (.inl h)))
        · exact .inr h
      · rcases x2 b hb with h | h
        · exact .inl (.inr (.inr (.inr h)))
        · exact .inr h⟩)
end

end Go.Proofs.YtdmciknajaedmaaDoor
/- HistoryHeads: the fixed answer; the law's walk. -/
namespace Go.Proofs.YtdmciknajaedmaaDoor
open Go.X
set_option maxRecDepth 100000

theorem HistAt.mono {p : Nat} {Fr Fc Fi : Nat → Prop} {H : Heap} {rs : List RecA} {ch : List (List UInt8)} (h : HistAt p Fr Fc Fi H rs ch) : HistAt p Fr Fc Fi H rs ch := h

def oneV : Ver := ⟨[1, 2, 3], []⟩
def oneI : Item := ⟨[97], oneV, zeroH⟩
def oneA : RecA := ⟨1, [], [oneI], 0, zeroH⟩
theorem oneI_wf : oneI.wf := ⟨⟨rfl, by simp [oneI, oneV]⟩, rfl, by simp [oneI]⟩
theorem bld_A3 : buildV prg T_A3_int [(0, (.int .i64 1)), (1, (.int .i64 2)), (2, (.int .i64 3))] = some (.agg (icells .i64 [1, 2, 3]).toArray) := by kernel_rfl
theorem bld_Ver : buildV prg T_version_Version [(0, .agg (icells .i64 [1, 2, 3]).toArray)] = some (.agg (verC oneV).toArray) := by kernel_rfl
theorem bld_Item : buildV prg T_history_Item [(0, (.string ⟨#[97]⟩)), (1, .agg (verC oneV).toArray)] = some (.agg (itemC oneI).toArray) := by kernel_rfl
theorem bld_Rec1 {a : Option Addr} {n c : Nat} : buildV prg T_history_Record [(0, (.int .i64 1)), (2, .slice a n c)] = some (.agg (recC 1 (.slice none 0 0) (.slice a n c) 0 zeroH).toArray) := by kernel_rfl
theorem c_Item : prg.cellsOf T_history_Item = 37 := by kernel_rfl

theorem recB_one : (recB oneA).length ≤ 1000 := by decide +kernel
theorem appOk_one0 : appOk [] oneA = true := by decide +kernel
theorem appOk_one1 : appOk [oneA] oneA = false := by decide +kernel

def kHash : List Nat := List.replicate 32 0
theorem eqK_Hash : eqK prg T_sha_Hash = .flat kHash := by kernel_rfl
theorem ne_Hash {a b : List UInt8} (ha : a.length = 32) (hb : b.length = 32) : binV (eqK prg T_sha_Hash) .neq (bv a) (bv b) = some (.bool (!decide (a = b))) := by
  unfold bv
  rw [binV_agg_ne, eqK_Hash]
  show (eqCells kHash (bcells a).toArray.toList (bcells b).toArray.toList).map (fun b => Value.bool (!b)) = _
  have := eqCells_bytes (l := a) (m := b) (by omega)
  rw [ha] at this
  unfold kHash
  rw [List.toList_toArray, List.toList_toArray, this]; rfl
theorem eq_Hash {a b : List UInt8} (ha : a.length = 32) (hb : b.length = 32) : binV (eqK prg T_sha_Hash) .eql (bv a) (bv b) = some (.bool (decide (a = b))) := by
  unfold bv
  rw [binV_agg_eq, eqK_Hash]
  show (eqCells kHash (bcells a).toArray.toList (bcells b).toArray.toList).map Value.bool = _
  have := eqCells_bytes (l := a) (m := b) (by omega)
  rw [ha] at this
  unfold kHash
  rw [List.toList_toArray, List.toList_toArray, this]; rfl

end Go.Proofs.YtdmciknajaedmaaDoor
