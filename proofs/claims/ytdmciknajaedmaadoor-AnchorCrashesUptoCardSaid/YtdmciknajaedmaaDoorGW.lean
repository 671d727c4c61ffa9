/- JOINED: V21t V75 V76 V77 V78 -/
import Derived.Test.YtdmciknajaedmaaDoorGJ
import Derived.Test.YtdmciknajaedmaaDoorGU
import Derived.Test.YtdmciknajaedmaaDoorGI
import Derived.Test.YtdmciknajaedmaaDoorGV
import Derived.Test.YtdmciknajaedmaaDoorGN
set_option linter.unusedSimpArgs false
set_option linter.unusedVariables false
/- HistoryDiffs: is what comes in small? -/
namespace Go.Proofs.YtdmciknajaedmaaDoor
open Go.X Go.X.Diff
set_option maxRecDepth 100000

theorem new_item {h : Heap} {x : Item} (hwf : x.wf) {k : Value → Heap → Prop}
    (hk : ∀ h2, Keep (fun _ => False) h h2 → (∃ T f, h2[h.size]? = some (.cells (itemC x).toArray T f)) → k (Ptr h.size 0) h2) :
    Mnew h T_history_Item (zcells prg T_history_Item) fun t h5 => Mwr (stN 37 h5 t (.agg (itemC x).toArray)) fun h6 => k t h6 := by
  obtain ⟨z, hz, hzl⟩ := z_Item
  rw [hz, Mnew_some]
  have hpush : (h.push (.cells z.toArray T_history_Item (0, 0)))[h.size]? = some (.cells z.toArray T_history_Item (0, 0)) := push_new
  have hst := stN_mid (n := 37) (o := 0) (A := []) (B := z) (C := []) (B' := itemC x) (by rw [List.nil_append, List.append_nil]; exact hpush) rfl (by simp [hzl]) (itemC_len hwf) (all_of itemC_one)
  rw [List.nil_append, List.append_nil] at hst
  rw [hst, Mwr_some]
  refine hk _ ⟨by simp, fun j hj _ => ?_⟩ ⟨_, _, set_self hpush⟩
  rw [Array.getElem?_setIfInBounds, if_neg (by omega), Array.getElem?_push, if_neg (by omega)]

def bigI (x : Item) : Bool := decide (x.name.length > 100) || decide (x.ver.pre.length > 100)
def smallB (a b : List Item) : Bool := !(a.any bigI) && !(b.any bigI) && (decide (a.length ≤ 20) && decide (b.length ≤ 20))
theorem bsl_two {a a' : Option Addr} {n c n' c' : Nat} : bslV prg T_S_history_Item 2 [(0, .slice a n c), (1, .slice a' n' c')] = some #[.slice a n c, .slice a' n' c'] := by kernel_rfl
theorem Items.slice {P : Nat → Prop} {H : Heap} {v : Value} {xs : List Item} (h : Items P H v xs) : ∃ a c, v = .slice a xs.length c := by
  obtain ⟨⟨⟨a, c, rfl, _⟩, _⟩, _⟩ := h; exact ⟨a, c, by simp⟩
theorem bsl_items {P Q : Nat → Prop} {H H' : Heap} {v w : Value} {xs ys : List Item} (hv : Items P H v xs) (hw : Items Q H' w ys) : bslV prg T_S_history_Item 2 [(0, v), (1, w)] = some #[v, w] := by
  obtain ⟨a, c, rfl⟩ := hv.slice
  obtain ⟨a', c', rfl⟩ := hw.slice
  exact bsl_two

theorem big_loop {P : Nat → Prop} {h : Heap} {z : Value} {zs : List Item} {Rf : Heap → Prop} {k7 : Value → Heap → Prop} (hz : Items P h z zs) (hl : zs.length ≤ 9223372036854775807)
    (hbad : zs.any bigI = true → ∀ h', Keep (fun _ => False) h h' → Rf h') (hok : zs.any bigI = false → ∀ u h', Keep (fun _ => False) h h' → k7 u h') :
    L1 (fun k9 => fun t19_2 h10 =>
      Mpu (binV .no .lss t19_2 (.int .i64 zs.length)) fun t20 =>
      Mcd t20 (
        Mpu (ixS 37 z t19_2) fun t21 =>
        Mpu (ldN 37 h10 t21) fun t22 =>
        Mnew h10 T_history_Item (zcells prg T_history_Item) fun t6 h11 =>
        Mwr (stN 37 h11 t6 t22) fun h12 =>
        Mpu (fld 0 t6) fun t23 =>
        Mpu (ld1 h12 t23) fun t24 =>
        Mpu (lenT t24) fun t25 =>
        Mpu (binV .no .gtr t25 (.int .i64 100)) fun t26 =>
        J1 (fun k13 => Mif t26 false (
            Mpu (fld 1 t6) fun t28 =>
            Mpu (fld 3 t28) fun t29 =>
            Mpu (ld1 h12 t29) fun t30 =>
            Mpu (lenT t30) fun t31 =>
            Mpu (binV .no .gtr t31 (.int .i64 100)) fun t32 =>
            k13 t32 h12) (
            k13 undef h12)) fun t32_2 h14 =>
        Mpu (pickV t26 (.bool true) t32_2) fun t33 =>
        Mcd t33 (
          Rf h14) (
          Mpu (binV .no .add t19_2 (.int .i64 1)) fun t34 =>
          k9 t34 h14)) (
        k7 t19_2 h10)) ((.int .i64 0)) h := by
  refine L1_i (fun u h' => ∃ i : Nat, i ≤ zs.length ∧ u = .int .i64 (i : Nat) ∧ (zs.take i).any bigI = false ∧ Keep (fun _ => False) h h') (fun u _ => match u with | .int _ t => zs.length - t.toNat | _ => 0) ⟨0, Nat.zero_le _, rfl, rfl, Keep.refl⟩ ?_
  rintro _ h' ⟨i, hi, rfl, hno, kh⟩ k hk
  simp only [binV_int (op := .lss), intV, Mpu_some, Mcd_bool, decide_eq_true_eq]
  by_cases hlt : (i : Int) < zs.length
  · rw [if_pos hlt]
    have hlt' : i < zs.length := by omega
    have hg : zs[i]? = some zs[i] := List.getElem?_eq_getElem hlt'
    have ht : zs.take (i + 1) = zs.take i ++ [zs[i]] := by rw [List.take_add_one, hg]; rfl
    have hmem : zs[i] ∈ zs := List.getElem_mem _
    generalize hx : zs[i] = x at *
    obtain ⟨hwf, b, o, hix, hpt, hpb⟩ := (hz.keep kh fun _ _ => id).at hg
    have hinc : IntKind.i64.wrap ((i : Int) + 1) = (i + 1 : Nat) := by rw [wrap_id] <;> omega
    simp only [hix, Mpu_some, hpt.agg (itemC_len hwf)]
    refine new_item hwf fun h2 k2 ⟨T, f, hq⟩ => ?_
    have d0 : ld1 h2 (Ptr h'.size 0) = some (str x.name) := ld_l hq rfl
    have d4 : ld1 h2 (Ptr h'.size 4) = some (str x.ver.pre) := ld_l hq (by
      unfold itemC verC
      rw [List.getElem?_cons_succ, List.getElem?_append_left (by simp [hwf.ver.p3]), List.getElem?_append_right (by simp [hwf.ver.p3])]
      simp [hwf.ver.p3])
    have f0 : fld 0 (Ptr h'.size 0) = some (Ptr h'.size 0) := rfl
    have f1 : fld 1 (Ptr h'.size 0) = some (Ptr h'.size 1) := rfl
    have f3 : fld 3 (Ptr h'.size 1) = some (Ptr h'.size 4) := rfl
    have end_ : (Value.bool (bigI x) = Value.bool (bigI x)) → (if bigI x = true then Rf h2 else Mpu (binV .no .add (.int .i64 (i : Nat)) (.int .i64 1)) fun t34 => k t34 h2) := fun _ => by
      cases hb : bigI x with
      | true => rw [if_pos rfl]; exact hbad (List.any_eq_true.2 ⟨x, hmem, hb⟩) _ (kh.trans k2)
      | false =>
        rw [if_neg (by decide)]
        simp only [binV_int (op := .add), intV, hinc, Mpu_some]
        exact hk _ _ ⟨i + 1, hlt', rfl, by rw [ht, List.any_append, hno]; simp [hb], kh.trans k2⟩ (by show zs.length - (i + 1) < zs.length - i; omega)
    have e100 : ∀ n : Nat, binV .no .gtr (.int .i64 (n : Nat)) (.int .i64 100) = some (.bool (decide (n > 100))) := fun n => by
      rw [binV_int]; simp only [intV]; congr 2; rw [decide_eq_decide]; omega
    simp only [f0, Mpu_some, d0, lenT_str, e100]
    refine J1_i (fun u h3 => (decide (x.name.length > 100) = true ∨ u = .bool (decide (x.ver.pre.length > 100))) ∧ h2 = h3) (fun k' hk' => ?_) ?_
    · by_cases hn : x.name.length > 100
      · simp only [hn, decide_true, Mif_bool, Bool.true_eq_false, if_false]
        exact hk' _ _ ⟨.inl (decide_eq_true hn), rfl⟩
      · simp only [hn, decide_false, Mif_bool, if_true, f1, f3, d4, lenT_str, e100, Mpu_some]
        exact hk' _ _ ⟨.inr rfl, rfl⟩
    rintro u3 _ ⟨hu, rfl⟩
    have hp : pickV (.bool (decide (x.name.length > 100))) (.bool true) u3 = some (.bool (bigI x)) := by
      unfold bigI
      rw [pickV_bool]
      by_cases hn : x.name.length > 100
      · simp [hn]
      · rcases hu with hu | rfl
        · exact absurd (of_decide_eq_true hu) hn
        · simp [hn]
    rw [hp, Mpu_some, Mcd_bool]
    exact end_ rfl
  · rw [if_neg hlt]
    obtain rfl : i = zs.length := by omega
    rw [List.take_length] at hno
    exact hok hno _ _ kh

end Go.Proofs.YtdmciknajaedmaaDoor
/- the reference's items. -/
namespace Go.Proofs.YtdmciknajaedmaaDoor
open Go.X Go.X.Diff
set_option maxRecDepth 100000

def nameC (n : Nat) : Bool := decide (97 ≤ n) && decide (n ≤ 122) || decide (48 ≤ n) && decide (n ≤ 57) || decide (n = 45)
theorem nameL_range : ∀ x : UInt8, nameL.contains x = nameC x.toNat := by
  have h : ∀ n, n < 256 → nameL.contains (UInt8.ofNat n) = nameC n := by decide +kernel
  intro x
  have := h x.toNat x.toNat_lt
  rwa [UInt8.ofNat_toNat] at this
theorem azL_index : ∀ x : UInt8, decide (Lib.indexByte azL x ≥ 0) = (decide (97 ≤ x.toNat) && decide (x.toNat ≤ 122)) := by
  have h : ∀ n, n < 256 → decide (Lib.indexByte azL (UInt8.ofNat n) ≥ 0) = (decide (97 ≤ n) && decide (n ≤ 122)) := by decide +kernel
  intro x
  have := h x.toNat x.toNat_lt
  rwa [UInt8.ofNat_toNat] at this
theorem nameOk_eq {l : List UInt8} : nameOk l = (decide (l ≠ []) && decide (l.length ≤ 32) && l.all (fun x => nameC x.toNat) && (decide (97 ≤ (l.headD 0).toNat) && decide ((l.headD 0).toNat ≤ 122))) := by
  unfold nameOk
  rw [azL_index]
  congr 2
  rw [Bool.eq_iff_iff]
  simp only [decide_eq_true_eq, List.all_eq_true, nameL_range]

theorem nameOk_cons {x : UInt8} {t : List UInt8} : nameOk (x :: t) = (decide ((x :: t).length ≤ 32) && (x :: t).all (fun x => nameC x.toNat) && (decide (97 ≤ x.toNat) && decide (x.toNat ≤ 122))) := by
  rw [nameOk_eq, decide_eq_true (by simp : x :: t ≠ []), Bool.true_and]; rfl

end Go.Proofs.YtdmciknajaedmaaDoor
/- the reference's records. -/
namespace Go.Proofs.YtdmciknajaedmaaDoor
open Go.X Go.X.Diff
set_option maxRecDepth 100000

theorem str_geq {a b : List UInt8} {q : EqK} : binV q .geq (str a) (str b) = some (.bool (!lessB a b)) := by rw [binV_str]; exact strV_geq
theorem showF_len40 {v : Ver} (h : v.wf) : (showF v).length ≤ 40 := showF_len h.p3
def ItemsB (H : Heap) (xs : List Item) (u : Value) (H' : Heap) : Prop :=
  (∃ w, u = .tuple #[w, .bool (itemsOk xs)] ∧ (itemsOk xs = true → Buf (fun b => H.size ≤ b ∧ b < H'.size) H' w (xs.map itemB).flatten)) ∧ Keep (fun _ => False) H H'

end Go.Proofs.YtdmciknajaedmaaDoor
/- the reference's records; the walk of HistoryRecords. -/
namespace Go.Proofs.YtdmciknajaedmaaDoor
open Go.X Go.X.Diff
set_option maxRecDepth 100000

theorem bsl7S {a b c d e f g : Option Addr} {n1 n2 n3 n4 n5 n6 n7 m1 m2 m3 m4 m5 m6 m7 : Nat} : bslV prg T_S_uint8 7 [(0, .slice a n1 m1), (1, .slice b n2 m2), (2, .slice c n3 m3), (3, .slice d n4 m4), (4, .slice e n5 m5), (5, .slice f n6 m6), (6, .slice g n7 m7)] = some #[.slice a n1 m1, .slice b n2 m2, .slice c n3 m3, .slice d n4 m4, .slice e n5 m5, .slice f n6 m6, .slice g n7 m7] := by kernel_rfl

theorem items_small {xs : List Item} (h : itemsOk xs = true) (hw : ∀ x ∈ xs, x.wf) : ((xs.map itemB).flatten).length ≤ 100000 := by
  obtain ⟨h1, h2⟩ := itemsOk_spec h hw
  have := putB_len4 h2
  unfold putB at this
  rw [List.length_append, numB_len] at this
  omega

/- are two records one? -/
def eqRec (a b : RecA) : Bool := decide (a.k = b.k) && decide (a.bef = b.bef) && decide (a.aft = b.aft) && (decide (a.s = b.s) && decide (a.r = b.r))
theorem eqRec_self {a : RecA} : eqRec a a = true := by simp [eqRec]
theorem eqK_Head : eqK prg T_head_Head = .flat ([0] ++ List.replicate 32 0) := by kernel_rfl
theorem eqHead {s t : Int} {a b : List UInt8} (ha : a.length = 32) (hb : b.length = 32) : binV (eqK prg T_head_Head) .eql (.agg (Value.int .i64 s :: bcells a).toArray) (.agg (Value.int .i64 t :: bcells b).toArray) = some (.bool (decide (s = t) && decide (a = b))) := by
  rw [binV_agg_eq, eqK_Head]
  show (eqCells ([0] ++ List.replicate 32 0) (icells .i64 [s] ++ bcells a) (icells .i64 [t] ++ bcells b)).map Value.bool = _
  have h1 := eqCells_ints (k := .i64) (l := [s]) (m := [t]) rfl
  have h2 := eqCells_bytes (l := a) (m := b) (by omega)
  rw [ha] at h2
  have := eqCells_app (k1 := [0]) rfl rfl h1 h2
  rw [this]
  simp
end Go.Proofs.YtdmciknajaedmaaDoor
/- The walk of HistoryRecords. -/
namespace Go.Proofs.YtdmciknajaedmaaDoor
open Go.X Go.X.Diff
set_option maxRecDepth 100000

def RawIn (P : Nat → Prop) (H : Heap) (a : RecA) (x : Value × Value) : Prop := a.r.length = 32 ∧ Items P H x.1 a.bef ∧ Items P H x.2 a.aft ∧ a.bef.length ≤ 9223372036854775807 ∧ a.aft.length ≤ 9223372036854775807
end Go.Proofs.YtdmciknajaedmaaDoor
