/- JOINED: Sb0 V21t V75 V76 V77 V78 -/
import Derived.Test.YtmhfanpijdgkjabGreatDoorGE
import Derived.Test.YtmhfanpijdgkjabGreatDoorGJ
import Derived.Test.YtmhfanpijdgkjabGreatDoorGU
import Derived.Test.YtmhfanpijdgkjabGreatDoorGI
import Derived.Test.YtmhfanpijdgkjabGreatDoorGV
import Derived.Test.YtmhfanpijdgkjabGreatDoorGN
set_option linter.unusedSimpArgs false
set_option linter.unusedVariables false
/- PRINTED: clean texts -/
namespace Go.Proofs.YtmhfanpijdgkjabGreatDoor
open Go.X
set_option maxRecDepth 100000
-- syngraph/syngraphlaw22.small
def sh_syngraphlaw22_small (t0 : Value) (H : Heap) (R : Value → Heap → Prop) : Prop :=
  Mnew H T_history_Record (some (Value.cells t0)) fun t1 h1 =>
  J1 (fun k2 =>
    Mpu (fld 1 t1) fun t7 =>
    Mpu (ld1 h1 t7) fun t8 =>
    Mpu (fld 2 t1) fun t9 =>
    Mpu (ld1 h1 t9) fun t10 =>
    Mnews h1 T_S_history_Item 2 (bslV prg T_S_history_Item 2 [(0, t8), (1, t10)]) fun t11 h4 =>
    Mpu (lenV t11) fun t12 =>
    L1 (fun k5 => fun t13_2 h6 =>
      Mpu (binV .no .lss t13_2 t12) fun t14 =>
      Mcd t14 (
        J1 (fun k7 =>
          Mpu (ixS 1 t11 t13_2) fun t15 =>
          Mpu (ld1 h6 t15) fun t16 =>
          Mpu (lenV t16) fun t18 =>
          L1 (fun k9 => fun t19_2 h10 =>
            Mpu (binV .no .lss t19_2 t18) fun t20 =>
            Mcd t20 (
              Mpu (ixS 37 t16 t19_2) fun t21 =>
              Mpu (ldN 37 h10 t21) fun t22 =>
              Mnew h10 T_history_Item (zcells prg T_history_Item) fun t6 h11 =>
              Mwr (stN 37 h11 t6 t22) fun h12 =>
              Mpu (fld 0 t6) fun t23 =>
              Mpu (ld1 h12 t23) fun t24 =>
              Mpu (lenT t24) fun t25 =>
              Mpu (binV .no .gtr t25 (.int .i64 100)) fun t26 =>
              J1 (fun k13 => Mif t26 false (
                  Mpu (fld 1 t6) fun t28 =>
                  Mpu (fld 3 t28) fun t29 =>
                  Mpu (ld1 h12 t29) fun t30 =>
                  Mpu (lenT t30) fun t31 =>
                  Mpu (binV .no .gtr t31 (.int .i64 100)) fun t32 =>
                  k13 t32 h12) (
                  k13 undef h12)) fun t32_2 h14 =>
              Mpu (pickV t26 (.bool true) t32_2) fun t33 =>
              Mcd t33 (
                R (.bool false) h14) (
                Mpu (binV .no .add t19_2 (.int .i64 1)) fun t34 =>
                k9 t34 h14)) (
              k7 t19_2 h10)) ((.int .i64 0)) h6) fun t19_4 h8 =>
        Mpu (binV .no .add t13_2 (.int .i64 1)) fun t35 =>
        k5 t35 h8) (
        k2 t13_2 h6)) ((.int .i64 0)) h4) fun t13_4 h3 =>
  Mpu (fld 1 t1) fun t36 =>
  Mpu (ld1 h3 t36) fun t37 =>
  Mpu (lenV t37) fun t38 =>
  Mpu (binV .no .leq t38 (.int .i64 20)) fun t39 =>
  J1 (fun k15 => Mif t39 true (
      Mpu (fld 2 t1) fun t41 =>
      Mpu (ld1 h3 t41) fun t42 =>
      Mpu (lenV t42) fun t43 =>
      Mpu (binV .no .leq t43 (.int .i64 20)) fun t44 =>
      k15 t44 h3) (
      k15 undef h3)) fun t44_2 h16 =>
  Mpu (pickV t39 t44_2 (.bool false)) fun t45 =>
  R t45 h16
theorem sh_syngraphlaw22_small_chk : fchkF prg [13, 19, 32, 44] Tryz.f12 1 = true := by kernel_rfl
theorem sh_syngraphlaw22_small_den (t0 : Value) (H : Heap) (R : Value → Heap → Prop) : fdenF prg [13, 19, 32, 44] Tryz.f12 [t0] H R = sh_syngraphlaw22_small t0 H R := by kernel_rfl
theorem sh_syngraphlaw22_small_calls {t0 : Value} {H : Heap} {R : Value → Heap → Prop} (h : sh_syngraphlaw22_small t0 H R) : HCalls prg f_syngraphlaw22_small [t0] H R :=
  calls_ofF Tryz.func12 sh_syngraphlaw22_small_chk (by rw [sh_syngraphlaw22_small_den]; exact h)

end Go.Proofs.YtmhfanpijdgkjabGreatDoor
/- HistoryDiffs: is what comes in small? -/
namespace Go.Proofs.YtmhfanpijdgkjabGreatDoor
open Go.X Go.X.Diff
set_option maxRecDepth 100000

theorem new_item {h : Heap} {x : Item} (hwf : x.wf) {k : Value → Heap → Prop}
    (hk : ∀ h2, Keep (fun _ => False) h h2 → (∃ T f, h2[h.size]? = some (.cells (itemC x).toArray T f)) → k (Ptr h.size 0) h2) :
    Mnew h T_history_Item (zcells prg T_history_Item) fun t h5 => Mwr (stN 37 h5 t (.agg (itemC x).toArray)) fun h6 => k t h6 := by
  obtain ⟨z, hz, hzl⟩ := z_Item
  rw [hz, Mnew_some]
  have hpush : (h.push (.cells z.toArray T_history_Item (0, 0)))[h.size]? = some (.cells z.toArray T_history_Item (0, 0)) := push_new
  have hst := stN_mid (n := 37) (o := 0) (A := []) (B := z) (C := []) (B' := itemC x) (by rw [List.nil_append, List.append_nil]; exact hpush) rfl (by simp [hzl]) (itemC_len hwf) (all_of itemC_one)
  rw [List.nil_append, List.append_nil] at hst
  rw [hst, Mwr_some]
  refine hk _ ⟨by simp, fun j hj _ => ?_⟩ ⟨_, _, set_self hpush⟩
  rw [Array.getElem?_setIfInBounds, if_neg (by omega), Array.getElem?_push, if_neg (by omega)]

def bigI (x : Item) : Bool := decide (x.name.length > 100) || decide (x.ver.pre.length > 100)
def smallB (a b : List Item) : Bool := !(a.any bigI) && !(b.any bigI) && (decide (a.length ≤ 20) && decide (b.length ≤ 20))
theorem bsl_two {a a' : Option Addr} {n c n' c' : Nat} : bslV prg T_S_history_Item 2 [(0, .slice a n c), (1, .slice a' n' c')] = some #[.slice a n c, .slice a' n' c'] := by kernel_rfl
theorem Items.slice {P : Nat → Prop} {H : Heap} {v : Value} {xs : List Item} (h : Items P H v xs) : ∃ a c, v = .slice a xs.length c := by
  obtain ⟨⟨⟨a, c, rfl, _⟩, _⟩, _⟩ := h; exact ⟨a, c, by simp⟩
theorem bsl_items {P Q : Nat → Prop} {H H' : Heap} {v w : Value} {xs ys : List Item} (hv : Items P H v xs) (hw : Items Q H' w ys) : bslV prg T_S_history_Item 2 [(0, v), (1, w)] = some #[v, w] := by
  obtain ⟨a, c, rfl⟩ := hv.slice
  obtain ⟨a', c', rfl⟩ := hw.slice
  exact bsl_two

theorem big_loop {P : Nat → Prop} {h : Heap} {z : Value} {zs : List Item} {Rf : Heap → Prop} {k7 : Value → Heap → Prop} (hz : Items P h z zs) (hl : zs.length ≤ 9223372036854775807)
    (hbad : zs.any bigI = true → ∀ h', Keep (fun _ => False) h h' → Rf h') (hok : zs.any bigI = false → ∀ u h', Keep (fun _ => False) h h' → k7 u h') :
    L1 (fun k9 => fun t19_2 h10 =>
      Mpu (binV .no .lss t19_2 (.int .i64 zs.length)) fun t20 =>
      Mcd t20 (
        Mpu (ixS 37 z t19_2) fun t21 =>
        Mpu (ldN 37 h10 t21) fun t22 =>
        Mnew h10 T_history_Item (zcells prg T_history_Item) fun t6 h11 =>
        Mwr (stN 37 h11 t6 t22) fun h12 =>
        Mpu (fld 0 t6) fun t23 =>
        Mpu (ld1 h12 t23) fun t24 =>
        Mpu (lenT t24) fun t25 =>
        Mpu (binV .no .gtr t25 (.int .i64 100)) fun t26 =>
        J1 (fun k13 => Mif t26 false (
            Mpu (fld 1 t6) fun t28 =>
            Mpu (fld 3 t28) fun t29 =>
            Mpu (ld1 h12 t29) fun t30 =>
            Mpu (lenT t30) fun t31 =>
            Mpu (binV .no .gtr t31 (.int .i64 100)) fun t32 =>
            k13 t32 h12) (
            k13 undef h12)) fun t32_2 h14 =>
        Mpu (pickV t26 (.bool true) t32_2) fun t33 =>
        Mcd t33 (
          Rf h14) (
          Mpu (binV .no .add t19_2 (.int .i64 1)) fun t34 =>
          k9 t34 h14)) (
        k7 t19_2 h10)) ((.int .i64 0)) h := by
  refine L1_i (fun u h' => ∃ i : Nat, i ≤ zs.length ∧ u = .int .i64 (i : Nat) ∧ (zs.take i).any bigI = false ∧ Keep (fun _ => False) h h') (fun u _ => match u with | .int _ t => zs.length - t.toNat | _ => 0) ⟨0, Nat.zero_le _, rfl, rfl, Keep.refl⟩ ?_
  rintro _ h' ⟨i, hi, rfl, hno, kh⟩ k hk
  simp only [binV_int (op := .lss), intV, Mpu_some, Mcd_bool, decide_eq_true_eq]
  by_cases hlt : (i : Int) < zs.length
  · rw [if_pos hlt]
    have hlt' : i < zs.length := by omega
    have hg : zs[i]? = some zs[i] := List.getElem?_eq_getElem hlt'
    have ht : zs.take (i + 1) = zs.take i ++ [zs[i]] := by rw [List.take_add_one, hg]; rfl
    have hmem : zs[i] ∈ zs := List.getElem_mem _
    generalize hx : zs[i] = x at *
    obtain ⟨hwf, b, o, hix, hpt, hpb⟩ := (hz.keep kh fun _ _ => id).at hg
    have hinc : IntKind.i64.wrap ((i : Int) + 1) = (i + 1 : Nat) := by rw [wrap_id] <;> omega
    simp only [hix, Mpu_some, hpt.agg (itemC_len hwf)]
    refine new_item hwf fun h2 k2 ⟨T, f, hq⟩ => ?_
    have d0 : ld1 h2 (Ptr h'.size 0) = some (str x.name) := ld_l hq rfl
    have d4 : ld1 h2 (Ptr h'.size 4) = some (str x.ver.pre) := ld_l hq (by
      unfold itemC verC
      rw [List.getElem?_cons_succ, List.getElem?_append_left (by simp [hwf.ver.p3]), List.getElem?_append_right (by simp [hwf.ver.p3])]
      simp [hwf.ver.p3])
    have f0 : fld 0 (Ptr h'.size 0) = some (Ptr h'.size 0) := rfl
    have f1 : fld 1 (Ptr h'.size 0) = some (Ptr h'.size 1) := rfl
    have f3 : fld 3 (Ptr h'.size 1) = some (Ptr h'.size 4) := rfl
    have end_ : (Value.bool (bigI x) = Value.bool (bigI x)) → (if bigI x = true then Rf h2 else Mpu (binV .no .add (.int .i64 (i : Nat)) (.int .i64 1)) fun t34 => k t34 h2) := fun _ => by
      cases hb : bigI x with
      | true => rw [if_pos rfl]; exact hbad (List.any_eq_true.2 ⟨x, hmem, hb⟩) _ (kh.trans k2)
      | false =>
        rw [if_neg (by decide)]
        simp only [binV_int (op := .add), intV, hinc, Mpu_some]
        exact hk _ _ ⟨i + 1, hlt', rfl, by rw [ht, List.any_append, hno]; simp [hb], kh.trans k2⟩ (by show zs.length - (i + 1) < zs.length - i; omega)
    have e100 : ∀ n : Nat, binV .no .gtr (.int .i64 (n : Nat)) (.int .i64 100) = some (.bool (decide (n > 100))) := fun n => by
      rw [binV_int]; simp only [intV]; congr 2; rw [decide_eq_decide]; omega
    simp only [f0, Mpu_some, d0, lenT_str, e100]
    refine J1_i (fun u h3 => (decide (x.name.length > 100) = true ∨ u = .bool (decide (x.ver.pre.length > 100))) ∧ h2 = h3) (fun k' hk' => ?_) ?_
    · by_cases hn : x.name.length > 100
      · simp only [hn, decide_true, Mif_bool, Bool.true_eq_false, if_false]
        exact hk' _ _ ⟨.inl (decide_eq_true hn), rfl⟩
      · simp only [hn, decide_false, Mif_bool, if_true, f1, f3, d4, lenT_str, e100, Mpu_some]
        exact hk' _ _ ⟨.inr rfl, rfl⟩
    rintro u3 _ ⟨hu, rfl⟩
    have hp : pickV (.bool (decide (x.name.length > 100))) (.bool true) u3 = some (.bool (bigI x)) := by
      unfold bigI
      rw [pickV_bool]
      by_cases hn : x.name.length > 100
      · simp [hn]
      · rcases hu with hu | rfl
        · exact absurd (of_decide_eq_true hu) hn
        · simp [hn]
    rw [hp, Mpu_some, Mcd_bool]
    exact end_ rfl
  · rw [if_neg hlt]
    obtain rfl : i = zs.length := by omega
    rw [List.take_length] at hno
    exact hok hno _ _ kh

theorem c_smallR {P Q : Nat → Prop} {H : Heap} {vb va : Value} {xs ys : List Item} {k s : Int} {r : List UInt8} (hb : Items P H vb xs) (ha : Items Q H va ys) (hr : r.length = 32) (hl : xs.length ≤ 9223372036854775807) (hl2 : ys.length ≤ 9223372036854775807) :
    HCalls prg f_syngraphlaw22_small [.agg (recC k vb va s r).toArray] H fun u H' => u = .bool (smallB xs ys) ∧ Keep (fun _ => False) H H' := by
  apply sh_syngraphlaw22_small_calls
  unfold sh_syngraphlaw22_small
  simp only [Cells_agg, Mnew_some]
  generalize hH1 : H.push (.cells (recC k vb va s r).toArray T_history_Record (0, 0)) = H1
  have k1 : Keep (fun _ => False) H H1 := by rw [← hH1]; exact Keep.push
  have hq1 : H1[H.size]? = some (.cells (recC k vb va s r).toArray T_history_Record (0, 0)) := by rw [← hH1]; exact push_new
  have d1 : ∀ h, Keep (fun _ => False) H1 h → ld1 h (Ptr H.size 1) = some vb := fun h kh => ld_l (kh.at hq1 id) rfl
  have d2 : ∀ h, Keep (fun _ => False) H1 h → ld1 h (Ptr H.size 2) = some va := fun h kh => ld_l (kh.at hq1 id) rfl
  have f1 : fld 1 (Ptr H.size 0) = some (Ptr H.size 1) := rfl
  have f2 : fld 2 (Ptr H.size 0) = some (Ptr H.size 2) := rfl
  refine J1_i (fun _ h => (xs.any bigI = false ∧ ys.any bigI = false) ∧ Keep (fun _ => False) H1 h) (fun k' hk' => ?_) ?_
  · simp only [f1, f2, Mpu_some, d1 _ Keep.refl, d2 _ Keep.refl, bsl_items hb ha, Mnews_some]
    generalize hH2 : H1.push (.cells #[vb, va] T_S_history_Item (0, 0)) = H2
    have k2 : Keep (fun _ => False) H1 H2 := by rw [← hH2]; exact Keep.push
    have hq2 : H2[H1.size]? = some (.cells [vb, va].toArray T_S_history_Item (0, 0)) := by rw [← hH2]; exact push_new
    have el : lenV (.slice (some ⟨H1.size, 0, none⟩) 2 2) = some (.int .i64 (2 : Nat)) := rfl
    simp only [el, Mpu_some]
    have hno : xs.any bigI = true ∨ ys.any bigI = true → Value.bool false = .bool (smallB xs ys) := fun h => by
      unfold smallB; rcases h with h | h <;> simp [h]
    refine L1_i (fun u h => ∃ i : Nat, i ≤ 2 ∧ u = .int .i64 (i : Nat) ∧ (1 ≤ i → xs.any bigI = false) ∧ (2 ≤ i → ys.any bigI = false) ∧ Keep (fun _ => False) H2 h) (fun u _ => match u with | .int _ t => 2 - t.toNat | _ => 0) ⟨0, by omega, rfl, by omega, by omega, Keep.refl⟩ ?_
    rintro _ h ⟨i, hi, rfl, n1, n2, kh⟩ k3 hk3
    simp only [binV_int (op := .lss), intV, Mpu_some, Mcd_bool, decide_eq_true_eq]
    by_cases hlt : (i : Int) < (2 : Nat)
    · rw [if_pos hlt]
      have hinc : IntKind.i64.wrap ((i : Int) + 1) = (i + 1 : Nat) := by rw [wrap_id] <;> omega
      have hix : ixS 1 (.slice (some ⟨H1.size, 0, none⟩) 2 2) (.int .i64 (i : Nat)) = some (Ptr H1.size i) := by rw [ixS_at (by omega), Nat.zero_add]
      have h01 : i = 0 ∨ i = 1 := by omega
      have ktot : Keep (fun _ => False) H h := k1.trans (k2.trans kh)
      rcases h01 with rfl | rfl
      · have hld : ld1 h (Ptr H1.size 0) = some vb := ld_l (kh.at hq2 id) rfl
        refine J1_i (fun _ h' => xs.any bigI = false ∧ Keep (fun _ => False) h h') (fun k7 hk7 => ?_) ?_
        · simp only [hix, hld, Mpu_some, (hb.keep ktot fun _ _ => id).len]
          exact big_loop (hb.keep ktot fun _ _ => id) hl (fun hbad h' k' => ⟨hno (.inl hbad), ktot.trans k'⟩) fun hok u h' k' => hk7 _ _ ⟨hok, k'⟩
        rintro _ h' ⟨hok, k'⟩
        simp only [binV_int (op := .add), intV, hinc, Mpu_some]
        exact hk3 _ _ ⟨1, by omega, rfl, fun _ => hok, by omega, kh.trans k'⟩ (by show 2 - 1 < 2 - 0; omega)
      · have hld : ld1 h (Ptr H1.size 1) = some va := ld_l (kh.at hq2 id) rfl
        refine J1_i (fun _ h' => ys.any bigI = false ∧ Keep (fun _ => False) h h') (fun k7 hk7 => ?_) ?_
        · simp only [hix, hld, Mpu_some, (ha.keep ktot fun _ _ => id).len]
          exact big_loop (ha.keep ktot fun _ _ => id) hl2 (fun hbad h' k' => ⟨hno (.inr hbad), ktot.trans k'⟩) fun hok u h' k' => hk7 _ _ ⟨hok, k'⟩
        rintro _ h' ⟨hok, k'⟩
        simp only [binV_int (op := .add), intV, hinc, Mpu_some]
        exact hk3 _ _ ⟨2, by omega, rfl, fun _ => n1 (by omega), fun _ => hok, kh.trans k'⟩ (by show 2 - 2 < 2 - 1; omega)
    · rw [if_neg hlt]
      exact hk' _ _ ⟨⟨n1 (by omega), n2 (by omega)⟩, k2.trans kh⟩
  rintro _ h ⟨⟨n1, n2⟩, kh⟩
  have e20 : ∀ n : Nat, binV .no .leq (.int .i64 (n : Nat)) (.int .i64 20) = some (.bool (decide (n ≤ 20))) := fun n => by
    rw [binV_int]; simp only [intV]; congr 2; rw [decide_eq_decide]; omega
  have ktot : Keep (fun _ => False) H h := k1.trans kh
  simp only [f1, f2, Mpu_some, d1 _ kh, d2 _ kh, hb.len, ha.len, e20]
  refine J1_i (fun u h' => (decide (xs.length ≤ 20) = true → u = .bool (decide (ys.length ≤ 20))) ∧ h = h') (fun k' hk' => ?_) ?_
  · by_cases hn : xs.length ≤ 20
    · simp only [hn, decide_true, Mif_bool, if_true]
      exact hk' _ _ ⟨fun _ => rfl, rfl⟩
    · simp only [hn, decide_false, Mif_bool, Bool.false_eq_true, if_false]
      exact hk' _ _ ⟨fun h => absurd (of_decide_eq_true h) hn, rfl⟩
  rintro u3 _ ⟨hu, rfl⟩
  have hp : pickV (.bool (decide (xs.length ≤ 20))) u3 (.bool false) = some (.bool (smallB xs ys)) := by
    unfold smallB
    rw [pickV_bool, n1, n2]
    by_cases hn : xs.length ≤ 20
    · rw [hu (decide_eq_true hn)]; simp [hn]
    · simp [hn]
  rw [hp, Mpu_some]
  exact ⟨rfl, ktot⟩
end Go.Proofs.YtmhfanpijdgkjabGreatDoor
/- the reference's items. -/
namespace Go.Proofs.YtmhfanpijdgkjabGreatDoor
open Go.X Go.X.Diff
set_option maxRecDepth 100000

def nameC (n : Nat) : Bool := decide (97 ≤ n) && decide (n ≤ 122) || decide (48 ≤ n) && decide (n ≤ 57) || decide (n = 45)
theorem nameL_range : ∀ x : UInt8, nameL.contains x = nameC x.toNat := by
  have h : ∀ n, n < 256 → nameL.contains (UInt8.ofNat n) = nameC n := by decide +kernel
  intro x
  have := h x.toNat x.toNat_lt
  rwa [UInt8.ofNat_toNat] at this
theorem azL_index : ∀ x : UInt8, decide (Lib.indexByte azL x ≥ 0) = (decide (97 ≤ x.toNat) && decide (x.toNat ≤ 122)) := by
  have h : ∀ n, n < 256 → decide (Lib.indexByte azL (UInt8.ofNat n) ≥ 0) = (decide (97 ≤ n) && decide (n ≤ 122)) := by decide +kernel
  intro x
  have := h x.toNat x.toNat_lt
  rwa [UInt8.ofNat_toNat] at this
theorem nameOk_eq {l : List UInt8} : nameOk l = (decide (l ≠ []) && decide (l.length ≤ 32) && l.all (fun x => nameC x.toNat) && (decide (97 ≤ (l.headD 0).toNat) && decide ((l.headD 0).toNat ≤ 122))) := by
  unfold nameOk
  rw [azL_index]
  congr 2
  rw [Bool.eq_iff_iff]
  simp only [decide_eq_true_eq, List.all_eq_true, nameL_range]

theorem nameOk_cons {x : UInt8} {t : List UInt8} : nameOk (x :: t) = (decide ((x :: t).length ≤ 32) && (x :: t).all (fun x => nameC x.toNat) && (decide (97 ≤ x.toNat) && decide (x.toNat ≤ 122))) := by
  rw [nameOk_eq, decide_eq_true (by simp : x :: t ≠ []), Bool.true_and]; rfl

theorem c_refName {H : Heap} {l : List UInt8} : HCalls prg f_syngraphref19_Name [str l] H fun u H' => u = .bool (nameOk l) ∧ H' = H := by
  apply sh_syngraphref19_Name_calls
  unfold sh_syngraphref19_Name
  have e1 : binV .no .lss (.int .i64 (l.length : Nat)) (.int .i64 1) = some (.bool (decide (l.length < 1))) := by
    rw [binV_int]; simp only [intV]; congr 2; rw [decide_eq_decide]; omega
  have e2 : binV .no .gtr (.int .i64 (l.length : Nat)) (.int .i64 32) = some (.bool (decide (32 < l.length))) := by
    rw [binV_int]; simp only [intV]; congr 2; rw [decide_eq_decide]; omega
  simp only [lenT_str, e1, Mpu_some]
  refine J1_eq.2 ?_
  cases h1 : decide (l.length < 1)
  rotate_left
  · simp only [unV_not, Bool.not_true, Bool.not_false, Mif_bool, Mif_undef, pickV_bool, Mcd_bool, Mpu_some, if_true, if_false, Bool.false_eq_true, Bool.true_eq_false, decide_true, decide_false, reduceCtorEq, J1_eq, ex20, ex21, ex30, ex31, ex32, Mre_ok, Mre_nil]
    have := of_decide_eq_true h1
    obtain rfl : l = [] := List.length_eq_zero_iff.1 (by omega)
    exact ⟨rfl, trivial⟩
  have hne : l ≠ [] := by have := of_decide_eq_false h1; rintro rfl; simp at this
  simp only [e2, unV_not, Bool.not_true, Bool.not_false, Mif_bool, Mif_undef, pickV_bool, Mcd_bool, Mpu_some, if_true, if_false, Bool.false_eq_true, Bool.true_eq_false, decide_true, decide_false, reduceCtorEq, ex20, ex21, ex30, ex31, ex32, Mre_ok, Mre_nil]
  refine J1_eq.2 ?_
  cases h2 : decide (32 < l.length)
  rotate_left
  · simp only [unV_not, Bool.not_true, Bool.not_false, Mif_bool, Mif_undef, pickV_bool, Mcd_bool, Mpu_some, if_true, if_false, Bool.false_eq_true, Bool.true_eq_false, decide_true, decide_false, reduceCtorEq, J1_eq, ex20, ex21, ex30, ex31, ex32, Mre_ok, Mre_nil]
    have h := of_decide_eq_true h2
    have : decide (l.length ≤ 32) = false := by simp; omega
    refine ⟨?_, trivial⟩
    rw [nameOk_eq, this]; simp
  have h32 : decide (l.length ≤ 32) = true := by have := of_decide_eq_false h2; simp; omega
  obtain ⟨x, t, rfl⟩ : ∃ x t, l = x :: t := by
    cases l with
    | nil => exact absurd rfl hne
    | cons x t => exact ⟨x, t, rfl⟩
  have hx : ixT (str (x :: t)) (.int .i64 0) = some (.int .u8 x.toNat) := ixT_str (i := 0) rfl
  have e3 : binV .no .lss (.int .u8 x.toNat) (.int .u8 97) = some (.bool (!decide (97 ≤ x.toNat))) := by
    rw [binV_int]; simp only [intV]; congr 2; rw [← decide_not, decide_eq_decide]; omega
  have e4 : binV .no .gtr (.int .u8 x.toNat) (.int .u8 122) = some (.bool (!decide (x.toNat ≤ 122))) := by
    rw [binV_int]; simp only [intV]; congr 2; rw [← decide_not, decide_eq_decide]; omega
  simp only [hx, e3, unV_not, Bool.not_true, Bool.not_false, Mif_bool, Mif_undef, pickV_bool, Mcd_bool, Mpu_some, if_true, if_false, Bool.false_eq_true, Bool.true_eq_false, decide_true, decide_false, reduceCtorEq, ex20, ex21, ex30, ex31, ex32, Mre_ok, Mre_nil]
  refine J1_eq.2 ?_
  cases h3 : decide (97 ≤ x.toNat)
  · simp only [unV_not, Bool.not_true, Bool.not_false, Mif_bool, Mif_undef, pickV_bool, Mcd_bool, Mpu_some, if_true, if_false, Bool.false_eq_true, Bool.true_eq_false, decide_true, decide_false, reduceCtorEq, J1_eq, ex20, ex21, ex30, ex31, ex32, Mre_ok, Mre_nil]
    refine ⟨?_, trivial⟩
    rw [nameOk_cons, h3]; simp
  simp only [hx, e4, unV_not, Bool.not_true, Bool.not_false, Mif_bool, Mif_undef, pickV_bool, Mcd_bool, Mpu_some, if_true, if_false, Bool.false_eq_true, Bool.true_eq_false, decide_true, decide_false, reduceCtorEq, ex20, ex21, ex30, ex31, ex32, Mre_ok, Mre_nil]
  cases h4 : decide (x.toNat ≤ 122)
  · simp only [unV_not, Bool.not_true, Bool.not_false, Mif_bool, Mif_undef, pickV_bool, Mcd_bool, Mpu_some, if_true, if_false, Bool.false_eq_true, Bool.true_eq_false, decide_true, decide_false, reduceCtorEq, ex20, ex21, ex30, ex31, ex32, Mre_ok, Mre_nil]
    refine ⟨?_, trivial⟩
    rw [nameOk_cons, h4]; simp
  simp only [unV_not, Bool.not_true, Bool.not_false, Mif_bool, Mif_undef, pickV_bool, Mcd_bool, Mpu_some, if_true, if_false, Bool.false_eq_true, Bool.true_eq_false, decide_true, decide_false, reduceCtorEq, ex20, ex21, ex30, ex31, ex32, Mre_ok, Mre_nil]
  refine J1_i (fun _ h => (x :: t).all (fun x => nameC x.toNat) = true ∧ h = H) (fun k7 hk7 => ?_) ?_
  · refine L1_i (fun u h => ∃ i : Nat, i ≤ (x :: t).length ∧ u = .int .i64 (i : Nat) ∧ ((x :: t).take i).all (fun x => nameC x.toNat) = true ∧ h = H) (fun u _ => match u with | .int _ n => (x :: t).length - n.toNat | _ => 0) ⟨0, Nat.zero_le _, rfl, rfl, rfl⟩ ?_
    rintro _ h ⟨i, hi, rfl, hall, rfl⟩ k hk
    have hlen32 := of_decide_eq_true h32
    have elt : binV .no .lss (.int .i64 (i : Nat)) (.int .i64 ((x :: t).length : Nat)) = some (.bool (decide (i < (x :: t).length))) := by
      rw [binV_int]; simp only [intV]; congr 2; rw [decide_eq_decide]; omega
    simp only [elt, Mpu_some, Mcd_bool]
    by_cases hlt : i < (x :: t).length
    · rw [if_pos (by simpa using hlt)]
      have hg : (x :: t)[i]? = some (x :: t)[i] := List.getElem?_eq_getElem hlt
      generalize (x :: t)[i] = y at hg
      have hy : ixT (str (x :: t)) (.int .i64 (i : Nat)) = some (.int .u8 y.toNat) := ixT_str hg
      have f1 : binV .no .geq (.int .u8 y.toNat) (.int .u8 97) = some (.bool (decide (97 ≤ y.toNat))) := by
        rw [binV_int]; simp only [intV]; congr 2; rw [decide_eq_decide]; omega
      have f2 : binV .no .leq (.int .u8 y.toNat) (.int .u8 122) = some (.bool (decide (y.toNat ≤ 122))) := by
        rw [binV_int]; simp only [intV]; congr 2; rw [decide_eq_decide]; omega
      have f3 : binV .no .geq (.int .u8 y.toNat) (.int .u8 48) = some (.bool (decide (48 ≤ y.toNat))) := by
        rw [binV_int]; simp only [intV]; congr 2; rw [decide_eq_decide]; omega
      have f4 : binV .no .leq (.int .u8 y.toNat) (.int .u8 57) = some (.bool (decide (y.toNat ≤ 57))) := by
        rw [binV_int]; simp only [intV]; congr 2; rw [decide_eq_decide]; omega
      have f5 : binV .no .eql (.int .u8 y.toNat) (.int .u8 45) = some (.bool (decide (y.toNat = 45))) := by
        rw [binV_int]; simp only [intV]; congr 2
        rw [Bool.eq_iff_iff, beq_iff_eq, decide_eq_true_eq]; omega
      have bad : nameC y.toNat = false → Value.bool false = .bool (nameOk (x :: t)) ∧ True := fun hb => by
        refine ⟨?_, trivial⟩
        have : (x :: t).all (fun x => nameC x.toNat) = false := by
          rw [List.all_eq_false]
          exact ⟨y, List.mem_of_getElem? hg, by rw [hb]; decide⟩
        rw [nameOk_cons, this]; simp
      have good : nameC y.toNat = true → k (.int .i64 (i + 1 : Nat)) h := fun hb => by
        refine hk _ _ ⟨i + 1, hlt, rfl, ?_, rfl⟩ (by show (x :: t).length - (i + 1) < (x :: t).length - i; omega)
        rw [List.take_add_one, hg, List.all_append, hall]
        show (true && (nameC y.toNat && true)) = true
        rw [hb]; rfl
      have eadd := add_one' (n := i) (by omega)
      simp only [hy, f1, f2, f3, f4, f5, Mpu_some]
      cases g1 : decide (97 ≤ y.toNat) <;> cases g2 : decide (y.toNat ≤ 122) <;> cases g3 : decide (48 ≤ y.toNat) <;> cases g4 : decide (y.toNat ≤ 57) <;> cases g5 : decide (y.toNat = 45) <;>
        simp only [eadd, unV_not, Bool.not_true, Bool.not_false, Mif_bool, Mif_undef, pickV_bool, Mcd_bool, Mpu_some, if_true, if_false, Bool.false_eq_true, Bool.true_eq_false, decide_true, decide_false, reduceCtorEq, J1_eq, ex20, ex21, ex30, ex31, ex32, Mre_ok, Mre_nil] <;>
        first
        | exact good (by unfold nameC; rw [g1, g2, g3, g4, g5]; rfl)
        | exact bad (by unfold nameC; rw [g1, g2, g3, g4, g5]; rfl)
    · rw [if_neg (by simpa using hlt)]
      rw [List.take_of_length_le (by omega)] at hall
      exact hk7 _ _ ⟨hall, rfl⟩
  · rintro _ _ ⟨hall, rfl⟩
    refine ⟨?_, rfl⟩
    rw [nameOk_cons, hall, h32, h3, h4]; rfl
theorem c_refVersion {H : Heap} {v : Ver} (hv : v.wf) : HCalls prg f_syngraphlaw22_refVersion [.agg (verC v).toArray] H fun u H' => u = .agg (verC v).toArray ∧ Keep (fun _ => False) H H' := by
  apply sh_syngraphlaw22_refVersion_calls
  unfold sh_syngraphlaw22_refVersion
  simp only [Cells_agg, Mnew_some, z_RV]
  generalize hH1 : H.push (.cells (verC v).toArray T_version_Version (0, 0)) = H1
  have k1 : Keep (fun _ => False) H H1 := by rw [← hH1]; exact Keep.push
  have a1 : At H1 H.size (verC v) := by rw [← hH1]; exact At.push
  generalize hH2 : H1.push (.cells (verC ⟨[0, 0, 0], []⟩).toArray T_syngraphref18_Version (0, 0)) = H2
  have k2 : Keep (fun _ => False) H1 H2 := by rw [← hH2]; exact Keep.push
  have a2 : At H2 H1.size (verC zeroV) := by rw [← hH2]; exact At.push
  have a12 := a1.keep k2 id
  obtain ⟨h3, e3, a3, k3⟩ := a2.st (n := 4) (ds := verC v) (verC_len zeroV_wf) (verC_len hv) verC_one
  simp only [fld_ptr, Mpu_some, Nat.zero_add, ver_ld3 a12 hv, ver_pre a12 hv, b_RV hv, e3, Mwr_some, ver_ld4 a3 hv]
  exact ⟨by trivial, (k1.trans k2).fresh k3 fun b hb => by have := k1.1; omega⟩
end Go.Proofs.YtmhfanpijdgkjabGreatDoor
/- the reference's records. -/
namespace Go.Proofs.YtmhfanpijdgkjabGreatDoor
open Go.X Go.X.Diff
set_option maxRecDepth 100000

theorem str_geq {a b : List UInt8} {q : EqK} : binV q .geq (str a) (str b) = some (.bool (!lessB a b)) := by rw [binV_str]; exact strV_geq
theorem showF_len40 {v : Ver} (h : v.wf) : (showF v).length ≤ 40 := showF_len h.p3
def ItemsB (H : Heap) (xs : List Item) (u : Value) (H' : Heap) : Prop :=
  (∃ w, u = .tuple #[w, .bool (itemsOk xs)] ∧ (itemsOk xs = true → Buf (fun b => H.size ≤ b ∧ b < H'.size) H' w (xs.map itemB).flatten)) ∧ Keep (fun _ => False) H H'

theorem c_itemsBytes {P : Nat → Prop} {H : Heap} {v : Value} {xs : List Item} (hv : Items P H v xs) (hl : xs.length ≤ 256) :
    HCalls prg f_syngraphlaw22_itemsBytes [v] H (ItemsB H xs) := by
  apply sh_syngraphlaw22_itemsBytes_calls
  unfold sh_syngraphlaw22_itemsBytes
  refine J2_i (fun t _ h => itemsOk xs = true ∧ Buf (H.size ≤ ·) h t (xs.map itemB).flatten ∧ Keep (fun _ => False) H h) (fun k1 hk1 => ?_) ?_
  · rw [hv.len, Mpu_some]
    refine L2_i (fun t4 t9 h => ∃ i : Nat, i ≤ xs.length ∧ t9 = .int .i64 (i : Nat) ∧ (List.range i).all (itemAt xs) = true ∧ Buf (H.size ≤ ·) h t4 ((xs.take i).map itemB).flatten ∧ ((xs.take i).map itemB).flatten.length ≤ i * 112 ∧ Keep (fun _ => False) H h)
      (fun _ u _ => match u with | .int _ t => xs.length - t.toNat | _ => 0) ⟨0, Nat.zero_le _, rfl, rfl, .inl ⟨rfl, rfl⟩, by simp, Keep.refl⟩ ?_
    rintro t4 _ h ⟨i, hi, rfl, hall, hb, hbl, kh⟩ k hk
    have elt : binV .no .lss (.int .i64 (i : Nat)) (.int .i64 (xs.length : Nat)) = some (.bool (decide (i < xs.length))) := by
      rw [binV_int]; simp only [intV]; congr 2; rw [decide_eq_decide]; omega
    rw [elt, Mpu_some, Mcd_bool]
    by_cases hlt : i < xs.length
    · rw [if_pos (by simpa using hlt)]
      have hg : xs[i]? = some xs[i] := List.getElem?_eq_getElem hlt
      generalize hx : xs[i] = x at hg
      obtain ⟨hwf, b, o, hix, hpt, hpb⟩ := (hv.keep kh fun _ _ => id).at hg
      have hbad : itemAt xs i = false → ∀ h', Keep (fun _ => False) H h' → ItemsB H xs (.tuple #[.slice none 0 0, .bool false]) h' := fun hb h' k' => by
        have : (List.range xs.length).all (itemAt xs) = false := by
          rw [List.all_eq_false]; exact ⟨i, by simpa using hlt, by simp [hb]⟩
        have hno : itemsOk xs = false := by unfold itemsOk; rw [this]; rfl
        exact ⟨⟨_, by rw [hno], fun h => by rw [hno] at h; cases h⟩, k'⟩
      have hgood : itemAt xs i = true → (List.range (i + 1)).all (itemAt xs) = true := fun hb => by
        rw [List.range_succ, List.all_append, hall]; simp [hb]
      simp only [hix, Mpu_some, hpt.agg (itemC_len hwf)]
      refine new_item hwf fun h6 k6 ⟨T, f, hq⟩ => ?_
      have A0 : ∀ {g}, Keep (fun _ => False) h6 g → ld1 g (Ptr h.size 0) = some (str x.name) := fun k => ld_l (k.at hq id) rfl
      have AV : ∀ {g}, Keep (fun _ => False) h6 g → ldN 4 g (Ptr h.size 1) = some (.agg (verC x.ver).toArray) := fun k =>
        ldN_mid (A := [str x.name]) (B := verC x.ver) (C := bcells x.sum) (by rw [← item_shape hwf]; exact k.at hq id) rfl (verC_len hwf.ver).symm
      have AS : ∀ {g}, Keep (fun _ => False) h6 g → ldN 32 g (Ptr h.size 5) = some (bv x.sum) := fun k =>
        ldN_mid (A := [str x.name] ++ verC x.ver) (B := bcells x.sum) (C := []) (by rw [List.append_nil, ← item_shape hwf]; exact k.at hq id) (by simp [verC_len hwf.ver]) (by simp [bcells, hwf.sum])
      have f1 : fld 1 (Ptr h.size 0) = some (Ptr h.size 1) := rfl
      have f5 : fld 5 (Ptr h.size 0) = some (Ptr h.size 5) := rfl
      have f0 : ∀ q o, fld 0 (Ptr q o) = some (Ptr q o) := fun q o => rfl
      simp only [f0, A0 Keep.refl, Mpu_some]
      refine call_i c_refName ?_
      rintro _ h7 ⟨rfl, rfl⟩
      cases hn : nameOk x.name
      · simp only [unV_not, Bool.not_true, Bool.not_false, Mif_bool, Mif_undef, pickV_bool, Mcd_bool, Mpu_some, if_true, if_false, Bool.false_eq_true, Bool.true_eq_false, decide_true, decide_false, reduceCtorEq, J1_eq, ex20, ex21, ex30, ex31, ex32, Mre_ok, Mre_nil]
        exact hbad (by unfold itemAt; rw [hg]; simp [hn]) _ (kh.trans k6)
      simp only [unV_not, Bool.not_true, Bool.not_false, Mif_bool, Mif_undef, pickV_bool, Mcd_bool, Mpu_some, if_true, if_false, Bool.false_eq_true, Bool.true_eq_false, decide_true, decide_false, reduceCtorEq, ex20, ex21, ex30, ex31, ex32, Mre_ok, Mre_nil]
      refine J1_eq.2 ?_
      simp only [f1, AV Keep.refl, unV_not, Bool.not_true, Bool.not_false, Mif_bool, Mif_undef, pickV_bool, Mcd_bool, Mpu_some, if_true, if_false, Bool.false_eq_true, Bool.true_eq_false, decide_true, decide_false, reduceCtorEq, ex20, ex21, ex30, ex31, ex32, Mre_ok, Mre_nil]
      refine call_i (c_refVersion hwf.ver) ?_
      rintro _ h9 ⟨rfl, k9⟩
      refine call_i (c_refRight hwf.ver) ?_
      rintro _ h10 ⟨rfl, k10⟩
      have kk10 := k9.trans k10
      cases hvo : verOk x.ver
      · simp only [unV_not, Bool.not_true, Bool.not_false, Mif_bool, Mif_undef, pickV_bool, Mcd_bool, Mpu_some, if_true, if_false, Bool.false_eq_true, Bool.true_eq_false, decide_true, decide_false, reduceCtorEq, J1_eq, ex20, ex21, ex30, ex31, ex32, Mre_ok, Mre_nil]
        exact hbad (by unfold itemAt; rw [hg]; simp [hvo]) _ (kh.trans (k6.trans kk10))
      have hi0 : binV .no .gtr (.int .i64 (i : Nat)) (.int .i64 0) = some (.bool (decide (0 < i))) := by
        rw [binV_int]; simp only [intV]; congr 2; rw [decide_eq_decide]; omega
      /- what goes on -/
      have go : itemAt xs i = true → (Mpu (fld 0 (Ptr h.size 0)) fun t41 =>
          Mpu (ld1 h10 t41) fun t42 =>
          Mpu (fld 1 (Ptr h.size 0)) fun t43 =>
          Mpu (ldN 4 h10 t43) fun t44 =>
          Mpu (fld 5 (Ptr h.size 0)) fun t47 =>
          Mpu (ldN 32 h10 t47) fun t48 =>
          Mcall prg f_syngraphlaw22_refVersion [t44] h10 fun t45 h18 =>
          Mre [(ldN 32 h18 t47, t48), (ld1 h18 t41, t42)] (
          Mcall prg f_syngraphref18_Show [t45] h18 fun t46 h19 =>
          Mre [(ldN 32 h19 t47, t48), (ld1 h19 t41, t42)] (
          Mcall prg f_syngraphref22_Item [t42, t46, t48] h19 fun t49 h20 =>
          Mapp T_uint8 1 1 h20 t4 t49 fun t50 h21 =>
          Mpu (binV .no .add (.int .i64 (i : Nat)) (.int .i64 1)) fun t51 =>
          k t50 t51 h21))) := fun hok => by
        have hnl := nameOk_len hn
        have hsl := showF_len40 hwf.ver
        simp only [f0, f1, f5, A0 kk10, AV kk10, AS kk10, Mpu_some]
        refine call_i (c_refVersion hwf.ver) ?_
        rintro _ h18 ⟨rfl, k18⟩
        have kk18 := kk10.trans k18
        simp only [AS kk18, A0 kk18, Mre_ok, Mre_nil]
        refine call_i (c_refShow hwf.ver hvo) ?_
        rintro _ h19 ⟨rfl, k19⟩
        have kk19 := kk18.trans k19
        simp only [AS kk19, A0 kk19, Mre_ok, Mre_nil]
        refine call_i (c_refItem (by omega) (by omega) hwf.sum) ?_
        rintro t49 h20 ⟨hb20, k20⟩
        have ktot := kh.trans (k6.trans (kk19.trans k20))
        have hb' := hb.keep (k6.trans (kk19.trans k20)) fun _ _ => id
        have hil : (itemB x).length ≤ 112 := itemB_len4 ⟨hwf, hn, hvo⟩
        have htk : ((xs.take (i + 1)).map itemB).flatten = ((xs.take i).map itemB).flatten ++ itemB x := by
          rw [List.take_add_one, hg, List.map_append, List.flatten_append]
          show _ ++ ([itemB x] : List (List UInt8)).flatten = _
          rw [List.flatten_cons, List.flatten_nil, List.append_nil]
        refine Buf.app (m := itemB x) hb' hb20.sl.bs (by omega) ktot.1 fun u h21 hb21 k21 => ?_
        rw [add_one' (by omega), Mpu_some]
        exact hk _ _ _ ⟨i + 1, hlt, rfl, hgood hok, by rw [htk]; exact hb21, by rw [htk, List.length_append]; omega, ktot.fresh k21 fun b hb => hb⟩ (by show xs.length - (i + 1) < xs.length - i; omega)
      have ktot10 := kh.trans (k6.trans kk10)
      have hok_of : itemAt xs i = (match xs[i - 1]? with | some y => decide (i = 0) || lessB y.name x.name | none => true) := by
        conv => lhs; unfold itemAt
        rw [hg]; simp only [hn, hvo, Bool.true_and]
        cases xs[i - 1]? <;> rfl
      cases h0 : decide (0 < i)
      · have hi00 : i = 0 := by have := of_decide_eq_false h0; omega
        have hok : itemAt xs i = true := by rw [hok_of]; split <;> simp [hi00]
        have := go hok
        simp only [f0, f1, f5, A0 kk10, Mpu_some] at this
        simp only [hi0, h0, f0, f1, f5, A0 kk10, unV_not, Bool.not_true, Bool.not_false, Mif_bool, Mif_undef, pickV_bool, Mcd_bool, Mpu_some, if_true, if_false, Bool.false_eq_true, Bool.true_eq_false, decide_true, decide_false, reduceCtorEq, J1_eq, ex20, ex21, ex30, ex31, ex32, Mre_ok, Mre_nil]
        exact this
      · have hpos := of_decide_eq_true h0
        have hi1 : binV .no .sub (.int .i64 (i : Nat)) (.int .i64 1) = some (.int .i64 ((i - 1 : Nat) : Int)) := by
          rw [binV_int]; simp only [intV]; rw [wrap_id (by omega) (by omega), show ((i : Int) - 1) = ((i - 1 : Nat) : Int) by omega]
        have hg1 : xs[i - 1]? = some xs[i - 1] := List.getElem?_eq_getElem (by omega)
        generalize xs[i - 1] = y at hg1
        obtain ⟨_, b1, o1, hix1, hpt1, _⟩ := (hv.keep ktot10 fun _ _ => id).at hg1
        have hy : ld1 h10 (Ptr b1 o1) = some (str y.name) := hpt1.cell0 rfl
        rw [hg1] at hok_of
        simp only at hok_of
        have hi0' : decide (i = 0) = false := by simp; omega
        rw [hi0', Bool.false_or] at hok_of
        have hge : binV .no .geq (str y.name) (str x.name) = some (.bool (!lessB y.name x.name)) := str_geq
        cases hlb : lessB y.name x.name
        · simp only [hi0, h0, hi1, hix1, f0, hy, A0 kk10, hge, hlb, unV_not, Bool.not_true, Bool.not_false, Mif_bool, Mif_undef, pickV_bool, Mcd_bool, Mpu_some, if_true, if_false, Bool.false_eq_true, Bool.true_eq_false, decide_true, decide_false, reduceCtorEq, J1_eq, ex20, ex21, ex30, ex31, ex32, Mre_ok, Mre_nil]
          exact hbad (by rw [hok_of, hlb]) _ ktot10
        · have := go (by rw [hok_of, hlb])
          simp only [hi0, h0, hi1, hix1, f0, f1, f5, hy, A0 kk10, hge, hlb, unV_not, Bool.not_true, Bool.not_false, Mif_bool, Mif_undef, pickV_bool, Mcd_bool, Mpu_some, if_true, if_false, Bool.false_eq_true, Bool.true_eq_false, decide_true, decide_false, reduceCtorEq, J1_eq, ex20, ex21, ex30, ex31, ex32, Mre_ok, Mre_nil]
          simp only [f0, f1, f5, A0 kk10, Mpu_some] at this
          exact this
    · rw [if_neg (by simpa using hlt)]
      obtain rfl : i = xs.length := by omega
      rw [List.take_length] at hb
      refine hk1 _ _ _ ⟨?_, hb, kh⟩
      unfold itemsOk
      rw [hall]; simp [hl]
  · rintro t _ h ⟨hok, hb, kh⟩
    exact ⟨⟨t, by rw [hok], fun _ => hb.bound⟩, kh⟩
end Go.Proofs.YtmhfanpijdgkjabGreatDoor
/- the reference's records; the walk of HistoryRecords. -/
namespace Go.Proofs.YtmhfanpijdgkjabGreatDoor
open Go.X Go.X.Diff
set_option maxRecDepth 100000

theorem bsl7S {a b c d e f g : Option Addr} {n1 n2 n3 n4 n5 n6 n7 m1 m2 m3 m4 m5 m6 m7 : Nat} : bslV prg T_S_uint8 7 [(0, .slice a n1 m1), (1, .slice b n2 m2), (2, .slice c n3 m3), (3, .slice d n4 m4), (4, .slice e n5 m5), (5, .slice f n6 m6), (6, .slice g n7 m7)] = some #[.slice a n1 m1, .slice b n2 m2, .slice c n3 m3, .slice d n4 m4, .slice e n5 m5, .slice f n6 m6, .slice g n7 m7] := by kernel_rfl

theorem c_refRecord {P Q : Nat → Prop} {H : Heap} {va vb : Value} {k n m s : Nat} {a b r : List UInt8} (ha : Sl P H va a) (hb : Sl Q H vb b) (hr : r.length = 32) (hal : a.length ≤ 1048576) (hbl : b.length ≤ 1048576) :
    HCalls prg f_syngraphref22_Record [.int .i64 (k : Nat), va, .int .i64 (n : Nat), vb, .int .i64 (m : Nat), .int .i64 (s : Nat), bv r] H fun u H' =>
      Buf (fun b => H.size ≤ b ∧ b < H'.size) H' u (numB k 8 ++ (numB n 8 ++ a) ++ (numB m 8 ++ b) ++ numB s 8 ++ r) ∧ Keep (fun _ => False) H H' := by
  apply sh_syngraphref22_Record_calls
  unfold sh_syngraphref22_Record
  simp only [cells_bv, Mnew_some]
  generalize hH1 : H.push (.cells (bcells r).toArray T_A32_uint8 (0, 0)) = h1
  have k1 : Keep (fun _ => False) H h1 := by rw [← hH1]; exact Keep.push
  have a1 : At h1 H.size (bcells r) := by rw [← hH1]; exact At.push
  have e : slA 32 1 (.pointer (some ⟨H.size, 0, none⟩)) none none none = some (.slice (some ⟨H.size, 0, none⟩) r.length r.length) := by rw [hr]; rfl
  rw [e, Mpu_some]
  refine call_i c_refInt ?_
  rintro t16 h2 ⟨b2, k2⟩
  refine call_i c_refInt ?_
  rintro t18 h3 ⟨b3, k3⟩
  refine call_i c_refInt ?_
  rintro t21 h4 ⟨b4, k4⟩
  refine call_i c_refInt ?_
  rintro t24 h5 ⟨b5, k5⟩
  have s2 := b2.sl.keep (k3.trans (k4.trans k5)) fun _ _ => id
  have s3 := b3.sl.keep (k4.trans k5) fun _ _ => id
  have s4 := b4.sl.keep k5 fun _ _ => id
  have s5 := b5.sl
  have k05 := k1.trans (k2.trans (k3.trans (k4.trans k5)))
  have sa := ha.keep k05 fun _ _ => id
  have sb := hb.keep k05 fun _ _ => id
  have s1 := sl_arr (a1.keep (k2.trans (k3.trans (k4.trans k5))) id)
  obtain ⟨x2, c2, e2, _⟩ := s2.sl
  obtain ⟨x3, c3, e3, _⟩ := s3.sl
  obtain ⟨x4, c4, e4, _⟩ := s4.sl
  obtain ⟨x5, c5, e5, _⟩ := s5.sl
  obtain ⟨xa, ca, ea, _⟩ := sa.sl
  obtain ⟨xb, cb, eb, _⟩ := sb.sl
  subst e2 e3 e4 e5 ea eb
  rw [bsl7S, Mnews_some]
  generalize hvs : [Value.slice x2 (numB (k : Nat) 8).length c2, .slice x3 (numB (n : Nat) 8).length c3, .slice xa a.length ca, .slice x4 (numB (m : Nat) 8).length c4, .slice xb b.length cb, .slice x5 (numB (s : Nat) 8).length c5, .slice (some ⟨H.size, 0, none⟩) r.length r.length] = vs
  have hvl : vs.length = 7 := by rw [← hvs]; rfl
  generalize hH6 : h5.push (.cells vs.toArray T_S_uint8 (0, 0)) = h6
  have k6 : Keep (fun _ => False) h5 h6 := by rw [← hH6]; exact Keep.push
  have a6 : At h6 h5.size vs := by rw [← hH6]; exact At.push
  have kk := k05.trans k6
  refine call_i (c_refJoin (P := fun _ => True) (ls := [numB (k : Nat) 8, numB (n : Nat) 8, a, numB (m : Nat) 8, b, numB (s : Nat) 8, r]) a6 hvl rfl ?_ (by simp; omega) (by omega)) ?_
  · subst hvs
    intro i v l hv hl
    have mono : ∀ {P : Nat → Prop} {v : Value} {l : List UInt8}, Sl P h5 v l → Sl (fun _ => True) h6 v l := fun h => ⟨(h.keep k6 fun _ _ => id).bs, h.sl, fun _ _ => trivial⟩
    match i, hv, hl with
    | 0, hv, hl => cases hv; cases hl; exact mono s2
    | 1, hv, hl => cases hv; cases hl; exact mono s3
    | 2, hv, hl => cases hv; cases hl; exact mono sa
    | 3, hv, hl => cases hv; cases hl; exact mono s4
    | 4, hv, hl => cases hv; cases hl; exact mono sb
    | 5, hv, hl => cases hv; cases hl; exact mono s5
    | 6, hv, hl => cases hv; cases hl; exact mono s1
    | i + 7, hv, hl => simp at hv
  · rintro u h7 ⟨hb7, k7⟩
    have q := kk.1
    refine ⟨?_, kk.trans k7⟩
    have e7 : [numB (k : Nat) 8, numB (n : Nat) 8, a, numB (m : Nat) 8, b, numB (s : Nat) 8, r].flatten = numB k 8 ++ (numB n 8 ++ a) ++ (numB m 8 ++ b) ++ numB s 8 ++ r := by simp
    rw [e7] at hb7
    exact hb7.mono fun b hb => ⟨by omega, hb.2⟩

theorem items_small {xs : List Item} (h : itemsOk xs = true) (hw : ∀ x ∈ xs, x.wf) : ((xs.map itemB).flatten).length ≤ 100000 := by
  obtain ⟨h1, h2⟩ := itemsOk_spec h hw
  have := putB_len4 h2
  unfold putB at this
  rw [List.length_append, numB_len] at this
  omega

theorem c_recordBytes {P : Nat → Prop} {H : Heap} {vb va : Value} {a : RecA} (hb : Items P H vb a.bef) (ha : Items P H va a.aft) (hr : a.r.length = 32) (l1 : a.bef.length ≤ 256) (l2 : a.aft.length ≤ 256) :
    HCalls prg f_syngraphlaw22_recordBytes [.agg (recC a.k vb va a.s a.r).toArray] H fun u H' =>
      (∃ w, u = .tuple #[w, .bool (recOk a)] ∧ (recOk a = true → Buf (fun b => H.size ≤ b ∧ b < H'.size) H' w (recB a))) ∧ Keep (fun _ => False) H H' := by
  apply sh_syngraphlaw22_recordBytes_calls
  unfold sh_syngraphlaw22_recordBytes
  simp only [Cells_agg, Mnew_some]
  generalize hH1 : H.push (.cells (recC a.k vb va a.s a.r).toArray T_history_Record (0, 0)) = h1
  have k1 : Keep (fun _ => False) H h1 := by rw [← hH1]; exact Keep.push
  have a1 : At h1 H.size (recC a.k vb va a.s a.r) := by rw [← hH1]; exact At.push
  have L0 : ∀ {h}, Keep (fun _ => False) h1 h → ld1 h (Ptr H.size 0) = some (.int .i64 a.k) := fun k => (a1.keep k id).ld rfl
  have L1 : ∀ {h}, Keep (fun _ => False) h1 h → ld1 h (Ptr H.size 1) = some vb := fun k => (a1.keep k id).ld rfl
  have L2 : ∀ {h}, Keep (fun _ => False) h1 h → ld1 h (Ptr H.size 2) = some va := fun k => (a1.keep k id).ld rfl
  have L3 : ∀ {h}, Keep (fun _ => False) h1 h → ld1 h (Ptr H.size 3) = some (.int .i64 a.s) := fun k => (a1.keep k id).ld rfl
  have L4 : ∀ {h}, Keep (fun _ => False) h1 h → ldN 32 h (Ptr H.size 4) = some (bv a.r) := fun k => by
    obtain ⟨T, hq⟩ := a1.keep k id
    exact ldN_mid (A := [Value.int .i64 a.k, vb, va, .int .i64 a.s]) (B := bcells a.r) (C := []) (by rw [List.append_nil]; exact hq) rfl (by simp [bcells, hr])
  simp only [fld_ptr, Nat.zero_add, Nat.reduceAdd, L1 Keep.refl, Mpu_some]
  refine call_i (c_itemsBytes (hb.keep k1 fun _ _ => id) l1) ?_
  rintro _ h2 ⟨⟨w1, rfl, hw1⟩, k2⟩
  have ex0 : ∀ x y : Value, extV 0 (.tuple #[x, y]) = some x := fun _ _ => rfl
  have ex1 : ∀ x y : Value, extV 1 (.tuple #[x, y]) = some y := fun _ _ => rfl
  simp only [ex0, ex1, L2 k2, Mpu_some]
  refine call_i (c_itemsBytes (ha.keep (k1.trans k2) fun _ _ => id) l2) ?_
  rintro _ h3 ⟨⟨w2, rfl, hw2⟩, k3⟩
  have k13 := k2.trans k3
  have k03 := k1.trans k13
  have no : recOk a = false → ∀ {w}, (∃ w', Value.tuple #[w, .bool false] = .tuple #[w', .bool (recOk a)] ∧ (recOk a = true → Buf (fun b => H.size ≤ b ∧ b < h3.size) h3 w' (recB a))) ∧ Keep (fun _ => False) H h3 :=
    fun h w => ⟨⟨w, by rw [h], fun h' => by rw [h] at h'; cases h'⟩, k03⟩
  have g1 : binV .no .lss (.int .i64 a.k) (.int .i64 1) = some (.bool (!decide (a.k ≥ 1))) := by
    rw [binV_int]; simp only [intV]; congr 2; rw [← decide_not, decide_eq_decide]; omega
  have g2 : binV .no .gtr (.int .i64 a.k) (.int .i64 4) = some (.bool (!decide (a.k ≤ 4))) := by
    rw [binV_int]; simp only [intV]; congr 2; rw [← decide_not, decide_eq_decide]; omega
  have g3 : binV .no .lss (.int .i64 a.s) (.int .i64 0) = some (.bool (!decide (a.s ≥ 0))) := by
    rw [binV_int]; simp only [intV]; congr 2; rw [← decide_not, decide_eq_decide]; omega
  have g4 : binV .no .gtr (.int .i64 a.s) (.int .i64 1048576) = some (.bool (!decide (a.s ≤ 1048576))) := by
    rw [binV_int]; simp only [intV]; congr 2; rw [← decide_not, decide_eq_decide]; omega
  have hok : recOk a = (decide (a.k ≥ 1) && decide (a.k ≤ 4) && itemsOk a.bef && itemsOk a.aft && (decide (a.s ≥ 0) && decide (a.s ≤ 1048576))) := rfl
  simp only [ex0, ex1, Mpu_some]
  cases o1 : itemsOk a.bef
  · simp only [unV_not, Bool.not_true, Bool.not_false, Mif_bool, Mif_undef, pickV_bool, Mcd_bool, Mpu_some, if_true, if_false, Bool.false_eq_true, Bool.true_eq_false, decide_true, decide_false, reduceCtorEq, J1_eq, ex20, ex21, ex30, ex31, ex32, Mre_ok, Mre_nil]; exact no (by rw [hok, o1]; simp)
  cases o2 : itemsOk a.aft
  · simp only [unV_not, Bool.not_true, Bool.not_false, Mif_bool, Mif_undef, pickV_bool, Mcd_bool, Mpu_some, if_true, if_false, Bool.false_eq_true, Bool.true_eq_false, decide_true, decide_false, reduceCtorEq, J1_eq, ex20, ex21, ex30, ex31, ex32, Mre_ok, Mre_nil]; exact no (by rw [hok, o2]; simp)
  simp only [L0 k13, L3 k13, g1, g2, g3, g4, unV_not, Bool.not_true, Bool.not_false, Mif_bool, Mif_undef, pickV_bool, Mcd_bool, Mpu_some, if_true, if_false, Bool.false_eq_true, Bool.true_eq_false, decide_true, decide_false, reduceCtorEq, ex20, ex21, ex30, ex31, ex32, Mre_ok, Mre_nil]
  cases o3 : decide (a.k ≥ 1)
  · simp only [L0 k13, L3 k13, g1, g2, g3, g4, o3, unV_not, Bool.not_true, Bool.not_false, Mif_bool, Mif_undef, pickV_bool, Mcd_bool, Mpu_some, if_true, if_false, Bool.false_eq_true, Bool.true_eq_false, decide_true, decide_false, reduceCtorEq, J1_eq, ex20, ex21, ex30, ex31, ex32, Mre_ok, Mre_nil]; exact no (by rw [hok, o3]; simp)
  cases o4 : decide (a.k ≤ 4)
  · simp only [L0 k13, L3 k13, g1, g2, g3, g4, o3, o4, unV_not, Bool.not_true, Bool.not_false, Mif_bool, Mif_undef, pickV_bool, Mcd_bool, Mpu_some, if_true, if_false, Bool.false_eq_true, Bool.true_eq_false, decide_true, decide_false, reduceCtorEq, J1_eq, ex20, ex21, ex30, ex31, ex32, Mre_ok, Mre_nil]; exact no (by rw [hok, o4]; simp)
  cases o5 : decide (a.s ≥ 0)
  · simp only [L0 k13, L3 k13, g1, g2, g3, g4, o3, o4, o5, unV_not, Bool.not_true, Bool.not_false, Mif_bool, Mif_undef, pickV_bool, Mcd_bool, Mpu_some, if_true, if_false, Bool.false_eq_true, Bool.true_eq_false, decide_true, decide_false, reduceCtorEq, J1_eq, ex20, ex21, ex30, ex31, ex32, Mre_ok, Mre_nil]; exact no (by rw [hok, o5]; simp)
  cases o6 : decide (a.s ≤ 1048576)
  · simp only [L0 k13, L3 k13, g1, g2, g3, g4, o3, o4, o5, o6, unV_not, Bool.not_true, Bool.not_false, Mif_bool, Mif_undef, pickV_bool, Mcd_bool, Mpu_some, if_true, if_false, Bool.false_eq_true, Bool.true_eq_false, decide_true, decide_false, reduceCtorEq, J1_eq, ex20, ex21, ex30, ex31, ex32, Mre_ok, Mre_nil]; exact no (by rw [hok, o6]; simp)
  have hokt : recOk a = true := by rw [hok, o1, o2, o3, o4, o5, o6]; rfl
  simp only [L0 k13, L1 k13, L2 k13, L3 k13, L4 k13, (hb.keep k03 fun _ _ => id).len, (ha.keep k03 fun _ _ => id).len, g1, g2, g3, g4, o3, o4, o5, o6, unV_not, Bool.not_true, Bool.not_false, Mif_bool, Mif_undef, pickV_bool, Mcd_bool, Mpu_some, if_true, if_false, Bool.false_eq_true, Bool.true_eq_false, decide_true, decide_false, reduceCtorEq, J1_eq, ex20, ex21, ex30, ex31, ex32, Mre_ok, Mre_nil]
  have ek : a.k = ((a.k.toNat : Nat) : Int) := by have := of_decide_eq_true o3; omega
  have es : a.s = ((a.s.toNat : Nat) : Int) := by have := of_decide_eq_true o5; omega
  have hc := c_refRecord (k := a.k.toNat) (n := a.bef.length) (m := a.aft.length) (s := a.s.toNat) ((hw1 o1).sl.keep k3 fun _ _ => id) (hw2 o2).sl hr (Nat.le_trans (items_small o1 hb.2) (by decide)) (Nat.le_trans (items_small o2 ha.2) (by decide))
  rw [← ek, ← es] at hc
  refine call_i hc ?_
  rintro u h14 ⟨hb14, k14⟩
  refine ⟨⟨u, by rw [hokt], fun _ => ?_⟩, k03.trans k14⟩
  have q := k03.1
  exact hb14.mono fun b hb => ⟨by omega, hb.2⟩

/- are two records one? -/
def eqRec (a b : RecA) : Bool := decide (a.k = b.k) && decide (a.bef = b.bef) && decide (a.aft = b.aft) && (decide (a.s = b.s) && decide (a.r = b.r))
theorem eqRec_self {a : RecA} : eqRec a a = true := by simp [eqRec]
theorem eqK_Head : eqK prg T_head_Head = .flat ([0] ++ List.replicate 32 0) := by kernel_rfl
theorem eqHead {s t : Int} {a b : List UInt8} (ha : a.length = 32) (hb : b.length = 32) : binV (eqK prg T_head_Head) .eql (.agg (Value.int .i64 s :: bcells a).toArray) (.agg (Value.int .i64 t :: bcells b).toArray) = some (.bool (decide (s = t) && decide (a = b))) := by
  rw [binV_agg_eq, eqK_Head]
  show (eqCells ([0] ++ List.replicate 32 0) (icells .i64 [s] ++ bcells a) (icells .i64 [t] ++ bcells b)).map Value.bool = _
  have h1 := eqCells_ints (k := .i64) (l := [s]) (m := [t]) rfl
  have h2 := eqCells_bytes (l := a) (m := b) (by omega)
  rw [ha] at h2
  have := eqCells_app (k1 := [0]) rfl rfl h1 h2
  rw [this]
  simp
theorem c_RecEqual {P Q : Nat → Prop} {H : Heap} {vb va wb wa : Value} {a b : RecA} (hb : Items P H vb a.bef) (ha : Items P H va a.aft) (gb : Items Q H wb b.bef) (ga : Items Q H wa b.aft) (hr : a.r.length = 32) (gr : b.r.length = 32) (l1 : a.bef.length ≤ 1048576) (l2 : a.aft.length ≤ 1048576) :
    HCalls prg f_history_Record_Equal [.agg (recC a.k vb va a.s a.r).toArray, .agg (recC b.k wb wa b.s b.r).toArray] H fun u H' => u = .bool (eqRec a b) ∧ Keep (fun _ => False) H H' := by
  apply sh_history_Record_Equal_calls
  unfold sh_history_Record_Equal
  simp only [Cells_agg, Mnew_some]
  generalize hH1 : H.push (.cells (recC a.k vb va a.s a.r).toArray T_history_Record (0, 0)) = h1
  have k1 : Keep (fun _ => False) H h1 := by rw [← hH1]; exact Keep.push
  have a1 : At h1 H.size (recC a.k vb va a.s a.r) := by rw [← hH1]; exact At.push
  generalize hH2 : h1.push (.cells (recC b.k wb wa b.s b.r).toArray T_history_Record (0, 0)) = h2
  have k2 : Keep (fun _ => False) h1 h2 := by rw [← hH2]; exact Keep.push
  have b2 : At h2 h1.size (recC b.k wb wa b.s b.r) := by rw [← hH2]; exact At.push
  have a2 := a1.keep k2 id
  have k02 := k1.trans k2
  have e0 : ld1 h2 (Ptr H.size 0) = some (.int .i64 a.k) := a2.ld rfl
  have e1 : ld1 h2 (Ptr H.size 1) = some vb := a2.ld rfl
  have e2 : ld1 h2 (Ptr H.size 2) = some va := a2.ld rfl
  have d0 : ld1 h2 (Ptr h1.size 0) = some (.int .i64 b.k) := b2.ld rfl
  have d1 : ld1 h2 (Ptr h1.size 1) = some wb := b2.ld rfl
  have d2 : ld1 h2 (Ptr h1.size 2) = some wa := b2.ld rfl
  have e3 : ldN 33 h2 (Ptr H.size 3) = some (.agg (Value.int .i64 a.s :: bcells a.r).toArray) := by
    obtain ⟨T, hq⟩ := a2
    exact ldN_mid (A := [Value.int .i64 a.k, vb, va]) (B := Value.int .i64 a.s :: bcells a.r) (C := []) (by rw [List.append_nil]; exact hq) rfl (by simp [bcells, hr])
  have d3 : ldN 33 h2 (Ptr h1.size 3) = some (.agg (Value.int .i64 b.s :: bcells b.r).toArray) := by
    obtain ⟨T, hq⟩ := b2
    exact ldN_mid (A := [Value.int .i64 b.k, wb, wa]) (B := Value.int .i64 b.s :: bcells b.r) (C := []) (by rw [List.append_nil]; exact hq) rfl (by simp [bcells, gr])
  have ek : binV .no .eql (.int .i64 a.k) (.int .i64 b.k) = some (.bool (decide (a.k = b.k))) := by
    rw [binV_int]; rfl
  simp only [fld_ptr, Nat.zero_add, Nat.reduceAdd, e0, d0, ek, Mpu_some]
  refine J1_eq.2 ?_
  cases o0 : decide (a.k = b.k)
  · simp only [unV_not, Bool.not_true, Bool.not_false, Mif_bool, Mif_undef, pickV_bool, Mcd_bool, Mpu_some, if_true, if_false, Bool.false_eq_true, Bool.true_eq_false, decide_true, decide_false, reduceCtorEq, J1_eq, ex20, ex21, ex30, ex31, ex32, Mre_ok, Mre_nil]; exact ⟨by unfold eqRec; rw [o0]; rfl, k02⟩
  simp only [e1, d1, unV_not, Bool.not_true, Bool.not_false, Mif_bool, Mif_undef, pickV_bool, Mcd_bool, Mpu_some, if_true, if_false, Bool.false_eq_true, Bool.true_eq_false, decide_true, decide_false, reduceCtorEq, ex20, ex21, ex30, ex31, ex32, Mre_ok, Mre_nil]
  refine call_i (c_EqItems (hb.keep k02 fun _ _ => id) (gb.keep k02 fun _ _ => id) (by omega)) ?_
  rintro _ h4 ⟨rfl, rfl⟩
  cases o1 : decide (a.bef = b.bef)
  · simp only [unV_not, Bool.not_true, Bool.not_false, Mif_bool, Mif_undef, pickV_bool, Mcd_bool, Mpu_some, if_true, if_false, Bool.false_eq_true, Bool.true_eq_false, decide_true, decide_false, reduceCtorEq, J1_eq, ex20, ex21, ex30, ex31, ex32, Mre_ok, Mre_nil]; exact ⟨by unfold eqRec; rw [o0, o1]; rfl, k02⟩
  simp only [e2, d2, unV_not, Bool.not_true, Bool.not_false, Mif_bool, Mif_undef, pickV_bool, Mcd_bool, Mpu_some, if_true, if_false, Bool.false_eq_true, Bool.true_eq_false, decide_true, decide_false, reduceCtorEq, ex20, ex21, ex30, ex31, ex32, Mre_ok, Mre_nil]
  refine J1_eq.2 ?_
  refine call_i (c_EqItems (ha.keep k02 fun _ _ => id) (ga.keep k02 fun _ _ => id) (by omega)) ?_
  rintro _ h4 ⟨rfl, rfl⟩
  cases o2 : decide (a.aft = b.aft)
  · simp only [unV_not, Bool.not_true, Bool.not_false, Mif_bool, Mif_undef, pickV_bool, Mcd_bool, Mpu_some, if_true, if_false, Bool.false_eq_true, Bool.true_eq_false, decide_true, decide_false, reduceCtorEq, J1_eq, ex20, ex21, ex30, ex31, ex32, Mre_ok, Mre_nil]; exact ⟨by unfold eqRec; rw [o0, o1, o2]; rfl, k02⟩
  simp only [e3, d3, eqHead hr gr, unV_not, Bool.not_true, Bool.not_false, Mif_bool, Mif_undef, pickV_bool, Mcd_bool, Mpu_some, if_true, if_false, Bool.false_eq_true, Bool.true_eq_false, decide_true, decide_false, reduceCtorEq, J1_eq, ex20, ex21, ex30, ex31, ex32, Mre_ok, Mre_nil]
  exact ⟨by unfold eqRec; rw [o0, o1, o2]; rfl, k02⟩
end Go.Proofs.YtmhfanpijdgkjabGreatDoor
/- The walk of HistoryRecords. -/
namespace Go.Proofs.YtmhfanpijdgkjabGreatDoor
open Go.X Go.X.Diff
set_option maxRecDepth 100000

def RawIn (P : Nat → Prop) (H : Heap) (a : RecA) (x : Value × Value) : Prop := a.r.length = 32 ∧ Items P H x.1 a.bef ∧ Items P H x.2 a.aft ∧ a.bef.length ≤ 9223372036854775807 ∧ a.aft.length ≤ 9223372036854775807
theorem awake22_end {H h : Heap} (hS : ShaT H) (hT : PowT H) (k : Keep (fun _ => False) H h) {R : Value → Heap → Prop} (hR : ∀ h', Keep (fun _ => False) H h' → R (.bool true) h') : Mcall prg f_syngraphlaw22_awake [] h R := by
  refine call_i (c_awake22 (hS.keep k fun _ h => h.elim) (hT.keep k fun _ h => h.elim)) ?_
  rintro _ h' ⟨rfl, k'⟩
  exact hR _ (k.trans k')

end Go.Proofs.YtmhfanpijdgkjabGreatDoor
