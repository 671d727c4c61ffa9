/- JOINED: V192 -/
import Derived.Test.YtanhgihfgmbojaaGreatDoorG25
set_option linter.unusedSimpArgs false
set_option linter.unusedVariables false
/- ref 20: names, Order. -/
namespace Go.Proofs.YtanhgihfgmbojaaGreatDoor
open Go.X Go.X.Diff
set_option maxRecDepth 100000
set_option linter.unusedSimpArgs false
set_option linter.unusedVariables false

theorem c_rnames {Q : Nat → Prop} {H : Heap} {x : PK} {nm : List UInt8} (hx : PkV Q H x) (hl : x.1.deps.length ≤ 1000) : HCalls prg f_syngraphref20_names [.agg (pkgC x).toArray, str nm] H fun u H' => u = .bool (namesM x.1 nm) ∧ Keep (fun _ => False) H H' := by
  apply sh_syngraphref20_names_calls
  unfold sh_syngraphref20_names
  simp only [Cells_agg, Mnew_some]
  generalize hH1 : H.push (.cells (pkgC x).toArray T_syngraphref20_Package (0, 0)) = H1
  have k1 : Keep (fun _ => False) H H1 := by rw [← hH1]; exact Keep.push
  have a1 : At H1 H.size (pkgC x) := by rw [← hH1]; exact At.push
  have hd1 := hx.d.keep k1 fun _ _ => id
  have ld := hd1.len
  rw [List.length_map] at ld
  have dd : ∀ h, Keep (fun _ => False) H1 h → ld1 h (Ptr H.size 5) = some x.2.1 := fun h k => by
    have := pk_d (a1.keep k id).pt hx.wf
    rwa [Nat.zero_add] at this
  refine J1_i (fun _ h => namesM x.1 nm = false ∧ Keep (fun _ => False) H1 h) (fun k2 hk2 => ?_) ?_
  rotate_left
  · rintro _ h ⟨hf, kh⟩
    exact ⟨by rw [hf], k1.trans kh⟩
  refine L1_i (fun u h => ∃ i : Nat, i ≤ x.1.deps.length ∧ u = .int .i64 (i : Nat) ∧ (x.1.deps.take i).any (fun d => decide (d.name = nm)) = false ∧ Keep (fun _ => False) H1 h) (fun u _ => match u with | .int _ t => x.1.deps.length - t.toNat | _ => 0) ⟨0, Nat.zero_le _, rfl, rfl, Keep.refl⟩ ?_
  rintro _ h ⟨i, hi, rfl, hno, kh⟩ k hk
  simp only [fld_ptr, Nat.zero_add, Nat.add_zero, Mpu_some]
  rw [dd _ kh, Mpu_some, ld, Mpu_some, ltNn, Mpu_some, Mcd_bool]
  by_cases hlt : i < x.1.deps.length
  rotate_left
  · rw [if_neg (by simpa using hlt)]
    rw [List.take_of_length_le (by omega)] at hno
    exact hk2 _ _ ⟨hno, kh⟩
  rw [if_pos (by simpa using hlt)]
  have hg : x.1.deps[i]? = some x.1.deps[i] := List.getElem?_eq_getElem hlt
  have hm : x.1.deps[i] ∈ x.1.deps := List.getElem_mem hlt
  have htk : x.1.deps.take (i + 1) = x.1.deps.take i ++ [x.1.deps[i]] := by rw [List.take_add_one, hg]; rfl
  generalize x.1.deps[i] = d at *
  obtain ⟨p, o, hix, hpt, _⟩ := (hd1.keep kh fun _ _ => id).at (i := i) (x := depC d) (by rw [List.getElem?_map, hg]; rfl)
  have e := fun q => str_eql (q := q) (a := d.name) (b := nm)
  rw [Mpu_some, hix .i64, Mpu_some, fld_ptr, Mpu_some, Nat.add_zero, show ld1 h (Ptr p o) = some (str d.name) from hpt.cell0 rfl, Mpu_some, e, Mpu_some, Mcd_bool]
  by_cases hn : d.name = nm
  · rw [if_pos (by simpa using hn)]
    refine ⟨?_, k1.trans kh⟩
    unfold namesM
    rw [List.any_eq_true.2 ⟨d, hm, by simpa using hn⟩]
  · rw [if_neg (by simpa using hn), add_one' (by omega), Mpu_some]
    refine hk _ _ ⟨i + 1, by omega, rfl, ?_, kh⟩ (by show x.1.deps.length - (i + 1) < x.1.deps.length - i; omega)
    rw [htk, List.any_append, hno]; simpa using hn
theorem ofO_lt {o : Option Nat} : binV .no .lss (.int .i64 (ofO o)) (.int .i64 0) = some (.bool o.isNone) := by
  rw [ltI]
  cases o with
  | none => rfl
  | some b => rw [decide_eq_false (by show ¬ ((b : Nat) : Int) < 0; omega)]; rfl
theorem all_succ {p : Nat → Bool} {n : Nat} : (List.range (n + 1)).all p = ((List.range n).all p && p n) := by
  rw [List.range_succ, List.all_append]; simp
set_option maxHeartbeats 8000000 in
theorem c_rOrder {Q R : Nat → Prop} {H : Heap} {hv : List Man} {pk : List PK} {vpk vl : Value} {L : List Nat} (hok : OkH hv) (he : pk.map (·.1) = hv) (hp : PksV Q H vpk pk) (hs : SlE 1 R H vl (ints (zs L))) (hlt : ∀ k ∈ L, k < hv.length) (hn : L.Nodup) (hl : L.length ≤ 1000) :
    HCalls prg f_syngraphref20_Order [vpk, vl] H fun u H' => SlE 1 (fun b => H.size ≤ b ∧ b < H'.size) H' u (ints (zs (orderF hv L.length L))) ∧ Keep (fun _ => False) H H' := by
  apply sh_syngraphref20_Order_calls
  unfold sh_syngraphref20_Order
  have ll := hs.len
  rw [ints_len, zs_len] at ll
  rw [ll, Mpu_some]
  refine mks_bool (by omega) fun h1 ar1 k1 => ?_
  have lt1 := ar1.lt
  let I : Value → Heap → Prop := fun t6 h => ∃ (out : List Nat) (bs : List Bool) (F : Nat → Prop), bs.length = L.length ∧ out ++ orderF hv (leftF L bs).length (leftF L bs) = orderF hv L.length L ∧ out.length + (leftF L bs).length = L.length ∧ (∀ b, F b → H.size < b ∧ b < h.size) ∧ BufE 1 F h t6 (ints (zs out)) ∧ At h H.size (bs.map Value.bool)
  have left0 : leftF L (List.replicate L.length false) = L := by
    have hr : remR L.length (List.replicate L.length false) = List.range L.length := by
      unfold remR
      refine List.filter_eq_self.2 fun i hi => ?_
      rw [List.getD_eq_getElem?_getD, List.getElem?_replicate, if_pos (List.mem_range.1 hi)]; rfl
    unfold leftF
    rw [hr]
    apply List.ext_getElem?
    intro i
    rw [List.getElem?_map]
    by_cases h : i < L.length
    · rw [List.getElem?_range h, Option.map_some, fL_at h, List.getElem?_eq_getElem h]
    · rw [List.getElem?_eq_none (by simpa using h), List.getElem?_eq_none (by omega)]; rfl
  refine J1_i (fun t6 h => (∃ F, (∀ b, F b → H.size < b ∧ b < h.size) ∧ BufE 1 F h t6 (ints (zs (orderF hv L.length L)))) ∧ Keep (fun _ => False) H h) (fun k2 hk2 => ?_) ?_
  rotate_left
  · rintro t6 h3 ⟨⟨F, hF, hb⟩, k3⟩
    exact ⟨hb.sl.mono fun b hb => ⟨Nat.le_of_lt (hF b hb).1, (hF b hb).2⟩, k3⟩
  refine L1_i (fun t6 h => I t6 h ∧ Keep (fun _ => False) H h) (fun t6 _ => match t6 with | .slice _ m _ => L.length - m | _ => 0)
    ⟨⟨[], List.replicate L.length false, fun _ => False, by simp, by rw [left0]; rfl, by rw [left0]; simp, fun b hb => hb.elim, BufE.nil, ar1⟩, k1⟩ ?_
  rintro t6 h5 ⟨⟨out, bs, F, hbl, hout, hlen, hF, hb6, ar5⟩, k5⟩ k4 hk4
  have lo := hb6.sl.len
  rw [ints_len, zs_len] at lo
  rw [lo, Mpu_some, Mpu_some, ltNn, Mpu_some, Mcd_bool]
  by_cases hmore : out.length < L.length
  rotate_left
  · rw [if_neg (by simpa using hmore)]
    have h0 : leftF L bs = [] := List.length_eq_zero_iff.1 (by omega)
    rw [h0, show orderF hv ([] : List Nat).length [] = [] from rfl, List.append_nil] at hout
    exact hk2 _ _ ⟨⟨F, hF, by rw [← hout]; exact hb6⟩, k5⟩
  rw [if_pos (by simpa using hmore)]
  have hrne : remR L.length bs ≠ [] := fun e => by
    have : (leftF L bs).length = 0 := by unfold leftF; rw [e]; rfl
    omega
  have ixb : ∀ i, i < L.length → ixS 1 (.slice (some ⟨H.size, 0, none⟩) L.length L.length) (.int .i64 (i : Nat)) = some (Ptr H.size i) := fun i hi => by rw [ixS_at hi]; simp
  have lb : ∀ h i, At h H.size (bs.map Value.bool) → i < L.length → ld1 h (Ptr H.size i) = some (.bool (bs.getD i false)) := fun h i ha hi => by
    have hg : bs[i]? = some (bs.getD i false) := by rw [List.getD_eq_getElem?_getD, List.getElem?_eq_getElem (by omega)]; rfl
    exact ha.ld (by rw [List.getElem?_map, hg]; rfl)
  have cat : ∀ {h : Heap} {i : Nat} (kh : Keep (fun _ => False) H h) (hi : i < L.length), ∃ x b o bc oc, (∀ q, ixS 1 vl (.int q i) = some (Ptr bc oc)) ∧ ld1 h (Ptr bc oc) = some (.int .i64 ((fL L i : Nat) : Int)) ∧ gM hv (fL L i) = x.1 ∧ PkV Q h x ∧ (∀ q, ixS 7 vpk (.int q ((fL L i : Nat) : Int)) = some (Ptr b o)) ∧ Pt h b o (pkgC x) ∧ fL L i < hv.length := by
    intro h i kh hi
    have hg : L[i]? = some (fL L i) := by rw [fL_at hi]; exact List.getElem?_eq_getElem hi
    have hil := hlt _ (List.mem_of_getElem? hg)
    obtain ⟨x, hgx, hmx, hxm, hpx, b, o, hix, hpt⟩ := (hp.keep kh fun _ _ => id).at he hil
    obtain ⟨bc, oc, hixc, hptc, _⟩ := (hs.keep kh fun _ _ => id).at (i := i) (x := [.int .i64 ((fL L i : Nat) : Int)]) (ints_get (zs_get hg))
    exact ⟨x, b, o, bc, oc, hixc, hptc.cell0 rfl, hmx, hpx, hix, hpt, hil⟩
  refine J3_i (fun t7 t8 _ h => t7 = .int .i64 (ofO (firstI L.length bs)) ∧ t8 = .int .i64 (ofO (readyI hv L bs L.length)) ∧ Keep (fun _ => False) h5 h) (fun k6 hk6 => ?_) ?_
  · refine L3_i (fun t7 t8 u h => (∃ i : Nat, i ≤ L.length ∧ u = .int .i64 (i : Nat) ∧ t7 = .int .i64 (ofO (firstI i bs)) ∧ t8 = .int .i64 (ofO (readyI hv L bs i))) ∧ Keep (fun _ => False) h5 h) (fun _ _ u _ => match u with | .int _ t => L.length - t.toNat | _ => 0) ⟨⟨0, Nat.zero_le _, rfl, rfl, rfl⟩, Keep.refl⟩ ?_
    rintro _ _ _ h9 ⟨⟨i, hi, rfl, rfl, rfl⟩, k9⟩ k8 hk8
    rw [Mpu_some, ltNn, Mpu_some, Mcd_bool]
    by_cases hil : i < L.length
    rotate_left
    · rw [if_neg (by simpa using hil)]
      obtain rfl : i = L.length := by omega
      exact hk6 _ _ _ _ ⟨rfl, rfl, k9⟩
    rw [if_pos (by simpa using hil)]
    have k09 := k5.trans k9
    have ar9 := ar5.keep k9 id
    refine J2_i (fun t7 t8 h => t7 = .int .i64 (ofO (firstI (i + 1) bs)) ∧ t8 = .int .i64 (ofO (readyI hv L bs (i + 1))) ∧ Keep (fun _ => False) h9 h) (fun k10 hk10 => ?_) ?_
    rotate_left
    · rintro _ _ h11 ⟨rfl, rfl, k11⟩
      rw [add_one' (by omega), Mpu_some]
      exact hk8 _ _ _ _ ⟨⟨i + 1, by omega, rfl, rfl, rfl⟩, k9.trans k11⟩ (by show L.length - (i + 1) < L.length - i; omega)
    have ef : firstI (i + 1) bs = (firstI i bs).or (if !bs.getD i false then some i else none) := find_succ
    have er : readyI hv L bs (i + 1) = (readyI hv L bs i).or (if (!bs.getD i false && freeI hv L bs i) then some i else none) := find_succ
    rw [ixb i hil, Mpu_some, lb _ i ar9 hil, Mpu_some, Mcd_bool]
    cases htk : bs.getD i false
    rotate_left
    · rw [if_pos rfl]
      rw [htk] at ef er
      exact hk10 _ _ _ ⟨by rw [ef]; simp, by rw [er]; simp, Keep.refl⟩
    rw [if_neg (by decide)]
    rw [htk] at ef er
    refine J1_i (fun t7 h => t7 = .int .i64 (ofO (firstI (i + 1) bs)) ∧ h9 = h) (fun k12 hk12 => ?_) ?_
    · rw [ofO_lt, Mpu_some, Mcd_bool]
      cases hf : firstI i bs with
      | none =>
        rw [hf] at ef
        rw [if_pos (by rfl)]
        exact hk12 _ _ ⟨by rw [ef]; rfl, rfl⟩
      | some a =>
        rw [hf] at ef
        rw [if_neg (by simp)]
        exact hk12 _ _ ⟨by rw [ef]; rfl, rfl⟩
    rintro _ _ ⟨rfl, rfl⟩
    refine J2_i (fun t10 _ h => t10 = .bool (freeI hv L bs i) ∧ Keep (fun _ => False) h9 h) (fun k14 hk14 => ?_) ?_
    · refine L2_i (fun t10 u h => (∃ j : Nat, j ≤ L.length ∧ u = .int .i64 (j : Nat) ∧ t10 = .bool ((List.range j).all fun k => bs.getD k false || decide (k = i) || !namesM (gM hv (fL L i)) (gM hv (fL L k)).name)) ∧ Keep (fun _ => False) h9 h) (fun _ u _ => match u with | .int _ t => L.length - t.toNat | _ => 0) ⟨⟨0, Nat.zero_le _, rfl, rfl⟩, Keep.refl⟩ ?_
      rintro _ _ h17 ⟨⟨j, hj, rfl, rfl⟩, k17⟩ k16 hk16
      rw [Mpu_some, ltNn, Mpu_some, Mcd_bool]
      by_cases hjl : j < L.length
      rotate_left
      · rw [if_neg (by simpa using hjl)]
        obtain rfl : j = L.length := by omega
        exact hk14 _ _ _ ⟨rfl, k17⟩
      rw [if_pos (by simpa using hjl)]
      have k017 := k09.trans k17
      have ar17 := ar9.keep k17 id
      have fin : ∀ h', Keep (fun _ => False) h17 h' → k16 (.bool ((List.range (j + 1)).all fun k => bs.getD k false || decide (k = i) || !namesM (gM hv (fL L i)) (gM hv (fL L k)).name)) (.int .i64 ((j + 1 : Nat) : Int)) h' := fun h' k' =>
        hk16 _ _ _ ⟨⟨j + 1, by omega, rfl, rfl⟩, k17.trans k'⟩ (by show L.length - (j + 1) < L.length - j; omega)
      rw [all_succ] at fin
      cases ha : (List.range j).all fun k => bs.getD k false || decide (k = i) || !namesM (gM hv (fL L i)) (gM hv (fL L k)).name
      · rw [ha] at fin
        simp only [J1_eq, Mif_bool, Mif_undef, Bool.false_eq_true, if_false, pickV_bool, Mpu_some]
        rw [add_one' (by omega), Mpu_some]
        exact fin _ Keep.refl
      rw [ha, Bool.true_and] at fin
      simp only [J1_eq, Mif_bool, if_true]
      rw [ixb j hjl, Mpu_some, lb _ j ar17 hjl, Mpu_some]
      cases htj : bs.getD j false
      rotate_left
      · rw [htj, Bool.true_or, Bool.true_or] at fin
        simp only [Mif_bool, Mif_undef, Bool.true_eq_false, if_false, pickV_bool, if_true, Mpu_some]
        rw [add_one' (by omega), Mpu_some]
        exact fin _ Keep.refl
      rw [htj, Bool.false_or] at fin
      simp only [Mif_bool, if_true]
      rw [eqNn, Mpu_some]
      cases hji : decide (j = i)
      rotate_left
      · rw [hji, Bool.true_or] at fin
        simp only [Mif_bool, Mif_undef, Bool.false_eq_true, Bool.true_eq_false, if_false, pickV_bool, if_true, Mpu_some]
        rw [add_one' (by omega), Mpu_some]
        exact fin _ Keep.refl
      rw [hji, Bool.false_or] at fin
      obtain ⟨x, bx, ox, bc, oc, hixc, hlc, hmx, hpx, hix, hpt, hil'⟩ := cat k017 hil
      obtain ⟨y, by', oy, bd, od, hiyd, hld, hmy, hpy, hiy, hpty, hjl'⟩ := cat k017 hjl
      have hdl := (hok.s _ hil').1
      rw [hmx] at hdl
      rw [hmx, hmy] at fin
      simp only [pickV_bool, Bool.false_eq_true, if_false, Mpu_some, Mif_bool, if_true]
      rw [hixc .i64, Mpu_some, hlc, Mpu_some, hix .i64, Mpu_some, hpt.agg (pkgC_len hpx.wf), Mpu_some, hiyd .i64, Mpu_some, hld, Mpu_some, hiy .i64, Mpu_some, fld_ptr, Mpu_some, Nat.add_zero, pk_name hpty, Mpu_some]
      refine call_i (c_rnames hpx hdl) ?_
      rintro _ h25 ⟨rfl, k25⟩
      simp only [unV_not, Mpu_some, Mif_bool, if_true, pickV_bool, Bool.false_eq_true, if_false]
      rw [add_one' (by omega), Mpu_some]
      exact fin _ k25
    rintro _ _ h15 ⟨rfl, k15⟩
    rw [Bool.not_false, Bool.true_and] at er
    cases hfr : freeI hv L bs i
    · rw [hfr] at er
      simp only [J1_eq, Mif_bool, Bool.false_eq_true, if_false, pickV_bool, Mpu_some, Mcd_bool]
      exact hk10 _ _ _ ⟨rfl, by rw [er]; simp, k15⟩
    rw [hfr] at er
    refine J1_yes rfl ?_
    rw [ofO_lt, Mpu_some]
    cases hrd : readyI hv L bs i with
    | none =>
      rw [hrd] at er
      show Mpu (pickV (.bool true) (.bool true) (.bool false)) _
      rw [pickV_bool, if_pos rfl, Mpu_some, Mcd_bool, if_pos rfl]
      exact hk10 _ _ _ ⟨rfl, by rw [er]; rfl, k15⟩
    | some a =>
      rw [hrd] at er
      show Mpu (pickV (.bool true) (.bool false) (.bool false)) _
      rw [pickV_bool, if_pos rfl, Mpu_some, Mcd_bool, if_neg (by decide)]
      exact hk10 _ _ _ ⟨rfl, by rw [er]; rfl, k15⟩
  rintro _ _ _ h7 ⟨rfl, rfl, k7⟩
  obtain ⟨p, hpo, hpr, hpick⟩ := pick_I (hv := hv) hn hrne
  have hpl := (mem_rem.1 hpr).1
  refine J1_i (fun t h => t = .int .i64 (p : Nat) ∧ h7 = h) (fun k31 hk31 => ?_) ?_
  · rw [ofO_lt, Mpu_some, Mcd_bool]
    cases hrd : readyI hv L bs L.length with
    | none =>
      rw [hrd, Option.none_or] at hpo
      rw [if_pos (by rfl), hpo]
      exact hk31 _ _ ⟨rfl, rfl⟩
    | some a =>
      rw [hrd] at hpo
      cases hpo
      rw [if_neg (by simp)]
      exact hk31 _ _ ⟨rfl, rfl⟩
  rintro _ _ ⟨rfl, rfl⟩
  have k07 := k5.trans k7
  obtain ⟨h33, st33, a33', k33⟩ := (ar5.keep k7 id).st1 (i := p) (v := .bool true) (by rw [List.length_map]; omega) rfl
  have a33 : At h33 H.size ((bs.set p true).map Value.bool) := by rw [List.map_set]; exact a33'
  have k033 : Keep (fun _ => False) H h33 := k07.fresh k33 fun b hb => by omega
  obtain ⟨x, bx, ox, bc, oc, hixc, hlc, hmx, hpx, hix, hpt, hil'⟩ := cat k033 hpl
  rw [ixb p hpl, Mpu_some, st33, Mwr_some, hixc .i64, Mpu_some, hlc, Mpu_some, bslI1', Mnews_some]
  generalize hH34 : h33.push (.cells #[.int .i64 (fL L p : Nat)] T_int (0, 0)) = h34
  have k34 : Keep (fun _ => False) h33 h34 := by rw [← hH34]; exact Keep.push
  have hx34 : SlE 1 (· = h33.size) h34 (.slice (some ⟨h33.size, 0, none⟩) 1 1) (ints [((fL L p : Nat) : Int)]) :=
    ⟨⟨_, 1, rfl, Nat.le_refl _, .inr ⟨h33.size, 0, rfl, rfl, by rw [rows1_flat, ← hH34]; exact Pt.of push_new⟩⟩, rows1_el, rows1_one fun v hv => by simp at hv; subst hv; rfl⟩
  have hb33 := ((hb6.keep k7 fun _ _ => id).keep k33 fun b hb e => by have := (hF b hb).1; omega).keep k34 fun _ _ => id
  have g7 := k7.1
  have g33 := k33.1
  have g34 := k34.1
  have ltH := ar5.lt
  refine (hb33.mono (G := fun b => F b ∨ h34.size ≤ b) fun b hb => .inl hb).app hx34 (by omega) (by rw [ints_len, ints_len, zs_len, List.length_singleton]; omega) (.inr (Nat.le_refl _)) fun t88 h35 hb88 k35 => ?_
  have g35 := k35.1
  have hlr := rem_set hn hbl hpr
  have hml : fL L p ∈ leftF L bs := by
    unfold leftF
    exact List.mem_map.2 ⟨p, hpr, rfl⟩
  have hle : (leftF L bs) ≠ [] := fun e => by rw [e] at hml; cases hml
  have hel := List.length_erase_of_mem hml
  have hpos : 0 < (leftF L bs).length := List.length_pos_iff.2 hle
  refine hk4 _ _ ⟨⟨out ++ [fL L p], bs.set p true, fun b => (F b ∨ h34.size ≤ b) ∧ b < h35.size, by simpa using hbl, ?_, ?_, fun b hb => ⟨hb.1.elim (fun hb => (hF b hb).1) fun hb => by omega, hb.2⟩, ?_, ?_⟩, (k033.trans k34).fresh k35 fun b hb => hb.elim (fun hb => Nat.le_of_lt (hF b hb).1) fun hb => by have := (k033.trans k34).1; omega⟩ ?_
  · rw [hlr, ← hout, orderF_cons hle, hpick, List.append_assoc]; rfl
  · rw [hlr, List.length_append, List.length_singleton, hel]; omega
  · rw [show ints (zs (out ++ [fL L p])) = ints (zs out) ++ ints [((fL L p : Nat) : Int)] by simp [zs, rows1]]
    exact BufE.re hb88 fun b hb hF => ⟨hF, hb⟩
  · exact (a33.keep k34 id).keep k35 fun hb => hb.elim (fun hb => by have := (hF _ hb).1; omega) fun hb => by omega
  · obtain ⟨p88, c88, e88⟩ := hb88.sl.shape
    obtain ⟨p6, c6, e6⟩ := hb6.sl.shape
    rw [List.length_append, ints_len, ints_len, zs_len, List.length_singleton] at e88
    rw [ints_len, zs_len] at e6
    rw [e88, e6]
    show L.length - (out.length + 1) < L.length - out.length
    omega
end Go.Proofs.YtanhgihfgmbojaaGreatDoor

