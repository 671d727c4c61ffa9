/- JOINED: V111 V112 -/
import Derived.Test.YtdmciknajaedmaaGreatDoorG3
import Derived.Test.YtdmciknajaedmaaGreatDoorG6
set_option linter.unusedSimpArgs false
set_option linter.unusedVariables false
/- The walk of AnchorTampers. -/
namespace Go.Proofs.YtdmciknajaedmaaGreatDoor
open Go.X Go.X.Diff
set_option maxRecDepth 100000

/- the calls that records make -/
def opOf (r : RecA × Value × Value) : OpA := ⟨0, zeroH, r.1, r.2⟩
theorem z_OpE : zcells prg T_syngraphlaw23_Op = some (.int .i64 0 :: bcells zeroH ++ recC 0 (.slice none 0 0) (.slice none 0 0) 0 zeroH).toArray := by kernel_rfl
theorem k_Op : structK prg T_syngraphlaw23_Op = some ([(0, 1), (1, 32), (33, 36)], (.int .i64 0 :: bcells zeroH ++ recC 0 (.slice none 0 0) (.slice none 0 0) 0 zeroH).toArray) := by kernel_rfl
theorem bld_Op {r : RecA × Value × Value} (h : r.1.r.length = 32) : buildV prg T_syngraphlaw23_Op [(2, .agg (rawC r.1 r.2).toArray)] = some (.agg (opC (opOf r)).toArray) := by
  have hl := rawC_len (x := r.2) h
  have hz : (recC 0 (.slice none 0 0) (.slice none 0 0) 0 zeroH).length = 36 := recC_len rfl
  rw [buildV_of k_Op, bfill_cons (off := 33) (n := 36) rfl (by simp [hl]) (by rw [List.size_toArray, List.length_append, hz]; simp [zeroH]), bfill_nil]
  have := spl_mid (A := .int .i64 0 :: bcells zeroH) (B := recC 0 (.slice none 0 0) (.slice none 0 0) 0 zeroH) (C := []) (B' := rawC r.1 r.2) (o := 33) (by simp [zeroH]) (by rw [hl, hz])
  simp only [List.append_nil] at this
  rw [Option.map_some, Cells_agg, this]; rfl
theorem c_Op : prg.cellsOf T_syngraphlaw23_Op = 69 := by kernel_rfl

theorem ops_build {H h0 : Heap} {v : Value} {all : List (RecA × Value × Value)} {k1 : Value → Value → Heap → Prop} (hv : SlE 36 (fun b => H.size ≤ b) h0 v (all.map fun r => rawC r.1 r.2)) (hin : ∀ r ∈ all, RawIn (· < H.size) H r.1 r.2) (hl : all.length ≤ 4194304) (kH : Keep (fun _ => False) H h0)
    (hk : ∀ t u h, SlE 69 (fun b => h0.size ≤ b) h t ((all.map opOf).map opC) → Keep (fun _ => False) h0 h → k1 t u h) :
    L2 (fun k6 => fun t5_2 t23_2 h7 =>
      Mpu (binV .no .lss t23_2 (.int .i64 all.length)) fun t24 =>
      Mcd t24 (
        Mpu (ixS 36 v t23_2) fun t25 =>
        Mpu (ldN 36 h7 t25) fun t26 =>
        Mnew h7 T_history_Record (zcells prg T_history_Record) fun t7 h8 =>
        Mwr (stN 36 h8 t7 t26) fun h9 =>
        Mpu (ldN 36 h9 t7) fun t28 =>
        Mpu (buildV prg T_syngraphlaw23_Op [(2, t28)]) fun t29 =>
        Mnews h9 T_syngraphlaw23_Op 1 (bslV prg T_syngraphlaw23_Op 1 [(0, t29)]) fun t30 h10 =>
        Mapp T_syngraphlaw23_Op 69 136 h10 t5_2 t30 fun t31 h11 =>
        Mpu (binV .no .add t23_2 (.int .i64 1)) fun t32 =>
        k6 t31 t32 h11) (
        k1 t5_2 t23_2 h7)) ((.slice none 0 0)) ((.int .i64 0)) h0 := by
  refine L2_i (fun t u h => ∃ i : Nat, i ≤ all.length ∧ u = .int .i64 (i : Nat) ∧ BufE 69 (h0.size ≤ ·) h t (((all.take i).map opOf).map opC) ∧ Keep (fun _ => False) h0 h) (fun _ u _ => match u with | .int _ t => all.length - t.toNat | _ => 0) ⟨0, Nat.zero_le _, rfl, BufE.nil, Keep.refl⟩ ?_
  rintro t _ h ⟨i, hi, rfl, hb, kh⟩ k hk'
  have elt : binV .no .lss (.int .i64 (i : Nat)) (.int .i64 (all.length : Nat)) = some (.bool (decide (i < all.length))) := by
    rw [binV_int]; simp only [intV]; congr 2; rw [decide_eq_decide]; omega
  rw [elt, Mpu_some, Mcd_bool]
  by_cases hlt : i < all.length
  rotate_left
  · rw [if_neg (by simpa using hlt)]
    rw [List.take_of_length_le (by omega)] at hb
    exact hk _ _ _ hb.sl kh
  rw [if_pos (by simpa using hlt)]
  have hg : all[i]? = some all[i] := List.getElem?_eq_getElem hlt
  have hraw := (hin all[i] (List.getElem_mem _)).keep (kH.trans kh) fun _ _ => id
  generalize all[i] = r at hg hraw
  obtain ⟨b, o, hix, hpt, _⟩ := (hv.keep kh fun _ _ => id).at (i := i) (x := rawC r.1 r.2) (by rw [List.getElem?_map, hg]; rfl)
  have hrl := rawC_len (x := r.2) hraw.1
  rw [hix, Mpu_some, hpt.agg hrl, Mpu_some]
  refine new_rec hrl (rawC_one hraw) fun h9 _ a9 k9 => ?_
  have hop : OpIn (· < H.size) h (opOf r) := ⟨rfl, hraw⟩
  have hlen := opC_len hop
  obtain ⟨z, hz, hzl⟩ := z_Op
  have hb1 : bslV prg T_syngraphlaw23_Op 1 [(0, .agg (opC (opOf r)).toArray)] = some (opC (opOf r)).toArray := bsl_one c_Op (by omega) (by omega) hz (by simp [hzl]) (by simp [hlen])
  rw [a9.ldN hrl, Mpu_some, bld_Op hraw.1, Mpu_some, hb1, Mnews_some]
  generalize hH10 : h9.push (.cells (opC (opOf r)).toArray T_syngraphlaw23_Op (0, 0)) = h10
  have k10 : Keep (fun _ => False) h9 h10 := by rw [← hH10]; exact Keep.push
  have n10 : At h10 h9.size (opC (opOf r)) := by rw [← hH10]; exact At.push
  have sl : SlE 69 (fun _ => True) h10 (.slice (some ⟨h9.size, 0, none⟩) 1 1) [opC (opOf r)] :=
    ⟨⟨_, 1, rfl, Nat.le_refl _, .inr ⟨h9.size, 0, rfl, trivial, by simp only [List.flatten_cons, List.flatten_nil, List.append_nil]; exact n10.pt⟩⟩, fun x hx => by simp at hx; subst hx; exact hlen, fun x hx => by simp at hx; subst hx; exact opC_one hop⟩
  have kk := k9.trans k10
  have kh10 := kh.trans kk
  refine BufE.app (hb.keep kk fun _ _ => id) sl (by omega) (by simp; omega) kh10.1 fun t31 h11 b11 k11 => ?_
  rw [add1M (by omega), Mpu_some]
  refine hk' _ _ _ ⟨i + 1, hlt, rfl, ?_, kh10.fresh k11 fun b hb => hb⟩ (by show all.length - (i + 1) < all.length - i; omega)
  have e : ((all.take (i + 1)).map opOf).map opC = ((all.take i).map opOf).map opC ++ [opC (opOf r)] := by rw [take_snoc hg]; simp
  rw [e]; exact b11

theorem c_ref02 {H : Heap} {n : Nat} : HCalls prg f_syngraphref02_Bytes [.int .u8 (n : Nat), .slice none 0 0] H fun u H' => u = .slice (some ⟨H.size, 0, none⟩) 1 1 ∧ At H' H.size [.int .u8 (n : Nat)] ∧ Keep (fun _ => False) H H' := by
  apply sh_syngraphref02_Bytes_calls
  unfold sh_syngraphref02_Bytes
  rw [bsl1, Mnews_some]
  generalize hH1 : H.push (.cells #[.int .u8 (n : Nat)] T_uint8 (0, 0)) = h1
  have k1 : Keep (fun _ => False) H h1 := by rw [← hH1]; exact Keep.push
  have a1 : At h1 H.size [.int .u8 (n : Nat)] := by rw [← hH1]; exact At.push
  refine J2_i (fun t _ h => t = .slice (some ⟨H.size, 0, none⟩) 1 1 ∧ h1 = h) (fun k hk => ?_) ?_
  · refine L2_i (fun t u h => t = .slice (some ⟨H.size, 0, none⟩) 1 1 ∧ u = .int .i64 0 ∧ h1 = h) (fun _ _ _ => 0) ⟨rfl, rfl, rfl⟩ ?_
    rintro _ _ _ ⟨rfl, rfl, rfl⟩ k' hk'
    have l0 : lenV (.slice none 0 0) = some (.int .i64 0) := rfl
    have e0 : binV .no .lss (.int .i64 0) (.int .i64 0) = some (.bool false) := by rw [binV_int]; rfl
    rw [l0, Mpu_some, e0, Mpu_some, Mcd_bool, if_neg (by decide)]
    exact hk _ _ _ ⟨rfl, rfl⟩
  · rintro _ _ _ ⟨rfl, rfl⟩
    exact ⟨rfl, a1, k1⟩

/-- the mark of a history -/
def markR (rs : List RecA) : Reg := ⟨rs.length, topF (chL rs), 0, zeroH, false⟩
theorem appRs_ch {rs : List RecA} {a : RecA} : appCh rs (chL rs) a = chL (appRs rs a) := by
  unfold appCh appRs
  split
  · rw [chL_snoc]
  · rfl
theorem appRs_grown {rs : List RecA} {a : RecA} (g : Grown rs) (w : RecWf a) : Grown (appRs rs a) := by
  unfold appRs
  split
  · rename_i h
    unfold appB at h
    simp only [Bool.and_eq_true, Bool.not_eq_true', decide_eq_false_iff_not] at h
    exact g.snoc (by have := g.1; omega) h.1 w
  · exact g
theorem appRs_len {rs : List RecA} {a : RecA} : (appRs rs a).length ≤ rs.length + 1 := by
  unfold appRs
  split <;> simp
theorem mark_step {rs : List RecA} {a : RecA} (hl : rs.length ≤ 4000) (h : appB rs a = true) : endR (begR (markR rs) (topF (chL (appRs rs a)))) = markR (appRs rs a) := by
  unfold appRs
  rw [if_pos h, chL_snoc]
  unfold begR
  rw [if_neg (by simp [markR])]
  unfold endR
  rw [if_pos rfl]
  unfold markR
  congr 1
  rotate_left
  · show topF (chL rs ++ [chainF (chL rs) a]) = _
    rw [chL_snoc]
  show IntKind.i64.wrap ((rs.length : Int) + 1) = ((rs ++ [a]).length : Nat)
  have e : (((rs ++ [a]).length : Nat) : Int) = (rs.length : Int) + 1 := by simp
  rw [e, wrap_id] <;> omega

theorem rawIn_wf {P : Nat → Prop} {H : Heap} {a : RecA} {x : Value × Value} (h : RawIn P H a x) : RecWf a := ⟨h.2.1.2, h.2.2.1.2, h.1⟩
theorem RawIn.mono {P Q : Nat → Prop} {H : Heap} {a : RecA} {x : Value × Value} (h : RawIn P H a x) (k : ∀ b, P b → Q b) : RawIn Q H a x := ⟨h.1, h.2.1.mono k, h.2.2.1.mono k, h.2.2.2⟩

/-- a loop that appends -/
theorem app_loop {H0 h0 : Heap} {v : Value} {l : List (RecA × Value × Value)} {j q : Nat} {X : (Nat → Nat) → Heap → Prop} {k37 : Value → Heap → Prop} (hv : Recs (· < H0.size) H0 v l) (hl : l.length ≤ 4000) (hall : ∀ r ∈ l, smallB r.1.bef r.1.aft = true) (hS : ShaT H0) (hT : PowT H0)
    (hj : 2 < j) (hX : ∀ col col' h h', Mv col col' (fun k => k = j) h h' → X col h → X col' h')
    {col : Nat → Nat} {rs : List RecA} (hh : HistC col j q h0 rs (chL rs)) (g : Grown rs) (inp : ∀ b, b < H0.size → col b = 1) (kH : Keep (fun _ => False) H0 h0) (x0 : X col h0)
    (hk : ∀ u h col rs, HistC col j q h rs (chL rs) → Grown rs → (∀ b, b < H0.size → col b = 1) → Keep (fun _ => False) H0 h → X col h → k37 u h) :
    L1 (fun k39 => fun t75_2 h40 =>
          Mpu (binV .no .lss t75_2 (.int .i64 l.length)) fun t76 =>
          Mcd t76 (
            Mpu (ixS 36 v t75_2) fun t77 =>
            Mpu (ldN 36 h40 t77) fun t78 =>
            Mnew h40 T_history_Record (zcells prg T_history_Record) fun t14 h41 =>
            Mwr (stN 36 h41 t14 t78) fun h42 =>
            Mpu (ldN 36 h42 t14) fun t80 =>
            Mcall prg f_history_History_Append [Ptr q 0, t80] h42 fun t81 h43 =>
            Mpu (binV .no .add t75_2 (.int .i64 1)) fun t82 =>
            k39 t82 h43) (
            k37 t75_2 h40)) ((.int .i64 0)) h0 := by
  refine L1_i (fun u h => ∃ (i : Nat) (col : Nat → Nat) (rs : List RecA), i ≤ l.length ∧ u = .int .i64 (i : Nat) ∧ HistC col j q h rs (chL rs) ∧ Grown rs ∧ (∀ b, b < H0.size → col b = 1) ∧ Keep (fun _ => False) H0 h ∧ X col h)
    (fun u _ => match u with | .int _ t => l.length - t.toNat | _ => 0) ⟨0, col, rs, Nat.zero_le _, rfl, hh, g, inp, kH, x0⟩ ?_
  clear hh g inp kH x0
  clear col rs
  rintro _ h ⟨i, col, rs, hi, rfl, hh, g, inp, kh, hxx⟩ k hk'
  have elt : binV .no .lss (.int .i64 (i : Nat)) (.int .i64 (l.length : Nat)) = some (.bool (decide (i < l.length))) := by
    rw [binV_int]; simp only [intV]; congr 2; rw [decide_eq_decide]; omega
  rw [elt, Mpu_some, Mcd_bool]
  by_cases hlt : i < l.length
  rotate_left
  · rw [if_neg (by simpa using hlt)]
    exact hk _ _ col rs hh g inp kh hxx
  rw [if_pos (by simpa using hlt)]
  have hg : l[i]? = some l[i] := List.getElem?_eq_getElem hlt
  have hsm := hall l[i] (List.getElem_mem _)
  generalize l[i] = r at hg hsm
  obtain ⟨hr, b, o, hix, hpt, hpb⟩ := (hv.keep kh fun _ _ => id).at hg
  have hrl := rawC_len (x := r.2) hr.1
  rw [hix, Mpu_some, hpt.agg hrl, Mpu_some]
  refine new_rec hrl (rawC_one hr) fun h7 _ a7 k7 => ?_
  rw [a7.ldN hrl, Mpu_some]
  have m0 : Mv col col (fun k => k = j) h h7 := Mv.pure k7
  refine call_i (c_AppendC (hh.pure k7) rfl (kh.trans k7) inp (by omega) hS hT (hr.keep k7 fun _ _ => id) hsm) ?_
  rintro _ h8 ⟨_, col', m, hh'⟩
  rw [appRs_ch] at hh'
  rw [add1M (by omega), Mpu_some]
  refine hk' _ _ ⟨i + 1, col', _, hlt, rfl, hh', appRs_grown g (rawIn_wf hr), fun b hb => (m.same b (Nat.lt_of_lt_of_le hb (kh.trans k7).1)).trans (inp b hb), m.keep0 (by omega) (kh.trans k7) inp, hX _ _ _ _ (m0.trans m) hxx⟩ (by show l.length - (i + 1) < l.length - i; omega)
end Go.Proofs.YtdmciknajaedmaaGreatDoor
/- The walk of AnchorTampers: the law. -/
namespace Go.Proofs.YtdmciknajaedmaaGreatDoor
open Go.X Go.X.Diff
set_option maxRecDepth 100000

def colT (n0 p q hq : Nat) : Nat → Nat := fun b => if b < n0 then 1 else if b = p then 3 else if b = q then 5 else if b = hq then 6 else 99
theorem c_AnchorTampers {H : Heap} {v w : Value} {l m : List (RecA × Value × Value)} (hv : Recs (· < H.size) H v l) (hl : l.length ≤ 1048576) (hw : Recs (· < H.size) H w m) (hm : m.length ≤ 1048576) (hS : ShaT H) (hT : PowT H) :
    HCalls prg f_syngraphlaw23_AnchorTampers [v, w] H fun u H' => u = .bool true ∧ Keep (fun _ => False) H H' := by
  apply sh_syngraphlaw23_AnchorTampers_calls
  unfold sh_syngraphlaw23_AnchorTampers
  have hNG := hT.sz
  refine J2_i (fun t _ h => SlE 69 (fun _ => True) h t (((l ++ m).map opOf).map opC) ∧ Keep (fun _ => False) H h) (fun k1 hk1 => ?_) ?_
  · rw [bslR0, Mnews_some]
    generalize hH3 : H.push (.cells #[] T_history_Record (0, 0)) = h3
    have k3 : Keep (fun _ => False) H h3 := by rw [← hH3]; exact Keep.push
    have n3 : h3[H.size]? = some (.cells #[] T_history_Record (0, 0)) := by rw [← hH3]; exact push_new
    have sv := (hv.keep k3 fun _ _ => id).1
    refine BufE.app (F := (H.size ≤ ·)) (xs := []) (.fresh (cs := []) ⟨H.size, rfl, Nat.le_refl _, n3⟩ (Nat.le_refl _) (by simp) (fun _ _ => by simp [thaw]) (by simp) (fun x h => by cases h) (fun x h => by cases h)) sv (by omega) (by simp; omega) k3.1 fun t19 h4 b4 k4 => ?_
    have k04 : Keep (fun _ => False) H h4 := k3.fresh k4 fun b hb => hb
    rw [List.nil_append] at b4
    refine BufE.app b4 (hw.keep k04 fun _ _ => id).1 (by omega) (by simp; omega) k04.1 fun t21 h5 b5 k5 => ?_
    have k05 : Keep (fun _ => False) H h5 := k04.fresh k5 fun b hb => hb
    have e : (l.map fun r => rawC r.1 r.2) ++ (m.map fun r => rawC r.1 r.2) = (l ++ m).map fun r => rawC r.1 r.2 := by rw [List.map_append]
    rw [e] at b5
    have hln := b5.sl.len
    rw [List.length_map] at hln
    rw [hln, Mpu_some]
    refine ops_build b5.sl (fun r hr => ?_) (by rw [List.length_append]; omega) k05 fun t u h hs kh => hk1 _ _ _ ⟨hs.mono fun _ _ => trivial, k05.trans kh⟩
    rcases List.mem_append.1 hr with hr | hr
    · exact hv.2 r hr
    · exact hw.2 r hr
  rintro t5 _ h2 ⟨s5, k2⟩
  have hops : Ops (fun _ => True) h2 t5 ((l ++ m).map opOf) := ⟨s5, fun o ho => by
    obtain ⟨r, hr, rfl⟩ := List.mem_map.1 ho
    refine ⟨rfl, RawIn.mono ((?_ : RawIn (· < H.size) H r.1 r.2).keep k2 fun _ _ => id) fun _ _ => trivial⟩
    rcases List.mem_append.1 hr with hr | hr
    · exact hv.2 r hr
    · exact hw.2 r hr⟩
  refine call_i (c_smallA hops (by rw [List.length_map, List.length_append]; omega)) ?_
  rintro _ h12 ⟨rfl, k12⟩
  have k012 := k2.trans k12
  rw [unV_not, Mpu_some, Mcd_bool]
  cases hsm : smallA ((l ++ m).map opOf)
  · rw [Bool.not_false, if_pos rfl]
    refine call_i (c_awake23 (Nat.le_trans hNG k012.1)) ?_
    rintro _ h13 ⟨rfl, k13⟩
    exact ⟨rfl, k012.trans k13⟩
  rw [Bool.not_true, if_neg (by decide)]
  have hall : (∀ r ∈ l ++ m, smallB r.1.bef r.1.aft = true) ∧ l.length ≤ 40 ∧ m.length ≤ 40 := by
    unfold smallA at hsm
    rw [Bool.and_eq_true, decide_eq_true_eq, List.length_map, List.length_append] at hsm
    refine ⟨fun r hr => opSm_small (o := opOf r) (List.all_eq_true.1 hsm.1 _ (List.mem_map.2 ⟨r, hr, rfl⟩)), by omega, by omega⟩
  obtain ⟨hsl, ll, lm⟩ := hall
  refine call_i c_RegNew ?_
  rintro _ h14 ⟨rfl, r14, k14⟩
  have s14 := lt_of r14.1.choose_spec
  have k014 := k012.trans k14
  refine call_i (c_HistNew (Nat.le_trans hNG k014.1)) ?_
  rintro _ h15 ⟨rfl, q15, k15⟩
  have s15 := (q15.lt h14.size (.inl rfl)).2
  have k015 := k014.trans k15
  refine call_i (c_HistNew (Nat.le_trans hNG k015.1)) ?_
  rintro _ h16 ⟨rfl, q16, k16⟩
  have s16 := (q16.lt h15.size (.inl rfl)).2
  have k016 := k015.trans k16
  have pn : ∀ x, binV .ptr .eql (Ptr x 0) (.pointer none) = some (.bool false) := fun x => rfl
  simp only [pn, unV_not, Bool.not_true, Bool.not_false, Mif_bool, Mif_undef, pickV_bool, Mcd_bool, Mpu_some, if_true, if_false, Bool.false_eq_true, Bool.true_eq_false, decide_true, decide_false, reduceCtorEq, ex20, ex21, ex30, ex31, ex32, Mre_ok, Mre_nil]
  refine J1_eq.2 ?_
  simp only [pn, unV_not, Bool.not_true, Bool.not_false, Mif_bool, Mif_undef, pickV_bool, Mcd_bool, Mpu_some, if_true, if_false, Bool.false_eq_true, Bool.true_eq_false, decide_true, decide_false, reduceCtorEq, ex20, ex21, ex30, ex31, ex32, Mre_ok, Mre_nil]
  refine J1_eq.2 ?_
  simp only [pn, unV_not, Bool.not_true, Bool.not_false, Mif_bool, Mif_undef, pickV_bool, Mcd_bool, Mpu_some, if_true, if_false, Bool.false_eq_true, Bool.true_eq_false, decide_true, decide_false, reduceCtorEq, ex20, ex21, ex30, ex31, ex32, Mre_ok, Mre_nil]
  have t0 := k012.1
  let col := colT H.size h12.size h14.size h15.size
  have hc1 : ∀ b, b < H.size → col b = 1 := fun b hb => if_pos hb
  have hcp : col h12.size = 3 := by show (if h12.size < H.size then _ else _) = _; rw [if_neg (by omega), if_pos rfl]
  have hcq : col h14.size = 5 := by show (if h14.size < H.size then _ else _) = _; rw [if_neg (by omega), if_neg (by omega), if_pos rfl]
  have hch : col h15.size = 6 := by show (if h15.size < H.size then _ else _) = _; rw [if_neg (by omega), if_neg (by omega), if_neg (by omega), if_pos rfl]
  have R0 : RegC col 3 h12.size h16 (markR []) := ⟨r14.keep (k15.trans k16) id, hcp⟩
  have Q0 : HistC col 5 h14.size h16 [] (chL []) := hist0C (q15.keep k16 fun _ _ => id) hcq
  have O0 : HistC col 6 h15.size h16 [] (chL []) := hist0C q16 hch
  clear_value col
  have g0 : Grown [] := ⟨by simp, fun i a h => by simp at h⟩
  refine J1_i (fun _ h => ∃ col rs, RegC col 3 h12.size h (markR rs) ∧ HistC col 5 h14.size h rs (chL rs) ∧ HistC col 6 h15.size h [] (chL []) ∧ Grown rs ∧ (∀ b, b < H.size → col b = 1) ∧ Keep (fun _ => False) H h) (fun k21 hk21 => ?_) ?_
  · rw [hv.len, Mpu_some]
    refine L1_i (fun u h => ∃ (i : Nat) (col : Nat → Nat) (rs : List RecA), i ≤ l.length ∧ u = .int .i64 (i : Nat) ∧ rs.length ≤ i ∧ RegC col 3 h12.size h (markR rs) ∧ HistC col 5 h14.size h rs (chL rs) ∧ HistC col 6 h15.size h [] (chL []) ∧ Grown rs ∧ (∀ b, b < H.size → col b = 1) ∧ Keep (fun _ => False) H h)
      (fun u _ => match u with | .int _ t => l.length - t.toNat | _ => 0) ⟨0, col, [], Nat.zero_le _, rfl, Nat.le_refl _, R0, Q0, O0, g0, hc1, k016⟩ ?_
    clear R0 Q0 O0 hc1 hcp hcq hch
    clear col
    rintro _ h ⟨i, col, rs, hi, rfl, hri, hr, hh, ho, g, inp, kh⟩ k hk'
    have elt : binV .no .lss (.int .i64 (i : Nat)) (.int .i64 (l.length : Nat)) = some (.bool (decide (i < l.length))) := by
      rw [binV_int]; simp only [intV]; congr 2; rw [decide_eq_decide]; omega
    rw [elt, Mpu_some, Mcd_bool]
    by_cases hlt : i < l.length
    rotate_left
    · rw [if_neg (by simpa using hlt)]
      exact hk21 _ _ ⟨col, rs, hr, hh, ho, g, inp, kh⟩
    rw [if_pos (by simpa using hlt)]
    have hg : l[i]? = some l[i] := List.getElem?_eq_getElem hlt
    have hsm := hsl l[i] (List.mem_append_left _ (List.getElem_mem _))
    generalize l[i] = r at hg hsm
    obtain ⟨hraw, b, o, hix, hpt, hpb⟩ := (hv.keep kh fun _ _ => id).at hg
    have hrl := rawC_len (x := r.2) hraw.1
    rw [hix, Mpu_some, hpt.agg hrl, Mpu_some]
    refine new_rec hrl (rawC_one hraw) fun h26 _ a26 k26 => ?_
    rw [a26.ldN hrl, Mpu_some]
    refine call_i (c_AppendC (hh.pure k26) rfl (kh.trans k26) inp (by omega) hS hT (hraw.keep k26 fun _ _ => id) hsm) ?_
    rintro _ h27 ⟨rfl, col', m', hh'⟩
    rw [appRs_ch] at hh'
    have m27 : Mv col col' (fun k => k = 5) h h27 := (Mv.pure k26 (col := col) (K := fun k => k = 5)).trans m'
    have hr' := hr.mv m27 (by omega)
    have ho' := ho.mv m27 (by omega) (by omega)
    have inp' : ∀ b, b < H.size → col' b = 1 := fun b hb => (m27.same b (Nat.lt_of_lt_of_le hb kh.1)).trans (inp b hb)
    have kH27 := m27.keep0 (by omega) kh inp
    have g' := appRs_grown (rs := rs) g (rawIn_wf hraw)
    have hlen' := appRs_len (rs := rs) (a := r.1)
    have ec : binV .no .eql (.int .i64 (if appOk rs r.1 = true then (if rs.length = 4096 then 12 else 0) else 10)) (.int .i64 0) = some (.bool (appB rs r.1)) := by
      rw [binV_int]; simp only [intV]
      unfold appB
      rw [if_neg (show ¬ rs.length = 4096 by omega), decide_eq_false (show ¬ rs.length = 4096 by omega)]
      cases appOk rs r.1 <;> rfl
    rw [ec, Mpu_some]
    have next : ∀ g2, (∃ col, RegC col 3 h12.size g2 (markR (appRs rs r.1)) ∧ HistC col 5 h14.size g2 (appRs rs r.1) (chL (appRs rs r.1)) ∧ HistC col 6 h15.size g2 [] (chL []) ∧ (∀ b, b < H.size → col b = 1) ∧ Keep (fun _ => False) H g2) →
        Mpu (binV .no .add (.int .i64 (i : Nat)) (.int .i64 1)) fun t72 => k t72 g2 := fun g2 ⟨c2, x1, x2, x3, x4, x5⟩ => by
      rw [add1M (by omega), Mpu_some]
      exact hk' _ _ ⟨i + 1, c2, _, hlt, rfl, by omega, x1, x2, x3, g', x4, x5⟩ (by show l.length - (i + 1) < l.length - i; omega)
    cases happ : appB rs r.1
    · have e : appRs rs r.1 = rs := by unfold appRs; rw [happ]; rfl
      rw [e] at hh' next
      simp only [unV_not, Bool.not_true, Bool.not_false, Mif_bool, Mif_undef, pickV_bool, Mcd_bool, Mpu_some, if_true, if_false, Bool.false_eq_true, Bool.true_eq_false, decide_true, decide_false, reduceCtorEq, ex20, ex21, ex30, ex31, ex32, Mre_ok, Mre_nil]
      refine J1_eq.2 ?_
      simp only [unV_not, Bool.not_true, Bool.not_false, Mif_bool, Mif_undef, pickV_bool, Mcd_bool, Mpu_some, if_true, if_false, Bool.false_eq_true, Bool.true_eq_false, decide_true, decide_false, reduceCtorEq, ex20, ex21, ex30, ex31, ex32, Mre_ok, Mre_nil]
      refine J1_eq.2 ?_
      simp only [Mif_undef, unV_not, Bool.not_true, Bool.not_false, Mif_bool, Mif_undef, pickV_bool, Mcd_bool, Mpu_some, if_true, if_false, Bool.false_eq_true, Bool.true_eq_false, decide_true, decide_false, reduceCtorEq, ex20, ex21, ex30, ex31, ex32, Mre_ok, Mre_nil]
      refine J1_eq.2 ?_
      simp only [unV_not, Bool.not_true, Bool.not_false, Mif_bool, Mif_undef, pickV_bool, Mcd_bool, Mpu_some, if_true, if_false, Bool.false_eq_true, Bool.true_eq_false, decide_true, decide_false, reduceCtorEq, ex20, ex21, ex30, ex31, ex32, Mre_ok, Mre_nil]
      exact next _ ⟨col', hr', hh', ho', inp', kH27⟩
    · simp only [unV_not, Bool.not_true, Bool.not_false, Mif_bool, Mif_undef, pickV_bool, Mcd_bool, Mpu_some, if_true, if_false, Bool.false_eq_true, Bool.true_eq_false, decide_true, decide_false, reduceCtorEq, ex20, ex21, ex30, ex31, ex32, Mre_ok, Mre_nil]
      refine J1_eq.2 ?_
      obtain ⟨Fr, Fc, Fi, hat, _⟩ := id hh'
      refine call_i (c_HistTop hat) ?_
      rintro _ h29 ⟨rfl, k29⟩
      refine call_i (c_Begin (hr'.1.keep k29 id) hat.top32) ?_
      rintro _ h30 ⟨rfl, r30, k30⟩
      have en : binV .no .neq (.int .i64 0) (.int .i64 0) = some (.bool false) := by rw [binV_int]; rfl
      have eb : (markR rs).busy = false := rfl
      simp only [eb, en, unV_not, Bool.not_true, Bool.not_false, Mif_bool, Mif_undef, pickV_bool, Mcd_bool, Mpu_some, if_true, if_false, Bool.false_eq_true, Bool.true_eq_false, decide_true, decide_false, reduceCtorEq, ex20, ex21, ex30, ex31, ex32, Mre_ok, Mre_nil]
      refine J1_eq.2 ?_
      refine call_i (c_End r30) ?_
      rintro _ h33 ⟨rfl, r33, k33⟩
      have eb2 : (begR (markR rs) (topF (chL (appRs rs r.1)))).busy = true := rfl
      simp only [eb2, en, unV_not, Bool.not_true, Bool.not_false, Mif_bool, Mif_undef, pickV_bool, Mcd_bool, Mpu_some, if_true, if_false, Bool.false_eq_true, Bool.true_eq_false, decide_true, decide_false, reduceCtorEq, ex20, ex21, ex30, ex31, ex32, Mre_ok, Mre_nil]
      refine J1_eq.2 ?_
      simp only [unV_not, Bool.not_true, Bool.not_false, Mif_bool, Mif_undef, pickV_bool, Mcd_bool, Mpu_some, if_true, if_false, Bool.false_eq_true, Bool.true_eq_false, decide_true, decide_false, reduceCtorEq, ex20, ex21, ex30, ex31, ex32, Mre_ok, Mre_nil]
      rw [mark_step (by omega) happ] at r33
      have m33 : Mv col' col' (fun k => k = 3) h27 h33 := (Mv.pure k29 (col := col') (K := fun k => k = 3)).trans ((Mv.at k30 hr'.2).trans (Mv.at k33 hr'.2))
      exact next _ ⟨col', ⟨r33, hr'.2⟩, hh'.mv m33 (by omega) (by omega), ho'.mv m33 (by omega) (by omega), fun b hb => inp' b hb, m33.keep0 (by omega) kH27 inp'⟩
  clear R0 Q0 O0 hc1 hcp hcq hch
  clear col
  rintro _ h22 ⟨col, rs, hr, hh, ho, g, inp, kH22⟩
  refine J1_i (fun _ h => ∃ col rs2, RegC col 3 h12.size h (markR rs) ∧ HistC col 5 h14.size h rs (chL rs) ∧ HistC col 6 h15.size h rs2 (chL rs2) ∧ Grown rs2 ∧ Keep (fun _ => False) H h) (fun k37 hk37 => ?_) ?_
  · rw [hw.len, Mpu_some]
    exact app_loop (j := 6) (X := fun col h => RegC col 3 h12.size h (markR rs) ∧ HistC col 5 h14.size h rs (chL rs)) hw (by omega) (fun r hr => hsl r (List.mem_append_right _ hr)) hS hT (by omega)
      (fun _ _ _ _ m ⟨x1, x2⟩ => ⟨x1.mv m (by omega), x2.mv m (by omega) (by omega)⟩) ho g0 inp kH22 ⟨hr, hh⟩ fun u h col rs2 y1 y2 y3 y4 ⟨y5, y6⟩ => hk37 _ _ ⟨col, rs2, y5, y6, y1, y2, y4⟩
  clear hr hh ho inp kH22
  rintro _ h38 ⟨col, rs2, hr, hh, ho, g2, kH38⟩
  obtain ⟨Fr, Fc, Fi, ha, _⟩ := hh
  obtain ⟨Gr, Gc, Gi, hb, _⟩ := ho
  have hr := hr.1
  have i1 : isM (markR rs) rs.length (topF (chL rs)) = true := by simp [isM, markR]
  refine call_i (c_AuditH hr ha) ?_
  rintro _ h44 ⟨rfl, k44⟩
  have en : binV .no .neq (.int .i64 0) (.int .i64 0) = some (.bool false) := by rw [binV_int]; rfl
  have e00 : binV .no .eql (.int .i64 0) (.int .i64 0) = some (.bool true) := by rw [binV_int]; rfl
  simp only [i1, en, unV_not, Bool.not_true, Bool.not_false, Mif_bool, Mif_undef, pickV_bool, Mcd_bool, Mpu_some, if_true, if_false, Bool.false_eq_true, Bool.true_eq_false, decide_true, decide_false, reduceCtorEq, ex20, ex21, ex30, ex31, ex32, Mre_ok, Mre_nil]
  refine call_i (c_HistEqualG (hb.keep k44 fun _ _ => id) (ha.keep k44 fun _ _ => id)) ?_
  rintro _ h45 ⟨⟨eqb, rfl, heq⟩, k45⟩
  have k4445 := k44.trans k45
  have kH45 := kH38.trans k4445
  have ra := hr.keep k4445 id
  have ha45 := ha.keep k4445 fun _ _ => id
  have hb45 := hb.keep k4445 fun _ _ => id
  rw [Mcd_bool]
  cases eqb
  rotate_left
  · rw [if_pos rfl]
    have e := heq.1 rfl
    subst e
    refine call_i (c_AuditH ra hb45) ?_
    rintro _ h46 ⟨rfl, k46⟩
    simp only [i1, e00, unV_not, Bool.not_true, Bool.not_false, Mif_bool, Mif_undef, pickV_bool, Mcd_bool, Mpu_some, if_true, if_false, Bool.false_eq_true, Bool.true_eq_false, decide_true, decide_false, reduceCtorEq, ex20, ex21, ex30, ex31, ex32, Mre_ok, Mre_nil]
    refine J1_eq.2 ?_
    have kk := kH45.trans k46
    refine call_i (c_awake23 (Nat.le_trans hNG kk.1)) ?_
    rintro _ h48 ⟨rfl, k48⟩
    simp only [unV_not, Bool.not_true, Bool.not_false, Mif_bool, Mif_undef, pickV_bool, Mcd_bool, Mpu_some, if_true, if_false, Bool.false_eq_true, Bool.true_eq_false, decide_true, decide_false, reduceCtorEq, ex20, ex21, ex30, ex31, ex32, Mre_ok, Mre_nil]
    exact ⟨trivial, kk.trans k48⟩
  rw [if_neg (by decide)]
  have hne : rs2 ≠ rs := fun e => (by cases heq.2 e)
  refine call_i (c_AuditH ra hb45) ?_
  rintro _ h50 ⟨rfl, k50⟩
  have kH50 := kH45.trans k50
  have e33 : binV .no .neq (.int .i64 33) (.int .i64 0) = some (.bool true) := by rw [binV_int]; rfl
  have e3333 : binV .no .eql (.int .i64 33) (.int .i64 33) = some (.bool true) := by rw [binV_int]; rfl
  cases hm2 : isM (markR rs) rs2.length (topF (chL rs2))
  · simp only [e33, unV_not, Bool.not_true, Bool.not_false, Mif_bool, Mif_undef, pickV_bool, Mcd_bool, Mpu_some, if_true, if_false, Bool.false_eq_true, Bool.true_eq_false, decide_true, decide_false, reduceCtorEq, ex20, ex21, ex30, ex31, ex32, Mre_ok, Mre_nil]
    refine call_i (c_AuditH (ra.keep k50 id) (hb45.keep k50 fun _ _ => id)) ?_
    rintro _ h51 ⟨rfl, k51⟩
    simp only [hm2, e3333, unV_not, Bool.not_true, Bool.not_false, Mif_bool, Mif_undef, pickV_bool, Mcd_bool, Mpu_some, if_true, if_false, Bool.false_eq_true, Bool.true_eq_false, decide_true, decide_false, reduceCtorEq, ex20, ex21, ex30, ex31, ex32, Mre_ok, Mre_nil]
    refine J1_eq.2 ?_
    have kk := kH50.trans k51
    refine call_i (c_awake23 (Nat.le_trans hNG kk.1)) ?_
    rintro _ h48 ⟨rfl, k48⟩
    simp only [unV_not, Bool.not_true, Bool.not_false, Mif_bool, Mif_undef, pickV_bool, Mcd_bool, Mpu_some, if_true, if_false, Bool.false_eq_true, Bool.true_eq_false, decide_true, decide_false, reduceCtorEq, ex20, ex21, ex30, ex31, ex32, Mre_ok, Mre_nil]
    exact ⟨trivial, kk.trans k48⟩
  simp only [en, unV_not, Bool.not_true, Bool.not_false, Mif_bool, Mif_undef, pickV_bool, Mcd_bool, Mpu_some, if_true, if_false, Bool.false_eq_true, Bool.true_eq_false, decide_true, decide_false, reduceCtorEq, ex20, ex21, ex30, ex31, ex32, Mre_ok, Mre_nil]
  obtain ⟨eqn, eqt⟩ : rs.length = rs2.length ∧ topF (chL rs) = topF (chL rs2) := by
    unfold isM markR at hm2
    simp only [Bool.and_eq_true, decide_eq_true_eq] at hm2
    exact ⟨by omega, hm2.2.symm⟩
  refine call_i (c_Collide (ha45.keep k50 fun _ _ => id) (hb45.keep k50 fun _ _ => id) g g2 (hS.keep kH50 fun _ h => h.elim) (hT.keep kH50 fun _ h => h.elim)) ?_
  rintro _ h55 ⟨hcol, k55⟩
  rcases hcol with ⟨_, hno⟩ | ⟨va, vb, i, a, b, rfl, _, _, ga, gb, sa, sb, hab, hsum⟩
  · exact absurd (hno eqn eqt).symm hne
  have ex0 : ∀ x y : Value, extV 0 (.tuple #[x, y]) = some x := fun _ _ => rfl
  have ex1 : ∀ x y : Value, extV 1 (.tuple #[x, y]) = some y := fun _ _ => rfl
  obtain ⟨la, la2⟩ := inp_len g ga
  obtain ⟨lb, lb2⟩ := inp_len g2 gb
  obtain ⟨As, hAs⟩ : ∃ As, inpF (chL rs) i a = 7 :: As := ⟨_, rfl⟩
  generalize inpF (chL rs) i a = A at *
  generalize inpF (chL rs2) i b = B at *
  have kH55 := kH50.trans k55
  rw [ex0, Mpu_some, ex1, Mpu_some, z_Coll, Mnew_some]
  generalize hH56 : h55.push (.cells [Value.slice none 0 0, .slice none 0 0].toArray T_collide_Collision (0, 0)) = h56
  have k56 : Keep (fun _ => False) h55 h56 := by rw [← hH56]; exact Keep.push
  have a56 : At h56 h55.size [.slice none 0 0, .slice none 0 0] := by rw [← hH56]; exact At.push
  obtain ⟨h57, st, a57, k57⟩ := a56.st (n := 2) (ds := [va, vb]) rfl rfl (two_one sa sb)
  rw [show (Value.pointer (some ⟨h55.size, 0, none⟩)) = Ptr h55.size 0 from rfl, st, Mwr_some]
  have kk57 : Keep (fun _ => False) h55 h57 := k56.fresh k57 fun b hb => by omega
  have kH57 := kH55.trans kk57
  have s57 := kk57.1
  have sa57 := (sa.keep kk57 fun _ _ => id).mono (Q := fun x => x < h57.size) fun x hx => Nat.lt_of_lt_of_le hx.2 s57
  have sb57 := (sb.keep kk57 fun _ _ => id).mono (Q := fun x => x < h57.size) fun x hx => Nat.lt_of_lt_of_le hx.2 s57
  have L0 : ∀ {g}, Keep (fun _ => False) h57 g → ld1 g (Ptr h55.size 0) = some va := fun k => (a57.keep k id).ld rfl
  have L1 : ∀ {g}, Keep (fun _ => False) h57 g → ld1 g (Ptr h55.size 1) = some vb := fun k => (a57.keep k id).ld rfl
  have f0 : fld 0 (Ptr h55.size 0) = some (Ptr h55.size 0) := rfl
  have f1 : fld 1 (Ptr h55.size 0) = some (Ptr h55.size 1) := rfl
  have estr : binV .no .neq (.string ⟨A.toArray⟩) (.string ⟨B.toArray⟩) = some (.bool true) := by
    have : binV .no .neq (.string ⟨A.toArray⟩) (.string ⟨B.toArray⟩) = some (.bool (!decide (A = B))) := strV_ne
    rw [this, decide_eq_false hab]; rfl
  simp only [unV_not, Bool.not_true, Bool.not_false, Mif_bool, Mif_undef, pickV_bool, Mcd_bool, Mpu_some, if_true, if_false, Bool.false_eq_true, Bool.true_eq_false, decide_true, decide_false, reduceCtorEq, ex20, ex21, ex30, ex31, ex32, Mre_ok, Mre_nil]
  refine J1_eq.2 ?_
  simp only [f0, f1, L0 Keep.refl, L1 Keep.refl, sa57.b2s, sb57.b2s, estr, unV_not, Bool.not_true, Bool.not_false, Mif_bool, Mif_undef, pickV_bool, Mcd_bool, Mpu_some, if_true, if_false, Bool.false_eq_true, Bool.true_eq_false, decide_true, decide_false, reduceCtorEq, ex20, ex21, ex30, ex31, ex32, Mre_ok, Mre_nil]
  refine J1_eq.2 ?_
  simp only [f0, f1, L0 Keep.refl, L1 Keep.refl, unV_not, Bool.not_true, Bool.not_false, Mif_bool, Mif_undef, pickV_bool, Mcd_bool, Mpu_some, if_true, if_false, Bool.false_eq_true, Bool.true_eq_false, decide_true, decide_false, reduceCtorEq, ex20, ex21, ex30, ex31, ex32, Mre_ok, Mre_nil]
  refine call_i (c_ShaSum sa57 (hS.keep kH57 fun _ h => h.elim) (fun _ h => h) (by omega)) ?_
  rintro _ h61 ⟨rfl, k61⟩
  simp only [L1 k61, Mre_cons, Mre_nil, true_and]
  refine call_i (c_ShaSum (sb57.keep k61 fun _ _ => id) (hS.keep (kH57.trans k61) fun _ h => h.elim) (fun _ h => Nat.lt_of_lt_of_le h k61.1) (by omega)) ?_
  rintro _ h62 ⟨rfl, k62⟩
  have k5762 := k61.trans k62
  have egt : binV .no .gtr (.int .i64 (A.length : Nat)) (.int .i64 32) = some (.bool true) := by
    rw [binV_int]; simp only [intV]; rw [decide_eq_true (by omega)]
  rw [eq_Hash shaF_len shaF_len, decide_eq_true hsum]
  simp only [unV_not, Bool.not_true, Bool.not_false, Mif_bool, Mif_undef, pickV_bool, Mcd_bool, Mpu_some, if_true, if_false, Bool.false_eq_true, Bool.true_eq_false, decide_true, decide_false, reduceCtorEq, ex20, ex21, ex30, ex31, ex32, Mre_ok, Mre_nil]
  refine J1_eq.2 ?_
  simp only [f0, L0 k5762, sa57.len, egt, unV_not, Bool.not_true, Bool.not_false, Mif_bool, Mif_undef, pickV_bool, Mcd_bool, Mpu_some, if_true, if_false, Bool.false_eq_true, Bool.true_eq_false, decide_true, decide_false, reduceCtorEq, ex20, ex21, ex30, ex31, ex32, Mre_ok, Mre_nil]
  refine J1_eq.2 ?_
  have sa62 := sa57.keep k5762 fun _ _ => id
  obtain ⟨u, hu, hu2, hub⟩ := sa62.at (i := 0) (x := 7) (by rw [hAs]; rfl)
  have hu : ixS 1 va (.int .i64 0) = some u := hu
  simp only [f0, L0 k5762, hu, hu2, Mpu_some]
  refine call_i (c_ref02 (n := 7)) ?_
  rintro _ h67 ⟨rfl, a67, k67⟩
  obtain ⟨u2, hu', hu2', _⟩ := (sa62.keep k67 fun _ _ => id).at (i := 0) (x := 7) (by rw [hAs]; rfl)
  have hu' : ixS 1 va (.int .i64 0) = some u2 := hu'
  rw [hu] at hu'
  cases hu'
  have hix : ixS 1 (.slice (some ⟨h62.size, 0, none⟩) 1 1) (.int .i64 0) = some (Ptr h62.size 0) := rfl
  have e77 : binV .no .eql (.int .u8 (7 : Nat)) (.int .u8 (7 : Nat)) = some (.bool true) := by rw [binV_int]; rfl
  have k5767 := k5762.trans k67
  have h7 : ((7 : UInt8).toNat : Int) = ((7 : Nat) : Int) := rfl
  simp only [hu2', L0 k5767, Mre_cons, Mre_nil, true_and, hix, a67.ld (i := 0) rfl, h7, e77, unV_not, Bool.not_true, Bool.not_false, Mif_bool, Mif_undef, pickV_bool, Mcd_bool, Mpu_some, if_true, if_false, Bool.false_eq_true, Bool.true_eq_false, decide_true, decide_false, reduceCtorEq, ex20, ex21, ex30, ex31, ex32, Mre_ok, Mre_nil]
  refine J1_eq.2 ?_
  have kH67 := kH57.trans k5767
  refine call_i (c_awake23 (Nat.le_trans hNG kH67.1)) ?_
  rintro _ h70 ⟨rfl, k70⟩
  simp only [unV_not, Bool.not_true, Bool.not_false, Mif_bool, Mif_undef, pickV_bool, Mcd_bool, Mpu_some, if_true, if_false, Bool.false_eq_true, Bool.true_eq_false, decide_true, decide_false, reduceCtorEq, ex20, ex21, ex30, ex31, ex32, Mre_ok, Mre_nil]
  exact ⟨trivial, kH67.trans k70⟩
end Go.Proofs.YtdmciknajaedmaaGreatDoor
