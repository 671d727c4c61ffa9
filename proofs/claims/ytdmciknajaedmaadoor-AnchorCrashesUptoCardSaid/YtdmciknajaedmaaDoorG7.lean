/- JOINED: V111 -/
import Derived.Test.YtdmciknajaedmaaDoorG3
import Derived.Test.YtdmciknajaedmaaDoorG6
set_option linter.unusedSimpArgs false
set_option linter.unusedVariables false
/- The walk of AnchorTampers. -/
namespace Go.Proofs.YtdmciknajaedmaaDoor
open Go.X Go.X.Diff
set_option maxRecDepth 100000

/- the calls that records make -/
def opOf (r : RecA × Value × Value) : OpA := ⟨0, zeroH, r.1, r.2⟩
theorem z_OpE : zcells prg T_syngraphlaw23_Op = some (.int .i64 0 :: bcells zeroH ++ recC 0 (.slice none 0 0) (.slice none 0 0) 0 zeroH).toArray := by kernel_rfl
theorem k_Op : structK prg T_syngraphlaw23_Op = some ([(0, 1), (1, 32), (33, 36)], (.int .i64 0 :: bcells zeroH ++ recC 0 (.slice none 0 0) (.slice none 0 0) 0 zeroH).toArray) := by kernel_rfl
theorem bld_Op {r : RecA × Value × Value} (h : r.1.r.length = 32) : buildV prg T_syngraphlaw23_Op [(2, .agg (rawC r.1 r.2).toArray)] = some (.agg (opC (opOf r)).toArray) := by
  have hl := rawC_len (x := r.2) h
  have hz : (recC 0 (.slice none 0 0) (.slice none 0 0) 0 zeroH).length = 36 := recC_len rfl
  rw [buildV_of k_Op, bfill_cons (off := 33) (n := 36) rfl (by simp [hl]) (by rw [List.size_toArray, List.length_append, hz]; simp [zeroH]), bfill_nil]
  have := spl_mid (A := .int .i64 0 :: bcells zeroH) (B := recC 0 (.slice none 0 0) (.slice none 0 0) 0 zeroH) (C := []) (B' := rawC r.1 r.2) (o := 33) (by simp [zeroH]) (by rw [hl, hz])
  simp only [List.append_nil] at this
  rw [Option.map_some, Cells_agg, this]; rfl
theorem cells_Op : prg.cellsOf T_syngraphlaw23_Op = 69 := by kernel_rfl

theorem ops_build {H h0 : Heap} {v : Value} {all : List (RecA × Value × Value)} {k1 : Value → Value → Heap → Prop} (hv : SlE 36 (fun b => H.size ≤ b) h0 v (all.map fun r => rawC r.1 r.2)) (hin : ∀ r ∈ all, RawIn (· < H.size) H r.1 r.2) (hl : all.length ≤ 4194304) (kH : Keep (fun _ => False) H h0)
    (hk : ∀ t u h, SlE 69 (fun b => h0.size ≤ b) h t ((all.map opOf).map opC) → Keep (fun _ => False) h0 h → k1 t u h) :
    L2 (fun k6 => fun t5_2 t23_2 h7 =>
      Mpu (binV .no .lss t23_2 (.int .i64 all.length)) fun t24 =>
      Mcd t24 (
        Mpu (ixS 36 v t23_2) fun t25 =>
        Mpu (ldN 36 h7 t25) fun t26 =>
        Mnew h7 T_history_Record (zcells prg T_history_Record) fun t7 h8 =>
        Mwr (stN 36 h8 t7 t26) fun h9 =>
        Mpu (ldN 36 h9 t7) fun t28 =>
        Mpu (buildV prg T_syngraphlaw23_Op [(2, t28)]) fun t29 =>
        Mnews h9 T_syngraphlaw23_Op 1 (bslV prg T_syngraphlaw23_Op 1 [(0, t29)]) fun t30 h10 =>
        Mapp T_syngraphlaw23_Op 69 136 h10 t5_2 t30 fun t31 h11 =>
        Mpu (binV .no .add t23_2 (.int .i64 1)) fun t32 =>
        k6 t31 t32 h11) (
        k1 t5_2 t23_2 h7)) ((.slice none 0 0)) ((.int .i64 0)) h0 := by
  refine L2_i (fun t u h => ∃ i : Nat, i ≤ all.length ∧ u = .int .i64 (i : Nat) ∧ BufE 69 (h0.size ≤ ·) h t (((all.take i).map opOf).map opC) ∧ Keep (fun _ => False) h0 h) (fun _ u _ => match u with | .int _ t => all.length - t.toNat | _ => 0) ⟨0, Nat.zero_le _, rfl, BufE.nil, Keep.refl⟩ ?_
  rintro t _ h ⟨i, hi, rfl, hb, kh⟩ k hk'
  have elt : binV .no .lss (.int .i64 (i : Nat)) (.int .i64 (all.length : Nat)) = some (.bool (decide (i < all.length))) := by
    rw [binV_int]; simp only [intV]; congr 2; rw [decide_eq_decide]; omega
  rw [elt, Mpu_some, Mcd_bool]
  by_cases hlt : i < all.length
  rotate_left
  · rw [if_neg (by simpa using hlt)]
    rw [List.take_of_length_le (by omega)] at hb
    exact hk _ _ _ hb.sl kh
  rw [if_pos (by simpa using hlt)]
  have hg : all[i]? = some all[i] := List.getElem?_eq_getElem hlt
  have hraw := (hin all[i] (List.getElem_mem _)).keep (kH.trans kh) fun _ _ => id
  generalize all[i] = r at hg hraw
  obtain ⟨b, o, hix, hpt, _⟩ := (hv.keep kh fun _ _ => id).at (i := i) (x := rawC r.1 r.2) (by rw [List.getElem?_map, hg]; rfl)
  have hrl := rawC_len (x := r.2) hraw.1
  rw [hix, Mpu_some, hpt.agg hrl, Mpu_some]
  refine new_rec hrl (rawC_one hraw) fun h9 _ a9 k9 => ?_
  have hop : OpIn (· < H.size) h (opOf r) := ⟨rfl, hraw⟩
  have hlen := opC_len hop
  obtain ⟨z, hz, hzl⟩ := z_Op
  have hb1 : bslV prg T_syngraphlaw23_Op 1 [(0, .agg (opC (opOf r)).toArray)] = some (opC (opOf r)).toArray := bsl_one cells_Op (by omega) (by omega) hz (by simp [hzl]) (by simp [hlen])
  rw [a9.ldN hrl, Mpu_some, bld_Op hraw.1, Mpu_some, hb1, Mnews_some]
  generalize hH10 : h9.push (.cells (opC (opOf r)).toArray T_syngraphlaw23_Op (0, 0)) = h10
  have k10 : Keep (fun _ => False) h9 h10 := by rw [← hH10]; exact Keep.push
  have n10 : At h10 h9.size (opC (opOf r)) := by rw [← hH10]; exact At.push
  have sl : SlE 69 (fun _ => True) h10 (.slice (some ⟨h9.size, 0, none⟩) 1 1) [opC (opOf r)] :=
    ⟨⟨_, 1, rfl, Nat.le_refl _, .inr ⟨h9.size, 0, rfl, trivial, by simp only [List.flatten_cons, List.flatten_nil, List.append_nil]; exact n10.pt⟩⟩, fun x hx => by simp at hx; subst hx; exact hlen, fun x hx => by simp at hx; subst hx; exact opC_one hop⟩
  have kk := k9.trans k10
  have kh10 := kh.trans kk
  refine BufE.app (hb.keep kk fun _ _ => id) sl (by omega) (by simp; omega) kh10.1 fun t31 h11 b11 k11 => ?_
  rw [add1M (by omega), Mpu_some]
  refine hk' _ _ _ ⟨i + 1, hlt, rfl, ?_, kh10.fresh k11 fun b hb => hb⟩ (by show all.length - (i + 1) < all.length - i; omega)
  have e : ((all.take (i + 1)).map opOf).map opC = ((all.take i).map opOf).map opC ++ [opC (opOf r)] := by rw [take_snoc hg]; simp
  rw [e]; exact b11

/-- the mark of a history -/
def markR (rs : List RecA) : Reg := ⟨rs.length, topF (chL rs), 0, zeroH, false⟩
theorem appRs_ch {rs : List RecA} {a : RecA} : appCh rs (chL rs) a = chL (appRs rs a) := by
  unfold appCh appRs
  split
  · rw [chL_snoc]
  · rfl
theorem appRs_grown {rs : List RecA} {a : RecA} (g : Grown rs) (w : RecWf a) : Grown (appRs rs a) := by
  unfold appRs
  split
  · rename_i h
    unfold appB at h
    simp only [Bool.and_eq_true, Bool.not_eq_true', decide_eq_false_iff_not] at h
    exact g.snoc (by have := g.1; omega) h.1 w
  · exact g
theorem appRs_len {rs : List RecA} {a : RecA} : (appRs rs a).length ≤ rs.length + 1 := by
  unfold appRs
  split <;> simp
theorem mark_step {rs : List RecA} {a : RecA} (hl : rs.length ≤ 4000) (h : appB rs a = true) : endR (begR (markR rs) (topF (chL (appRs rs a)))) = markR (appRs rs a) := by
  unfold appRs
  rw [if_pos h, chL_snoc]
  unfold begR
  rw [if_neg (by simp [markR])]
  unfold endR
  rw [if_pos rfl]
  unfold markR
  congr 1
  rotate_left
  · show topF (chL rs ++ [chainF (chL rs) a]) = _
    rw [chL_snoc]
  show IntKind.i64.wrap ((rs.length : Int) + 1) = ((rs ++ [a]).length : Nat)
  have e : (((rs ++ [a]).length : Nat) : Int) = (rs.length : Int) + 1 := by simp
  rw [e, wrap_id] <;> omega

theorem rawIn_wf {P : Nat → Prop} {H : Heap} {a : RecA} {x : Value × Value} (h : RawIn P H a x) : RecWf a := ⟨h.2.1.2, h.2.2.1.2, h.1⟩
theorem RawIn.mono {P Q : Nat → Prop} {H : Heap} {a : RecA} {x : Value × Value} (h : RawIn P H a x) (k : ∀ b, P b → Q b) : RawIn Q H a x := ⟨h.1, h.2.1.mono k, h.2.2.1.mono k, h.2.2.2⟩

/-- a loop that appends -/
theorem app_loop {H0 h0 : Heap} {v : Value} {l : List (RecA × Value × Value)} {j q : Nat} {X : (Nat → Nat) → Heap → Prop} {k37 : Value → Heap → Prop} (hv : Recs (· < H0.size) H0 v l) (hl : l.length ≤ 4000) (hall : ∀ r ∈ l, smallB r.1.bef r.1.aft = true) (hS : ShaT H0) (hT : PowT H0)
    (hj : 2 < j) (hX : ∀ col col' h h', Mv col col' (fun k => k = j) h h' → X col h → X col' h')
    {col : Nat → Nat} {rs : List RecA} (hh : HistC col j q h0 rs (chL rs)) (g : Grown rs) (inp : ∀ b, b < H0.size → col b = 1) (kH : Keep (fun _ => False) H0 h0) (x0 : X col h0)
    (hk : ∀ u h col rs, HistC col j q h rs (chL rs) → Grown rs → (∀ b, b < H0.size → col b = 1) → Keep (fun _ => False) H0 h → X col h → k37 u h) :
    L1 (fun k39 => fun t75_2 h40 =>
          Mpu (binV .no .lss t75_2 (.int .i64 l.length)) fun t76 =>
          Mcd t76 (
            Mpu (ixS 36 v t75_2) fun t77 =>
            Mpu (ldN 36 h40 t77) fun t78 =>
            Mnew h40 T_history_Record (zcells prg T_history_Record) fun t14 h41 =>
            Mwr (stN 36 h41 t14 t78) fun h42 =>
            Mpu (ldN 36 h42 t14) fun t80 =>
            Mcall prg f_history_History_Append [Ptr q 0, t80] h42 fun t81 h43 =>
            Mpu (binV .no .add t75_2 (.int .i64 1)) fun t82 =>
            k39 t82 h43) (
            k37 t75_2 h40)) ((.int .i64 0)) h0 := by
  refine L1_i (fun u h => ∃ (i : Nat) (col : Nat → Nat) (rs : List RecA), i ≤ l.length ∧ u = .int .i64 (i : Nat) ∧ HistC col j q h rs (chL rs) ∧ Grown rs ∧ (∀ b, b < H0.size → col b = 1) ∧ Keep (fun _ => False) H0 h ∧ X col h)
    (fun u _ => match u with | .int _ t => l.length - t.toNat | _ => 0) ⟨0, col, rs, Nat.zero_le _, rfl, hh, g, inp, kH, x0⟩ ?_
  clear hh g inp kH x0
  clear col rs
  rintro _ h ⟨i, col, rs, hi, rfl, hh, g, inp, kh, hxx⟩ k hk'
  have elt : binV .no .lss (.int .i64 (i : Nat)) (.int .i64 (l.length : Nat)) = some (.bool (decide (i < l.length))) := by
    rw [binV_int]; simp only [intV]; congr 2; rw [decide_eq_decide]; omega
  rw [elt, Mpu_some, Mcd_bool]
  by_cases hlt : i < l.length
  rotate_left
  · rw [if_neg (by simpa using hlt)]
    exact hk _ _ col rs hh g inp kh hxx
  rw [if_pos (by simpa using hlt)]
  have hg : l[i]? = some l[i] := List.getElem?_eq_getElem hlt
  have hsm := hall l[i] (List.getElem_mem _)
  generalize l[i] = r at hg hsm
  obtain ⟨hr, b, o, hix, hpt, hpb⟩ := (hv.keep kh fun _ _ => id).at hg
  have hrl := rawC_len (x := r.2) hr.1
  rw [hix, Mpu_some, hpt.agg hrl, Mpu_some]
  refine new_rec hrl (rawC_one hr) fun h7 _ a7 k7 => ?_
  rw [a7.ldN hrl, Mpu_some]
  have m0 : Mv col col (fun k => k = j) h h7 := Mv.pure k7
  refine call_i (c_AppendC (hh.pure k7) rfl (kh.trans k7) inp (by omega) hS hT (hr.keep k7 fun _ _ => id) hsm) ?_
  rintro _ h8 ⟨_, col', m, hh'⟩
  rw [appRs_ch] at hh'
  rw [add1M (by omega), Mpu_some]
  refine hk' _ _ ⟨i + 1, col', _, hlt, rfl, hh', appRs_grown g (rawIn_wf hr), fun b hb => (m.same b (Nat.lt_of_lt_of_le hb (kh.trans k7).1)).trans (inp b hb), m.keep0 (by omega) (kh.trans k7) inp, hX _ _ _ _ (m0.trans m) hxx⟩ (by show l.length - (i + 1) < l.length - i; omega)
end Go.Proofs.YtdmciknajaedmaaDoor
