/- JOINED: V30 V32 V33 -/
import Derived.Test.YtconalffokhplaaGreatDoorGU
import Derived.Test.YtconalffokhplaaGreatDoorGI
import Derived.Test.YtconalffokhplaaGreatDoorGH
import Derived.Test.YtconalffokhplaaGreatDoorGE
set_option linter.unusedSimpArgs false
set_option linter.unusedVariables false
/- versions: the reference's Right and Less; the order. -/
namespace Go.Proofs.YtconalffokhplaaGreatDoor
open Go.X Go.X.Diff
set_option maxRecDepth 100000

theorem Mre_ok {v : Value} {l : List (Option Value × Value)} {p : Prop} : Mre ((some v, v) :: l) p ↔ Mre l p := by simp
theorem ex20 {a b : Value} : extV 0 (.tuple #[a, b]) = some a := rfl
theorem ex21 {a b : Value} : extV 1 (.tuple #[a, b]) = some b := rfl
theorem ex30 {a b c : Value} : extV 0 (.tuple #[a, b, c]) = some a := rfl
theorem ex31 {a b c : Value} : extV 1 (.tuple #[a, b, c]) = some b := rfl
theorem ex32 {a b c : Value} : extV 2 (.tuple #[a, b, c]) = some c := rfl
/-- at block q lie just these cells -/
def At (h : Heap) (q : Nat) (cs : List Value) : Prop := ∃ T, h[q]? = some (.cells cs.toArray T (0, 0))
section
variable {h h' H : Heap} {q : Nat} {cs : List Value}
theorem At.push {T : TypeId} : At (h.push (.cells cs.toArray T (0, 0))) h.size cs := ⟨T, push_new⟩
theorem At.keep {S : Nat → Prop} (a : At h q cs) (k : Keep S h h') (hs : ¬ S q) : At h' q cs := by obtain ⟨T, a⟩ := a; exact ⟨T, k.at a hs⟩
theorem At.lt (a : At h q cs) : q < h.size := by obtain ⟨T, a⟩ := a; exact lt_of a
theorem At.pt (a : At h q cs) : Pt h q 0 cs := by obtain ⟨T, a⟩ := a; exact Pt.of a
theorem At.ldN (a : At h q cs) {n : Nat} (hn : cs.length = n) : ldN n h (Ptr q 0) = some (.agg cs.toArray) := a.pt.agg hn
theorem At.ld (a : At h q cs) {i : Nat} {v : Value} (hi : cs[i]? = some v) : ld1 h (Ptr q i) = some v := by obtain ⟨T, a⟩ := a; exact ld_l a hi
theorem At.st (a : At h q cs) {n : Nat} {ds : List Value} (hn : cs.length = n) (hd : ds.length = n) (h1 : ∀ c ∈ ds, c.oneCell' = true) :
    ∃ h', stN n h (Ptr q 0) (.agg ds.toArray) = some h' ∧ At h' q ds ∧ Keep (· = q) h h' := by
  obtain ⟨T, a⟩ := a
  have := stN_mid (n := n) (o := 0) (A := []) (B := cs) (C := []) (B' := ds) (by rw [List.nil_append, List.append_nil]; exact a) rfl (by simp [hn]) hd (all_of h1)
  rw [List.nil_append, List.append_nil] at this
  exact ⟨_, this, ⟨T, set_self a⟩, Keep.set rfl⟩
theorem At.st1 (a : At h q cs) {i : Nat} {v : Value} (hi : i < cs.length) (hv : v.oneCell' = true) : ∃ h', st1 h (Ptr q i) v = some h' ∧ At h' q (cs.set i v) ∧ Keep (· = q) h h' := by
  obtain ⟨T, a⟩ := a
  exact ⟨_, st_l a hi hv, ⟨T, set_self a⟩, Keep.set rfl⟩
theorem _root_.Go.X.Keep.fresh {S : Nat → Prop} (k : Keep (fun _ => False) H h) (k2 : Keep S h h') (hs : ∀ b, S b → H.size ≤ b) : Keep (fun _ => False) H h' :=
  ⟨Nat.le_trans k.1 k2.1, fun i hi _ => by rw [k2.2 i (Nat.lt_of_lt_of_le hi k.1) (fun h => by have := hs i h; omega), k.2 i hi id]⟩
end
theorem Ver.cases3 {v : Ver} (h : v.wf) : ∃ a b c, v.p = [a, b, c] := by
  obtain ⟨p, pre⟩ := v
  have := h.p3
  match p, this with
  | [a, b, c], _ => exact ⟨a, b, c, rfl⟩
section
variable {h : Heap} {q : Nat} {v : Ver}
theorem ver_ld4 (a : At h q (verC v)) (hv : v.wf) : ldN 4 h (Ptr q 0) = some (.agg (verC v).toArray) := a.ldN (verC_len hv)
end
theorem z_VV : zcells prg T_version_Version = some (verC ⟨[0, 0, 0], []⟩).toArray := by kernel_rfl
def zeroV : Ver := ⟨[0, 0, 0], []⟩
theorem zeroV_wf : zeroV.wf := ⟨rfl, by simp [zeroV]⟩
theorem b_V0 : buildV prg T_version_Version [] = some (.agg (verC zeroV).toArray) := by kernel_rfl

end Go.Proofs.YtconalffokhplaaGreatDoor

/- versions: the reference's digits and Show, its operators, what fits. -/
namespace Go.Proofs.YtconalffokhplaaGreatDoor
open Go.X Go.X.Diff
set_option maxRecDepth 100000

theorem str_app {a b : List UInt8} {q : EqK} (h : a.length + b.length ≤ 9223372036854775807) : binV q .add (str a) (str b) = some (str (a ++ b)) := by rw [binV_str]; exact strV_add h
theorem str_eql {a b : List UInt8} {q : EqK} : binV q .eql (str a) (str b) = some (.bool (decide (a = b))) := by rw [binV_str]; exact strV_eq
theorem str_neq {a b : List UInt8} {q : EqK} : binV q .neq (str a) (str b) = some (.bool (!decide (a = b))) := by rw [binV_str]; exact strV_ne

def opsR : List (List UInt8) := [[61], [33, 61], [60], [60, 61], [62], [62, 61], [94]]
end Go.Proofs.YtconalffokhplaaGreatDoor

/- strings: Index of one byte, Cut, CutPrefix, SplitSeq. -/
namespace Go.Proofs.YtconalffokhplaaGreatDoor
open Go.X Go.X.Diff
set_option maxRecDepth 100000

theorem _root_.Go.X.L0_i {body : (Heap → Prop) → Heap → Prop} {H : Heap} (I : Heap → Prop) (μ : Heap → Nat) (h0 : I H)
    (hs : ∀ h, I h → ∀ k : Heap → Prop, (∀ h', I h' → μ h' < μ h → k h') → body k h) : L0 body H := by
  refine ⟨fun vs h => vs = [] ∧ I h, fun _ h => μ h, ⟨rfl, h0⟩, ?_⟩
  rintro vs h _ ⟨rfl, hI⟩
  exact hs h hI _ fun h' hI' hm => ⟨⟨rfl, hI'⟩, hm⟩

theorem add_one' {n : Nat} (h : n ≤ 1099511627776) : binV .no .add (.int .i64 (n : Nat)) (.int .i64 1) = some (.int .i64 ((n + 1 : Nat) : Int)) := by
  rw [binV_int]; simp only [intV]; rw [wrap_id (by omega) (by omega)]; rfl
theorem lt_zero' {n : Nat} : binV .no .lss (.int .i64 (n : Nat)) (.int .i64 0) = some (.bool false) := by
  rw [binV_int]; simp only [intV]; rw [decide_eq_false (by omega)]
theorem lt_neg' : binV .no .lss (.int .i64 (-1)) (.int .i64 0) = some (.bool true) := rfl
theorem ge_zero' {n : Nat} : binV .no .geq (.int .i64 (n : Nat)) (.int .i64 0) = some (.bool true) := by
  rw [binV_int]; simp only [intV]; rw [decide_eq_true (by omega)]
theorem c_lIndexByte {H : Heap} {l : List UInt8} {x : UInt8} : HCalls prg f_internal_stringslite_IndexByte [str l, .int .u8 x.toNat] H fun u H' => u = .int .i64 (Lib.indexByte l x) ∧ H = H' := by
  apply sh_internal_stringslite_IndexByte_calls
  unfold sh_internal_stringslite_IndexByte
  intro w hw
  refine ⟨_, w, by rw [xt_IndexByteString]; exact Lib.run_indexByteString _ _ w, Same.rfl' w, ?_, hw.symm⟩
  simp
theorem c_lIndex {H : Heap} {l : List UInt8} {c : UInt8} : HCalls prg f_internal_stringslite_Index [str l, str [c]] H fun u H' => u = .int .i64 (Lib.indexByte l c) ∧ H = H' := by
  apply sh_internal_stringslite_Index_calls
  unfold sh_internal_stringslite_Index
  have e1 : lenT (str [c]) = some (.int .i64 1) := rfl
  have e2 : binV .no .eql (.int .i64 1) (.int .i64 0) = some (.bool false) := rfl
  have e3 : binV .no .eql (.int .i64 1) (.int .i64 1) = some (.bool true) := rfl
  have e4 : ixT (str [c]) (.int .i64 0) = some (.int .u8 c.toNat) := ixT_str (i := 0) rfl
  have e5 := fun q => str_eql (q := q) (a := [c]) (b := l)
  cases hx : decide ([c] = l) <;> simp only [e1, e2, e3, e4, e5, hx, unV_not, Bool.not_true, Bool.not_false, Mif_bool, Mif_undef, pickV_bool, Mcd_bool, Mpu_some, if_true, if_false, Bool.false_eq_true, Bool.true_eq_false, decide_true, decide_false, reduceCtorEq, J1_eq, ex20, ex21, ex30, ex31, ex32, Mre_ok, Mre_nil]
  · exact call_i c_lIndexByte fun u h hR => hR
  · have : l = [c] := (of_decide_eq_true hx).symm
    subst this
    refine ⟨?_, by trivial⟩
    simp [Lib.indexByte]
theorem c_sIndex {H : Heap} {l : List UInt8} {c : UInt8} : HCalls prg f_strings_Index [str l, str [c]] H fun u H' => u = .int .i64 (Lib.indexByte l c) ∧ H = H' := by
  apply sh_strings_Index_calls
  unfold sh_strings_Index
  exact call_i c_lIndex fun u h hR => hR

theorem sl_to {l : List UInt8} {o : Nat} (h : o ≤ l.length) : slT (str l) none (some (.int .i64 (o : Nat))) = some (str (l.take o)) := by
  have := slT_str (l := l) (lo := 0) (hi := o) (a := none) (b := some (.int .i64 (o : Nat))) (Nat.zero_le _) h rfl (by simp [bnd, h])
  rwa [List.drop_zero] at this
theorem sl_from {l : List UInt8} {o : Nat} (h : o ≤ l.length) : slT (str l) (some (.int .i64 (o : Nat))) none = some (str (l.drop o)) := by
  have := slT_str (l := l) (lo := o) (hi := l.length) (a := some (.int .i64 (o : Nat))) (b := none) h (Nat.le_refl _) (by simp [bnd, h]) rfl
  rwa [List.take_length] at this

theorem c_lCut {H : Heap} {l : List UInt8} {c : UInt8} (hl : l.length ≤ 1099511627776) : HCalls prg f_internal_stringslite_Cut [str l, str [c]] H fun u H' => (∃ b : Bool, u = .tuple #[str (cutA c l), str (cutB c l), .bool b]) ∧ H = H' := by
  apply sh_internal_stringslite_Cut_calls
  unfold sh_internal_stringslite_Cut
  refine call_i c_lIndex ?_
  rintro _ _ ⟨rfl, rfl⟩
  rcases index_cases l c with he | ⟨o, he⟩
  · rw [he]
    have e1 : binV .no .geq (.int .i64 (-1)) (.int .i64 0) = some (.bool false) := rfl
    obtain ⟨h1, h2⟩ := cut_none (index_none he)
    simp only [e1, unV_not, Bool.not_true, Bool.not_false, Mif_bool, Mif_undef, pickV_bool, Mcd_bool, Mpu_some, if_true, if_false, Bool.false_eq_true, Bool.true_eq_false, decide_true, decide_false, reduceCtorEq, J1_eq, ex20, ex21, ex30, ex31, ex32, Mre_ok, Mre_nil]
    exact ⟨⟨false, by rw [h1, h2]⟩, by trivial⟩
  · rw [he]
    obtain ⟨hlt, hni, hsp⟩ := index_some he
    have e2 : lenT (str [c]) = some (.int .i64 1) := rfl
    have e4 := add_one' (n := o) (by omega)
    have e5 := ge_zero' (n := o)
    simp only [e5, e2, e4, sl_to (Nat.le_of_lt hlt), sl_from (show o + 1 ≤ l.length by omega), unV_not, Bool.not_true, Bool.not_false, Mif_bool, Mif_undef, pickV_bool, Mcd_bool, Mpu_some, if_true, if_false, Bool.false_eq_true, Bool.true_eq_false, decide_true, decide_false, reduceCtorEq, J1_eq, ex20, ex21, ex30, ex31, ex32, Mre_ok, Mre_nil]
    refine ⟨⟨true, ?_⟩, by trivial⟩
    have := cut_some (c := c) (b := l.drop (o + 1)) hni
    rw [← hsp] at this
    rw [this.1, this.2]
theorem c_Cut {H : Heap} {l : List UInt8} {c : UInt8} (hl : l.length ≤ 1099511627776) : HCalls prg f_strings_Cut [str l, str [c]] H fun u H' => (∃ b : Bool, u = .tuple #[str (cutA c l), str (cutB c l), .bool b]) ∧ H = H' := by
  apply sh_strings_Cut_calls
  unfold sh_strings_Cut
  refine call_i (c_lCut hl) ?_
  rintro _ _ ⟨⟨b, rfl⟩, rfl⟩
  simp only [unV_not, Bool.not_true, Bool.not_false, Mif_bool, Mif_undef, pickV_bool, Mcd_bool, Mpu_some, if_true, if_false, Bool.false_eq_true, Bool.true_eq_false, decide_true, decide_false, reduceCtorEq, J1_eq, ex20, ex21, ex30, ex31, ex32, Mre_ok, Mre_nil]
  exact ⟨⟨b, rfl⟩, by trivial⟩

theorem c_HasPrefix {H : Heap} {l p : List UInt8} : HCalls prg f_internal_stringslite_HasPrefix [str l, str p] H fun u H' => u = .bool (decide (p.length ≤ l.length) && decide (l.take p.length = p)) ∧ H = H' := by
  apply sh_internal_stringslite_HasPrefix_calls
  unfold sh_internal_stringslite_HasPrefix
  have e0 : binV .no .geq (.int .i64 (l.length : Nat)) (.int .i64 (p.length : Nat)) = some (.bool (decide (p.length ≤ l.length))) := by
    rw [binV_int]; simp only [intV]; congr 2; rw [decide_eq_decide]; omega
  simp only [lenT_str, Mpu_some, e0]
  cases hx : decide (p.length ≤ l.length) <;> simp only [unV_not, Bool.not_true, Bool.not_false, Mif_bool, Mif_undef, pickV_bool, Mcd_bool, Mpu_some, if_true, if_false, Bool.false_eq_true, Bool.true_eq_false, decide_true, decide_false, reduceCtorEq, J1_eq, ex20, ex21, ex30, ex31, ex32, Mre_ok, Mre_nil, Bool.false_and]
  · trivial
  · have := of_decide_eq_true hx
    simp only [sl_to this, str_eql, unV_not, Bool.not_true, Bool.not_false, Mif_bool, Mif_undef, pickV_bool, Mcd_bool, Mpu_some, if_true, if_false, Bool.false_eq_true, Bool.true_eq_false, decide_true, decide_false, reduceCtorEq, J1_eq, ex20, ex21, ex30, ex31, ex32, Mre_ok, Mre_nil, Bool.true_and]
    trivial
theorem c_CutPrefix {H : Heap} {l p : List UInt8} : HCalls prg f_strings_CutPrefix [str l, str p] H fun u H' => ((p.isPrefixOf l = true ∧ u = .tuple #[str (l.drop p.length), .bool true]) ∨ (p.isPrefixOf l = false ∧ u = .tuple #[str l, .bool false])) ∧ H = H' := by
  have hiff : (decide (p.length ≤ l.length) && decide (l.take p.length = p)) = p.isPrefixOf l := by
    rw [Bool.eq_iff_iff, List.isPrefixOf_iff_prefix, List.prefix_iff_eq_take]
    simp only [Bool.and_eq_true, decide_eq_true_eq]
    constructor
    · rintro ⟨_, h⟩; exact h.symm
    · intro h
      refine ⟨?_, h.symm⟩
      have := congrArg List.length h
      rw [List.length_take] at this; omega
  apply sh_strings_CutPrefix_calls
  unfold sh_strings_CutPrefix
  refine call_i (R := fun u H' => ((p.isPrefixOf l = true ∧ u = .tuple #[str (l.drop p.length), .bool true]) ∨ (p.isPrefixOf l = false ∧ u = .tuple #[str l, .bool false])) ∧ H = H') ?_ ?_
  · apply sh_internal_stringslite_CutPrefix_calls
    unfold sh_internal_stringslite_CutPrefix
    refine call_i c_HasPrefix ?_
    rintro _ _ ⟨rfl, rfl⟩
    rw [hiff]
    cases hx : p.isPrefixOf l <;> simp only [unV_not, Bool.not_true, Bool.not_false, Mif_bool, Mif_undef, pickV_bool, Mcd_bool, Mpu_some, if_true, if_false, Bool.false_eq_true, Bool.true_eq_false, decide_true, decide_false, reduceCtorEq, J1_eq, ex20, ex21, ex30, ex31, ex32, Mre_ok, Mre_nil]
    · exact ⟨.inr ⟨by trivial, by trivial⟩, by trivial⟩
    · rw [← hiff] at hx
      simp only [Bool.and_eq_true, decide_eq_true_eq] at hx
      simp only [lenT_str, sl_from hx.1, unV_not, Bool.not_true, Bool.not_false, Mif_bool, Mif_undef, pickV_bool, Mcd_bool, Mpu_some, if_true, if_false, Bool.false_eq_true, Bool.true_eq_false, decide_true, decide_false, reduceCtorEq, J1_eq, ex20, ex21, ex30, ex31, ex32, Mre_ok, Mre_nil]
      exact ⟨.inl ⟨by trivial, by trivial⟩, by trivial⟩
  · rintro u h ⟨hR, rfl⟩
    rcases hR with ⟨h1, rfl⟩ | ⟨h1, rfl⟩ <;> simp only [unV_not, Bool.not_true, Bool.not_false, Mif_bool, Mif_undef, pickV_bool, Mcd_bool, Mpu_some, if_true, if_false, Bool.false_eq_true, Bool.true_eq_false, decide_true, decide_false, reduceCtorEq, J1_eq, ex20, ex21, ex30, ex31, ex32, Mre_ok, Mre_nil]
    · exact ⟨.inl ⟨h1, by trivial⟩, by trivial⟩
    · exact ⟨.inr ⟨h1, by trivial⟩, by trivial⟩

/-- the cells of a SplitSeq -/
structure SplitSt (qs qp qn : Nat) (l : List UInt8) (c : UInt8) (h : Heap) : Prop where
  s : At h qs [str l]
  p : At h qp [str [c]]
  n : At h qn [.int .i64 0]
  ne : qs ≠ qp ∧ qs ≠ qn
theorem split_iter {qs qp qn : Nat} {l : List UInt8} {c : UInt8} (hl : l.length ≤ 1099511627776) :
    Iter prg (.func (.func f_strings_splitSeq_1) #[] #[Ptr qp 0, Ptr qs 0, Ptr qn 0]) ((splitF c l).map fun x => [str x]) (fun b => b = qs ∨ b = qp ∨ b = qn) (SplitSt qs qp qn l c) := by
  intro yv h0 J E hst hJ hbody sJ sE
  refine ⟨f_strings_splitSeq_1, #[], #[Ptr qp 0, Ptr qs 0, Ptr qn 0], rfl, by kernel_rfl, ?_⟩
  show HCalls prg f_strings_splitSeq_1 [yv, Ptr qp 0, Ptr qs 0, Ptr qn 0] h0 _
  apply sh_strings_splitSeq_1_calls
  unfold sh_strings_splitSeq_1
  have e1 : lenT (str [c]) = some (.int .i64 1) := rfl
  have e2 : binV .no .eql (.int .i64 1) (.int .i64 0) = some (.bool false) := rfl
  refine J0_i (fun h => h0 = h) (fun k hk => ?_) ?_
  · have := hst.p.ld (i := 0) rfl
    simp only [this, Mpu_some, e1, e2, Mcd_bool, Bool.false_eq_true, if_false]
    exact hk _ rfl
  rintro _ rfl
  have hn : ((splitF c l).map fun x => [str x]).length = (splitF c l).length := by simp
  rw [hn]
  /- what holds ahead of each round -/
  let I : Heap → Prop := fun h => ∃ (pre : List (List UInt8)) (rest : List UInt8), splitF c l = pre ++ splitF c rest ∧ rest.length ≤ l.length ∧ SplitSt qs qp qn rest c h ∧ J pre.length h
  let fin : Heap → Prop := fun h => ∃ (pre : List (List UInt8)) (rest : List UInt8), splitF c l = pre ++ [rest] ∧ SplitSt qs qp qn rest c h ∧ J pre.length h
  refine J0_i fin (fun k hk => ?_) ?_
  · refine L0_i I (fun h => match ld1 h (Ptr qs 0) with | some (.string s) => s.size | _ => 0) ⟨[], l, rfl, Nat.le_refl _, hst, hJ⟩ ?_
    rintro h ⟨pre, rest, hsp, hle, hs, hJ⟩ k2 hk2
    have d1 := hs.s.ld (i := 0) rfl
    have d2 := hs.p.ld (i := 0) rfl
    have d3 := hs.n.ld (i := 0) rfl
    simp only [d1, d2, Mpu_some]
    refine call_i c_sIndex ?_
    rintro _ _ ⟨rfl, rfl⟩
    rcases index_cases rest c with he | ⟨o, he⟩
    · rw [he, lt_neg', Mpu_some, Mcd_bool, if_pos rfl]
      refine hk _ ⟨pre, rest, ?_, hs, hJ⟩
      rw [hsp, splitF_none (index_none he)]
    · obtain ⟨hlt, hni, hre⟩ := index_some he
      have hsr : splitF c rest = rest.take o :: splitF c (rest.drop (o + 1)) := by
        conv => lhs; rw [hre]
        exact splitF_some hni
      have e3 : binV .no .add (.int .i64 (o : Nat)) (.int .i64 0) = some (.int .i64 (o : Nat)) := by
        rw [binV_int]; simp only [intV]; rw [wrap_id (by omega) (by omega)]; simp
      rw [he, lt_zero', Mpu_some, Mcd_bool, if_neg (by decide)]
      simp only [d1, d3, Mpu_some, e3, sl_to (Nat.le_of_lt hlt)]
      have hget : ((splitF c l).map fun x => [str x])[pre.length]? = some [str (rest.take o)] := by
        rw [List.getElem?_map, hsp, hsr, List.getElem?_append_right (Nat.le_refl _), Nat.sub_self]; rfl
      refine (hbody _ _ _ hget hJ).mono ?_
      rintro v h' ⟨hsz, hS, hv⟩
      have keepA : ∀ {q cs}, (q = qs ∨ q = qp ∨ q = qn) → At h q cs → At h' q cs := fun {q cs} hq ⟨T, a⟩ => ⟨T, by rw [hS q hq (lt_of a)]; exact a⟩
      have s' := keepA (.inl rfl) hs.s
      have p' := keepA (.inr (.inl rfl)) hs.p
      have n' := keepA (.inr (.inr rfl)) hs.n
      rcases hv with ⟨rfl, hJ'⟩ | ⟨rfl, hE⟩
      · have d1' := s'.ld (i := 0) rfl
        have d2' := p'.ld (i := 0) rfl
        have e4 := add_one' (n := o) (by omega)
        obtain ⟨h2, hst2, a2, k2'⟩ := s'.st1 (i := 0) (v := str (rest.drop (o + 1))) (by simp) rfl
        simp only [unV_not, Bool.not_true, Mpu_some, Mcd_bool, Bool.false_eq_true, if_false, d1', d2', e1, e4, sl_from (show o + 1 ≤ rest.length by omega), hst2, Mwr_some]
        refine hk2 _ ⟨pre ++ [rest.take o], rest.drop (o + 1), by rw [hsp, hsr]; simp, by simp; omega, ⟨a2, p'.keep k2' (fun e => hs.ne.1 e.symm), n'.keep k2' (fun e => hs.ne.2 e.symm), hs.ne⟩, ?_⟩ ?_
        · rw [List.length_append]
          exact sJ _ _ _ hJ' (k2'.mono fun b _ hb => .inl hb)
        · have := a2.ld (i := 0) (v := str (rest.drop (o + 1))) rfl
          rw [this, d1]
          simp only [size_mk, List.length_drop]; omega
      · simp only [unV_not, Bool.not_false, Mpu_some, Mcd_bool, if_true]
        exact .inr hE
  · rintro h ⟨pre, rest, hsp, hs, hJ⟩
    have d1 := hs.s.ld (i := 0) rfl
    rw [d1, Mpu_some]
    have hget : ((splitF c l).map fun x => [str x])[pre.length]? = some [str rest] := by
      rw [List.getElem?_map, hsp, List.getElem?_append_right (Nat.le_refl _), Nat.sub_self]; rfl
    refine (hbody _ _ _ hget hJ).mono ?_
    rintro v h' ⟨hsz, hS, hv⟩
    rcases hv with ⟨rfl, hJ'⟩ | ⟨rfl, hE⟩
    · left
      rw [hsp, List.length_append]; exact hJ'
    · exact .inr hE

theorem c_SplitSeq {H : Heap} {l : List UInt8} {c : UInt8} : HCalls prg f_strings_SplitSeq [str l, str [c]] H fun u H' =>
    ∃ qs qp qn, u = .func (.func f_strings_splitSeq_1) #[] #[Ptr qp 0, Ptr qs 0, Ptr qn 0] ∧ SplitSt qs qp qn l c H' ∧ (∀ b, (b = qs ∨ b = qp ∨ b = qn) → H.size ≤ b ∧ b < H'.size) ∧ Keep (fun _ => False) H H' := by
  apply sh_strings_SplitSeq_calls
  unfold sh_strings_SplitSeq
  refine call_i (R := fun u H' => ∃ qs qp qn, u = .func (.func f_strings_splitSeq_1) #[] #[Ptr qp 0, Ptr qs 0, Ptr qn 0] ∧ SplitSt qs qp qn l c H' ∧ (∀ b, (b = qs ∨ b = qp ∨ b = qn) → H.size ≤ b ∧ b < H'.size) ∧ Keep (fun _ => False) H H') ?_ fun u h hR => hR
  apply sh_strings_splitSeq_calls
  unfold sh_strings_splitSeq
  have c1 : Value.cells (str l) = [str l].toArray := rfl
  have c2 : Value.cells (str [c]) = [str [c]].toArray := rfl
  have c3 : Value.cells (.int .i64 0) = [Value.int .i64 0].toArray := rfl
  simp only [Mnew_some, c1, c2, c3]
  generalize hH1 : H.push (.cells [str l].toArray T_string (0, 0)) = H1
  have k1 : Keep (fun _ => False) H H1 := by rw [← hH1]; exact Keep.push
  have a1 : At H1 H.size [str l] := by rw [← hH1]; exact At.push
  have s1 : H1.size = H.size + 1 := by rw [← hH1]; simp
  generalize hH2 : H1.push (.cells [str [c]].toArray T_string (0, 0)) = H2
  have k2 : Keep (fun _ => False) H1 H2 := by rw [← hH2]; exact Keep.push
  have a2 : At H2 H1.size [str [c]] := by rw [← hH2]; exact At.push
  have s2 : H2.size = H1.size + 1 := by rw [← hH2]; simp
  generalize hH3 : H2.push (.cells [Value.int .i64 0].toArray T_int (0, 0)) = H3
  have k3 : Keep (fun _ => False) H2 H3 := by rw [← hH3]; exact Keep.push
  have a3 : At H3 H2.size [.int .i64 0] := by rw [← hH3]; exact At.push
  have s3 : H3.size = H2.size + 1 := by rw [← hH3]; simp
  refine ⟨H.size, H1.size, H2.size, rfl, ⟨(a1.keep k2 id).keep k3 id, a2.keep k3 id, a3, by omega, by omega⟩, ?_, k1.trans (k2.trans k3)⟩
  intro b hb
  omega
end Go.Proofs.YtconalffokhplaaGreatDoor

