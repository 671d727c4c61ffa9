/- JOINED: V30 V31 V32 V33 -/
import Derived.Test.YtdmciknajaedmaaDoorGU
import Derived.Test.YtdmciknajaedmaaDoorGI
import Derived.Test.YtdmciknajaedmaaDoorGH
import Derived.Test.YtdmciknajaedmaaDoorGE
set_option linter.unusedSimpArgs false
set_option linter.unusedVariables false
/- versions: the reference's Right and Less; the order. -/
namespace Go.Proofs.YtdmciknajaedmaaDoor
open Go.X Go.X.Diff
set_option maxRecDepth 100000

theorem Mre_ok {v : Value} {l : List (Option Value × Value)} {p : Prop} : Mre ((some v, v) :: l) p ↔ Mre l p := by simp
theorem ex20 {a b : Value} : extV 0 (.tuple #[a, b]) = some a := rfl
theorem ex21 {a b : Value} : extV 1 (.tuple #[a, b]) = some b := rfl
theorem ex30 {a b c : Value} : extV 0 (.tuple #[a, b, c]) = some a := rfl
theorem ex31 {a b c : Value} : extV 1 (.tuple #[a, b, c]) = some b := rfl
theorem ex32 {a b c : Value} : extV 2 (.tuple #[a, b, c]) = some c := rfl
/-- at block q lie just these cells -/
def At (h : Heap) (q : Nat) (cs : List Value) : Prop := ∃ T, h[q]? = some (.cells cs.toArray T (0, 0))
section
variable {h h' H : Heap} {q : Nat} {cs : List Value}
theorem At.push {T : TypeId} : At (h.push (.cells cs.toArray T (0, 0))) h.size cs := ⟨T, push_new⟩
theorem At.keep {S : Nat → Prop} (a : At h q cs) (k : Keep S h h') (hs : ¬ S q) : At h' q cs := by obtain ⟨T, a⟩ := a; exact ⟨T, k.at a hs⟩
theorem At.lt (a : At h q cs) : q < h.size := by obtain ⟨T, a⟩ := a; exact lt_of a
theorem At.pt (a : At h q cs) : Pt h q 0 cs := by obtain ⟨T, a⟩ := a; exact Pt.of a
theorem At.ldN (a : At h q cs) {n : Nat} (hn : cs.length = n) : ldN n h (Ptr q 0) = some (.agg cs.toArray) := a.pt.agg hn
theorem At.ld (a : At h q cs) {i : Nat} {v : Value} (hi : cs[i]? = some v) : ld1 h (Ptr q i) = some v := by obtain ⟨T, a⟩ := a; exact ld_l a hi
theorem At.st (a : At h q cs) {n : Nat} {ds : List Value} (hn : cs.length = n) (hd : ds.length = n) (h1 : ∀ c ∈ ds, c.oneCell' = true) :
    ∃ h', stN n h (Ptr q 0) (.agg ds.toArray) = some h' ∧ At h' q ds ∧ Keep (· = q) h h' := by
  obtain ⟨T, a⟩ := a
  have := stN_mid (n := n) (o := 0) (A := []) (B := cs) (C := []) (B' := ds) (by rw [List.nil_append, List.append_nil]; exact a) rfl (by simp [hn]) hd (all_of h1)
  rw [List.nil_append, List.append_nil] at this
  exact ⟨_, this, ⟨T, set_self a⟩, Keep.set rfl⟩
theorem At.st1 (a : At h q cs) {i : Nat} {v : Value} (hi : i < cs.length) (hv : v.oneCell' = true) : ∃ h', st1 h (Ptr q i) v = some h' ∧ At h' q (cs.set i v) ∧ Keep (· = q) h h' := by
  obtain ⟨T, a⟩ := a
  exact ⟨_, st_l a hi hv, ⟨T, set_self a⟩, Keep.set rfl⟩
theorem _root_.Go.X.Keep.fresh {S : Nat → Prop} (k : Keep (fun _ => False) H h) (k2 : Keep S h h') (hs : ∀ b, S b → H.size ≤ b) : Keep (fun _ => False) H h' :=
  ⟨Nat.le_trans k.1 k2.1, fun i hi _ => by rw [k2.2 i (Nat.lt_of_lt_of_le hi k.1) (fun h => by have := hs i h; omega), k.2 i hi id]⟩
end
theorem Ver.cases3 {v : Ver} (h : v.wf) : ∃ a b c, v.p = [a, b, c] := by
  obtain ⟨p, pre⟩ := v
  have := h.p3
  match p, this with
  | [a, b, c], _ => exact ⟨a, b, c, rfl⟩
section
variable {h : Heap} {q : Nat} {v : Ver}
theorem ver_ld4 (a : At h q (verC v)) (hv : v.wf) : ldN 4 h (Ptr q 0) = some (.agg (verC v).toArray) := a.ldN (verC_len hv)
theorem ver_pre (a : At h q (verC v)) (hv : v.wf) : ld1 h (Ptr q 3) = some (str v.pre) := a.ld (by
  unfold verC
  rw [List.getElem?_append_right (by simp [hv.p3])]
  simp [hv.p3])
theorem ver_part (a : At h q (verC v)) {i : Nat} {x : Int} (hi : v.p[i]? = some x) : ld1 h (Ptr q i) = some (.int .i64 x) := a.ld (by
  unfold verC
  have hlt := (List.getElem?_eq_some_iff.1 hi).1
  rw [List.getElem?_append_left (by simpa using hlt)]
  exact icells_get hi)
theorem ver_ld3 (a : At h q (verC v)) (hv : v.wf) : ldN 3 h (Ptr q 0) = some (.agg (icells .i64 v.p).toArray) := by
  obtain ⟨T, a⟩ := a
  exact ldN_mid (A := []) (B := icells .i64 v.p) (C := [str v.pre]) (by rw [List.nil_append]; exact a) rfl (by simp [hv.p3])
end
theorem z_VV : zcells prg T_version_Version = some (verC ⟨[0, 0, 0], []⟩).toArray := by kernel_rfl
def zeroV : Ver := ⟨[0, 0, 0], []⟩
theorem zeroV_wf : zeroV.wf := ⟨rfl, by simp [zeroV]⟩
theorem b_V0 : buildV prg T_version_Version [] = some (.agg (verC zeroV).toArray) := by kernel_rfl

theorem az_range : ∀ x : UInt8, az09L.contains x = (decide (97 ≤ x.toNat) && decide (x.toNat ≤ 122) || decide (48 ≤ x.toNat) && decide (x.toNat ≤ 57)) := by
  have h : ∀ n, n < 256 → az09L.contains (UInt8.ofNat n) = (decide (97 ≤ n) && decide (n ≤ 122) || decide (48 ≤ n) && decide (n ≤ 57)) := by decide +kernel
  intro x
  have := h x.toNat x.toNat_lt
  rwa [UInt8.ofNat_toNat] at this

theorem verOk_pre {v : Ver} (h : verOk v = true) : v.pre.length ≤ 16 := by
  unfold verOk preOk at h; simp only [Bool.and_eq_true, decide_eq_true_eq] at h; exact h.2.1
end Go.Proofs.YtdmciknajaedmaaDoor
/- versions: the reference's Less, Cmp; what the reference shows; its operators. -/
namespace Go.Proofs.YtdmciknajaedmaaDoor
open Go.X Go.X.Diff
set_option maxRecDepth 100000

theorem cmpL_at : ∀ {i : Nat} {p p2 : List Int} {a b : Int}, p.take i = p2.take i → p[i]? = some a → p2[i]? = some b → a ≠ b → cmpL p p2 = cmpI a b
  | 0, x :: p, y :: p2, a, b, _, h1, h2, hne => by
    simp at h1 h2
    subst h1 h2
    rw [cmpL_cons, if_pos]
    rw [ne_eq, cmpI_ord.zero]; exact hne
  | i + 1, x :: p, y :: p2, a, b, ht, h1, h2, hne => by
    simp only [List.take_succ_cons, List.cons.injEq] at ht
    obtain ⟨rfl, ht⟩ := ht
    rw [cmpL_cons, if_neg (by rw [Classical.not_not]; exact cmpI_ord.self x)]
    exact cmpL_at ht (by simpa using h1) (by simpa using h2) hne
  | i, [], _, a, b, _, h1, _, _ => by simp at h1
  | i, _ :: _, [], a, b, _, _, h2, _ => by simp at h2
theorem take_ext {p p2 : List Int} {i : Nat} {a : Int} (ht : p.take i = p2.take i) (h1 : p[i]? = some a) (h2 : p2[i]? = some a) : p.take (i + 1) = p2.take (i + 1) := by
  rw [List.take_add_one, List.take_add_one, ht, h1, h2]
theorem cmpB_lib : ∀ {a b : List UInt8}, Lib.compareBytes a b = cmpB a b
  | [], [] => rfl
  | [], _ :: _ => rfl
  | _ :: _, [] => rfl
  | a :: x, b :: y => by
    rw [Lib.compareBytes, cmpB_lib (a := x) (b := y)]
    unfold cmpB
    have e1 : less (a :: x) (b :: y) = (decide (a < b) || (a == b && less x y)) := rfl
    have e2 : less (b :: y) (a :: x) = (decide (b < a) || (b == a && less y x)) := rfl
    rw [e1, e2]
    by_cases h1 : a < b
    · simp [h1]
    · by_cases h2 : b < a
      · have hne : a ≠ b := fun e => by subst e; exact h1 h2
        simp [h1, h2, hne]
      · have : a = b := UInt8.le_antisymm (UInt8.not_lt.1 h2) (UInt8.not_lt.1 h1)
        subst this; simp [h1]

theorem less_cases {v w : Ver} : cmpV v w < 0 ∨ cmpV v w = 0 ∨ 0 < cmpV v w := by omega

end Go.Proofs.YtdmciknajaedmaaDoor
/- versions: the reference's digits and Show, its operators, what fits. -/
namespace Go.Proofs.YtdmciknajaedmaaDoor
open Go.X Go.X.Diff
set_option maxRecDepth 100000

theorem str_app {a b : List UInt8} {q : EqK} (h : a.length + b.length ≤ 9223372036854775807) : binV q .add (str a) (str b) = some (str (a ++ b)) := by rw [binV_str]; exact strV_add h
theorem str_eql {a b : List UInt8} {q : EqK} : binV q .eql (str a) (str b) = some (.bool (decide (a = b))) := by rw [binV_str]; exact strV_eq
theorem str_neq {a b : List UInt8} {q : EqK} : binV q .neq (str a) (str b) = some (.bool (!decide (a = b))) := by rw [binV_str]; exact strV_ne

theorem ix0 {q : Nat} : ixA 3 1 (Ptr q 0) (.int .i64 0) = some (Ptr q 0) := ixA_at' (i := 0) (by omega)
theorem ix1 {q : Nat} : ixA 3 1 (Ptr q 0) (.int .i64 1) = some (Ptr q 1) := ixA_at' (i := 1) (by omega)
theorem ix2 {q : Nat} : ixA 3 1 (Ptr q 0) (.int .i64 2) = some (Ptr q 2) := ixA_at' (i := 2) (by omega)

def opsR : List (List UInt8) := [[61], [33, 61], [60], [60, 61], [62], [62, 61], [94]]
theorem bsl_ops : bslV prg T_string 7 [(0, (.string ⟨#[61]⟩)), (1, (.string ⟨#[33, 61]⟩)), (2, (.string ⟨#[60]⟩)), (3, (.string ⟨#[60, 61]⟩)), (4, (.string ⟨#[62]⟩)), (5, (.string ⟨#[62, 61]⟩)), (6, (.string ⟨#[94]⟩))] = some (opsR.map str).toArray := by kernel_rfl
theorem strs_ix {h : Heap} {q n c i : Nat} {l : List (List UInt8)} {x : List UInt8} (a : At h q (l.map str)) (hn : n = l.length) (hi : l[i]? = some x) :
    ixS 1 (.slice (some ⟨q, 0, none⟩) n c) (.int .i64 (i : Nat)) = some (Ptr q i) ∧ ld1 h (Ptr q i) = some (str x) := by
  have hlt := (List.getElem?_eq_some_iff.1 hi).1
  refine ⟨?_, a.ld (by simp [hi])⟩
  simp only [ixS]; rw [if_pos ⟨by omega, by omega⟩]; simp
def vp0 (v : Ver) : Int := v.p.getD 0 0
def vp1 (v : Ver) : Int := v.p.getD 1 0
def fitsF (op : List UInt8) (w v : Ver) : Bool :=
  bif decide (op = [61]) then !ltV v w && !ltV w v else
  bif decide (op = [33, 61]) then ltV v w || ltV w v else
  bif decide (op = [60]) then ltV v w else
  bif decide (op = [60, 61]) then !ltV w v else
  bif decide (op = [62]) then ltV w v else
  bif decide (op = [62, 61]) then !ltV v w else
  bif decide (op = [94]) then !ltV v w && (vp0 v == vp0 w) && (vp0 w != 0 || vp1 v == vp1 w) else true
end Go.Proofs.YtdmciknajaedmaaDoor
/- strings: Index of one byte, Cut, CutPrefix, SplitSeq. -/
namespace Go.Proofs.YtdmciknajaedmaaDoor
open Go.X Go.X.Diff
set_option maxRecDepth 100000

theorem _root_.Go.X.L0_i {body : (Heap → Prop) → Heap → Prop} {H : Heap} (I : Heap → Prop) (μ : Heap → Nat) (h0 : I H)
    (hs : ∀ h, I h → ∀ k : Heap → Prop, (∀ h', I h' → μ h' < μ h → k h') → body k h) : L0 body H := by
  refine ⟨fun vs h => vs = [] ∧ I h, fun _ h => μ h, ⟨rfl, h0⟩, ?_⟩
  rintro vs h _ ⟨rfl, hI⟩
  exact hs h hI _ fun h' hI' hm => ⟨⟨rfl, hI'⟩, hm⟩

theorem add_one' {n : Nat} (h : n ≤ 1099511627776) : binV .no .add (.int .i64 (n : Nat)) (.int .i64 1) = some (.int .i64 ((n + 1 : Nat) : Int)) := by
  rw [binV_int]; simp only [intV]; rw [wrap_id (by omega) (by omega)]; rfl
theorem lt_zero' {n : Nat} : binV .no .lss (.int .i64 (n : Nat)) (.int .i64 0) = some (.bool false) := by
  rw [binV_int]; simp only [intV]; rw [decide_eq_false (by omega)]
theorem lt_neg' : binV .no .lss (.int .i64 (-1)) (.int .i64 0) = some (.bool true) := rfl
theorem ge_zero' {n : Nat} : binV .no .geq (.int .i64 (n : Nat)) (.int .i64 0) = some (.bool true) := by
  rw [binV_int]; simp only [intV]; rw [decide_eq_true (by omega)]
theorem c_lIndexByte {H : Heap} {l : List UInt8} {x : UInt8} : HCalls prg f_internal_stringslite_IndexByte [str l, .int .u8 x.toNat] H fun u H' => u = .int .i64 (Lib.indexByte l x) ∧ H = H' := by
  apply sh_internal_stringslite_IndexByte_calls
  unfold sh_internal_stringslite_IndexByte
  intro w hw
  refine ⟨_, w, by rw [xt_IndexByteString]; exact Lib.run_indexByteString _ _ w, Same.rfl' w, ?_, hw.symm⟩
  simp
theorem sl_to {l : List UInt8} {o : Nat} (h : o ≤ l.length) : slT (str l) none (some (.int .i64 (o : Nat))) = some (str (l.take o)) := by
  have := slT_str (l := l) (lo := 0) (hi := o) (a := none) (b := some (.int .i64 (o : Nat))) (Nat.zero_le _) h rfl (by simp [bnd, h])
  rwa [List.drop_zero] at this
theorem sl_from {l : List UInt8} {o : Nat} (h : o ≤ l.length) : slT (str l) (some (.int .i64 (o : Nat))) none = some (str (l.drop o)) := by
  have := slT_str (l := l) (lo := o) (hi := l.length) (a := some (.int .i64 (o : Nat))) (b := none) h (Nat.le_refl _) (by simp [bnd, h]) rfl
  rwa [List.take_length] at this

/-- the cells of a SplitSeq -/
structure SplitSt (qs qp qn : Nat) (l : List UInt8) (c : UInt8) (h : Heap) : Prop where
  s : At h qs [str l]
  p : At h qp [str [c]]
  n : At h qn [.int .i64 0]
  ne : qs ≠ qp ∧ qs ≠ qn
end Go.Proofs.YtdmciknajaedmaaDoor
