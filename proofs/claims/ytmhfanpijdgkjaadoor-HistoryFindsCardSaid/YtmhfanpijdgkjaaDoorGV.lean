/- JOINED: V19 V20 V21 V22 V23 V24 V25 V26 -/
import Derived.Test.YtmhfanpijdgkjaaDoorGI
import Derived.Test.YtmhfanpijdgkjaaDoorGJ
import Derived.Test.YtmhfanpijdgkjaaDoorGU
import Derived.Test.YtmhfanpijdgkjaaDoorGK
set_option linter.unusedSimpArgs false
set_option linter.unusedVariables false
/- HistoryDiffs: where an item stands, and whether the names rise. -/
namespace Go.Proofs.YtmhfanpijdgkjaaDoor
open Go.X Go.X.Diff
set_option maxRecDepth 100000

abbrev fndI (xs : List Item) (n : List UInt8) : Option Item := fnd Item.name xs n
theorem fnd_append {xs ys : List Item} {n : List UInt8} : fndI (xs ++ ys) n = (fndI xs n).or (fndI ys n) := by
  unfold fndI fnd; rw [List.find?_append]
theorem fndI_cons {x : Item} {l : List Item} {n : List UInt8} : fndI (x :: l) n = if x.name = n then some x else fndI l n := fnd_cons
theorem fnd_name {xs : List Item} {n : List UInt8} {x : Item} (h : fndI xs n = some x) : x.name = n ∧ x ∈ xs := by
  unfold fndI fnd at h
  have := List.find?_some h
  exact ⟨by simpa using this, List.mem_of_find?_eq_some h⟩
/-- a new place for a copy of an item -/
theorem new_item {h : Heap} {x : Item} (hwf : x.wf) {k : Value → Heap → Prop}
    (hk : ∀ h2, Keep (fun _ => False) h h2 → (∃ T f, h2[h.size]? = some (.cells (itemC x).toArray T f)) → k (Ptr h.size 0) h2) :
    Mnew h T_history_Item (zcells prg T_history_Item) fun t h5 => Mwr (stN 37 h5 t (.agg (itemC x).toArray)) fun h6 => k t h6 := by
  obtain ⟨z, hz, hzl⟩ := z_Item
  rw [hz, Mnew_some]
  have hpush : (h.push (.cells z.toArray T_history_Item (0, 0)))[h.size]? = some (.cells z.toArray T_history_Item (0, 0)) := push_new
  have hst := stN_mid (n := 37) (o := 0) (A := []) (B := z) (C := []) (B' := itemC x) (by rw [List.nil_append, List.append_nil]; exact hpush) rfl (by simp [hzl]) (itemC_len hwf) (all_of itemC_one)
  rw [List.nil_append, List.append_nil] at hst
  rw [hst, Mwr_some]
  refine hk _ ⟨by simp, fun j hj _ => ?_⟩ ⟨_, _, set_self hpush⟩
  rw [Array.getElem?_setIfInBounds, if_neg (by omega), Array.getElem?_push, if_neg (by omega)]

def AtR (xs : List Item) (n : List UInt8) (u : Value) : Prop :=
  (u = .int .i64 (-1) ∧ fndI xs n = none) ∨ ∃ (i : Nat) (x : Item), u = .int .i64 (i : Nat) ∧ i < xs.length ∧ xs[i]? = some x ∧ fndI xs n = some x
theorem c_at {P : Nat → Prop} {H : Heap} {v : Value} {xs : List Item} {n : List UInt8} (hv : Items P H v xs) (hl : xs.length ≤ 9223372036854775807) :
    HCalls prg f_syngraphlaw22_at [v, str n] H fun u H' => AtR xs n u ∧ Keep (fun _ => False) H H' := by
  apply sh_syngraphlaw22_at_calls
  unfold sh_syngraphlaw22_at
  simp only [hv.len, Mpu_some, J1_eq]
  refine L1_i (fun u h => ∃ i : Nat, i ≤ xs.length ∧ u = .int .i64 (i : Nat) ∧ fndI (xs.take i) n = none ∧ Keep (fun _ => False) H h) (fun u _ => match u with | .int _ t => xs.length - t.toNat | _ => 0) ⟨0, Nat.zero_le _, rfl, rfl, Keep.refl⟩ ?_
  rintro _ h ⟨i, hi, rfl, hno, kh⟩ k hk
  simp only [binV_int, intV, Mpu_some, Mcd_bool, decide_eq_true_eq]
  by_cases hlt : (i : Int) < xs.length
  · rw [if_pos hlt]
    have hlt' : i < xs.length := by omega
    have hg : xs[i]? = some xs[i] := List.getElem?_eq_getElem hlt'
    obtain ⟨hwf, b, o, hix, hpt, hpb⟩ := (hv.keep kh fun _ _ => id).at hg
    have hinc : IntKind.i64.wrap ((i : Int) + 1) = (i + 1 : Nat) := by rw [wrap_id] <;> omega
    simp only [hix, Mpu_some, hpt.agg (itemC_len hwf)]
    refine new_item hwf fun h2 k2 ⟨T, f, hq⟩ => ?_
    have d0 : ld1 h2 (Ptr h.size 0) = some (str xs[i].name) := ld_l hq rfl
    have e : strV .eql ⟨xs[i].name.toArray⟩ ⟨n.toArray⟩ = some (.bool (decide (xs[i].name = n))) := strV_eq
    simp only [fld_ptr, Mpu_some, Nat.zero_add, d0, binV_str, e, Mcd_bool, hinc, decide_eq_true_eq]
    have ht : xs.take (i + 1) = xs.take i ++ [xs[i]] := by rw [List.take_add_one, hg]; rfl
    by_cases hn : xs[i].name = n
    · rw [if_pos hn]
      refine ⟨.inr ⟨i, xs[i], rfl, hlt', hg, ?_⟩, kh.trans k2⟩
      have hs : fndI (xs.take (i + 1)) n = some xs[i] := by rw [ht, fnd_append, hno, fndI_cons, if_pos hn]; rfl
      have h3 : fndI (xs.take (i + 1) ++ xs.drop (i + 1)) n = some xs[i] := by rw [fnd_append, hs]; rfl
      rwa [List.take_append_drop] at h3
    · rw [if_neg hn]
      exact hk _ _ ⟨i + 1, hlt', rfl, by rw [ht, fnd_append, hno, fndI_cons, if_neg hn]; rfl, kh.trans k2⟩ (by show xs.length - (i + 1) < xs.length - i; omega)
  · rw [if_neg hlt]
    obtain rfl : i = xs.length := by omega
    rw [List.take_length] at hno
    exact ⟨.inl ⟨rfl, hno⟩, kh⟩

instance {l : List Item} : Decidable (Ris Item.name l) := by unfold Ris; infer_instance
theorem ris_snoc {l : List Item} {y x : Item} (h : Ris Item.name (l ++ [y])) (hl : less y.name x.name = true) : Ris Item.name (l ++ [y] ++ [x]) := by
  unfold Ris at h ⊢
  rw [List.pairwise_append]
  refine ⟨h, by simp, fun a ha b hb => ?_⟩
  obtain rfl : b = x := by simpa using hb
  rcases List.mem_append.1 ha with ha | ha
  · exact less_trans ((List.pairwise_append.1 h).2.2 a ha y (by simp)) hl
  · obtain rfl : a = y := by simpa using ha
    exact hl
theorem ris_take {xs : List Item} {i : Nat} (hr : Ris Item.name (xs.take (i + 1))) {y x : Item} (hy : xs[i]? = some y) (hx : xs[i + 1]? = some x) (hl : less y.name x.name = true) : Ris Item.name (xs.take (i + 2)) := by
  have e1 : xs.take (i + 1) = xs.take i ++ [y] := by rw [List.take_add_one, hy]; rfl
  have e2 : xs.take (i + 2) = xs.take i ++ [y] ++ [x] := by rw [List.take_add_one, hx, e1]; rfl
  rw [e2]; rw [e1] at hr; exact ris_snoc hr hl
theorem ris_not {xs : List Item} {i : Nat} {y x : Item} (hy : xs[i]? = some y) (hx : xs[i + 1]? = some x) (hl : less y.name x.name = false) : ¬ Ris Item.name xs := fun h => by
  unfold Ris at h
  obtain ⟨h1, rfl⟩ := List.getElem?_eq_some_iff.1 hy
  obtain ⟨h2, rfl⟩ := List.getElem?_eq_some_iff.1 hx
  have := List.pairwise_iff_getElem.1 h i (i + 1) h1 h2 (by omega)
  rw [hl] at this; cases this
theorem c_inOrder {P : Nat → Prop} {H : Heap} {v : Value} {xs : List Item} (hv : Items P H v xs) (hl : xs.length ≤ 9223372036854775807) :
    HCalls prg f_history_inOrder [v] H fun u H' => u = .bool (decide (Ris Item.name xs)) ∧ H = H' := by
  apply sh_history_inOrder_calls
  unfold sh_history_inOrder
  simp only [J1_eq, hv.len, Mpu_some]
  refine L1_i (fun u h => ∃ i : Nat, u = .int .i64 ((i + 1 : Nat) : Int) ∧ (i < xs.length ∨ i = 0) ∧ Ris Item.name (xs.take (i + 1)) ∧ H = h) (fun u _ => match u with | .int _ t => xs.length + 1 - t.toNat | _ => 0) ⟨0, rfl, .inr rfl, ?_, rfl⟩ ?_
  · cases xs with
    | nil => exact .nil
    | cons x l => show List.Pairwise _ [x]; simp
  rintro _ _ ⟨i, rfl, hi, hr, rfl⟩ k hk
  simp only [binV_int, intV, Mpu_some, Mcd_bool, decide_eq_true_eq]
  by_cases hlt : i + 1 < xs.length
  · rw [if_pos (by omega)]
    have hg : xs[i]? = some xs[i] := List.getElem?_eq_getElem (by omega)
    have hg1 : xs[i + 1]? = some xs[i + 1] := List.getElem?_eq_getElem hlt
    have hdec : IntKind.i64.wrap (((i + 1 : Nat) : Int) - 1) = ((i : Nat) : Int) := by rw [wrap_id] <;> omega
    have hinc : IntKind.i64.wrap (((i + 1 : Nat) : Int) + 1) = ((i + 1 + 1 : Nat) : Int) := by rw [wrap_id] <;> omega
    obtain ⟨_, b, o, hix, hpt, _⟩ := hv.at hg
    obtain ⟨_, b1, o1, hix1, hpt1, _⟩ := hv.at hg1
    have f0 : fld 0 (Ptr b o) = some (Ptr b o) := rfl
    have f1 : fld 0 (Ptr b1 o1) = some (Ptr b1 o1) := rfl
    simp only [hdec, hinc, hix, hix1, f0, f1, hpt.cell0 rfl, hpt1.cell0 rfl, binV_str, strV_geq, Mpu_some, Mcd_bool]
    by_cases hle : lessB xs[i].name xs[i + 1].name = true
    · rw [if_neg (by rw [hle]; decide)]
      exact hk _ _ ⟨i + 1, rfl, .inl hlt, ris_take hr hg hg1 hle, rfl⟩ (by show xs.length + 1 - (i + 1 + 1) < xs.length + 1 - (i + 1); omega)
    · rw [if_pos (by rw [eq_false_of_ne_true hle]; rfl)]
      exact ⟨by rw [decide_eq_false (ris_not hg hg1 (eq_false_of_ne_true hle))], by trivial⟩
  · rw [if_neg (by omega)]
    rw [List.take_of_length_le (by omega)] at hr
    exact ⟨by rw [decide_eq_true hr], by trivial⟩
end Go.Proofs.YtmhfanpijdgkjaaDoor
/- history.Diff tells what P1's diffF tells. -/
namespace Go.Proofs.YtmhfanpijdgkjaaDoor
open Go.X Go.X.Diff
set_option maxRecDepth 100000

def stepC (s : Step) : List Value := [str s.name, str s.fr, str s.to]
theorem stepC_one {s : Step} : ∀ c ∈ stepC s, c.oneCell' = true := by intro c hc; simp [stepC] at hc; rcases hc with rfl | rfl | rfl <;> rfl
theorem z_Step : zcells prg T_history_Step = some #[str [], str [], str []] := by kernel_rfl
theorem c_Step : prg.cellsOf T_history_Step = 3 := by kernel_rfl
theorem k_Step : structK prg T_history_Step = some ([(0, 1), (1, 1), (2, 1)], #[str [], str [], str []]) := by kernel_rfl
theorem b_step3 {n f t : List UInt8} : buildV prg T_history_Step [(0, str n), (1, str f), (2, str t)] = some (.agg (stepC ⟨n, f, t⟩).toArray) := by rw [buildV_of k_Step]; rfl
theorem b_stepF {n f : List UInt8} : buildV prg T_history_Step [(0, str n), (1, str f)] = some (.agg (stepC ⟨n, f, []⟩).toArray) := by rw [buildV_of k_Step]; rfl
theorem b_stepT {n t : List UInt8} : buildV prg T_history_Step [(0, str n), (2, str t)] = some (.agg (stepC ⟨n, [], t⟩).toArray) := by rw [buildV_of k_Step]; rfl

theorem app_step {m : Nat} {h : Heap} {u : Value} {acc : List Step} {s : Step} (hu : BufE 3 (m ≤ ·) h u (acc.map stepC)) (hm : m ≤ h.size) (hl : acc.length < 2199023255552) {k : Value → Heap → Prop}
    (hk : ∀ v h', BufE 3 (m ≤ ·) h' v ((acc ++ [s]).map stepC) → Keep (m ≤ ·) h h' → k v h') :
    Mnews h T_history_Step 1 (bslV prg T_history_Step 1 [(0, .agg (stepC s).toArray)]) fun x h5 => Mapp T_history_Step 3 48 h5 u x fun v h6 => k v h6 := by
  rw [bsl_one (n := 3) c_Step (by omega) (by omega) z_Step rfl rfl, Mnews_some]
  have kp : Keep (fun _ => False) h (h.push (.cells (Value.agg (stepC s).toArray).cells T_history_Step (0, 0))) := Keep.push
  have hx : SlE 3 (· = h.size) (h.push (.cells (Value.agg (stepC s).toArray).cells T_history_Step (0, 0))) (.slice (some ⟨h.size, 0, none⟩) 1 1) [stepC s] :=
    ⟨⟨_, 1, rfl, Nat.le_refl _, .inr ⟨h.size, 0, rfl, rfl, by rw [List.flatten_singleton]; exact Pt.of push_new⟩⟩, fun x hx => by simp at hx; subst hx; rfl, fun x hx => by simp at hx; subst hx; exact stepC_one⟩
  refine (hu.keep kp fun _ _ => id).app hx (by omega) (by simp; omega) (by simp; omega) fun v h' hv k' => ?_
  refine hk v h' ?_ ((kp.mono fun _ _ h => h.elim).trans k')
  rw [List.map_append]; exact hv

theorem head0 {P : Nat → Prop} {h : Heap} {v : Value} {x : Item} {l : List Item} (hv : Items P h v (x :: l)) : x.wf ∧ ∃ b o, ixS 37 v (.int .i64 0) = some (Ptr b o) ∧ P b ∧
    ∀ (S : Nat → Prop) h', Keep S h h' → ¬ S b → ld1 h' (Ptr b o) = some (str x.name) ∧ ldN 4 h' (Ptr b (o + 1)) = some (.agg (verC x.ver).toArray) ∧ ldN 37 h' (Ptr b o) = some (.agg (itemC x).toArray) := by
  obtain ⟨hwf, b, o, hix, hpt, hpb⟩ := hv.at (i := 0) rfl
  refine ⟨hwf, b, o, hix .i64, hpb, fun S h' k hs => ?_⟩
  have hp := hpt.keep k hs
  exact ⟨hp.cell0 rfl, (Pt.mid (A := [str x.name]) (B := verC x.ver) (C := bcells x.sum) hp rfl).agg (verC_len hwf.ver), hp.agg (itemC_len hwf)⟩
theorem tail1 {P : Nat → Prop} {h : Heap} {v : Value} {x : Item} {l : List Item} (hv : Items P h v (x :: l)) : ∃ u, slS 37 v (some (.int .i64 1)) none none = some u ∧ Items P h u l := by
  obtain ⟨u, hu, hs⟩ := hv.1.cut (lo := 1) (hi := (x :: l).length) (l := some (.int .i64 1)) (r := none) (by simp) (by simp) (by simp) (by simp [bnd]; omega) (fun c _ => by simp [bnd])
  refine ⟨u, hu, ?_, fun y hy => hv.2 y (by simp [hy])⟩
  have e : List.drop 1 (List.take (x :: l).length ((x :: l).map itemC)) = l.map itemC := by
    rw [List.take_of_length_le (by simp)]; rfl
  rwa [e] at hs
theorem strV_lss {a b : List UInt8} : strV .lss ⟨a.toArray⟩ ⟨b.toArray⟩ = some (.bool (less a b)) := by simp only [strV, toList_mk]
theorem neItem {x y : Item} (hx : x.wf) (hy : y.wf) : binV (eqK prg T_history_Item) .neq (.agg (itemC x).toArray) (.agg (itemC y).toArray) = some (.bool (!decide (x = y))) := by
  rw [binV_agg_ne, eqK_Item]
  show (eqCells kItem (itemC x).toArray.toList (itemC y).toArray.toList).map (fun b => Value.bool (!b)) = _
  rw [List.toList_toArray, List.toList_toArray, eqItem hx hy]; rfl

def shI (x : Item) : List UInt8 := showF x.ver
def diffD (xs ys : List Item) : List Step := if Ris Item.name xs ∧ Ris Item.name ys then diffF Item.name shI xs ys else []

def slen : Value → Nat
  | .slice _ n _ => n
  | _ => 0
theorem Items.slen {P : Nat → Prop} {H : Heap} {v : Value} {xs : List Item} (h : Items P H v xs) : slen v = xs.length := by
  obtain ⟨⟨⟨a, c, rfl, _⟩, _⟩, _⟩ := h; simp [Go.Proofs.YtmhfanpijdgkjaaDoor.slen]
section
variable {m : Nat} {P Q : Nat → Prop} {h : Heap} {a b u : Value} {x y : Item} {la l : List Item} {acc : List Step}
theorem stepB {K : Value → Value → Heap → Prop} (hb : Items P h b (y :: l)) (hP : ∀ b, P b → b < m) (hm : m ≤ h.size) (hu : BufE 3 (m ≤ ·) h u (acc.map stepC)) (hl : acc.length < 2199023255552) (hT : PowT h)
    (hk : ∀ b' u' h', Items P h' b' l → BufE 3 (m ≤ ·) h' u' ((acc ++ [Step.mk y.name [] (shI y)]).map stepC) → Keep (m ≤ ·) h h' → K b' u' h') :
    Mpu (ixS 37 b (.int .i64 0)) fun t71 => Mpu (fld 0 t71) fun t72 => Mpu (ld1 h t72) fun t73 => Mpu (ixS 37 b (.int .i64 0)) fun t75 => Mpu (fld 1 t75) fun t76 => Mpu (ldN 4 h t76) fun t77 =>
      Mcall prg f_version_Version_Show [t77] h fun t78 h15 => Mre [(ld1 h15 t72, t73)] (Mpu (buildV prg T_history_Step [(0, t73), (2, t78)]) fun t79 =>
      Mnews h15 T_history_Step 1 (bslV prg T_history_Step 1 [(0, t79)]) fun t80 h16 => Mapp T_history_Step 3 48 h16 u t80 fun t81 h17 => Mpu (slS 37 b (some (.int .i64 1)) none none) fun t83 => K t83 t81 h17) := by
  obtain ⟨hwf, bb, o, hix, hpb, hld⟩ := head0 hb
  obtain ⟨l1, l2, _⟩ := hld (fun _ => False) h Keep.refl id
  have f0 : fld 0 (Ptr bb o) = some (Ptr bb o) := rfl
  have f1 : fld 1 (Ptr bb o) = some (Ptr bb (o + 1)) := rfl
  simp only [hix, f0, f1, Mpu_some, l1, l2]
  refine call_i (c_ShowT hwf.ver hT) ?_
  rintro _ h15 ⟨rfl, k15⟩
  have g1 := (hld _ h15 k15 id).1
  simp only [Mre_cons, Mre_nil, g1, true_and, b_stepT, Mpu_some]
  refine app_step (s := ⟨y.name, [], shI y⟩) (hu.keep k15 fun _ _ => id) (Nat.le_trans hm k15.1) hl fun u' h' hu' k' => ?_
  obtain ⟨b', hs, hb'⟩ := tail1 hb
  rw [hs, Mpu_some]
  have kk : Keep (m ≤ ·) h h' := (k15.mono fun _ _ h => h.elim).trans (k'.mono fun _ _ h => h)
  exact hk _ _ _ (hb'.keep kk fun b hb hm' => absurd (hP b hb) (by omega)) hu' kk
theorem stepA {K : Value → Value → Heap → Prop} (ha : Items P h a (x :: la)) (hP : ∀ b, P b → b < m) (hm : m ≤ h.size) (hu : BufE 3 (m ≤ ·) h u (acc.map stepC)) (hl : acc.length < 2199023255552) (hT : PowT h)
    (hk : ∀ a' u' h', Items P h' a' la → BufE 3 (m ≤ ·) h' u' ((acc ++ [Step.mk x.name (shI x) []]).map stepC) → Keep (m ≤ ·) h h' → K a' u' h') :
    Mpu (ixS 37 a (.int .i64 0)) fun t71 => Mpu (fld 0 t71) fun t72 => Mpu (ld1 h t72) fun t73 => Mpu (ixS 37 a (.int .i64 0)) fun t75 => Mpu (fld 1 t75) fun t76 => Mpu (ldN 4 h t76) fun t77 =>
      Mcall prg f_version_Version_Show [t77] h fun t78 h15 => Mre [(ld1 h15 t72, t73)] (Mpu (buildV prg T_history_Step [(0, t73), (1, t78)]) fun t79 =>
      Mnews h15 T_history_Step 1 (bslV prg T_history_Step 1 [(0, t79)]) fun t80 h16 => Mapp T_history_Step 3 48 h16 u t80 fun t81 h17 => Mpu (slS 37 a (some (.int .i64 1)) none none) fun t83 => K t83 t81 h17) := by
  obtain ⟨hwf, bb, o, hix, hpb, hld⟩ := head0 ha
  obtain ⟨l1, l2, _⟩ := hld (fun _ => False) h Keep.refl id
  have f0 : fld 0 (Ptr bb o) = some (Ptr bb o) := rfl
  have f1 : fld 1 (Ptr bb o) = some (Ptr bb (o + 1)) := rfl
  simp only [hix, f0, f1, Mpu_some, l1, l2]
  refine call_i (c_ShowT hwf.ver hT) ?_
  rintro _ h15 ⟨rfl, k15⟩
  have g1 := (hld _ h15 k15 id).1
  simp only [Mre_cons, Mre_nil, g1, true_and, b_stepF, Mpu_some]
  refine app_step (s := ⟨x.name, shI x, []⟩) (hu.keep k15 fun _ _ => id) (Nat.le_trans hm k15.1) hl fun u' h' hu' k' => ?_
  obtain ⟨b', hs, hb'⟩ := tail1 ha
  rw [hs, Mpu_some]
  have kk : Keep (m ≤ ·) h h' := (k15.mono fun _ _ h => h.elim).trans (k'.mono fun _ _ h => h)
  exact hk _ _ _ (hb'.keep kk fun b hb hm' => absurd (hP b hb) (by omega)) hu' kk
theorem stepAB {K : Value → Heap → Prop} (ha : Items P h a (x :: la)) (hb : Items Q h b (y :: l)) (hm : m ≤ h.size) (hu : BufE 3 (m ≤ ·) h u (acc.map stepC)) (hl : acc.length < 2199023255552) (hT : PowT h)
    (hk : ∀ u' h', BufE 3 (m ≤ ·) h' u' ((acc ++ [Step.mk x.name (shI x) (shI y)]).map stepC) → Keep (m ≤ ·) h h' → K u' h') :
    Mpu (ixS 37 a (.int .i64 0)) fun t29 => Mpu (fld 0 t29) fun t30 => Mpu (ld1 h t30) fun t31 => Mpu (ixS 37 a (.int .i64 0)) fun t33 => Mpu (fld 1 t33) fun t34 => Mpu (ldN 4 h t34) fun t35 =>
      Mpu (ixS 37 b (.int .i64 0)) fun t38 => Mpu (fld 1 t38) fun t39 => Mpu (ldN 4 h t39) fun t40 =>
      Mcall prg f_version_Version_Show [t35] h fun t36 h25 => Mre [(ldN 4 h25 t39, t40), (ld1 h25 t30, t31)] (
      Mcall prg f_version_Version_Show [t40] h25 fun t41 h26 => Mre [(ld1 h26 t30, t31)] (Mpu (buildV prg T_history_Step [(0, t31), (1, t36), (2, t41)]) fun t42 =>
      Mnews h26 T_history_Step 1 (bslV prg T_history_Step 1 [(0, t42)]) fun t43 h27 => Mapp T_history_Step 3 48 h27 u t43 fun t44 h28 => K t44 h28)) := by
  obtain ⟨wfa, ba, oa, ixa, _, lda⟩ := head0 ha
  obtain ⟨wfb, bb, ob, ixb, _, ldb⟩ := head0 hb
  obtain ⟨a1, a2, _⟩ := lda (fun _ => False) h Keep.refl id
  obtain ⟨_, b2, _⟩ := ldb (fun _ => False) h Keep.refl id
  have f0 : fld 0 (Ptr ba oa) = some (Ptr ba oa) := rfl
  have f1 : fld 1 (Ptr ba oa) = some (Ptr ba (oa + 1)) := rfl
  have f2 : fld 1 (Ptr bb ob) = some (Ptr bb (ob + 1)) := rfl
  simp only [ixa, ixb, f0, f1, f2, Mpu_some, a1, a2, b2]
  refine call_i (c_ShowT wfa.ver hT) ?_
  rintro _ h25 ⟨rfl, k25⟩
  obtain ⟨g1, _, _⟩ := lda _ h25 k25 id
  obtain ⟨_, g2, _⟩ := ldb _ h25 k25 id
  simp only [Mre_cons, Mre_nil, g1, g2, true_and]
  refine call_i (c_ShowT wfb.ver (hT.keep k25 fun _ h => h.elim)) ?_
  rintro _ h26 ⟨rfl, k26⟩
  have kt : Keep (fun _ => False) h h26 := k25.trans k26
  obtain ⟨g3, _, _⟩ := lda _ h26 kt id
  simp only [Mre_cons, Mre_nil, g3, true_and, b_step3, Mpu_some]
  refine app_step (s := ⟨x.name, shI x, shI y⟩) (hu.keep kt fun _ _ => id) (Nat.le_trans hm kt.1) hl fun u' h' hu' k' => ?_
  exact hk _ _ hu' ((kt.mono fun _ _ h => h.elim).trans (k'.mono fun _ _ h => h))
end

theorem c_Diff {P Q : Nat → Prop} {H : Heap} {v w : Value} {xs ys : List Item} (hv : Items P H v xs) (hw : Items Q H w ys) (hP : ∀ b, P b → b < H.size) (hQ : ∀ b, Q b → b < H.size) (hlx : xs.length ≤ 1048576) (hly : ys.length ≤ 1048576) (hT : PowT H) :
    HCalls prg f_history_Diff [v, w] H fun u H' => BufE 3 (H.size ≤ ·) H' u ((diffD xs ys).map stepC) ∧ Keep (fun _ => False) H H' := by
  apply sh_history_Diff_calls
  unfold sh_history_Diff
  refine call_i (c_inOrder hv (by omega)) ?_
  rintro _ _ ⟨rfl, rfl⟩
  have hno : ¬ (Ris Item.name xs ∧ Ris Item.name ys) → BufE 3 (H.size ≤ ·) H (.slice none 0 0) ((diffD xs ys).map stepC) ∧ Keep (fun _ => False) H H := fun h => by
    unfold diffD; rw [if_neg h]; exact ⟨BufE.nil, Keep.refl⟩
  by_cases hr : Ris Item.name xs
  case neg =>
    simp only [hr, decide_false, unV_not, Bool.not_true, Bool.not_false, Mif_bool, Mif_undef, pickV_bool, Mcd_bool, Mpu_some, if_true, if_false, Bool.false_eq_true, Bool.true_eq_false, J1_eq]
    exact hno fun h => hr h.1
  simp only [hr, decide_true, unV_not, Bool.not_true, Bool.not_false, Mif_bool, Mpu_some, if_true, if_false, Bool.false_eq_true, Bool.true_eq_false]
  refine J1_i (fun u h => u = .bool (!decide (Ris Item.name ys)) ∧ H = h) (fun k hk => ?_) ?_
  · refine call_i (c_inOrder hw (by omega)) ?_
    rintro _ _ ⟨rfl, rfl⟩
    simp only [unV_not, Mpu_some]
    exact hk _ _ ⟨rfl, rfl⟩
  rintro _ _ ⟨rfl, rfl⟩
  by_cases hr2 : Ris Item.name ys
  case neg =>
    simp only [hr2, decide_false, Bool.not_false, pickV_bool, Bool.false_eq_true, if_false, Mpu_some, Mcd_bool, if_true]
    exact hno fun h => hr2 h.2
  simp only [hr2, decide_true, Bool.not_true, pickV_bool, Bool.false_eq_true, if_false, Mpu_some, Mcd_bool, J3_eq]
  have hd : diffD xs ys = diffF Item.name shI xs ys := by unfold diffD; rw [if_pos ⟨hr, hr2⟩]
  rw [hd]
  refine L3_i (fun a b u h => ∃ (xa yb : List Item) (acc : List Step), Items P h a xa ∧ Items Q h b yb ∧ BufE 3 (H.size ≤ ·) h u (acc.map stepC) ∧ acc ++ diffF Item.name shI xa yb = diffF Item.name shI xs ys ∧ xa.length ≤ xs.length ∧ yb.length ≤ ys.length ∧
      acc.length + xa.length + yb.length ≤ xs.length + ys.length ∧ Keep (H.size ≤ ·) H h)
    (fun a b _ _ => slen a + slen b) ⟨xs, ys, [], hv, hw, BufE.nil, rfl, Nat.le_refl _, Nat.le_refl _, by simp, Keep.refl⟩ ?_
  rintro a b u h ⟨xa, yb, acc, ha, hb, hu, hacc, hla, hlb, hlen, kh⟩ k hk
  have hTh : PowT h := hT.keep kh fun _ hb => Nat.le_trans hT.sz hb
  have sa := ha.slen
  have sb := hb.slen
  have hadd : binV .no .add (.int .i64 (xa.length : Nat)) (.int .i64 (yb.length : Nat)) = some (.int .i64 ((xa.length + yb.length : Nat) : Int)) := by
    rw [binV_int]; simp only [intV]; rw [wrap_id] <;> first | rfl | omega
  simp only [ha.len, hb.len, Mpu_some, hadd, binV_int (op := .gtr), intV, Mcd_bool, decide_eq_true_eq]
  by_cases hz : xa.length + yb.length = 0
  · rw [if_neg (by omega)]
    have ea : xa = [] := List.length_eq_zero_iff.1 (by omega)
    have eb : yb = [] := List.length_eq_zero_iff.1 (by omega)
    subst ea eb
    rw [diffF, List.append_nil] at hacc
    rw [← hacc]
    exact ⟨hu, kh.1, fun i hi _ => kh.2 i hi (by omega)⟩
  rw [if_pos (by omega)]
  simp only [binV_int (op := .eql), intV, Mpu_some]
  have goB : ∀ (y : Item) (l : List Item), yb = y :: l → diffF Item.name shI xa yb = ⟨y.name, [], shI y⟩ :: diffF Item.name shI xa l → ∀ b' u' h', Items Q h' b' l → BufE 3 (H.size ≤ ·) h' u' ((acc ++ [Step.mk y.name [] (shI y)]).map stepC) → Keep (H.size ≤ ·) h h' → k a b' u' h' := by
    rintro y l rfl hd b' u' h' hb' hu' k'
    refine hk _ _ _ _ ⟨xa, l, acc ++ [Step.mk y.name [] (shI y)], ha.keep k' fun b hb hm' => absurd (hP b hb) (by omega), hb', hu', by rw [← hacc, hd]; simp, hla, by simp at hlb; omega, by simp at hlen ⊢; omega, kh.trans k'⟩ ?_
    rw [sa, sb, hb'.slen]; simp
  have goA : ∀ (x : Item) (l : List Item), xa = x :: l → diffF Item.name shI xa yb = ⟨x.name, shI x, []⟩ :: diffF Item.name shI l yb → ∀ a' u' h', Items P h' a' l → BufE 3 (H.size ≤ ·) h' u' ((acc ++ [Step.mk x.name (shI x) []]).map stepC) → Keep (H.size ≤ ·) h h' → k a' b u' h' := by
    rintro x l rfl hd a' u' h' ha' hu' k'
    refine hk _ _ _ _ ⟨l, yb, acc ++ [Step.mk x.name (shI x) []], ha', hb.keep k' fun b hb hm' => absurd (hQ b hb) (by omega), hu', by rw [← hacc, hd]; simp, by simp at hla; omega, hlb, by simp at hlen ⊢; omega, kh.trans k'⟩ ?_
    rw [sa, sb, ha'.slen]; simp
  have e0 : ((0 : Int) == 0) = true := rfl
  have g0 : decide ((0 : Int) > 0) = false := rfl
  have en : ∀ (z : Item) (l : List Item), ((((z :: l).length : Nat) : Int) == 0) = false := fun z l => by rw [beq_eq_false_iff_ne]; simp; omega
  have gn : ∀ (z : Item) (l : List Item), decide ((((z :: l).length : Nat) : Int) > 0) = true := fun z l => by simp
  match hxa : xa, hyb : yb with
  | [], [] => simp at hz
  | [], y :: l =>
    simp only [List.length_nil, Int.natCast_zero, e0, Mif_bool, Mif_undef, Bool.true_eq_false, if_false, if_true, J1_eq, pickV_bool, Mpu_some, Mcd_bool]
    exact stepB hb hQ kh.1 hu (by simp at hlen; omega) hTh (goB y l rfl (by rw [diffF]))
  | x :: la, [] =>
    simp only [List.length_nil, Int.natCast_zero, e0, g0, en, Mif_bool, Mif_undef, Bool.true_eq_false, Bool.false_eq_true, if_false, if_true, J1_eq, pickV_bool, Mpu_some, Mcd_bool]
    exact stepA ha hP kh.1 hu (by simp at hlen; omega) hTh (goA x la rfl (by rw [diffF]))
  | x :: la, y :: l =>
    simp only [en, gn, Mif_bool, if_true]
    obtain ⟨wfa, ba, oa, ixa, _, lda⟩ := head0 ha
    obtain ⟨wfb, bb, ob, ixb, _, ldb⟩ := head0 hb
    obtain ⟨a1, _, a3⟩ := lda (fun _ => False) h Keep.refl id
    obtain ⟨b1, _, b3⟩ := ldb (fun _ => False) h Keep.refl id
    have fa : fld 0 (Ptr ba oa) = some (Ptr ba oa) := rfl
    have fb : fld 0 (Ptr bb ob) = some (Ptr bb ob) := rfl
    refine J1_i (fun u h' => u = .bool true ∧ h = h') (fun k' hk' => hk' _ _ ⟨rfl, rfl⟩) ?_
    rintro _ _ ⟨rfl, rfl⟩
    refine J1_i (fun u h' => u = .bool (less y.name x.name) ∧ h = h') (fun k' hk' => ?_) ?_
    · simp only [Mif_bool, if_true, ixa, ixb, fa, fb, a1, b1, Mpu_some, binV_str, strV_lss]
      exact hk' _ _ ⟨rfl, rfl⟩
    rintro _ _ ⟨rfl, rfl⟩
    refine J1_i (fun u h' => u = .bool (less y.name x.name) ∧ h = h') (fun k' hk' => ?_) ?_
    · simp only [pickV_bool, if_true, Mpu_some]
      exact hk' _ _ ⟨rfl, rfl⟩
    rintro _ _ ⟨rfl, rfl⟩
    simp only [pickV_bool, Bool.false_eq_true, if_false, Mpu_some, Mcd_bool]
    by_cases c1 : less y.name x.name = true
    · rw [if_pos c1]
      exact stepB hb hQ kh.1 hu (by simp at hlen; omega) hTh (goB y l rfl (by rw [diffF, if_pos c1]))
    rw [if_neg c1]
    refine J1_i (fun u h' => u = .bool (less x.name y.name) ∧ h = h') (fun k' hk' => ?_) ?_
    · simp only [Mif_bool, if_true, ixa, ixb, fa, fb, a1, b1, Mpu_some, binV_str, strV_lss]
      exact hk' _ _ ⟨rfl, rfl⟩
    rintro _ _ ⟨rfl, rfl⟩
    simp only [pickV_bool, Bool.false_eq_true, if_false, Mpu_some, Mcd_bool]
    by_cases c2 : less x.name y.name = true
    · rw [if_pos c2]
      exact stepA ha hP kh.1 hu (by simp at hlen; omega) hTh (goA x la rfl (by rw [diffF, if_neg c1, if_pos c2]))
    rw [if_neg c2]
    refine J1_i (fun u h' => BufE 3 (H.size ≤ ·) h' u ((acc ++ if x = y then [] else [Step.mk x.name (shI x) (shI y)]).map stepC) ∧ Keep (H.size ≤ ·) h h') (fun k' hk' => ?_) ?_
    · simp only [ixa, ixb, a3, b3, Mpu_some, neItem wfa wfb, Mcd_bool]
      by_cases c3 : x = y
      · rw [if_neg (by simp [c3])]
        refine hk' _ _ ⟨?_, Keep.refl⟩
        rw [if_pos c3, List.append_nil]; exact hu
      · rw [if_pos (by simp [c3])]
        have st := stepAB (K := fun u' h' => k' u' h') ha hb kh.1 hu (by simp at hlen; omega) hTh fun u' h' hu' kk => hk' _ _ ⟨by rw [if_neg c3]; exact hu', kk⟩
        simp only [ixa, ixb, Mpu_some] at st
        exact st
    rintro u' h' ⟨hu', kk⟩
    obtain ⟨a', sa', ha'⟩ := tail1 (ha.keep kk fun b hb hm' => absurd (hP b hb) (by omega))
    obtain ⟨b', sb', hb'⟩ := tail1 (hb.keep kk fun b hb hm' => absurd (hQ b hb) (by omega))
    rw [sa', Mpu_some, sb', Mpu_some]
    refine hk _ _ _ _ ⟨la, l, _, ha', hb', hu', ?_, by simp at hla; omega, by simp at hlb; omega, ?_, kh.trans kk⟩ ?_
    · rw [← hacc]
      conv => rhs; rw [diffF, if_neg c1, if_neg c2]
      by_cases c3 : x = y
      · rw [if_pos c3, if_pos c3, List.append_nil]
      · rw [if_neg c3, if_neg c3]; simp
    · by_cases c3 : x = y
      · rw [if_pos c3]; simp at hlen ⊢; omega
      · rw [if_neg c3]; simp at hlen ⊢; omega
    · rw [sa, sb, ha'.slen, hb'.slen]; simp; omega
end Go.Proofs.YtmhfanpijdgkjaaDoor
/- HistoryDiffs: is what comes in small? -/
namespace Go.Proofs.YtmhfanpijdgkjaaDoor
open Go.X Go.X.Diff
set_option maxRecDepth 100000

def bigI (x : Item) : Bool := decide (x.name.length > 100) || decide (x.ver.pre.length > 100)
def smallB (a b : List Item) : Bool := !(a.any bigI) && !(b.any bigI) && (decide (a.length ≤ 20) && decide (b.length ≤ 20))
theorem bsl_two {a a' : Option Addr} {n c n' c' : Nat} : bslV prg T_S_history_Item 2 [(0, .slice a n c), (1, .slice a' n' c')] = some #[.slice a n c, .slice a' n' c'] := by kernel_rfl
theorem Items.slice {P : Nat → Prop} {H : Heap} {v : Value} {xs : List Item} (h : Items P H v xs) : ∃ a c, v = .slice a xs.length c := by
  obtain ⟨⟨⟨a, c, rfl, _⟩, _⟩, _⟩ := h; exact ⟨a, c, by simp⟩
theorem bsl_items {P Q : Nat → Prop} {H H' : Heap} {v w : Value} {xs ys : List Item} (hv : Items P H v xs) (hw : Items Q H' w ys) : bslV prg T_S_history_Item 2 [(0, v), (1, w)] = some #[v, w] := by
  obtain ⟨a, c, rfl⟩ := hv.slice
  obtain ⟨a', c', rfl⟩ := hw.slice
  exact bsl_two

theorem big_loop {P : Nat → Prop} {h : Heap} {z : Value} {zs : List Item} {Rf : Heap → Prop} {k7 : Value → Heap → Prop} (hz : Items P h z zs) (hl : zs.length ≤ 9223372036854775807)
    (hbad : zs.any bigI = true → ∀ h', Keep (fun _ => False) h h' → Rf h') (hok : zs.any bigI = false → ∀ u h', Keep (fun _ => False) h h' → k7 u h') :
    L1 (fun k9 => fun t19_2 h10 =>
      Mpu (binV .no .lss t19_2 (.int .i64 zs.length)) fun t20 =>
      Mcd t20 (
        Mpu (ixS 37 z t19_2) fun t21 =>
        Mpu (ldN 37 h10 t21) fun t22 =>
        Mnew h10 T_history_Item (zcells prg T_history_Item) fun t6 h11 =>
        Mwr (stN 37 h11 t6 t22) fun h12 =>
        Mpu (fld 0 t6) fun t23 =>
        Mpu (ld1 h12 t23) fun t24 =>
        Mpu (lenT t24) fun t25 =>
        Mpu (binV .no .gtr t25 (.int .i64 100)) fun t26 =>
        J1 (fun k13 => Mif t26 false (
            Mpu (fld 1 t6) fun t28 =>
            Mpu (fld 3 t28) fun t29 =>
            Mpu (ld1 h12 t29) fun t30 =>
            Mpu (lenT t30) fun t31 =>
            Mpu (binV .no .gtr t31 (.int .i64 100)) fun t32 =>
            k13 t32 h12) (
            k13 undef h12)) fun t32_2 h14 =>
        Mpu (pickV t26 (.bool true) t32_2) fun t33 =>
        Mcd t33 (
          Rf h14) (
          Mpu (binV .no .add t19_2 (.int .i64 1)) fun t34 =>
          k9 t34 h14)) (
        k7 t19_2 h10)) ((.int .i64 0)) h := by
  refine L1_i (fun u h' => ∃ i : Nat, i ≤ zs.length ∧ u = .int .i64 (i : Nat) ∧ (zs.take i).any bigI = false ∧ Keep (fun _ => False) h h') (fun u _ => match u with | .int _ t => zs.length - t.toNat | _ => 0) ⟨0, Nat.zero_le _, rfl, rfl, Keep.refl⟩ ?_
  rintro _ h' ⟨i, hi, rfl, hno, kh⟩ k hk
  simp only [binV_int (op := .lss), intV, Mpu_some, Mcd_bool, decide_eq_true_eq]
  by_cases hlt : (i : Int) < zs.length
  · rw [if_pos hlt]
    have hlt' : i < zs.length := by omega
    have hg : zs[i]? = some zs[i] := List.getElem?_eq_getElem hlt'
    have ht : zs.take (i + 1) = zs.take i ++ [zs[i]] := by rw [List.take_add_one, hg]; rfl
    have hmem : zs[i] ∈ zs := List.getElem_mem _
    generalize hx : zs[i] = x at *
    obtain ⟨hwf, b, o, hix, hpt, hpb⟩ := (hz.keep kh fun _ _ => id).at hg
    have hinc : IntKind.i64.wrap ((i : Int) + 1) = (i + 1 : Nat) := by rw [wrap_id] <;> omega
    simp only [hix, Mpu_some, hpt.agg (itemC_len hwf)]
    refine new_item hwf fun h2 k2 ⟨T, f, hq⟩ => ?_
    have d0 : ld1 h2 (Ptr h'.size 0) = some (str x.name) := ld_l hq rfl
    have d4 : ld1 h2 (Ptr h'.size 4) = some (str x.ver.pre) := ld_l hq (by
      unfold itemC verC
      rw [List.getElem?_cons_succ, List.getElem?_append_left (by simp [hwf.ver.p3]), List.getElem?_append_right (by simp [hwf.ver.p3])]
      simp [hwf.ver.p3])
    have f0 : fld 0 (Ptr h'.size 0) = some (Ptr h'.size 0) := rfl
    have f1 : fld 1 (Ptr h'.size 0) = some (Ptr h'.size 1) := rfl
    have f3 : fld 3 (Ptr h'.size 1) = some (Ptr h'.size 4) := rfl
    have end_ : (Value.bool (bigI x) = Value.bool (bigI x)) → (if bigI x = true then Rf h2 else Mpu (binV .no .add (.int .i64 (i : Nat)) (.int .i64 1)) fun t34 => k t34 h2) := fun _ => by
      cases hb : bigI x with
      | true => rw [if_pos rfl]; exact hbad (List.any_eq_true.2 ⟨x, hmem, hb⟩) _ (kh.trans k2)
      | false =>
        rw [if_neg (by decide)]
        simp only [binV_int (op := .add), intV, hinc, Mpu_some]
        exact hk _ _ ⟨i + 1, hlt', rfl, by rw [ht, List.any_append, hno]; simp [hb], kh.trans k2⟩ (by show zs.length - (i + 1) < zs.length - i; omega)
    have e100 : ∀ n : Nat, binV .no .gtr (.int .i64 (n : Nat)) (.int .i64 100) = some (.bool (decide (n > 100))) := fun n => by
      rw [binV_int]; simp only [intV]; congr 2; rw [decide_eq_decide]; omega
    simp only [f0, Mpu_some, d0, lenT_str, e100]
    refine J1_i (fun u h3 => (decide (x.name.length > 100) = true ∨ u = .bool (decide (x.ver.pre.length > 100))) ∧ h2 = h3) (fun k' hk' => ?_) ?_
    · by_cases hn : x.name.length > 100
      · simp only [hn, decide_true, Mif_bool, Bool.true_eq_false, if_false]
        exact hk' _ _ ⟨.inl (decide_eq_true hn), rfl⟩
      · simp only [hn, decide_false, Mif_bool, if_true, f1, f3, d4, lenT_str, e100, Mpu_some]
        exact hk' _ _ ⟨.inr rfl, rfl⟩
    rintro u3 _ ⟨hu, rfl⟩
    have hp : pickV (.bool (decide (x.name.length > 100))) (.bool true) u3 = some (.bool (bigI x)) := by
      unfold bigI
      rw [pickV_bool]
      by_cases hn : x.name.length > 100
      · simp [hn]
      · rcases hu with hu | rfl
        · exact absurd (of_decide_eq_true hu) hn
        · simp [hn]
    rw [hp, Mpu_some, Mcd_bool]
    exact end_ rfl
  · rw [if_neg hlt]
    obtain rfl : i = zs.length := by omega
    rw [List.take_length] at hno
    exact hok hno _ _ kh

theorem c_smallR {P Q : Nat → Prop} {H : Heap} {vb va : Value} {xs ys : List Item} {k s : Int} {r : List UInt8} (hb : Items P H vb xs) (ha : Items Q H va ys) (hr : r.length = 32) (hl : xs.length ≤ 9223372036854775807) (hl2 : ys.length ≤ 9223372036854775807) :
    HCalls prg f_syngraphlaw22_small [.agg (recC k vb va s r).toArray] H fun u H' => u = .bool (smallB xs ys) ∧ Keep (fun _ => False) H H' := by
  apply sh_syngraphlaw22_small_calls
  unfold sh_syngraphlaw22_small
  simp only [Cells_agg, Mnew_some]
  generalize hH1 : H.push (.cells (recC k vb va s r).toArray T_history_Record (0, 0)) = H1
  have k1 : Keep (fun _ => False) H H1 := by rw [← hH1]; exact Keep.push
  have hq1 : H1[H.size]? = some (.cells (recC k vb va s r).toArray T_history_Record (0, 0)) := by rw [← hH1]; exact push_new
  have d1 : ∀ h, Keep (fun _ => False) H1 h → ld1 h (Ptr H.size 1) = some vb := fun h kh => ld_l (kh.at hq1 id) rfl
  have d2 : ∀ h, Keep (fun _ => False) H1 h → ld1 h (Ptr H.size 2) = some va := fun h kh => ld_l (kh.at hq1 id) rfl
  have f1 : fld 1 (Ptr H.size 0) = some (Ptr H.size 1) := rfl
  have f2 : fld 2 (Ptr H.size 0) = some (Ptr H.size 2) := rfl
  refine J1_i (fun _ h => (xs.any bigI = false ∧ ys.any bigI = false) ∧ Keep (fun _ => False) H1 h) (fun k' hk' => ?_) ?_
  · simp only [f1, f2, Mpu_some, d1 _ Keep.refl, d2 _ Keep.refl, bsl_items hb ha, Mnews_some]
    generalize hH2 : H1.push (.cells #[vb, va] T_S_history_Item (0, 0)) = H2
    have k2 : Keep (fun _ => False) H1 H2 := by rw [← hH2]; exact Keep.push
    have hq2 : H2[H1.size]? = some (.cells [vb, va].toArray T_S_history_Item (0, 0)) := by rw [← hH2]; exact push_new
    have el : lenV (.slice (some ⟨H1.size, 0, none⟩) 2 2) = some (.int .i64 (2 : Nat)) := rfl
    simp only [el, Mpu_some]
    have hno : xs.any bigI = true ∨ ys.any bigI = true → Value.bool false = .bool (smallB xs ys) := fun h => by
      unfold smallB; rcases h with h | h <;> simp [h]
    refine L1_i (fun u h => ∃ i : Nat, i ≤ 2 ∧ u = .int .i64 (i : Nat) ∧ (1 ≤ i → xs.any bigI = false) ∧ (2 ≤ i → ys.any bigI = false) ∧ Keep (fun _ => False) H2 h) (fun u _ => match u with | .int _ t => 2 - t.toNat | _ => 0) ⟨0, by omega, rfl, by omega, by omega, Keep.refl⟩ ?_
    rintro _ h ⟨i, hi, rfl, n1, n2, kh⟩ k3 hk3
    simp only [binV_int (op := .lss), intV, Mpu_some, Mcd_bool, decide_eq_true_eq]
    by_cases hlt : (i : Int) < (2 : Nat)
    · rw [if_pos hlt]
      have hinc : IntKind.i64.wrap ((i : Int) + 1) = (i + 1 : Nat) := by rw [wrap_id] <;> omega
      have hix : ixS 1 (.slice (some ⟨H1.size, 0, none⟩) 2 2) (.int .i64 (i : Nat)) = some (Ptr H1.size i) := by rw [ixS_at (by omega), Nat.zero_add]
      have h01 : i = 0 ∨ i = 1 := by omega
      have ktot : Keep (fun _ => False) H h := k1.trans (k2.trans kh)
      rcases h01 with rfl | rfl
      · have hld : ld1 h (Ptr H1.size 0) = some vb := ld_l (kh.at hq2 id) rfl
        refine J1_i (fun _ h' => xs.any bigI = false ∧ Keep (fun _ => False) h h') (fun k7 hk7 => ?_) ?_
        · simp only [hix, hld, Mpu_some, (hb.keep ktot fun _ _ => id).len]
          exact big_loop (hb.keep ktot fun _ _ => id) hl (fun hbad h' k' => ⟨hno (.inl hbad), ktot.trans k'⟩) fun hok u h' k' => hk7 _ _ ⟨hok, k'⟩
        rintro _ h' ⟨hok, k'⟩
        simp only [binV_int (op := .add), intV, hinc, Mpu_some]
        exact hk3 _ _ ⟨1, by omega, rfl, fun _ => hok, by omega, kh.trans k'⟩ (by show 2 - 1 < 2 - 0; omega)
      · have hld : ld1 h (Ptr H1.size 1) = some va := ld_l (kh.at hq2 id) rfl
        refine J1_i (fun _ h' => ys.any bigI = false ∧ Keep (fun _ => False) h h') (fun k7 hk7 => ?_) ?_
        · simp only [hix, hld, Mpu_some, (ha.keep ktot fun _ _ => id).len]
          exact big_loop (ha.keep ktot fun _ _ => id) hl2 (fun hbad h' k' => ⟨hno (.inr hbad), ktot.trans k'⟩) fun hok u h' k' => hk7 _ _ ⟨hok, k'⟩
        rintro _ h' ⟨hok, k'⟩
        simp only [binV_int (op := .add), intV, hinc, Mpu_some]
        exact hk3 _ _ ⟨2, by omega, rfl, fun _ => n1 (by omega), fun _ => hok, kh.trans k'⟩ (by show 2 - 2 < 2 - 1; omega)
    · rw [if_neg hlt]
      exact hk' _ _ ⟨⟨n1 (by omega), n2 (by omega)⟩, k2.trans kh⟩
  rintro _ h ⟨⟨n1, n2⟩, kh⟩
  have e20 : ∀ n : Nat, binV .no .leq (.int .i64 (n : Nat)) (.int .i64 20) = some (.bool (decide (n ≤ 20))) := fun n => by
    rw [binV_int]; simp only [intV]; congr 2; rw [decide_eq_decide]; omega
  have ktot : Keep (fun _ => False) H h := k1.trans kh
  simp only [f1, f2, Mpu_some, d1 _ kh, d2 _ kh, hb.len, ha.len, e20]
  refine J1_i (fun u h' => (decide (xs.length ≤ 20) = true → u = .bool (decide (ys.length ≤ 20))) ∧ h = h') (fun k' hk' => ?_) ?_
  · by_cases hn : xs.length ≤ 20
    · simp only [hn, decide_true, Mif_bool, if_true]
      exact hk' _ _ ⟨fun _ => rfl, rfl⟩
    · simp only [hn, decide_false, Mif_bool, Bool.false_eq_true, if_false]
      exact hk' _ _ ⟨fun h => absurd (of_decide_eq_true h) hn, rfl⟩
  rintro u3 _ ⟨hu, rfl⟩
  have hp : pickV (.bool (decide (xs.length ≤ 20))) u3 (.bool false) = some (.bool (smallB xs ys)) := by
    unfold smallB
    rw [pickV_bool, n1, n2]
    by_cases hn : xs.length ≤ 20
    · rw [hu (decide_eq_true hn)]; simp [hn]
    · simp [hn]
  rw [hp, Mpu_some]
  exact ⟨rfl, ktot⟩
end Go.Proofs.YtmhfanpijdgkjaaDoor
/- HistoryDiffs: do the names rise? -/
namespace Go.Proofs.YtmhfanpijdgkjaaDoor
open Go.X Go.X.Diff
set_option maxRecDepth 100000

def upB (xs : List Item) (i : Nat) : Bool := decide (Ris Item.name (xs.take i))
theorem upB_zero {xs : List Item} : upB xs 0 = true := decide_eq_true (show List.Pairwise _ [] from .nil)
theorem upB_one {x : Item} {xs : List Item} : upB (x :: xs) 1 = true := decide_eq_true (show List.Pairwise _ [x] by simp)
theorem upB_succ {xs : List Item} {i : Nat} {y x : Item} (hy : xs[i]? = some y) (hx : xs[i + 1]? = some x) : upB xs (i + 2) = (upB xs (i + 1) && less y.name x.name) := by
  unfold upB
  rw [Bool.eq_iff_iff, Bool.and_eq_true, decide_eq_true_eq, decide_eq_true_eq]
  constructor
  · intro h
    constructor
    · have e : xs.take (i + 2) = xs.take (i + 1) ++ [x] := by rw [List.take_add_one, hx]; rfl
      rw [e] at h; exact (List.pairwise_append.1 h).1
    · cases hl : less y.name x.name with
      | true => rfl
      | false =>
        refine absurd h (ris_not (i := i) (y := y) (x := x) ?_ ?_ hl)
        · rw [List.getElem?_take]; simp [hy]
        · rw [List.getElem?_take]; simp [hx]
  · rintro ⟨h1, h2⟩; exact ris_take h1 hy hx h2

theorem rise_loop {P : Nat → Prop} {h : Heap} {z : Value} {zs : List Item} {b : Bool} {k8 : Value → Value → Heap → Prop} (hz : Items P h z zs) (hl : zs.length ≤ 9223372036854775807)
    (hok : ∀ i, k8 (.bool (b && decide (Ris Item.name zs))) i h) :
    L2 (fun k10 => fun t5_3 t39_2 h11 =>
      Mpu (binV .no .lss t39_2 (.int .i64 zs.length)) fun t40 =>
      Mcd t40 (
        J1 (fun k12 => Mif t5_3 true (
            Mpu (binV .no .eql t39_2 (.int .i64 0)) fun t45 =>
            k12 t45 h11) (
            k12 undef h11)) fun t46_2 h13 =>
        J1 (fun k14 => Mif t46_2 false (
            Mpu (binV .no .sub t39_2 (.int .i64 1)) fun t49 =>
            Mpu (ixS 37 z t49) fun t50 =>
            Mpu (fld 0 t50) fun t51 =>
            Mpu (ld1 h13 t51) fun t52 =>
            Mpu (ixS 37 z t39_2) fun t55 =>
            Mpu (fld 0 t55) fun t56 =>
            Mpu (ld1 h13 t56) fun t57 =>
            Mpu (binV .no .lss t52 t57) fun t58 =>
            k14 t58 h13) (
            k14 undef h13)) fun t58_2 h15 =>
        J1 (fun k16 => Mif t5_3 true (
            Mpu (pickV t46_2 (.bool true) t58_2) fun t59 =>
            k16 t59 h15) (
            k16 undef h15)) fun t59_2 h17 =>
        Mpu (pickV t5_3 t59_2 (.bool false)) fun t60 =>
        Mpu (binV .no .add t39_2 (.int .i64 1)) fun t61 =>
        k10 t60 t61 h17) (
        k8 t5_3 t39_2 h11)) (.bool b) ((.int .i64 0)) h := by
  refine L2_i (fun a u h' => ∃ i : Nat, i ≤ zs.length ∧ u = .int .i64 (i : Nat) ∧ a = .bool (b && upB zs i) ∧ h = h') (fun _ u _ => match u with | .int _ t => zs.length - t.toNat | _ => 0) ⟨0, Nat.zero_le _, rfl, by rw [upB_zero, Bool.and_true], rfl⟩ ?_
  rintro _ _ _ ⟨i, hi, rfl, rfl, rfl⟩ k hk
  simp only [binV_int (op := .lss), intV, Mpu_some, Mcd_bool, decide_eq_true_eq]
  by_cases hlt : (i : Int) < zs.length
  · rw [if_pos hlt]
    have hlt' : i < zs.length := by omega
    have hinc : binV .no .add (.int .i64 (i : Nat)) (.int .i64 1) = some (.int .i64 ((i + 1 : Nat) : Int)) := by
      rw [binV_int]; simp only [intV]; rw [wrap_id] <;> first | rfl | omega
    have hq : binV .no .eql (.int .i64 (i : Nat)) (.int .i64 0) = some (.bool (decide (i = 0))) := by
      rw [binV_int]; simp only [intV]; congr 2; rw [Bool.eq_iff_iff]; simp
    have fin : ∀ c : Bool, (b && upB zs (i + 1)) = c → k (.bool c) (.int .i64 ((i + 1 : Nat) : Int)) h := fun c hc => by
      subst hc; exact hk _ _ _ ⟨i + 1, hlt', rfl, rfl, rfl⟩ (by show zs.length - (i + 1) < zs.length - i; omega)
    cases hb : (b && upB zs i) with
    | false =>
      simp only [Mif_bool, Bool.false_eq_true, if_false, J1_eq, Mif_undef, pickV_bool, Mpu_some, hinc]
      refine fin _ ?_
      cases b with
      | false => rfl
      | true =>
        simp only [Bool.true_and] at hb ⊢
        match i, hlt', hb with
        | 0, _, hb => rw [upB_zero] at hb; cases hb
        | j + 1, hlt', hb => rw [upB_succ (List.getElem?_eq_getElem (by omega)) (List.getElem?_eq_getElem hlt'), hb]; rfl
    | true =>
      simp only [Mif_bool, if_true, hq, Mpu_some]
      refine J1_i (fun u h' => u = .bool (decide (i = 0)) ∧ h = h') (fun k' hk' => hk' _ _ ⟨rfl, rfl⟩) ?_
      rintro _ _ ⟨rfl, rfl⟩
      obtain ⟨hb1, hb2⟩ : b = true ∧ upB zs i = true := by simpa using hb
      refine J1_i (fun u h' => (i ≠ 0 → u = .bool (upB zs (i + 1))) ∧ h = h') (fun k' hk' => ?_) ?_
      · by_cases h0 : i = 0
        · simp only [h0, decide_true, Mif_bool, Bool.true_eq_false, if_false]
          exact hk' _ _ ⟨fun h => absurd h0 h, rfl⟩
        · obtain ⟨j, rfl⟩ : ∃ j, i = j + 1 := ⟨i - 1, by omega⟩
          have hg : zs[j]? = some zs[j] := List.getElem?_eq_getElem (by omega)
          have hg1 : zs[j + 1]? = some zs[j + 1] := List.getElem?_eq_getElem hlt'
          have hdec : binV .no .sub (.int .i64 ((j + 1 : Nat) : Int)) (.int .i64 1) = some (.int .i64 ((j : Nat) : Int)) := by
            rw [binV_int]; simp only [intV]; rw [wrap_id] <;> first | (congr 2; omega) | omega
          obtain ⟨_, b1, o1, ix1, pt1, _⟩ := hz.at hg
          obtain ⟨_, b2, o2, ix2, pt2, _⟩ := hz.at hg1
          have f1 : fld 0 (Ptr b1 o1) = some (Ptr b1 o1) := rfl
          have f2 : fld 0 (Ptr b2 o2) = some (Ptr b2 o2) := rfl
          simp only [h0, decide_false, Mif_bool, if_true, hdec, ix1, ix2, f1, f2, pt1.cell0 rfl, pt2.cell0 rfl, binV_str, strV_lss, Mpu_some]
          exact hk' _ _ ⟨fun _ => by rw [upB_succ hg hg1, hb2]; rfl, rfl⟩
      rintro u3 _ ⟨hu, rfl⟩
      have hp : pickV (.bool (decide (i = 0))) (.bool true) u3 = some (.bool (upB zs (i + 1))) := by
        rw [pickV_bool]
        by_cases h0 : i = 0
        · subst h0
          match zs, hlt' with
          | x :: l, _ => rw [upB_one]; rfl
        · rw [hu h0]; simp [h0]
      refine J1_i (fun u h' => u = .bool (upB zs (i + 1)) ∧ h = h') (fun k' hk' => ?_) ?_
      · rw [hp, Mpu_some]; exact hk' _ _ ⟨rfl, rfl⟩
      rintro _ _ ⟨rfl, rfl⟩
      simp only [pickV_bool, if_true, Mpu_some, hinc]
      exact fin _ (by rw [hb1]; rfl)
  · rw [if_neg hlt]
    obtain rfl : i = zs.length := by omega
    have : upB zs zs.length = decide (Ris Item.name zs) := by unfold upB; rw [List.take_length]
    rw [this]
    exact hok _
end Go.Proofs.YtmhfanpijdgkjaaDoor
/- HistoryDiffs: the two counts. -/
namespace Go.Proofs.YtmhfanpijdgkjaaDoor
open Go.X Go.X.Diff
set_option maxRecDepth 100000

theorem add_one {n : Nat} (h : n ≤ 1099511627776) : binV .no .add (.int .i64 (n : Nat)) (.int .i64 1) = some (.int .i64 ((n + 1 : Nat) : Int)) := by
  rw [binV_int]; simp only [intV]; rw [wrap_id] <;> first | rfl | omega
theorem lt_zero {n : Nat} : binV .no .lss (.int .i64 (n : Nat)) (.int .i64 0) = some (.bool false) := by
  rw [binV_int]; simp only [intV]; exact congrArg (fun b => some (Value.bool b)) (decide_eq_false (by omega))
theorem lt_neg : binV .no .lss (.int .i64 (-1)) (.int .i64 0) = some (.bool true) := rfl
theorem ld_item {h : Heap} {q : Nat} {x : Item} (hwf : x.wf) (hq : ∃ T f, h[q]? = some (.cells (itemC x).toArray T f)) : ldN 37 h (Ptr q 0) = some (.agg (itemC x).toArray) := by
  obtain ⟨T, f, hq⟩ := hq
  exact (Pt.of hq).agg (itemC_len hwf)
def cA (ys : List Item) (x : Item) : Bool := !decide (fndI ys x.name = some x)
def cB (xs : List Item) (y : Item) : Bool := (fndI xs y.name).isNone

section
variable {P Q : Nat → Prop} {h : Heap} {a b : Value} {xs ys : List Item}
theorem count_A {k25 : Value → Value → Heap → Prop} (ha : Items P h a xs) (hb : Items Q h b ys) (hl : xs.length ≤ 1048576) (hl2 : ys.length ≤ 1048576)
    (hk : ∀ i h', Keep (fun _ => False) h h' → k25 (.int .i64 (xs.countP (cA ys) : Nat)) i h') :
    L2 (fun k27 => fun t11_2 t84_2 h28 =>
      Mpu (binV .no .lss t84_2 (.int .i64 xs.length)) fun t85 =>
      Mcd t85 (
        J2 (fun k29 =>
          Mpu (ixS 37 a t84_2) fun t86 =>
          Mpu (ldN 37 h28 t86) fun t87 =>
          Mnew h28 T_history_Item (zcells prg T_history_Item) fun t13 h31 =>
          Mwr (stN 37 h31 t13 t87) fun h32 =>
          Mpu (fld 0 t13) fun t89 =>
          Mpu (ld1 h32 t89) fun t90 =>
          Mcall prg f_syngraphlaw22_at [b, t90] h32 fun t91 h33 =>
          Mpu (binV .no .lss t91 (.int .i64 0)) fun t93 =>
          J1 (fun k34 => Mif t93 false (
              Mpu (ixS 37 b t91) fun t97 =>
              Mpu (ldN 37 h33 t97) fun t98 =>
              Mpu (ldN 37 h33 t13) fun t99 =>
              Mpu (binV (eqK prg T_history_Item) .neq t98 t99) fun t100 =>
              k34 t100 h33) (
              k34 undef h33)) fun t100_2 h35 =>
          Mpu (pickV t93 (.bool true) t100_2) fun t101 =>
          Mcd t101 (
            Mpu (binV .no .add t11_2 (.int .i64 1)) fun t103 =>
            k29 t103 t100_2 h35) (
            k29 t11_2 t100_2 h35)) fun t11_4 t100_3 h30 =>
        Mpu (binV .no .add t84_2 (.int .i64 1)) fun t104 =>
        k27 t11_4 t104 h30) (
        k25 t11_2 t84_2 h28)) ((.int .i64 0)) ((.int .i64 0)) h := by
  refine L2_i (fun n u h' => ∃ i : Nat, i ≤ xs.length ∧ u = .int .i64 (i : Nat) ∧ n = .int .i64 ((xs.take i).countP (cA ys) : Nat) ∧ Keep (fun _ => False) h h') (fun _ u _ => match u with | .int _ t => xs.length - t.toNat | _ => 0) ⟨0, Nat.zero_le _, rfl, rfl, Keep.refl⟩ ?_
  rintro _ _ h' ⟨i, hi, rfl, rfl, kh⟩ k hk'
  simp only [binV_int (op := .lss) (a := (i : Int)), intV, Mpu_some, Mcd_bool, decide_eq_true_eq]
  by_cases hlt : (i : Int) < xs.length
  · rw [if_pos hlt]
    have hlt' : i < xs.length := by omega
    have hg : xs[i]? = some xs[i] := List.getElem?_eq_getElem hlt'
    have ht : (xs.take (i + 1)).countP (cA ys) = (xs.take i).countP (cA ys) + if cA ys xs[i] then 1 else 0 := by
      rw [List.take_add_one, hg, List.countP_append]; simp [List.countP_cons]
    have hcl : (xs.take i).countP (cA ys) ≤ i := Nat.le_trans List.countP_le_length (by simp; omega)
    obtain ⟨hwf, bb, o, hix, hpt, hpb⟩ := (ha.keep kh fun _ _ => id).at hg
    refine J2_i (fun n _ h3 => n = .int .i64 ((xs.take (i + 1)).countP (cA ys) : Nat) ∧ Keep (fun _ => False) h' h3) (fun k29 hk29 => ?_) ?_
    · simp only [hix, Mpu_some, hpt.agg (itemC_len hwf)]
      refine new_item hwf fun h2 k2 hq => ?_
      have d0 : ld1 h2 (Ptr h'.size 0) = some (str xs[i].name) := by obtain ⟨T, f, hq⟩ := hq; exact ld_l hq rfl
      have f0 : fld 0 (Ptr h'.size 0) = some (Ptr h'.size 0) := rfl
      simp only [f0, d0, Mpu_some]
      have hb2 := hb.keep (kh.trans k2) fun _ _ => id
      refine call_i (c_at hb2 (by omega)) ?_
      rintro u h3 ⟨hu, k3⟩
      have hq3 : ∃ T f, h3[h'.size]? = some (.cells (itemC xs[i]).toArray T f) := by obtain ⟨T, f, hq⟩ := hq; exact ⟨T, f, k3.at hq id⟩
      have fin : ∀ (c : Bool) (w : Value), cA ys xs[i] = c → (if c = true then Mpu (binV .no .add (.int .i64 ((xs.take i).countP (cA ys) : Nat)) (.int .i64 1)) fun t103 => k29 t103 w h3 else k29 (.int .i64 ((xs.take i).countP (cA ys) : Nat)) w h3) := fun c w hc => by
        cases c with
        | true => rw [if_pos rfl, add_one (by omega), Mpu_some]; exact hk29 _ _ _ ⟨by rw [ht, hc]; rfl, k2.trans k3⟩
        | false => rw [if_neg (by decide)]; exact hk29 _ _ _ ⟨by rw [ht, hc]; rfl, k2.trans k3⟩
      rcases hu with ⟨rfl, hnone⟩ | ⟨j, y, rfl, hj, hgy, hsome⟩
      · simp only [lt_neg, Mpu_some, Mif_bool, Bool.true_eq_false, if_false, J1_eq, pickV_bool, if_true, Mcd_bool]
        exact fin true _ (by unfold cA; rw [hnone]; simp)
      · obtain ⟨wfy, b2, o2, ix2, pt2, _⟩ := (hb2.keep k3 fun _ _ => id).at hgy
        simp only [lt_zero, Mpu_some, Mif_bool, if_true, J1_eq, pickV_bool, Bool.false_eq_true, if_false, Mcd_bool, ix2, pt2.agg (itemC_len wfy), ld_item hwf hq3, neItem wfy hwf]
        exact fin _ _ (by unfold cA; rw [hsome]; simp)
    rintro _ _ h3 ⟨rfl, k3⟩
    rw [add_one (by omega), Mpu_some]
    exact hk' _ _ _ ⟨i + 1, hlt', rfl, rfl, kh.trans k3⟩ (by show xs.length - (i + 1) < xs.length - i; omega)
  · rw [if_neg hlt]
    obtain rfl : i = xs.length := by omega
    rw [List.take_length]
    exact hk _ _ kh
theorem count_B {n0 : Nat} (hn0 : n0 ≤ 1048576) {k36 : Value → Value → Heap → Prop} (ha : Items P h a xs) (hb : Items Q h b ys) (hl : xs.length ≤ 1048576) (hl2 : ys.length ≤ 1048576)
    (hk : ∀ i h', Keep (fun _ => False) h h' → k36 (.int .i64 ((n0 + ys.countP (cB xs) : Nat) : Int)) i h') :
    L2 (fun k38 => fun t11_6 t107_2 h39 =>
      Mpu (binV .no .lss t107_2 (.int .i64 ys.length)) fun t108 =>
      Mcd t108 (
        J1 (fun k40 =>
          Mpu (ixS 37 b t107_2) fun t109 =>
          Mpu (ldN 37 h39 t109) fun t110 =>
          Mnew h39 T_history_Item (zcells prg T_history_Item) fun t16 h42 =>
          Mwr (stN 37 h42 t16 t110) fun h43 =>
          Mpu (fld 0 t16) fun t112 =>
          Mpu (ld1 h43 t112) fun t113 =>
          Mcall prg f_syngraphlaw22_at [a, t113] h43 fun t114 h44 =>
          Mpu (binV .no .lss t114 (.int .i64 0)) fun t115 =>
          Mcd t115 (
            Mpu (binV .no .add t11_6 (.int .i64 1)) fun t117 =>
            k40 t117 h44) (
            k40 t11_6 h44)) fun t11_8 h41 =>
        Mpu (binV .no .add t107_2 (.int .i64 1)) fun t118 =>
        k38 t11_8 t118 h41) (
        k36 t11_6 t107_2 h39)) (.int .i64 (n0 : Nat)) ((.int .i64 0)) h := by
  refine L2_i (fun n u h' => ∃ i : Nat, i ≤ ys.length ∧ u = .int .i64 (i : Nat) ∧ n = .int .i64 ((n0 + (ys.take i).countP (cB xs) : Nat) : Int) ∧ Keep (fun _ => False) h h') (fun _ u _ => match u with | .int _ t => ys.length - t.toNat | _ => 0) ⟨0, Nat.zero_le _, rfl, rfl, Keep.refl⟩ ?_
  rintro _ _ h' ⟨i, hi, rfl, rfl, kh⟩ k hk'
  simp only [binV_int (op := .lss) (a := (i : Int)), intV, Mpu_some, Mcd_bool, decide_eq_true_eq]
  by_cases hlt : (i : Int) < ys.length
  · rw [if_pos hlt]
    have hlt' : i < ys.length := by omega
    have hg : ys[i]? = some ys[i] := List.getElem?_eq_getElem hlt'
    have ht : (ys.take (i + 1)).countP (cB xs) = (ys.take i).countP (cB xs) + if cB xs ys[i] then 1 else 0 := by
      rw [List.take_add_one, hg, List.countP_append]; simp [List.countP_cons]
    have hcl : (ys.take i).countP (cB xs) ≤ i := Nat.le_trans List.countP_le_length (by simp; omega)
    obtain ⟨hwf, bb, o, hix, hpt, hpb⟩ := (hb.keep kh fun _ _ => id).at hg
    refine J1_i (fun n h3 => n = .int .i64 ((n0 + (ys.take (i + 1)).countP (cB xs) : Nat) : Int) ∧ Keep (fun _ => False) h' h3) (fun k40 hk40 => ?_) ?_
    · simp only [hix, Mpu_some, hpt.agg (itemC_len hwf)]
      refine new_item hwf fun h2 k2 hq => ?_
      have d0 : ld1 h2 (Ptr h'.size 0) = some (str ys[i].name) := by obtain ⟨T, f, hq⟩ := hq; exact ld_l hq rfl
      have f0 : fld 0 (Ptr h'.size 0) = some (Ptr h'.size 0) := rfl
      simp only [f0, d0, Mpu_some]
      refine call_i (c_at (ha.keep (kh.trans k2) fun _ _ => id) (by omega)) ?_
      rintro u h3 ⟨hu, k3⟩
      rcases hu with ⟨rfl, hnone⟩ | ⟨j, y, rfl, hj, hgy, hsome⟩
      · have hc : cB xs ys[i] = true := by unfold cB; rw [hnone]; rfl
        rw [lt_neg, Mpu_some, Mcd_bool, if_pos rfl, add_one (by omega), Mpu_some]
        exact hk40 _ _ ⟨by rw [ht, hc]; rfl, k2.trans k3⟩
      · have hc : cB xs ys[i] = false := by unfold cB; rw [hsome]; rfl
        rw [lt_zero, Mpu_some, Mcd_bool, if_neg (by decide)]
        exact hk40 _ _ ⟨by rw [ht, hc]; rfl, k2.trans k3⟩
    rintro _ h3 ⟨rfl, k3⟩
    rw [add_one (by omega), Mpu_some]
    exact hk' _ _ _ ⟨i + 1, hlt', rfl, rfl, kh.trans k3⟩ (by show ys.length - (i + 1) < ys.length - i; omega)
  · rw [if_neg hlt]
    obtain rfl : i = ys.length := by omega
    rw [List.take_length]
    exact hk _ _ kh
end
end Go.Proofs.YtmhfanpijdgkjaaDoor
/- HistoryDiffs: what is told of each step. -/
namespace Go.Proofs.YtmhfanpijdgkjaaDoor
open Go.X Go.X.Diff
set_option maxRecDepth 100000

theorem eqK_Step : eqK prg T_history_Step = .flat [2, 2, 2] := by kernel_rfl
theorem neStep {s : Step} : binV (eqK prg T_history_Step) .neq (.agg (stepC s).toArray) (.agg (stepC s).toArray) = some (.bool false) := by
  rw [binV_agg_ne, eqK_Step]
  show (eqCells ([2] ++ ([2] ++ [2])) ([str s.name] ++ ([str s.fr] ++ [str s.to])) ([str s.name] ++ ([str s.fr] ++ [str s.to]))).map (fun b => Value.bool (!b)) = _
  rw [eqCells_app rfl rfl eqCells_str (eqCells_app rfl rfl eqCells_str eqCells_str)]
  simp
theorem ge_zero {n : Nat} : binV .no .geq (.int .i64 (n : Nat)) (.int .i64 0) = some (.bool true) := by
  rw [binV_int]; simp only [intV]; exact congrArg (fun b => some (Value.bool b)) (decide_eq_true (by omega))
theorem ge_neg : binV .no .geq (.int .i64 (-1)) (.int .i64 0) = some (.bool false) := rfl
def verOf (xs : List Item) (n : List UInt8) : List UInt8 := ((fndI xs n).map shI).getD []
/-- the version of the name, if it stands there -/
theorem show_at {P : Nat → Prop} {h : Heap} {a u : Value} {xs : List Item} {n : List UInt8} (ha : Items P h a xs) (hu : AtR xs n u) (hT : PowT h) {K : Value → Heap → Prop}
    (hk : ∀ h', Keep (fun _ => False) h h' → K (str (verOf xs n)) h') :
    J1 (fun k55 =>
      Mpu (binV .no .geq u (.int .i64 0)) fun t145 =>
      Mcd t145 (
        Mpu (ixS 37 a u) fun t148 =>
        Mpu (fld 1 t148) fun t149 =>
        Mpu (ldN 4 h t149) fun t150 =>
        Mcall prg f_version_Version_Show [t150] h fun t151 h57 =>
        k55 t151 h57) (
        k55 (.string ⟨#[]⟩) h)) K := by
  refine J1_i (fun w h' => w = str (verOf xs n) ∧ Keep (fun _ => False) h h') (fun k hk' => ?_) ?_
  · rcases hu with ⟨rfl, hnone⟩ | ⟨j, y, rfl, hj, hgy, hsome⟩
    · rw [ge_neg, Mpu_some, Mcd_bool, if_neg (by decide)]
      exact hk' _ _ ⟨by unfold verOf; rw [hnone]; rfl, Keep.refl⟩
    · obtain ⟨wf, b, o, hix, hpt, _⟩ := ha.at hgy
      have f1 : fld 1 (Ptr b o) = some (Ptr b (o + 1)) := rfl
      have hld : ldN 4 h (Ptr b (o + 1)) = some (.agg (verC y.ver).toArray) := (Pt.mid (A := [str y.name]) (B := verC y.ver) (C := bcells y.sum) hpt rfl).agg (verC_len wf.ver)
      rw [ge_zero, Mpu_some, Mcd_bool, if_pos rfl, hix, Mpu_some, f1, Mpu_some, hld, Mpu_some]
      refine call_i (c_ShowT wf.ver hT) ?_
      rintro _ h' ⟨rfl, k'⟩
      exact hk' _ _ ⟨by unfold verOf; rw [hsome]; rfl, k'⟩
  rintro _ h' ⟨rfl, k'⟩
  exact hk _ k'
/-- a new place for a copy of a step -/
theorem new_step {h : Heap} {s : Step} {k : Value → Heap → Prop}
    (hk : ∀ h2, Keep (fun _ => False) h h2 → (∃ T f, h2[h.size]? = some (.cells (stepC s).toArray T f)) → k (Ptr h.size 0) h2) :
    Mnew h T_history_Step (zcells prg T_history_Step) fun t h5 => Mwr (stN 3 h5 t (.agg (stepC s).toArray)) fun h6 => k t h6 := by
  rw [z_Step, Mnew_some]
  have hpush : (h.push (.cells #[str [], str [], str []] T_history_Step (0, 0)))[h.size]? = some (.cells [str [], str [], str []].toArray T_history_Step (0, 0)) := push_new
  have hst := stN_mid (n := 3) (o := 0) (A := []) (B := [str [], str [], str []]) (C := []) (B' := stepC s) (by rw [List.nil_append, List.append_nil]; exact hpush) rfl rfl rfl (all_of stepC_one)
  rw [List.nil_append, List.append_nil] at hst
  rw [hst, Mwr_some]
  refine hk _ ⟨by simp, fun j hj _ => ?_⟩ ⟨_, _, set_self hpush⟩
  rw [Array.getElem?_setIfInBounds, if_neg (by omega), Array.getElem?_push, if_neg (by omega)]
end Go.Proofs.YtmhfanpijdgkjaaDoor
/- HistoryDiffs: the loop over the steps. -/
namespace Go.Proofs.YtmhfanpijdgkjaaDoor
open Go.X Go.X.Diff
set_option maxRecDepth 100000

theorem strV_geq' {a b : List UInt8} : strV .geq ⟨a.toArray⟩ ⟨b.toArray⟩ = some (.bool (!less a b)) := strV_geq
theorem at_flags {xs : List Item} {n : List UInt8} {u : Value} (h : AtR xs n u) : ∃ c : Bool, c = (fndI xs n).isNone ∧ binV .no .lss u (.int .i64 0) = some (.bool c) ∧ binV .no .geq u (.int .i64 0) = some (.bool (!c)) := by
  rcases h with ⟨rfl, hn⟩ | ⟨i, x, rfl, _, _, hs⟩
  · exact ⟨true, by rw [hn]; rfl, lt_neg, ge_neg⟩
  · exact ⟨false, by rw [hs]; rfl, lt_zero, ge_zero⟩

theorem steps_loop {P Q G B : Nat → Prop} {h : Heap} {a b g w : Value} {xs ys : List Item} {S : List Step} (ha : Items P h a xs) (hb : Items Q h b ys) (hg : SlE 3 G h g (S.map stepC)) (hw : SlE 3 B h w ((S.map Step.turn).map stepC))
    (hl : xs.length ≤ 1048576) (hl2 : ys.length ≤ 1048576) (hlS : S.length ≤ 1048576 + 1048576) (hT : PowT h)
    (hso : S.Pairwise fun s t => less s.name t.name = true) (hgood : ∀ s ∈ S, Go.X.Diff.Good (nm := Item.name) shI xs ys s) {R : Value → Heap → Prop} {k47 : Value → Heap → Prop}
    (hk : ∀ u h', Keep (fun _ => False) h h' → k47 u h') :
    L1 (fun k49 => fun t131_2 h50 =>
            Mpu (binV .no .lss t131_2 (.int .i64 S.length)) fun t132 =>
            Mcd t132 (
              Mpu (ixS 3 g t131_2) fun t134 =>
              Mpu (ldN 3 h50 t134) fun t135 =>
              Mnew h50 T_history_Step (zcells prg T_history_Step) fun t18 h51 =>
              Mwr (stN 3 h51 t18 t135) fun h52 =>
              Mpu (fld 0 t18) fun t137 =>
              Mpu (ld1 h52 t137) fun t138 =>
              Mpu (fld 0 t18) fun t141 =>
              Mpu (ld1 h52 t141) fun t142 =>
              Mcall prg f_syngraphlaw22_at [a, t138] h52 fun t139 h53 =>
              Mre [(ld1 h53 t141, t142)] (
              Mcall prg f_syngraphlaw22_at [b, t142] h53 fun t143 h54 =>
              J1 (fun k55 =>
                Mpu (binV .no .geq t139 (.int .i64 0)) fun t145 =>
                Mcd t145 (
                  Mpu (ixS 37 a t139) fun t148 =>
                  Mpu (fld 1 t148) fun t149 =>
                  Mpu (ldN 4 h54 t149) fun t150 =>
                  Mcall prg f_version_Version_Show [t150] h54 fun t151 h57 =>
                  k55 t151 h57) (
                  k55 (.string ⟨#[]⟩) h54)) fun t21_3 h56 =>
              J1 (fun k58 =>
                Mpu (binV .no .geq t143 (.int .i64 0)) fun t153 =>
                Mcd t153 (
                  Mpu (ixS 37 b t143) fun t156 =>
                  Mpu (fld 1 t156) fun t157 =>
                  Mpu (ldN 4 h56 t157) fun t158 =>
                  Mcall prg f_version_Version_Show [t158] h56 fun t159 h60 =>
                  k58 t159 h60) (
                  k58 (.string ⟨#[]⟩) h56)) fun t22_3 h59 =>
              Mpu (binV .no .lss t139 (.int .i64 0)) fun t161 =>
              J1 (fun k61 => Mif t161 true (
                  Mpu (binV .no .lss t143 (.int .i64 0)) fun t164 =>
                  k61 t164 h59) (
                  k61 undef h59)) fun t164_2 h62 =>
              Mpu (pickV t161 t164_2 (.bool false)) fun t165 =>
              J1 (fun k63 => Mif t165 false (
                  Mpu (fld 1 t18) fun t167 =>
                  Mpu (ld1 h62 t167) fun t168 =>
                  Mpu (binV .no .neq t168 t21_3) fun t170 =>
                  k63 t170 h62) (
                  k63 undef h62)) fun t170_2 h64 =>
              Mpu (pickV t165 (.bool true) t170_2) fun t171 =>
              J1 (fun k65 => Mif t171 false (
                  Mpu (fld 2 t18) fun t173 =>
                  Mpu (ld1 h64 t173) fun t174 =>
                  Mpu (binV .no .neq t174 t22_3) fun t176 =>
                  k65 t176 h64) (
                  k65 undef h64)) fun t176_2 h66 =>
              Mpu (pickV t171 (.bool true) t176_2) fun t177 =>
              J1 (fun k67 => Mif t177 false (
                  Mpu (binV .no .geq t139 (.int .i64 0)) fun t180 =>
                  k67 t180 h66) (
                  k67 undef h66)) fun t181_2 h68 =>
              J1 (fun k69 => Mif t181_2 true (
                  Mpu (binV .no .geq t143 (.int .i64 0)) fun t183 =>
                  k69 t183 h68) (
                  k69 undef h68)) fun t183_2 h70 =>
              J1 (fun k71 => Mif t177 false (
                  Mpu (pickV t181_2 t183_2 (.bool false)) fun t184 =>
                  k71 t184 h70) (
                  k71 undef h70)) fun t185_2 h72 =>
              J1 (fun k73 => Mif t185_2 true (
                  Mpu (ixS 37 a t139) fun t188 =>
                  Mpu (ldN 37 h72 t188) fun t189 =>
                  Mpu (ixS 37 b t143) fun t192 =>
                  Mpu (ldN 37 h72 t192) fun t193 =>
                  Mpu (binV (eqK prg T_history_Item) .eql t189 t193) fun t194 =>
                  k73 t194 h72) (
                  k73 undef h72)) fun t194_2 h74 =>
              J1 (fun k75 => Mif t177 false (
                  Mpu (pickV t185_2 t194_2 (.bool false)) fun t195 =>
                  k75 t195 h74) (
                  k75 undef h74)) fun t195_2 h76 =>
              Mpu (pickV t177 (.bool true) t195_2) fun t196 =>
              J1 (fun k77 => Mif t196 false (
                  Mpu (binV .no .gtr t131_2 (.int .i64 0)) fun t199 =>
                  k77 t199 h76) (
                  k77 undef h76)) fun t200_2 h78 =>
              J1 (fun k79 => Mif t200_2 true (
                  Mpu (binV .no .sub t131_2 (.int .i64 1)) fun t203 =>
                  Mpu (ixS 3 g t203) fun t204 =>
                  Mpu (fld 0 t204) fun t205 =>
                  Mpu (ld1 h78 t205) fun t206 =>
                  Mpu (fld 0 t18) fun t207 =>
                  Mpu (ld1 h78 t207) fun t208 =>
                  Mpu (binV .no .geq t206 t208) fun t209 =>
                  k79 t209 h78) (
                  k79 undef h78)) fun t209_2 h80 =>
              J1 (fun k81 => Mif t196 false (
                  Mpu (pickV t200_2 t209_2 (.bool false)) fun t210 =>
                  k81 t210 h80) (
                  k81 undef h80)) fun t210_2 h82 =>
              Mpu (pickV t196 (.bool true) t210_2) fun t211 =>
              J1 (fun k83 => Mif t211 false (
                  Mpu (ixS 3 w t131_2) fun t215 =>
                  Mpu (ldN 3 h82 t215) fun t216 =>
                  Mpu (fld 0 t18) fun t217 =>
                  Mpu (ld1 h82 t217) fun t218 =>
                  Mpu (fld 2 t18) fun t219 =>
                  Mpu (ld1 h82 t219) fun t220 =>
                  Mpu (fld 1 t18) fun t221 =>
                  Mpu (ld1 h82 t221) fun t222 =>
                  Mpu (buildV prg T_history_Step [(0, t218), (1, t220), (2, t222)]) fun t223 =>
                  Mpu (binV (eqK prg T_history_Step) .neq t216 t223) fun t224 =>
                  k83 t224 h82) (
                  k83 undef h82)) fun t224_2 h84 =>
              Mpu (pickV t211 (.bool true) t224_2) fun t225 =>
              Mcd t225 (
                R (.bool false) h84) (
                Mpu (binV .no .add t131_2 (.int .i64 1)) fun t226 =>
                k49 t226 h84))) (
              k47 t131_2 h50)) ((.int .i64 0)) h := by
  refine L1_i (fun u h' => ∃ i : Nat, i ≤ S.length ∧ u = .int .i64 (i : Nat) ∧ Keep (fun _ => False) h h') (fun u _ => match u with | .int _ t => S.length - t.toNat | _ => 0) ⟨0, Nat.zero_le _, rfl, Keep.refl⟩ ?_
  rintro _ h' ⟨i, hi, rfl, kh⟩ k hk'
  have hlss : binV .no .lss (.int .i64 (i : Nat)) (.int .i64 S.length) = some (.bool (decide (i < S.length))) := by
    rw [binV_int]; simp only [intV]; exact congrArg (fun b => some (Value.bool b)) (by rw [decide_eq_decide]; omega)
  rw [hlss, Mpu_some, Mcd_bool]
  by_cases hlt : i < S.length
  · rw [if_pos (decide_eq_true hlt)]
    have hgs : S[i]? = some S[i] := List.getElem?_eq_getElem hlt
    have hmem : S[i] ∈ S := List.getElem_mem _
    obtain ⟨hfr, hto, hnn, hdif⟩ := hgood _ hmem
    obtain ⟨gb, go, gix, gpt, _⟩ := (hg.keep kh fun _ _ => id).at (i := i) (x := stepC S[i]) (by simp [hgs])
    have hgld : ldN 3 h' (Ptr gb go) = some (.agg (stepC S[i]).toArray) := gpt.agg rfl
    rw [gix, Mpu_some, hgld, Mpu_some]
    refine new_step fun h2 k2 ⟨T, f, hq⟩ => ?_
    have f0 : ∀ q, fld 0 (Ptr q 0) = some (Ptr q 0) := fun _ => rfl
    have f1 : ∀ q, fld 1 (Ptr q 0) = some (Ptr q 1) := fun _ => rfl
    have f2 : ∀ q, fld 2 (Ptr q 0) = some (Ptr q 2) := fun _ => rfl
    have d0 : ∀ h3, Keep (fun _ => False) h2 h3 → ld1 h3 (Ptr h'.size 0) = some (str S[i].name) := fun h3 k3 => ld_l (k3.at hq id) rfl
    have d1 : ∀ h3, Keep (fun _ => False) h2 h3 → ld1 h3 (Ptr h'.size 1) = some (str S[i].fr) := fun h3 k3 => ld_l (k3.at hq id) rfl
    have d2 : ∀ h3, Keep (fun _ => False) h2 h3 → ld1 h3 (Ptr h'.size 2) = some (str S[i].to) := fun h3 k3 => ld_l (k3.at hq id) rfl
    simp only [f0, d0 _ Keep.refl, Mpu_some]
    have k02 := kh.trans k2
    refine call_i (c_at (ha.keep k02 fun _ _ => id) (by omega)) ?_
    rintro u1 h3 ⟨hu1, k3⟩
    simp only [Mre_cons, Mre_nil, d0 _ k3, true_and]
    refine call_i (c_at (hb.keep (k02.trans k3) fun _ _ => id) (by omega)) ?_
    rintro u2 h4 ⟨hu2, k4⟩
    have k04 := k02.trans (k3.trans k4)
    refine show_at (ha.keep k04 fun _ _ => id) hu1 (hT.keep k04 fun _ h => h.elim) fun h5 k5 => ?_
    have k05 := k04.trans k5
    refine show_at (hb.keep k05 fun _ _ => id) hu2 (hT.keep k05 fun _ h => h.elim) fun h6 k6 => ?_
    have k06 := k05.trans k6
    have k26 := k3.trans (k4.trans (k5.trans k6))
    have e1 : verOf xs S[i].name = S[i].fr := hfr.symm
    have e2 : verOf ys S[i].name = S[i].to := hto.symm
    rw [e1, e2]
    obtain ⟨wb, wo, wix, wpt, _⟩ := (hw.keep k06 fun _ _ => id).at (i := i) (x := stepC S[i].turn) (by simp [hgs])
    have hwld : ldN 3 h6 (Ptr wb wo) = some (.agg (stepC S[i].turn).toArray) := wpt.agg rfl
    have hne : binV (eqK prg T_history_Step) .neq (.agg (stepC S[i].turn).toArray) (.agg (stepC ⟨S[i].name, S[i].to, S[i].fr⟩).toArray) = some (.bool false) := neStep (s := S[i].turn)
    have s1 : strV .neq ⟨S[i].fr.toArray⟩ ⟨S[i].fr.toArray⟩ = some (.bool false) := by rw [strV_ne]; simp
    have s2 : strV .neq ⟨S[i].to.toArray⟩ ⟨S[i].to.toArray⟩ = some (.bool false) := by rw [strV_ne]; simp
    have hinc := add_one (n := i) (by omega)
    have fin : k (.int .i64 ((i + 1 : Nat) : Int)) h6 := hk' _ _ ⟨i + 1, hlt, rfl, k06⟩ (by show S.length - (i + 1) < S.length - i; omega)
    have q0 := d0 _ k26
    have q1 := d1 _ k26
    have q2 := d2 _ k26
    have prev : ∀ j, i = j + 1 → ∃ b o, ixS 3 g (.int .i64 (j : Nat)) = some (Ptr b o) ∧ fld 0 (Ptr b o) = some (Ptr b o) ∧ ∃ n, ld1 h6 (Ptr b o) = some (str n) ∧ strV .geq ⟨n.toArray⟩ ⟨S[i].name.toArray⟩ = some (.bool false) := fun j hj => by
      subst hj
      have hgj : S[j]? = some S[j] := List.getElem?_eq_getElem (by omega)
      obtain ⟨b', o', ix', pt', _⟩ := (hg.keep k06 fun _ _ => id).at (i := j) (x := stepC S[j]) (by simp [hgj])
      refine ⟨b', o', ix' .i64, rfl, S[j].name, pt'.cell0 rfl, ?_⟩
      have := List.pairwise_iff_getElem.1 hso j (j + 1) (by omega) hlt (by omega)
      rw [strV_geq', this]; rfl
    have hgt : binV .no .gtr (.int .i64 (i : Nat)) (.int .i64 0) = some (.bool (decide (0 < i))) := by
      rw [binV_int]; simp only [intV]; exact congrArg (fun b => some (Value.bool b)) (by rw [decide_eq_decide]; omega)
    rcases hu1 with ⟨rfl, n1⟩ | ⟨j1, x1, rfl, _, hx1, n1⟩ <;> rcases hu2 with ⟨rfl, n2⟩ | ⟨j2, x2, rfl, _, hx2, n2⟩
    · exact absurd ⟨n1, n2⟩ hnn
    ·
      by_cases h0 : 0 < i
      · obtain ⟨j, hj⟩ : ∃ j, i = j + 1 := ⟨i - 1, by omega⟩
        obtain ⟨pb, po, p1, p2, pn, p3, p4⟩ := prev j hj
        have hsub : binV .no .sub (.int .i64 (i : Nat)) (.int .i64 1) = some (.int .i64 ((j : Nat) : Int)) := by
          rw [binV_int]; simp only [intV]; rw [wrap_id] <;> first | (congr 2; omega) | omega
        have hdec : decide (0 < i) = true := decide_eq_true h0
        simp only [lt_neg, lt_zero, ge_neg, ge_zero, Mpu_some, Mif_bool, Mif_undef, if_true, if_false, Bool.true_eq_false, Bool.false_eq_true, J1_eq, pickV_bool, Mcd_bool, f0, f1, f2, q0, q1, q2, binV_str, s1, s2, hgt, hdec, b_step3, wix, hwld, hne, hinc, hsub, p1, p2, p3, p4]
        exact fin
      · have hdec : decide (0 < i) = false := decide_eq_false h0
        simp only [lt_neg, lt_zero, ge_neg, ge_zero, Mpu_some, Mif_bool, Mif_undef, if_true, if_false, Bool.true_eq_false, Bool.false_eq_true, J1_eq, pickV_bool, Mcd_bool, f0, f1, f2, q0, q1, q2, binV_str, s1, s2, hgt, hdec, b_step3, wix, hwld, hne, hinc]
        exact fin
    ·
      by_cases h0 : 0 < i
      · obtain ⟨j, hj⟩ : ∃ j, i = j + 1 := ⟨i - 1, by omega⟩
        obtain ⟨pb, po, p1, p2, pn, p3, p4⟩ := prev j hj
        have hsub : binV .no .sub (.int .i64 (i : Nat)) (.int .i64 1) = some (.int .i64 ((j : Nat) : Int)) := by
          rw [binV_int]; simp only [intV]; rw [wrap_id] <;> first | (congr 2; omega) | omega
        have hdec : decide (0 < i) = true := decide_eq_true h0
        simp only [lt_neg, lt_zero, ge_neg, ge_zero, Mpu_some, Mif_bool, Mif_undef, if_true, if_false, Bool.true_eq_false, Bool.false_eq_true, J1_eq, pickV_bool, Mcd_bool, f0, f1, f2, q0, q1, q2, binV_str, s1, s2, hgt, hdec, b_step3, wix, hwld, hne, hinc, hsub, p1, p2, p3, p4]
        exact fin
      · have hdec : decide (0 < i) = false := decide_eq_false h0
        simp only [lt_neg, lt_zero, ge_neg, ge_zero, Mpu_some, Mif_bool, Mif_undef, if_true, if_false, Bool.true_eq_false, Bool.false_eq_true, J1_eq, pickV_bool, Mcd_bool, f0, f1, f2, q0, q1, q2, binV_str, s1, s2, hgt, hdec, b_step3, wix, hwld, hne, hinc]
        exact fin
    · obtain ⟨wf1, b1, o1, ix1, pt1, _⟩ := (ha.keep k06 fun _ _ => id).at hx1
      obtain ⟨wf2, b2, o2, ix2, pt2, _⟩ := (hb.keep k06 fun _ _ => id).at hx2
      have r1 := pt1.agg (itemC_len wf1)
      have r2 := pt2.agg (itemC_len wf2)
      have hx : ¬ x1 = x2 := fun e => hdif x1 n1 (by rw [e]; exact n2)
      have heq : binV (eqK prg T_history_Item) .eql (.agg (itemC x1).toArray) (.agg (itemC x2).toArray) = some (.bool false) := by
        rw [binV_agg_eq, eqK_Item]
        show (eqCells kItem (itemC x1).toArray.toList (itemC x2).toArray.toList).map Value.bool = _
        rw [List.toList_toArray, List.toList_toArray, eqItem wf1 wf2, decide_eq_false hx]; rfl
      by_cases h0 : 0 < i
      · obtain ⟨j, hj⟩ : ∃ j, i = j + 1 := ⟨i - 1, by omega⟩
        obtain ⟨pb, po, p1, p2, pn, p3, p4⟩ := prev j hj
        have hsub : binV .no .sub (.int .i64 (i : Nat)) (.int .i64 1) = some (.int .i64 ((j : Nat) : Int)) := by
          rw [binV_int]; simp only [intV]; rw [wrap_id] <;> first | (congr 2; omega) | omega
        have hdec : decide (0 < i) = true := decide_eq_true h0
        simp only [lt_neg, lt_zero, ge_neg, ge_zero, Mpu_some, Mif_bool, Mif_undef, if_true, if_false, Bool.true_eq_false, Bool.false_eq_true, J1_eq, pickV_bool, Mcd_bool, f0, f1, f2, q0, q1, q2, binV_str, s1, s2, hgt, hdec, b_step3, wix, hwld, hne, hinc, hsub, p1, p2, p3, p4, ix1, ix2, r1, r2, heq]
        exact fin
      · have hdec : decide (0 < i) = false := decide_eq_false h0
        simp only [lt_neg, lt_zero, ge_neg, ge_zero, Mpu_some, Mif_bool, Mif_undef, if_true, if_false, Bool.true_eq_false, Bool.false_eq_true, J1_eq, pickV_bool, Mcd_bool, f0, f1, f2, q0, q1, q2, binV_str, s1, s2, hgt, hdec, b_step3, wix, hwld, hne, hinc, ix1, ix2, r1, r2, heq]
        exact fin
  · rw [if_neg (by simp [hlt])]
    exact hk _ _ kh
end Go.Proofs.YtmhfanpijdgkjaaDoor
/- HistoryDiffs: the law's walk. -/
namespace Go.Proofs.YtmhfanpijdgkjaaDoor
open Go.X Go.X.Diff
set_option maxRecDepth 100000

theorem b_rec {a a' : Option Addr} {n c n' c' : Nat} : buildV prg T_history_Record [(1, .slice a n c), (2, .slice a' n' c')] = some (.agg (recC 0 (.slice a n c) (.slice a' n' c') 0 zeroH).toArray) := by kernel_rfl
theorem b_recI {P Q : Nat → Prop} {H H' : Heap} {v w : Value} {xs ys : List Item} (hv : Items P H v xs) (hw : Items Q H' w ys) : buildV prg T_history_Record [(1, v), (2, w)] = some (.agg (recC 0 v w 0 zeroH).toArray) := by
  obtain ⟨a, c, rfl⟩ := hv.slice
  obtain ⟨a', c', rfl⟩ := hw.slice
  exact b_rec

theorem small_len {xs ys : List Item} (h : smallB xs ys = true) : xs.length ≤ 20 ∧ ys.length ≤ 20 := by
  unfold smallB at h; simp only [Bool.and_eq_true, decide_eq_true_eq] at h; exact h.2
set_option maxHeartbeats 1000000 in
theorem c_HistoryDiffs {P Q : Nat → Prop} {H : Heap} {v w : Value} {xs ys : List Item} (hv : Items P H v xs) (hw : Items Q H w ys) (hP : ∀ b, P b → b < H.size) (hQ : ∀ b, Q b → b < H.size)
    (hl : xs.length ≤ 9223372036854775807) (hl2 : ys.length ≤ 9223372036854775807) (hT : PowT H) (hS : ShaT H) :
    HCalls prg f_syngraphlaw22_HistoryDiffs [v, w] H fun u H' => u = .bool true ∧ Keep (fun _ => False) H H' := by
  apply sh_syngraphlaw22_HistoryDiffs_calls
  unfold sh_syngraphlaw22_HistoryDiffs
  rw [b_recI hv hw, Mpu_some]
  refine call_i (c_smallR hv hw (by simp [zeroH]) hl hl2) ?_
  rintro _ h1 ⟨rfl, k1⟩
  have kF : ∀ {h h' : Heap}, Keep (fun _ => False) h h' → ∀ b, False → NG ≤ b := fun _ _ h => h.elim
  simp only [unV_not, Mpu_some, Mcd_bool]
  by_cases hs : smallB xs ys = true
  case neg =>
    rw [if_pos (by simp [hs])]
    refine call_i (c_awake22 (hS.keep k1 fun _ h => h.elim) (hT.keep k1 fun _ h => h.elim)) ?_
    rintro _ h2 ⟨rfl, k2⟩
    exact ⟨rfl, k1.trans k2⟩
  rw [if_neg (by simp [hs])]
  obtain ⟨m1, m2⟩ := small_len hs
  refine J2_i (fun t5 _ h => t5 = .bool (decide (Ris Item.name xs) && decide (Ris Item.name ys)) ∧ Keep (fun _ => False) H h) (fun k3 hk3 => ?_) ?_
  · rw [bsl_items hv hw, Mnews_some]
    generalize hH2 : h1.push (.cells #[v, w] T_S_history_Item (0, 0)) = h2
    have k2 : Keep (fun _ => False) h1 h2 := by rw [← hH2]; exact Keep.push
    have hq2 : h2[h1.size]? = some (.cells [v, w].toArray T_S_history_Item (0, 0)) := by rw [← hH2]; exact push_new
    have el : lenV (.slice (some ⟨h1.size, 0, none⟩) 2 2) = some (.int .i64 (2 : Nat)) := rfl
    rw [el, Mpu_some]
    refine L2_i (fun t u h => h2 = h ∧ ∃ i : Nat, u = .int .i64 (i : Nat) ∧ ((i = 0 ∧ t = .bool true) ∨ (i = 1 ∧ t = .bool (decide (Ris Item.name xs))) ∨ (i = 2 ∧ t = .bool (decide (Ris Item.name xs) && decide (Ris Item.name ys))))) (fun _ u _ => match u with | .int _ t => 2 - t.toNat | _ => 0) ⟨rfl, 0, rfl, .inl ⟨rfl, rfl⟩⟩ ?_
    rintro _ _ _ ⟨rfl, i, rfl, hi⟩ k6 hk6
    have ktot : Keep (fun _ => False) H h2 := k1.trans k2
    rcases hi with ⟨rfl, rfl⟩ | ⟨rfl, rfl⟩ | ⟨rfl, rfl⟩
    · have e : binV .no .lss (.int .i64 ((0 : Nat) : Int)) (.int .i64 ((2 : Nat) : Int)) = some (.bool true) := rfl
      rw [e, Mpu_some, Mcd_bool, if_pos rfl]
      refine J2_i (fun t _ h => t = .bool (decide (Ris Item.name xs)) ∧ h2 = h) (fun k8 hk8 => ?_) ?_
      · have hix : ixS 1 (.slice (some ⟨h1.size, 0, none⟩) 2 2) (.int .i64 ((0 : Nat) : Int)) = some (Ptr h1.size 0) := rfl
        have hld : ld1 h2 (Ptr h1.size 0) = some v := ld_l hq2 rfl
        rw [hix, Mpu_some, hld, Mpu_some, hv.len, Mpu_some]
        exact rise_loop (b := true) (hv.keep ktot fun _ _ => id) hl fun i => hk8 _ _ _ ⟨by rw [Bool.true_and], rfl⟩
      rintro _ _ _ ⟨rfl, rfl⟩
      rw [add_one (n := 0) (by omega), Mpu_some]
      exact hk6 _ _ _ ⟨rfl, 1, rfl, .inr (.inl ⟨rfl, rfl⟩)⟩ (by decide)
    · have e : binV .no .lss (.int .i64 ((1 : Nat) : Int)) (.int .i64 ((2 : Nat) : Int)) = some (.bool true) := rfl
      rw [e, Mpu_some, Mcd_bool, if_pos rfl]
      refine J2_i (fun t _ h => t = .bool (decide (Ris Item.name xs) && decide (Ris Item.name ys)) ∧ h2 = h) (fun k8 hk8 => ?_) ?_
      · have hix : ixS 1 (.slice (some ⟨h1.size, 0, none⟩) 2 2) (.int .i64 ((1 : Nat) : Int)) = some (Ptr h1.size 1) := rfl
        have hld : ld1 h2 (Ptr h1.size 1) = some w := ld_l hq2 rfl
        rw [hix, Mpu_some, hld, Mpu_some, hw.len, Mpu_some]
        exact rise_loop (b := decide (Ris Item.name xs)) (hw.keep ktot fun _ _ => id) hl2 fun i => hk8 _ _ _ ⟨rfl, rfl⟩
      rintro _ _ _ ⟨rfl, rfl⟩
      rw [add_one (n := 1) (by omega), Mpu_some]
      exact hk6 _ _ _ ⟨rfl, 2, rfl, .inr (.inr ⟨rfl, rfl⟩)⟩ (by decide)
    · have e : binV .no .lss (.int .i64 ((2 : Nat) : Int)) (.int .i64 ((2 : Nat) : Int)) = some (.bool false) := rfl
      rw [e, Mpu_some, Mcd_bool, if_neg (by decide)]
      exact hk3 _ _ _ ⟨rfl, ktot⟩
  rintro _ _ h4 ⟨rfl, k4⟩
  refine call_i (c_Diff (hv.keep k4 fun _ _ => id) (hw.keep k4 fun _ _ => id) (fun b hb => Nat.lt_of_lt_of_le (hP b hb) k4.1) (fun b hb => Nat.lt_of_lt_of_le (hQ b hb) k4.1) (by omega) (by omega) (hT.keep k4 fun _ h => h.elim)) ?_
  rintro g h5 ⟨hg, k5⟩
  have k05 := k4.trans k5
  refine call_i (c_Diff (hw.keep k05 fun _ _ => id) (hv.keep k05 fun _ _ => id) (fun b hb => Nat.lt_of_lt_of_le (hQ b hb) k05.1) (fun b hb => Nat.lt_of_lt_of_le (hP b hb) k05.1) (by omega) (by omega) (hT.keep k05 fun _ h => h.elim)) ?_
  rintro g2 h6 ⟨hg2, k6⟩
  have k06 := k05.trans k6
  have sg := hg.sl.keep k6 fun _ _ => id
  have sg2 := hg2.sl
  have lg : lenV g = some (.int .i64 ((diffD xs ys).length : Nat)) := by have := sg.len; simpa using this
  have lg2 : lenV g2 = some (.int .i64 ((diffD ys xs).length : Nat)) := by have := sg2.len; simpa using this
  simp only [unV_not, Mpu_some, Mcd_bool, lg, lg2]
  by_cases hr : Ris Item.name xs ∧ Ris Item.name ys
  case neg =>
    have hd : (decide (Ris Item.name xs) && decide (Ris Item.name ys)) = false := by
      rw [Bool.and_eq_false_iff]; simp only [decide_eq_false_iff_not]
      exact Classical.or_iff_not_imp_left.2 fun h h2 => hr ⟨Classical.not_not.1 h, h2⟩
    have z1 : diffD xs ys = [] := if_neg hr
    have z2 : diffD ys xs = [] := if_neg fun h => hr ⟨h.2, h.1⟩
    have e0 : binV .no .eql (.int .i64 ((([] : List Step).length : Nat) : Int)) (.int .i64 0) = some (.bool true) := rfl
    rw [if_pos (by rw [hd]; rfl), z1, z2]
    simp only [e0, Mpu_some, Mif_bool, if_true]
    refine J1_i (fun u h => u = .bool true ∧ h6 = h) (fun k hk => hk _ _ ⟨rfl, rfl⟩) ?_
    rintro _ _ ⟨rfl, rfl⟩
    simp only [pickV_bool, if_true, Mpu_some, Mif_bool]
    refine J1_i (fun u h => u = .bool true ∧ Keep (fun _ => False) h6 h) (fun k hk => ?_) ?_
    · refine call_i (c_awake22 (hS.keep k06 fun _ h => h.elim) (hT.keep k06 fun _ h => h.elim)) ?_
      rintro _ h7 ⟨rfl, k7⟩
      exact hk _ _ ⟨rfl, k7⟩
    rintro _ h7 ⟨rfl, k7⟩
    simp only [pickV_bool, if_true, Mpu_some]
    exact ⟨by trivial, k06.trans k7⟩
  obtain ⟨r1, r2⟩ := hr
  have hd : diffD xs ys = diffF Item.name shI xs ys := if_pos ⟨r1, r2⟩
  have hd2 : diffD ys xs = (diffD xs ys).map Step.turn := by rw [hd, ← diff_turn]; exact if_pos ⟨r2, r1⟩
  have hlen : (diffD xs ys).length = xs.countP (cA ys) + ys.countP (cB xs) := by rw [hd]; exact diff_len xs ys r1 r2
  have hcA : xs.countP (cA ys) ≤ 20 := Nat.le_trans List.countP_le_length m1
  have hcB : ys.countP (cB xs) ≤ 20 := Nat.le_trans List.countP_le_length m2
  rw [if_neg (by simp [r1, r2])]
  have ne0 : ∀ n : Nat, binV .no .neq (.int .i64 (n : Nat)) (.int .i64 (n : Nat)) = some (.bool false) := fun n => by rw [binV_int]; simp [intV]
  refine J2_i (fun n _ h => n = .int .i64 (xs.countP (cA ys) : Nat) ∧ Keep (fun _ => False) h6 h) (fun k hk => ?_) ?_
  · rw [hv.len, Mpu_some]
    exact count_A (hv.keep k06 fun _ _ => id) (hw.keep k06 fun _ _ => id) (by omega) (by omega) fun i h' k' => hk _ _ _ ⟨rfl, k'⟩
  rintro _ _ h7 ⟨rfl, k7⟩
  have k07 := k06.trans k7
  refine J2_i (fun n _ h => n = .int .i64 ((xs.countP (cA ys) + ys.countP (cB xs) : Nat) : Int) ∧ Keep (fun _ => False) h7 h) (fun k hk => ?_) ?_
  · rw [hw.len, Mpu_some]
    exact count_B (by omega) (hv.keep k07 fun _ _ => id) (hw.keep k07 fun _ _ => id) (by omega) (by omega) fun i h' k' => hk _ _ _ ⟨rfl, k'⟩
  rintro _ _ h8 ⟨rfl, k8⟩
  have k08 := k07.trans k8
  rw [hd2, List.length_map, hlen]
  simp only [ne0, Mpu_some, Mif_bool, if_true]
  refine J1_i (fun u h => u = .bool false ∧ h8 = h) (fun k hk => hk _ _ ⟨rfl, rfl⟩) ?_
  rintro _ _ ⟨rfl, rfl⟩
  simp only [pickV_bool, Bool.false_eq_true, if_false, Mpu_some, Mcd_bool]
  refine J1_i (fun _ h => Keep (fun _ => False) h8 h) (fun k hk => ?_) ?_
  · have k68 := k7.trans k8
    have sw := sg2.keep k68 fun _ _ => id
    rw [hd2] at sw
    rw [← hlen]
    exact steps_loop (R := fun u H' => u = .bool true ∧ Keep (fun _ => False) H H') (hv.keep k08 fun _ _ => id) (hw.keep k08 fun _ _ => id) (sg.keep k68 fun _ _ => id) sw (by omega) (by omega) (by omega) (hT.keep k08 fun _ h => h.elim) (by rw [hd]; exact diff_sorted xs ys r1 r2) (by rw [hd]; exact diff_good xs ys r1 r2) fun u h' k' => hk _ _ k'
  rintro _ h9 k9
  refine call_i (c_awake22 (hS.keep (k08.trans k9) fun _ h => h.elim) (hT.keep (k08.trans k9) fun _ h => h.elim)) ?_
  rintro _ h10 ⟨rfl, k10⟩
  exact ⟨rfl, (k08.trans k9).trans k10⟩
end Go.Proofs.YtmhfanpijdgkjaaDoor
