/- JOINED: V160 V162 -/
import Derived.Test.YtanhgihfgmbojaaGreatDoorG6
import Derived.Test.YtanhgihfgmbojaaGreatDoorG5
set_option linter.unusedSimpArgs false
set_option linter.unusedVariables false
/- one cell of a row of an owned slice is written. -/
namespace Go.Proofs.YtanhgihfgmbojaaGreatDoor
open Go.X Go.X.Diff
set_option maxRecDepth 100000

theorem spl_one {c : Array Value} {o j n : Nat} {x : List Value} {w : Value} (hx : x.length = n) (hle : o + n ≤ c.size) (hj : j < n) (hc : (c.toList.drop o).take n = x) : spl c o (x.set j w).toArray = c.setIfInBounds (o + j) w := by
  apply Array.ext'
  rw [Array.toList_setIfInBounds]
  unfold spl
  show List.take o c.toList ++ x.set j w ++ List.drop (o + (x.set j w).toArray.size) c.toList = _
  have hsz : (x.set j w).toArray.size = n := by simp [hx]
  rw [hsz]
  have e : c.toList = List.take o c.toList ++ (x ++ List.drop (o + n) c.toList) := by
    rw [← hc, ← List.drop_drop, List.take_append_drop, List.take_append_drop]
  have hlt : (List.take o c.toList).length = o := by rw [List.length_take]; simp; omega
  conv => rhs; rw [e]
  rw [List.set_append_right _ _ (by rw [hlt]; omega), hlt, Nat.add_sub_cancel_left, List.set_append_left _ _ (by omega), List.append_assoc]
theorem _root_.Go.X.BufE.st {n : Nat} {F : Nat → Prop} {H : Heap} {v : Value} {xs : List (List Value)} (h : BufE n F H v xs) {i j : Nat} {x : List Value} (hi : xs[i]? = some x) (hj : j < n) {w : Value} (hw : w.oneCell' = true) :
    ∃ b o H', (∀ k, ixS n v (.int k i) = some (Ptr b o)) ∧ Pt H b o x ∧ st1 H (Ptr b (o + j)) w = some H' ∧ BufE n F H' v (xs.set i (x.set j w)) ∧ Keep F H H' := by
  obtain ⟨hlt, hxe⟩ := List.getElem?_eq_some_iff.1 hi
  have hxl : x.length = n := h.1 x (by rw [← hxe]; exact List.getElem_mem _)
  have hx1 : ∀ c ∈ x, c.oneCell' = true := h.2.1 x (by rw [← hxe]; exact List.getElem_mem _)
  have h1 : ∀ c ∈ x.set j w, c.oneCell' = true := fun c hc => by
    rcases List.mem_or_eq_of_mem_set hc with hc | rfl
    · exact hx1 c hc
    · exact hw
  obtain ⟨p, H', hip, hst, hb, hk⟩ := h.set hlt (x := x.set j w) (by simp [hxl]) h1
  obtain ⟨b, o, hib, hpt, _⟩ := h.sl.at hi
  have hpe : p = Ptr b o := Option.some.inj ((hip .i64).symm.trans (hib .i64))
  subst hpe
  refine ⟨b, o, H', hib, hpt, ?_, hb, hk⟩
  obtain ⟨c, T, f, hbb, hle, hc⟩ := hpt
  simp only [stN] at hst
  rw [if_pos (by simp [hxl])] at hst
  unfold stA at hst
  rw [hbb] at hst
  simp only at hst
  split at hst
  · rename_i hcnd
    obtain ⟨c1, c2, c3⟩ := hcnd
    simp only [st1, hbb]
    have hth : thaw f (o + j) 1 = true := by
      unfold thaw at c2 ⊢
      simp only [List.size_toArray, List.length_set, hxl, Bool.or_eq_true, decide_eq_true_eq] at c2 ⊢
      omega
    rw [if_pos ⟨by omega, hth, hw⟩, ← hst]
    rw [hxl] at hc hle
    rw [spl_one hxl hle hj hc]
  · cases hst
/- MAPS -/
theorem makeMap_i {P : Program} {T : TypeId} {H : Heap} {k : Value → Heap → Prop} (hk : k (.map (some H.size)) (H.push (.map #[] 0))) : Msem P (Instr.makeMap T none) H k := fun w hw => by
  subst hw
  refine ⟨.map (some w.heap.size), { w with heap := w.heap.push (.map #[] 0) }, ?_, ⟨rfl, rfl, rfl, Solid.push⟩, hk⟩
  simp [Instr.makeMap]
/-- a map at block q that holds these keys and values, in the order of their coming -/
def MapAt (H : Heap) (q : Nat) (es : List (Value × Value)) : Prop := ∃ (arr : Array MapEntry) (clock : Nat), H[q]? = some (.map arr clock) ∧ arr.toList.map (fun e => (e.key, e.val)) = es
theorem MapAt.keep {H H' : Heap} {q : Nat} {es : List (Value × Value)} {S : Nat → Prop} (h : MapAt H q es) (k : Keep S H H') (hs : ¬ S q) : MapAt H' q es := by
  obtain ⟨a, c, h1, h2⟩ := h
  exact ⟨a, c, k.at h1 hs, h2⟩
theorem MapAt.new {H : Heap} : MapAt (H.push (.map #[] 0)) H.size [] := ⟨#[], 0, push_new, rfl⟩
end Go.Proofs.YtanhgihfgmbojaaGreatDoor

/- manifests that have files: are they right? -/
namespace Go.Proofs.YtanhgihfgmbojaaGreatDoor
open Go.X Go.X.Diff
set_option maxRecDepth 100000
set_option linter.unusedSimpArgs false
set_option linter.unusedVariables false

def underF (a b : List UInt8) : Bool := decide (a = b) || (decide ((b ++ [47]).length ≤ a.length) && decide (a.take (b ++ [47]).length = b ++ [47]))
theorem c_under {H : Heap} {a b : List UInt8} (hb : b.length ≤ 1048576) : HCalls prg f_manifest_under [str a, str b] H fun u H' => u = .bool (underF a b) ∧ Keep (fun _ => False) H H' := by
  apply sh_manifest_under_calls
  unfold sh_manifest_under
  have e := fun q => str_eql (q := q) (a := a) (b := b)
  have s : (Value.string ⟨#[47]⟩) = str [47] := rfl
  rw [e, Mpu_some, s]
  unfold underF
  cases h : decide (a = b)
  · simp only [J1_eq, Mif_bool, if_true, Bool.false_or]
    rw [str_app (by simp; omega), Mpu_some]
    refine call_i (R := fun u H' => u = .bool (decide ((b ++ [47]).length ≤ a.length) && decide (a.take (b ++ [47]).length = b ++ [47])) ∧ H = H') ?_ ?_
    · apply sh_strings_HasPrefix_calls
      unfold sh_strings_HasPrefix
      refine call_i c_HasPrefix ?_
      rintro _ _ ⟨rfl, rfl⟩
      exact ⟨rfl, rfl⟩
    · rintro _ _ ⟨rfl, rfl⟩
      simp only [pickV_bool, Bool.false_eq_true, if_false, Mpu_some]
      exact ⟨by trivial, Keep.refl⟩
  · simp only [J1_eq, Mif_bool, Bool.true_eq_false, if_false, pickV_bool, if_true, Mpu_some, Bool.true_or]
    exact ⟨by trivial, Keep.refl⟩

def fnL : List UInt8 := [97, 98, 99, 100, 101, 102, 103, 104, 105, 106, 107, 108, 109, 110, 111, 112, 113, 114, 115, 116, 117, 118, 119, 120, 121, 122, 48, 49, 50, 51, 52, 53, 54, 55, 56, 57, 46, 95, 45]
def fpartOk (w : List UInt8) : Bool := !decide (w = []) && !decide (w = [46]) && !decide (w = [46, 46]) && decide (trimL fnL (trimR fnL w) = [])
def fnOk (l : List UInt8) : Bool := !decide (l = []) && decide (l.length ≤ 64) && (splitF 47 l).all fpartOk
structure FnI (H : Heap) (l : List UInt8) (j : Nat) (h : Heap) : Prop where
  a : At h H.size [.bool false]
  ok : ((splitF 47 l).take j).all fpartOk = true
  k : Keep (fun _ => False) H h
theorem FnI.keep {H : Heap} {l : List UInt8} {j : Nat} {h h' : Heap} {S : Nat → Prop} (p : FnI H l j h) (k : Keep S h h') (hs : ∀ b, S b → H.size < b) : FnI H l j h' :=
  ⟨p.a.keep k fun hS => by have := hs _ hS; omega, p.ok, p.k.fresh k fun b hb => by have := hs b hb; omega⟩
theorem z_bool' : zcells prg T_bool = some [Value.bool false].toArray := by kernel_rfl
set_option maxHeartbeats 2000000 in
theorem c_filesName {H : Heap} {l : List UInt8} : HCalls prg f_files_Name [str l] H fun u H' => u = .bool (fnOk l) ∧ Keep (fun _ => False) H H' := by
  apply sh_files_Name_calls
  unfold sh_files_Name
  simp only [z_bool', Mnew_some]
  generalize hH1 : H.push (.cells [Value.bool false].toArray T_bool (0, 0)) = H1
  have k1 : Keep (fun _ => False) H H1 := by rw [← hH1]; exact Keep.push
  have a1 : At H1 H.size [.bool false] := by rw [← hH1]; exact At.push
  have s1 : H1.size = H.size + 1 := by rw [← hH1]; simp
  have s0 : (Value.string ⟨#[]⟩) = str [] := rfl
  have s47 : (Value.string ⟨#[47]⟩) = str [47] := rfl
  have s46 : (Value.string ⟨#[46]⟩) = str [46] := rfl
  have s446 : (Value.string ⟨#[46, 46]⟩) = str [46, 46] := rfl
  have sfn : (Value.string ⟨#[97, 98, 99, 100, 101, 102, 103, 104, 105, 106, 107, 108, 109, 110, 111, 112, 113, 114, 115, 116, 117, 118, 119, 120, 121, 122, 48, 49, 50, 51, 52, 53, 54, 55, 56, 57, 46, 95, 45]⟩) = str fnL := rfl
  have e0 := fun q => str_eql (q := q) (a := l) (b := [])
  have e64 : binV .no .gtr (.int .i64 (l.length : Nat)) (.int .i64 64) = some (.bool (decide (l.length > 64))) := gt_dec
  rw [s0, s47, s46, s446, sfn, e0, Mpu_some]
  have no : ∀ h, At h H.size [.bool false] → Keep (fun _ => False) H h → fnOk l = false → Mwr (st1 h (Ptr H.size 0) (.bool false)) fun h4 => Mcl H.size h4 fun h5 => Mpu (ld1 h5 (Ptr H.size 0)) fun r6 => r6 = .bool (fnOk l) ∧ Keep (fun _ => False) H h5 := fun h a kh hf => by
    obtain ⟨h4, st4, a4, k4⟩ := a.st1 (i := 0) (v := .bool false) (by simp) rfl
    rw [st4, Mwr_some]
    refine mcl_i fun h5 hc => ?_
    have d : ld1 h5 (Ptr H.size 0) = some (.bool false) := (a4.closed hc).ld rfl
    rw [d, Mpu_some]
    exact ⟨by rw [hf], keep_closed (kh.fresh k4 fun b hb => by omega) hc⟩
  cases hnil : decide (l = [])
  rotate_left
  · simp only [J1_eq, Mif_bool, Bool.true_eq_false, if_false, pickV_bool, if_true, Mpu_some, Mcd_bool]
    exact no H1 a1 k1 (by unfold fnOk; rw [hnil]; rfl)
  refine J1_eq.2 ?_
  rw [Mif_bool, if_pos rfl, lenT_str, Mpu_some, e64, Mpu_some]
  cases h64 : decide (l.length > 64)
  rotate_left
  · simp only [pickV_bool, if_true, Bool.false_eq_true, if_false, Mpu_some, Mcd_bool]
    exact no H1 a1 k1 (by unfold fnOk; rw [hnil, decide_eq_false (show ¬ l.length ≤ 64 by have := of_decide_eq_true h64; omega)]; rfl)
  have hl : l.length ≤ 64 := by have := of_decide_eq_false h64; omega
  have hfo : fnOk l = (splitF 47 l).all fpartOk := by unfold fnOk; rw [hnil, decide_eq_true hl]; rfl
  rw [pickV_bool, if_neg (by decide), Mpu_some, Mcd_bool, if_neg (by decide)]
  refine call_i c_SplitSeq ?_
  rintro _ h5 ⟨qs, qp, qn, rfl, hst, hq, k5⟩
  have g5 := k5.1
  have k05 := k1.trans k5
  have inv0 : FnI H l 0 h5 := ⟨a1.keep k5 id, rfl, k05⟩
  have hxl : ((splitF 47 l).map fun x => [str x]).length = (splitF 47 l).length := by simp
  refine range_i (xs := (splitF 47 l).map fun x => [str x]) (S := fun b => b = qs ∨ b = qp ∨ b = qn) (W := fun b => b = H.size ∨ h5.size + 2 ≤ b) (St := SplitSt qs qp qn l 47)
    (split_iter (by omega)) (fun o o' => ?_) k05.1
    (FnI H l) (fun c h => c = .ret ∧ (splitF 47 l).all fpartOk = false ∧ At h H.size [.bool false] ∧ Keep (fun _ => False) H h) inv0
    (fun i h h' hI k => hI.keep k fun b hb => ?_) (fun c h h' hX k => ?_) (fun b hb => (hq b hb).2) (fun b hb => ?_) ?_ ?_ ?_
  · have kp : Keep (fun _ => False) h5 ((h5.push o).push o') := Keep.push.trans Keep.push
    exact ⟨hst.s.keep kp id, hst.p.keep kp id, hst.n.keep kp id, hst.ne⟩
  · rcases hb with hb | rfl | rfl
    · have := hq b hb; omega
    · omega
    · omega
  · obtain ⟨rfl, x0, x1, x4⟩ := hX
    have nb : ∀ b, (b = qs ∨ b = qp ∨ b = qn) ∨ b = h5.size ∨ b = h5.size + 1 → H.size < b := fun b hb => by
      rcases hb with hb | rfl | rfl
      · have := hq b hb; omega
      · omega
      · omega
    exact ⟨rfl, x0, x1.keep k fun hb => by have := nb _ hb; omega, x4.fresh k fun b hb => by have := nb b hb; omega⟩
  · refine ⟨by omega, by omega, fun hbq => ?_⟩
    have := hq b hbq; omega
  · intro j x h r hx hI hloop hready K hN hEx
    obtain ⟨y, hy, rfl⟩ : ∃ y, (splitF 47 l)[j]? = some y ∧ x = [str y] := by
      rw [List.getElem?_map] at hx
      obtain ⟨y, h1, h2⟩ := Option.map_eq_some_iff.1 hx
      exact ⟨y, h1, h2.symm⟩
    refine ⟨rfl, r, hloop, hready, ?_⟩
    have hsz := lt_of hloop
    generalize hhb : h.setIfInBounds (h5.size + 1) (.loop { r with state := .busy }) = hb at *
    have kb : Keep (· = h5.size + 1) h hb := by rw [← hhb]; exact Keep.set rfl
    have gb := kb.1
    have hI := hI.keep kb fun b hb => by omega
    have hmem : y ∈ splitF 47 l := List.mem_of_getElem? hy
    have hyl := splitF_len hmem
    have htk : (splitF 47 l).take (j + 1) = (splitF 47 l).take j ++ [y] := by rw [List.take_add_one, hy]; rfl
    have bad : ∀ h', Keep (fun _ => False) hb h' → fpartOk y = false → Mwr (st1 h' (Ptr H.size 0) (.bool false)) fun h21 => K (some Code.ret) h21 := fun h' k' hf => by
      obtain ⟨h12, st12, a12, k12⟩ := (hI.a.keep k' id).st1 (i := 0) (v := .bool false) (by simp) rfl
      rw [st12, Mwr_some]
      have kW : Keep (fun b => b = H.size ∨ h5.size + 2 ≤ b) hb h12 := (k'.mono fun _ _ h => h.elim).trans (k12.mono fun b _ h => .inl h)
      exact hEx _ h12 kW ⟨rfl, List.all_eq_false.2 ⟨y, hmem, by simp [hf]⟩, a12, hI.k.fresh kW fun b hb' => by omega⟩
    have good : ∀ h', Keep (fun _ => False) hb h' → fpartOk y = true → K none h' := fun h' k' hf => by
      refine hN h' (k'.mono fun _ _ h => h.elim) ⟨hI.a.keep k' id, ?_, hI.k.trans k'⟩
      rw [htk, List.all_append, hI.ok]; simp [hf]
    have q0 := fun q => str_eql (q := q) (a := y) (b := [])
    have q1 := fun q => str_eql (q := q) (a := y) (b := [46])
    have q2 := fun q => str_eql (q := q) (a := y) (b := [46, 46])
    show Mpu (binV .no .eql (str y) (str [])) _
    rw [q0, Mpu_some]
    cases p0 : decide (y = [])
    rotate_left
    · simp only [J1_eq, Mif_bool, Bool.true_eq_false, if_false, pickV_bool, if_true, Mpu_some, Mcd_bool]
      exact bad hb Keep.refl (by unfold fpartOk; rw [p0]; rfl)
    refine J1_eq.2 ?_
    rw [Mif_bool, if_pos rfl]
    show Mpu (binV .no .eql (str y) (str [46])) _
    rw [q1, Mpu_some]
    cases p1 : decide (y = [46])
    rotate_left
    · simp only [J1_eq, Mif_bool, Bool.true_eq_false, Bool.false_eq_true, if_false, pickV_bool, if_true, Mpu_some, Mcd_bool]
      exact bad hb Keep.refl (by unfold fpartOk; rw [p0, p1]; rfl)
    rw [pickV_bool, if_neg (by decide), Mpu_some]
    refine J1_eq.2 ?_
    rw [Mif_bool, if_pos rfl]
    show Mpu (binV .no .eql (str y) (str [46, 46])) _
    rw [q2, Mpu_some]
    cases p2 : decide (y = [46, 46])
    rotate_left
    · simp only [J1_eq, Mif_bool, Bool.true_eq_false, Bool.false_eq_true, if_false, pickV_bool, if_true, Mpu_some, Mcd_bool]
      exact bad hb Keep.refl (by unfold fpartOk; rw [p0, p1, p2]; rfl)
    rw [pickV_bool, if_neg (by decide), Mpu_some]
    refine J1_eq.2 ?_
    rw [Mif_bool, if_pos rfl]
    show Mcall prg f_strings_Trim [str y, str fnL] hb _
    refine call_i (c_Trim (cs := fnL) (by decide) (by decide) (by decide) (by omega)) ?_
    rintro _ h19 ⟨rfl, k19⟩
    have q3 : binV .no .neq (str (trimL fnL (trimR fnL y))) (str []) = some (.bool (!decide (trimL fnL (trimR fnL y) = []))) := str_neq
    rw [q3, Mpu_some]
    show Mpu (pickV (.bool false) (.bool true) (.bool (!decide (trimL fnL (trimR fnL y) = [])))) _
    rw [pickV_bool, if_neg (by decide), Mpu_some, Mcd_bool]
    have hpo : fpartOk y = decide (trimL fnL (trimR fnL y) = []) := by unfold fpartOk; rw [p0, p1, p2]; rfl
    cases p3 : decide (trimL fnL (trimR fnL y) = [])
    · rw [if_pos (show (!false) = true from rfl)]
      exact bad h19 k19 (by rw [hpo, p3])
    · rw [if_neg (show ¬ (!true) = true by decide)]
      exact good h19 k19 (by rw [hpo, p3])
  · intro h hsz hI
    refine .inl ⟨rfl, ?_⟩
    rw [hxl] at hI
    obtain ⟨h22, st22, a22, k22⟩ := hI.a.st1 (i := 0) (v := .bool true) (by simp) rfl
    have hok := hI.ok
    rw [List.take_of_length_le (Nat.le_refl _)] at hok
    show Mwr (st1 h (Ptr H.size 0) (.bool true)) _
    rw [st22, Mwr_some]
    refine mcl_i fun h23 hc => ?_
    have d : ld1 h23 (Ptr H.size 0) = some (.bool true) := (a22.closed hc).ld rfl
    show Mpu (ld1 h23 (Ptr H.size 0)) _
    rw [d, Mpu_some]
    exact ⟨by rw [hfo, hok], keep_closed (hI.k.fresh k22 fun b hb => by omega) hc⟩
  · rintro c h hsz ⟨rfl, x0, x1, x4⟩
    refine .inr ⟨rfl, ?_⟩
    refine mcl_i fun h25 hc => ?_
    have d : ld1 h25 (Ptr H.size 0) = some (.bool false) := (x1.closed hc).ld rfl
    show Mpu (ld1 h25 (Ptr H.size 0)) _
    rw [d, Mpu_some]
    exact ⟨by rw [hfo, x0], keep_closed x4 hc⟩
end Go.Proofs.YtanhgihfgmbojaaGreatDoor

