/- versions, items: are they right? -/
import Derived.Test.YtmhfanpijdgkjaaDoorV8
import Derived.Test.YtmhfanpijdgkjaaDoorV5
namespace Go.Proofs.YtmhfanpijdgkjaaDoor
open Go.X
set_option maxRecDepth 100000

structure Ver where
  p : List Int
  pre : List UInt8
structure Item where
  name : List UInt8
  ver : Ver
  sum : List UInt8
def verC (v : Ver) : List Value := icells .i64 v.p ++ [str v.pre]
def itemC (x : Item) : List Value := str x.name :: (verC x.ver ++ bcells x.sum)
structure Ver.wf (v : Ver) : Prop where
  p3 : v.p.length = 3
  pre : v.pre.length ≤ 140737488355328
structure Item.wf (x : Item) : Prop where
  ver : x.ver.wf
  sum : x.sum.length = 32
  name : x.name.length ≤ 140737488355328
theorem verC_len {v : Ver} (h : v.wf) : (verC v).length = 4 := by simp [verC, h.p3]
theorem itemC_len {x : Item} (h : x.wf) : (itemC x).length = 37 := by simp [itemC, verC_len h.ver, h.sum]
theorem verC_one {v : Ver} : ∀ c ∈ verC v, c.oneCell' = true := by
  intro c hc
  simp only [verC, List.mem_append, List.mem_singleton] at hc
  rcases hc with hc | rfl
  · exact icells_one c hc
  · rfl
theorem itemC_one {x : Item} : ∀ c ∈ itemC x, c.oneCell' = true := by
  intro c hc
  simp only [itemC, List.mem_cons, List.mem_append] at hc
  rcases hc with rfl | hc | hc
  · rfl
  · exact verC_one c hc
  · exact bcells_one c hc
theorem all_of {l : List Value} (h : ∀ c ∈ l, c.oneCell' = true) : l.toArray.all (·.oneCell') = true := by
  rw [Array.all_eq_true_iff_forall_mem]; intro v hv; exact h v (by simpa using hv)

def partOk (n : Int) : Bool := !(decide (n < 0) || decide (n > 999999))
def preOk (l : List UInt8) : Bool := decide (l.length ≤ 16) && decide (∀ x ∈ l, az09L.contains x = true)
def verOk (v : Ver) : Bool := v.p.all partOk && preOk v.pre

theorem c_VerRight {H : Heap} {v : Ver} (hv : v.wf) : HCalls prg f_version_Version_Right [.agg (verC v).toArray] H fun u H' => u = .bool (verOk v) ∧ Keep (fun _ => False) H H' := by
  apply sh_version_Version_Right_calls
  unfold sh_version_Version_Right
  obtain ⟨p, pre⟩ := v
  obtain ⟨hp, hpre⟩ := hv
  simp only at hp hpre
  match p, hp with
  | [a, b, c], _ =>
    simp only [Cells_agg, Mnew_some]
    generalize hH1 : H.push (.cells (verC ⟨[a, b, c], pre⟩).toArray T_version_Version (0, 0)) = H1
    have k1 : Keep (fun _ => False) H H1 := by rw [← hH1]; exact Keep.push
    have hq : H1[H.size]? = some (.cells (verC ⟨[a, b, c], pre⟩).toArray T_version_Version (0, 0)) := by rw [← hH1]; exact push_new
    have hld : ldN 3 H1 (Ptr H.size 0) = some (.agg (icells .i64 [a, b, c]).toArray) := ldN_mid (A := []) (B := icells .i64 [a, b, c]) (C := [str pre]) (by rw [List.nil_append]; exact hq) rfl rfl
    have d3 : ld1 H1 (Ptr H.size 3) = some (str pre) := ld_l hq rfl
    simp only [fld_ptr, Mpu_some, Nat.zero_add, hld, J1_eq]
    refine L1_i (fun u h => ∃ i : Nat, i ≤ 3 ∧ u = .int .i64 (i : Nat) ∧ ([a, b, c].take i).all partOk = true ∧ H1 = h) (fun u _ => match u with | .int _ t => 3 - t.toNat | _ => 0) ⟨0, by omega, rfl, rfl, rfl⟩ ?_
    rintro _ _ ⟨i, hi, rfl, hall, rfl⟩ k hk
    simp only [binV_int, intV, Mpu_some, Mcd_bool, decide_eq_true_eq]
    by_cases hlt : (i : Int) < 3
    · rw [if_pos hlt]
      have hlt' : i < 3 := by omega
      obtain ⟨x, hx⟩ : ∃ x, [a, b, c][i]? = some x := ⟨[a, b, c][i], List.getElem?_eq_getElem (by simpa using hlt')⟩
      have hix : ixV 3 false 1 (.agg (icells .i64 [a, b, c]).toArray) (.int .i64 (i : Nat)) = some (.int .i64 x) := by
        simp only [ixV]; rw [if_pos ⟨by omega, by omega⟩]
        simpa using icells_get (k := .i64) hx
      have hinc : IntKind.i64.wrap ((i : Int) + 1) = (i + 1 : Nat) := by rw [wrap_id] <;> omega
      have htk : ([a, b, c].take (i + 1)).all partOk = (partOk x) := by
        rw [List.take_add_one, hx, List.all_append, hall]; simp
      simp only [hix, Mpu_some, binV_int, intV, Mif_bool, pickV_bool, hinc]
      have fin : (if partOk x = true then k (.int .i64 (i + 1 : Nat)) H1 else (Value.bool false = .bool (verOk ⟨[a, b, c], pre⟩) ∧ Keep (fun _ => False) H H1)) := by
        by_cases hox : partOk x = true
        · rw [if_pos hox]
          exact hk _ _ ⟨i + 1, hlt', rfl, by rw [htk, hox], rfl⟩ (by show 3 - (i + 1) < 3 - i; omega)
        · rw [if_neg hox]
          refine ⟨?_, k1⟩
          unfold verOk
          have : [a, b, c].all partOk = false := by
            rw [List.all_eq_false]
            exact ⟨x, List.mem_of_getElem? hx, hox⟩
          rw [this]; rfl
      unfold partOk at fin
      by_cases h1 : x < 0
      · simpa [h1] using fin
      · by_cases h2 : x > 999999
        · simpa [h1, h2] using fin
        · simpa [h1, h2] using fin
    · rw [if_neg hlt]
      obtain rfl : i = 3 := by omega
      have hall : [a, b, c].all partOk = true := hall
      simp only [d3, Mpu_some, lenT_str, binV_int, intV, Mif_bool, decide_eq_true_eq]
      by_cases h16 : (pre.length : Int) ≤ 16
      · have h16' : pre.length ≤ 16 := by omega
        simp only [h16, decide_true, if_true]
        refine call_i (c_Trim (cs := az09L) (by decide) (by decide) (by decide) hpre) ?_
        rintro _ h2 ⟨rfl, k2⟩
        have e3 : strV .eql ⟨(trimL az09L (trimR az09L pre)).toArray⟩ ⟨#[]⟩ = some (.bool (decide (trimL az09L (trimR az09L pre) = []))) := strV_eq (b := [])
        have e4 : decide (trimL az09L (trimR az09L pre) = []) = decide (∀ y ∈ pre, az09L.contains y = true) := by rw [decide_eq_decide]; exact trim_nil
        simp only [binV_str, e3, e4, Mpu_some, pickV_bool, if_true]
        refine ⟨?_, k1.trans k2⟩
        unfold verOk preOk
        rw [hall, decide_eq_true h16']; simp
      · have h16' : ¬ pre.length ≤ 16 := by omega
        simp only [h16, decide_false, Bool.false_eq_true, if_false, pickV_bool, Mpu_some]
        refine ⟨?_, k1⟩
        unfold verOk preOk
        rw [decide_eq_false h16']; simp

/- items -/
def Items (P : Nat → Prop) (H : Heap) (v : Value) (xs : List Item) : Prop := SlE 37 P H v (xs.map itemC) ∧ ∀ x ∈ xs, x.wf
theorem Items.keep {P S : Nat → Prop} {H H' : Heap} {v : Value} {xs : List Item} (h : Items P H v xs) (k : Keep S H H') (hs : ∀ b, P b → ¬ S b) : Items P H' v xs := ⟨h.1.keep k hs, h.2⟩
theorem Items.len {P : Nat → Prop} {H : Heap} {v : Value} {xs : List Item} (h : Items P H v xs) : lenV v = some (.int .i64 xs.length) := by have := h.1.len; simpa using this
theorem Items.at {P : Nat → Prop} {H : Heap} {v : Value} {xs : List Item} (h : Items P H v xs) {i : Nat} {x : Item} (hi : xs[i]? = some x) : x.wf ∧ ∃ b o, (∀ k, ixS 37 v (.int k i) = some (Ptr b o)) ∧ Pt H b o (itemC x) ∧ P b :=
  ⟨h.2 x (List.mem_of_getElem? hi), h.1.at (by simp [hi])⟩
theorem item_shape {x : Item} (h : x.wf) : itemC x = [str x.name] ++ (verC x.ver) ++ (bcells x.sum) := rfl

def lessB (a b : List UInt8) : Bool := Op.bytesLess a b
def itemAt (xs : List Item) (i : Nat) : Bool := match xs[i]? with
  | some x => nameOk x.name && verOk x.ver && (match xs[i - 1]? with | some y => decide (i = 0) || lessB y.name x.name | none => true)
  | none => true
def itemsOk (xs : List Item) : Bool := (List.range xs.length).all (itemAt xs) && decide (xs.length ≤ 256)
theorem z_Item : ∃ z : List Value, zcells prg T_history_Item = some z.toArray ∧ z.length = 37 := by
  have h : (match zcells prg T_history_Item with | some z => z.size == 37 | none => false) = true := by kernel_rfl
  split at h
  · rename_i z hz; exact ⟨z.toList, by simp [hz], by simpa using h⟩
  · cases h
theorem strV_geq {a b : List UInt8} : strV .geq ⟨a.toArray⟩ ⟨b.toArray⟩ = some (.bool (!lessB a b)) := by simp only [strV, toList_mk]; rfl

theorem c_items {P : Nat → Prop} {H : Heap} {v : Value} {xs : List Item} (hv : Items P H v xs) (hP : ∀ b, P b → b < H.size) (hl : xs.length ≤ 1099511627776) :
    HCalls prg f_history_items [v] H fun u H' => u = .bool (itemsOk xs) ∧ Keep (fun _ => False) H H' := by
  apply sh_history_items_calls
  unfold sh_history_items
  obtain ⟨z, hz, hzl⟩ := z_Item
  simp only [hv.len, Mpu_some, J1_eq, hz, Mnew_some]
  refine L1_i (fun u h => ∃ i : Nat, i ≤ xs.length ∧ u = .int .i64 (i : Nat) ∧ (List.range i).all (itemAt xs) = true ∧ Keep (fun _ => False) H h) (fun u _ => match u with | .int _ t => xs.length - t.toNat | _ => 0) ⟨0, Nat.zero_le _, rfl, rfl, Keep.refl⟩ ?_
  rintro _ h ⟨i, hi, rfl, hall, kh⟩ k hk
  simp only [binV_int, intV, Mpu_some, Mcd_bool, decide_eq_true_eq]
  by_cases hlt : (i : Int) < xs.length
  · rw [if_pos hlt]
    have hlt' : i < xs.length := by omega
    have hg : xs[i]? = some xs[i] := List.getElem?_eq_getElem hlt'
    have hvh := hv.keep kh fun _ _ => id
    obtain ⟨hwf, b, o, hix, hpt, hpb⟩ := hvh.at hg
    have hinc : IntKind.i64.wrap ((i : Int) + 1) = (i + 1 : Nat) := by rw [wrap_id] <;> omega
    have hbad : itemAt xs i = false → (Value.bool false = .bool (itemsOk xs)) := fun hb => by
      unfold itemsOk
      have : (List.range xs.length).all (itemAt xs) = false := by
        rw [List.all_eq_false]; exact ⟨i, by simpa using hlt', by simp [hb]⟩
      rw [this]; rfl
    have hgood : itemAt xs i = true → (List.range (i + 1)).all (itemAt xs) = true := fun hb => by
      rw [List.range_succ, List.all_append, hall]; simp [hb]
    generalize hx : xs[i] = x at *
    have hpush : (h.push (.cells z.toArray T_history_Item (0, 0)))[h.size]? = some (.cells z.toArray T_history_Item (0, 0)) := push_new
    have hst := stN_mid (n := 37) (o := 0) (A := []) (B := z) (C := []) (B' := itemC x) (by rw [List.nil_append, List.append_nil]; exact hpush) rfl (by simp [hzl]) (itemC_len hwf) (all_of itemC_one)
    rw [List.nil_append, List.append_nil] at hst
    simp only [hix, Mpu_some, hpt.agg (itemC_len hwf), hst, Mwr_some]
    generalize hH2 : (h.push (.cells z.toArray T_history_Item (0, 0))).setIfInBounds h.size (.cells (itemC x).toArray T_history_Item (0, 0)) = h2
    have k2 : Keep (fun _ => False) h h2 := by
      rw [← hH2]
      refine ⟨by simp, fun j hj _ => ?_⟩
      rw [Array.getElem?_setIfInBounds, if_neg (by omega), Array.getElem?_push, if_neg (by omega)]
    have hq : h2[h.size]? = some (.cells (itemC x).toArray T_history_Item (0, 0)) := by rw [← hH2]; exact set_self hpush
    have d0 : ld1 h2 (Ptr h.size 0) = some (str x.name) := ld_l hq rfl
    simp only [fld_ptr, Mpu_some, Nat.zero_add, d0]
    refine call_i (c_Name hwf.name) ?_
    rintro _ h3 ⟨rfl, k3⟩
    have hq3 := k3.at hq id
    have dv : ldN 4 h3 (Ptr h.size 1) = some (.agg (verC x.ver).toArray) := ldN_mid (A := [str x.name]) (B := verC x.ver) (C := bcells x.sum) (by rw [← item_shape hwf]; exact hq3) rfl (verC_len hwf.ver).symm
    simp only [unV_not, Mpu_some, Mif_bool, dv]
    -- the second half
    have second : ∀ h4, Keep (fun _ => False) H h4 → (if nameOk x.name && verOk x.ver then
        (match xs[i - 1]? with | some y => decide (i = 0) || lessB y.name x.name | none => true) = true → k (.int .i64 (i + 1 : Nat)) h4 else True) := fun h4 k4 => by
      split
      · rename_i hnv
        intro hless
        refine hk _ _ ⟨i + 1, hlt', rfl, hgood ?_, k4⟩ (by show xs.length - (i + 1) < xs.length - i; omega)
        unfold itemAt
        simp only [hg, hnv, Bool.true_and]
        exact hless
      · trivial
    by_cases hn : nameOk x.name = true
    · simp only [hn, unV_not, Bool.not_true, Bool.not_false, Mif_bool, Mif_undef, pickV_bool, Mcd_bool, Mpu_some, if_true, if_false, Bool.false_eq_true, Bool.true_eq_false, binV_int, intV, decide_true, decide_false, decide_eq_true_eq, reduceCtorEq]
      refine call_i (c_VerRight hwf.ver) ?_
      rintro _ h4 ⟨rfl, k4⟩
      have k04 := kh.trans (k2.trans (k3.trans k4))
      by_cases hvo : verOk x.ver = true
      · simp only [hvo, unV_not, Bool.not_true, Bool.not_false, Mif_bool, Mif_undef, pickV_bool, Mcd_bool, Mpu_some, if_true, if_false, Bool.false_eq_true, Bool.true_eq_false, binV_int, intV, decide_true, decide_false, decide_eq_true_eq, reduceCtorEq]
        have hsec := second h4 k04
        rw [hn, hvo] at hsec
        simp only [Bool.and_self, if_true] at hsec
        by_cases hi0 : (i : Int) > 0
        · have hi1 : IntKind.i64.wrap ((i : Int) - 1) = ((i - 1 : Nat) : Int) := by rw [wrap_id] <;> omega
          have hg1 : xs[i - 1]? = some xs[i - 1] := List.getElem?_eq_getElem (by omega)
          obtain ⟨_, b1, o1, hix1, hpt1, _⟩ := (hv.keep k04 fun _ _ => id).at hg1
          have hq4 := k4.at hq3 id
          have d04 : ld1 h4 (Ptr h.size 0) = some (str x.name) := ld_l hq4 rfl
          have hf0 : fld 0 (Ptr b1 o1) = some (Ptr b1 o1) := rfl
          simp only [hi0, hi1, hix1, hf0, hpt1.cell0 rfl, d04, binV_str, strV_geq, hinc, unV_not, Bool.not_true, Bool.not_false, Mif_bool, Mif_undef, pickV_bool, Mcd_bool, Mpu_some, if_true, if_false, Bool.false_eq_true, Bool.true_eq_false, binV_int, intV, decide_true, decide_false, decide_eq_true_eq, reduceCtorEq]
          rw [hg1] at hsec
          by_cases hle : lessB xs[i - 1].name x.name = true
          · rw [if_neg (by rw [hle]; decide)]
            exact hsec (by simp [hle])
          · rw [if_pos (by rw [eq_false_of_ne_true hle]; rfl)]
            refine ⟨hbad ?_, k04⟩
            unfold itemAt
            rw [hg, hg1]
            have : decide (i = 0) = false := by simp; omega
            simp [this, eq_false_of_ne_true hle]
        · have hi0' : i = 0 := by omega
          simp only [hi0, hinc, unV_not, Bool.not_true, Bool.not_false, Mif_bool, Mif_undef, pickV_bool, Mcd_bool, Mpu_some, if_true, if_false, Bool.false_eq_true, Bool.true_eq_false, binV_int, intV, decide_true, decide_false, decide_eq_true_eq, reduceCtorEq]
          exact hsec (by split <;> simp [hi0'])
      · have hvo' := eq_false_of_ne_true hvo
        simp only [hvo', unV_not, Bool.not_true, Bool.not_false, Mif_bool, Mif_undef, pickV_bool, Mcd_bool, Mpu_some, if_true, if_false, Bool.false_eq_true, Bool.true_eq_false, binV_int, intV, decide_true, decide_false, decide_eq_true_eq, reduceCtorEq]
        refine ⟨hbad ?_, k04⟩
        unfold itemAt; rw [hg]; simp [hvo']
    · have hn' := eq_false_of_ne_true hn
      simp only [hn', unV_not, Bool.not_true, Bool.not_false, Mif_bool, Mif_undef, pickV_bool, Mcd_bool, Mpu_some, if_true, if_false, Bool.false_eq_true, Bool.true_eq_false, binV_int, intV, decide_true, decide_false, decide_eq_true_eq, reduceCtorEq]
      refine ⟨hbad ?_, kh.trans (k2.trans k3)⟩
      unfold itemAt; rw [hg]; simp [hn']
  · rw [if_neg hlt]
    obtain rfl : i = xs.length := by omega
    have e : (decide ((xs.length : Int) ≤ 256)) = decide (xs.length ≤ 256) := by rw [decide_eq_decide]; omega
    rw [e]
    refine ⟨?_, kh⟩
    unfold itemsOk
    rw [hall]; simp

end Go.Proofs.YtmhfanpijdgkjaaDoor
