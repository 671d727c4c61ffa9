/- versions shown; records: right, in bytes. -/
import Derived.Test.YtmhfanpijdgkjaaDoorV9
namespace Go.Proofs.YtmhfanpijdgkjaaDoor
open Go.X
set_option maxRecDepth 100000

def decF (n : Nat) : List UInt8 := if n < 10 then [digit n] else decF (n / 10) ++ [digit (n % 10)]
theorem smallF_dec {n : Nat} (h : n < 100) : smallF n = decF n := by
  unfold smallF
  rw [decF]
  split
  · rfl
  · rw [decF, if_pos (by omega)]; rfl
/-- Itoa tells these numbers in digits -/
def ItoaOk (l : List Int) : Prop := ∀ n ∈ l, 0 ≤ n → n ≤ 999999 → ∀ H, HCalls prg f_strconv_Itoa [.int .i64 n] H fun u H' => u = str (decF n.toNat) ∧ Keep (fun _ => False) H H'
theorem c_ItoaSmall {n : Nat} (hn : n < 100) {H : Heap} : HCalls prg f_strconv_Itoa [.int .i64 n] H fun u H' => u = str (decF n) ∧ Keep (fun _ => False) H H' := by
  apply sh_strconv_Itoa_calls
  unfold sh_strconv_Itoa
  refine call_i (R := fun u H' => u = str (decF n) ∧ Keep (fun _ => False) H H') ?_ fun u h hR => hR
  apply sh_internal_strconv_Itoa_calls
  unfold sh_internal_strconv_Itoa
  refine call_i (R := fun u H' => u = str (decF n) ∧ Keep (fun _ => False) H H') ?_ fun u h hR => hR
  apply sh_internal_strconv_FormatInt_calls
  unfold sh_internal_strconv_FormatInt
  have e1 : ((10 : Int) == 10) = true := rfl
  have e2 : (0 : Int) ≤ n := by omega
  have e3 : (n : Int) < 100 := by omega
  simp only [binV_int, intV, Mpu_some, Mcd_bool, e1, if_true, J1_eq, Mif_bool, e2, e3, decide_true, pickV_bool]
  refine call_i (c_small hn) ?_
  rintro _ _ ⟨rfl, rfl⟩
  exact ⟨by rw [smallF_dec hn], Keep.refl⟩

def showF (v : Ver) : List UInt8 := if verOk v then joinF [46] (v.p.map fun n => decF n.toNat) ++ (if v.pre = [] then [] else 45 :: v.pre) else []
theorem bslS {s : ByteArray} : bslV prg T_string 1 [(0, .string s)] = some #[.string s] := by kernel_rfl

theorem decF_len {n : Nat} (h : n < 1000000) : (decF n).length ≤ 6 := by
  rw [decF]; split; · simp
  rw [decF]; split; · simp
  rw [decF]; split; · simp
  rw [decF]; split; · simp
  rw [decF]; split; · simp
  rw [decF]; split; · simp
  omega
theorem partOk_iff {n : Int} (h : partOk n = true) : 0 ≤ n ∧ n ≤ 999999 := by
  simp only [partOk, Bool.not_eq_true', Bool.or_eq_false_iff, decide_eq_false_iff_not] at h; omega

theorem c_Show {H : Heap} {v : Ver} (hv : v.wf) (hI : ItoaOk v.p) : HCalls prg f_version_Version_Show [.agg (verC v).toArray] H fun u H' => u = str (showF v) ∧ Keep (fun _ => False) H H' := by
  apply sh_version_Version_Show_calls
  unfold sh_version_Version_Show
  simp only [Cells_agg, Mnew_some]
  generalize hH1 : H.push (.cells (verC v).toArray T_version_Version (0, 0)) = H1
  have k1 : Keep (fun _ => False) H H1 := by rw [← hH1]; exact Keep.push
  have hq1 : H1[H.size]? = some (.cells (verC v).toArray T_version_Version (0, 0)) := by rw [← hH1]; exact push_new
  have hld : ldN 4 H1 (Ptr H.size 0) = some (.agg (verC v).toArray) := ldN_mid (A := []) (B := verC v) (C := []) (by rw [List.nil_append, List.append_nil]; exact hq1) rfl (verC_len hv).symm
  simp only [hld, Mpu_some]
  refine call_i (c_VerRight hv) ?_
  rintro _ H2 ⟨rfl, k2⟩
  have hq2 := k2.at hq1 id
  simp only [unV_not, Mpu_some, Mcd_bool]
  by_cases hok : verOk v = true
  · rw [if_neg (by rw [hok]; decide)]
    have hparts : ∀ n ∈ v.p, 0 ≤ n ∧ n ≤ 999999 := fun n hn => partOk_iff (List.all_eq_true.1 (by unfold verOk at hok; simp only [Bool.and_eq_true] at hok; exact hok.1) n hn)
    have hpre16 : v.pre.length ≤ 16 := by
      unfold verOk preOk at hok; simp only [Bool.and_eq_true, decide_eq_true_eq] at hok; exact hok.2.1
    have hld3 : ldN 3 H2 (Ptr H.size 0) = some (.agg (icells .i64 v.p).toArray) := ldN_mid (A := []) (B := icells .i64 v.p) (C := [str v.pre]) (by rw [List.nil_append]; exact hq2) rfl (by simp [hv.p3])
    simp only [fld_ptr, Mpu_some, Nat.zero_add, hld3]
    refine J2_i (fun u _ h => BufE 1 (H2.size ≤ ·) h u (strs (v.p.map fun n => decF n.toNat)) ∧ Keep (fun _ => False) H2 h) (fun k hk => ?_) ?_
    · refine L2_i (fun u i h => ∃ j : Nat, j ≤ 3 ∧ i = .int .i64 (j : Nat) ∧ BufE 1 (H2.size ≤ ·) h u (strs ((v.p.take j).map fun n => decF n.toNat)) ∧ Keep (H2.size ≤ ·) H2 h) (fun _ i _ => match i with | .int _ t => 3 - t.toNat | _ => 0)
        ⟨0, by omega, rfl, BufE.nil, Keep.refl⟩ ?_
      rintro u _ h ⟨j, hj, rfl, hu, kh⟩ k' hk'
      simp only [binV_int, intV, Mpu_some, Mcd_bool, decide_eq_true_eq]
      by_cases hlt : (j : Int) < 3
      · rw [if_pos hlt]
        have hlt' : j < v.p.length := by rw [hv.p3]; omega
        have hg : v.p[j]? = some v.p[j] := List.getElem?_eq_getElem hlt'
        have hm : v.p[j] ∈ v.p := List.getElem_mem _
        have hix : ixV 3 false 1 (.agg (icells .i64 v.p).toArray) (.int .i64 (j : Nat)) = some (.int .i64 v.p[j]) := by
          simp only [ixV]; rw [if_pos ⟨by omega, by omega⟩]
          simpa using icells_get (k := .i64) hg
        have hinc : IntKind.i64.wrap ((j : Int) + 1) = (j + 1 : Nat) := by rw [wrap_id] <;> omega
        obtain ⟨n0, n1⟩ := hparts _ hm
        simp only [hix, Mpu_some, hinc]
        refine call_i (hI _ hm n0 n1 h) ?_
        rintro _ h3 ⟨rfl, k3⟩
        simp only [bslS, Mnews_some]
        have kp : Keep (fun _ => False) h3 (h3.push (.cells #[str (decF v.p[j].toNat)] T_string (0, 0))) := Keep.push
        have hx : SlE 1 (· = h3.size) (h3.push (.cells #[str (decF v.p[j].toNat)] T_string (0, 0))) (.slice (some ⟨h3.size, 0, none⟩) 1 1) (strs [decF v.p[j].toNat]) :=
          ⟨⟨_, 1, rfl, Nat.le_refl _, .inr ⟨h3.size, 0, rfl, rfl, by rw [rows1_flat]; exact Pt.of push_new⟩⟩, rows1_el, rows1_one fun v hv => by simp at hv; subst hv; rfl⟩
        refine ((hu.keep k3 fun _ _ => id).keep kp fun _ _ => id).app hx (by omega) (by simp; omega) (by have := kh.1; have := k3.1; simp; omega) fun x h4 hx4 k4 => ?_
        refine hk' _ _ _ ⟨j + 1, by omega, rfl, ?_, kh.trans ((k3.mono fun _ _ h => h.elim).trans ((kp.mono fun _ _ h => h.elim).trans k4))⟩ (by show 3 - (j + 1) < 3 - j; omega)
        have : strs ((v.p.take (j + 1)).map fun n => decF n.toNat) = strs ((v.p.take j).map fun n => decF n.toNat) ++ strs [decF v.p[j].toNat] := by
          rw [show v.p.take (j + 1) = v.p.take j ++ [v.p[j]] by rw [List.take_add_one, hg]; rfl, List.map_append]; simp [strs, rows1]
        rw [this]; exact hx4
      · rw [if_neg hlt]
        obtain rfl : j = 3 := by omega
        rw [List.take_of_length_le (by rw [hv.p3]; omega)] at hu
        exact hk _ _ _ ⟨hu, kh.1, fun i hi _ => kh.2 i hi (by omega)⟩
    · rintro u _ h3 ⟨hu, k3⟩
      have hsl := hu.sl
      have htot : total (v.p.map fun n => decF n.toNat) ≤ 18 := by
        obtain ⟨p, pre⟩ := v
        have hp3 := hv.p3
        simp only at hp3 hparts ⊢
        match p, hp3 with
        | [a, b, c], _ =>
          have l1 := decF_len (n := a.toNat) (by have := hparts a (by simp); omega)
          have l2 := decF_len (n := b.toNat) (by have := hparts b (by simp); omega)
          have l3 := decF_len (n := c.toNat) (by have := hparts c (by simp); omega)
          simp [total]; omega
      refine call_i (c_Join (P := fun b => H2.size ≤ b ∧ b < h3.size) (sep := [46]) (l := v.p.map fun n => decF n.toNat) ?_ (fun b hb => hb.2) (by simp [hv.p3]) (by simp) (by omega)) ?_
      · refine ⟨?_, hsl.el, hsl.one⟩
        obtain ⟨a, c, hve, hc, hx⟩ := hsl.ex
        exact ⟨a, c, hve, hc, hx.imp id fun ⟨b, o, e, hb, hpt⟩ => ⟨b, o, e, ⟨hb, hpt.lt⟩, hpt⟩⟩
      rintro _ h4 ⟨rfl, k4⟩
      have hq4 := k4.at (k3.at hq2 id) id
      have d3 : ld1 h4 (Ptr H.size 3) = some (str v.pre) := ld_l hq4 (by
        unfold verC
        rw [List.getElem?_append_right (by simp [hv.p3])]
        simp [hv.p3])
      have kk := k1.trans (k2.trans (k3.trans k4))
      have ene : strV .neq ⟨v.pre.toArray⟩ ⟨#[]⟩ = some (.bool (!decide (v.pre = []))) := strV_ne (b := [])
      have hjl : (joinF [46] (v.p.map fun n => decF n.toNat)).length ≤ 100 := by
        have h3l : (v.p.map fun n => decF n.toNat).length = 3 := by simp [hv.p3]
        generalize (v.p.map fun n => decF n.toNat) = L at *
        match L, h3l with
        | [a, b, c], _ => simp [joinF, total] at *; omega
      simp only [d3, Mpu_some, binV_str, ene, J1_eq, Mcd_bool]
      by_cases hpe : v.pre = []
      · rw [if_neg (by simp [hpe])]
        refine ⟨?_, kk⟩
        unfold showF
        rw [hok, hpe]; simp
      · rw [if_pos (by simp [hpe])]
        have ea : strV .add ⟨#[45]⟩ ⟨v.pre.toArray⟩ = some (str ([45] ++ v.pre)) := strV_add (a := [45]) (by simp; omega)
        rw [ea, Mpu_some]
        have ea2 : binV .no .add (str (joinF [46] (v.p.map fun n => decF n.toNat))) (str ([45] ++ v.pre)) = some (str (joinF [46] (v.p.map fun n => decF n.toNat) ++ ([45] ++ v.pre))) := by
          rw [binV_str]; exact strV_add (by simp; omega)
        rw [ea2, Mpu_some]
        refine ⟨?_, kk⟩
        unfold showF
        rw [hok]; simp [hpe]
  · rw [if_pos (by rw [eq_false_of_ne_true hok]; rfl)]
    refine ⟨?_, k1.trans k2⟩
    unfold showF
    rw [if_neg hok]

/- heads and records -/
def headOk (s : Int) : Bool := decide (s ≥ 0) && decide (s ≤ 1048576)
theorem c_HeadRight {H : Heap} {s : Int} {r : List UInt8} : HCalls prg f_head_Head_Right [.agg (Value.int .i64 s :: bcells r).toArray] H fun u H' => u = .bool (headOk s) ∧ Keep (fun _ => False) H H' := by
  apply sh_head_Head_Right_calls
  unfold sh_head_Head_Right
  simp only [Cells_agg, Mnew_some]
  have hq : (H.push (.cells (Value.int .i64 s :: bcells r).toArray T_head_Head (0, 0)))[H.size]? = some (.cells (Value.int .i64 s :: bcells r).toArray T_head_Head (0, 0)) := push_new
  have d0 : ld1 (H.push (.cells (Value.int .i64 s :: bcells r).toArray T_head_Head (0, 0))) (Ptr H.size 0) = some (.int .i64 s) := ld_l hq rfl
  simp only [fld_ptr, Mpu_some, Nat.zero_add, d0, binV_int, intV, J1_eq, Mif_bool, decide_eq_true_eq]
  unfold headOk
  by_cases h : s ≥ 0
  · simp only [h, decide_true, if_true, pickV_bool, Mpu_some, Bool.true_and]; exact ⟨by trivial, Keep.push⟩
  · simp only [h, decide_false, if_false, pickV_bool, Mpu_some, Bool.false_and, Bool.false_eq_true]; exact ⟨by trivial, Keep.push⟩

def recC (k : Int) (vb va : Value) (s : Int) (r : List UInt8) : List Value := [Value.int .i64 k, vb, va, Value.int .i64 s] ++ bcells r
theorem recC_len {k s : Int} {vb va : Value} {r : List UInt8} (h : r.length = 32) : (recC k vb va s r).length = 36 := by simp [recC, h]
theorem Items.one {P : Nat → Prop} {H : Heap} {v : Value} {xs : List Item} (h : Items P H v xs) : v.oneCell' = true := h.1.oneC
theorem recC_one {P Q : Nat → Prop} {H H2 : Heap} {k s : Int} {vb va : Value} {xs ys : List Item} {r : List UInt8} (hb : Items P H vb xs) (ha : Items Q H2 va ys) : ∀ c ∈ recC k vb va s r, c.oneCell' = true := by
  intro c hc
  simp only [recC, List.mem_append, List.mem_cons, List.not_mem_nil, or_false] at hc
  rcases hc with (rfl | rfl | rfl | rfl) | hc
  · rfl
  · exact hb.one
  · exact ha.one
  · rfl
  · exact bcells_one c hc
structure RecA where
  k : Int
  bef : List Item
  aft : List Item
  s : Int
  r : List UInt8
def recOk (a : RecA) : Bool := decide (a.k ≥ 1) && decide (a.k ≤ 4) && itemsOk a.bef && itemsOk a.aft && headOk a.s

theorem c_RecRight {P : Nat → Prop} {H : Heap} {vb va : Value} {a : RecA} (hb : Items P H vb a.bef) (ha : Items P H va a.aft) (hP : ∀ b, P b → b < H.size) (hr : a.r.length = 32) (hl : a.bef.length ≤ 1099511627776) (hl2 : a.aft.length ≤ 1099511627776) :
    HCalls prg f_history_Record_Right [.agg (recC a.k vb va a.s a.r).toArray] H fun u H' => u = .bool (recOk a) ∧ Keep (fun _ => False) H H' := by
  apply sh_history_Record_Right_calls
  unfold sh_history_Record_Right
  simp only [Cells_agg, Mnew_some]
  generalize hH1 : H.push (.cells (recC a.k vb va a.s a.r).toArray T_history_Record (0, 0)) = H1
  have k1 : Keep (fun _ => False) H H1 := by rw [← hH1]; exact Keep.push
  have hq1 : H1[H.size]? = some (.cells (recC a.k vb va a.s a.r).toArray T_history_Record (0, 0)) := by rw [← hH1]; exact push_new
  have d0 : ld1 H1 (Ptr H.size 0) = some (.int .i64 a.k) := ld_l hq1 rfl
  have d1 : ld1 H1 (Ptr H.size 1) = some vb := ld_l hq1 rfl
  simp only [fld_ptr, Mpu_some, Nat.zero_add, d0, d1, binV_int, intV, J1_eq, Mif_bool, decide_eq_true_eq]
  have hP1 : ∀ b, P b → b < H1.size := fun b hb => Nat.lt_of_lt_of_le (hP b hb) k1.1
  unfold recOk
  by_cases h1 : a.k ≥ 1
  · by_cases h4 : a.k ≤ 4
    · simp only [h1, h4, decide_true, if_true, pickV_bool, Mpu_some, Mif_bool, Bool.true_and]
      refine call_i (c_items (hb.keep k1 fun _ _ => id) hP1 hl) ?_
      rintro _ h2 ⟨rfl, k2⟩
      have hq2 := k2.at hq1 id
      have d2 : ld1 h2 (Ptr H.size 2) = some va := ld_l hq2 rfl
      by_cases hxb : itemsOk a.bef = true
      · simp only [hxb, pickV_bool, if_true, Mpu_some, Mif_bool, d2, Bool.true_and]
        refine call_i (c_items ((ha.keep k1 fun _ _ => id).keep k2 fun _ _ => id) (fun b hb => Nat.lt_of_lt_of_le (hP1 b hb) k2.1) hl2) ?_
        rintro _ h3 ⟨rfl, k3⟩
        have hq3 := k3.at hq2 id
        have d3 : ldN 33 h3 (Ptr H.size 3) = some (.agg (Value.int .i64 a.s :: bcells a.r).toArray) := ldN_mid (A := [Value.int .i64 a.k, vb, va]) (B := Value.int .i64 a.s :: bcells a.r) (C := []) (by rw [List.append_nil]; exact hq3) rfl (by simp [hr])
        by_cases hxa : itemsOk a.aft = true
        · simp only [hxa, pickV_bool, if_true, Mpu_some, Mif_bool, d3, Bool.true_and]
          refine call_i c_HeadRight ?_
          rintro _ h4 ⟨rfl, k4⟩
          exact ⟨by trivial, k1.trans (k2.trans (k3.trans k4))⟩
        · simp only [eq_false_of_ne_true hxa, pickV_bool, Bool.false_eq_true, if_false, Mpu_some, Mif_bool, Bool.false_and]
          exact ⟨by trivial, k1.trans (k2.trans k3)⟩
      · simp only [eq_false_of_ne_true hxb, pickV_bool, Bool.false_eq_true, if_false, Mpu_some, Mif_bool, Bool.false_and]
        exact ⟨by trivial, k1.trans k2⟩
    · simp only [h1, h4, decide_true, decide_false, if_true, pickV_bool, Bool.false_eq_true, if_false, Mpu_some, Mif_bool, Bool.false_and, Bool.true_and]
      exact ⟨by trivial, k1⟩
  · simp only [h1, decide_false, pickV_bool, Bool.false_eq_true, if_false, Mpu_some, Mif_bool, Bool.false_and]
    exact ⟨by trivial, k1⟩

/- bytes -/
def itemB (x : Item) : List UInt8 := textB x.name ++ textB (showF x.ver) ++ x.sum
def putB (xs : List Item) : List UInt8 := numB xs.length 8 ++ (xs.map itemB).flatten
theorem put_take {xs : List Item} {i : Nat} {x : Item} (h : xs[i]? = some x) : ((xs.take (i + 1)).map itemB).flatten = ((xs.take i).map itemB).flatten ++ itemB x := by
  obtain ⟨hlt, rfl⟩ := List.getElem?_eq_some_iff.1 h
  rw [show xs.take (i + 1) = xs.take i ++ [xs[i]] by rw [List.take_add_one, List.getElem?_eq_getElem hlt]; rfl, List.map_append, List.flatten_append]; simp
theorem put_le {xs : List Item} {i : Nat} : (((xs.take i).map itemB).flatten).length ≤ ((xs.map itemB).flatten).length := by
  conv => rhs; rw [← List.take_append_drop i xs, List.map_append, List.flatten_append, List.length_append]
  omega
theorem textB_len {l : List UInt8} : (textB l).length = 4 + l.length := by simp [textB]

theorem c_put {F P : Nat → Prop} {p : Nat} {H : Heap} {l : List UInt8} {v : Value} {xs : List Item} (h : OutAt F p H l) (hv : Items P H v xs) (hP : ∀ b, P b → b < H.size ∧ ¬ Wr F p b) (hI : ∀ x ∈ xs, ItoaOk x.ver.p)
    (hl : l.length + (putB xs).length ≤ 140737488355328) (hn : xs.length ≤ 1099511627776) (hf : ∀ b, H.size ≤ b → F b) :
    HCalls prg f_history_put [Ptr p 0, v] H fun u H' => u = .tuple #[] ∧ OutAt F p H' (l ++ putB xs) ∧ Keep (Wr F p) H H' := by
  apply sh_history_put_calls
  unfold sh_history_put
  obtain ⟨z, hz, hzl⟩ := z_Item
  have hpl : (putB xs).length = 8 + ((xs.map itemB).flatten).length := by simp [putB]
  simp only [hv.len, Mpu_some, hz, Mnew_some]
  refine call_i (c_Out_Int h xs.length (by omega) hf) ?_
  rintro _ h1 ⟨rfl, ho, k1⟩
  refine L1_i (fun u h => ∃ i : Nat, i ≤ xs.length ∧ u = .int .i64 (i : Nat) ∧ OutAt F p h (l ++ numB xs.length 8 ++ ((xs.take i).map itemB).flatten) ∧ Keep (Wr F p) H h) (fun u _ => match u with | .int _ t => xs.length - t.toNat | _ => 0)
    ⟨0, Nat.zero_le _, rfl, by simpa using ho, k1⟩ ?_
  rintro _ h ⟨i, hi, rfl, hoi, kh⟩ k hk
  simp only [binV_int, intV, Mpu_some, Mcd_bool, decide_eq_true_eq]
  by_cases hlt : (i : Int) < xs.length
  · rw [if_pos hlt]
    have hlt' : i < xs.length := by omega
    have hg : xs[i]? = some xs[i] := List.getElem?_eq_getElem hlt'
    have hIx := hI xs[i] (List.getElem_mem _)
    obtain ⟨hwf, b, o, hix, hpt, hpb⟩ := (hv.keep kh fun b hb => (hP b hb).2).at hg
    have hinc : IntKind.i64.wrap ((i : Int) + 1) = (i + 1 : Nat) := by rw [wrap_id] <;> omega
    have hle := put_le (xs := xs) (i := i + 1)
    rw [put_take hg, List.length_append] at hle
    have htk := put_take hg
    generalize hx : xs[i] = x at *
    have hil : (itemB x).length = (4 + x.name.length) + (4 + (showF x.ver).length) + 32 := by simp [itemB, textB_len, hwf.sum]; omega
    have hpush : (h.push (.cells z.toArray T_history_Item (0, 0)))[h.size]? = some (.cells z.toArray T_history_Item (0, 0)) := push_new
    have hst := stN_mid (n := 37) (o := 0) (A := []) (B := z) (C := []) (B' := itemC x) (by rw [List.nil_append, List.append_nil]; exact hpush) rfl (by simp [hzl]) (itemC_len hwf) (all_of itemC_one)
    rw [List.nil_append, List.append_nil] at hst
    simp only [hix, Mpu_some, hpt.agg (itemC_len hwf), hst, Mwr_some]
    generalize hH2 : (h.push (.cells z.toArray T_history_Item (0, 0))).setIfInBounds h.size (.cells (itemC x).toArray T_history_Item (0, 0)) = h2
    have k2 : Keep (fun _ => False) h h2 := by
      rw [← hH2]
      refine ⟨by simp, fun j hj _ => ?_⟩
      rw [Array.getElem?_setIfInBounds, if_neg (by omega), Array.getElem?_push, if_neg (by omega)]
    have hs2 : h2.size = h.size + 1 := by rw [← hH2]; simp
    have hq : h2[h.size]? = some (.cells (itemC x).toArray T_history_Item (0, 0)) := by rw [← hH2]; exact set_self hpush
    have hpne : h.size ≠ p := by obtain ⟨_, v, h2, _⟩ := hoi; have := lt_of h2; omega
    have hnW : ¬ Wr (fun b => F b ∧ b ≠ h.size) p h.size := fun h => h.elim (fun h => h.2 rfl) hpne
    have d0 : ∀ g, Keep (Wr (fun b => F b ∧ b ≠ h.size) p) h2 g → ld1 g (Ptr h.size 0) = some (str x.name) ∧ ldN 4 g (Ptr h.size 1) = some (.agg (verC x.ver).toArray) ∧ ldN 32 g (Ptr h.size 5) = some (bv x.sum) := fun g kg => by
      have hqg := kg.at hq hnW
      refine ⟨ld_l hqg rfl, ldN_mid (A := [str x.name]) (B := verC x.ver) (C := bcells x.sum) (by rw [← item_shape hwf]; exact hqg) rfl (verC_len hwf.ver).symm, ?_⟩
      exact ldN_mid (A := [str x.name] ++ verC x.ver) (B := bcells x.sum) (C := []) (by rw [List.append_nil, ← item_shape hwf]; exact hqg) (by simp [verC_len hwf.ver]) (by simp [hwf.sum])
    obtain ⟨e0, e1, e5⟩ := d0 h2 Keep.refl
    have hf' : ∀ g : Heap, h2.size ≤ g.size → ∀ b, g.size ≤ b → F b ∧ b ≠ h.size := fun g hg b hb => ⟨hf b (by have := kh.1; omega), by omega⟩
    simp only [fld_ptr, Mpu_some, Nat.zero_add, e0, e1, e5]
    have ho2 := hoi.avoid.keep k2 fun _ _ => id
    have hlb : (l ++ numB xs.length 8 ++ ((xs.take i).map itemB).flatten).length = l.length + 8 + (((xs.take i).map itemB).flatten).length := by simp only [List.length_append, numB_len]
    refine call_i (c_Out_Text ho2 (by omega) (hf' h2 (Nat.le_refl _))) ?_
    rintro _ h3 ⟨rfl, ho3, k3⟩
    obtain ⟨_, e1', e5'⟩ := d0 h3 k3
    simp only [Mre_cons, Mre_nil, e1', e5', true_and]
    refine call_i (c_Show hwf.ver hIx) ?_
    rintro _ h4 ⟨rfl, k4⟩
    have k24 : Keep (Wr (fun b => F b ∧ b ≠ h.size) p) h2 h4 := k3.trans (k4.mono fun _ _ h => h.elim)
    obtain ⟨_, _, e54⟩ := d0 h4 k24
    simp only [e54, true_and]
    refine call_i (c_Out_Text (ho3.keep k4 fun _ _ => id) (by rw [List.length_append, hlb, textB_len]; omega) (hf' h4 k24.1)) ?_
    rintro _ h5 ⟨rfl, ho5, k5⟩
    have k25 := k24.trans k5
    obtain ⟨_, _, e55⟩ := d0 h5 k25
    simp only [e55, true_and, hinc]
    refine call_i (c_Out_Hash ho5 hwf.sum (by rw [List.length_append, List.length_append, hlb, textB_len, textB_len]; omega) (hf' h5 k25.1)) ?_
    rintro _ h6 ⟨rfl, ho6, k6⟩
    refine hk _ _ ⟨i + 1, hlt', rfl, ?_, kh.trans ((k2.mono fun _ _ h => h.elim).trans ((k25.trans k6).mono fun b _ h => h.imp (fun h => h.1) id))⟩ (by show xs.length - (i + 1) < xs.length - i; omega)
    rw [htk]
    have := ho6.mono (fun b h => h.1) hoi.1
    simpa only [itemB, List.append_assoc] using this
  · rw [if_neg hlt]
    obtain rfl : i = xs.length := by omega
    rw [List.take_length] at hoi
    exact ⟨by trivial, by unfold putB; rw [← List.append_assoc]; exact hoi, kh⟩

end Go.Proofs.YtmhfanpijdgkjaaDoor
