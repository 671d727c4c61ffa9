/- JOINED: V163 V164 -/
import Derived.Test.YtanhgihfgmbojaaGreatDoorG8
import Derived.Test.YtanhgihfgmbojaaGreatDoorG7
set_option linter.unusedSimpArgs false
set_option linter.unusedVariables false
/- manifests: files, Right in general. -/
namespace Go.Proofs.YtanhgihfgmbojaaGreatDoor
open Go.X Go.X.Diff
set_option maxRecDepth 100000
set_option linter.unusedSimpArgs false
set_option linter.unusedVariables false

theorem ltNn {n m : Nat} : binV .no .lss (.int .i64 (n : Nat)) (.int .i64 (m : Nat)) = some (.bool (decide (n < m))) := by
  rw [binV_int]; simp only [intV]; congr 2; rw [decide_eq_decide]; omega
theorem gtNn {n m : Nat} : binV .no .gtr (.int .i64 (n : Nat)) (.int .i64 (m : Nat)) = some (.bool (decide (n > m))) := by
  rw [binV_int]; simp only [intV]; congr 2; rw [decide_eq_decide]; omega
theorem eqNn {n m : Nat} : binV .no .eql (.int .i64 (n : Nat)) (.int .i64 (m : Nat)) = some (.bool (decide (n = m))) := by
  rw [binV_int]; simp only [intV]; congr 2; rw [Bool.eq_iff_iff]; simp <;> omega
theorem neNn {n m : Nat} : binV .no .neq (.int .i64 (n : Nat)) (.int .i64 (m : Nat)) = some (.bool (!decide (n = m))) := by
  rw [binV_int]; simp only [intV]; congr 2; rw [Bool.eq_iff_iff]; simp <;> omega
theorem ltI {x y : Int} : binV .no .lss (.int .i64 x) (.int .i64 y) = some (.bool (decide (x < y))) := by rw [binV_int]; rfl
theorem gtI {x y : Int} : binV .no .gtr (.int .i64 x) (.int .i64 y) = some (.bool (decide (x > y))) := by rw [binV_int]; rfl
theorem range_bad {p : Nat → Bool} {n i : Nat} (hi : i < n) (h : p i = false) : (List.range n).all p = false := List.all_eq_false.2 ⟨i, List.mem_range.2 hi, by simp [h]⟩
theorem range_snoc {p : Nat → Bool} {i : Nat} (h : (List.range i).all p = true) (hb : p i = true) : (List.range (i + 1)).all p = true := by
  rw [List.range_succ, List.all_append, h]; simp [hb]

theorem c_fileName {H : Heap} {d : MFile} (hd : d.wf) : HCalls prg f_manifest_File_name [.agg (fileC d).toArray] H fun u H' => u = str d.name ∧ Keep (fun _ => False) H H' := by
  apply sh_manifest_File_name_calls
  unfold sh_manifest_File_name
  simp only [Cells_agg, Mnew_some]
  have a : At (H.push (.cells (fileC d).toArray T_manifest_File (0, 0))) H.size (fileC d) := At.push
  have d0 : ld1 (H.push (.cells (fileC d).toArray T_manifest_File (0, 0))) (Ptr H.size 0) = some (str d.name) := a.ld rfl
  rw [fld_ptr, Mpu_some, Nat.add_zero, d0, Mpu_some]
  exact ⟨rfl, Keep.push⟩
theorem c_riseFile {P : Nat → Prop} {H : Heap} {v : Value} {l : List MFile} (hv : SlE 34 P H v (l.map fileC)) (hw : ∀ d ∈ l, d.wf) (hl : l.length ≤ 1099511627776) :
    HCalls prg f_manifest_rising_manifest_File [v, .func (.func f_manifest_File_name) #[] #[]] H fun u H' => u = .bool (riseF (l.map (·.name))) ∧ Keep (fun _ => False) H H' := by
  apply sh_manifest_rising_manifest_File_calls
  unfold sh_manifest_rising_manifest_File
  have hlen := hv.len
  rw [List.length_map] at hlen
  have hln : (l.map (·.name)).length = l.length := by simp
  have hcall : ∀ (d : MFile) (h : Heap) (k : Value → Heap → Prop), d.wf → (∀ h', Keep (fun _ => False) h h' → k (str d.name) h') → Mcallv prg (.func (.func f_manifest_File_name) #[] #[]) [.agg (fileC d).toArray] h k := fun d h k hd hk =>
    .inl ⟨f_manifest_File_name, #[], #[], rfl, by kernel_rfl, HCalls.mono (R := fun u H' => u = str d.name ∧ Keep (fun _ => False) h H') (c_fileName hd) fun u h' hR => by obtain ⟨rfl, k'⟩ := hR; exact hk h' k'⟩
  refine J1_i (fun _ h => riseF (l.map (·.name)) = true ∧ Keep (fun _ => False) H h) (fun k hk => ?_) ?_
  · refine L1_i (fun u h => ∃ i : Nat, 1 ≤ i ∧ u = .int .i64 (i : Nat) ∧ (List.range (min i l.length)).all (riseAt (l.map (·.name))) = true ∧ Keep (fun _ => False) H h) (fun u _ => match u with | .int _ t => l.length - t.toNat | _ => 0) ⟨1, Nat.le_refl _, rfl, ?_, Keep.refl⟩ ?_
    · by_cases h0 : l.length = 0
      · rw [h0]; rfl
      · rw [Nat.min_eq_left (by omega)]; rfl
    rintro _ h ⟨i, hi, rfl, hall, kh⟩ k2 hk2
    rw [hlen, Mpu_some, ltNn, Mpu_some, Mcd_bool]
    by_cases hlt : i < l.length
    · rw [if_pos (by simpa using hlt)]
      have hg : l[i]? = some l[i] := List.getElem?_eq_getElem hlt
      have hg' : l[i - 1]? = some (l[i - 1]'(by omega)) := List.getElem?_eq_getElem (by omega)
      have hvh := hv.keep kh fun _ _ => id
      obtain ⟨b, o, hix, hpt, _⟩ := hvh.at (i := i) (x := fileC l[i]) (by rw [List.getElem?_map, hg]; rfl)
      obtain ⟨b', o', hix', hpt', _⟩ := hvh.at (i := i - 1) (x := fileC (l[i - 1]'(by omega))) (by rw [List.getElem?_map, hg']; rfl)
      have hwd := hw _ (List.getElem_mem hlt)
      have hwd' := hw _ (List.getElem_mem (show i - 1 < l.length by omega))
      have hra : riseAt (l.map (·.name)) i = lessB (l[i - 1]'(by omega)).name l[i].name := by
        have h0 : ((l.map (·.name)).getD (i - 1) []) = (l[i - 1]'(by omega)).name := by simp [List.getD, hg']
        have h1 : ((l.map (·.name)).getD i []) = l[i].name := by simp [List.getD, hg]
        unfold riseAt
        rw [h0, h1, decide_eq_false (by omega)]; rfl
      generalize l[i] = d at *
      generalize (l[i - 1]'(by omega)) = d' at *
      have e2 : binV .no .sub (.int .i64 (i : Nat)) (.int .i64 1) = some (.int .i64 ((i - 1 : Nat) : Int)) := by
        rw [binV_int]; simp only [intV]; rw [wrap_id (by omega) (by omega)]; congr 2; omega
      rw [e2, Mpu_some, hix' .i64, Mpu_some, hpt'.agg (fileC_len hwd'), Mpu_some, hix .i64, Mpu_some, hpt.agg (fileC_len hwd), Mpu_some]
      refine hcall d' h _ hwd' fun h5 k5 => ?_
      refine ⟨(hpt.keep k5 id).agg (fileC_len hwd), ?_⟩
      refine hcall d h5 _ hwd fun h6 k6 => ?_
      have hge : binV .no .geq (str d'.name) (str d.name) = some (.bool (!lessB d'.name d.name)) := by rw [binV_str]; exact strV_geq
      rw [hge, Mpu_some, Mcd_bool]
      have kk := kh.trans (k5.trans k6)
      cases hb : lessB d'.name d.name
      · rw [if_pos (show (!false) = true from rfl)]
        exact ⟨by rw [rise_bad (i := i) (by rw [hln]; exact hlt) (by rw [hra, hb])], kk⟩
      · rw [if_neg (by decide), add_one' (by omega), Mpu_some]
        refine hk2 _ _ ⟨i + 1, by omega, rfl, ?_, kk⟩ (by show l.length - (i + 1) < l.length - i; omega)
        rw [Nat.min_eq_left (by omega)] at hall ⊢
        exact rise_snoc hall (by rw [hra, hb])
    · rw [if_neg (by simpa using hlt)]
      refine hk _ _ ⟨?_, kh⟩
      rw [Nat.min_eq_right (by omega)] at hall
      unfold riseF
      rw [hln]; exact hall
  · rintro _ h ⟨h1, h2⟩
    exact ⟨by rw [h1], h2⟩

def zFile : MFile := ⟨[], [], 0⟩
def apartAt (l : List MFile) (i j : Nat) : Bool := decide (i = j) || !underF (l.getD j zFile).name (l.getD i zFile).name
def fileOkAt (l : List MFile) (i : Nat) : Bool := fnOk (l.getD i zFile).name && !underF (l.getD i zFile).name [118, 97, 114] && !decide ((l.getD i zFile).size < 0) && !decide ((l.getD i zFile).size > 1048576) && (List.range l.length).all (apartAt l i)
def filesOk (l : List MFile) : Bool := decide (l.length ≤ 64) && riseF (l.map (·.name)) && (List.range l.length).all (fileOkAt l)
theorem getD_at {α : Type} {l : List α} {i : Nat} {x z : α} (h : l[i]? = some x) : l.getD i z = x := by simp [List.getD, h]
theorem fn_len {l : List UInt8} (h : fnOk l = true) : l.length ≤ 64 := by
  unfold fnOk at h
  simp only [Bool.and_eq_true, decide_eq_true_eq] at h
  exact h.1.2
theorem z_File' : zcells prg T_manifest_File = some (fileC ⟨[], List.replicate 32 0, 0⟩).toArray := by kernel_rfl
theorem zF_wf : (⟨[], List.replicate 32 0, 0⟩ : MFile).wf := ⟨by simp, by simp, by simp⟩

set_option maxHeartbeats 4000000 in
theorem c_filesG {P : Nat → Prop} {H : Heap} {m : Man} {vd vc vf : Value} (hv : ManV P H m vd vc vf) :
    HCalls prg f_manifest_Manifest_files [.agg (manC m vd vc vf).toArray] H fun u H' => u = .bool (filesOk m.files) ∧ Keep (fun _ => False) H H' := by
  apply sh_manifest_Manifest_files_calls
  unfold sh_manifest_Manifest_files
  simp only [Cells_agg, Mnew_some, fld_ptr, Nat.zero_add, Nat.add_zero, Mpu_some]
  generalize hH1 : H.push (.cells (manC m vd vc vf).toArray T_manifest_Manifest (0, 0)) = H1
  have k1 : Keep (fun _ => False) H H1 := by rw [← hH1]; exact Keep.push
  have a1 : At H1 H.size (manC m vd vc vf) := by rw [← hH1]; exact At.push
  have w := hv.wf
  have d7 : ∀ h, Keep (fun _ => False) H1 h → ld1 h (Ptr H.size 7) = some vf := fun h k => (man_get (a1.keep k id) w).2.2
  have hf := hv.f
  generalize hL : m.files = l at *
  have hlen := hf.len
  rw [List.length_map] at hlen
  have hwl : ∀ f ∈ l, f.wf := fun f hf => w.files f (by rw [hL]; exact hf)
  have e64 : binV .no .gtr (.int .i64 (l.length : Nat)) (.int .i64 64) = some (.bool (decide (l.length > 64))) := gtNn (m := 64)
  rw [d7 _ Keep.refl, Mpu_some, hlen, Mpu_some, e64, Mpu_some]
  cases h64 : decide (l.length > 64)
  rotate_left
  · simp only [J1_eq, Mif_bool, Bool.true_eq_false, if_false, pickV_bool, if_true, Mpu_some, Mcd_bool]
    exact ⟨by unfold filesOk; rw [decide_eq_false (show ¬ l.length ≤ 64 by have := of_decide_eq_true h64; omega)]; rfl, k1⟩
  have hl : l.length ≤ 64 := by have := of_decide_eq_false h64; omega
  refine J1_eq.2 ?_
  rw [Mif_bool, if_pos rfl, Mpu_some]
  refine call_i (c_riseFile (hf.keep k1 fun _ _ => id) hwl (by omega)) ?_
  rintro _ h3 ⟨rfl, k3⟩
  have k13 := k1.trans k3
  have hfo : filesOk l = (riseF (l.map (·.name)) && (List.range l.length).all (fileOkAt l)) := by unfold filesOk; rw [decide_eq_true hl]; rfl
  rw [unV_not, Mpu_some]
  cases hr : riseF (l.map (·.name))
  · simp only [Bool.not_false, pickV_bool, Bool.false_eq_true, if_false, if_true, Mpu_some, Mcd_bool]
    exact ⟨by rw [hfo, hr]; rfl, k13⟩
  rw [hr, Bool.true_and] at hfo
  rw [Bool.not_true, pickV_bool, if_neg (by decide), Mpu_some, Mcd_bool, if_neg (by decide)]
  refine J1_i (fun _ h => (List.range l.length).all (fileOkAt l) = true ∧ Keep (fun _ => False) H h) (fun k hk => ?_) ?_
  rotate_left
  · rintro _ h ⟨h1, h2⟩
    exact ⟨by rw [hfo, h1], h2⟩
  rw [d7 _ k3, Mpu_some, hlen, Mpu_some]
  refine L1_i (fun u h => ∃ i : Nat, i ≤ l.length ∧ u = .int .i64 (i : Nat) ∧ (List.range i).all (fileOkAt l) = true ∧ Keep (fun _ => False) h3 h) (fun u _ => match u with | .int _ t => l.length - t.toNat | _ => 0) ⟨0, Nat.zero_le _, rfl, rfl, Keep.refl⟩ ?_
  rintro _ h ⟨i, hi, rfl, hall, kh⟩ kk hkk
  rw [ltNn, Mpu_some, Mcd_bool]
  have k0h := k13.trans kh
  by_cases hlt : i < l.length
  rotate_left
  · rw [if_neg (by simpa using hlt)]
    obtain rfl : i = l.length := by omega
    exact hk _ _ ⟨hall, k0h⟩
  rw [if_pos (by simpa using hlt)]
  have hg : l[i]? = some l[i] := List.getElem?_eq_getElem hlt
  have hgd := getD_at (z := zFile) hg
  have hfoi : fileOkAt l i = (fnOk l[i].name && !underF l[i].name [118, 97, 114] && !decide (l[i].size < 0) && !decide (l[i].size > 1048576) && (List.range l.length).all (apartAt l i)) := by unfold fileOkAt; rw [hgd]
  have hap : ∀ j, apartAt l i j = (decide (i = j) || !underF (l.getD j zFile).name l[i].name) := fun j => by unfold apartAt; rw [hgd]
  have hwf := hwl _ (List.getElem_mem hlt)
  generalize l[i] = f at *
  refine J4_i (fun _ _ _ _ h' => fileOkAt l i = true ∧ Keep (fun _ => False) h3 h') (fun k9 hk9 => ?_) ?_
  rotate_left
  · rintro _ _ _ _ h' ⟨h1, h2⟩
    rw [add_one' (by omega), Mpu_some]
    exact hkk _ _ ⟨i + 1, by omega, rfl, range_snoc hall h1, h2⟩ (by show l.length - (i + 1) < l.length - i; omega)
  obtain ⟨b, o, hix, hpt, _⟩ := (hf.keep k0h fun _ _ => id).at (i := i) (x := fileC f) (by rw [List.getElem?_map, hg]; rfl)
  rw [hix .i64, Mpu_some, hpt.agg (fileC_len hwf), Mpu_some]
  simp only [z_File', Mnew_some]
  generalize hH11 : h.push (.cells (fileC ⟨[], List.replicate 32 0, 0⟩).toArray T_manifest_File (0, 0)) = h11
  have k11 : Keep (fun _ => False) h h11 := by rw [← hH11]; exact Keep.push
  have a11 : At h11 h.size (fileC ⟨[], List.replicate 32 0, 0⟩) := by rw [← hH11]; exact At.push
  obtain ⟨h12, st12, a12, k12⟩ := a11.st (n := 34) (ds := fileC f) (fileC_len zF_wf) (fileC_len hwf) fileC_one
  have gh := kh.1
  have k312 : Keep (fun _ => False) h3 h12 := (kh.trans k11).fresh k12 fun b hb => by omega
  have dn : ∀ h', Keep (fun _ => False) h12 h' → ld1 h' (Ptr h.size 0) = some (str f.name) := fun h' k' => (a12.keep k' id).ld rfl
  have dsz : ∀ h', Keep (fun _ => False) h12 h' → ld1 h' (Ptr h.size 33) = some (.int .i64 f.size) := fun h' k' => (a12.keep k' id).ld (by
    show (fileC f)[33]? = _
    unfold fileC
    rw [List.getElem?_cons_succ, List.getElem?_append_right (by simp [hwf.sum])]
    simp [hwf.sum])
  have svar : (Value.string ⟨#[118, 97, 114]⟩) = str [118, 97, 114] := rfl
  have bad : ∀ h', Keep (fun _ => False) h12 h' → fileOkAt l i = false → (Value.bool false = .bool (filesOk l) ∧ Keep (fun _ => False) H h') := fun h' k' hb => ⟨by rw [hfo, range_bad hlt hb], (k13.trans k312).trans k'⟩
  rw [st12, Mwr_some]
  simp only [fld_ptr, Nat.zero_add, Nat.add_zero, Mpu_some]
  rw [dn _ Keep.refl, Mpu_some]
  refine call_i c_filesName ?_
  rintro _ h13 ⟨rfl, k13'⟩
  rw [unV_not, Mpu_some]
  cases q1 : fnOk f.name
  · simp only [Bool.not_false, J1_eq, Mif_bool, Mif_undef, Bool.true_eq_false, if_false, pickV_bool, if_true, Mpu_some, Mcd_bool]
    exact bad _ k13' (by rw [hfoi, q1]; rfl)
  rw [Bool.not_true]
  refine J1_eq.2 ?_
  rw [Mif_bool, if_pos rfl, dn _ k13', Mpu_some, svar]
  refine call_i (c_under (by simp)) ?_
  rintro _ h15 ⟨rfl, k15⟩
  have k1215 := k13'.trans k15
  rw [pickV_bool, if_neg (by decide), Mpu_some]
  cases q2 : underF f.name [118, 97, 114]
  rotate_left
  · simp only [J1_eq, Mif_bool, Mif_undef, Bool.true_eq_false, if_false, pickV_bool, if_true, Mpu_some, Mcd_bool]
    exact bad _ k1215 (by rw [hfoi, q1, q2]; rfl)
  refine J1_eq.2 ?_
  rw [Mif_bool, if_pos rfl, dsz _ k1215, Mpu_some, ltI, Mpu_some]
  show Mpu (pickV (.bool false) (.bool true) _) _
  rw [pickV_bool, if_neg (by decide), Mpu_some]
  cases q3 : decide (f.size < 0)
  rotate_left
  · simp only [J1_eq, Mif_bool, Mif_undef, Bool.true_eq_false, if_false, pickV_bool, if_true, Mpu_some, Mcd_bool]
    exact bad _ k1215 (by rw [hfoi, q1, q2, q3]; rfl)
  refine J1_eq.2 ?_
  rw [Mif_bool, if_pos rfl, dsz _ k1215, Mpu_some, gtI, Mpu_some]
  show Mpu (pickV (.bool false) (.bool true) _) _
  rw [pickV_bool, if_neg (by decide), Mpu_some]
  cases q4 : decide (f.size > 1048576)
  rotate_left
  · simp only [J1_eq, Mif_bool, Mif_undef, Bool.true_eq_false, if_false, pickV_bool, if_true, Mpu_some, Mcd_bool]
    exact bad _ k1215 (by rw [hfoi, q1, q2, q3, q4]; rfl)
  rw [Mcd_bool, if_neg (by decide), d7 _ (k3.trans (k312.trans k1215)), Mpu_some, hlen, Mpu_some]
  have hfoi2 : fileOkAt l i = (List.range l.length).all (apartAt l i) := by rw [hfoi, q1, q2, q3, q4]; rfl
  refine L1_i (fun u h' => ∃ j : Nat, j ≤ l.length ∧ u = .int .i64 (j : Nat) ∧ (List.range j).all (apartAt l i) = true ∧ Keep (fun _ => False) h15 h') (fun u _ => match u with | .int _ t => l.length - t.toNat | _ => 0) ⟨0, Nat.zero_le _, rfl, rfl, Keep.refl⟩ ?_
  rintro _ g ⟨j, hj, rfl, hallj, kg⟩ k21 hk21
  rw [ltNn, Mpu_some, Mcd_bool]
  have k12g := k1215.trans kg
  by_cases hltj : j < l.length
  rotate_left
  · rw [if_neg (by simpa using hltj)]
    obtain rfl : j = l.length := by omega
    exact hk9 _ _ _ _ _ ⟨by rw [hfoi2, hallj], k312.trans k12g⟩
  rw [if_pos (by simpa using hltj)]
  have hgj : l[j]? = some l[j] := List.getElem?_eq_getElem hltj
  have hwj := hwl _ (List.getElem_mem hltj)
  have hapj := hap j
  rw [getD_at hgj] at hapj
  generalize l[j] = f2 at *
  obtain ⟨b2, o2, hix2, hpt2, _⟩ := (hf.keep ((k13.trans k312).trans k12g) fun _ _ => id).at (i := j) (x := fileC f2) (by rw [List.getElem?_map, hgj]; rfl)
  rw [hix2 .i64, Mpu_some, hpt2.agg (fileC_len hwj), Mpu_some]
  generalize hH23 : g.push (.cells (fileC ⟨[], List.replicate 32 0, 0⟩).toArray T_manifest_File (0, 0)) = h23
  have k23 : Keep (fun _ => False) g h23 := by rw [← hH23]; exact Keep.push
  have a23 : At h23 g.size (fileC ⟨[], List.replicate 32 0, 0⟩) := by rw [← hH23]; exact At.push
  obtain ⟨h24, st24, a24, k24⟩ := a23.st (n := 34) (ds := fileC f2) (fileC_len zF_wf) (fileC_len hwj) fileC_one
  have gg := kg.1
  have k1524 : Keep (fun _ => False) h15 h24 := (kg.trans k23).fresh k24 fun b hb => by omega
  have dn2 : ld1 h24 (Ptr g.size 0) = some (str f2.name) := a24.ld rfl
  rw [st24, Mwr_some, neNn, Mpu_some]
  cases q5 : decide (i = j)
  · refine J1_eq.2 ?_
    rw [Bool.not_false, Mif_bool, if_pos rfl, dn2, Mpu_some, dn _ (k1215.trans k1524), Mpu_some]
    have := fn_len q1
    refine call_i (c_under (by omega)) ?_
    rintro _ h26 ⟨rfl, k26⟩
    rw [pickV_bool, if_pos rfl, Mpu_some, Mcd_bool]
    cases q6 : underF f2.name f.name
    · rw [if_neg (by decide), add_one' (by omega), Mpu_some]
      exact hk21 _ _ ⟨j + 1, by omega, rfl, range_snoc hallj (by rw [hapj, q5, q6]; rfl), k1524.trans k26⟩ (by show l.length - (j + 1) < l.length - j; omega)
    · rw [if_pos rfl]
      exact bad _ (k1215.trans (k1524.trans k26)) (by rw [hfoi2]; exact range_bad hltj (by rw [hapj, q5, q6]; rfl))
  · refine J1_eq.2 ?_
    rw [Bool.not_true, Mif_bool, if_neg (by decide)]
    show Mpu (pickV (.bool false) undef (.bool false)) _
    rw [pickV_bool, if_neg (by decide), Mpu_some, Mcd_bool, if_neg (by decide), add_one' (by omega), Mpu_some]
    exact hk21 _ _ ⟨j + 1, by omega, rfl, range_snoc hallj (by rw [hapj, q5]; rfl), k1524⟩ (by show l.length - (j + 1) < l.length - j; omega)

def manOkG (m : Man) : Bool := manOk m && filesOk m.files
theorem c_RightG {P : Nat → Prop} {H : Heap} {m : Man} {vd vc vf : Value} (hv : ManV P H m vd vc vf) (hd : m.deps.length ≤ 1099511627776) (hc : m.conf.length ≤ 1099511627776) (hO : OpsT H) :
    HCalls prg f_manifest_Manifest_Right [.agg (manC m vd vc vf).toArray] H fun u H' => u = .bool (manOkG m) ∧ Keep (fun _ => False) H H' := by
  apply sh_manifest_Manifest_Right_calls
  unfold sh_manifest_Manifest_Right
  simp only [Cells_agg, Mnew_some]
  generalize hH1 : H.push (.cells (manC m vd vc vf).toArray T_manifest_Manifest (0, 0)) = H1
  have k1 : Keep (fun _ => False) H H1 := by rw [← hH1]; exact Keep.push
  have a1 : At H1 H.size (manC m vd vc vf) := by rw [← hH1]; exact At.push
  have w := hv.wf
  rw [fld_ptr, Mpu_some, Nat.add_zero, man_name a1, Mpu_some]
  refine call_i (c_Name w.name) ?_
  rintro _ h2 ⟨rfl, k2⟩
  have a2 := a1.keep k2 id
  have k12 := k1.trans k2
  unfold manOkG manOk
  cases h1 : nameOk m.name
  · simp only [unV_not, Bool.not_true, Bool.not_false, Mif_bool, Mif_undef, pickV_bool, Mcd_bool, Mpu_some, if_true, if_false, Bool.false_eq_true, Bool.true_eq_false, decide_true, decide_false, reduceCtorEq, J1_eq, ex20, ex21, ex30, ex31, ex32, Mre_ok, Mre_nil, Bool.false_and]
    exact ⟨by trivial, k12⟩
  simp only [fld_ptr, Nat.zero_add, man_ver a2 w, unV_not, Bool.not_true, Bool.not_false, Mif_bool, Mif_undef, pickV_bool, Mcd_bool, Mpu_some, if_true, if_false, Bool.false_eq_true, Bool.true_eq_false, decide_true, decide_false, reduceCtorEq, J1_eq, ex20, ex21, ex30, ex31, ex32, Mre_ok, Mre_nil]
  refine call_i (c_VerRight w.ver) ?_
  rintro _ h3 ⟨rfl, k3⟩
  have a3 := a2.keep k3 id
  have k13 := k12.trans k3
  cases h2 : verOk m.ver
  · simp only [unV_not, Bool.not_true, Bool.not_false, Mif_bool, Mif_undef, pickV_bool, Mcd_bool, Mpu_some, if_true, if_false, Bool.false_eq_true, Bool.true_eq_false, decide_true, decide_false, reduceCtorEq, J1_eq, ex20, ex21, ex30, ex31, ex32, Mre_ok, Mre_nil, Bool.false_and, Bool.and_false]
    exact ⟨by trivial, k13⟩
  obtain ⟨g5, g6, g7⟩ := man_get a3 w
  simp only [fld_ptr, Nat.zero_add, man_ld a3 w, g5, unV_not, Bool.not_true, Bool.not_false, Mif_bool, Mif_undef, pickV_bool, Mcd_bool, Mpu_some, if_true, if_false, Bool.false_eq_true, Bool.true_eq_false, decide_true, decide_false, reduceCtorEq, J1_eq, ex20, ex21, ex30, ex31, ex32, Mre_ok, Mre_nil]
  refine call_i (c_deps (hv.d.keep k13 fun _ _ => id) w.deps (hO.keep k13 fun _ h => h.elim) hd) ?_
  rintro _ h4 ⟨rfl, k4⟩
  have a4 := a3.keep k4 id
  have k14 := k13.trans k4
  cases h3 : depsOk m.name m.deps
  · simp only [unV_not, Bool.not_true, Bool.not_false, Mif_bool, Mif_undef, pickV_bool, Mcd_bool, Mpu_some, if_true, if_false, Bool.false_eq_true, Bool.true_eq_false, decide_true, decide_false, reduceCtorEq, J1_eq, ex20, ex21, ex30, ex31, ex32, Mre_ok, Mre_nil, Bool.false_and, Bool.and_false]
    exact ⟨by trivial, k14⟩
  obtain ⟨g5, g6, g7⟩ := man_get a4 w
  simp only [fld_ptr, Nat.zero_add, man_ld a4 w, g6, unV_not, Bool.not_true, Bool.not_false, Mif_bool, Mif_undef, pickV_bool, Mcd_bool, Mpu_some, if_true, if_false, Bool.false_eq_true, Bool.true_eq_false, decide_true, decide_false, reduceCtorEq, J1_eq, ex20, ex21, ex30, ex31, ex32, Mre_ok, Mre_nil]
  refine call_i (c_deps (hv.c.keep k14 fun _ _ => id) w.conf (hO.keep k14 fun _ h => h.elim) hc) ?_
  rintro _ h5 ⟨rfl, k5⟩
  have a5 := a4.keep k5 id
  have k15 := k14.trans k5
  cases h4 : depsOk m.name m.conf
  · simp only [unV_not, Bool.not_true, Bool.not_false, Mif_bool, Mif_undef, pickV_bool, Mcd_bool, Mpu_some, if_true, if_false, Bool.false_eq_true, Bool.true_eq_false, decide_true, decide_false, reduceCtorEq, J1_eq, ex20, ex21, ex30, ex31, ex32, Mre_ok, Mre_nil, Bool.false_and, Bool.and_false]
    exact ⟨by trivial, k15⟩
  simp only [man_ld a5 w, unV_not, Bool.not_true, Bool.not_false, Mif_bool, Mif_undef, pickV_bool, Mcd_bool, Mpu_some, if_true, if_false, Bool.false_eq_true, Bool.true_eq_false, decide_true, decide_false, reduceCtorEq, J1_eq, ex20, ex21, ex30, ex31, ex32, Mre_ok, Mre_nil]
  refine call_i (c_filesG (hv.keep k15 fun _ _ => id)) ?_
  rintro _ h6 ⟨rfl, k6⟩
  simp only [unV_not, Bool.not_true, Bool.not_false, Mif_bool, Mif_undef, pickV_bool, Mcd_bool, Mpu_some, if_true, if_false, Bool.false_eq_true, Bool.true_eq_false, decide_true, decide_false, reduceCtorEq, J1_eq, ex20, ex21, ex30, ex31, ex32, Mre_ok, Mre_nil, Bool.true_and]
  exact ⟨by trivial, k15.trans k6⟩
end Go.Proofs.YtanhgihfgmbojaaGreatDoor

/- solve: problems as values; of, refuses, clash. -/
namespace Go.Proofs.YtanhgihfgmbojaaGreatDoor
open Go.X Go.X.Diff
set_option maxRecDepth 100000
set_option linter.unusedSimpArgs false
set_option linter.unusedVariables false

theorem J1_yes {b w : Bool} {yes : (Value → Heap → Prop) → Prop} {no : (Value → Heap → Prop) → Prop} {rest : Value → Heap → Prop} (h : b = w) (hy : yes rest) : J1 (fun k => Mif (.bool b) w (yes k) (no k)) rest := J1_eq.2 (Mif_bool.2 (by rw [if_pos h]; exact hy))
theorem J1_no {b w : Bool} {yes : (Value → Heap → Prop) → Prop} {H : Heap} {rest : Value → Heap → Prop} (h : b ≠ w) (hy : rest undef H) : J1 (fun k => Mif (.bool b) w (yes k) (k undef H)) rest := J1_eq.2 (Mif_bool.2 (by rw [if_neg h]; exact hy))

abbrev ints (l : List Int) : List (List Value) := rows1 (l.map (Value.int .i64))
abbrev MV := Man × Value × Value × Value
def mvC (x : MV) : List Value := manC x.1 x.2.1 x.2.2.1 x.2.2.2
abbrev hvOf (mv : List MV) : List Man := mv.map (·.1)
def prbC (vh vw : Value) (b : Int) : List Value := [vh, vw, .int .i64 b]
structure Prb (P : Nat → Prop) (H : Heap) (mv : List MV) (wants : List Dep) (vh vw : Value) : Prop where
  h : SlE 8 P H vh (mv.map mvC)
  m : ∀ x ∈ mv, ManV P H x.1 x.2.1 x.2.2.1 x.2.2.2
  w : SlE 6 P H vw (wants.map depC)
  ww : ∀ d ∈ wants, d.wf
  sm : ∀ x ∈ mv, x.1.deps.length ≤ 1000 ∧ x.1.conf.length ≤ 1000
theorem Prb.keep {P S : Nat → Prop} {H H' : Heap} {mv : List MV} {wants : List Dep} {vh vw : Value} (h : Prb P H mv wants vh vw) (k : Keep S H H') (hs : ∀ b, P b → ¬ S b) : Prb P H' mv wants vh vw :=
  ⟨h.h.keep k hs, fun x hx => (h.m x hx).keep k hs, h.w.keep k hs, h.ww, h.sm⟩
theorem gM_at {mv : List MV} {k : Nat} {x : MV} (h : mv[k]? = some x) : gM (hvOf mv) k = x.1 := by
  unfold gM
  exact getD_at (by rw [List.getElem?_map, h]; rfl)
theorem Prb.at {P : Nat → Prop} {H : Heap} {mv : List MV} {wants : List Dep} {vh vw : Value} (h : Prb P H mv wants vh vw) {k : Nat} (hk : k < (hvOf mv).length) : ∃ x, mv[k]? = some x ∧ gM (hvOf mv) k = x.1 ∧ x ∈ mv ∧ ManV P H x.1 x.2.1 x.2.2.1 x.2.2.2 ∧ ∃ b o, (∀ q, ixS 8 vh (.int q k) = some (Ptr b o)) ∧ Pt H b o (mvC x) ∧ P b := by
  rw [List.length_map] at hk
  have hg : mv[k]? = some mv[k] := List.getElem?_eq_getElem hk
  have hm : mv[k] ∈ mv := List.getElem_mem hk
  exact ⟨mv[k], hg, gM_at hg, hm, h.m _ hm, h.h.at (x := mvC mv[k]) (by rw [List.getElem?_map, hg]; rfl)⟩
theorem mv_name {h : Heap} {b o : Nat} {x : MV} (p : Pt h b o (mvC x)) : ld1 h (Ptr b o) = some (str x.1.name) := p.cell0 rfl
theorem mv_ver {h : Heap} {b o : Nat} {x : MV} (p : Pt h b o (mvC x)) (hw : x.1.wf) : ldN 4 h (Ptr b (o + 1)) = some (.agg (verC x.1.ver).toArray) := by
  have e : mvC x = [str x.1.name] ++ verC x.1.ver ++ [x.2.1, x.2.2.1, x.2.2.2] := by simp [mvC, manC]
  rw [e] at p
  exact (p.mid (A := [str x.1.name]) (B := verC x.1.ver) (o' := o + 1) rfl).agg (verC_len hw.ver)
theorem mv_agg {h : Heap} {b o : Nat} {x : MV} (p : Pt h b o (mvC x)) (hw : x.1.wf) : ldN 8 h (Ptr b o) = some (.agg (mvC x).toArray) := p.agg (manC_len hw)

/- slices.IndexFunc, ContainsFunc of ints -/
def DelI (fv : Value) (xs : List Int) (del : Int → Bool) (G : Heap → Prop) : Prop := ∀ (n : Int) (h : Heap), n ∈ xs → G h → Mcallv prg fv [.int .i64 n] h fun u h' => u = .bool (del n) ∧ Keep (fun _ => False) h h'
theorem c_IndexInt {G : Heap → Prop} {P : Nat → Prop} {H : Heap} {v fv : Value} {xs : List Int} {del : Int → Bool} (hv : SlE 1 P H v (ints xs)) (hd : DelI fv xs del G) (hG : ∀ h, Keep (fun _ => False) H h → G h) (hl : xs.length ≤ 1099511627776) :
    HCalls prg f_slices_IndexFunc_S_int_int [v, fv] H fun u H' => Keep (fun _ => False) H H' ∧ ((u = .int .i64 (-1) ∧ ∀ x ∈ xs, del x = false) ∨ ∃ i : Nat, u = .int .i64 (i : Nat) ∧ (∀ x ∈ xs.take i, del x = false) ∧ ∃ x, xs[i]? = some x ∧ del x = true) := by
  apply sh_slices_IndexFunc_S_int_int_calls
  unfold sh_slices_IndexFunc_S_int_int
  have hlen := hv.len
  rw [rows1_len, List.length_map] at hlen
  refine J1_i (fun _ h => (∀ x ∈ xs, del x = false) ∧ Keep (fun _ => False) H h) (fun k1 hk1 => ?_) ?_
  · rw [hlen, Mpu_some]
    refine L1_i (fun u h => ∃ i : Nat, i ≤ xs.length ∧ u = .int .i64 (i : Nat) ∧ (∀ x ∈ xs.take i, del x = false) ∧ Keep (fun _ => False) H h) (fun u _ => match u with | .int _ t => xs.length - t.toNat | _ => 0) ⟨0, Nat.zero_le _, rfl, by simp, Keep.refl⟩ ?_
    rintro _ h ⟨i, hi, rfl, hno, kh⟩ k hk
    rw [ltNn, Mpu_some, Mcd_bool]
    by_cases hlt : i < xs.length
    · rw [if_pos (by simpa using hlt)]
      have hg : xs[i]? = some xs[i] := List.getElem?_eq_getElem hlt
      have hm : xs[i] ∈ xs := List.getElem_mem hlt
      generalize xs[i] = x at *
      obtain ⟨b, o, hix, hpt, _⟩ := (hv.keep kh fun _ _ => id).at (i := i) (x := [.int .i64 x]) (rows1_get (by rw [List.getElem?_map, hg]; rfl))
      rw [hix .i64, Mpu_some, hpt.cell0 rfl, Mpu_some]
      refine (hd x h hm (hG h kh)).mono ?_
      rintro _ h5 ⟨rfl, k5⟩
      rw [Mcd_bool]
      cases hdx : del x
      · rw [if_neg (by decide), add_one' (by omega), Mpu_some]
        refine hk _ _ ⟨i + 1, by omega, rfl, fun t ht => ?_, kh.trans k5⟩ (by show xs.length - (i + 1) < xs.length - i; omega)
        rw [List.take_add_one, hg] at ht
        rcases List.mem_append.1 ht with ht | ht
        · exact hno t ht
        · obtain rfl : t = x := by simpa using ht
          exact hdx
      · rw [if_pos rfl]
        exact ⟨kh.trans k5, .inr ⟨i, rfl, hno, x, hg, hdx⟩⟩
    · rw [if_neg (by simpa using hlt)]
      rw [List.take_of_length_le (by omega)] at hno
      exact hk1 _ _ ⟨hno, kh⟩
  rintro _ h ⟨hno, kh⟩
  exact ⟨kh, .inl ⟨rfl, hno⟩⟩
theorem geN0 {n : Nat} : binV .no .geq (.int .i64 (n : Nat)) (.int .i64 0) = some (.bool true) := by
  rw [binV_int]; simp only [intV]; rw [decide_eq_true (by omega)]
theorem ltN00 {n : Nat} : binV .no .lss (.int .i64 (n : Nat)) (.int .i64 0) = some (.bool false) := by
  rw [binV_int]; simp only [intV]; rw [decide_eq_false (by omega)]
theorem c_ContainsInt {G : Heap → Prop} {P : Nat → Prop} {H : Heap} {v fv : Value} {xs : List Int} {del : Int → Bool} (hv : SlE 1 P H v (ints xs)) (hd : DelI fv xs del G) (hG : ∀ h, Keep (fun _ => False) H h → G h) (hl : xs.length ≤ 1099511627776) :
    HCalls prg f_slices_ContainsFunc_S_int_int [v, fv] H fun u H' => u = .bool (xs.any del) ∧ Keep (fun _ => False) H H' := by
  apply sh_slices_ContainsFunc_S_int_int_calls
  unfold sh_slices_ContainsFunc_S_int_int
  refine call_i (c_IndexInt hv hd hG hl) ?_
  rintro _ h1 ⟨k1, ⟨rfl, hno⟩ | ⟨i, rfl, hno, x, hg, hx⟩⟩
  · have e : binV .no .geq (.int .i64 (-1)) (.int .i64 0) = some (.bool false) := rfl
    rw [e, Mpu_some]
    refine ⟨?_, k1⟩
    rw [List.any_eq_false.2 fun x hx => by simp [hno x hx]]
  · rw [geN0, Mpu_some]
    refine ⟨?_, k1⟩
    rw [List.any_eq_true.2 ⟨x, List.mem_of_getElem? hg, hx⟩]

/- of -/
theorem c_of1 {P : Nat → Prop} {H : Heap} {mv : List MV} {wants : List Dep} {vh vw : Value} {b : Int} {q r : Nat} {nm : List UInt8} {k : Nat} (hp : Prb P H mv wants vh vw) (aq : At H q (prbC vh vw b)) (ar : At H r [str nm]) (hk : k < (hvOf mv).length) :
    HCalls prg f_solve_Problem_of_1 [.int .i64 (k : Nat), Ptr q 0, Ptr r 0] H fun u H' => u = .bool (decide ((gM (hvOf mv) k).name = nm)) ∧ Keep (fun _ => False) H H' := by
  apply sh_solve_Problem_of_1_calls
  unfold sh_solve_Problem_of_1
  obtain ⟨x, hx, hgx, hxm, hmv, bb, o, hix, hpt, _⟩ := hp.at hk
  have d0 : ld1 H (Ptr q 0) = some vh := aq.ld rfl
  have dr : ld1 H (Ptr r 0) = some (str nm) := ar.ld rfl
  rw [fld_ptr, Mpu_some, Nat.add_zero, d0, Mpu_some, hix .i64, Mpu_some, fld_ptr, Mpu_some, Nat.add_zero, mv_name hpt, Mpu_some, dr, Mpu_some, str_eql, Mpu_some, hgx]
  exact ⟨rfl, Keep.refl⟩
theorem zs_mem {ch : List Nat} {n : Int} (h : n ∈ zs ch) : ∃ k ∈ ch, n = (k : Int) := by
  unfold zs at h
  obtain ⟨k, hk, rfl⟩ := List.mem_map.1 h
  exact ⟨k, hk, rfl⟩
theorem zs_get {ch : List Nat} {i k : Nat} (h : ch[i]? = some k) : (zs ch)[i]? = some (k : Int) := by unfold zs; rw [List.getElem?_map, h]; rfl
theorem zs_len {ch : List Nat} : (zs ch).length = ch.length := by simp [zs]
theorem zs_get' {ch : List Nat} {i : Nat} {n : Int} (h : (zs ch)[i]? = some n) : ∃ k, ch[i]? = some k ∧ n = (k : Int) := by
  unfold zs at h
  rw [List.getElem?_map] at h
  obtain ⟨k, h1, h2⟩ := Option.map_eq_some_iff.1 h
  exact ⟨k, h1, h2.symm⟩
theorem zs_take {ch : List Nat} {i : Nat} : (zs ch).take i = zs (ch.take i) := by simp [zs, List.map_take]
theorem zs_mem' {ch : List Nat} {k : Nat} (h : k ∈ ch) : (k : Int) ∈ zs ch := List.mem_map.2 ⟨k, h, rfl⟩
theorem c_of {P Q : Nat → Prop} {H : Heap} {mv : List MV} {wants : List Dep} {vh vw vc : Value} {b : Int} {nm : List UInt8} {ch : List Nat} (hp : Prb P H mv wants vh vw) (hc : SlE 1 Q H vc (ints (zs ch))) (hk : ∀ k ∈ ch, k < (hvOf mv).length) (hl : ch.length ≤ 1099511627776) :
    HCalls prg f_solve_Problem_of [.agg (prbC vh vw b).toArray, vc, str nm] H fun u H' => u = (match ofF (hvOf mv) ch nm with | some k => .tuple #[.int .i64 (k : Nat), .bool true] | none => .tuple #[.int .i64 0, .bool false]) ∧ Keep (fun _ => False) H H' := by
  apply sh_solve_Problem_of_calls
  unfold sh_solve_Problem_of
  simp only [Cells_agg, Mnew_some]
  generalize hH1 : H.push (.cells (prbC vh vw b).toArray T_solve_Problem (0, 0)) = H1
  have k1 : Keep (fun _ => False) H H1 := by rw [← hH1]; exact Keep.push
  have a1 : At H1 H.size (prbC vh vw b) := by rw [← hH1]; exact At.push
  generalize hH2 : H1.push (.cells (Value.cells (str nm)) T_string (0, 0)) = H2
  have k2 : Keep (fun _ => False) H1 H2 := by rw [← hH2]; exact Keep.push
  have a2 : At H2 H1.size [str nm] := by rw [← hH2]; exact At.push
  have k02 := k1.trans k2
  let del : Int → Bool := fun n => decide ((gM (hvOf mv) n.toNat).name = nm)
  have hd : DelI (.func (.func f_solve_Problem_of_1) #[] #[Ptr H.size 0, Ptr H1.size 0]) (zs ch) del (fun h => Keep (fun _ => False) H2 h) := fun n h hn kh => by
    obtain ⟨k, hkm, rfl⟩ := zs_mem hn
    refine .inl ⟨f_solve_Problem_of_1, #[], #[Ptr H.size 0, Ptr H1.size 0], rfl, by kernel_rfl, ?_⟩
    exact c_of1 (hp.keep (k02.trans kh) fun _ _ => id) ((a1.keep k2 id).keep kh id) (a2.keep kh id) (hk k hkm)
  refine call_i (c_IndexInt (hc.keep k02 fun _ _ => id) hd (fun h kh => kh) (by rw [zs_len]; exact hl)) ?_
  rintro _ h3 ⟨k3, ⟨rfl, hno⟩ | ⟨i, rfl, hno, x, hg, hx⟩⟩
  · have e : binV .no .lss (.int .i64 (-1)) (.int .i64 0) = some (.bool true) := rfl
    have : ofF (hvOf mv) ch nm = none := List.find?_eq_none.2 fun k hk => by
      have := hno _ (zs_mem' hk)
      simpa [del] using this
    rw [e, Mpu_some, Mcd_bool, if_pos rfl, this]
    exact ⟨rfl, k02.trans k3⟩
  · obtain ⟨k, hgk, rfl⟩ := zs_get' hg
    have : ofF (hvOf mv) ch nm = some k := find_at (i := i) (fun p hp => by
      have := hno (p : Int) (by rw [zs_take]; exact zs_mem' hp)
      simpa [del] using this) hgk (by simpa [del] using hx)
    obtain ⟨bb, o, hix, hpt, _⟩ := ((hc.keep k02 fun _ _ => id).keep k3 fun _ _ => id).at (i := i) (x := [.int .i64 (k : Int)]) (rows1_get (by rw [List.getElem?_map, hg]; rfl))
    rw [ltN00, Mpu_some, Mcd_bool, if_neg (by decide), hix .i64, Mpu_some, hpt.cell0 rfl, Mpu_some, this]
    exact ⟨rfl, k02.trans k3⟩

/- slices.IndexFunc of Deps; refuses -/
def DelD (fv : Value) (xs : List Dep) (del : Dep → Bool) (G : Heap → Prop) : Prop := ∀ (n : Dep) (h : Heap), n ∈ xs → G h → Mcallv prg fv [.agg (depC n).toArray] h fun u h' => u = .bool (del n) ∧ Keep (fun _ => False) h h'
theorem c_ContainsDep {G : Heap → Prop} {P : Nat → Prop} {H : Heap} {v fv : Value} {xs : List Dep} {del : Dep → Bool} (hv : SlE 6 P H v (xs.map depC)) (hw : ∀ d ∈ xs, d.wf) (hd : DelD fv xs del G) (hG : ∀ h, Keep (fun _ => False) H h → G h) (hl : xs.length ≤ 1099511627776) :
    HCalls prg f_slices_ContainsFunc_S_manifest_Dep_manifest_Dep [v, fv] H fun u H' => u = .bool (xs.any del) ∧ Keep (fun _ => False) H H' := by
  apply sh_slices_ContainsFunc_S_manifest_Dep_manifest_Dep_calls
  unfold sh_slices_ContainsFunc_S_manifest_Dep_manifest_Dep
  refine call_i (R := fun u H' => Keep (fun _ => False) H H' ∧ ((u = .int .i64 (-1) ∧ ∀ x ∈ xs, del x = false) ∨ ∃ (i : Nat) (x : Dep), u = .int .i64 (i : Nat) ∧ x ∈ xs ∧ del x = true)) ?_ ?_
  · apply sh_slices_IndexFunc_S_manifest_Dep_manifest_Dep_calls
    unfold sh_slices_IndexFunc_S_manifest_Dep_manifest_Dep
    have hlen := hv.len
    rw [List.length_map] at hlen
    refine J1_i (fun _ h => (∀ x ∈ xs, del x = false) ∧ Keep (fun _ => False) H h) (fun k1 hk1 => ?_) ?_
    · rw [hlen, Mpu_some]
      refine L1_i (fun u h => ∃ i : Nat, i ≤ xs.length ∧ u = .int .i64 (i : Nat) ∧ (∀ x ∈ xs.take i, del x = false) ∧ Keep (fun _ => False) H h) (fun u _ => match u with | .int _ t => xs.length - t.toNat | _ => 0) ⟨0, Nat.zero_le _, rfl, by simp, Keep.refl⟩ ?_
      rintro _ h ⟨i, hi, rfl, hno, kh⟩ k hk
      rw [ltNn, Mpu_some, Mcd_bool]
      by_cases hlt : i < xs.length
      · rw [if_pos (by simpa using hlt)]
        have hg : xs[i]? = some xs[i] := List.getElem?_eq_getElem hlt
        have hm : xs[i] ∈ xs := List.getElem_mem hlt
        generalize xs[i] = x at *
        obtain ⟨b, o, hix, hpt, _⟩ := (hv.keep kh fun _ _ => id).at (i := i) (x := depC x) (by rw [List.getElem?_map, hg]; rfl)
        rw [hix .i64, Mpu_some, hpt.agg (depC_len (hw x hm)), Mpu_some]
        refine (hd x h hm (hG h kh)).mono ?_
        rintro _ h5 ⟨rfl, k5⟩
        rw [Mcd_bool]
        cases hdx : del x
        · rw [if_neg (by decide), add_one' (by omega), Mpu_some]
          refine hk _ _ ⟨i + 1, by omega, rfl, fun t ht => ?_, kh.trans k5⟩ (by show xs.length - (i + 1) < xs.length - i; omega)
          rw [List.take_add_one, hg] at ht
          rcases List.mem_append.1 ht with ht | ht
          · exact hno t ht
          · obtain rfl : t = x := by simpa using ht
            exact hdx
        · rw [if_pos rfl]
          exact ⟨kh.trans k5, .inr ⟨i, x, rfl, hm, hdx⟩⟩
      · rw [if_neg (by simpa using hlt)]
        rw [List.take_of_length_le (by omega)] at hno
        exact hk1 _ _ ⟨hno, kh⟩
    rintro _ h ⟨hno, kh⟩
    exact ⟨kh, .inl ⟨rfl, hno⟩⟩
  · rintro _ h1 ⟨k1, ⟨rfl, hno⟩ | ⟨i, x, rfl, hm, hx⟩⟩
    · have e : binV .no .geq (.int .i64 (-1)) (.int .i64 0) = some (.bool false) := rfl
      rw [e, Mpu_some]
      refine ⟨?_, k1⟩
      rw [List.any_eq_false.2 fun x hx => by simp [hno x hx]]
    · rw [geN0, Mpu_some]
      refine ⟨?_, k1⟩
      rw [List.any_eq_true.2 ⟨x, hm, hx⟩]
theorem depNm {h : Heap} {q : Nat} {d : Dep} (a : At h q (depC d)) : ld1 h (Ptr q 0) = some (str d.name) := a.ld rfl
theorem depWant {h : Heap} {q : Nat} {d : Dep} (a : At h q (depC d)) (hd : d.wf) : ldN 5 h (Ptr q 1) = some (.agg (wantC d.want).toArray) := by
  obtain ⟨T, a⟩ := a
  exact ldN_mid (A := [str d.name]) (B := wantC d.want) (C := []) (by rw [List.append_nil]; exact a) rfl (wantC_len hd.want).symm
theorem c_refuses {P Q : Nat → Prop} {H : Heap} {x y : MV} (hx : ManV P H x.1 x.2.1 x.2.2.1 x.2.2.2) (hy : y.1.wf) (hl : x.1.conf.length ≤ 1000) (hO : OpsT H) :
    HCalls prg f_solve_refuses [.agg (mvC x).toArray, .agg (mvC y).toArray] H fun u H' => u = .bool (refM x.1 y.1) ∧ Keep (fun _ => False) H H' := by
  apply sh_solve_refuses_calls
  unfold sh_solve_refuses
  simp only [Cells_agg, Mnew_some]
  generalize hH1 : H.push (.cells (mvC x).toArray T_manifest_Manifest (0, 0)) = H1
  have k1 : Keep (fun _ => False) H H1 := by rw [← hH1]; exact Keep.push
  have a1 : At H1 H.size (manC x.1 x.2.1 x.2.2.1 x.2.2.2) := by rw [← hH1]; exact At.push
  generalize hH2 : H1.push (.cells (mvC y).toArray T_manifest_Manifest (0, 0)) = H2
  have k2 : Keep (fun _ => False) H1 H2 := by rw [← hH2]; exact Keep.push
  have a2 : At H2 H1.size (manC y.1 y.2.1 y.2.2.1 y.2.2.2) := by rw [← hH2]; exact At.push
  have k02 := k1.trans k2
  have d6 := (man_get (a1.keep k2 id) hx.wf).2.1
  rw [fld_ptr, Mpu_some, Nat.zero_add, d6, Mpu_some]
  have hd : DelD (.func (.func f_solve_refuses_1) #[] #[Ptr H1.size 0]) x.1.conf (fun d => fitM d y.1) (fun h => Keep (fun _ => False) H2 h) := fun d h hm kh => by
    refine .inl ⟨f_solve_refuses_1, #[], #[Ptr H1.size 0], rfl, by kernel_rfl, ?_⟩
    have hdw := hx.wf.conf d hm
    show HCalls prg f_solve_refuses_1 [.agg (depC d).toArray, Ptr H1.size 0] h _
    apply sh_solve_refuses_1_calls
    unfold sh_solve_refuses_1
    simp only [Cells_agg, Mnew_some]
    generalize hH3 : h.push (.cells (depC d).toArray T_manifest_Dep (0, 0)) = h3
    have k3 : Keep (fun _ => False) h h3 := by rw [← hH3]; exact Keep.push
    have a3 : At h3 h.size (depC d) := by rw [← hH3]; exact At.push
    have b3 := (a2.keep kh id).keep k3 id
    have e := fun q => str_eql (q := q) (a := d.name) (b := y.1.name)
    rw [fld_ptr, Mpu_some, Nat.add_zero, depNm a3, Mpu_some, fld_ptr, Mpu_some, Nat.add_zero, man_name b3, Mpu_some, e, Mpu_some]
    unfold fitM
    have ec : decide (y.1.name = d.name) = decide (d.name = y.1.name) := by rw [decide_eq_decide]; exact eq_comm
    rw [ec]
    cases hn : decide (d.name = y.1.name)
    · simp only [J1_eq, Mif_bool, Bool.false_eq_true, if_false, pickV_bool, Mpu_some, Bool.false_and]
      exact ⟨by trivial, k3⟩
    · refine J1_yes rfl ?_
      rw [fld_ptr, Mpu_some, Nat.zero_add, depWant a3 hdw, Mpu_some, fld_ptr, Mpu_some, Nat.zero_add, man_ver b3 hy, Mpu_some]
      refine call_i (c_WantFits hdw.want hy.ver (hO.keep (k02.trans (kh.trans k3)) fun _ h => h.elim)) ?_
      rintro _ h4 ⟨rfl, k4⟩
      rw [pickV_bool, if_pos rfl, Mpu_some, Bool.true_and]
      exact ⟨rfl, k3.trans k4⟩
  refine call_i (c_ContainsDep (hx.c.keep k02 fun _ _ => id) hx.wf.conf hd (fun h kh => kh) (by omega)) ?_
  rintro _ h3 ⟨rfl, k3⟩
  exact ⟨rfl, k02.trans k3⟩
theorem c_clash {P Q : Nat → Prop} {H : Heap} {mv : List MV} {wants : List Dep} {vh vw vc : Value} {b : Int} {ch : List Nat} {k : Nat} (hp : Prb P H mv wants vh vw) (hc : SlE 1 Q H vc (ints (zs ch))) (hk : ∀ k ∈ ch, k < (hvOf mv).length) (hkk : k < (hvOf mv).length) (hl : ch.length ≤ 1099511627776) (hO : OpsT H) :
    HCalls prg f_solve_Problem_clash [.agg (prbC vh vw b).toArray, vc, .int .i64 (k : Nat)] H fun u H' => u = .bool (clashF (hvOf mv) ch k) ∧ Keep (fun _ => False) H H' := by
  apply sh_solve_Problem_clash_calls
  unfold sh_solve_Problem_clash
  simp only [Cells_agg, Mnew_some]
  generalize hH1 : H.push (.cells (prbC vh vw b).toArray T_solve_Problem (0, 0)) = H1
  have k1 : Keep (fun _ => False) H H1 := by rw [← hH1]; exact Keep.push
  have a1 : At H1 H.size (prbC vh vw b) := by rw [← hH1]; exact At.push
  generalize hH2 : H1.push (.cells (Value.cells (.int .i64 (k : Nat))) T_int (0, 0)) = H2
  have k2 : Keep (fun _ => False) H1 H2 := by rw [← hH2]; exact Keep.push
  have a2 : At H2 H1.size [.int .i64 (k : Nat)] := by rw [← hH2]; exact At.push
  have k02 := k1.trans k2
  let del : Int → Bool := fun n => refM (gM (hvOf mv) n.toNat) (gM (hvOf mv) k) || refM (gM (hvOf mv) k) (gM (hvOf mv) n.toNat)
  have hd : DelI (.func (.func f_solve_Problem_clash_1) #[] #[Ptr H.size 0, Ptr H1.size 0]) (zs ch) del (fun h => Keep (fun _ => False) H2 h) := fun n h hn kh => by
    obtain ⟨i, him, rfl⟩ := zs_mem hn
    refine .inl ⟨f_solve_Problem_clash_1, #[], #[Ptr H.size 0, Ptr H1.size 0], rfl, by kernel_rfl, ?_⟩
    show HCalls prg f_solve_Problem_clash_1 [.int .i64 (i : Nat), Ptr H.size 0, Ptr H1.size 0] h _
    have hph := hp.keep (k02.trans kh) fun _ _ => id
    have aq := (a1.keep k2 id).keep kh id
    have ar := a2.keep kh id
    have hOh := hO.keep (k02.trans kh) fun _ h => h.elim
    apply sh_solve_Problem_clash_1_calls
    unfold sh_solve_Problem_clash_1
    obtain ⟨x, hx, hgx, hxm, hmx, bx, ox, hix, hpx, _⟩ := hph.at (hk i him)
    obtain ⟨y, hy, hgy, hym, hmy, by', oy, hiy, hpy, _⟩ := hph.at hkk
    have d0 : ∀ g, Keep (fun _ => False) h g → ld1 g (Ptr H.size 0) = some vh := fun g kg => (aq.keep kg id).ld rfl
    have dr : ∀ g, Keep (fun _ => False) h g → ld1 g (Ptr H1.size 0) = some (.int .i64 (k : Nat)) := fun g kg => (ar.keep kg id).ld rfl
    rw [fld_ptr, Mpu_some, Nat.add_zero, d0 _ Keep.refl, Mpu_some, hix .i64, Mpu_some, mv_agg hpx hmx.wf, Mpu_some]
    simp only [fld_ptr, Nat.add_zero, Mpu_some]
    rw [d0 _ Keep.refl, Mpu_some, dr _ Keep.refl, Mpu_some, hiy .i64, Mpu_some, mv_agg hpy hmy.wf, Mpu_some]
    refine call_i (c_refuses (Q := P) hmx hmy.wf (hp.sm x hxm).2 hOh) ?_
    rintro _ h1 ⟨rfl, k1'⟩
    have ei : del (i : Int) = (refM x.1 y.1 || refM y.1 x.1) := by
      show (refM (gM (hvOf mv) (i : Int).toNat) (gM (hvOf mv) k) || _) = _
      rw [show ((i : Int)).toNat = i from rfl, hgx, hgy]
    rw [ei]
    cases hr : refM x.1 y.1
    · refine J1_yes rfl ?_
      rw [d0 _ k1', Mpu_some, dr _ k1', Mpu_some, hiy .i64, Mpu_some, mv_agg (hpy.keep k1' id) hmy.wf, Mpu_some, Mpu_some, hix .i64, Mpu_some, mv_agg (hpx.keep k1' id) hmx.wf, Mpu_some]
      refine call_i (c_refuses (Q := P) (hmy.keep k1' fun _ _ => id) hmx.wf (hp.sm y hym).2 (hOh.keep k1' fun _ h => h.elim)) ?_
      rintro _ h3 ⟨rfl, k3⟩
      rw [pickV_bool, if_neg (by decide), Mpu_some, Bool.false_or]
      exact ⟨rfl, k1'.trans k3⟩
    · refine J1_no (by decide) ?_
      rw [pickV_bool, if_pos rfl, Mpu_some, Bool.true_or]
      exact ⟨rfl, k1'⟩
  refine call_i (c_ContainsInt (hc.keep k02 fun _ _ => id) hd (fun h kh => kh) (by rw [zs_len]; exact hl)) ?_
  rintro _ h3 ⟨rfl, k3⟩
  refine ⟨?_, k02.trans k3⟩
  unfold clashF zs
  rw [List.any_map]; rfl
end Go.Proofs.YtanhgihfgmbojaaGreatDoor

