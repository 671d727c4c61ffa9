/- JOINED: V120 V121 V122 -/
import Derived.Test.YtanhgihfgmbojaaGreatDoorGO
import Derived.Test.YtanhgihfgmbojaaGreatDoorGN
import Derived.Test.YtanhgihfgmbojaaGreatDoorG0
set_option linter.unusedSimpArgs false
set_option linter.unusedVariables false
/- strings: Count of one byte, Split, TrimSuffix, Lines. -/
namespace Go.Proofs.YtanhgihfgmbojaaGreatDoor
open Go.X Go.X.Diff
set_option maxRecDepth 100000

theorem zrow_v {v : Value} {n : Nat} : zrow #[v] n = (List.replicate n v).toArray := by
  apply Array.ext'
  unfold zrow
  simp only [Array.toList_map, Array.toList_range, List.toList_toArray]
  apply List.ext_getElem
  · simp
  · intro i h1 h2
    simp [Nat.mod_one]
theorem i_string : (prg.info? T_string).isSome = true := by kernel_rfl
theorem z_string : zcells prg T_string = some [str []].toArray := by kernel_rfl

/- TrimSuffix of one byte -/
/- Lines -/
end Go.Proofs.YtanhgihfgmbojaaGreatDoor

/- manifests: what they are, Deps that are right. -/
namespace Go.Proofs.YtanhgihfgmbojaaGreatDoor
open Go.X Go.X.Diff
set_option maxRecDepth 100000

structure Dep where
  name : List UInt8
  want : Want
structure Dep.wf (d : Dep) : Prop where
  want : d.want.wf
  name : d.name.length ≤ 9223372036854775807
def depC (d : Dep) : List Value := str d.name :: wantC d.want
def zeroD : Dep := ⟨[], zeroW⟩
theorem zeroD_wf : zeroD.wf := ⟨zeroW_wf, by simp [zeroD]⟩
theorem depC_len {d : Dep} (h : d.wf) : (depC d).length = 6 := by simp [depC, wantC_len h.want]
theorem depC_one {d : Dep} : ∀ c ∈ depC d, c.oneCell' = true := by
  intro c hc
  rcases List.mem_cons.1 hc with rfl | hc
  · rfl
  · exact wantC_one c hc
theorem z_Dep : zcells prg T_manifest_Dep = some (depC zeroD).toArray := by kernel_rfl
theorem k_Dep : structK prg T_manifest_Dep = some ([(0, 1), (1, 5)], (depC zeroD).toArray) := by kernel_rfl
theorem dep_want {h : Heap} {q : Nat} {d : Dep} (a : At h q (depC d)) (hd : d.wf) : ldN 5 h (Ptr q 1) = some (.agg (wantC d.want).toArray) := by
  obtain ⟨T, a⟩ := a
  exact ldN_mid (A := [str d.name]) (B := wantC d.want) (C := []) (by rw [List.append_nil]; exact a) rfl (wantC_len hd.want).symm

structure MFile where
  name : List UInt8
  sum : List UInt8
  size : Int
def fileC (f : MFile) : List Value := str f.name :: (bcells f.sum ++ [.int .i64 f.size])
structure MFile.wf (f : MFile) : Prop where
  name : f.name.length ≤ 9223372036854775807
  sum : f.sum.length = 32
  size : -9223372036854775808 ≤ f.size ∧ f.size ≤ 9223372036854775807
theorem fileC_len {f : MFile} (h : f.wf) : (fileC f).length = 34 := by simp [fileC, h.sum]
theorem fileC_one {f : MFile} : ∀ c ∈ fileC f, c.oneCell' = true := by
  intro c hc
  rcases List.mem_cons.1 hc with rfl | hc
  · rfl
  · rcases List.mem_append.1 hc with hc | hc
    · exact bcells_one c hc
    · simp at hc; subst hc; rfl

structure Man where
  name : List UInt8
  ver : Ver
  deps : List Dep
  conf : List Dep
  files : List MFile
structure Man.wf (m : Man) : Prop where
  name : m.name.length ≤ 9223372036854775807
  ver : m.ver.wf
  deps : ∀ d ∈ m.deps, d.wf
  conf : ∀ d ∈ m.conf, d.wf
  files : ∀ f ∈ m.files, f.wf
def manC (m : Man) (vd vc vf : Value) : List Value := str m.name :: (verC m.ver ++ [vd, vc, vf])
theorem manC_len {m : Man} {vd vc vf : Value} (h : m.wf) : (manC m vd vc vf).length = 8 := by simp [manC, verC_len h.ver]

/-- a manifest's value: what its slices hold -/
structure ManV (P : Nat → Prop) (H : Heap) (m : Man) (vd vc vf : Value) : Prop where
  d : SlE 6 P H vd (m.deps.map depC)
  c : SlE 6 P H vc (m.conf.map depC)
  f : SlE 34 P H vf (m.files.map fileC)
  wf : m.wf
theorem ManV.keep {P S : Nat → Prop} {H H' : Heap} {m : Man} {vd vc vf : Value} (h : ManV P H m vd vc vf) (k : Keep S H H') (hs : ∀ b, P b → ¬ S b) : ManV P H' m vd vc vf :=
  ⟨h.d.keep k hs, h.c.keep k hs, h.f.keep k hs, h.wf⟩
theorem ManV.one {P : Nat → Prop} {H : Heap} {m : Man} {vd vc vf : Value} (h : ManV P H m vd vc vf) : ∀ c ∈ manC m vd vc vf, c.oneCell' = true := by
  intro c hc
  rcases List.mem_cons.1 hc with rfl | hc
  · rfl
  rcases List.mem_append.1 hc with hc | hc
  · exact verC_one c hc
  simp at hc
  rcases hc with rfl | rfl | rfl
  · exact h.d.oneC
  · exact h.c.oneC
  · exact h.f.oneC
section
variable {h : Heap} {q : Nat} {m : Man} {vd vc vf : Value}
theorem man_name (a : At h q (manC m vd vc vf)) : ld1 h (Ptr q 0) = some (str m.name) := a.ld rfl
theorem man_ver (a : At h q (manC m vd vc vf)) (hm : m.wf) : ldN 4 h (Ptr q 1) = some (.agg (verC m.ver).toArray) := by
  obtain ⟨T, a⟩ := a
  exact ldN_mid (A := [str m.name]) (B := verC m.ver) (C := [vd, vc, vf]) a rfl (verC_len hm.ver).symm
theorem man_get (a : At h q (manC m vd vc vf)) (hm : m.wf) : ld1 h (Ptr q 5) = some vd ∧ ld1 h (Ptr q 6) = some vc ∧ ld1 h (Ptr q 7) = some vf := by
  have h4 := verC_len hm.ver
  refine ⟨a.ld ?_, a.ld ?_, a.ld ?_⟩ <;> simp [manC, List.getElem?_append_right, h4]
theorem man_ld (a : At h q (manC m vd vc vf)) (hm : m.wf) : ldN 8 h (Ptr q 0) = some (.agg (manC m vd vc vf).toArray) := a.ldN (manC_len hm)
end

/- rising names -/
def riseAt (l : List (List UInt8)) (i : Nat) : Bool := decide (i = 0) || lessB (l.getD (i - 1) []) (l.getD i [])
def riseF (l : List (List UInt8)) : Bool := (List.range l.length).all (riseAt l)
theorem rise_bad {l : List (List UInt8)} {i : Nat} (hi : i < l.length) (h : riseAt l i = false) : riseF l = false := by
  unfold riseF
  rw [List.all_eq_false]; exact ⟨i, by simpa using hi, by simp [h]⟩
theorem rise_snoc {l : List (List UInt8)} {i : Nat} (h : (List.range i).all (riseAt l) = true) (hb : riseAt l i = true) : (List.range (i + 1)).all (riseAt l) = true := by
  rw [List.range_succ, List.all_append, h]; simp [hb]

theorem c_depName {H : Heap} {d : Dep} : HCalls prg f_manifest_Dep_name [.agg (depC d).toArray] H fun u H' => u = str d.name ∧ Keep (fun _ => False) H H' := by
  apply sh_manifest_Dep_name_calls
  unfold sh_manifest_Dep_name
  simp only [Cells_agg, Mnew_some]
  have a : At (H.push (.cells (depC d).toArray T_manifest_Dep (0, 0))) H.size (depC d) := At.push
  have d0 : ld1 (H.push (.cells (depC d).toArray T_manifest_Dep (0, 0))) (Ptr H.size 0) = some (str d.name) := a.ld rfl
  rw [fld_ptr, Mpu_some, Nat.add_zero, d0, Mpu_some]
  exact ⟨rfl, Keep.push⟩

theorem c_riseDep {P : Nat → Prop} {H : Heap} {v : Value} {l : List Dep} (hv : SlE 6 P H v (l.map depC)) (hw : ∀ d ∈ l, d.wf) (hl : l.length ≤ 1099511627776) :
    HCalls prg f_manifest_rising_manifest_Dep [v, .func (.func f_manifest_Dep_name) #[] #[]] H fun u H' => u = .bool (riseF (l.map (·.name))) ∧ Keep (fun _ => False) H H' := by
  apply sh_manifest_rising_manifest_Dep_calls
  unfold sh_manifest_rising_manifest_Dep
  have hlen := hv.len
  rw [List.length_map] at hlen
  have hln : (l.map (·.name)).length = l.length := by simp
  have hcall : ∀ (d : Dep) (h : Heap) (k : Value → Heap → Prop), (∀ h', Keep (fun _ => False) h h' → k (str d.name) h') → Mcallv prg (.func (.func f_manifest_Dep_name) #[] #[]) [.agg (depC d).toArray] h k := fun d h k hk =>
    .inl ⟨f_manifest_Dep_name, #[], #[], rfl, by kernel_rfl, HCalls.mono (R := fun u H' => u = str d.name ∧ Keep (fun _ => False) h H') (c_depName (d := d)) fun u h' hR => by obtain ⟨rfl, k'⟩ := hR; exact hk h' k'⟩
  refine J1_i (fun _ h => riseF (l.map (·.name)) = true ∧ Keep (fun _ => False) H h) (fun k hk => ?_) ?_
  · refine L1_i (fun u h => ∃ i : Nat, 1 ≤ i ∧ u = .int .i64 (i : Nat) ∧ (List.range (min i l.length)).all (riseAt (l.map (·.name))) = true ∧ Keep (fun _ => False) H h) (fun u _ => match u with | .int _ t => l.length - t.toNat | _ => 0) ⟨1, Nat.le_refl _, rfl, ?_, Keep.refl⟩ ?_
    · by_cases h0 : l.length = 0
      · rw [h0]; rfl
      · rw [Nat.min_eq_left (by omega)]; rfl
    rintro _ h ⟨i, hi, rfl, hall, kh⟩ k2 hk2
    have e1 : binV .no .lss (.int .i64 (i : Nat)) (.int .i64 (l.length : Nat)) = some (.bool (decide (i < l.length))) := by
      rw [binV_int]; simp only [intV]; congr 2; rw [decide_eq_decide]; omega
    rw [hlen, Mpu_some, e1, Mpu_some, Mcd_bool]
    by_cases hlt : i < l.length
    · rw [if_pos (by simpa using hlt)]
      have hg : l[i]? = some l[i] := List.getElem?_eq_getElem hlt
      have hg' : l[i - 1]? = some (l[i - 1]'(by omega)) := List.getElem?_eq_getElem (by omega)
      have hvh := hv.keep kh fun _ _ => id
      obtain ⟨b, o, hix, hpt, _⟩ := hvh.at (i := i) (x := depC l[i]) (by rw [List.getElem?_map, hg]; rfl)
      obtain ⟨b', o', hix', hpt', _⟩ := hvh.at (i := i - 1) (x := depC (l[i - 1]'(by omega))) (by rw [List.getElem?_map, hg']; rfl)
      have hwd := hw _ (List.getElem_mem hlt)
      have hwd' := hw _ (List.getElem_mem (show i - 1 < l.length by omega))
      have hra : riseAt (l.map (·.name)) i = lessB (l[i - 1]'(by omega)).name l[i].name := by
        have h0 : ((l.map (·.name)).getD (i - 1) []) = (l[i - 1]'(by omega)).name := by simp [List.getD, hg']
        have h1 : ((l.map (·.name)).getD i []) = l[i].name := by simp [List.getD, hg]
        unfold riseAt
        rw [h0, h1, decide_eq_false (by omega)]; rfl
      generalize l[i] = d at *
      generalize (l[i - 1]'(by omega)) = d' at *
      have e2 : binV .no .sub (.int .i64 (i : Nat)) (.int .i64 1) = some (.int .i64 ((i - 1 : Nat) : Int)) := by
        rw [binV_int]; simp only [intV]; rw [wrap_id (by omega) (by omega)]; congr 2; omega
      rw [e2, Mpu_some, hix' .i64, Mpu_some, hpt'.agg (depC_len hwd'), Mpu_some, hix .i64, Mpu_some, hpt.agg (depC_len hwd), Mpu_some]
      refine hcall d' h _ fun h5 k5 => ?_
      refine ⟨(hpt.keep k5 id).agg (depC_len hwd), ?_⟩
      refine hcall d h5 _ fun h6 k6 => ?_
      have hge : binV .no .geq (str d'.name) (str d.name) = some (.bool (!lessB d'.name d.name)) := by rw [binV_str]; exact strV_geq
      rw [hge, Mpu_some, Mcd_bool]
      have kk := kh.trans (k5.trans k6)
      cases hb : lessB d'.name d.name
      · rw [if_pos (show (!false) = true from rfl)]
        exact ⟨by rw [rise_bad (i := i) (by rw [hln]; exact hlt) (by rw [hra, hb])], kk⟩
      · rw [if_neg (by decide), add_one' (by omega), Mpu_some]
        refine hk2 _ _ ⟨i + 1, by omega, rfl, ?_, kk⟩ (by show l.length - (i + 1) < l.length - i; omega)
        rw [Nat.min_eq_left (by omega)] at hall ⊢
        exact rise_snoc hall (by rw [hra, hb])
    · rw [if_neg (by simpa using hlt)]
      refine hk _ _ ⟨?_, kh⟩
      rw [Nat.min_eq_right (by omega)] at hall
      unfold riseF
      rw [hln]; exact hall
  · rintro _ h ⟨h1, h2⟩
    exact ⟨by rw [h1], h2⟩

/- Deps -/
def depAt (own : List UInt8) (d : Dep) : Bool := nameOk d.name && !decide (d.name = own) && wantOk d.want
def depsOk (own : List UInt8) (l : List Dep) : Bool := l.all (depAt own) && decide (l.length ≤ 16) && riseF (l.map (·.name))
theorem depsOk_bad {own : List UInt8} {l : List Dep} {d : Dep} (hd : d ∈ l) (h : depAt own d = false) : depsOk own l = false := by
  unfold depsOk
  rw [List.all_eq_false.2 ⟨d, hd, by simp [h]⟩]; rfl

theorem c_deps {P : Nat → Prop} {H : Heap} {m : Man} {vd vc vf v : Value} {l : List Dep} (hv : SlE 6 P H v (l.map depC)) (hw : ∀ d ∈ l, d.wf) (hO : OpsT H) (hl : l.length ≤ 1099511627776) :
    HCalls prg f_manifest_Manifest_deps [.agg (manC m vd vc vf).toArray, v] H fun u H' => u = .bool (depsOk m.name l) ∧ Keep (fun _ => False) H H' := by
  apply sh_manifest_Manifest_deps_calls
  unfold sh_manifest_Manifest_deps
  have hlen := hv.len
  rw [List.length_map] at hlen
  simp only [Cells_agg, Mnew_some]
  generalize hH1 : H.push (.cells (manC m vd vc vf).toArray T_manifest_Manifest (0, 0)) = H1
  have k1 : Keep (fun _ => False) H H1 := by rw [← hH1]; exact Keep.push
  have a1 : At H1 H.size (manC m vd vc vf) := by rw [← hH1]; exact At.push
  have s1 : H1.size = H.size + 1 := by rw [← hH1]; simp
  refine J1_i (fun _ h => l.all (depAt m.name) = true ∧ Keep (fun _ => False) H1 h) (fun k hk => ?_) ?_
  · rw [hlen, Mpu_some]
    refine L1_i (fun u h => ∃ i : Nat, i ≤ l.length ∧ u = .int .i64 (i : Nat) ∧ (l.take i).all (depAt m.name) = true ∧ Keep (fun _ => False) H1 h) (fun u _ => match u with | .int _ t => l.length - t.toNat | _ => 0) ⟨0, Nat.zero_le _, rfl, rfl, Keep.refl⟩ ?_
    rintro _ h ⟨i, hi, rfl, hall, kh⟩ k2 hk2
    have e1 : binV .no .lss (.int .i64 (i : Nat)) (.int .i64 (l.length : Nat)) = some (.bool (decide (i < l.length))) := by
      rw [binV_int]; simp only [intV]; congr 2; rw [decide_eq_decide]; omega
    rw [e1, Mpu_some, Mcd_bool]
    by_cases hlt : i < l.length
    · rw [if_pos (by simpa using hlt)]
      have hg : l[i]? = some l[i] := List.getElem?_eq_getElem hlt
      have hvh := hv.keep (k1.trans kh) fun _ _ => id
      obtain ⟨b, o, hix, hpt, _⟩ := hvh.at (i := i) (x := depC l[i]) (by rw [List.getElem?_map, hg]; rfl)
      have hwd := hw _ (List.getElem_mem hlt)
      have hmem : l[i] ∈ l := List.getElem_mem hlt
      have hnext : depAt m.name l[i] = true → (l.take (i + 1)).all (depAt m.name) = true := fun hb => by
        rw [List.take_add_one, hg, List.all_append, hall]; simp [hb]
      generalize l[i] = d at *
      rw [hix .i64, Mpu_some, hpt.agg (depC_len hwd), Mpu_some]
      simp only [z_Dep, Mnew_some]
      generalize hH6 : h.push (.cells (depC zeroD).toArray T_manifest_Dep (0, 0)) = h6
      have k6 : Keep (fun _ => False) h h6 := by rw [← hH6]; exact Keep.push
      have a6 : At h6 h.size (depC zeroD) := by rw [← hH6]; exact At.push
      obtain ⟨h7, st7, a7, k7⟩ := a6.st (n := 6) (ds := depC d) (depC_len zeroD_wf) (depC_len hwd) depC_one
      have g1 := kh.1
      have k17 : Keep (fun _ => False) H1 h7 := (kh.trans k6).fresh k7 fun b hb => by omega
      have d0 : ld1 h7 (Ptr h.size 0) = some (str d.name) := a7.ld rfl
      rw [st7, Mwr_some, fld_ptr, Mpu_some, Nat.add_zero, d0, Mpu_some]
      refine call_i (c_Name hwd.name) ?_
      rintro _ h8 ⟨rfl, k8⟩
      have a8 := a7.keep k8 id
      have k18 := k17.trans k8
      have m8 := man_name (a1.keep k18 id)
      have d8 : ld1 h8 (Ptr h.size 0) = some (str d.name) := a8.ld rfl
      have w8 := dep_want a8 hwd
      have hO8 := hO.keep (k1.trans k18) fun _ h => h.elim
      have eqn : binV .no .eql (str d.name) (str m.name) = some (.bool (decide (d.name = m.name))) := str_eql
      have bad : depAt m.name d = false → ∀ h', Keep (fun _ => False) h8 h' → Value.bool false = .bool (depsOk m.name l) ∧ Keep (fun _ => False) H h' := fun hb h' k' => ⟨by rw [depsOk_bad hmem hb], k1.trans (k18.trans k')⟩
      cases hn : nameOk d.name
      · simp only [fld_ptr, Nat.add_zero, Nat.zero_add, unV_not, Bool.not_true, Bool.not_false, Mif_bool, Mif_undef, pickV_bool, Mcd_bool, Mpu_some, if_true, if_false, Bool.false_eq_true, Bool.true_eq_false, decide_true, decide_false, reduceCtorEq, J1_eq, ex20, ex21, ex30, ex31, ex32, Mre_ok, Mre_nil]
        exact bad (by simp [depAt, hn]) _ Keep.refl
      cases hq : decide (d.name = m.name)
      · simp only [fld_ptr, Nat.add_zero, Nat.zero_add, d8, m8, eqn, hq, w8, unV_not, Bool.not_true, Bool.not_false, Mif_bool, Mif_undef, pickV_bool, Mcd_bool, Mpu_some, if_true, if_false, Bool.false_eq_true, Bool.true_eq_false, decide_true, decide_false, reduceCtorEq, J1_eq, ex20, ex21, ex30, ex31, ex32, Mre_ok, Mre_nil]
        refine call_i (c_WantRight hwd.want hO8) ?_
        rintro _ h9 ⟨rfl, k9⟩
        cases hk9 : wantOk d.want
        · simp only [unV_not, Bool.not_true, Bool.not_false, Mif_bool, Mif_undef, pickV_bool, Mcd_bool, Mpu_some, if_true, if_false, Bool.false_eq_true, Bool.true_eq_false, decide_true, decide_false, reduceCtorEq, J1_eq, ex20, ex21, ex30, ex31, ex32, Mre_ok, Mre_nil]
          exact bad (by simp [depAt, hk9]) _ k9
        · simp only [unV_not, Bool.not_true, Bool.not_false, Mif_bool, Mif_undef, pickV_bool, Mcd_bool, Mpu_some, if_true, if_false, Bool.false_eq_true, Bool.true_eq_false, decide_true, decide_false, reduceCtorEq, J1_eq, ex20, ex21, ex30, ex31, ex32, Mre_ok, Mre_nil]
          rw [add_one' (by omega), Mpu_some]
          exact hk2 _ _ ⟨i + 1, by omega, rfl, hnext (by simp [depAt, hn, hk9, of_decide_eq_false hq]), k18.trans k9⟩ (by show l.length - (i + 1) < l.length - i; omega)
      · simp only [fld_ptr, Nat.add_zero, Nat.zero_add, d8, m8, eqn, hq, unV_not, Bool.not_true, Bool.not_false, Mif_bool, Mif_undef, pickV_bool, Mcd_bool, Mpu_some, if_true, if_false, Bool.false_eq_true, Bool.true_eq_false, decide_true, decide_false, reduceCtorEq, J1_eq, ex20, ex21, ex30, ex31, ex32, Mre_ok, Mre_nil]
        exact bad (by simp [depAt, of_decide_eq_true hq]) _ Keep.refl
    · rw [if_neg (by simpa using hlt)]
      refine hk _ _ ⟨?_, kh⟩
      rwa [List.take_of_length_le (by omega)] at hall
  · rintro _ h ⟨hall, kh⟩
    have e3 : binV .no .leq (.int .i64 (l.length : Nat)) (.int .i64 16) = some (.bool (decide (l.length ≤ 16))) := by
      rw [binV_int]; simp only [intV]; congr 2; rw [decide_eq_decide]; omega
    have kk := k1.trans kh
    rw [hlen, Mpu_some, e3, Mpu_some]
    unfold depsOk
    rw [hall]
    cases h16 : decide (l.length ≤ 16)
    · simp only [unV_not, Bool.not_true, Bool.not_false, Mif_bool, Mif_undef, pickV_bool, Mcd_bool, Mpu_some, if_true, if_false, Bool.false_eq_true, Bool.true_eq_false, decide_true, decide_false, reduceCtorEq, J1_eq, ex20, ex21, ex30, ex31, ex32, Mre_ok, Mre_nil, Bool.true_and, Bool.false_and]
      exact ⟨by trivial, kk⟩
    · simp only [unV_not, Bool.not_true, Bool.not_false, Mif_bool, Mif_undef, pickV_bool, Mcd_bool, Mpu_some, if_true, if_false, Bool.false_eq_true, Bool.true_eq_false, decide_true, decide_false, reduceCtorEq, J1_eq, ex20, ex21, ex30, ex31, ex32, Mre_ok, Mre_nil, Bool.true_and]
      refine call_i (c_riseDep (hv.keep kk fun _ _ => id) hw hl) ?_
      rintro _ h2 ⟨rfl, k2⟩
      simp only [unV_not, Bool.not_true, Bool.not_false, Mif_bool, Mif_undef, pickV_bool, Mcd_bool, Mpu_some, if_true, if_false, Bool.false_eq_true, Bool.true_eq_false, decide_true, decide_false, reduceCtorEq, J1_eq, ex20, ex21, ex30, ex31, ex32, Mre_ok, Mre_nil]
      exact ⟨by trivial, kk.trans k2⟩
end Go.Proofs.YtanhgihfgmbojaaGreatDoor

/- manifests without files: Right, line, Show. -/
namespace Go.Proofs.YtanhgihfgmbojaaGreatDoor
open Go.X Go.X.Diff
set_option maxRecDepth 100000

def manOk (m : Man) : Bool := nameOk m.name && verOk m.ver && depsOk m.name m.deps && depsOk m.name m.conf

/- a line of words -/
end Go.Proofs.YtanhgihfgmbojaaGreatDoor

