/- JOINED: V127 V128 -/
import Derived.Test.YtconalffokhplaaGreatDoorG3
import Derived.Test.YtconalffokhplaaGreatDoorGJ
set_option linter.unusedSimpArgs false
set_option linter.unusedVariables false
/- ManifestFits. -/
namespace Go.Proofs.YtconalffokhplaaGreatDoor
open Go.X Go.X.Diff
set_option maxRecDepth 100000

theorem bsl1S {a : Option Addr} {n c : Nat} : bslV prg T_S_uint8 1 [(0, .slice a n c)] = some #[.slice a n c] := by kernel_rfl
/-- tag.File -/
theorem c_tagFile {Pd : Nat → Prop} {H : Heap} {v : Value} {m : List UInt8} (hx : Sl Pd H v m) (hT : ShaT H) (hPd : ∀ b, Pd b → b < H.size) (hl : m.length ≤ 1099511627776) :
    HCalls prg f_tag_File [v] H fun u H' => u = bv (shaF (6 :: m)) ∧ Keep (fun _ => False) H H' := by
  apply sh_tag_File_calls
  unfold sh_tag_File
  obtain ⟨va, vc, hve, _⟩ := hx.sl
  simp only [z_Hash, Mnew_some, hve, bsl1S, Mnews_some]
  rw [← hve]
  generalize hH2 : H.push (.cells (bcells zeroH).toArray T_sha_Hash (0, 0)) = H2
  have k2 : Keep (fun _ => False) H H2 := by rw [← hH2]; exact Keep.push
  have hs2 : H2.size = H.size + 1 := by rw [← hH2]; simp
  have hr2 : H2[H.size]? = some (.cells (bcells zeroH).toArray T_sha_Hash (0, 0)) := by rw [← hH2]; exact push_new
  generalize hH3 : H2.push (.cells #[v] T_S_uint8 (0, 0)) = H3
  have k3 : Keep (fun _ => False) H2 H3 := by rw [← hH3]; exact Keep.push
  have hs3 : H3.size = H2.size + 1 := by rw [← hH3]; simp
  have hv3 : H3[H2.size]? = some (.cells #[v] T_S_uint8 (0, 0)) := by rw [← hH3]; exact push_new
  have kk : Keep (fun _ => False) H H3 := k2.trans k3
  have sv : Sl Pd H3 v m := hx.keep kk fun _ _ => id
  have hvv : SlE 1 (· = H2.size) H3 (.slice (some ⟨H2.size, 0, none⟩) 1 1) (rows1 ([(v, m)].map (·.1))) := by
    refine ⟨⟨_, 1, rfl, Nat.le_refl _, .inr ⟨H2.size, 0, rfl, rfl, ?_⟩⟩, rows1_el, rows1_one' (P := Pd) (H := H3) ?_⟩
    · rw [rows1_flat]; exact Pt.of hv3
    · intro x hx; simp at hx; subst hx; exact sv
  refine call_i (c_tag_sum (Pd := Pd) hvv ?_ (hT.keep kk fun _ h => h.elim) (fun b hb => by omega) (fun b hb => ?_) ?_ (by simp)) ?_
  · intro x hx; simp at hx; subst hx; exact sv
  · have := hPd b hb; omega
  · simp [partsB]; omega
  rintro _ H4 ⟨rfl, k4⟩
  have hr4 := (k3.trans k4).at hr2 id
  have e6 : (bO 6 :: partsB [(v, m)]) = 6 :: m := by simp [partsB]; rfl
  rw [stN_bytes hr4 (n := 32) rfl shaF_len, Mwr_some, ldN_bytes (set_self hr4) shaF_len, Mpu_some]
  refine ⟨by rw [e6], ?_⟩
  have := (kk.trans k4)
  refine ⟨by simp; exact this.1, fun i hi _ => ?_⟩
  rw [Array.getElem?_setIfInBounds, if_neg (by omega), this.2 i hi id]

/- files' cells -/
def zeroF : MFile := ⟨[], List.replicate 32 0, 0⟩
theorem zeroF_wf : zeroF.wf := ⟨by simp [zeroF], by simp [zeroF], by simp [zeroF]⟩
theorem z_File : zcells prg T_manifest_File = some (fileC zeroF).toArray := by kernel_rfl
section
variable {h : Heap} {b o : Nat} {f : MFile}
theorem pt_name (a : Pt h b o (fileC f)) : ld1 h (Ptr b o) = some (str f.name) := a.cell0 rfl
theorem pt_size (a : Pt h b o (fileC f)) (hf : f.wf) : ld1 h (Ptr b (o + 33)) = some (.int .i64 f.size) := a.cell (i := 33) (by
  unfold fileC
  rw [List.getElem?_cons_succ, List.getElem?_append_right (by simp [hf.sum])]
  simp [hf.sum])
theorem pt_sum (a : Pt h b o (fileC f)) (hf : f.wf) : ldN 32 h (Ptr b (o + 1)) = some (bv f.sum) := by
  have : Pt h b (o + 1) (bcells f.sum) := Pt.mid (A := [str f.name]) (B := bcells f.sum) (C := [.int .i64 f.size]) (o := o) (by simpa [fileC] using a) (by simp)
  exact this.agg (by simp [hf.sum])
end

/-- rows of bytes -/
structure BSS (P Q : Nat → Prop) (H : Heap) (v : Value) (xs : List (Value × List UInt8)) : Prop where
  sl : SlE 1 P H v (rows1 (xs.map (·.1)))
  el : ∀ x ∈ xs, Sl Q H x.1 x.2
theorem BSS.keep {P Q S : Nat → Prop} {H H' : Heap} {v : Value} {xs : List (Value × List UInt8)} (h : BSS P Q H v xs) (k : Keep S H H') (h1 : ∀ b, P b → ¬ S b) (h2 : ∀ b, Q b → ¬ S b) : BSS P Q H' v xs :=
  ⟨h.sl.keep k h1, fun x hx => (h.el x hx).keep k h2⟩
theorem BSS.len {P Q : Nat → Prop} {H : Heap} {v : Value} {xs : List (Value × List UInt8)} (h : BSS P Q H v xs) : lenV v = some (.int .i64 xs.length) := by have := h.sl.len; simpa using this
theorem BSS.at {P Q : Nat → Prop} {H : Heap} {v : Value} {xs : List (Value × List UInt8)} (h : BSS P Q H v xs) {i : Nat} {x : Value × List UInt8} (hi : xs[i]? = some x) : Sl Q H x.1 x.2 ∧ ∃ p, (∀ k, ixS 1 v (.int k i) = some p) ∧ ld1 H p = some x.1 := by
  obtain ⟨b, o, hix, hpt, _⟩ := h.sl.at (i := i) (x := [x.1]) (rows1_get (by simp [hi]))
  exact ⟨h.el x (List.mem_of_getElem? hi), Ptr b o, hix, hpt.cell0 rfl⟩

/- what fits -/
def fitAt (f : MFile) (b : List UInt8) : Bool := decide ((b.length : Int) = f.size) && decide (shaF (6 :: b) = f.sum)
def fitsAll : List MFile → List (List UInt8) → Bool
  | f :: fs, b :: bs => fitAt f b && fitsAll fs bs
  | [], [] => true
  | _, _ => false
theorem fits_take : ∀ {fs : List MFile} {bs : List (List UInt8)} {i : Nat} {f : MFile} {b : List UInt8}, fs[i]? = some f → bs[i]? = some b → fitsAll (fs.take (i + 1)) (bs.take (i + 1)) = (fitsAll (fs.take i) (bs.take i) && fitAt f b)
  | [], _, i, f, b, h, _ => by simp at h
  | _ :: _, [], i, f, b, _, h => by simp at h
  | g :: fs, c :: bs, 0, f, b, h1, h2 => by
    simp at h1 h2; subst h1 h2
    simp [fitsAll]
  | g :: fs, c :: bs, i + 1, f, b, h1, h2 => by
    have ih := fits_take (fs := fs) (bs := bs) (i := i) (f := f) (b := b) (by simpa using h1) (by simpa using h2)
    rw [List.take_succ_cons, List.take_succ_cons, fitsAll, ih, List.take_succ_cons, List.take_succ_cons, fitsAll, Bool.and_assoc]
theorem fits_bad : ∀ {fs : List MFile} {bs : List (List UInt8)} {i : Nat} {f : MFile} {b : List UInt8}, fs[i]? = some f → bs[i]? = some b → fitAt f b = false → fitsAll fs bs = false
  | [], _, i, f, b, h, _, _ => by simp at h
  | _ :: _, [], i, f, b, _, h, _ => by simp at h
  | g :: fs, c :: bs, 0, f, b, h1, h2, h3 => by
    simp at h1 h2; subst h1 h2
    simp [fitsAll, h3]
  | g :: fs, c :: bs, i + 1, f, b, h1, h2, h3 => by
    have ih := fits_bad (fs := fs) (bs := bs) (i := i) (f := f) (b := b) (by simpa using h1) (by simpa using h2) h3
    rw [fitsAll, ih, Bool.and_false]
theorem fits_len : ∀ {fs : List MFile} {bs : List (List UInt8)}, bs.length ≠ fs.length → fitsAll fs bs = false
  | [], [], h => absurd rfl h
  | [], _ :: _, _ => rfl
  | _ :: _, [], _ => rfl
  | f :: fs, b :: bs, h => by
    rw [fitsAll, fits_len (fs := fs) (bs := bs) (fun e => h (by simp [e])), Bool.and_false]

theorem eq_len_size {n : Nat} {s : Int} : binV .no .eql (.int .i64 (n : Nat)) (.int .i64 s) = some (.bool (decide ((n : Int) = s))) := by
  rw [binV_int]; simp only [intV]; congr 2
theorem ne_len_size {n : Nat} {s : Int} : binV .no .neq (.int .i64 (n : Nat)) (.int .i64 s) = some (.bool (!decide ((n : Int) = s))) := by
  rw [binV_int]; simp only [intV]; congr 2
theorem c_Fits {P Q R : Nat → Prop} {H : Heap} {m : Man} {vd vc vf v : Value} {xs : List (Value × List UInt8)} (hv : ManV P H m vd vc vf) (hx : BSS Q R H v xs) (hR : ∀ b, R b → b < H.size) (hl : xs.length ≤ 1048576) (hb : ∀ x ∈ xs, x.2.length ≤ 1048576) (hT : ShaT H) :
    HCalls prg f_manifest_Manifest_Fits [.agg (manC m vd vc vf).toArray, v] H fun u H' => u = .bool (fitsAll m.files (xs.map (·.2))) ∧ Keep (fun _ => False) H H' := by
  apply sh_manifest_Manifest_Fits_calls
  unfold sh_manifest_Manifest_Fits
  simp only [Cells_agg, Mnew_some]
  generalize hH1 : H.push (.cells (manC m vd vc vf).toArray T_manifest_Manifest (0, 0)) = H1
  have k1 : Keep (fun _ => False) H H1 := by rw [← hH1]; exact Keep.push
  have a1 : At H1 H.size (manC m vd vc vf) := by rw [← hH1]; exact At.push
  have w := hv.wf
  have g7 := (man_get a1 w).2.2
  have lf : lenV vf = some (.int .i64 m.files.length) := by have := hv.f.len; rwa [List.length_map] at this
  have en : binV .no .neq (.int .i64 (xs.length : Nat)) (.int .i64 (m.files.length : Nat)) = some (.bool (!decide (xs.length = m.files.length))) := by
    rw [binV_int]; simp only [intV]; congr 2; rw [Bool.eq_iff_iff]; simp <;> omega
  rw [hx.len, Mpu_some, fld_ptr, Mpu_some, Nat.zero_add, g7, Mpu_some, lf, Mpu_some, en, Mpu_some, Mcd_bool]
  by_cases hne : xs.length = m.files.length
  · rw [if_neg (by simp [hne])]
    refine J1_i (fun _ h => fitsAll m.files (xs.map (·.2)) = true ∧ Keep (fun _ => False) H h) (fun k hk => ?_) ?_
    · rw [Mpu_some, g7, Mpu_some, lf, Mpu_some]
      refine L1_i (fun u h => ∃ i : Nat, i ≤ m.files.length ∧ u = .int .i64 (i : Nat) ∧ fitsAll (m.files.take i) ((xs.map (·.2)).take i) = true ∧ Keep (fun _ => False) H1 h) (fun u _ => match u with | .int _ t => m.files.length - t.toNat | _ => 0) ⟨0, Nat.zero_le _, rfl, rfl, Keep.refl⟩ ?_
      rintro _ h ⟨i, hi, rfl, hall, kh⟩ k2 hk2
      have e1 : binV .no .lss (.int .i64 (i : Nat)) (.int .i64 (m.files.length : Nat)) = some (.bool (decide (i < m.files.length))) := by
        rw [binV_int]; simp only [intV]; congr 2; rw [decide_eq_decide]; omega
      rw [e1, Mpu_some, Mcd_bool]
      by_cases hlt : i < m.files.length
      · rw [if_pos (by simpa using hlt)]
        have k0 := k1.trans kh
        have hg : m.files[i]? = some m.files[i] := List.getElem?_eq_getElem hlt
        have hgx : xs[i]? = some (xs[i]'(by omega)) := List.getElem?_eq_getElem (by omega)
        obtain ⟨b, o, hix, hpt, _⟩ := (hv.f.keep k0 fun _ _ => id).at (i := i) (x := fileC m.files[i]) (by rw [List.getElem?_map, hg]; rfl)
        have hwf := w.files _ (List.getElem_mem hlt)
        have hbl := hb _ (List.getElem_mem (show i < xs.length by omega))
        have hgb : (xs.map (·.2))[i]? = some (xs[i]'(by omega)).2 := by rw [List.getElem?_map, hgx]; rfl
        have hft := fits_take hg hgb
        rw [hall, Bool.true_and] at hft
        have hfb := fits_bad hg hgb
        generalize m.files[i] = f at *
        generalize (xs[i]'(by omega)) = x at *
        rw [hix .i64, Mpu_some, hpt.agg (fileC_len hwf), Mpu_some]
        simp only [z_File, Mnew_some]
        generalize hH6 : h.push (.cells (fileC zeroF).toArray T_manifest_File (0, 0)) = h6
        have k6 : Keep (fun _ => False) h h6 := by rw [← hH6]; exact Keep.push
        have a6 : At h6 h.size (fileC zeroF) := by rw [← hH6]; exact At.push
        obtain ⟨h7, st7, a7, k7⟩ := a6.st (n := 34) (ds := fileC f) (fileC_len zeroF_wf) (fileC_len hwf) fileC_one
        have g0 := k0.1
        have k07 : Keep (fun _ => False) H h7 := (k0.trans k6).fresh k7 fun b hb => by omega
        have k17 : Keep (fun _ => False) H1 h7 := (kh.trans k6).fresh k7 fun b hb => by have := kh.1; omega
        have hx7 := hx.keep k07 (fun _ _ => id) fun _ _ => id
        obtain ⟨hs, p, hp, hld⟩ := hx7.at hgx
        have d33 := pt_size a7.pt hwf
        have d1 := pt_sum a7.pt hwf
        rw [Nat.zero_add] at d33 d1
        rw [st7, Mwr_some, hp .i64, Mpu_some, hld, Mpu_some, hs.len, Mpu_some, fld_ptr, Mpu_some, Nat.zero_add, d33, Mpu_some, ne_len_size, Mpu_some]
        have bad : fitAt f x.2 = false → ∀ g, Keep (fun _ => False) H g → Value.bool false = .bool (fitsAll m.files (xs.map (·.2))) ∧ Keep (fun _ => False) H g := fun hf g kg => ⟨by rw [hfb hf], kg⟩
        cases hsz : decide ((x.2.length : Int) = f.size)
        · simp only [unV_not, Bool.not_true, Bool.not_false, Mif_bool, Mif_undef, pickV_bool, Mcd_bool, Mpu_some, if_true, if_false, Bool.false_eq_true, Bool.true_eq_false, decide_true, decide_false, reduceCtorEq, J1_eq, ex20, ex21, ex30, ex31, ex32, Mre_ok, Mre_nil]
          exact bad (by simp [fitAt, hsz]) _ k07
        · simp only [hp .i64, hld, fld_ptr, Nat.zero_add, d1, unV_not, Bool.not_true, Bool.not_false, Mif_bool, Mif_undef, pickV_bool, Mcd_bool, Mpu_some, if_true, if_false, Bool.false_eq_true, Bool.true_eq_false, decide_true, decide_false, reduceCtorEq, J1_eq, ex20, ex21, ex30, ex31, ex32, Mre_ok, Mre_nil]
          refine call_i (c_tagFile hs (hT.keep k07 fun _ h => h.elim) (fun b hb => Nat.lt_of_lt_of_le (hR b hb) k07.1) (by omega)) ?_
          rintro _ h9 ⟨rfl, k9⟩
          have d1' := pt_sum (a7.keep k9 id).pt hwf
          rw [Nat.zero_add] at d1'
          refine ⟨d1', ?_⟩
          rw [Mre_nil, ne_Hash shaF_len hwf.sum, Mpu_some]
          cases hsm : decide (shaF (6 :: x.2) = f.sum)
          · simp only [unV_not, Bool.not_true, Bool.not_false, Mif_bool, Mif_undef, pickV_bool, Mcd_bool, Mpu_some, if_true, if_false, Bool.false_eq_true, Bool.true_eq_false, decide_true, decide_false, reduceCtorEq, J1_eq, ex20, ex21, ex30, ex31, ex32, Mre_ok, Mre_nil]
            exact bad (by simp [fitAt, hsm]) _ (k07.trans k9)
          · simp only [unV_not, Bool.not_true, Bool.not_false, Mif_bool, Mif_undef, pickV_bool, Mcd_bool, Mpu_some, if_true, if_false, Bool.false_eq_true, Bool.true_eq_false, decide_true, decide_false, reduceCtorEq, J1_eq, ex20, ex21, ex30, ex31, ex32, Mre_ok, Mre_nil]
            rw [add_one' (by omega), Mpu_some]
            exact hk2 _ _ ⟨i + 1, by omega, rfl, by rw [hft]; simp [fitAt, of_decide_eq_true hsz, of_decide_eq_true hsm], k17.trans k9⟩ (by show m.files.length - (i + 1) < m.files.length - i; omega)
      · rw [if_neg (by simpa using hlt)]
        refine hk _ _ ⟨?_, k1.trans kh⟩
        rwa [List.take_of_length_le (by omega), List.take_of_length_le (by simp; omega)] at hall
    · rintro _ h ⟨h1, h2⟩
      exact ⟨by rw [h1], h2⟩
  · rw [if_pos (by simp [hne])]
    exact ⟨by rw [fits_len (by simpa using hne)], k1⟩
end Go.Proofs.YtconalffokhplaaGreatDoor
/- The law's small, and ManifestFits. -/
namespace Go.Proofs.YtconalffokhplaaGreatDoor
open Go.X Go.X.Diff
set_option maxRecDepth 100000

theorem gt_dec {n m : Nat} : binV .no .gtr (.int .i64 (n : Nat)) (.int .i64 (m : Nat)) = some (.bool (decide (n > m))) := by
  rw [binV_int]; simp only [intV]; congr 2; rw [decide_eq_decide]; omega
theorem bslD0 : bslV prg T_manifest_Dep 0 [] = some #[] := by kernel_rfl
theorem J1_k {a : Value} {h : Heap} {rest : Value → Heap → Prop} : J1 (fun k => k a h) rest ↔ rest a h := J1_eq
def AnyB (S H : Heap) (u : Value) (H' : Heap) : Prop := (∃ b, u = .bool b) ∧ Keep (fun _ => False) S H'

theorem dep_op {h : Heap} {q : Nat} {d : Dep} (a : At h q (depC d)) : ld1 h (Ptr q 1) = some (str d.want.op) := a.ld rfl
theorem dep_pre {h : Heap} {q : Nat} {d : Dep} (a : At h q (depC d)) (hd : d.wf) : ld1 h (Ptr q 5) = some (str d.want.ver.pre) := a.ld (by
  obtain ⟨x, y, z, e⟩ := Ver.cases3 hd.want.ver
  obtain ⟨n, ⟨op, ⟨p, pre⟩⟩⟩ := d
  simp only at e
  subst e
  rfl)
theorem man_pre {h : Heap} {q : Nat} {m : Man} {vd vc vf : Value} (a : At h q (manC m vd vc vf)) (hm : m.wf) : ld1 h (Ptr q 4) = some (str m.ver.pre) := a.ld (by
  obtain ⟨x, y, z, e⟩ := Ver.cases3 hm.ver
  obtain ⟨n, ⟨p, pre⟩, d, c, f⟩ := m
  simp only at e
  subst e
  rfl)

theorem c_small19 {P : Nat → Prop} {H : Heap} {m : Man} {vd vc vf : Value} (hv : ManV P H m vd vc vf) (hP : ∀ b, P b → b < H.size) :
    HCalls prg f_syngraphlaw19_small [.agg (manC m vd vc vf).toArray] H fun u H' => (∃ b, u = .bool b) ∧ Keep (fun _ => False) H H' := by
  apply sh_syngraphlaw19_small_calls
  unfold sh_syngraphlaw19_small
  simp only [Cells_agg, Mnew_some]
  generalize hH1 : H.push (.cells (manC m vd vc vf).toArray T_manifest_Manifest (0, 0)) = H1
  have k1 : Keep (fun _ => False) H H1 := by rw [← hH1]; exact Keep.push
  have a1 : At H1 H.size (manC m vd vc vf) := by rw [← hH1]; exact At.push
  have w := hv.wf
  obtain ⟨g5, g6, g7⟩ := man_get a1 w
  have g0 := man_name a1
  have g4 := man_pre a1 w
  have lf : lenV vf = some (.int .i64 m.files.length) := by have := hv.f.len; rwa [List.length_map] at this
  have ld : lenV vd = some (.int .i64 m.deps.length) := by have := hv.d.len; rwa [List.length_map] at this
  have lc : lenV vc = some (.int .i64 m.conf.length) := by have := hv.c.len; rwa [List.length_map] at this
  have e1 : binV .no .gtr (.int .i64 (m.name.length : Nat)) (.int .i64 100) = some (.bool (decide (m.name.length > 100))) := gt_dec
  have e2 : binV .no .gtr (.int .i64 (m.ver.pre.length : Nat)) (.int .i64 100) = some (.bool (decide (m.ver.pre.length > 100))) := gt_dec
  have e3 : binV .no .gtr (.int .i64 (m.deps.length : Nat)) (.int .i64 30) = some (.bool (decide (m.deps.length > 30))) := gt_dec
  have e4 : binV .no .gtr (.int .i64 (m.conf.length : Nat)) (.int .i64 30) = some (.bool (decide (m.conf.length > 30))) := gt_dec
  have e5 : binV .no .gtr (.int .i64 (m.files.length : Nat)) (.int .i64 80) = some (.bool (decide (m.files.length > 80))) := gt_dec
  have no : ∀ g, Keep (fun _ => False) H g → (∃ b, Value.bool false = .bool b) ∧ Keep (fun _ => False) H g := fun g kg => ⟨⟨false, rfl⟩, kg⟩
  have sum : ∀ a b : Nat, (Nat.add a b) = a + b := fun _ _ => rfl
  cases h1 : decide (m.name.length > 100)
  rotate_left
  · simp only [fld_ptr, Nat.zero_add, Nat.add_zero, g0, lenT_str, e1, h1, unV_not, Bool.not_true, Bool.not_false, Mif_bool, Mif_undef, pickV_bool, Mcd_bool, Mpu_some, if_true, if_false, Bool.false_eq_true, Bool.true_eq_false, decide_true, decide_false, reduceCtorEq, J1_eq, ex20, ex21, ex30, ex31, ex32, Mre_ok, Mre_nil]
    exact no _ k1
  cases h2 : decide (m.ver.pre.length > 100)
  rotate_left
  · simp only [fld_ptr, Nat.zero_add, Nat.add_zero, Nat.reduceAdd, g0, g4, lenT_str, e1, h1, e2, h2, unV_not, Bool.not_true, Bool.not_false, Mif_bool, Mif_undef, pickV_bool, Mcd_bool, Mpu_some, if_true, if_false, Bool.false_eq_true, Bool.true_eq_false, decide_true, decide_false, reduceCtorEq, J1_eq, ex20, ex21, ex30, ex31, ex32, Mre_ok, Mre_nil]
    exact no _ k1
  cases h3 : decide (m.deps.length > 30)
  rotate_left
  · simp only [fld_ptr, Nat.zero_add, Nat.add_zero, Nat.reduceAdd, g0, g4, g5, lenT_str, ld, e1, h1, e2, h2, e3, h3, unV_not, Bool.not_true, Bool.not_false, Mif_bool, Mif_undef, pickV_bool, Mcd_bool, Mpu_some, if_true, if_false, Bool.false_eq_true, Bool.true_eq_false, decide_true, decide_false, reduceCtorEq, J1_eq, ex20, ex21, ex30, ex31, ex32, Mre_ok, Mre_nil]
    exact no _ k1
  cases h4 : decide (m.conf.length > 30)
  rotate_left
  · simp only [fld_ptr, Nat.zero_add, Nat.add_zero, Nat.reduceAdd, g0, g4, g5, g6, lenT_str, ld, lc, e1, h1, e2, h2, e3, h3, e4, h4, unV_not, Bool.not_true, Bool.not_false, Mif_bool, Mif_undef, pickV_bool, Mcd_bool, Mpu_some, if_true, if_false, Bool.false_eq_true, Bool.true_eq_false, decide_true, decide_false, reduceCtorEq, J1_eq, ex20, ex21, ex30, ex31, ex32, Mre_ok, Mre_nil]
    exact no _ k1
  cases h5 : decide (m.files.length > 80)
  rotate_left
  · simp only [fld_ptr, Nat.zero_add, Nat.add_zero, Nat.reduceAdd, g0, g4, g5, g6, g7, lenT_str, ld, lc, lf, e1, h1, e2, h2, e3, h3, e4, h4, e5, h5, unV_not, Bool.not_true, Bool.not_false, Mif_bool, Mif_undef, pickV_bool, Mcd_bool, Mpu_some, if_true, if_false, Bool.false_eq_true, Bool.true_eq_false, decide_true, decide_false, reduceCtorEq, J1_eq, ex20, ex21, ex30, ex31, ex32, Mre_ok, Mre_nil]
    exact no _ k1
  have b3 : m.deps.length ≤ 30 := by have := of_decide_eq_false h3; omega
  have b4 : m.conf.length ≤ 30 := by have := of_decide_eq_false h4; omega
  have b5 : m.files.length ≤ 80 := by have := of_decide_eq_false h5; omega
  simp only [fld_ptr, Nat.zero_add, Nat.add_zero, Nat.reduceAdd, g0, g4, g5, g6, g7, lenT_str, ld, lc, lf, e1, h1, e2, h2, e3, h3, e4, h4, e5, h5, J1_k, unV_not, Bool.not_true, Bool.not_false, Mif_bool, Mif_undef, pickV_bool, Mcd_bool, Mpu_some, if_true, if_false, Bool.false_eq_true, Bool.true_eq_false, decide_true, decide_false, reduceCtorEq, ex20, ex21, ex30, ex31, ex32, Mre_ok, Mre_nil]
  refine J1_i (fun _ h => Keep (fun _ => False) H1 h) (fun k hk => ?_) ?_
  · simp only [bslD0, Mnews_some]
    generalize hH2 : H1.push (.cells #[] T_manifest_Dep (0, 0)) = H2
    have k2 : Keep (fun _ => False) H1 H2 := by rw [← hH2]; exact Keep.push
    have n2 : H2[H1.size]? = some (.cells #[] T_manifest_Dep (0, 0)) := by rw [← hH2]; exact push_new
    have s2 : H2.size = H1.size + 1 := by rw [← hH2]; simp
    have k02 := k1.trans k2
    have a2 := a1.keep k2 id
    obtain ⟨q5, q6, q7⟩ := man_get a2 w
    have hv2 := hv.keep k02 fun _ _ => id
    refine ⟨q6, q5, ?_⟩
    rw [Mre_nil]
    refine BufE.app (F := (H1.size ≤ ·)) (xs := []) (.fresh (cs := []) ⟨H1.size, rfl, Nat.le_refl _, n2⟩ (Nat.le_refl _) (by simp) (fun _ _ => by simp [thaw]) (by simp) (fun x h => by cases h) (fun x h => by cases h)) hv2.d (by omega) (by simp; omega) (by show H1.size ≤ H2.size; omega) fun u h3 hu k3 => ?_
    have k13 : Keep (fun _ => False) H1 h3 := k2.fresh k3 fun b hb => hb
    have a3 := a1.keep k13 id
    refine ⟨(man_get a3 w).2.1, ?_⟩
    rw [Mre_nil]
    have k03 := k1.trans k13
    have hv3 := hv.keep k03 fun _ _ => id
    have g3 := k13.1
    refine BufE.app hu hv3.c (by omega) (by simp; omega) (by show H1.size ≤ h3.size; omega) fun u2 h4 hu2 k4 => ?_
    rw [List.nil_append, ← List.map_append] at hu2
    have k14 : Keep (fun _ => False) H1 h4 := k13.fresh k4 fun b hb => hb
    have k04 := k1.trans k14
    generalize hL : m.deps ++ m.conf = L at hu2
    have hLl : L.length ≤ 60 := by rw [← hL, List.length_append]; omega
    have hLw : ∀ d ∈ L, d.wf := fun d hd => by
      rw [← hL] at hd
      rcases List.mem_append.1 hd with h | h
      · exact w.deps d h
      · exact w.conf d h
    have sl := hu2.sl
    have len := sl.len
    rw [List.length_map] at len
    rw [len, Mpu_some]
    refine L1_i (fun u h => ∃ i : Nat, i ≤ L.length ∧ u = .int .i64 (i : Nat) ∧ Keep (fun _ => False) h4 h) (fun u _ => match u with | .int _ t => L.length - t.toNat | _ => 0) ⟨0, Nat.zero_le _, rfl, Keep.refl⟩ ?_
    rintro _ h ⟨i, hi, rfl, kh⟩ kk hkk
    have el : binV .no .lss (.int .i64 (i : Nat)) (.int .i64 (L.length : Nat)) = some (.bool (decide (i < L.length))) := by
      rw [binV_int]; simp only [intV]; congr 2; rw [decide_eq_decide]; omega
    rw [el, Mpu_some, Mcd_bool]
    by_cases hlt : i < L.length
    · rw [if_pos (by simpa using hlt)]
      have hg : L[i]? = some L[i] := List.getElem?_eq_getElem hlt
      obtain ⟨b, o, hix, hpt, _⟩ := (sl.keep kh fun _ _ => id).at (i := i) (x := depC L[i]) (by rw [List.getElem?_map, hg]; rfl)
      have hwd := hLw _ (List.getElem_mem hlt)
      generalize L[i] = d at *
      rw [hix .i64, Mpu_some, hpt.agg (depC_len hwd), Mpu_some]
      simp only [z_Dep, Mnew_some]
      generalize hH6 : h.push (.cells (depC zeroD).toArray T_manifest_Dep (0, 0)) = h6
      have k6 : Keep (fun _ => False) h h6 := by rw [← hH6]; exact Keep.push
      have a6 : At h6 h.size (depC zeroD) := by rw [← hH6]; exact At.push
      obtain ⟨h7, st7, a7, k7⟩ := a6.st (n := 6) (ds := depC d) (depC_len zeroD_wf) (depC_len hwd) depC_one
      have g4' := kh.1
      have k47 : Keep (fun _ => False) h4 h7 := (kh.trans k6).fresh k7 fun b hb => by omega
      have d0 : ld1 h7 (Ptr h.size 0) = some (str d.name) := a7.ld rfl
      have d1 := dep_op a7
      have d5 := dep_pre a7 hwd
      have c1 : binV .no .gtr (.int .i64 (d.name.length : Nat)) (.int .i64 100) = some (.bool (decide (d.name.length > 100))) := gt_dec
      have c2 : binV .no .gtr (.int .i64 (d.want.op.length : Nat)) (.int .i64 20) = some (.bool (decide (d.want.op.length > 20))) := gt_dec
      have c3 : binV .no .gtr (.int .i64 (d.want.ver.pre.length : Nat)) (.int .i64 100) = some (.bool (decide (d.want.ver.pre.length > 100))) := gt_dec
      cases r1 : decide (d.name.length > 100)
      rotate_left
      · simp only [st7, Mwr_some, fld_ptr, Nat.zero_add, Nat.add_zero, Nat.reduceAdd, d0, lenT_str, c1, r1, unV_not, Bool.not_true, Bool.not_false, Mif_bool, Mif_undef, pickV_bool, Mcd_bool, Mpu_some, if_true, if_false, Bool.false_eq_true, Bool.true_eq_false, decide_true, decide_false, reduceCtorEq, J1_eq, ex20, ex21, ex30, ex31, ex32, Mre_ok, Mre_nil]
        exact no _ (k04.trans k47)
      cases r2 : decide (d.want.op.length > 20)
      rotate_left
      · simp only [st7, Mwr_some, fld_ptr, Nat.zero_add, Nat.add_zero, Nat.reduceAdd, d0, d1, lenT_str, c1, r1, c2, r2, unV_not, Bool.not_true, Bool.not_false, Mif_bool, Mif_undef, pickV_bool, Mcd_bool, Mpu_some, if_true, if_false, Bool.false_eq_true, Bool.true_eq_false, decide_true, decide_false, reduceCtorEq, J1_eq, ex20, ex21, ex30, ex31, ex32, Mre_ok, Mre_nil]
        exact no _ (k04.trans k47)
      cases r3 : decide (d.want.ver.pre.length > 100)
      · simp only [st7, Mwr_some, fld_ptr, Nat.zero_add, Nat.add_zero, Nat.reduceAdd, d0, d1, d5, lenT_str, c1, r1, c2, r2, c3, r3, unV_not, Bool.not_true, Bool.not_false, Mif_bool, Mif_undef, pickV_bool, Mcd_bool, Mpu_some, if_true, if_false, Bool.false_eq_true, Bool.true_eq_false, decide_true, decide_false, reduceCtorEq, J1_eq, ex20, ex21, ex30, ex31, ex32, Mre_ok, Mre_nil]
        rw [add_one' (by omega), Mpu_some]
        exact hkk _ _ ⟨i + 1, by omega, rfl, k47⟩ (by show L.length - (i + 1) < L.length - i; omega)
      · simp only [st7, Mwr_some, fld_ptr, Nat.zero_add, Nat.add_zero, Nat.reduceAdd, d0, d1, d5, lenT_str, c1, r1, c2, r2, c3, r3, unV_not, Bool.not_true, Bool.not_false, Mif_bool, Mif_undef, pickV_bool, Mcd_bool, Mpu_some, if_true, if_false, Bool.false_eq_true, Bool.true_eq_false, decide_true, decide_false, reduceCtorEq, J1_eq, ex20, ex21, ex30, ex31, ex32, Mre_ok, Mre_nil]
        exact no _ (k04.trans k47)
    · rw [if_neg (by simpa using hlt)]
      exact hk _ _ (k14.trans kh)
  rintro _ h5 k5
  have a5 := a1.keep k5 id
  have g7' := (man_get a5 w).2.2
  have k05 := k1.trans k5
  have sf := hv.f.keep k05 fun _ _ => id
  refine J1_i (fun _ h => Keep (fun _ => False) H h) (fun k hk => ?_) ?_
  · simp only [fld_ptr, Nat.zero_add, g7', lf, Mpu_some]
    refine L1_i (fun u h => ∃ i : Nat, i ≤ m.files.length ∧ u = .int .i64 (i : Nat) ∧ Keep (fun _ => False) h5 h) (fun u _ => match u with | .int _ t => m.files.length - t.toNat | _ => 0) ⟨0, Nat.zero_le _, rfl, Keep.refl⟩ ?_
    rintro _ h ⟨i, hi, rfl, kh⟩ kk hkk
    have el : binV .no .lss (.int .i64 (i : Nat)) (.int .i64 (m.files.length : Nat)) = some (.bool (decide (i < m.files.length))) := by
      rw [binV_int]; simp only [intV]; congr 2; rw [decide_eq_decide]; omega
    rw [el, Mpu_some, Mcd_bool]
    by_cases hlt : i < m.files.length
    · rw [if_pos (by simpa using hlt)]
      have hg : m.files[i]? = some m.files[i] := List.getElem?_eq_getElem hlt
      obtain ⟨b, o, hix, hpt, _⟩ := (sf.keep kh fun _ _ => id).at (i := i) (x := fileC m.files[i]) (by rw [List.getElem?_map, hg]; rfl)
      have hwd := w.files _ (List.getElem_mem hlt)
      generalize m.files[i] = d at *
      rw [hix .i64, Mpu_some, hpt.agg (fileC_len hwd), Mpu_some]
      simp only [z_File, Mnew_some]
      generalize hH6 : h.push (.cells (fileC zeroF).toArray T_manifest_File (0, 0)) = h6
      have k6 : Keep (fun _ => False) h h6 := by rw [← hH6]; exact Keep.push
      have a6 : At h6 h.size (fileC zeroF) := by rw [← hH6]; exact At.push
      obtain ⟨h7, st7, a7, k7⟩ := a6.st (n := 34) (ds := fileC d) (fileC_len zeroF_wf) (fileC_len hwd) fileC_one
      have g4' := kh.1
      have k57 : Keep (fun _ => False) h5 h7 := (kh.trans k6).fresh k7 fun b hb => by omega
      have d0 : ld1 h7 (Ptr h.size 0) = some (str d.name) := a7.ld rfl
      have c1 : binV .no .gtr (.int .i64 (d.name.length : Nat)) (.int .i64 100) = some (.bool (decide (d.name.length > 100))) := gt_dec
      rw [st7, Mwr_some, fld_ptr, Mpu_some, Nat.add_zero, d0, Mpu_some, lenT_str, Mpu_some, c1, Mpu_some, Mcd_bool]
      by_cases r1 : d.name.length > 100
      · rw [if_pos (by simpa using r1)]
        exact no _ (k05.trans k57)
      · rw [if_neg (by simpa using r1), add_one' (by omega), Mpu_some]
        exact hkk _ _ ⟨i + 1, by omega, rfl, k57⟩ (by show m.files.length - (i + 1) < m.files.length - i; omega)
    · rw [if_neg (by simpa using hlt)]
      exact hk _ _ (k05.trans kh)
  · rintro _ h kh
    exact ⟨⟨true, rfl⟩, kh⟩

theorem c_ManifestFits {P Q R : Nat → Prop} {H : Heap} {m : Man} {vd vc vf v : Value} {xs : List (Value × List UInt8)} (hv : ManV P H m vd vc vf) (hP : ∀ b, P b → b < H.size) (hx : BSS Q R H v xs) (hR : ∀ b, R b → b < H.size) (hl : xs.length ≤ 9223372036854775807) (hT : VerT H) (hS : ShaT H) :
    HCalls prg f_syngraphlaw19_ManifestFits [.agg (manC m vd vc vf).toArray, v] H fun u H' => u = .bool true ∧ Keep (fun _ => False) H H' := by
  apply sh_syngraphlaw19_ManifestFits_calls
  unfold sh_syngraphlaw19_ManifestFits
  simp only [Cells_agg, Mnew_some]
  generalize hH1 : H.push (.cells (manC m vd vc vf).toArray T_manifest_Manifest (0, 0)) = H1
  have k1 : Keep (fun _ => False) H H1 := by rw [← hH1]; exact Keep.push
  have a1 : At H1 H.size (manC m vd vc vf) := by rw [← hH1]; exact At.push
  have w := hv.wf
  rw [man_ld a1 w, Mpu_some]
  refine call_i (c_small19 (hv.keep k1 fun _ _ => id) fun b hb => Nat.lt_of_lt_of_le (hP b hb) k1.1) ?_
  rintro _ h2 ⟨⟨b, rfl⟩, k2⟩
  have k12 := k1.trans k2
  have a2 := a1.keep k2 id
  have e80 : binV .no .gtr (.int .i64 (xs.length : Nat)) (.int .i64 80) = some (.bool (decide (xs.length > 80))) := gt_dec
  have awk : ∀ h, Keep (fun _ => False) H h → Mcall prg f_syngraphlaw19_awake [] h fun u h7 => u = Value.bool true ∧ Keep (fun _ => False) H h7 := by
    intro h kh
    refine call_i (c_awake19 (hT.keep kh fun _ h => h.elim)) ?_
    rintro _ h6 ⟨rfl, k6⟩
    exact ⟨rfl, kh.trans k6⟩
  have lx := hx.len
  have lf : lenV vf = some (.int .i64 m.files.length) := by have := hv.f.len; rwa [List.length_map] at this
  cases b
  · simp only [unV_not, Bool.not_true, Bool.not_false, Mif_bool, Mif_undef, pickV_bool, Mcd_bool, Mpu_some, if_true, if_false, Bool.false_eq_true, Bool.true_eq_false, decide_true, decide_false, reduceCtorEq, J1_eq, ex20, ex21, ex30, ex31, ex32, Mre_ok, Mre_nil]
    exact awk _ k12
  cases h8 : decide (xs.length > 80)
  rotate_left
  · simp only [lx, e80, h8, unV_not, Bool.not_true, Bool.not_false, Mif_bool, Mif_undef, pickV_bool, Mcd_bool, Mpu_some, if_true, if_false, Bool.false_eq_true, Bool.true_eq_false, decide_true, decide_false, reduceCtorEq, J1_eq, ex20, ex21, ex30, ex31, ex32, Mre_ok, Mre_nil]
    exact awk _ k12
  have h80 : xs.length ≤ 80 := by have := of_decide_eq_false h8; omega
  obtain ⟨g5, g6, g7⟩ := man_get a2 w
  have eq : binV .no .eql (.int .i64 (xs.length : Nat)) (.int .i64 (m.files.length : Nat)) = some (.bool (decide (xs.length = m.files.length))) := by
    rw [binV_int]; simp only [intV]; congr 2; rw [Bool.eq_iff_iff]; simp <;> omega
  simp only [lx, e80, h8, fld_ptr, Nat.zero_add, g7, lf, eq, J1_k, unV_not, Bool.not_true, Bool.not_false, Mif_bool, Mif_undef, pickV_bool, Mcd_bool, Mpu_some, if_true, if_false, Bool.false_eq_true, Bool.true_eq_false, decide_true, decide_false, reduceCtorEq, ex20, ex21, ex30, ex31, ex32, Mre_ok, Mre_nil]
  have hle : ∀ x ∈ xs, x.2.length ≤ 9223372036854775807 ∨ True := fun _ _ => .inr trivial
  refine J2_i (fun u _ h => u = .bool (decide (xs.length = m.files.length) && fitsAll m.files (xs.map (·.2))) ∧ (∀ x ∈ xs, x.2.length ≤ 500) ∧ Keep (fun _ => False) h2 h) (fun k hk => ?_) ?_
  · refine L2_i (fun t u h => ∃ i : Nat, i ≤ xs.length ∧ u = .int .i64 (i : Nat) ∧ t = .bool (decide (xs.length = m.files.length) && fitsAll (m.files.take i) ((xs.map (·.2)).take i)) ∧ (∀ x ∈ xs.take i, x.2.length ≤ 500) ∧ Keep (fun _ => False) h2 h) (fun _ u _ => match u with | .int _ t => xs.length - t.toNat | _ => 0) ⟨0, Nat.zero_le _, rfl, by simp [fitsAll], by simp, Keep.refl⟩ ?_
    rintro _ _ h ⟨i, hi, rfl, rfl, hall, kh⟩ kk hkk
    have el : binV .no .lss (.int .i64 (i : Nat)) (.int .i64 (xs.length : Nat)) = some (.bool (decide (i < xs.length))) := by
      rw [binV_int]; simp only [intV]; congr 2; rw [decide_eq_decide]; omega
    rw [el, Mpu_some, Mcd_bool]
    have k0 := k12.trans kh
    by_cases hlt : i < xs.length
    · rw [if_pos (by simpa using hlt)]
      have hgx : xs[i]? = some xs[i] := List.getElem?_eq_getElem hlt
      have hxh := hx.keep k0 (fun _ _ => id) fun _ _ => id
      obtain ⟨hs, p, hp, hld⟩ := hxh.at hgx
      have htk : xs.take (i + 1) = xs.take i ++ [xs[i]] := by rw [List.take_add_one, hgx]; rfl
      have hgb : (xs.map (·.2))[i]? = some xs[i].2 := by rw [List.getElem?_map, hgx]; rfl
      generalize xs[i] = x at *
      have e5 : binV .no .gtr (.int .i64 (x.2.length : Nat)) (.int .i64 500) = some (.bool (decide (x.2.length > 500))) := gt_dec
      rw [hp .i64, Mpu_some, hld, Mpu_some, hs.len, Mpu_some, e5, Mpu_some, Mcd_bool]
      by_cases h500 : x.2.length > 500
      · rw [if_pos (by simpa using h500)]
        exact awk _ k0
      · rw [if_neg (by simpa using h500)]
        have hall' : ∀ y ∈ xs.take (i + 1), y.2.length ≤ 500 := fun y hy => by
          rw [htk] at hy
          rcases List.mem_append.1 hy with hy | hy
          · exact hall y hy
          · simp at hy; subst hy; omega
        have ah := a2.keep kh id
        have q7 := (man_get ah w).2.2
        have inc : binV .no .add (.int .i64 (i : Nat)) (.int .i64 1) = some (.int .i64 ((i + 1 : Nat) : Int)) := add_one' (by omega)
        have done : ∀ (g : Heap) (b : Bool), Keep (fun _ => False) h2 g → b = (decide (xs.length = m.files.length) && fitsAll (m.files.take (i + 1)) ((xs.map (·.2)).take (i + 1))) → kk (.bool b) (.int .i64 ((i + 1 : Nat) : Int)) g := fun g b kg hb =>
          hkk _ _ _ ⟨i + 1, by omega, rfl, by rw [hb], hall', kg⟩ (by show xs.length - (i + 1) < xs.length - i; omega)
        by_cases hne : xs.length = m.files.length
        · have hg : m.files[i]? = some (m.files[i]'(by omega)) := List.getElem?_eq_getElem (by omega)
          obtain ⟨b, o, hix, hpt, _⟩ := (hv.f.keep k0 fun _ _ => id).at (i := i) (x := fileC (m.files[i]'(by omega))) (by rw [List.getElem?_map, hg]; rfl)
          have hwf := w.files _ (List.getElem_mem (show i < m.files.length by omega))
          have hft := fits_take hg hgb
          generalize (m.files[i]'(by omega)) = f at *
          have d33 := pt_size hpt hwf
          have d1 := pt_sum hpt hwf
          cases hac : (decide (xs.length = m.files.length) && fitsAll (m.files.take i) ((xs.map (·.2)).take i))
          · simp only [inc, unV_not, Bool.not_true, Bool.not_false, Mif_bool, Mif_undef, pickV_bool, Mcd_bool, Mpu_some, if_true, if_false, Bool.false_eq_true, Bool.true_eq_false, decide_true, decide_false, reduceCtorEq, J1_eq, ex20, ex21, ex30, ex31, ex32, Mre_ok, Mre_nil]
            refine done _ _ kh ?_
            rw [hft]
            rw [decide_eq_true hne, Bool.true_and] at hac ⊢
            rw [hac]; rfl
          have hac2 : fitsAll (m.files.take i) ((xs.map (·.2)).take i) = true := by rw [Bool.and_eq_true] at hac; exact hac.2
          rw [hac2, Bool.true_and] at hft
          cases hsz : decide ((x.2.length : Int) = f.size)
          · simp only [hs.len, fld_ptr, Nat.zero_add, q7, hix, d33, eq_len_size, hsz, inc, unV_not, Bool.not_true, Bool.not_false, Mif_bool, Mif_undef, pickV_bool, Mcd_bool, Mpu_some, if_true, if_false, Bool.false_eq_true, Bool.true_eq_false, decide_true, decide_false, reduceCtorEq, J1_eq, ex20, ex21, ex30, ex31, ex32, Mre_ok, Mre_nil]
            refine done _ _ kh ?_
            rw [hft]; simp [fitAt, hsz]
          · simp only [hs.len, fld_ptr, Nat.zero_add, q7, hix, d33, d1, eq_len_size, hsz, unV_not, Bool.not_true, Bool.not_false, Mif_bool, Mif_undef, pickV_bool, Mcd_bool, Mpu_some, if_true, if_false, Bool.false_eq_true, Bool.true_eq_false, decide_true, decide_false, reduceCtorEq, J1_eq, ex20, ex21, ex30, ex31, ex32, Mre_ok, Mre_nil]
            refine call_i (c_tagFile hs (hS.keep k0 fun _ h => h.elim) (fun b hb => Nat.lt_of_lt_of_le (hR b hb) k0.1) (by omega)) ?_
            rintro _ h9 ⟨rfl, k9⟩
            refine ⟨pt_sum (hpt.keep k9 id) hwf, (man_get (ah.keep k9 id) w).2.2, ?_⟩
            simp only [eq_Hash shaF_len hwf.sum, inc, unV_not, Bool.not_true, Bool.not_false, Mif_bool, Mif_undef, pickV_bool, Mcd_bool, Mpu_some, if_true, if_false, Bool.false_eq_true, Bool.true_eq_false, decide_true, decide_false, reduceCtorEq, J1_eq, ex20, ex21, ex30, ex31, ex32, Mre_ok, Mre_nil]
            refine done _ _ (kh.trans k9) ?_
            rw [hft, decide_eq_true hne, Bool.true_and]
            simp [fitAt, of_decide_eq_true hsz]
        · simp only [hne, decide_false, Bool.false_and, inc, unV_not, Bool.not_true, Bool.not_false, Mif_bool, Mif_undef, pickV_bool, Mcd_bool, Mpu_some, if_true, if_false, Bool.false_eq_true, Bool.true_eq_false, decide_true, decide_false, reduceCtorEq, J1_eq, ex20, ex21, ex30, ex31, ex32, Mre_ok, Mre_nil]
          exact done _ _ kh (by simp [hne])
    · rw [if_neg (by simpa using hlt)]
      rw [List.take_of_length_le (by omega)] at hall
      refine hk _ _ _ ⟨?_, hall, kh⟩
      by_cases hne : xs.length = m.files.length
      · rw [List.take_of_length_le (by omega), List.take_of_length_le (by simp; omega)]
      · simp [hne]
  rintro _ _ h7 ⟨rfl, hall, k7⟩
  have a7 := a2.keep k7 id
  have k07 := k12.trans k7
  rw [man_ld a7 w, Mpu_some]
  refine call_i (c_Fits (hv.keep k07 fun _ _ => id) (hx.keep k07 (fun _ _ => id) fun _ _ => id) (fun b hb => Nat.lt_of_lt_of_le (hR b hb) k07.1) (by omega) (fun x h => by have := hall x h; omega) (hS.keep k07 fun _ h => h.elim)) ?_
  rintro _ h8 ⟨rfl, k8⟩
  have hsame : (decide (xs.length = m.files.length) && fitsAll m.files (xs.map (·.2))) = fitsAll m.files (xs.map (·.2)) := by
    by_cases hne : xs.length = m.files.length
    · rw [decide_eq_true hne, Bool.true_and]
    · rw [fits_len (by simpa using hne), Bool.and_false]
  simp only [hsame, eq_bool, beq_self_eq_true, unV_not, Bool.not_true, Bool.not_false, Mif_bool, Mif_undef, pickV_bool, Mcd_bool, Mpu_some, if_true, if_false, Bool.false_eq_true, Bool.true_eq_false, decide_true, decide_false, reduceCtorEq, J1_eq, ex20, ex21, ex30, ex31, ex32, Mre_ok, Mre_nil]
  exact awk _ (k07.trans k8)
end Go.Proofs.YtconalffokhplaaGreatDoor
