/- JOINED: V124 V125 -/
import Derived.Test.YtconalffokhplaaGreatDoorG1
import Derived.Test.YtconalffokhplaaGreatDoorGJ
set_option linter.unusedSimpArgs false
set_option linter.unusedVariables false
/- manifests: read of words (no file). -/
namespace Go.Proofs.YtconalffokhplaaGreatDoor
open Go.X Go.X.Diff
set_option maxRecDepth 100000

def wFile : List UInt8 := [102, 105, 108, 101]
theorem b_Dep {d : Dep} (hd : d.wf) : buildV prg T_manifest_Dep [(0, str d.name), (1, .agg (wantC d.want).toArray)] = some (.agg (depC d).toArray) := by
  obtain ⟨a, b, c, e⟩ := Ver.cases3 hd.want.ver
  obtain ⟨n, ⟨op, ⟨p, pre⟩⟩⟩ := d
  simp only at e
  subst e
  rw [buildV_of k_Dep]; rfl
theorem c_Dep : prg.cellsOf T_manifest_Dep = 6 := by kernel_rfl
theorem bsl_Dep {d : Dep} (hd : d.wf) : bslV prg T_manifest_Dep 1 [(0, .agg (depC d).toArray)] = some (depC d).toArray := bsl_one c_Dep (by omega) (by omega) z_Dep rfl (by simp [depC_len hd])

/-- a manifest at block q, its slices in blocks of their own -/
structure ManAt (q : Nat) (Fd Fc Ff : Nat → Prop) (m : Man) (h : Heap) : Prop where
  ex : ∃ vd vc vf, At h q (manC m vd vc vf) ∧ BufE 6 Fd h vd (m.deps.map depC) ∧ BufE 6 Fc h vc (m.conf.map depC) ∧ BufE 34 Ff h vf (m.files.map fileC)
  nq : ¬ Fd q ∧ ¬ Fc q ∧ ¬ Ff q
  dis : ∀ b, ¬ (Fd b ∧ Fc b) ∧ ¬ (Fd b ∧ Ff b) ∧ ¬ (Fc b ∧ Ff b)
  lt : ∀ b, Fd b ∨ Fc b ∨ Ff b → b < h.size
  wf : m.wf
theorem ManAt.keep {q : Nat} {Fd Fc Ff S : Nat → Prop} {m : Man} {h h' : Heap} (a : ManAt q Fd Fc Ff m h) (k : Keep S h h') (hs : ∀ b, b = q ∨ Fd b ∨ Fc b ∨ Ff b → ¬ S b) : ManAt q Fd Fc Ff m h' := by
  obtain ⟨vd, vc, vf, h1, h2, h3, h4⟩ := a.ex
  exact ⟨⟨vd, vc, vf, h1.keep k (hs q (.inl rfl)), h2.keep k fun b hb => hs b (.inr (.inl hb)), h3.keep k fun b hb => hs b (.inr (.inr (.inl hb))), h4.keep k fun b hb => hs b (.inr (.inr (.inr hb)))⟩, a.nq, a.dis, fun b hb => Nat.lt_of_lt_of_le (a.lt b hb) k.1, a.wf⟩
theorem ManAt.lt_q {q : Nat} {Fd Fc Ff : Nat → Prop} {m : Man} {h : Heap} (a : ManAt q Fd Fc Ff m h) : q < h.size := by
  obtain ⟨vd, vc, vf, h1, _⟩ := a.ex
  exact h1.lt

theorem at_mid {h : Heap} {q n o : Nat} {A B C B' : List Value} (a : At h q (A ++ B ++ C)) (ho : A.length = o) (hB : B.length = n) (hB' : B'.length = n) (h1 : ∀ c ∈ B', c.oneCell' = true) :
    ∃ h', stN n h (Ptr q o) (.agg B'.toArray) = some h' ∧ At h' q (A ++ B' ++ C) ∧ Keep (· = q) h h' := by
  obtain ⟨T, a⟩ := a
  have := stN_mid (n := n) (o := o) (A := A) (B := B) (C := C) (B' := B') a ho.symm hB.symm hB' (all_of h1)
  exact ⟨_, this, ⟨T, set_self a⟩, Keep.set rfl⟩
def VerR (s : List UInt8) (v : Ver) : Prop := (v.wf ∧ verOk v = true ∧ showF v = s) ∨ ((∀ x : Ver, x.p.length = 3 → verOk x = true → showF x ≠ s) ∧ v = zeroV)
theorem VerR.wf {s : List UInt8} {v : Ver} (h : VerR s v) : v.wf := by
  rcases h with h | ⟨_, rfl⟩
  · exact h.1
  · exact zeroV_wf
def WantRR (s : List UInt8) (w : Want) : Prop := (w.wf ∧ wantOk w = true ∧ wantS w = s) ∨ ((∀ x : Want, x.wf → wantOk x = true → wantS x ≠ s) ∧ w = zeroW)
theorem WantRR.wf {s : List UInt8} {w : Want} (h : WantRR s w) : w.wf := by
  rcases h with h | ⟨_, rfl⟩
  · exact h.1
  · exact zeroW_wf

/-- what read makes of words, when the first is not 'file' -/
def ReadR (ws : List (List UInt8)) (m m' : Man) : Prop :=
  (ws.getD 0 [] = wPackage ∧ ∃ v, VerR (ws.getD 2 []) v ∧ m' = { m with name := ws.getD 1 [], ver := v }) ∨
  (ws.getD 0 [] = wNeeds ∧ ∃ w, WantRR (ws.getD 2 []) w ∧ m' = { m with deps := m.deps ++ [⟨ws.getD 1 [], w⟩] }) ∨
  (ws.getD 0 [] = wRefuses ∧ ∃ w, WantRR (ws.getD 2 []) w ∧ m' = { m with conf := m.conf ++ [⟨ws.getD 1 [], w⟩] }) ∨
  (ws.getD 0 [] ≠ wPackage ∧ ws.getD 0 [] ≠ wNeeds ∧ ws.getD 0 [] ≠ wRefuses ∧ m' = m)

theorem c_mword {P : Nat → Prop} {h : Heap} {t : Nat} {v : Value} {ws : List (List UInt8)} (a : At h t [v]) (hv : SlE 1 P h v (strs ws)) (i : Nat) :
    HCalls prg f_manifest_Manifest_read_1 [.int .i64 (i : Nat), Ptr t 0] h fun u h' => u = str (ws.getD i []) ∧ h = h' := by
  apply sh_manifest_Manifest_read_1_calls
  unfold sh_manifest_Manifest_read_1
  have d0 : ld1 h (Ptr t 0) = some v := a.ld rfl
  have hlen := hv.len
  rw [strs_len] at hlen
  have e1 : binV .no .lss (.int .i64 (i : Nat)) (.int .i64 (ws.length : Nat)) = some (.bool (decide (i < ws.length))) := by
    rw [binV_int]; simp only [intV]; congr 2; rw [decide_eq_decide]; omega
  rw [d0, Mpu_some, hlen, Mpu_some, e1, Mpu_some, Mcd_bool]
  by_cases hlt : i < ws.length
  · rw [if_pos (by simpa using hlt)]
    have hg : ws[i]? = some ws[i] := List.getElem?_eq_getElem hlt
    obtain ⟨b, o, hix, hpt, _⟩ := hv.at (strs_get hg)
    rw [Mpu_some, hix .i64, Mpu_some, hpt.cell0 rfl, Mpu_some]
    exact ⟨by simp [List.getD, hg], rfl⟩
  · rw [if_neg (by simpa using hlt)]
    exact ⟨by rw [List.getD, List.getElem?_eq_none (by omega)]; rfl, rfl⟩
theorem word_i {P : Nat → Prop} {h : Heap} {t : Nat} {v : Value} {ws : List (List UInt8)} {k : Value → Heap → Prop} (a : At h t [v]) (hv : SlE 1 P h v (strs ws)) (i : Nat) (hk : k (str (ws.getD i [])) h) :
    Mcallv prg (.func (.func f_manifest_Manifest_read_1) #[] #[Ptr t 0]) [.int .i64 (i : Nat)] h k :=
  .inl ⟨f_manifest_Manifest_read_1, #[], #[Ptr t 0], rfl, by kernel_rfl, HCalls.mono (R := fun u h' => u = str (ws.getD i []) ∧ h = h') (c_mword a hv i) fun u h' hR => by obtain ⟨rfl, rfl⟩ := hR; exact hk⟩

theorem man_set_ver {m : Man} {vd vc vf : Value} {v : Ver} {w : List UInt8} (hm : m.wf) : (manC { m with name := w } vd vc vf) = [str w] ++ verC m.ver ++ [vd, vc, vf] := by simp [manC]

/-- append of one Dep to a slice of deps -/
theorem app_dep {H : Heap} {F : Nat → Prop} {v : Value} {l : List Dep} {d : Dep} {k : Value → Heap → Prop} (hb : BufE 6 F H v (l.map depC)) (hd : d.wf) (hl : l.length ≤ 1048576)
    (hk : ∀ u h' , BufE 6 (fun b => F b ∨ b = H.size + 1) h' u ((l ++ [d]).map depC) → Keep F H h' → H.size + 1 ≤ h'.size → k u h') :
    Mapp T_manifest_Dep 6 72 (H.push (.cells (depC d).toArray T_manifest_Dep (0, 0))) v (.slice (some ⟨H.size, 0, none⟩) 1 1) k := by
  have kp : Keep (fun _ => False) H (H.push (.cells (depC d).toArray T_manifest_Dep (0, 0))) := Keep.push
  have sp : (H.push (.cells (depC d).toArray T_manifest_Dep (0, 0))).size = H.size + 1 := by simp
  have hx : SlE 6 (· = H.size) (H.push (.cells (depC d).toArray T_manifest_Dep (0, 0))) (.slice (some ⟨H.size, 0, none⟩) 1 1) [depC d] :=
    ⟨⟨_, 1, rfl, Nat.le_refl _, .inr ⟨H.size, 0, rfl, rfl, by simpa using Pt.of push_new⟩⟩, fun x hx => by simp at hx; subst hx; exact depC_len hd, fun x hx c hc => by simp at hx; subst hx; exact depC_one c hc⟩
  refine ((hb.keep kp fun _ _ => id).mono fun b hb => .inl hb : BufE 6 (fun b => F b ∨ b = H.size + 1) _ v _).app hx (by omega) (by simp; omega) (.inr sp) fun u h' hu k' => ?_
  refine hk u h' (by rw [List.map_append]; exact hu) ?_ (by have := k'.1; omega)
  refine ⟨by have := k'.1; omega, fun i hi hn => ?_⟩
  rw [k'.2 i (by omega) (by rintro (h | h); exact hn h; omega), kp.2 i hi id]

set_option maxHeartbeats 1000000 in
theorem c_read0 {P : Nat → Prop} {H : Heap} {q : Nat} {Fd Fc Ff : Nat → Prop} {m : Man} {v : Value} {ws : List (List UInt8)} (ha : ManAt q Fd Fc Ff m H) (hv : SlE 1 P H v (strs ws)) (hne : ws ≠ []) (hnf : ws.getD 0 [] ≠ wFile)
    (hP : ∀ b, P b → b ≠ q ∧ ¬ Fd b ∧ ¬ Fc b ∧ ¬ Ff b) (hlw : ∀ w ∈ ws, w.length ≤ 1048576) (hd : m.deps.length ≤ 1048576) (hc : m.conf.length ≤ 1048576) (hT : VerT H) (hN : NG ≤ q) (hNF : ∀ b, Fd b ∨ Fc b ∨ Ff b → NG ≤ b) :
    HCalls prg f_manifest_Manifest_read [Ptr q 0, v] H fun _ H' => ∃ Fd' Fc' m', ManAt q Fd' Fc' Ff m' H' ∧ ReadR ws m m' ∧ Keep (fun b => b = q ∨ Fd b ∨ Fc b) H H' ∧ (∀ b, Fd' b → Fd b ∨ H.size ≤ b) ∧ (∀ b, Fc' b → Fc b ∨ H.size ≤ b) := by
  apply sh_manifest_Manifest_read_calls
  unfold sh_manifest_Manifest_read
  have hvc : Value.cells v = [v].toArray := by
    obtain ⟨a, c, rfl, _⟩ := hv.ex
    rfl
  simp only [hvc, Mnew_some]
  generalize hH1 : H.push (.cells [v].toArray T_S_string (0, 0)) = H1
  have k1 : Keep (fun _ => False) H H1 := by rw [← hH1]; exact Keep.push
  have t1 : At H1 H.size [v] := by rw [← hH1]; exact At.push
  have s1 : H1.size = H.size + 1 := by rw [← hH1]; simp
  have hv1 := hv.keep k1 fun _ _ => id
  have a1 := ha.keep k1 fun _ _ => id
  have hqlt := ha.lt_q
  have hw0 : ws[0]? = some (ws.getD 0 []) := by
    cases ws with
    | nil => exact absurd rfl hne
    | cons x l => rfl
  have hlen1 : ∀ i, (ws.getD i []).length ≤ 1048576 := fun i => by
    rw [List.getD]
    cases h : ws[i]? with
    | none => simp
    | some x => simpa using hlw x (List.mem_of_getElem? h)
  obtain ⟨b0, o0, hix0, hpt0, hP0⟩ := hv1.at (strs_get hw0)
  have hix0 : ixS 1 v (.int .i64 0) = some (Ptr b0 o0) := hix0 .i64
  have d0 : ld1 H1 (Ptr H.size 0) = some v := t1.ld rfl
  rw [d0, Mpu_some, hix0, Mpu_some, hpt0.cell0 rfl, Mpu_some]
  have eP : binV .no .eql (str (ws.getD 0 [])) (.string ⟨#[112, 97, 99, 107, 97, 103, 101]⟩) = some (.bool (decide (ws.getD 0 [] = wPackage))) := str_eql
  have eN : binV .no .eql (str (ws.getD 0 [])) (.string ⟨#[110, 101, 101, 100, 115]⟩) = some (.bool (decide (ws.getD 0 [] = wNeeds))) := str_eql
  have eR : binV .no .eql (str (ws.getD 0 [])) (.string ⟨#[114, 101, 102, 117, 115, 101, 115]⟩) = some (.bool (decide (ws.getD 0 [] = wRefuses))) := str_eql
  have eF : binV .no .eql (str (ws.getD 0 [])) (.string ⟨#[102, 105, 108, 101]⟩) = some (.bool (decide (ws.getD 0 [] = wFile))) := str_eql
  rw [eP, Mpu_some, Mcd_bool]
  by_cases hp : ws.getD 0 [] = wPackage
  · rw [if_pos (by simpa using hp)]
    refine word_i t1 hv1 1 ?_
    obtain ⟨vd, vc, vf, aq, hbd, hbc, hbf⟩ := a1.ex
    have h8 := manC_len (vd := vd) (vc := vc) (vf := vf) ha.wf
    obtain ⟨h3, st3, a3, k3⟩ := aq.st1 (i := 0) (v := str (ws.getD 1 [])) (by omega) rfl
    have n3 : ∀ b, b ≠ q → ¬ b = q := fun b h => h
    have t3 := t1.keep k3 (show ¬ H.size = q by omega)
    have hv3 := hv1.keep k3 fun b hb => (hP b hb).1
    have k03 : Keep (· = q) H h3 := (k1.mono fun _ _ h => h.elim).trans k3
    rw [nck_ptr, Mpu_some, fld_ptr, Mpu_some, Nat.add_zero, st3, Mwr_some]
    refine word_i t3 hv3 2 ?_
    have T3 := hT.keep k03 fun b hb => by subst hb; exact hN
    refine call_i (c_Parse T3.err T3.pow (hlen1 2)) ?_
    rintro u h5 ⟨hR, k5⟩
    obtain ⟨x, e, rfl, hx⟩ : ∃ x e, u = .tuple #[.agg (verC x).toArray, .int .i64 e] ∧ VerR (ws.getD 2 []) x := by
      rcases hR with ⟨x, h1, h2, h3, rfl⟩ | ⟨h1, rfl⟩
      · exact ⟨x, 0, rfl, .inl ⟨h1, h2, h3⟩⟩
      · exact ⟨zeroV, 10, rfl, .inr ⟨h1, rfl⟩⟩
    have a5 := a3.keep k5 id
    have hset : (manC m vd vc vf).set 0 (str (ws.getD 1 [])) = [str (ws.getD 1 [])] ++ verC m.ver ++ [vd, vc, vf] := by simp [manC]
    rw [hset] at a5
    obtain ⟨h6, st6, a6, k6⟩ := at_mid a5 (o := 1) (n := 4) (B' := verC x) rfl (verC_len ha.wf.ver) (verC_len hx.wf) verC_one
    simp only [ex20, ex21, Mpu_some, nck_ptr, fld_ptr, Nat.zero_add, st6, Mwr_some]
    have k16 : Keep (· = q) H1 h6 := (k3.trans (k5.mono fun _ _ h => h.elim)).trans k6
    have kk : Keep (· = q) H h6 := (k1.mono fun _ _ h => h.elim).trans k16
    refine ⟨Fd, Fc, { m with name := ws.getD 1 [], ver := x }, ⟨⟨vd, vc, vf, ?_, hbd.keep k16 fun b hb e => a1.nq.1 (e ▸ hb), hbc.keep k16 fun b hb e => a1.nq.2.1 (e ▸ hb), hbf.keep k16 fun b hb e => a1.nq.2.2 (e ▸ hb)⟩, a1.nq, a1.dis, fun b hb => Nat.lt_of_lt_of_le (a1.lt b hb) k16.1, ⟨by have := hlen1 1; show (ws.getD 1 []).length ≤ _; omega, hx.wf, ha.wf.deps, ha.wf.conf, ha.wf.files⟩⟩, .inl ⟨hp, x, hx, rfl⟩, kk.mono fun b _ h => .inl h, fun b hb => .inl hb, fun b hb => .inl hb⟩
    have : manC { m with name := ws.getD 1 [], ver := x } vd vc vf = [str (ws.getD 1 [])] ++ verC x ++ [vd, vc, vf] := by simp [manC]
    rw [this]; exact a6
  rw [if_neg (by simpa using hp)]
  refine J1_i (fun u h => u = .bool (decide (ws.getD 0 [] = wNeeds) || decide (ws.getD 0 [] = wRefuses)) ∧ H1 = h) (fun k hk => ?_) ?_
  · rw [eN, Mpu_some, Mcd_bool]
    by_cases hn : ws.getD 0 [] = wNeeds
    · rw [if_pos (by simpa using hn)]
      exact hk _ _ ⟨by rw [decide_eq_true hn]; rfl, rfl⟩
    · rw [if_neg (by simpa using hn), eR, Mpu_some]
      exact hk _ _ ⟨by rw [decide_eq_false hn]; rfl, rfl⟩
  rintro _ _ ⟨rfl, rfl⟩
  rw [Mcd_bool]
  by_cases hnr : (decide (ws.getD 0 [] = wNeeds) || decide (ws.getD 0 [] = wRefuses)) = true
  · rw [if_pos hnr]
    refine word_i t1 hv1 2 ?_
    have T1 := hT.keep k1 fun _ h => h.elim
    refine call_i (c_ParseWant T1.err T1.pow T1.ops (hlen1 2)) ?_
    rintro u h10 ⟨hR, k10⟩
    obtain ⟨x, e, rfl, hx⟩ : ∃ x e, u = .tuple #[.agg (wantC x).toArray, .int .i64 e] ∧ WantRR (ws.getD 2 []) x := by
      rcases hR with ⟨x, h1, h2, h3, rfl⟩ | ⟨h1, rfl⟩
      · exact ⟨x, 0, rfl, .inl ⟨h1, h2, h3⟩⟩
      · exact ⟨zeroW, 10, rfl, .inr ⟨h1, rfl⟩⟩
    simp only [ex20, ex21, Mpu_some, z_Want, Mnew_some]
    generalize hH11 : h10.push (.cells (wantC zeroW).toArray T_version_Want (0, 0)) = h11
    have k11 : Keep (fun _ => False) h10 h11 := by rw [← hH11]; exact Keep.push
    have w11 : At h11 h10.size (wantC zeroW) := by rw [← hH11]; exact At.push
    obtain ⟨h12, st12, w12, k12⟩ := w11.st (n := 5) (ds := wantC x) (wantC_len zeroW_wf) (wantC_len hx.wf) wantC_one
    have g1 := k1.1
    have g10 := k10.1
    have k112 : Keep (fun _ => False) H1 h12 := (k10.trans k11).fresh k12 fun b hb => by omega
    have t12 := t1.keep k112 id
    have hv12 := hv1.keep k112 fun _ _ => id
    have dwf : (⟨ws.getD 1 [], x⟩ : Dep).wf := ⟨hx.wf, by have := hlen1 1; show (ws.getD 1 []).length ≤ _; omega⟩
    have hbd1 : buildV prg T_manifest_Dep [(0, str (ws.getD 1 [])), (1, .agg (wantC x).toArray)] = some (.agg (depC ⟨ws.getD 1 [], x⟩).toArray) := b_Dep dwf
    generalize hD : (⟨ws.getD 1 [], x⟩ : Dep) = D at *
    rw [st12, Mwr_some]
    refine J1_i (fun u h => ∃ y, u = Ptr y 0 ∧ At h y (depC D) ∧ Keep (fun _ => False) h12 h) (fun k hk => ?_) ?_
    · rw [want_ld5 w12 hx.wf, Mpu_some]
      refine ⟨?_, ?_⟩
      · refine word_i t12 hv12 1 ⟨want_ld5 w12 hx.wf, ?_⟩
        simp only [hbd1, z_Dep, Mnew_some, Mpu_some]
        generalize hH15 : h12.push (.cells (depC zeroD).toArray T_manifest_Dep (0, 0)) = h15
        have k15 : Keep (fun _ => False) h12 h15 := by rw [← hH15]; exact Keep.push
        have y15 : At h15 h12.size (depC zeroD) := by rw [← hH15]; exact At.push
        obtain ⟨h16, st16, y16, k16⟩ := y15.st (n := 6) (ds := depC D) (depC_len zeroD_wf) (depC_len dwf) depC_one
        refine ⟨want_ld5 (w12.keep k15 id) hx.wf, ?_⟩
        rw [Mre_nil, st16, Mwr_some]
        exact hk _ _ ⟨h12.size, rfl, y16, k15.fresh k16 fun b hb => by omega⟩
      · simp only [z_Dep, Mnew_some]
        generalize hH15 : h12.push (.cells (depC zeroD).toArray T_manifest_Dep (0, 0)) = h15
        have k15 : Keep (fun _ => False) h12 h15 := by rw [← hH15]; exact Keep.push
        have y15 : At h15 h12.size (depC zeroD) := by rw [← hH15]; exact At.push
        obtain ⟨h16, st16, y16, k16⟩ := y15.st (n := 6) (ds := depC D) (depC_len zeroD_wf) (depC_len dwf) depC_one
        refine ⟨want_ld5 (w12.keep k15 id) hx.wf, ?_⟩
        rw [Mre_nil]
        refine word_i (t12.keep k15 id) (hv12.keep k15 fun _ _ => id) 1 ⟨want_ld5 (w12.keep k15 id) hx.wf, ?_⟩
        rw [Mre_nil, hbd1, Mpu_some, st16, Mwr_some]
        exact hk _ _ ⟨h12.size, rfl, y16, k15.fresh k16 fun b hb => by omega⟩
    rintro _ h20 ⟨y, rfl, y20, k20⟩
    have k120 := k112.trans k20
    have t20 := t1.keep k120 id
    have hv20 := hv1.keep k120 fun _ _ => id
    obtain ⟨b2, o2, hix2, hpt2, hP2⟩ := hv20.at (strs_get hw0)
    have hix2 : ixS 1 v (.int .i64 0) = some (Ptr b2 o2) := hix2 .i64
    have d2 : ld1 h20 (Ptr H.size 0) = some v := t20.ld rfl
    rw [d2, Mpu_some, hix2, Mpu_some, hpt2.cell0 rfl, Mpu_some, eN, Mpu_some, Mcd_bool]
    have a20 := a1.keep k120 fun _ _ => id
    obtain ⟨vd, vc, vf, aq, hbd, hbc, hbf⟩ := a20.ex
    have g5 := (man_get aq ha.wf).1
    have g6 := (man_get aq ha.wf).2.1
    have h8 := manC_len (vd := vd) (vc := vc) (vf := vf) ha.wf
    have k020 := k1.trans k120
    have g20 := k020.1
    have hv4 := verC_len ha.wf.ver
    have hylt := y20.lt
    by_cases hn : ws.getD 0 [] = wNeeds
    · rw [if_pos (by simpa using hn)]
      rw [nck_ptr, Mpu_some, fld_ptr, Mpu_some, Nat.zero_add, g5, Mpu_some, y20.ldN (depC_len dwf), Mpu_some]
      simp only [bsl_Dep dwf, Mnews_some]
      have kp : Keep (fun _ => False) h20 (h20.push (.cells (depC D).toArray T_manifest_Dep (0, 0))) := Keep.push
      refine ⟨(man_get (aq.keep kp id) ha.wf).1, ?_⟩
      rw [Mre_nil]
      refine app_dep hbd dwf hd fun u h22 hu k22 s22 => ?_
      have aq22 := aq.keep k22 ha.nq.1
      obtain ⟨h23, st23, a23, k23⟩ := aq22.st1 (i := 5) (v := u) (by omega) hu.sl.oneC
      rw [Mpu_some, fld_ptr, Mpu_some, Nat.zero_add, st23, Mwr_some]
      have g22 := k22.1
      have hql := aq22.lt
      have hu23 := (BufE.re hu (G := fun b => (Fd b ∨ b = h20.size + 1) ∧ b < h22.size) fun b hb h => ⟨h, hb⟩).keep k23 fun b hb => by
        rintro rfl
        rcases hb.1 with h | h
        · exact ha.nq.1 h
        · have := ha.lt_q; omega
      have g23 := k23.1
      have kc : ∀ b, Fc b ∨ Ff b → ¬ Fd b := fun b hb hf => by
        rcases hb with hb | hb
        · exact (ha.dis b).1 ⟨hf, hb⟩
        · exact (ha.dis b).2.1 ⟨hf, hb⟩
      refine ⟨fun b => (Fd b ∨ b = h20.size + 1) ∧ b < h22.size, Fc, { m with deps := m.deps ++ [D] }, ⟨⟨u, vc, vf, ?_, hu23, (hbc.keep k22 fun b hb => kc b (.inl hb)).keep k23 fun b hb e => ha.nq.2.1 (e ▸ hb), (hbf.keep k22 fun b hb => kc b (.inr hb)).keep k23 fun b hb e => ha.nq.2.2 (e ▸ hb)⟩, ⟨?_, ha.nq.2.1, ha.nq.2.2⟩, ?_, ?_, ⟨ha.wf.name, ha.wf.ver, ?_, ha.wf.conf, ha.wf.files⟩⟩, .inr (.inl ⟨hn, x, hx, by rw [hD]⟩), ?_, ?_, fun b hb => .inl hb⟩
      · have : (manC m vd vc vf).set 5 u = manC { m with deps := m.deps ++ [D] } u vc vf := by
          unfold manC
          rw [List.set_cons_succ, List.set_append_right _ _ (by omega), hv4]; rfl
        rw [← this]; exact a23
      · rintro ⟨h | h, h2⟩
        · exact ha.nq.1 h
        · have := ha.lt_q; omega
      · intro b
        refine ⟨?_, ?_, (ha.dis b).2.2⟩
        · rintro ⟨⟨h | h, _⟩, hc⟩
          · exact (ha.dis b).1 ⟨h, hc⟩
          · have := ha.lt b (.inr (.inl hc)); omega
        · rintro ⟨⟨h | h, _⟩, hc⟩
          · exact (ha.dis b).2.1 ⟨h, hc⟩
          · have := ha.lt b (.inr (.inr hc)); omega
      · rintro b (⟨_, h⟩ | h)
        · omega
        · have := ha.lt b (.inr h); omega
      · intro d hd'
        rcases List.mem_append.1 hd' with h | h
        · exact ha.wf.deps d h
        · simp at h; subst h; exact dwf
      · refine ((k020.mono fun _ _ h => h.elim).trans (k22.mono fun b _ h => .inr (.inl h))).trans (k23.mono fun b _ h => .inl h)
      · rintro b ⟨h | h, _⟩
        · exact .inl h
        · exact .inr (by omega)
    · rw [if_neg (by simpa using hn)]
      have hr : ws.getD 0 [] = wRefuses := by rw [decide_eq_false hn, Bool.false_or, decide_eq_true_eq] at hnr; exact hnr
      rw [nck_ptr, Mpu_some, fld_ptr, Mpu_some, Nat.zero_add, g6, Mpu_some, y20.ldN (depC_len dwf), Mpu_some]
      simp only [bsl_Dep dwf, Mnews_some]
      have kp : Keep (fun _ => False) h20 (h20.push (.cells (depC D).toArray T_manifest_Dep (0, 0))) := Keep.push
      refine ⟨(man_get (aq.keep kp id) ha.wf).2.1, ?_⟩
      rw [Mre_nil]
      refine app_dep hbc dwf hc fun u h22 hu k22 s22 => ?_
      have aq22 := aq.keep k22 ha.nq.2.1
      obtain ⟨h23, st23, a23, k23⟩ := aq22.st1 (i := 6) (v := u) (by omega) hu.sl.oneC
      rw [Mpu_some, fld_ptr, Mpu_some, Nat.zero_add, st23, Mwr_some]
      have g22 := k22.1
      have hql := aq22.lt
      have hu23 := (BufE.re hu (G := fun b => (Fc b ∨ b = h20.size + 1) ∧ b < h22.size) fun b hb h => ⟨h, hb⟩).keep k23 fun b hb => by
        rintro rfl
        rcases hb.1 with h | h
        · exact ha.nq.2.1 h
        · have := ha.lt_q; omega
      have g23 := k23.1
      have kc : ∀ b, Fd b ∨ Ff b → ¬ Fc b := fun b hb hf => by
        rcases hb with hb | hb
        · exact (ha.dis b).1 ⟨hb, hf⟩
        · exact (ha.dis b).2.2 ⟨hf, hb⟩
      refine ⟨Fd, fun b => (Fc b ∨ b = h20.size + 1) ∧ b < h22.size, { m with conf := m.conf ++ [D] }, ⟨⟨vd, u, vf, ?_, (hbd.keep k22 fun b hb => kc b (.inl hb)).keep k23 fun b hb e => ha.nq.1 (e ▸ hb), hu23, (hbf.keep k22 fun b hb => kc b (.inr hb)).keep k23 fun b hb e => ha.nq.2.2 (e ▸ hb)⟩, ⟨ha.nq.1, ?_, ha.nq.2.2⟩, ?_, ?_, ⟨ha.wf.name, ha.wf.ver, ha.wf.deps, ?_, ha.wf.files⟩⟩, .inr (.inr (.inl ⟨hr, x, hx, by rw [hD]⟩)), ?_, fun b hb => .inl hb, ?_⟩
      · have : (manC m vd vc vf).set 6 u = manC { m with conf := m.conf ++ [D] } vd u vf := by
          unfold manC
          rw [List.set_cons_succ, List.set_append_right _ _ (by omega), hv4]; rfl
        rw [← this]; exact a23
      · rintro ⟨h | h, h2⟩
        · exact ha.nq.2.1 h
        · have := ha.lt_q; omega
      · intro b
        refine ⟨?_, (ha.dis b).2.1, ?_⟩
        · rintro ⟨hc, ⟨h | h, _⟩⟩
          · exact (ha.dis b).1 ⟨hc, h⟩
          · have := ha.lt b (.inl hc); omega
        · rintro ⟨⟨h | h, _⟩, hc⟩
          · exact (ha.dis b).2.2 ⟨h, hc⟩
          · have := ha.lt b (.inr (.inr hc)); omega
      · rintro b (h | ⟨_, h⟩ | h)
        · have := ha.lt b (.inl h); omega
        · omega
        · have := ha.lt b (.inr (.inr h)); omega
      · intro d hd'
        rcases List.mem_append.1 hd' with h | h
        · exact ha.wf.conf d h
        · simp at h; subst h; exact dwf
      · refine ((k020.mono fun _ _ h => h.elim).trans (k22.mono fun b _ h => .inr (.inr h))).trans (k23.mono fun b _ h => .inl h)
      · rintro b ⟨h | h, _⟩
        · exact .inl h
        · exact .inr (by omega)
  · rw [if_neg hnr, eF, Mpu_some, Mcd_bool, if_neg (by simpa using hnf)]
    simp only [Bool.or_eq_true, decide_eq_true_eq, not_or] at hnr
    exact ⟨Fd, Fc, m, a1, .inr (.inr (.inr ⟨hp, hnr.1, hnr.2, rfl⟩)), k1.mono fun _ _ h => h.elim, fun b hb => .inl hb, fun b hb => .inl hb⟩
end Go.Proofs.YtconalffokhplaaGreatDoor
/- manifest.Parse of the text of the law's awake. -/
namespace Go.Proofs.YtconalffokhplaaGreatDoor
open Go.X Go.X.Diff
set_option maxRecDepth 100000

theorem Pt.closed {n0 : Nat} {h h' : Heap} {b o : Nat} {cs : List Value} (p : Pt h b o cs) (c : Closed n0 h h') : Pt h' b o cs := by
  obtain ⟨x, T, f, hb, h1⟩ := p
  exact ⟨x, T, f, c.2.2 _ _ hb (fun ds e => by cases e), h1⟩
theorem SlE.closed {n n0 : Nat} {P : Nat → Prop} {h h' : Heap} {v : Value} {xs : List (List Value)} (s : SlE n P h v xs) (c : Closed n0 h h') : SlE n P h' v xs := by
  obtain ⟨⟨a, k, h1, h2, h3⟩, h4, h5⟩ := s
  refine ⟨⟨a, k, h1, h2, ?_⟩, h4, h5⟩
  rcases h3 with h3 | ⟨b, o, e, hb, hp⟩
  · exact .inl h3
  · exact .inr ⟨b, o, e, hb, Pt.closed hp c⟩
theorem ManV.closed {P : Nat → Prop} {n0 : Nat} {h h' : Heap} {m : Man} {vd vc vf : Value} (v : ManV P h m vd vc vf) (c : Closed n0 h h') : ManV P h' m vd vc vf :=
  ⟨SlE.closed v.d c, SlE.closed v.c c, SlE.closed v.f c, v.wf⟩

def zeroM : Man := ⟨[], zeroV, [], [], []⟩
def nilS : Value := .slice none 0 0
theorem zeroM_wf : zeroM.wf := ⟨by simp [zeroM], zeroV_wf, by simp [zeroM], by simp [zeroM], by simp [zeroM]⟩
theorem z_Man : zcells prg T_manifest_Manifest = some (manC zeroM nilS nilS nilS).toArray := by kernel_rfl

def awakeT : List UInt8 := [112, 97, 99, 107, 97, 103, 101, 32, 104, 101, 108, 108, 111, 32, 49, 46, 48, 46, 48, 10, 110, 101, 101, 100, 115, 32, 108, 105, 98, 99, 32, 94, 50, 46, 49, 46, 48, 10]
def helloB : List UInt8 := [104, 101, 108, 108, 111]
def mA1 : Man := ⟨helloB, ⟨[1, 0, 0], []⟩, [], [], []⟩
def libcD : Dep := ⟨[108, 105, 98, 99], ⟨[94], ⟨[2, 1, 0], []⟩⟩⟩
def mA2 : Man := ⟨helloB, ⟨[1, 0, 0], []⟩, [libcD], [], []⟩
def ms : Nat → Man
  | 0 => zeroM
  | 1 => mA1
  | _ => mA2
def wsA : Nat → List (List UInt8)
  | 0 => [wPackage, helloB, [49, 46, 48, 46, 48]]
  | _ => [wNeeds, [108, 105, 98, 99], [94, 50, 46, 49, 46, 48]]
theorem mA2_ok : manOk mA2 = true := by decide +kernel
theorem mA2_S : manS mA2 = awakeT := by decide +kernel
theorem lines_A : linesF awakeT = [[112, 97, 99, 107, 97, 103, 101, 32, 104, 101, 108, 108, 111, 32, 49, 46, 48, 46, 48, 10], [110, 101, 101, 100, 115, 32, 108, 105, 98, 99, 32, 94, 50, 46, 49, 46, 48, 10]] := by decide +kernel
theorem step_A {j : Nat} {y : List UInt8} (h : (linesF awakeT)[j]? = some y) : j < 2 ∧ y.length ≤ 100 ∧ (trimNl y).length ≤ 100 ∧ splitF 32 (trimNl y) = wsA j := by
  rw [lines_A] at h
  match j, h with
  | 0, h => simp at h; subst h; decide +kernel
  | 1, h => simp at h; subst h; decide +kernel
  | j + 2, h => simp at h
theorem ver_A {v : Ver} (h : VerR [49, 46, 48, 46, 48] v) : v = ⟨[1, 0, 0], []⟩ := by
  have f1 : verOk ⟨[1, 0, 0], []⟩ = true := by decide +kernel
  have f2 : showF ⟨[1, 0, 0], []⟩ = [49, 46, 48, 46, 48] := by decide +kernel
  rcases h with ⟨h1, h2, h3⟩ | ⟨h1, _⟩
  · exact show_inj h1.p3 rfl h2 f1 (by rw [h3, f2])
  · exact absurd f2 (h1 _ rfl f1)
theorem want_A {w : Want} (h : WantRR [94, 50, 46, 49, 46, 48] w) : w = ⟨[94], ⟨[2, 1, 0], []⟩⟩ := by
  have hw : (⟨[94], ⟨[2, 1, 0], []⟩⟩ : Want).wf := ⟨⟨rfl, by simp⟩, by simp⟩
  have f3 : wantOk ⟨[94], ⟨[2, 1, 0], []⟩⟩ = true := by decide +kernel
  have f4 : wantS ⟨[94], ⟨[2, 1, 0], []⟩⟩ = [94, 50, 46, 49, 46, 48] := by decide +kernel
  rcases h with ⟨h1, h2, h3⟩ | ⟨h1, _⟩
  · exact want_inj h1 hw h2 f3 (by rw [h3, f4])
  · exact absurd f4 (h1 _ hw f3)
theorem read_A {j : Nat} {m' : Man} (hj : j < 2) (h : ReadR (wsA j) (ms j) m') : m' = ms (j + 1) := by
  have a1 : (wsA 0).getD 0 [] = wPackage := rfl
  have a2 : (wsA 1).getD 0 [] = wNeeds := rfl
  have n1 : wPackage ≠ wNeeds := by decide
  have n2 : wPackage ≠ wRefuses := by decide
  have n3 : wNeeds ≠ wPackage := by decide
  have n4 : wNeeds ≠ wRefuses := by decide
  match j, hj with
  | 0, _ =>
    unfold ReadR at h
    rw [a1] at h
    rcases h with ⟨_, v, hv, rfl⟩ | ⟨h, _⟩ | ⟨h, _⟩ | ⟨h, _⟩
    · rw [ver_A hv]; rfl
    · exact absurd h n1
    · exact absurd h n2
    · exact absurd rfl h
  | 1, _ =>
    unfold ReadR at h
    rw [a2] at h
    rcases h with ⟨h, _⟩ | ⟨_, w, hw, rfl⟩ | ⟨h, _⟩ | ⟨_, h, _⟩
    · exact absurd h n3
    · rw [want_A hw]; rfl
    · exact absurd h n4
    · exact absurd rfl h

structure PA (n0 q2 q n5 : Nat) (H : Heap) (j : Nat) (h : Heap) : Prop where
  r : At h q2 (manC zeroM nilS nilS nilS)
  m : ∃ Fd Fc, ManAt q Fd Fc (fun _ => False) (ms j) h ∧ ∀ b, Fd b ∨ Fc b → n5 + 2 ≤ b
  k : Keep (fun _ => False) H h
theorem PA.keep {n0 q2 q n5 : Nat} {H : Heap} {j : Nat} {h h' : Heap} {S : Nat → Prop} (p : PA n0 q2 q n5 H j h) (k : Keep S h h') (hs : ∀ b, S b → H.size ≤ b ∧ b ≠ q2 ∧ b ≠ q ∧ b < n5 + 2) : PA n0 q2 q n5 H j h' := by
  obtain ⟨Fd, Fc, h1, h2⟩ := p.m
  refine ⟨p.r.keep k fun h => (hs _ h).2.1 rfl, ⟨Fd, Fc, h1.keep k fun b hb hS => ?_, h2⟩, p.k.fresh k fun b hb => (hs b hb).1⟩
  rcases hb with rfl | hb | hb | hb
  · exact (hs _ hS).2.2.1 rfl
  · have := h2 b (.inl hb); have := (hs b hS).2.2.2; omega
  · have := h2 b (.inr hb); have := (hs b hS).2.2.2; omega
  · exact hb

set_option maxHeartbeats 1000000 in
theorem c_ParseA {H : Heap} (hT : VerT H) : HCalls prg f_manifest_Parse [str awakeT] H fun u H' => (∃ vd vc vf P, u = .tuple #[.agg (manC mA2 vd vc vf).toArray, .int .i64 0] ∧ ManV P H' mA2 vd vc vf ∧ ∀ b, P b → b < H'.size) ∧ Keep (fun _ => False) H H' := by
  apply sh_manifest_Parse_calls
  unfold sh_manifest_Parse
  simp only [z_Man, Mnew_some]
  generalize hH1 : H.push (.cells (manC zeroM nilS nilS nilS).toArray T_manifest_Manifest (0, 0)) = H1
  have k1 : Keep (fun _ => False) H H1 := by rw [← hH1]; exact Keep.push
  have a1 : At H1 H.size (manC zeroM nilS nilS nilS) := by rw [← hH1]; exact At.push
  have s1 : H1.size = H.size + 1 := by rw [← hH1]; simp
  generalize hH2 : H1.push (.cells (manC zeroM nilS nilS nilS).toArray T_manifest_Manifest (0, 0)) = H2
  have k2 : Keep (fun _ => False) H1 H2 := by rw [← hH2]; exact Keep.push
  have a2 : At H2 H1.size (manC zeroM nilS nilS nilS) := by rw [← hH2]; exact At.push
  have s2 : H2.size = H1.size + 1 := by rw [← hH2]; simp
  have hNG : NG ≤ H.size := hT.pow.sz
  refine J0_i (fun h => PA 0 H.size H1.size (H2.size + 1) H 2 h) (fun k3 hk3 => ?_) ?_
  · refine call_i c_Lines ?_
    rintro _ h5 ⟨rfl, al, s5, k5⟩
    have k05 := k1.trans (k2.trans k5)
    have inv0 : PA 0 H.size H1.size (H2.size + 1) H 0 h5 :=
      ⟨(a1.keep k2 id).keep k5 id, ⟨fun _ => False, fun _ => False, ⟨⟨nilS, nilS, nilS, a2.keep k5 id, BufE.nil, BufE.nil, BufE.nil⟩, ⟨id, id, id⟩, fun b => ⟨fun h => h.1, fun h => h.1, fun h => h.1⟩, fun b hb => by simp at hb, zeroM_wf⟩, fun b hb => by simp at hb⟩, k05⟩
    refine range_i (xs := (linesF awakeT).map fun x => [str x]) (S := (· = H2.size)) (W := fun b => b = H1.size ∨ h5.size + 2 ≤ b) (St := fun h => At h H2.size [str awakeT])
      (lines_iter (by decide)) (fun o o' => al.keep ((Keep.push (S := fun _ => False)).trans Keep.push) id) k05.1
      (fun j h => PA 0 H.size H1.size (H2.size + 1) H j h) (fun _ _ => False) inv0
      (fun i h h' hI k => hI.keep k fun b hb => ?_) (fun c h h' hX k => hX) (fun b hb => ?_) (fun b hb => ?_) ?_ ?_ ?_
    · rcases hb with rfl | rfl | rfl
      · exact ⟨by omega, by omega, by omega, by omega⟩
      · exact ⟨by omega, by omega, by omega, by omega⟩
      · exact ⟨by omega, by omega, by omega, by omega⟩
    · omega
    · rcases hb with rfl | hb
      · exact ⟨by omega, by omega, by omega⟩
      · exact ⟨by omega, by omega, by omega⟩
    · intro j x h r hx hI hloop hready K hN hEx
      obtain ⟨y, hy, rfl⟩ : ∃ y, (linesF awakeT)[j]? = some y ∧ x = [str y] := by
        rw [List.getElem?_map] at hx
        obtain ⟨y, h1, h2⟩ := Option.map_eq_some_iff.1 hx
        exact ⟨y, h1, h2.symm⟩
      obtain ⟨hj, hy1, hy2, hsp⟩ := step_A hy
      refine ⟨rfl, r, hloop, hready, ?_⟩
      have hsz := lt_of hloop
      generalize hhb : h.setIfInBounds (h5.size + 1) (.loop { r with state := .busy }) = hb at *
      have kb : Keep (· = h5.size + 1) h hb := by rw [← hhb]; exact Keep.set rfl
      have hI := hI.keep kb fun b hb => by subst hb; exact ⟨by omega, by omega, by omega, by omega⟩
      have gb := kb.1
      refine call_i (c_TrimSuffix (show y.length ≤ 1099511627776 by omega)) ?_
      rintro _ _ ⟨rfl, rfl⟩
      refine call_i (c_Split (c := 32) (show (trimNl y).length ≤ 1099511627776 by omega)) ?_
      rintro v h13 ⟨hv, k13⟩
      rw [hsp] at hv
      have hI3 := hI.keep k13 fun b hb => hb.elim
      obtain ⟨Fd, Fc, hm, hF⟩ := hI3.m
      have hF0 := hI.m
      have g13 := k13.1
      obtain ⟨Fd0, Fc0, hm0, hFo⟩ := hI.m
      have hm3 := hm0.keep k13 fun _ _ => id
      have hds : (ms j).deps.length ≤ 1048576 ∧ (ms j).conf.length ≤ 1048576 := by
        match j, hj with
        | 0, _ => decide
        | 1, _ => decide
      have hwl : ∀ w ∈ wsA j, w.length ≤ 1048576 := by
        match j, hj with
        | 0, _ => decide
        | 1, _ => decide
      have hwf : wsA j ≠ [] ∧ (wsA j).getD 0 [] ≠ wFile := by
        match j, hj with
        | 0, _ => decide
        | 1, _ => decide
      refine call_i (c_read0 (P := fun b => hb.size ≤ b) hm3 hv.sl hwf.1 hwf.2 (fun b hb' => ?_) hwl hds.1 hds.2 (hT.keep (hI.k.trans k13) fun _ h => h.elim) (by omega) (fun b hb' => ?_)) ?_
      · have hlt := hm0.lt
        have hq := hm0.lt_q
        refine ⟨by omega, fun h => ?_, fun h => ?_, id⟩
        · have := hlt b (.inl h); omega
        · have := hlt b (.inr (.inl h)); omega
      · rcases hb' with h | h | h
        · have := hFo b (.inl h); omega
        · have := hFo b (.inr h); omega
        · exact h.elim
      rintro _ h14 ⟨Fd', Fc', m', hm', hR, k14, hFd, hFc⟩
      obtain rfl := read_A hj hR
      have hF' : ∀ b, Fd' b ∨ Fc' b → H2.size + 1 + 2 ≤ b := fun b hb' => by
        rcases hb' with h | h
        · rcases hFd b h with h | h
          · exact hFo b (.inl h)
          · omega
        · rcases hFc b h with h | h
          · exact hFo b (.inr h)
          · omega
      have kW : Keep (fun b => b = H1.size ∨ h5.size + 2 ≤ b) hb h14 := (k13.mono fun _ _ h => h.elim).trans (k14.mono fun b _ hb' => by
        rcases hb' with h | h | h
        · exact .inl h
        · have := hFo b (.inl h); exact .inr (by omega)
        · have := hFo b (.inr h); exact .inr (by omega))
      have inv' : PA 0 H.size H1.size (H2.size + 1) H (j + 1) h14 := ⟨hI.r.keep kW (by omega), ⟨Fd', Fc', hm', hF'⟩, hI.k.fresh kW fun b hb' => by omega⟩
      obtain ⟨vd, vc, vf, aq, hbd, hbc, hbf⟩ := hm'.ex
      obtain ⟨g5, g6, g7⟩ := man_get aq hm'.wf
      have lf := hbf.sl.len
      have ld := hbd.sl.len
      have lc := hbc.sl.len
      rw [List.length_map] at lf ld lc
      have hcnt : (ms (j + 1)).files.length = 0 ∧ (ms (j + 1)).deps.length ≤ 16 ∧ (ms (j + 1)).conf.length ≤ 16 := by
        match j, hj with
        | 0, _ => decide
        | 1, _ => decide
      have e1 : binV .no .gtr (.int .i64 ((ms (j + 1)).files.length : Nat)) (.int .i64 64) = some (.bool false) := by
        rw [binV_int]; simp only [intV]; rw [decide_eq_false (by omega)]
      have e2 : binV .no .gtr (.int .i64 ((ms (j + 1)).deps.length : Nat)) (.int .i64 16) = some (.bool false) := by
        rw [binV_int]; simp only [intV]; rw [decide_eq_false (by omega)]
      have e3 : binV .no .gtr (.int .i64 ((ms (j + 1)).conf.length : Nat)) (.int .i64 16) = some (.bool false) := by
        rw [binV_int]; simp only [intV]; rw [decide_eq_false (by omega)]
      simp only [fld_ptr, Nat.zero_add, g5, g6, g7, lf, ld, lc, e1, e2, e3, unV_not, Bool.not_true, Bool.not_false, Mif_bool, Mif_undef, pickV_bool, Mcd_bool, Mpu_some, if_true, if_false, Bool.false_eq_true, Bool.true_eq_false, decide_true, decide_false, reduceCtorEq, J1_eq, ex20, ex21, ex30, ex31, ex32, Mre_ok, Mre_nil]
      exact hN h14 kW inv'
    · intro h hsz hI
      refine .inr (.inl ⟨rfl, hk3 h ?_⟩)
      have : ((linesF awakeT).map fun x => [str x]).length = 2 := by rw [lines_A]; rfl
      rw [this] at hI
      exact hI
    · intro c h hsz hX
      exact hX.elim
  intro h4 hI
  obtain ⟨Fd, Fc, hm, hF⟩ := hI.m
  obtain ⟨vd, vc, vf, aq, hbd, hbc, hbf⟩ := hm.ex
  have hm2 : ms 2 = mA2 := rfl
  rw [hm2] at aq hbd hbc hbf hm
  have w := hm.wf
  have hmv : ManV (fun b => Fd b ∨ Fc b) h4 mA2 vd vc vf := ⟨hbd.sl.mono fun b h => .inl h, hbc.sl.mono fun b h => .inr h, hbf.sl.mono fun b h => h.elim, w⟩
  have hlt : ∀ b, Fd b ∨ Fc b → b < h4.size := fun b hb => hm.lt b (hb.imp id fun h => .inl h)
  have T4 := hT.keep hI.k fun _ h => h.elim
  rw [man_ld aq w, Mpu_some]
  refine call_i (c_Show0 hmv hlt rfl (by decide) (by decide) T4.ops T4.pow) ?_
  rintro _ h5 ⟨rfl, k5⟩
  have aq5 := aq.keep k5 id
  have r5 := hI.r.keep k5 id
  have hmv5 := hmv.keep k5 fun _ _ => id
  have e0 : binV .no .neq (.int .i64 0) (.int .i64 0) = some (.bool false) := rfl
  have e1 : binV .no .neq (str (manS mA2)) (str awakeT) = some (.bool false) := by rw [str_neq, mA2_S, decide_eq_true rfl]; rfl
  obtain ⟨h6, st6, r6, k6⟩ := r5.st (n := 8) (ds := manC mA2 vd vc vf) (manC_len zeroM_wf) (manC_len w) hmv.one
  have hne : ¬ H1.size = H.size := by omega
  have q5 := aq5.lt
  have hmv6 := hmv5.keep k6 fun b hb e => by have := hF b hb; omega
  have kk : Keep (fun _ => False) H h6 := (hI.k.trans k5).fresh k6 fun b hb => by omega
  simp only [mA2_ok, ex20, ex21, e0, e1, man_ld aq5 w, st6, Mwr_some, unV_not, Bool.not_true, Bool.not_false, Mif_bool, Mif_undef, pickV_bool, Mcd_bool, Mpu_some, if_true, if_false, Bool.false_eq_true, Bool.true_eq_false, decide_true, decide_false, reduceCtorEq, J1_eq, ex20, ex21, ex30, ex31, ex32, Mre_ok, Mre_nil]
  refine mcl_i fun h7 hc => ?_
  have r7 := r6.closed hc
  have k7 := keep_closed kk hc
  rw [man_ld r7 w, Mpu_some]
  exact ⟨⟨vd, vc, vf, _, rfl, ManV.closed hmv6 hc, fun b hb => by have := hlt b hb; have := k5.1; have := k6.1; rw [hc.1]; omega⟩, k7⟩
end Go.Proofs.YtconalffokhplaaGreatDoor
