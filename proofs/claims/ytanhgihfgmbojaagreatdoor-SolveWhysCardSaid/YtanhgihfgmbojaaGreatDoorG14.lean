/- JOINED: V178 V179 -/
import Derived.Test.YtanhgihfgmbojaaGreatDoorG11
set_option linter.unusedSimpArgs false
set_option linter.unusedVariables false
/- ref 20: packages, deps; fits, refuses. -/
namespace Go.Proofs.YtanhgihfgmbojaaGreatDoor
open Go.X Go.X.Diff
set_option maxRecDepth 100000
set_option linter.unusedSimpArgs false
set_option linter.unusedVariables false

theorem c_version1 {H : Heap} {v : Ver} (hv : v.wf) : HCalls prg f_syngraphlaw20_version1 [.agg (verC v).toArray] H fun u H' => u = .agg (verC v).toArray ∧ Keep (fun _ => False) H H' := by
  apply sh_syngraphlaw20_version1_calls
  unfold sh_syngraphlaw20_version1
  simp only [Cells_agg, Mnew_some, z_RV]
  generalize hH1 : H.push (.cells (verC v).toArray T_version_Version (0, 0)) = H1
  have k1 : Keep (fun _ => False) H H1 := by rw [← hH1]; exact Keep.push
  have a1 : At H1 H.size (verC v) := by rw [← hH1]; exact At.push
  generalize hH2 : H1.push (.cells (verC ⟨[0, 0, 0], []⟩).toArray T_syngraphref18_Version (0, 0)) = H2
  have k2 : Keep (fun _ => False) H1 H2 := by rw [← hH2]; exact Keep.push
  have a2 : At H2 H1.size (verC zeroV) := by rw [← hH2]; exact At.push
  have a12 := a1.keep k2 id
  obtain ⟨h3, e3, a3, k3⟩ := a2.st (n := 4) (ds := verC v) (verC_len zeroV_wf) (verC_len hv) verC_one
  simp only [fld_ptr, Mpu_some, Nat.zero_add, ver_ld3 a12 hv, ver_pre a12 hv, b_RV hv, e3, Mwr_some, ver_ld4 a3 hv]
  exact ⟨by trivial, (k1.trans k2).fresh k3 fun b hb => by have := k1.1; omega⟩

theorem z_RDep : zcells prg T_syngraphref20_Dep = some (depC zeroD).toArray := by kernel_rfl
theorem k_RDep : structK prg T_syngraphref20_Dep = some ([(0, 1), (1, 1), (2, 4)], (depC zeroD).toArray) := by kernel_rfl
theorem b_RDep {d : Dep} (hd : d.wf) : buildV prg T_syngraphref20_Dep [(0, str d.name), (1, str d.want.op), (2, .agg (verC d.want.ver).toArray)] = some (.agg (depC d).toArray) := by
  obtain ⟨a, b, c, e⟩ := Ver.cases3 hd.want.ver
  obtain ⟨n, ⟨op, ⟨p, pre⟩⟩⟩ := d
  simp only at e
  subst e
  rw [buildV_of k_RDep]; rfl
theorem c_RDep : prg.cellsOf T_syngraphref20_Dep = 6 := by kernel_rfl
theorem bsl_RDep {d : Dep} (hd : d.wf) : bslV prg T_syngraphref20_Dep 1 [(0, .agg (depC d).toArray)] = some (depC d).toArray := bsl_one c_RDep (by omega) (by omega) z_RDep rfl (by simp [depC_len hd])
theorem depOp {h : Heap} {q : Nat} {d : Dep} (a : At h q (depC d)) : ld1 h (Ptr q 1) = some (str d.want.op) := a.ld (i := 1) rfl
theorem depVer {h : Heap} {q : Nat} {d : Dep} (a : At h q (depC d)) (hd : d.wf) : ldN 4 h (Ptr q 2) = some (.agg (verC d.want.ver).toArray) := by
  obtain ⟨T, a⟩ := a
  exact ldN_mid (A := [str d.name, str d.want.op]) (B := verC d.want.ver) (C := []) (by rw [List.append_nil]; exact a) rfl (verC_len hd.want.ver).symm
theorem c_lawDeps {P : Nat → Prop} {H : Heap} {v : Value} {xs : List Dep} (hv : SlE 6 P H v (xs.map depC)) (hw : ∀ d ∈ xs, d.wf) (hl : xs.length ≤ 1000000) :
    HCalls prg f_syngraphlaw20_deps [v] H fun u H' => BufE 6 (fun b => H.size ≤ b ∧ b < H'.size) H' u (xs.map depC) ∧ Keep (fun _ => False) H H' := by
  apply sh_syngraphlaw20_deps_calls
  unfold sh_syngraphlaw20_deps
  have lv := hv.len
  rw [List.length_map] at lv
  refine J2_i (fun t _ h => BufE 6 (fun b => H.size ≤ b) h t (xs.map depC) ∧ Keep (fun _ => False) H h) (fun k1 hk1 => ?_) ?_
  rotate_left
  · rintro t _ h ⟨hb, kh⟩
    exact ⟨BufE.re hb fun b hb hF => ⟨hF, hb⟩, kh⟩
  rw [lv, Mpu_some]
  refine L2_i (fun t u h => (∃ i : Nat, i ≤ xs.length ∧ u = .int .i64 (i : Nat) ∧ BufE 6 (fun b => H.size ≤ b) h t ((xs.take i).map depC)) ∧ Keep (fun _ => False) H h) (fun _ u _ => match u with | .int _ t => xs.length - t.toNat | _ => 0) ⟨⟨0, Nat.zero_le _, rfl, BufE.nil⟩, Keep.refl⟩ ?_
  rintro t _ h ⟨⟨i, hi, rfl, hb⟩, kh⟩ k hk
  rw [ltNn, Mpu_some, Mcd_bool]
  by_cases hlt : i < xs.length
  rotate_left
  · rw [if_neg (by simpa using hlt)]
    rw [List.take_of_length_le (by omega)] at hb
    exact hk1 _ _ _ ⟨hb, kh⟩
  rw [if_pos (by simpa using hlt)]
  have hg : xs[i]? = some xs[i] := List.getElem?_eq_getElem hlt
  have hm : xs[i] ∈ xs := List.getElem_mem hlt
  have htk : xs.take (i + 1) = xs.take i ++ [xs[i]] := by rw [List.take_add_one, hg]; rfl
  generalize xs[i] = d at *
  have hdw := hw d hm
  obtain ⟨p, o, hix, hpt, _⟩ := (hv.keep kh fun _ _ => id).at (i := i) (x := depC d) (by rw [List.getElem?_map, hg]; rfl)
  have gh := kh.1
  rw [hix .i64, Mpu_some, hpt.agg (depC_len hdw), Mpu_some]
  simp only [z_Dep', Mnew_some]
  generalize hH9 : h.push (.cells (depC zeroD).toArray T_manifest_Dep (0, 0)) = h9
  have k9 : Keep (fun _ => False) h h9 := by rw [← hH9]; exact Keep.push
  have a9 : At h9 h.size (depC zeroD) := by rw [← hH9]; exact At.push
  obtain ⟨h11, st11, a11, k11⟩ := a9.st (n := 6) (ds := depC d) (depC_len zeroD_wf) (depC_len hdw) depC_one
  have kg : Keep (fun _ => False) h h11 := k9.fresh k11 fun b hb => by omega
  rw [st11, Mwr_some]
  simp only [fld_ptr, Nat.zero_add, Nat.add_zero, Nat.reduceAdd, Mpu_some]
  rw [depNm a11, Mpu_some, depOp a11, Mpu_some, depVer a11 hdw, Mpu_some]
  refine call_i (c_version1 hdw.want.ver) ?_
  rintro _ h7 ⟨rfl, k7⟩
  have a7 := a11.keep k7 id
  simp only [Mre_cons, Mre_nil]
  refine ⟨depOp a7, depNm a7, ?_⟩
  rw [b_RDep hdw, Mpu_some, bsl_RDep hdw, Mnews_some]
  generalize hH8 : h7.push (.cells (depC d).toArray T_syngraphref20_Dep (0, 0)) = h8
  have k8 : Keep (fun _ => False) h7 h8 := by rw [← hH8]; exact Keep.push
  have n8 : h8[h7.size]? = some (.cells ([d].map depC).flatten.toArray T_syngraphref20_Dep (0, 0)) := by rw [← hH8]; simp
  have hx8 : SlE 6 (· = h7.size) h8 (.slice (some ⟨h7.size, 0, none⟩) 1 1) ([d].map depC) := SlE.new (rows := [d].map depC) n8 rfl (fun x hx => by simp at hx; subst hx; exact depC_len hdw) (fun x hx => by simp at hx; subst hx; exact depC_one)
  have k08 := (kg.trans k7).trans k8
  have g8 := k08.1
  refine (hb.keep k08 fun _ _ => id).app hx8 (by omega) (by simp; omega) (by show H.size ≤ h8.size; omega) fun t3 h15 ht k15 => ?_
  rw [add_one' (by omega), Mpu_some]
  refine hk _ _ _ ⟨⟨i + 1, by omega, rfl, ?_⟩, (kh.trans k08).fresh k15 fun b hb => hb⟩ (by show xs.length - (i + 1) < xs.length - i; omega)
  rw [htk, List.map_append]; exact ht
end Go.Proofs.YtanhgihfgmbojaaGreatDoor

/- ref 20: packages; fits, refuses. -/
namespace Go.Proofs.YtanhgihfgmbojaaGreatDoor
open Go.X Go.X.Diff
set_option maxRecDepth 100000
set_option linter.unusedSimpArgs false
set_option linter.unusedVariables false

abbrev PK := Man × Value × Value
def pkgC (x : PK) : List Value := str x.1.name :: (verC x.1.ver ++ [x.2.1, x.2.2])
structure PkV (Q : Nat → Prop) (H : Heap) (x : PK) : Prop where
  d : SlE 6 Q H x.2.1 (x.1.deps.map depC)
  c : SlE 6 Q H x.2.2 (x.1.conf.map depC)
  wf : x.1.wf
theorem PkV.keep {Q S : Nat → Prop} {H H' : Heap} {x : PK} (h : PkV Q H x) (k : Keep S H H') (hs : ∀ b, Q b → ¬ S b) : PkV Q H' x := ⟨h.d.keep k hs, h.c.keep k hs, h.wf⟩
theorem PkV.mono {Q R : Nat → Prop} {H : Heap} {x : PK} (h : PkV Q H x) (k : ∀ b, Q b → R b) : PkV R H x := ⟨h.d.mono k, h.c.mono k, h.wf⟩
theorem pkgC_len {x : PK} (h : x.1.wf) : (pkgC x).length = 7 := by simp [pkgC, verC_len h.ver]
theorem pkgC_one {Q : Nat → Prop} {H : Heap} {x : PK} (h : PkV Q H x) : ∀ c ∈ pkgC x, c.oneCell' = true := by
  intro c hc
  obtain ⟨p1, c1, e1⟩ := h.d.shape
  obtain ⟨p2, c2, e2⟩ := h.c.shape
  rcases List.mem_cons.1 hc with rfl | hc
  · rfl
  rcases List.mem_append.1 hc with hc | hc
  · exact verC_one c hc
  · simp only [List.mem_cons, List.not_mem_nil, or_false] at hc
    rcases hc with rfl | rfl
    · rw [e1]; rfl
    · rw [e2]; rfl
section
variable {h : Heap} {b o : Nat} {x : PK}
end
/- fits, refuses -/
def fitR (d : Dep) (m : Man) : Bool := decide (d.name = m.name) && fitsF d.want.op d.want.ver m.ver
def refR (a b : Man) : Bool := a.conf.any fun d => fitR d b
theorem fitR_eq {d : Dep} {m : Man} (h1 : wantOk d.want = true) (h2 : verOk m.ver = true) : fitR d m = fitM d m := by
  unfold fitR fitM
  rw [h1, h2, Bool.true_and, Bool.true_and, show decide (d.name = m.name) = decide (m.name = d.name) by rw [decide_eq_decide]; exact eq_comm]
/- packages -/
theorem z_Pkg : zcells prg T_syngraphref20_Package = some (pkgC (⟨[], zeroV, [], [], []⟩, nilS, nilS)).toArray := by kernel_rfl
theorem k_Pkg : structK prg T_syngraphref20_Package = some ([(0, 1), (1, 4), (5, 1), (6, 1)], (pkgC (⟨[], zeroV, [], [], []⟩, nilS, nilS)).toArray) := by kernel_rfl
theorem b_Pkg {Q : Nat → Prop} {H : Heap} {x : PK} (h : PkV Q H x) : buildV prg T_syngraphref20_Package [(0, str x.1.name), (1, .agg (verC x.1.ver).toArray), (2, x.2.1), (3, x.2.2)] = some (.agg (pkgC x).toArray) := by
  obtain ⟨a, b, c, e⟩ := Ver.cases3 h.wf.ver
  obtain ⟨p1, c1, e1⟩ := h.d.shape
  obtain ⟨p2, c2, e2⟩ := h.c.shape
  obtain ⟨⟨n, ⟨p, pre⟩, ds, cs, fs⟩, v1, v2⟩ := x
  simp only at e e1 e2
  subst e e1 e2
  rw [buildV_of k_Pkg]; rfl
theorem c_Pkg : prg.cellsOf T_syngraphref20_Package = 7 := by kernel_rfl
theorem bsl_Pkg {x : PK} (h : x.1.wf) : bslV prg T_syngraphref20_Package 1 [(0, .agg (pkgC x).toArray)] = some (pkgC x).toArray := bsl_one c_Pkg (by omega) (by omega) z_Pkg rfl (by simp [pkgC_len h])
structure PksV (Q : Nat → Prop) (H : Heap) (v : Value) (pk : List PK) : Prop where
  s : SlE 7 Q H v (pk.map pkgC)
  m : ∀ x ∈ pk, PkV Q H x
theorem PksV.keep {Q S : Nat → Prop} {H H' : Heap} {v : Value} {pk : List PK} (h : PksV Q H v pk) (k : Keep S H H') (hs : ∀ b, Q b → ¬ S b) : PksV Q H' v pk := ⟨h.s.keep k hs, fun x hx => (h.m x hx).keep k hs⟩
theorem PksV.mono {Q R : Nat → Prop} {H : Heap} {v : Value} {pk : List PK} (h : PksV Q H v pk) (k : ∀ b, Q b → R b) : PksV R H v pk := ⟨h.s.mono k, fun x hx => (h.m x hx).mono k⟩
set_option maxHeartbeats 2000000 in
theorem c_packages {P : Nat → Prop} {H : Heap} {mv : List MV} {v : Value} (hv : SlE 8 P H v (mv.map mvC)) (hm : ∀ x ∈ mv, ManV P H x.1 x.2.1 x.2.2.1 x.2.2.2) (hs : ∀ x ∈ mv, x.1.deps.length ≤ 1000 ∧ x.1.conf.length ≤ 1000) (hl : mv.length ≤ 1000) :
    HCalls prg f_syngraphlaw20_packages [v] H fun u H' => (∃ pk, PksV (fun b => H.size ≤ b ∧ b < H'.size) H' u pk ∧ pk.map (·.1) = hvOf mv) ∧ Keep (fun _ => False) H H' := by
  apply sh_syngraphlaw20_packages_calls
  unfold sh_syngraphlaw20_packages
  have lv := hv.len
  rw [List.length_map] at lv
  let I : Nat → Value → Heap → Prop := fun i t h => ∃ (F : Nat → Prop) (pk : List PK), (∀ b, F b → H.size ≤ b ∧ b < h.size) ∧ BufE 7 F h t (pk.map pkgC) ∧ pk.map (·.1) = (mv.take i).map (·.1) ∧ ∀ x ∈ pk, PkV (Qf H.size F h) h x
  refine J2_i (fun t _ h => I mv.length t h ∧ Keep (fun _ => False) H h) (fun k1 hk1 => ?_) ?_
  rotate_left
  · rintro t _ h ⟨⟨F, pk, h1, h2, h3, h4⟩, kh⟩
    rw [List.take_length] at h3
    exact ⟨⟨pk, ⟨h2.sl.mono h1, fun x hx => (h4 x hx).mono fun b hb => ⟨hb.1, hb.2.1⟩⟩, h3⟩, kh⟩
  rw [lv, Mpu_some]
  refine L2_i (fun t u h => (∃ i : Nat, i ≤ mv.length ∧ u = .int .i64 (i : Nat) ∧ I i t h) ∧ Keep (fun _ => False) H h) (fun _ u _ => match u with | .int _ t => mv.length - t.toNat | _ => 0) ⟨⟨0, Nat.zero_le _, rfl, fun _ => False, [], fun b hb => hb.elim, BufE.nil, rfl, fun x hx => absurd hx (by simp)⟩, Keep.refl⟩ ?_
  rintro t _ h ⟨⟨i, hi, rfl, F, pk, q1, q2, q3, q4⟩, kh⟩ k hk
  rw [ltNn, Mpu_some, Mcd_bool]
  by_cases hlt : i < mv.length
  rotate_left
  · rw [if_neg (by simpa using hlt)]
    obtain rfl : i = mv.length := by omega
    exact hk1 _ _ _ ⟨⟨F, pk, q1, q2, q3, q4⟩, kh⟩
  rw [if_pos (by simpa using hlt)]
  have hg : mv[i]? = some mv[i] := List.getElem?_eq_getElem hlt
  have hmem : mv[i] ∈ mv := List.getElem_mem hlt
  have htk : mv.take (i + 1) = mv.take i ++ [mv[i]] := by rw [List.take_add_one, hg]; rfl
  generalize mv[i] = x at *
  have hmx := hm x hmem
  obtain ⟨sd, sc⟩ := hs x hmem
  obtain ⟨p, o, hix, hpt, _⟩ := (hv.keep kh fun _ _ => id).at (i := i) (x := mvC x) (by rw [List.getElem?_map, hg]; rfl)
  have gh := kh.1
  rw [hix .i64, Mpu_some, mv_agg hpt hmx.wf, Mpu_some]
  simp only [z_Man', Mnew_some]
  generalize hH9 : h.push (.cells (manC ⟨[], zeroV, [], [], []⟩ nilS nilS nilS).toArray T_manifest_Manifest (0, 0)) = h9
  have k9 : Keep (fun _ => False) h h9 := by rw [← hH9]; exact Keep.push
  have a9 : At h9 h.size (manC ⟨[], zeroV, [], [], []⟩ nilS nilS nilS) := by rw [← hH9]; exact At.push
  obtain ⟨h6, st6, a6, k6'⟩ := a9.st (n := 8) (ds := mvC x) (manC_len zM_wf) (manC_len hmx.wf) (mvC_one hmx)
  have k6 : Keep (fun _ => False) h h6 := k9.fresh k6' fun b hb => by omega
  have a6' : At h6 h.size (manC x.1 x.2.1 x.2.2.1 x.2.2.2) := a6
  rw [st6, Mwr_some]
  simp only [fld_ptr, Nat.zero_add, Nat.add_zero, Mpu_some]
  obtain ⟨g5, g6, g7⟩ := man_get a6' hmx.wf
  rw [man_name a6', Mpu_some, man_ver a6' hmx.wf, Mpu_some, g5, Mpu_some, g6, Mpu_some]
  refine call_i (c_version1 hmx.wf.ver) ?_
  rintro _ h7 ⟨rfl, k7⟩
  have a7 := a6'.keep k7 id
  obtain ⟨g5', g6', _⟩ := man_get a7 hmx.wf
  simp only [Mre_cons, Mre_nil]
  refine ⟨g6', g5', man_name a7, ?_⟩
  have k07 := kh.trans (k6.trans k7)
  refine call_i (c_lawDeps (hmx.d.keep k07 fun _ _ => id) hmx.wf.deps (by omega)) ?_
  rintro t20 h8 ⟨hb20, k8⟩
  have a8 := a7.keep k8 id
  obtain ⟨_, g6'', _⟩ := man_get a8 hmx.wf
  refine ⟨g6'', man_name a8, ?_⟩
  have k08 := k07.trans k8
  refine call_i (c_lawDeps (hmx.c.keep k08 fun _ _ => id) hmx.wf.conf (by omega)) ?_
  rintro t23 h10 ⟨hb23, k10⟩
  refine ⟨man_name (a8.keep k10 id), ?_⟩
  have khh : Keep (fun _ => False) h h10 := (k6.trans k7).trans (k8.trans k10)
  have g7 := (k6.trans k7).1
  have g8 := k8.1
  have g10 := k10.1
  have hpk : PkV (Qf H.size F h10) h10 (x.1, t20, t23) := ⟨(hb20.sl.keep k10 fun _ _ => id).mono fun b hb => ⟨by omega, by omega, fun hh => by have := (q1 b hh).2; omega⟩, hb23.sl.mono fun b hb => ⟨by omega, hb.2, fun hh => by have := (q1 b hh).2; omega⟩, hmx.wf⟩
  rw [show buildV prg T_syngraphref20_Package [(0, str x.1.name), (1, .agg (verC x.1.ver).toArray), (2, t20), (3, t23)] = some (.agg (pkgC (x.1, t20, t23)).toArray) from b_Pkg hpk, Mpu_some, bsl_Pkg (x := (x.1, t20, t23)) hmx.wf, Mnews_some]
  generalize hH12 : h10.push (.cells (pkgC (x.1, t20, t23)).toArray T_syngraphref20_Package (0, 0)) = h12
  have k12 : Keep (fun _ => False) h10 h12 := by rw [← hH12]; exact Keep.push
  have n12 : h12[h10.size]? = some (.cells ([((x.1, t20, t23) : PK)].map pkgC).flatten.toArray T_syngraphref20_Package (0, 0)) := by rw [← hH12]; simp
  have hx12 : SlE 7 (· = h10.size) h12 (.slice (some ⟨h10.size, 0, none⟩) 1 1) ([((x.1, t20, t23) : PK)].map pkgC) := SlE.new (rows := [((x.1, t20, t23) : PK)].map pkgC) n12 rfl (fun y hy => by simp at hy; subst hy; exact pkgC_len hmx.wf) (fun y hy => by simp at hy; subst hy; exact pkgC_one hpk)
  have kh12 := khh.trans k12
  have g12 := kh12.1
  have hpl : pk.length = i := by
    have := congrArg List.length q3
    simp only [List.length_map, List.length_take] at this
    omega
  refine ((q2.keep kh12 fun _ _ => id).mono (G := fun b => F b ∨ h12.size ≤ b) fun b hb => .inl hb).app hx12 (by omega) (by simp; omega) (.inr (Nat.le_refl _)) fun u h' hu ku => ?_
  have gu := ku.1
  have hn : ∀ b, Qf H.size F h12 b → ¬ (F b ∨ h12.size ≤ b) := fun b q hh => hh.elim q.2.2 fun hh => by have := q.2.1; omega
  have hq : ∀ b, Qf H.size F h12 b → Qf H.size (fun b => (F b ∨ h12.size ≤ b) ∧ b < h'.size) h' b := fun b q => ⟨q.1, by have := q.2.1; omega, fun hh => hn b q hh.1⟩
  rw [add_one' (by omega), Mpu_some]
  refine hk _ _ _ ⟨⟨i + 1, by omega, rfl, fun b => (F b ∨ h12.size ≤ b) ∧ b < h'.size, pk ++ [(x.1, t20, t23)], fun b hb => ⟨hb.1.elim (fun hb => (q1 b hb).1) fun hb => by omega, hb.2⟩, ?_, ?_, fun y hy => ?_⟩, (kh.trans kh12).fresh ku fun b hb => hb.elim (fun hb => (q1 b hb).1) fun hb => by omega⟩ (by show mv.length - (i + 1) < mv.length - i; omega)
  · rw [List.map_append]
    exact BufE.re hu fun b hb hF => ⟨hF, hb⟩
  · rw [htk, List.map_append, List.map_append, q3]; rfl
  · rcases List.mem_append.1 hy with hy | hy
    · exact ((((q4 y hy).keep kh12 fun _ _ => id).mono (Qf.up kh12.1)).keep ku hn).mono hq
    · obtain rfl : y = (x.1, t20, t23) := List.mem_singleton.1 hy
      exact (((hpk.keep k12 fun _ _ => id).mono (Qf.up k12.1)).keep ku hn).mono hq
end Go.Proofs.YtanhgihfgmbojaaGreatDoor

