/- JOINED: V172 V173 V174 -/
import Derived.Test.YtanhgihfgmbojaaGreatDoorG10
import Derived.Test.YtanhgihfgmbojaaGreatDoorG2
import Derived.Test.YtanhgihfgmbojaaGreatDoorG4
set_option linter.unusedSimpArgs false
set_option linter.unusedVariables false
/- law 20: want, pack; the law is awake. -/
namespace Go.Proofs.YtanhgihfgmbojaaGreatDoor
open Go.X Go.X.Diff
set_option maxRecDepth 100000
set_option linter.unusedSimpArgs false
set_option linter.unusedVariables false

theorem c_lawWant {H : Heap} {nm s : List UInt8} {w : Want} (hT : VerT H) (hw : w.wf) (hok : wantOk w = true) (hs : wantS w = s) (hl : s.length ≤ 1048576) (hn : nm.length ≤ 9223372036854775807) :
    HCalls prg f_syngraphlaw20_want [str nm, str s] H fun u H' => u = .agg (depC ⟨nm, w⟩).toArray ∧ Keep (fun _ => False) H H' := by
  apply sh_syngraphlaw20_want_calls
  unfold sh_syngraphlaw20_want
  simp only [z_Dep', Mnew_some]
  generalize hH1 : H.push (.cells (depC zeroD).toArray T_manifest_Dep (0, 0)) = H1
  have k1 : Keep (fun _ => False) H H1 := by rw [← hH1]; exact Keep.push
  have a1 : At H1 H.size (depC zeroD) := by rw [← hH1]; exact At.push
  have T1 := hT.keep k1 fun _ h => h.elim
  refine call_i (c_ParseWant T1.err T1.pow T1.ops hl) ?_
  rintro u h2 ⟨hR, k2⟩
  obtain rfl : u = Value.tuple #[.agg (wantC w).toArray, .int .i64 0] := by
    rcases hR with ⟨w', hww, ho, hs', rfl⟩ | ⟨hno, rfl⟩
    · rw [show w' = w from want_inj hww hw ho hok (by rw [hs', hs])]
    · exact absurd hs (hno w hw hok)
  simp only [extV_tuple]
  rw [show (#[Value.agg (wantC w).toArray, .int .i64 0][0]?) = some (.agg (wantC w).toArray) from rfl, Mpu_some, show (#[Value.agg (wantC w).toArray, .int .i64 0][1]?) = some (.int .i64 0) from rfl, Mpu_some]
  simp only [z_Want, Mnew_some]
  generalize hH3 : h2.push (.cells (wantC zeroW).toArray T_version_Want (0, 0)) = h3
  have k3 : Keep (fun _ => False) h2 h3 := by rw [← hH3]; exact Keep.push
  have a3 : At h3 h2.size (wantC zeroW) := by rw [← hH3]; exact At.push
  obtain ⟨h4, st4, a4, k4⟩ := a3.st (n := 5) (ds := wantC w) (wantC_len zeroW_wf) (wantC_len hw) wantC_one
  have k24 : Keep (fun _ => False) h2 h4 := k3.fresh k4 fun b hb => by omega
  have k14 := k2.trans k24
  have hdw : (⟨nm, w⟩ : Dep).wf := ⟨hw, hn⟩
  have hb : buildV prg T_manifest_Dep [(0, str nm), (1, .agg (wantC w).toArray)] = some (.agg (depC ⟨nm, w⟩).toArray) := b_Dep hdw
  rw [st4, Mwr_some, a4.ldN (wantC_len hw), Mpu_some, hb, Mpu_some]
  obtain ⟨h5, st5, a5, k5⟩ := (a1.keep k14 id).st (n := 6) (ds := depC ⟨nm, w⟩) (depC_len zeroD_wf) (depC_len hdw) (depC_one)
  rw [st5, Mwr_some, a5.ldN (depC_len hdw), Mpu_some]
  exact ⟨rfl, (k1.trans k14).fresh k5 fun b hb => by omega⟩
def manN (nm : List UInt8) (x y z : Int) (ds : List Dep) : Man := ⟨nm, ⟨[x, y, z], []⟩, ds, [], []⟩
theorem b_pack {nm : List UInt8} {x y z : Int} {a : Option Addr} {n c : Nat} : buildV prg T_manifest_Manifest [(0, str nm), (1, .agg (verC ⟨[x, y, z], []⟩).toArray), (2, .slice a n c)] = some (.agg (manC (manN nm x y z []) (.slice a n c) nilS nilS).toArray) := by kernel_rfl
theorem c_lawPack {P : Nat → Prop} {H : Heap} {nm s : List UInt8} {x y z : Int} {v : Value} {ds : List Dep} (hT : VerT H) (hw : (manN nm x y z ds).wf) (hok : verOk ⟨[x, y, z], []⟩ = true) (hs : showF ⟨[x, y, z], []⟩ = s) (hl : s.length ≤ 1048576) (hv : SlE 6 P H v (ds.map depC)) :
    HCalls prg f_syngraphlaw20_pack [str nm, str s, v] H fun u H' => u = .agg (mvC (manN nm x y z ds, v, nilS, nilS)).toArray ∧ Keep (fun _ => False) H H' := by
  apply sh_syngraphlaw20_pack_calls
  unfold sh_syngraphlaw20_pack
  simp only [z_Man', Mnew_some]
  generalize hH1 : H.push (.cells (manC ⟨[], zeroV, [], [], []⟩ nilS nilS nilS).toArray T_manifest_Manifest (0, 0)) = H1
  have k1 : Keep (fun _ => False) H H1 := by rw [← hH1]; exact Keep.push
  have a1 : At H1 H.size (manC ⟨[], zeroV, [], [], []⟩ nilS nilS nilS) := by rw [← hH1]; exact At.push
  have T1 := hT.keep k1 fun _ h => h.elim
  refine call_i (c_Parse T1.err T1.pow hl) ?_
  rintro u h2 ⟨hR, k2⟩
  have hvw : (⟨[x, y, z], []⟩ : Ver).wf := hw.ver
  obtain rfl : u = Value.tuple #[.agg (verC ⟨[x, y, z], []⟩).toArray, .int .i64 0] := by
    rcases hR with ⟨v', hww, ho, hs', rfl⟩ | ⟨hno, rfl⟩
    · rw [show v' = ⟨[x, y, z], []⟩ from show_inj hww.p3 hvw.p3 ho hok (by rw [hs', hs])]
    · exact absurd hs (hno ⟨[x, y, z], []⟩ hvw.p3 hok)
  simp only [extV_tuple]
  rw [show (#[Value.agg (verC ⟨[x, y, z], []⟩).toArray, .int .i64 0][0]?) = some (.agg (verC ⟨[x, y, z], []⟩).toArray) from rfl, Mpu_some, show (#[Value.agg (verC ⟨[x, y, z], []⟩).toArray, .int .i64 0][1]?) = some (.int .i64 0) from rfl, Mpu_some]
  simp only [z_VV, Mnew_some]
  generalize hH3 : h2.push (.cells (verC ⟨[0, 0, 0], []⟩).toArray T_version_Version (0, 0)) = h3
  have k3 : Keep (fun _ => False) h2 h3 := by rw [← hH3]; exact Keep.push
  have a3 : At h3 h2.size (verC zeroV) := by rw [← hH3]; exact At.push
  obtain ⟨h4, st4, a4, k4⟩ := a3.st (n := 4) (ds := verC ⟨[x, y, z], []⟩) (verC_len zeroV_wf) (verC_len hvw) verC_one
  have k24 : Keep (fun _ => False) h2 h4 := k3.fresh k4 fun b hb => by omega
  have k14 := k2.trans k24
  obtain ⟨pv, cv, ev⟩ := hv.shape
  have hb : buildV prg T_manifest_Manifest [(0, str nm), (1, .agg (verC ⟨[x, y, z], []⟩).toArray), (2, v)] = some (.agg (mvC (manN nm x y z ds, v, nilS, nilS)).toArray) := by rw [ev]; exact b_pack
  rw [st4, Mwr_some, a4.ldN (verC_len hvw), Mpu_some, hb, Mpu_some]
  have h1 : ∀ c ∈ mvC (manN nm x y z ds, v, nilS, nilS), c.oneCell' = true := by
    intro c hc
    rcases List.mem_cons.1 hc with rfl | hc
    · rfl
    rcases List.mem_append.1 hc with hc | hc
    · exact verC_one c hc
    · simp only [List.mem_cons, List.not_mem_nil, or_false] at hc
      rcases hc with rfl | rfl | rfl
      · rw [ev]; rfl
      · rfl
      · rfl
  obtain ⟨h5, st5, a5, k5⟩ := (a1.keep k14 id).st (n := 8) (ds := mvC (manN nm x y z ds, v, nilS, nilS)) (manC_len zM_wf) (manC_len hw) h1
  rw [st5, Mwr_some, a5.ldN (manC_len hw), Mpu_some]
  exact ⟨rfl, (k1.trans k14).fresh k5 fun b hb => by omega⟩

/- the law's own problem -/
def wB : Want := ⟨[94], ⟨[1, 0, 0], []⟩⟩
def wA : Want := ⟨[42], zeroV⟩
def dB : Dep := ⟨[98], wB⟩
def dA : Dep := ⟨[97], wA⟩
def mA : Man := manN [97] 1 0 0 [dB]
def mB1 : Man := manN [98] 1 1 0 []
def mB2 : Man := manN [98] 2 0 0 []
def awH : List Man := [mA, mB1, mB2]
def awW : List Dep := [dA]
theorem aw_ok : probOk awH awW 9 = true := by decide +kernel
theorem aw_run : Run awH 9 (.sol [] awW) 0 (.ok [0, 1]) 2 := by
  have e1 : candF awH dA = [0] := by decide +kernel
  have e2 : candF awH dB = [1] := by decide +kernel
  refine Run.go (d := dA) (ws := []) (by decide +kernel) ?_
  rw [e1]
  refine Run.down (by decide) (by decide +kernel) ?_ (by simp)
  refine Run.go (d := dB) (ws := []) (by decide +kernel) ?_
  rw [e2]
  refine Run.down (by decide) (by decide +kernel) ?_ (by simp)
  exact Run.done
theorem aw_right : RightC awH awW [0, 1] := (aw_run.sound Part.start _ rfl).right
theorem aw_sorted : sortedF awH [0, 1] = [0, 1] := by decide +kernel
end Go.Proofs.YtanhgihfgmbojaaGreatDoor

/- law 20: awake. -/
namespace Go.Proofs.YtanhgihfgmbojaaGreatDoor
open Go.X Go.X.Diff
set_option maxRecDepth 100000
set_option linter.unusedSimpArgs false
set_option linter.unusedVariables false

theorem wB_wf : wB.wf := ⟨⟨rfl, by simp [wB]⟩, by simp [wB]⟩
theorem wA_wf : wA.wf := ⟨zeroV_wf, by simp [wA]⟩
theorem dB_wf : dB.wf := ⟨wB_wf, by simp [dB]⟩
theorem dA_wf : dA.wf := ⟨wA_wf, by simp [dA]⟩
theorem manN_wf {nm : List UInt8} {x y z : Int} {ds : List Dep} (h : nm.length ≤ 9223372036854775807) (hd : ∀ d ∈ ds, d.wf) : (manN nm x y z ds).wf :=
  ⟨h, ⟨rfl, by simp [manN]⟩, hd, (fun d h => absurd h (by simp [manN])), (fun d h => absurd h (by simp [manN]))⟩
theorem _root_.Go.X.SlE.new {n : Nat} {P : Nat → Prop} {H : Heap} {b : Nat} {T : TypeId} {rows : List (List Value)} (hb : H[b]? = some (.cells rows.flatten.toArray T (0, 0))) (hP : P b) (el : ∀ x ∈ rows, x.length = n) (one : ∀ x ∈ rows, ∀ c ∈ x, c.oneCell' = true) : SlE n P H (.slice (some ⟨b, 0, none⟩) rows.length rows.length) rows :=
  ⟨⟨_, rows.length, rfl, Nat.le_refl _, .inr ⟨b, 0, rfl, hP, Pt.of hb⟩⟩, el, one⟩
theorem z_Prb : zcells prg T_solve_Problem = some (prbC nilS nilS 0).toArray := by kernel_rfl
theorem bld_Prb {a a' : Option Addr} {n c n' c' : Nat} {b : Int} : buildV prg T_solve_Problem [(0, .slice a n c), (1, .slice a' n' c'), (2, .int .i64 b)] = some (.agg (prbC (.slice a n c) (.slice a' n' c') b).toArray) := by kernel_rfl
theorem bsl_aw {a : Option Addr} {n c : Nat} : bslV prg T_manifest_Manifest 3 [(0, .agg (mvC (mA, .slice a n c, nilS, nilS)).toArray), (1, .agg (mvC (mB1, nilS, nilS, nilS)).toArray), (2, .agg (mvC (mB2, nilS, nilS, nilS)).toArray)] =
    some ([((mA, .slice a n c, nilS, nilS) : MV), (mB1, nilS, nilS, nilS), (mB2, nilS, nilS, nilS)].map mvC).flatten.toArray := by kernel_rfl
set_option maxHeartbeats 2000000 in
theorem c_awake20 {H : Heap} (hT : VerT H) : HCalls prg f_syngraphlaw20_awake [] H fun u H' => u = .bool true ∧ Keep (fun _ => False) H H' := by
  apply sh_syngraphlaw20_awake_calls
  unfold sh_syngraphlaw20_awake
  have s98 : (Value.string ⟨#[98]⟩) = str [98] := rfl
  have s97 : (Value.string ⟨#[97]⟩) = str [97] := rfl
  have sw1 : (Value.string ⟨#[94, 49, 46, 48, 46, 48]⟩) = str [94, 49, 46, 48, 46, 48] := rfl
  have sv1 : (Value.string ⟨#[49, 46, 48, 46, 48]⟩) = str [49, 46, 48, 46, 48] := rfl
  have sv2 : (Value.string ⟨#[49, 46, 49, 46, 48]⟩) = str [49, 46, 49, 46, 48] := rfl
  have sv3 : (Value.string ⟨#[50, 46, 48, 46, 48]⟩) = str [50, 46, 48, 46, 48] := rfl
  have s42 : (Value.string ⟨#[42]⟩) = str [42] := rfl
  rw [s98, s97, sw1, sv1, sv2, sv3, s42]
  refine call_i (c_lawWant (w := wB) hT wB_wf (by decide +kernel) (by decide +kernel) (by simp) (by simp)) ?_
  rintro _ h1 ⟨rfl, k1⟩
  rw [show bslV prg T_manifest_Dep 1 [(0, .agg (depC ⟨[98], wB⟩).toArray)] = some (depC dB).toArray from bsl_Dep dB_wf, Mnews_some]
  generalize hH2 : h1.push (.cells (depC dB).toArray T_manifest_Dep (0, 0)) = h2
  have k2 : Keep (fun _ => False) h1 h2 := by rw [← hH2]; exact Keep.push
  have n2 : h2[h1.size]? = some (.cells ([dB].map depC).flatten.toArray T_manifest_Dep (0, 0)) := by rw [← hH2]; simp
  have s2 : h2.size = h1.size + 1 := by rw [← hH2]; simp
  have q1 := k1.1
  have k02 := k1.trans k2
  have oneD : ∀ d : Dep, ∀ c ∈ depC d, c.oneCell' = true := fun d => depC_one
  have d2 : SlE 6 (fun b => H.size ≤ b) h2 (.slice (some ⟨h1.size, 0, none⟩) 1 1) ([dB].map depC) := SlE.new (rows := [dB].map depC) n2 q1 (fun x hx => by simp at hx; subst hx; exact depC_len dB_wf) (fun x hx => by simp at hx; subst hx; exact oneD dB)
  generalize hv6 : Value.slice (some ⟨h1.size, 0, none⟩) 1 1 = t6 at *
  have mAw : mA.wf := manN_wf (by simp) fun d hd => by simp at hd; subst hd; exact dB_wf
  have mB1w : mB1.wf := manN_wf (by simp) fun d hd => absurd hd (by simp)
  have mB2w : mB2.wf := manN_wf (by simp) fun d hd => absurd hd (by simp)
  refine call_i (c_lawPack (x := 1) (y := 0) (z := 0) (ds := [dB]) (hT.keep k02 fun _ h => h.elim) mAw (by decide +kernel) (by decide +kernel) (by simp) d2) ?_
  rintro _ h3 ⟨rfl, k3⟩
  have k03 := k02.trans k3
  refine call_i (c_lawPack (P := fun _ => False) (x := 1) (y := 1) (z := 0) (ds := []) (hT.keep k03 fun _ h => h.elim) mB1w (by decide +kernel) (by decide +kernel) (by simp) SlE.nil) ?_
  rintro _ h4 ⟨rfl, k4⟩
  have k04 := k03.trans k4
  refine call_i (c_lawPack (P := fun _ => False) (x := 2) (y := 0) (z := 0) (ds := []) (hT.keep k04 fun _ h => h.elim) mB2w (by decide +kernel) (by decide +kernel) (by simp) SlE.nil) ?_
  rintro _ h5 ⟨rfl, k5⟩
  have k05 := k04.trans k5
  let mv : List MV := [(mA, t6, nilS, nilS), (mB1, nilS, nilS, nilS), (mB2, nilS, nilS, nilS)]
  have eb : bslV prg T_manifest_Manifest 3 [(0, .agg (mvC (manN [97] 1 0 0 [dB], t6, nilS, nilS)).toArray), (1, .agg (mvC (manN [98] 1 1 0 [], .slice none 0 0, nilS, nilS)).toArray), (2, .agg (mvC (manN [98] 2 0 0 [], .slice none 0 0, nilS, nilS)).toArray)] = some (mv.map mvC).flatten.toArray := by
    subst hv6; exact bsl_aw
  rw [eb, Mnews_some]
  generalize hH6 : h5.push (.cells (mv.map mvC).flatten.toArray T_manifest_Manifest (0, 0)) = h6
  have k6 : Keep (fun _ => False) h5 h6 := by rw [← hH6]; exact Keep.push
  have n6 : h6[h5.size]? = some (.cells (mv.map mvC).flatten.toArray T_manifest_Manifest (0, 0)) := by rw [← hH6]; simp
  have k06 := k05.trans k6
  have q5 := k05.1
  refine call_i (c_lawWant (w := wA) (hT.keep k06 fun _ h => h.elim) wA_wf (by decide +kernel) (by decide +kernel) (by simp) (by simp)) ?_
  rintro _ h7 ⟨rfl, k7⟩
  have k07 := k06.trans k7
  have q7 := k07.1
  rw [show bslV prg T_manifest_Dep 1 [(0, .agg (depC ⟨[97], wA⟩).toArray)] = some (depC dA).toArray from bsl_Dep dA_wf, Mnews_some]
  generalize hH8 : h7.push (.cells (depC dA).toArray T_manifest_Dep (0, 0)) = h8
  have k8 : Keep (fun _ => False) h7 h8 := by rw [← hH8]; exact Keep.push
  have n8 : h8[h7.size]? = some (.cells ([dA].map depC).flatten.toArray T_manifest_Dep (0, 0)) := by rw [← hH8]; simp
  have k08 := k07.trans k8
  have d8 : SlE 6 (fun b => H.size ≤ b) h8 (.slice (some ⟨h7.size, 0, none⟩) 1 1) ([dA].map depC) := SlE.new (rows := [dA].map depC) n8 q7 (fun x hx => by simp at hx; subst hx; exact depC_len dA_wf) (fun x hx => by simp at hx; subst hx; exact oneD dA)
  rw [bld_Prb, Mpu_some]
  simp only [z_Prb, Mnew_some]
  generalize hH9 : h8.push (.cells (prbC nilS nilS 0).toArray T_solve_Problem (0, 0)) = h9
  have k9 : Keep (fun _ => False) h8 h9 := by rw [← hH9]; exact Keep.push
  have a9 : At h9 h8.size (prbC nilS nilS 0) := by rw [← hH9]; exact At.push
  have m6 : SlE 8 (fun b => H.size ≤ b) h6 (.slice (some ⟨h5.size, 0, none⟩) 3 3) (mv.map mvC) := SlE.new (rows := mv.map mvC) n6 q5 (fun x hx => by
      simp only [mv, List.map_cons, List.map_nil, List.mem_cons, List.not_mem_nil, or_false] at hx
      rcases hx with rfl | rfl | rfl
      · exact manC_len mAw
      · exact manC_len mB1w
      · exact manC_len mB2w) (fun x hx c hc => by
      simp only [mv, List.map_cons, List.map_nil, List.mem_cons, List.not_mem_nil, or_false] at hx
      have hh : ∀ (m : Man) (t : Value), t.oneCell' = true → c ∈ mvC (m, t, nilS, nilS) → c.oneCell' = true := fun m t ht hc => by
        rcases List.mem_cons.1 hc with rfl | hc
        · rfl
        rcases List.mem_append.1 hc with hc | hc
        · exact verC_one c hc
        · simp only [List.mem_cons, List.not_mem_nil, or_false] at hc
          rcases hc with rfl | rfl | rfl
          · exact ht
          · rfl
          · rfl
      rcases hx with rfl | rfl | rfl
      · exact hh _ _ (by rw [← hv6]; rfl) hc
      · exact hh _ _ rfl hc
      · exact hh _ _ rfl hc)
  generalize hv10 : Value.slice (some ⟨h5.size, 0, none⟩) 3 3 = t10 at *
  generalize hv12 : Value.slice (some ⟨h7.size, 0, none⟩) 1 1 = t12 at *
  have h1' : ∀ c ∈ prbC t10 t12 9, c.oneCell' = true := fun c hc => by
    simp only [prbC, List.mem_cons, List.not_mem_nil, or_false] at hc
    rcases hc with rfl | rfl | rfl
    · rw [← hv10]; rfl
    · rw [← hv12]; rfl
    · rfl
  obtain ⟨h10, st10, a10, k10⟩ := a9.st (n := 3) (ds := prbC t10 t12 9) rfl rfl h1'
  have k810 : Keep (fun _ => False) h8 h10 := k9.fresh k10 fun b hb => by omega
  have k010 := k08.trans k810
  rw [st10, Mwr_some, a10.ldN (n := 3) rfl, Mpu_some]
  have k610 : Keep (fun _ => False) h6 h10 := (k7.trans k8).trans k810
  have lt : ∀ {n : Nat} {v : Value} {xs : List (List Value)}, SlE n (fun b => H.size ≤ b) h10 v xs → SlE n (fun b => H.size ≤ b ∧ b < h10.size) h10 v xs := fun {n v xs} s => by
    obtain ⟨⟨a, c, hv, hc, hx⟩, h2, h3⟩ := s
    refine ⟨⟨a, c, hv, hc, hx.imp id ?_⟩, h2, h3⟩
    rintro ⟨b, o, rfl, hP, hp⟩
    exact ⟨b, o, rfl, ⟨hP, hp.lt⟩, hp⟩
  have hp : Prb (fun b => H.size ≤ b ∧ b < h10.size) h10 mv awW t10 t12 := by
    refine ⟨lt (m6.keep k610 fun _ _ => id), fun x hx => ?_, lt (d8.keep k810 fun _ _ => id), fun d hd => ?_, fun x hx => ?_⟩
    · simp only [mv, List.mem_cons, List.not_mem_nil, or_false] at hx
      rcases hx with rfl | rfl | rfl
      · exact ⟨lt (d2.keep (((k3.trans k4).trans k5).trans (k6.trans k610)) fun _ _ => id), SlE.nil, SlE.nil, mAw⟩
      · exact ⟨SlE.nil, SlE.nil, SlE.nil, mB1w⟩
      · exact ⟨SlE.nil, SlE.nil, SlE.nil, mB2w⟩
    · simp only [awW, List.mem_singleton] at hd; subst hd; exact dA_wf
    · simp only [mv, List.mem_cons, List.not_mem_nil, or_false] at hx
      rcases hx with rfl | rfl | rfl <;> exact ⟨by simp [mA, mB1, mB2, manN], by simp [mA, mB1, mB2, manN]⟩
  have hO := (hT.keep k010 fun _ h => h.elim).ops
  have hvo : hvOf mv = awH := rfl
  refine call_i (c_Solve hp (fun b hb => hb.2) (by rw [hvo]; exact aw_ok) (by simp [mv]) (by decide) hO) ?_
  rintro u h11 ⟨⟨r, s, hrun, hu⟩, k11⟩
  rw [hvo] at hrun hu
  obtain ⟨rfl, rfl⟩ := aw_run.det hrun
  obtain ⟨hN, v, rfl, hb⟩ := hu
  rw [aw_sorted] at hb
  have lv : lenV v = some (.int .i64 2) := hb.sl.len
  obtain ⟨p0, o0, hix0, hpt0, _⟩ := hb.sl.at (i := 0) (x := [.int .i64 0]) rfl
  obtain ⟨p1, o1, hix1, hpt1, _⟩ := hb.sl.at (i := 1) (x := [.int .i64 1]) rfl
  have x0 : ixS 1 v (.int .i64 0) = some (Ptr p0 o0) := hix0 .i64
  have x1 : ixS 1 v (.int .i64 1) = some (Ptr p1 o1) := hix1 .i64
  have l0 : ld1 h11 (Ptr p0 o0) = some (.int .i64 0) := hpt0.cell0 rfl
  have l1 : ld1 h11 (Ptr p1 o1) = some (.int .i64 1) := hpt1.cell0 rfl
  have i0 : binV .no .eql (.int .i64 0) (.int .i64 0) = some (.bool true) := rfl
  have i1 : binV .no .eql (.int .i64 1) (.int .i64 1) = some (.bool true) := rfl
  have i2 : binV .no .eql (.int .i64 2) (.int .i64 2) = some (.bool true) := rfl
  have i2' : binV .no .eql (.int .i64 ((2 : Nat) : Int)) (.int .i64 2) = some (.bool true) := rfl
  have g0 : (#[v, Value.int .i64 ((2 : Nat) : Int), Value.int .i64 0][0]?) = some v := rfl
  have g1 : (#[v, Value.int .i64 ((2 : Nat) : Int), Value.int .i64 0][1]?) = some (.int .i64 ((2 : Nat) : Int)) := rfl
  have g2 : (#[v, Value.int .i64 ((2 : Nat) : Int), Value.int .i64 0][2]?) = some (.int .i64 0) := rfl
  have dP : ldN 3 h11 (Ptr h8.size 0) = some (.agg (prbC t10 t12 9).toArray) := (a10.keep k11 id).ldN (n := 3) rfl
  simp only [extV_tuple, g0, g1, g2, Mpu_some, i0, J1_eq, Mif_bool, if_true, i2', pickV_bool, lv, i2, x0, l0, x1, l1, i1, dP]
  refine call_i (c_Right (Q := fun b => h10.size ≤ b ∧ b < h11.size) (z := zs [0, 1]) (hp.keep k11 fun _ _ => id) (fun b hb => Nat.lt_of_lt_of_le hb.2 k11.1) hb.sl (fun b hb => hb.2) (by simp [mv]) (by decide) (by decide) (hO.keep k11 fun _ h => h.elim)) ?_
  rintro _ h21 ⟨rfl, k21⟩
  refine ⟨?_, (k010.trans k11).trans k21⟩
  rw [hvo, aw_ok, rightB_nat.2 aw_right]; rfl
end Go.Proofs.YtanhgihfgmbojaaGreatDoor

/- law 20: small, right. -/
namespace Go.Proofs.YtanhgihfgmbojaaGreatDoor
open Go.X Go.X.Diff
set_option maxRecDepth 100000
set_option linter.unusedSimpArgs false
set_option linter.unusedVariables false

/-- a problem of which it isn't known that it is small -/
structure Prb0 (P : Nat → Prop) (H : Heap) (mv : List MV) (wants : List Dep) (vh vw : Value) : Prop where
  h : SlE 8 P H vh (mv.map mvC)
  m : ∀ x ∈ mv, ManV P H x.1 x.2.1 x.2.2.1 x.2.2.2
  w : SlE 6 P H vw (wants.map depC)
  ww : ∀ d ∈ wants, d.wf
  hl : mv.length ≤ 9223372036854775807
theorem Prb0.keep {P S : Nat → Prop} {H H' : Heap} {mv : List MV} {wants : List Dep} {vh vw : Value} (h : Prb0 P H mv wants vh vw) (k : Keep S H H') (hs : ∀ b, P b → ¬ S b) : Prb0 P H' mv wants vh vw :=
  ⟨h.h.keep k hs, fun x hx => (h.m x hx).keep k hs, h.w.keep k hs, h.ww, h.hl⟩
def smallM (m : Man) : Bool := decide (m.deps.length ≤ 6) && decide (m.conf.length ≤ 6) && decide (m.files.length ≤ 6) && decide (m.name.length ≤ 40)
def smallP (hv : List Man) (ws : List Dep) (b : Int) : Bool := hv.all smallM && decide (hv.length ≤ 12) && decide (ws.length ≤ 8) && decide (b ≤ 3000)
theorem Prb0.to {P : Nat → Prop} {H : Heap} {mv : List MV} {wants : List Dep} {vh vw : Value} {b : Int} (h : Prb0 P H mv wants vh vw) (hs : smallP (hvOf mv) wants b = true) : Prb P H mv wants vh vw ∧ mv.length ≤ 12 ∧ wants.length ≤ 8 ∧ b ≤ 3000 := by
  unfold smallP at hs
  simp only [Bool.and_eq_true, decide_eq_true_eq, List.all_eq_true, List.length_map] at hs
  obtain ⟨⟨⟨h1, h2⟩, h3⟩, h4⟩ := hs
  refine ⟨⟨h.h, h.m, h.w, h.ww, fun x hx => ?_⟩, h2, h3, h4⟩
  have := h1 x.1 (List.mem_map.2 ⟨x, hx, rfl⟩)
  unfold smallM at this
  simp only [Bool.and_eq_true, decide_eq_true_eq] at this
  omega
theorem smallM_parts {P : Nat → Prop} {H : Heap} {x : MV} (h : ManV P H x.1 x.2.1 x.2.2.1 x.2.2.2) : lenV x.2.1 = some (.int .i64 (x.1.deps.length : Nat)) ∧ lenV x.2.2.1 = some (.int .i64 (x.1.conf.length : Nat)) ∧ lenV x.2.2.2 = some (.int .i64 (x.1.files.length : Nat)) := by
  have h1 := h.d.len
  have h2 := h.c.len
  have h3 := h.f.len
  rw [List.length_map] at h1 h2 h3
  exact ⟨h1, h2, h3⟩
theorem addN1 {n : Nat} (h : n + 1 ≤ 9223372036854775807) : binV .no .add (.int .i64 (n : Nat)) (.int .i64 1) = some (.int .i64 ((n + 1 : Nat) : Int)) := by
  rw [binV_int]; simp only [intV]; rw [wrap_id (by omega) (by omega)]; rfl
theorem gt_not {n m : Nat} : decide (n > m) = !decide (n ≤ m) := by rw [← decide_not, decide_eq_decide]; omega
theorem all_step {hv : List Man} {f : Man → Bool} {i : Nat} {m : Man} (h : hv[i]? = some m) : (hv.take (i + 1)).all f = ((hv.take i).all f && f m) := by
  rw [List.take_add_one, h, List.all_append]; simp
set_option maxHeartbeats 2000000 in
theorem c_small20 {P : Nat → Prop} {H : Heap} {mv : List MV} {wants : List Dep} {vh vw : Value} {b : Int} (hp : Prb0 P H mv wants vh vw) :
    HCalls prg f_syngraphlaw20_small [.agg (prbC vh vw b).toArray] H fun u H' => u = .bool (smallP (hvOf mv) wants b) ∧ Keep (fun _ => False) H H' := by
  apply sh_syngraphlaw20_small_calls
  unfold sh_syngraphlaw20_small
  simp only [Cells_agg, Mnew_some]
  generalize hH1 : H.push (.cells (prbC vh vw b).toArray T_solve_Problem (0, 0)) = H1
  have k1 : Keep (fun _ => False) H H1 := by rw [← hH1]; exact Keep.push
  have a1 : At H1 H.size (prbC vh vw b) := by rw [← hH1]; exact At.push
  have lh := hp.h.len
  have lw := hp.w.len
  rw [List.length_map] at lh lw
  have hvl : (hvOf mv).length = mv.length := by simp
  refine J1_i (fun _ h => (hvOf mv).all smallM = true ∧ Keep (fun _ => False) H1 h) (fun k2 hk2 => ?_) ?_
  · rw [fld_ptr, Mpu_some, Nat.add_zero, a1.ld (i := 0) rfl, Mpu_some, lh, Mpu_some]
    refine L1_i (fun u h => ∃ i : Nat, i ≤ mv.length ∧ u = .int .i64 (i : Nat) ∧ ((hvOf mv).take i).all smallM = true ∧ Keep (fun _ => False) H1 h) (fun u _ => match u with | .int _ t => mv.length - t.toNat | _ => 0) ⟨0, Nat.zero_le _, rfl, rfl, Keep.refl⟩ ?_
    rintro _ h ⟨i, hi, rfl, hall, kh⟩ k hk
    rw [ltNn, Mpu_some, Mcd_bool]
    by_cases hlt : i < mv.length
    rotate_left
    · rw [if_neg (by simpa using hlt)]
      rw [List.take_of_length_le (by omega)] at hall
      exact hk2 _ _ ⟨hall, kh⟩
    rw [if_pos (by simpa using hlt)]
    have hg : mv[i]? = some mv[i] := List.getElem?_eq_getElem hlt
    have hm : mv[i] ∈ mv := List.getElem_mem hlt
    generalize mv[i] = x at *
    have hgh : (hvOf mv)[i]? = some x.1 := by rw [List.getElem?_map, hg]; rfl
    have hst := all_step (f := smallM) hgh
    have k0h := k1.trans kh
    obtain ⟨p, o, hix, hpt, _⟩ := (hp.keep k0h fun _ _ => id).h.at (i := i) (x := mvC x) (by rw [List.getElem?_map, hg]; rfl)
    have hmx := hp.m x hm
    obtain ⟨p1, p2, p3⟩ := smallM_parts hmx
    rw [hix .i64, Mpu_some, mv_agg hpt hmx.wf, Mpu_some]
    simp only [z_Man', Mnew_some]
    generalize hH9 : h.push (.cells (manC ⟨[], zeroV, [], [], []⟩ nilS nilS nilS).toArray T_manifest_Manifest (0, 0)) = h9
    have k9 : Keep (fun _ => False) h h9 := by rw [← hH9]; exact Keep.push
    have a9 : At h9 h.size (manC ⟨[], zeroV, [], [], []⟩ nilS nilS nilS) := by rw [← hH9]; exact At.push
    obtain ⟨h10, st10, a10, k10⟩ := a9.st (n := 8) (ds := mvC x) (manC_len zM_wf) (manC_len hmx.wf) (mvC_one hmx)
    have khh : Keep (fun _ => False) h h10 := k9.fresh k10 fun b hb => by omega
    have a10' : At h10 h.size (manC x.1 x.2.1 x.2.2.1 x.2.2.2) := a10
    obtain ⟨g5, g6, g7⟩ := man_get a10' hmx.wf
    have g0 := man_name a10'
    have e1 : binV .no .gtr (.int .i64 (x.1.deps.length : Nat)) (.int .i64 6) = some (.bool !decide (x.1.deps.length ≤ 6)) := by rw [← gt_not]; exact gtNn (m := 6)
    have e2 : binV .no .gtr (.int .i64 (x.1.conf.length : Nat)) (.int .i64 6) = some (.bool !decide (x.1.conf.length ≤ 6)) := by rw [← gt_not]; exact gtNn (m := 6)
    have e3 : binV .no .gtr (.int .i64 (x.1.files.length : Nat)) (.int .i64 6) = some (.bool !decide (x.1.files.length ≤ 6)) := by rw [← gt_not]; exact gtNn (m := 6)
    have e4 : binV .no .gtr (.int .i64 (x.1.name.length : Nat)) (.int .i64 40) = some (.bool !decide (x.1.name.length ≤ 40)) := by rw [← gt_not]; exact gtNn (m := 40)
    have bad : smallM x.1 = false → Value.bool false = .bool (smallP (hvOf mv) wants b) ∧ Keep (fun _ => False) H h10 := fun hf => by
      refine ⟨?_, k0h.trans khh⟩
      unfold smallP
      rw [List.all_eq_false.2 ⟨x.1, List.mem_map.2 ⟨x, hm, rfl⟩, by simp [hf]⟩]; rfl
    rw [st10, Mwr_some]
    simp only [fld_ptr, Nat.zero_add, Nat.add_zero, Mpu_some, g0, g5, g6, g7, p1, p2, p3, e1, e2, e3, e4, lenT_str]
    cases q1 : decide (x.1.deps.length ≤ 6)
    · simp only [J1_eq, Mif_bool, Bool.not_false, Bool.true_eq_false, if_false, pickV_bool, if_true, Mpu_some, Mcd_bool]
      exact bad (by unfold smallM; rw [q1]; rfl)
    cases q2 : decide (x.1.conf.length ≤ 6)
    · simp only [J1_eq, Mif_bool, Bool.not_false, Bool.not_true, Bool.true_eq_false, Bool.false_eq_true, if_false, pickV_bool, if_true, Mpu_some, Mcd_bool, fld_ptr, Nat.zero_add, Nat.add_zero, g0, g5, g6, g7, p1, p2, p3, e1, e2, e3, e4, lenT_str, q1, q2]
      exact bad (by unfold smallM; rw [q1, q2]; rfl)
    cases q3 : decide (x.1.files.length ≤ 6)
    · simp only [J1_eq, Mif_bool, Bool.not_false, Bool.not_true, Bool.true_eq_false, Bool.false_eq_true, if_false, pickV_bool, if_true, Mpu_some, Mcd_bool, fld_ptr, Nat.zero_add, Nat.add_zero, g0, g5, g6, g7, p1, p2, p3, e1, e2, e3, e4, lenT_str, q1, q2, q3]
      exact bad (by unfold smallM; rw [q1, q2, q3]; rfl)
    cases q4 : decide (x.1.name.length ≤ 40)
    · simp only [J1_eq, Mif_bool, Bool.not_false, Bool.not_true, Bool.true_eq_false, Bool.false_eq_true, if_false, pickV_bool, if_true, Mpu_some, Mcd_bool, fld_ptr, Nat.zero_add, Nat.add_zero, g0, g5, g6, g7, p1, p2, p3, e1, e2, e3, e4, lenT_str, q1, q2, q3, q4]
      exact bad (by unfold smallM; rw [q1, q2, q3, q4]; rfl)
    simp only [J1_eq, Mif_bool, Bool.not_false, Bool.not_true, Bool.true_eq_false, Bool.false_eq_true, if_false, pickV_bool, if_true, Mpu_some, Mcd_bool, fld_ptr, Nat.zero_add, Nat.add_zero, g0, g5, g6, g7, p1, p2, p3, e1, e2, e3, e4, lenT_str, q1, q2, q3, q4]
    rw [addN1 (by have := hp.hl; omega), Mpu_some]
    refine hk _ _ ⟨i + 1, by omega, rfl, ?_, kh.trans khh⟩ (by show mv.length - (i + 1) < mv.length - i; omega)
    rw [hst, hall]; unfold smallM; rw [q1, q2, q3, q4]; rfl
  rintro _ h3 ⟨hall, kh⟩
  have d0 : ld1 h3 (Ptr H.size 0) = some vh := (a1.keep kh id).ld rfl
  have d1 : ld1 h3 (Ptr H.size 1) = some vw := (a1.keep kh id).ld rfl
  have d2 : ld1 h3 (Ptr H.size 2) = some (.int .i64 b) := (a1.keep kh id).ld rfl
  have le1 : binV .no .leq (.int .i64 (mv.length : Nat)) (.int .i64 12) = some (.bool (decide (mv.length ≤ 12))) := by rw [binV_int]; simp only [intV]; congr 2; rw [decide_eq_decide]; omega
  have le2 : binV .no .leq (.int .i64 (wants.length : Nat)) (.int .i64 8) = some (.bool (decide (wants.length ≤ 8))) := by rw [binV_int]; simp only [intV]; congr 2; rw [decide_eq_decide]; omega
  have le3 : binV .no .leq (.int .i64 b) (.int .i64 3000) = some (.bool (decide (b ≤ 3000))) := by rw [binV_int]; rfl
  have fin : smallP (hvOf mv) wants b = (decide (mv.length ≤ 12) && decide (wants.length ≤ 8) && decide (b ≤ 3000)) := by unfold smallP; rw [hall, hvl, Bool.true_and]
  rw [fin]
  simp only [fld_ptr, Nat.zero_add, Nat.add_zero, Mpu_some, d0, d1, d2, lh, lw, le1, le2, le3]
  have k03 := k1.trans kh
  cases q1 : decide (mv.length ≤ 12)
  · simp only [J1_eq, Mif_bool, Bool.false_eq_true, if_false, pickV_bool, Mpu_some]
    exact ⟨rfl, k03⟩
  cases q2 : decide (wants.length ≤ 8)
  · simp only [J1_eq, Mif_bool, Bool.false_eq_true, if_false, pickV_bool, Mpu_some, if_true, d0, d1, d2, lw, le2, le3, q1, q2]
    exact ⟨rfl, k03⟩
  simp only [J1_eq, Mif_bool, Bool.false_eq_true, if_false, pickV_bool, Mpu_some, if_true, d0, d1, d2, lw, le2, le3, q1, q2]
  exact ⟨rfl, k03⟩
end Go.Proofs.YtanhgihfgmbojaaGreatDoor

