/- JOINED: V139 V140 V141 V142 -/
import Derived.Test.YtconalffokhplaaGreatDoorG7
import Derived.Test.YtconalffokhplaaGreatDoorG5
set_option linter.unusedSimpArgs false
set_option linter.unusedVariables false
/- scripts: lines, and the forms that there are. -/
namespace Go.Proofs.YtconalffokhplaaGreatDoor
open Go.X Go.X.Diff
set_option maxRecDepth 100000

structure LineA where
  kind : Int
  n : Int
  at' : Int
  name : List UInt8
  want : Want
  data : List UInt8
  lost : List Int
  ask : Int
def lineC (l : LineA) (vd vl : Value) : List Value := [.int .i64 l.kind, .int .i64 l.n, .int .i64 l.at', str l.name] ++ wantC l.want ++ [vd, vl, .int .i64 l.ask]
def zeroL : LineA := ⟨0, 0, 0, [], zeroW, [], [], 0⟩
structure FormA where
  word : List UInt8
  parts : List UInt8
  kind : Int
  n : Int
  ask : Int
def baseL (f : FormA) : LineA := { zeroL with kind := f.kind, n := f.n, ask := f.ask }
def formC (f : FormA) : List Value := str f.word :: str f.parts :: lineC (baseL f) nilS nilS
theorem formC_len {f : FormA} : (formC f).length = 14 := rfl
theorem formC_one {f : FormA} : ∀ c ∈ formC f, c.oneCell' = true := by
  intro c hc
  simp only [formC, lineC, baseL, zeroL, wantC, zeroW, verC, zeroV, icells, nilS, List.map_cons, List.map_nil, List.cons_append, List.nil_append, List.mem_cons, List.not_mem_nil, or_false] at hc
  rcases hc with rfl | rfl | rfl | rfl | rfl | rfl | rfl | rfl | rfl | rfl | rfl | rfl | rfl | rfl <;> rfl

theorem z_Line : zcells prg T_script_Line = some (lineC zeroL nilS nilS).toArray := by kernel_rfl
theorem z_Form : zcells prg T_script_form = some (formC ⟨[], [], 0, 0, 0⟩).toArray := by kernel_rfl
theorem b_Line0 : buildV prg T_script_Line [] = some (.agg (lineC zeroL nilS nilS).toArray) := by kernel_rfl
theorem k_Step : ∃ z, structK prg T_world_Step = some ([(0, 1), (1, 1), (2, 1), (3, 1), (4, 5), (9, 1), (10, 1)], z) ∧ z = ((lineC zeroL nilS nilS).take 11).toArray := ⟨_, by kernel_rfl, rfl⟩
theorem k_Line : structK prg T_script_Line = some ([(0, 11), (11, 1)], (lineC zeroL nilS nilS).toArray) := by kernel_rfl
theorem k_Form : structK prg T_script_form = some ([(0, 1), (1, 1), (2, 12)], (formC ⟨[], [], 0, 0, 0⟩).toArray) := by kernel_rfl
theorem b_Step1 {k : Int} : buildV prg T_world_Step [(0, .int .i64 k)] = some (.agg ((lineC { zeroL with kind := k } nilS nilS).take 11).toArray) := by
  obtain ⟨z, h, rfl⟩ := k_Step
  rw [buildV_of h]; rfl
theorem b_Step2 {k n : Int} : buildV prg T_world_Step [(0, .int .i64 k), (1, .int .i64 n)] = some (.agg ((lineC { zeroL with kind := k, n := n } nilS nilS).take 11).toArray) := by
  obtain ⟨z, h, rfl⟩ := k_Step
  rw [buildV_of h]; rfl
theorem b_LineS {k n : Int} : buildV prg T_script_Line [(0, .agg ((lineC { zeroL with kind := k, n := n } nilS nilS).take 11).toArray)] = some (.agg (lineC { zeroL with kind := k, n := n } nilS nilS).toArray) := by
  rw [buildV_of k_Line]; rfl
theorem b_LineA {a : Int} : buildV prg T_script_Line [(1, .int .i64 a)] = some (.agg (lineC { zeroL with ask := a } nilS nilS).toArray) := by
  rw [buildV_of k_Line]; rfl
theorem b_Form {f : FormA} : buildV prg T_script_form [(0, str f.word), (1, str f.parts), (2, .agg (lineC (baseL f) nilS nilS).toArray)] = some (.agg (formC f).toArray) := by
  rw [buildV_of k_Form]; rfl
theorem b_FormQ {f : FormA} (h : f.parts = []) : buildV prg T_script_form [(0, str f.word), (2, .agg (lineC (baseL f) nilS nilS).toArray)] = some (.agg (formC f).toArray) := by
  obtain ⟨w, p, k, n, a⟩ := f
  simp only at h
  subst h
  rw [buildV_of k_Form]; rfl

def FormR (f : FormA) (H : Heap) (u : Value) (H' : Heap) : Prop := u = .agg (formC f).toArray ∧ Keep (fun _ => False) H H'
theorem form_tail {H : Heap} {f : FormA} : Mnew H T_script_form (zcells prg T_script_form) fun t6 h1 =>
    Mwr (stN 14 h1 t6 (.agg (formC f).toArray)) fun h2 => Mpu (ldN 14 h2 t6) fun r3 => FormR f H r3 h2 := by
  rw [z_Form, Mnew_some]
  generalize hH1 : H.push (.cells (formC ⟨[], [], 0, 0, 0⟩).toArray T_script_form (0, 0)) = H1
  have k1 : Keep (fun _ => False) H H1 := by rw [← hH1]; exact Keep.push
  have a1 : At H1 H.size (formC ⟨[], [], 0, 0, 0⟩) := by rw [← hH1]; exact At.push
  obtain ⟨h2, st2, a2, k2⟩ := a1.st (n := 14) (ds := formC f) formC_len formC_len formC_one
  have e : (Value.pointer (some ⟨H.size, 0, none⟩)) = Ptr H.size 0 := rfl
  rw [e, st2, Mwr_some, a2.ldN formC_len, Mpu_some]
  exact ⟨rfl, k1.fresh k2 fun b hb => by omega⟩
theorem c_scStep {H : Heap} {w p : List UInt8} {k : Int} : HCalls prg f_script_step [str w, str p, .int .i64 k] H (FormR ⟨w, p, k, 0, 0⟩ H) := by
  apply sh_script_step_calls
  unfold sh_script_step
  have e := b_LineS (k := k) (n := 0)
  have e2 := b_Form (f := ⟨w, p, k, 0, 0⟩)
  have e1 := b_Step1 (k := k)
  have e1' : buildV prg T_world_Step [(0, .int .i64 k)] = some (.agg ((lineC { zeroL with kind := k, n := 0 } nilS nilS).take 11).toArray) := e1
  have e2' : buildV prg T_script_form [(0, str w), (1, str p), (2, .agg (lineC { zeroL with kind := k, n := 0 } nilS nilS).toArray)] = some (.agg (formC ⟨w, p, k, 0, 0⟩).toArray) := e2
  simp only [e1', e, e2', Mpu_some]
  exact form_tail
theorem c_scTold {H : Heap} {w p : List UInt8} {n : Int} : HCalls prg f_script_told [str w, str p, .int .i64 n] H (FormR ⟨w, p, 10, n, 0⟩ H) := by
  apply sh_script_told_calls
  unfold sh_script_told
  have e := b_LineS (k := 10) (n := n)
  have e2 : buildV prg T_script_form [(0, str w), (1, str p), (2, .agg (lineC { zeroL with kind := 10, n := n } nilS nilS).toArray)] = some (.agg (formC ⟨w, p, 10, n, 0⟩).toArray) := b_Form (f := ⟨w, p, 10, n, 0⟩)
  simp only [b_Step2, e, e2, Mpu_some]
  exact form_tail
theorem c_scAsk {H : Heap} {w : List UInt8} {a : Int} : HCalls prg f_script_ask [str w, .int .i64 a] H (FormR ⟨w, [], 0, 0, a⟩ H) := by
  apply sh_script_ask_calls
  unfold sh_script_ask
  have e2 : buildV prg T_script_form [(0, str w), (2, .agg (lineC { zeroL with ask := a } nilS nilS).toArray)] = some (.agg (formC ⟨w, [], 0, 0, a⟩).toArray) := b_FormQ (f := ⟨w, [], 0, 0, a⟩) rfl
  simp only [b_LineA, e2, Mpu_some]
  exact form_tail
end Go.Proofs.YtconalffokhplaaGreatDoor

/- scripts: forms(). -/
namespace Go.Proofs.YtconalffokhplaaGreatDoor
open Go.X Go.X.Diff
set_option maxRecDepth 100000

def FORMS : List FormA := [
  ⟨[112, 117, 98, 108, 105, 115, 104], [97], 1, 0, 0⟩,
  ⟨[114, 101, 102, 114, 101, 115, 104], [], 2, 0, 0⟩,
  ⟨[115, 101, 110, 100], [], 3, 0, 0⟩,
  ⟨[114, 111, 117, 110, 100], [], 15, 0, 0⟩,
  ⟨[99, 97, 114, 114, 121], [], 14, 0, 0⟩,
  ⟨[97, 114, 114, 105, 118, 101], [110], 4, 0, 0⟩,
  ⟨[108, 111, 115, 101], [110], 5, 0, 0⟩,
  ⟨[116, 119, 105, 99, 101], [110], 6, 0, 0⟩,
  ⟨[97, 114, 109], [110], 11, 0, 0⟩,
  ⟨[98, 101, 110, 100], [110, 97], 7, 0, 0⟩,
  ⟨[102, 111, 114, 103, 101], [110, 97, 100], 8, 0, 0⟩,
  ⟨[116, 97, 109, 112, 101, 114], [110, 97, 100], 13, 0, 0⟩,
  ⟨[102, 101, 116, 99, 104], [97], 9, 0, 0⟩,
  ⟨[99, 114, 97, 115, 104], [108], 12, 0, 0⟩,
  ⟨[105, 110, 115, 116, 97, 108, 108], [115, 119], 10, 2, 0⟩,
  ⟨[117, 112, 103, 114, 97, 100, 101], [115], 10, 3, 0⟩,
  ⟨[114, 101, 109, 111, 118, 101], [115], 10, 4, 0⟩,
  ⟨[111, 119, 110, 101, 114], [115], 10, 10, 0⟩,
  ⟨[119, 104, 121], [115], 10, 11, 0⟩,
  ⟨[98, 97, 99, 107], [97], 10, 5, 0⟩,
  ⟨[100, 105, 102, 102], [97], 10, 12, 0⟩,
  ⟨[108, 105, 115, 116], [], 10, 6, 0⟩,
  ⟨[99, 104, 101, 99, 107], [], 10, 7, 0⟩,
  ⟨[97, 117, 100, 105, 116], [], 10, 8, 0⟩,
  ⟨[104, 105, 115, 116, 111, 114, 121], [], 10, 9, 0⟩,
  ⟨[108, 111, 97, 100], [100], 10, 1, 0⟩,
  ⟨[104, 101, 97, 100, 115], [], 0, 0, 1⟩,
  ⟨[108, 101, 116, 116, 101, 114, 115], [], 0, 0, 2⟩,
  ⟨[102, 105, 108, 101, 115], [], 0, 0, 3⟩,
  ⟨[109, 97, 114, 107], [], 0, 0, 4⟩]
theorem b_forms : bslV prg T_script_form 30 [(0, .agg (formC ⟨[112, 117, 98, 108, 105, 115, 104], [97], 1, 0, 0⟩).toArray), (1, .agg (formC ⟨[114, 101, 102, 114, 101, 115, 104], [], 2, 0, 0⟩).toArray), (2, .agg (formC ⟨[115, 101, 110, 100], [], 3, 0, 0⟩).toArray), (3, .agg (formC ⟨[114, 111, 117, 110, 100], [], 15, 0, 0⟩).toArray), (4, .agg (formC ⟨[99, 97, 114, 114, 121], [], 14, 0, 0⟩).toArray), (5, .agg (formC ⟨[97, 114, 114, 105, 118, 101], [110], 4, 0, 0⟩).toArray), (6, .agg (formC ⟨[108, 111, 115, 101], [110], 5, 0, 0⟩).toArray), (7, .agg (formC ⟨[116, 119, 105, 99, 101], [110], 6, 0, 0⟩).toArray), (8, .agg (formC ⟨[97, 114, 109], [110], 11, 0, 0⟩).toArray), (9, .agg (formC ⟨[98, 101, 110, 100], [110, 97], 7, 0, 0⟩).toArray), (10, .agg (formC ⟨[102, 111, 114, 103, 101], [110, 97, 100], 8, 0, 0⟩).toArray), (11, .agg (formC ⟨[116, 97, 109, 112, 101, 114], [110, 97, 100], 13, 0, 0⟩).toArray), (12, .agg (formC ⟨[102, 101, 116, 99, 104], [97], 9, 0, 0⟩).toArray), (13, .agg (formC ⟨[99, 114, 97, 115, 104], [108], 12, 0, 0⟩).toArray), (14, .agg (formC ⟨[105, 110, 115, 116, 97, 108, 108], [115, 119], 10, 2, 0⟩).toArray), (15, .agg (formC ⟨[117, 112, 103, 114, 97, 100, 101], [115], 10, 3, 0⟩).toArray), (16, .agg (formC ⟨[114, 101, 109, 111, 118, 101], [115], 10, 4, 0⟩).toArray), (17, .agg (formC ⟨[111, 119, 110, 101, 114], [115], 10, 10, 0⟩).toArray), (18, .agg (formC ⟨[119, 104, 121], [115], 10, 11, 0⟩).toArray), (19, .agg (formC ⟨[98, 97, 99, 107], [97], 10, 5, 0⟩).toArray), (20, .agg (formC ⟨[100, 105, 102, 102], [97], 10, 12, 0⟩).toArray), (21, .agg (formC ⟨[108, 105, 115, 116], [], 10, 6, 0⟩).toArray), (22, .agg (formC ⟨[99, 104, 101, 99, 107], [], 10, 7, 0⟩).toArray), (23, .agg (formC ⟨[97, 117, 100, 105, 116], [], 10, 8, 0⟩).toArray), (24, .agg (formC ⟨[104, 105, 115, 116, 111, 114, 121], [], 10, 9, 0⟩).toArray), (25, .agg (formC ⟨[108, 111, 97, 100], [100], 10, 1, 0⟩).toArray), (26, .agg (formC ⟨[104, 101, 97, 100, 115], [], 0, 0, 1⟩).toArray), (27, .agg (formC ⟨[108, 101, 116, 116, 101, 114, 115], [], 0, 0, 2⟩).toArray), (28, .agg (formC ⟨[102, 105, 108, 101, 115], [], 0, 0, 3⟩).toArray), (29, .agg (formC ⟨[109, 97, 114, 107], [], 0, 0, 4⟩).toArray)] = some (FORMS.map formC).flatten.toArray := by kernel_rfl
theorem c_scForms {H : Heap} : HCalls prg f_script_forms [] H fun u H' => (∃ q, u = .slice (some ⟨q, 0, none⟩) 30 30 ∧ H.size ≤ q ∧ q < H'.size ∧ SlE 14 (· = q) H' u (FORMS.map formC)) ∧ Keep (fun _ => False) H H' := by
  apply sh_script_forms_calls
  unfold sh_script_forms
  refine call_i (c_scStep (w := [112, 117, 98, 108, 105, 115, 104]) (p := [97]) (k := 1)) ?_
  rintro _ h1 ⟨rfl, k1⟩
  refine call_i (c_scStep (w := [114, 101, 102, 114, 101, 115, 104]) (p := []) (k := 2)) ?_
  rintro _ h2 ⟨rfl, k2⟩
  refine call_i (c_scStep (w := [115, 101, 110, 100]) (p := []) (k := 3)) ?_
  rintro _ h3 ⟨rfl, k3⟩
  refine call_i (c_scStep (w := [114, 111, 117, 110, 100]) (p := []) (k := 15)) ?_
  rintro _ h4 ⟨rfl, k4⟩
  refine call_i (c_scStep (w := [99, 97, 114, 114, 121]) (p := []) (k := 14)) ?_
  rintro _ h5 ⟨rfl, k5⟩
  refine call_i (c_scStep (w := [97, 114, 114, 105, 118, 101]) (p := [110]) (k := 4)) ?_
  rintro _ h6 ⟨rfl, k6⟩
  refine call_i (c_scStep (w := [108, 111, 115, 101]) (p := [110]) (k := 5)) ?_
  rintro _ h7 ⟨rfl, k7⟩
  refine call_i (c_scStep (w := [116, 119, 105, 99, 101]) (p := [110]) (k := 6)) ?_
  rintro _ h8 ⟨rfl, k8⟩
  refine call_i (c_scStep (w := [97, 114, 109]) (p := [110]) (k := 11)) ?_
  rintro _ h9 ⟨rfl, k9⟩
  refine call_i (c_scStep (w := [98, 101, 110, 100]) (p := [110, 97]) (k := 7)) ?_
  rintro _ h10 ⟨rfl, k10⟩
  refine call_i (c_scStep (w := [102, 111, 114, 103, 101]) (p := [110, 97, 100]) (k := 8)) ?_
  rintro _ h11 ⟨rfl, k11⟩
  refine call_i (c_scStep (w := [116, 97, 109, 112, 101, 114]) (p := [110, 97, 100]) (k := 13)) ?_
  rintro _ h12 ⟨rfl, k12⟩
  refine call_i (c_scStep (w := [102, 101, 116, 99, 104]) (p := [97]) (k := 9)) ?_
  rintro _ h13 ⟨rfl, k13⟩
  refine call_i (c_scStep (w := [99, 114, 97, 115, 104]) (p := [108]) (k := 12)) ?_
  rintro _ h14 ⟨rfl, k14⟩
  refine call_i (c_scTold (w := [105, 110, 115, 116, 97, 108, 108]) (p := [115, 119]) (n := 2)) ?_
  rintro _ h15 ⟨rfl, k15⟩
  refine call_i (c_scTold (w := [117, 112, 103, 114, 97, 100, 101]) (p := [115]) (n := 3)) ?_
  rintro _ h16 ⟨rfl, k16⟩
  refine call_i (c_scTold (w := [114, 101, 109, 111, 118, 101]) (p := [115]) (n := 4)) ?_
  rintro _ h17 ⟨rfl, k17⟩
  refine call_i (c_scTold (w := [111, 119, 110, 101, 114]) (p := [115]) (n := 10)) ?_
  rintro _ h18 ⟨rfl, k18⟩
  refine call_i (c_scTold (w := [119, 104, 121]) (p := [115]) (n := 11)) ?_
  rintro _ h19 ⟨rfl, k19⟩
  refine call_i (c_scTold (w := [98, 97, 99, 107]) (p := [97]) (n := 5)) ?_
  rintro _ h20 ⟨rfl, k20⟩
  refine call_i (c_scTold (w := [100, 105, 102, 102]) (p := [97]) (n := 12)) ?_
  rintro _ h21 ⟨rfl, k21⟩
  refine call_i (c_scTold (w := [108, 105, 115, 116]) (p := []) (n := 6)) ?_
  rintro _ h22 ⟨rfl, k22⟩
  refine call_i (c_scTold (w := [99, 104, 101, 99, 107]) (p := []) (n := 7)) ?_
  rintro _ h23 ⟨rfl, k23⟩
  refine call_i (c_scTold (w := [97, 117, 100, 105, 116]) (p := []) (n := 8)) ?_
  rintro _ h24 ⟨rfl, k24⟩
  refine call_i (c_scTold (w := [104, 105, 115, 116, 111, 114, 121]) (p := []) (n := 9)) ?_
  rintro _ h25 ⟨rfl, k25⟩
  refine call_i (c_scTold (w := [108, 111, 97, 100]) (p := [100]) (n := 1)) ?_
  rintro _ h26 ⟨rfl, k26⟩
  refine call_i (c_scAsk (w := [104, 101, 97, 100, 115]) (a := 1)) ?_
  rintro _ h27 ⟨rfl, k27⟩
  refine call_i (c_scAsk (w := [108, 101, 116, 116, 101, 114, 115]) (a := 2)) ?_
  rintro _ h28 ⟨rfl, k28⟩
  refine call_i (c_scAsk (w := [102, 105, 108, 101, 115]) (a := 3)) ?_
  rintro _ h29 ⟨rfl, k29⟩
  refine call_i (c_scAsk (w := [109, 97, 114, 107]) (a := 4)) ?_
  rintro _ h30 ⟨rfl, k30⟩
  rw [b_forms, Mnews_some]
  have kk : Keep (fun _ => False) H h30 := (((((((((((((((((((((((((((((k1).trans k2).trans k3).trans k4).trans k5).trans k6).trans k7).trans k8).trans k9).trans k10).trans k11).trans k12).trans k13).trans k14).trans k15).trans k16).trans k17).trans k18).trans k19).trans k20).trans k21).trans k22).trans k23).trans k24).trans k25).trans k26).trans k27).trans k28).trans k29).trans k30
  have g := kk.1
  refine ⟨⟨h30.size, rfl, g, by simp, ⟨⟨_, 30, rfl, Nat.le_refl _, .inr ⟨h30.size, 0, rfl, rfl, Pt.of push_new⟩⟩, fun x hx => ?_, fun x hx c hc => ?_⟩⟩, kk.trans Keep.push⟩
  · obtain ⟨f, _, rfl⟩ := List.mem_map.1 hx
    exact formC_len
  · obtain ⟨f, _, rfl⟩ := List.mem_map.1 hx
    exact formC_one c hc
end Go.Proofs.YtconalffokhplaaGreatDoor

/- scripts: a part is read. -/
namespace Go.Proofs.YtconalffokhplaaGreatDoor
open Go.X Go.X.Diff
set_option maxRecDepth 100000

open Classical in
noncomputable def wantP (s : List UInt8) : Option Want := if h : ∃ w : Want, w.wf ∧ wantOk w = true ∧ wantS w = s then some (Classical.choose h) else none
theorem wantP_some {s : List UInt8} {w : Want} (hw : w.wf) (ho : wantOk w = true) (hs : wantS w = s) : wantP s = some w := by
  have h : ∃ w : Want, w.wf ∧ wantOk w = true ∧ wantS w = s := ⟨w, hw, ho, hs⟩
  unfold wantP
  rw [dif_pos h]
  obtain ⟨h1, h2, h3⟩ := Classical.choose_spec h
  rw [want_inj h1 hw h2 ho (by rw [h3, hs])]
theorem wantP_spec {s : List UInt8} {w : Want} (h : wantP s = some w) : w.wf ∧ wantOk w = true ∧ wantS w = s := by
  unfold wantP at h
  split at h
  · rename_i h'
    cases h
    exact Classical.choose_spec h'
  · cases h
theorem wantP_of {s : List UInt8} {u : Value} (h : WantR s u) : (∃ w, wantP s = some w ∧ w.wf ∧ u = .tuple #[.agg (wantC w).toArray, .int .i64 0]) ∨ (wantP s = none ∧ u = .tuple #[.agg (wantC zeroW).toArray, .int .i64 10]) := by
  rcases h with ⟨w, h1, h2, h3, rfl⟩ | ⟨h1, rfl⟩
  · exact .inl ⟨w, wantP_some h1 h2 h3, h1, rfl⟩
  · right
    refine ⟨?_, rfl⟩
    unfold wantP
    rw [dif_neg]
    rintro ⟨w, h2, h3, h4⟩
    exact h1 w h2 h3 h4

/-- what a part makes of a line -/
noncomputable def readP (p : UInt8) (s : List UInt8) (l : LineA) : Option LineA :=
  if p = 110 then (if numOk s = true then some { l with n := (valF s : Nat) } else none)
  else if p = 97 then (if numOk s = true then some { l with at' := (valF s : Nat) } else none)
  else if p = 115 then (if scNameOk s = true then some { l with name := s } else none)
  else if p = 119 then (wantP s).map fun w => { l with want := w }
  else if p = 100 then (dataF s).map fun d => { l with data := d }
  else if p = 108 then (if listOk s = true then some { l with lost := listV s } else none)
  else none

/-- a line at block q; its slices in blocks from base on -/
structure LineAt (q base : Nat) (l : LineA) (h : Heap) : Prop where
  ex : ∃ vd vl, At h q (lineC l vd vl) ∧ Sl (fun b => base ≤ b ∧ b < h.size ∧ b ≠ q) h vd l.data ∧ SlE 1 (fun b => base ≤ b ∧ b < h.size ∧ b ≠ q) h vl (ints l.lost)
  wf : l.want.wf
theorem LineAt.keep {q base : Nat} {l : LineA} {h h' : Heap} {S : Nat → Prop} (a : LineAt q base l h) (k : Keep S h h') (hs : ∀ b, S b → b ≠ q ∧ (b < base ∨ h.size ≤ b)) : LineAt q base l h' := by
  obtain ⟨vd, vl, h1, h2, h3⟩ := a.ex
  have g := k.1
  refine ⟨⟨vd, vl, h1.keep k fun hS => (hs _ hS).1 rfl, (h2.keep k fun b hb hS => ?_).mono fun b hb => ⟨hb.1, by omega, hb.2.2⟩, (h3.keep k fun b hb hS => ?_).mono fun b hb => ⟨hb.1, by omega, hb.2.2⟩⟩, a.wf⟩
  · have := (hs b hS).2; omega
  · have := (hs b hS).2; omega
theorem lineC_len {l : LineA} {vd vl : Value} (h : l.want.wf) : (lineC l vd vl).length = 12 := by simp [lineC, wantC_len h]
theorem line_mid {l : LineA} {vd vl : Value} : lineC l vd vl = [.int .i64 l.kind, .int .i64 l.n, .int .i64 l.at', str l.name] ++ wantC l.want ++ [vd, vl, .int .i64 l.ask] := rfl
theorem line_set9 {l : LineA} {vd vl v : Value} (h : l.want.wf) : (lineC l vd vl).set 9 v = lineC l v vl := by
  rw [line_mid, List.set_append_right _ _ (by simp [wantC_len h])]
  simp [wantC_len h, lineC]
theorem line_set10 {l : LineA} {vd vl v : Value} (h : l.want.wf) : (lineC l vd vl).set 10 v = lineC l vd v := by
  rw [line_mid, List.set_append_right _ _ (by simp [wantC_len h])]
  simp [wantC_len h, lineC]
theorem u8_eql {p q : UInt8} : binV .no .eql (.int .u8 (p.toNat : Nat)) (.int .u8 (q.toNat : Nat)) = some (.bool (decide (p = q))) := by
  rw [binV_int]; simp only [intV]; congr 2
  rw [Bool.eq_iff_iff]
  simp only [beq_iff_eq, decide_eq_true_eq]
  constructor
  · intro h; exact UInt8.toNat_inj.1 (by omega)
  · rintro rfl; rfl

set_option maxHeartbeats 2000000 in
theorem c_scRead {H : Heap} {q base : Nat} {l : LineA} {p : UInt8} {s : List UInt8} (ha : LineAt q base l H) (hq : base ≤ q) (hN : NG ≤ q) (hT : VerT H) (hs : s.length ≤ 1048576) :
    HCalls prg f_script_Line_read [Ptr q 0, .int .u8 (p.toNat : Nat), str s] H fun u H' => u = .bool (readP p s l).isSome ∧ (∀ l', readP p s l = some l' → LineAt q base l' H') ∧ Keep (· = q) H H' := by
  apply sh_script_Line_read_calls
  unfold sh_script_Line_read
  obtain ⟨vd, vl, a, hd, hl⟩ := ha.ex
  have hql := a.lt
  have w := ha.wf
  have hlen := lineC_len (vd := vd) (vl := vl) w
  have e1 : binV .no .eql (.int .u8 (p.toNat : Nat)) (.int .u8 110) = some (.bool (decide (p = 110))) := u8_eql (q := 110)
  have e2 : binV .no .eql (.int .u8 (p.toNat : Nat)) (.int .u8 97) = some (.bool (decide (p = 97))) := u8_eql (q := 97)
  have e3 : binV .no .eql (.int .u8 (p.toNat : Nat)) (.int .u8 115) = some (.bool (decide (p = 115))) := u8_eql (q := 115)
  have e4 : binV .no .eql (.int .u8 (p.toNat : Nat)) (.int .u8 119) = some (.bool (decide (p = 119))) := u8_eql (q := 119)
  have e5 : binV .no .eql (.int .u8 (p.toNat : Nat)) (.int .u8 100) = some (.bool (decide (p = 100))) := u8_eql (q := 100)
  have e6 : binV .no .eql (.int .u8 (p.toNat : Nat)) (.int .u8 108) = some (.bool (decide (p = 108))) := u8_eql (q := 108)
  refine J1_i (fun u h => u = .bool (readP p s l).isSome ∧ (∀ l', readP p s l = some l' → LineAt q base l' h) ∧ Keep (· = q) H h) (fun k hk => ?_) fun u h hR => hR
  -- one cell is written behind a call that changes nothing
  have one : ∀ (i : Nat) (v : Value) (h : Heap) (b : Bool), i < 12 → v.oneCell' = true → Keep (fun _ => False) H h → b = (readP p s l).isSome →
      (∀ l', readP p s l = some l' → ∀ h', At h' q ((lineC l vd vl).set i v) → Keep (· = q) h h' → LineAt q base l' h') →
      ∃ h', st1 h (Ptr q i) v = some h' ∧ k (.bool b) h' := fun i v h b hi hv kh hb hP => by
    obtain ⟨h', st, a', k'⟩ := (a.keep kh id).st1 (i := i) (v := v) (by omega) hv
    exact ⟨h', st, hk _ _ ⟨by rw [hb], fun l' hl' => hP l' hl' h' a' k', (kh.mono fun _ _ h => h.elim).trans k'⟩⟩
  have slow : ∀ {h h' : Heap} , Keep (fun _ => False) H h → Keep (· = q) h h' → Sl (fun b => base ≤ b ∧ b < h'.size ∧ b ≠ q) h' vd l.data ∧ SlE 1 (fun b => base ≤ b ∧ b < h'.size ∧ b ≠ q) h' vl (ints l.lost) := fun {h h'} kh k' => by
    have g := kh.1
    have g' := k'.1
    exact ⟨((hd.keep kh fun _ _ => id).keep k' fun b hb e => hb.2.2 e).mono fun b hb => ⟨hb.1, by omega, hb.2.2⟩, ((hl.keep kh fun _ _ => id).keep k' fun b hb e => hb.2.2 e).mono fun b hb => ⟨hb.1, by omega, hb.2.2⟩⟩
  have fl : ∀ i, fld i (Ptr q 0) = some (Ptr q (0 + i)) := fun i => rfl
  rw [e1, Mpu_some, Mcd_bool]
  by_cases p1 : p = 110
  · rw [if_pos (by simpa using p1)]
    refine call_i (c_scNumber hT.err hT.pow hs) ?_
    rintro _ h3 ⟨⟨n, rfl, hn⟩, k3⟩
    have hr : readP p s l = if numOk s = true then some { l with n := (valF s : Nat) } else none := by unfold readP; rw [if_pos p1]
    obtain ⟨h', st, hk'⟩ := one 1 (.int .i64 n) h3 (numOk s) (by omega) rfl k3 (by rw [hr]; cases numOk s <;> rfl) fun l' hl' h' a' k' => by
      rw [hr] at hl'
      cases hok : numOk s
      · rw [hok] at hl'; cases hl'
      · rw [hok] at hl'
        cases hl'
        obtain ⟨h1, h2⟩ := slow k3 k'
        rw [hn hok] at a'
        exact ⟨⟨vd, vl, a', h1, h2⟩, w⟩
    simp only [ex20, ex21, Mpu_some, nck_ptr, fld_ptr, Nat.zero_add, Nat.add_zero, st, Mwr_some]
    exact hk'
  rw [if_neg (by simpa using p1), e2, Mpu_some, Mcd_bool]
  by_cases p2 : p = 97
  · rw [if_pos (by simpa using p2)]
    refine call_i (c_scNumber hT.err hT.pow hs) ?_
    rintro _ h3 ⟨⟨n, rfl, hn⟩, k3⟩
    have hr : readP p s l = if numOk s = true then some { l with at' := (valF s : Nat) } else none := by unfold readP; rw [if_neg p1, if_pos p2]
    obtain ⟨h', st, hk'⟩ := one 2 (.int .i64 n) h3 (numOk s) (by omega) rfl k3 (by rw [hr]; cases numOk s <;> rfl) fun l' hl' h' a' k' => by
      rw [hr] at hl'
      cases hok : numOk s
      · rw [hok] at hl'; cases hl'
      · rw [hok] at hl'
        cases hl'
        obtain ⟨h1, h2⟩ := slow k3 k'
        rw [hn hok] at a'
        exact ⟨⟨vd, vl, a', h1, h2⟩, w⟩
    simp only [ex20, ex21, Mpu_some, nck_ptr, fld_ptr, Nat.zero_add, Nat.add_zero, st, Mwr_some]
    exact hk'
  rw [if_neg (by simpa using p2), e3, Mpu_some, Mcd_bool]
  by_cases p3 : p = 115
  · rw [if_pos (by simpa using p3)]
    refine call_i (c_scName hs) ?_
    rintro _ h3 ⟨rfl, k3⟩
    have hr : readP p s l = if scNameOk s = true then some { l with name := s } else none := by unfold readP; rw [if_neg p1, if_neg p2, if_pos p3]
    obtain ⟨h', st, hk'⟩ := one 3 (str s) h3 (scNameOk s) (by omega) rfl k3 (by rw [hr]; cases scNameOk s <;> rfl) fun l' hl' h' a' k' => by
      rw [hr] at hl'
      cases hok : scNameOk s
      · rw [hok] at hl'; cases hl'
      · rw [hok] at hl'
        cases hl'
        obtain ⟨h1, h2⟩ := slow k3 k'
        exact ⟨⟨vd, vl, a', h1, h2⟩, w⟩
    simp only [ex20, ex21, Mpu_some, nck_ptr, fld_ptr, Nat.zero_add, Nat.add_zero, st, Mwr_some]
    exact hk'
  rw [if_neg (by simpa using p3), e4, Mpu_some, Mcd_bool]
  by_cases p4 : p = 119
  · rw [if_pos (by simpa using p4)]
    refine call_i (c_ParseWant hT.err hT.pow hT.ops hs) ?_
    rintro u h9 ⟨hR, k9⟩
    have hr : readP p s l = (wantP s).map fun w => { l with want := w } := by unfold readP; rw [if_neg p1, if_neg p2, if_neg p3, if_pos p4]
    obtain ⟨x, e, rfl, hx, hb, hsome⟩ : ∃ x e, u = .tuple #[.agg (wantC x).toArray, .int .i64 e] ∧ x.wf ∧ binV .no .eql (.int .i64 e) (.int .i64 0) = some (.bool (wantP s).isSome) ∧ ∀ y, wantP s = some y → x = y := by
      rcases wantP_of hR with ⟨x, h1, h2, rfl⟩ | ⟨h1, rfl⟩
      · exact ⟨x, 0, rfl, h2, by rw [h1]; rfl, fun y hy => by rw [h1] at hy; cases hy; rfl⟩
      · exact ⟨zeroW, 10, rfl, zeroW_wf, by rw [h1]; rfl, fun y hy => by rw [h1] at hy; cases hy⟩
    simp only [ex20, ex21, Mpu_some, z_Want, Mnew_some]
    generalize hH11 : h9.push (.cells (wantC zeroW).toArray T_version_Want (0, 0)) = h11
    have k11 : Keep (fun _ => False) h9 h11 := by rw [← hH11]; exact Keep.push
    have w11 : At h11 h9.size (wantC zeroW) := by rw [← hH11]; exact At.push
    obtain ⟨h12, st12, w12, k12⟩ := w11.st (n := 5) (ds := wantC x) (wantC_len zeroW_wf) (wantC_len hx) wantC_one
    have g9 := k9.1
    have k012 : Keep (fun _ => False) H h12 := (k9.trans k11).fresh k12 fun b hb => by omega
    have a12 := a.keep k012 id
    rw [line_mid] at a12
    obtain ⟨h13, st13, a13, k13⟩ := at_mid a12 (o := 4) (n := 5) (B' := wantC x) rfl (wantC_len w) (wantC_len hx) wantC_one
    simp only [st12, Mwr_some, want_ld5 w12 hx, hb, nck_ptr, fld_ptr, Nat.zero_add, st13, Mpu_some]
    refine hk _ _ ⟨by rw [hr]; cases wantP s <;> rfl, fun l' hl' => ?_, (k012.mono fun _ _ h => h.elim).trans k13⟩
    rw [hr] at hl'
    obtain ⟨y, hy, rfl⟩ := Option.map_eq_some_iff.1 hl'
    have := hsome y hy
    subst this
    obtain ⟨h1, h2⟩ := slow k012 k13
    exact ⟨⟨vd, vl, a13, h1, h2⟩, hx⟩
  rw [if_neg (by simpa using p4), e5, Mpu_some, Mcd_bool]
  by_cases p5 : p = 100
  · rw [if_pos (by simpa using p5)]
    refine call_i (c_scData hs) ?_
    rintro u h9 ⟨hR, k9⟩
    have hr : readP p s l = (dataF s).map fun d => { l with data := d } := by unfold readP; rw [if_neg p1, if_neg p2, if_neg p3, if_neg p4, if_pos p5]
    obtain ⟨v, rfl, hv, hsome⟩ : ∃ v, u = .tuple #[v, .bool (dataF s).isSome] ∧ v.oneCell' = true ∧ ∀ d, dataF s = some d → Sl (fun b => H.size ≤ b ∧ b < h9.size) h9 v d := by
      rcases hR with ⟨v, d, h1, rfl, h2⟩ | ⟨h1, rfl⟩
      · exact ⟨v, by rw [h1]; rfl, h2.one, fun y hy => by rw [h1] at hy; cases hy; exact h2⟩
      · exact ⟨_, by rw [h1]; rfl, rfl, fun y hy => by rw [h1] at hy; cases hy⟩
    obtain ⟨h', st, hk'⟩ := one 9 v h9 (dataF s).isSome (by omega) hv k9 (by rw [hr]; cases dataF s <;> rfl) fun l' hl' h' a' k' => by
      rw [hr] at hl'
      obtain ⟨y, hy, rfl⟩ := Option.map_eq_some_iff.1 hl'
      obtain ⟨h1, h2⟩ := slow k9 k'
      rw [line_set9 w] at a'
      have g' := k'.1
      exact ⟨⟨v, vl, a', ((hsome y hy).keep k' fun b hb e => by omega).mono fun b hb => ⟨by omega, by omega, by omega⟩, h2⟩, w⟩
    simp only [ex20, ex21, Mpu_some, nck_ptr, fld_ptr, Nat.zero_add, Nat.add_zero, st, Mwr_some]
    exact hk'
  rw [if_neg (by simpa using p5), e6, Mpu_some, Mcd_bool]
  by_cases p6 : p = 108
  · rw [if_pos (by simpa using p6)]
    refine call_i (c_scList hT.err hT.pow hs) ?_
    rintro u h9 ⟨hR, k9⟩
    have hr : readP p s l = if listOk s = true then some { l with lost := listV s } else none := by unfold readP; rw [if_neg p1, if_neg p2, if_neg p3, if_neg p4, if_neg p5, if_pos p6]
    obtain ⟨v, rfl, hv, hsome⟩ : ∃ v, u = .tuple #[v, .bool (listOk s)] ∧ v.oneCell' = true ∧ (listOk s = true → SlE 1 (fun b => H.size ≤ b ∧ b < h9.size) h9 v (ints (listV s))) := by
      rcases hR with ⟨h1, v, rfl, h2⟩ | ⟨h1, rfl⟩
      · exact ⟨v, by rw [h1], h2.oneC, fun _ => h2⟩
      · exact ⟨_, by rw [h1], rfl, fun hy => by rw [h1] at hy; cases hy⟩
    obtain ⟨h', st, hk'⟩ := one 10 v h9 (listOk s) (by omega) hv k9 (by rw [hr]; cases listOk s <;> rfl) fun l' hl' h' a' k' => by
      rw [hr] at hl'
      cases hok : listOk s
      · rw [hok] at hl'; cases hl'
      · rw [hok] at hl'
        cases hl'
        obtain ⟨h1, h2⟩ := slow k9 k'
        rw [line_set10 w] at a'
        have g' := k'.1
        exact ⟨⟨vd, v, a', h1, ((hsome hok).keep k' fun b hb e => by omega).mono fun b hb => ⟨by omega, by omega, by omega⟩⟩, w⟩
    simp only [ex20, ex21, Mpu_some, nck_ptr, fld_ptr, Nat.zero_add, Nat.add_zero, st, Mwr_some]
    exact hk'
  rw [if_neg (by simpa using p6)]
  have hr : readP p s l = none := by unfold readP; rw [if_neg p1, if_neg p2, if_neg p3, if_neg p4, if_neg p5, if_neg p6]
  exact hk _ _ ⟨by rw [hr]; rfl, fun l' hl' => (by rw [hr] at hl'; cases hl'), Keep.refl⟩
end Go.Proofs.YtconalffokhplaaGreatDoor

/- scripts: a form is read. -/
namespace Go.Proofs.YtconalffokhplaaGreatDoor
open Go.X Go.X.Diff
set_option maxRecDepth 100000

noncomputable def readAll : List UInt8 → List (List UInt8) → LineA → Option LineA
  | p :: ps, w :: ws, l => (readP p w l).bind (readAll ps ws)
  | _, _, l => some l
theorem readAll_nil {ps : List UInt8} {l : LineA} : readAll ps [] l = some l := by cases ps <;> rfl
theorem readAll_split : ∀ {ps : List UInt8} {ws : List (List UInt8)} {l : LineA} (i : Nat), ps.length = ws.length → readAll ps ws l = (readAll (ps.take i) (ws.take i) l).bind (readAll (ps.drop i) (ws.drop i))
  | _, _, l, 0, _ => by simp [readAll]
  | [], [], l, i + 1, _ => by simp [readAll]
  | [], _ :: _, _, _ + 1, h => by simp at h
  | _ :: _, [], _, _ + 1, h => by simp at h
  | p :: ps, w :: ws, l, i + 1, h => by
    rw [List.take_succ_cons, List.take_succ_cons, List.drop_succ_cons, List.drop_succ_cons, readAll, readAll, Option.bind_assoc]
    congr 1
    funext l'
    exact readAll_split i (by simpa using h)
theorem readAll_step {ps : List UInt8} {ws : List (List UInt8)} {l : LineA} {i : Nat} {p : UInt8} {w : List UInt8} (h : ps.length = ws.length) (hp : ps[i]? = some p) (hw : ws[i]? = some w) :
    readAll (ps.take (i + 1)) (ws.take (i + 1)) l = (readAll (ps.take i) (ws.take i) l).bind (readP p w) := by
  rw [readAll_split (ps := ps.take (i + 1)) (ws := ws.take (i + 1)) i (by simp [h])]
  obtain ⟨h1, rfl⟩ := List.getElem?_eq_some_iff.1 hp
  obtain ⟨h2, rfl⟩ := List.getElem?_eq_some_iff.1 hw
  have e1 : (ps.take (i + 1)).drop i = [ps[i]] := by
    rw [List.take_add_one, List.getElem?_eq_getElem h1, List.drop_append_of_le_length (by simp; omega), List.drop_eq_nil_of_le (by simp; omega)]; rfl
  have e2 : (ws.take (i + 1)).drop i = [ws[i]] := by
    rw [List.take_add_one, List.getElem?_eq_getElem h2, List.drop_append_of_le_length (by simp; omega), List.drop_eq_nil_of_le (by simp; omega)]; rfl
  rw [e1, e2, List.take_take, List.take_take, Nat.min_eq_left (by omega)]
  congr 1
  funext l'
  show (readP ps[i] ws[i] l').bind (readAll [] []) = _
  cases readP ps[i] ws[i] l' <;> rfl
noncomputable def parseForm (f : FormA) (ws : List (List UInt8)) : Option LineA :=
  if ws.length = 1 ∧ f.parts = [108] then some (baseL f) else if ws.length = 1 + f.parts.length then readAll f.parts ws.tail (baseL f) else none

/-- a line's value, its slices in blocks from base on -/
def LineOut (base : Nat) (u : Value) (l : LineA) (h : Heap) : Prop := ∃ vd vl, u = .agg (lineC l vd vl).toArray ∧ Sl (fun b => base ≤ b ∧ b < h.size) h vd l.data ∧ SlE 1 (fun b => base ≤ b ∧ b < h.size) h vl (ints l.lost) ∧ l.want.wf
theorem LineOut.zero {base : Nat} {h : Heap} : LineOut base (.agg (lineC zeroL nilS nilS).toArray) zeroL h := ⟨nilS, nilS, rfl, Sl.nil, SlE.nil, zeroW_wf⟩
theorem lineC_one {l : LineA} {vd vl : Value} (h1 : vd.oneCell' = true) (h2 : vl.oneCell' = true) : ∀ c ∈ lineC l vd vl, c.oneCell' = true := by
  intro c hc
  rw [line_mid] at hc
  simp only [List.mem_append, List.mem_cons, List.not_mem_nil, or_false] at hc
  rcases hc with ((rfl | rfl | rfl | rfl) | hc) | rfl | rfl | rfl
  · rfl
  · rfl
  · rfl
  · rfl
  · exact wantC_one c hc
  · exact h1
  · exact h2
  · rfl

set_option maxHeartbeats 2000000 in
theorem c_formParse {P : Nat → Prop} {H : Heap} {f : FormA} {v : Value} {ws : List (List UInt8)} (hv : SlE 1 P H v (strs ws)) (hP : ∀ b, P b → b < H.size) (hw : ∀ w ∈ ws, w.length ≤ 1048576) (hf : f.parts.length ≤ 100) (hl : ws.length ≤ 1048577) (hT : VerT H) :
    HCalls prg f_script_form_parse [.agg (formC f).toArray, v] H fun u H' => (∃ u0, u = .tuple #[u0, .bool (parseForm f ws).isSome] ∧ LineOut H.size u0 ((parseForm f ws).getD zeroL) H') ∧ Keep (fun _ => False) H H' := by
  apply sh_script_form_parse_calls
  unfold sh_script_form_parse
  simp only [Cells_agg, z_Line, Mnew_some]
  generalize hH1 : H.push (.cells (formC f).toArray T_script_form (0, 0)) = H1
  have k1 : Keep (fun _ => False) H H1 := by rw [← hH1]; exact Keep.push
  have a1 : At H1 H.size (formC f) := by rw [← hH1]; exact At.push
  have s1 : H1.size = H.size + 1 := by rw [← hH1]; simp
  generalize hH2 : H1.push (.cells (lineC zeroL nilS nilS).toArray T_script_Line (0, 0)) = H2
  have k2 : Keep (fun _ => False) H1 H2 := by rw [← hH2]; exact Keep.push
  have b2 : At H2 H1.size (lineC zeroL nilS nilS) := by rw [← hH2]; exact At.push
  have s2 : H2.size = H1.size + 1 := by rw [← hH2]; simp
  have a2 := a1.keep k2 id
  have fline : ∀ {g}, At g H.size (formC f) → ldN 12 g (Ptr H.size 2) = some (.agg (lineC (baseL f) nilS nilS).toArray) := fun {g} a => by
    obtain ⟨T, a⟩ := a
    exact ldN_mid (A := [str f.word, str f.parts]) (B := lineC (baseL f) nilS nilS) (C := []) (by rw [List.append_nil]; exact a) rfl rfl
  have e2 : (Value.pointer (some ⟨H.size, 2, none⟩)) = Ptr H.size 2 := rfl
  simp only [fld_ptr, Nat.zero_add, Mpu_some]
  rw [fline a2, Mpu_some]
  generalize hH3 : H2.push (.cells (lineC zeroL nilS nilS).toArray T_script_Line (0, 0)) = H3
  have k3 : Keep (fun _ => False) H2 H3 := by rw [← hH3]; exact Keep.push
  have c3 : At H3 H2.size (lineC zeroL nilS nilS) := by rw [← hH3]; exact At.push
  have s3 : H3.size = H2.size + 1 := by rw [← hH3]; simp
  have bw : (baseL f).want.wf := zeroW_wf
  obtain ⟨h4, st4, c4, k4⟩ := c3.st (n := 12) (ds := lineC (baseL f) nilS nilS) (lineC_len zeroW_wf) (lineC_len bw) (lineC_one rfl rfl)
  have k04 : Keep (fun _ => False) H h4 := (k1.trans (k2.trans k3)).fresh k4 fun b hb => by omega
  have a4 := (a2.keep k3 id).keep k4 (show ¬ H.size = H2.size by omega)
  have b4 := (b2.keep k3 id).keep k4 (show ¬ H1.size = H2.size by omega)
  have hv4 := hv.keep k04 fun _ _ => id
  have hlen := hv4.len
  rw [strs_len] at hlen
  have g4 := k04.1
  have el1 : binV .no .eql (.int .i64 (ws.length : Nat)) (.int .i64 1) = some (.bool (decide (ws.length = 1))) := by
    rw [binV_int]; simp only [intV]; congr 2; rw [Bool.eq_iff_iff]; simp <;> omega
  have dp : ld1 h4 (Ptr H.size 1) = some (str f.parts) := a4.ld rfl
  have el108 : binV .no .eql (str f.parts) (.string ⟨#[108]⟩) = some (.bool (decide (f.parts = [108]))) := str_eql
  rw [st4, Mwr_some, hlen, Mpu_some, el1, Mpu_some]
  -- the end: u is written to the result and read
  have fin : ∀ (l : LineA) (vd vl : Value) (h : Heap) (b : Bool), At h H1.size (lineC zeroL nilS nilS) → Keep (fun _ => False) H h → vd.oneCell' = true → vl.oneCell' = true → l.want.wf → Sl (fun b => H.size ≤ b ∧ b < h.size ∧ b ≠ H1.size) h vd l.data → SlE 1 (fun b => H.size ≤ b ∧ b < h.size ∧ b ≠ H1.size) h vl (ints l.lost) → b = (parseForm f ws).isSome → l = (parseForm f ws).getD zeroL →
      Mwr (stN 12 h (Ptr H1.size 0) (.agg (lineC l vd vl).toArray)) fun h7 => Mpu (ldN 12 h7 (Ptr H1.size 0)) fun r8 => (∃ u0, Value.tuple #[r8, .bool b] = .tuple #[u0, .bool (parseForm f ws).isSome] ∧ LineOut H.size u0 ((parseForm f ws).getD zeroL) h7) ∧ Keep (fun _ => False) H h7 := by
    intro l vd vl h b hz kh o1 o2 hw' hd' hl' hb hl0
    obtain ⟨h7, st7, a7, k7⟩ := hz.st (n := 12) (ds := lineC l vd vl) (lineC_len zeroW_wf) (lineC_len hw') (lineC_one o1 o2)
    have g7 := k7.1
    rw [st7, Mwr_some, a7.ldN (lineC_len hw'), Mpu_some]
    refine ⟨⟨_, by rw [hb], ?_⟩, kh.fresh k7 fun b hb => by omega⟩
    rw [← hl0]
    exact ⟨vd, vl, rfl, (hd'.keep k7 fun b hb e => hb.2.2 e).mono fun b hb => ⟨hb.1, by omega⟩, (hl'.keep k7 fun b hb e => hb.2.2 e).mono fun b hb => ⟨hb.1, by omega⟩, hw'⟩
  refine J1_i (fun u h => (decide (ws.length = 1) = true → u = .bool (decide (f.parts = [108]))) ∧ h4 = h) (fun k hk => ?_) ?_
  · cases h1 : decide (ws.length = 1)
    · rw [Mif_bool, if_neg (by decide)]
      exact hk _ _ ⟨fun e => (by rw [h1] at e; cases e), rfl⟩
    · rw [Mif_bool, if_pos rfl, dp, Mpu_some, el108, Mpu_some]
      exact hk _ _ ⟨fun _ => rfl, rfl⟩
  rintro u _ ⟨hu, rfl⟩
  have hp : pickV (.bool (decide (ws.length = 1))) u (.bool false) = some (.bool (decide (ws.length = 1 ∧ f.parts = [108]))) := by
    rw [pickV_bool]
    by_cases h1 : ws.length = 1
    · rw [if_pos (by simpa using h1), hu (by simpa using h1)]; simp [h1]
    · rw [if_neg (by simpa using h1)]; simp [h1]
  rw [hp, Mpu_some, Mcd_bool]
  by_cases hc : ws.length = 1 ∧ f.parts = [108]
  · rw [if_pos (by simpa using hc)]
    have hpf : parseForm f ws = some (baseL f) := by unfold parseForm; rw [if_pos hc]
    rw [c4.ldN (lineC_len bw), Mpu_some]
    exact fin (baseL f) nilS nilS h4 true b4 k04 rfl rfl bw Sl.nil SlE.nil (by rw [hpf]; rfl) (by rw [hpf]; rfl)
  rw [if_neg (by simpa using hc)]
  have ead : binV .no .add (.int .i64 1) (.int .i64 (f.parts.length : Nat)) = some (.int .i64 ((1 + f.parts.length : Nat) : Int)) := by
    rw [binV_int]; simp only [intV]; rw [wrap_id (by omega) (by omega)]; rfl
  have ene : binV .no .neq (.int .i64 (ws.length : Nat)) (.int .i64 ((1 + f.parts.length : Nat) : Int)) = some (.bool (!decide (ws.length = 1 + f.parts.length))) := by
    rw [binV_int]; simp only [intV]; congr 2; rw [Bool.eq_iff_iff]; simp <;> omega
  rw [Mpu_some, dp, Mpu_some, lenT_str, Mpu_some, ead, Mpu_some, ene, Mpu_some, Mcd_bool]
  have zero : ∀ h, At h H1.size (lineC zeroL nilS nilS) → Keep (fun _ => False) H h → parseForm f ws = none → Mwr (stN 12 h (Ptr H1.size 0) (.agg (lineC zeroL nilS nilS).toArray)) fun h7 => Mpu (ldN 12 h7 (Ptr H1.size 0)) fun r8 => (∃ u0, Value.tuple #[r8, .bool false] = .tuple #[u0, .bool (parseForm f ws).isSome] ∧ LineOut H.size u0 ((parseForm f ws).getD zeroL) h7) ∧ Keep (fun _ => False) H h7 := fun h hz kh hn =>
    fin zeroL nilS nilS h false hz kh rfl rfl zeroW_wf Sl.nil SlE.nil (by rw [hn]; rfl) (by rw [hn]; rfl)
  by_cases hn : ws.length = 1 + f.parts.length
  rotate_left
  · rw [if_pos (by simpa using hn), b_Line0, Mpu_some]
    exact zero h4 b4 k04 (by unfold parseForm; rw [if_neg hc, if_neg hn])
  rw [if_neg (by simpa using hn)]
  have hpf : parseForm f ws = readAll f.parts ws.tail (baseL f) := by unfold parseForm; rw [if_neg hc, if_pos hn]
  have hpl : f.parts.length = ws.tail.length := by rw [List.length_tail]; omega
  have la4 : LineAt H2.size H2.size (baseL f) h4 := ⟨⟨nilS, nilS, c4, Sl.nil, SlE.nil⟩, bw⟩
  have hNG := hT.pow.sz
  refine J1_i (fun _ h => ∃ l, readAll f.parts ws.tail (baseL f) = some l ∧ LineAt H2.size H2.size l h ∧ At h H1.size (lineC zeroL nilS nilS) ∧ Keep (fun _ => False) H h) (fun k hk => ?_) ?_
  · rw [Mpu_some]
    refine s2b_i (by omega) fun vp h13 hvp k13 => ?_
    rw [hvp.len, Mpu_some]
    have k413 := k13
    have hlt4 := c4.lt
    refine L1_i (fun u h => ∃ i : Nat, i ≤ f.parts.length ∧ u = .int .i64 (i : Nat) ∧ (∃ l, readAll (f.parts.take i) (ws.tail.take i) (baseL f) = some l ∧ LineAt H2.size H2.size l h) ∧ Keep (· = H2.size) h13 h) (fun u _ => match u with | .int _ t => f.parts.length - t.toNat | _ => 0)
      ⟨0, Nat.zero_le _, rfl, ⟨baseL f, by simp [readAll], la4.keep k13 fun b hb => hb.elim⟩, Keep.refl⟩ ?_
    rintro _ h ⟨i, hi, rfl, ⟨l, hrl, hla⟩, kh⟩ kk hkk
    have el : binV .no .lss (.int .i64 (i : Nat)) (.int .i64 (f.parts.length : Nat)) = some (.bool (decide (i < f.parts.length))) := by
      rw [binV_int]; simp only [intV]; congr 2; rw [decide_eq_decide]; omega
    rw [el, Mpu_some, Mcd_bool]
    have k0h : Keep (fun _ => False) H h := (k04.trans k13).fresh kh fun b hb => by omega
    have bh : At h H1.size (lineC zeroL nilS nilS) := (b4.keep k13 id).keep kh (show ¬ H1.size = H2.size by omega)
    by_cases hlt : i < f.parts.length
    · rw [if_pos (by simpa using hlt)]
      have hgp : f.parts[i]? = some f.parts[i] := List.getElem?_eq_getElem hlt
      obtain ⟨pp, hix, hld, _⟩ := (hvp.keep kh fun b hb e => by omega).at hgp
      have hgw : ws[i + 1]? = some (ws[i + 1]'(by omega)) := List.getElem?_eq_getElem (by omega)
      have hgt : ws.tail[i]? = some (ws[i + 1]'(by omega)) := by rw [List.getElem?_tail]; exact hgw
      have hwl := hw _ (List.getElem_mem (show i + 1 < ws.length by omega))
      have hst := readAll_step (l := baseL f) hpl hgp hgt
      have hsp := readAll_split (ps := f.parts) (ws := ws.tail) (l := baseL f) (i + 1) hpl
      generalize f.parts[i] = p at *
      generalize (ws[i + 1]'(by omega)) = w at *
      obtain ⟨b, o, hib, hpt, _⟩ := (hv.keep k0h fun _ _ => id).at (strs_get hgw)
      have ea : binV .no .add (.int .i64 1) (.int .i64 (i : Nat)) = some (.int .i64 ((i + 1 : Nat) : Int)) := by
        rw [binV_int]; simp only [intV]; rw [wrap_id (by omega) (by omega)]; congr 2; omega
      rw [hix, Mpu_some, hld, Mpu_some, ea, Mpu_some, hib .i64, Mpu_some, hpt.cell0 rfl, Mpu_some]
      refine call_i (c_scRead hla (Nat.le_refl _) (by omega) (hT.keep k0h fun _ h => h.elim) hwl) ?_
      rintro _ h16 ⟨rfl, hnext, k16⟩
      have k016 := k0h.fresh k16 fun b hb => by omega
      have b16 := bh.keep k16 (show ¬ H1.size = H2.size by omega)
      rw [hrl, Option.bind_some] at hst
      cases hr : readP p w l with
      | none =>
        rw [hr] at hst
        simp only [Option.isSome_none, unV_not, Bool.not_false, Mpu_some, Mcd_bool, if_true, b_Line0]
        exact zero h16 b16 k016 (by rw [hpf, hsp, hst]; rfl)
      | some l2 =>
        rw [hr] at hst
        simp only [Option.isSome_some, unV_not, Bool.not_true, Mpu_some, Mcd_bool, Bool.false_eq_true, if_false]
        rw [add_one' (by omega), Mpu_some]
        exact hkk _ _ ⟨i + 1, by omega, rfl, ⟨l2, hst, hnext l2 hr⟩, kh.trans k16⟩ (by show f.parts.length - (i + 1) < f.parts.length - i; omega)
    · rw [if_neg (by simpa using hlt)]
      rw [List.take_of_length_le (by omega), List.take_of_length_le (by omega)] at hrl
      exact hk _ _ ⟨l, hrl, hla, bh, k0h⟩
  · rintro _ h ⟨l, hrl, hla, bh, k0h⟩
    obtain ⟨vd, vl, al, hd', hl'⟩ := hla.ex
    rw [al.ldN (lineC_len hla.wf), Mpu_some]
    exact fin l vd vl h true bh k0h hd'.one hl'.oneC hla.wf (hd'.mono fun b hb => ⟨by omega, hb.2.1, by omega⟩) (hl'.mono fun b hb => ⟨by omega, hb.2.1, by omega⟩) (by rw [hpf, hrl]; rfl) (by rw [hpf, hrl]; rfl)
end Go.Proofs.YtconalffokhplaaGreatDoor

