/- JOINED: V143 V144 V145 V146 V147 V148 -/
import Derived.Test.YtconalffokhplaaGreatDoorG8
set_option linter.unusedSimpArgs false
set_option linter.unusedVariables false
/- scripts: Parse. -/
namespace Go.Proofs.YtconalffokhplaaGreatDoor
open Go.X Go.X.Diff
set_option maxRecDepth 100000

def formOf (w : List UInt8) : Option FormA := FORMS.find? fun f => decide (f.word = w)
noncomputable def parseL (s : List UInt8) : Option LineA := if 10 ∈ s then none else (formOf ((splitF 32 s).headD [])).bind fun f => parseForm f (splitF 32 s)
theorem find_atF {α : Type} {p : α → Bool} : ∀ {l : List α} {i : Nat} {f : α}, (∀ g ∈ l.take i, p g = false) → l[i]? = some f → p f = true → l.find? p = some f
  | [], i, f, _, h, _ => by simp at h
  | a :: l, 0, f, _, h, hp => by
    simp at h; subst h
    rw [List.find?_cons, hp]
  | a :: l, i + 1, f, hn, h, hp => by
    have h0 := hn a (by simp)
    rw [List.find?_cons, h0]
    exact find_atF (i := i) (fun g hg => hn g (by simp [hg])) (by simpa using h) hp
theorem forms_parts : ∀ f ∈ FORMS, f.parts.length ≤ 100 := by decide
theorem forms_len : FORMS.length = 30 := rfl

set_option maxHeartbeats 2000000 in
theorem c_scParse {H : Heap} {s : List UInt8} (hs : s.length ≤ 1048576) (hT : VerT H) :
    HCalls prg f_script_Parse [str s] H fun u H' => (∃ u0, u = .tuple #[u0, .int .i64 (if (parseL s).isSome then 0 else 60)] ∧ LineOut H.size u0 ((parseL s).getD zeroL) H') ∧ Keep (fun _ => False) H H' := by
  apply sh_script_Parse_calls
  unfold sh_script_Parse
  simp only [z_Line, Mnew_some]
  generalize hH1 : H.push (.cells (lineC zeroL nilS nilS).toArray T_script_Line (0, 0)) = H1
  have k1 : Keep (fun _ => False) H H1 := by rw [← hH1]; exact Keep.push
  have b1 : At H1 H.size (lineC zeroL nilS nilS) := by rw [← hH1]; exact At.push
  have s1 : H1.size = H.size + 1 := by rw [← hH1]; simp
  have sn : (Value.string ⟨#[10]⟩) = str [10] := rfl
  have ss : (Value.string ⟨#[32]⟩) = str [32] := rfl
  rw [sn]
  refine call_i c_strContains ?_
  rintro _ h2 ⟨rfl, k2⟩
  have k02 := k1.trans k2
  have b2 := b1.keep k2 id
  have fin : ∀ (l : LineA) (vd vl : Value) (h : Heap) (e : Int), At h H.size (lineC zeroL nilS nilS) → Keep (fun _ => False) H h → vd.oneCell' = true → vl.oneCell' = true → l.want.wf → Sl (fun b => H.size ≤ b ∧ b < h.size ∧ b ≠ H.size) h vd l.data → SlE 1 (fun b => H.size ≤ b ∧ b < h.size ∧ b ≠ H.size) h vl (ints l.lost) → e = (if (parseL s).isSome then 0 else 60) → l = (parseL s).getD zeroL →
      Mwr (stN 12 h (Ptr H.size 0) (.agg (lineC l vd vl).toArray)) fun h7 => Mpu (ldN 12 h7 (Ptr H.size 0)) fun r8 => (∃ u0, Value.tuple #[r8, .int .i64 e] = .tuple #[u0, .int .i64 (if (parseL s).isSome then 0 else 60)] ∧ LineOut H.size u0 ((parseL s).getD zeroL) h7) ∧ Keep (fun _ => False) H h7 := by
    intro l vd vl h b hz kh o1 o2 hw' hd' hl' hb hl0
    obtain ⟨h7, st7, a7, k7⟩ := hz.st (n := 12) (ds := lineC l vd vl) (lineC_len zeroW_wf) (lineC_len hw') (lineC_one o1 o2)
    have g7 := k7.1
    rw [st7, Mwr_some, a7.ldN (lineC_len hw'), Mpu_some]
    refine ⟨⟨_, by rw [hb], ?_⟩, kh.fresh k7 fun b hb => by omega⟩
    rw [← hl0]
    exact ⟨vd, vl, rfl, (hd'.keep k7 fun b hb e => hb.2.2 e).mono fun b hb => ⟨hb.1, by omega⟩, (hl'.keep k7 fun b hb e => hb.2.2 e).mono fun b hb => ⟨hb.1, by omega⟩, hw'⟩
  have zero : ∀ h, At h H.size (lineC zeroL nilS nilS) → Keep (fun _ => False) H h → parseL s = none → Mwr (stN 12 h (Ptr H.size 0) (.agg (lineC zeroL nilS nilS).toArray)) fun h7 => Mpu (ldN 12 h7 (Ptr H.size 0)) fun r8 => (∃ u0, Value.tuple #[r8, .int .i64 60] = .tuple #[u0, .int .i64 (if (parseL s).isSome then 0 else 60)] ∧ LineOut H.size u0 ((parseL s).getD zeroL) h7) ∧ Keep (fun _ => False) H h7 := fun h hz kh hn =>
    fin zeroL nilS nilS h 60 hz kh rfl rfl zeroW_wf Sl.nil SlE.nil (by rw [hn]; rfl) (by rw [hn]; rfl)
  rw [Mcd_bool]
  by_cases h10 : 10 ∈ s
  · rw [if_pos (by simpa using h10), b_Line0, Mpu_some]
    exact zero h2 b2 k02 (by unfold parseL; rw [if_pos h10])
  rw [if_neg (by simpa using h10), ss]
  have hpl : parseL s = (formOf ((splitF 32 s).headD [])).bind fun f => parseForm f (splitF 32 s) := by unfold parseL; rw [if_neg h10]
  refine call_i (c_Split (by omega)) ?_
  rintro v h5 ⟨hv, k5⟩
  have k05 := k02.trans k5
  have b5 := b2.keep k5 id
  have g2 := k02.1
  have hcnt : (splitF 32 s).length ≤ 1048577 := by
    rw [split_count]
    have := List.count_le_length (a := (32 : UInt8)) (l := s)
    omega
  have hwl : ∀ w ∈ splitF 32 s, w.length ≤ 1048576 := fun w hw => by have := splitF_len hw; omega
  have hw0 : (splitF 32 s)[0]? = some ((splitF 32 s).headD []) := by
    cases h : splitF 32 s with
    | nil => exact absurd h splitF_ne
    | cons a t => rfl
  generalize hws : splitF 32 s = ws at *
  generalize hw0' : ws.headD [] = w0 at *
  refine J1_i (fun _ h => parseL s = none ∧ At h H.size (lineC zeroL nilS nilS) ∧ Keep (fun _ => False) H h) (fun k hk => ?_) ?_
  · refine call_i c_scForms ?_
    rintro _ h8 ⟨⟨q, rfl, q1, q2, hF⟩, k8⟩
    have k08 := k05.trans k8
    have l30 : lenV (.slice (some ⟨q, 0, none⟩) 30 30) = some (.int .i64 30) := rfl
    rw [l30, Mpu_some]
    refine L1_i (fun u h => ∃ i : Nat, i ≤ 30 ∧ u = .int .i64 (i : Nat) ∧ (∀ g ∈ FORMS.take i, decide (g.word = w0) = false) ∧ Keep (fun _ => False) h8 h) (fun u _ => match u with | .int _ t => 30 - t.toNat | _ => 0) ⟨0, by omega, rfl, by simp, Keep.refl⟩ ?_
    rintro _ h ⟨i, hi, rfl, hno, kh⟩ kk hkk
    have el : binV .no .lss (.int .i64 (i : Nat)) (.int .i64 30) = some (.bool (decide (i < 30))) := by
      rw [binV_int]; simp only [intV]; congr 2; rw [decide_eq_decide]; omega
    rw [el, Mpu_some, Mcd_bool]
    have k0h := k08.trans kh
    have bh := (b5.keep k8 id).keep kh id
    by_cases hlt : i < 30
    · rw [if_pos (by simpa using hlt)]
      have hg : FORMS[i]? = some (FORMS[i]'(by rw [forms_len]; exact hlt)) := List.getElem?_eq_getElem _
      have hmem : FORMS[i]'(by rw [forms_len]; exact hlt) ∈ FORMS := List.getElem_mem _
      have htk : FORMS.take (i + 1) = FORMS.take i ++ [FORMS[i]'(by rw [forms_len]; exact hlt)] := by rw [List.take_add_one, hg]; rfl
      generalize (FORMS[i]'(by rw [forms_len]; exact hlt)) = f at *
      obtain ⟨b, o, hib, hpt, _⟩ := (hF.keep kh fun _ _ => id).at (i := i) (x := formC f) (by rw [List.getElem?_map, hg]; rfl)
      rw [hib .i64, Mpu_some, hpt.agg formC_len, Mpu_some]
      simp only [z_Form, Mnew_some]
      generalize hH11 : h.push (.cells (formC ⟨[], [], 0, 0, 0⟩).toArray T_script_form (0, 0)) = h11
      have k11 : Keep (fun _ => False) h h11 := by rw [← hH11]; exact Keep.push
      have a11 : At h11 h.size (formC ⟨[], [], 0, 0, 0⟩) := by rw [← hH11]; exact At.push
      obtain ⟨h12, st12, a12, k12⟩ := a11.st (n := 14) (ds := formC f) formC_len formC_len formC_one
      have gh := kh.1
      have k812 : Keep (fun _ => False) h8 h12 := (kh.trans k11).fresh k12 fun b hb => by omega
      have k512 := k8.trans k812
      have k012 := k05.trans k512
      have hv12 := hv.sl.keep k512 fun _ _ => id
      obtain ⟨b0, o0, hi0, hp0, _⟩ := hv12.at (strs_get hw0)
      have hi0 : ixS 1 v (.int .i64 0) = some (Ptr b0 o0) := hi0 .i64
      have dw : ld1 h12 (Ptr h.size 0) = some (str f.word) := a12.ld rfl
      have en : binV .no .neq (str f.word) (str w0) = some (.bool (!decide (f.word = w0))) := str_neq
      rw [st12, Mwr_some, fld_ptr, Mpu_some, Nat.add_zero, dw, Mpu_some, hi0, Mpu_some, hp0.cell0 rfl, Mpu_some, en, Mpu_some, Mcd_bool]
      cases hm : decide (f.word = w0)
      · rw [if_pos (show (!false) = true from rfl), add_one' (by omega), Mpu_some]
        refine hkk _ _ ⟨i + 1, by omega, rfl, fun g hg' => ?_, k812⟩ (by show 30 - (i + 1) < 30 - i; omega)
        rw [htk] at hg'
        rcases List.mem_append.1 hg' with hg' | hg'
        · exact hno g hg'
        · simp at hg'; subst hg'; exact hm
      · rw [if_neg (by decide), a12.ldN formC_len, Mpu_some]
        have hfo : formOf w0 = some f := find_atF hno hg hm
        have hps : parseL s = parseForm f ws := by rw [hpl, hfo]; rfl
        refine call_i (c_formParse (P := fun b => h2.size ≤ b ∧ b < h12.size) (hv := ?_) (fun b hb => hb.2) hwl (forms_parts f hmem) hcnt (hT.keep k012 fun _ h => h.elim)) ?_
        · obtain ⟨⟨ea, ec, e1, e2, e3⟩, e4, e5⟩ := hv12
          exact ⟨⟨ea, ec, e1, e2, e3.imp id fun ⟨b, o, e, hb, hp⟩ => ⟨b, o, e, ⟨hb, hp.lt⟩, hp⟩⟩, e4, e5⟩
        rintro _ h13 ⟨⟨u0, rfl, hout⟩, k13⟩
        obtain ⟨vd, vl, rfl, od, ol, ow⟩ := hout
        simp only [ex20, ex21, Mpu_some]
        generalize hH14 : h13.push (.cells (lineC zeroL nilS nilS).toArray T_script_Line (0, 0)) = h14
        have k14 : Keep (fun _ => False) h13 h14 := by rw [← hH14]; exact Keep.push
        have c14 : At h14 h13.size (lineC zeroL nilS nilS) := by rw [← hH14]; exact At.push
        obtain ⟨h15, st15, c15, k15⟩ := c14.st (n := 12) (ds := lineC ((parseForm f ws).getD zeroL) vd vl) (lineC_len zeroW_wf) (lineC_len ow) (lineC_one od.one ol.oneC)
        have g12 := k012.1
        have gg1 := k2.1
        have gg2 := k5.1
        have gg3 := k512.1
        have g13 := k13.1
        have g14 := k14.1
        have g15 := k15.1
        have k1215 : Keep (fun _ => False) h12 h15 := (k13.trans k14).fresh k15 fun b hb => by omega
        have k015 := k012.trans k1215
        have b15 := (b5.keep k512 id).keep k1215 id
        have od15 := (od.keep k14 fun _ _ => id).keep k15 fun b hb e => by omega
        have ol15 := (ol.keep k14 fun _ _ => id).keep k15 fun b hb e => by omega
        rw [st15, Mwr_some, Mcd_bool]
        cases hps2 : parseForm f ws with
        | none =>
          rw [if_neg (by simp)]
          exact hk _ _ ⟨by rw [hps, hps2], b15, k015⟩
        | some l2 =>
          rw [hps2] at c15 od15 ol15 ow
          rw [if_pos (by simp)]
          simp only [Option.getD_some] at c15 od15 ol15 ow
          rw [c15.ldN (lineC_len ow), Mpu_some]
          exact fin l2 vd vl h15 0 b15 k015 od15.one ol15.oneC ow (od15.mono fun b hb => ⟨by omega, by omega, by omega⟩) (ol15.mono fun b hb => ⟨by omega, by omega, by omega⟩) (by rw [hps, hps2]; rfl) (by rw [hps, hps2]; rfl)
    · rw [if_neg (by simpa using hlt)]
      obtain rfl : i = 30 := by omega
      refine hk _ _ ⟨?_, bh, k0h⟩
      rw [hpl]
      have : formOf w0 = none := by
        unfold formOf
        rw [List.find?_eq_none]
        intro g hg
        have := hno g (by rw [List.take_of_length_le (by rw [forms_len]; omega)]; exact hg)
        simpa using this
      rw [this]; rfl
  · rintro _ h ⟨hn, bh, kh⟩
    rw [b_Line0, Mpu_some]
    exact zero h bh kh hn
end Go.Proofs.YtconalffokhplaaGreatDoor

/- scripts: a part is shown. -/
namespace Go.Proofs.YtconalffokhplaaGreatDoor
open Go.X Go.X.Diff
set_option maxRecDepth 100000

def rng64 (n : Int) : Prop := -9223372036854775808 ≤ n ∧ n ≤ 9223372036854775807
/-- a line's value that came from anywhere -/
structure LineV (P : Nat → Prop) (H : Heap) (l : LineA) (vd vl : Value) : Prop where
  d : Sl P H vd l.data
  s : SlE 1 P H vl (ints l.lost)
  w : l.want.wf
  n : rng64 l.n
  a : rng64 l.at'
  o : ∀ x ∈ l.lost, rng64 x
  dl : l.data.length ≤ 1048576
  ll : l.lost.length ≤ 1048576
  nl : l.name.length ≤ 1048576
theorem LineV.keep {P S : Nat → Prop} {H H' : Heap} {l : LineA} {vd vl : Value} (h : LineV P H l vd vl) (k : Keep S H H') (hs : ∀ b, P b → ¬ S b) : LineV P H' l vd vl := ⟨h.d.keep k hs, h.s.keep k hs, h.w, h.n, h.a, h.o, h.dl, h.ll, h.nl⟩
def showP (p : UInt8) (l : LineA) : List UInt8 :=
  if p = 110 then intS l.n else if p = 97 then intS l.at' else if p = 115 then l.name else if p = 119 then wantS l.want else if p = 100 then digitsF l.data else joinF [44] (l.lost.map intS)
theorem intS_len {n : Int} (h : rng64 n) : (intS n).length ≤ 21 := by
  unfold intS
  split
  · have := decF_len_le (k := 20) (n := (-n).toNat) (by omega) (by unfold rng64 at h; omega)
    rw [List.length_cons]; omega
  · have := decF_len_le (k := 20) (n := n.toNat) (by omega) (by unfold rng64 at h; omega)
    omega
theorem line_get {l : LineA} {vd vl : Value} (h : l.want.wf) : (lineC l vd vl)[9]? = some vd ∧ (lineC l vd vl)[10]? = some vl ∧ (lineC l vd vl)[11]? = some (.int .i64 l.ask) := by
  rw [line_mid]
  refine ⟨?_, ?_, ?_⟩ <;> (rw [List.getElem?_append_right (by simp [wantC_len h])]; simp [wantC_len h])

set_option maxHeartbeats 1000000 in
theorem c_scShowP {P : Nat → Prop} {H : Heap} {l : LineA} {vd vl : Value} {p : UInt8} (hv : LineV P H l vd vl) (hT : VerT H) :
    HCalls prg f_script_Line_show [.agg (lineC l vd vl).toArray, .int .u8 (p.toNat : Nat)] H fun u H' => u = str (showP p l) ∧ Keep (fun _ => False) H H' := by
  apply sh_script_Line_show_calls
  unfold sh_script_Line_show
  simp only [Cells_agg, Mnew_some]
  generalize hH1 : H.push (.cells (lineC l vd vl).toArray T_script_Line (0, 0)) = H1
  have k1 : Keep (fun _ => False) H H1 := by rw [← hH1]; exact Keep.push
  have a1 : At H1 H.size (lineC l vd vl) := by rw [← hH1]; exact At.push
  have e1 : binV .no .eql (.int .u8 (p.toNat : Nat)) (.int .u8 110) = some (.bool (decide (p = 110))) := u8_eql (q := 110)
  have e2 : binV .no .eql (.int .u8 (p.toNat : Nat)) (.int .u8 97) = some (.bool (decide (p = 97))) := u8_eql (q := 97)
  have e3 : binV .no .eql (.int .u8 (p.toNat : Nat)) (.int .u8 115) = some (.bool (decide (p = 115))) := u8_eql (q := 115)
  have e4 : binV .no .eql (.int .u8 (p.toNat : Nat)) (.int .u8 119) = some (.bool (decide (p = 119))) := u8_eql (q := 119)
  have e5 : binV .no .eql (.int .u8 (p.toNat : Nat)) (.int .u8 100) = some (.bool (decide (p = 100))) := u8_eql (q := 100)
  have T1 := hT.keep k1 fun _ h => h.elim
  obtain ⟨g9, g10, g11⟩ := line_get (vd := vd) (vl := vl) hv.w
  have d1 : ld1 H1 (Ptr H.size 1) = some (.int .i64 l.n) := a1.ld rfl
  have d2 : ld1 H1 (Ptr H.size 2) = some (.int .i64 l.at') := a1.ld rfl
  have d3 : ld1 H1 (Ptr H.size 3) = some (str l.name) := a1.ld rfl
  have d9 : ld1 H1 (Ptr H.size 9) = some vd := a1.ld g9
  have d10 : ld1 H1 (Ptr H.size 10) = some vl := a1.ld g10
  have d4 : ldN 5 H1 (Ptr H.size 4) = some (.agg (wantC l.want).toArray) := by
    obtain ⟨T, a⟩ := a1
    exact ldN_mid (A := [.int .i64 l.kind, .int .i64 l.n, .int .i64 l.at', str l.name]) (B := wantC l.want) (C := [vd, vl, .int .i64 l.ask]) (by rw [← line_mid]; exact a) rfl (wantC_len hv.w).symm
  unfold showP
  simp only [fld_ptr, Nat.zero_add, Nat.add_zero, Mpu_some]
  rw [e1, Mpu_some, Mcd_bool]
  by_cases p1 : p = 110
  · rw [if_pos (by simpa using p1), if_pos p1, d1, Mpu_some]
    refine call_i (c_ItoaN hv.n.1 hv.n.2 T1.pow) ?_
    rintro _ h2 ⟨rfl, k2⟩
    exact ⟨rfl, k1.trans k2⟩
  rw [if_neg (by simpa using p1), if_neg p1, e2, Mpu_some, Mcd_bool]
  by_cases p2 : p = 97
  · rw [if_pos (by simpa using p2), if_pos p2, d2, Mpu_some]
    refine call_i (c_ItoaN hv.a.1 hv.a.2 T1.pow) ?_
    rintro _ h2 ⟨rfl, k2⟩
    exact ⟨rfl, k1.trans k2⟩
  rw [if_neg (by simpa using p2), if_neg p2, e3, Mpu_some, Mcd_bool]
  by_cases p3 : p = 115
  · rw [if_pos (by simpa using p3), if_pos p3, d3, Mpu_some]
    exact ⟨rfl, k1⟩
  rw [if_neg (by simpa using p3), if_neg p3, e4, Mpu_some, Mcd_bool]
  by_cases p4 : p = 119
  · rw [if_pos (by simpa using p4), if_pos p4, d4, Mpu_some]
    refine call_i (c_WantShow hv.w T1.ops T1.pow) ?_
    rintro _ h2 ⟨rfl, k2⟩
    exact ⟨rfl, k1.trans k2⟩
  rw [if_neg (by simpa using p4), if_neg p4, e5, Mpu_some, Mcd_bool]
  by_cases p5 : p = 100
  · rw [if_pos (by simpa using p5), if_pos p5, d9, Mpu_some]
    refine call_i (c_scDigits (hv.d.keep k1 fun _ _ => id) (by have := hv.dl; omega)) ?_
    rintro _ h2 ⟨rfl, k2⟩
    exact ⟨rfl, k1.trans k2⟩
  rw [if_neg (by simpa using p5), if_neg p5]
  have hb1 : ∀ a : List UInt8, bslV prg T_string 1 [(0, str a)] = some #[str a] := fun a => bslS
  have hl1 := hv.s.keep k1 fun _ _ => id
  have hlen := hl1.len
  rw [rows1_len, List.length_map] at hlen
  have hll := hv.ll
  refine J2_i (fun u _ h => BufE 1 (H1.size ≤ ·) h u (strs (l.lost.map intS)) ∧ Keep (fun _ => False) H1 h) (fun k hk => ?_) ?_
  · rw [d10, Mpu_some, hlen, Mpu_some]
    refine L2_i (fun u t h => ∃ i : Nat, i ≤ l.lost.length ∧ t = .int .i64 (i : Nat) ∧ BufE 1 (H1.size ≤ ·) h u (strs ((l.lost.take i).map intS)) ∧ Keep (fun _ => False) H1 h) (fun _ u _ => match u with | .int _ t => l.lost.length - t.toNat | _ => 0) ⟨0, Nat.zero_le _, rfl, BufE.nil, Keep.refl⟩ ?_
    rintro u _ h ⟨i, hi, rfl, hb, kh⟩ kk hkk
    have el : binV .no .lss (.int .i64 (i : Nat)) (.int .i64 (l.lost.length : Nat)) = some (.bool (decide (i < l.lost.length))) := by
      rw [binV_int]; simp only [intV]; congr 2; rw [decide_eq_decide]; omega
    rw [el, Mpu_some, Mcd_bool]
    by_cases hlt : i < l.lost.length
    · rw [if_pos (by simpa using hlt)]
      have hg : l.lost[i]? = some l.lost[i] := List.getElem?_eq_getElem hlt
      have hr := hv.o _ (List.getElem_mem hlt)
      have htk : l.lost.take (i + 1) = l.lost.take i ++ [l.lost[i]] := by rw [List.take_add_one, hg]; rfl
      generalize l.lost[i] = n at *
      obtain ⟨b, o, hix, hpt, _⟩ := (hl1.keep kh fun _ _ => id).at (i := i) (x := [.int .i64 n]) (rows1_get (by rw [List.getElem?_map, hg]; rfl))
      rw [hix .i64, Mpu_some, hpt.cell0 rfl, Mpu_some]
      refine call_i (c_ItoaN hr.1 hr.2 (hT.pow.keep (k1.trans kh) fun _ h => h.elim)) ?_
      rintro _ h3 ⟨rfl, k3⟩
      rw [hb1, Mnews_some]
      generalize hH8 : h3.push (.cells #[str (intS n)] T_string (0, 0)) = h8
      have k8 : Keep (fun _ => False) h3 h8 := by rw [← hH8]; exact Keep.push
      have s8 : h8.size = h3.size + 1 := by rw [← hH8]; simp
      have hx8 : SlE 1 (· = h3.size) h8 (.slice (some ⟨h3.size, 0, none⟩) 1 1) (strs [intS n]) :=
        ⟨⟨_, 1, rfl, Nat.le_refl _, .inr ⟨h3.size, 0, rfl, rfl, by rw [rows1_flat, ← hH8]; exact Pt.of push_new⟩⟩, rows1_el, rows1_one fun v hv => by simp at hv; subst hv; rfl⟩
      have g1 := kh.1
      have g3 := k3.1
      refine ((hb.keep k3 fun _ _ => id).keep k8 fun _ _ => id).app hx8 (by omega) (by simp; omega) (by show H1.size ≤ h8.size; omega) fun u2 h9 hu2 k9 => ?_
      rw [add_one' (by omega), Mpu_some]
      refine hkk _ _ _ ⟨i + 1, by omega, rfl, ?_, (kh.trans (k3.trans k8)).fresh k9 fun b hb => hb⟩ (by show l.lost.length - (i + 1) < l.lost.length - i; omega)
      have : strs ((l.lost.take (i + 1)).map intS) = strs ((l.lost.take i).map intS) ++ strs [intS n] := by rw [htk]; simp [rows1]
      rw [this]; exact hu2
    · rw [if_neg (by simpa using hlt)]
      rw [List.take_of_length_le (by omega)] at hb
      exact hk _ _ _ ⟨hb, kh⟩
  · rintro u _ h ⟨hb, kh⟩
    have s44 : (Value.string ⟨#[44]⟩) = str [44] := rfl
    have htot := flat_le (f := intS) (n := 21) (l := l.lost) fun x hx => intS_len (hv.o x hx)
    rw [s44]
    have hm : (l.lost.length : Nat) * 21 ≤ 1048576 * 21 := Nat.mul_le_mul_right _ hll
    refine call_i (c_Join (P := fun b => H1.size ≤ b ∧ b < h.size) (sep := [44]) (l := l.lost.map intS) ?_ (fun b hb => hb.2) (by simp; omega) (by simp) (by unfold total; omega)) ?_
    · obtain ⟨⟨ea, ec, e1, e2, e3⟩, e4, e5⟩ := hb.sl
      exact ⟨⟨ea, ec, e1, e2, e3.imp id fun ⟨b, o, e, hb, hp⟩ => ⟨b, o, e, ⟨hb, hp.lt⟩, hp⟩⟩, e4, e5⟩
    rintro _ h2 ⟨rfl, k2⟩
    exact ⟨rfl, k1.trans (kh.trans k2)⟩
end Go.Proofs.YtconalffokhplaaGreatDoor

/- scripts: the words of a line by a form. -/
namespace Go.Proofs.YtconalffokhplaaGreatDoor
open Go.X Go.X.Diff
set_option maxRecDepth 100000

def wordP (l : LineA) (p : UInt8) : Option (List UInt8) := if showP p l ≠ [] ∨ p ≠ 108 then some (showP p l) else none
def wordsF (f : FormA) (l : LineA) : List (List UInt8) := f.word :: f.parts.filterMap (wordP l)

set_option maxHeartbeats 1000000 in
theorem c_scWords {P : Nat → Prop} {H : Heap} {f : FormA} {l : LineA} {vd vl : Value} (hv : LineV P H l vd vl) (hf : f.parts.length ≤ 100) (hT : VerT H) :
    HCalls prg f_script_form_words [.agg (formC f).toArray, .agg (lineC l vd vl).toArray] H fun u H' => BufE 1 (H.size ≤ ·) H' u (strs (wordsF f l)) ∧ Keep (fun _ => False) H H' := by
  apply sh_script_form_words_calls
  unfold sh_script_form_words
  simp only [Cells_agg, Mnew_some]
  generalize hH1 : H.push (.cells (formC f).toArray T_script_form (0, 0)) = H1
  have k1 : Keep (fun _ => False) H H1 := by rw [← hH1]; exact Keep.push
  have a1 : At H1 H.size (formC f) := by rw [← hH1]; exact At.push
  have s1 : H1.size = H.size + 1 := by rw [← hH1]; simp
  generalize hH2 : H1.push (.cells (lineC l vd vl).toArray T_script_Line (0, 0)) = H2
  have k2 : Keep (fun _ => False) H1 H2 := by rw [← hH2]; exact Keep.push
  have b2 : At H2 H1.size (lineC l vd vl) := by rw [← hH2]; exact At.push
  have s2 : H2.size = H1.size + 1 := by rw [← hH2]; simp
  have a2 := a1.keep k2 id
  have dw : ld1 H2 (Ptr H.size 0) = some (str f.word) := a2.ld rfl
  have hb1 : ∀ a : List UInt8, bslV prg T_string 1 [(0, str a)] = some #[str a] := fun a => bslS
  simp only [fld_ptr, Nat.zero_add, Nat.add_zero, Mpu_some]
  rw [dw, Mpu_some, hb1, Mnews_some]
  generalize hH3 : H2.push (.cells #[str f.word] T_string (0, 0)) = H3
  have k3 : Keep (fun _ => False) H2 H3 := by rw [← hH3]; exact Keep.push
  have n3 : H3[H2.size]? = some (.cells [str f.word].toArray T_string (0, 0)) := by rw [← hH3]; exact push_new
  have s3 : H3.size = H2.size + 1 := by rw [← hH3]; simp
  have k03 := k1.trans (k2.trans k3)
  have hbuf : BufE 1 (H.size ≤ ·) H3 (.slice (some ⟨H2.size, 0, none⟩) 1 1) (strs [f.word]) :=
    BufE.fresh (cs := [str f.word]) ⟨H2.size, rfl, by omega, n3⟩ (Nat.le_refl _) (by simp) (fun _ _ => by simp [thaw]) (by simp [rows1]) rows1_el (rows1_one fun v hv => by simp at hv; subst hv; rfl)
  have a3 := a2.keep k3 id
  have b3 := b2.keep k3 id
  have dp : ld1 H3 (Ptr H.size 1) = some (str f.parts) := a3.ld rfl
  refine J2_i (fun u _ h => BufE 1 (H.size ≤ ·) h u (strs (wordsF f l)) ∧ Keep (fun _ => False) H h) (fun k hk => ?_) fun u _ h hR => hR
  rw [dp, Mpu_some]
  refine s2b_i (by omega) fun vp h6 hvp k6 => ?_
  rw [hvp.len, Mpu_some]
  have b6 := b3.keep k6 id
  have k06 := k03.trans k6
  refine L2_i (fun u t h => ∃ i : Nat, i ≤ f.parts.length ∧ t = .int .i64 (i : Nat) ∧ BufE 1 (fun b => H.size ≤ b ∧ (b = H2.size ∨ h6.size ≤ b)) h u (strs (f.word :: (f.parts.take i).filterMap (wordP l))) ∧ Keep (fun b => b = H2.size ∨ h6.size ≤ b) h6 h) (fun _ u _ => match u with | .int _ t => f.parts.length - t.toNat | _ => 0) ⟨0, Nat.zero_le _, rfl, ?_, Keep.refl⟩ ?_
  · have hfr : BufE 1 (fun b => H.size ≤ b ∧ (b = H2.size ∨ h6.size ≤ b)) H3 (.slice (some ⟨H2.size, 0, none⟩) 1 1) (strs [f.word]) :=
      BufE.fresh (cs := [str f.word]) ⟨H2.size, rfl, ⟨by omega, .inl rfl⟩, n3⟩ (Nat.le_refl _) (by simp) (fun _ _ => by simp [thaw]) (by simp [rows1]) rows1_el (rows1_one fun v hv => by simp at hv; subst hv; rfl)
    exact hfr.keep k6 fun _ _ => id
  rintro u _ h ⟨i, hi, rfl, hb, kh⟩ kk hkk
  have el : binV .no .lss (.int .i64 (i : Nat)) (.int .i64 (f.parts.length : Nat)) = some (.bool (decide (i < f.parts.length))) := by
    rw [binV_int]; simp only [intV]; congr 2; rw [decide_eq_decide]; omega
  rw [el, Mpu_some, Mcd_bool]
  have g6 := k6.1
  have k0h : Keep (fun _ => False) H h := k06.fresh kh fun b hb => by omega
  by_cases hlt : i < f.parts.length
  · rw [if_pos (by simpa using hlt)]
    have hg : f.parts[i]? = some f.parts[i] := List.getElem?_eq_getElem hlt
    have hb6 : H3.size < h6.size := by
      rcases hvp.cases with ⟨_, _, _, e, _⟩ | ⟨b, o, c, cs, T, ff, e, hb', _, hbb, _⟩
      · rw [e] at hlt; simp at hlt
      · have h1 := lt_of hbb
        have h2 : b = H3.size := hb'
        omega
    obtain ⟨pp, hix, hld, _⟩ := (hvp.keep kh fun b hb hS => by
      have h1 : b = H3.size := hb
      have h2 : b = H2.size ∨ h6.size ≤ b := hS
      omega).at hg
    have htk : (f.parts.take (i + 1)).filterMap (wordP l) = (f.parts.take i).filterMap (wordP l) ++ (wordP l f.parts[i]).toList := by
      rw [List.take_add_one, hg, List.filterMap_append]
      congr 1
    generalize f.parts[i] = p at *
    have bh : At h H1.size (lineC l vd vl) := b6.keep kh (by omega)
    have gh := kh.1
    refine J2_i (fun u _ h' => BufE 1 (fun b => H.size ≤ b ∧ (b = H2.size ∨ h6.size ≤ b)) h' u (strs (f.word :: (f.parts.take (i + 1)).filterMap (wordP l))) ∧ Keep (fun b => b = H2.size ∨ h6.size ≤ b) h6 h') (fun k9 hk9 => ?_) ?_
    · rw [hix, Mpu_some, hld, Mpu_some, bh.ldN (lineC_len hv.w), Mpu_some]
      refine call_i (c_scShowP (hv.keep k0h fun _ _ => id) (hT.keep k0h fun _ h => h.elim)) ?_
      rintro _ h11 ⟨rfl, k11⟩
      have k611 : Keep (fun b => b = H2.size ∨ h6.size ≤ b) h6 h11 := kh.trans (k11.mono fun _ _ h => h.elim)
      have hb11 := hb.keep k11 fun _ _ => id
      have g11 := k11.1
      have s0 : (Value.string ⟨#[]⟩) = str [] := rfl
      have en : binV .no .neq (str (showP p l)) (str []) = some (.bool (!decide (showP p l = []))) := str_neq
      have en8 : binV .no .neq (.int .u8 (p.toNat : Nat)) (.int .u8 108) = some (.bool (!decide (p = 108))) := by
        have := u8_eql (p := p) (q := 108)
        rw [binV_int] at this ⊢
        simp only [intV, Option.some.injEq, Value.bool.injEq] at this ⊢
        rw [← this]; rfl
      have yes : ∀ x, wordP l p = some (showP p l) → Mnews h11 T_string 1 (bslV prg T_string 1 [(0, str (showP p l))]) fun t31 h14 => Mapp T_string 1 16 h14 u t31 fun t32 h15 => k9 t32 x h15 := by
        intro x hw
        rw [hb1, Mnews_some]
        generalize hH8 : h11.push (.cells #[str (showP p l)] T_string (0, 0)) = h8
        have k8 : Keep (fun _ => False) h11 h8 := by rw [← hH8]; exact Keep.push
        have s8 : h8.size = h11.size + 1 := by rw [← hH8]; simp
        have hx8 : SlE 1 (· = h11.size) h8 (.slice (some ⟨h11.size, 0, none⟩) 1 1) (strs [showP p l]) :=
          ⟨⟨_, 1, rfl, Nat.le_refl _, .inr ⟨h11.size, 0, rfl, rfl, by rw [rows1_flat, ← hH8]; exact Pt.of push_new⟩⟩, rows1_el, rows1_one fun v hv => by simp at hv; subst hv; rfl⟩
        have hfl := List.length_filterMap_le (wordP l) (f.parts.take i)
        have hfl2 : (f.parts.take i).length ≤ 100 := by rw [List.length_take]; omega
        refine (hb11.keep k8 fun _ _ => id).app hx8 (by omega) (by simp only [strs_len, List.length_cons, List.length_nil]; omega) (⟨by omega, .inr (by omega)⟩) fun u2 h9 hu2 k9' => ?_
        refine hk9 _ _ _ ⟨?_, (k611.trans (k8.mono fun _ _ h => h.elim)).trans (k9'.mono fun b _ hb => hb.2)⟩
        have : strs (f.word :: (f.parts.take (i + 1)).filterMap (wordP l)) = strs (f.word :: (f.parts.take i).filterMap (wordP l)) ++ strs [showP p l] := by
          rw [htk, hw]; simp [rows1]
        rw [this]; exact hu2
      rw [s0, en, Mpu_some]
      cases h0 : decide (showP p l = [])
      · simp only [J1_eq, Mif_bool, Bool.not_false, Bool.true_eq_false, if_false, pickV_bool, if_true, Mpu_some, Mcd_bool]
        exact yes _ (by unfold wordP; rw [if_pos (.inl (of_decide_eq_false h0))])
      · cases h8 : decide (p = 108)
        · simp only [J1_eq, Mif_bool, Bool.not_true, if_true, en8, h8, Bool.not_false, pickV_bool, Bool.false_eq_true, if_false, Mpu_some, Mcd_bool]
          exact yes _ (by unfold wordP; rw [if_pos (.inr (of_decide_eq_false h8))])
        · simp only [J1_eq, Mif_bool, Bool.not_true, if_true, en8, h8, pickV_bool, Bool.false_eq_true, if_false, Mpu_some, Mcd_bool]
          have hw : wordP l p = none := by
            unfold wordP
            rw [if_neg]
            rintro (h | h)
            · exact h (of_decide_eq_true h0)
            · exact h (of_decide_eq_true h8)
          refine hk9 _ _ _ ⟨?_, k611⟩
          rw [htk, hw]
          simpa using hb11
    · rintro u2 _ h10 ⟨hb10, k10⟩
      rw [add_one' (by omega), Mpu_some]
      exact hkk _ _ _ ⟨i + 1, by omega, rfl, hb10, k10⟩ (by show f.parts.length - (i + 1) < f.parts.length - i; omega)
  · rw [if_neg (by simpa using hlt)]
    rw [List.take_of_length_le (by omega)] at hb
    exact hk _ _ _ ⟨hb.mono fun b hb => hb.1, k0h⟩
end Go.Proofs.YtconalffokhplaaGreatDoor

/- scripts: are two lines one? -/
namespace Go.Proofs.YtconalffokhplaaGreatDoor
open Go.X Go.X.Diff
set_option maxRecDepth 100000

theorem c_EqIntsG {P Q : Nat → Prop} {H : Heap} {a b : Value} {xs ys : List Int} (ha : SlE 1 P H a (ints xs)) (hb : SlE 1 Q H b (ints ys)) (hl : ys.length ≤ 1099511627776) :
    HCalls prg f_slices_Equal_S_int_int [a, b] H fun u H' => u = .bool (decide (xs = ys)) ∧ Keep (fun _ => False) H H' := by
  apply sh_slices_Equal_S_int_int_calls
  unfold sh_slices_Equal_S_int_int
  have la := ha.len
  have lb := hb.len
  rw [rows1_len, List.length_map] at la lb
  have en : binV .no .neq (.int .i64 (xs.length : Nat)) (.int .i64 (ys.length : Nat)) = some (.bool (!decide (xs.length = ys.length))) := by
    rw [binV_int]; simp only [intV]; congr 2; rw [Bool.eq_iff_iff]; simp <;> omega
  rw [la, Mpu_some, lb, Mpu_some, en, Mpu_some, Mcd_bool]
  by_cases hne : xs.length = ys.length
  rotate_left
  · rw [if_pos (by simp [hne])]
    exact ⟨by rw [decide_eq_false (fun e => hne (by rw [e]))], Keep.refl⟩
  rw [if_neg (by simp [hne])]
  refine J1_i (fun _ h => xs = ys ∧ H = h) (fun k hk => ?_) ?_
  · rw [Mpu_some]
    refine L1_i (fun u h => ∃ i : Nat, i ≤ xs.length ∧ u = .int .i64 (i : Nat) ∧ xs.take i = ys.take i ∧ H = h) (fun u _ => match u with | .int _ t => xs.length - t.toNat | _ => 0) ⟨0, Nat.zero_le _, rfl, by simp, rfl⟩ ?_
    rintro _ _ ⟨i, hi, rfl, heq, rfl⟩ kk hkk
    have el : binV .no .lss (.int .i64 (i : Nat)) (.int .i64 (xs.length : Nat)) = some (.bool (decide (i < xs.length))) := by
      rw [binV_int]; simp only [intV]; congr 2; rw [decide_eq_decide]; omega
    rw [el, Mpu_some, Mcd_bool]
    by_cases hlt : i < xs.length
    · rw [if_pos (by simpa using hlt)]
      have hgx : xs[i]? = some xs[i] := List.getElem?_eq_getElem hlt
      have hgy : ys[i]? = some (ys[i]'(by omega)) := List.getElem?_eq_getElem (by omega)
      obtain ⟨b1, o1, i1, p1, _⟩ := ha.at (i := i) (x := [.int .i64 xs[i]]) (rows1_get (by rw [List.getElem?_map, hgx]; rfl))
      obtain ⟨b2, o2, i2, p2, _⟩ := hb.at (i := i) (x := [.int .i64 (ys[i]'(by omega))]) (rows1_get (by rw [List.getElem?_map, hgy]; rfl))
      have htx : xs.take (i + 1) = xs.take i ++ [xs[i]] := by rw [List.take_add_one, hgx]; rfl
      have hty : ys.take (i + 1) = ys.take i ++ [ys[i]'(by omega)] := by rw [List.take_add_one, hgy]; rfl
      generalize xs[i] = x at *
      generalize (ys[i]'(by omega)) = y at *
      have ex : binV .no .neq (.int .i64 x) (.int .i64 y) = some (.bool (!decide (x = y))) := by
        rw [binV_int]; simp only [intV]; congr 2
      rw [i1 .i64, Mpu_some, p1.cell0 rfl, Mpu_some, i2 .i64, Mpu_some, p2.cell0 rfl, Mpu_some, ex, Mpu_some, Mcd_bool]
      by_cases hxy : x = y
      · rw [if_neg (by simp [hxy]), add_one' (by omega), Mpu_some]
        exact hkk _ _ ⟨i + 1, by omega, rfl, by rw [htx, hty, heq, hxy], rfl⟩ (by show xs.length - (i + 1) < xs.length - i; omega)
      · rw [if_pos (by simp [hxy])]
        refine ⟨?_, Keep.refl⟩
        rw [decide_eq_false]
        rintro rfl
        rw [hgx] at hgy
        exact hxy (Option.some.inj hgy)
    · rw [if_neg (by simpa using hlt)]
      rw [List.take_of_length_le (by omega), List.take_of_length_le (by omega)] at heq
      exact hk _ _ ⟨heq, rfl⟩
  · rintro _ _ ⟨h, rfl⟩
    exact ⟨by rw [decide_eq_true h], Keep.refl⟩

/-- what equal asks of a line's value -/
structure LineW (P : Nat → Prop) (H : Heap) (l : LineA) (vd vl : Value) : Prop where
  d : Sl P H vd l.data
  s : SlE 1 P H vl (ints l.lost)
  w : l.want.wf
theorem LineV.toW {P : Nat → Prop} {H : Heap} {l : LineA} {vd vl : Value} (h : LineV P H l vd vl) : LineW P H l vd vl := ⟨h.d, h.s, h.w⟩
def eqL (a b : LineA) : Bool := decide (a.ask = b.ask) && decide (a.kind = b.kind) && decide (a.n = b.n) && decide (a.at' = b.at') && decide (a.name = b.name) && decide (a.want = b.want) && decide (a.data = b.data) && decide (a.lost = b.lost)
theorem z_Step : zcells prg T_world_Step = some ((lineC zeroL nilS nilS).take 11).toArray := by kernel_rfl
theorem eq_int {x y : Int} : binV .no .eql (.int .i64 x) (.int .i64 y) = some (.bool (decide (x = y))) := by
  rw [binV_int]; simp only [intV]; congr 2
theorem step_len {l : LineA} {vd vl : Value} (h : l.want.wf) : ((lineC l vd vl).take 11).length = 11 := by rw [List.length_take, lineC_len h]; rfl
theorem step_ld {h : Heap} {q : Nat} {l : LineA} {vd vl : Value} (a : At h q (lineC l vd vl)) (hw : l.want.wf) : ldN 11 h (Ptr q 0) = some (.agg ((lineC l vd vl).take 11).toArray) := by
  have := (a.pt.sub (i := 0) (n := 11) (by rw [lineC_len hw]; omega)).agg (by rw [List.drop_zero, step_len hw])
  simpa using this
theorem step_get {l : LineA} {vd vl : Value} (h : l.want.wf) : ((lineC l vd vl).take 11)[9]? = some vd ∧ ((lineC l vd vl).take 11)[10]? = some vl := by
  obtain ⟨g9, g10, _⟩ := line_get (vd := vd) (vl := vl) h
  exact ⟨by rw [List.getElem?_take_of_lt (by omega), g9], by rw [List.getElem?_take_of_lt (by omega), g10]⟩
theorem step_one {l : LineA} {vd vl : Value} (h1 : vd.oneCell' = true) (h2 : vl.oneCell' = true) : ∀ c ∈ (lineC l vd vl).take 11, c.oneCell' = true := fun c hc => lineC_one h1 h2 c (List.mem_of_mem_take hc)
theorem step_want {h : Heap} {q : Nat} {l : LineA} {vd vl : Value} (a : At h q ((lineC l vd vl).take 11)) (hw : l.want.wf) : ldN 5 h (Ptr q 4) = some (.agg (wantC l.want).toArray) := by
  obtain ⟨T, a⟩ := a
  have e : (lineC l vd vl).take 11 = [.int .i64 l.kind, .int .i64 l.n, .int .i64 l.at', str l.name] ++ wantC l.want ++ [vd, vl] := by
    rw [line_mid, List.take_append, List.take_of_length_le (by simp [wantC_len hw])]
    simp [wantC_len hw]
  rw [e] at a
  exact ldN_mid (A := [.int .i64 l.kind, .int .i64 l.n, .int .i64 l.at', str l.name]) (B := wantC l.want) (C := [vd, vl]) a rfl (wantC_len hw).symm
end Go.Proofs.YtconalffokhplaaGreatDoor

/- scripts: equal. -/
namespace Go.Proofs.YtconalffokhplaaGreatDoor
open Go.X Go.X.Diff
set_option maxRecDepth 100000

set_option maxHeartbeats 4000000 in
theorem c_scEqual {P Q : Nat → Prop} {H : Heap} {x y : LineA} {vd vl wd wl : Value} (hx : LineW P H x vd vl) (hy : LineW Q H y wd wl) (hl : y.lost.length ≤ 1048576) :
    HCalls prg f_script_Line_equal [.agg (lineC x vd vl).toArray, .agg (lineC y wd wl).toArray] H fun u H' => u = .bool (eqL x y) ∧ Keep (fun _ => False) H H' := by
  apply sh_script_Line_equal_calls
  unfold sh_script_Line_equal
  simp only [Cells_agg, Mnew_some]
  generalize hH1 : H.push (.cells (lineC x vd vl).toArray T_script_Line (0, 0)) = H1
  have k1 : Keep (fun _ => False) H H1 := by rw [← hH1]; exact Keep.push
  have a1 : At H1 H.size (lineC x vd vl) := by rw [← hH1]; exact At.push
  have s1 : H1.size = H.size + 1 := by rw [← hH1]; simp
  generalize hH2 : H1.push (.cells (lineC y wd wl).toArray T_script_Line (0, 0)) = H2
  have k2 : Keep (fun _ => False) H1 H2 := by rw [← hH2]; exact Keep.push
  have b2 : At H2 H1.size (lineC y wd wl) := by rw [← hH2]; exact At.push
  have s2 : H2.size = H1.size + 1 := by rw [← hH2]; simp
  have a2 := a1.keep k2 id
  have k02 := k1.trans k2
  have zl : ((lineC zeroL nilS nilS).take 11).length = 11 := rfl
  have ox := step_one (l := x) hx.d.one hx.s.oneC
  have oy := step_one (l := y) hy.d.one hy.s.oneC
  have lx := step_len (vd := vd) (vl := vl) hx.w
  have ly := step_len (vd := wd) (vl := wl) hy.w
  refine J2_i (fun t5 t6 h => ∃ p q, t5 = Ptr p 0 ∧ t6 = Ptr q 0 ∧ At h p ((lineC x vd vl).take 11) ∧ At h q ((lineC y wd wl).take 11) ∧ Keep (fun _ => False) H2 h) (fun k hk => ?_) ?_
  · simp only [fld_ptr, Nat.add_zero, Mpu_some]
    rw [step_ld a2 hx.w, Mpu_some, step_ld b2 hy.w, Mpu_some]
    simp only [z_Step, Mnew_some]
    generalize hH4 : H2.push (.cells ((lineC zeroL nilS nilS).take 11).toArray T_world_Step (0, 0)) = h4
    have k4 : Keep (fun _ => False) H2 h4 := by rw [← hH4]; exact Keep.push
    have p4 : At h4 H2.size ((lineC zeroL nilS nilS).take 11) := by rw [← hH4]; exact At.push
    have s4 : h4.size = H2.size + 1 := by rw [← hH4]; simp
    generalize hH5 : h4.push (.cells ((lineC zeroL nilS nilS).take 11).toArray T_world_Step (0, 0)) = h5
    have k5 : Keep (fun _ => False) h4 h5 := by rw [← hH5]; exact Keep.push
    have q5 : At h5 h4.size ((lineC zeroL nilS nilS).take 11) := by rw [← hH5]; exact At.push
    have s5 : h5.size = h4.size + 1 := by rw [← hH5]; simp
    have p5 := p4.keep k5 id
    have k45 := k4.trans k5
    have A4 := step_ld (a2.keep k4 id) hx.w
    have B4 := step_ld (b2.keep k4 id) hy.w
    have A5 := step_ld (a2.keep k45 id) hx.w
    have B5 := step_ld (b2.keep k45 id) hy.w
    refine ⟨⟨B4, A4, ⟨B5, A5, ?_⟩⟩, ⟨B4, A4, ⟨B5, A5, ?_⟩⟩⟩
    · obtain ⟨h6, st6, p6, k6⟩ := p5.st (n := 11) (ds := (lineC x vd vl).take 11) zl lx ox
      have B6 := step_ld ((b2.keep k45 id).keep k6 (by omega)) hy.w
      have q6 := q5.keep k6 (by omega)
      obtain ⟨h7, st7, q7, k7⟩ := q6.st (n := 11) (ds := (lineC y wd wl).take 11) zl ly oy
      rw [Mre_nil, st6, Mwr_some]
      refine ⟨B6, ?_⟩
      rw [Mre_nil, st7, Mwr_some]
      exact hk _ _ _ ⟨H2.size, h4.size, rfl, rfl, p6.keep k7 (by omega), q7, (k45.fresh k6 fun b hb => by omega).fresh k7 fun b hb => by omega⟩
    · obtain ⟨h6, st6, q6, k6⟩ := q5.st (n := 11) (ds := (lineC x vd vl).take 11) zl lx ox
      have B6 := step_ld ((b2.keep k45 id).keep k6 (by omega)) hy.w
      have p6 := p5.keep k6 (by omega)
      obtain ⟨h7, st7, p7, k7⟩ := p6.st (n := 11) (ds := (lineC y wd wl).take 11) zl ly oy
      rw [Mre_nil, st6, Mwr_some]
      refine ⟨B6, ?_⟩
      rw [Mre_nil, st7, Mwr_some]
      exact hk _ _ _ ⟨h4.size, H2.size, rfl, rfl, q6.keep k7 (by omega), p7, (k45.fresh k6 fun b hb => by omega).fresh k7 fun b hb => by omega⟩
  rintro _ _ h ⟨p, q, rfl, rfl, ap, aq, kh⟩
  have k0h := k02.trans kh
  have ah := a2.keep kh id
  have bh := b2.keep kh id
  have xa : ld1 h (Ptr H.size 11) = some (.int .i64 x.ask) := ah.ld (line_get hx.w).2.2
  have ya : ld1 h (Ptr H1.size 11) = some (.int .i64 y.ask) := bh.ld (line_get hy.w).2.2
  have x0 : ld1 h (Ptr p 0) = some (.int .i64 x.kind) := ap.ld rfl
  have x1 : ld1 h (Ptr p 1) = some (.int .i64 x.n) := ap.ld rfl
  have x2 : ld1 h (Ptr p 2) = some (.int .i64 x.at') := ap.ld rfl
  have x3 : ld1 h (Ptr p 3) = some (str x.name) := ap.ld rfl
  have y0 : ld1 h (Ptr q 0) = some (.int .i64 y.kind) := aq.ld rfl
  have y1 : ld1 h (Ptr q 1) = some (.int .i64 y.n) := aq.ld rfl
  have y2 : ld1 h (Ptr q 2) = some (.int .i64 y.at') := aq.ld rfl
  have y3 : ld1 h (Ptr q 3) = some (str y.name) := aq.ld rfl
  have x4 := step_want ap hx.w
  have y4 := step_want aq hy.w
  have x9 : ld1 h (Ptr p 9) = some vd := ap.ld (step_get hx.w).1
  have x10 : ld1 h (Ptr p 10) = some vl := ap.ld (step_get hx.w).2
  have y9 : ld1 h (Ptr q 9) = some wd := aq.ld (step_get hy.w).1
  have y10 : ld1 h (Ptr q 10) = some wl := aq.ld (step_get hy.w).2
  have bx : b2s h vd = some (str x.data) := (hx.d.keep k0h fun _ _ => id).b2s
  have by' : b2s h wd = some (str y.data) := (hy.d.keep k0h fun _ _ => id).b2s
  have en : ∀ z, binV z .eql (str x.name) (str y.name) = some (.bool (decide (x.name = y.name))) := fun z => str_eql
  have ed : ∀ z, binV z .eql (str x.data) (str y.data) = some (.bool (decide (x.data = y.data))) := fun z => str_eql
  have ew := eqWant hx.w hy.w
  unfold eqL
  cases c1 : decide (x.ask = y.ask)
  · simp only [fld_ptr, Nat.zero_add, xa, ya, eq_int, c1, unV_not, Bool.not_true, Bool.not_false, Mif_bool, Mif_undef, pickV_bool, Mcd_bool, Mpu_some, if_true, if_false, Bool.false_eq_true, Bool.true_eq_false, decide_true, decide_false, reduceCtorEq, J1_eq, ex20, ex21, ex30, ex31, ex32, Mre_ok, Mre_nil, Bool.false_and]
    exact ⟨by trivial, k0h⟩
  cases c2 : decide (x.kind = y.kind)
  · simp only [fld_ptr, Nat.zero_add, Nat.add_zero, xa, ya, x0, y0, eq_int, c1, c2, unV_not, Bool.not_true, Bool.not_false, Mif_bool, Mif_undef, pickV_bool, Mcd_bool, Mpu_some, if_true, if_false, Bool.false_eq_true, Bool.true_eq_false, decide_true, decide_false, reduceCtorEq, J1_eq, ex20, ex21, ex30, ex31, ex32, Mre_ok, Mre_nil, Bool.false_and, Bool.and_false]
    exact ⟨by trivial, k0h⟩
  cases c3 : decide (x.n = y.n)
  · simp only [fld_ptr, Nat.zero_add, Nat.add_zero, xa, ya, x0, y0, x1, y1, eq_int, c1, c2, c3, unV_not, Bool.not_true, Bool.not_false, Mif_bool, Mif_undef, pickV_bool, Mcd_bool, Mpu_some, if_true, if_false, Bool.false_eq_true, Bool.true_eq_false, decide_true, decide_false, reduceCtorEq, J1_eq, ex20, ex21, ex30, ex31, ex32, Mre_ok, Mre_nil, Bool.false_and, Bool.and_false]
    exact ⟨by trivial, k0h⟩
  cases c4 : decide (x.at' = y.at')
  · simp only [fld_ptr, Nat.zero_add, Nat.add_zero, xa, ya, x0, y0, x1, y1, x2, y2, eq_int, c1, c2, c3, c4, unV_not, Bool.not_true, Bool.not_false, Mif_bool, Mif_undef, pickV_bool, Mcd_bool, Mpu_some, if_true, if_false, Bool.false_eq_true, Bool.true_eq_false, decide_true, decide_false, reduceCtorEq, J1_eq, ex20, ex21, ex30, ex31, ex32, Mre_ok, Mre_nil, Bool.false_and, Bool.and_false]
    exact ⟨by trivial, k0h⟩
  cases c5 : decide (x.name = y.name)
  · simp only [fld_ptr, Nat.zero_add, Nat.add_zero, xa, ya, x0, y0, x1, y1, x2, y2, x3, y3, eq_int, en, c1, c2, c3, c4, c5, unV_not, Bool.not_true, Bool.not_false, Mif_bool, Mif_undef, pickV_bool, Mcd_bool, Mpu_some, if_true, if_false, Bool.false_eq_true, Bool.true_eq_false, decide_true, decide_false, reduceCtorEq, J1_eq, ex20, ex21, ex30, ex31, ex32, Mre_ok, Mre_nil, Bool.false_and, Bool.and_false]
    exact ⟨by trivial, k0h⟩
  cases c6 : decide (x.want = y.want)
  · simp only [fld_ptr, Nat.zero_add, Nat.add_zero, xa, ya, x0, y0, x1, y1, x2, y2, x3, y3, x4, y4, eq_int, en, ew, c1, c2, c3, c4, c5, c6, unV_not, Bool.not_true, Bool.not_false, Mif_bool, Mif_undef, pickV_bool, Mcd_bool, Mpu_some, if_true, if_false, Bool.false_eq_true, Bool.true_eq_false, decide_true, decide_false, reduceCtorEq, J1_eq, ex20, ex21, ex30, ex31, ex32, Mre_ok, Mre_nil, Bool.false_and, Bool.and_false]
    exact ⟨by trivial, k0h⟩
  cases c7 : decide (x.data = y.data)
  · simp only [fld_ptr, Nat.zero_add, Nat.add_zero, xa, ya, x0, y0, x1, y1, x2, y2, x3, y3, x4, y4, x9, y9, bx, by', eq_int, en, ew, ed, c1, c2, c3, c4, c5, c6, c7, unV_not, Bool.not_true, Bool.not_false, Mif_bool, Mif_undef, pickV_bool, Mcd_bool, Mpu_some, if_true, if_false, Bool.false_eq_true, Bool.true_eq_false, decide_true, decide_false, reduceCtorEq, J1_eq, ex20, ex21, ex30, ex31, ex32, Mre_ok, Mre_nil, Bool.false_and, Bool.and_false]
    exact ⟨by trivial, k0h⟩
  simp only [fld_ptr, Nat.zero_add, Nat.add_zero, xa, ya, x0, y0, x1, y1, x2, y2, x3, y3, x4, y4, x9, y9, x10, y10, bx, by', eq_int, en, ew, ed, c1, c2, c3, c4, c5, c6, c7, unV_not, Bool.not_true, Bool.not_false, Mif_bool, Mif_undef, pickV_bool, Mcd_bool, Mpu_some, if_true, if_false, Bool.false_eq_true, Bool.true_eq_false, decide_true, decide_false, reduceCtorEq, J1_eq, ex20, ex21, ex30, ex31, ex32, Mre_ok, Mre_nil, Bool.true_and]
  refine call_i (c_EqIntsG (hx.s.keep k0h fun _ _ => id) (hy.s.keep k0h fun _ _ => id) (by omega)) ?_
  rintro _ h9 ⟨rfl, k9⟩
  simp only [unV_not, Bool.not_true, Bool.not_false, Mif_bool, Mif_undef, pickV_bool, Mcd_bool, Mpu_some, if_true, if_false, Bool.false_eq_true, Bool.true_eq_false, decide_true, decide_false, reduceCtorEq, J1_eq, ex20, ex21, ex30, ex31, ex32, Mre_ok, Mre_nil]
  exact ⟨by trivial, k0h.trans k9⟩
end Go.Proofs.YtconalffokhplaaGreatDoor

/- scripts: Show. -/
namespace Go.Proofs.YtconalffokhplaaGreatDoor
open Go.X Go.X.Diff
set_option maxRecDepth 100000

/-- what a form makes of a line: its text, if that is read as the line -/
noncomputable def showBy (l : LineA) (f : FormA) : Option (List UInt8) := match parseL (joinF [32] (wordsF f l)) with
  | some o => if eqL o l = true then some (joinF [32] (wordsF f l)) else none
  | none => none
noncomputable def showL (l : LineA) : Option (List UInt8) := FORMS.findSome? (showBy l)
theorem findSome_at {α β : Type} {g : α → Option β} : ∀ {l : List α} {i : Nat} {f : α} {b : β}, (∀ x ∈ l.take i, g x = none) → l[i]? = some f → g f = some b → l.findSome? g = some b
  | [], i, f, b, _, h, _ => by simp at h
  | a :: l, 0, f, b, _, h, hp => by
    simp at h; subst h
    rw [List.findSome?_cons, hp]
  | a :: l, i + 1, f, b, hn, h, hp => by
    have h0 := hn a (by simp)
    rw [List.findSome?_cons, h0]
    exact findSome_at (i := i) (fun g hg => hn g (by simp [hg])) (by simpa using h) hp

set_option maxHeartbeats 2000000 in
theorem c_scShow {P : Nat → Prop} {H : Heap} {l : LineA} {vd vl : Value} (hv : LineV P H l vd vl) (hT : VerT H) (hsm : ∀ f ∈ FORMS, total (wordsF f l) ≤ 1000000) :
    HCalls prg f_script_Line_Show [.agg (lineC l vd vl).toArray] H fun u H' => u = (match showL l with | some s => .tuple #[str s, .int .i64 0] | none => .tuple #[str [], .int .i64 60]) ∧ Keep (fun _ => False) H H' := by
  apply sh_script_Line_Show_calls
  unfold sh_script_Line_Show
  simp only [Cells_agg, Mnew_some]
  generalize hH1 : H.push (.cells (lineC l vd vl).toArray T_script_Line (0, 0)) = H1
  have k1 : Keep (fun _ => False) H H1 := by rw [← hH1]; exact Keep.push
  have a1 : At H1 H.size (lineC l vd vl) := by rw [← hH1]; exact At.push
  refine J1_i (fun _ h => showL l = none ∧ Keep (fun _ => False) H h) (fun k hk => ?_) ?_
  rotate_left
  · rintro _ h ⟨hn, kh⟩
    exact ⟨by rw [hn], kh⟩
  refine call_i c_scForms ?_
  rintro _ h4 ⟨⟨q, rfl, q1, q2, hF⟩, k4⟩
  have l30 : lenV (.slice (some ⟨q, 0, none⟩) 30 30) = some (.int .i64 30) := rfl
  have s32 : (Value.string ⟨#[32]⟩) = str [32] := rfl
  rw [l30, Mpu_some, s32]
  refine L1_i (fun u h => ∃ i : Nat, i ≤ 30 ∧ u = .int .i64 (i : Nat) ∧ (∀ g ∈ FORMS.take i, showBy l g = none) ∧ Keep (fun _ => False) h4 h) (fun u _ => match u with | .int _ t => 30 - t.toNat | _ => 0) ⟨0, by omega, rfl, by simp, Keep.refl⟩ ?_
  rintro _ h ⟨i, hi, rfl, hno, kh⟩ kk hkk
  have el : binV .no .lss (.int .i64 (i : Nat)) (.int .i64 30) = some (.bool (decide (i < 30))) := by
    rw [binV_int]; simp only [intV]; congr 2; rw [decide_eq_decide]; omega
  rw [el, Mpu_some, Mcd_bool]
  have k1h := k4.trans kh
  by_cases hlt : i < 30
  · rw [if_pos (by simpa using hlt)]
    have hg : FORMS[i]? = some (FORMS[i]'(by rw [forms_len]; exact hlt)) := List.getElem?_eq_getElem _
    have hmem : FORMS[i]'(by rw [forms_len]; exact hlt) ∈ FORMS := List.getElem_mem _
    have htk : FORMS.take (i + 1) = FORMS.take i ++ [FORMS[i]'(by rw [forms_len]; exact hlt)] := by rw [List.take_add_one, hg]; rfl
    generalize (FORMS[i]'(by rw [forms_len]; exact hlt)) = f at *
    have hfs := hsm f hmem
    have hfp := forms_parts f hmem
    obtain ⟨b, o, hib, hpt, _⟩ := (hF.keep kh fun _ _ => id).at (i := i) (x := formC f) (by rw [List.getElem?_map, hg]; rfl)
    rw [hib .i64, Mpu_some, hpt.agg formC_len, Mpu_some]
    simp only [z_Form, Mnew_some]
    generalize hH7 : h.push (.cells (formC ⟨[], [], 0, 0, 0⟩).toArray T_script_form (0, 0)) = h7
    have k7 : Keep (fun _ => False) h h7 := by rw [← hH7]; exact Keep.push
    have a7 : At h7 h.size (formC ⟨[], [], 0, 0, 0⟩) := by rw [← hH7]; exact At.push
    obtain ⟨h8, st8, a8, k8⟩ := a7.st (n := 14) (ds := formC f) formC_len formC_len formC_one
    have gh := kh.1
    have k48 : Keep (fun _ => False) h4 h8 := (kh.trans k7).fresh k8 fun b hb => by omega
    have k18 := k4.trans k48
    have k08 := k1.trans k18
    rw [st8, Mwr_some, a8.ldN formC_len, Mpu_some, (a1.keep k18 id).ldN (lineC_len hv.w), Mpu_some]
    refine call_i (c_scWords (hv.keep k08 fun _ _ => id) hfp (hT.keep k08 fun _ h => h.elim)) ?_
    rintro v h9 ⟨hb9, k9⟩
    have hwl : (wordsF f l).length ≤ 101 := by
      have := List.length_filterMap_le (wordP l) f.parts
      unfold wordsF
      rw [List.length_cons]; omega
    refine call_i (c_Join (P := fun b => h8.size ≤ b ∧ b < h9.size) (sep := [32]) (l := wordsF f l) ?_ (fun b hb => hb.2) (by omega) (by simp) (by omega)) ?_
    · obtain ⟨⟨ea, ec, e1, e2, e3⟩, e4, e5⟩ := hb9.sl
      exact ⟨⟨ea, ec, e1, e2, e3.imp id fun ⟨b, o, e, hb, hp⟩ => ⟨b, o, e, ⟨hb, hp.lt⟩, hp⟩⟩, e4, e5⟩
    rintro _ h10 ⟨rfl, k10⟩
    have hjl := join_len [32] (wordsF f l)
    have k010 := k08.trans (k9.trans k10)
    refine call_i (c_scParse (by simp at hjl; omega) (hT.keep k010 fun _ h => h.elim)) ?_
    rintro _ h11 ⟨⟨u0, rfl, hout⟩, k11⟩
    obtain ⟨pd, pl, rfl, od, ol, ow⟩ := hout
    have k011 := k010.trans k11
    generalize hs : joinF [32] (wordsF f l) = s at *
    simp only [ex20, ex21, Mpu_some, z_Line, Mnew_some]
    generalize hH12 : h11.push (.cells (lineC zeroL nilS nilS).toArray T_script_Line (0, 0)) = h12
    have k12 : Keep (fun _ => False) h11 h12 := by rw [← hH12]; exact Keep.push
    have c12 : At h12 h11.size (lineC zeroL nilS nilS) := by rw [← hH12]; exact At.push
    obtain ⟨h13, st13, c13, k13⟩ := c12.st (n := 12) (ds := lineC ((parseL s).getD zeroL) pd pl) (lineC_len zeroW_wf) (lineC_len ow) (lineC_one od.one ol.oneC)
    have g8 := k08.1
    have g48 := k48.1
    have g9 := (k9.trans k10).1
    have g11 := k11.1
    have k813 : Keep (fun _ => False) h8 h13 := ((k9.trans k10).trans (k11.trans k12)).fresh k13 fun b hb => by omega
    have k413 := k48.trans k813
    have k013 := k08.trans k813
    have od13 := (od.keep k12 fun _ _ => id).keep k13 fun b hb e => by omega
    have ol13 := (ol.keep k12 fun _ _ => id).keep k13 fun b hb e => by omega
    have next : showBy l f = none → Mpu (binV .no .add (.int .i64 (i : Nat)) (.int .i64 1)) fun t32 => ∀ h', Keep (fun _ => False) h4 h' → kk t32 h' := fun hnone => by
      rw [add_one' (by omega), Mpu_some]
      intro h' k'
      refine hkk _ _ ⟨i + 1, by omega, rfl, fun g hg' => ?_, k'⟩ (by show 30 - (i + 1) < 30 - i; omega)
      rw [htk] at hg'
      rcases List.mem_append.1 hg' with hg' | hg'
      · exact hno g hg'
      · simp at hg'; subst hg'; exact hnone
    rw [st13, Mwr_some]
    cases hps : parseL s with
    | none =>
      have e60 : binV .no .eql (.int .i64 60) (.int .i64 0) = some (.bool false) := rfl
      have hnone : showBy l f = none := by unfold showBy; rw [hs, hps]
      have hadd := next hnone
      rw [add_one' (by omega), Mpu_some] at hadd
      simp only [Option.isSome_none, Bool.false_eq_true, if_false, e60, J1_eq, Mif_bool, pickV_bool, Mpu_some, Mcd_bool]
      rw [add_one' (by omega), Mpu_some]
      exact hadd _ k413
    | some o =>
      rw [hps] at c13 od13 ol13 ow
      simp only [Option.getD_some] at c13 od13 ol13 ow
      have e0 : binV .no .eql (.int .i64 0) (.int .i64 0) = some (.bool true) := rfl
      simp only [Option.isSome_some, if_true, e0, J1_eq, Mif_bool, Mpu_some]
      rw [c13.ldN (lineC_len ow), Mpu_some, (a1.keep (k4.trans k413) id).ldN (lineC_len hv.w), Mpu_some]
      refine call_i (c_scEqual ⟨od13, ol13, ow⟩ (hv.keep k013 fun _ _ => id).toW hv.ll) ?_
      rintro _ h15 ⟨rfl, k15⟩
      cases he : eqL o l
      · have hnone : showBy l f = none := by unfold showBy; rw [hs, hps]; simp [he]
        have hadd := next hnone
        rw [add_one' (by omega), Mpu_some] at hadd
        simp only [pickV_bool, if_true, Mpu_some, Mcd_bool, Bool.false_eq_true, if_false]
        rw [add_one' (by omega), Mpu_some]
        exact hadd _ (k413.trans k15)
      · have hsome : showBy l f = some s := by unfold showBy; rw [hs, hps]; simp [he]
        have hL : showL l = some s := findSome_at hno hg hsome
        simp only [pickV_bool, if_true, Mpu_some, Mcd_bool]
        exact ⟨by rw [hL], k013.trans k15⟩
  · rw [if_neg (by simpa using hlt)]
    obtain rfl : i = 30 := by omega
    refine hk _ _ ⟨?_, k1.trans k1h⟩
    unfold showL
    rw [List.findSome?_eq_none_iff]
    intro g hg
    exact hno g (by rw [List.take_of_length_le (by rw [forms_len]; omega)]; exact hg)
end Go.Proofs.YtconalffokhplaaGreatDoor

