/- JOINED: V149 V150 V151 P5 -/
import Derived.Test.YtconalffokhplaaGreatDoorG9
set_option linter.unusedSimpArgs false
set_option linter.unusedVariables false
/- scripts: the law's same. -/
namespace Go.Proofs.YtconalffokhplaaGreatDoor
open Go.X Go.X.Diff
set_option maxRecDepth 100000

theorem eq_intn {x y : Int} : binV .no .neq (.int .i64 x) (.int .i64 y) = some (.bool (!decide (x = y))) := by
  rw [binV_int]; simp only [intV]; congr 2
set_option maxHeartbeats 4000000 in
theorem c_same30 {P Q : Nat → Prop} {H : Heap} {x y : LineA} {vd vl wd wl : Value} (hx : LineW P H x vd vl) (hy : LineW Q H y wd wl) (hl : y.lost.length ≤ 1048576) :
    HCalls prg f_syngraphlaw30_same [.agg (lineC x vd vl).toArray, .agg (lineC y wd wl).toArray] H fun u H' => u = .bool (eqL x y) ∧ Keep (fun _ => False) H H' := by
  apply sh_syngraphlaw30_same_calls
  unfold sh_syngraphlaw30_same
  simp only [Cells_agg, Mnew_some]
  generalize hH1 : H.push (.cells (lineC x vd vl).toArray T_script_Line (0, 0)) = H1
  have k1 : Keep (fun _ => False) H H1 := by rw [← hH1]; exact Keep.push
  have a1 : At H1 H.size (lineC x vd vl) := by rw [← hH1]; exact At.push
  have s1 : H1.size = H.size + 1 := by rw [← hH1]; simp
  generalize hH2 : H1.push (.cells (lineC y wd wl).toArray T_script_Line (0, 0)) = H2
  have k2 : Keep (fun _ => False) H1 H2 := by rw [← hH2]; exact Keep.push
  have b2 : At H2 H1.size (lineC y wd wl) := by rw [← hH2]; exact At.push
  have s2 : H2.size = H1.size + 1 := by rw [← hH2]; simp
  have a2 := a1.keep k2 id
  have k02 := k1.trans k2
  have zl : ((lineC zeroL nilS nilS).take 11).length = 11 := rfl
  have ox := step_one (l := x) hx.d.one hx.s.oneC
  have oy := step_one (l := y) hy.d.one hy.s.oneC
  have lx := step_len (vd := vd) (vl := vl) hx.w
  have ly := step_len (vd := wd) (vl := wl) hy.w
  refine J2_i (fun t5 t6 h => ∃ p q, t5 = Ptr p 0 ∧ t6 = Ptr q 0 ∧ At h p ((lineC x vd vl).take 11) ∧ At h q ((lineC y wd wl).take 11) ∧ Keep (fun _ => False) H2 h) (fun k hk => ?_) ?_
  · simp only [fld_ptr, Nat.add_zero, Mpu_some]
    rw [step_ld a2 hx.w, Mpu_some, step_ld b2 hy.w, Mpu_some]
    simp only [z_Step, Mnew_some]
    generalize hH4 : H2.push (.cells ((lineC zeroL nilS nilS).take 11).toArray T_world_Step (0, 0)) = h4
    have k4 : Keep (fun _ => False) H2 h4 := by rw [← hH4]; exact Keep.push
    have p4 : At h4 H2.size ((lineC zeroL nilS nilS).take 11) := by rw [← hH4]; exact At.push
    have s4 : h4.size = H2.size + 1 := by rw [← hH4]; simp
    generalize hH5 : h4.push (.cells ((lineC zeroL nilS nilS).take 11).toArray T_world_Step (0, 0)) = h5
    have k5 : Keep (fun _ => False) h4 h5 := by rw [← hH5]; exact Keep.push
    have q5 : At h5 h4.size ((lineC zeroL nilS nilS).take 11) := by rw [← hH5]; exact At.push
    have s5 : h5.size = h4.size + 1 := by rw [← hH5]; simp
    have p5 := p4.keep k5 id
    have k45 := k4.trans k5
    have A4 := step_ld (a2.keep k4 id) hx.w
    have B4 := step_ld (b2.keep k4 id) hy.w
    have A5 := step_ld (a2.keep k45 id) hx.w
    have B5 := step_ld (b2.keep k45 id) hy.w
    refine ⟨⟨B4, A4, ⟨B5, A5, ?_⟩⟩, ⟨B4, A4, ⟨B5, A5, ?_⟩⟩⟩
    · obtain ⟨h6, st6, p6, k6⟩ := p5.st (n := 11) (ds := (lineC x vd vl).take 11) zl lx ox
      have B6 := step_ld ((b2.keep k45 id).keep k6 (by omega)) hy.w
      have q6 := q5.keep k6 (by omega)
      obtain ⟨h7, st7, q7, k7⟩ := q6.st (n := 11) (ds := (lineC y wd wl).take 11) zl ly oy
      rw [Mre_nil, st6, Mwr_some]
      refine ⟨B6, ?_⟩
      rw [Mre_nil, st7, Mwr_some]
      exact hk _ _ _ ⟨H2.size, h4.size, rfl, rfl, p6.keep k7 (by omega), q7, (k45.fresh k6 fun b hb => by omega).fresh k7 fun b hb => by omega⟩
    · obtain ⟨h6, st6, q6, k6⟩ := q5.st (n := 11) (ds := (lineC x vd vl).take 11) zl lx ox
      have B6 := step_ld ((b2.keep k45 id).keep k6 (by omega)) hy.w
      have p6 := p5.keep k6 (by omega)
      obtain ⟨h7, st7, p7, k7⟩ := p6.st (n := 11) (ds := (lineC y wd wl).take 11) zl ly oy
      rw [Mre_nil, st6, Mwr_some]
      refine ⟨B6, ?_⟩
      rw [Mre_nil, st7, Mwr_some]
      exact hk _ _ _ ⟨h4.size, H2.size, rfl, rfl, q6.keep k7 (by omega), p7, (k45.fresh k6 fun b hb => by omega).fresh k7 fun b hb => by omega⟩
  rintro _ _ h ⟨p, q, rfl, rfl, ap, aq, kh⟩
  have k0h := k02.trans kh
  have ah := a2.keep kh id
  have bh := b2.keep kh id
  have xa : ld1 h (Ptr H.size 11) = some (.int .i64 x.ask) := ah.ld (line_get hx.w).2.2
  have ya : ld1 h (Ptr H1.size 11) = some (.int .i64 y.ask) := bh.ld (line_get hy.w).2.2
  have x0 : ld1 h (Ptr p 0) = some (.int .i64 x.kind) := ap.ld rfl
  have x1 : ld1 h (Ptr p 1) = some (.int .i64 x.n) := ap.ld rfl
  have x2 : ld1 h (Ptr p 2) = some (.int .i64 x.at') := ap.ld rfl
  have x3 : ld1 h (Ptr p 3) = some (str x.name) := ap.ld rfl
  have y0 : ld1 h (Ptr q 0) = some (.int .i64 y.kind) := aq.ld rfl
  have y1 : ld1 h (Ptr q 1) = some (.int .i64 y.n) := aq.ld rfl
  have y2 : ld1 h (Ptr q 2) = some (.int .i64 y.at') := aq.ld rfl
  have y3 : ld1 h (Ptr q 3) = some (str y.name) := aq.ld rfl
  have x4 := step_want ap hx.w
  have y4 := step_want aq hy.w
  have x9 : ld1 h (Ptr p 9) = some vd := ap.ld (step_get hx.w).1
  have x10 : ld1 h (Ptr p 10) = some vl := ap.ld (step_get hx.w).2
  have y9 : ld1 h (Ptr q 9) = some wd := aq.ld (step_get hy.w).1
  have y10 : ld1 h (Ptr q 10) = some wl := aq.ld (step_get hy.w).2
  have bx : b2s h vd = some (str x.data) := (hx.d.keep k0h fun _ _ => id).b2s
  have by' : b2s h wd = some (str y.data) := (hy.d.keep k0h fun _ _ => id).b2s
  have en : ∀ z, binV z .neq (str x.name) (str y.name) = some (.bool (!decide (x.name = y.name))) := fun z => str_neq
  have ed : ∀ z, binV z .neq (str x.data) (str y.data) = some (.bool (!decide (x.data = y.data))) := fun z => str_neq
  have ew := neWant hx.w hy.w
  unfold eqL
  cases c1 : decide (x.ask = y.ask)
  · simp only [fld_ptr, Nat.zero_add, xa, ya, eq_intn, c1, unV_not, Bool.not_true, Bool.not_false, Mif_bool, Mif_undef, pickV_bool, Mcd_bool, Mpu_some, if_true, if_false, Bool.false_eq_true, Bool.true_eq_false, decide_true, decide_false, reduceCtorEq, J1_eq, ex20, ex21, ex30, ex31, ex32, Mre_ok, Mre_nil, Bool.false_and]
    exact ⟨by trivial, k0h⟩
  cases c2 : decide (x.kind = y.kind)
  · simp only [fld_ptr, Nat.zero_add, Nat.add_zero, xa, ya, x0, y0, eq_intn, c1, c2, unV_not, Bool.not_true, Bool.not_false, Mif_bool, Mif_undef, pickV_bool, Mcd_bool, Mpu_some, if_true, if_false, Bool.false_eq_true, Bool.true_eq_false, decide_true, decide_false, reduceCtorEq, J1_eq, ex20, ex21, ex30, ex31, ex32, Mre_ok, Mre_nil, Bool.false_and, Bool.and_false]
    exact ⟨by trivial, k0h⟩
  cases c3 : decide (x.n = y.n)
  · simp only [fld_ptr, Nat.zero_add, Nat.add_zero, xa, ya, x0, y0, x1, y1, eq_intn, c1, c2, c3, unV_not, Bool.not_true, Bool.not_false, Mif_bool, Mif_undef, pickV_bool, Mcd_bool, Mpu_some, if_true, if_false, Bool.false_eq_true, Bool.true_eq_false, decide_true, decide_false, reduceCtorEq, J1_eq, ex20, ex21, ex30, ex31, ex32, Mre_ok, Mre_nil, Bool.false_and, Bool.and_false]
    exact ⟨by trivial, k0h⟩
  cases c4 : decide (x.at' = y.at')
  · simp only [fld_ptr, Nat.zero_add, Nat.add_zero, xa, ya, x0, y0, x1, y1, x2, y2, eq_intn, c1, c2, c3, c4, unV_not, Bool.not_true, Bool.not_false, Mif_bool, Mif_undef, pickV_bool, Mcd_bool, Mpu_some, if_true, if_false, Bool.false_eq_true, Bool.true_eq_false, decide_true, decide_false, reduceCtorEq, J1_eq, ex20, ex21, ex30, ex31, ex32, Mre_ok, Mre_nil, Bool.false_and, Bool.and_false]
    exact ⟨by trivial, k0h⟩
  cases c5 : decide (x.name = y.name)
  · simp only [fld_ptr, Nat.zero_add, Nat.add_zero, xa, ya, x0, y0, x1, y1, x2, y2, x3, y3, eq_intn, en, c1, c2, c3, c4, c5, unV_not, Bool.not_true, Bool.not_false, Mif_bool, Mif_undef, pickV_bool, Mcd_bool, Mpu_some, if_true, if_false, Bool.false_eq_true, Bool.true_eq_false, decide_true, decide_false, reduceCtorEq, J1_eq, ex20, ex21, ex30, ex31, ex32, Mre_ok, Mre_nil, Bool.false_and, Bool.and_false]
    exact ⟨by trivial, k0h⟩
  cases c6 : decide (x.want = y.want)
  · simp only [fld_ptr, Nat.zero_add, Nat.add_zero, xa, ya, x0, y0, x1, y1, x2, y2, x3, y3, x4, y4, eq_intn, en, ew, c1, c2, c3, c4, c5, c6, unV_not, Bool.not_true, Bool.not_false, Mif_bool, Mif_undef, pickV_bool, Mcd_bool, Mpu_some, if_true, if_false, Bool.false_eq_true, Bool.true_eq_false, decide_true, decide_false, reduceCtorEq, J1_eq, ex20, ex21, ex30, ex31, ex32, Mre_ok, Mre_nil, Bool.false_and, Bool.and_false]
    exact ⟨by trivial, k0h⟩
  cases c7 : decide (x.data = y.data)
  · simp only [fld_ptr, Nat.zero_add, Nat.add_zero, xa, ya, x0, y0, x1, y1, x2, y2, x3, y3, x4, y4, x9, y9, bx, by', eq_intn, en, ew, ed, c1, c2, c3, c4, c5, c6, c7, unV_not, Bool.not_true, Bool.not_false, Mif_bool, Mif_undef, pickV_bool, Mcd_bool, Mpu_some, if_true, if_false, Bool.false_eq_true, Bool.true_eq_false, decide_true, decide_false, reduceCtorEq, J1_eq, ex20, ex21, ex30, ex31, ex32, Mre_ok, Mre_nil, Bool.false_and, Bool.and_false]
    exact ⟨by trivial, k0h⟩
  have la := hx.s.len
  have lb := hy.s.len
  rw [rows1_len, List.length_map] at la lb
  have el0 : decide ((x.lost.length : Int) = (y.lost.length : Int)) = decide (x.lost.length = y.lost.length) := by
    rw [decide_eq_decide]; omega
  cases hne : decide (x.lost.length = y.lost.length)
  · have hf : decide (x.lost = y.lost) = false := decide_eq_false fun e => (of_decide_eq_false hne) (by rw [e])
    simp only [fld_ptr, Nat.zero_add, Nat.add_zero, xa, ya, x0, y0, x1, y1, x2, y2, x3, y3, x4, y4, x9, y9, x10, y10, bx, by', eq_intn, en, ew, ed, c1, c2, c3, c4, c5, c6, c7, la, lb, el0, hne, hf, unV_not, Bool.not_true, Bool.not_false, Mif_bool, Mif_undef, pickV_bool, Mcd_bool, Mpu_some, if_true, if_false, Bool.false_eq_true, Bool.true_eq_false, decide_true, decide_false, reduceCtorEq, J1_eq, ex20, ex21, ex30, ex31, ex32, Mre_ok, Mre_nil, Bool.and_false]
    exact ⟨by trivial, k0h⟩
  have hne' := of_decide_eq_true hne
  simp only [fld_ptr, Nat.zero_add, Nat.add_zero, xa, ya, x0, y0, x1, y1, x2, y2, x3, y3, x4, y4, x9, y9, x10, y10, bx, by', eq_intn, en, ew, ed, c1, c2, c3, c4, c5, c6, c7, la, lb, el0, hne, unV_not, Bool.not_true, Bool.not_false, Mif_bool, Mif_undef, pickV_bool, Mcd_bool, Mpu_some, if_true, if_false, Bool.false_eq_true, Bool.true_eq_false, decide_true, decide_false, reduceCtorEq, J1_eq, ex20, ex21, ex30, ex31, ex32, Mre_ok, Mre_nil, Bool.true_and]
  have hxs := hx.s.keep k0h fun _ _ => id
  have hys := hy.s.keep k0h fun _ _ => id
  refine L1_i (fun u g => ∃ i : Nat, i ≤ x.lost.length ∧ u = .int .i64 (i : Nat) ∧ x.lost.take i = y.lost.take i ∧ h = g) (fun u _ => match u with | .int _ t => x.lost.length - t.toNat | _ => 0) ⟨0, Nat.zero_le _, rfl, by simp, rfl⟩ ?_
  rintro _ _ ⟨i, hi, rfl, heq, rfl⟩ kk hkk
  have el : binV .no .lss (.int .i64 (i : Nat)) (.int .i64 (x.lost.length : Nat)) = some (.bool (decide (i < x.lost.length))) := by
    rw [binV_int]; simp only [intV]; congr 2; rw [decide_eq_decide]; omega
  rw [el, Mpu_some, Mcd_bool]
  by_cases hlt : i < x.lost.length
  · rw [if_pos (by simpa using hlt)]
    have hgx : x.lost[i]? = some x.lost[i] := List.getElem?_eq_getElem hlt
    have hgy : y.lost[i]? = some (y.lost[i]'(by omega)) := List.getElem?_eq_getElem (by omega)
    obtain ⟨b1, o1, i1, p1, _⟩ := hxs.at (i := i) (x := [.int .i64 x.lost[i]]) (rows1_get (by rw [List.getElem?_map, hgx]; rfl))
    obtain ⟨b2, o2, i2, p2, _⟩ := hys.at (i := i) (x := [.int .i64 (y.lost[i]'(by omega))]) (rows1_get (by rw [List.getElem?_map, hgy]; rfl))
    have htx : x.lost.take (i + 1) = x.lost.take i ++ [x.lost[i]] := by rw [List.take_add_one, hgx]; rfl
    have hty : y.lost.take (i + 1) = y.lost.take i ++ [y.lost[i]'(by omega)] := by rw [List.take_add_one, hgy]; rfl
    generalize x.lost[i] = m at *
    generalize (y.lost[i]'(by omega)) = n at *
    rw [x10, Mpu_some, i1 .i64, Mpu_some, p1.cell0 rfl, Mpu_some, y10, Mpu_some, i2 .i64, Mpu_some, p2.cell0 rfl, Mpu_some, eq_intn, Mpu_some, Mcd_bool]
    by_cases hmn : m = n
    · rw [if_neg (by simp [hmn]), add_one' (by omega), Mpu_some]
      exact hkk _ _ ⟨i + 1, by omega, rfl, by rw [htx, hty, heq, hmn], rfl⟩ (by show x.lost.length - (i + 1) < x.lost.length - i; omega)
    · rw [if_pos (by simp [hmn])]
      refine ⟨?_, k0h⟩
      rw [decide_eq_false]
      intro e
      rw [e] at hgx
      rw [hgx] at hgy
      exact hmn (Option.some.inj hgy)
  · rw [if_neg (by simpa using hlt)]
    rw [List.take_of_length_le (by omega), List.take_of_length_le (by omega)] at heq
    exact ⟨by rw [decide_eq_true heq], k0h⟩
end Go.Proofs.YtconalffokhplaaGreatDoor

/- scripts: the document's Parts. -/
namespace Go.Proofs.YtconalffokhplaaGreatDoor
open Go.X Go.X.Diff
set_option maxRecDepth 100000

theorem b_parts0 : bslV prg T_string 30 [(0, (.string ⟨#[112, 117, 98, 108, 105, 115, 104]⟩)), (1, (.string ⟨#[114, 101, 102, 114, 101, 115, 104]⟩)), (2, (.string ⟨#[115, 101, 110, 100]⟩)), (3, (.string ⟨#[114, 111, 117, 110, 100]⟩)), (4, (.string ⟨#[99, 97, 114, 114, 121]⟩)), (5, (.string ⟨#[97, 114, 114, 105, 118, 101]⟩)), (6, (.string ⟨#[108, 111, 115, 101]⟩)), (7, (.string ⟨#[116, 119, 105, 99, 101]⟩)), (8, (.string ⟨#[97, 114, 109]⟩)), (9, (.string ⟨#[98, 101, 110, 100]⟩)), (10, (.string ⟨#[102, 111, 114, 103, 101]⟩)), (11, (.string ⟨#[116, 97, 109, 112, 101, 114]⟩)), (12, (.string ⟨#[102, 101, 116, 99, 104]⟩)), (13, (.string ⟨#[99, 114, 97, 115, 104]⟩)), (14, (.string ⟨#[105, 110, 115, 116, 97, 108, 108]⟩)), (15, (.string ⟨#[117, 112, 103, 114, 97, 100, 101]⟩)), (16, (.string ⟨#[114, 101, 109, 111, 118, 101]⟩)), (17, (.string ⟨#[111, 119, 110, 101, 114]⟩)), (18, (.string ⟨#[119, 104, 121]⟩)), (19, (.string ⟨#[98, 97, 99, 107]⟩)), (20, (.string ⟨#[100, 105, 102, 102]⟩)), (21, (.string ⟨#[108, 105, 115, 116]⟩)), (22, (.string ⟨#[99, 104, 101, 99, 107]⟩)), (23, (.string ⟨#[97, 117, 100, 105, 116]⟩)), (24, (.string ⟨#[104, 105, 115, 116, 111, 114, 121]⟩)), (25, (.string ⟨#[108, 111, 97, 100]⟩)), (26, (.string ⟨#[104, 101, 97, 100, 115]⟩)), (27, (.string ⟨#[108, 101, 116, 116, 101, 114, 115]⟩)), (28, (.string ⟨#[102, 105, 108, 101, 115]⟩)), (29, (.string ⟨#[109, 97, 114, 107]⟩))] = some (FORMS.map fun f => str f.word).toArray := by kernel_rfl
theorem b_parts1 : bslV prg T_string 30 [(0, (.string ⟨#[97]⟩)), (1, (.string ⟨#[]⟩)), (2, (.string ⟨#[]⟩)), (3, (.string ⟨#[]⟩)), (4, (.string ⟨#[]⟩)), (5, (.string ⟨#[110]⟩)), (6, (.string ⟨#[110]⟩)), (7, (.string ⟨#[110]⟩)), (8, (.string ⟨#[110]⟩)), (9, (.string ⟨#[110, 97]⟩)), (10, (.string ⟨#[110, 97, 100]⟩)), (11, (.string ⟨#[110, 97, 100]⟩)), (12, (.string ⟨#[97]⟩)), (13, (.string ⟨#[108]⟩)), (14, (.string ⟨#[115, 119]⟩)), (15, (.string ⟨#[115]⟩)), (16, (.string ⟨#[115]⟩)), (17, (.string ⟨#[115]⟩)), (18, (.string ⟨#[115]⟩)), (19, (.string ⟨#[97]⟩)), (20, (.string ⟨#[97]⟩)), (21, (.string ⟨#[]⟩)), (22, (.string ⟨#[]⟩)), (23, (.string ⟨#[]⟩)), (24, (.string ⟨#[]⟩)), (25, (.string ⟨#[100]⟩)), (26, (.string ⟨#[]⟩)), (27, (.string ⟨#[]⟩)), (28, (.string ⟨#[]⟩)), (29, (.string ⟨#[]⟩))] = some (FORMS.map fun f => str f.parts).toArray := by kernel_rfl
theorem b_parts2 : bslV prg T_int 30 [(0, (.int .i64 1)), (1, (.int .i64 2)), (2, (.int .i64 3)), (3, (.int .i64 15)), (4, (.int .i64 14)), (5, (.int .i64 4)), (6, (.int .i64 5)), (7, (.int .i64 6)), (8, (.int .i64 11)), (9, (.int .i64 7)), (10, (.int .i64 8)), (11, (.int .i64 13)), (12, (.int .i64 9)), (13, (.int .i64 12)), (14, (.int .i64 10)), (15, (.int .i64 10)), (16, (.int .i64 10)), (17, (.int .i64 10)), (18, (.int .i64 10)), (19, (.int .i64 10)), (20, (.int .i64 10)), (21, (.int .i64 10)), (22, (.int .i64 10)), (23, (.int .i64 10)), (24, (.int .i64 10)), (25, (.int .i64 10)), (26, (.int .i64 0)), (27, (.int .i64 0)), (28, (.int .i64 0)), (29, (.int .i64 0))] = some (FORMS.map fun f => Value.int .i64 f.kind).toArray := by kernel_rfl
theorem b_parts3 : bslV prg T_int 30 [(0, (.int .i64 0)), (1, (.int .i64 0)), (2, (.int .i64 0)), (3, (.int .i64 0)), (4, (.int .i64 0)), (5, (.int .i64 0)), (6, (.int .i64 0)), (7, (.int .i64 0)), (8, (.int .i64 0)), (9, (.int .i64 0)), (10, (.int .i64 0)), (11, (.int .i64 0)), (12, (.int .i64 0)), (13, (.int .i64 0)), (14, (.int .i64 2)), (15, (.int .i64 3)), (16, (.int .i64 4)), (17, (.int .i64 10)), (18, (.int .i64 11)), (19, (.int .i64 5)), (20, (.int .i64 12)), (21, (.int .i64 6)), (22, (.int .i64 7)), (23, (.int .i64 8)), (24, (.int .i64 9)), (25, (.int .i64 1)), (26, (.int .i64 0)), (27, (.int .i64 0)), (28, (.int .i64 0)), (29, (.int .i64 0))] = some (FORMS.map fun f => Value.int .i64 f.n).toArray := by kernel_rfl
theorem forms_ask : ∀ i : Fin 30, (FORMS[i.val]?).map (·.ask) = some (if 26 ≤ i.val then ((i.val - 25 : Nat) : Int) else 0) := by decide
theorem c_Parts {H : Heap} {w : List UInt8} : HCalls prg f_syngraphref30_Parts [str w] H fun u H' => u = (match formOf w with | some f => .tuple #[str f.parts, .int .i64 f.kind, .int .i64 f.n, .int .i64 f.ask, .bool true] | none => .tuple #[str [], .int .i64 0, .int .i64 0, .int .i64 0, .bool false]) ∧ Keep (fun _ => False) H H' := by
  apply sh_syngraphref30_Parts_calls
  unfold sh_syngraphref30_Parts
  rw [b_parts0, Mnews_some]
  generalize hH1 : H.push (.cells (FORMS.map fun f => str f.word).toArray T_string (0, 0)) = H1
  have k1 : Keep (fun _ => False) H H1 := by rw [← hH1]; exact Keep.push
  have a1 : At H1 H.size (FORMS.map fun f => str f.word) := by rw [← hH1]; exact At.push
  rw [b_parts1, Mnews_some]
  generalize hH2 : H1.push (.cells (FORMS.map fun f => str f.parts).toArray T_string (0, 0)) = H2
  have k2 : Keep (fun _ => False) H1 H2 := by rw [← hH2]; exact Keep.push
  have a2 : At H2 H1.size (FORMS.map fun f => str f.parts) := by rw [← hH2]; exact At.push
  rw [b_parts2, Mnews_some]
  generalize hH3 : H2.push (.cells (FORMS.map fun f => Value.int .i64 f.kind).toArray T_int (0, 0)) = H3
  have k3 : Keep (fun _ => False) H2 H3 := by rw [← hH3]; exact Keep.push
  have a3 : At H3 H2.size (FORMS.map fun f => Value.int .i64 f.kind) := by rw [← hH3]; exact At.push
  rw [b_parts3, Mnews_some]
  generalize hH4 : H3.push (.cells (FORMS.map fun f => Value.int .i64 f.n).toArray T_int (0, 0)) = H4
  have k4 : Keep (fun _ => False) H3 H4 := by rw [← hH4]; exact Keep.push
  have a4 : At H4 H3.size (FORMS.map fun f => Value.int .i64 f.n) := by rw [← hH4]; exact At.push
  have c1 := ((a1.keep k2 id).keep k3 id).keep k4 id
  have c2 := (a2.keep k3 id).keep k4 id
  have c3 := a3.keep k4 id
  have k04 := k1.trans (k2.trans (k3.trans k4))
  refine J1_i (fun _ h => formOf w = none ∧ H4 = h) (fun k hk => ?_) ?_
  rotate_left
  · rintro _ _ ⟨hn, rfl⟩
    exact ⟨by rw [hn], k04⟩
  refine L1_i (fun u h => ∃ i : Nat, i ≤ 30 ∧ u = .int .i64 (i : Nat) ∧ (∀ g ∈ FORMS.take i, decide (g.word = w) = false) ∧ H4 = h) (fun u _ => match u with | .int _ t => 30 - t.toNat | _ => 0) ⟨0, by omega, rfl, by simp, rfl⟩ ?_
  rintro _ _ ⟨i, hi, rfl, hno, rfl⟩ kk hkk
  have el : binV .no .lss (.int .i64 (i : Nat)) (.int .i64 30) = some (.bool (decide (i < 30))) := by
    rw [binV_int]; simp only [intV]; congr 2; rw [decide_eq_decide]; omega
  have l30 : ∀ q, lenV (.slice (some ⟨q, 0, none⟩) 30 30) = some (.int .i64 30) := fun q => rfl
  rw [l30, Mpu_some, el, Mpu_some, Mcd_bool]
  by_cases hlt : i < 30
  · rw [if_pos (by simpa using hlt)]
    have hg : FORMS[i]? = some (FORMS[i]'(by rw [forms_len]; exact hlt)) := List.getElem?_eq_getElem _
    have htk : FORMS.take (i + 1) = FORMS.take i ++ [FORMS[i]'(by rw [forms_len]; exact hlt)] := by rw [List.take_add_one, hg]; rfl
    have hask := forms_ask ⟨i, hlt⟩
    simp only at hask
    generalize (FORMS[i]'(by rw [forms_len]; exact hlt)) = f at *
    have gm : ∀ (g : FormA → Value), (FORMS.map g)[i]? = some (g f) := fun g => by rw [List.getElem?_map, hg]; rfl
    have d1 : ld1 H4 (Ptr H.size i) = some (str f.word) := c1.ld (gm _)
    have d2 : ld1 H4 (Ptr H1.size i) = some (str f.parts) := c2.ld (gm _)
    have d3 : ld1 H4 (Ptr H2.size i) = some (.int .i64 f.kind) := c3.ld (gm _)
    have d4 : ld1 H4 (Ptr H3.size i) = some (.int .i64 f.n) := a4.ld (gm _)
    have ix : ∀ q, ixS 1 (.slice (some ⟨q, 0, none⟩) 30 30) (.int .i64 (i : Nat)) = some (Ptr q i) := fun q => by rw [ixS_at hlt, Nat.zero_add]
    rw [ix, Mpu_some, d1, Mpu_some, str_eql, Mpu_some, Mcd_bool]
    cases hm : decide (f.word = w)
    · rw [if_neg (by decide), add_one' (by omega), Mpu_some]
      refine hkk _ _ ⟨i + 1, by omega, rfl, fun g hg' => ?_, rfl⟩ (by show 30 - (i + 1) < 30 - i; omega)
      rw [htk] at hg'
      rcases List.mem_append.1 hg' with hg' | hg'
      · exact hno g hg'
      · simp at hg'; subst hg'; exact hm
    · rw [if_pos rfl]
      have hfo : formOf w = some f := find_atF hno hg hm
      have eask : f.ask = if 26 ≤ i then ((i - 25 : Nat) : Int) else 0 := by
        rw [hg] at hask
        simpa using hask
      refine J1_i (fun u h => u = .int .i64 f.ask ∧ H4 = h) (fun k9 hk9 => ?_) ?_
      · have eg : binV .no .geq (.int .i64 (i : Nat)) (.int .i64 26) = some (.bool (decide (26 ≤ i))) := geN (m := 26)
        rw [eg, Mpu_some, Mcd_bool]
        by_cases h26 : 26 ≤ i
        · have es : binV .no .sub (.int .i64 (i : Nat)) (.int .i64 25) = some (.int .i64 ((i - 25 : Nat) : Int)) := subN (m := 25) (by omega) (by omega)
          rw [if_pos (by simpa using h26), es, Mpu_some]
          exact hk9 _ _ ⟨by rw [eask, if_pos h26], rfl⟩
        · rw [if_neg (by simpa using h26)]
          exact hk9 _ _ ⟨by rw [eask, if_neg h26], rfl⟩
      rintro _ _ ⟨rfl, rfl⟩
      rw [ix, Mpu_some, d2, Mpu_some, ix, Mpu_some, d3, Mpu_some, ix, Mpu_some, d4, Mpu_some]
      exact ⟨by rw [hfo], k04⟩
  · rw [if_neg (by simpa using hlt)]
    obtain rfl : i = 30 := by omega
    refine hk _ _ ⟨?_, rfl⟩
    unfold formOf
    rw [List.find?_eq_none]
    intro g hg
    have := hno g (by rw [List.take_of_length_le (by rw [forms_len]; omega)]; exact hg)
    simpa using this
end Go.Proofs.YtconalffokhplaaGreatDoor

/- scripts: the law's lost. -/
namespace Go.Proofs.YtconalffokhplaaGreatDoor
open Go.X Go.X.Diff
set_option maxRecDepth 100000

theorem split_app_sep {c : UInt8} : ∀ (a b : List UInt8), splitF c (a ++ c :: b) = splitF c a ++ splitF c b
  | [], b => by simp [splitF]
  | x :: a, b => by
    have ih := split_app_sep (c := c) a b
    rw [List.cons_append, splitF, splitF, ih]
    by_cases hx : x = c
    · rw [if_pos hx, if_pos hx]; rfl
    · rw [if_neg hx, if_neg hx]
      cases h : splitF c a with
      | nil => exact absurd h splitF_ne
      | cons y t => rfl
set_option maxHeartbeats 2000000 in
theorem c_lost {H : Heap} {l : List UInt8} (hl : l.length ≤ 1048576) :
    HCalls prg f_syngraphlaw30_lost [str l] H fun u H' => ((listOk l = true ∧ ∃ v, u = .tuple #[v, .bool true] ∧ BufE 1 (H.size ≤ ·) H' v (ints (listV l))) ∨ (listOk l = false ∧ u = .tuple #[.slice none 0 0, .bool false])) ∧ Keep (fun _ => False) H H' := by
  apply sh_syngraphlaw30_lost_calls
  unfold sh_syngraphlaw30_lost
  have vals : List (List UInt8) → List Int := fun p => p.map fun x => ((valF x : Nat) : Int)
  refine J3_i (fun t _ _ h => listOk l = true ∧ BufE 1 (H.size ≤ ·) h t (ints (listV l)) ∧ Keep (fun _ => False) H h) (fun k hk => ?_) ?_
  rotate_left
  · rintro t _ _ h ⟨h1, h2, h3⟩
    exact ⟨.inl ⟨h1, t, rfl, h2⟩, h3⟩
  refine L3_i (fun t w u h => (∃ i : Nat, i ≤ l.length ∧ u = .int .i64 (i : Nat) ∧ ∃ pre cur, splitF 44 (l.take i) = pre ++ [cur] ∧ w = str cur ∧ pre.all numOk = true ∧ BufE 1 (H.size ≤ ·) h t (ints (pre.map fun x => ((valF x : Nat) : Int))) ∧ Keep (fun _ => False) H h) ∨ (u = .int .i64 ((l.length + 1 : Nat) : Int) ∧ listOk l = true ∧ BufE 1 (H.size ≤ ·) h t (ints (listV l)) ∧ Keep (fun _ => False) H h)) (fun _ _ u _ => match u with | .int _ t => l.length + 1 - t.toNat | _ => 0)
    (.inl ⟨0, Nat.zero_le _, rfl, [], [], by simp [splitF], rfl, rfl, BufE.nil, Keep.refl⟩) ?_
  rintro t w u h hI kk hkk
  have ele : ∀ i : Nat, binV .no .leq (.int .i64 (i : Nat)) (.int .i64 (l.length : Nat)) = some (.bool (decide (i ≤ l.length))) := fun i => by
    rw [binV_int]; simp only [intV]; congr 2; rw [decide_eq_decide]; omega
  rcases hI with ⟨i, hi, rfl, pre, cur, hsp, rfl, hok, hb, kh⟩ | ⟨rfl, h1, h2, h3⟩
  rotate_left
  · rw [lenT_str, Mpu_some, ele, Mpu_some, Mcd_bool, if_neg (by simp)]
    exact hk _ _ _ _ ⟨h1, h2, h3⟩
  rw [lenT_str, Mpu_some, ele, Mpu_some, Mcd_bool, if_pos (by simpa using hi)]
  have elt : binV .no .lss (.int .i64 (i : Nat)) (.int .i64 (l.length : Nat)) = some (.bool (decide (i < l.length))) := by
    rw [binV_int]; simp only [intV]; congr 2; rw [decide_eq_decide]; omega
  have hcl : cur.length ≤ i := by
    have := splitF_len (c := 44) (l := l.take i) (x := cur) (by rw [hsp]; simp)
    simp at this; omega
  have hpl : pre.length + 1 ≤ l.length + 1 := by
    have h1 := split_count 44 (l.take i)
    have h2 := List.count_le_length (a := (44 : UInt8)) (l := l.take i)
    rw [hsp, List.length_append, List.length_singleton] at h1
    have h3 : (l.take i).length ≤ l.length := by rw [List.length_take]; omega
    omega
  have hinc := add_one' (n := i) (by omega)
  -- what stands behind a part that is over
  have over : ∀ (z : Value) (k5 : Value → Value → Value → Heap → Prop), (cur ∈ splitF 44 l) → (∀ v h', numOk cur = true → BufE 1 (H.size ≤ ·) h' v (ints ((pre ++ [cur]).map fun x => ((valF x : Nat) : Int))) → Keep (fun _ => False) H h' → k5 v (str []) z h') →
      Mcall prg f_syngraphref30_Number [str cur] h fun t34 h9 => Mpu (extV 0 t34) fun t35 => Mpu (extV 1 t34) fun t36 => Mpu (unV .not t36) fun t38 => Mcd t38 (((listOk l = true ∧ ∃ v, Value.tuple #[.slice none 0 0, .bool false] = .tuple #[v, .bool true] ∧ BufE 1 (H.size ≤ ·) h9 v (ints (listV l))) ∨ (listOk l = false ∧ Value.tuple #[.slice none 0 0, .bool false] = .tuple #[.slice none 0 0, .bool false])) ∧ Keep (fun _ => False) H h9) (
        Mnews h9 T_int 1 (bslV prg T_int 1 [(0, t35)]) fun t41 h10 => Mapp T_int 1 8 h10 t t41 fun t42 h11 => k5 t42 (.string ⟨#[]⟩) z h11) := by
    intro z k5 hmem hk5
    refine call_i (c_ref30Number (by omega)) ?_
    rintro _ h9 ⟨rfl, k9⟩
    simp only [ex20, ex21, Mpu_some, unV_not, Mcd_bool]
    cases hn : numOk cur
    · rw [if_pos (show (!false) = true from rfl)]
      exact ⟨.inr ⟨List.all_eq_false.2 ⟨cur, hmem, by simp [hn]⟩, by trivial⟩, kh.trans k9⟩
    · rw [if_neg (by decide), if_pos rfl, bslI1, Mnews_some]
      generalize hH8 : h9.push (.cells #[.int .i64 ((valF cur : Nat) : Int)] T_int (0, 0)) = h8
      have k8 : Keep (fun _ => False) h9 h8 := by rw [← hH8]; exact Keep.push
      have s8 : h8.size = h9.size + 1 := by rw [← hH8]; simp
      have hx8 : SlE 1 (· = h9.size) h8 (.slice (some ⟨h9.size, 0, none⟩) 1 1) (ints [((valF cur : Nat) : Int)]) :=
        ⟨⟨_, 1, rfl, Nat.le_refl _, .inr ⟨h9.size, 0, rfl, rfl, by rw [rows1_flat, ← hH8]; exact Pt.of push_new⟩⟩, rows1_el, rows1_one fun v hv => by simp at hv; subst hv; rfl⟩
      have gh := kh.1
      have g9 := k9.1
      refine ((hb.keep k9 fun _ _ => id).keep k8 fun _ _ => id).app hx8 (by omega) (by simp; omega) (by show H.size ≤ h8.size; omega) fun v h11 hv k11 => ?_
      refine hk5 v h11 hn ?_ ((kh.trans (k9.trans k8)).fresh k11 fun b hb => hb)
      have e : ints ((pre ++ [cur]).map fun x => ((valF x : Nat) : Int)) = ints (pre.map fun x => ((valF x : Nat) : Int)) ++ ints [((valF cur : Nat) : Int)] := by simp [rows1]
      rw [e]; exact hv
  by_cases hlt : i < l.length
  · have hg : l[i]? = some l[i] := List.getElem?_eq_getElem hlt
    have hix : ixT (str l) (.int .i64 (i : Nat)) = some (.int .u8 l[i].toNat) := ixT_str hg
    have htk : l.take (i + 1) = l.take i ++ [l[i]] := by rw [List.take_add_one, hg]; rfl
    have hdr : l = l.take i ++ l[i] :: l.drop (i + 1) := by rw [← List.drop_eq_getElem_cons hlt, List.take_append_drop]
    have hsl : slT (str l) (some (.int .i64 (i : Nat))) (some (.int .i64 ((i + 1 : Nat) : Int))) = some (str [l[i]]) := by
      rw [slT_str (lo := i) (hi := i + 1) (by omega) (by omega) (by simp [bnd] <;> omega) (by simp [bnd] <;> omega)]
      rw [htk, List.drop_append_of_le_length (by simp; omega), List.drop_eq_nil_of_le (by simp; omega)]; rfl
    generalize l[i] = x at *
    have e44 : binV .no .neq (.int .u8 x.toNat) (.int .u8 44) = some (.bool (!decide (x = 44))) := by
      have := u8_eql (p := x) (q := 44)
      rw [binV_int] at this ⊢
      simp only [intV, Option.some.injEq, Value.bool.injEq] at this ⊢
      rw [← this]; rfl
    refine J3_i (fun t' w' _ h' => ∃ pre' cur', splitF 44 (l.take (i + 1)) = pre' ++ [cur'] ∧ w' = str cur' ∧ pre'.all numOk = true ∧ BufE 1 (H.size ≤ ·) h' t' (ints (pre'.map fun x => ((valF x : Nat) : Int))) ∧ Keep (fun _ => False) H h') (fun k5 hk5 => ?_) ?_
    · rw [Mpu_some, elt, Mpu_some, decide_eq_true hlt, J1_eq, Mif_bool, if_pos rfl, hix, Mpu_some, e44, Mpu_some]
      show Mpu (pickV _ _ _) _
      rw [pickV_bool, if_pos rfl, Mpu_some, Mcd_bool]
      by_cases hx : x = 44
      · rw [if_neg (by simp [hx])]
        subst hx
        have hmem : cur ∈ splitF 44 l := by rw [hdr, split_app_sep, hsp]; simp
        refine over _ _ hmem fun v h' hn hv k' => ?_
        refine hk5 _ _ _ _ ⟨pre ++ [cur], [], by rw [htk, split_snoc_sep, hsp], rfl, by rw [List.all_append, hok]; simp [hn], hv, k'⟩
      · rw [if_pos (by simp [hx]), hinc, Mpu_some, hsl, Mpu_some, str_app (by simp; omega), Mpu_some]
        obtain ⟨pre2, last, q1, q2⟩ := split_snoc hx (l.take i)
        rw [hsp] at q1
        have e1 := List.append_inj' q1 rfl
        obtain ⟨rfl, e2⟩ := e1
        cases e2
        exact hk5 _ _ _ _ ⟨pre, cur ++ [x], by rw [htk, q2], rfl, hok, hb, kh⟩
    · rintro t' _ _ h' ⟨pre', cur', q1, rfl, q3, q4, q5⟩
      rw [hinc, Mpu_some]
      exact hkk _ _ _ _ (.inl ⟨i + 1, by omega, rfl, pre', cur', q1, rfl, q3, q4, q5⟩) (by show l.length + 1 - (i + 1) < l.length + 1 - i; omega)
  · obtain rfl : i = l.length := by omega
    rw [List.take_of_length_le (Nat.le_refl _)] at hsp
    refine J3_i (fun t' _ _ h' => listOk l = true ∧ BufE 1 (H.size ≤ ·) h' t' (ints (listV l)) ∧ Keep (fun _ => False) H h') (fun k5 hk5 => ?_) ?_
    · rw [Mpu_some, elt, Mpu_some, decide_eq_false hlt, J1_eq, Mif_bool, if_neg (by decide)]
      show Mpu (pickV _ _ _) _
      rw [pickV_bool, if_neg (by decide), Mpu_some, Mcd_bool, if_neg (by decide)]
      refine over _ _ (by rw [hsp]; simp) fun v h' hn hv k' => ?_
      refine hk5 _ _ _ _ ⟨?_, ?_, k'⟩
      · unfold listOk; rw [hsp, List.all_append, hok]; simp [hn]
      · unfold listV; rw [hsp]; exact hv
    · rintro t' w' _ h' ⟨q1, q2, q3⟩
      rw [hinc, Mpu_some]
      exact hkk _ _ _ _ (.inr ⟨rfl, q1, q2, q3⟩) (by show l.length + 1 - (l.length + 1) < l.length + 1 - l.length; omega)
end Go.Proofs.YtconalffokhplaaGreatDoor

/- scripts: the plain law: what is read as a line is its only text. -/
namespace Go.Proofs.YtconalffokhplaaGreatDoor
open Go.X Go.X.Diff
set_option maxRecDepth 100000
set_option linter.unusedSimpArgs false
set_option linter.unusedVariables false

theorem join_split (c : UInt8) : ∀ l : List UInt8, joinF [c] (splitF c l) = l
  | [] => rfl
  | x :: l => by
    have ih := join_split c l
    rw [splitF]
    cases h : splitF c l with
    | nil => exact absurd h splitF_ne
    | cons a t =>
      rw [h] at ih
      by_cases hx : x = c
      · rw [if_pos hx, hx, ← ih]; simp [joinF]
      · rw [if_neg hx, ← ih]; simp [joinF]
theorem join_cons {c : UInt8} {w v : List UInt8} {r : List (List UInt8)} : joinF [c] (w :: v :: r) = w ++ c :: joinF [c] (v :: r) := by simp [joinF]
theorem split_join {c : UInt8} : ∀ {ws : List (List UInt8)}, ws ≠ [] → (∀ w ∈ ws, c ∉ w) → splitF c (joinF [c] ws) = ws
  | [], h, _ => absurd rfl h
  | [w], _, h => by
    have : joinF [c] [w] = w := by simp [joinF]
    rw [this]; exact splitF_none (h w (by simp))
  | w :: v :: r, _, h => by
    have ih := split_join (c := c) (ws := v :: r) (by simp) fun x hx => h x (List.mem_cons_of_mem _ hx)
    rw [join_cons, splitF_some (h w (by simp)), ih]
theorem mem_join {c x : UInt8} : ∀ {ws : List (List UInt8)}, x ∈ joinF [c] ws → x = c ∨ ∃ w ∈ ws, x ∈ w
  | [], h => by simp [joinF] at h
  | [w], h => by
    have : joinF [c] [w] = w := by simp [joinF]
    rw [this] at h
    exact .inr ⟨w, by simp, h⟩
  | w :: v :: r, h => by
    rw [join_cons] at h
    rcases List.mem_append.1 h with h | h
    · exact .inr ⟨w, by simp, h⟩
    rcases List.mem_cons.1 h with h | h
    · exact .inl h
    · rcases mem_join h with h | ⟨u, h1, h2⟩
      · exact .inl h
      · exact .inr ⟨u, List.mem_cons_of_mem _ h1, h2⟩
theorem split_not {c : UInt8} : ∀ {l w : List UInt8}, w ∈ splitF c l → c ∉ w
  | [], w, h => by simp [splitF] at h; subst h; simp
  | x :: l, w, h => by
    rw [splitF] at h
    cases hs : splitF c l with
    | nil => exact absurd hs splitF_ne
    | cons a t =>
      have ih : ∀ u ∈ splitF c l, c ∉ u := fun u hu => split_not hu
      rw [hs] at h ih
      by_cases hx : x = c
      · rw [if_pos hx] at h
        rcases List.mem_cons.1 h with rfl | h
        · simp
        · exact ih _ h
      · rw [if_neg hx] at h
        rcases List.mem_cons.1 h with rfl | h
        · simp only [List.mem_cons, not_or]
          exact ⟨fun e => hx e.symm, ih a (by simp)⟩
        · exact ih _ (List.mem_cons_of_mem _ h)

instance : DecidableEq FormA := fun a b => decidable_of_iff (a.word = b.word ∧ a.parts = b.parts ∧ a.kind = b.kind ∧ a.n = b.n ∧ a.ask = b.ask) (by cases a; cases b; simp)
theorem eqL_iff {a b : LineA} : eqL a b = true ↔ a = b := by
  unfold eqL
  simp only [Bool.and_eq_true, decide_eq_true_eq]
  constructor
  · rintro ⟨⟨⟨⟨⟨⟨⟨h1, h2⟩, h3⟩, h4⟩, h5⟩, h6⟩, h7⟩, h8⟩
    cases a; cases b; simp_all
  · rintro rfl; simp
def Key (f : FormA) (l : LineA) : Prop := l.kind = f.kind ∧ l.ask = f.ask ∧ (f.kind = 10 → l.n = f.n)
theorem forms_key : ∀ f ∈ FORMS, ∀ g ∈ FORMS, f.kind = g.kind → f.ask = g.ask → (f.kind = 10 → f.n = g.n) → f = g := by decide +kernel
def LET : List UInt8 := [110, 97, 115, 119, 100, 108]
theorem forms_good : ∀ f ∈ FORMS, f.parts.Nodup ∧ (110 ∈ f.parts → f.kind ≠ 10) ∧ (∀ p ∈ f.parts, p ∈ LET) ∧ (108 ∈ f.parts → f.parts = [108]) ∧ f.word.length ≤ 10 ∧ f.parts.length ≤ 3 ∧ (32 : UInt8) ∉ f.word ∧ (10 : UInt8) ∉ f.word ∧ formOf f.word = some f ∧ 0 ≤ f.n ∧ f.n ≤ 999999999 := by decide +kernel
theorem Key.one {f g : FormA} {l : LineA} (hf : f ∈ FORMS) (hg : g ∈ FORMS) (h : Key f l) (k : Key g l) : f = g :=
  forms_key f hf g hg (h.1.symm.trans k.1) (h.2.1.symm.trans k.2.1) fun e => (h.2.2 e).symm.trans (k.2.2 (by rw [← k.1, h.1, e]))

theorem intS_nat {m : Nat} : intS (m : Int) = decF m := by
  unfold intS
  rw [if_neg (by omega)]; simp
theorem num_back {w : List UInt8} (h : numOk w = true) : intS ((valF w : Nat) : Int) = w := by
  obtain ⟨m, hm, rfl⟩ := numOk_iff.1 h
  rw [valF_dec, intS_nat]
theorem num_lt {w : List UInt8} (h : numOk w = true) : valF w ≤ 999999999 := by
  obtain ⟨m, hm, rfl⟩ := numOk_iff.1 h
  rw [valF_dec]; omega
theorem list_back {w : List UInt8} (h : listOk w = true) : joinF [44] ((listV w).map intS) = w := by
  have : (listV w).map intS = splitF 44 w := by
    unfold listV
    rw [List.map_map]
    conv => rhs; rw [← List.map_id (splitF 44 w)]
    apply List.map_congr_left
    intro x hx
    exact num_back (List.all_eq_true.1 h x hx)
  rw [this, join_split]
theorem readP_self {p : UInt8} {w : List UInt8} {l l' : LineA} (h : readP p w l = some l') : showP p l' = w := by
  unfold readP at h
  split at h
  · rename_i hp; subst hp
    split at h
    · rename_i hn; cases h; exact num_back hn
    · cases h
  split at h
  · rename_i hp; subst hp
    split at h
    · rename_i hn; cases h; exact num_back hn
    · cases h
  split at h
  · rename_i hp; subst hp
    split at h
    · cases h; rfl
    · cases h
  split at h
  · rename_i hp; subst hp
    obtain ⟨x, hx, rfl⟩ := Option.map_eq_some_iff.1 h
    exact (wantP_spec hx).2.2
  split at h
  · rename_i hp; subst hp
    obtain ⟨x, hx, rfl⟩ := Option.map_eq_some_iff.1 h
    exact digits_data hx
  split at h
  · rename_i hp; subst hp
    split at h
    · rename_i hn; cases h; exact list_back hn
    · cases h
  · cases h
theorem let_cases {p : UInt8} (h : p ∈ LET) : p = 110 ∨ p = 97 ∨ p = 115 ∨ p = 119 ∨ p = 100 ∨ p = 108 := by
  unfold LET at h
  simpa using h
theorem readP_other {p q : UInt8} {w : List UInt8} {l l' : LineA} (h : readP q w l = some l') (hp : p ∈ LET) (hn : p ≠ q) : showP p l' = showP p l := by
  unfold readP at h
  split at h
  · rename_i hq; subst hq
    split at h
    · cases h
      rcases let_cases hp with rfl | rfl | rfl | rfl | rfl | rfl <;> first | exact absurd rfl hn | rfl
    · cases h
  split at h
  · rename_i hq; subst hq
    split at h
    · cases h
      rcases let_cases hp with rfl | rfl | rfl | rfl | rfl | rfl <;> first | exact absurd rfl hn | rfl
    · cases h
  split at h
  · rename_i hq; subst hq
    split at h
    · cases h
      rcases let_cases hp with rfl | rfl | rfl | rfl | rfl | rfl <;> first | exact absurd rfl hn | rfl
    · cases h
  split at h
  · rename_i hq; subst hq
    obtain ⟨x, hx, rfl⟩ := Option.map_eq_some_iff.1 h
    rcases let_cases hp with rfl | rfl | rfl | rfl | rfl | rfl <;> first | exact absurd rfl hn | rfl
  split at h
  · rename_i hq; subst hq
    obtain ⟨x, hx, rfl⟩ := Option.map_eq_some_iff.1 h
    rcases let_cases hp with rfl | rfl | rfl | rfl | rfl | rfl <;> first | exact absurd rfl hn | rfl
  split at h
  · rename_i hq; subst hq
    split at h
    · cases h
      rcases let_cases hp with rfl | rfl | rfl | rfl | rfl | rfl <;> first | exact absurd rfl hn | rfl
    · cases h
  · cases h
/-- numbers that can be written, and parts that are not long -/
structure SmallL (l : LineA) : Prop where
  n : 0 ≤ l.n ∧ l.n ≤ 999999999
  a : 0 ≤ l.at' ∧ l.at' ≤ 999999999
  o : ∀ x ∈ l.lost, 0 ≤ x ∧ x ≤ 999999999
  nl : l.name.length ≤ 1000
  dl : l.data.length ≤ 1000
  ll : l.lost.length ≤ 1001
  w : l.want.wf
theorem readP_base {p : UInt8} {w : List UInt8} {l l' : LineA} (h : readP p w l = some l') : l'.kind = l.kind ∧ l'.ask = l.ask ∧ (p ≠ 110 → l'.n = l.n) ∧ (p = 108 → w ≠ []) ∧ (w.length ≤ 1000 → SmallL l → SmallL l') := by
  unfold readP at h
  split at h
  · rename_i hp; subst hp
    split at h
    · rename_i hn; cases h
      have := num_lt hn
      exact ⟨rfl, rfl, fun e => absurd rfl e, fun e => absurd e (by decide), fun _ s => ⟨show (0 : Int) ≤ ((valF w : Nat) : Int) ∧ ((valF w : Nat) : Int) ≤ 999999999 by omega, s.a, s.o, s.nl, s.dl, s.ll, s.w⟩⟩
    · cases h
  split at h
  · rename_i hp; subst hp
    split at h
    · rename_i hn; cases h
      have := num_lt hn
      exact ⟨rfl, rfl, fun _ => rfl, fun e => absurd e (by decide), fun _ s => ⟨s.n, show (0 : Int) ≤ ((valF w : Nat) : Int) ∧ ((valF w : Nat) : Int) ≤ 999999999 by omega, s.o, s.nl, s.dl, s.ll, s.w⟩⟩
    · cases h
  split at h
  · rename_i hp; subst hp
    split at h
    · cases h
      exact ⟨rfl, rfl, fun _ => rfl, fun e => absurd e (by decide), fun hw s => ⟨s.n, s.a, s.o, hw, s.dl, s.ll, s.w⟩⟩
    · cases h
  split at h
  · rename_i hp; subst hp
    obtain ⟨x, hx, rfl⟩ := Option.map_eq_some_iff.1 h
    exact ⟨rfl, rfl, fun _ => rfl, fun e => absurd e (by decide), fun hw s => ⟨s.n, s.a, s.o, s.nl, s.dl, s.ll, (wantP_spec hx).1⟩⟩
  split at h
  · rename_i hp; subst hp
    obtain ⟨x, hx, rfl⟩ := Option.map_eq_some_iff.1 h
    refine ⟨rfl, rfl, fun _ => rfl, fun e => absurd e (by decide), fun hw s => ⟨s.n, s.a, s.o, s.nl, ?_, s.ll, s.w⟩⟩
    show x.length ≤ 1000
    unfold dataF at hx
    split at hx
    · cases hx; simp
    · split at hx
      · cases hx
        have := pairs_len w
        omega
      · cases hx
  split at h
  · rename_i hp; subst hp
    split at h
    · rename_i hn; cases h
      refine ⟨rfl, rfl, fun _ => rfl, fun _ e => ?_, fun hw s => ⟨s.n, s.a, fun x hx => ?_, s.nl, s.dl, ?_, s.w⟩⟩
      · subst e; revert hn; decide +kernel
      · obtain ⟨y, hy, rfl⟩ := List.mem_map.1 hx
        have := num_lt (List.all_eq_true.1 hn y hy)
        omega
      · show (listV w).length ≤ 1001
        unfold listV
        rw [List.length_map, split_count]
        have := List.count_le_length (a := (44 : UInt8)) (l := w)
        omega
    · cases h
  · cases h
theorem readAll_spec : ∀ {ps : List UInt8} {ws : List (List UInt8)} {l l' : LineA}, readAll ps ws l = some l' → ps.length = ws.length → ps.Nodup → (∀ p ∈ ps, p ∈ LET) →
    ps.map (showP · l') = ws ∧ l'.kind = l.kind ∧ l'.ask = l.ask ∧ (110 ∉ ps → l'.n = l.n) ∧ (∀ p ∈ LET, p ∉ ps → showP p l' = showP p l) ∧ (108 ∈ ps → showP 108 l' ≠ []) ∧ ((∀ w ∈ ws, w.length ≤ 1000) → SmallL l → SmallL l')
  | [], [], l, l', h, _, _, _ => by
    simp only [readAll, Option.some.injEq] at h
    subst h
    exact ⟨rfl, rfl, rfl, fun _ => rfl, fun _ _ _ => rfl, (fun h => absurd h (by simp)), fun _ s => s⟩
  | [], _ :: _, _, _, _, h, _, _ => by simp at h
  | _ :: _, [], _, _, _, h, _, _ => by simp at h
  | p :: ps, w :: ws, l, l', h, hl, hd, hL => by
    rw [readAll] at h
    obtain ⟨m, hm, hr⟩ := Option.bind_eq_some_iff.1 h
    obtain ⟨hd1, hd2⟩ := List.nodup_cons.1 hd
    obtain ⟨e1, e2, e3, e4, e5, e6, e7⟩ := readAll_spec hr (by simpa using hl) hd2 fun q hq => hL q (List.mem_cons_of_mem _ hq)
    obtain ⟨b1, b2, b3, b4, b5⟩ := readP_base hm
    have hs : showP p l' = w := by rw [e5 p (hL p (by simp)) hd1, readP_self hm]
    refine ⟨by rw [List.map_cons, e1, hs], e2.trans b1, e3.trans b2, fun hn => ?_, fun q hq hn => ?_, fun h8 => ?_, fun hw s => ?_⟩
    · simp only [List.mem_cons, not_or] at hn
      rw [e4 hn.2, b3 fun e => hn.1 e.symm]
    · simp only [List.mem_cons, not_or] at hn
      rw [e5 q hq hn.2, readP_other hm hq hn.1]
    · rcases List.mem_cons.1 h8 with rfl | h8
      · rw [hs]; exact b4 rfl
      · exact e6 h8
    · exact e7 (fun v hv => hw v (List.mem_cons_of_mem _ hv)) (b5 (hw w (by simp)) s)

theorem words_map {ps : List UInt8} {l : LineA} (h : 108 ∈ ps → showP 108 l ≠ []) : ps.filterMap (wordP l) = ps.map (showP · l) := by
  induction ps with
  | nil => rfl
  | cons p ps ih =>
    have hp : wordP l p = some (showP p l) := by
      unfold wordP
      rw [if_pos]
      by_cases e : p = 108
      · subst e; exact .inl (h (by simp))
      · exact .inr e
    rw [List.filterMap_cons, hp, List.map_cons, ih fun hm => h (List.mem_cons_of_mem _ hm)]
theorem base_small {f : FormA} (hf : f ∈ FORMS) : SmallL (baseL f) := by
  obtain ⟨_, _, _, _, _, _, _, _, _, h1, h2⟩ := forms_good f hf
  exact ⟨⟨h1, h2⟩, show (0 : Int) ≤ 0 ∧ (0 : Int) ≤ 999999999 by decide, fun x hx => absurd hx (by simp [baseL, zeroL]), by simp [baseL, zeroL], by simp [baseL, zeroL], by simp [baseL, zeroL], zeroW_wf⟩
theorem parseForm_spec {f : FormA} (hf : f ∈ FORMS) {ws : List (List UInt8)} {l : LineA} (h : parseForm f ws = some l) (hw : ws.headD [] = f.word) (hne : ws ≠ []) : Key f l ∧ wordsF f l = ws ∧ ((∀ w ∈ ws, w.length ≤ 1000) → SmallL l) := by
  obtain ⟨g1, g2, g3, g4, _, _, _, _, _, _, _⟩ := forms_good f hf
  cases ws with
  | nil => exact absurd rfl hne
  | cons w0 ws =>
    simp only [List.headD_cons] at hw
    subst hw
    unfold parseForm at h
    split at h
    · rename_i hc
      obtain ⟨c1, c2⟩ := hc
      cases h
      have : ws = [] := by simpa using c1
      subst this
      refine ⟨⟨rfl, rfl, fun _ => rfl⟩, ?_, fun _ => base_small hf⟩
      unfold wordsF
      rw [c2]; rfl
    · split at h
      · rename_i _ hc
        have hl : f.parts.length = ws.length := by simp at hc; omega
        obtain ⟨e1, e2, e3, e4, e5, e6, e7⟩ := readAll_spec h (by simpa using hl) g1 g3
        refine ⟨⟨e2, e3, fun hk => e4 fun h110 => g2 h110 hk⟩, ?_, fun hws => e7 (fun w hw' => hws w (by simp at hw' ⊢; exact .inr hw')) (base_small hf)⟩
        unfold wordsF
        rw [words_map e6, e1]; rfl
      · cases h
theorem parse_spec {s : List UInt8} {l : LineA} (h : parseL s = some l) : ∃ f ∈ FORMS, Key f l ∧ joinF [32] (wordsF f l) = s ∧ (s.length ≤ 1000 → SmallL l) := by
  unfold parseL at h
  split at h
  · cases h
  obtain ⟨f, hf, hp⟩ := Option.bind_eq_some_iff.1 h
  have hm : f ∈ FORMS := List.mem_of_find?_eq_some hf
  have hw := List.find?_some hf
  simp only [decide_eq_true_eq] at hw
  obtain ⟨h1, h2, h3⟩ := parseForm_spec hm hp hw.symm splitF_ne
  refine ⟨f, hm, h1, by rw [h2, join_split], fun hl => h3 fun w hw => ?_⟩
  have := splitF_len hw
  omega
theorem parse_inj {s t : List UInt8} {l : LineA} (h : parseL s = some l) (k : parseL t = some l) : s = t := by
  obtain ⟨f, f1, f2, f3, _⟩ := parse_spec h
  obtain ⟨g, g1, g2, g3, _⟩ := parse_spec k
  obtain rfl := Key.one f1 g1 f2 g2
  rw [← f3, g3]
theorem showBy_some {l : LineA} {f : FormA} {s : List UInt8} (h : showBy l f = some s) : parseL s = some l := by
  unfold showBy at h
  split at h
  · rename_i o ho
    split at h
    · rename_i he
      cases h
      rw [ho, eqL_iff.1 he]
    · cases h
  · cases h
theorem show_some {l : LineA} {s : List UInt8} (h : showL l = some s) : parseL s = some l := by
  obtain ⟨f, _, hf⟩ := List.exists_of_findSome?_eq_some h
  exact showBy_some hf
theorem findSome_one {α β : Type} {g : α → Option β} {b : β} : ∀ {l : List α} {x : α}, x ∈ l → g x = some b → (∀ y ∈ l, ∀ c, g y = some c → c = b) → l.findSome? g = some b
  | [], _, h, _, _ => by cases h
  | a :: l, x, h, hx, hu => by
    rw [List.findSome?_cons]
    cases ha : g a with
    | some c => rw [hu a (by simp) c ha]
    | none =>
      rcases List.mem_cons.1 h with rfl | h
      · rw [ha] at hx; cases hx
      · exact findSome_one h hx fun y hy => hu y (List.mem_cons_of_mem _ hy)
/-- WHAT IS READ IS SHOWN AS IT WAS -/
theorem show_parse {s : List UInt8} {l : LineA} (h : parseL s = some l) : showL l = some s := by
  obtain ⟨f, f1, f2, f3, _⟩ := parse_spec h
  have hb : showBy l f = some s := by
    unfold showBy
    rw [f3, h]
    simp only
    rw [if_pos (eqL_iff.2 rfl)]
  exact findSome_one f1 hb fun g _ t ht => parse_inj (showBy_some ht) h

/- the lines that have a text -/
theorem num_show {n : Int} (h : 0 ≤ n ∧ n ≤ 999999999) : numOk (intS n) = true ∧ ((valF (intS n) : Nat) : Int) = n := by
  obtain ⟨m, rfl⟩ : ∃ m : Nat, n = m := ⟨n.toNat, by omega⟩
  rw [intS_nat, valF_dec]
  exact ⟨numOk_iff.2 ⟨m, by omega, rfl⟩, rfl⟩
theorem num_chars {n : Int} (h : 0 ≤ n ∧ n ≤ 999999999) : ∀ x ∈ intS n, isD x := by
  obtain ⟨m, rfl⟩ : ∃ m : Nat, n = m := ⟨n.toNat, by omega⟩
  rw [intS_nat]
  exact decF_digits m
theorem list_show {l : List Int} (hne : l ≠ []) (h : ∀ x ∈ l, 0 ≤ x ∧ x ≤ 999999999) : listOk (joinF [44] (l.map intS)) = true ∧ listV (joinF [44] (l.map intS)) = l := by
  have hs : splitF 44 (joinF [44] (l.map intS)) = l.map intS := split_join (by simpa using hne) fun w hw hm => by
    obtain ⟨x, hx, rfl⟩ := List.mem_map.1 hw
    have := num_chars (h x hx) _ hm
    unfold isD at this
    have e : (44 : UInt8).toNat = 44 := rfl
    omega
  unfold listOk listV
  rw [hs]
  constructor
  · rw [List.all_eq_true]
    intro w hw
    obtain ⟨x, hx, rfl⟩ := List.mem_map.1 hw
    exact (num_show (h x hx)).1
  · rw [List.map_map]
    conv => rhs; rw [← List.map_id l]
    apply List.map_congr_left
    intro x hx
    exact (num_show (h x hx)).2
def CharOk (x : UInt8) : Prop := x.toNat ≠ 32 ∧ x.toNat ≠ 10
theorem hexD_char {n : Nat} (h : n < 16) : CharOk (hexD n) := by
  unfold CharOk hexD
  split
  · rw [UInt8.toNat_ofNat']; omega
  · rw [UInt8.toNat_ofNat']; omega
theorem show_chars {p : UInt8} {l : LineA} (h : SmallL l) (hp : p = 110 ∨ p = 97 ∨ p = 100 ∨ p = 108) : ∀ x ∈ showP p l, CharOk x := by
  have hd : ∀ x, isD x → CharOk x := fun x hx => by unfold isD at hx; unfold CharOk; omega
  intro x hx
  rcases hp with rfl | rfl | rfl | rfl
  · exact hd x (num_chars h.n x hx)
  · exact hd x (num_chars h.a x hx)
  · have hx : x ∈ digitsF l.data := hx
    unfold digitsF at hx
    split at hx
    · simp at hx; subst hx; unfold CharOk; decide
    · obtain ⟨w, hw, hxw⟩ := List.mem_flatten.1 hx
      obtain ⟨c, _, rfl⟩ := List.mem_map.1 hw
      have hc := c.toNat_lt
      unfold two at hxw
      simp only [List.mem_cons, List.not_mem_nil, or_false] at hxw
      rcases hxw with rfl | rfl
      · exact hexD_char (by omega)
      · exact hexD_char (by omega)
  · have hx : x ∈ joinF [44] (l.lost.map intS) := hx
    rcases mem_join hx with rfl | ⟨w, hw, hxw⟩
    · unfold CharOk; decide
    · obtain ⟨y, hy, rfl⟩ := List.mem_map.1 hw
      exact hd x (num_chars (h.o y hy) x hxw)
theorem parse_of {f : FormA} (hf : f ∈ FORMS) {l : LineA} (h : SmallL l) (hp : ∀ p ∈ f.parts, p = 110 ∨ p = 97 ∨ p = 100 ∨ p = 108) (hr : parseForm f (wordsF f l) = some l) : ∃ s, showL l = some s := by
  obtain ⟨_, _, _, _, _, _, g7, g8, g9, _, _⟩ := forms_good f hf
  have hch : ∀ w ∈ wordsF f l, (32 : UInt8) ∉ w ∧ (10 : UInt8) ∉ w := by
    intro w hw
    unfold wordsF at hw
    rcases List.mem_cons.1 hw with rfl | hw
    · exact ⟨g7, g8⟩
    obtain ⟨p, hpm, hpw⟩ := List.mem_filterMap.1 hw
    unfold wordP at hpw
    split at hpw
    · cases hpw
      have := show_chars h (hp p hpm)
      exact ⟨fun hm => (this _ hm).1 rfl, fun hm => (this _ hm).2 rfl⟩
    · cases hpw
  have hne : wordsF f l ≠ [] := by unfold wordsF; simp
  have h10 : (10 : UInt8) ∉ joinF [32] (wordsF f l) := fun hm => by
    rcases mem_join hm with e | ⟨w, hw, hx⟩
    · cases e
    · exact (hch w hw).2 hx
  have hp : parseL (joinF [32] (wordsF f l)) = some l := by
    unfold parseL
    rw [if_neg h10, split_join hne fun w hw => (hch w hw).1]
    have : (wordsF f l).headD [] = f.word := rfl
    rw [this, g9]
    exact hr
  exact ⟨_, show_parse hp⟩
theorem plain0 {f : FormA} (hf : f ∈ FORMS) (hp : f.parts = []) : ∃ s, showL (baseL f) = some s :=
  parse_of hf (base_small hf) (by rw [hp]; intro p h; cases h) (by
    unfold wordsF parseForm
    rw [hp]; rfl)
theorem wordsF_of {f : FormA} {l : LineA} (h : 108 ∉ f.parts) : wordsF f l = f.word :: f.parts.map (showP · l) := by
  unfold wordsF
  rw [words_map fun hm => absurd hm h]
theorem read_n {l m : LineA} (h : 0 ≤ l.n ∧ l.n ≤ 999999999) : readP 110 (intS l.n) m = some { m with n := l.n } := by
  unfold readP
  rw [if_pos rfl, if_pos (num_show h).1, (num_show h).2]
theorem read_a {l m : LineA} (h : 0 ≤ l.at' ∧ l.at' ≤ 999999999) : readP 97 (intS l.at') m = some { m with at' := l.at' } := by
  unfold readP
  rw [if_neg (by decide), if_pos rfl, if_pos (num_show h).1, (num_show h).2]
theorem read_d {l m : LineA} : readP 100 (digitsF l.data) m = some { m with data := l.data } := by
  unfold readP
  rw [if_neg (by decide), if_neg (by decide), if_neg (by decide), if_neg (by decide), if_pos rfl, data_digits]; rfl
theorem read_l {l m : LineA} (hne : l.lost ≠ []) (h : ∀ x ∈ l.lost, 0 ≤ x ∧ x ≤ 999999999) : readP 108 (joinF [44] (l.lost.map intS)) m = some { m with lost := l.lost } := by
  unfold readP
  rw [if_neg (by decide), if_neg (by decide), if_neg (by decide), if_neg (by decide), if_neg (by decide), if_pos rfl, if_pos (list_show hne h).1, (list_show hne h).2]
theorem form_n {f : FormA} {l : LineA} (hp : f.parts = [110]) (h : 0 ≤ l.n ∧ l.n ≤ 999999999) : parseForm f (wordsF f l) = some { baseL f with n := l.n } := by
  rw [wordsF_of (by rw [hp]; decide)]
  unfold parseForm
  rw [hp, if_neg (fun h => by simp at h), if_pos (by simp)]
  show (readP 110 (intS l.n) (baseL f)).bind (readAll [] []) = _
  rw [read_n h]; rfl
theorem form_a {f : FormA} {l : LineA} (hp : f.parts = [97]) (h : 0 ≤ l.at' ∧ l.at' ≤ 999999999) : parseForm f (wordsF f l) = some { baseL f with at' := l.at' } := by
  rw [wordsF_of (by rw [hp]; decide)]
  unfold parseForm
  rw [hp, if_neg (fun h => by simp at h), if_pos (by simp)]
  show (readP 97 (intS l.at') (baseL f)).bind (readAll [] []) = _
  rw [read_a h]; rfl
theorem form_na {f : FormA} {l : LineA} (hp : f.parts = [110, 97]) (hn : 0 ≤ l.n ∧ l.n ≤ 999999999) (h : 0 ≤ l.at' ∧ l.at' ≤ 999999999) : parseForm f (wordsF f l) = some { baseL f with n := l.n, at' := l.at' } := by
  rw [wordsF_of (by rw [hp]; decide)]
  unfold parseForm
  rw [hp, if_neg (fun h => by simp at h), if_pos (by simp)]
  show (readP 110 (intS l.n) (baseL f)).bind (readAll [97] [intS l.at']) = _
  rw [read_n hn]
  show (readP 97 (intS l.at') _).bind (readAll [] []) = _
  rw [read_a h]; rfl
theorem form_nad {f : FormA} {l : LineA} (hp : f.parts = [110, 97, 100]) (hn : 0 ≤ l.n ∧ l.n ≤ 999999999) (h : 0 ≤ l.at' ∧ l.at' ≤ 999999999) : parseForm f (wordsF f l) = some { baseL f with n := l.n, at' := l.at', data := l.data } := by
  rw [wordsF_of (by rw [hp]; decide)]
  unfold parseForm
  rw [hp, if_neg (fun h => by simp at h), if_pos (by simp)]
  show (readP 110 (intS l.n) (baseL f)).bind (readAll [97, 100] [intS l.at', digitsF l.data]) = _
  rw [read_n hn]
  show (readP 97 (intS l.at') _).bind (readAll [100] [digitsF l.data]) = _
  rw [read_a h]
  show (readP 100 (digitsF l.data) _).bind (readAll [] []) = _
  rw [read_d]; rfl
theorem form_l {f : FormA} {l : LineA} (hp : f.parts = [108]) (h : ∀ x ∈ l.lost, 0 ≤ x ∧ x ≤ 999999999) : parseForm f (wordsF f l) = some { baseL f with lost := l.lost } := by
  unfold parseForm wordsF
  rw [hp]
  by_cases hne : l.lost = []
  · have : wordP l 108 = none := by
      unfold wordP showP
      rw [hne]
      rw [if_neg]
      rintro (h | h)
      · exact h rfl
      · exact h rfl
    rw [List.filterMap_cons, this]
    rw [if_pos ⟨rfl, rfl⟩]
    have e : (baseL f) = { baseL f with lost := l.lost } := by rw [hne]; rfl
    rw [← e]
  · have hj : joinF [44] (l.lost.map intS) ≠ [] := fun e => by
      have := (list_show hne h).1
      rw [e] at this
      revert this; decide +kernel
    have : wordP l 108 = some (joinF [44] (l.lost.map intS)) := by
      unfold wordP
      rw [if_pos (.inl hj)]; rfl
    rw [List.filterMap_cons, this]
    rw [if_neg (fun h => by simp at h), if_pos (by simp)]
    show (readP 108 (joinF [44] (l.lost.map intS)) (baseL f)).bind (readAll [] []) = _
    rw [read_l hne h]; rfl

/-- the lines of the law that have a text in any case -/
def plainL (l : LineA) : Prop :=
  (1 ≤ l.ask ∧ l.ask ≤ 4 ∧ l = { zeroL with ask := l.ask }) ∨ (∃ k, (k = 2 ∨ k = 3 ∨ k = 14 ∨ k = 15) ∧ l = { zeroL with kind := k }) ∨
  (∃ k, (k = 4 ∨ k = 5 ∨ k = 6 ∨ k = 11) ∧ l = { zeroL with kind := k, n := l.n }) ∨ (∃ k, (k = 1 ∨ k = 9) ∧ l = { zeroL with kind := k, at' := l.at' }) ∨
  l = { zeroL with kind := 7, n := l.n, at' := l.at' } ∨ l = { zeroL with kind := 13, n := l.n, at' := l.at', data := l.data } ∨ l = { zeroL with kind := 12, lost := l.lost }
theorem form_at {k n a : Int} {ps : List UInt8} (h : (FORMS.find? fun f => decide (f.kind = k ∧ f.n = n ∧ f.ask = a ∧ f.parts = ps)).isSome = true) : ∃ f ∈ FORMS, f.parts = ps ∧ baseL f = { zeroL with kind := k, n := n, ask := a } := by
  obtain ⟨f, hf⟩ := Option.isSome_iff_exists.1 h
  have hw := List.find?_some hf
  simp only [decide_eq_true_eq] at hw
  obtain ⟨rfl, rfl, rfl, rfl⟩ := hw
  exact ⟨f, List.mem_of_find?_eq_some hf, rfl, rfl⟩
theorem plain_shows {l : LineA} (h : SmallL l) (hp : plainL l) : ∃ s, showL l = some s := by
  rcases hp with ⟨h1, h4, e⟩ | ⟨k, hk, e⟩ | ⟨k, hk, e⟩ | ⟨k, hk, e⟩ | e | e | e
  · have : l.ask = 1 ∨ l.ask = 2 ∨ l.ask = 3 ∨ l.ask = 4 := by omega
    generalize l.ask = a at *
    subst e
    obtain ⟨f, f1, f2, f3⟩ : ∃ f ∈ FORMS, f.parts = [] ∧ baseL f = { zeroL with kind := 0, n := 0, ask := a } := by
      rcases this with rfl | rfl | rfl | rfl <;> exact form_at (by decide +kernel)
    have := plain0 f1 f2
    rwa [f3] at this
  · subst e
    obtain ⟨f, f1, f2, f3⟩ : ∃ f ∈ FORMS, f.parts = [] ∧ baseL f = { zeroL with kind := k, n := 0, ask := 0 } := by
      rcases hk with rfl | rfl | rfl | rfl <;> exact form_at (by decide +kernel)
    have := plain0 f1 f2
    rwa [f3] at this
  · obtain ⟨f, f1, f2, f3⟩ : ∃ f ∈ FORMS, f.parts = [110] ∧ baseL f = { zeroL with kind := k, n := 0, ask := 0 } := by
      rcases hk with rfl | rfl | rfl | rfl <;> exact form_at (by decide +kernel)
    refine parse_of f1 h (by rw [f2]; simp) ?_
    rw [form_n f2 h.n, f3]
    exact congrArg some e.symm
  · obtain ⟨f, f1, f2, f3⟩ : ∃ f ∈ FORMS, f.parts = [97] ∧ baseL f = { zeroL with kind := k, n := 0, ask := 0 } := by
      rcases hk with rfl | rfl <;> exact form_at (by decide +kernel)
    refine parse_of f1 h (by rw [f2]; simp) ?_
    rw [form_a f2 h.a, f3]
    exact congrArg some e.symm
  · obtain ⟨f, f1, f2, f3⟩ : ∃ f ∈ FORMS, f.parts = [110, 97] ∧ baseL f = { zeroL with kind := 7, n := 0, ask := 0 } := form_at (by decide +kernel)
    refine parse_of f1 h (by rw [f2]; simp) ?_
    rw [form_na f2 h.n h.a, f3]
    exact congrArg some e.symm
  · obtain ⟨f, f1, f2, f3⟩ : ∃ f ∈ FORMS, f.parts = [110, 97, 100] ∧ baseL f = { zeroL with kind := 13, n := 0, ask := 0 } := form_at (by decide +kernel)
    refine parse_of f1 h (by rw [f2]; simp) ?_
    rw [form_nad f2 h.n h.a, f3]
    exact congrArg some e.symm
  · obtain ⟨f, f1, f2, f3⟩ : ∃ f ∈ FORMS, f.parts = [108] ∧ baseL f = { zeroL with kind := 12, n := 0, ask := 0 } := form_at (by decide +kernel)
    refine parse_of f1 h (by rw [f2]; simp) ?_
    rw [form_l f2 h.o, f3]
    exact congrArg some e.symm

/- how long the words can be -/
theorem total_cons {w : List UInt8} {r : List (List UInt8)} : total (w :: r) = w.length + total r := by unfold total; simp
theorem words_total {l : LineA} (hn : rng64 l.n) (ha : rng64 l.at') (ho : ∀ x ∈ l.lost, rng64 x) (hnl : l.name.length ≤ 1000) (hdl : l.data.length ≤ 1000) (hll : l.lost.length ≤ 1001) (hw : l.want.wf) : ∀ f ∈ FORMS, total (wordsF f l) ≤ 1000000 := by
  intro f hf
  obtain ⟨_, _, _, _, g5, g6, _⟩ := forms_good f hf
  have hs : ∀ p, (showP p l).length ≤ 30000 := by
    intro p
    unfold showP
    split
    · have := intS_len hn; omega
    split
    · have := intS_len ha; omega
    split
    · omega
    split
    · have := wantS_len hw; omega
    split
    · unfold digitsF
      split
      · simp
      · rw [(two_all l.data).2]; omega
    · have h1 := join_len [44] (l.lost.map intS)
      have h2 := Go.Proofs.YtconalffokhplaaGreatDoor.flat_le (f := intS) (n := 21) (l := l.lost) fun x hx => intS_len (ho x hx)
      unfold total at h1
      simp only [List.length_map, List.length_singleton] at h1
      omega
  have : ∀ ps : List UInt8, total (ps.filterMap (wordP l)) ≤ ps.length * 30000 := by
    intro ps
    induction ps with
    | nil => simp [total]
    | cons p ps ih =>
      rw [List.filterMap_cons]
      have := hs p
      rw [List.length_cons, Nat.succ_mul]
      split
      · omega
      · rename_i w hw
        unfold wordP at hw
        split at hw
        · cases hw
          rw [total_cons]; omega
        · cases hw
  have h := this f.parts
  unfold wordsF
  rw [total_cons]; omega
end Go.Proofs.YtconalffokhplaaGreatDoor

