/- JOINED: V126 -/
import Derived.Test.YtconalffokhplaaGreatDoorG2
import Derived.Test.YtconalffokhplaaGreatDoorGW
set_option linter.unusedSimpArgs false
set_option linter.unusedVariables false
/- The law's awake, and ManifestNames. -/
namespace Go.Proofs.YtconalffokhplaaGreatDoor
open Go.X Go.X.Diff
set_option maxRecDepth 100000

theorem c_awake19 {H : Heap} (hT : VerT H) : HCalls prg f_syngraphlaw19_awake [] H fun u H' => u = .bool true ∧ Keep (fun _ => False) H H' := by
  apply sh_syngraphlaw19_awake_calls
  unfold sh_syngraphlaw19_awake
  refine call_i (c_ParseA hT) ?_
  rintro _ h1 ⟨⟨vd, vc, vf, P, rfl, hv, hP⟩, k1⟩
  simp only [ex20, ex21, Mpu_some, z_Man, Mnew_some]
  generalize hH2 : h1.push (.cells (manC zeroM nilS nilS nilS).toArray T_manifest_Manifest (0, 0)) = h2
  have k2 : Keep (fun _ => False) h1 h2 := by rw [← hH2]; exact Keep.push
  have a2 : At h2 h1.size (manC zeroM nilS nilS nilS) := by rw [← hH2]; exact At.push
  have w := hv.wf
  obtain ⟨h3, st3, a3, k3⟩ := a2.st (n := 8) (ds := manC mA2 vd vc vf) (manC_len zeroM_wf) (manC_len w) hv.one
  have g1 := k1.1
  have k03 : Keep (fun _ => False) H h3 := (k1.trans k2).fresh k3 fun b hb => by omega
  have hv3 := (hv.keep k2 fun _ _ => id).keep k3 fun b hb e => by have := hP b hb; omega
  have T3 := hT.keep k03 fun _ h => h.elim
  rw [st3, Mwr_some, man_ld a3 w, Mpu_some]
  have g2 := k2.1
  have g3 := k3.1
  refine call_i (c_Show0 hv3 (fun b hb => by have := hP b hb; omega) rfl (by decide) (by decide) T3.ops T3.pow) ?_
  rintro _ h4 ⟨rfl, k4⟩
  have a4 := a3.keep k4 id
  have i0 : binV .no .eql (.int .i64 0) (.int .i64 0) = some (.bool true) := rfl
  have i1 : binV .no .eql (.int .i64 1) (.int .i64 1) = some (.bool true) := rfl
  have es0 : binV .no .eql (str (manS mA2)) (str awakeT) = some (.bool true) := by rw [str_eql, mA2_S, decide_eq_true rfl]
  have es : binV .no .eql (str (manS mA2)) (.string ⟨#[112, 97, 99, 107, 97, 103, 101, 32, 104, 101, 108, 108, 111, 32, 49, 46, 48, 46, 48, 10, 110, 101, 101, 100, 115, 32, 108, 105, 98, 99, 32, 94, 50, 46, 49, 46, 48, 10]⟩) = some (.bool true) := es0
  have en : binV .no .eql (str mA2.name) (.string ⟨#[104, 101, 108, 108, 111]⟩) = some (.bool true) := by
    have := str_eql (q := .no) (a := mA2.name) (b := helloB)
    rw [decide_eq_true (show mA2.name = helloB from rfl)] at this; exact this
  have d0 := man_name a4
  have g5 := (man_get a4 w).1
  have ld : lenV vd = some (.int .i64 1) := hv3.d.len
  simp only [mA2_ok, ex20, ex21, i0, i1, es, en, d0, g5, ld, fld_ptr, Nat.zero_add, Nat.add_zero, unV_not, Bool.not_true, Bool.not_false, Mif_bool, Mif_undef, pickV_bool, Mcd_bool, Mpu_some, if_true, if_false, Bool.false_eq_true, Bool.true_eq_false, decide_true, decide_false, reduceCtorEq, J1_eq, ex20, ex21, ex30, ex31, ex32, Mre_ok, Mre_nil]
  refine call_i (c_Name (l := [97, 45, 49]) (by simp)) ?_
  rintro _ h5 ⟨rfl, k5⟩
  have hn : nameOk [97, 45, 49] = true := by decide +kernel
  simp only [hn, unV_not, Bool.not_true, Bool.not_false, Mif_bool, Mif_undef, pickV_bool, Mcd_bool, Mpu_some, if_true, if_false, Bool.false_eq_true, Bool.true_eq_false, decide_true, decide_false, reduceCtorEq, J1_eq, ex20, ex21, ex30, ex31, ex32, Mre_ok, Mre_nil]
  exact ⟨by trivial, k03.trans (k4.trans k5)⟩

theorem c_ManifestNames {H : Heap} {s : List UInt8} (hs : s.length ≤ 9223372036854775807) (hT : VerT H) :
    HCalls prg f_syngraphlaw19_ManifestNames [str s] H fun u H' => u = .bool true ∧ Keep (fun _ => False) H H' := by
  apply sh_syngraphlaw19_ManifestNames_calls
  unfold sh_syngraphlaw19_ManifestNames
  refine call_i (c_Name hs) ?_
  rintro _ h1 ⟨rfl, k1⟩
  have e1 : binV .no .leq (.int .i64 (s.length : Nat)) (.int .i64 32) = some (.bool (decide (s.length ≤ 32))) := by
    rw [binV_int]; simp only [intV]; congr 2; rw [decide_eq_decide]; omega
  rw [lenT_str, Mpu_some, e1, Mpu_some]
  have fin : ∀ h, Keep (fun _ => False) H h → Mcall prg f_syngraphlaw19_awake [] h fun u h7 => u = Value.bool true ∧ Keep (fun _ => False) H h7 := by
    intro h kh
    refine call_i (c_awake19 (hT.keep kh fun _ h => h.elim)) ?_
    rintro _ h6 ⟨rfl, k6⟩
    exact ⟨rfl, kh.trans k6⟩
  cases hl : decide (s.length ≤ 32)
  · have hno : nameOk s = false := by
      cases h : nameOk s
      · rfl
      · exact absurd (nameOk_len h) (of_decide_eq_false hl)
    simp only [hno, eq_bool, beq_self_eq_true, unV_not, Bool.not_true, Bool.not_false, Mif_bool, Mif_undef, pickV_bool, Mcd_bool, Mpu_some, if_true, if_false, Bool.false_eq_true, Bool.true_eq_false, decide_true, decide_false, reduceCtorEq, J1_eq, ex20, ex21, ex30, ex31, ex32, Mre_ok, Mre_nil]
    exact fin _ k1
  · simp only [unV_not, Bool.not_true, Bool.not_false, Mif_bool, Mif_undef, pickV_bool, Mcd_bool, Mpu_some, if_true, if_false, Bool.false_eq_true, Bool.true_eq_false, decide_true, decide_false, reduceCtorEq, J1_eq, ex20, ex21, ex30, ex31, ex32, Mre_ok, Mre_nil]
    refine call_i c_refName ?_
    rintro _ _ ⟨rfl, rfl⟩
    simp only [eq_bool, beq_self_eq_true, unV_not, Bool.not_true, Bool.not_false, Mif_bool, Mif_undef, pickV_bool, Mcd_bool, Mpu_some, if_true, if_false, Bool.false_eq_true, Bool.true_eq_false, decide_true, decide_false, reduceCtorEq, J1_eq, ex20, ex21, ex30, ex31, ex32, Mre_ok, Mre_nil]
    exact fin _ k1
end Go.Proofs.YtconalffokhplaaGreatDoor
