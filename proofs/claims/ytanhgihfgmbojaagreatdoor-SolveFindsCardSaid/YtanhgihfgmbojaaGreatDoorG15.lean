/- JOINED: V180 -/
import Derived.Test.YtanhgihfgmbojaaGreatDoorG14
set_option linter.unusedSimpArgs false
set_option linter.unusedVariables false
/- ref 20: newest. -/
namespace Go.Proofs.YtanhgihfgmbojaaGreatDoor
open Go.X Go.X.Diff
set_option maxRecDepth 100000
set_option linter.unusedSimpArgs false
set_option linter.unusedVariables false

theorem PksV.at {Q : Nat → Prop} {H : Heap} {v : Value} {pk : List PK} {hv : List Man} (h : PksV Q H v pk) (he : pk.map (·.1) = hv) {k : Nat} (hk : k < hv.length) : ∃ x, pk[k]? = some x ∧ gM hv k = x.1 ∧ x ∈ pk ∧ PkV Q H x ∧ ∃ b o, (∀ q, ixS 7 v (.int q k) = some (Ptr b o)) ∧ Pt H b o (pkgC x) := by
  have hl : pk.length = hv.length := by rw [← he]; simp
  have hg : pk[k]? = some pk[k] := List.getElem?_eq_getElem (by omega)
  have hm : pk[k] ∈ pk := List.getElem_mem (by omega)
  generalize pk[k] = x at *
  obtain ⟨b, o, h1, h2, _⟩ := h.s.at (i := k) (x := pkgC x) (by rw [List.getElem?_map, hg]; rfl)
  exact ⟨x, hg, getD_at (by rw [← he, List.getElem?_map, hg]; rfl), hm, h.m x hm, b, o, h1, h2⟩
def ofO : Option Nat → Int
  | none => -1
  | some k => (k : Int)
def fF (hv : List Man) (d : Dep) (bs : List Bool) (i : Nat) : Bool := !bs.getD i false && fitR d (gM hv i)
set_option maxHeartbeats 2000000 in
theorem c_rnewest {Q : Nat → Prop} {H : Heap} {hv : List Man} {pk : List PK} {vpk : Value} {q r : Nat} {fs : List Value} {d : Dep} {bs : List Bool} (hp : PksV Q H vpk pk) (he : pk.map (·.1) = hv) (aq : At H q (vpk :: fs)) (ar : At H r (bs.map Value.bool)) (hb : bs.length = hv.length) (hd : d.wf) (hl : hv.length ≤ 1000) :
    HCalls prg f_syngraphref20_Find_newest [Ptr q 0, .agg (depC d).toArray, .slice (some ⟨r, 0, none⟩) hv.length hv.length] H fun u H' => u = .int .i64 (ofO (pickR hv (fF hv d bs) hv.length)) ∧ Keep (fun _ => False) H H' := by
  apply sh_syngraphref20_Find_newest_calls
  unfold sh_syngraphref20_Find_newest
  simp only [Cells_agg, Mnew_some]
  generalize hH1 : H.push (.cells (depC d).toArray T_syngraphref20_Dep (0, 0)) = H1
  have k1 : Keep (fun _ => False) H H1 := by rw [← hH1]; exact Keep.push
  have a1 : At H1 H.size (depC d) := by rw [← hH1]; exact At.push
  have lp := hp.s.len
  have hpl : pk.length = hv.length := by rw [← he]; simp
  rw [List.length_map, hpl] at lp
  have d0 : ∀ h, Keep (fun _ => False) H1 h → ld1 h (Ptr q 0) = some vpk := fun h k => ((aq.keep k1 id).keep k id).ld (i := 0) rfl
  refine J2_i (fun t7 _ h => t7 = .int .i64 (ofO (pickR hv (fF hv d bs) hv.length)) ∧ Keep (fun _ => False) H1 h) (fun k2 hk2 => ?_) ?_
  rotate_left
  · rintro _ _ h ⟨rfl, kh⟩
    exact ⟨rfl, k1.trans kh⟩
  refine L2_i (fun t7 u h => (∃ i : Nat, i ≤ hv.length ∧ u = .int .i64 (i : Nat) ∧ t7 = .int .i64 (ofO (pickR hv (fF hv d bs) i))) ∧ Keep (fun _ => False) H1 h) (fun _ u _ => match u with | .int _ t => hv.length - t.toNat | _ => 0) ⟨⟨0, Nat.zero_le _, rfl, rfl⟩, Keep.refl⟩ ?_
  rintro _ _ h ⟨⟨i, hi, rfl, rfl⟩, kh⟩ k hk
  simp only [nck_ptr, fld_ptr, Nat.zero_add, Nat.add_zero, Mpu_some]
  rw [d0 _ kh, Mpu_some, lp, Mpu_some, ltNn, Mpu_some, Mcd_bool]
  by_cases hlt : i < hv.length
  rotate_left
  · rw [if_neg (by simpa using hlt)]
    obtain rfl : i = hv.length := by omega
    exact hk2 _ _ _ ⟨rfl, kh⟩
  rw [if_pos (by simpa using hlt)]
  have k0h := k1.trans kh
  have hgb : bs[i]? = some bs[i] := List.getElem?_eq_getElem (by omega)
  have hgd : bs.getD i false = bs[i] := getD_at hgb
  generalize bs[i] = tb at hgb hgd
  have ix1 : ixS 1 (.slice (some ⟨r, 0, none⟩) hv.length hv.length) (.int .i64 (i : Nat)) = some (Ptr r i) := by rw [ixS_at (by omega)]; simp
  have l1 : ld1 h (Ptr r i) = some (.bool tb) := ((ar.keep k1 id).keep kh id).ld (by rw [List.getElem?_map, hgb]; rfl)
  obtain ⟨x, hgx, hmx, hxm, hpx, b, o, hix, hpt⟩ := (hp.keep k0h fun _ _ => id).at he hlt
  have hff : fF hv d bs i = (!tb && fitR d x.1) := by unfold fF; rw [hgd, hmx]
  have no : ∀ h', Keep (fun _ => False) h h' → fF hv d bs i = false → ∀ a b c e f : Value, (∃ i' : Nat, i' ≤ hv.length ∧ Value.int .i64 ((i + 1 : Nat) : Int) = .int .i64 (i' : Nat) ∧ Value.int .i64 (ofO (pickR hv (fF hv d bs) i)) = .int .i64 (ofO (pickR hv (fF hv d bs) i'))) ∧ Keep (fun _ => False) H1 h' := fun h' k' hf _ _ _ _ _ =>
    ⟨⟨i + 1, by omega, rfl, by rw [pickR, step_no hf]⟩, kh.trans k'⟩
  have hms : hv.length - (i + 1) < hv.length - i := by omega
  refine J5_eq.2 ?_
  rw [ix1, Mpu_some, l1, Mpu_some, unV_not, Mpu_some]
  have ad := add_one' (n := i) (by omega)
  cases tb
  rotate_left
  · simp only [Bool.not_true, J5_eq, J1_eq, Mif_bool, Mif_undef, Bool.false_eq_true, if_false, pickV_bool, Mpu_some, Mcd_bool, ad]
    exact hk _ _ _ (no _ Keep.refl (by rw [hff]; rfl) undef undef undef undef undef) hms
  simp only [Bool.not_false, J5_eq, J1_eq, Mif_bool, if_true, Mpu_some]
  rw [(a1.keep kh id).ldN (depC_len hd), Mpu_some]
  rw [hix .i64, Mpu_some, hpt.agg (pkgC_len hpx.wf), Mpu_some]
  refine call_i (c_rfits hd hpx.wf) ?_
  rintro _ h9 ⟨rfl, k9⟩
  rw [pickV_bool, if_pos rfl, Mpu_some]
  cases hfv : fitR d x.1
  · simp only [Mif_bool, Mif_undef, Bool.false_eq_true, if_false, pickV_bool, Mpu_some, Mcd_bool, ad]
    exact hk _ _ _ (no _ k9 (by rw [hff, hfv]; rfl) undef undef undef undef undef) hms
  have hft : fF hv d bs i = true := by rw [hff, hfv]; rfl
  simp only [Mif_bool, if_true]
  have elt : binV .no .lss (.int .i64 (ofO (pickR hv (fF hv d bs) i))) (.int .i64 0) = some (.bool (pickR hv (fF hv d bs) i).isNone) := by
    rw [ltI]
    cases pickR hv (fF hv d bs) i with
    | none => rfl
    | some b => rw [decide_eq_false (by show ¬ ((b : Nat) : Int) < 0; omega)]; rfl
  rw [elt, Mpu_some]
  cases hpi : pickR hv (fF hv d bs) i with
  | none =>
    simp only [Option.isNone_none, Mif_bool, Bool.true_eq_false, if_false, pickV_bool, if_true, Mpu_some, Mcd_bool, ad]
    refine hk _ _ _ ⟨⟨i + 1, by omega, rfl, ?_⟩, kh.trans k9⟩ hms
    rw [pickR, hpi, step_none hft]; rfl
  | some p =>
    simp only [Option.isNone_some, Mif_bool, if_true, Mpu_some]
    obtain ⟨hp1, _, _⟩ := pickR_some hpi
    obtain ⟨y, hgy, hmy, hym, hpy, b', o', hiy, hpt'⟩ := (hp.keep k0h fun _ _ => id).at he (show p < hv.length by omega)
    have iyp : ixS 7 vpk (.int .i64 (ofO (some p))) = some (Ptr b' o') := hiy .i64
    rw [d0 _ (kh.trans k9), Mpu_some, iyp, Mpu_some, fld_ptr, Mpu_some, pk_ver (hpt'.keep k9 id) hpy.wf, Mpu_some, Mpu_some, hix .i64, Mpu_some, fld_ptr, Mpu_some, pk_ver (hpt.keep k9 id) hpx.wf, Mpu_some]
    refine call_i (c_refLess hpy.wf.ver hpx.wf.ver) ?_
    rintro _ h14 ⟨rfl, k14⟩
    have hnl : ltV y.1.ver x.1.ver = newLt hv i p := by unfold ltV newLt; rw [hmx, hmy]
    rw [hnl]
    simp only [pickV_bool, Bool.false_eq_true, if_false, if_true, Mpu_some, Mcd_bool, Mif_bool]
    cases hn : newLt hv i p
    · simp only [Bool.false_eq_true, if_false, ad, Mpu_some]
      refine hk _ _ _ ⟨⟨i + 1, by omega, rfl, ?_⟩, kh.trans (k9.trans k14)⟩ hms
      rw [pickR, hpi, step_old hn]
    · simp only [if_true, ad, Mpu_some]
      refine hk _ _ _ ⟨⟨i + 1, by omega, rfl, ?_⟩, kh.trans (k9.trans k14)⟩ hms
      rw [pickR, hpi, step_new hft hn]; rfl
end Go.Proofs.YtanhgihfgmbojaaGreatDoor

