/- JOINED: V184 -/
import Derived.Test.YtanhgihfgmbojaaGreatDoorG18
set_option linter.unusedSimpArgs false
set_option linter.unusedVariables false
/- solve: Needed. -/
namespace Go.Proofs.YtanhgihfgmbojaaGreatDoor
open Go.X Go.X.Diff
set_option maxRecDepth 100000
set_option linter.unusedSimpArgs false
set_option linter.unusedVariables false

theorem c_ContainsI {P : Nat → Prop} {H : Heap} {v : Value} {xs : List Nat} {k : Nat} (hv : SlE 1 P H v (ints (zs xs))) (hl : xs.length ≤ 1099511627776) :
    HCalls prg f_slices_Contains_S_int_int [v, .int .i64 (k : Nat)] H fun u H' => u = .bool (xs.any fun y => decide (k = y)) ∧ Keep (fun _ => False) H H' := by
  apply sh_slices_Contains_S_int_int_calls
  unfold sh_slices_Contains_S_int_int
  refine call_i (R := fun u H' => Keep (fun _ => False) H H' ∧ ((u = .int .i64 (-1) ∧ ∀ y ∈ xs, decide (k = y) = false) ∨ ∃ (i : Nat), u = .int .i64 (i : Nat) ∧ ∃ y ∈ xs, decide (k = y) = true)) ?_ ?_
  · apply sh_slices_Index_S_int_int_calls
    unfold sh_slices_Index_S_int_int
    have hlen := hv.len
    rw [ints_len, zs_len] at hlen
    refine J1_i (fun _ h => (∀ y ∈ xs, decide (k = y) = false) ∧ Keep (fun _ => False) H h) (fun k1 hk1 => ?_) ?_
    rotate_left
    · rintro _ h ⟨hno, kh⟩
      exact ⟨kh, .inl ⟨rfl, hno⟩⟩
    rw [hlen, Mpu_some]
    refine L1_i (fun u h => ∃ i : Nat, i ≤ xs.length ∧ u = .int .i64 (i : Nat) ∧ (∀ y ∈ xs.take i, decide (k = y) = false) ∧ Keep (fun _ => False) H h) (fun u _ => match u with | .int _ t => xs.length - t.toNat | _ => 0) ⟨0, Nat.zero_le _, rfl, by simp, Keep.refl⟩ ?_
    rintro _ h ⟨i, hi, rfl, hno, kh⟩ kk hkk
    rw [ltNn, Mpu_some, Mcd_bool]
    by_cases hlt : i < xs.length
    rotate_left
    · rw [if_neg (by simpa using hlt)]
      rw [List.take_of_length_le (by omega)] at hno
      exact hk1 _ _ ⟨hno, kh⟩
    rw [if_pos (by simpa using hlt)]
    have hg : xs[i]? = some xs[i] := List.getElem?_eq_getElem hlt
    have hm : xs[i] ∈ xs := List.getElem_mem hlt
    have htk : xs.take (i + 1) = xs.take i ++ [xs[i]] := by rw [List.take_add_one, hg]; rfl
    generalize xs[i] = y at *
    obtain ⟨b, o, hix, hpt, _⟩ := (hv.keep kh fun _ _ => id).at (i := i) (x := [.int .i64 (y : Int)]) (ints_get (zs_get hg))
    rw [hix .i64, Mpu_some, hpt.cell0 rfl, Mpu_some, eqNn, Mpu_some, Mcd_bool]
    by_cases hky : k = y
    · rw [if_pos (by simpa using hky)]
      exact ⟨kh, .inr ⟨i, rfl, y, hm, by simpa using hky⟩⟩
    · rw [if_neg (by simpa using hky), add_one' (by omega), Mpu_some]
      refine hkk _ _ ⟨i + 1, by omega, rfl, fun t ht => ?_, kh⟩ (by show xs.length - (i + 1) < xs.length - i; omega)
      rw [htk] at ht
      rcases List.mem_append.1 ht with ht | ht
      · exact hno t ht
      · rw [List.mem_singleton.1 ht]; simpa using hky
  · rintro _ h1 ⟨k1, ⟨rfl, hno⟩ | ⟨i, rfl, y, hm, hy⟩⟩
    · have e : binV .no .geq (.int .i64 (-1)) (.int .i64 0) = some (.bool false) := rfl
      rw [e, Mpu_some]
      refine ⟨?_, k1⟩
      rw [List.any_eq_false.2 fun x hx => by simp [hno x hx]]
    · rw [geN0, Mpu_some]
      refine ⟨?_, k1⟩
      rw [List.any_eq_true.2 ⟨y, hm, hy⟩]
theorem _root_.Go.X.BufE.rest {n : Nat} {F : Nat → Prop} {H : Heap} {v : Value} {x : List Value} {xs : List (List Value)} (h : BufE n F H v (x :: xs)) : ∃ u, slS n v (some (.int .i64 1)) none none = some u ∧ BufE n F H u xs := by
  obtain ⟨h1, h2, h | ⟨b, o, c, cs, T, f, rfl, hf, hc, hb, hle, ht, hl⟩⟩ := h
  · obtain ⟨rfl, he⟩ := h; cases he
  · rw [List.length_cons] at hc hl
    have hbn : bnds (xs.length + 1) c (some (.int .i64 1)) none none = some (1, xs.length + 1, c) := by
      simp only [bnds, bnd, Option.bind_some]
      rw [if_pos (by omega)]; rfl
    have e1 : ∀ y ∈ xs, y.length = n := fun y hy => h1 y (List.mem_cons_of_mem _ hy)
    have ex : x.length = n := h1 x (by simp)
    refine ⟨.slice (some ⟨b, if c = 1 then o else o + 1 * n, none⟩) xs.length (c - 1), by simp [slS, hbn], e1, fun y hy => h2 y (List.mem_cons_of_mem _ hy), .inr ⟨b, _, c - 1, cs, T, f, rfl, hf, by omega, hb, ?_, ht, ?_⟩⟩
    · split
      · rename_i e; subst e; simp; omega
      · rename_i e
        obtain ⟨m, rfl⟩ : ∃ m, c = m + 1 := ⟨c - 1, by omega⟩
        rw [Nat.add_mul] at hle
        simp only [Nat.add_sub_cancel]
        omega
    · split
      · rename_i e
        have : xs = [] := List.length_eq_zero_iff.1 (by omega)
        subst this; simp
      · rw [Nat.one_mul, ← List.drop_drop]
        have := congrArg (List.drop n) hl
        have e2 : List.drop n (x ++ xs.flatten) = xs.flatten := by rw [← ex, List.drop_left]
        rw [List.drop_take, List.flatten_cons, e2] at this
        rw [← this]
        congr 1
        rw [Nat.add_mul]; omega
/-- the needed, told -/
def NeedU (hv : List Man) (wants : List Dep) (H H' : Heap) (z : List Int) (u : Value) : Prop := (rightB hv wants z = false ∧ u = .slice none 0 0) ∨ ∃ c n, z = zs c ∧ RightC hv wants c ∧ NeedL hv wants c n ∧ n.length ≤ 12 ∧ SlE 1 (fun b => H.size ≤ b ∧ b < H'.size) H' u (ints (zs n))
set_option maxHeartbeats 4000000 in
theorem c_Needed {P Q : Nat → Prop} {H : Heap} {mv : List MV} {wants : List Dep} {vh vw vc : Value} {b : Int} {z : List Int} (hp : Prb P H mv wants vh vw) (hP : ∀ b, P b → b < H.size) (hc : SlE 1 Q H vc (ints z)) (hQ : ∀ b, Q b → b < H.size) (hok : probOk (hvOf mv) wants b = true) (hl : mv.length ≤ 12) (hwl : wants.length ≤ 64) (hzl : z.length ≤ 1000000) (hO : OpsT H) :
    HCalls prg f_solve_Needed [.agg (prbC vh vw b).toArray, vc] H fun u H' => NeedU (hvOf mv) wants H H' z u ∧ Keep (fun _ => False) H H' := by
  apply sh_solve_Needed_calls
  unfold sh_solve_Needed
  simp only [Cells_agg, Mnew_some]
  generalize hH1 : H.push (.cells (prbC vh vw b).toArray T_solve_Problem (0, 0)) = H1
  have k1 : Keep (fun _ => False) H H1 := by rw [← hH1]; exact Keep.push
  have a1 : At H1 H.size (prbC vh vw b) := by rw [← hH1]; exact At.push
  have s1 : H1.size = H.size + 1 := by rw [← hH1]; simp
  have hvl : (hvOf mv).length = mv.length := by simp
  rw [a1.ldN (n := 3) rfl, Mpu_some]
  refine call_i (c_Right (hp.keep k1 fun _ _ => id) (fun b hb => by have := hP b hb; omega) (hc.keep k1 fun _ _ => id) (fun b hb => by have := hQ b hb; omega) (by omega) hwl hzl (hO.keep k1 fun _ h => h.elim)) ?_
  rintro _ h2 ⟨rfl, k2⟩
  have k02 := k1.trans k2
  rw [hok, Bool.true_and, unV_not, Mpu_some, Mcd_bool]
  cases hrb : rightB (hvOf mv) wants z
  · rw [if_pos (by rfl)]
    exact ⟨.inl ⟨hrb, rfl⟩, k02⟩
  rw [if_neg (by decide)]
  obtain ⟨c, rfl, hR⟩ := rightB_iff.1 hrb
  have hcl := hR.nm.len
  have b2 := a1.keep k2 id
  rw [fld_ptr, Mpu_some, Nat.zero_add, b2.ld (i := 1) rfl, Mpu_some]
  refine call_i (c_CloneDep (hp.keep k02 fun _ _ => id).w (by omega)) ?_
  rintro t15 h3 ⟨hb15, k3⟩
  have k03 := k02.trans k3
  have k13 := k2.trans k3
  have g2 := k02.1
  let I : Value → Value → Heap → Prop := fun t5 t6 h => ∃ (out : List Nat) (ws : List Dep) (F5 F6 : Nat → Prop), NeedI (hvOf mv) wants c out ws ∧ (∀ d ∈ ws, d.wf) ∧ ws.length ≤ 64 + 1000 * out.length ∧ (∀ b, F5 b → H1.size ≤ b ∧ b < h.size ∧ ¬ F6 b) ∧ (∀ b, F6 b → H1.size ≤ b ∧ b < h.size) ∧ BufE 1 F5 h t5 (ints (zs out)) ∧ BufE 6 F6 h t6 (ws.map depC)
  have outl : ∀ {out : List Nat} {ws : List Dep}, NeedI (hvOf mv) wants c out ws → out.length ≤ 12 ∧ ∀ k ∈ out, k ∈ c := fun h => by
    have hs : ∀ k ∈ _, k ∈ c := fun k hk => (h.rc k hk).mem
    refine ⟨?_, hs⟩
    have := nodup_le _ h.nd (fun k hk => hR.nm.1 k (hs k hk))
    omega
  refine J2_i (fun t5 _ h => (∃ (out : List Nat) (F5 : Nat → Prop), NeedI (hvOf mv) wants c out [] ∧ BufE 1 F5 h t5 (ints (zs out))) ∧ Keep (fun _ => False) H1 h) (fun k4 hk4 => ?_) ?_
  rotate_left
  · rintro t5 _ h5 ⟨⟨out, F5, hI, hb5⟩, k5⟩
    have k05 := k1.trans k5
    obtain ⟨o1, o2⟩ := outl hI
    rw [(a1.keep k5 id).ldN (n := 3) rfl, Mpu_some]
    refine call_i (c_sorted (hp.keep k05 fun _ _ => id) (fun b hb => Nat.lt_of_lt_of_le (hP b hb) k05.1) hb5.sl (fun k hk => hR.nm.1 k (o2 k hk)) o1) ?_
    rintro u h13 ⟨hu, k13⟩
    have g5 := k05.1
    refine ⟨.inr ⟨c, _, rfl, hR, hI.done hR.nm, ?_, hu.sl.mono fun b hb => ⟨by omega, hb.2⟩⟩, k05.trans k13⟩
    unfold sortedF
    rw [isort_len]; exact o1
  refine L2_i (fun t5 t6 h => I t5 t6 h ∧ Keep (fun _ => False) H1 h) (fun t5 t6 _ => (13 - (match t5 with | .slice _ n _ => n | _ => 0)) * 2000 + (match t6 with | .slice _ n _ => n | _ => 0))
    ⟨⟨[], wants, fun _ => False, fun b => h2.size ≤ b ∧ b < h3.size, NeedI.start, hp.ww, by simpa using hwl, fun b hb => hb.elim, fun b hb => ⟨by have := k2.1; omega, hb.2⟩, BufE.nil, hb15⟩, k13⟩ ?_
  rintro t5 t6 h ⟨⟨out, ws, F5, F6, hI, hww, hwsl, hF5, hF6, hb5, hb6⟩, kh⟩ k6 hk6
  have k0h := k1.trans kh
  obtain ⟨o1, o2⟩ := outl hI
  have lw := hb6.sl.len
  rw [List.length_map] at lw
  rw [lw, Mpu_some, show binV .no .gtr (.int .i64 (ws.length : Nat)) (.int .i64 0) = some (.bool (decide (ws.length > 0))) from gtNn (m := 0), Mpu_some, Mcd_bool]
  cases ws with
  | nil =>
    rw [if_neg (by decide)]
    exact hk4 _ _ _ ⟨⟨out, F5, hI, hb5⟩, kh⟩
  | cons d ws =>
  rw [if_pos (by simp)]
  have hdw := hww d (by simp)
  obtain ⟨p, o, hix, hpt, _⟩ := hb6.sl.at (i := 0) (x := depC d) rfl
  have ix0 : ixS 6 t6 (.int .i64 0) = some (Ptr p o) := hix .i64
  obtain ⟨p5, c5, e5⟩ := hb5.sl.shape
  obtain ⟨p6, c6, e6⟩ := hb6.sl.shape
  rw [ints_len, zs_len] at e5
  rw [List.length_map, List.length_cons] at e6
  rw [(a1.keep kh id).ldN (n := 3) rfl, Mpu_some, ix0, Mpu_some, fld_ptr, Mpu_some, Nat.add_zero, show ld1 h (Ptr p o) = some (str d.name) from hpt.cell0 rfl, Mpu_some]
  refine call_i (c_of (hp.keep k0h fun _ _ => id) (hc.keep k0h fun _ _ => id) hR.nm.1 (by omega)) ?_
  rintro _ h8 ⟨rfl, k8⟩
  have hsat : ∃ j ∈ c, fitM d (gM (hvOf mv) j) = true := hR.sat d ((hI.aw d (by simp)).imp id fun ⟨k, hk, hd⟩ => ⟨k, hk.mem, hd⟩)
  cases hof : ofF (hvOf mv) c d.name with
  | none =>
    obtain ⟨j, hj, hf⟩ := hsat
    exact absurd (fitM_name hf) (of_none hof j hj)
  | some k =>
  obtain ⟨hkc, hkn⟩ := of_some hof
  have hkl := hR.nm.1 k hkc
  simp only [extV_tuple]
  rw [show (#[Value.int .i64 (k : Nat), .bool true][0]?) = some (.int .i64 (k : Nat)) from rfl, Mpu_some, show (#[Value.int .i64 (k : Nat), .bool true][1]?) = some (.bool true) from rfl, Mpu_some]
  have hb6' := hb6.keep k8 fun _ _ => id
  have hb5' := hb5.keep k8 fun _ _ => id
  obtain ⟨t30, e30, hb30⟩ := hb6'.rest
  rw [e30, Mpu_some]
  refine call_i (c_ContainsI hb5'.sl (by omega)) ?_
  rintro _ h9 ⟨rfl, k9⟩
  have k89 := k8.trans k9
  have kh9 := kh.trans k89
  have k09 := k1.trans kh9
  have g89 := k89.1
  have hb5h := hb5'.keep k9 fun _ _ => id
  have hb6h := hb30.keep k9 fun _ _ => id
  obtain ⟨p30, c30, e30'⟩ := hb6h.sl.shape
  rw [List.length_map] at e30'
  rw [List.length_cons] at hwsl
  rw [unV_not, Mpu_some, Mcd_bool]
  cases hcon : out.any (fun y => decide (k = y))
  rotate_left
  · rw [if_neg (by decide)]
    obtain ⟨y, hy, hky⟩ := List.any_eq_true.1 hcon
    obtain rfl : k = y := by simpa using hky
    refine hk6 _ _ _ ⟨⟨out, ws, F5, F6, hI.old hy hkn, fun x hx => hww x (by simp [hx]), by omega, fun b hb => ⟨(hF5 b hb).1, by have := (hF5 b hb).2.1; omega, (hF5 b hb).2.2⟩, fun b hb => ⟨(hF6 b hb).1, by have := (hF6 b hb).2; omega⟩, hb5h, hb6h⟩, kh9⟩ ?_
    rw [e6, e30']
    show (13 - _) * 2000 + ws.length < (13 - _) * 2000 + (ws.length + 1)
    omega
  rw [if_pos (by rfl), bslI1', Mnews_some]
  have hno : k ∉ out := fun hk => by
    rw [List.any_eq_true.2 ⟨k, hk, by simp⟩] at hcon; cases hcon
  have hI' := hI.new hkc hkn hno
  obtain ⟨o1', _⟩ := outl hI'
  rw [List.length_append, List.length_singleton] at o1'
  generalize hH10 : h9.push (.cells #[.int .i64 (k : Nat)] T_int (0, 0)) = h10
  have k10 : Keep (fun _ => False) h9 h10 := by rw [← hH10]; exact Keep.push
  have hx10 : SlE 1 (· = h9.size) h10 (.slice (some ⟨h9.size, 0, none⟩) 1 1) (ints [(k : Int)]) :=
    ⟨⟨_, 1, rfl, Nat.le_refl _, .inr ⟨h9.size, 0, rfl, rfl, by rw [rows1_flat, ← hH10]; exact Pt.of push_new⟩⟩, rows1_el, rows1_one fun v hv => by simp at hv; subst hv; rfl⟩
  have g10 := k10.1
  refine ((hb5h.keep k10 fun _ _ => id).mono (G := fun b => F5 b ∨ h10.size ≤ b) fun b hb => .inl hb).app hx10 (by omega) (by rw [ints_len, ints_len, zs_len]; simp; omega) (.inr (Nat.le_refl _)) fun t38 h11 hb38 k11 => ?_
  have kh11 : Keep (fun _ => False) H1 h11 := (kh9.trans k10).fresh k11 fun b hb => hb.elim (fun hb => (hF5 b hb).1) fun hb => by have := kh9.1; omega
  have k011 := k1.trans kh11
  obtain ⟨x, _, hgx, hxm, hmx, bx, ox, hix', hpx, _⟩ := (hp.keep k011 fun _ _ => id).at hkl
  have hdl := (hp.sm x hxm).1
  rw [fld_ptr, Mpu_some, Nat.add_zero, (a1.keep kh11 id).ld (i := 0) rfl, Mpu_some, hix' .i64, Mpu_some, fld_ptr, Mpu_some, show ld1 h11 (Ptr bx (ox + 5)) = some x.2.1 from hpx.cell (i := 5) (by simp [mvC, manC, verC_len hmx.wf.ver, List.getElem?_append_right]), Mpu_some]
  have g11 := k11.1
  have hb6i := (hb6h.keep k10 fun _ _ => id).keep k11 fun b hb hb' => hb'.elim (fun hb' => (hF5 b hb').2.2 hb) fun hb' => by have := (hF6 b hb).2; omega
  refine (hb6i.mono (G := fun b => F6 b ∨ h11.size ≤ b) fun b hb => .inl hb).app hmx.d (by omega) (by simp; omega) (.inr (Nat.le_refl _)) fun t46 h12 hb46 k12 => ?_
  have g12 := k12.1
  have kh12 : Keep (fun _ => False) H1 h12 := kh11.fresh k12 fun b hb => hb.elim (fun hb => (hF6 b hb).1) fun hb => by have := kh11.1; omega
  have hb38' := BufE.re (G := fun b => (F5 b ∨ h10.size ≤ b) ∧ b < h11.size) hb38 fun b hb hF => ⟨hF, hb⟩
  have dis : ∀ b, (F5 b ∨ h10.size ≤ b) ∧ b < h11.size → ¬ (F6 b ∨ h11.size ≤ b) := fun b hb hb' => by
    rcases hb' with hb' | hb'
    · rcases hb.1 with h5 | h5
      · exact (hF5 b h5).2.2 hb'
      · have := (hF6 b hb').2; omega
    · have := hb.2; omega
  have eints : ints (zs (out ++ [k])) = ints (zs out) ++ ints [(k : Int)] := by simp [zs, rows1]
  refine hk6 _ _ _ ⟨⟨out ++ [k], ws ++ (gM (hvOf mv) k).deps, fun b => (F5 b ∨ h10.size ≤ b) ∧ b < h11.size, fun b => (F6 b ∨ h11.size ≤ b) ∧ b < h12.size, hI', fun y hy => ?_, ?_, fun b hb => ⟨hb.1.elim (fun hb => (hF5 b hb).1) fun hb => by have := kh9.1; omega, by have := hb.2; omega, fun hb' => dis b hb hb'.1⟩, fun b hb => ⟨hb.1.elim (fun hb => (hF6 b hb).1) fun hb => by have := kh11.1; omega, hb.2⟩, ?_, ?_⟩, kh12⟩ ?_
  · rcases List.mem_append.1 hy with hy | hy
    · exact hww y (by simp [hy])
    · rw [hgx] at hy; exact hmx.wf.deps y hy
  · rw [hgx, List.length_append, List.length_append, List.length_singleton]; omega
  · rw [eints]; exact hb38'.keep k12 dis
  · rw [List.map_append, hgx]
    exact BufE.re hb46 fun b hb hF => ⟨hF, hb⟩
  · obtain ⟨p38, c38, e38⟩ := hb38.sl.shape
    obtain ⟨p46, c46, e46⟩ := hb46.sl.shape
    rw [List.length_append, ints_len, ints_len, zs_len, List.length_singleton] at e38
    rw [List.length_append, List.length_map, List.length_map] at e46
    rw [e5, e6, e38, e46]
    show (13 - (out.length + 1)) * 2000 + (ws.length + x.1.deps.length) < (13 - out.length) * 2000 + (ws.length + 1)
    omega
end Go.Proofs.YtanhgihfgmbojaaGreatDoor

