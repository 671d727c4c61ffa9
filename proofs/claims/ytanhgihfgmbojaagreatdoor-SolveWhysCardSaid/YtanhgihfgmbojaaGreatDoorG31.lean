/- JOINED: V199 V200 -/
import Derived.Test.YtanhgihfgmbojaaGreatDoorG30
set_option linter.unusedSimpArgs false
set_option linter.unusedVariables false
/- ref 20: Why. -/
namespace Go.Proofs.YtanhgihfgmbojaaGreatDoor
open Go.X Go.X.Diff
set_option maxRecDepth 100000
set_option linter.unusedSimpArgs false
set_option linter.unusedVariables false

def WayU (H H' : Heap) (o : Option (List Nm)) (u : Value) : Prop := match o with
  | some p => ∃ v, u = .tuple #[v, .bool true] ∧ SlE 1 (fun b => H.size ≤ b ∧ b < H'.size) H' v (strs p)
  | none => u = .tuple #[.slice none 0 0, .bool false]
theorem wayG_snoc_none {hv : List Man} {c : List Nat} {name : Nm} {j : Nat} {ws : List Nm} {y : Nm} (h1 : wayG hv c name j ws = none) (h2 : wayF hv c name j y = none) : wayG hv c name j (ws ++ [y]) = none := by
  rw [wayG_none] at h1 ⊢
  intro x hx
  rcases List.mem_append.1 hx with hx | hx
  · exact h1 x hx
  · rw [List.mem_singleton.1 hx]; exact h2
theorem wayG_hit {hv : List Man} {c : List Nat} {name : Nm} {j i : Nat} {ws : List Nm} {y : Nm} {p : List Nm} (h1 : wayG hv c name j (ws.take i) = none) (hg : ws[i]? = some y) (h2 : wayF hv c name j y = some p) : wayG hv c name j ws = some p := by
  unfold wayG at h1 ⊢
  obtain ⟨hlt, rfl⟩ := List.getElem?_eq_some_iff.1 hg
  conv => lhs; rw [← List.take_append_drop i ws, List.findSome?_append, h1, List.drop_eq_getElem_cons hlt, List.findSome?_cons, h2]
  rfl
set_option maxHeartbeats 4000000 in
theorem c_rWhy {Q S : Nat → Prop} {hv : List Man} {pk : List PK} {vpk vc : Value} {c : List Nat} {name : Nm} (he : pk.map (·.1) = hv) (hN : Names hv c) (hcl : c.length ≤ 1000) (hd : ∀ k, k < hv.length → (gM hv k).deps.length ≤ 1000) : ∀ (n : Nat) {R : Nat → Prop} {H : Heap} {vw : Value} {ws : List Dep}, n ≤ 100 → PksV Q H vpk pk → SlE 1 S H vc (ints (zs c)) → SlE 6 R H vw (ws.map depC) → ws.length ≤ 1000 →
    HCalls prg f_syngraphref20_Why [vpk, vw, vc, str name, .int .i64 ((n + 1 : Nat) : Int)] H fun u H' => WayU H H' (wayG hv c name n (ws.map (·.name))) u ∧ Keep (fun _ => False) H H' := by
  intro n
  induction n with
  | zero =>
    intro R H vw ws _ hp hc hw hwl
    apply sh_syngraphref20_Why_calls
    unfold sh_syngraphref20_Why
    have lw := hw.len
    rw [List.length_map] at lw
    refine J1_i (fun _ h => wayG hv c name 0 (ws.map (·.name)) = none ∧ Keep (fun _ => False) H h) (fun k1 hk1 => ?_) ?_
    rotate_left
    · rintro _ h ⟨hno, kh⟩
      rw [hno]
      exact ⟨rfl, kh⟩
    refine L1_i (fun u h => ∃ i : Nat, i ≤ ws.length ∧ u = .int .i64 (i : Nat) ∧ wayG hv c name 0 ((ws.map (·.name)).take i) = none ∧ Keep (fun _ => False) H h) (fun u _ => match u with | .int _ t => ws.length - t.toNat | _ => 0) ⟨0, Nat.zero_le _, rfl, by rw [List.take_zero]; rfl, Keep.refl⟩ ?_
    rintro _ h ⟨i, hi, rfl, hno, kh⟩ k3 hk3
    rw [lw, Mpu_some, ltNn, Mpu_some, Mcd_bool]
    by_cases hlt : i < ws.length
    rotate_left
    · rw [if_neg (by simpa using hlt)]
      rw [List.take_of_length_le (by rw [List.length_map]; omega)] at hno
      exact hk1 _ _ ⟨hno, kh⟩
    rw [if_pos (by simpa using hlt)]
    have hg : ws[i]? = some ws[i] := List.getElem?_eq_getElem hlt
    generalize ws[i] = d at hg
    have hgn : (ws.map (·.name))[i]? = some d.name := by rw [List.getElem?_map, hg]; rfl
    refine J0_eq.2 ?_
    rw [show binV .no .eql (.int .i64 ((0 + 1 : Nat) : Int)) (.int .i64 1) = some (.bool true) from rfl, Mpu_some, Mcd_bool, if_pos rfl]
    obtain ⟨b, o, hix, hpt, _⟩ := (hw.keep kh fun _ _ => id).at (i := i) (x := depC d) (by rw [List.getElem?_map, hg]; rfl)
    rw [hix .i64, Mpu_some, fld_ptr, Mpu_some, Nat.add_zero, show ld1 h (Ptr b o) = some (str d.name) from hpt.cell0 rfl, Mpu_some, str_eql, Mpu_some, Mcd_bool]
    by_cases hn : d.name = name
    · rw [if_pos (by simpa using hn)]
      have hbs : bslV prg T_string 1 [(0, str name)] = some #[str name] := bslS
      rw [hbs, Mnews_some, wayG_hit hno hgn (by rw [wayF, if_pos hn, hn])]
      have g := kh.1
      refine ⟨⟨_, rfl, ⟨⟨_, 1, rfl, Nat.le_refl _, .inr ⟨h.size, 0, rfl, ⟨by omega, by simp⟩, by rw [rows1_flat]; exact Pt.of push_new⟩⟩, rows1_el, rows1_one str_ones⟩⟩, kh.trans Keep.push⟩
    · rw [if_neg (by simpa using hn)]
      show Mpu (binV .no .add (.int .i64 (i : Nat)) (.int .i64 1)) _
      rw [add_one' (by omega), Mpu_some]
      refine hk3 _ _ ⟨i + 1, by omega, rfl, ?_, kh⟩ (by show ws.length - (i + 1) < ws.length - i; omega)
      rw [List.take_add_one, hgn]
      exact wayG_snoc_none hno (by rw [wayF, if_neg hn])
  | succ n ih =>
    intro R H vw ws hn100 hp hc hw hwl
    apply sh_syngraphref20_Why_calls
    unfold sh_syngraphref20_Why
    have lw := hw.len
    rw [List.length_map] at lw
    have lc := hc.len
    rw [ints_len, zs_len] at lc
    refine J1_i (fun _ h => wayG hv c name (n + 1) (ws.map (·.name)) = none ∧ Keep (fun _ => False) H h) (fun k1 hk1 => ?_) ?_
    rotate_left
    · rintro _ h ⟨hno, kh⟩
      rw [hno]
      exact ⟨rfl, kh⟩
    refine L1_i (fun u h => ∃ i : Nat, i ≤ ws.length ∧ u = .int .i64 (i : Nat) ∧ wayG hv c name (n + 1) ((ws.map (·.name)).take i) = none ∧ Keep (fun _ => False) H h) (fun u _ => match u with | .int _ t => ws.length - t.toNat | _ => 0) ⟨0, Nat.zero_le _, rfl, by rw [List.take_zero]; rfl, Keep.refl⟩ ?_
    rintro _ h ⟨i, hi, rfl, hno, kh⟩ k3 hk3
    rw [lw, Mpu_some, ltNn, Mpu_some, Mcd_bool]
    by_cases hlt : i < ws.length
    rotate_left
    · rw [if_neg (by simpa using hlt)]
      rw [List.take_of_length_le (by rw [List.length_map]; omega)] at hno
      exact hk1 _ _ ⟨hno, kh⟩
    rw [if_pos (by simpa using hlt)]
    have hg : ws[i]? = some ws[i] := List.getElem?_eq_getElem hlt
    generalize ws[i] = d at hg
    have hgn : (ws.map (·.name))[i]? = some d.name := by rw [List.getElem?_map, hg]; rfl
    refine J0_i (fun h => wayF hv c name (n + 1) d.name = none ∧ Keep (fun _ => False) H h) (fun k5 hk5 => ?_) ?_
    rotate_left
    · rintro h6 ⟨hno', k6⟩
      rw [add_one' (by omega), Mpu_some]
      refine hk3 _ _ ⟨i + 1, by omega, rfl, ?_, k6⟩ (by show ws.length - (i + 1) < ws.length - i; omega)
      rw [List.take_add_one, hgn]
      exact wayG_snoc_none hno hno'
    rw [show binV .no .eql (.int .i64 ((n + 1 + 1 : Nat) : Int)) (.int .i64 1) = some (.bool (decide (n + 1 + 1 = 1))) from eqNn (m := 1), Mpu_some, decide_eq_false (by omega), Mcd_bool, if_neg (by decide)]
    refine L1_i (fun u h => ∃ m : Nat, m ≤ c.length ∧ u = .int .i64 (m : Nat) ∧ (∀ k ∈ c.take m, (gM hv k).name = d.name → wayG hv c name n ((gM hv k).deps.map (·.name)) = none) ∧ Keep (fun _ => False) H h) (fun u _ => match u with | .int _ t => c.length - t.toNat | _ => 0) ⟨0, Nat.zero_le _, rfl, by simp, kh⟩ ?_
    rintro _ h9 ⟨m, hm, rfl, hall, k9⟩ k8 hk8
    rw [lc, Mpu_some, ltNn, Mpu_some, Mcd_bool]
    by_cases hml : m < c.length
    rotate_left
    · rw [if_neg (by simpa using hml)]
      rw [List.take_of_length_le (by omega)] at hall
      refine hk5 _ ⟨?_, k9⟩
      rw [wayF]
      unfold depsN
      cases ho : ofF hv c d.name with
      | none => rfl
      | some k =>
        obtain ⟨o1, o2⟩ := of_some ho
        have := hall k o1 o2
        unfold wayG at this
        show ((((gM hv k).deps.map (·.name)).findSome? (wayF hv c name n)).map _) = none
        rw [this]; rfl
    rw [if_pos (by simpa using hml)]
    have hgc : c[m]? = some c[m] := List.getElem?_eq_getElem hml
    have hmc : c[m] ∈ c := List.getElem_mem hml
    have htk : c.take (m + 1) = c.take m ++ [c[m]] := by rw [List.take_add_one, hgc]; rfl
    generalize c[m] = k at *
    have hkl := hN.1 k hmc
    refine J0_i (fun h => ((gM hv k).name = d.name → wayG hv c name n ((gM hv k).deps.map (·.name)) = none) ∧ Keep (fun _ => False) H h) (fun k10 hk10 => ?_) ?_
    rotate_left
    · rintro h11 ⟨hno', k11⟩
      rw [add_one' (by omega), Mpu_some]
      refine hk8 _ _ ⟨m + 1, by omega, rfl, fun k' hk' => ?_, k11⟩ (by show c.length - (m + 1) < c.length - m; omega)
      rw [htk] at hk'
      rcases List.mem_append.1 hk' with hk' | hk'
      · exact hall k' hk'
      · rw [List.mem_singleton.1 hk']; exact hno'
    obtain ⟨x, _, hgx, hxm, hpx, bx, ox, hix, hpt⟩ := (hp.keep k9 fun _ _ => id).at he hkl
    obtain ⟨bc, oc, hixc, hptc, _⟩ := (hc.keep k9 fun _ _ => id).at (i := m) (x := [.int .i64 (k : Int)]) (ints_get (zs_get hgc))
    obtain ⟨bd, od, hixd, hptd, _⟩ := (hw.keep k9 fun _ _ => id).at (i := i) (x := depC d) (by rw [List.getElem?_map, hg]; rfl)
    have l1 : ld1 h9 (Ptr bc oc) = some (.int .i64 (k : Nat)) := hptc.cell0 rfl
    rw [hixc .i64, Mpu_some, l1, Mpu_some, hix .i64, Mpu_some, fld_ptr, Mpu_some, Nat.add_zero, show ld1 h9 (Ptr bx ox) = some (str x.1.name) from hpt.cell0 rfl, Mpu_some, hixd .i64, Mpu_some, fld_ptr, Mpu_some, Nat.add_zero, show ld1 h9 (Ptr bd od) = some (str d.name) from hptd.cell0 rfl, Mpu_some, str_neq, Mpu_some, Mcd_bool]
    by_cases hnm : x.1.name = d.name
    rotate_left
    · rw [if_pos (by simpa using hnm)]
      exact hk10 _ ⟨fun e => absurd e (by rw [hgx]; exact hnm), k9⟩
    rw [if_neg (by simpa using hnm), Mpu_some, l1, Mpu_some, hix .i64, Mpu_some, fld_ptr, Mpu_some, show ld1 h9 (Ptr bx (ox + 5)) = some x.2.1 from hpt.cell (i := 5) (by simp [pkgC, verC_len hpx.wf.ver, List.getElem?_append_right]), Mpu_some, show binV .no .sub (.int .i64 ((n + 1 + 1 : Nat) : Int)) (.int .i64 1) = some (.int .i64 ((n + 1 : Nat) : Int)) from subN1 (by omega), Mpu_some]
    have hdl := hd k hkl
    rw [hgx] at hdl
    refine call_i (ih (by omega) (hp.keep k9 fun _ _ => id) (hc.keep k9 fun _ _ => id) hpx.d hdl) ?_
    rintro u h12 ⟨hU, k12⟩
    have k012 := k9.trans k12
    have hofk : ofF hv c d.name = some k := by
      cases ho : ofF hv c d.name with
      | none => exact absurd (by rw [hgx]; exact hnm) (of_none ho k hmc)
      | some k' =>
        obtain ⟨o1, o2⟩ := of_some ho
        rw [hN.same o1 hmc (by rw [o2, hgx, hnm])]
    have hdn : depsN hv c d.name = x.1.deps.map (·.name) := by unfold depsN; rw [hofk]; show (gM hv k).deps.map _ = _; rw [hgx]
    unfold WayU at hU
    cases hwg : wayG hv c name n (x.1.deps.map (·.name)) with
    | none =>
      rw [hwg] at hU
      obtain rfl : u = _ := hU
      simp only [extV_tuple]
      rw [show (#[Value.slice none 0 0, .bool false][0]?) = some (.slice none 0 0) from rfl, Mpu_some, show (#[Value.slice none 0 0, .bool false][1]?) = some (.bool false) from rfl, Mpu_some, Mcd_bool, if_neg (by decide)]
      exact hk10 _ ⟨fun _ => by rw [hgx]; exact hwg, k012⟩
    | some p =>
      rw [hwg] at hU
      obtain ⟨v, rfl, hv'⟩ := hU
      simp only [extV_tuple]
      rw [show (#[v, .bool true][0]?) = some v from rfl, Mpu_some, show (#[v, .bool true][1]?) = some (.bool true) from rfl, Mpu_some, Mcd_bool, if_pos rfl, Mpu_some, fld_ptr, Mpu_some, Nat.add_zero, show ld1 h12 (Ptr bd od) = some (str d.name) from (hptd.keep k12 id).cell0 rfl, Mpu_some]
      have hbs : bslV prg T_string 1 [(0, str d.name)] = some #[str d.name] := bslS
      rw [hbs, Mnews_some]
      have hw1 : wayF hv c name (n + 1) d.name = some (d.name :: p) := by
        rw [wayF, hdn]
        unfold wayG at hwg
        rw [hwg]; rfl
      rw [wayG_hit hno hgn hw1]
      generalize hH13 : h12.push (.cells #[str d.name] T_string (0, 0)) = h13
      have k13 : Keep (fun _ => False) h12 h13 := by rw [← hH13]; exact Keep.push
      have hx13 : BufE 1 (fun b => h12.size ≤ b) h13 (.slice (some ⟨h12.size, 0, none⟩) 1 1) (strs [d.name]) :=
        bufS (A := []) (C := []) (l := [d.name]) (by rw [← hH13]; exact push_new) rfl (Nat.le_refl _) (fun _ _ => thaw_00) (Nat.le_refl _) (Nat.le_refl _)
      have g12 := k012.1
      have g13 := k13.1
      have hpl : p.length ≤ 1000000 := by
        have : ∀ (j : Nat) (x : Nm) (q : List Nm), wayF hv c name j x = some q → q.length = j + 1 := by
          intro j
          induction j with
          | zero =>
            intro x q h
            rw [wayF] at h
            split at h
            · cases h; rfl
            · cases h
          | succ j ih =>
            intro x q h
            rw [wayF] at h
            obtain ⟨q', h1, rfl⟩ := Option.map_eq_some_iff.1 h
            obtain ⟨y, _, h2⟩ := List.exists_of_findSome?_eq_some h1
            rw [List.length_cons, ih y q' h2]
        have := this _ _ _ hw1
        rw [List.length_cons] at this
        omega
      refine hx13.app (hv'.keep k13 fun _ _ => id) (by omega) (by rw [strs_len, strs_len, List.length_singleton]; omega) (by show h12.size ≤ h13.size; omega) fun t h14 hb14 k14 => ?_
      have k1214 := k13.fresh k14 fun b hb => hb
      refine ⟨⟨t, rfl, ?_⟩, k012.trans k1214⟩
      have e : strs [d.name] ++ strs p = strs (d.name :: p) := by simp [strs, rows1]
      rw [e] at hb14
      exact (BufE.re (G := fun b => H.size ≤ b ∧ b < h14.size) hb14 fun b hb hF => ⟨by omega, hb⟩).sl
end Go.Proofs.YtanhgihfgmbojaaGreatDoor

/- law 20: SolveWhys. -/
namespace Go.Proofs.YtanhgihfgmbojaaGreatDoor
open Go.X Go.X.Diff
set_option maxRecDepth 100000
set_option linter.unusedSimpArgs false
set_option linter.unusedVariables false

theorem newW_eq {wants : List Dep} : newW wants = newOf [] ((wants.map (·.name)).map fun y => (y, ([] : List Nm))) := by
  unfold newW; rw [List.map_map]; rfl
theorem newW_nodup {wants : List Dep} : ((newW wants).map (·.1)).Nodup := by
  have := newOf_nodup (t := wants.map fun d => (d.name, ([] : List Nm))) (seen := []) List.nodup_nil
  rwa [List.nil_append] at this
/-- what a run of Why says of the ways, and how long its way is -/
theorem why_ways {hv : List Man} {wants : List Dep} {c : List Nat} {name : Nm} {r : Option (List Nm)} (hR : RightC hv wants c) (h : WhyRun hv c name ((newW wants).map (·.1)) (newW wants) r) :
    (∀ p, r = some p → (∃ n, p.length = n + 1 ∧ wayG hv c name n (wants.map (·.name)) = some p ∧ ∀ i, i < n → wayG hv c name i (wants.map (·.name)) = none) ∧ p.length ≤ c.length) ∧ (r = none → ∀ i, wayG hv c name i (wants.map (·.name)) = none) := by
  have hI : WhyI hv c name (wants.map (·.name)) 0 ((newW wants).map (·.1)) (newW wants) := by
    rw [newW_eq]; exact WhyI.start
  obtain ⟨w1, w2⟩ := h.ways hI newW_nodup newW_nodup
  refine ⟨fun p hp => ⟨w1 p hp, ?_⟩, w2⟩
  have := h.len (N := namesC hv c) (fun x hx y hy => ?_) (m := 0) (fun e he => ?_) (fun hne => ?_) newW_nodup (fun x hx => ?_) (fun e he => ?_) p hp
  · unfold namesC at this; rwa [List.length_map] at this
  · obtain ⟨k, _, hk, hd⟩ := of_names hx
    rw [hd] at hy
    obtain ⟨d, hd', rfl⟩ := List.mem_map.1 hy
    exact sat_name hR (.inr ⟨k, hk, hd'⟩)
  · obtain ⟨d, _, rfl⟩ := List.mem_map.1 (newOf_fst he); rfl
  · rw [List.length_map]; exact List.length_pos_iff.2 hne
  · obtain ⟨e, he, rfl⟩ := List.mem_map.1 hx
    obtain ⟨d, hd, rfl⟩ := List.mem_map.1 (newOf_fst he)
    exact sat_name hR (.inl hd)
  · obtain ⟨d, hd, rfl⟩ := List.mem_map.1 (newOf_fst he)
    exact sat_name hR (.inl hd)
theorem why_empty {hv : List Man} {wants : List Dep} {name : Nm} {r : Option (List Nm)} (hR : RightC hv wants []) (h : WhyRun hv [] name ((newW wants).map (·.1)) (newW wants) r) : r = none := by
  cases r with
  | none => rfl
  | some p =>
    have := ((why_ways hR h).1 p rfl)
    obtain ⟨⟨n, h1, _⟩, h2⟩ := this
    rw [List.length_nil] at h2; omega
theorem WhyU.empty {hv : List Man} {wants : List Dep} {b : Int} {name : Nm} {H H' : Heap} {u : Value} (h : WhyU hv wants b name H H' [] u) : SlE 1 (fun b => H.size ≤ b ∧ b < H'.size) H' u (strs []) := by
  rcases h with ⟨_, rfl⟩ | ⟨c, r, hz, _, hR, hW, hs⟩
  · exact SlE.nil
  · have hc : c = [] := by cases c with
      | nil => rfl
      | cons a c => simp [zs] at hz
    subst hc
    rw [why_empty hR hW] at hs
    exact hs
theorem leNn {n m : Nat} : binV .no .leq (.int .i64 (n : Nat)) (.int .i64 (m : Nat)) = some (.bool (decide (n ≤ m))) := by
  rw [binV_int]; simp only [intV]; congr 2; rw [Bool.eq_iff_iff]; simp
theorem min6 {n : Nat} : minV true [.int .i64 (n : Nat), .int .i64 6] = some (.int .i64 ((min n 6 : Nat) : Int)) := by
  simp only [minV, if_true]
  congr 2
  split <;> omega
set_option maxHeartbeats 8000000 in
theorem c_SolveWhys {P : Nat → Prop} {H : Heap} {mv : List MV} {wants : List Dep} {vh vw : Value} {b : Int} {name : Nm} (hp : Prb0 P H mv wants vh vw) (hP : ∀ b, P b → b < H.size) (hnl : name.length ≤ 9223372036854775807) (hT : VerT H) :
    HCalls prg f_syngraphlaw20_SolveWhys [.agg (prbC vh vw b).toArray, str name] H fun u H' => u = .bool true ∧ Keep (fun _ => False) H H' := by
  apply sh_syngraphlaw20_SolveWhys_calls
  unfold sh_syngraphlaw20_SolveWhys
  simp only [Cells_agg, Mnew_some]
  generalize hH1 : H.push (.cells (prbC vh vw b).toArray T_solve_Problem (0, 0)) = H1
  have k1 : Keep (fun _ => False) H H1 := by rw [← hH1]; exact Keep.push
  have a1 : At H1 H.size (prbC vh vw b) := by rw [← hH1]; exact At.push
  have s1 : H1.size = H.size + 1 := by rw [← hH1]; simp
  have hO : ∀ {h : Heap}, Keep (fun _ => False) H h → OpsT h := fun k => (hT.keep k fun _ h => h.elim).ops
  have aw : ∀ h, Keep (fun _ => False) H h → Mcall prg f_syngraphlaw20_awake [] h fun t h' => t = .bool true ∧ Keep (fun _ => False) H h' := fun h k => by
    refine call_i (c_awake20 (hT.keep k fun _ h => h.elim)) ?_
    rintro _ h' ⟨rfl, k'⟩
    exact ⟨rfl, k.trans k'⟩
  have awJ : ∀ h, Keep (fun _ => False) H h → J1 (fun k => Mif (.bool true) true (Mcall prg f_syngraphlaw20_awake [] h fun t44 h12 => k t44 h12) (k undef h)) fun t44_2 h13 => Mpu (pickV (.bool true) t44_2 (.bool false)) fun t45 => t45 = .bool true ∧ Keep (fun _ => False) H h13 := fun h k => by
    refine J1_yes rfl ?_
    refine call_i (c_awake20 (hT.keep k fun _ h => h.elim)) ?_
    rintro _ h' ⟨rfl, k'⟩
    show Mpu (pickV (.bool true) (.bool true) (.bool false)) _
    rw [pickV_bool, if_pos rfl, Mpu_some]
    exact ⟨rfl, k.trans k'⟩
  rw [a1.ldN (n := 3) rfl, Mpu_some]
  refine call_i (c_small20 (hp.keep k1 fun _ _ => id)) ?_
  rintro _ h2 ⟨rfl, k2⟩
  have k02 := k1.trans k2
  rw [unV_not, Mpu_some]
  cases hsm : smallP (hvOf mv) wants b
  · simp only [J1_eq, Mif_bool, Bool.not_false, Bool.not_true, Bool.true_eq_false, Bool.false_eq_true, if_false, pickV_bool, if_true, Mpu_some, Mcd_bool]
    exact aw _ k02
  obtain ⟨hq, hl, hwl, hb3⟩ := hp.to hsm
  have hvl : (hvOf mv).length = mv.length := by simp
  have hPk : ∀ {h : Heap}, Keep (fun _ => False) H h → ∀ b, P b → b < h.size := fun k b hb => Nat.lt_of_lt_of_le (hP b hb) k.1
  have hqk : ∀ {h : Heap}, Keep (fun _ => False) H h → Prb P h mv wants vh vw := fun k => hq.keep k fun _ _ => id
  refine J1_yes rfl ?_
  rw [lenT_str, Mpu_some, show binV .no .gtr (.int .i64 (name.length : Nat)) (.int .i64 50) = some (.bool (decide (name.length > 50))) from gtNn (m := 50), Mpu_some]
  show Mpu (pickV (.bool false) (.bool true) (.bool (decide (name.length > 50)))) _
  rw [pickV_bool, if_neg (by decide), Mpu_some, Mcd_bool]
  by_cases hn50 : name.length > 50
  · rw [if_pos (by simpa using hn50)]
    exact aw _ k02
  rw [if_neg (by simpa using hn50), (a1.keep k2 id).ldN (n := 3) rfl, Mpu_some]
  -- what is not chosen, or not right: nothing is told
  have tail : ∀ (Q : Nat → Prop) h t31, SlE 1 Q h t31 (strs []) → Keep (fun _ => False) H h → Mpu (lenV t31) fun t41 => Mpu (binV .no .eql t41 (.int .i64 0)) fun t42 =>
      J1 (fun k11 => Mif t42 true (Mcall prg f_syngraphlaw20_awake [] h fun t44 h12 => k11 t44 h12) (k11 undef h)) fun t44_2 h13 => Mpu (pickV t42 t44_2 (.bool false)) fun t45 => t45 = .bool true ∧ Keep (fun _ => False) H h13 := fun Q h t31 hs k => by
    have ll := hs.len
    rw [strs_len, List.length_nil] at ll
    rw [ll, Mpu_some, show binV .no .eql (.int .i64 ((0 : Nat) : Int)) (.int .i64 0) = some (.bool true) from rfl, Mpu_some]
    exact awJ _ k
  cases hok : probOk (hvOf mv) wants b
  · refine call_i (c_SolveBad (hqk k02) hok hl (by omega) (hO k02)) ?_
    rintro _ h6 ⟨rfl, k6⟩
    have k06 := k02.trans k6
    simp only [extV_tuple]
    rw [show (#[Value.slice none 0 0, .int .i64 0, .int .i64 10][0]?) = some (.slice none 0 0) from rfl, Mpu_some, show (#[Value.slice none 0 0, .int .i64 0, .int .i64 10][1]?) = some (.int .i64 0) from rfl, Mpu_some, show (#[Value.slice none 0 0, .int .i64 0, .int .i64 10][2]?) = some (.int .i64 10) from rfl, Mpu_some, (a1.keep (k2.trans k6) id).ldN (n := 3) rfl, Mpu_some]
    refine call_i (c_Why (Q := fun _ => False) (z := []) (hqk k06) (hPk k06) SlE.nil (fun b hb => hb.elim) hl (by omega) (by simp) (hO k06)) ?_
    rintro t31 h7 ⟨hU, k7⟩
    rw [show binV .no .neq (.int .i64 10) (.int .i64 0) = some (.bool true) from rfl, Mpu_some]
    refine J1_no (by decide) ?_
    show Mpu (pickV (.bool true) (.bool true) undef) _
    rw [pickV_bool, if_pos rfl, Mpu_some, Mcd_bool, if_pos rfl]
    exact tail _ _ _ hU.empty (k06.trans k7)
  refine call_i (c_Solve (hqk k02) (hPk k02) hok hl (by omega) (hO k02)) ?_
  rintro u h6 ⟨hS, k6⟩
  obtain ⟨r, s, v, hr, rfl, hv, hN⟩ := hS.open
  have k06 := k02.trans k6
  have k16 := k2.trans k6
  have g2 := k02.1
  simp only [extV_tuple]
  rw [show (#[v, Value.int .i64 (s : Nat), .int .i64 (resC r)][0]?) = some v from rfl, Mpu_some, show (#[v, Value.int .i64 (s : Nat), .int .i64 (resC r)][1]?) = some (.int .i64 (s : Nat)) from rfl, Mpu_some, show (#[v, Value.int .i64 (s : Nat), .int .i64 (resC r)][2]?) = some (.int .i64 (resC r)) from rfl, Mpu_some, (a1.keep k16 id).ldN (n := 3) rfl, Mpu_some]
  have hrl : (resL (hvOf mv) r).length ≤ 12 := by
    cases r with
    | ok l =>
      show (sortedF (hvOf mv) l).length ≤ 12
      unfold sortedF
      rw [isort_len]
      have := (hN l rfl).len
      rw [List.length_map] at this
      omega
    | fail => exact Nat.zero_le _
    | over => exact Nat.zero_le _
  refine call_i (c_Why (hqk k06) (hPk k06) hv (fun b hb => hb.2) hl (by omega) (by rw [zs_len]; omega) (hO k06)) ?_
  rintro t31 h7 ⟨hU, k7⟩
  have k07 := k06.trans k7
  have k17 := k16.trans k7
  cases r with
  | fail =>
    rw [show binV .no .neq (.int .i64 (resC .fail)) (.int .i64 0) = some (.bool true) from rfl, Mpu_some]
    refine J1_no (by decide) ?_
    show Mpu (pickV (.bool true) (.bool true) undef) _
    rw [pickV_bool, if_pos rfl, Mpu_some, Mcd_bool, if_pos rfl]
    exact tail _ _ _ hU.empty k07
  | over =>
    rw [show binV .no .neq (.int .i64 (resC .over)) (.int .i64 0) = some (.bool true) from rfl, Mpu_some]
    refine J1_no (by decide) ?_
    show Mpu (pickV (.bool true) (.bool true) undef) _
    rw [pickV_bool, if_pos rfl, Mpu_some, Mcd_bool, if_pos rfl]
    exact tail _ _ _ hU.empty k07
  | ok l =>
  have hpart := hr.sound Part.start l rfl
  have hRl := hpart.right
  have hRs : RightC (hvOf mv) wants (sortedF (hvOf mv) l) := (NeedL.all hRl hpart.rc).right hRl
  have hb1 : rightB (hvOf mv) wants (zs (sortedF (hvOf mv) l)) = true := rightB_nat.2 hRs
  have hU' : ∃ r', WhyRun (hvOf mv) (sortedF (hvOf mv) l) name ((newW wants).map (·.1)) (newW wants) r' ∧ SlE 1 (fun b => h6.size ≤ b ∧ b < h7.size) h7 t31 (strs (r'.getD [])) := by
    rcases hU with ⟨hf, _⟩ | ⟨c', r', hcc, _, _, hW, hs⟩
    · rw [hok, show rightB (hvOf mv) wants (zs (resL (hvOf mv) (.ok l))) = true from hb1] at hf; cases hf
    · obtain rfl : sortedF (hvOf mv) l = c' := cast_inj hcc
      exact ⟨r', hW, hs⟩
  clear hU
  obtain ⟨r', hW, hs⟩ := hU'
  have hrl' : (sortedF (hvOf mv) l).length ≤ 12 := hrl
  have hv' : SlE 1 (fun b => h2.size ≤ b ∧ b < h6.size) h7 v (ints (zs (sortedF (hvOf mv) l))) := hv.keep k7 fun _ _ => id
  clear hv hrl hN hS
  generalize sortedF (hvOf mv) l = c at *
  obtain ⟨y1, y2⟩ := why_ways hRs hW
  rw [show binV .no .neq (.int .i64 (resC (.ok l))) (.int .i64 0) = some (.bool false) from rfl, Mpu_some]
  refine J1_yes rfl ?_
  rw [(a1.keep k17 id).ldN (n := 3) rfl, Mpu_some]
  refine call_i (c_Right (hqk k07) (hPk k07) hv' (fun b hb => by have := hb.2; have := k7.1; omega) (by omega) (by omega) (by rw [zs_len]; omega) (hO k07)) ?_
  rintro _ h10 ⟨rfl, k10⟩
  rw [hok, hb1, Bool.and_self, unV_not, Mpu_some]
  show Mpu (pickV (.bool false) (.bool true) (.bool (!true))) _
  rw [pickV_bool, if_neg (by decide), Mpu_some, Mcd_bool, if_neg (by decide)]
  have k010 := k07.trans k10
  have k110 := k17.trans k10
  have hs10 := hs.keep k10 fun _ _ => id
  have hv10 := hv'.keep k10 fun _ _ => id
  obtain ⟨hokH, hww⟩ := OkH.of hq hok
  have lv := hv10.len
  rw [ints_len, zs_len] at lv
  have lt := hs10.len
  rw [strs_len] at lt
  refine J1_i (fun _ h => (∀ i, i < min c.length 6 → wayG (hvOf mv) c name i (wants.map (·.name)) = none) ∧ Keep (fun _ => False) h10 h) (fun k14 hk14 => ?_) ?_
  · refine L1_i (fun u h => ∃ n : Nat, n ≤ min c.length 6 ∧ u = .int .i64 ((n + 1 : Nat) : Int) ∧ (∀ i, i < n → wayG (hvOf mv) c name i (wants.map (·.name)) = none) ∧ Keep (fun _ => False) h10 h) (fun u _ => match u with | .int _ t => 8 - t.toNat | _ => 0) ⟨0, Nat.zero_le _, rfl, fun i hi => by omega, Keep.refl⟩ ?_
    rintro _ h17 ⟨n, hn, rfl, hno, k1017⟩ k16' hk16
    rw [lv, Mpu_some, min6, Mpu_some, leNn, Mpu_some, Mcd_bool]
    by_cases hle : n + 1 ≤ min c.length 6
    rotate_left
    · rw [if_neg (by simpa using hle)]
      obtain rfl : n = min c.length 6 := by omega
      exact hk14 _ _ ⟨hno, k1017⟩
    rw [if_pos (by simpa using hle)]
    have k017 := k010.trans k1017
    have b17 := a1.keep (k110.trans k1017) id
    refine J0_i (fun h => wayG (hvOf mv) c name n (wants.map (·.name)) = none ∧ Keep (fun _ => False) h10 h) (fun k18 hk18 => ?_) ?_
    rotate_left
    · rintro h19 ⟨hno', k19⟩
      rw [add_one' (by omega), Mpu_some]
      refine hk16 _ _ ⟨n + 1, hle, rfl, fun i hi => ?_, k19⟩ (by show 8 - (n + 1 + 1) < 8 - (n + 1); omega)
      by_cases e : i = n
      · subst e; exact hno'
      · exact hno i (by omega)
    rw [fld_ptr, Mpu_some, Nat.add_zero, b17.ld (i := 0) rfl, Mpu_some, fld_ptr, Mpu_some, Nat.zero_add, b17.ld (i := 1) rfl, Mpu_some]
    refine call_i (c_packages (hqk k017).h (hqk k017).m hq.sm (by omega)) ?_
    rintro vpk h20 ⟨⟨pk, hpk, hpe⟩, k20⟩
    simp only [Mre_cons, Mre_nil]
    refine ⟨(b17.keep k20 id).ld (i := 1) rfl, ?_⟩
    have k020 := k017.trans k20
    refine call_i (c_lawDeps (hqk k020).w hq.ww (by omega)) ?_
    rintro t59 h21 ⟨hb59, k21⟩
    have k1021 := (k1017.trans k20).trans k21
    refine call_i (c_rWhy hpe hRs.nm (by omega) (fun k hk => (hokH.s k hk).1) n (by omega) (hpk.keep k21 fun _ _ => id) (hv10.keep k1021 fun _ _ => id) hb59.sl (by omega)) ?_
    rintro u h22 ⟨hU, k22⟩
    have k1022 := k1021.trans k22
    have k022 := k010.trans k1022
    unfold WayU at hU
    cases hwg : wayG (hvOf mv) c name n (wants.map (·.name)) with
    | none =>
      rw [hwg] at hU
      obtain rfl : u = _ := hU
      simp only [extV_tuple]
      rw [show (#[Value.slice none 0 0, .bool false][0]?) = some (.slice none 0 0) from rfl, Mpu_some, show (#[Value.slice none 0 0, .bool false][1]?) = some (.bool false) from rfl, Mpu_some, unV_not, Mpu_some, Mcd_bool, if_pos (by rfl)]
      exact hk18 _ ⟨hwg, k1022⟩
    | some p =>
      rw [hwg] at hU
      obtain ⟨vp, rfl, hvp⟩ := hU
      have hrp : r' = some p := by
        cases r' with
        | none => rw [y2 rfl n] at hwg; cases hwg
        | some p' =>
          obtain ⟨⟨n', _, h2, h3⟩, _⟩ := y1 p' rfl
          have : n = n' := by
            rcases Nat.lt_trichotomy n n' with h | h | h
            · rw [h3 n h] at hwg; cases hwg
            · exact h
            · rw [hno n' h] at h2; cases h2
          subst this
          rw [hwg] at h2
          exact h2.symm
      subst hrp
      have lvp := hvp.len
      rw [strs_len] at lvp
      have lt' : lenV t31 = some (.int .i64 (p.length : Nat)) := lt
      have hs22 : SlE 1 _ h22 t31 (strs p) := hs10.keep k1022 fun _ _ => id
      simp only [extV_tuple]
      rw [show (#[vp, .bool true][0]?) = some vp from rfl, Mpu_some, show (#[vp, .bool true][1]?) = some (.bool true) from rfl, Mpu_some, unV_not, Mpu_some, Mcd_bool, if_neg (by decide), lt', Mpu_some, lvp, Mpu_some, neNn, Mpu_some, Mcd_bool, if_neg (by simp)]
      refine J1_i (fun _ h => Keep (fun _ => False) h22 h) (fun k23 hk23 => ?_) ?_
      rotate_left
      · rintro _ h24 k24
        exact aw _ (k022.trans k24)
      rw [Mpu_some]
      have hpl : p.length ≤ 1000000 := by
        have := (y1 p rfl).2; omega
      refine L1_i (fun u h => ∃ i : Nat, i ≤ p.length ∧ u = .int .i64 (i : Nat) ∧ Keep (fun _ => False) h22 h) (fun u _ => match u with | .int _ t => p.length - t.toNat | _ => 0) ⟨0, Nat.zero_le _, rfl, Keep.refl⟩ ?_
      rintro _ h26 ⟨i, hi, rfl, k26⟩ k25 hk25
      rw [ltNn, Mpu_some, Mcd_bool]
      by_cases hlt : i < p.length
      rotate_left
      · rw [if_neg (by simpa using hlt)]
        exact hk23 _ _ k26
      rw [if_pos (by simpa using hlt)]
      have hg : p[i]? = some p[i] := List.getElem?_eq_getElem hlt
      generalize p[i] = y at hg
      obtain ⟨ba, oa, hixa, hpta, _⟩ := (hs22.keep k26 fun _ _ => id).at (i := i) (x := [str y]) (strs_get hg)
      obtain ⟨bb, ob, hixb, hptb, _⟩ := (hvp.keep k26 fun _ _ => id).at (i := i) (x := [str y]) (strs_get hg)
      rw [hixa .i64, Mpu_some, show ld1 h26 (Ptr ba oa) = some (str y) from hpta.cell0 rfl, Mpu_some, hixb .i64, Mpu_some, show ld1 h26 (Ptr bb ob) = some (str y) from hptb.cell0 rfl, Mpu_some, str_neq, Mpu_some, Mcd_bool, if_neg (by simp), add_one' (by omega), Mpu_some]
      exact hk25 _ _ ⟨i + 1, by omega, rfl, k26⟩ (by show p.length - (i + 1) < p.length - i; omega)
  rintro _ h15 ⟨hno, k15⟩
  have k015 := k010.trans k15
  rw [lt, Mpu_some, show binV .no .eql (.int .i64 ((r'.getD []).length : Nat)) (.int .i64 0) = some (.bool (decide ((r'.getD []).length = 0))) from eqNn (m := 0), Mpu_some]
  cases r' with
  | none =>
    rw [show decide ((Option.getD (none : Option (List Nm)) []).length = 0) = true from rfl]
    refine J1_no (by decide) ?_
    refine J1_eq.2 (Mif_undef.2 ?_)
    refine J1_no (by decide) ?_
    show Mpu (pickV (.bool true) (.bool true) undef) _
    rw [pickV_bool, if_pos rfl, Mpu_some]
    exact awJ _ k015
  | some p =>
    obtain ⟨⟨n, hpn, hw, _⟩, hpc⟩ := y1 p rfl
    have hn : ¬ n < min c.length 6 := fun h => by rw [hno n h] at hw; cases hw
    have lt' : lenV t31 = some (.int .i64 (p.length : Nat)) := lt
    rw [show decide ((Option.getD (some p) []).length = 0) = false from decide_eq_false (by show ¬ p.length = 0; omega)]
    refine J1_yes rfl ?_
    rw [Mpu_some, show binV .no .gtr (.int .i64 ((Option.getD (some p) []).length : Nat)) (.int .i64 6) = some (.bool (decide (p.length > 6))) from gtNn (m := 6), Mpu_some, decide_eq_true (by omega)]
    refine J1_yes rfl ?_
    rw [Mpu_some, lv, Mpu_some, show binV .no .leq (.int .i64 ((Option.getD (some p) []).length : Nat)) (.int .i64 (c.length : Nat)) = some (.bool (decide (p.length ≤ c.length))) from leNn, Mpu_some, decide_eq_true hpc]
    refine J1_yes rfl ?_
    show Mpu (pickV (.bool true) (.bool true) (.bool false)) _
    rw [pickV_bool, if_pos rfl, Mpu_some]
    show Mpu (pickV (.bool false) (.bool true) (.bool true)) _
    rw [pickV_bool, if_neg (by decide), Mpu_some]
    exact awJ _ k015
end Go.Proofs.YtanhgihfgmbojaaGreatDoor

