/- JOINED: V197 V198 -/
import Derived.Test.YtanhgihfgmbojaaGreatDoorG29
set_option linter.unusedSimpArgs false
set_option linter.unusedVariables false
/- solve: Why: its map and its levels. -/
namespace Go.Proofs.YtanhgihfgmbojaaGreatDoor
open Go.X Go.X.Diff
set_option maxRecDepth 100000
set_option linter.unusedSimpArgs false
set_option linter.unusedVariables false

theorem c_ContainsS {P : Nat → Prop} {H : Heap} {v : Value} {xs : List (List UInt8)} {k : List UInt8} (hv : SlE 1 P H v (strs xs)) (hl : xs.length ≤ 1099511627776) :
    HCalls prg f_slices_Contains_S_string_string [v, str k] H fun u H' => u = .bool (xs.any fun y => decide (k = y)) ∧ Keep (fun _ => False) H H' := by
  apply sh_slices_Contains_S_string_string_calls
  unfold sh_slices_Contains_S_string_string
  refine call_i (R := fun u H' => Keep (fun _ => False) H H' ∧ ((u = .int .i64 (-1) ∧ ∀ y ∈ xs, decide (k = y) = false) ∨ ∃ (i : Nat), u = .int .i64 (i : Nat) ∧ ∃ y ∈ xs, decide (k = y) = true)) ?_ ?_
  · apply sh_slices_Index_S_string_string_calls
    unfold sh_slices_Index_S_string_string
    have hlen := hv.len
    rw [strs_len] at hlen
    refine J1_i (fun _ h => (∀ y ∈ xs, decide (k = y) = false) ∧ Keep (fun _ => False) H h) (fun k1 hk1 => ?_) ?_
    rotate_left
    · rintro _ h ⟨hno, kh⟩
      exact ⟨kh, .inl ⟨rfl, hno⟩⟩
    rw [hlen, Mpu_some]
    refine L1_i (fun u h => ∃ i : Nat, i ≤ xs.length ∧ u = .int .i64 (i : Nat) ∧ (∀ y ∈ xs.take i, decide (k = y) = false) ∧ Keep (fun _ => False) H h) (fun u _ => match u with | .int _ t => xs.length - t.toNat | _ => 0) ⟨0, Nat.zero_le _, rfl, by simp, Keep.refl⟩ ?_
    rintro _ h ⟨i, hi, rfl, hno, kh⟩ kk hkk
    rw [ltNn, Mpu_some, Mcd_bool]
    by_cases hlt : i < xs.length
    rotate_left
    · rw [if_neg (by simpa using hlt)]
      rw [List.take_of_length_le (by omega)] at hno
      exact hk1 _ _ ⟨hno, kh⟩
    rw [if_pos (by simpa using hlt)]
    have hg : xs[i]? = some xs[i] := List.getElem?_eq_getElem hlt
    have hm : xs[i] ∈ xs := List.getElem_mem hlt
    have htk : xs.take (i + 1) = xs.take i ++ [xs[i]] := by rw [List.take_add_one, hg]; rfl
    generalize xs[i] = y at *
    obtain ⟨b, o, hix, hpt, _⟩ := (hv.keep kh fun _ _ => id).at (i := i) (x := [str y]) (strs_get hg)
    rw [hix .i64, Mpu_some, hpt.cell0 rfl, Mpu_some, str_eql, Mpu_some, Mcd_bool]
    by_cases hky : k = y
    · rw [if_pos (by simpa using hky)]
      exact ⟨kh, .inr ⟨i, rfl, y, hm, by simpa using hky⟩⟩
    · rw [if_neg (by simpa using hky), add_one' (by omega), Mpu_some]
      refine hkk _ _ ⟨i + 1, by omega, rfl, fun t ht => ?_, kh⟩ (by show xs.length - (i + 1) < xs.length - i; omega)
      rw [htk] at ht
      rcases List.mem_append.1 ht with ht | ht
      · exact hno t ht
      · rw [List.mem_singleton.1 ht]; simpa using hky
  · rintro _ h1 ⟨k1, ⟨rfl, hno⟩ | ⟨i, rfl, y, hm, hy⟩⟩
    · have e : binV .no .geq (.int .i64 (-1)) (.int .i64 0) = some (.bool false) := rfl
      rw [e, Mpu_some]
      refine ⟨?_, k1⟩
      rw [List.any_eq_false.2 fun x hx => by simp [hno x hx]]
    · rw [geN0, Mpu_some]
      refine ⟨?_, k1⟩
      rw [List.any_eq_true.2 ⟨y, hm, hy⟩]

/-- what was found (A), and the level that is made (l), at a heap behind h0; q: the map -/
structure Wst (h0 : Heap) (q : Nat) (A l : List (Nm × List Nm)) (t : Value) (h : Heap) : Prop where
  mp : SMap h q (byOf A)
  bf : ∃ F, (∀ b, F b → h0.size ≤ b ∧ b < h.size) ∧ BufE 1 F h t (strs (l.map (·.1)))
  ws : WhyS A
  kp : Keep (· = q) h0 h
  hq : q < h0.size
theorem Wst.go {h0 h h' : Heap} {q : Nat} {A l : List (Nm × List Nm)} {t : Value} (w : Wst h0 q A l t h) (k : Keep (fun _ => False) h h') : Wst h0 q A l t h' := by
  obtain ⟨m, ⟨F, hF, hb⟩, s, kp, hq⟩ := w
  exact ⟨m.keep k id, ⟨F, fun b hb => ⟨(hF b hb).1, Nat.lt_of_lt_of_le (hF b hb).2 k.1⟩, hb.keep k fun _ _ => id⟩, s, kp.trans (k.mono fun _ _ h => h.elim), hq⟩
theorem why_add {h0 h : Heap} {q a : Nat} {A l : List (Nm × List Nm)} {t : Value} {y v : Nm} {w : List Nm} {k : Value → Heap → Prop} (W : Wst h0 q A l t h) (hn : y ∉ A.map (·.1)) (hw : w.getLast?.getD [] = v) (hS : WhyS (A ++ [(y, w)])) (hl : l.length ≤ 1000000)
    (ha : ∀ h', Keep (· = q) h h' → ld1 h' (Ptr a 0) = some (str y)) (hk : ∀ t' h', Wst h0 q (A ++ [(y, w)]) (l ++ [(y, w)]) t' h' → k t' h') :
    Mpu (fld 0 (Ptr a 0)) fun t97 => Mpu (ld1 h t97) fun t98 => Msu prg (Instr.mapUpdate T_map_string_string (.map (some q)) t98 (str v)) h fun t_ h37 =>
      Mpu (fld 0 (Ptr a 0)) fun t101 => Mpu (ld1 h37 t101) fun t102 => Mnews h37 T_string 1 (bslV prg T_string 1 [(0, t102)]) fun t103 h38 => Mapp T_string 1 16 h38 t t103 fun t104 h39 => k t104 h39 := by
  rw [fld_ptr, Mpu_some, Nat.add_zero, ha _ Keep.refl, Mpu_some]
  obtain ⟨hm, ⟨F, hF, hb⟩, hs, kp, hq⟩ := W
  refine smap_add hm (fun e he e1 => hn ?_) fun h1 hm1 k1 => ?_
  · rw [← byOf_keys]; exact List.mem_map.2 ⟨e, he, e1⟩
  have hb1 : bslV prg T_string 1 [(0, str y)] = some #[str y] := bslS
  rw [Mpu_some, ha _ k1, Mpu_some, hb1, Mnews_some]
  generalize hH2 : h1.push (.cells #[str y] T_string (0, 0)) = h2
  have k2 : Keep (fun _ => False) h1 h2 := by rw [← hH2]; exact Keep.push
  have k12 : Keep (· = q) h h2 := k1.trans (k2.mono fun _ _ h => h.elim)
  have hx : SlE 1 (· = h1.size) h2 (.slice (some ⟨h1.size, 0, none⟩) 1 1) (strs [y]) := ⟨⟨_, 1, rfl, Nat.le_refl _, .inr ⟨h1.size, 0, rfl, rfl, by rw [rows1_flat, ← hH2]; exact Pt.of push_new⟩⟩, rows1_el, rows1_one fun v hv => by simp at hv; subst hv; rfl⟩
  have hq2 : ∀ b, F b → ¬ b = q := fun b hb e => by have := (hF b hb).1; omega
  refine ((hb.keep k12 hq2).mono (G := fun b => F b ∨ h2.size ≤ b) fun b hb => .inl hb).app hx (by omega) (by rw [strs_len, strs_len, List.length_map, List.length_singleton]; omega) (.inr (Nat.le_refl _)) fun t' h3 hb3 k3 => ?_
  have s1 := k1.1
  have s2 := k2.1
  have s3 := k3.1
  have hqs := kp.1
  refine hk _ _ ⟨?_, ⟨fun b => (F b ∨ h2.size ≤ b) ∧ b < h3.size, fun b hb => ⟨hb.1.elim (fun h => (hF b h).1) fun h => by omega, hb.2⟩, ?_⟩, hS, ?_, hq⟩
  · have : byOf (A ++ [(y, w)]) = byOf A ++ [(y, v)] := by rw [byOf_app]; simp [byOf, hw]
    rw [this]
    exact (hm1.keep k2 id).keep k3 fun h => h.elim (fun h => by have := (hF q h).1; omega) fun h => by omega
  · rw [List.map_append]
    have : strs (l.map (·.1) ++ [(y, w)].map (·.1)) = strs (l.map (·.1)) ++ strs [y] := by simp [strs, rows1]
    rw [this]
    exact BufE.re hb3 fun b hb hF => ⟨hF, hb⟩
  · refine ⟨by omega, fun b hb hne => ?_⟩
    rw [k3.2 b (by omega) (fun h => h.elim (fun h => by have := (hF b h).1; omega) fun h => by omega), k2.2 b (by omega) id, k1.2 b (by omega) hne, kp.2 b hb hne]
theorem dep_box {h : Heap} {d : Dep} {k : Value → Heap → Prop} (hd : d.wf) (hk : ∀ h', At h' h.size (depC d) → Keep (fun _ => False) h h' → h.size < h'.size → k (Ptr h.size 0) h') :
    Mnew h T_manifest_Dep (zcells prg T_manifest_Dep) fun t h1 => Mwr (stN 6 h1 t (.agg (depC d).toArray)) fun h2 => k t h2 := by
  simp only [z_Dep', Mnew_some]
  generalize hH22 : h.push (.cells (depC zeroD).toArray T_manifest_Dep (0, 0)) = h22
  have k22 : Keep (fun _ => False) h h22 := by rw [← hH22]; exact Keep.push
  have a22 : At h22 h.size (depC zeroD) := by rw [← hH22]; exact At.push
  obtain ⟨h23, st23, a23, k23⟩ := a22.st (n := 6) (ds := depC d) (depC_len zeroD_wf) (depC_len hd) depC_one
  rw [st23, Mwr_some]
  exact hk _ a23 (k22.fresh k23 fun b hb => by omega) a23.lt
theorem SMap.size {h : Heap} {q : Nat} {l : ByL} (m : SMap h q l) : ∃ arr c, h[q]? = some (.map arr c) ∧ arr.size = l.length := by
  obtain ⟨arr, c, hb, he⟩ := m
  refine ⟨arr, c, hb, ?_⟩
  have := congrArg List.length he
  simpa using this
/-- of the wants: each name once -/
def newW (ws : List Dep) : List (Nm × List Nm) := newOf [] (ws.map fun d => (d.name, []))
/-- a name that was found already, or was not -/
theorem look_by {h : Heap} {q : Nat} {A : List (Nm × List Nm)} {y : Nm} (hm : SMap h q (byOf A)) (hS : WhyS A) {k : Value → Heap → Prop} (hk : ∀ x, k (.tuple #[x, .bool (decide (y ∈ A.map (·.1)))]) h) :
    Msem prg (Instr.lookup T_map_string_string (.map (some q)) (str y) true) h k := by
  refine smap_look hm (by rw [byOf_keys]; exact hS.nd) ?_
  have : (bySt (byOf A) y).isSome = decide (y ∈ A.map (·.1)) := by
    rw [Bool.eq_iff_iff, decide_eq_true_eq, ← byOf_keys, Option.isSome_iff_ne_none, ne_eq, by_keys]
    exact Decidable.not_not
  rw [this]
  exact hk _
end Go.Proofs.YtanhgihfgmbojaaGreatDoor

/- solve: Why. -/
namespace Go.Proofs.YtanhgihfgmbojaaGreatDoor
open Go.X Go.X.Diff
set_option maxRecDepth 100000
set_option linter.unusedSimpArgs false
set_option linter.unusedVariables false

theorem nameOk_ne {l : List UInt8} (h : nameOk l = true) : l ≠ [] := by rintro rfl; cases h
theorem prob_names {hv : List Man} {ws : List Dep} {b : Int} (h : probOk hv ws b = true) : (∀ d ∈ ws, d.name ≠ []) ∧ ∀ k, k < hv.length → ∀ d ∈ (gM hv k).deps, d.name ≠ [] := by
  unfold probOk at h
  simp only [Bool.and_eq_true] at h
  refine ⟨fun d hd => ?_, fun k hk d hd => ?_⟩
  · have := List.all_eq_true.1 h.2 d hd
    rw [Bool.and_eq_true] at this
    exact nameOk_ne this.1
  · have := List.all_eq_true.1 h.1.2 k (List.mem_range.2 hk)
    unfold haveAt manOkG manOk depsOk at this
    simp only [Bool.and_eq_true] at this
    have := List.all_eq_true.1 this.1.1.1.2.1.1 d hd
    unfold depAt at this
    simp only [Bool.and_eq_true] at this
    exact nameOk_ne this.1.1
theorem newOf_len : ∀ {t : List (Nm × List Nm)} {seen : List Nm}, (newOf seen t).length ≤ t.length
  | [], _ => Nat.zero_le _
  | a :: t, seen => by
    rw [newOf]
    split
    · have := newOf_len (t := t) (seen := seen)
      rw [List.length_cons]; omega
    · have := newOf_len (t := t) (seen := seen ++ [a.1])
      rw [List.length_cons, List.length_cons]; omega
theorem newW_snoc {l : List Dep} {d : Dep} : newW (l ++ [d]) = newW l ++ (if d.name ∈ (newW l).map (·.1) then [] else [(d.name, [])]) := by
  unfold newW
  rw [List.map_append, List.map_singleton, newOf_snoc, List.nil_append]
theorem newW_len {l : List Dep} : (newW l).length ≤ l.length := by
  have := newOf_len (t := l.map fun d => (d.name, ([] : List Nm))) (seen := [])
  rwa [List.length_map] at this
def namesC (hv : List Man) (c : List Nat) : List Nm := c.map fun k => (gM hv k).name
theorem sat_name {hv : List Man} {wants : List Dep} {c : List Nat} (hR : RightC hv wants c) {d : Dep} (hd : d ∈ wants ∨ ∃ k ∈ c, d ∈ (gM hv k).deps) : d.name ∈ namesC hv c := by
  obtain ⟨k, hk, hf⟩ := hR.sat d hd
  exact List.mem_map.2 ⟨k, hk, fitM_name hf⟩
theorem of_names {hv : List Man} {c : List Nat} {n : Nm} (h : n ∈ namesC hv c) : ∃ k, ofF hv c n = some k ∧ k ∈ c ∧ depsN hv c n = (gM hv k).deps.map (·.name) := by
  cases ho : ofF hv c n with
  | none =>
    obtain ⟨k, hk, e⟩ := List.mem_map.1 h
    exact absurd e (of_none ho k hk)
  | some k => exact ⟨k, rfl, (of_some ho).1, by unfold depsN; rw [ho]⟩
theorem next_snoc {hv : List Man} {c : List Nat} {l : List (Nm × List Nm)} {e : Nm × List Nm} : nextOf hv c (l ++ [e]) = nextOf hv c l ++ (depsN hv c e.1).map fun y => (y, e.2 ++ [e.1]) := by
  unfold nextOf; rw [List.flatMap_append]; simp
/-- what the levels keep -/
structure WhyO (hv : List Man) (wants : List Dep) (c : List Nat) (name : Nm) (H1 : Heap) (q : Nat) (A l : List (Nm × List Nm)) (t : Value) (h : Heap) : Prop where
  mp : SMap h q (byOf A)
  sl : SlE 1 (fun b => b < h.size ∧ b ≠ q) h t (strs (l.map (·.1)))
  ws : WhyS A
  su : ∃ A', A = A' ++ l
  nm : ∀ e ∈ A, e.1 ∈ namesC hv c
  rn : ∀ r, WhyRun hv c name (A.map (·.1)) l r → WhyRun hv c name ((newW wants).map (·.1)) (newW wants) r
  kp : Keep (fun _ => False) H1 h
theorem WhyO.len {hv : List Man} {wants : List Dep} {c : List Nat} {name : Nm} {H1 h : Heap} {q : Nat} {A l : List (Nm × List Nm)} {t : Value} (o : WhyO hv wants c name H1 q A l t h) : A.length ≤ c.length ∧ l.length ≤ A.length := by
  have h1 := subset_len (l := A.map (·.1)) (m := namesC hv c) o.ws.nd fun x hx => by
    obtain ⟨e, he, rfl⟩ := List.mem_map.1 hx
    exact o.nm e he
  rw [List.length_map] at h1
  unfold namesC at h1
  rw [List.length_map] at h1
  obtain ⟨A', hA⟩ := o.su
  refine ⟨h1, ?_⟩
  rw [hA, List.length_append]; omega
def slLen : Value → Nat
  | .slice _ n _ => n
  | _ => 0
def WhyU (hv : List Man) (wants : List Dep) (b : Int) (name : Nm) (H H' : Heap) (z : List Int) (u : Value) : Prop := ((probOk hv wants b && rightB hv wants z) = false ∧ u = .slice none 0 0) ∨ ∃ c r, z = zs c ∧ probOk hv wants b = true ∧ RightC hv wants c ∧ WhyRun hv c name ((newW wants).map (·.1)) (newW wants) r ∧ SlE 1 (fun b => H.size ≤ b ∧ b < H'.size) H' u (strs (r.getD []))
set_option maxHeartbeats 8000000 in
theorem c_Why {P Q : Nat → Prop} {H : Heap} {mv : List MV} {wants : List Dep} {vh vw vc : Value} {b : Int} {z : List Int} {name : Nm} (hp : Prb P H mv wants vh vw) (hP : ∀ b, P b → b < H.size) (hc : SlE 1 Q H vc (ints z)) (hQ : ∀ b, Q b → b < H.size) (hl : mv.length ≤ 12) (hwl : wants.length ≤ 64) (hzl : z.length ≤ 1000000) (hO : OpsT H) :
    HCalls prg f_solve_Why [.agg (prbC vh vw b).toArray, vc, str name] H fun u H' => WhyU (hvOf mv) wants b name H H' z u ∧ Keep (fun _ => False) H H' := by
  apply sh_solve_Why_calls
  unfold sh_solve_Why
  simp only [Cells_agg, Mnew_some]
  generalize hH1 : H.push (.cells (prbC vh vw b).toArray T_solve_Problem (0, 0)) = H1
  have k1 : Keep (fun _ => False) H H1 := by rw [← hH1]; exact Keep.push
  have a1 : At H1 H.size (prbC vh vw b) := by rw [← hH1]; exact At.push
  have s1 : H1.size = H.size + 1 := by rw [← hH1]; simp
  have hvl : (hvOf mv).length = mv.length := by simp
  rw [a1.ldN (n := 3) rfl, Mpu_some]
  refine call_i (c_Right (hp.keep k1 fun _ _ => id) (fun b hb => by have := hP b hb; omega) (hc.keep k1 fun _ _ => id) (fun b hb => by have := hQ b hb; omega) (by omega) hwl hzl (hO.keep k1 fun _ h => h.elim)) ?_
  rintro _ h2 ⟨rfl, k2⟩
  have k02 := k1.trans k2
  rw [unV_not, Mpu_some, Mcd_bool]
  cases hrb : (probOk (hvOf mv) wants b && rightB (hvOf mv) wants z)
  · rw [if_pos (by rfl)]
    exact ⟨.inl ⟨hrb, rfl⟩, k02⟩
  rw [if_neg (by decide)]
  obtain ⟨w1, w2⟩ := Bool.and_eq_true_iff.1 hrb
  obtain ⟨c, rfl, hR⟩ := rightB_iff.1 w2
  have hcl := hR.nm.len
  obtain ⟨pn1, pn2⟩ := prob_names w1
  have g2 := k02.1
  have g12 := k2.1
  refine makeMap_i ?_
  generalize hH3 : h2.push (.map #[] 0) = h3
  have k3 : Keep (fun _ => False) h2 h3 := by rw [← hH3]; exact Keep.push
  have s3 : h3.size = h2.size + 1 := by rw [← hH3]; simp
  have m3 : SMap h3 h2.size (byOf []) := by rw [← hH3]; exact MapAt.new
  have k13 := k2.trans k3
  have at1 : ∀ {h : Heap}, Keep (fun _ => False) H1 h → At h H.size (prbC vh vw b) := fun k => a1.keep k id
  have ne1 : ∀ {S : Nat → Prop} {h h' : Heap}, Keep (fun _ => False) H1 h → Keep (· = h2.size) h h' → Keep (fun _ => False) H1 h' := fun k k' => k.fresh k' fun b hb => by omega
  refine J2_i (fun t8 _ h => Wst h3 h2.size (newW wants) (newW wants) t8 h) (fun k4 hk4 => ?_) ?_
  · rw [fld_ptr, Mpu_some, Nat.zero_add, (at1 k13).ld (i := 1) rfl, Mpu_some]
    have lw := hp.w.len
    rw [List.length_map] at lw
    rw [lw, Mpu_some]
    refine L2_i (fun t8 t32 h => ∃ i : Nat, i ≤ wants.length ∧ t32 = .int .i64 (i : Nat) ∧ Wst h3 h2.size (newW (wants.take i)) (newW (wants.take i)) t8 h) (fun _ u _ => match u with | .int _ t => wants.length - t.toNat | _ => 0)
      ⟨0, Nat.zero_le _, rfl, m3, ⟨fun _ => False, fun b hb => hb.elim, BufE.nil⟩, WhyS.nil, Keep.refl, by omega⟩ ?_
    rintro t8 _ h7 ⟨i, hi, rfl, W⟩ k6 hk6
    rw [ltNn, Mpu_some, Mcd_bool]
    by_cases hlt : i < wants.length
    rotate_left
    · rw [if_neg (by simpa using hlt)]
      rw [List.take_of_length_le (by omega)] at W
      exact hk4 _ _ _ W
    rw [if_pos (by simpa using hlt)]
    have hg : wants[i]? = some wants[i] := List.getElem?_eq_getElem hlt
    have hm : wants[i] ∈ wants := List.getElem_mem hlt
    have htk : wants.take (i + 1) = wants.take i ++ [wants[i]] := by rw [List.take_add_one, hg]; rfl
    generalize wants[i] = d at *
    have hdw := hp.ww d hm
    refine J1_i (fun t h => Wst h3 h2.size (newW (wants.take (i + 1))) (newW (wants.take (i + 1))) t h) (fun k8 hk8 => ?_) ?_
    rotate_left
    · rintro t h9 W9
      rw [add_one' (by omega), Mpu_some]
      exact hk6 _ _ _ ⟨i + 1, by omega, rfl, W9⟩ (by show wants.length - (i + 1) < wants.length - i; omega)
    have k17 : Keep (fun _ => False) H1 h7 := ne1 (S := fun _ => False) k13 W.kp
    have k07 := k1.trans k17
    obtain ⟨pd, od, hid, hpd, _⟩ := (hp.keep k07 fun _ _ => id).w.at (i := i) (x := depC d) (by rw [List.getElem?_map, hg]; rfl)
    rw [hid .i64, Mpu_some, hpd.agg (depC_len hdw), Mpu_some]
    refine dep_box hdw fun h11 a11 k11 s11 => ?_
    have W11 := W.go k11
    have g7 := W.kp.1
    rw [fld_ptr, Mpu_some, Nat.add_zero, show ld1 h11 (Ptr h7.size 0) = some (str d.name) from a11.ld rfl, Mpu_some]
    refine look_by W11.mp W11.ws fun x => ?_
    simp only [extV_tuple]
    rw [show (#[x, Value.bool (decide (d.name ∈ (newW (wants.take i)).map (·.1)))][0]?) = some x from rfl, Mpu_some, show (#[x, Value.bool (decide (d.name ∈ (newW (wants.take i)).map (·.1)))][1]?) = some (.bool (decide (d.name ∈ (newW (wants.take i)).map (·.1)))) from rfl, Mpu_some, unV_not, Mpu_some, Mcd_bool]
    rw [htk, newW_snoc] at hk8
    by_cases hin : d.name ∈ (newW (wants.take i)).map (·.1)
    · rw [if_pos hin, List.append_nil] at hk8
      rw [decide_eq_true hin, if_neg (by decide)]
      exact hk8 _ _ W11
    · rw [if_neg hin] at hk8
      rw [decide_eq_false hin, if_pos (by rfl)]
      refine why_add (v := []) W11 hin rfl (W11.ws.base (pn1 d hm) hin) (by have := newW_len (l := wants.take i); rw [List.length_take] at this; omega) (fun h' k' => (a11.keep k' (by omega)).ld rfl) fun t' h' W' => hk8 _ _ W'
  rintro t8 _ h5 W5
  have O5 : WhyO (hvOf mv) wants c name H1 h2.size (newW wants) (newW wants) t8 h5 := by
    obtain ⟨F, hF, hb⟩ := W5.bf
    refine ⟨W5.mp, hb.sl.mono fun b hb => ⟨(hF b hb).2, by have := (hF b hb).1; omega⟩, W5.ws, ⟨[], rfl⟩, fun e he => ?_, fun r h => h, ne1 (S := fun _ => False) k13 W5.kp⟩
    obtain ⟨d, hd, rfl⟩ := List.mem_map.1 (newOf_fst he)
    exact sat_name hR (.inl hd)
  refine J2_i (fun t8 _ h => ∃ A l, WhyO (hvOf mv) wants c name H1 h2.size A l t8 h ∧ (l = [] ∨ name ∈ l.map (·.1))) (fun k16 hk16 => ?_) ?_
  · refine L1_i (fun t8 h => ∃ A l, WhyO (hvOf mv) wants c name H1 h2.size A l t8 h) (fun t8 h => (13 - (match h[h2.size]? with | some (.map arr _) => arr.size | _ => 0)) * 2 + (match t8 with | .slice _ n _ => min n 1 | _ => 0)) ⟨_, _, O5⟩ ?_
    rintro t8 h19 ⟨A, l, O⟩ k18 hk18
    obtain ⟨ol1, ol2⟩ := O.len
    have ll := O.sl.len
    rw [strs_len, List.length_map] at ll
    rw [ll, Mpu_some, show binV .no .gtr (.int .i64 (l.length : Nat)) (.int .i64 0) = some (.bool (decide (l.length > 0))) from gtNn (m := 0), Mpu_some]
    by_cases h0 : l = []
    · subst h0
      simp only [List.length_nil, gt_iff_lt, Nat.lt_irrefl, decide_false, J1_eq, Mif_bool, Bool.false_eq_true, if_false, pickV_bool, Mpu_some, Mcd_bool]
      exact hk16 _ _ _ ⟨A, [], O, .inl rfl⟩
    have hpos := List.length_pos_iff.2 h0
    rw [decide_eq_true hpos]
    refine J1_yes rfl ?_
    refine call_i (c_ContainsS O.sl (by rw [List.length_map]; omega)) ?_
    rintro _ h22 ⟨rfl, k22⟩
    rw [unV_not, Mpu_some]
    show Mpu (pickV (.bool true) (.bool _) (.bool false)) _
    rw [pickV_bool, if_pos rfl, Mpu_some, Mcd_bool]
    have kA := O.kp.trans k22
    by_cases hin : name ∈ l.map (·.1)
    · rw [List.any_eq_true.2 ⟨name, hin, by simp⟩, if_neg (by decide)]
      exact hk16 _ _ _ ⟨A, l, ⟨O.mp.keep k22 id, (O.sl.keep k22 fun _ _ => id).mono fun b hb => ⟨Nat.lt_of_lt_of_le hb.1 k22.1, hb.2⟩, O.ws, O.su, O.nm, O.rn, kA⟩, .inr hin⟩
    have hno : (l.map (·.1)).any (fun y => decide (name = y)) = false := List.any_eq_false.2 fun y hy => by
      have : ¬ name = y := fun e => hin (by rw [e]; exact hy)
      simpa using this
    rw [hno, if_pos (by rfl)]
    have m22 := O.mp.keep k22 id
    have sl22 := (O.sl.keep k22 fun _ _ => id).mono (Q := fun b => b < h22.size ∧ b ≠ h2.size) fun b hb => ⟨Nat.lt_of_lt_of_le hb.1 k22.1, hb.2⟩
    have hq22 : h2.size < h22.size := by obtain ⟨_, _, hb, _⟩ := m22; exact lt_of hb
    let T : Nat → List (Nm × List Nm) := fun i => nextOf (hvOf mv) c (l.take i)
    have hT : ∀ D, newOf (A.map (·.1)) D = newOf (A.map (·.1)) D := fun D => rfl
    let I : List (Nm × List Nm) → Value → Heap → Prop := fun D t h => Wst h22 h2.size (A ++ newOf (A.map (·.1)) D) (newOf (A.map (·.1)) D) t h ∧ (∀ e ∈ newOf (A.map (·.1)) D, e.1 ∈ namesC (hvOf mv) c)
    refine J2_i (fun t _ h => I (nextOf (hvOf mv) c l) t h) (fun k23 hk23 => ?_) ?_
    rotate_left
    · rintro t _ h24 ⟨W, hnm⟩
      generalize hnx : newOf (A.map (·.1)) (nextOf (hvOf mv) c l) = nx at *
      obtain ⟨F, hF, hb⟩ := W.bf
      have O' : WhyO (hvOf mv) wants c name H1 h2.size (A ++ nx) nx t h24 := by
        refine ⟨W.mp, hb.sl.mono fun b hb => ⟨(hF b hb).2, by have := (hF b hb).1; omega⟩, W.ws, ⟨A, rfl⟩, fun e he => ?_, fun r h => O.rn r (.next h0 hin ?_), ne1 (S := fun _ => False) kA W.kp⟩
        · rcases List.mem_append.1 he with he | he
          · exact O.nm e he
          · exact hnm e he
        · rw [hnx, ← List.map_append]; exact h
      refine hk18 _ _ ⟨_, _, O'⟩ ?_
      obtain ⟨arr, cl, hb1, he1⟩ := O.mp.size
      obtain ⟨arr', cl', hb2, he2⟩ := W.mp.size
      obtain ⟨p1, c1, e1⟩ := O.sl.shape
      obtain ⟨p2, c2, e2⟩ := hb.sl.shape
      rw [strs_len, List.length_map] at e1 e2
      obtain ⟨ol1', ol2'⟩ := O'.len
      rw [hb1, hb2, e1, e2]
      show (13 - arr'.size) * 2 + min nx.length 1 < (13 - arr.size) * 2 + min l.length 1
      rw [he1, he2]
      unfold byOf
      rw [List.length_map, List.length_map, List.length_append]
      rw [List.length_append] at ol1'
      omega
    rw [Mpu_some]
    refine L2_i (fun t13 t65 h => ∃ i : Nat, i ≤ l.length ∧ t65 = .int .i64 (i : Nat) ∧ I (nextOf (hvOf mv) c (l.take i)) t13 h) (fun _ u _ => match u with | .int _ t => l.length - t.toNat | _ => 0)
      ⟨0, Nat.zero_le _, rfl, ⟨by simpa [nextOf, newOf] using m22, ⟨fun _ => False, fun b hb => hb.elim, by simpa [nextOf, newOf, rows1] using BufE.nil⟩, by simpa [nextOf, newOf] using O.ws, Keep.refl, hq22⟩, by simp [nextOf, newOf]⟩ ?_
    rintro t13 _ h26 ⟨i, hi, rfl, hI⟩ k25 hk25
    rw [ltNn, Mpu_some, Mcd_bool]
    by_cases hlt : i < l.length
    rotate_left
    · rw [if_neg (by simpa using hlt)]
      rw [List.take_of_length_le (by omega)] at hI
      exact hk23 _ _ _ hI
    rw [if_pos (by simpa using hlt)]
    have hg : l[i]? = some l[i] := List.getElem?_eq_getElem hlt
    have hm : l[i] ∈ l := List.getElem_mem hlt
    have htk : l.take (i + 1) = l.take i ++ [l[i]] := by rw [List.take_add_one, hg]; rfl
    generalize l[i] = e at *
    have heA : e ∈ A := by obtain ⟨A', hA⟩ := O.su; rw [hA]; exact List.mem_append.2 (.inr hm)
    refine J2_i (fun t _ h => I (nextOf (hvOf mv) c (l.take (i + 1))) t h) (fun k27 hk27 => ?_) ?_
    rotate_left
    · rintro t _ h28 hI'
      rw [add_one' (by omega), Mpu_some]
      exact hk25 _ _ _ ⟨i + 1, by omega, rfl, hI'⟩ (by show l.length - (i + 1) < l.length - i; omega)
    have kW := hI.1.kp
    have k126 : Keep (fun _ => False) H1 h26 := ne1 (S := fun _ => False) kA kW
    have k026 := k1.trans k126
    obtain ⟨pl, ol, hil, hpl, _⟩ := (sl22.keep kW fun b hb e => hb.2 e).at (i := i) (x := [str e.1]) (strs_get (by rw [List.getElem?_map, hg]; rfl))
    rw [hil .i64, Mpu_some, show ld1 h26 (Ptr pl ol) = some (str e.1) from hpl.cell0 rfl, Mpu_some, (at1 k126).ldN (n := 3) rfl, Mpu_some]
    refine call_i (c_of (hp.keep k026 fun _ _ => id) (hc.keep k026 fun _ _ => id) hR.nm.1 (by omega)) ?_
    rintro _ h29 ⟨rfl, k29⟩
    obtain ⟨k, hof, hkc, hdn⟩ := of_names (O.nm e heA)
    have hkl := hR.nm.1 k hkc
    rw [hof]
    simp only [extV_tuple]
    rw [show (#[Value.int .i64 (k : Nat), .bool true][0]?) = some (.int .i64 (k : Nat)) from rfl, Mpu_some, show (#[Value.int .i64 (k : Nat), .bool true][1]?) = some (.bool true) from rfl, Mpu_some]
    have k129 := k126.trans k29
    have k029 := k1.trans k129
    obtain ⟨x, _, hgx, hxm, hmx, bx, ox, hix', hpx, _⟩ := (hp.keep k029 fun _ _ => id).at hkl
    have hdl := (hp.sm x hxm).1
    have ld := hmx.d.len
    rw [List.length_map] at ld
    rw [fld_ptr, Mpu_some, Nat.add_zero, (at1 k129).ld (i := 0) rfl, Mpu_some, hix' .i64, Mpu_some, fld_ptr, Mpu_some, show ld1 h29 (Ptr bx (ox + 5)) = some x.2.1 from hpx.cell (i := 5) (by simp [mvC, manC, verC_len hmx.wf.ver, List.getElem?_append_right]), Mpu_some, ld, Mpu_some]
    rw [hgx] at hdn
    let D : Nat → List (Nm × List Nm) := fun j => nextOf (hvOf mv) c (l.take i) ++ (x.1.deps.take j).map fun d => (d.name, e.2 ++ [e.1])
    have hDn : D x.1.deps.length = nextOf (hvOf mv) c (l.take (i + 1)) := by
      show _ ++ _ = _
      rw [htk, next_snoc, hdn, List.take_length, List.map_map]; rfl
    refine L2_i (fun t13 t83 h => ∃ j : Nat, j ≤ x.1.deps.length ∧ t83 = .int .i64 (j : Nat) ∧ I (D j) t13 h) (fun _ u _ => match u with | .int _ t => x.1.deps.length - t.toNat | _ => 0)
      ⟨0, Nat.zero_le _, rfl, by show I (_ ++ (x.1.deps.take 0).map _) _ _; rw [List.take_zero, List.map_nil, List.append_nil]; exact ⟨hI.1.go k29, hI.2⟩⟩ ?_
    clear hI
    rintro t13 _ h31 ⟨j, hj, rfl, hI⟩ k30 hk30
    rw [ltNn, Mpu_some, Mcd_bool]
    by_cases hjl : j < x.1.deps.length
    rotate_left
    · rw [if_neg (by simpa using hjl)]
      obtain rfl : j = x.1.deps.length := by omega
      rw [hDn] at hI
      exact hk27 _ _ _ hI
    rw [if_pos (by simpa using hjl)]
    have hgd : x.1.deps[j]? = some x.1.deps[j] := List.getElem?_eq_getElem hjl
    have hmd : x.1.deps[j] ∈ x.1.deps := List.getElem_mem hjl
    have htd : x.1.deps.take (j + 1) = x.1.deps.take j ++ [x.1.deps[j]] := by rw [List.take_add_one, hgd]; rfl
    generalize x.1.deps[j] = d at *
    have hdw := hmx.wf.deps d hmd
    have hD1 : D (j + 1) = D j ++ [(d.name, e.2 ++ [e.1])] := by
      show _ ++ _ = (_ ++ _) ++ _
      rw [htd, List.map_append, List.append_assoc]; rfl
    refine J1_i (fun t h => I (D (j + 1)) t h) (fun k32 hk32 => ?_) ?_
    rotate_left
    · rintro t h33 hI'
      rw [add_one' (by omega), Mpu_some]
      exact hk30 _ _ _ ⟨j + 1, by omega, rfl, hI'⟩ (by show x.1.deps.length - (j + 1) < x.1.deps.length - j; omega)
    obtain ⟨W, hnm⟩ := hI
    have k131 : Keep (fun _ => False) H1 h31 := ne1 (S := fun _ => False) kA W.kp
    have k031 := k1.trans k131
    obtain ⟨pd, od, hid, hpd, _⟩ := ((hp.keep k031 fun _ _ => id).m x hxm).d.at (i := j) (x := depC d) (by rw [List.getElem?_map, hgd]; rfl)
    rw [hid .i64, Mpu_some, hpd.agg (depC_len hdw), Mpu_some]
    refine dep_box hdw fun h35 a35 k35 s35 => ?_
    have W35 := W.go k35
    have g31 := W.kp.1
    rw [fld_ptr, Mpu_some, Nat.add_zero, show ld1 h35 (Ptr h31.size 0) = some (str d.name) from a35.ld rfl, Mpu_some]
    refine look_by W35.mp W35.ws fun y => ?_
    simp only [extV_tuple]
    generalize hnx : newOf (A.map (·.1)) (D j) = nx at *
    rw [show (#[y, Value.bool (decide (d.name ∈ (A ++ nx).map (·.1)))][0]?) = some y from rfl, Mpu_some, show (#[y, Value.bool (decide (d.name ∈ (A ++ nx).map (·.1)))][1]?) = some (.bool (decide (d.name ∈ (A ++ nx).map (·.1)))) from rfl, Mpu_some, unV_not, Mpu_some, Mcd_bool]
    have hsn : newOf (A.map (·.1)) (D (j + 1)) = nx ++ (if d.name ∈ (A ++ nx).map (·.1) then [] else [(d.name, e.2 ++ [e.1])]) := by
      rw [hD1, newOf_snoc, hnx, List.map_append]
    have hdN : d.name ∈ namesC (hvOf mv) c := sat_name hR (.inr ⟨k, hkc, by rw [hgx]; exact hmd⟩)
    by_cases hin : d.name ∈ (A ++ nx).map (·.1)
    · rw [if_pos hin, List.append_nil] at hsn
      rw [decide_eq_true hin, if_neg (by decide)]
      refine hk32 _ _ ?_
      show Wst _ _ _ _ _ _ ∧ _
      rw [hsn]; exact ⟨W35, hnm⟩
    · rw [if_neg hin] at hsn
      rw [decide_eq_false hin, if_pos (by rfl)]
      have hnl : nx.length ≤ 1000000 := by
        have h1 := subset_len (l := (A ++ nx).map (·.1)) (m := namesC (hvOf mv) c) W.ws.nd fun x hx => by
          obtain ⟨e, he, rfl⟩ := List.mem_map.1 hx
          rcases List.mem_append.1 he with he | he
          · exact O.nm e he
          · exact hnm e he
        rw [List.length_map, List.length_append] at h1
        unfold namesC at h1
        rw [List.length_map] at h1
        omega
      refine why_add (v := e.1) W35 hin (by simp) (W35.ws.step (List.mem_append.2 (.inl heA)) (pn2 k hkl d (by rw [hgx]; exact hmd)) hin) hnl (fun h' k' => (a35.keep k' (by omega)).ld rfl) fun t' h' W' => hk32 _ _ ?_
      show Wst _ _ _ _ _ _ ∧ _
      rw [hsn, ← List.append_assoc]
      refine ⟨W', fun e' he' => ?_⟩
      rcases List.mem_append.1 he' with he' | he'
      · exact hnm e' he'
      · rw [List.mem_singleton.1 he']; exact hdN
  rintro t8' _ h17 ⟨A, l, O, hend⟩
  obtain ⟨ol1, ol2⟩ := O.len
  have ll := O.sl.len
  rw [strs_len, List.length_map] at ll
  rw [ll, Mpu_some, show binV .no .eql (.int .i64 (l.length : Nat)) (.int .i64 0) = some (.bool (decide (l.length = 0))) from eqNn (m := 0), Mpu_some, Mcd_bool]
  by_cases h0 : l = []
  · subst h0
    rw [if_pos (by decide)]
    exact ⟨.inr ⟨c, none, rfl, w1, hR, O.rn _ .nil, SlE.nil⟩, k1.trans O.kp⟩
  have hpos := List.length_pos_iff.2 h0
  rw [if_neg (by simpa using h0)]
  have hin : name ∈ l.map (·.1) := hend.resolve_left h0
  obtain ⟨pr, hprl⟩ : ∃ pr, (name, pr) ∈ l := by
    obtain ⟨⟨n, pr⟩, h, rfl⟩ := List.mem_map.1 hin
    exact ⟨pr, h⟩
  have hprA : (name, pr) ∈ A := by obtain ⟨A', hA⟩ := O.su; rw [hA]; exact List.mem_append.2 (.inr hprl)
  obtain ⟨hnn, hchn⟩ := O.ws.ch _ hprA
  have hprl' : pr.length < A.length := O.ws.ln _ hprA
  have hq17 : h2.size < h17.size := by obtain ⟨_, _, hb, _⟩ := O.mp; exact lt_of hb
  refine J2_i (fun t22 _ h => (∃ F, (∀ b, F b → h17.size ≤ b ∧ b < h.size) ∧ BufE 1 F h t22 (strs (pr ++ [name]))) ∧ Keep (fun _ => False) h17 h) (fun k40 hk40 => ?_) ?_
  rotate_left
  · rintro t22 _ h41 ⟨⟨F, hF, hb⟩, k41⟩
    have g17 := O.kp.1
    exact ⟨.inr ⟨c, _, rfl, w1, hR, O.rn _ (.hit hprl), hb.sl.mono fun b hb => ⟨by have := (hF b hb).1; omega, (hF b hb).2⟩⟩, (k1.trans O.kp).trans k41⟩
  refine L2_i (fun t22 t23 h => ∃ (n : Nm) (w rest : List Nm) (F : Nat → Prop), t23 = str n ∧ BufE 1 F h t22 (strs w) ∧ (∀ b, F b → h17.size ≤ b ∧ b < h.size) ∧ Keep (fun _ => False) h17 h ∧ ((n ≠ [] ∧ Chn (byOf A) n rest ∧ rest ++ [n] ++ w = pr ++ [name]) ∨ (n = [] ∧ w = pr ++ [name])))
    (fun t22 _ _ => pr.length + 1 - slLen t22) ⟨name, [], pr, fun _ => False, rfl, BufE.nil, fun b hb => hb.elim, Keep.refl, .inl ⟨hnn, hchn, by simp⟩⟩ ?_
  rintro t22 _ h43 ⟨n, w, rest, F, rfl, hb, hF, k43, hcase⟩ k42 hk42
  rw [show binV .no .neq (str n) (.string ⟨#[]⟩) = some (.bool (!decide (n = []))) from str_neq (b := []), Mpu_some, Mcd_bool]
  rcases hcase with ⟨hne, hch, heq⟩ | ⟨rfl, rfl⟩
  rotate_left
  · rw [if_neg (by decide)]
    exact hk40 _ _ _ ⟨⟨F, hF, hb⟩, k43⟩
  rw [if_pos (by simpa using hne)]
  have hbs : bslV prg T_string 1 [(0, str n)] = some #[str n] := bslS
  rw [hbs, Mnews_some]
  generalize hH44 : h43.push (.cells #[str n] T_string (0, 0)) = h44
  have k44 : Keep (fun _ => False) h43 h44 := by rw [← hH44]; exact Keep.push
  have g43 := k43.1
  have g44 := k44.1
  have hlen := congrArg List.length heq
  simp only [List.length_append, List.length_singleton] at hlen
  refine call_i (c_InsertS (hb.keep k44 fun _ _ => id) (q := h43.size) (by rw [← hH44]; exact push_new) (fun hb => by have := (hF _ hb).2; omega) (by omega)) ?_
  rintro t120 h45 ⟨hb45, k45⟩
  have k1745 : Keep (fun _ => False) h17 h45 := (k43.trans k44).fresh k45 fun b hb => (hF b hb).1
  have g45 := k45.1
  refine smap_look (O.mp.keep k1745 id) (by rw [byOf_keys]; exact O.ws.nd) ?_
  obtain ⟨p22, c22, e22⟩ := hb.sl.shape
  obtain ⟨p120, c120, e120⟩ := hb45.sl.shape
  rw [strs_len] at e22 e120
  have hmu : pr.length + 1 - slLen t120 < pr.length + 1 - slLen t22 := by
    rw [e22, e120]
    show pr.length + 1 - (w.length + 1) < pr.length + 1 - w.length
    omega
  have hb' : BufE 1 (fun b => h17.size ≤ b ∧ b < h45.size) h45 t120 (strs (n :: w)) := BufE.re hb45 fun b hb hF' => ⟨hF'.elim (fun h => (hF b h).1) fun h => by omega, hb⟩
  show k42 t120 (str ((bySt (byOf A) n).getD [])) h45
  cases hch with
  | base h =>
    rw [h]
    exact hk42 _ _ _ ⟨[], n :: w, [], _, rfl, hb', fun b hb => hb, k1745, .inr ⟨rfl, by simpa using heq⟩⟩ hmu
  | @step _ p w0 h hpn hc' =>
    rw [h]
    exact hk42 _ _ _ ⟨p, n :: w, w0, _, rfl, hb', fun b hb => hb, k1745, .inl ⟨hpn, hc', by simpa using heq⟩⟩ hmu
end Go.Proofs.YtanhgihfgmbojaaGreatDoor

