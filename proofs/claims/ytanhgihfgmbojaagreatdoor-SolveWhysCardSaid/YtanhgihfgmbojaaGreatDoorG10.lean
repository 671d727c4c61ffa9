/- JOINED: V170 V171 -/
import Derived.Test.YtanhgihfgmbojaaGreatDoorGZ
import Derived.Test.YtanhgihfgmbojaaGreatDoorGE
import Derived.Test.YtanhgihfgmbojaaGreatDoorG8
set_option linter.unusedSimpArgs false
set_option linter.unusedVariables false
/- solve: asked, Right. -/
namespace Go.Proofs.YtanhgihfgmbojaaGreatDoor
open Go.X Go.X.Diff
set_option maxRecDepth 100000
set_option linter.unusedSimpArgs false
set_option linter.unusedVariables false

/- what is asked of a choice -/
def askL (hv : List Man) (wants : List Dep) (c : List Nat) : List Dep := wants ++ (c.map fun k => (gM hv k).deps).flatten
theorem mem_ask {hv : List Man} {wants : List Dep} {c : List Nat} {d : Dep} : d ∈ askL hv wants c ↔ d ∈ wants ∨ ∃ k ∈ c, d ∈ (gM hv k).deps := by
  unfold askL
  rw [List.mem_append, List.mem_flatten]
  constructor
  · rintro (h | ⟨l, hl, hd⟩)
    · exact .inl h
    · obtain ⟨k, hk, rfl⟩ := List.mem_map.1 hl
      exact .inr ⟨k, hk, hd⟩
  · rintro (h | ⟨k, hk, hd⟩)
    · exact .inl h
    · exact .inr ⟨_, List.mem_map.2 ⟨k, hk, rfl⟩, hd⟩
def goodF (hv : List Man) (c : List Nat) (d : Dep) : Bool := match ofF hv c d.name with
  | some k => fitM d (gM hv k)
  | none => false
theorem goodF_iff {hv : List Man} {c : List Nat} {d : Dep} (hN : Names hv c) : goodF hv c d = true ↔ ∃ k ∈ c, fitM d (gM hv k) = true := by
  unfold goodF
  constructor
  · intro h
    cases ho : ofF hv c d.name with
    | none => rw [ho] at h; cases h
    | some k => rw [ho] at h; exact ⟨k, (of_some ho).1, h⟩
  · rintro ⟨k, hk, hf⟩
    cases ho : ofF hv c d.name with
    | none => exact absurd (fitM_name hf) (of_none ho k hk)
    | some j =>
      obtain ⟨h1, h2⟩ := of_some ho
      rw [hN.same h1 hk (h2.trans (fitM_name hf).symm)]
      exact hf
theorem right_ask {hv : List Man} {wants : List Dep} {c : List Nat} (hN : Names hv c) (hR : NoRef hv c) : RightC hv wants c ↔ (askL hv wants c).all (goodF hv c) = true := by
  rw [List.all_eq_true]
  constructor
  · intro h d hd
    exact (goodF_iff hN).2 (h.sat d (mem_ask.1 hd))
  · intro h
    exact ⟨hN, hR, fun d hd => (goodF_iff hN).1 (h d (mem_ask.2 hd))⟩
theorem Names.put {hv : List Man} {c : List Nat} {k : Nat} (h : Names hv c) (hk : k < hv.length) (h1 : ofF hv c (gM hv k).name = none) : Names hv (c ++ [k]) := by
  refine ⟨fun j hj => ?_, ?_⟩
  · rcases List.mem_append.1 hj with hj | hj
    · exact h.1 j hj
    · simp at hj; subst hj; exact hk
  · rw [List.map_append, List.nodup_append]
    refine ⟨h.2, by simp, fun a ha b hb e => ?_⟩
    subst e
    obtain ⟨j, hj, rfl⟩ := List.mem_map.1 ha
    simp at hb
    exact of_none h1 j hj hb
theorem NoRef.put {hv : List Man} {c : List Nat} {k : Nat} (h : NoRef hv c) (hc : clashF hv c k = false) : NoRef hv (c ++ [k]) := fun i hi j hj hne => by
  have hcl := clash_no hc
  rcases List.mem_append.1 hi with hi1 | hi1 <;> rcases List.mem_append.1 hj with hj1 | hj1
  · exact h i hi1 j hj1 hne
  · rw [List.mem_singleton.1 hj1]; exact (hcl i hi1).1
  · rw [List.mem_singleton.1 hi1]; exact (hcl j hj1).2
  · exact absurd ((List.mem_singleton.1 hi1).trans (List.mem_singleton.1 hj1).symm) hne
theorem NoRef.nil {hv : List Man} : NoRef hv [] := fun i hi => absurd hi (by simp)
theorem rightB_no {hv : List Man} {wants : List Dep} {z : List Int} (h : ∀ c, z = zs c → ¬ RightC hv wants c) : rightB hv wants z = false := by
  cases e : rightB hv wants z
  · rfl
  · obtain ⟨c, hc, hr⟩ := rightB_iff.1 e
    exact absurd hr (h c hc)
/-- what stands ahead of a place -/
theorem zs_split {c' c : List Nat} {z : List Int} {i : Nat} {n : Int} (hz : z = zs c') (ht : z.take i = zs c) (hn : z[i]? = some n) : ∃ k rest, n = ((k : Nat) : Int) ∧ c' = c ++ k :: rest := by
  subst hz
  obtain ⟨k, hk, rfl⟩ := zs_get' hn
  rw [zs_take] at ht
  have := cast_inj ht
  obtain ⟨hlt, rfl⟩ := List.getElem?_eq_some_iff.1 hk
  refine ⟨c'[i], c'.drop (i + 1), rfl, ?_⟩
  rw [← this]
  conv => lhs; rw [← List.take_append_drop i c']
  rw [List.drop_eq_getElem_cons hlt]

/- the iterator -/
structure AskSt (P Q : Nat → Prop) (mv : List MV) (wants : List Dep) (vh vw vc : Value) (b : Int) (q r : Nat) (c : List Nat) (h : Heap) : Prop where
  p : Prb P h mv wants vh vw
  q : At h q (prbC vh vw b)
  r : At h r [vc]
  sc : SlE 1 Q h vc (ints (zs c))
  lt : ∀ k ∈ c, k < (hvOf mv).length
def AskR (P Q : Nat → Prop) (q r : Nat) : Nat → Prop := fun b => b = q ∨ b = r ∨ P b ∨ Q b
theorem AskSt.keep {P Q S : Nat → Prop} {mv : List MV} {wants : List Dep} {vh vw vc : Value} {b : Int} {q r : Nat} {c : List Nat} {h h' : Heap} (s : AskSt P Q mv wants vh vw vc b q r c h) (k : Keep S h h') (hs : ∀ b, AskR P Q q r b → ¬ S b) : AskSt P Q mv wants vh vw vc b q r c h' :=
  ⟨s.p.keep k fun b hb => hs b (.inr (.inr (.inl hb))), s.q.keep k (hs _ (.inl rfl)), s.r.keep k (hs _ (.inr (.inl rfl))), s.sc.keep k fun b hb => hs b (.inr (.inr (.inr hb))), s.lt⟩
def AskX (hv : List Man) (wants : List Dep) (c : List Nat) (j : Nat) (x : List Value) (_ : Heap) : Prop := ∃ d, (askL hv wants c)[j]? = some d ∧ x = [.agg (depC d).toArray]
def offF (hv : List Man) (c : List Nat) : Nat := ((c.map fun k => (gM hv k).deps).flatten).length
theorem off_snoc {hv : List Man} {c : List Nat} {k : Nat} : offF hv (c ++ [k]) = offF hv c + (gM hv k).deps.length := by simp [offF]
theorem ask_at' {hv : List Man} {wants : List Dep} {A R : List Nat} {k j : Nat} {d : Dep} (hd : (gM hv k).deps[j]? = some d) : (askL hv wants (A ++ k :: R))[wants.length + (offF hv A + j)]? = some d := by
  have hj := (List.getElem?_eq_some_iff.1 hd).1
  unfold askL offF
  rw [List.getElem?_append_right (by omega), Nat.add_sub_cancel_left, List.map_append, List.map_cons, List.flatten_append, List.flatten_cons, List.getElem?_append_right (by omega), Nat.add_sub_cancel_left, List.getElem?_append_left hj]
  exact hd
theorem ask_at {hv : List Man} {wants : List Dep} {c : List Nat} {i k j : Nat} {d : Dep} (hk : c[i]? = some k) (hd : (gM hv k).deps[j]? = some d) : (askL hv wants c)[wants.length + (offF hv (c.take i) + j)]? = some d := by
  obtain ⟨hlt, rfl⟩ := List.getElem?_eq_some_iff.1 hk
  have e : c.take i ++ c[i] :: c.drop (i + 1) = c := by rw [← List.drop_eq_getElem_cons hlt, List.take_append_drop]
  have := ask_at' (wants := wants) (A := c.take i) (R := c.drop (i + 1)) hd
  rwa [e] at this
theorem keep_nots {Sr : Nat → Prop} {h h' : Heap} (hsz : h.size ≤ h'.size) (hS : ∀ b, Sr b → b < h.size → h'[b]? = h[b]?) : Keep (fun b => ¬ Sr b) h h' :=
  ⟨hsz, fun b hb hn => hS b (Classical.byContradiction fun h => hn h) hb⟩
theorem ask_len {hv : List Man} {wants : List Dep} {c : List Nat} : (askL hv wants c).length = wants.length + offF hv c := by simp [askL, offF]
theorem ask_iter {P Q : Nat → Prop} {mv : List MV} {wants : List Dep} {vh vw vc : Value} {b : Int} {q r : Nat} {c : List Nat} (hc : c.length ≤ 1000000) (hwl : wants.length ≤ 1000000) :
    IterR prg (.func (.func f_solve_Problem_asked_1) #[] #[Ptr q 0, Ptr r 0]) (askL (hvOf mv) wants c).length (AskX (hvOf mv) wants c) (fun _ => False) (AskR P Q q r) (AskSt P Q mv wants vh vw vc b q r c) := by
  intro yv h0 J E hst hJ hbody sJ sE
  refine ⟨f_solve_Problem_asked_1, #[], #[Ptr q 0, Ptr r 0], rfl, by kernel_rfl, ?_⟩
  show HCalls prg f_solve_Problem_asked_1 [yv, Ptr q 0, Ptr r 0] h0 _
  apply sh_solve_Problem_asked_1_calls
  unfold sh_solve_Problem_asked_1
  have IK : ∀ {h h' : Heap}, AskSt P Q mv wants vh vw vc b q r c h → Keep (fun b => ¬ AskR P Q q r b) h h' → AskSt P Q mv wants vh vw vc b q r c h' := fun s k => s.keep k fun b hb hn => hn hb
  have rnd : ∀ (i : Nat) (d : Dep) (h : Heap) (p o : Nat) (X K : Heap → Prop), (askL (hvOf mv) wants c)[i]? = some d → d.wf → J i h → AskSt P Q mv wants vh vw vc b q r c h → Pt h p o (depC d) → (∀ h7, E h7 → X h7) →
      (∀ h7, J (i + 1) h7 → AskSt P Q mv wants vh vw vc b q r c h7 → K h7) →
      Mpu (ldN 6 h (Ptr p o)) fun t16 => Mnew h T_manifest_Dep (zcells prg T_manifest_Dep) fun t5 h5 => Mwr (stN 6 h5 t5 t16) fun h6 => Mpu (ldN 6 h6 t5) fun t18 => Mcallv prg yv [t18] h6 fun t19 h7 => Mpu (unV .not t19) fun t20 => Mcd t20 (X h7) (K h7) := by
    intro i d h p o X K hd hdw hJi hs hpt hX hK
    rw [hpt.agg (depC_len hdw), Mpu_some]
    simp only [z_Dep', Mnew_some]
    generalize hH9 : h.push (.cells (depC zeroD).toArray T_manifest_Dep (0, 0)) = h9
    have k9 : Keep (fun _ => False) h h9 := by rw [← hH9]; exact Keep.push
    have a9 : At h9 h.size (depC zeroD) := by rw [← hH9]; exact At.push
    obtain ⟨h11, st11, a11, k11⟩ := a9.st (n := 6) (ds := depC d) (depC_len zeroD_wf) (depC_len hdw) (depC_one)
    have kg : Keep (fun _ => False) h h11 := k9.fresh k11 fun b hb => by omega
    rw [st11, Mwr_some, a11.ldN (depC_len hdw), Mpu_some]
    refine (hbody i _ h11 (List.getElem?_eq_some_iff.1 hd).1 ⟨d, hd, rfl⟩ (sJ _ _ _ hJi kg)).mono ?_
    rintro v' h7 ⟨hsz, hS, hv⟩
    have hI7 := IK (IK hs (kg.mono fun _ _ h => h.elim)) (keep_nots hsz hS)
    rcases hv with ⟨rfl, hJ'⟩ | ⟨rfl, hE⟩
    · simp only [unV_not, Bool.not_true, Mpu_some, Mcd_bool, Bool.false_eq_true, if_false]
      exact hK _ hJ' hI7
    · simp only [unV_not, Bool.not_false, Mpu_some, Mcd_bool, if_true]
      exact hX _ hE
  have lw := hst.p.w.len
  have lc := hst.sc.len
  rw [List.length_map] at lw
  rw [ints_len, zs_len] at lc
  refine J1_i (fun _ h => J wants.length h ∧ AskSt P Q mv wants vh vw vc b q r c h) (fun k1 hk1 => ?_) ?_
  · rw [fld_ptr, Mpu_some, Nat.zero_add, hst.q.ld (i := 1) rfl, Mpu_some, lw, Mpu_some]
    refine L1_i (fun u h => ∃ i : Nat, i ≤ wants.length ∧ u = .int .i64 (i : Nat) ∧ J i h ∧ AskSt P Q mv wants vh vw vc b q r c h) (fun u _ => match u with | .int _ t => wants.length - t.toNat | _ => 0) ⟨0, Nat.zero_le _, rfl, hJ, hst⟩ ?_
    rintro _ h ⟨i, hi, rfl, hJi, hs⟩ k hk
    rw [ltNn, Mpu_some, Mcd_bool]
    by_cases hlt : i < wants.length
    rotate_left
    · rw [if_neg (by simpa using hlt)]
      obtain rfl : i = wants.length := by omega
      exact hk1 _ _ ⟨hJi, hs⟩
    rw [if_pos (by simpa using hlt)]
    have hg : wants[i]? = some wants[i] := List.getElem?_eq_getElem hlt
    have hm : wants[i] ∈ wants := List.getElem_mem hlt
    generalize wants[i] = d at *
    obtain ⟨p, o, hix, hpt, _⟩ := hs.p.w.at (i := i) (x := depC d) (by rw [List.getElem?_map, hg]; rfl)
    rw [hix .i64, Mpu_some]
    refine rnd i d h p o _ _ (by unfold askL; rw [List.getElem?_append_left hlt]; exact hg) (hs.p.ww d hm) hJi hs hpt ?_ ?_
    · exact fun h7 hE => .inr hE
    intro h7 hJ7 hs7
    rw [add_one' (by omega), Mpu_some]
    exact hk _ _ ⟨i + 1, by omega, rfl, hJ7, hs7⟩ (by show wants.length - (i + 1) < wants.length - i; omega)
  rintro _ h2 ⟨hJ2, hs2⟩
  rw [hs2.r.ld (i := 0) rfl, Mpu_some, lc, Mpu_some]
  refine L1_i (fun u h => ∃ i : Nat, i ≤ c.length ∧ u = .int .i64 (i : Nat) ∧ J (wants.length + offF (hvOf mv) (c.take i)) h ∧ AskSt P Q mv wants vh vw vc b q r c h) (fun u _ => match u with | .int _ t => c.length - t.toNat | _ => 0) ⟨0, Nat.zero_le _, rfl, hJ2, hs2⟩ ?_
  rintro _ h ⟨i, hi, rfl, hJi, hs⟩ k hk
  rw [ltNn, Mpu_some, Mcd_bool]
  by_cases hlt : i < c.length
  rotate_left
  · rw [if_neg (by simpa using hlt)]
    obtain rfl : i = c.length := by omega
    rw [List.take_length] at hJi
    refine .inl ?_
    rw [ask_len]; exact hJi
  rw [if_pos (by simpa using hlt)]
  have hg : c[i]? = some c[i] := List.getElem?_eq_getElem hlt
  have hm : c[i] ∈ c := List.getElem_mem hlt
  have htk : c.take (i + 1) = c.take i ++ [c[i]] := by rw [List.take_add_one, hg]; rfl
  generalize c[i] = n at *
  obtain ⟨x, hx, hgx, hxm, hmx, bx, ox, hixx, hpx, _⟩ := hs.p.at (hs.lt n hm)
  have hdl := (hs.p.sm x hxm).1
  have ld := hmx.d.len
  rw [List.length_map] at ld
  refine J1_i (fun _ h => J (wants.length + (offF (hvOf mv) (c.take i) + x.1.deps.length)) h ∧ AskSt P Q mv wants vh vw vc b q r c h) (fun k10 hk10 => ?_) ?_
  · obtain ⟨p, o, hix, hpt, _⟩ := hs.sc.at (i := i) (x := [.int .i64 (n : Int)]) (ints_get (zs_get hg))
    rw [hix .i64, Mpu_some, hpt.cell0 rfl, Mpu_some, fld_ptr, Mpu_some, Nat.add_zero, hs.q.ld (i := 0) rfl, Mpu_some, hixx .i64, Mpu_some, fld_ptr, Mpu_some, show ld1 h (Ptr bx (ox + 5)) = some x.2.1 from hpx.cell (i := 5) (by simp [mvC, manC, verC_len hmx.wf.ver, List.getElem?_append_right]), Mpu_some, ld, Mpu_some]
    refine L1_i (fun u h => ∃ j : Nat, j ≤ x.1.deps.length ∧ u = .int .i64 (j : Nat) ∧ J (wants.length + (offF (hvOf mv) (c.take i) + j)) h ∧ AskSt P Q mv wants vh vw vc b q r c h) (fun u _ => match u with | .int _ t => x.1.deps.length - t.toNat | _ => 0) ⟨0, Nat.zero_le _, rfl, hJi, hs⟩ ?_
    rintro _ h5 ⟨j, hj, rfl, hJj, hs5⟩ k12 hk12
    rw [ltNn, Mpu_some, Mcd_bool]
    by_cases hjl : j < x.1.deps.length
    rotate_left
    · rw [if_neg (by simpa using hjl)]
      obtain rfl : j = x.1.deps.length := by omega
      exact hk10 _ _ ⟨hJj, hs5⟩
    rw [if_pos (by simpa using hjl)]
    have hgd : x.1.deps[j]? = some x.1.deps[j] := List.getElem?_eq_getElem hjl
    have hmd : x.1.deps[j] ∈ x.1.deps := List.getElem_mem hjl
    generalize x.1.deps[j] = d at *
    obtain ⟨pd, od, hixd, hptd, _⟩ := (hs5.p.m x hxm).d.at (i := j) (x := depC d) (by rw [List.getElem?_map, hgd]; rfl)
    rw [hixd .i64, Mpu_some]
    refine rnd _ d h5 pd od _ _ (ask_at hg (by rw [hgx]; exact hgd)) (hmx.wf.deps d hmd) hJj hs5 hptd ?_ ?_
    · exact fun h7 hE => .inr hE
    intro h7 hJ7 hs7
    rw [add_one' (by omega), Mpu_some]
    exact hk12 _ _ ⟨j + 1, by omega, rfl, hJ7, hs7⟩ (by show x.1.deps.length - (j + 1) < x.1.deps.length - j; omega)
  rintro _ h11 ⟨hJ11, hs11⟩
  rw [add_one' (by omega), Mpu_some]
  refine hk _ _ ⟨i + 1, by omega, rfl, ?_, hs11⟩ (by show c.length - (i + 1) < c.length - i; omega)
  rw [htk, off_snoc, hgx]; exact hJ11
end Go.Proofs.YtanhgihfgmbojaaGreatDoor

/- solve: Right. -/
namespace Go.Proofs.YtanhgihfgmbojaaGreatDoor
open Go.X Go.X.Diff
set_option maxRecDepth 100000
set_option linter.unusedSimpArgs false
set_option linter.unusedVariables false

/-- what of a choice is known to be right -/
def HalfR (hv : List Man) (z : List Int) (i : Nat) : Prop := ∃ c, z.take i = zs c ∧ Names hv c ∧ NoRef hv c
structure RgI (P Q : Nat → Prop) (H : Heap) (mv : List MV) (wants : List Dep) (vh vw vc : Value) (b : Int) (c : List Nat) (j : Nat) (h : Heap) : Prop where
  k : Keep (fun _ => False) H h
  aq : At h H.size (prbC vh vw b)
  ar : At h (H.size + 1) [vc]
  ok : ((askL (hvOf mv) wants c).take j).all (goodF (hvOf mv) c) = true
  f : At h (H.size + 2) [.bool false]
theorem RgI.keep {P Q S : Nat → Prop} {H : Heap} {mv : List MV} {wants : List Dep} {vh vw vc : Value} {b : Int} {c : List Nat} {j : Nat} {h h' : Heap} (s : RgI P Q H mv wants vh vw vc b c j h) (k : Keep S h h') (hs : ∀ b, S b → H.size + 2 < b) : RgI P Q H mv wants vh vw vc b c j h' :=
  ⟨s.k.fresh k fun b hb => by have := hs b hb; omega, s.aq.keep k fun hb => by have := hs _ hb; omega, s.ar.keep k fun hb => by have := hs _ hb; omega, s.ok, s.f.keep k fun hb => by have := hs _ hb; omega⟩
theorem c_asked {Q : Nat → Prop} {H : Heap} {vh vw vc : Value} {b : Int} {z : List Int} (hc : SlE 1 Q H vc (ints z)) :
    HCalls prg f_solve_Problem_asked [.agg (prbC vh vw b).toArray, vc] H fun u H' => u = .func (.func f_solve_Problem_asked_1) #[] #[Ptr H.size 0, Ptr (H.size + 1) 0] ∧ At H' H.size (prbC vh vw b) ∧ At H' (H.size + 1) [vc] ∧ Keep (fun _ => False) H H' ∧ H'.size = H.size + 2 := by
  apply sh_solve_Problem_asked_calls
  unfold sh_solve_Problem_asked
  obtain ⟨pv, cv, ev⟩ := hc.shape
  have ec : Value.cells vc = [vc].toArray := by rw [ev]; rfl
  rw [ec]
  simp only [Cells_agg, Mnew_some]
  generalize hH1 : H.push (.cells (prbC vh vw b).toArray T_solve_Problem (0, 0)) = H1
  have k1 : Keep (fun _ => False) H H1 := by rw [← hH1]; exact Keep.push
  have a1 : At H1 H.size (prbC vh vw b) := by rw [← hH1]; exact At.push
  have s1 : H1.size = H.size + 1 := by rw [← hH1]; simp
  rw [s1]
  refine ⟨rfl, a1.keep (Keep.push (S := fun _ => False)) id, ?_, k1.trans Keep.push, by simp [s1]⟩
  rw [← s1]; exact At.push
theorem ask_wf {P : Nat → Prop} {h : Heap} {mv : List MV} {wants : List Dep} {vh vw : Value} {c : List Nat} {d : Dep} (hp : Prb P h mv wants vh vw) (hc : ∀ k ∈ c, k < (hvOf mv).length) (hd : d ∈ askL (hvOf mv) wants c) : d.wf := by
  rcases mem_ask.1 hd with hd | ⟨k, hk, hd⟩
  · exact hp.ww d hd
  · obtain ⟨x, _, hgx, _, hmx, _⟩ := hp.at (hc k hk)
    rw [hgx] at hd
    exact hmx.wf.deps d hd
set_option maxHeartbeats 4000000 in
theorem c_Right {P Q : Nat → Prop} {H : Heap} {mv : List MV} {wants : List Dep} {vh vw vc : Value} {b : Int} {z : List Int} (hp : Prb P H mv wants vh vw) (hP : ∀ b, P b → b < H.size) (hc : SlE 1 Q H vc (ints z)) (hQ : ∀ b, Q b → b < H.size) (hl : mv.length ≤ 256) (hwl : wants.length ≤ 64) (hzl : z.length ≤ 1000000) (hO : OpsT H) :
    HCalls prg f_solve_Right [.agg (prbC vh vw b).toArray, vc] H fun u H' => u = .bool (probOk (hvOf mv) wants b && rightB (hvOf mv) wants z) ∧ Keep (fun _ => False) H H' := by
  apply sh_solve_Right_calls
  unfold sh_solve_Right
  obtain ⟨pv, cv, ev⟩ := hc.shape
  have ec : Value.cells vc = [vc].toArray := by rw [ev]; rfl
  rw [ec]
  simp only [Cells_agg, Mnew_some]
  generalize hH1 : H.push (.cells (prbC vh vw b).toArray T_solve_Problem (0, 0)) = H1
  have k1 : Keep (fun _ => False) H H1 := by rw [← hH1]; exact Keep.push
  have a1 : At H1 H.size (prbC vh vw b) := by rw [← hH1]; exact At.push
  have s1 : H1.size = H.size + 1 := by rw [← hH1]; simp
  generalize hH2 : H1.push (.cells [vc].toArray T_S_int (0, 0)) = H2
  have k2 : Keep (fun _ => False) H1 H2 := by rw [← hH2]; exact Keep.push
  have a2 : At H2 H1.size [vc] := by rw [← hH2]; exact At.push
  have s2 : H2.size = H1.size + 1 := by rw [← hH2]; simp
  simp only [z_bool', Mnew_some]
  generalize hH3 : H2.push (.cells [Value.bool false].toArray T_bool (0, 0)) = H3
  have k3 : Keep (fun _ => False) H2 H3 := by rw [← hH3]; exact Keep.push
  have a3 : At H3 H2.size [.bool false] := by rw [← hH3]; exact At.push
  have s3 : H3.size = H2.size + 1 := by rw [← hH3]; simp
  have k03 := (k1.trans k2).trans k3
  have b1 := (a1.keep k2 id).keep k3 id
  have b2 := a2.keep k3 id
  have e1 : H1.size = H.size + 1 := s1
  have e2 : H2.size = H.size + 2 := by omega
  rw [e1] at b2
  rw [e2] at a3
  simp only [e1, e2]
  have hvl : (hvOf mv).length = mv.length := by simp
  have lh := hp.h.len
  rw [List.length_map] at lh
  have no : ∀ h, At h (H.size + 2) [.bool false] → Keep (fun _ => False) H h → (probOk (hvOf mv) wants b && rightB (hvOf mv) wants z) = false →
      Mwr (st1 h (Ptr (H.size + 2) 0) (.bool false)) fun h14 => Mcl H.size h14 fun h15 => Mpu (ld1 h15 (Ptr (H.size + 2) 0)) fun r16 => r16 = .bool (probOk (hvOf mv) wants b && rightB (hvOf mv) wants z) ∧ Keep (fun _ => False) H h15 := fun h ha kh hf => by
    obtain ⟨h4, st4, a4, k4⟩ := ha.st1 (i := 0) (v := .bool false) (by simp) rfl
    rw [st4, Mwr_some]
    refine mcl_i fun h5 hcl => ?_
    have d : ld1 h5 (Ptr (H.size + 2) 0) = some (.bool false) := (a4.closed hcl).ld rfl
    rw [d, Mpu_some]
    exact ⟨by rw [hf], keep_closed (kh.fresh k4 fun b hb => by omega) hcl⟩
  rw [b1.ldN (n := 3) rfl, Mpu_some]
  refine call_i (c_Check (hp.keep k03 fun _ _ => id) hl hwl (hO.keep k03 fun _ h => h.elim)) ?_
  rintro _ h4 ⟨rfl, k4⟩
  have k04 := k03.trans k4
  cases hpo : probOk (hvOf mv) wants b
  · have en : binV .no .neq (.int .i64 (if false = true then 0 else 10)) (.int .i64 0) = some (.bool true) := rfl
    rw [en, Mpu_some, Mcd_bool, if_pos rfl]
    have := no h4 (a3.keep k4 id) k04 (by rw [hpo]; rfl)
    rw [hpo] at this
    exact this
  have en : binV .no .neq (.int .i64 (if true = true then 0 else 10)) (.int .i64 0) = some (.bool false) := rfl
  rw [en, Mpu_some, Mcd_bool, if_neg (by decide)]
  rw [hpo] at no
  simp only [Bool.true_and] at no ⊢
  have lc := hc.len
  rw [ints_len] at lc
  refine J1_i (fun _ h => HalfR (hvOf mv) z z.length ∧ Keep (fun _ => False) H3 h) (fun k8 hk8 => ?_) ?_
  · rw [(b2.keep k4 id).ld (i := 0) rfl, Mpu_some, lc, Mpu_some]
    refine L1_i (fun u h => ∃ i : Nat, i ≤ z.length ∧ u = .int .i64 (i : Nat) ∧ HalfR (hvOf mv) z i ∧ Keep (fun _ => False) H3 h) (fun u _ => match u with | .int _ t => z.length - t.toNat | _ => 0) ⟨0, Nat.zero_le _, rfl, ⟨[], rfl, Names.nil, NoRef.nil⟩, k4⟩ ?_
    rintro _ h ⟨i, hi, rfl, hh, kh⟩ k hk
    rw [ltNn, Mpu_some, Mcd_bool]
    by_cases hlt : i < z.length
    rotate_left
    · rw [if_neg (by simpa using hlt)]
      obtain rfl : i = z.length := by omega
      exact hk8 _ _ ⟨hh, kh⟩
    rw [if_pos (by simpa using hlt)]
    have hg : z[i]? = some z[i] := List.getElem?_eq_getElem hlt
    have htk : z.take (i + 1) = z.take i ++ [z[i]] := by rw [List.take_add_one, hg]; rfl
    generalize z[i] = n at *
    obtain ⟨c, hzc, hN, hR⟩ := hh
    have k0h := k03.trans kh
    have ph := hp.keep k0h fun _ _ => id
    have ch := hc.keep k0h fun _ _ => id
    have d0 : ∀ g, Keep (fun _ => False) h g → ld1 g (Ptr H.size 0) = some vh := fun g kg => ((b1.keep kh id).keep kg id).ld rfl
    have dA : ∀ g, Keep (fun _ => False) h g → ldN 3 g (Ptr H.size 0) = some (.agg (prbC vh vw b).toArray) := fun g kg => ((b1.keep kh id).keep kg id).ldN rfl
    have dC : ∀ g, Keep (fun _ => False) h g → ld1 g (Ptr (H.size + 1) 0) = some vc := fun g kg => ((b2.keep kh id).keep kg id).ld rfl
    obtain ⟨p, o, hix, hpt, _⟩ := ch.at (i := i) (x := [.int .i64 n]) (ints_get hg)
    have bad : ∀ g, Keep (fun _ => False) h g → (∀ k rest, n = ((k : Nat) : Int) → ¬ RightC (hvOf mv) wants (c ++ k :: rest)) →
        Mwr (st1 g (Ptr (H.size + 2) 0) (.bool false)) fun h14 => Mcl H.size h14 fun h15 => Mpu (ld1 h15 (Ptr (H.size + 2) 0)) fun r16 => r16 = .bool (rightB (hvOf mv) wants z) ∧ Keep (fun _ => False) H h15 := fun g kg hno =>
      no g ((a3.keep kh id).keep kg id) (k0h.trans kg) (rightB_no fun c' hz' => by
        obtain ⟨k, rest, hn, hcc⟩ := zs_split hz' hzc hg
        rw [hcc]; exact hno k rest hn)
    rw [hix .i64, Mpu_some, hpt.cell0 rfl, Mpu_some, ltI, Mpu_some]
    cases q1 : decide (n < 0)
    rotate_left
    · simp only [J1_eq, Mif_bool, Bool.true_eq_false, if_false, pickV_bool, if_true, Mpu_some, Mcd_bool]
      have := of_decide_eq_true q1
      exact bad h Keep.refl fun k rest hn => by omega
    refine J1_yes rfl ?_
    have hn0 : 0 ≤ n := by have := of_decide_eq_false q1; omega
    obtain ⟨k0, rfl⟩ : ∃ k0 : Nat, n = (k0 : Int) := ⟨n.toNat, by omega⟩
    have hgeq : binV .no .geq (.int .i64 (k0 : Nat)) (.int .i64 (mv.length : Nat)) = some (.bool (decide (mv.length ≤ k0))) := by
      rw [binV_int]; simp only [intV]; congr 2; rw [decide_eq_decide]; omega
    rw [fld_ptr, Mpu_some, Nat.add_zero, d0 _ Keep.refl, Mpu_some, lh, Mpu_some, hgeq, Mpu_some]
    show Mpu (pickV (.bool false) (.bool true) _) _
    rw [pickV_bool, if_neg (by decide), Mpu_some, Mcd_bool]
    by_cases hge : mv.length ≤ k0
    · rw [if_pos (by simpa using hge)]
      refine bad h Keep.refl fun k rest hn hRc => ?_
      have := hRc.nm.1 k (by simp)
      omega
    rw [if_neg (by simpa using hge)]
    have hkl : k0 < (hvOf mv).length := by omega
    obtain ⟨x, hx, hgx, hxm, hmx, bx, ox, hixx, hpx, _⟩ := ph.at hkl
    obtain ⟨t35, e35, hs35⟩ := ch.pre (m := i) (by rw [ints_len]; omega)
    have etk : (ints z).take i = ints (zs c) := by rw [← hzc]; simp [rows1, List.map_take]
    rw [etk] at hs35
    have hcl : c.length ≤ 1000000 := by
      have := congrArg List.length hzc
      rw [List.length_take, zs_len] at this
      omega
    rw [dA _ Keep.refl, Mpu_some, dC _ Keep.refl, Mpu_some, e35, Mpu_some, Mpu_some, d0 _ Keep.refl, Mpu_some, hixx .i64, Mpu_some, fld_ptr, Mpu_some, Nat.add_zero, mv_name hpx, Mpu_some]
    refine call_i (c_of ph hs35 hN.1 (by omega)) ?_
    rintro _ h17 ⟨rfl, k17⟩
    rw [← hgx]
    cases hof : ofF (hvOf mv) c (gM (hvOf mv) k0).name with
    | some j =>
      simp only [extV_tuple]
      rw [show (#[Value.int .i64 (j : Nat), .bool true][0]?) = some (.int .i64 (j : Nat)) from rfl, Mpu_some, show (#[Value.int .i64 (j : Nat), .bool true][1]?) = some (.bool true) from rfl, Mpu_some]
      simp only [J1_eq, Mif_bool, Bool.true_eq_false, if_false, pickV_bool, if_true, Mpu_some, Mcd_bool]
      obtain ⟨hj1, hj2⟩ := of_some hof
      refine bad _ k17 fun k rest hn hRc => ?_
      obtain rfl : k = k0 := by omega
      have hnd := hRc.nm.2
      rw [List.map_append, List.nodup_append] at hnd
      exact hnd.2.2 _ (List.mem_map.2 ⟨j, hj1, rfl⟩) _ (by simp) hj2
    | none =>
      simp only [extV_tuple]
      rw [show (#[Value.int .i64 0, .bool false][0]?) = some (.int .i64 0) from rfl, Mpu_some, show (#[Value.int .i64 0, .bool false][1]?) = some (.bool false) from rfl, Mpu_some]
      refine J1_yes rfl ?_
      rw [dA _ k17, Mpu_some, dC _ k17, Mpu_some, e35, Mpu_some]
      refine call_i (c_clash (ph.keep k17 fun _ _ => id) (hs35.keep k17 fun _ _ => id) hN.1 hkl (by omega) (hO.keep (k0h.trans k17) fun _ h => h.elim)) ?_
      rintro _ h19 ⟨rfl, k19⟩
      rw [pickV_bool, if_neg (by decide), Mpu_some, Mcd_bool]
      cases hcf : clashF (hvOf mv) c k0
      rotate_left
      · rw [if_pos rfl]
        refine bad _ (k17.trans k19) fun k rest hn hRc => ?_
        obtain rfl : k = k0 := by omega
        obtain ⟨j, hj, hjr⟩ := List.any_eq_true.1 hcf
        have hne : j ≠ k := fun e => of_none hof j hj (by rw [e])
        rw [hRc.nr j (by simp [hj]) k (by simp) hne, hRc.nr k (by simp) j (by simp [hj]) hne.symm] at hjr
        cases hjr
      · rw [if_neg (by decide), add_one' (by omega), Mpu_some]
        refine hk _ _ ⟨i + 1, by omega, rfl, ⟨c ++ [k0], ?_, hN.put hkl hof, hR.put hcf⟩, kh.trans (k17.trans k19)⟩ (by show z.length - (i + 1) < z.length - i; omega)
        rw [htk, hzc]; simp [zs]
  rintro _ h9 ⟨⟨c, hzc, hN, hR⟩, kh9⟩
  rw [List.take_length] at hzc
  subst hzc
  have k09 := k03.trans kh9
  have c1 := b1.keep kh9 id
  have c2 := b2.keep kh9 id
  have c3 := a3.keep kh9 id
  have hcl : c.length ≤ 1000000 := by rw [zs_len] at hzl; exact hzl
  rw [c1.ldN (n := 3) rfl, Mpu_some, c2.ld (i := 0) rfl, Mpu_some]
  refine call_i (c_asked (hc.keep k09 fun _ _ => id)) ?_
  rintro _ h24 ⟨rfl, aq, ar, k24, s24⟩
  have k024 := k09.trans k24
  have g9 := k09.1
  have g24 := k24.1
  have inv0 : RgI P Q H mv wants vh vw vc b c 0 h24 := ⟨k024, c1.keep k24 id, c2.keep k24 id, rfl, c3.keep k24 id⟩
  have g3 : H.size + 3 ≤ h9.size := by have := kh9.1; omega
  have frame : ∀ {b : Nat}, (False ∨ b = h24.size ∨ b = h24.size + 1) → H.size + 2 < b := fun hb => by rcases hb with hb | hb | hb <;> first | exact hb.elim | omega
  refine range_r (n := (askL (hvOf mv) wants c).length) (X := AskX (hvOf mv) wants c) (Sw := fun _ => False) (Sr := AskR P Q h9.size (h9.size + 1)) (W := fun b => b = H.size + 2 ∨ h24.size + 2 ≤ b) (St := AskSt P Q mv wants vh vw vc b h9.size (h9.size + 1) c)
    (ask_iter hcl (by omega)) (fun o o' => ?_) k024.1
    (RgI P Q H mv wants vh vw vc b c) (fun cd h => cd = .ret ∧ (askL (hvOf mv) wants c).all (goodF (hvOf mv) c) = false ∧ At h (H.size + 2) [.bool false] ∧ Keep (fun _ => False) H h) inv0
    (fun i h h' hI k => hI.keep k fun b hb => frame hb) (fun cd h h' hX k => ?_) (fun b hb => hb.elim) (fun b hb => ?_) (fun b hb => ?_) ?_ ?_ ?_
  · have kp : Keep (fun _ => False) h24 ((h24.push o).push o') := Keep.push.trans Keep.push
    have k0p := k024.trans kp
    exact ⟨hp.keep k0p fun _ _ => id, aq.keep kp id, ar.keep kp id, hc.keep k0p fun _ _ => id, hN.1⟩
  · obtain ⟨rfl, x0, x1, x4⟩ := hX
    exact ⟨rfl, x0, x1.keep k fun hb => by have := frame hb; omega, x4.fresh k fun b hb => by have := frame hb; omega⟩
  · rcases hb with rfl | rfl | hb | hb
    · omega
    · omega
    · have := hP b hb; omega
    · have := hQ b hb; omega
  · refine ⟨by omega, by omega, fun hS => ?_⟩
    rcases hS with hS | hS | hS | hS
    · omega
    · omega
    · have := hP b hS; omega
    · have := hQ b hS; omega
  · rintro j x h r hj hhs ⟨d, hd, rfl⟩ hI hloop hready K hNx hEx
    have hdw : d.wf := ask_wf hp hN.1 (List.mem_of_getElem? hd)
    refine ⟨rfl, ?_⟩
    show Mnew h T_manifest_Dep (zcells prg T_manifest_Dep) fun t9 h30 => Mwr (stN 6 h30 t9 (.agg (depC d).toArray)) _
    simp only [z_Dep', Mnew_some]
    generalize hH30 : h.push (.cells (depC zeroD).toArray T_manifest_Dep (0, 0)) = h30
    have k30 : Keep (fun _ => False) h h30 := by rw [← hH30]; exact Keep.push
    have a30 : At h30 h.size (depC zeroD) := by rw [← hH30]; exact At.push
    obtain ⟨h31, st31, a31, k31'⟩ := a30.st (n := 6) (ds := depC d) (depC_len zeroD_wf) (depC_len hdw) (depC_one)
    have k31 : Keep (fun _ => False) h h31 := k30.fresh k31' fun b hb => by omega
    rw [st31, Mwr_some]
    refine ⟨r, k31.at hloop id, hready, ?_⟩
    have kbb := k31.busy (o := .loop { r with state := .busy }) hloop
    have kb : Keep (· = h24.size + 1) h31 (h31.setIfInBounds (h24.size + 1) (.loop { r with state := .busy })) := Keep.set rfl
    generalize h.setIfInBounds (h24.size + 1) (.loop { r with state := .busy }) = hb0 at *
    generalize h31.setIfInBounds (h24.size + 1) (.loop { r with state := .busy }) = hb at *
    have hIb := (hI.keep k31 fun b hb => hb.elim).keep kb fun b hb => by omega
    have a32 := a31.keep kb (show ¬ h.size = h24.size + 1 by omega)
    have htk : (askL (hvOf mv) wants c).take (j + 1) = (askL (hvOf mv) wants c).take j ++ [d] := by rw [List.take_add_one, hd]; rfl
    have bad : ∀ h', Keep (fun _ => False) hb h' → goodF (hvOf mv) c d = false → Mwr (st1 h' (Ptr (H.size + 2) 0) (.bool false)) fun h21 => K (some Code.ret) h21 := fun h' k' hf => by
      obtain ⟨h12, st12, a12, k12⟩ := (hIb.f.keep k' id).st1 (i := 0) (v := .bool false) (by simp) rfl
      rw [st12, Mwr_some]
      refine hEx _ h12 (((kbb.trans k').mono fun _ _ h => h.elim).trans (k12.mono fun b _ h => .inl h)) ⟨rfl, List.all_eq_false.2 ⟨d, List.mem_of_getElem? hd, by simp [hf]⟩, a12, (hIb.k.trans k').fresh k12 fun b hb' => by omega⟩
    have good : ∀ h', Keep (fun _ => False) hb h' → goodF (hvOf mv) c d = true → K none h' := fun h' k' hf => by
      refine hNx h' ((kbb.trans k').mono fun _ _ h => h.elim) ⟨hIb.k.trans k', hIb.aq.keep k' id, hIb.ar.keep k' id, ?_, hIb.f.keep k' id⟩
      rw [htk, List.all_append, hIb.ok]; simp [hf]
    show Mpu (ldN 3 hb (Ptr H.size 0)) _
    rw [hIb.aq.ldN (n := 3) rfl, Mpu_some, hIb.ar.ld (i := 0) rfl, Mpu_some, fld_ptr, Mpu_some, Nat.add_zero, depNm a32, Mpu_some]
    refine call_i (c_of (hp.keep hIb.k fun _ _ => id) (hc.keep hIb.k fun _ _ => id) hN.1 (by omega)) ?_
    rintro _ h33 ⟨rfl, k33⟩
    have hgf : goodF (hvOf mv) c d = (match ofF (hvOf mv) c d.name with | some k => fitM d (gM (hvOf mv) k) | none => false) := rfl
    cases hof : ofF (hvOf mv) c d.name with
    | none =>
      rw [hof] at hgf
      simp only [extV_tuple]
      rw [show (#[Value.int .i64 0, .bool false][0]?) = some (.int .i64 0) from rfl, Mpu_some, show (#[Value.int .i64 0, .bool false][1]?) = some (.bool false) from rfl, Mpu_some, unV_not, Mpu_some]
      simp only [Bool.not_false, J1_eq, Mif_bool, Bool.true_eq_false, if_false, pickV_bool, if_true, Mpu_some, Mcd_bool]
      exact bad _ k33 hgf
    | some k =>
      rw [hof] at hgf
      obtain ⟨hkm, hkn⟩ := of_some hof
      have hkl := hN.1 k hkm
      simp only [extV_tuple]
      rw [show (#[Value.int .i64 (k : Nat), .bool true][0]?) = some (.int .i64 (k : Nat)) from rfl, Mpu_some, show (#[Value.int .i64 (k : Nat), .bool true][1]?) = some (.bool true) from rfl, Mpu_some, unV_not, Mpu_some]
      refine J1_yes rfl ?_
      have k0' := hIb.k.trans k33
      obtain ⟨x, hx, hgx, hxm, hmx, bx, ox, hixx, hpx, _⟩ := (hp.keep k0' fun _ _ => id).at hkl
      rw [fld_ptr, Mpu_some, Nat.zero_add, depWant (a32.keep k33 id) hdw, Mpu_some, fld_ptr, Mpu_some, Nat.add_zero, (hIb.aq.keep k33 id).ld (i := 0) rfl, Mpu_some, hixx .i64, Mpu_some, fld_ptr, Mpu_some, mv_ver hpx hmx.wf, Mpu_some]
      refine call_i (c_WantFits hdw.want hmx.wf.ver (hO.keep k0' fun _ h => h.elim)) ?_
      rintro _ h35 ⟨rfl, k35⟩
      have hfm : fitM d (gM (hvOf mv) k) = (wantOk d.want && verOk x.1.ver && fitsF d.want.op d.want.ver x.1.ver) := by
        unfold fitM; rw [decide_eq_true hkn, hgx]; rfl
      rw [← hfm, unV_not, Mpu_some]
      show Mpu (pickV (.bool !true) (.bool true) (.bool !fitM d (gM (hvOf mv) k))) _
      rw [pickV_bool, if_neg (by decide), Mpu_some, Mcd_bool]
      cases hfv : fitM d (gM (hvOf mv) k)
      · rw [if_pos (by rfl)]
        exact bad _ (k33.trans k35) (hgf.trans hfv)
      · rw [if_neg (by decide)]
        exact good _ (k33.trans k35) (hgf.trans hfv)
  · rintro h hsz hI
    refine .inl ⟨rfl, ?_⟩
    obtain ⟨h22, st22, a22, k22⟩ := hI.f.st1 (i := 0) (v := .bool true) (by simp) rfl
    rw [st22, Mwr_some]
    refine mcl_i fun h23 hcl => ?_
    have dd : ld1 h23 (Ptr (H.size + 2) 0) = some (.bool true) := (a22.closed hcl).ld rfl
    show Mpu (ld1 h23 (Ptr (H.size + 2) 0)) _
    rw [dd, Mpu_some]
    have hok := hI.ok
    rw [List.take_length] at hok
    exact ⟨by rw [rightB_nat.2 ((right_ask hN hR).2 hok)], keep_closed (hI.k.fresh k22 fun b hb => by omega) hcl⟩
  · rintro cd h hsz ⟨rfl, x0, x1, x4⟩
    refine .inr ⟨rfl, ?_⟩
    refine mcl_i fun h25 hcl => ?_
    have dd : ld1 h25 (Ptr (H.size + 2) 0) = some (.bool false) := (x1.closed hcl).ld rfl
    show Mpu (ld1 h25 (Ptr (H.size + 2) 0)) _
    rw [dd, Mpu_some]
    refine ⟨?_, keep_closed x4 hcl⟩
    rw [rightB_no fun c' hz' hRc => ?_]
    rw [← cast_inj hz'] at hRc
    rw [(right_ask hN hR).1 hRc] at x0
    cases x0
end Go.Proofs.YtanhgihfgmbojaaGreatDoor

