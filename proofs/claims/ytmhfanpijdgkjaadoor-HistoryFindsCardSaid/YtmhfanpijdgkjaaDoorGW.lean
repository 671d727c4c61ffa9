/- JOINED: XT Se0 -/
import Derived.Test.YtmhfanpijdgkjaaDoorGE
set_option linter.unusedSimpArgs false
set_option linter.unusedVariables false
/- Rules: ranges over functions whose rounds are handed new memory. -/
namespace Go.X

/-- an iterator: round i is handed an x with X i x, until yield says no; of what was there it writes to Sw alone, and wants Sr unchanged by a round -/
def IterR (P : Program) (fv : Value) (n : Nat) (X : Nat → List Value → Heap → Prop) (Sw Sr : Nat → Prop) (St : Heap → Prop) : Prop :=
  ∀ (yv : Value) (h0 : Heap) (J : Nat → Heap → Prop) (E : Heap → Prop), St h0 → J 0 h0 →
    (∀ (i : Nat) (x : List Value) (h : Heap), i < n → X i x h → J i h → Mcallv P yv x h fun v h' => h.size ≤ h'.size ∧ (∀ b, Sr b → b < h.size → h'[b]? = h[b]?) ∧ ((v = .bool true ∧ J (i + 1) h') ∨ (v = .bool false ∧ E h'))) →
    (∀ i h h', J i h → Keep Sw h h' → J i h') → (∀ h h', E h → Keep Sw h h' → E h') →
    Mcallf P fv [yv] h0 fun _ h => J n h ∨ E h

theorem range_r {P : Program} {n0 : Nat} {fv : Value} {H : Heap} {B : List Value → Heap → (Option Code → Heap → Prop) → Prop} {rest : Option Code → Heap → Prop}
    {n : Nat} {X : Nat → List Value → Heap → Prop} {Sw Sr W : Nat → Prop} {St : Heap → Prop} (hit : IterR P fv n X Sw Sr St) (hst : ∀ o o', St ((H.push o).push o')) (hn : n0 ≤ H.size)
    (Inv : Nat → Heap → Prop) (Ex : Code → Heap → Prop) (h0 : Inv 0 H)
    (sI : ∀ i h h', Inv i h → Keep (fun b => Sw b ∨ b = H.size ∨ b = H.size + 1) h h' → Inv i h')
    (sE : ∀ c h h', Ex c h → Keep (fun b => Sw b ∨ b = H.size ∨ b = H.size + 1) h h' → Ex c h')
    (hSw : ∀ b, Sw b → b < H.size) (hSr : ∀ b, Sr b → b < H.size) (hW : ∀ b, W b → b ≠ H.size ∧ b ≠ H.size + 1 ∧ ¬ Sr b)
    (hB : ∀ (i : Nat) (x : List Value) (h : Heap) (r : Loop), i < n → H.size + 2 ≤ h.size → X i x h → Inv i h → h[H.size + 1]? = some (.loop r) → r.state = .ready →
      ∀ K : Option Code → Heap → Prop, (∀ h', Keep W (h.setIfInBounds (H.size + 1) (.loop { r with state := .busy })) h' → Inv (i + 1) h' → K none h') →
        (∀ c h', Keep W (h.setIfInBounds (H.size + 1) (.loop { r with state := .busy })) h' → Ex c h' → K (some c) h') → B x h K)
    (hrest : ∀ h, H.size ≤ h.size → Inv n h → rest none h) (hexit : ∀ c h, H.size ≤ h.size → Ex c h → rest (some c) h) : Mrange P n0 fv H B rest := by
  refine ⟨hn, fun rec hr hp hyield => ?_⟩
  have hsz : ((H.push (.deferred (some []))).push (.loop rec)).size = H.size + 2 := by simp
  have hL : ((H.push (.deferred (some []))).push (.loop rec))[H.size + 1]? = some (.loop rec) := by
    have := push_new (H := H.push (.deferred (some []))) (y := .loop rec)
    rwa [show (H.push (.deferred (some []))).size = H.size + 1 by simp] at this
  have hSL : ¬ Sw (H.size + 1) := fun h => by have := hSw _ h; omega
  have hSL2 : ¬ Sr (H.size + 1) := fun h => by have := hSr _ h; omega
  have main := hit (.func (.yield (H.size + 1)) #[] #[]) ((H.push (.deferred (some []))).push (.loop rec)) (fun i h => Inv i h ∧ h[H.size + 1]? = some (.loop rec))
    (fun h => ∃ c, Ex c h ∧ ∃ r, h[H.size + 1]? = some (.loop r) ∧ r.state = .done ∧ r.pending = some c) (hst _ _)
    ⟨sI _ _ _ h0 ((Keep.push (S := fun b => Sw b ∨ b = H.size ∨ b = H.size + 1)).trans Keep.push), hL⟩ ?_
    (fun i h h' ⟨h1, h2⟩ k => ⟨sI _ _ _ h1 (k.mono fun _ _ h => .inl h), k.at h2 hSL⟩)
    (fun h h' ⟨c, h1, r, h2, h3⟩ k => ⟨c, sE _ _ _ h1 (k.mono fun _ _ h => .inl h), r, k.at h2 hSL, h3⟩)
  · obtain ⟨f, fi, ca, e1, e2, hc⟩ := main
    refine ⟨f, fi, ca, e1, e2, fun w hw => (hc w hw).mono fun e w' => ?_⟩
    rintro ⟨v, he, hs, hJ⟩
    refine ⟨v, he, hs, ?_⟩
    rcases hJ with ⟨hI, hl⟩ | ⟨c, hE, r, hl, hd, hpend⟩
    · refine ⟨rec, hl, by rw [hr]; decide, ?_⟩
      rw [hp]
      refine hrest _ ?_ (sI _ _ _ hI (Keep.set (.inr (.inr rfl))))
      simp; have := lt_of hl; omega
    · refine ⟨r, hl, by rw [hd]; decide, ?_⟩
      rw [hpend]
      refine hexit _ _ ?_ (sE _ _ _ hE (Keep.set (.inr (.inr rfl))))
      simp; have := lt_of hl; omega
  · rintro i x h hi hx ⟨hI, hl⟩
    have hlt := lt_of hl
    refine .inr ⟨H.size + 1, #[], #[], rfl, hyield _ _ _ hl (hB i x h rec hi (by omega) hx hI hl hr _ ?_ ?_)⟩
    · intro h' k hI'
      have hl' := k.at (set_self (y := .loop { rec with state := .busy }) hl) (fun h => (hW _ h).2.1 rfl)
      have hsize : h.size ≤ h'.size := by have := k.1; simpa using this
      refine ⟨_, hl', by simpa using hsize, fun b hb hlt => ?_, .inl ⟨rfl, ?_, ?_⟩⟩
      · have hne : H.size + 1 ≠ b := fun e => hSL2 (e ▸ hb)
        rw [Array.getElem?_setIfInBounds, if_neg hne, k.2 b (by simpa using hlt) (fun hw => (hW _ hw).2.2 hb), Array.getElem?_setIfInBounds, if_neg hne]
      · exact sI _ _ _ hI' (Keep.set (.inr (.inr rfl)))
      · rw [set_self hl']
        congr 2
        cases rec; simp only at hr hp; subst hr hp; rfl
    · intro c h' k hE
      have hl' := k.at (set_self (y := .loop { rec with state := .busy }) hl) (fun h => (hW _ h).2.1 rfl)
      have hsize : h.size ≤ h'.size := by have := k.1; simpa using this
      refine ⟨_, hl', by simpa using hsize, fun b hb hlt => ?_, .inr ⟨rfl, c, sE _ _ _ hE (Keep.set (.inr (.inr rfl))), _, set_self hl', rfl, rfl⟩⟩
      have hne : H.size + 1 ≠ b := fun e => hSL2 (e ▸ hb)
      rw [Array.getElem?_setIfInBounds, if_neg hne, k.2 b (by simpa using hlt) (fun hw => (hW _ hw).2.2 hb), Array.getElem?_setIfInBounds, if_neg hne]
/-- what was done ahead of the round's beginning, seen from behind it -/
theorem Keep.busy {W : Nat → Prop} {h g : Heap} {L : Nat} {o o' : Obj} (k : Keep W h g) (hl : h[L]? = some o') : Keep W (h.setIfInBounds L o) (g.setIfInBounds L o) := by
  have := lt_of hl
  refine ⟨by simpa using k.1, fun i hi hn => ?_⟩
  have hi' : i < h.size := by simpa using hi
  have hig : i < g.size := Nat.lt_of_lt_of_le hi' k.1
  rw [Array.getElem?_setIfInBounds, Array.getElem?_setIfInBounds]
  by_cases e : L = i
  · subst e; rw [if_pos rfl, if_pos rfl, if_pos hig, if_pos hi']
  · rw [if_neg e, if_neg e, k.2 i hi' hn]
end Go.X
/- PRINTED: clean texts -/
namespace Go.Proofs.YtmhfanpijdgkjaaDoor
open Go.X
set_option maxRecDepth 100000
-- syngraph/syngraphlaw22.made
def sh_syngraphlaw22_made (t0 : Value) (H : Heap) (R : Value → Heap → Prop) : Prop :=
  Mcall prg f_history_New [] H fun t6 h1 =>
  Mpu (binV .ptr .eql t6 (.pointer none)) fun t8 =>
  Mcd t8 (
    R (.pointer none) h1) (
    J1 (fun k2 =>
      Mpu (lenV t0) fun t10 =>
      L1 (fun k4 => fun t11_2 h5 =>
        Mpu (binV .no .lss t11_2 t10) fun t12 =>
        Mcd t12 (
          Mpu (ixS 36 t0 t11_2) fun t13 =>
          Mpu (ldN 36 h5 t13) fun t14 =>
          Mnew h5 T_history_Record (zcells prg T_history_Record) fun t5 h6 =>
          Mwr (stN 36 h6 t5 t14) fun h7 =>
          Mpu (ldN 36 h7 t5) fun t16 =>
          Mcall prg f_history_History_Append [t6, t16] h7 fun t17 h8 =>
          Mpu (binV .no .add t11_2 (.int .i64 1)) fun t18 =>
          k4 t18 h8) (
          k2 t11_2 h5)) ((.int .i64 0)) h1) fun t11_4 h3 =>
    R t6 h3)
theorem sh_syngraphlaw22_made_chk : fchkF prg [11] Tryd.f20 1 = true := by kernel_rfl
theorem sh_syngraphlaw22_made_den (t0 : Value) (H : Heap) (R : Value → Heap → Prop) : fdenF prg [11] Tryd.f20 [t0] H R = sh_syngraphlaw22_made t0 H R := by kernel_rfl
theorem sh_syngraphlaw22_made_calls {t0 : Value} {H : Heap} {R : Value → Heap → Prop} (h : sh_syngraphlaw22_made t0 H R) : HCalls prg f_syngraphlaw22_made [t0] H R :=
  calls_ofF Tryd.func20 sh_syngraphlaw22_made_chk (by rw [sh_syngraphlaw22_made_den]; exact h)

-- (*syngraph/history.History).Walk
def sh_history_History_Walk (t0 : Value) (H : Heap) (R : Value → Heap → Prop) : Prop :=
  Mnew H T_P_history_History (some (Value.cells t0)) fun t1 h1 =>
  R (.func (.func f_history_History_Walk_1) #[] #[t1]) h1
theorem sh_history_History_Walk_chk : fchkF prg [] Tryd.f21 1 = true := by kernel_rfl
theorem sh_history_History_Walk_den (t0 : Value) (H : Heap) (R : Value → Heap → Prop) : fdenF prg [] Tryd.f21 [t0] H R = sh_history_History_Walk t0 H R := by kernel_rfl
theorem sh_history_History_Walk_calls {t0 : Value} {H : Heap} {R : Value → Heap → Prop} (h : sh_history_History_Walk t0 H R) : HCalls prg f_history_History_Walk [t0] H R :=
  calls_ofF Tryd.func21 sh_history_History_Walk_chk (by rw [sh_history_History_Walk_den]; exact h)

-- (*syngraph/history.History).Find
def sh_history_History_Find (t0 t1 : Value) (H : Heap) (R : Value → Heap → Prop) : Prop :=
  Mnew H T_string (some (Value.cells t1)) fun t3 h1 =>
  J2 (fun k2 =>
    Mpu (nck t0) fun t9 =>
    Mpu (fld 0 t9) fun t10 =>
    Mpu (ld1 h1 t10) fun t11 =>
    Mpu (lenV t11) fun t12 =>
    L2 (fun k4 => fun t5_2 t13_2 h5 =>
      Mpu (binV .no .lss t13_2 t12) fun t14 =>
      Mcd t14 (
        J1 (fun k6 =>
          Mpu (ixS 36 t11 t13_2) fun t16 =>
          Mpu (ldN 36 h5 t16) fun t17 =>
          Mnew h5 T_history_Record (zcells prg T_history_Record) fun t7 h8 =>
          Mwr (stN 36 h8 t7 t17) fun h9 =>
          Mpu (fld 1 t7) fun t18 =>
          Mpu (ld1 h9 t18) fun t19 =>
          Mpu (fld 2 t7) fun t20 =>
          Mpu (ld1 h9 t20) fun t21 =>
          Mcall prg f_history_Diff [t19, t21] h9 fun t22 h10 =>
          Mcall prg f_slices_ContainsFunc_S_history_Step_history_Step [t22, (.func (.func f_history_History_Find_1) #[] #[t3])] h10 fun t24 h11 =>
          Mcd t24 (
            Mnews h11 T_int 1 (bslV prg T_int 1 [(0, t13_2)]) fun t27 h12 =>
            Mapp T_int 1 8 h12 t5_2 t27 fun t28 h13 =>
            k6 t28 h13) (
            k6 t5_2 h11)) fun t5_4 h7 =>
        Mpu (binV .no .add t13_2 (.int .i64 1)) fun t29 =>
        k4 t5_4 t29 h7) (
        k2 t5_2 t13_2 h5)) ((.slice none 0 0)) ((.int .i64 0)) h1) fun t5_5 t13_4 h3 =>
  R t5_5 h3
theorem sh_history_History_Find_chk : fchkF prg [5, 13] Tryd.f22 2 = true := by kernel_rfl
theorem sh_history_History_Find_den (t0 t1 : Value) (H : Heap) (R : Value → Heap → Prop) : fdenF prg [5, 13] Tryd.f22 [t0, t1] H R = sh_history_History_Find t0 t1 H R := by kernel_rfl
theorem sh_history_History_Find_calls {t0 t1 : Value} {H : Heap} {R : Value → Heap → Prop} (h : sh_history_History_Find t0 t1 H R) : HCalls prg f_history_History_Find [t0, t1] H R :=
  calls_ofF Tryd.func22 sh_history_History_Find_chk (by rw [sh_history_History_Find_den]; exact h)

-- (*syngraph/history.History).Walk$1
def sh_history_History_Walk_1 (t0 t1 : Value) (H : Heap) (R : Value → Heap → Prop) : Prop :=
  Mpu (ld1 H t1) fun t5 =>
  Mpu (nck t5) fun t6 =>
  Mpu (fld 0 t6) fun t7 =>
  Mpu (ld1 H t7) fun t8 =>
  Mpu (lenV t8) fun t9 =>
  L1 (fun k1 => fun t10_2 h2 =>
    Mpu (binV .no .lss t10_2 t9) fun t11 =>
    Mcd t11 (
      Mpu (ixS 36 t8 t10_2) fun t13 =>
      Mpu (ldN 36 h2 t13) fun t14 =>
      Mnew h2 T_history_Record (zcells prg T_history_Record) fun t4 h3 =>
      Mwr (stN 36 h3 t4 t14) fun h4 =>
      Mpu (ldN 36 h4 t4) fun t16 =>
      Mpu (ld1 h4 t1) fun t18 =>
      Mpu (nck t18) fun t19 =>
      Mpu (fld 1 t19) fun t20 =>
      Mpu (ld1 h4 t20) fun t21 =>
      Mpu (ixS 32 t21 t10_2) fun t23 =>
      Mpu (ldN 32 h4 t23) fun t24 =>
      Mcall prg f_history_Record_copied [t16] h4 fun t17 h5 =>
      Mre [(ldN 32 h5 t23, t24), (ld1 h5 t20, t21), (ld1 h5 t1, t18)] (
      Mcallv prg t0 [t17, t24] h5 fun t25 h6 =>
      Mpu (unV .not t25) fun t26 =>
      Mcd t26 (
        R (.tuple #[]) h6) (
        Mpu (binV .no .add t10_2 (.int .i64 1)) fun t27 =>
        k1 t27 h6))) (
      R (.tuple #[]) h2)) ((.int .i64 0)) H
theorem sh_history_History_Walk_1_chk : fchkF prg [10] Tryd.f53 2 = true := by kernel_rfl
theorem sh_history_History_Walk_1_den (t0 t1 : Value) (H : Heap) (R : Value → Heap → Prop) : fdenF prg [10] Tryd.f53 [t0, t1] H R = sh_history_History_Walk_1 t0 t1 H R := by kernel_rfl
theorem sh_history_History_Walk_1_calls {t0 t1 : Value} {H : Heap} {R : Value → Heap → Prop} (h : sh_history_History_Walk_1 t0 t1 H R) : HCalls prg f_history_History_Walk_1 [t0, t1] H R :=
  calls_ofF Tryd.func53 sh_history_History_Walk_1_chk (by rw [sh_history_History_Walk_1_den]; exact h)

-- slices.ContainsFunc[[]syngraph/history.Step,syngraph/history.Step]
def sh_slices_ContainsFunc_S_history_Step_history_Step (t0 t1 : Value) (H : Heap) (R : Value → Heap → Prop) : Prop :=
  Mcall prg f_slices_IndexFunc_S_history_Step_history_Step [t0, t1] H fun t7 h1 =>
  Mpu (binV .no .geq t7 (.int .i64 0)) fun t8 =>
  R t8 h1
theorem sh_slices_ContainsFunc_S_history_Step_history_Step_chk : fchkF prg [] Tryd.f55 2 = true := by kernel_rfl
theorem sh_slices_ContainsFunc_S_history_Step_history_Step_den (t0 t1 : Value) (H : Heap) (R : Value → Heap → Prop) : fdenF prg [] Tryd.f55 [t0, t1] H R = sh_slices_ContainsFunc_S_history_Step_history_Step t0 t1 H R := by kernel_rfl
theorem sh_slices_ContainsFunc_S_history_Step_history_Step_calls {t0 t1 : Value} {H : Heap} {R : Value → Heap → Prop} (h : sh_slices_ContainsFunc_S_history_Step_history_Step t0 t1 H R) : HCalls prg f_slices_ContainsFunc_S_history_Step_history_Step [t0, t1] H R :=
  calls_ofF Tryd.func55 sh_slices_ContainsFunc_S_history_Step_history_Step_chk (by rw [sh_slices_ContainsFunc_S_history_Step_history_Step_den]; exact h)

-- (*syngraph/history.History).Find$1
def sh_history_History_Find_1 (t0 t1 : Value) (H : Heap) (R : Value → Heap → Prop) : Prop :=
  Mnew H T_history_Step (some (Value.cells t0)) fun t2 h1 =>
  Mpu (fld 0 t2) fun t4 =>
  Mpu (ld1 h1 t4) fun t5 =>
  Mpu (ld1 h1 t1) fun t6 =>
  Mpu (binV .no .eql t5 t6) fun t7 =>
  R t7 h1
theorem sh_history_History_Find_1_chk : fchkF prg [] Tryd.f56 2 = true := by kernel_rfl
theorem sh_history_History_Find_1_den (t0 t1 : Value) (H : Heap) (R : Value → Heap → Prop) : fdenF prg [] Tryd.f56 [t0, t1] H R = sh_history_History_Find_1 t0 t1 H R := by kernel_rfl
theorem sh_history_History_Find_1_calls {t0 t1 : Value} {H : Heap} {R : Value → Heap → Prop} (h : sh_history_History_Find_1 t0 t1 H R) : HCalls prg f_history_History_Find_1 [t0, t1] H R :=
  calls_ofF Tryd.func56 sh_history_History_Find_1_chk (by rw [sh_history_History_Find_1_den]; exact h)

-- slices.IndexFunc[[]syngraph/history.Step,syngraph/history.Step]
def sh_slices_IndexFunc_S_history_Step_history_Step (t0 t1 : Value) (H : Heap) (R : Value → Heap → Prop) : Prop :=
  J1 (fun k1 =>
    Mpu (lenV t0) fun t7 =>
    L1 (fun k3 => fun t8_2 h4 =>
      Mpu (binV .no .lss t8_2 t7) fun t9 =>
      Mcd t9 (
        Mpu (ixS 3 t0 t8_2) fun t14 =>
        Mpu (ldN 3 h4 t14) fun t15 =>
        Mcallv prg t1 [t15] h4 fun t16 h5 =>
        Mcd t16 (
          R t8_2 h5) (
          Mpu (binV .no .add t8_2 (.int .i64 1)) fun t18 =>
          k3 t18 h5)) (
        k1 t8_2 h4)) ((.int .i64 0)) H) fun t8_4 h2 =>
  R (.int .i64 (-1)) h2
theorem sh_slices_IndexFunc_S_history_Step_history_Step_chk : fchkF prg [8] Tryd.f90 2 = true := by kernel_rfl
theorem sh_slices_IndexFunc_S_history_Step_history_Step_den (t0 t1 : Value) (H : Heap) (R : Value → Heap → Prop) : fdenF prg [8] Tryd.f90 [t0, t1] H R = sh_slices_IndexFunc_S_history_Step_history_Step t0 t1 H R := by kernel_rfl
theorem sh_slices_IndexFunc_S_history_Step_history_Step_calls {t0 t1 : Value} {H : Heap} {R : Value → Heap → Prop} (h : sh_slices_IndexFunc_S_history_Step_history_Step t0 t1 H R) : HCalls prg f_slices_IndexFunc_S_history_Step_history_Step [t0, t1] H R :=
  calls_ofF Tryd.func90 sh_slices_IndexFunc_S_history_Step_history_Step_chk (by rw [sh_slices_IndexFunc_S_history_Step_history_Step_den]; exact h)

-- syngraph/syngraphlaw22.HistoryFinds
def sh_syngraphlaw22_HistoryFinds (t0 t1 : Value) (H : Heap) (R : Value → Heap → Prop) : Prop :=
  Mnew H T_string (some (Value.cells t1)) fun t3 h1 =>
  Mpu (lenV t0) fun t16 =>
  Mpu (binV .no .gtr t16 (.int .i64 15)) fun t17 =>
  J1 (fun k2 => Mif t17 false (
      Mpu (ld1 h1 t3) fun t19 =>
      Mpu (lenT t19) fun t20 =>
      Mpu (binV .no .gtr t20 (.int .i64 100)) fun t21 =>
      k2 t21 h1) (
      k2 undef h1)) fun t21_2 h3 =>
  Mpu (pickV t17 (.bool true) t21_2) fun t22 =>
  Mcd t22 (
    Mcall prg f_syngraphlaw22_awake [] h3 fun t23 h4 =>
    Mcl H.size h4 fun h5 =>
    R t23 h5) (
    J1 (fun k6 =>
      Mpu (lenV t0) fun t25 =>
      L1 (fun k8 => fun t26_2 h9 =>
        Mpu (binV .no .lss t26_2 t25) fun t27 =>
        Mcd t27 (
          Mpu (ixS 36 t0 t26_2) fun t28 =>
          Mpu (ldN 36 h9 t28) fun t29 =>
          Mnew h9 T_history_Record (zcells prg T_history_Record) fun t6 h10 =>
          Mwr (stN 36 h10 t6 t29) fun h11 =>
          Mpu (ldN 36 h11 t6) fun t30 =>
          Mcall prg f_syngraphlaw22_small [t30] h11 fun t31 h12 =>
          Mpu (unV .not t31) fun t32 =>
          Mcd t32 (
            Mcall prg f_syngraphlaw22_awake [] h12 fun t33 h13 =>
            Mcl H.size h13 fun h14 =>
            R t33 h14) (
            Mpu (binV .no .add t26_2 (.int .i64 1)) fun t34 =>
            k8 t34 h12)) (
          k6 t26_2 h9)) ((.int .i64 0)) h3) fun t26_4 h7 =>
    Mcall prg f_syngraphlaw22_made [t0] h7 fun t36 h15 =>
    Mpu (binV .ptr .eql t36 (.pointer none)) fun t38 =>
    Mcd t38 (
      Mcl H.size h15 fun h16 =>
      R (.bool false) h16) (
      Mnew h15 T_S_int (zcells prg T_S_int) fun t8 h17 =>
      Mnew h17 T_int (zcells prg T_int) fun t9 h18 =>
      Mwr (st1 h18 t9 (.int .i64 0)) fun h19 =>
      Mcall prg f_history_History_Walk [t36] h19 fun t40 h20 =>
      Mrange prg H.size t40 h20 (fun a21 h22 k23 => a21.length = 2 ∧ (
          Mnew h22 T_history_Record (zcells prg T_history_Record) fun t10 h26 =>
          Mwr (stN 36 h26 t10 (a21.getD 0 undef)) fun h27 =>
          Mbeg (h20.size + 1) h27 fun h28 =>
          Mpu (fld 1 t10) fun t43 =>
          Mpu (ld1 h28 t43) fun t44 =>
          Mpu (ld1 h28 t3) fun t45 =>
          Mpu (fld 2 t10) fun t47 =>
          Mpu (ld1 h28 t47) fun t48 =>
          Mpu (ld1 h28 t3) fun t49 =>
          Mcall prg f_syngraphlaw22_at [t44, t45] h28 fun t46 h29 =>
          Mre [(ld1 h29 t3, t49), (ld1 h29 t47, t48)] (
          Mcall prg f_syngraphlaw22_at [t48, t49] h29 fun t50 h30 =>
          J5 (fun k31 =>
            Mpu (binV .no .geq t46 (.int .i64 0)) fun t52 =>
            Mpu (binV .no .geq t50 (.int .i64 0)) fun t54 =>
            Mpu (binV .bool .neq t52 t54) fun t55 =>
            J1 (fun k33 => Mif t55 false (
                Mpu (binV .no .geq t46 (.int .i64 0)) fun t58 =>
                k33 t58 h30) (
                k33 undef h30)) fun t59_2 h34 =>
            J1 (fun k35 => Mif t59_2 true (
                Mpu (binV .no .geq t50 (.int .i64 0)) fun t61 =>
                k35 t61 h34) (
                k35 undef h34)) fun t61_2 h36 =>
            J1 (fun k37 => Mif t55 false (
                Mpu (pickV t59_2 t61_2 (.bool false)) fun t62 =>
                k37 t62 h36) (
                k37 undef h36)) fun t63_2 h38 =>
            J1 (fun k39 => Mif t63_2 true (
                Mpu (fld 1 t10) fun t64 =>
                Mpu (ld1 h38 t64) fun t65 =>
                Mpu (ixS 37 t65 t46) fun t67 =>
                Mpu (ldN 37 h38 t67) fun t68 =>
                Mpu (fld 2 t10) fun t69 =>
                Mpu (ld1 h38 t69) fun t70 =>
                Mpu (ixS 37 t70 t50) fun t72 =>
                Mpu (ldN 37 h38 t72) fun t73 =>
                Mpu (binV (eqK prg T_history_Item) .neq t68 t73) fun t74 =>
                k39 t74 h38) (
                k39 undef h38)) fun t74_2 h40 =>
            J1 (fun k41 => Mif t55 false (
                Mpu (pickV t63_2 t74_2 (.bool false)) fun t75 =>
                k41 t75 h40) (
                k41 undef h40)) fun t75_2 h42 =>
            Mpu (pickV t55 (.bool true) t75_2) fun t76 =>
            Mcd t76 (
              Mpu (ld1 h42 t8) fun t77 =>
              Mpu (ld1 h42 t9) fun t78 =>
              Mnews h42 T_int 1 (bslV prg T_int 1 [(0, t78)]) fun t79 h43 =>
              Mapp T_int 1 8 h43 t77 t79 fun t80 h44 =>
              Mwr (st1 h44 t8 t80) fun h45 =>
              k31 t59_2 t61_2 t63_2 t74_2 t75_2 h45) (
              k31 t59_2 t61_2 t63_2 t74_2 t75_2 h42)) fun t59_3 t61_3 t63_3 t74_3 t75_3 h32 =>
          Mpu (ld1 h32 t9) fun t81 =>
          Mpu (binV .no .add t81 (.int .i64 1)) fun t82 =>
          Mwr (st1 h32 t9 t82) fun h46 =>
          k23 none h46))) fun j24 h25 =>
        (j24 = none ∧ (
          Mpu (ld1 h25 t3) fun t84 =>
          Mcall prg f_history_History_Find [t36, t84] h25 fun t85 h47 =>
          Mpu (lenV t85) fun t87 =>
          Mpu (ld1 h47 t8) fun t88 =>
          Mpu (lenV t88) fun t89 =>
          Mpu (binV .no .neq t87 t89) fun t90 =>
          Mcd t90 (
            Mcl H.size h47 fun h48 =>
            R (.bool false) h48) (
            J1 (fun k49 =>
              Mpu (lenV t85) fun t92 =>
              L1 (fun k51 => fun t93_2 h52 =>
                Mpu (binV .no .lss t93_2 t92) fun t94 =>
                Mcd t94 (
                  Mpu (ixS 1 t85 t93_2) fun t98 =>
                  Mpu (ld1 h52 t98) fun t99 =>
                  Mpu (ld1 h52 t8) fun t100 =>
                  Mpu (ixS 1 t100 t93_2) fun t102 =>
                  Mpu (ld1 h52 t102) fun t103 =>
                  Mpu (binV .no .neq t99 t103) fun t104 =>
                  Mcd t104 (
                    Mcl H.size h52 fun h53 =>
                    R (.bool false) h53) (
                    Mpu (binV .no .add t93_2 (.int .i64 1)) fun t105 =>
                    k51 t105 h52)) (
                  k49 t93_2 h52)) ((.int .i64 0)) h47) fun t93_4 h50 =>
            Mcall prg f_syngraphlaw22_awake [] h50 fun t106 h54 =>
            Mcl H.size h54 fun h55 =>
            R t106 h55))) ∨
        False))
theorem sh_syngraphlaw22_HistoryFinds_chk : fchkF prg [21, 26, 59, 61, 63, 74, 75, 93] Tryd.f5 2 = true := by kernel_rfl
theorem sh_syngraphlaw22_HistoryFinds_den (t0 t1 : Value) (H : Heap) (R : Value → Heap → Prop) : fdenF prg [21, 26, 59, 61, 63, 74, 75, 93] Tryd.f5 [t0, t1] H R = sh_syngraphlaw22_HistoryFinds t0 t1 H R := by kernel_rfl
theorem sh_syngraphlaw22_HistoryFinds_calls {t0 t1 : Value} {H : Heap} {R : Value → Heap → Prop} (h : sh_syngraphlaw22_HistoryFinds t0 t1 H R) : HCalls prg f_syngraphlaw22_HistoryFinds [t0, t1] H R :=
  calls_ofF Tryd.func5 sh_syngraphlaw22_HistoryFinds_chk (by rw [sh_syngraphlaw22_HistoryFinds_den]; exact h)

end Go.Proofs.YtmhfanpijdgkjaaDoor
