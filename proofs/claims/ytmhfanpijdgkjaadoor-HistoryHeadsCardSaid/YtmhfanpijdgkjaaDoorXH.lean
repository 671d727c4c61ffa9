/- Two operations that may change places. -/
import Derived.Test.YtmhfanpijdgkjaaDoorXG
namespace Go.X

def pureOf : XR → Option Value
  | .val v => some v
  | .pu r => r
  | .rd r => r
  | _ => none

theorem opX_pure {P : Program} {q : Bool} {o : Oper} {ρ : Operand → Value} {H : Heap} {k : Value → Heap → Prop} (h : cls P o.op = 0 ∨ cls P o.op = 1) : opX P q o ρ H k ↔ ∃ v, pureOf (opR P o.op ρ H) = some v ∧ k v H := by
  unfold cls at h
  rw [cls_any (ρ' := ρ) (H' := H)] at h
  unfold opX
  cases hr : opR P o.op ρ H <;> simp only [hr, clsR] at h <;> simp [pureOf, Mpu] at h ⊢

theorem opR_heap {P : Program} {o : Op} {ρ : Operand → Value} {H H' : Heap} (h : cls P o = 0) : opR P o ρ H = opR P o ρ H' := by
  unfold cls at h
  cases o <;> simp only [opR] at h ⊢
  case load T a => revert h; cases aggB P T <;> cases sclB P T <;> simp [clsR]
  case store T a x => revert h; cases aggB P T <;> cases sclB P T <;> simp [clsR]
  case convert s d x =>
    revert h
    rcases P.underlying s with _ | a <;> rcases P.underlying d with _ | b <;> first | (intro _; rfl) | (cases a <;> first | (intro _; rfl) | skip)
    all_goals (cases b <;> first | (intro _; rfl) | skip)
    all_goals (rename_i e; simp only)
    all_goals (rcases P.underlying e with _ | d)
    all_goals first | (intro _; rfl) | skip
    all_goals (rename_i d; rcases d with _ | _ | k)
    all_goals first | (intro _; rfl) | (cases k <;> first | (intro _; rfl) | (intro h; simp [clsR] at h))

theorem Ext.block {H H' : Heap} (h : Ext H H') {b : Nat} {x : Obj} (hb : H[b]? = some x) : H'[b]? = some x := by
  rw [h.2 b (Array.getElem?_eq_some_iff.1 hb).1]; exact hb

theorem ld1_ext {H H' : Heap} (h : Ext H H') {p v : Value} (hl : ld1 H p = some v) : ld1 H' p = some v := by
  unfold ld1 at hl ⊢
  split at hl
  · split at hl
    · rename_i hb; simp only [h.block hb]; exact hl
    · cases hl
  · cases hl

theorem ldN_ext {n : Nat} {H H' : Heap} (h : Ext H H') {p v : Value} (hl : ldN n H p = some v) : ldN n H' p = some v := by
  unfold ldN at hl ⊢
  split at hl
  · split at hl
    · rename_i hb; simp only [h.block hb]; exact hl
    · cases hl
  · cases hl

theorem elems_ext {n : Nat} {H H' : Heap} (h : Ext H H') {x : Value} {r : Nat × Array Value} (hl : elemsOf n H x = some r) : elemsOf n H' x = some r := by
  unfold elemsOf at hl ⊢
  split at hl
  · split at hl
    · rename_i h0; rw [if_pos h0]; exact hl
    · rename_i h0; rw [if_neg h0]
      split at hl
      · split at hl
        · rename_i hb; simp only [h.block hb]; exact hl
        · cases hl
      · cases hl
  · exact hl
  · cases hl

theorem b2s_ext {H H' : Heap} (h : Ext H H') {x v : Value} (hl : b2s H x = some v) : b2s H' x = some v := by
  unfold b2s at hl ⊢
  split at hl
  · rename_i a l c
    cases he : elemsOf 1 H (.slice a l c) with
    | none => simp [he] at hl
    | some r => rw [elems_ext h he]; rw [he] at hl; exact hl
  · cases hl

theorem opR_read {P : Program} {o : Op} {ρ : Operand → Value} {H H' : Heap} (h : cls P o = 1) (hx : Ext H H') {v : Value} (hv : pureOf (opR P o ρ H) = some v) : pureOf (opR P o ρ H') = some v := by
  unfold cls at h
  cases o <;> simp only [opR] at h hv ⊢ <;> first | exact hv | skip
  case load T a =>
    revert h hv
    cases aggB P T <;> cases sclB P T <;> simp only [cond_true, cond_false, clsR, pureOf] <;> intro h hv <;> first
      | exact ldN_ext hx hv
      | exact ld1_ext hx hv
      | (cases hv)
  case store T a x => revert h; cases aggB P T <;> cases sclB P T <;> simp [clsR]
  case convert s d x =>
    revert h hv
    rcases P.underlying s with _ | a <;> rcases P.underlying d with _ | b <;> first | (intro _ hv; exact hv) | (cases a <;> first | (intro _ hv; exact hv) | skip)
    all_goals (cases b <;> first | (intro _ hv; exact hv) | skip)
    all_goals (rename_i e; simp only)
    all_goals (rcases P.underlying e with _ | d)
    all_goals first | (intro _ hv; exact hv) | skip
    all_goals (rename_i d; rcases d with _ | _ | k)
    all_goals first | (intro _ hv; exact hv) | (cases k <;> first | (intro _ hv; exact hv) | (intro _ hv; exact b2s_ext hx hv))

theorem Ext.push (H : Heap) (o : Obj) : Ext H (H.push o) := ⟨by simp, fun i hi => by rw [Array.getElem?_push, if_neg (by omega)]⟩
theorem Ext.refl (H : Heap) : Ext H H := ⟨Nat.le_refl _, fun _ _ => rfl⟩
theorem Ext.trans {a b c : Heap} (h : Ext a b) (k : Ext b c) : Ext a c := ⟨Nat.le_trans h.1 k.1, fun i hi => (k.2 i (Nat.lt_of_lt_of_le hi h.1)).trans (h.2 i hi)⟩

theorem opX_quiet {P : Program} {o : Oper} {ρ : Operand → Value} {H : Heap} {k : Value → Heap → Prop} (h : cls P o.op = 2) (hh : opX P true o ρ H k) : opX P true o ρ H fun v h => Ext H h ∧ k v h := by
  unfold cls at h
  rw [cls_any (ρ' := ρ) (H' := H)] at h
  unfold opX at hh ⊢
  cases hr : opR P o.op ρ H <;> simp only [hr, clsR] at h hh ⊢ <;> first | (simp at h; done) | skip
  case nw T c => obtain ⟨cs, e, hk⟩ := hh; exact ⟨cs, e, Ext.push _ _, hk⟩
  case nws T n c => obtain ⟨cs, e, hk⟩ := hh; exact ⟨cs, e, Ext.push _ _, hk⟩
  case cl f args =>
    have hh : HCalls P f args H (fun v h => Ext H h ∧ k v h) := hh
    exact (HCalls.mono hh fun v h hb => ⟨hb.1, hb.1, hb.2⟩ : HCalls P f args H fun v h => Ext H h ∧ Ext H h ∧ k v h)
  case mk e l c =>
    obtain ⟨kl, kc, n, m, z, h1, h2, h3, h4, h5, h6, h7, h8⟩ := hh
    exact ⟨kl, kc, n, m, z, h1, h2, h3, h4, h5, h6, h7, ⟨by simp, fun i hi => by rw [Array.getElem?_push, if_neg (by omega)]⟩, h8⟩
  case cv f args =>
    have hh : Mcallv P f args H (fun v h => Ext H h ∧ k v h) := hh
    exact (Mcallv.mono hh fun v h hb => ⟨hb.1, hb.1, hb.2⟩ : Mcallv P f args H fun v h => Ext H h ∧ Ext H h ∧ k v h)

/- ONE OPERATION WITH ITS GUARD, over an environment. -/
def act (ops : Array Oper) (o : Oper) (e : Env) : Option Bool :=
  match o.guard with
  | none => some true
  | some (j, want) => match (ops[j]?).bind (·.dst) with
    | some t => match e t with
      | .bool b => some (b == want)
      | _ => some false
    | none => none

def stepX (P : Program) (q : Bool) (ops : Array Oper) (o : Oper) (e : Env) (H : Heap) (K : Env → Heap → Prop) : Prop :=
  (act ops o e = some true ∧ opX P q o (ev e) H fun v h => K (e.put o.dst v) h) ∨ (act ops o e = some false ∧ K (e.put o.dst undef) H)

theorem stepX.mono {P : Program} {q : Bool} {ops : Array Oper} {o : Oper} {e : Env} {H : Heap} {K K' : Env → Heap → Prop} (h : stepX P q ops o e H K) (hk : ∀ e h, K e h → K' e h) : stepX P q ops o e H K' := by
  rcases h with ⟨a, h⟩ | ⟨a, h⟩
  · exact .inl ⟨a, opX_mono h fun _ _ h => hk _ _ h⟩
  · exact .inr ⟨a, hk _ _ h⟩

theorem put_ne {e : Env} {d : Option Nat} {v : Value} {t : Nat} (h : d ≠ some t) : e.put d v t = e t := by
  cases d with
  | none => rfl
  | some d =>
    have : (Nat.beq t d) = false := by
      cases hb : Nat.beq t d with
      | false => rfl
      | true => exact absurd (congrArg some (Nat.eq_of_beq_eq_true hb).symm) h
    simp [Env.put, this]

theorem put_eq {e : Env} {d : Nat} {v : Value} : e.put (some d) v d = v := by
  have : Nat.beq d d = true := Nat.beq_refl d
  simp [Env.put, this]

theorem put_comm {e : Env} {d d' : Option Nat} {v v' : Value} (h : ∀ t, d = some t → d' ≠ some t) : (e.put d v).put d' v' = (e.put d' v').put d v := by
  funext t
  by_cases h1 : d = some t
  · subst h1
    rw [put_ne (h t rfl), put_eq, put_eq]
  · rw [put_ne h1]
    by_cases h2 : d' = some t
    · subst h2; rw [put_eq, put_eq]
    · rw [put_ne h2, put_ne h2, put_ne h1]

/-- may j, which stands ahead of i, come behind i? (a read is read again behind i) -/
def swapOk (P : Program) (ops : Array Oper) (j i : Oper) : Bool :=
  j.apart ops i && (Nat.beq (cls P i.op) 0 || Nat.ble (cls P j.op) 1)
/-- read again: the same -/
def rc (P : Program) (j : Oper) (e : Env) (h : Heap) : Prop :=
  match j.dst with
  | some d => pureOf (opR P j.op (ev e) h) = some (e d)
  | none => True

theorem act_put {ops : Array Oper} {o : Oper} {e : Env} {d : Option Nat} {v : Value} (h : ∀ t, d = some t → t ∉ o.looksAt ops) : act ops o (e.put d v) = act ops o e := by
  unfold act
  cases hg : o.guard with
  | none => rfl
  | some g =>
    obtain ⟨j, want⟩ := g
    simp only
    cases ht : (ops[j]?).bind (·.dst) with
    | none => rfl
    | some t =>
      simp only
      rw [put_ne]
      intro hd
      refine h t hd ?_
      unfold Oper.looksAt
      rw [hg]
      simp only [ht]
      simp

theorem ev_put {ops : Array Oper} {o : Oper} {e : Env} {d : Option Nat} {v : Value} (h : ∀ t, d = some t → t ∉ o.looksAt ops) : ∀ x ∈ o.op.operands, ev (e.put d v) x = ev e x := by
  intro x hx
  cases x with
  | tmp t =>
    simp only [ev]
    rw [put_ne]
    intro hd
    exact h t hd (List.mem_append_left _ (List.mem_filterMap.2 ⟨.tmp t, by simpa using hx, rfl⟩))
  | _ => rfl

theorem ble1 {n : Nat} : Nat.ble n 1 = true ↔ n = 0 ∨ n = 1 := by
  rw [Nat.ble_eq]; omega

/-- one operation with its guard; C: what is asked behind it, if it acts -/
def stepC (P : Program) (ops : Array Oper) (o : Oper) (e : Env) (H : Heap) (C K : Env → Heap → Prop) : Prop :=
  (act ops o e = some true ∧ opX P false o (ev e) H fun v h => C (e.put o.dst v) h ∧ K (e.put o.dst v) h) ∨ (act ops o e = some false ∧ K (e.put o.dst undef) H)

theorem stepC.mono {P : Program} {ops : Array Oper} {o : Oper} {e : Env} {H : Heap} {C C' K K' : Env → Heap → Prop} (h : stepC P ops o e H C K) (hc : ∀ e h, C e h → C' e h) (hk : ∀ e h, K e h → K' e h) : stepC P ops o e H C' K' := by
  rcases h with ⟨a, h⟩ | ⟨a, h⟩
  · exact .inl ⟨a, opX_mono h fun _ _ h => ⟨hc _ _ h.1, hk _ _ h.2⟩⟩
  · exact .inr ⟨a, hk _ _ h⟩
theorem stepC.step {P : Program} {ops : Array Oper} {o : Oper} {e : Env} {H : Heap} {C K : Env → Heap → Prop} (h : stepC P ops o e H C K) : stepX P false ops o e H K := by
  rcases h with ⟨a, h⟩ | ⟨a, h⟩
  · exact .inl ⟨a, opX_mono h fun _ _ h => h.2⟩
  · exact .inr ⟨a, h⟩

theorem swap {P : Program} {ops : Array Oper} {j i : Oper} (hsj : ∀ cs b, j.op ≠ .select cs b) (hsi : ∀ cs b, i.op ≠ .select cs b) (hok : swapOk P ops j i = true) {Cj Ci Ci' F : Env → Heap → Prop}
    (hA : cls P i.op = 0 → (∀ e h, Ci' e h) ∧ ∀ e h v, Cj e h → Cj (e.put i.dst v) h)
    (hB : cls P i.op ≠ 0 → (∀ e h, Cj e h) ∧ (∀ e h v, Ci (e.put j.dst v) h → Ci' e h) ∧ (cls P j.op = 1 → cls P i.op ≠ 1 → (∃ d, j.dst = some d ∧ d ∉ j.looksAt ops) ∧ ∀ e h, Ci e h → rc P j e h)) {e : Env} {H : Heap}
    (h : stepC P ops j e H Cj fun e1 h1 => stepC P ops i e1 h1 Ci F) :
    stepC P ops i e H Ci' fun e1 h1 => stepC P ops j e1 h1 Cj F := by
  simp only [swapOk, Bool.and_eq_true] at hok
  obtain ⟨hap, hcl⟩ := hok
  obtain ⟨h1, h2, h3⟩ := Oper.apart_spec hap
  have hcm : ∀ t, j.dst = some t → i.dst ≠ some t := h2
  have fi : ∀ (v : Value) (k : Value → Heap → Prop) (h : Heap), opX P false i (ev (e.put j.dst v)) h k → opX P false i (ev e) h k := fun v k h hh => opX_congr hsi (ev_put h1) hh
  have fj : ∀ (v : Value) (k : Value → Heap → Prop) (h : Heap), opX P false j (ev e) h k → opX P false j (ev (e.put i.dst v)) h k := fun v k h hh => opX_congr hsj (fun x hx => (ev_put h3 x hx).symm) hh
  have pj : ∀ (v : Value) (h : Heap), opR P j.op (ev (e.put i.dst v)) h = opR P j.op (ev e) h := fun v h => opR_congr (ev_put h3)
  have pi : ∀ (v : Value) (h : Heap), opR P i.op (ev (e.put j.dst v)) h = opR P i.op (ev e) h := fun v h => opR_congr (ev_put h1)
  by_cases hi0 : cls P i.op = 0
  · obtain ⟨hCi, hCj⟩ := hA hi0
    have hpi : cls P i.op = 0 ∨ cls P i.op = 1 := .inl hi0
    rcases h with ⟨aj, h⟩ | ⟨aj, h⟩
    · have hai : act ops i e = some true ∨ act ops i e = some false := by
        obtain ⟨v, h', _, hh⟩ := opX_some h
        rcases hh with ⟨a, _⟩ | ⟨a, _⟩
        · rw [act_put h1] at a; exact .inl a
        · rw [act_put h1] at a; exact .inr a
      rcases hai with ai | ai
      · have h : opX P false j (ev e) H fun vj hj => ∃ vi, pureOf (opR P i.op (ev e) hj) = some vi ∧ Cj ((e.put i.dst vi).put j.dst vj) hj ∧ F ((e.put i.dst vi).put j.dst vj) hj := opX_mono h fun vj hj ⟨hc, hh⟩ => by
          rcases hh with ⟨_, hh⟩ | ⟨a, _⟩
          · obtain ⟨vi, hvi, _, hf⟩ := (opX_pure hpi).1 hh
            rw [pi] at hvi
            refine ⟨vi, hvi, ?_⟩
            rw [← put_comm hcm]
            exact ⟨hCj _ _ _ hc, hf⟩
          · rw [act_put h1, ai] at a; cases a
        obtain ⟨_, hj, vi, hvi, _⟩ := opX_some h
        refine .inl ⟨ai, (opX_pure hpi).2 ⟨vi, by rw [opR_heap hi0 (H' := hj)]; exact hvi, hCi _ _, .inl ⟨by rw [act_put h3]; exact aj, ?_⟩⟩⟩
        refine fj _ _ _ (opX_mono h fun vj hj' hh => ?_)
        obtain ⟨vi', hvi', hk⟩ := hh
        rw [opR_heap hi0 (H' := hj), hvi] at hvi'
        cases hvi'
        exact hk
      · refine .inr ⟨ai, .inl ⟨by rw [act_put h3]; exact aj, ?_⟩⟩
        refine fj _ _ _ (opX_mono h fun vj hj ⟨hc, hh⟩ => ?_)
        rcases hh with ⟨a, _⟩ | ⟨_, hk⟩
        · rw [act_put h1, ai] at a; cases a
        · rw [← put_comm hcm]; exact ⟨hCj _ _ _ hc, hk⟩
    · rcases h with ⟨ai, h⟩ | ⟨ai, h⟩
      · obtain ⟨vi, hvi, _, hf⟩ := (opX_pure hpi).1 h
        rw [pi] at hvi
        refine .inl ⟨by rw [← act_put h1]; exact ai, (opX_pure hpi).2 ⟨vi, hvi, hCi _ _, .inr ⟨by rw [act_put h3]; exact aj, ?_⟩⟩⟩
        rw [← put_comm hcm]; exact hf
      · refine .inr ⟨by rw [← act_put h1]; exact ai, .inr ⟨by rw [act_put h3]; exact aj, ?_⟩⟩
        rw [← put_comm hcm]; exact h
  · obtain ⟨hCj, hCi, hrc⟩ := hB hi0
    have hpj : cls P j.op = 0 ∨ cls P j.op = 1 := by
      rcases Bool.or_eq_true_iff.1 hcl with hh | hh
      · exact absurd (Nat.eq_of_beq_eq_true hh) hi0
      · exact ble1.1 hh
    rcases h with ⟨aj, h⟩ | ⟨aj, h⟩
    · obtain ⟨vj, hvj, _, h⟩ := (opX_pure hpj).1 h
      rcases h with ⟨ai, h⟩ | ⟨ai, hf⟩
      · refine .inl ⟨by rw [← act_put h1]; exact ai, ?_⟩
        by_cases hread : cls P j.op = 1 ∧ cls P i.op ≠ 1
        · obtain ⟨⟨d, hdj, hdl⟩, hrc⟩ := hrc hread.1 hread.2
          refine opX_mono (fi _ _ _ h) fun vi hi ⟨hc, hf⟩ => ?_
          rw [put_comm hcm] at hc hf
          have hr := hrc _ _ hc
          refine ⟨hCi _ _ _ hc, .inl ⟨by rw [act_put h3]; exact aj, (opX_pure hpj).2 ⟨vj, ?_, hCj _ _, hf⟩⟩⟩
          unfold rc at hr
          simp only [hdj] at hr
          rw [put_eq] at hr
          rw [← hr]
          exact congrArg pureOf (opR_congr (ev_put (ops := ops) fun t ht => by cases ht; exact hdl)).symm
        · -- the heap is as it was, or j does not look at it
          refine opX_mono (fi _ _ _ (?_ : opX P false i (ev (e.put j.dst vj)) H fun vi hi => pureOf (opR P j.op (ev e) hi) = some vj ∧ Ci ((e.put j.dst vj).put i.dst vi) hi ∧ F ((e.put j.dst vj).put i.dst vi) hi)) fun vi hi ⟨hv, hc, hf⟩ => ?_
          · by_cases hj0 : cls P j.op = 0
            · exact opX_mono h fun vi hi hk => ⟨by rw [opR_heap hj0 (H' := H)]; exact hvj, hk⟩
            · have hj1 : cls P j.op = 1 := hpj.resolve_left hj0
              have hi1 : cls P i.op = 1 := Classical.byContradiction fun hn => hread ⟨hj1, hn⟩
              obtain ⟨vi, hvi, hk⟩ := (opX_pure (.inr hi1)).1 h
              exact (opX_pure (.inr hi1)).2 ⟨vi, hvi, hvj, hk⟩
          · rw [put_comm hcm] at hc hf
            exact ⟨hCi _ _ _ hc, .inl ⟨by rw [act_put h3]; exact aj, (opX_pure hpj).2 ⟨vj, by rw [pj]; exact hv, hCj _ _, hf⟩⟩⟩
      · rw [put_comm hcm] at hf
        exact .inr ⟨by rw [← act_put h1]; exact ai, .inl ⟨by rw [act_put h3]; exact aj, (opX_pure hpj).2 ⟨vj, by rw [pj]; exact hvj, hCj _ _, hf⟩⟩⟩
    · rcases h with ⟨ai, h⟩ | ⟨ai, hf⟩
      · refine .inl ⟨by rw [← act_put h1]; exact ai, opX_mono (fi _ _ _ h) fun vi hi ⟨hc, hf⟩ => ?_⟩
        rw [put_comm hcm] at hc hf
        exact ⟨hCi _ _ _ hc, .inr ⟨by rw [act_put h3]; exact aj, hf⟩⟩
      · rw [put_comm hcm] at hf
        exact .inr ⟨by rw [← act_put h1]; exact ai, .inr ⟨by rw [act_put h3]; exact aj, hf⟩⟩

end Go.X
