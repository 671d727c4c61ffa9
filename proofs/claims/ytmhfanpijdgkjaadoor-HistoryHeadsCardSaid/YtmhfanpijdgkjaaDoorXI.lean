/- A region, in the text's order and in whatever order. -/
import Derived.Test.YtmhfanpijdgkjaaDoorXH
namespace Go.X

def envOf (a : Act) : Env := fun i => a.tmps.getD i undef

theorem eval_envOf (a : Act) : a.eval = ev (envOf a) := by
  funext x; cases x <;> rfl

theorem envOf_put {a : Act} {d : Option Nat} {v : Value} (h : ∀ t, d = some t → t < a.tmps.size) : envOf (a.put d v) = (envOf a).put d v := by
  cases d with
  | none => rfl
  | some d =>
    have hd := h d rfl
    funext i
    by_cases hi : i = d
    · subst hi
      rw [put_eq]
      simp [envOf, Act.put, hd]
    · rw [put_ne (by simpa using fun h => hi h.symm)]
      simp [envOf, Act.put, Array.getElem?_setIfInBounds_ne (Ne.symm hi)]

theorem put_size {a : Act} {d : Option Nat} {v : Value} : (a.put d v).tmps.size = a.tmps.size := by
  cases d <;> simp [Act.put]
theorem put_defers' {a : Act} {d : Option Nat} {v : Value} : (a.put d v).defers = a.defers := by
  cases d <;> rfl

theorem act_wanted {ops : Array Oper} {o : Oper} {a : Act} {b : Bool} (h : act ops o (envOf a) = some b) : Region.wanted o (yielded ops a.tmps) = b := by
  unfold act at h
  unfold Region.wanted
  cases hg : o.guard with
  | none => simp only [hg, Option.some.injEq] at h ⊢; exact h
  | some g =>
    obtain ⟨j, want⟩ := g
    simp only [hg] at h ⊢
    cases ht : (ops[j]?).bind (·.dst) with
    | none => simp [ht] at h
    | some t =>
      simp only [ht] at h
      by_cases hbb : ∃ b', envOf a t = .bool b'
      · obtain ⟨b', hv⟩ := hbb
        rw [hv] at h
        simp only [Option.some.injEq] at h
        have : a.tmps[t]? = some (.bool b') := by
          unfold envOf at hv
          rw [Array.getD_eq_getD_getElem?] at hv
          cases hq : a.tmps[t]? with
          | none => rw [hq] at hv; cases hv
          | some x => rw [hq] at hv; simp only [Option.getD_some] at hv; rw [hv]
        unfold yielded
        rw [ht]
        simp only [Option.bind_some, this]
        rw [← h]
        cases b' <;> cases want <;> rfl
      · have hb : b = false := by
          cases hv : envOf a t <;> simp_all
        subst hb
        have : yielded ops a.tmps j = none := by
          unfold yielded
          rw [ht]
          simp only [Option.bind_some]
          cases hq : a.tmps[t]? with
          | none => rfl
          | some x =>
            have hx : envOf a t = x := by unfold envOf; rw [Array.getD_eq_getD_getElem?, hq]; rfl
            cases x <;> first
              | rfl
              | exact absurd ⟨_, hx⟩ hbb
        rw [this]
        cases want <;> rfl

/-- all that the soundness of a step asks of its text -/
def okOp (n : Nat) (o : Oper) : Bool := (match o.dst with | some d => decide (d < n) | none => true) && (match o.op with | .select _ _ => false | _ => true)

theorem okOp_dst {n : Nat} {o : Oper} (h : okOp n o = true) : ∀ t, o.dst = some t → t < n := by
  intro t ht
  simp only [okOp, ht, Bool.and_eq_true, decide_eq_true_eq] at h
  exact h.1
theorem okOp_sel {n : Nat} {o : Oper} (h : okOp n o = true) : ∀ cs b, o.op ≠ .select cs b := by
  intro cs b he
  simp [okOp, he] at h

theorem hasBody_spec {P : Program} {f : FuncId} (h : hasBody P f = true) : ∃ fn c, P.funcs[f]? = some fn ∧ fn.body = some c ∧ (fn.name == "runtime.NumGoroutine") = false := by
  unfold hasBody at h
  cases hf : P.funcs[f]? with
  | none => simp [hf] at h
  | some fn =>
    simp only [hf, Bool.and_eq_true, Option.isSome_iff_exists, bne_iff_ne, ne_eq] at h
    obtain ⟨⟨c, hc⟩, hn⟩ := h
    exact ⟨fn, c, rfl, hc, by simpa using hn⟩

/-- the fences that this layer walks in: none; or that of a round of a range over a function -/
abbrev Fr (ro : Option Nat) : Fence := { fn := fun _ => True, depth := none, alive := false, round := ro }
theorem callsIn_fr {ro : Option Nat} {n : Nat} {P : Program} {f : FuncId} {args : Array Value} {w : World} {R : Ending → World → Prop} (h : Calls P f args w R) : CallsIn (Fr ro) n P f args w R := by
  have h : CallsIn Fence.wide n P f args w R := callsIn_wide.2 h
  exact h

theorem op_wp {ro : Option Nat} {m : Nat} {P : Program} {q : Bool} {o : Oper} {a : Act} {w : World} {k : Value → Heap → Prop} {next : Act → World → Prop} {Q : Exit → Act → World → Prop}
    (h : opX P q o (ev (envOf a)) w.heap k) (hn : ∀ v w', Same w w' → k v w'.heap → next (a.put o.dst v) w') : o.wpIn (Fr ro) m P a w next Q := by
  unfold Oper.wpIn
  refine ⟨fun _ _ => trivial, ?_⟩
  have hsem : ∀ r, (execOp a.eval o).run P w = r → (∀ d w', r ≠ .ok (.defer d) w') → (∀ x w', r ≠ .halt x w') → (o.semAt ro a.eval).run P w = r := fun r hr hd hh => by
    by_cases hop : ∃ c, o.op = .defer c
    · obtain ⟨c, hop⟩ := hop
      simp only [execOp, hop, Sem.run_bind] at hr
      cases hres : (resolve a.eval c o.type).run P w with
      | ok d w' => rw [hres] at hr; exact absurd hr.symm (hd d w')
      | halt x w' => rw [hres] at hr; exact absurd hr.symm (hh x w')
    · rw [Oper.semAt_eq ro _ o fun c hc => hop ⟨c, hc⟩]; exact hr
  rcases opX_sound (fun _ => rfl) h with (⟨c, f, ho, hc, hb, hcall⟩ | ⟨c, x, ho, hc, hcall⟩) | hraw
  · obtain ⟨fn, body, hf, hbody, hname⟩ := hasBody_spec hb
    have hrun : (execOp (ev (envOf a)) o).run P w = .ok (.enter f (c.args.toList.map (ev (envOf a))).toArray) w := by
      have e : (List.map (ev (envOf a)) c.args.toList).toArray = Array.map (ev (envOf a)) c.args := by apply Array.ext'; simp
      rw [e]
      simp only [execOp, ho, resolve, hc, ev, Deferred.ofValue, Sem.run_bind, Sem.run_pure, Result.andThen_ok, invoke, callFunc, run_program, hf, hname, hbody]
      simp
    rw [← eval_envOf] at hrun
    have hs := hsem _ hrun (by simp) (by simp)
    show o.uponIn (Fr ro) m P a next Q ((o.semAt ro a.eval).run P w)
    rw [hs, Oper.uponIn_enter]
    refine ⟨fun h => (by cases h), ?_⟩
    refine callsIn_fr ((hcall w rfl).mono ?_)
    rintro e w' ⟨v, rfl, hs, hk⟩
    exact hn v w' hs hk
  · rcases hcall with ⟨f, fi, ca, hx, hb, hcall⟩ | ⟨l, fi, ca, hx, hcall⟩
    · obtain ⟨fn, body, hf, hbody, hname⟩ := hasBody_spec hb
      have hrun : (execOp (ev (envOf a)) o).run P w = .ok (.enter f (fi.toList ++ c.args.toList.map (ev (envOf a)) ++ ca.toList).toArray) w := by
        have e : (fi.toList ++ c.args.toList.map (ev (envOf a)) ++ ca.toList).toArray = fi ++ Array.map (ev (envOf a)) c.args ++ ca := by apply Array.ext'; simp
        rw [e]
        simp only [execOp, ho, resolve, hc, hx, Deferred.ofValue, Sem.run_bind, Sem.run_pure, Result.andThen_ok, invoke, callFunc, run_program, hf, hname, hbody]
        simp
      rw [← eval_envOf] at hrun
      have hs := hsem _ hrun (by simp) (by simp)
      show o.uponIn (Fr ro) m P a next Q ((o.semAt ro a.eval).run P w)
      rw [hs, Oper.uponIn_enter]
      refine ⟨fun h => (by cases h), ?_⟩
      refine callsIn_fr ((hcall w rfl).mono ?_)
      rintro e w' ⟨v, rfl, hs, hk⟩
      exact hn v w' hs hk
    · obtain ⟨f, tmps, assign, body, hy, hr⟩ := hcall w rfl
      have hrun : (execOp (ev (envOf a)) o).run P w = .ok (.round l f tmps assign body) w := by
        have e : (fi.toList ++ c.args.toList.map (ev (envOf a))).toArray = fi ++ Array.map (ev (envOf a)) c.args := by apply Array.ext'; simp
        rw [e] at hy
        simp only [execOp, ho, resolve, hc, hx, Deferred.ofValue, Sem.run_bind, Sem.run_pure, Result.andThen_ok, invoke, hy]
      rw [← eval_envOf] at hrun
      have hs := hsem _ hrun (by simp) (by simp)
      show o.uponIn (Fr ro) m P a next Q ((o.semAt ro a.eval).run P w)
      rw [hs, Oper.uponIn_round]
      refine ⟨fun h => (by cases h), ?_⟩
      have hr' : RoundIn (Fr ro) (m - 1) P l f tmps assign body w fun e w' => ∃ v, e = .returned v ∧ Same w w' ∧ k v w'.heap := ⟨trivial, fun c cs _ => hr.2 c cs (fun d hd => by cases hd)⟩
      refine hr'.mono ?_
      rintro e w' ⟨v, rfl, hs, hk⟩
      exact hn v w' hs hk
  · obtain ⟨n, w', hr, hs, hk⟩ := hraw w rfl
    rw [← eval_envOf] at hr
    have hs' := hsem _ hr (by rintro d w'; rcases hk with ⟨v, rfl, hk⟩ | ⟨rfl, hk⟩ <;> simp) (by simp)
    show o.uponIn (Fr ro) m P a next Q ((o.semAt ro a.eval).run P w)
    rw [hs']
    rcases hk with ⟨v, rfl, hk⟩ | ⟨rfl, hk⟩
    · exact hn v w' hs hk
    · exact hn undef w' hs hk

theorem step_wp {ro : Option Nat} {m : Nat} {P : Program} {q : Bool} {ops : Array Oper} {n i : Nat} {o : Oper} (hi : ops[i]? = some o) (hok : okOp n o = true) {a : Act} {w : World} (hsz : a.tmps.size = n) {K : Env → Heap → Prop} {next : Act → World → Prop} {Q : Exit → Act → World → Prop}
    (h : stepX P q ops o (envOf a) w.heap K) (hn : ∀ a' w', Same w w' → a'.tmps.size = n → a'.defers = a.defers → K (envOf a') w'.heap → next a' w') : wpOpIn (Fr ro) m P ops Q i next a w := by
  unfold wpOpIn
  simp only [hi]
  have hd : ∀ t, o.dst = some t → t < a.tmps.size := fun t ht => by rw [hsz]; exact okOp_dst hok t ht
  rcases h with ⟨ha, h⟩ | ⟨ha, h⟩
  · rw [act_wanted ha, if_pos rfl]
    refine op_wp h fun v w' hs hk => hn _ _ hs (by rw [put_size, hsz]) put_defers' ?_
    rw [envOf_put hd]; exact hk
  · rw [act_wanted ha, if_neg (by simp)]
    refine ⟨fun _ _ => trivial, ?_⟩
    refine hn _ _ (Same.rfl' w) (by rw [put_size, hsz]) put_defers' ?_
    rw [envOf_put hd]; exact h

def foldX (P : Program) (q : Bool) (ops : Array Oper) : List Oper → Env → Heap → (Env → Heap → Prop) → Prop
  | [], e, H, K => K e H
  | o :: r, e, H, K => stepX P q ops o e H fun e h => foldX P q ops r e h K

theorem foldX.mono {P : Program} {q : Bool} {ops : Array Oper} : ∀ {l : List Oper} {e : Env} {H : Heap} {K K' : Env → Heap → Prop}, foldX P q ops l e H K → (∀ e h, K e h → K' e h) → foldX P q ops l e H K'
  | [], _, _, _, _, h, hk => hk _ _ h
  | _ :: _, _, _, _, _, h, hk => stepX.mono h fun _ _ h => foldX.mono h hk

theorem fold_wpOps {ro : Option Nat} {m : Nat} {P : Program} {q : Bool} {ops : Array Oper} {n : Nat} {Q : Exit → Act → World → Prop} {K : Env → Heap → Prop} {w0 : World} {df : List Deferred} : ∀ (l : List Nat) (os : List Oper),
    os.length = l.length → (∀ (j i : Nat), l[j]? = some i → ∃ o, os[j]? = some o ∧ ops[i]? = some o ∧ okOp n o = true) → ∀ (a : Act) (w : World), a.tmps.size = n → a.defers = df → Same w0 w →
    foldX P q ops os (envOf a) w.heap K → (∀ a' w', Same w0 w' → a'.tmps.size = n → a'.defers = df → K (envOf a') w'.heap → Q .normal a' w') → wpOpsIn (Fr ro) m P ops Q l a w
  | [], os, hl, _, a, w, hsz, hdf, hsm, h, hq => by
    have : os = [] := List.length_eq_zero_iff.1 hl
    subst this
    exact hq a w hsm hsz hdf h
  | i :: l, os, hl, hos, a, w, hsz, hdf, hsm, h, hq => by
    obtain ⟨o, ho, hi, hok⟩ := hos 0 i rfl
    match os, ho with
    | o' :: os', ho =>
      simp only [List.getElem?_cons_zero, Option.some.injEq] at ho
      subst ho
      rw [wpOpsIn_cons]
      refine step_wp hi hok hsz h fun a' w' hs hs' hd' hk => ?_
      exact fold_wpOps l os' (by simpa using hl) (fun j i' hj => by simpa using hos (j + 1) i' (by simpa using hj)) a' w' hs' (hd'.trans hdf) (hsm.trans hs) hk hq

/- WHATEVER ORDER -/
def dirE (ops : Array Oper) (x y : Nat) : Prop := ∃ oy, ops[y]? = some oy ∧ ∃ g ∈ oy.after, Region.binds .any g = true ∧ g.on = x
/-- x comes ahead of y by the edges -/
inductive Anc (ops : Array Oper) : Nat → Nat → Prop
  | one {x y : Nat} : dirE ops x y → Anc ops x y
  | more {x y z : Nat} : Anc ops x y → dirE ops y z → Anc ops x z

theorem anc_listed {ops : Array Oper} {listed : Array Bool} (hcl : ∀ i, listed.getD i false = true → ∀ x, dirE ops x i → listed.getD x false = true) {i : Nat} (hi : ∀ x, dirE ops x i → listed.getD x false = true) {x : Nat} (h : Anc ops x i) : listed.getD x false = true := by
  have key : ∀ {x y : Nat}, Anc ops x y → listed.getD y false = true → listed.getD x false = true := by
    intro x y h
    induction h with
    | one h => exact fun hy => hcl _ hy _ h
    | more _ h2 ih => exact fun hz => ih (hcl _ hz _ h2)
  cases h with
  | one h => exact hi _ h
  | more h1 h2 => exact key h1 (hi _ h2)

/-- of two operations, x ahead of y: what is asked -/
structure Rel (P : Program) (ops : Array Oper) (rsl : Nat → List Nat) (x y : Nat) : Prop where
  fwd : Anc ops x y ∨ ∃ ox oy, ops[x]? = some ox ∧ ops[y]? = some oy ∧ swapOk P ops ox oy = true ∧
    (cls P ox.op = 1 → cls P oy.op ≠ 0 → cls P oy.op ≠ 1 → x ∈ rsl y ∧ ∃ d, ox.dst = some d ∧ d ∉ ox.looksAt ops)
  bwd : ¬ dirE ops y x
  stay : ∀ ox oy, ops[x]? = some ox → ops[y]? = some oy → cls P ox.op = 1 → ∀ d, oy.dst = some d → d ∉ ox.looksAt ops ∧ ox.dst ≠ some d

/-- what is read again behind i -/
def Ob (P : Program) (ops : Array Oper) (rsl : Nat → List Nat) (seen : List Nat) (i : Nat) (e : Env) (h : Heap) : Prop :=
  ∀ j, j ∈ rsl i → j ∈ seen → ∀ oj, ops[j]? = some oj → rc P oj e h
def foldS (P : Program) (ops : Array Oper) (rsl : Nat → List Nat) : List Nat → List Nat → Env → Heap → (Env → Heap → Prop) → Prop
  | _, [], e, H, K => K e H
  | seen, i :: l, e, H, K => match ops[i]? with
    | none => False
    | some o => stepC P ops o e H (Ob P ops rsl seen i) fun e' h' => foldS P ops rsl (i :: seen) l e' h' K

theorem foldS.less {P : Program} {ops : Array Oper} {rsl : Nat → List Nat} : ∀ {l seen seen' : List Nat} {e : Env} {H : Heap} {K : Env → Heap → Prop}, (∀ k, k ∈ seen' → k ∈ seen) → foldS P ops rsl seen l e H K → foldS P ops rsl seen' l e H K
  | [], _, _, _, _, _, _, h => h
  | i :: l, seen, seen', e, H, K, hs, h => by
    simp only [foldS] at h ⊢
    cases ho : ops[i]? with
    | none => simp [ho] at h
    | some o =>
      simp only [ho] at h ⊢
      exact stepC.mono h (fun e' h' a j hj hm => a j hj (hs j hm)) fun e' h' b => foldS.less (fun k hk => by
        rcases List.mem_cons.1 hk with rfl | hk
        · simp
        · simp [hs k hk]) b

theorem rc_put {P : Program} {ops : Array Oper} {j : Oper} {e : Env} {h : Heap} {d : Option Nat} {v : Value} (hd : ∀ t, d = some t → t ∉ j.looksAt ops ∧ j.dst ≠ some t) : rc P j (e.put d v) h ↔ rc P j e h := by
  unfold rc
  cases hj : j.dst with
  | none => exact Iff.rfl
  | some t =>
    simp only
    rw [opR_congr (ev_put (ops := ops) fun t ht => (hd t ht).1), put_ne (fun he => (hd t he).2 hj)]

theorem front {P : Program} {ops : Array Oper} {rsl : Nat → List Nat} {i : Nat} {o : Oper} (ho : ops[i]? = some o) (hsel : ∀ (x : Nat) (o : Oper), ops[x]? = some o → ∀ cs b, o.op ≠ .select cs b)
    (hrs : ∀ (x : Nat) (o : Oper), ops[x]? = some o → (cls P o.op = 0 ∨ cls P o.op = 1) → rsl x = []) (hrd : ∀ (x k : Nat) (ok : Oper), k ∈ rsl x → ops[k]? = some ok → cls P ok.op = 1) {post : List Nat} : ∀ {pre seen : List Nat},
    (∀ j ∈ pre, ¬ Anc ops j i) → (∀ j ∈ pre, Rel P ops rsl j i) → pre.Pairwise (Rel P ops rsl) → (∀ k ∈ seen, Rel P ops rsl k i ∧ ∀ j ∈ pre, Rel P ops rsl k j) →
    ∀ {e : Env} {H : Heap} {K : Env → Heap → Prop}, foldS P ops rsl seen (pre ++ i :: post) e H K → stepC P ops o e H (Ob P ops rsl seen i) fun e1 h1 => foldS P ops rsl seen (pre ++ post) e1 h1 K
  | [], seen, _, _, _, _, e, H, K, h => by
    simp only [List.nil_append, foldS, ho] at h
    exact stepC.mono h (fun _ _ a => a) fun e1 h1 b => foldS.less (fun k hk => by simp [hk]) b
  | j :: pre, seen, hna, hri, hpw, hseen, e, H, K, h => by
    simp only [List.cons_append, foldS] at h
    cases hj : ops[j]? with
    | none => simp [hj] at h
    | some oj =>
      simp only [hj] at h
      have hpc := List.pairwise_cons.1 hpw
      have h1 : stepC P ops oj e H (Ob P ops rsl seen j) fun e1 h1 => stepC P ops o e1 h1 (Ob P ops rsl (j :: seen) i) fun e2 h2 => foldS P ops rsl (j :: seen) (pre ++ post) e2 h2 K :=
        stepC.mono h (fun _ _ a => a) fun e1 h1 b => front ho hsel hrs hrd (fun x hx => hna x (by simp [hx])) (fun x hx => hri x (by simp [hx])) hpc.2 (fun k hk => by
          rcases List.mem_cons.1 hk with rfl | hk
          · exact ⟨hri k (by simp), fun x hx => hpc.1 x hx⟩
          · exact ⟨(hseen k hk).1, fun x hx => (hseen k hk).2 x (by simp [hx])⟩) b
      obtain ⟨ox, oy, e1, e2, hok, hre⟩ := (hri j (by simp)).fwd.resolve_left (hna j (by simp))
      rw [hj] at e1; cases e1
      rw [ho] at e2; cases e2
      have := swap (hsel j _ hj) (hsel i _ ho) hok (Ci' := Ob P ops rsl seen i) ?_ ?_ h1
      · refine stepC.mono this (fun _ _ a => a) fun e1 h1 b => ?_
        simp only [List.cons_append, foldS, hj]
        exact b
      · intro hi0
        refine ⟨fun e h k hk => by rw [hrs i _ ho (.inl hi0)] at hk; simp at hk, fun e h v hc k hk hm ok hok' => ?_⟩
        exact (rc_put (ops := ops) fun t ht => (hseen k hm).1.stay ok o hok' ho (hrd j k ok hk hok') t ht).2 (hc k hk hm ok hok')
      · intro hi0
        have hj1 : cls P oj.op = 0 ∨ cls P oj.op = 1 := by
          simp only [swapOk, Bool.and_eq_true] at hok
          rcases Bool.or_eq_true_iff.1 hok.2 with hh | hh
          · exact absurd (Nat.eq_of_beq_eq_true hh) hi0
          · exact ble1.1 hh
        refine ⟨fun e h k hk => by rw [hrs j _ hj hj1] at hk; simp at hk, fun e h v hc k hk hm ok hok' => ?_, fun hj1 hi1 => ?_⟩
        · exact (rc_put (ops := ops) fun t ht => ((hseen k hm).2 j (by simp)).stay ok oj hok' hj (hrd i k ok hk hok') t ht).1 (hc k hk (by simp [hm]) ok hok')
        · obtain ⟨hm, hd⟩ := hre hj1 hi0 hi1
          exact ⟨hd, fun e h hc => hc j hm (by simp) oj hj⟩

theorem fold_wpAny {ro : Option Nat} {m : Nat} {P : Program} {ops : Array Oper} {rsl : Nat → List Nat} {n : Nat} {Q : Exit → Act → World → Prop} {K : Env → Heap → Prop} {w0 : World} {df : List Deferred} (hokall : ∀ (i : Nat) (o : Oper), ops[i]? = some o → okOp n o = true) (hirr : ∀ (i : Nat) (o : Oper), ops[i]? = some o → ¬ ∃ g ∈ o.after, Region.binds .any g = true ∧ g.on = i)
    (hin : ∀ (i : Nat) (o : Oper), ops[i]? = some o → ∀ g ∈ o.after, Region.binds .any g = true → g.on < ops.size)
    (hrs : ∀ (x : Nat) (o : Oper), ops[x]? = some o → (cls P o.op = 0 ∨ cls P o.op = 1) → rsl x = []) (hrd : ∀ (x k : Nat) (ok : Oper), k ∈ rsl x → ops[k]? = some ok → cls P ok.op = 1) : ∀ (fuel : Nat) (R : List Nat) (listed : Array Bool) (a : Act) (w : World),
    R.length ≤ fuel → listed.size = ops.size → (∀ i, listed.getD i false = true → ∀ x, dirE ops x i → listed.getD x false = true) → (∀ i, i ∈ R ↔ i < ops.size ∧ listed.getD i true = false) → R.Pairwise (Rel P ops rsl) → R.Nodup → a.tmps.size = n → a.defers = df → Same w0 w →
    foldS P ops rsl [] R (envOf a) w.heap K → (∀ a' w', Same w0 w' → a'.tmps.size = n → a'.defers = df → K (envOf a') w'.heap → Q .normal a' w') → wpAnyIn (Fr ro) m P .any ops Q fuel listed a w := by
  have hready : ∀ (R : List Nat) (listed : Array Bool), listed.size = ops.size → (∀ i, i ∈ R ↔ i < ops.size ∧ listed.getD i true = false) → R.Pairwise (Rel P ops rsl) → Region.ready .any ops listed = [] → R = [] := by
    intro R listed hls hR hpw hr
    cases R with
    | nil => rfl
    | cons x R =>
      exfalso
      have hx := (hR x).1 (by simp)
      have : x ∈ Region.ready .any ops listed := by
        refine mem_ready.2 ⟨hx.2, ops[x], Array.getElem?_eq_getElem hx.1, fun g hg hb => ?_⟩
        have ho : ops[x]? = some ops[x] := Array.getElem?_eq_getElem hx.1
        have hlt := hin x _ ho g hg hb
        cases hl : listed.getD g.on false with
        | true => rfl
        | false =>
          exfalso
          have hl' : listed.getD g.on true = false := by
            simp only [Array.getD_eq_getD_getElem?] at hl ⊢
            rw [Array.getElem?_eq_getElem (by omega)] at hl ⊢
            simpa using hl
          have hm : g.on ∈ x :: R := (hR g.on).2 ⟨hlt, hl'⟩
          rcases List.mem_cons.1 hm with he | hm
          · exact hirr x _ ho ⟨g, hg, hb, he⟩
          · exact (List.rel_of_pairwise_cons hpw hm).bwd ⟨_, ho, g, hg, hb, rfl⟩
      rw [hr] at this
      simp at this
  intro fuel
  induction fuel with
  | zero =>
    intro R listed a w hlen hls hcl hR hpw hnd hsz hdf hsm h hq
    have : R = [] := List.length_eq_zero_iff.1 (by omega)
    subst this
    refine ⟨?_, hq a w hsm hsz hdf h⟩
    cases hr : Region.ready .any ops listed with
    | nil => rfl
    | cons x l =>
      exfalso
      have hx : x ∈ Region.ready .any ops listed := by rw [hr]; simp
      obtain ⟨h0, o, ho, _⟩ := mem_ready.1 hx
      have := (hR x).2 ⟨(Array.getElem?_eq_some_iff.1 ho).1, h0⟩
      simp at this
  | succ fuel ih =>
    intro R listed a w hlen hls hcl hR hpw hnd hsz hdf hsm h hq
    refine ⟨fun hr => ?_, fun i hi => ?_⟩
    · have := hready R listed hls hR hpw hr
      subst this
      exact hq a w hsm hsz hdf h
    · obtain ⟨h0, o, ho, hall⟩ := mem_ready.1 hi
      have hilt := (Array.getElem?_eq_some_iff.1 ho).1
      have hiR : i ∈ R := (hR i).2 ⟨hilt, h0⟩
      obtain ⟨pre, post, rfl⟩ := List.append_of_mem hiR
      have hna : ∀ j ∈ pre, ¬ Anc ops j i := by
        intro j hj hanc
        have hl : listed.getD j false = true := anc_listed hcl (fun x ⟨oy, hoy, g, hg, hb, hgo⟩ => by
          rw [ho] at hoy; cases hoy
          rw [← hgo]; exact hall g hg hb) hanc
        have hjR := (hR j).1 (by simp [hj])
        simp only [Array.getD_eq_getD_getElem?] at hl
        have := hjR.2
        simp only [Array.getD_eq_getD_getElem?] at this
        rw [Array.getElem?_eq_getElem (by omega)] at hl this
        simp_all
      have hpa := List.pairwise_append.1 hpw
      have h := front ho (fun x o hx => okOp_sel (hokall x o hx)) hrs hrd hna (fun j hj => hpa.2.2 j hj i (by simp)) hpa.1 (fun k hk => by simp at hk) h
      refine step_wp ho (hokall i o ho) hsz h.step fun a' w' hs hs' hd' hk => ?_
      have hnd' := hnd
      rw [List.nodup_append] at hnd'
      refine ih (pre ++ post) (listed.setIfInBounds i true) a' w' ?_ ?_ ?_ ?_ ?_ ?_ hs' (hd'.trans hdf) (hsm.trans hs) hk hq
      · simp at hlen ⊢; omega
      · simp [hls]
      · intro j hj x hx
        by_cases hji : j = i
        · subst hji
          obtain ⟨oy, hoy, g, hg, hb, hgo⟩ := hx
          rw [ho] at hoy; cases hoy
          rw [← hgo]
          exact getD_set_true (hall g hg hb)
        · rw [getD_set_ne false (Ne.symm hji)] at hj
          exact getD_set_true (hcl j hj x hx)
      · intro j
        by_cases hji : j = i
        · subst hji
          have : j ∉ pre ++ post := by
            intro hm
            rcases List.mem_append.1 hm with hm | hm
            · exact hnd'.2.2 j hm j (by simp) rfl
            · exact (List.nodup_cons.1 hnd'.2.1).1 hm
          simp only [this, false_iff, not_and]
          intro _
          simp [hls, hilt]
        · rw [getD_set_ne true (Ne.symm hji), ← hR j]
          simp [hji]
      · exact hpw.sublist (by simp)
      · exact hnd.sublist (by simp)

end Go.X
