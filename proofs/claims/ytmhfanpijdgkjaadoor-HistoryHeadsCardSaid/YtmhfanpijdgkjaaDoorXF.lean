/- copy, conversions between strings and bytes; then all operations together. -/
import Derived.Test.YtmhfanpijdgkjaaDoorXE
import Derived.Laws.BytesArg
namespace Go.X

theorem copy_raw {P : Program} {o : Oper} {ρ : Operand → Value} {H : Heap} {k : Value → Heap → Prop} {T U ty e : TypeId} {d s : Value} {i : TypeInfo}
    (hrun : ∀ w, (execOp ρ o).run P w = ((Builtin.copy_ #[T, U] ty #[d, s]).run P w).andThen fun v w' => .ok (.value v) w')
    (hT : P.underlying T = some (.slice e)) (hi : P.info? e = some i) (h : Mcopy (P.cellsOf e) H d s k) : Mraw P o ρ H k := by
  obtain ⟨n, new, base, len, cap, hs, rfl, hone, h⟩ := h
  intro w hw
  subst hw
  have hlen := len_of (P := P) (w := w) hs
  have hf := first_of (P := P) (w := w) (m := Nat.min n len) hs (Nat.min_le_left _ _)
  rcases base with _ | ⟨b, off, _ | sp⟩
  · refine ⟨.value (.int .i64 (Nat.min n len)), w, ?_, Same.rfl' w, .inl ⟨_, rfl, h⟩⟩
    rw [hrun]
    simp only [Builtin.copy_, List.getElem?_toArray, List.getElem?_cons_zero, List.getElem?_cons_succ, Sem.run_bind, run_und hT, Result.andThen_ok, hlen, run_size hi, hf, Sem.run_pure]
    rfl
  · obtain ⟨h', hst, hk⟩ := h
    refine ⟨.value (.int .i64 (Nat.min n len)), { w with heap := h' }, ?_, ⟨rfl, rfl, rfl, stA_solid hst⟩, .inl ⟨_, rfl, hk⟩⟩
    rw [hrun]
    simp only [Builtin.copy_, List.getElem?_toArray, List.getElem?_cons_zero, List.getElem?_cons_succ, Sem.run_bind, run_und hT, Result.andThen_ok, hlen, run_size hi, hf, stA_run hst, Sem.run_pure]
    rfl
  · exact h.elim

theorem bytesOf_map : ∀ {l : List Value} {bs : List UInt8}, bytesOf l = some bs → ∃ ns : List Int, l = ns.map (Value.int .u8) ∧ bs = ns.map fun n => UInt8.ofNat n.toNat
  | [], bs, h => by simp [bytesOf] at h; exact ⟨[], rfl, by simp [h]⟩
  | v :: l, bs, h => by
    unfold bytesOf at h
    split at h
    · rename_i e; cases e
    · rename_i n r e
      cases e
      cases hb : bytesOf l with
      | none => simp [hb] at h
      | some b =>
        simp only [hb, Option.map_some, Option.some.injEq] at h
        obtain ⟨ns, rfl, rfl⟩ := bytesOf_map hb
        exact ⟨n :: ns, rfl, by simp [← h]⟩
    · cases h

theorem b2s_run {P : Program} {w : World} {S D e : TypeId} (hs : P.underlying S = some (.slice e)) (he : P.underlying e = some (.int .u8)) (hd : P.underlying D = some .string) {x v : Value} (h : b2s w.heap x = some v) :
    (convert S D x).run P w = .ok v w := by
  unfold b2s at h
  split at h
  · rename_i a l c
    rw [run_convert_bytes_string w S D e a l c hs he hd]
    simp only [elemsOf] at h
    split at h
    · rename_i h0
      subst h0
      simp only [Option.bind_some, bytesOf, Option.map_some, Option.some.injEq] at h
      subst h
      rcases a with _ | a
      · rfl
      · have hl := run_load0 (P := P) (w := w) (a := a)
        have hl' : (loadCells a 0).run P w = .ok (([] : List Int).map (Value.int .u8)).toArray w := hl
        rw [run_bytesToString w _ _ _ [] hl']; rfl
    · split at h
      · rename_i b o
        split at h
        · rename_i cs t f hg
          split at h
          · rename_i hle
            simp only [Option.bind_some] at h
            cases hb : bytesOf (cs.extract o (o + l * 1)).toList with
            | none => simp only [hb, Option.map_none, reduceCtorEq] at h
            | some bs =>
              simp only [hb, Option.map_some, Option.some.injEq] at h
              subst h
              obtain ⟨ns, hns, rfl⟩ := bytesOf_map hb
              rw [Nat.mul_one] at hle hns
              have hl := run_loadN (P := P) hg hle
              have hns' : cs.extract o (o + l) = (ns.map (Value.int .u8)).toArray := by rw [← hns]
              rw [hns'] at hl
              rw [run_bytesToString w _ _ _ ns hl, foldl_push_bytes]
              simp only [ByteArray.data_empty, Array.empty_append]
          · simp at h
        · simp at h
      · simp at h
  · cases h

theorem s2b_raw {P : Program} {o : Oper} {ρ : Operand → Value} {H : Heap} {k : Value → Heap → Prop} {S D e : TypeId} {x : Value}
    (hrun : ∀ w, (execOp ρ o).run P w = ((convert S D x).run P w).andThen fun v w' => .ok (.value v) w')
    (hs : P.underlying S = some .string) (hd : P.underlying D = some (.slice e)) (he : P.underlying e = some (.int .u8)) (h : Ms2b e H x k) : Mraw P o ρ H k := by
  obtain ⟨str, rfl, hsz, hk⟩ := h
  intro w hw
  subst hw
  have hp : 0 < 2 ^ 63 - str.size := by omega
  have hm := Nat.mod_lt (w.tape w.drawn (.appendCap str.size 0 e)) hp
  have hk := hk (grownCap w str.size 0 e) (by simp [grownCap, Question.cut]) (by simp only [grownCap, Question.cut]; omega)
  have hsize : (Array.map (fun b : UInt8 => Value.int IntKind.u8 (b.toNat : Int)) str.data ++ Array.replicate (grownCap w str.size 0 e - str.size) (Value.int IntKind.u8 0)).size = grownCap w str.size 0 e := by
    have : str.data.size = str.size := rfl
    have hge : str.size ≤ grownCap w str.size 0 e := by simp [grownCap, Question.cut]
    simp [this]; omega
  generalize hc : Array.map (fun b : UInt8 => Value.int IntKind.u8 (b.toNat : Int)) str.data ++ Array.replicate (grownCap w str.size 0 e - str.size) (Value.int IntKind.u8 0) = cs at hsize hk
  refine ⟨.value (.slice (some ⟨w.heap.size, 0, none⟩) str.size (grownCap w str.size 0 e)), { w.drew with heap := w.heap.push (.cells cs e (grownCap w str.size 0 e, grownCap w str.size 0 e + 1)) }, ?_, ⟨rfl, rfl, rfl, Solid.push⟩, .inl ⟨_, rfl, hk⟩⟩
  rw [hrun]
  have hfr : ({ w.drew with heap := w.heap.push (.cells cs e (0, 0)) } : World).freeze ⟨w.heap.size, cs.size, none⟩ 1 = { w.drew with heap := w.heap.push (.cells cs e (cs.size, cs.size + 1)) } := by
    unfold World.freeze
    simp only [if_neg (by decide : ¬ (1 = 0))]
    congr 1
    apply Array.ext_getElem?
    intro j
    rw [Array.getElem?_modify]
    by_cases hj : w.heap.size = j
    · subst hj; simp
    · simp [hj, Array.getElem?_push, show j ≠ w.heap.size from fun h => hj h.symm]
  have hsh : ({ w.drew with heap := w.heap.push (.cells cs e (0, 0)) } : World).shape? w.heap.size = some (e, cs.size) := by
    simp [World.shape?]
  have hcv : (convert S D (.string str)).run P w = (Conv.stringToBytes e str).run P w := by
    simp [convert, run_und hs, run_und hd, run_und he]
  rw [hcv]
  unfold Conv.stringToBytes
  have hch : (choose (.appendCap str.size 0 e)).run P w = .ok (grownCap w str.size 0 e) w.drew := by
    simp [Question.forced, grownCap]
  simp only [Sem.run_bind, hch, Result.andThen_ok, hc, newRow, run_newObj, Sem.run_pure, markStringish, run_shape]
  have hsh' : World.shape? { heap := w.drew.heap.push (Obj.cells cs e (0, 0)), tape := w.drew.tape, drawn := w.drew.drawn, os := w.drew.os, output := w.drew.output } w.drew.heap.size = some (e, cs.size) := hsh
  rw [hsh']
  simp only [run_freeze, Result.andThen_ok]
  have hfr' : World.freeze { heap := w.drew.heap.push (Obj.cells cs e (0, 0)), tape := w.drew.tape, drawn := w.drew.drawn, os := w.drew.os, output := w.drew.output } ⟨w.drew.heap.size, cs.size, none⟩ 1 = _ := hfr
  rw [hfr', hsize]
  rfl

theorem andThen_assoc {α β γ : Type} (r : Result α) (f : α → World → Result β) (g : β → World → Result γ) : (r.andThen f).andThen g = r.andThen fun a w => (f a w).andThen g := by
  cases r <;> rfl

def CallOf (P : Program) (o : Oper) (ρ : Operand → Value) (H : Heap) (k : Value → Heap → Prop) : Prop :=
  (∃ c f, o.op = .call c ∧ c.callee = .value (.func f) ∧ hasBody P f = true ∧ HCalls P f (c.args.toList.map ρ) H k) ∨
  ∃ c x, o.op = .call c ∧ c.callee = .value x ∧ Mcallv P (ρ x) (c.args.toList.map ρ) H k

theorem pu_raw {P : Program} {o : Oper} {ρ : Operand → Value} {H : Heap} {k : Value → Heap → Prop} {r : Option Value} {s : Sem Value}
    (hrun : ∀ w, (execOp ρ o).run P w = (s.run P w).andThen fun v w' => .ok (.value v) w') (h : Mpu r fun v => k v H) (hr : ∀ v, r = some v → ∀ w : World, w.heap = H → s.run P w = .ok v w) : Mraw P o ρ H k := by
  obtain ⟨v, hv, hk⟩ := h
  exact value_raw (fun w hw => by rw [hrun, hr v hv w hw]; rfl) hk

theorem wr_raw {P : Program} {o : Oper} {ρ : Operand → Value} {H : Heap} {k : Value → Heap → Prop} {r : Option Heap} {s : Sem Unit}
    (hrun : ∀ w, (execOp ρ o).run P w = (s.run P w).andThen fun _ w' => .ok .skip w') (h : Mwr r fun h => k undef h) (hr : ∀ h, r = some h → ∀ w : World, w.heap = H → s.run P w = .ok () { w with heap := h }) (hs : ∀ h, r = some h → Solid H h) : Mraw P o ρ H k := by
  obtain ⟨v, hv, hk⟩ := h
  exact skip_raw_heap (fun w hw => by rw [hrun, hr v hv w hw]; rfl) hk (hs v hv)

theorem nw_raw {P : Program} {o : Oper} {ρ : Operand → Value} {H H' : Heap} {k : Value → Heap → Prop} {s : Sem Value} {v : Value}
    (hrun : ∀ w, (execOp ρ o).run P w = (s.run P w).andThen fun v w' => .ok (.value v) w') (hk : k v H') (hr : ∀ w : World, w.heap = H → s.run P w = .ok v { w with heap := H' }) (hs : Solid H H' := by first | exact Solid.push | exact Solid.rfl') : Mraw P o ρ H k :=
  value_raw_heap (fun w hw => by rw [hrun, hr w hw]; rfl) hk hs

theorem sm_raw {P : Program} {o : Oper} {ρ : Operand → Value} {H : Heap} {k : Value → Heap → Prop} {s : Sem Value}
    (hrun : ∀ w, (execOp ρ o).run P w = (s.run P w).andThen fun v w' => .ok (.value v) w') (h : Msem P s H k) : Mraw P o ρ H k := fun w hw => by
  obtain ⟨v, w', e, hs, hk⟩ := h w hw
  exact ⟨.value v, w', by rw [hrun, e]; rfl, hs, .inl ⟨v, rfl, hk⟩⟩

theorem infB_spec {P : Program} {T : TypeId} (h : infB P T = true) : ∃ i, P.info? T = some i := Option.isSome_iff_exists.1 h
theorem undB_spec {P : Program} {T : TypeId} (h : undB P T = true) : ∃ d, P.underlying T = some d := Option.isSome_iff_exists.1 h

theorem min_run {P : Program} {w : World} {A : Array TypeId} {T : TypeId} {l : List Value} {v : Value} (h : minV true l = some v) : (Builtin.min_ A T l.toArray).run P w = .ok v w := by
  unfold minV at h
  split at h
  · simp only [if_true, Option.some.injEq] at h
    subst h
    simp [Builtin.min_, Builtin.min2]
  · cases h

theorem max_run {P : Program} {w : World} {A : Array TypeId} {T : TypeId} {l : List Value} {v : Value} (h : minV false l = some v) : (Builtin.max_ A T l.toArray).run P w = .ok v w := by
  unfold minV at h
  split at h
  · simp only [Bool.false_eq_true, if_false, Option.some.injEq] at h
    subst h
    simp [Builtin.max_, Builtin.max2]
  · cases h

theorem bif_split {b : Bool} {p q : Prop} (h : bif b then p else q) : (b = true ∧ p) ∨ (b = false ∧ q) := by
  cases b
  · exact .inr ⟨rfl, h⟩
  · exact .inl ⟨rfl, h⟩

theorem array_pair {α : Type} {a : Array α} {x y : α} (h : a.toList = [x, y]) : a = #[x, y] := by
  obtain ⟨l⟩ := a; simp only at h; rw [h]
theorem array_one {α : Type} {a : Array α} {x : α} (h : a.toList = [x]) : a = #[x] := by
  obtain ⟨l⟩ := a; simp only at h; rw [h]

set_option maxHeartbeats 2000000 in
theorem opX_sound {P : Program} {q : Bool} {o : Oper} {ρ : Operand → Value} {H : Heap} {k : Value → Heap → Prop} (hfunc : ∀ f, ρ (.func f) = .func (.func f) #[] #[]) (h : opX P q o ρ H k) : CallOf P o ρ H k ∨ Mraw P o ρ H k := by
  unfold opX at h
  cases ho : o.op with
  | move x =>
    simp only [ho, opR] at h
    exact .inr (value_raw (fun w _ => by simp [execOp, ho]) h)
  | assign x =>
    simp only [ho, opR] at h
    exact .inr (value_raw (fun w _ => by simp [execOp, ho]) h)
  | pick c a b =>
    simp only [ho, opR] at h
    exact .inr (pu_raw (s := do pure (if ← asBool (ρ c) then ρ a else ρ b)) (fun w => by simp [execOp, ho, andThen_assoc]) h (fun v hv w _ => pick_run hv))
  | alloc T =>
    simp only [ho, opR] at h
    obtain ⟨cs, hc, hk⟩ := h
    exact .inr (nw_raw (s := Instr.alloc T true (.tuple #[])) (fun w => by simp [execOp, ho]) hk (fun w hw => by rw [alloc_run hc, hw]))
  | box T x =>
    simp only [ho, opR] at h
    obtain ⟨cs, hc, hk⟩ := h
    cases hc
    exact .inr (nw_raw (s := Instr.box T (ρ x)) (fun w => by simp [execOp, ho]) hk (fun w hw => by rw [box_run, hw]))
  | build T parts =>
    simp only [ho, opR] at h
    refine .inr (pu_raw (s := Instr.build T (parts.map fun (i, x) => (i, ρ x))) (fun w => by simp [execOp, ho]) h (fun v hv w _ => build_run ?_))
    rw [← hv]; simp
  | buildSlice T len parts =>
    simp only [ho, opR] at h
    cases hu : P.underlying T with
    | none => simp [hu] at h
    | some d =>
      cases d <;> simp only [hu] at h <;> first | exact h.elim | skip
      rename_i e
      obtain ⟨cs, hc, hk⟩ := h
      refine .inr (nw_raw (s := Instr.buildSlice T len (parts.map fun (i, x) => (i, ρ x))) (fun w => by simp [execOp, ho]) hk (fun w hw => ?_))
      rw [bsl_run (cs := cs) hu (by rw [← hc]; simp), hw]
  | load T a =>
    simp only [ho, opR] at h
    cases ha : aggB P T with
    | true =>
      simp only [ha, cond_true] at h
      exact .inr (pu_raw (s := Instr.loadAt T (ρ a)) (fun w => by simp [execOp, ho]) h (fun v hv w hw => loadN_raw ha hv w hw))
    | false =>
      cases hs : sclB P T with
      | true =>
        simp only [ha, hs, cond_true, cond_false] at h
        exact .inr (pu_raw (s := Instr.loadAt T (ρ a)) (fun w => by simp [execOp, ho]) h (fun v hv w hw => load1_raw (sclB_spec hs).1 ha hv w hw))
      | false => simp only [ha, hs, cond_false] at h
  | store T a x =>
    simp only [ho, opR] at h
    cases ha : aggB P T with
    | true =>
      simp only [ha, cond_true] at h
      exact .inr (wr_raw (s := Instr.storeAt T (ρ a) (ρ x)) (fun w => by simp [execOp, ho]) h (fun v hv w hw => storeN_raw ha hv w hw) (fun h e => stN_solid e))
    | false =>
      cases hs : sclB P T with
      | true =>
        simp only [ha, hs, cond_true, cond_false] at h
        exact .inr (wr_raw (s := Instr.storeAt T (ρ a) (ρ x)) (fun w => by simp [execOp, ho]) h (fun v hv w hw => store1_raw (sclB_spec hs).2.2 hv w hw) (fun h e => st1_solid e))
      | false => simp only [ha, hs, cond_false] at h
  | nilCheck x =>
    simp only [ho, opR] at h
    obtain ⟨v, hv, hk⟩ := h
    exact .inr (value_raw (fun w _ => nck_run ho hv) hk)
  | binOp op T x y yT =>
    simp only [ho, opR] at h
    exact .inr (pu_raw (s := do eqGuard op T x y (ρ x) (ρ y); binOp op T (ρ x) (ρ y)) (fun w => by simp [execOp, ho, andThen_assoc]) h (fun v hv w _ => bin_run hv))
  | unOp op T x =>
    simp only [ho, opR] at h
    exact .inr (pu_raw (s := Op.unary op (ρ x)) (fun w => by simp [execOp, ho]) h (fun v hv w _ => un_run hv))
  | convert s d x =>
    simp only [ho, opR] at h
    have hrun : ∀ w, (execOp ρ o).run P w = ((convert s d (ρ x)).run P w).andThen fun v w' => .ok (.value v) w' := fun w => by simp [execOp, ho]
    split at h
    all_goals (rename_i heq; split at heq)
    all_goals (try split at heq)
    all_goals (first | (cases heq; done) | skip)
    all_goals first
      | exact .inr h
      | exact h.elim
      | (cases heq; exact .inr (sm_raw hrun h))
      | skip
    · rename_i ks kd hs hd
      cases heq
      refine .inr (pu_raw hrun h (fun v hv w _ => ?_))
      unfold cvI at hv
      split at hv
      · rename_i k' n e
        cases hv
        rw [e]
        simp [convert, run_und hs, run_und hd, Conv.intToInt]
      · cases hv
    · rename_i hs hd
      cases heq
      refine .inr (pu_raw hrun h (fun v hv w _ => ?_))
      unfold idS at hv
      split at hv
      · rename_i st e
        cases hv
        rw [e]
        simp [convert, run_und hs, run_und hd]
      · cases hv
    · rename_i e hs hd _ he
      cases heq
      exact .inr (pu_raw hrun h (fun v hv w hw => b2s_run hs he hd (by rw [hw]; exact hv)))
    · rename_i e hs hd _ he
      cases heq
      exact .inr (s2b_raw hrun hs hd he h)
  | makeFunc fn a b =>
    simp only [ho, opR] at h
    exact .inr (value_raw (fun w _ => by simp [execOp, ho, Instr.makeFunc]) h)
  | slice T x lo hi mx =>
    simp only [ho, opR] at h
    cases hu : P.underlying T with
    | none => simp only [hu] at h; exact .inr h
    | some d =>
      cases d <;> simp only [hu] at h <;> first | exact .inr h | skip
      · cases mx with
        | some _ => simp at h
        | none =>
          simp only [Option.isNone_none, cond_true] at h
          exact .inr (pu_raw (s := Instr.sliceAt T (ρ x) (lo.map ρ) (hi.map ρ) none) (fun w => by simp [execOp, ho]) h (fun v hv w _ => slT_run hu hv))
      · rename_i e
        cases he : infB P e <;> simp only [he, cond_true, cond_false] at h
        exact .inr (pu_raw (s := Instr.sliceAt T (ρ x) (lo.map ρ) (hi.map ρ) (mx.map ρ)) (fun w => by simp [execOp, ho]) h (fun v hv w _ => slS_run hu (infB_spec he) hv))
      · rename_i n e
        cases he : infB P e <;> simp only [he, cond_true, cond_false] at h
        exact .inr (pu_raw (s := Instr.sliceAt T (ρ x) (lo.map ρ) (hi.map ρ) (mx.map ρ)) (fun w => by simp [execOp, ho]) h (fun v hv w _ => slA_run hu (infB_spec he) hv))
  | fieldAddr S x f =>
    simp only [ho, opR] at h
    cases hu : P.underlying S with
    | none => simp [hu] at h
    | some d =>
      cases d <;> simp only [hu] at h <;> first | exact h.elim | skip
      rename_i fs
      cases hf : fs[f]? with
      | none => simp [hf] at h
      | some fd =>
        simp only [hf] at h
        cases hz : Nat.beq (P.cellsOf fd.type) 0 with
        | true => simp only [hz, cond_true] at h; exact .inr h
        | false =>
          simp only [hz, cond_false] at h
          exact .inr (pu_raw (s := Instr.fieldAt S (ρ x) f) (fun w => by simp [execOp, ho]) h (fun v hv w _ => fld_run hu hf (fun e => by rw [e] at hz; cases hz) hv))
  | field S x f =>
    simp only [ho, opR] at h
    cases hu : P.underlying S with
    | none => simp [hu] at h
    | some d =>
      cases d <;> simp only [hu] at h <;> first | exact h.elim | skip
      rename_i fs
      cases hf : fs[f]? with
      | none => simp [hf] at h
      | some fd =>
        simp only [hf] at h
        cases hd : undB P fd.type <;> simp only [hd, cond_true, cond_false] at h
        obtain ⟨d, hd⟩ := undB_spec hd
        refine .inr (pu_raw (s := Instr.field S (ρ x) f) (fun w => by simp [execOp, ho]) h (fun v hv w _ => ?_))
        cases hx : ρ x <;> rw [hx] at hv <;> simp only [partV, reduceCtorEq] at hv
        rename_i cs
        have := part_run (P := P) (w := w) hd (off := fd.offset) (cs := cs) (v := v) (by simpa only [partV] using hv)
        simp [Instr.field, run_und hu, hf, asAgg, this]
  | indexAddr T x i =>
    simp only [ho, opR] at h
    cases hu : P.underlying T with
    | none => simp [hu] at h
    | some d =>
      cases d <;> simp only [hu] at h <;> first | exact h.elim | skip
      · rename_i e
        cases he : infB P e <;> simp only [he, cond_true, cond_false] at h
        exact .inr (pu_raw (s := Instr.indexAt T (ρ x) (ρ i)) (fun w => by simp [execOp, ho]) h (fun v hv w _ => ixS_run hu (infB_spec he) hv))
      · rename_i n e
        cases he : infB P e <;> simp only [he, cond_true, cond_false] at h
        exact .inr (pu_raw (s := Instr.indexAt T (ρ x) (ρ i)) (fun w => by simp [execOp, ho]) h (fun v hv w _ => ixA_run hu (infB_spec he) hv))
  | index T x i =>
    simp only [ho, opR] at h
    cases hu : P.underlying T with
    | none => simp [hu] at h
    | some d =>
      cases d <;> simp only [hu] at h <;> first | exact h.elim | skip
      · exact .inr (pu_raw (s := Instr.index T (ρ x) (ρ i)) (fun w => by simp [execOp, ho]) h (fun v hv w _ => ixT_run hu hv))
      · rename_i n e
        cases he : undB P e <;> simp only [he, cond_true, cond_false] at h
        obtain ⟨d, he⟩ := undB_spec he
        exact .inr (pu_raw (s := Instr.index T (ρ x) (ρ i)) (fun w => by simp [execOp, ho]) h (fun v hv w _ => ixV_run hu he hv))
  | makeInterface T x =>
    simp only [ho, opR] at h
    exact .inr (pu_raw (s := Instr.makeInterface T (ρ x)) (fun w => by simp [execOp, ho]) h (fun v hv w _ => by
      unfold mkI at hv
      split at hv
      · cases hv
      · rename_i d hd hu
        cases hv
        unfold Instr.makeInterface
        simp only [Sem.run_bind, run_und hu, Result.andThen_ok]
        cases d <;> first | exact (hd _ hu).elim | rfl
      · cases hv))
  | panic x => simp only [ho, opR] at h
  | makeSlice T l c =>
    simp only [ho, opR] at h
    cases hu : P.underlying T with
    | none => simp [hu] at h
    | some d =>
      cases d <;> simp only [hu] at h <;> first | exact h.elim | skip
      rename_i e
      obtain ⟨kl, kc, n, m, z, hl, hc, hnm, hb, hm, hz, hinf, hk⟩ := h
      obtain ⟨i, hi⟩ := Option.isSome_iff_exists.1 hinf
      obtain ⟨zv, hzv, rfl⟩ : ∃ zv, i.zero = some zv ∧ zv.cells = z := by
        simpa [zcells, hi] using hz
      have hbe : P.bytesOf e = i.bytes := by simp [Program.bytesOf, hi]
      have hse : P.cellsOf e = i.size := by simp [Program.cellsOf, hi]
      refine .inr (nw_raw (s := Instr.makeSlice T (ρ l) (ρ c)) (fun w => by simp [execOp, ho]) hk (fun w hw => ?_))
      rw [hl, hc, run_make w T e i zv hu hi hzv kl kc n m (by omega) (by omega) (by
        rw [hbe] at hb
        have e1 : (i.bytes : Int) * (m : Int) = ((m * i.bytes : Nat) : Int) := by rw [Int.natCast_mul, Int.mul_comm]
        rw [e1]; exact Int.ofNat_le.2 hb) (by omega), hse, ← hw]
      rfl
  | extract x i =>
    simp only [ho, opR] at h
    exact .inr (pu_raw (s := Instr.extract (ρ x) i) (fun w => by simp [execOp, ho]) h (fun v hv w _ => ext_run hv))
  | call c =>
    simp only [ho, opR] at h
    cases hc : c.callee with
    | value x =>
      cases x <;> simp only [hc] at h <;> first | exact .inr h | skip
      case tmp t =>
        cases q
        · exact .inl (.inr ⟨c, .tmp t, ho, hc, h⟩)
        · exact .inl (.inr ⟨c, .tmp t, ho, hc, Mcallv.mono (R := fun v h => Ext H h ∧ k v h) h fun _ _ h => h.2⟩)
      case const t =>
        cases q
        · exact .inl (.inr ⟨c, .const t, ho, hc, h⟩)
        · exact .inl (.inr ⟨c, .const t, ho, hc, Mcallv.mono (R := fun v h => Ext H h ∧ k v h) h fun _ _ h => h.2⟩)
      rename_i f
      cases hb : hasBody P f with
      | false =>
        simp only [hb, cond_false] at h
        cases hx : extFn P f with
        | none => simp only [hx, Option.isSome_none, cond_false] at h; exact .inr h
        | some e =>
          simp only [hx, Option.isSome_some, cond_true] at h
          refine .inr (sm_raw (fun w => ?_) h)
          have hv : ∀ args, xtV P f args = e args := fun args => by simp only [xtV, hx]
          rw [hv]
          unfold extFn at hx
          cases hf : P.funcs[f]? with
          | none => rw [hf] at hx; cases hx
          | some fn =>
            rw [hf] at hx
            simp only at hx
            cases hcnd : (fn.body.isNone && (fn.name != "runtime.NumGoroutine") && (Extern.findNext fn).isNone) with
            | false => rw [hcnd] at hx; cases hx
            | true =>
              rw [hcnd] at hx
              simp only [cond_true] at hx
              simp only [Bool.and_eq_true, bne_iff_ne, ne_eq, Option.isNone_iff_eq_none] at hcnd
              have hnm : (fn.name == "runtime.NumGoroutine") = false := by simpa using hcnd.1.2
              have e1 : (List.map ρ c.args.toList).toArray = Array.map ρ c.args := by apply Array.ext'; simp
              rw [e1]
              simp [execOp, ho, resolve, hc, Deferred.ofValue, invoke, callFunc, hf, hnm, hcnd.1.1, hcnd.2, hx, hfunc]
              intro hn; exact absurd hn hcnd.1.2
      | true =>
        simp only [hb, cond_true] at h
        cases q
        · exact .inl (.inl ⟨c, f, ho, hc, hb, h⟩)
        · exact .inl (.inl ⟨c, f, ho, hc, hb, HCalls.mono (R := fun v h => Ext H h ∧ k v h) h fun _ _ h => h.2⟩)
    | invoke r m => simp only [hc] at h; exact .inr h
    | builtin b =>
      cases b <;> simp only [hc] at h <;> first | exact .inr h | skip
      case unsafeSliceData =>
        cases hl : c.args.toList with
        | nil => simp only [hl] at h; exact .inr h
        | cons x r => cases r with
          | cons y r => simp only [hl] at h; exact .inr h
          | nil =>
            simp only [hl] at h
            refine .inr (pu_raw (s := Builtin.unsafeSliceData_ c.argTypes o.type (c.args.map ρ)) (fun w => by simp [execOp, ho, resolve, hc, invoke, builtin]) h (fun v hv w _ => ?_))
            rw [array_one hl]
            rw [show Array.map ρ #[x] = #[ρ x] from by simp]
            unfold usd at hv
            split at hv
            · rename_i e; cases hv; rw [e]; rfl
            · rename_i a len cc e
              split at hv
              · rename_i hc0
                cases hv
                rw [e]
                change ((if cc ≠ 0 then pure (.pointer (some a)) else _ : Sem Value)).run P w = _
                rw [if_pos hc0]; rfl
              · cases hv
            · cases hv
      case unsafeString =>
        have e1 : (List.map ρ c.args.toList).toArray = Array.map ρ c.args := by apply Array.ext'; simp
        have h : Msem P (Builtin.unsafeString_ c.argTypes o.type (c.args.map ρ)) H k := by rw [← e1]; exact h
        exact .inr (sm_raw (fun w => by simp [execOp, ho, resolve, hc, invoke, builtin]) h)
      case min => exact .inr (pu_raw (s := Builtin.min_ c.argTypes o.type (c.args.map ρ)) (fun w => by simp [execOp, ho, resolve, hc, invoke, builtin]) h (fun v hv w _ => by
        have := min_run (P := P) (w := w) (A := c.argTypes) (T := o.type) hv
        rwa [show (List.map ρ c.args.toList).toArray = c.args.map ρ from by apply Array.ext'; simp] at this))
      case max => exact .inr (pu_raw (s := Builtin.max_ c.argTypes o.type (c.args.map ρ)) (fun w => by simp [execOp, ho, resolve, hc, invoke, builtin]) h (fun v hv w _ => by
        have := max_run (P := P) (w := w) (A := c.argTypes) (T := o.type) hv
        rwa [show (List.map ρ c.args.toList).toArray = c.args.map ρ from by apply Array.ext'; simp] at this))
      case len =>
        by_cases hsh : ∃ T x, c.argTypes.toList = [T] ∧ c.args.toList = [x]
        · obtain ⟨T, x, e1, e2⟩ := hsh
          simp only [e1, e2] at h
          replace e1 := array_one e1
          replace e2 := array_one e2
          have hrun : ∀ w, (execOp ρ o).run P w = ((Builtin.len_ #[T] o.type #[ρ x]).run P w).andThen fun v w' => .ok (.value v) w' := fun w => by simp [execOp, ho, resolve, hc, e1, e2, invoke, builtin]
          cases hu : P.underlying T with
          | none => simp only [hu] at h; exact .inr h
          | some d =>
            cases d <;> simp only [hu] at h <;> first | exact .inr h | skip
            · refine .inr (pu_raw hrun h (fun v hv w _ => ?_))
              cases hx : ρ x <;> rw [hx] at hv <;> simp only [lenT, reduceCtorEq, Option.some.injEq] at hv
              subst hv; simp [Builtin.len_, run_und hu, goInt]
            · refine .inr (pu_raw hrun h (fun v hv w _ => ?_))
              cases hx : ρ x <;> rw [hx] at hv <;> simp only [lenV, reduceCtorEq, Option.some.injEq] at hv
              subst hv; simp [Builtin.len_, run_und hu, goInt]
            · exact .inr (nw_raw hrun h (fun w hw => by subst hw; simp [Builtin.len_, run_und hu, goInt]))
        · refine .inr ?_
          split at h
          all_goals (rename_i heq; split at heq)
          all_goals first | (cases heq; done) | exact h | (exfalso; rename_i e1 e2; exact hsh ⟨_, _, e1, e2⟩)
      case cap =>
        by_cases hsh : ∃ T x, c.argTypes.toList = [T] ∧ c.args.toList = [x]
        · obtain ⟨T, x, e1, e2⟩ := hsh
          simp only [e1, e2] at h
          replace e1 := array_one e1
          replace e2 := array_one e2
          have hrun : ∀ w, (execOp ρ o).run P w = ((Builtin.cap_ #[T] o.type #[ρ x]).run P w).andThen fun v w' => .ok (.value v) w' := fun w => by simp [execOp, ho, resolve, hc, e1, e2, invoke, builtin]
          cases hu : P.underlying T with
          | none => simp only [hu] at h; exact .inr h
          | some d =>
            cases d <;> simp only [hu] at h <;> first | exact .inr h | skip
            refine .inr (pu_raw hrun h (fun v hv w _ => ?_))
            cases hx : ρ x <;> rw [hx] at hv <;> simp only [capV, reduceCtorEq, Option.some.injEq] at hv
            subst hv; simp [Builtin.cap_, run_und hu, goInt]
        · refine .inr ?_
          split at h
          all_goals (rename_i heq; split at heq)
          all_goals first | (cases heq; done) | exact h | (exfalso; rename_i e1 e2; exact hsh ⟨_, _, e1, e2⟩)
      case append =>
        by_cases hsh : ∃ T U s x, c.argTypes.toList = [T, U] ∧ c.args.toList = [s, x]
        · obtain ⟨T, U, s, x, e1, e2⟩ := hsh
          simp only [e1, e2] at h
          replace e1 := array_pair e1
          replace e2 := array_pair e2
          have hrun : ∀ w, (execOp ρ o).run P w = ((Builtin.append_ #[T, U] o.type #[ρ s, ρ x]).run P w).andThen fun v w' => .ok (.value v) w' := fun w => by simp [execOp, ho, resolve, hc, e1, e2, invoke, builtin]
          cases hT : P.underlying T with
          | none => simp only [hT] at h; exact .inr h
          | some d =>
            cases d <;> simp only [hT] at h <;> first | exact .inr h | skip
            rename_i e
            cases hU : P.underlying U with
            | none => simp only [hU] at h; exact .inr h
            | some d' =>
              cases d' <;> simp only [hU] at h <;> first | exact .inr h | skip
              · cases hz : zokB P e <;> simp only [hz, cond_true, cond_false] at h
                exact .inr (app_raw hrun hT (.inl hU) hz h)
              · rename_i e'
                cases hz : zokB P e <;> simp only [hz, cond_true, cond_false] at h
                exact .inr (app_raw hrun hT (.inr ⟨e', hU⟩) hz h)
        · refine .inr ?_
          split at h
          all_goals (rename_i heq; split at heq)
          all_goals first | (cases heq; done) | exact h | (exfalso; rename_i e1 e2; exact hsh ⟨_, _, _, _, e1, e2⟩)
      case copy =>
        by_cases hsh : ∃ T U s x, c.argTypes.toList = [T, U] ∧ c.args.toList = [s, x]
        · obtain ⟨T, U, s, x, e1, e2⟩ := hsh
          simp only [e1, e2] at h
          replace e1 := array_pair e1
          replace e2 := array_pair e2
          have hrun : ∀ w, (execOp ρ o).run P w = ((Builtin.copy_ #[T, U] o.type #[ρ s, ρ x]).run P w).andThen fun v w' => .ok (.value v) w' := fun w => by simp [execOp, ho, resolve, hc, e1, e2, invoke, builtin]
          cases hT : P.underlying T with
          | none => simp only [hT] at h; exact .inr h
          | some d =>
            cases d <;> simp only [hT] at h <;> first | exact .inr h | skip
            rename_i e
            cases hz : infB P e <;> simp only [hz, cond_true, cond_false] at h
            obtain ⟨i, hi⟩ := infB_spec hz
            exact .inr (copy_raw hrun hT hi h)
        · refine .inr ?_
          split at h
          all_goals (rename_i heq; split at heq)
          all_goals first | (cases heq; done) | exact h | (exfalso; rename_i e1 e2; exact hsh ⟨_, _, _, _, e1, e2⟩)
  | _ => simp only [ho, opR] at h; exact .inr h

end Go.X
