/- build, append, copy, conversions between strings and bytes; then all operations together. -/
import Derived.Test.YtmhfanpijdgkjaaDoorXD
import Derived.Laws.Append
namespace Go.X

theorem foldl_put (off : Nat) : ∀ (vs : List Value) (k : Nat) (c : Array Value), off + k + vs.length ≤ c.size →
    (vs.zipIdx k).foldl (fun cs p => cs.setIfInBounds (off + p.2) p.1) c = (c.toList.take (off + k) ++ vs ++ c.toList.drop (off + k + vs.length)).toArray
  | [], k, c, _ => by simp
  | v :: vs, k, c, h => by
    have hl : off + (k + 1) + vs.length ≤ (c.setIfInBounds (off + k) v).size := by simp at h ⊢; omega
    simp only [List.zipIdx_cons, List.foldl_cons]
    rw [foldl_put off vs (k + 1) _ hl]
    have e := list_seg_step c.toList (off + k) v vs (by simp at h ⊢; omega)
    congr 1
    simpa [Array.toList_setIfInBounds, Nat.add_assoc] using e

theorem fill_of {place : Nat → Option (Nat × Nat)} : ∀ (ps : List (Nat × Value)) (c r : Array Value), bfill place c ps = some r → Instr.fill place c ps = some r
  | [], c, r, h => by simpa [bfill, Instr.fill] using h
  | (i, v) :: ps, c, r, h => by
    simp only [bfill] at h
    simp only [Instr.fill]
    cases hp : place i with
    | none => simp [hp] at h
    | some q =>
      obtain ⟨off, size⟩ := q
      simp only [hp] at h
      split at h
      · rename_i hc
        have e : v.cells.zipIdx.foldl (fun cs (x : Value × Nat) => cs.setIfInBounds (off + x.2) x.1) c = spl c off v.cells := by
          rw [← Array.foldl_toList, Array.toList_zipIdx, foldl_put off v.cells.toList 0 c (by simp; omega)]
          simp [spl]
        have hn : (decide (v.cells.size ≠ size) || decide (off + v.cells.size > c.size)) = false := by
          simp only [Bool.or_eq_false_iff, decide_eq_false_iff_not]
          omega
        simp only [hn, Bool.false_eq_true, if_false]
        rw [← fill_of ps _ r h]
        congr 1
      · cases h

theorem zcells_info {P : Program} {T : TypeId} {cs : Array Value} (h : zcells P T = some cs) : ∃ i z, P.info? T = some i ∧ i.zero = some z ∧ z.cells = cs := by
  unfold zcells at h
  cases hi : P.info? T with
  | none => simp [hi] at h
  | some i =>
    simp only [hi, Option.bind_some] at h
    cases hz : i.zero with
    | none => simp [hz] at h
    | some z => exact ⟨i, z, rfl, hz, by simpa [hz] using h⟩

theorem build_run {P : Program} {w : World} {T : TypeId} {parts : Array (Nat × Value)} {v : Value} (h : buildV P T parts.toList = some v) : (Instr.build T parts).run P w = .ok v w := by
  unfold buildV at h
  split at h
  · rename_i fs hu
    split at h
    · rename_i places hp
      cases hz : zcells P T with
      | none => simp [hz] at h
      | some z =>
        simp only [hz, Option.bind_some] at h
        cases hf : bfill (places.toArray[·]?) z parts.toList with
        | none => simp only [hf, Option.map_none, reduceCtorEq] at h
        | some r =>
          simp only [hf, Option.map_some, Option.some.injEq] at h
          subst h
          obtain ⟨i, zv, hi, hzv, rfl⟩ := zcells_info hz
          refine run_build w T parts r ?_
          unfold Program.built
          simp only [hi, hu, hzv, hp]
          exact fill_of _ _ _ hf
    · cases h
  · rename_i n e hu
    split at h
    · rename_i ie hie
      cases hz : zcells P T with
      | none => simp [hz] at h
      | some z =>
        simp only [hz, Option.bind_some] at h
        cases hf : bfill (fun j => some (j * ie.size, ie.size)) z parts.toList with
        | none => simp only [hf, Option.map_none, reduceCtorEq] at h
        | some r =>
          simp only [hf, Option.map_some, Option.some.injEq] at h
          subst h
          obtain ⟨i, zv, hi, hzv, rfl⟩ := zcells_info hz
          refine run_build w T parts r ?_
          unfold Program.built
          simp only [hi, hu, hzv, hie]
          exact fill_of _ _ _ hf
    · cases h
  · cases h

theorem bsl_run {P : Program} {w : World} {T e : TypeId} {len : Nat} {parts : Array (Nat × Value)} {cs : Array Value} (hu : P.underlying T = some (.slice e)) (h : bslV P e len parts.toList = some cs) :
    (Instr.buildSlice T len parts).run P w = .ok (.slice (some ⟨w.heap.size, 0, none⟩) len len) { w with heap := w.heap.push (.cells cs e (0, 0)) } := by
  unfold bslV at h
  split at h
  · cases h
  · rename_i hc
    cases hz : zcells P e with
    | none => simp [hz] at h
    | some z =>
      simp only [hz, Option.bind_some] at h
      split at h
      · rename_i hzs
        obtain ⟨i, zv, hi, hzv, rfl⟩ := zcells_info hz
        have hf := fill_of _ _ _ h
        have hle : ¬ (len * P.cellsOf e > 2 ^ 24) := by omega
        simp only [Instr.buildSlice, Sem.run_bind, run_und hu, Result.andThen_ok, run_size hi]
        rw [if_neg hle]
        by_cases h0 : len * P.cellsOf e = 0
        · rw [if_pos h0]
          rw [h0] at hf ⊢
          have e0 : zrow zv.cells 0 = Array.map (fun x => (#[] : Array Value)[x % (#[] : Array Value).size]!) (Array.range 0) := by simp [zrow]
          rw [e0] at hf
          simp only [Sem.run_bind, Sem.run_pure, Result.andThen_ok, hf, newRow, run_newObj]
        · rw [if_neg h0]
          have hzr : (zeroValue e).run P w = .ok zv w := by simp [zeroValue, run_info hi, hzv]
          simp only [Sem.run_bind, hzr, Result.andThen_ok, Sem.run_pure]
          unfold zrow at hf
          simp only [hf, newRow, Sem.run_bind, run_newObj, Result.andThen_ok, Sem.run_pure]
      · cases h

theorem len_of {P : Program} {w : World} {size n : Nat} {H : Heap} {x : Value} {new : Array Value} (h : elemsOf size H x = some (n, new)) : (Builtin.lenOf x).run P w = .ok n w := by
  cases x <;> simp only [elemsOf, reduceCtorEq] at h
  · split at h
    · simp only [Option.some.injEq, Prod.mk.injEq] at h
      simp [Builtin.lenOf, h.1]
    · cases h
  · rename_i a l c
    split at h
    · simp only [Option.some.injEq, Prod.mk.injEq] at h
      simp [Builtin.lenOf]; omega
    · split at h
      · split at h
        · split at h
          · simp only [Option.some.injEq, Prod.mk.injEq] at h
            simp [Builtin.lenOf, h.1]
          · cases h
        · cases h
      · cases h

theorem first_of {P : Program} {w : World} {size n m : Nat} {x : Value} {new : Array Value} (h : elemsOf size w.heap x = some (n, new)) (hm : m ≤ n) : (Builtin.firstCells size m x).run P w = .ok (new.extract 0 (m * size)) w := by
  have hms : m * size ≤ n * size := Nat.mul_le_mul_right _ hm
  cases x <;> simp only [elemsOf, reduceCtorEq] at h
  · rename_i s
    split at h
    · rename_i h1
      simp only [Option.some.injEq, Prod.mk.injEq] at h
      obtain ⟨rfl, rfl⟩ := h
      subst h1
      simp only [Builtin.firstCells, Sem.run_pure, Nat.mul_one]
      rw [ByteArray.data_extract, Array.map_extract]
    · cases h
  · rename_i a l c
    split at h
    · rename_i h0
      simp only [Option.some.injEq, Prod.mk.injEq] at h
      obtain ⟨rfl, rfl⟩ := h
      have hm0 : m = 0 := by omega
      subst hm0
      rcases a with _ | a
      · simp [Builtin.firstCells]
      · simp only [Builtin.firstCells, Nat.zero_mul]
        rw [run_load0]; rfl
    · split at h
      · split at h
        · rename_i c' t f hg
          split at h
          · rename_i hle
            simp only [Option.some.injEq, Prod.mk.injEq] at h
            obtain ⟨rfl, rfl⟩ := h
            simp only [Builtin.firstCells]
            rw [run_loadN hg (by omega)]
            congr 1
            apply Array.ext'
            simp [List.take_take, Nat.min_eq_left hms]
          · cases h
        · cases h
      · cases h

theorem elems_size {size n : Nat} {H : Heap} {x : Value} {new : Array Value} (h : elemsOf size H x = some (n, new)) : new.size = n * size := by
  cases x <;> simp only [elemsOf, reduceCtorEq] at h
  · rename_i s
    split at h
    · rename_i h1
      simp only [Option.some.injEq, Prod.mk.injEq] at h
      obtain ⟨rfl, rfl⟩ := h
      simp only [Array.size_map, h1, Nat.mul_one]
      rfl
    · cases h
  · rename_i a l c
    split at h
    · simp only [Option.some.injEq, Prod.mk.injEq] at h
      obtain ⟨rfl, rfl⟩ := h
      simp
    · split at h
      · split at h
        · split at h
          · simp only [Option.some.injEq, Prod.mk.injEq] at h
            obtain ⟨rfl, rfl⟩ := h
            simp; omega
          · cases h
        · cases h
      · cases h

theorem stA_run {P : Program} {w : World} {b o : Nat} {vs : Array Value} {H : Heap} (h : stA w.heap b o vs = some H) : (storeCells ⟨b, o, none⟩ vs.toList).run P w = .ok () { w with heap := H } := by
  unfold stA at h
  split at h
  · rename_i c t f hg
    split at h
    · rename_i hc
      cases h
      have hst := run_st (P := P) (b := b) (o := o) (T := t) (f := f) vs.toList 0 c w hg (by simp; omega) (by simpa using hc.2.1) (by
        intro v hv
        exact (Array.all_eq_true_iff_forall_mem.1 hc.2.2) v (by simpa using hv))
      rw [hst]
      simp [spl]
    · cases h
  · cases h

theorem app_raw {P : Program} {o : Oper} {ρ : Operand → Value} {H : Heap} {k : Value → Heap → Prop} {T U ty e : TypeId} {s x : Value}
    (hrun : ∀ w, (execOp ρ o).run P w = ((Builtin.append_ #[T, U] ty #[s, x]).run P w).andThen fun v w' => .ok (.value v) w')
    (hT : P.underlying T = some (.slice e)) (hU : P.underlying U = some .string ∨ ∃ e', P.underlying U = some (.slice e')) (hz : zokB P e = true)
    (h : Mapp e (P.cellsOf e) (P.bytesOf e) H s x k) : Mraw P o ρ H k := by
  obtain ⟨base, len, cap, n, new, rfl, hx, hone, hin, hgrow⟩ := h
  unfold zokB at hz
  cases hzc : zcells P e with
  | none => simp [hzc] at hz
  | some z =>
    simp only [hzc] at hz
    have hzs : z.size = P.cellsOf e := Nat.eq_of_beq_eq_true hz
    obtain ⟨i, zv, hi, hzv, hzcells⟩ := zcells_info hzc
    intro w hw
    subst hw
    have hlen := len_of (P := P) (w := w) hx
    have hnew := first_of (P := P) (w := w) hx (Nat.le_refl n)
    rw [show new.extract 0 (n * P.cellsOf e) = new from by rw [← elems_size hx]; simp] at hnew
    rcases hU with hU | ⟨e', hU⟩
    all_goals
      by_cases hle : len + n ≤ cap
      · have hin := hin hle
        rcases base with _ | ⟨b, off, _ | sp⟩
        · refine ⟨.value (.slice none (len + n) cap), w, ?_, Same.rfl' w, .inl ⟨_, rfl, hin⟩⟩
          rw [hrun]
          simp [Builtin.append_, run_und hT, run_size hi, run_und hU, hlen, hle, hnew]
        · obtain ⟨h', hst, hk⟩ := hin
          refine ⟨.value (.slice (some ⟨b, off, none⟩) (len + n) cap), { w with heap := h' }, ?_, ⟨rfl, rfl, rfl, stA_solid hst⟩, .inl ⟨_, rfl, hk⟩⟩
          rw [hrun]
          simp [Builtin.append_, run_und hT, run_size hi, run_und hU, hlen, hle, hnew, add_plain, stA_run hst]
        · exact hin.elim
      · obtain ⟨hb, hb0, old, hold, hk⟩ := hgrow (by omega)
        have hby : i.bytes = P.bytesOf e := by simp [Program.bytesOf, hi]
        have hfit := growslice_fits (need := len + n) (old := cap) (bytes := P.bytesOf e) (by omega) hb
        have h48 : ¬ (281474976710656 < Builtin.nextslicecap (len + n) cap * P.bytesOf e) := by omega
        have hnb : ¬ (P.bytesOf e = 0) := by omega
        have hoc := first_of (P := P) (w := w.drew) (m := len) (x := .slice base len cap) hold (Nat.le_refl _)
        rw [show old.extract 0 (len * P.cellsOf e) = old from by rw [← elems_size hold]; simp] at hoc
        have hnc := first_of (P := P) (w := w.drew) (m := n) hx (Nat.le_refl _)
        rw [show new.extract 0 (n * P.cellsOf e) = new from by rw [← elems_size hx]; simp] at hnc
        have hn63 : len + n < 2 ^ 63 := by
          have : (len + n) * 1 ≤ (len + n) * P.bytesOf e := Nat.mul_le_mul_left _ hb0
          omega
        refine ⟨.value (.slice (some ⟨w.heap.size, 0, none⟩) (len + n) (grownCap w (len + n) cap e)), { w.drew with heap := w.heap.push (.cells (old ++ new ++ Builtin.zeroCells zv.cells (grownCap w (len + n) cap e - (len + n))) e (0, 0)) }, ?_, ⟨rfl, rfl, rfl, Solid.push⟩, .inl ⟨_, rfl, ?_⟩⟩
        · rw [hrun]
          simp [Builtin.append_, run_und hT, run_size hi, run_und hU, hlen, hle, hby, run_info hi, hnb, h48, Question.forced, hoc, hnc, zeroValue, hzv, newRow, grownCap]
          rfl
        · refine hk _ _ ?_ ?_ ?_
          · simp [grownCap, Question.cut]
          · have hp : 0 < 2 ^ 63 - (len + n) := by omega
            have := Nat.mod_lt (w.tape w.drawn (.appendCap (len + n) cap e)) hp
            simp only [grownCap, Question.cut]
            omega
          · simp [Builtin.zeroCells, hzcells, hzs]

end Go.X
