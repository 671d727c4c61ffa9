/- Each heap-level operation is what the model runs. -/
import Derived.Test.YtmhfanpijdgkjaaDoorXA
import Derived.Laws.StructEq
import Derived.Laws.Unary
import Derived.Laws.Slices
namespace Go.X

theorem add_plain (b o n : Nat) : (⟨b, o, none⟩ : Addr).add n = ⟨b, o + n, none⟩ := by
  unfold Addr.add; split <;> simp_all

theorem cell_of {w : World} {b : Nat} {c : Array Value} {T : TypeId} {f : Nat × Nat} (h : w.heap[b]? = some (.cells c T f)) (o : Nat) : w.cell? ⟨b, o, none⟩ = c[o]? := by
  simp [World.cell?, h]

theorem run_info {P : Program} {T : TypeId} {i : TypeInfo} (h : P.info? T = some i) (w : World) : (typeInfo T).run P w = .ok i w := by
  simp [typeInfo, h]

theorem run_und {P : Program} {T : TypeId} {d : TypeDesc} (h : P.underlying T = some d) (w : World) : (underlying T).run P w = .ok d w := by
  simp [underlying, h]

theorem und_info {P : Program} {T : TypeId} {d : TypeDesc} (h : P.underlying T = some d) : ∃ i, P.info? T = some i := by
  unfold Program.underlying at h
  cases hi : P.info? T with
  | none => simp [hi] at h
  | some i => exact ⟨i, rfl⟩

theorem cells_info {P : Program} {T : TypeId} (h : P.cellsOf T ≠ 0) : ∃ i, P.info? T = some i ∧ i.size = P.cellsOf T := by
  unfold Program.cellsOf at *
  cases hi : P.info? T with
  | none => simp [hi] at h
  | some i => exact ⟨i, rfl, by simp⟩

theorem run_size {P : Program} {T : TypeId} {i : TypeInfo} (h : P.info? T = some i) (w : World) : (sizeOf T).run P w = .ok (P.cellsOf T) w := by
  simp [sizeOf, run_info h, Program.cellsOf, h]

theorem run_isAgg {P : Program} {T : TypeId} {d : TypeDesc} (h : P.underlying T = some d) (w : World) : (isAgg T).run P w = .ok (aggB P T) w := by
  unfold isAgg aggB
  rw [Sem.run_bind, run_und h w, h]
  cases d <;> simp

theorem aggB_und {P : Program} {T : TypeId} (h : aggB P T = true) : ∃ d, P.underlying T = some d := by
  unfold aggB at h
  cases hu : P.underlying T with
  | none => simp [hu] at h
  | some d => exact ⟨d, rfl⟩

theorem run_load0 {P : Program} {w : World} {a : Addr} : (loadCells a 0).run P w = .ok #[] w := run_loadCells_list (P := P) w a [] (fun j v hv => by cases hv)
theorem run_loadN {P : Program} {w : World} {b o n : Nat} {c : Array Value} {T : TypeId} {f : Nat × Nat} (h : w.heap[b]? = some (.cells c T f)) (hn : o + n ≤ c.size) :
    (loadCells ⟨b, o, none⟩ n).run P w = .ok (c.extract o (o + n)) w := by
  have hl := run_loadCells_list (P := P) w ⟨b, o, none⟩ (c.extract o (o + n)).toList (fun j v hv => by
    rw [add_plain, cell_of h]
    have hj : j < n := by
      have := (List.getElem?_eq_some_iff.1 hv).1
      simp at this; omega
    rw [Array.getElem?_toList, Array.getElem?_extract] at hv
    rw [if_pos (by omega)] at hv
    exact hv)
  have e : (c.extract o (o + n)).toList.length = n := by simp; omega
  rw [e] at hl
  rw [hl]

theorem run_st {P : Program} {b o : Nat} {T : TypeId} {f : Nat × Nat} : ∀ (vs : List Value) (i : Nat) (c : Array Value) (w : World), w.heap[b]? = some (.cells c T f) → o + i + vs.length ≤ c.size →
    thaw f (o + i) vs.length = true → (∀ v ∈ vs, v.oneCell' = true) →
    (storeCells ⟨b, o, none⟩ vs i).run P w = .ok () { w with heap := w.heap.setIfInBounds b (.cells (c.toList.take (o + i) ++ vs ++ c.toList.drop (o + i + vs.length)).toArray T f) }
  | [], i, c, w, hg, _, _, _ => by
    have hb := (Array.getElem?_eq_some_iff.1 hg)
    obtain ⟨hb1, hb2⟩ := hb
    simp only [storeCells, List.append_nil, List.length_nil, Nat.add_zero, List.take_append_drop, Array.toArray_toList]
    have : w.heap.setIfInBounds b (.cells c T f) = w.heap := by
      apply Array.ext_getElem?
      intro k
      rw [Array.getElem?_setIfInBounds]
      split
      · rename_i e; subst e; simp [hb1, hb2]
      · rfl
    rw [this]
    rfl
  | v :: rest, i, c, w, hg, hl, hz, h1 => by
    have hi : o + i < c.size := by simp at hl; omega
    have hb1 := (Array.getElem?_eq_some_iff.1 hg).1
    have hfro : w.frozen? ⟨b, o + i, none⟩ = false := by
      simp only [World.frozen?, hg]
      simp only [thaw, List.length_cons, Bool.or_eq_true, decide_eq_true_eq] at hz
      simp only [Bool.and_eq_false_iff, decide_eq_false_iff_not]
      omega
    have hset : w.setCell ⟨b, o + i, none⟩ v = { w with heap := w.heap.setIfInBounds b (.cells (c.setIfInBounds (o + i) v) T f) } := by
      unfold World.setCell
      congr 1
      apply Array.ext_getElem?
      intro k
      rw [Array.getElem?_modify, Array.getElem?_setIfInBounds]
      split
      · rename_i e; subst e; rw [hg]; simp [hb1]
      · rfl
    have hst : (store ((⟨b, o, none⟩ : Addr).add i) v).run P w = .ok () { w with heap := w.heap.setIfInBounds b (.cells (c.setIfInBounds (o + i) v) T f) } := by
      rw [add_plain, run_store P w _ v _ (h1 v (by simp)), cell_of hg]
      simp [hfro, hset, hi]
    have ih := run_st (P := P) (b := b) (o := o) (T := T) (f := f) rest (i + 1) (c.setIfInBounds (o + i) v) { w with heap := w.heap.setIfInBounds b (.cells (c.setIfInBounds (o + i) v) T f) }
      (by simp [hb1]) (by simp at hl ⊢; omega) (by
        simp only [thaw, List.length_cons, Bool.or_eq_true, decide_eq_true_eq] at hz ⊢
        omega) (fun x hx => h1 x (by simp [hx]))
    have e := list_seg_step c.toList (o + i) v rest (by simp at hl ⊢; omega)
    have e' : List.take (o + (i + 1)) (c.setIfInBounds (o + i) v).toList ++ rest ++ List.drop (o + (i + 1) + rest.length) (c.setIfInBounds (o + i) v).toList =
        List.take (o + i) c.toList ++ v :: rest ++ List.drop (o + i + (v :: rest).length) c.toList := by
      simpa [Array.toList_setIfInBounds, Nat.add_assoc] using e
    simp only [storeCells, Sem.run_bind, hst, Result.andThen_ok, ih, e', Array.setIfInBounds_setIfInBounds]

theorem value_raw {P : Program} {o : Oper} {ρ : Operand → Value} {H : Heap} {k : Value → Heap → Prop} {v : Value}
    (h : ∀ w, w.heap = H → (execOp ρ o).run P w = .ok (.value v) w) (hk : k v H) : Mraw P o ρ H k :=
  fun w hw => ⟨.value v, w, h w hw, Same.rfl' w, .inl ⟨v, rfl, hw ▸ hk⟩⟩

theorem value_raw_heap {P : Program} {o : Oper} {ρ : Operand → Value} {H H' : Heap} {k : Value → Heap → Prop} {v : Value}
    (h : ∀ w, w.heap = H → (execOp ρ o).run P w = .ok (.value v) { w with heap := H' }) (hk : k v H') (hs : Solid H H') : Mraw P o ρ H k :=
  fun w hw => ⟨.value v, _, h w hw, ⟨rfl, rfl, rfl, by rw [hw]; exact hs⟩, .inl ⟨v, rfl, hk⟩⟩

theorem skip_raw_heap {P : Program} {o : Oper} {ρ : Operand → Value} {H H' : Heap} {k : Value → Heap → Prop}
    (h : ∀ w, w.heap = H → (execOp ρ o).run P w = .ok .skip { w with heap := H' }) (hk : k undef H') (hs : Solid H H') : Mraw P o ρ H k :=
  fun w hw => ⟨.skip, _, h w hw, ⟨rfl, rfl, rfl, by rw [hw]; exact hs⟩, .inr ⟨rfl, hk⟩⟩

theorem stA_solid {H H' : Heap} {b o : Nat} {vs : Array Value} (h : stA H b o vs = some H') : Solid H H' := by
  unfold stA at h
  split at h
  · rename_i hb; split at h
    · cases h; exact Solid.set hb
    · cases h
  · cases h
theorem st1_solid {H H' : Heap} {p v : Value} (h : st1 H p v = some H') : Solid H H' := by
  unfold st1 at h
  split at h
  · split at h
    · rename_i hb; split at h
      · cases h; exact Solid.set hb
      · cases h
    · cases h
  · cases h
theorem stN_solid {n : Nat} {H H' : Heap} {p v : Value} (h : stN n H p v = some H') : Solid H H' := by
  unfold stN at h
  split at h
  · split at h
    · exact stA_solid h
    · cases h
  · cases h

theorem sclB_spec {P : Program} {T : TypeId} (h : sclB P T = true) : (∃ d, P.underlying T = some d) ∧ aggB P T = false ∧ P.cellsOf T = 1 := by
  unfold sclB at h
  simp only [Bool.and_eq_true, Option.isSome_iff_exists, Bool.not_eq_true'] at h
  exact ⟨h.1.1, h.2, Nat.eq_of_beq_eq_true h.1.2⟩

theorem load1_raw {P : Program} {T : TypeId} {p v : Value} {H : Heap} (hT : ∃ d, P.underlying T = some d) (ha : aggB P T = false) (h : ld1 H p = some v) (w : World) (hw : w.heap = H) :
    (Instr.loadAt T p).run P w = .ok v w := by
  subst hw
  unfold ld1 at h
  split at h
  · rename_i b o
    split at h
    · rename_i c t f hg
      obtain ⟨d, hd⟩ := hT
      simp [Instr.loadAt, Instr.sureAddr, loadVar, run_isAgg hd, ha, cell_of hg, h]
    · cases h
  · cases h

theorem loadN_raw {P : Program} {T : TypeId} {p v : Value} {H : Heap} (ha : aggB P T = true) (h : ldN (P.cellsOf T) H p = some v) (w : World) (hw : w.heap = H) :
    (Instr.loadAt T p).run P w = .ok v w := by
  subst hw
  unfold ldN at h
  split at h
  · rename_i b o
    split at h
    · rename_i c t f hg
      split at h
      · rename_i hle
        obtain ⟨d, hd⟩ := aggB_und ha
        obtain ⟨i, hi⟩ := und_info hd
        cases h
        simp [Instr.loadAt, Instr.sureAddr, loadVar, run_isAgg hd, ha, run_size hi, run_loadN hg hle]
      · cases h
    · cases h
  · cases h

theorem store1_raw {P : Program} {T : TypeId} {p v : Value} {H H' : Heap} (hs : P.cellsOf T = 1) (h : st1 H p v = some H') (w : World) (hw : w.heap = H) :
    (Instr.storeAt T p v).run P w = .ok () { w with heap := H' } := by
  subst hw
  obtain ⟨i, hi, his⟩ := cells_info (P := P) (T := T) (by omega)
  unfold st1 at h
  split at h
  · rename_i b o
    split at h
    · rename_i c t f hg
      split at h
      · rename_i hc
        cases h
        have hone : v.cells = #[v] := by
          have := hc.2.2
          cases v <;> simp_all [Value.cells, Value.oneCell']
        have hst := run_st (P := P) (b := b) (o := o) (T := t) (f := f) [v] 0 c w hg (by simp; omega) (by simpa using hc.2.1) (by simpa using hc.2.2)
        simp only [Instr.storeAt, Instr.sureAddr, storeVar, hone, Sem.run_bind, Sem.run_pure, Result.andThen_ok, run_size hi, hs]
        simp only [List.size_toArray, List.length_cons, List.length_nil, ne_eq, not_true_eq_false, if_false, Nat.zero_add]
        simp only [Sem.run_pure, Result.andThen_ok, hst]
        congr 2
        apply Array.ext_getElem?
        intro k
        rw [Array.getElem?_setIfInBounds, Array.getElem?_setIfInBounds]
        split
        · congr 3
          apply Array.ext'
          have ho := hc.1
          apply List.ext_getElem?
          intro j
          simp only [Nat.add_zero, List.length_cons, List.length_nil, Nat.zero_add, Array.toList_setIfInBounds, List.getElem?_set, List.append_assoc, List.getElem?_append, List.length_take, Array.length_toList, List.getElem?_take]
          by_cases h1 : j < o
          · simp [h1, show o ≠ j by omega, show min o c.size = o by omega]
          · by_cases h2 : j = o
            · subst h2; simp [show min j c.size = j by omega, ho]
            · simp [show min o c.size = o by omega, h1, show o ≠ j by omega, show j - o ≠ 0 by omega, show ¬ (j - o = 0) by omega]
              simp [show o + 1 + (j - o - 1) = j by omega]
        · rfl
      · cases h
    · cases h
  · cases h

theorem storeN_raw {P : Program} {T : TypeId} {p v : Value} {H H' : Heap} (hT : aggB P T = true) (h : stN (P.cellsOf T) H p v = some H') (w : World) (hw : w.heap = H) :
    (Instr.storeAt T p v).run P w = .ok () { w with heap := H' } := by
  subst hw
  obtain ⟨d, hd⟩ := aggB_und hT
  obtain ⟨i, hi⟩ := und_info hd
  unfold stN at h
  split at h
  · rename_i b o vs
    split at h
    · rename_i hsz
      unfold stA at h
      split at h
      · rename_i c t f hg
        split at h
        · rename_i hc
          cases h
          have hst := run_st (P := P) (b := b) (o := o) (T := t) (f := f) vs.toList 0 c w hg (by simp; omega) (by simpa using hc.2.1) (by
            intro v hv
            exact (Array.all_eq_true_iff_forall_mem.1 hc.2.2) v (by simpa using hv))
          simp only [Instr.storeAt, Instr.sureAddr, storeVar, Value.cells, Sem.run_bind, Sem.run_pure, Result.andThen_ok, run_size hi]
          simp only [ne_eq, hsz, not_true_eq_false, if_false, Sem.run_pure, Result.andThen_ok]
          rw [hst]
          simp [spl, hsz]
        · cases h
      · cases h
    · cases h
  · cases h

end Go.X
