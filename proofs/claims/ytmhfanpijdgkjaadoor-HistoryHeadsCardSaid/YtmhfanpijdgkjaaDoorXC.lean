/- Each pure operation is what the model runs. -/
import Derived.Test.YtmhfanpijdgkjaaDoorXB
namespace Go.X
section
variable {P : Program} {w : World}

theorem pick_run {c a b v : Value} (h : pickV c a b = some v) : (do pure (if ← asBool c then a else b) : Sem Value).run P w = .ok v w := by
  cases c <;> simp [pickV] at h
  subst h
  simp [asBool]

theorem alloc_run {T : TypeId} {cs : Array Value} (h : zcells P T = some cs) : (Instr.alloc T true (.tuple #[])).run P w = .ok (.pointer (some ⟨w.heap.size, 0, none⟩)) { w with heap := w.heap.push (.cells cs T (0, 0)) } := by
  unfold zcells at h
  cases hi : P.info? T with
  | none => simp [hi] at h
  | some i =>
    simp only [hi, Option.bind_some] at h
    cases hz : i.zero with
    | none => simp [hz] at h
    | some z =>
      simp only [hz, Option.map_some, Option.some.injEq] at h
      subst h
      simp [Instr.alloc, zeroValue, run_info hi, hz, newVar, newRow]

theorem zero_run {T : TypeId} {cs : Array Value} (h : zcells P T = some cs) : ∃ z, (zeroValue T).run P w = .ok z w ∧ z.cells = cs := by
  unfold zcells at h
  cases hi : P.info? T with
  | none => simp [hi] at h
  | some i =>
    simp only [hi, Option.bind_some] at h
    cases hz : i.zero with
    | none => simp [hz] at h
    | some z =>
      simp only [hz, Option.map_some, Option.some.injEq] at h
      exact ⟨z, by simp [zeroValue, run_info hi, hz], h⟩

theorem box_run {T : TypeId} {v : Value} : (Instr.box T v).run P w = .ok (.pointer (some ⟨w.heap.size, 0, none⟩)) { w with heap := w.heap.push (.cells v.cells T (0, 0)) } := by
  simp [Instr.box, newVar, newRow]

theorem nck_run {o : Oper} {ρ : Operand → Value} {x : Operand} (ho : o.op = .nilCheck x) {v : Value} (h : nck (ρ x) = some v) : (execOp ρ o).run P w = .ok (.value v) w := by
  unfold execOp
  rw [ho]
  simp only []
  unfold nck at h
  split at h
  · rename_i a e; rw [e]; cases h; rfl
  · rename_i f a b e; rw [e]; cases h; rfl
  · cases h

theorem fld_run {S f : Nat} {p v : Value} {fs : Array Field} {fd : Field} (hu : P.underlying S = some (.struct fs)) (hf : fs[f]? = some fd) (hs : P.cellsOf fd.type ≠ 0) (h : fld fd.offset p = some v) :
    (Instr.fieldAt S p f).run P w = .ok v w := by
  obtain ⟨i, hi, his⟩ := cells_info hs
  unfold fld at h
  split at h
  · rename_i b o
    cases h
    have hs' : ¬ P.cellsOf fd.type = 0 := hs
    simp [Instr.fieldAt, run_und hu, hf, Instr.sureAddr, fieldPlace, run_size hi, hs', add_plain]
  · cases h

theorem part_run {T : TypeId} {d : TypeDesc} (hu : P.underlying T = some d) {off : Nat} {cs : Array Value} {v : Value} (h : partV (aggB P T) (P.cellsOf T) off (.agg cs) = some v) :
    (part T cs off).run P w = .ok v w := by
  obtain ⟨i, hi⟩ := und_info hu
  unfold partV at h
  simp only at h
  unfold part
  cases ha : aggB P T with
  | true =>
    simp only [ha, if_true, Option.some.injEq] at h
    simp [run_isAgg hu, ha, run_size hi, h]
  | false =>
    simp only [ha, Bool.false_eq_true, if_false] at h
    simp [run_isAgg hu, ha, h]

theorem ixS_run {T e : TypeId} (hu : P.underlying T = some (.slice e)) (he : ∃ i, P.info? e = some i) {x i v : Value} (h : ixS (P.cellsOf e) x i = some v) :
    (Instr.indexAt T x i).run P w = .ok v w := by
  obtain ⟨ie, hie⟩ := he
  unfold ixS at h
  split at h
  · rename_i b o len cap k n
    split at h
    · rename_i hc
      cases h
      simp [Instr.indexAt, asIntOf, run_und hu, hc, run_size hie, add_plain]
    · cases h
  · cases h

theorem ixA_run {T e : TypeId} {n : Nat} (hu : P.underlying T = some (.array n e)) (he : ∃ i, P.info? e = some i) {x i v : Value} (h : ixA n (P.cellsOf e) x i = some v) :
    (Instr.indexAt T x i).run P w = .ok v w := by
  obtain ⟨ie, hie⟩ := he
  unfold ixA at h
  split at h
  · rename_i b o k n
    split at h
    · rename_i hc
      cases h
      simp [Instr.indexAt, asIntOf, run_und hu, Instr.sureAddr, hc, run_size hie, add_plain]
    · cases h
  · cases h

theorem ixT_run {T : TypeId} (hu : P.underlying T = some .string) {x i v : Value} (h : ixT x i = some v) : (Instr.index T x i).run P w = .ok v w := by
  unfold ixT at h
  split at h
  · rename_i s k n
    split at h
    · rename_i hn
      cases hs : s[n.toNat]? with
      | none => simp [hs] at h
      | some b =>
        simp only [hs, Option.map_some, Option.some.injEq] at h
        simp [Instr.index, asIntOf, run_und hu, hn, hs, h]
    · cases h
  · cases h

theorem ixV_run {T e : TypeId} {n : Nat} (hu : P.underlying T = some (.array n e)) {d : TypeDesc} (he : P.underlying e = some d) {x i v : Value} (h : ixV n (aggB P e) (P.cellsOf e) x i = some v) :
    (Instr.index T x i).run P w = .ok v w := by
  obtain ⟨ie, hie⟩ := und_info he
  unfold ixV at h
  split at h
  · rename_i cs k i
    split at h
    · rename_i hc
      have hp := part_run (P := P) (w := w) he (off := i.toNat * P.cellsOf e) (cs := cs) (v := v) (by unfold partV; exact h)
      simp [Instr.index, asIntOf, run_und hu, hc, run_size hie, hp]
    · cases h
  · cases h

theorem int_run {T : TypeId} {op : BinOp} {k : IntKind} {a b : Int} {v : Value} (h : intV op k a b = some v) : (binOp op T (.int k a) (.int k b)).run P w = .ok v w := by
  cases op <;> simp only [intV, Option.some.injEq] at h <;> first
    | (subst h; simp [binOp, Op.intArith, Op.intBits, Op.intCmp]; done)
    | (split at h
       · cases h
       · rename_i hb
         simp only [Option.some.injEq] at h
         subst h
         simp [binOp, Op.intDiv, Op.shift, hb])

theorem shift_run {T : TypeId} {op : BinOp} {k k' : IntKind} {a b : Int} {v : Value} (ho : op = .shl ∨ op = .shr) (h : intV op k a b = some v) : (binOp op T (.int k a) (.int k' b)).run P w = .ok v w := by
  rcases ho with rfl | rfl <;>
  · simp only [intV] at h
    split at h
    · cases h
    · rename_i hb
      simp only [Option.some.injEq] at h
      subst h
      simp [binOp, Op.shift, hb]

theorem str_run {T : TypeId} {op : BinOp} {a b : ByteArray} {v : Value} (h : strV op a b = some v) : (binOp op T (.string a) (.string b)).run P w = .ok v w := by
  cases op <;> simp only [strV, Option.some.injEq] at h <;> first
    | (cases h; done)
    | (subst h; simp [binOp, Op.stringOp]; done)
    | (split at h
       · cases h
       · rename_i hb
         simp only [Option.some.injEq] at h
         subst h
         simp only [binOp, Op.stringOp]
         rw [if_neg hb]
         rfl)

theorem un_run {op : UnOp} {x v : Value} (h : unV op x = some v) : (Op.unary op x).run P w = .ok v w := by
  cases x <;> cases op <;> simp [unV] at h <;> (subst h; simp [Op.unary, Op.intArith, Op.intBits]) 

theorem ext_run {x v : Value} {i : Nat} (h : extV i x = some v) : (Instr.extract x i).run P w = .ok v w := by
  cases x <;> simp only [extV] at h <;> first
    | (cases h; done)
    | simp [Instr.extract, h]

theorem bnd_run {d top : Nat} {x : Value} {code : BoundsCode} {n : Nat} (h : bnd d top (some x) = some n) : (Instr.sliceBound x top code).run P w = .ok n w := by
  unfold bnd at h
  cases x <;> simp only [reduceCtorEq] at h
  rename_i k i
  split at h
  · rename_i hc
    cases h
    simp [Instr.sliceBound, asIntOf, hc]
  · cases h

theorem bnds_run {isS : Bool} {len cap : Nat} {low high max : Option Value} {l h m : Nat} (hb : bnds len cap low high max = some (l, h, m)) (hm : (max.isSome && high.isNone) = false) :
    (Instr.sliceBounds isS len cap low high max).run P w = .ok (l, h, m) w := by
  unfold bnds at hb
  cases hm' : bnd cap cap max with
  | none => simp [hm'] at hb
  | some m' =>
    simp only [hm', Option.bind_some] at hb
    cases hh' : bnd len m' high with
    | none => simp [hh'] at hb
    | some h' =>
      simp only [hh', Option.bind_some] at hb
      cases hl' : bnd 0 h' low with
      | none => simp [hl'] at hb
      | some l' =>
        simp only [hl', Option.map_some, Option.some.injEq, Prod.mk.injEq] at hb
        obtain ⟨rfl, rfl, rfl⟩ := hb
        cases max with
        | none =>
          simp only [bnd, Option.some.injEq] at hm'
          subst hm'
          cases high with
          | none =>
            simp only [bnd, Option.some.injEq] at hh'
            subst hh'
            cases low with
            | none => simp only [bnd, Option.some.injEq] at hl'; subst hl'; simp [Instr.sliceBounds]
            | some lv => simp [Instr.sliceBounds, bnd_run hl']
          | some hv =>
            cases low with
            | none => simp only [bnd, Option.some.injEq] at hl'; subst hl'; simp [Instr.sliceBounds, bnd_run hh']
            | some lv => simp [Instr.sliceBounds, bnd_run hh', bnd_run hl']
        | some mv =>
          cases high with
          | none => simp at hm
          | some hv =>
            cases low with
            | none => simp only [bnd, Option.some.injEq] at hl'; subst hl'; simp [Instr.sliceBounds, bnd_run hm', bnd_run hh']
            | some lv => simp [Instr.sliceBounds, bnd_run hm', bnd_run hh', bnd_run hl']

theorem slS_run {T e : TypeId} (hu : P.underlying T = some (.slice e)) (he : ∃ i, P.info? e = some i) {x v : Value} {low high max : Option Value} (h : slS (P.cellsOf e) x low high max = some v) :
    (Instr.sliceAt T x low high max).run P w = .ok v w := by
  obtain ⟨ie, hie⟩ := he
  unfold slS at h
  split at h
  · rename_i a len cap
    split at h
    · cases h
    · rename_i hm
      cases hb : bnds len cap low high max with
      | none => simp [hb] at h
      | some t =>
        obtain ⟨l, hh, m⟩ := t
        have hr := bnds_run (P := P) (w := w) (isS := true) hb (by revert hm; cases max.isSome <;> cases high.isNone <;> simp)
        simp only [hb, Option.bind_some] at h
        have hfin : (Instr.sliceAt T (.slice a len cap) low high max).run P w = .ok (.slice (if m = l then a else a.map (·.add (l * P.cellsOf e))) (hh - l) (m - l)) w := by
          simp [Instr.sliceAt, run_und hu, Instr.slice, hr, run_size hie]
        rw [hfin]
        rcases a with _ | ⟨b, o, _ | s⟩
        · simp only [Option.some.injEq] at h
          subst h
          simp
        · simp only [Option.some.injEq] at h
          subst h
          by_cases hml : m = l <;> simp [hml, add_plain]
        · simp at h
  · cases h

theorem slA_run {T e : TypeId} {n : Nat} (hu : P.underlying T = some (.array n e)) (he : ∃ i, P.info? e = some i) {x v : Value} {low high max : Option Value} (h : slA n (P.cellsOf e) x low high max = some v) :
    (Instr.sliceAt T x low high max).run P w = .ok v w := by
  obtain ⟨ie, hie⟩ := he
  unfold slA at h
  split at h
  · rename_i b o
    split at h
    · cases h
    · rename_i hm
      cases hb : bnds n n low high max with
      | none => simp [hb] at h
      | some t =>
        obtain ⟨l, hh, m⟩ := t
        have hr := bnds_run (P := P) (w := w) (isS := false) hb (by revert hm; cases max.isSome <;> cases high.isNone <;> simp)
        simp only [hb, Option.map_some, Option.some.injEq] at h
        subst h
        by_cases hml : m = l <;> simp [Instr.sliceAt, run_und hu, Instr.sureAddr, hr, run_size hie, hml, add_plain]
  · cases h

theorem slT_run {T : TypeId} (hu : P.underlying T = some .string) {x v : Value} {low high : Option Value} (h : slT x low high = some v) :
    (Instr.sliceAt T x low high none).run P w = .ok v w := by
  unfold slT at h
  split at h
  · rename_i s
    cases hb : bnds s.size s.size low high none with
    | none => simp [hb] at h
    | some t =>
      obtain ⟨l, hh, m⟩ := t
      have hr := bnds_run (P := P) (w := w) (isS := false) hb (by simp)
      simp only [hb, Option.map_some, Option.some.injEq] at h
      subst h
      simp [Instr.sliceAt, run_und hu, Instr.slice, hr]
  · cases h

end
end Go.X
