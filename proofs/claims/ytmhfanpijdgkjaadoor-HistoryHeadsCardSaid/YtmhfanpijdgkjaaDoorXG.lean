/- What can be said of each operation alone: it grows with its continuation, it comes somewhere, it hangs on its operands alone; which ones only reckon, only read, only make. -/
import Derived.Test.YtmhfanpijdgkjaaDoorXF
namespace Go.X

theorem Mpu.mono {r : Option Value} {k k' : Value → Prop} (h : Mpu r k) (hk : ∀ v, k v → k' v) : Mpu r k' := by
  obtain ⟨v, e, h⟩ := h; exact ⟨v, e, hk _ h⟩
theorem Mwr.mono {r : Option Heap} {k k' : Heap → Prop} (h : Mwr r k) (hk : ∀ v, k v → k' v) : Mwr r k' := by
  obtain ⟨v, e, h⟩ := h; exact ⟨v, e, hk _ h⟩
theorem Mnew.mono {H : Heap} {T : TypeId} {c : Option (Array Value)} {k k' : Value → Heap → Prop} (h : Mnew H T c k) (hk : ∀ v h, k v h → k' v h) : Mnew H T c k' := by
  obtain ⟨v, e, h⟩ := h; exact ⟨v, e, hk _ _ h⟩
theorem Mnews.mono {H : Heap} {T : TypeId} {n : Nat} {c : Option (Array Value)} {k k' : Value → Heap → Prop} (h : Mnews H T n c k) (hk : ∀ v h, k v h → k' v h) : Mnews H T n c k' := by
  obtain ⟨v, e, h⟩ := h; exact ⟨v, e, hk _ _ h⟩
theorem Mraw.mono {P : Program} {o : Oper} {ρ : Operand → Value} {H : Heap} {k k' : Value → Heap → Prop} (h : Mraw P o ρ H k) (hk : ∀ v h, k v h → k' v h) : Mraw P o ρ H k' := by
  intro w hw
  obtain ⟨n, w', e, s, h⟩ := h w hw
  refine ⟨n, w', e, s, ?_⟩
  rcases h with ⟨v, e, h⟩ | ⟨e, h⟩
  · exact .inl ⟨v, e, hk _ _ h⟩
  · exact .inr ⟨e, hk _ _ h⟩
theorem Mapp.mono {T : TypeId} {s b : Nat} {H : Heap} {x y : Value} {k k' : Value → Heap → Prop} (h : Mapp T s b H x y k) (hk : ∀ v h, k v h → k' v h) : Mapp T s b H x y k' := by
  obtain ⟨base, len, cap, n, new, e1, e2, e3, h1, h2⟩ := h
  refine ⟨base, len, cap, n, new, e1, e2, e3, fun hl => ?_, fun hl => ?_⟩
  · have h1 := h1 hl
    rcases base with _ | ⟨b, o, _ | sp⟩
    · exact hk _ _ h1
    · exact h1.mono fun _ h => hk _ _ h
    · exact h1
  · obtain ⟨a, b, old, c, d⟩ := h2 hl
    exact ⟨a, b, old, c, fun cap' rest p q r => hk _ _ (d cap' rest p q r)⟩
theorem Mcopy.mono {s : Nat} {H : Heap} {x y : Value} {k k' : Value → Heap → Prop} (h : Mcopy s H x y k) (hk : ∀ v h, k v h → k' v h) : Mcopy s H x y k' := by
  obtain ⟨n, new, base, len, cap, e1, e2, e3, h⟩ := h
  refine ⟨n, new, base, len, cap, e1, e2, e3, ?_⟩
  rcases base with _ | ⟨b, o, _ | sp⟩
  · exact hk _ _ h
  · exact h.mono fun _ h => hk _ _ h
  · exact h
theorem Ms2b.mono {T : TypeId} {H : Heap} {x : Value} {k k' : Value → Heap → Prop} (h : Ms2b T H x k) (hk : ∀ v h, k v h → k' v h) : Ms2b T H x k' := by
  obtain ⟨s, e, l, h⟩ := h; exact ⟨s, e, l, fun c a b => hk _ _ (h c a b)⟩
theorem bif_mono {b : Bool} {p q p' q' : Prop} (h : bif b then p else q) (h1 : p → p') (h2 : q → q') : bif b then p' else q' := by
  cases b
  · exact h2 h
  · exact h1 h

theorem opX_mono {P : Program} {q : Bool} {o : Oper} {ρ : Operand → Value} {H : Heap} {k k' : Value → Heap → Prop} (h : opX P q o ρ H k) (hk : ∀ v h, k v h → k' v h) : opX P q o ρ H k' := by
  unfold opX at h ⊢
  cases hr : opR P o.op ρ H <;> simp only [hr] at h ⊢
  case val v => exact hk _ _ h
  case pu r => exact Mpu.mono h fun _ h => hk _ _ h
  case rd r => exact Mpu.mono h fun _ h => hk _ _ h
  case wr r => exact Mwr.mono h fun _ h => hk _ _ h
  case nw T c => exact Mnew.mono h hk
  case nws T n c => exact Mnews.mono h hk
  case ap T s b x y => exact Mapp.mono h hk
  case cp s d x => exact Mcopy.mono h hk
  case sb T x => exact Ms2b.mono h hk
  case cl f args => exact bif_mono h (fun h => HCalls.mono h fun _ _ ⟨a, b⟩ => ⟨a, hk _ _ b⟩) (fun h => HCalls.mono h hk)
  case cv f args => exact bif_mono h (fun h => Mcallv.mono h fun _ _ ⟨a, b⟩ => ⟨a, hk _ _ b⟩) (fun h => Mcallv.mono h hk)
  case mk e l c =>
    obtain ⟨kl, kc, n, m, z, h1, h2, h3, h4, h5, h6, h7, h8⟩ := h
    exact ⟨kl, kc, n, m, z, h1, h2, h3, h4, h5, h6, h7, hk _ _ h8⟩
  case sm s => exact fun w hw => let ⟨v, w', e, hs, h⟩ := h w hw; ⟨v, w', e, hs, hk _ _ h⟩
  case raw => exact Mraw.mono h hk

theorem HCalls.some {P : Program} {f : FuncId} {args : List Value} {H : Heap} {R : Value → Heap → Prop} (h : HCalls P f args H R) : ∃ v h, R v h := by
  obtain ⟨e, w', fr, ⟨v, _, _, r⟩, _⟩ := h { (default : World) with heap := H } rfl []
  exact ⟨v, _, r⟩

theorem YCalls.some {P : Program} {l : Nat} {args : List Value} {H : Heap} {R : Value → Heap → Prop} (h : YCalls P l args H R) : ∃ v h, R v h := by
  obtain ⟨f, t, a, b, _, r⟩ := h { (default : World) with heap := H } rfl
  obtain ⟨e, w', ⟨v, _, _, r⟩, _⟩ := r.2 default [] (fun d hd => by cases hd)
  exact ⟨v, _, r⟩
theorem Mcallv.some {P : Program} {fv : Value} {args : List Value} {H : Heap} {R : Value → Heap → Prop} (h : Mcallv P fv args H R) : ∃ v h, R v h := by
  rcases h with ⟨f, fi, ca, e, b, h⟩ | ⟨l, fi, ca, e, h⟩
  · exact h.some
  · exact h.some

theorem Mraw.some {P : Program} {o : Oper} {ρ : Operand → Value} {H : Heap} {k : Value → Heap → Prop} (h : Mraw P o ρ H k) : ∃ v h, k v h := by
  obtain ⟨n, w', _, _, h⟩ := h { (default : World) with heap := H } rfl
  rcases h with ⟨v, _, h⟩ | ⟨_, h⟩
  · exact ⟨_, _, h⟩
  · exact ⟨_, _, h⟩

theorem Mapp.some {T : TypeId} {s b : Nat} {H : Heap} {x y : Value} {k : Value → Heap → Prop} (h : Mapp T s b H x y k) : ∃ v h, k v h := by
  obtain ⟨base, len, cap, n, new, e1, e2, e3, h1, h2⟩ := h
  by_cases hl : len + n ≤ cap
  · have h1 := h1 hl
    rcases base with _ | ⟨b, o, _ | sp⟩
    · exact ⟨_, _, h1⟩
    · obtain ⟨_, _, h1⟩ := h1; exact ⟨_, _, h1⟩
    · exact h1.elim
  · obtain ⟨a, b0, old, c, d⟩ := h2 (by omega)
    have : (len + n) * 1 ≤ (len + n) * b := Nat.mul_le_mul_left _ b0
    exact ⟨_, _, d (len + n) #[] (Nat.le_refl _) (by omega) (by simp)⟩

theorem Mcopy.some {s : Nat} {H : Heap} {x y : Value} {k : Value → Heap → Prop} (h : Mcopy s H x y k) : ∃ v h, k v h := by
  obtain ⟨n, new, base, len, cap, e1, e2, e3, h⟩ := h
  rcases base with _ | ⟨b, o, _ | sp⟩
  · exact ⟨_, _, h⟩
  · obtain ⟨_, _, h⟩ := h; exact ⟨_, _, h⟩
  · exact h.elim

theorem Ms2b.some {T : TypeId} {H : Heap} {x : Value} {k : Value → Heap → Prop} (h : Ms2b T H x k) : ∃ v h, k v h := by
  obtain ⟨s, e, l, h⟩ := h; exact ⟨_, _, h s.size (Nat.le_refl _) l⟩

theorem opX_some {P : Program} {q : Bool} {o : Oper} {ρ : Operand → Value} {H : Heap} {k : Value → Heap → Prop} (h : opX P q o ρ H k) : ∃ v h, k v h := by
  unfold opX at h
  cases hr : opR P o.op ρ H <;> simp only [hr] at h
  case val v => exact ⟨_, _, h⟩
  case pu r => obtain ⟨_, _, h⟩ := h; exact ⟨_, _, h⟩
  case rd r => obtain ⟨_, _, h⟩ := h; exact ⟨_, _, h⟩
  case wr r => obtain ⟨_, _, h⟩ := h; exact ⟨_, _, h⟩
  case nw T c => obtain ⟨_, _, h⟩ := h; exact ⟨_, _, h⟩
  case nws T n c => obtain ⟨_, _, h⟩ := h; exact ⟨_, _, h⟩
  case ap T s b x y => exact Mapp.some h
  case cp s d x => exact Mcopy.some h
  case sb T x => exact Ms2b.some h
  case cl f args =>
    cases q
    · exact HCalls.some (R := k) h
    · obtain ⟨v, h', hh⟩ := HCalls.some (R := fun v h => Ext H h ∧ k v h) h
      exact ⟨_, _, hh.2⟩
  case cv f args =>
    cases q
    · exact Mcallv.some (R := k) h
    · obtain ⟨v, h', hh⟩ := Mcallv.some (R := fun v h => Ext H h ∧ k v h) h
      exact ⟨_, _, hh.2⟩
  case mk e l c => obtain ⟨kl, kc, n, m, z, h1, h2, h3, h4, h5, h6, h7, h8⟩ := h; exact ⟨_, _, h8⟩
  case sm s => obtain ⟨v, w', _, _, h⟩ := h { (default : World) with heap := H } rfl; exact ⟨_, _, h⟩
  case raw => exact Mraw.some h

theorem opR_congr {P : Program} {o : Op} {ρ ρ' : Operand → Value} {H : Heap} (h : ∀ x ∈ o.operands, ρ x = ρ' x) : opR P o ρ H = opR P o ρ' H := by
  cases o <;> simp only [Op.operands] at h <;> simp only [opR]
  case build T ps =>
    have e : (ps.toList.map fun p => (p.1, ρ p.2)) = (ps.toList.map fun p => (p.1, ρ' p.2)) := List.map_congr_left fun p hp => by rw [h p.2 (by simp; exact ⟨p.1, Array.mem_toList_iff.1 hp⟩)]
    rw [e]
  case buildSlice T n ps =>
    have e : (ps.toList.map fun p => (p.1, ρ p.2)) = (ps.toList.map fun p => (p.1, ρ' p.2)) := List.map_congr_left fun p hp => by rw [h p.2 (by simp; exact ⟨p.1, Array.mem_toList_iff.1 hp⟩)]
    rw [e]
  case makeFunc fn a b =>
    rw [Array.map_congr_left (xs := a) fun x hx => h x (by simp [hx]), Array.map_congr_left (xs := b) fun x hx => h x (by simp [hx])]
  case call c =>
    have e : c.args.toList.map ρ = c.args.toList.map ρ' := List.map_congr_left fun x hx => h x (by simp only [Call.operands, Array.mem_append]; exact .inr (Array.mem_toList_iff.1 hx))
    have e1 : ∀ x ∈ c.args.toList, ρ x = ρ' x := fun x hx => h x (by simp only [Call.operands, Array.mem_append]; exact .inr (Array.mem_toList_iff.1 hx))
    rw [e]
    have two : ∀ s x, c.args.toList = [s, x] → ρ s = ρ' s ∧ ρ x = ρ' x := fun s x hl => ⟨e1 s (by rw [hl]; simp), e1 x (by rw [hl]; simp)⟩
    have one : ∀ x, c.args.toList = [x] → ρ x = ρ' x := fun x hl => e1 x (by rw [hl]; simp)
    have ec : ∀ x, c.callee = .value x → ρ x = ρ' x := fun x hx => h x (by simp [Call.operands, hx])
    cases hcal : c.callee with
    | value x =>
      have ex := ec x hcal
      cases x <;> simp only [ex]
    | invoke r m => rfl
    | builtin b =>
      cases b <;> simp only
      case unsafeSliceData => split <;> first | rfl | (rename_i h2; rw [one _ h2])
      case len => split <;> first | rfl | (rename_i h2; rw [one _ h2])
      case cap => split <;> first | rfl | (rename_i h2; rw [one _ h2])
      case append => split <;> first | rfl | (rename_i h2; rw [(two _ _ h2).1, (two _ _ h2).2])
      case copy => split <;> first | rfl | (rename_i h2; rw [(two _ _ h2).1, (two _ _ h2).2])
  case slice T x lo hi mx =>
    have ex : ρ x = ρ' x := h x (by simp)
    have el : lo.map ρ = lo.map ρ' := by cases lo with | none => rfl | some y => simp only [Option.map_some]; rw [h y (by simp)]
    have eh : hi.map ρ = hi.map ρ' := by cases hi with | none => rfl | some y => simp only [Option.map_some]; rw [h y (by simp)]
    have em : mx.map ρ = mx.map ρ' := by cases mx with | none => rfl | some y => simp only [Option.map_some]; rw [h y (by simp)]
    rw [ex, el, eh, em]
  all_goals first
    | rfl
    | (simp_all; done)

theorem opX_congr {P : Program} {q : Bool} {o : Oper} {ρ ρ' : Operand → Value} {H : Heap} {k : Value → Heap → Prop} (hs : ∀ cs b, o.op ≠ .select cs b) (h : ∀ x ∈ o.op.operands, ρ x = ρ' x) (hh : opX P q o ρ H k) : opX P q o ρ' H k := by
  unfold opX at hh ⊢
  rw [← opR_congr h]
  cases hr : opR P o.op ρ H <;> simp only [hr] at hh ⊢ <;> first
    | exact hh
    | exact fun w hw => by rw [← execOp_congr o hs h]; exact hh w hw

/-- 0: it only reckons; 1: it reads; 2: it makes, or calls; 3: anything -/
def clsR : XR → Nat
  | .val _ => 0
  | .pu _ => 0
  | .rd _ => 1
  | .nw _ _ => 2
  | .nws _ _ _ => 2
  | .cl _ _ => 2
  | .cv _ _ => 2
  | .mk _ _ _ => 2
  | .sm _ => 3
  | .wr _ => 3
  | .ap _ _ _ _ _ => 3
  | .cp _ _ _ => 3
  | .sb _ _ => 3
  | .raw => 3
  | .no => 3
/-- the class of an operation, whatever its operands hold -/
def cls (P : Program) (o : Op) : Nat := clsR (opR P o (fun _ => undef) #[])

theorem bif_app {α β : Type} (f : α → β) (b : Bool) (x y : α) : f (bif b then x else y) = bif b then f x else f y := by cases b <;> rfl

theorem cls_any {P : Program} {o : Op} {ρ ρ' : Operand → Value} {H H' : Heap} : clsR (opR P o ρ H) = clsR (opR P o ρ' H') := by
  cases o <;> simp only [opR] <;> first
    | rfl
    | skip
  case buildSlice T n ps => cases P.underlying T with
    | none => rfl
    | some d => cases d <;> rfl
  case makeSlice T n ps => cases P.underlying T with
    | none => rfl
    | some d => cases d <;> rfl
  case load T a => cases aggB P T <;> cases sclB P T <;> rfl
  case store T a x => cases aggB P T <;> cases sclB P T <;> rfl
  case convert s d x =>
    rcases P.underlying s with _ | a <;> rcases P.underlying d with _ | b <;> first | rfl | (cases a <;> first | rfl | skip)
    all_goals (cases b <;> first | rfl | skip)
    all_goals (rename_i e; simp only)
    all_goals (rcases P.underlying e with _ | d)
    all_goals first | rfl | skip
    all_goals (rename_i d; rcases d with _ | _ | k)
    all_goals first | rfl | (cases k <;> rfl)
  case slice T x lo hi mx => cases P.underlying T with
    | none => rfl
    | some d =>
      cases d <;> first
        | rfl
        | (cases mx <;> rfl)
        | (rename_i e; cases hq : infB P e <;> simp only [hq, cond_true, cond_false] <;> rfl)
        | (rename_i n e; cases hq : infB P e <;> simp only [hq, cond_true, cond_false] <;> rfl)
  case fieldAddr S x f => cases P.underlying S with
    | none => rfl
    | some d =>
      cases d <;> first | rfl | skip
      rename_i fs
      simp only
      cases fs[f]? with
      | none => rfl
      | some fd => cases hq : Nat.beq (P.cellsOf fd.type) 0 <;> simp only [hq, cond_true, cond_false] <;> rfl
  case field S x f => cases P.underlying S with
    | none => rfl
    | some d =>
      cases d <;> first | rfl | skip
      rename_i fs
      simp only
      cases fs[f]? with
      | none => rfl
      | some fd => cases hq : undB P fd.type <;> simp only [hq, cond_true, cond_false] <;> rfl
  case indexAddr T x i => cases P.underlying T with
    | none => rfl
    | some d =>
      cases d <;> first
        | rfl
        | (rename_i e; cases hq : infB P e <;> simp only [hq, cond_true, cond_false] <;> rfl)
        | (rename_i n e; cases hq : infB P e <;> simp only [hq, cond_true, cond_false] <;> rfl)
  case index T x i => cases P.underlying T with
    | none => rfl
    | some d =>
      cases d <;> first
        | rfl
        | (rename_i n e; cases hq : undB P e <;> simp only [hq, cond_true, cond_false] <;> rfl)
  case call c =>
    cases c.callee with
    | value x =>
      cases x <;> first | rfl | skip
      rename_i f
      cases hq : hasBody P f <;> simp only [hq, cond_true, cond_false] <;> first | rfl | (cases hx : (extFn P f).isSome <;> simp only [hx, cond_true, cond_false] <;> rfl)
    | invoke r m => rfl
    | builtin b =>
      cases b <;> first | rfl | skip
      all_goals simp only
      case unsafeSliceData => rcases c.args.toList with _ | ⟨x, _ | ⟨y, m⟩⟩ <;> rfl
      case len =>
        rcases c.argTypes.toList with _ | ⟨T, _ | ⟨U, l⟩⟩ <;> rcases c.args.toList with _ | ⟨x, _ | ⟨y, m⟩⟩ <;> first | rfl | skip
        simp only
        cases P.underlying T with
        | none => rfl
        | some d => cases d <;> rfl
      case cap =>
        rcases c.argTypes.toList with _ | ⟨T, _ | ⟨U, l⟩⟩ <;> rcases c.args.toList with _ | ⟨x, _ | ⟨y, m⟩⟩ <;> first | rfl | skip
        simp only
        cases P.underlying T with
        | none => rfl
        | some d => cases d <;> rfl
      case append =>
        rcases c.argTypes.toList with _ | ⟨T, _ | ⟨U, _ | ⟨V, l⟩⟩⟩ <;> rcases c.args.toList with _ | ⟨x, _ | ⟨y, _ | ⟨z, m⟩⟩⟩ <;> first | rfl | skip
        simp only
        cases P.underlying T with
        | none => rfl
        | some d =>
          cases d <;> first | rfl | skip
          cases P.underlying U with
          | none => rfl
          | some d' => cases d' <;> first | rfl | (rename_i e; cases hq : zokB P e <;> simp only [hq, cond_true, cond_false] <;> rfl) | (rename_i e e'; cases hq : zokB P e <;> simp only [hq, cond_true, cond_false] <;> rfl)
      case copy =>
        rcases c.argTypes.toList with _ | ⟨T, _ | ⟨U, _ | ⟨V, l⟩⟩⟩ <;> rcases c.args.toList with _ | ⟨x, _ | ⟨y, _ | ⟨z, m⟩⟩⟩ <;> first | rfl | skip
        simp only
        cases P.underlying T with
        | none => rfl
        | some d => cases d <;> first | rfl | (rename_i e; cases hq : infB P e <;> simp only [hq, cond_true, cond_false] <;> rfl)

end Go.X
