/- What came in: the cells of an argument, by its type. -/
import Derived.Test.YtmhfanpijdgkjaaDoorXN
import Derived.ChangeSlices
import Derived.ChangeArms
import Derived.Lib.LaidTab
namespace Go.X

/-- what the cells of a value of a type are, at a world that came in -/
def Shp (P : Program) (w : World) : Nat → TypeId → List Value → Prop
  | 0, _, _ => False
  | d + 1, t, cs => match P.underlying t with
    | some .bool => ∃ b, cs = [.bool b]
    | some (.int k) => ∃ n, cs = [.int k n] ∧ (Lit.int k n).wf = true
    | some .string => ∃ s : ByteArray, cs = [.string s] ∧ s.size ≤ maxLen
    | some (.struct fs) => cs.length = P.cellsOf t ∧ ∀ (i : Nat) (f : Field), fs[i]? = some f → Shp P w d f.type ((cs.drop f.offset).take (P.cellsOf f.type))
    | some (.array n e) => cs.length = P.cellsOf t ∧ ∀ i, i < n → Shp P w d e ((cs.drop (i * P.cellsOf e)).take (P.cellsOf e))
    | some (.slice e) => cs = [.slice none 0 0] ∨ ∃ (a : Addr) (len cap : Nat), cs = [.slice (some a) len cap] ∧ len ≤ cap ∧ cap ≤ maxLen ∧ ∀ i, i < len → ∃ cs', w.cells? 0 (a.add (i * P.cellsOf e)) (P.cellsOf e) = some cs' ∧ Shp P w d e cs'
    | _ => True

theorem shp_of_trod {H : Type} {enc : TypeId × Value → H} {P : Program} {w : World} {base : Nat} {spare : Nat → Bool} {held : Bool} : ∀ {fuel : Nat} {t : TypeId} {cs : List Value} {x : DataW H × List MemPlace},
    DataW.trod enc P w base spare held fuel t cs = some x → Shp P w fuel t cs
  | 0, t, cs, x, h => by simp [DataW.trod] at h
  | n + 1, t, cs, x, h => by
    simp only [Shp]
    split
    · rename_i ht; obtain ⟨b, hb, _⟩ := DataW.trod_bool ht h; exact ⟨b, hb⟩
    · rename_i k ht; obtain ⟨m, hm, _, hw⟩ := DataW.trod_int ht h; exact ⟨m, hm, hw⟩
    · rename_i ht; obtain ⟨s, hs, _, hw⟩ := DataW.trod_string ht h; exact ⟨s, hs, hw⟩
    · rename_i fs ht
      obtain ⟨xs, m, hm, _, hl, hxl, hf⟩ := DataW.trod_struct ht h
      obtain rfl : n = m := by omega
      refine ⟨hl, fun i f hi => ?_⟩
      have h1 := hf i f hi
      have hlt : i < xs.length := by rw [hxl]; exact (Array.getElem?_eq_some_iff.1 hi).1
      rw [List.getElem?_eq_getElem hlt] at h1
      exact shp_of_trod h1
    · rename_i k e ht
      unfold DataW.trod at h
      rw [ht] at h
      simp only at h
      split at h
      · rename_i hl
        obtain ⟨xs, hm, _⟩ := Option.map_eq_some_iff.1 h
        refine ⟨hl, fun i hi => ?_⟩
        have h1 := mapM_some_get hm i i (by simp [hi])
        have hlen : xs.length = k := by simpa using mapM_some_length hm
        rw [List.getElem?_eq_getElem (by omega)] at h1
        exact shp_of_trod h1
      · cases h
    · rename_i e ht
      rcases DataW.trod_slice ht h with ⟨h0, _⟩ | ⟨a, len, cap, elems, rest, m, hm, hc, _, hb, hl, hcap, hel, hg, _⟩
      · exact .inl h0
      · obtain rfl : n = m := by omega
        refine .inr ⟨a, len, cap, hc, hl, hcap, fun i hi => ?_⟩
        have h1 := hg i hi
        rw [List.getElem?_eq_getElem (by omega)] at h1
        obtain ⟨cs', h2, h3⟩ := Option.bind_eq_some_iff.1 h1
        refine ⟨cs', ?_, shp_of_trod h3⟩
        unfold World.cells? at h2 ⊢
        rw [if_pos (Nat.zero_le _)]
        split at h2
        · exact h2
        · cases h2
    · trivial

/-- a row of elements at an address: the slice that leads to it -/
theorem pt_of_cells {w : World} {a : Addr} {n : Nat} {cs : List Value} (hn : 0 < n) (h : w.cells? 0 a n = some cs) : a.spot = none ∧ cs.length = n ∧ Pt w.heap a.block a.off cs := by
  obtain ⟨_, hl, hc⟩ := World.cells?_some h
  obtain ⟨b, o, sp⟩ := a
  have h1 := hc 0 hn
  have h1' : w.cell? ⟨b, o, sp⟩ = cs[0]? := h1
  rw [List.getElem?_eq_getElem (by omega)] at h1'
  obtain ⟨c, T, f, hb, rfl⟩ : ∃ c T f, w.heap[b]? = some (.cells c T f) ∧ sp = none := by
    unfold World.cell? at h1'
    split at h1'
    · rename_i c T f hb
      cases sp with
      | none => exact ⟨c, T, f, hb, rfl⟩
      | some s => cases h1'
    · cases h1'
  have hcs : ∀ i, i < n → c[o + i]? = cs[i]? := fun i hi => by
    have h2 := hc i hi
    have e : (⟨b, o, none⟩ : Addr).add i = ⟨b, o + i, none⟩ := by
      unfold Addr.add; split
      · rename_i h; subst h; rfl
      · rfl
    rw [e] at h2
    unfold World.cell? at h2
    simp only [hb] at h2
    exact h2
  have hlast : o + (n - 1) < c.size := by
    have := hcs (n - 1) (by omega)
    rw [List.getElem?_eq_getElem (by omega)] at this
    exact (Array.getElem?_eq_some_iff.1 this).1
  refine ⟨rfl, hl, c, T, f, hb, (show o + cs.length ≤ c.size by omega), ?_⟩
  apply List.ext_getElem?
  intro i
  simp only [List.getElem?_take, List.getElem?_drop]
  split
  · rename_i hi
    rw [← hcs i (by omega)]; simp
  · rw [List.getElem?_eq_none (by omega)]

theorem sle_of_cells {w : World} {n : Nat} (hn : 0 < n) {a : Addr} {len cap : Nat} {q : List Value → Prop} (hle : len ≤ cap) (hq : ∀ cs, q cs → ∀ c ∈ cs, c.oneCell' = true)
    (h : ∀ i, i < len → ∃ cs, w.cells? 0 (a.add (i * n)) n = some cs ∧ q cs) : ∃ xs : List (List Value), xs.length = len ∧ SlE n (· < w.heap.size) w.heap (.slice (some a) len cap) xs ∧ ∀ x ∈ xs, q x := by
  by_cases h0 : len = 0
  · subst h0; exact ⟨[], rfl, SlE.nil, fun x hx => by cases hx⟩
  obtain ⟨c0, hc0, _⟩ := h 0 (by omega)
  have ha0 : a.add (0 * n) = a := by simp [Addr.add]
  rw [ha0] at hc0
  obtain ⟨hsp, _, hpt0⟩ := pt_of_cells hn hc0
  obtain ⟨b, o, sp⟩ := a
  simp only at hsp hpt0
  subst hsp
  have hadd : ∀ i, (⟨b, o, none⟩ : Addr).add i = ⟨b, o + i, none⟩ := fun i => by
    unfold Addr.add; split
    · rename_i h; subst h; rfl
    · rfl
  have key : ∀ k, k ≤ len → ∃ xs : List (List Value), xs.length = k ∧ (∀ x ∈ xs, x.length = n) ∧ (∀ x ∈ xs, q x) ∧ Pt w.heap b o xs.flatten := by
    intro k
    induction k with
    | zero =>
      intro _
      obtain ⟨c, T, f, hb, h1, h2⟩ := hpt0
      exact ⟨[], rfl, fun x h => (by cases h), fun x h => (by cases h), c, T, f, hb, by simp; omega, by simp⟩
    | succ k ih =>
      intro hk
      obtain ⟨xs, hx1, hx2, hx3, c, T, f, hb, h1, h2⟩ := ih (by omega)
      obtain ⟨cs, hcs, hqc⟩ := h k (by omega)
      rw [hadd] at hcs
      obtain ⟨_, hcl, c', T', f', hb', h1', h2'⟩ := pt_of_cells hn hcs
      simp only at hb' h1' h2'
      rw [hb] at hb'
      cases hb'
      have hfl := flat_len hx2
      refine ⟨xs ++ [cs], by simp [hx1], ?_, ?_, c, T, f, hb, ?_, ?_⟩
      · intro x hx
        rcases List.mem_append.1 hx with hx | hx
        · exact hx2 x hx
        · simp at hx; subst hx; exact hcl
      · intro x hx
        rcases List.mem_append.1 hx with hx | hx
        · exact hx3 x hx
        · simp at hx; subst hx; exact hqc
      · simp only [List.flatten_append, List.flatten_cons, List.flatten_nil, List.append_nil, List.length_append, hfl, hx1]; omega
      · simp only [List.flatten_append, List.flatten_cons, List.flatten_nil, List.append_nil, List.length_append]
        rw [List.take_add, h2, List.drop_drop, hfl, hx1, h2']
  obtain ⟨xs, hx1, hx2, hx3, hp⟩ := key len (Nat.le_refl _)
  exact ⟨xs, hx1, ⟨⟨_, cap, by rw [hx1], by omega, .inr ⟨b, o, rfl, hp.lt, hp⟩⟩, hx2, fun x hx => hq x (hx3 x hx)⟩, hx3⟩

theorem shp_int {P : Program} {w : World} {d : Nat} {t : TypeId} {k : IntKind} {cs : List Value} (ht : P.underlying t = some (.int k)) (h : Shp P w d t cs) : ∃ n, cs = [.int k n] ∧ (Lit.int k n).wf = true := by
  cases d with
  | zero => exact h.elim
  | succ d => simp only [Shp, ht] at h; exact h
theorem shp_bool {P : Program} {w : World} {d : Nat} {t : TypeId} {cs : List Value} (ht : P.underlying t = some .bool) (h : Shp P w d t cs) : ∃ b, cs = [.bool b] := by
  cases d with
  | zero => exact h.elim
  | succ d => simp only [Shp, ht] at h; exact h
theorem shp_str {P : Program} {w : World} {d : Nat} {t : TypeId} {cs : List Value} (ht : P.underlying t = some .string) (h : Shp P w d t cs) : ∃ s : ByteArray, cs = [.string s] ∧ s.size ≤ maxLen := by
  cases d with
  | zero => exact h.elim
  | succ d => simp only [Shp, ht] at h; exact h
theorem shp_struct {P : Program} {w : World} {d : Nat} {t : TypeId} {fs : Array Field} {cs : List Value} (ht : P.underlying t = some (.struct fs)) (h : Shp P w d t cs) : ∃ d', cs.length = P.cellsOf t ∧ ∀ (i : Nat) (f : Field), fs[i]? = some f → Shp P w d' f.type ((cs.drop f.offset).take (P.cellsOf f.type)) := by
  cases d with
  | zero => exact h.elim
  | succ d => simp only [Shp, ht] at h; exact ⟨d, h⟩
/-- an array of integers of one kind -/
theorem shp_ints {P : Program} {w : World} {d n : Nat} {t e : TypeId} {k : IntKind} {cs : List Value} (ht : P.underlying t = some (.array n e)) (he : P.underlying e = some (.int k)) (hc : P.cellsOf e = 1) (hn : P.cellsOf t = n) (h : Shp P w d t cs) :
    ∃ l : List Int, l.length = n ∧ cs = l.map (Value.int k) ∧ ∀ x ∈ l, (Lit.int k x).wf = true := by
  cases d with
  | zero => exact h.elim
  | succ d =>
    simp only [Shp, ht] at h
    obtain ⟨hl, hf⟩ := h
    rw [hn] at hl
    have each : ∀ i (hi : i < n), ∃ m, cs[i]? = some (.int k m) ∧ (Lit.int k m).wf = true := fun i hi => by
      obtain ⟨m, hm, hw⟩ := shp_int he (hf i hi)
      rw [hc, Nat.mul_one] at hm
      refine ⟨m, ?_, hw⟩
      have := congrArg (·[0]?) hm
      simpa [List.getElem?_take, List.getElem?_drop] using this
    refine ⟨cs.map fun v => match v with | .int _ m => m | _ => 0, by simpa using hl, ?_, ?_⟩
    · apply List.ext_getElem?
      intro i
      by_cases hi : i < n
      · obtain ⟨m, hm, _⟩ := each i hi
        simp [hm]
      · simp [List.getElem?_eq_none (show cs.length ≤ i by omega)]
    · intro x hx
      obtain ⟨v, hv, rfl⟩ := List.mem_map.1 hx
      obtain ⟨i, hi, rfl⟩ := List.getElem_of_mem hv
      obtain ⟨m, hm, hw⟩ := each i (by omega)
      rw [List.getElem?_eq_getElem hi] at hm
      rw [Option.some.inj hm]
      exact hw
theorem ints_bytes {l : List Int} (h : ∀ x ∈ l, (Lit.int .u8 x).wf = true) : ∃ r : List UInt8, r.length = l.length ∧ l.map (Value.int .u8) = bcells r := by
  refine ⟨l.map fun n => UInt8.ofNat n.toNat, by simp, ?_⟩
  simp only [bcells, List.map_map]
  refine List.map_congr_left fun x hx => ?_
  have hz := h x hx
  simp only [Lit.wf, IntKind.min, IntKind.max, IntKind.signed, IntKind.bits] at hz
  simp only [Function.comp]
  congr 1
  simp at hz ⊢
  omega

/-- a table among the listed variables -/
theorem tab_of {P : Program} {w : World} {name : String} {k : IntKind} {zs : List Int} {g n : Nat} {t e : TypeId} (hg : P.globalNamed name = some g) (hty : (P.globals[g]?).map (·.type) = some t) (ht : P.underlying t = some (.array n e)) (he : P.underlying e = some (.int k)) (hce : P.cellsOf e = 1) (hct : P.cellsOf t = n) :
    ∀ {l : List (String × DataW Unit)} {ps : List MemPlace}, DataW.LaidVars P w l ps → (name, Lib.tabData k zs) ∈ l → ∃ T f, w.heap[g]? = some (.cells (zs.map (Value.int k)).toArray T f)
  | [], _, _, hm => by cases hm
  | (nm, d) :: r, ps, h, hm => by
    obtain ⟨g', t', cs, fuel, p, q, hg', ht', hvar, hd, hrest, _⟩ := h
    rcases List.mem_cons.1 hm with he' | hm
    · cases he'
      obtain rfl := Option.some.inj (hg.symm.trans hg')
      obtain rfl := Option.some.inj (hty.symm.trans ht')
      have hcs := Lib.cells_of_tab ht he hce hct hd
      unfold World.var? at hvar
      rw [hg, Option.bind_some] at hvar
      split at hvar
      · rename_i cs' T f hb
        cases Option.some.inj hvar
        rw [← hcs]
        exact ⟨T, f, by simpa using hb⟩
      · cases hvar
    · exact tab_of hg hty ht he hce hct hrest hm

end Go.X
