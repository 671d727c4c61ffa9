/- JOINED: V108 V109 V110 -/
import Derived.Test.YtdmciknajaedmaaDoorGZ
set_option linter.unusedSimpArgs false
set_option linter.unusedVariables false
/- Two histories of one top: the inputs that were summed. -/
namespace Go.Proofs.YtdmciknajaedmaaDoor
open Go.X Go.X.Diff
set_option maxRecDepth 100000

/- PLAIN -/
theorem eqRec_iff {a b : RecA} : eqRec a b = true ↔ a = b := by
  obtain ⟨k, x, y, s, r⟩ := a
  obtain ⟨k', x', y', s', r'⟩ := b
  simp [eqRec, and_assoc]
theorem chL_len {rs : List RecA} : (chL rs).length = rs.length := by
  suffices h : ∀ (l : List RecA) (ch : List (List UInt8)), (l.foldl (fun ch a => ch ++ [chainF ch a]) ch).length = ch.length + l.length by
    have := h rs []
    simpa [chL] using this
  intro l
  induction l with
  | nil => intro ch; simp
  | cons a l ih => intro ch; rw [List.foldl_cons, ih]; simp; omega
theorem take_snoc {α : Type} {l : List α} {i : Nat} {a : α} (h : l[i]? = some a) : l.take (i + 1) = l.take i ++ [a] := by rw [List.take_add_one, h]; rfl
theorem chL_take {rs : List RecA} : ∀ {i : Nat}, i ≤ rs.length → (chL rs).take i = chL (rs.take i) := by
  suffices h : ∀ (l : List RecA) (ch : List (List UInt8)) (i : Nat), i ≤ l.length → (l.foldl (fun ch a => ch ++ [chainF ch a]) ch).take (ch.length + i) = (l.take i).foldl (fun ch a => ch ++ [chainF ch a]) ch by
    intro i hi
    have := h rs [] i hi
    simpa [chL] using this
  intro l
  induction l with
  | nil => intro ch i hi; simp at hi; subst hi; simp
  | cons a l ih =>
    intro ch i hi
    cases i with
    | zero =>
      rw [Nat.add_zero]
      have : ∀ (l : List RecA) (c : List (List UInt8)), (l.foldl (fun ch a => ch ++ [chainF ch a]) (ch ++ c)).take ch.length = ch := by
        intro l
        induction l with
        | nil => intro c; simp
        | cons b l ih2 =>
          intro c
          rw [List.foldl_cons, List.append_assoc]
          exact ih2 _
      have h0 := this (a :: l) []
      rw [List.append_nil] at h0
      rw [h0]; rfl
    | succ i =>
      rw [List.foldl_cons, List.take_succ_cons, List.foldl_cons]
      have := ih (ch ++ [chainF ch a]) i (by simpa using hi)
      rw [← this]
      congr 1
      simp; omega
/-- the chain ahead of a record -/
def aheadF (ch : List (List UInt8)) (i : Nat) : List UInt8 := if i = 0 then zeroH else ch.getD (i - 1) zeroH
def inpF (ch : List (List UInt8)) (i : Nat) (a : RecA) : List UInt8 := 7 :: (aheadF ch i ++ recB a)
theorem ahead_top {rs : List RecA} {i : Nat} (hi : i ≤ rs.length) : aheadF (chL rs) i = topF (chL (rs.take i)) := by
  rw [← chL_take hi]
  unfold aheadF topF
  by_cases h0 : i = 0
  · subst h0; simp
  · rw [if_neg h0, List.getLast?_eq_getElem?, List.length_take, chL_len, Nat.min_eq_left hi, List.getElem?_take, if_pos (by omega), List.getD_eq_getElem?_getD]
theorem chL_at {rs : List RecA} {i : Nat} {a : RecA} (h : rs[i]? = some a) : aheadF (chL rs) (i + 1) = shaF (inpF (chL rs) i a) := by
  have hi := (List.getElem?_eq_some_iff.1 h).1
  rw [ahead_top hi, take_snoc h, chL_snoc]
  have : topF (chL (rs.take i) ++ [chainF (chL (rs.take i)) a]) = chainF (chL (rs.take i)) a := by unfold topF; simp
  rw [this]
  unfold inpF
  rw [ahead_top (by omega)]
  rfl
theorem ahead_len {ch : List (List UInt8)} (h : ∀ c ∈ ch, c.length = 32) {i : Nat} : (aheadF ch i).length = 32 := by
  unfold aheadF
  split
  · rfl
  · rw [List.getD_eq_getElem?_getD]
    cases hg : ch[i - 1]? with
    | none => rfl
    | some c => exact h c (List.mem_of_getElem? hg)
theorem chL_32 {rs : List RecA} : ∀ c ∈ chL rs, c.length = 32 := by
  suffices h : ∀ (l : List RecA) (ch : List (List UInt8)), (∀ c ∈ ch, c.length = 32) → ∀ c ∈ l.foldl (fun ch a => ch ++ [chainF ch a]) ch, c.length = 32 from fun c hc => h rs [] (fun c hc => by cases hc) c hc
  intro l
  induction l with
  | nil => intro ch h; exact h
  | cons a l ih =>
    intro ch h
    rw [List.foldl_cons]
    refine ih _ fun c hc => ?_
    rcases List.mem_append.1 hc with hc | hc
    · exact h c hc
    · simp at hc; subst hc; exact shaF_len
theorem top_ahead {rs : List RecA} : topF (chL rs) = aheadF (chL rs) rs.length := by rw [ahead_top (Nat.le_refl _), List.take_length]

/-- do two records' inputs collide? -/
def Coll (rs rs2 : List RecA) (i : Nat) : Prop := ∃ a b, rs[i]? = some a ∧ rs2[i]? = some b ∧ inpF (chL rs) i a ≠ inpF (chL rs2) i b ∧ shaF (inpF (chL rs) i a) = shaF (inpF (chL rs2) i b)
theorem recsOk_of {rs : List RecA} (h : Grown rs) : ∀ a ∈ rs, recOk a = true ∧ RecWf a := fun a ha => by
  obtain ⟨i, hi⟩ := List.getElem?_of_mem ha
  obtain ⟨h1, h2⟩ := h.2 i a hi
  exact ⟨appOk_rec h1, h2⟩
theorem Grown.snoc {rs : List RecA} {a : RecA} (h : Grown rs) (hl : rs.length < 4096) (ha : appOk rs a = true) (w : RecWf a) : Grown (rs ++ [a]) := by
  refine ⟨by simp; omega, fun i b hb => ?_⟩
  by_cases hi : i < rs.length
  · rw [List.getElem?_append_left hi] at hb
    rw [List.take_append_of_le_length (by omega)]
    exact h.2 i b hb
  · rw [List.getElem?_append_right (by omega)] at hb
    have hlt := (List.getElem?_eq_some_iff.1 hb).1
    simp at hlt
    obtain rfl : i = rs.length := by omega
    simp at hb
    subst hb
    rw [List.take_left']
    · exact ⟨ha, w⟩
    · rfl
theorem no_coll {rs rs2 : List RecA} (g : Grown rs) (g2 : Grown rs2) (hl : rs.length = rs2.length) (ht : topF (chL rs) = topF (chL rs2)) (hno : ∀ i, ¬ Coll rs rs2 i) : rs = rs2 := by
  have key : ∀ k, k ≤ rs.length → aheadF (chL rs) (rs.length - k) = aheadF (chL rs2) (rs.length - k) ∧ ∀ i, rs.length - k ≤ i → rs[i]? = rs2[i]? := by
    intro k
    induction k with
    | zero =>
      intro _
      refine ⟨?_, fun i hi => ?_⟩
      · rw [Nat.sub_zero, ← top_ahead, hl, ← top_ahead]; exact ht
      · rw [List.getElem?_eq_none (by omega), List.getElem?_eq_none (by omega)]
    | succ k ih =>
      intro hk
      obtain ⟨h1, h2⟩ := ih (by omega)
      have e : rs.length - k = (rs.length - (k + 1)) + 1 := by omega
      generalize rs.length - (k + 1) = i at *
      have hlt : i < rs.length := by omega
      have ha : rs[i]? = some rs[i] := List.getElem?_eq_getElem hlt
      have hb : rs2[i]? = some (rs2[i]'(by omega)) := List.getElem?_eq_getElem _
      generalize rs[i] = a at ha
      generalize (rs2[i]'(by omega)) = b at hb
      rw [e, chL_at ha, chL_at hb] at h1
      have hin : inpF (chL rs) i a = inpF (chL rs2) i b := Classical.byContradiction fun hne => hno i ⟨a, b, ha, hb, hne, h1⟩
      unfold inpF at hin
      have hin := (List.cons_inj_right _).1 hin
      obtain ⟨p1, p2⟩ := List.append_inj hin (by rw [ahead_len chL_32, ahead_len chL_32])
      obtain ⟨o1, w1⟩ := recsOk_of g a (List.mem_of_getElem? ha)
      obtain ⟨o2, w2⟩ := recsOk_of g2 b (List.mem_of_getElem? hb)
      have hab := recB_inj o1 o2 ⟨w1.bef, w1.aft, w1.r⟩ ⟨w2.bef, w2.aft, w2.r⟩ p2
      refine ⟨p1, fun j hj => ?_⟩
      by_cases hji : j = i
      · subst hji; rw [ha, hb, hab]
      · exact h2 j (by omega)
  obtain ⟨_, h⟩ := key rs.length (Nat.le_refl _)
  exact List.ext_getElem? fun i => h i (by omega)
theorem coll_ne {rs rs2 : List RecA} {i : Nat} (h : Coll rs rs2 i) : rs ≠ rs2 := by
  rintro rfl
  obtain ⟨a, b, h1, h2, h3, _⟩ := h
  rw [h1] at h2
  cases h2
  exact h3 rfl

/- SUMS -/
/- SLICES JOINED -/
theorem zrow_u8 {n : Nat} : zrow #[.int .u8 0] n = (bcells (List.replicate n 0)).toArray := by
  apply Array.ext'
  simp only [zrow, bcells, List.map_replicate]
  apply List.ext_getElem?
  intro i
  by_cases hi : i < n
  · simp [hi, Nat.mod_one]
  · simp [List.getElem?_eq_none, hi]
theorem flat_snoc {ls : List (List UInt8)} {i : Nat} {l : List UInt8} (h : ls[i]? = some l) : (ls.take (i + 1)).flatten = (ls.take i).flatten ++ l := by
  rw [take_snoc h, List.flatten_append]
  show _ ++ ([l] : List (List UInt8)).flatten = _
  rw [List.flatten_cons, List.flatten_nil, List.append_nil]
end Go.Proofs.YtdmciknajaedmaaDoor
/- history.Collide. -/
namespace Go.Proofs.YtdmciknajaedmaaDoor
open Go.X Go.X.Diff
set_option maxRecDepth 100000

section
variable {p : Nat} {Fr Fc Fi : Nat → Prop} {H : Heap} {rs : List RecA} {ch : List (List UInt8)}
end

end Go.Proofs.YtdmciknajaedmaaDoor
/- history.Collide: the search. -/
namespace Go.Proofs.YtdmciknajaedmaaDoor
open Go.X Go.X.Diff
set_option maxRecDepth 100000

theorem _root_.Go.X.Sl.closed {P : Nat → Prop} {n0 : Nat} {h h' : Heap} {v : Value} {l : List UInt8} (s : Sl P h v l) (c : Closed n0 h h') : Sl P h' v l := by
  rcases s.cases with ⟨a, cc, rfl, rfl, hsp⟩ | ⟨b, o, cc, cs, T, f, rfl, hp, hc, hb, hle, hl⟩
  · exact ⟨Bs_nil, ⟨a, cc, rfl, Nat.zero_le _, hsp⟩, fun b hb => s.own b hb⟩
  · exact ⟨Bs.mk (c.2.2 b _ hb fun ds e => by cases e) rfl hle hl, s.sl, s.own⟩
structure BackSt (q : Nat) (Fr : Nat → Prop) (v : Value) (rows : List (List Value)) (h : Heap) : Prop where
  cell : At h q [v]
  row : SlE 36 Fr h v rows
  lt : ∀ b, Fr b → b < h.size
def BackX (n j : Nat) (x : List Value) (_ : Heap) : Prop := ∃ y, x = [.int .i64 ((n - 1 - j : Nat) : Int), y]
theorem two_one {P Q : Nat → Prop} {h : Heap} {va vb : Value} {A B : List UInt8} (ha : Sl P h va A) (hb : Sl Q h vb B) : ∀ c ∈ [va, vb], c.oneCell' = true := by
  intro c hc
  simp at hc
  rcases hc with rfl | rfl
  · exact ha.one
  · exact hb.one

section
variable {p1 p2 q2 q3 i : Nat} {Fr Fc Fi Gr Gc Gi : Nat → Prop} {h : Heap} {rs rs2 : List RecA} {ch ch2 : List (List UInt8)} {a b : RecA} {k : Value → Heap → Prop}
end

/-- what Collide tells -/
def ColR (rs rs2 : List RecA) (N : Nat) (u : Value) (h : Heap) : Prop :=
  (u = .tuple #[.agg [.slice none 0 0, .slice none 0 0].toArray, .bool false] ∧ (rs.length = rs2.length → topF (chL rs) = topF (chL rs2) → rs = rs2)) ∨
  ∃ va vb i a b, u = .tuple #[.agg [va, vb].toArray, .bool true] ∧ rs.length = rs2.length ∧ topF (chL rs) = topF (chL rs2) ∧ rs[i]? = some a ∧ rs2[i]? = some b ∧ Sl (fun x => N ≤ x ∧ x < h.size) h va (inpF (chL rs) i a) ∧ Sl (fun x => N ≤ x ∧ x < h.size) h vb (inpF (chL rs2) i b) ∧
    inpF (chL rs) i a ≠ inpF (chL rs2) i b ∧ shaF (inpF (chL rs) i a) = shaF (inpF (chL rs2) i b)

theorem inp_len {rs : List RecA} (g : Grown rs) {i : Nat} {a : RecA} (h : rs[i]? = some a) : (inpF (chL rs) i a).length ≤ 200000 ∧ 32 < (inpF (chL rs) i a).length := by
  obtain ⟨o, w⟩ := recsOk_of g a (List.mem_of_getElem? h)
  have := (recB_len4 o w).1
  have h32 := ahead_len (ch := chL rs) chL_32 (i := i)
  simp only [inpF, List.length_cons, List.length_append, h32]
  omega

end Go.Proofs.YtdmciknajaedmaaDoor
