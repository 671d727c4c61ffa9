/- JOINED: V60 P6 -/
import Derived.Test.YtanhgihfgmbojaaGreatDoorG0
import Derived.Test.YtanhgihfgmbojaaGreatDoorG1
set_option linter.unusedSimpArgs false
set_option linter.unusedVariables false
/- slices of versions: Clone, DeleteFunc, MaxFunc; Best. -/
namespace Go.Proofs.YtanhgihfgmbojaaGreatDoor
open Go.X Go.X.Diff
set_option maxRecDepth 100000

theorem flat_set {n i : Nat} {xs : List (List Value)} {x : List Value} (h : ∀ x ∈ xs, x.length = n) (hi : i < xs.length) : (xs.set i x).flatten = xs.flatten.take (i * n) ++ x ++ xs.flatten.drop ((i + 1) * n) := by
  rw [List.set_eq_take_append_cons_drop, if_pos hi, List.flatten_append, List.flatten_cons, flat_take h, flat_drop h, List.append_assoc]
/-- v[i] = x, of an owned slice -/
theorem _root_.Go.X.BufE.set {n : Nat} {F : Nat → Prop} {H : Heap} {v : Value} {xs : List (List Value)} (h : BufE n F H v xs) {i : Nat} (hi : i < xs.length) {x : List Value} (hx : x.length = n) (h1 : ∀ c ∈ x, c.oneCell' = true) :
    ∃ p H', (∀ k, ixS n v (.int k i) = some p) ∧ stN n H p (.agg x.toArray) = some H' ∧ BufE n F H' v (xs.set i x) ∧ Keep F H H' := by
  obtain ⟨g1, g2, h | ⟨b, o, c, cs, T, f, rfl, hf, hc, hb, hle, ht, hl⟩⟩ := h
  · obtain ⟨rfl, rfl⟩ := h; simp at hi
  · have hn1 : i * n + n = (i + 1) * n := by rw [Nat.succ_mul]
    have hn2 : (i + 1) * n ≤ xs.length * n := Nat.mul_le_mul_right n hi
    have hn3 : xs.length * n ≤ c * n := Nat.mul_le_mul_right n hc
    have hsz : o + i * n + x.toArray.size ≤ cs.size := by simp only [List.size_toArray, hx]; omega
    refine ⟨Ptr b (o + i * n), _, fun k => ?_, by simp only [stN]; rw [if_pos (by simpa using hx)]; exact stA_at hb _ _ (ht _ _) hsz (all_of h1), ⟨?_, ?_, .inr ⟨b, o, c, _, T, f, by simp, hf, by simpa using hc, set_self hb, ?_, ht, ?_⟩⟩, Keep.set hf⟩
    · simp only [ixS]; rw [if_pos ⟨by omega, by omega⟩]; rfl
    · intro y hy
      rcases List.mem_or_eq_of_mem_set hy with hy | rfl
      · exact g1 y hy
      · exact hx
    · intro y hy
      rcases List.mem_or_eq_of_mem_set hy with hy | rfl
      · exact g2 y hy
      · exact h1
    · rw [spl_size hsz]; exact hle
    · rw [List.length_set, flat_set g1 hi, ← hl]
      unfold spl
      have hlo : o + i * n ≤ cs.toList.length := by simp; omega
      have e1 : (List.take (o + i * n) cs.toList).drop o = (cs.toList.drop o).take (i * n) := by rw [List.drop_take, Nat.add_sub_cancel_left]
      have e2 : cs.toList.drop (o + i * n + x.toArray.size) = (cs.toList.drop o).drop ((i + 1) * n) := by
        rw [List.drop_drop]; congr 1; simp only [List.size_toArray, hx]; omega
      show ((List.take (o + i * n) cs.toList ++ x ++ cs.toList.drop (o + i * n + x.toArray.size)).drop o).take (xs.length * n) = _
      rw [List.append_assoc, List.drop_append_of_le_length (by simp; omega), e1, e2]
      generalize hL : cs.toList.drop o = L
      have hLl : xs.length * n ≤ L.length := by rw [← hL]; simp; omega
      have hA : (L.take (i * n) ++ x).length = (i + 1) * n := by rw [List.length_append, List.length_take, hx]; omega
      rw [← List.append_assoc, List.take_append, hA, List.take_of_length_le (by omega), List.take_take, Nat.min_eq_left (by omega), List.drop_take]

def Vers (P : Nat → Prop) (H : Heap) (v : Value) (xs : List Ver) : Prop := SlE 4 P H v (xs.map verC) ∧ ∀ x ∈ xs, x.wf
theorem Vers.keep {P S : Nat → Prop} {H H' : Heap} {v : Value} {xs : List Ver} (h : Vers P H v xs) (k : Keep S H H') (hs : ∀ b, P b → ¬ S b) : Vers P H' v xs := ⟨h.1.keep k hs, h.2⟩
theorem Vers.len {P : Nat → Prop} {H : Heap} {v : Value} {xs : List Ver} (h : Vers P H v xs) : lenV v = some (.int .i64 xs.length) := by have := h.1.len; simpa using this
theorem Vers.at {P : Nat → Prop} {H : Heap} {v : Value} {xs : List Ver} (h : Vers P H v xs) {i : Nat} {x : Ver} (hi : xs[i]? = some x) : x.wf ∧ ∃ b o, (∀ k, ixS 4 v (.int k i) = some (Ptr b o)) ∧ Pt H b o (verC x) ∧ P b :=
  ⟨h.2 x (List.mem_of_getElem? hi), h.1.at (x := verC x) (by rw [List.getElem?_map, hi]; rfl)⟩
/-- an owned slice of versions -/
def VBuf (F : Nat → Prop) (H : Heap) (v : Value) (xs : List Ver) : Prop := BufE 4 F H v (xs.map verC) ∧ ∀ x ∈ xs, x.wf
theorem VBuf.keep {F S : Nat → Prop} {H H' : Heap} {v : Value} {xs : List Ver} (h : VBuf F H v xs) (k : Keep S H H') (hs : ∀ b, F b → ¬ S b) : VBuf F H' v xs := ⟨h.1.keep k hs, h.2⟩
theorem VBuf.set {F : Nat → Prop} {H : Heap} {v : Value} {xs : List Ver} (h : VBuf F H v xs) {i : Nat} (hi : i < xs.length) {x : Ver} (hx : x.wf) :
    ∃ p H', (∀ k, ixS 4 v (.int k i) = some p) ∧ stN 4 H p (.agg (verC x).toArray) = some H' ∧ VBuf F H' v (xs.set i x) ∧ Keep F H H' := by
  obtain ⟨p, H', h1, h2, h3, h4⟩ := h.1.set (i := i) (by simpa using hi) (verC_len hx) verC_one
  refine ⟨p, H', h1, h2, ⟨by rw [List.map_set]; exact h3, fun y hy => ?_⟩, h4⟩
  rcases List.mem_or_eq_of_mem_set hy with hy | rfl
  · exact h.2 y hy
  · exact hx
/-- v[:i] of an owned slice -/
theorem VBuf.cut {F : Nat → Prop} {H : Heap} {v : Value} {xs : List Ver} (h : VBuf F H v xs) {i : Nat} (hi : i ≤ xs.length) (hne : xs ≠ []) : ∃ u, slS 4 v none (some (.int .i64 (i : Nat))) none = some u ∧ Vers F H u (xs.take i) := by
  obtain ⟨u, h1, h2⟩ := h.1.sl.cut (lo := 0) (hi := i) (l := none) (r := some (.int .i64 (i : Nat))) (by simpa using hne) (Nat.zero_le _) (by simpa using hi) rfl (fun c hc => by
    simp at hc
    simp only [bnd]; rw [if_pos ⟨by omega, by omega⟩]; rfl)
  refine ⟨u, h1, by rw [List.map_take]; simpa using h2, fun x hx => h.2 x (List.mem_of_mem_take hx)⟩
end Go.Proofs.YtanhgihfgmbojaaGreatDoor

/- solve: the search, by definition. -/
namespace Go.Proofs.YtanhgihfgmbojaaGreatDoor
open Go.X Go.X.Diff
set_option maxRecDepth 100000

/- slices.SortFunc of few elements: each is moved ahead of those that stand behind it -/
section
variable {α : Type}
def insR (lt : α → α → Bool) (x : α) : List α → List α
  | [] => [x]
  | y :: ys => if lt x y = true then y :: insR lt x ys else x :: y :: ys
def isortR (lt : α → α → Bool) (l : List α) : List α := l.foldl (fun acc x => insR lt x acc) []
def isort (lt : α → α → Bool) (l : List α) : List α := (isortR lt l).reverse
theorem insR_mem {lt : α → α → Bool} {x y : α} : ∀ {l : List α}, y ∈ insR lt x l ↔ y = x ∨ y ∈ l
  | [] => by simp [insR]
  | z :: l => by
    rw [insR]
    split
    · rw [List.mem_cons, insR_mem, List.mem_cons]
      constructor
      · rintro (h | h | h) <;> simp [h]
      · rintro (h | h | h) <;> simp [h]
    · simp
theorem insR_len {lt : α → α → Bool} {x : α} : ∀ {l : List α}, (insR lt x l).length = l.length + 1
  | [] => rfl
  | z :: l => by
    rw [insR]
    split
    · rw [List.length_cons, insR_len]; rfl
    · rfl
theorem isortR_snoc {lt : α → α → Bool} {l : List α} {x : α} : isortR lt (l ++ [x]) = insR lt x (isortR lt l) := by unfold isortR; rw [List.foldl_append]; rfl
theorem snoc_ind {P : List α → Prop} (h0 : P []) (h1 : ∀ l x, P l → P (l ++ [x])) : ∀ l, P l := fun l => by
  rw [← List.reverse_reverse l]
  induction l.reverse with
  | nil => exact h0
  | cons x r ih => rw [List.reverse_cons]; exact h1 _ _ ih
theorem isortR_mem {lt : α → α → Bool} {y : α} {l : List α} : y ∈ isortR lt l ↔ y ∈ l := by
  induction l using snoc_ind with
  | h0 => simp [isortR]
  | h1 l x ih => rw [isortR_snoc, insR_mem, ih, List.mem_append, List.mem_singleton]; exact Or.comm
theorem isort_mem {lt : α → α → Bool} {y : α} {l : List α} : y ∈ isort lt l ↔ y ∈ l := by unfold isort; rw [List.mem_reverse, isortR_mem]
theorem isort_len {lt : α → α → Bool} {l : List α} : (isort lt l).length = l.length := by
  unfold isort
  rw [List.length_reverse]
  induction l using snoc_ind with
  | h0 => rfl
  | h1 l x ih => rw [isortR_snoc, insR_len, ih]; simp
theorem insR_perm {lt : α → α → Bool} {x : α} : ∀ {l : List α}, (insR lt x l).Perm (x :: l)
  | [] => .refl _
  | z :: l => by
    rw [insR]
    split
    · exact (insR_perm.cons z).trans (.swap x z l)
    · exact .refl _
theorem isort_perm {lt : α → α → Bool} {l : List α} : (isort lt l).Perm l := by
  unfold isort
  refine (List.reverse_perm _).trans ?_
  induction l using snoc_ind with
  | h0 => exact .refl _
  | h1 l x ih =>
    rw [isortR_snoc]
    refine insR_perm.trans ((ih.cons x).trans ?_)
    exact (List.perm_append_singleton x l).symm
/-- sorted by a comparison of keys -/
theorem insR_sorted {β : Type} {c : β → β → Int} (hc : Ord3 c) (f : α → β) {x : α} : ∀ {l : List α}, l.Pairwise (fun a b => c (f b) (f a) ≤ 0) → (insR (fun a b => decide (c (f a) (f b) < 0)) x l).Pairwise fun a b => c (f b) (f a) ≤ 0
  | [], _ => by simp [insR]
  | z :: l, h => by
    obtain ⟨h1, h2⟩ := List.pairwise_cons.1 h
    rw [insR]
    split
    · rename_i hlt
      refine List.pairwise_cons.2 ⟨fun y hy => ?_, insR_sorted hc f h2⟩
      rcases insR_mem.1 hy with rfl | hy
      · exact Int.le_of_lt (by simpa using hlt)
      · exact h1 y hy
    · rename_i hlt
      have hz : c (f z) (f x) ≤ 0 := by
        have := hc.turn (f x) (f z)
        have h3 : ¬ c (f x) (f z) < 0 := by simpa using hlt
        omega
      refine List.pairwise_cons.2 ⟨fun y hy => ?_, h⟩
      rcases List.mem_cons.1 hy with rfl | hy
      · exact hz
      · exact hc.trans (h1 y hy) hz
theorem isort_sorted {β : Type} {c : β → β → Int} (hc : Ord3 c) (f : α → β) {l : List α} : (isort (fun a b => decide (c (f a) (f b) < 0)) l).Pairwise fun a b => c (f a) (f b) ≤ 0 := by
  unfold isort
  rw [List.pairwise_reverse]
  induction l using snoc_ind with
  | h0 => exact List.Pairwise.nil
  | h1 l x ih => rw [isortR_snoc]; exact insR_sorted hc f ih
end

/- WHAT A SEARCH IS -/
def zMan : Man := ⟨[], zeroV, [], [], []⟩
def gM (hv : List Man) (k : Nat) : Man := hv.getD k zMan
def fitM (d : Dep) (m : Man) : Bool := decide (m.name = d.name) && (wantOk d.want && verOk m.ver && fitsF d.want.op d.want.ver m.ver)
def refM (a b : Man) : Bool := a.conf.any fun d => fitM d b
def clashF (hv : List Man) (ch : List Nat) (k : Nat) : Bool := ch.any fun i => refM (gM hv i) (gM hv k) || refM (gM hv k) (gM hv i)
def ofF (hv : List Man) (ch : List Nat) (nm : List UInt8) : Option Nat := ch.find? fun k => decide ((gM hv k).name = nm)
def newLt (hv : List Man) (a b : Nat) : Bool := decide (cmpV (gM hv b).ver (gM hv a).ver < 0)
def fitsL (hv : List Man) (d : Dep) : List Nat := (List.range hv.length).filter fun i => fitM d (gM hv i)
def candF (hv : List Man) (d : Dep) : List Nat := isort (newLt hv) (fitsL hv d)
inductive Res where
  | ok (l : List Nat) | fail | over
inductive St where
  | sol (ch : List Nat) (ws : List Dep)
  | tri (ch : List Nat) (ws : List Dep) (ks : List Nat)
inductive Run (hv : List Man) (bd : Nat) : St → Nat → Res → Nat → Prop where
  | done {ch : List Nat} {s : Nat} : Run hv bd (.sol ch []) s (.ok ch) s
  | has {ch : List Nat} {d : Dep} {ws : List Dep} {s s' k : Nat} {r : Res} (h1 : ofF hv ch d.name = some k) (h2 : fitM d (gM hv k) = true) (h : Run hv bd (.sol ch ws) s r s') : Run hv bd (.sol ch (d :: ws)) s r s'
  | no {ch : List Nat} {d : Dep} {ws : List Dep} {s k : Nat} (h1 : ofF hv ch d.name = some k) (h2 : fitM d (gM hv k) = false) : Run hv bd (.sol ch (d :: ws)) s .fail s
  | go {ch : List Nat} {d : Dep} {ws : List Dep} {s s' : Nat} {r : Res} (h1 : ofF hv ch d.name = none) (h : Run hv bd (.tri ch ws (candF hv d)) s r s') : Run hv bd (.sol ch (d :: ws)) s r s'
  | none {ch : List Nat} {ws : List Dep} {s : Nat} : Run hv bd (.tri ch ws []) s .fail s
  | over {ch : List Nat} {ws : List Dep} {k : Nat} {ks : List Nat} : Run hv bd (.tri ch ws (k :: ks)) bd .over bd
  | clash {ch : List Nat} {ws : List Dep} {s s' k : Nat} {ks : List Nat} {r : Res} (h1 : s ≠ bd) (h2 : clashF hv ch k = true) (h : Run hv bd (.tri ch ws ks) (s + 1) r s') : Run hv bd (.tri ch ws (k :: ks)) s r s'
  | down {ch : List Nat} {ws : List Dep} {s s' k : Nat} {ks : List Nat} {r : Res} (h1 : s ≠ bd) (h2 : clashF hv ch k = false) (h : Run hv bd (.sol (ch ++ [k]) (ws ++ (gM hv k).deps)) (s + 1) r s') (hr : r ≠ .fail) : Run hv bd (.tri ch ws (k :: ks)) s r s'
  | back {ch : List Nat} {ws : List Dep} {s s1 s' k : Nat} {ks : List Nat} {r : Res} (h1 : s ≠ bd) (h2 : clashF hv ch k = false) (h : Run hv bd (.sol (ch ++ [k]) (ws ++ (gM hv k).deps)) (s + 1) .fail s1) (h' : Run hv bd (.tri ch ws ks) s1 r s') : Run hv bd (.tri ch ws (k :: ks)) s r s'
theorem Run.det {hv : List Man} {bd : Nat} {st : St} {s s1 : Nat} {r : Res} (h : Run hv bd st s r s1) : ∀ {r' : Res} {s2 : Nat}, Run hv bd st s r' s2 → r = r' ∧ s1 = s2 := by
  induction h with
  | done => intro r' s2 k; cases k; exact ⟨rfl, rfl⟩
  | has h1 h2 _ ih =>
    intro r' s2 k
    cases k with
    | has k1 k2 k => exact ih k
    | no k1 k2 => rw [h1] at k1; cases k1; rw [h2] at k2; cases k2
    | go k1 k => rw [h1] at k1; cases k1
  | no h1 h2 =>
    intro r' s2 k
    cases k with
    | has k1 k2 k => rw [h1] at k1; cases k1; rw [h2] at k2; cases k2
    | no k1 k2 => exact ⟨rfl, rfl⟩
    | go k1 k => rw [h1] at k1; cases k1
  | go h1 _ ih =>
    intro r' s2 k
    cases k with
    | has k1 k2 k => rw [h1] at k1; cases k1
    | no k1 k2 => rw [h1] at k1; cases k1
    | go k1 k => exact ih k
  | none => intro r' s2 k; cases k; exact ⟨rfl, rfl⟩
  | over =>
    intro r' s2 k
    cases k with
    | over => exact ⟨rfl, rfl⟩
    | clash h1 => exact absurd rfl h1
    | down h1 => exact absurd rfl h1
    | back h1 => exact absurd rfl h1
  | clash h1 h2 _ ih =>
    intro r' s2 k
    cases k with
    | over => exact absurd rfl h1
    | clash k1 k2 k => exact ih k
    | down k1 k2 => rw [h2] at k2; cases k2
    | back k1 k2 => rw [h2] at k2; cases k2
  | down h1 h2 _ hr ih =>
    intro r' s2 k
    cases k with
    | over => exact absurd rfl h1
    | clash k1 k2 k => rw [h2] at k2; cases k2
    | down k1 k2 k => exact ih k
    | back k1 k2 k k' => exact absurd (ih k).1 hr
  | back h1 h2 _ _ ih ih' =>
    intro r' s2 k
    cases k with
    | over => exact absurd rfl h1
    | clash k1 k2 k => rw [h2] at k2; cases k2
    | down k1 k2 k hr => exact absurd (ih k).1.symm hr
    | back k1 k2 k k' =>
      obtain ⟨_, rfl⟩ := ih k
      exact ih' k'

/- what is left to be tried, the last point first -/
structure Pnt where
  ch : List Nat
  ws : List Dep
  ks : List Nat
def Fin' (hv : List Man) (bd : Nat) : List Pnt → Res → Nat → Res → Nat → Prop
  | [], r, s, R, S => R = r ∧ S = s
  | p :: ps, r, s, R, S => (r = .fail ∧ ∃ r' s', Run hv bd (.tri p.ch p.ws p.ks) s r' s' ∧ Fin' hv bd ps r' s' R S) ∨ (r ≠ .fail ∧ R = r ∧ S = s)
theorem Fin'.stop {hv : List Man} {bd : Nat} {ps : List Pnt} {r : Res} {s : Nat} (h : r ≠ .fail) : Fin' hv bd ps r s r s := by
  cases ps with
  | nil => exact ⟨rfl, rfl⟩
  | cons p ps => exact .inr ⟨h, rfl, rfl⟩
/-- forward: what comes of it is what comes of all -/
def Fwd (hv : List Man) (bd : Nat) (G : Res → Nat → Prop) (ch : List Nat) (ws : List Dep) (ps : List Pnt) (s : Nat) : Prop := ∀ r s' R S, Run hv bd (.sol ch ws) s r s' → Fin' hv bd ps r s' R S → G R S
def Bck (hv : List Man) (bd : Nat) (G : Res → Nat → Prop) (ps : List Pnt) (s : Nat) : Prop := ∀ R S, Fin' hv bd ps .fail s R S → G R S
section
variable {hv : List Man} {bd : Nat} {G : Res → Nat → Prop} {ch : List Nat} {ws : List Dep} {ps : List Pnt} {s : Nat} {d : Dep} {k : Nat} {ks : List Nat}
theorem Fwd.start : Fwd hv bd (fun R S => Run hv bd (.sol ch ws) s R S) ch ws [] s := fun r s' R S h ⟨h1, h2⟩ => by subst h1 h2; exact h
theorem Fwd.done (h : Fwd hv bd G ch [] ps s) : G (.ok ch) s := h _ _ _ _ .done (.stop (by simp))
theorem Fwd.has (h : Fwd hv bd G ch (d :: ws) ps s) (h1 : ofF hv ch d.name = some k) (h2 : fitM d (gM hv k) = true) : Fwd hv bd G ch ws ps s := fun r s' R S hr hf => h r s' R S (.has h1 h2 hr) hf
theorem Fwd.no (h : Fwd hv bd G ch (d :: ws) ps s) (h1 : ofF hv ch d.name = some k) (h2 : fitM d (gM hv k) = false) : Bck hv bd G ps s := fun R S hf => h _ _ R S (.no h1 h2) hf
theorem Fwd.push (h : Fwd hv bd G ch (d :: ws) ps s) (h1 : ofF hv ch d.name = none) : Bck hv bd G (⟨ch, ws, candF hv d⟩ :: ps) s := fun R S hf => by
  rcases hf with ⟨_, r', s', hr, hf⟩ | ⟨hn, _⟩
  · exact h r' s' R S (.go h1 hr) hf
  · exact absurd rfl hn
theorem Bck.fail (h : Bck hv bd G [] s) : G .fail s := h _ _ ⟨rfl, rfl⟩
theorem Bck.pop (h : Bck hv bd G (⟨ch, ws, []⟩ :: ps) s) : Bck hv bd G ps s := fun R S hf => h R S (.inl ⟨rfl, .fail, s, .none, hf⟩)
theorem Bck.over (h : Bck hv bd G (⟨ch, ws, k :: ks⟩ :: ps) bd) : G .over bd := h _ _ (.inl ⟨rfl, .over, bd, .over, .stop (by simp)⟩)
theorem Bck.clash (h : Bck hv bd G (⟨ch, ws, k :: ks⟩ :: ps) s) (h1 : s ≠ bd) (h2 : clashF hv ch k = true) : Bck hv bd G (⟨ch, ws, ks⟩ :: ps) (s + 1) := fun R S hf => by
  rcases hf with ⟨_, r', s', hr, hf⟩ | ⟨hn, _⟩
  · exact h R S (.inl ⟨rfl, r', s', .clash h1 h2 hr, hf⟩)
  · exact absurd rfl hn
theorem Bck.down (h : Bck hv bd G (⟨ch, ws, k :: ks⟩ :: ps) s) (h1 : s ≠ bd) (h2 : clashF hv ch k = false) : Fwd hv bd G (ch ++ [k]) (ws ++ (gM hv k).deps) (⟨ch, ws, ks⟩ :: ps) (s + 1) := fun r s' R S hr hf => by
  rcases hf with ⟨rfl, r', s2, hr2, hf⟩ | ⟨hn, rfl, rfl⟩
  · exact h R S (.inl ⟨rfl, r', s2, .back h1 h2 hr hr2, hf⟩)
  · exact h R S (.inl ⟨rfl, R, S, .down h1 h2 hr hn, .stop hn⟩)
end

/- what is known of what is found -/
theorem fitM_name {d : Dep} {m : Man} (h : fitM d m = true) : m.name = d.name := by
  unfold fitM at h
  simp only [Bool.and_eq_true, decide_eq_true_eq] at h
  exact h.1
theorem mem_cand {hv : List Man} {d : Dep} {k : Nat} : k ∈ candF hv d ↔ k < hv.length ∧ fitM d (gM hv k) = true := by
  unfold candF fitsL
  rw [isort_mem, List.mem_filter, List.mem_range]
theorem cand_len {hv : List Man} {d : Dep} : (candF hv d).length ≤ hv.length := by
  unfold candF fitsL
  rw [isort_len]
  exact Nat.le_trans (List.length_filter_le _ _) (by simp)
theorem of_some {hv : List Man} {ch : List Nat} {nm : List UInt8} {k : Nat} (h : ofF hv ch nm = some k) : k ∈ ch ∧ (gM hv k).name = nm := by
  have h1 := List.mem_of_find?_eq_some h
  have h2 := List.find?_some h
  exact ⟨h1, by simpa using h2⟩
theorem of_none {hv : List Man} {ch : List Nat} {nm : List UInt8} (h : ofF hv ch nm = none) : ∀ k ∈ ch, (gM hv k).name ≠ nm := by
  intro k hk
  have := List.find?_eq_none.1 h k hk
  simpa using this
/-- places of packages of different names -/
def Names (hv : List Man) (ch : List Nat) : Prop := (∀ k ∈ ch, k < hv.length) ∧ (ch.map fun k => (gM hv k).name).Nodup
theorem Names.nil {hv : List Man} : Names hv [] := ⟨fun k h => absurd h (by simp), List.nodup_nil⟩
theorem Names.add {hv : List Man} {ch : List Nat} {d : Dep} {k : Nat} (h : Names hv ch) (h1 : ofF hv ch d.name = none) (hk : k ∈ candF hv d) : Names hv (ch ++ [k]) := by
  obtain ⟨k1, k2⟩ := mem_cand.1 hk
  refine ⟨fun j hj => ?_, ?_⟩
  · rcases List.mem_append.1 hj with hj | hj
    · exact h.1 j hj
    · simp at hj; subst hj; exact k1
  · rw [List.map_append, List.nodup_append]
    refine ⟨h.2, by simp, fun a ha b hb e => ?_⟩
    subst e
    obtain ⟨j, hj, rfl⟩ := List.mem_map.1 ha
    simp at hb
    exact of_none h1 j hj (by rw [hb, fitM_name k2])
theorem nodup_le : ∀ (n : Nat) {l : List Nat}, l.Nodup → (∀ k ∈ l, k < n) → l.length ≤ n
  | 0, l, _, h => by
    cases l with
    | nil => simp
    | cons a l => exact absurd (h a (by simp)) (by omega)
  | n + 1, l, hn, h => by
    have h1 := nodup_le n (l := l.erase n) (hn.erase n) fun k hk => by
      have := (hn.mem_erase_iff).1 hk
      have := h k this.2
      omega
    have := List.length_erase (a := n) (l := l)
    split at this <;> omega
theorem Names.nodup {hv : List Man} {ch : List Nat} (h : Names hv ch) : ch.Nodup := (List.pairwise_map.1 h.2).imp fun hne e => hne (by rw [e])
theorem Names.len {hv : List Man} {ch : List Nat} (h : Names hv ch) : ch.length ≤ hv.length := nodup_le _ h.nodup h.1
end Go.Proofs.YtanhgihfgmbojaaGreatDoor

