/- Rules: rows of cells behind an address, slices whose elements bear several cells each, owned buffers of such. -/
import Derived.Test.YtmhfanpijdgkjaaDoorXM
namespace Go.X

/-- block b, from o on, reads cs -/
def Pt (H : Heap) (b o : Nat) (cs : List Value) : Prop :=
  ∃ c T f, H[b]? = some (.cells c T f) ∧ o + cs.length ≤ c.size ∧ (c.toList.drop o).take cs.length = cs
theorem Pt.lt {H : Heap} {b o : Nat} {cs : List Value} (h : Pt H b o cs) : b < H.size := by obtain ⟨c, T, f, hb, _⟩ := h; exact lt_of hb
theorem Pt.keep {S : Nat → Prop} {H H' : Heap} {b o : Nat} {cs : List Value} (h : Pt H b o cs) (k : Keep S H H') (hs : ¬ S b) : Pt H' b o cs := by
  obtain ⟨c, T, f, hb, h1, h2⟩ := h; exact ⟨c, T, f, k.at hb hs, h1, h2⟩
theorem Pt.of {H : Heap} {b : Nat} {cs : List Value} {T : TypeId} {f : Nat × Nat} (h : H[b]? = some (.cells cs.toArray T f)) : Pt H b 0 cs := ⟨_, T, f, h, by simp, by simp⟩
theorem Pt.cell {H : Heap} {b o i : Nat} {cs : List Value} {v : Value} (h : Pt H b o cs) (hi : cs[i]? = some v) : ld1 H (Ptr b (o + i)) = some v := by
  obtain ⟨c, T, f, hb, h1, h2⟩ := h
  have hlt := (List.getElem?_eq_some_iff.1 hi).1
  rw [ld1_at hb]
  rw [← h2, List.getElem?_take, if_pos hlt, List.getElem?_drop] at hi
  rw [← hi]; simp
theorem Pt.cell0 {H : Heap} {b o : Nat} {cs : List Value} {v : Value} (h : Pt H b o cs) (hi : cs[0]? = some v) : ld1 H (Ptr b o) = some v := h.cell (i := 0) hi
theorem Pt.sub {H : Heap} {b o i n : Nat} {cs : List Value} (h : Pt H b o cs) (hi : i + n ≤ cs.length) : Pt H b (o + i) ((cs.drop i).take n) := by
  obtain ⟨c, T, f, hb, h1, h2⟩ := h
  have hl : ((cs.drop i).take n).length = n := by simp; omega
  refine ⟨c, T, f, hb, by rw [hl]; omega, ?_⟩
  rw [hl, ← List.drop_drop]
  rw [← h2, List.drop_take, List.take_take, Nat.min_eq_left (by omega)]
theorem Pt.mid {H : Heap} {b o o' : Nat} {A B C : List Value} (h : Pt H b o (A ++ B ++ C)) (ho : o' = o + A.length) : Pt H b o' B := by
  subst ho
  have := h.sub (i := A.length) (n := B.length) (by simp)
  simpa [List.append_assoc, List.drop_append, List.take_append] using this
theorem Pt.agg {H : Heap} {b o n : Nat} {cs : List Value} (h : Pt H b o cs) (hn : cs.length = n) : ldN n H (Ptr b o) = some (.agg cs.toArray) := by
  subst hn
  obtain ⟨c, T, f, hb, h1, h2⟩ := h
  rw [ldN_at hb _ _ h1]
  congr 2
  apply Array.ext'
  simpa using h2

/- ROWS OF ELEMENTS -/
section
variable {n : Nat} {xs : List (List Value)}
theorem flat_len (h : ∀ x ∈ xs, x.length = n) : xs.flatten.length = xs.length * n := by
  induction xs with
  | nil => simp
  | cons x xs ih =>
    simp only [List.flatten_cons, List.length_append, List.length_cons, ih fun y hy => h y (by simp [hy]), h x (by simp), Nat.succ_mul]; omega
theorem flat_drop (h : ∀ x ∈ xs, x.length = n) (i : Nat) : (xs.drop i).flatten = xs.flatten.drop (i * n) := by
  induction i generalizing xs with
  | zero => simp
  | succ i ih => cases xs with
    | nil => simp
    | cons x xs =>
      have hx := h x (by simp)
      rw [List.drop_succ_cons, ih fun y hy => h y (by simp [hy]), List.flatten_cons, Nat.succ_mul]
      have e : (x ++ xs.flatten).drop (i * n + n) = x.drop (i * n + n) ++ xs.flatten.drop (i * n + n - x.length) := List.drop_append
      rw [e, List.drop_eq_nil_of_le (show x.length ≤ i * n + n by rw [hx]; omega), List.nil_append]
      congr 1; omega
theorem flat_take (h : ∀ x ∈ xs, x.length = n) (i : Nat) : (xs.take i).flatten = xs.flatten.take (i * n) := by
  induction i generalizing xs with
  | zero => simp
  | succ i ih => cases xs with
    | nil => simp
    | cons x xs =>
      have hx := h x (by simp)
      rw [List.take_succ_cons, List.flatten_cons, ih fun y hy => h y (by simp [hy]), List.flatten_cons, Nat.succ_mul]
      have e : (x ++ xs.flatten).take (i * n + n) = x.take (i * n + n) ++ xs.flatten.take (i * n + n - x.length) := List.take_append
      rw [e, List.take_of_length_le (show x.length ≤ i * n + n by rw [hx]; omega)]
      congr 2; omega
theorem flat_get (h : ∀ x ∈ xs, x.length = n) {i : Nat} {x : List Value} (hi : xs[i]? = some x) : (xs.flatten.drop (i * n)).take n = x := by
  rw [← flat_drop h]
  obtain ⟨hlt, rfl⟩ := List.getElem?_eq_some_iff.1 hi
  rw [List.drop_eq_getElem_cons hlt, List.flatten_cons]
  have hx := h xs[i] (by simp)
  rw [List.take_append_of_le_length (by omega), List.take_of_length_le (by omega)]
end

/-- a slice whose elements are rows of n cells each, in blocks of P -/
structure SlE (n : Nat) (P : Nat → Prop) (H : Heap) (v : Value) (xs : List (List Value)) : Prop where
  ex : ∃ a c, v = .slice a xs.length c ∧ xs.length ≤ c ∧ (xs = [] ∨ ∃ b o, a = some ⟨b, o, none⟩ ∧ P b ∧ Pt H b o xs.flatten)
  el : ∀ x ∈ xs, x.length = n
  one : ∀ x ∈ xs, ∀ c ∈ x, c.oneCell' = true
section
variable {n : Nat} {P : Nat → Prop} {H : Heap} {v : Value} {xs : List (List Value)}
theorem SlE.nil {a : Option Addr} {c : Nat} : SlE n P H (.slice a 0 c) [] := ⟨⟨a, c, rfl, Nat.zero_le _, .inl rfl⟩, fun x h => (by cases h), fun x h => (by cases h)⟩
theorem SlE.keep {S : Nat → Prop} {H' : Heap} (h : SlE n P H v xs) (k : Keep S H H') (hs : ∀ b, P b → ¬ S b) : SlE n P H' v xs := by
  obtain ⟨⟨a, c, hv, hc, hx⟩, h2, h3⟩ := h
  refine ⟨⟨a, c, hv, hc, hx.imp id ?_⟩, h2, h3⟩
  rintro ⟨b, o, rfl, hP, hp⟩
  exact ⟨b, o, rfl, hP, hp.keep k (hs _ hP)⟩
theorem SlE.mono {Q : Nat → Prop} (h : SlE n P H v xs) (k : ∀ b, P b → Q b) : SlE n Q H v xs := by
  obtain ⟨⟨a, c, hv, hc, hx⟩, h2, h3⟩ := h
  refine ⟨⟨a, c, hv, hc, hx.imp id ?_⟩, h2, h3⟩
  rintro ⟨b, o, rfl, hP, hp⟩
  exact ⟨b, o, rfl, k _ hP, hp⟩
theorem SlE.len (h : SlE n P H v xs) : lenV v = some (.int .i64 xs.length) := by obtain ⟨⟨a, c, rfl, _⟩, _⟩ := h; rfl
theorem SlE.oneC (h : SlE n P H v xs) : v.oneCell' = true := by obtain ⟨⟨a, c, rfl, _⟩, _⟩ := h; rfl
theorem SlE.elems (h : SlE n P H v xs) : elemsOf n H v = some (xs.length, xs.flatten.toArray) := by
  obtain ⟨⟨a, c, rfl, hc, hx⟩, h2, h3⟩ := h
  unfold elemsOf
  rcases hx with rfl | ⟨b, o, rfl, _, c', T, f, hb, h4, h5⟩
  · simp
  · have hl := flat_len h2
    by_cases h0 : xs.length = 0
    · have : xs = [] := List.length_eq_zero_iff.1 h0
      subst this; simp
    · simp only [hb, if_neg h0]
      rw [hl] at h4 h5
      rw [if_pos h4]
      congr 2
      apply Array.ext'
      simpa using h5
theorem SlE.all (h : SlE n P H v xs) : xs.flatten.toArray.all (·.oneCell') = true := by
  rw [Array.all_eq_true_iff_forall_mem]; intro c hc
  simp only [List.mem_toArray, List.mem_flatten] at hc
  obtain ⟨x, hx, hc⟩ := hc
  exact h.one x hx c hc
/-- v[i] -/
theorem SlE.at (h : SlE n P H v xs) {i : Nat} {x : List Value} (hi : xs[i]? = some x) : ∃ b o, (∀ k, ixS n v (.int k i) = some (Ptr b o)) ∧ Pt H b o x ∧ P b := by
  obtain ⟨⟨a, c, rfl, hc, hx⟩, h2, h3⟩ := h
  have hlt := (List.getElem?_eq_some_iff.1 hi).1
  rcases hx with rfl | ⟨b, o, rfl, hP, hp⟩
  · simp at hlt
  · refine ⟨b, o + i * n, fun k => ?_, ?_, hP⟩
    · simp only [ixS]; rw [if_pos ⟨by omega, by omega⟩]; rfl
    · have := hp.sub (i := i * n) (n := n) (by rw [flat_len h2]; have := Nat.mul_le_mul_right n (show i + 1 ≤ xs.length by omega); rw [Nat.succ_mul] at this; exact this)
      rwa [flat_get h2 hi] at this
/-- v[lo:hi] -/
theorem SlE.cut (h : SlE n P H v xs) (hne : xs ≠ []) {lo hi : Nat} (h1 : lo ≤ hi) (h2 : hi ≤ xs.length) {l r : Option Value} (hl : bnd 0 hi l = some lo) (hr : ∀ c, xs.length ≤ c → bnd xs.length c r = some hi) : ∃ u, slS n v l r none = some u ∧ SlE n P H u ((xs.take hi).drop lo) := by
  obtain ⟨⟨a, c, rfl, hc, hx⟩, he, ho⟩ := h
  have hb : bnds xs.length c l r none = some (lo, hi, c) := by
    unfold bnds
    rw [show bnd c c none = some c from rfl]
    simp only [Option.bind_some, hr c hc, hl, Option.map_some]
  have hlen : ((xs.take hi).drop lo).length = hi - lo := by simp; omega
  have el' : ∀ x ∈ (xs.take hi).drop lo, x.length = n := fun x hx => he x (List.mem_of_mem_take (List.mem_of_mem_drop hx))
  have one' : ∀ x ∈ (xs.take hi).drop lo, ∀ c ∈ x, c.oneCell' = true := fun x hx => ho x (List.mem_of_mem_take (List.mem_of_mem_drop hx))
  rcases hx with rfl | ⟨b, o, rfl, hP, hp⟩
  · exact absurd rfl hne
  · refine ⟨.slice (some ⟨b, if c = lo then o else o + lo * n, none⟩) (hi - lo) (c - lo), by simp [slS, hb], ⟨_, c - lo, by rw [hlen], by rw [hlen]; omega, ?_⟩, el', one'⟩
    by_cases h0 : hi = lo
    · left; apply List.length_eq_zero_iff.1; omega
    · right
      rw [if_neg (by omega)]
      refine ⟨b, _, rfl, hP, ?_⟩
      have hle : lo * n + (hi - lo) * n = hi * n := by rw [← Nat.add_mul]; congr 1; omega
      have hle2 := Nat.mul_le_mul_right n h2
      have := hp.sub (i := lo * n) (n := (hi - lo) * n) (by rw [flat_len he]; omega)
      have e : ((xs.take hi).drop lo).flatten = (xs.flatten.drop (lo * n)).take ((hi - lo) * n) := by
        rw [flat_drop (fun x hx => he x (List.mem_of_mem_take hx)), flat_take he, List.drop_take]
        congr 1; omega
      rwa [e]
end

/-- a slice that its holder may append to in place -/
def BufE (n : Nat) (F : Nat → Prop) (H : Heap) (v : Value) (xs : List (List Value)) : Prop :=
  (∀ x ∈ xs, x.length = n) ∧ (∀ x ∈ xs, ∀ c ∈ x, c.oneCell' = true) ∧
  ((v = .slice none 0 0 ∧ xs = []) ∨ ∃ b o c cs T f, v = .slice (some ⟨b, o, none⟩) xs.length c ∧ F b ∧ xs.length ≤ c ∧ H[b]? = some (.cells cs T f) ∧ o + c * n ≤ cs.size ∧ (∀ i n, thaw f i n = true) ∧ (cs.toList.drop o).take (xs.length * n) = xs.flatten)
section
variable {n : Nat} {F : Nat → Prop} {H : Heap} {v : Value} {xs : List (List Value)}
theorem BufE.nil : BufE n F H (.slice none 0 0) [] := ⟨fun x h => (by cases h), fun x h => (by cases h), .inl ⟨rfl, rfl⟩⟩
theorem BufE.sl (h : BufE n F H v xs) : SlE n F H v xs := by
  obtain ⟨h1, h2, h | ⟨b, o, c, cs, T, f, rfl, hf, hc, hb, hle, ht, hl⟩⟩ := h
  · obtain ⟨rfl, rfl⟩ := h; exact SlE.nil
  · refine ⟨⟨_, c, rfl, hc, .inr ⟨b, o, rfl, hf, cs, T, f, hb, ?_, ?_⟩⟩, h1, h2⟩
    · rw [flat_len h1]; have := Nat.mul_le_mul_right n hc; omega
    · rw [flat_len h1]; exact hl
theorem BufE.keep {S : Nat → Prop} {H' : Heap} (h : BufE n F H v xs) (k : Keep S H H') (hs : ∀ b, F b → ¬ S b) : BufE n F H' v xs := by
  obtain ⟨h1, h2, h | ⟨b, o, c, cs, T, f, rfl, hf, hc, hb, hle, ht, hl⟩⟩ := h
  · exact ⟨h1, h2, .inl h⟩
  · exact ⟨h1, h2, .inr ⟨b, o, c, cs, T, f, rfl, hf, hc, k.at hb (hs b hf), hle, ht, hl⟩⟩
theorem BufE.mono {G : Nat → Prop} (h : BufE n F H v xs) (k : ∀ b, F b → G b) : BufE n G H v xs := by
  obtain ⟨h1, h2, h | ⟨b, o, c, cs, T, f, rfl, hf, hr⟩⟩ := h
  · exact ⟨h1, h2, .inl h⟩
  · exact ⟨h1, h2, .inr ⟨b, o, c, cs, T, f, rfl, k _ hf, hr⟩⟩
theorem BufE.fresh {T : TypeId} {c : Nat} {cs : List Value} {f : Nat × Nat} (hb : ∃ b, v = .slice (some ⟨b, 0, none⟩) xs.length c ∧ F b ∧ H[b]? = some (.cells cs.toArray T f)) (hc : xs.length ≤ c) (hle : c * n ≤ cs.length) (ht : ∀ i n, thaw f i n = true) (hl : cs.take (xs.length * n) = xs.flatten)
    (h1 : ∀ x ∈ xs, x.length = n) (h2 : ∀ x ∈ xs, ∀ c ∈ x, c.oneCell' = true) : BufE n F H v xs := by
  obtain ⟨b, rfl, hf, hb⟩ := hb
  exact ⟨h1, h2, .inr ⟨b, 0, c, _, T, f, rfl, hf, hc, hb, by simpa using hle, ht, by simpa using hl⟩⟩

theorem BufE.app {P : Nat → Prop} {s x : Value} {ys : List (List Value)} {T : TypeId} {bytes : Nat} {k : Value → Heap → Prop} (h : BufE n F H s xs) (hx : SlE n P H x ys) (hb0 : 0 < bytes) (hlen : (xs.length + ys.length) * bytes ≤ 140737488355328) (hf : F H.size)
    (hk : ∀ v H', BufE n F H' v (xs ++ ys) → Keep F H H' → k v H') : Mapp T n bytes H s x k := by
  obtain ⟨h1, h2, h⟩ := h
  have el : ∀ x ∈ xs ++ ys, x.length = n := fun x h => (List.mem_append.1 h).elim (h1 x) (hx.el x)
  have one : ∀ x ∈ xs ++ ys, ∀ c ∈ x, c.oneCell' = true := fun x h => (List.mem_append.1 h).elim (h2 x) (hx.one x)
  have fl := flat_len h1
  have fy := flat_len hx.el
  rcases h with ⟨rfl, rfl⟩ | ⟨b, o, c, cs, T', f, rfl, hb', hc, hb, hle, ht, hl⟩
  · refine ⟨none, 0, 0, ys.length, ys.flatten.toArray, rfl, hx.elems, hx.all, fun h0 => ?_, fun h0 => ⟨by simpa using hlen, hb0, #[], rfl, fun cap rest c1 c2 c3 => ?_⟩⟩
    · have : ys = [] := List.length_eq_zero_iff.1 (by omega)
      subst this
      exact hk _ _ ⟨el, one, .inl ⟨rfl, rfl⟩⟩ Keep.refl
    · have hm : ys.length * n + (cap - ys.length) * n = cap * n := by rw [← Nat.add_mul]; congr 1; omega
      refine hk _ _ ⟨el, one, .inr ⟨H.size, 0, cap, _, T, (0, 0), by simp, hf, by simpa using c1, push_new, ?_, fun _ _ => by simp [thaw], ?_⟩⟩ Keep.push
      · simp at c3 ⊢; rw [c3]; simp at fy; rw [fy]; omega
      · simp
        rw [List.take_append_of_le_length (by omega), List.take_of_length_le (by omega)]
  · have hm : xs.length * n + ys.length * n = (xs.length + ys.length) * n := by rw [Nat.add_mul]
    refine ⟨some ⟨b, o, none⟩, xs.length, c, ys.length, ys.flatten.toArray, rfl, hx.elems, hx.all, fun h0 => ?_, fun h0 => ⟨hlen, hb0, xs.flatten.toArray, ?_, fun cap rest c1 c2 c3 => ?_⟩⟩
    · have hcn := Nat.mul_le_mul_right n h0
      have hsz : o + xs.length * n + ys.flatten.toArray.size ≤ cs.size := by simp only [List.size_toArray, fy]; omega
      refine ⟨_, stA_at hb _ _ (ht _ _) hsz hx.all, hk _ _ ⟨el, one, .inr ⟨b, o, c, _, T', f, by simp, hb', by simpa using h0, set_self hb, ?_, ht, ?_⟩⟩ (Keep.set hb')⟩
      · rw [spl_size hsz]; exact hle
      · show ((List.take (o + xs.length * n) cs.toList ++ ys.flatten ++ _).drop o).take ((xs ++ ys).length * n) = _
        have hq : o + xs.length * n ≤ cs.toList.length := by simp; omega
        rw [List.append_assoc, List.drop_append_of_le_length (by simp; omega), List.drop_take, Nat.add_sub_cancel_left, hl, ← List.append_assoc, List.flatten_append, List.length_append, ← hm, ← fl, ← fy, ← List.length_append, List.take_append_of_le_length (by simp), List.take_of_length_le (Nat.le_refl _)]
    · exact (SlE.elems (P := F) ⟨⟨_, c, rfl, hc, .inr ⟨b, o, rfl, hb', cs, T', f, hb, by rw [fl]; have := Nat.mul_le_mul_right n hc; omega, by rw [fl]; exact hl⟩⟩, h1, h2⟩)
    · have hm2 : (xs.length + ys.length) * n + (cap - (xs.length + ys.length)) * n = cap * n := by rw [← Nat.add_mul]; congr 1; omega
      refine hk _ _ ⟨el, one, .inr ⟨H.size, 0, cap, _, T, (0, 0), by simp, hf, by simpa using c1, push_new, ?_, fun _ _ => by simp [thaw], ?_⟩⟩ Keep.push
      · simp only [Array.size_append, List.size_toArray, fl, fy, c3]; omega
      · show ((xs.flatten.toArray ++ ys.flatten.toArray ++ rest).toList.drop 0).take ((xs ++ ys).length * n) = _
        simp only [Array.toList_append, List.drop_zero, List.flatten_append, List.length_append, ← hm, ← fl, ← fy]
        rw [List.take_append_of_le_length (by simp), List.take_of_length_le (by simp)]
end

/- bytes as rows of one cell -/
def rows1 (l : List Value) : List (List Value) := l.map fun v => [v]
@[simp] theorem rows1_len {l : List Value} : (rows1 l).length = l.length := by simp [rows1]
@[simp] theorem rows1_flat {l : List Value} : (rows1 l).flatten = l := by induction l <;> simp_all [rows1]
theorem rows1_el {l : List Value} : ∀ x ∈ rows1 l, x.length = 1 := by
  intro x hx; obtain ⟨v, _, rfl⟩ := List.mem_map.1 hx; rfl
theorem rows1_one {l : List Value} (h : ∀ v ∈ l, v.oneCell' = true) : ∀ x ∈ rows1 l, ∀ c ∈ x, c.oneCell' = true := by
  intro x hx c hc; obtain ⟨v, hv, rfl⟩ := List.mem_map.1 hx; obtain rfl : c = v := by simpa using hc
  exact h _ hv
theorem rows1_get {l : List Value} {i : Nat} {v : Value} (h : l[i]? = some v) : (rows1 l)[i]? = some [v] := by simp [rows1, h]

theorem Buf.mono {F G : Nat → Prop} {H : Heap} {v : Value} {l : List UInt8} (h : Buf F H v l) (k : ∀ b, F b → G b) : Buf G H v l := by
  rcases h with h | ⟨b, o, c, cs, T, f, rfl, hf, hr⟩
  · exact .inl h
  · exact .inr ⟨b, o, c, cs, T, f, rfl, k _ hf, hr⟩
/-- v[:n] -/
theorem Sl.pre {P : Nat → Prop} {H : Heap} {v : Value} {l : List UInt8} (h : Sl P H v l) {n : Nat} (hn : n ≤ l.length) : ∃ u, slS 1 v none (some (.int .i64 n)) none = some u ∧ Sl P H u (l.take n) := by
  rcases h.cases with ⟨a, c, rfl, rfl, ha⟩ | ⟨b, o, c, cs, T, f, rfl, hp, hc, hb, hle, hl⟩
  · have : n = 0 := by simpa using hn
    subst this
    have hb : bnds 0 c none (some (.int .i64 0)) none = some (0, 0, c) := by simp [bnds, bnd]
    rcases a with _ | ⟨b, o, sp⟩
    · exact ⟨.slice none 0 c, by simp [slS, hb], by simpa using Sl.nil⟩
    · obtain rfl : sp = none := ha _ rfl
      refine ⟨.slice (some ⟨b, if c = 0 then o else o + 0 * 1, none⟩) 0 c, by simp [slS, hb], ?_⟩
      exact ⟨by simpa using Bs_nil, ⟨_, c, rfl, Nat.zero_le _, fun x hx => by cases hx; rfl⟩, fun b' hb' => h.own b' (by cases hb'; rfl)⟩
  · have h1 : (n : Int) ≤ c := by omega
    have hb' : bnds l.length c none (some (.int .i64 n)) none = some (0, n, c) := by simp [bnds, bnd, show n ≤ c by omega]
    refine ⟨.slice (some ⟨b, if c = 0 then o else o + 0 * 1, none⟩) n c, by simp [slS, hb'], ⟨Bs.mk hb (by simp [hn]) ?_ ?_, ⟨some ⟨b, if c = 0 then o else o + 0 * 1, none⟩, c, by simp [hn], by simp; omega, fun x hx => by cases hx; rfl⟩, fun b' hb' => by cases hb'; exact hp⟩⟩
    · split <;> omega
    · have : (if c = 0 then o else o + 0 * 1) = o := by split <;> simp
      rw [this, bcells_take, ← hl, List.take_take, Nat.min_eq_left hn]
/-- v[:0] of an owned one -/
theorem Buf.cut0 {F : Nat → Prop} {H : Heap} {v : Value} {l : List UInt8} (h : Buf F H v l) : ∃ u, slS 1 v none (some (.int .i64 0)) none = some u ∧ Buf F H u [] := by
  rcases h with ⟨rfl, rfl⟩ | ⟨b, o, c, cs, T, f, rfl, hf, hc, hb, hle, ht, hl⟩
  · exact ⟨.slice none 0 0, by simp [slS, bnds, bnd], .inl ⟨rfl, rfl⟩⟩
  · have hb' : bnds l.length c none (some (.int .i64 0)) none = some (0, 0, c) := by simp [bnds, bnd]
    have e : (if c = 0 then o else o + 0 * 1) = o := by split <;> simp
    exact ⟨.slice (some ⟨b, if c = 0 then o else o + 0 * 1, none⟩) 0 c, by simp [slS, hb'], .inr ⟨b, _, c, cs, T, f, rfl, hf, Nat.zero_le _, hb, by rw [e]; exact hle, by rw [e]; exact ht, by simp⟩⟩

theorem ld_l {H : Heap} {b : Nat} {cs : List Value} {T : TypeId} {f : Nat × Nat} (h : H[b]? = some (.cells cs.toArray T f)) {i : Nat} {v : Value} (hi : cs[i]? = some v) : ld1 H (Ptr b i) = some v := by
  rw [ld1_at h]; simpa using hi
theorem st_l {H : Heap} {b : Nat} {cs : List Value} {T : TypeId} (h : H[b]? = some (.cells cs.toArray T (0, 0))) {i : Nat} {v : Value} (hi : i < cs.length) (hv : v.oneCell' = true) : st1 H (Ptr b i) v = some (H.setIfInBounds b (.cells (cs.set i v).toArray T (0, 0))) := by
  rw [st1_at h _ _ (by simpa using hi) hv]; simp
theorem ixA_at {n s b o : Nat} {k : IntKind} {i : Nat} (h : i < n) : ixA n s (.pointer (some ⟨b, o, none⟩)) (.int k i) = some (Ptr b (o + i * s)) := by
  simp only [ixA]; rw [if_pos ⟨by omega, by omega⟩]; simp
theorem ixA_at' {n b i : Nat} {k : IntKind} (h : i < n) : ixA n 1 (.pointer (some ⟨b, 0, none⟩)) (.int k i) = some (Ptr b i) := by rw [ixA_at h]; simp

theorem copy0 {H : Heap} {q o n c : Nat} {x : Value} {T : TypeId} {cs : Array Value} {k : Value → Heap → Prop} (hq : H[q]? = some (.cells cs T (0, 0))) (ho : o ≤ cs.size) (hx : elemsOf 1 H x = some (0, #[])) (hk : k (.int .i64 (0 : Nat)) H) : Mcopy 1 H (.slice (some ⟨q, o, none⟩) n c) x k := by
  refine ⟨0, #[], some ⟨q, o, none⟩, n, c, hx, rfl, by simp, ?_⟩
  have e : Nat.min 0 n = 0 := Nat.zero_min n
  show Mwr (stA H q o (#[].extract 0 (Nat.min 0 n * 1))) fun h => k (.int .i64 (Nat.min 0 n : Nat)) h
  rw [e]
  have hst := stA_at hq o (#[].extract 0 (0 * 1)) thaw_00 (by simpa using ho) (by simp)
  have hset : H.setIfInBounds q (.cells (spl cs o (#[].extract 0 (0 * 1))) T (0, 0)) = H := by
    have e2 : spl cs o (#[].extract 0 (0 * 1)) = cs := by simp [spl]
    rw [e2]
    apply Array.ext_getElem?
    intro i
    rw [Array.getElem?_setIfInBounds]
    split
    · rename_i hi; subst hi; rw [hq]; rw [if_pos (lt_of hq)]
    · rfl
  rw [hst, hset, Mwr_some]
  exact hk

/- joins by what holds there -/
theorem J0_i {body : (Heap → Prop) → Prop} {rest : Heap → Prop} (I : Heap → Prop) (h1 : ∀ k : Heap → Prop, (∀ h, I h → k h) → body k) (h2 : ∀ h, I h → rest h) : J0 body rest := h1 rest h2
theorem J1_i {body : (Value → Heap → Prop) → Prop} {rest : Value → Heap → Prop} (I : Value → Heap → Prop) (h1 : ∀ k : Value → Heap → Prop, (∀ x h, I x h → k x h) → body k) (h2 : ∀ x h, I x h → rest x h) : J1 body rest := h1 rest h2
theorem J2_i {body : (Value → Value → Heap → Prop) → Prop} {rest : Value → Value → Heap → Prop} (I : Value → Value → Heap → Prop) (h1 : ∀ k : Value → Value → Heap → Prop, (∀ x y h, I x y h → k x y h) → body k) (h2 : ∀ x y h, I x y h → rest x y h) : J2 body rest := h1 rest h2

end Go.X
