/- Rules: loads and stores at a known block, slices of bytes, owned buffers, loops. -/
import Derived.Test.YtmhfanpijdgkjaaDoorXL
namespace Go.X

abbrev Ptr (b o : Nat) : Value := .pointer (some ⟨b, o, none⟩)

section at_
variable {H : Heap} {b : Nat} {cs : Array Value} {T : TypeId} {f : Nat × Nat}
theorem ld1_at (h : H[b]? = some (.cells cs T f)) (o : Nat) : ld1 H (Ptr b o) = cs[o]? := by simp only [ld1, h]
theorem ldN_at (h : H[b]? = some (.cells cs T f)) (n o : Nat) (ho : o + n ≤ cs.size) : ldN n H (Ptr b o) = some (.agg (cs.extract o (o + n))) := by simp only [ldN, h]; rw [if_pos ho]
theorem thaw_00 {o n : Nat} : thaw (0, 0) o n = true := by simp [thaw]
theorem st1_at (h : H[b]? = some (.cells cs T (0, 0))) (o : Nat) (v : Value) (ho : o < cs.size) (hv : v.oneCell' = true) : st1 H (Ptr b o) v = some (H.setIfInBounds b (.cells (cs.setIfInBounds o v) T (0, 0))) := by
  simp only [st1, h]; rw [if_pos ⟨ho, thaw_00, hv⟩]
theorem stA_at (h : H[b]? = some (.cells cs T f)) (o : Nat) (vs : Array Value) (ht : thaw f o vs.size = true) (ho : o + vs.size ≤ cs.size) (hv : vs.all (·.oneCell') = true) : stA H b o vs = some (H.setIfInBounds b (.cells (spl cs o vs) T f)) := by
  simp only [stA, h]; rw [if_pos ⟨ho, ht, hv⟩]
theorem stN_at (h : H[b]? = some (.cells cs T (0, 0))) (n o : Nat) (vs : Array Value) (hn : vs.size = n) (ho : o + n ≤ cs.size) (hv : vs.all (·.oneCell') = true) : stN n H (Ptr b o) (.agg vs) = some (H.setIfInBounds b (.cells (spl cs o vs) T (0, 0))) := by
  simp only [stN]; rw [if_pos hn]; exact stA_at h o vs thaw_00 (by omega) hv
end at_

/- LOOPS -/
theorem L1_i {body : (Value → Heap → Prop) → Value → Heap → Prop} {v : Value} {H : Heap} (I : Value → Heap → Prop) (μ : Value → Heap → Nat) (h0 : I v H)
    (hs : ∀ v h, I v h → ∀ k : Value → Heap → Prop, (∀ v' h', I v' h' → μ v' h' < μ v h → k v' h') → body k v h) : L1 body v H := by
  refine ⟨fun vs h => ∃ v, vs = [v] ∧ I v h, fun vs h => match vs with | [v] => μ v h | _ => 0, ⟨v, rfl, h0⟩, ?_⟩
  rintro vs h _ ⟨v, rfl, hI⟩
  exact hs v h hI _ fun v' h' hI' hm => ⟨⟨v', rfl, hI'⟩, hm⟩
theorem L2_i {body : (Value → Value → Heap → Prop) → Value → Value → Heap → Prop} {v u : Value} {H : Heap} (I : Value → Value → Heap → Prop) (μ : Value → Value → Heap → Nat) (h0 : I v u H)
    (hs : ∀ v u h, I v u h → ∀ k : Value → Value → Heap → Prop, (∀ v' u' h', I v' u' h' → μ v' u' h' < μ v u h → k v' u' h') → body k v u h) : L2 body v u H := by
  refine ⟨fun vs h => ∃ v u, vs = [v, u] ∧ I v u h, fun vs h => match vs with | [v, u] => μ v u h | _ => 0, ⟨v, u, rfl, h0⟩, ?_⟩
  rintro vs h _ ⟨v, u, rfl, hI⟩
  exact hs v u h hI _ fun v' u' h' hI' hm => ⟨⟨v', u', rfl, hI'⟩, hm⟩
theorem L3_i {body : (Value → Value → Value → Heap → Prop) → Value → Value → Value → Heap → Prop} {v u x : Value} {H : Heap} (I : Value → Value → Value → Heap → Prop) (μ : Value → Value → Value → Heap → Nat) (h0 : I v u x H)
    (hs : ∀ v u x h, I v u x h → ∀ k : Value → Value → Value → Heap → Prop, (∀ v' u' x' h', I v' u' x' h' → μ v' u' x' h' < μ v u x h → k v' u' x' h') → body k v u x h) : L3 body v u x H := by
  refine ⟨fun vs h => ∃ v u x, vs = [v, u, x] ∧ I v u x h, fun vs h => match vs with | [v, u, x] => μ v u x h | _ => 0, ⟨v, u, x, rfl, h0⟩, ?_⟩
  rintro vs h _ ⟨v, u, x, rfl, hI⟩
  exact hs v u x h hI _ fun v' u' x' h' hI' hm => ⟨⟨v', u', x', rfl, hI'⟩, hm⟩

/- SLICES OF BYTES -/
/-- a slice (no string) that reads as l, whose block is one of those of P, with room as it says -/
structure Sl (P : Nat → Prop) (H : Heap) (v : Value) (l : List UInt8) : Prop where
  bs : Bs H v l
  sl : ∃ a c, v = .slice a l.length c ∧ l.length ≤ c ∧ ∀ x, a = some x → x.spot = none
  own : ∀ b, blk v = some b → P b
theorem Sl.keep {P S : Nat → Prop} {H H' : Heap} {v : Value} {l : List UInt8} (h : Sl P H v l) (k : Keep S H H') (hs : ∀ b, P b → ¬ S b) : Sl P H' v l := ⟨h.bs.keep k fun b hb => hs b (h.own b hb), h.sl, h.own⟩
theorem Sl.mono {P Q : Nat → Prop} {H : Heap} {v : Value} {l : List UInt8} (h : Sl P H v l) (k : ∀ b, P b → Q b) : Sl Q H v l := ⟨h.bs, h.sl, fun b hb => k b (h.own b hb)⟩
theorem Sl.nil {P : Nat → Prop} {H : Heap} {c : Nat} : Sl P H (.slice none 0 c) [] := ⟨Bs_nil, ⟨none, c, rfl, Nat.zero_le _, fun x h => by cases h⟩, fun b hb => by cases hb⟩
theorem Sl.len {P : Nat → Prop} {H : Heap} {v : Value} {l : List UInt8} (h : Sl P H v l) : lenV v = some (.int .i64 l.length) := by
  obtain ⟨a, c, rfl, _⟩ := h.sl; rfl
theorem Sl.one {P : Nat → Prop} {H : Heap} {v : Value} {l : List UInt8} (h : Sl P H v l) : v.oneCell' = true := by
  obtain ⟨a, c, rfl, _⟩ := h.sl; rfl
theorem Sl.cases {P : Nat → Prop} {H : Heap} {v : Value} {l : List UInt8} (h : Sl P H v l) : (∃ a c, v = .slice a 0 c ∧ l = [] ∧ ∀ x, a = some x → x.spot = none) ∨ ∃ b o c cs T f, v = .slice (some ⟨b, o, none⟩) l.length c ∧ P b ∧ l.length ≤ c ∧ H[b]? = some (.cells cs T f) ∧ o + l.length ≤ cs.size ∧ (cs.toList.drop o).take l.length = bcells l := by
  obtain ⟨a, c, hv, hc, hs⟩ := h.sl
  rcases h.bs.shape with ⟨a', c', rfl, rfl⟩ | ⟨b, o, c', cs, T, f, rfl, hb, hle, hl⟩ | ⟨s, rfl, _⟩
  · cases hv
    exact .inl ⟨a, c, rfl, rfl, hs⟩
  · cases hv
    exact .inr ⟨b, o, c, cs, T, f, rfl, h.own b rfl, hc, hb, hle, hl⟩
  · cases hv
theorem Sl.b2s {P : Nat → Prop} {H : Heap} {v : Value} {l : List UInt8} (h : Sl P H v l) : b2s H v = some (.string ⟨l.toArray⟩) := h.bs.b2s fun s e => by
  obtain ⟨a, c, rfl, _⟩ := h.sl; cases e

/-- v[:n:n] -/
theorem Sl.head {P : Nat → Prop} {H : Heap} {v : Value} {l : List UInt8} (h : Sl P H v l) {n : Nat} (hn : n ≤ l.length) : ∃ u, slS 1 v none (some (.int .i64 n)) (some (.int .i64 n)) = some u ∧ Sl P H u (l.take n) := by
  rcases h.cases with ⟨a, c, rfl, rfl, ha⟩ | ⟨b, o, c, cs, T, f, rfl, hp, hc, hb, hle, hl⟩
  · have : n = 0 := by simpa using hn
    subst this
    have hb : bnds 0 c none (some (.int .i64 0)) (some (.int .i64 0)) = some (0, 0, 0) := by simp [bnds, bnd]
    rcases a with _ | ⟨b, o, sp⟩
    · exact ⟨.slice none 0 0, by simp [slS, hb], by simpa using Sl.nil⟩
    · obtain rfl : sp = none := ha _ rfl
      exact ⟨.slice (some ⟨b, o, none⟩) 0 0, by simp [slS, hb], by simpa using Bs_nil, ⟨some ⟨b, o, none⟩, 0, rfl, Nat.le_refl _, ha⟩, h.own⟩
  · have h1 : (n : Int) ≤ c := by omega
    have hb' : bnds l.length c none (some (.int .i64 n)) (some (.int .i64 n)) = some (0, n, n) := by simp [bnds, bnd, h1]
    refine ⟨.slice (some ⟨b, o, none⟩) n n, ?_, ⟨Bs.mk hb ?_ ?_ ?_, ⟨some ⟨b, o, none⟩, n, ?_, ?_, fun x hx => by cases hx; rfl⟩, fun b' hb' => ?_⟩⟩
    · simp [slS, hb']
    · simp [hn]
    · omega
    · rw [bcells_take, ← hl, List.take_take, Nat.min_eq_left hn]
    · simp [hn]
    · simp [hn]
    · cases hb'; exact hp
/-- v[n:] -/
theorem Sl.tail {P : Nat → Prop} {H : Heap} {v : Value} {l : List UInt8} (h : Sl P H v l) {n : Nat} (hn : n ≤ l.length) : ∃ u, slS 1 v (some (.int .i64 n)) none none = some u ∧ Sl P H u (l.drop n) := by
  rcases h.cases with ⟨a, c, rfl, rfl, ha⟩ | ⟨b, o, c, cs, T, f, rfl, hp, hc, hb, hle, hl⟩
  · have : n = 0 := by simpa using hn
    subst this
    have hb : bnds 0 c (some (.int .i64 0)) none none = some (0, 0, c) := by simp [bnds, bnd]
    rcases a with _ | ⟨b, o, sp⟩
    · exact ⟨.slice none 0 c, by simp [slS, hb], by simpa using Sl.nil⟩
    · obtain rfl : sp = none := ha _ rfl
      exact ⟨.slice (some ⟨b, o, none⟩) 0 c, by simp [slS, hb], by simpa using Bs_nil, ⟨some ⟨b, o, none⟩, c, rfl, Nat.zero_le _, ha⟩, h.own⟩
  · have h1 : (n : Int) ≤ l.length := by omega
    have hb' : bnds l.length c (some (.int .i64 n)) none none = some (n, l.length, c) := by simp [bnds, bnd, hc, hn]
    refine ⟨.slice (some ⟨b, if c = n then o else o + n * 1, none⟩) (l.length - n) (c - n), ?_, ⟨Bs.mk hb (by simp) ?_ ?_, ⟨some ⟨b, if c = n then o else o + n * 1, none⟩, c - n, by simp, by simp; omega, fun x hx => by cases hx; rfl⟩, fun b' hb' => by cases hb'; exact hp⟩⟩
    · simp [slS, hb']
    · split <;> omega
    · rw [bcells_drop, ← hl, List.drop_take]
      split
      · have : l.length - n = 0 := by omega
        simp [this]
      · simp [List.drop_drop]
/-- v[i] -/
theorem Sl.at {P : Nat → Prop} {H : Heap} {v : Value} {l : List UInt8} (h : Sl P H v l) {i : Nat} {x : UInt8} (hi : l[i]? = some x) : ∃ u, ixS 1 v (.int .i64 i) = some u ∧ ld1 H u = some (.int .u8 x.toNat) ∧ ∀ b, blk u = some b → P b := by
  obtain ⟨hlt, rfl⟩ := List.getElem?_eq_some_iff.1 hi
  rcases h.cases with ⟨a, c, rfl, rfl, _⟩ | ⟨b, o, c, cs, T, f, rfl, hp, hc, hb, hle, hl⟩
  · simp at hlt
  · refine ⟨Ptr b (o + i * 1), ?_, ?_, fun b' hb' => by cases hb'; exact hp⟩
    · simp only [ixS]; rw [if_pos ⟨by omega, by omega⟩]; rfl
    · rw [ld1_at hb]
      have := congrArg (·[i]?) hl
      simp only [List.getElem?_take, List.getElem?_drop] at this
      rw [if_pos hlt] at this
      simp only [Nat.mul_one, bcells, List.getElem?_map, hi, Option.map_some] at this ⊢
      rw [← this]; simp

/- OWNED BUFFERS -/
/-- a slice that its holder may append to in place: it lies in a block of F, or it is nil -/
def Buf (F : Nat → Prop) (H : Heap) (v : Value) (l : List UInt8) : Prop :=
  (v = .slice none 0 0 ∧ l = []) ∨ ∃ b o c cs T f, v = .slice (some ⟨b, o, none⟩) l.length c ∧ F b ∧ l.length ≤ c ∧ H[b]? = some (.cells cs T f) ∧ o + c ≤ cs.size ∧ (∀ i n, o ≤ i → i + n ≤ o + c → thaw f i n = true) ∧ (cs.toList.drop o).take l.length = bcells l
theorem Buf.sl {F : Nat → Prop} {H : Heap} {v : Value} {l : List UInt8} (h : Buf F H v l) : Sl F H v l := by
  rcases h with ⟨rfl, rfl⟩ | ⟨b, o, c, cs, T, f, rfl, hf, hc, hb, hle, ht, hl⟩
  · exact Sl.nil
  · exact ⟨Bs.mk hb rfl (by omega) hl, ⟨_, c, rfl, hc, fun x hx => by cases hx; rfl⟩, fun b' hb' => by cases hb'; exact hf⟩
theorem Buf.keep {F S : Nat → Prop} {H H' : Heap} {v : Value} {l : List UInt8} (h : Buf F H v l) (k : Keep S H H') (hs : ∀ b, F b → ¬ S b) : Buf F H' v l := by
  rcases h with h | ⟨b, o, c, cs, T, f, rfl, hf, hc, hb, hle, ht, hl⟩
  · exact .inl h
  · exact .inr ⟨b, o, c, cs, T, f, rfl, hf, hc, k.at hb (hs b hf), hle, ht, hl⟩

theorem spl_size {c vs : Array Value} {o : Nat} (h : o + vs.size ≤ c.size) : (spl c o vs).size = c.size := by simp [spl]; omega

theorem Buf.app {F : Nat → Prop} {H : Heap} {s x : Value} {l m : List UInt8} {T : TypeId} {k : Value → Heap → Prop} (h : Buf F H s l) (hx : Bs H x m) (hlen : l.length + m.length ≤ 140737488355328) (hf : F H.size)
    (hk : ∀ v H', Buf F H' v (l ++ m) → Keep F H H' → k v H') : Mapp T 1 1 H s x k := by
  rcases h with ⟨rfl, rfl⟩ | ⟨b, o, c, cs, T', f, rfl, hb', hc, hb, hle, ht, hl⟩
  · refine ⟨none, 0, 0, m.length, (bcells m).toArray, rfl, hx, bcells_all, fun h0 => ?_, fun h0 => ⟨by simpa using hlen, Nat.one_pos, #[], rfl, fun cap rest h1 h2 h3 => ?_⟩⟩
    · have : m = [] := List.length_eq_zero_iff.1 (by omega)
      subst this
      exact hk _ _ (.inl ⟨rfl, rfl⟩) Keep.refl
    · refine hk _ _ (.inr ⟨H.size, 0, cap, _, T, (0, 0), by simp, hf, by simpa using h1, push_new, ?_, fun _ _ _ _ => thaw_00, ?_⟩) Keep.push
      · simp at h3 ⊢; omega
      · simp
  · refine ⟨some ⟨b, o, none⟩, l.length, c, m.length, (bcells m).toArray, rfl, hx, bcells_all, fun h0 => ?_, fun h0 => ⟨by simpa using hlen, Nat.one_pos, (bcells l).toArray, ?_, fun cap rest h1 h2 h3 => ?_⟩⟩
    · refine ⟨_, stA_at hb _ _ (ht _ _ (by omega) (by simp; omega)) (by simp; omega) bcells_all, hk _ _ (.inr ⟨b, o, c, _, T', f, by simp, hb', by simpa using h0, set_self hb, ?_, ht, ?_⟩) (Keep.set hb')⟩
      · rw [spl_size (by simp; omega)]; exact hle
      · have ho : o + l.length ≤ cs.size := by omega
        show ((List.take (o + l.length * 1) cs.toList ++ bcells m ++ _).drop o).take (l ++ m).length = _
        rw [Nat.mul_one, List.append_assoc, List.drop_append_of_le_length (by simp; omega), List.drop_take, Nat.add_sub_cancel_left, hl]
        rw [← List.append_assoc, List.take_append_of_le_length (by simp), ← bcells_append, List.take_of_length_le (by simp)]
    · exact Bs.mk hb rfl (by omega) hl
    · refine hk _ _ (.inr ⟨H.size, 0, cap, _, T, (0, 0), by simp, hf, by simpa using h1, push_new, ?_, fun _ _ _ _ => thaw_00, ?_⟩) Keep.push
      · simp at h3 ⊢; omega
      · show (((bcells l).toArray ++ (bcells m).toArray ++ rest).toList.drop 0).take (l ++ m).length = _
        simp only [Array.toList_append]; rw [List.drop_zero, List.take_append_of_le_length (by simp), ← bcells_append, List.take_of_length_le (by simp)]

/- BLOCKS AS ROWS OF PARTS -/
theorem ldN_mid {H : Heap} {b n o : Nat} {A B C : List Value} {T : TypeId} {f : Nat × Nat} (h : H[b]? = some (.cells (A ++ B ++ C).toArray T f)) (ho : o = A.length) (hn : n = B.length) : ldN n H (Ptr b o) = some (.agg B.toArray) := by
  subst ho hn
  rw [ldN_at h _ _ (by simp)]
  congr 2
  apply Array.ext'
  simp [List.take_append_of_le_length]
theorem stN_mid {H : Heap} {b n o : Nat} {A B C B' : List Value} {T : TypeId} (h : H[b]? = some (.cells (A ++ B ++ C).toArray T (0, 0))) (ho : o = A.length) (hn : n = B.length) (hn' : B'.length = n) (hv : B'.toArray.all (·.oneCell') = true) : stN n H (Ptr b o) (.agg B'.toArray) = some (H.setIfInBounds b (.cells (A ++ B' ++ C).toArray T (0, 0))) := by
  subst ho hn
  rw [stN_at h _ _ _ (by simpa using hn') (by simp) hv]
  congr 3
  unfold spl
  congr 1
  simp [hn', List.drop_append]
theorem ld1_mid {H : Heap} {b o : Nat} {A C : List Value} {v : Value} {T : TypeId} {f : Nat × Nat} (h : H[b]? = some (.cells (A ++ [v] ++ C).toArray T f)) (ho : o = A.length) : ld1 H (Ptr b o) = some v := by
  subst ho; rw [ld1_at h]; simp
theorem st1_mid {H : Heap} {b o : Nat} {A C : List Value} {v u : Value} {T : TypeId} (h : H[b]? = some (.cells (A ++ [v] ++ C).toArray T (0, 0))) (ho : o = A.length) (hu : u.oneCell' = true) : st1 H (Ptr b o) u = some (H.setIfInBounds b (.cells (A ++ [u] ++ C).toArray T (0, 0))) := by
  subst ho
  rw [st1_at h _ _ (by simp) hu]
  simp

/-- an array of bytes as a value -/
def bv (l : List UInt8) : Value := .agg (bcells l).toArray
@[simp] theorem cells_bv {l : List UInt8} : (bv l).cells = (bcells l).toArray := rfl
theorem ldN_bytes {H : Heap} {b n : Nat} {l : List UInt8} {T : TypeId} {f : Nat × Nat} (h : H[b]? = some (.cells (bcells l).toArray T f)) (hn : l.length = n) : ldN n H (Ptr b 0) = some (bv l) :=
  ldN_mid (A := []) (B := bcells l) (C := []) (by simpa using h) rfl (by simp [hn])
theorem stN_bytes {H : Heap} {b n : Nat} {l m : List UInt8} {T : TypeId} (h : H[b]? = some (.cells (bcells l).toArray T (0, 0))) (hn : l.length = n) (hm : m.length = n) : stN n H (Ptr b 0) (bv m) = some (H.setIfInBounds b (.cells (bcells m).toArray T (0, 0))) := by
  have := stN_mid (b := b) (n := n) (o := 0) (A := []) (B := bcells l) (C := []) (B' := bcells m) (T := T) (by simpa using h) rfl (by simp [hn]) (by simp [hm]) bcells_all
  simpa [bv] using this
theorem copy_bytes {H : Heap} {q c : Nat} {z m : List UInt8} {x : Value} {T : TypeId} {k : Value → Heap → Prop} (hq : H[q]? = some (.cells (bcells z).toArray T (0, 0))) (hx : Bs H x m) (hm : m.length ≤ z.length)
    (hk : k (.int .i64 m.length) (H.setIfInBounds q (.cells (bcells (m ++ z.drop m.length)).toArray T (0, 0)))) : Mcopy 1 H (.slice (some ⟨q, 0, none⟩) z.length c) x k := by
  have e1 : Nat.min m.length z.length = m.length := Nat.min_eq_left hm
  have e3 : (bcells m).toArray.extract 0 (m.length * 1) = (bcells m).toArray := by
    have : m.length * 1 = (bcells m).toArray.size := by simp
    rw [this, Array.extract_size]
  have e2 : spl (bcells z).toArray 0 (bcells m).toArray = (bcells (m ++ z.drop m.length)).toArray := by
    simp [spl, bcells_drop]
  refine ⟨m.length, (bcells m).toArray, some ⟨q, 0, none⟩, z.length, c, hx, rfl, bcells_all, ?_⟩
  simp only [e1, e3]
  rw [stA_at hq 0 _ thaw_00 (by simpa using hm) bcells_all, e2, Mwr_some]
  exact hk

/- BUILT STRUCTS -/
def structK (P : Program) (T : TypeId) : Option (List (Nat × Nat) × Array Value) :=
  match P.underlying T with
  | some (.struct fs) => match fs.toList.mapM (fun f => (P.info? f.type).map fun i => (f.offset, i.size)) with
    | some places => (zcells P T).map fun z => (places, z)
    | none => none
  | _ => none
theorem buildV_of {P : Program} {T : TypeId} {pl : List (Nat × Nat)} {z : Array Value} {parts : List (Nat × Value)} (h : structK P T = some (pl, z)) : buildV P T parts = (bfill (pl.toArray[·]?) z parts).map .agg := by
  unfold structK at h
  unfold buildV
  split at h
  · rename_i fs hfs
    rw [hfs]
    simp only
    split at h
    · rename_i places hp
      rw [hp]
      cases hz : zcells P T with
      | none => rw [hz] at h; cases h
      | some z' => rw [hz] at h; cases h; rfl
    · cases h
  · cases h
theorem bfill_nil {place : Nat → Option (Nat × Nat)} {c : Array Value} : bfill place c [] = some c := rfl
theorem bfill_cons {place : Nat → Option (Nat × Nat)} {c : Array Value} {i : Nat} {v : Value} {r : List (Nat × Value)} {off n : Nat} (hp : place i = some (off, n)) (hv : v.cells.size = n) (hc : off + n ≤ c.size) : bfill place c ((i, v) :: r) = bfill place (spl c off v.cells) r := by
  simp only [bfill, hp]; rw [if_pos ⟨hv, hc⟩]
theorem spl_mid {A B C B' : List Value} {o : Nat} (ho : o = A.length) (hb : B'.length = B.length) : spl (A ++ B ++ C).toArray o B'.toArray = (A ++ B' ++ C).toArray := by
  subst ho; simp [spl, hb, List.drop_append]
theorem binV_agg_eq {q : EqK} {a b : Array Value} : binV q .eql (.agg a) (.agg b) = (eqV q (.agg a) (.agg b)).map .bool := by cases q <;> rfl
theorem binV_agg_ne {q : EqK} {a b : Array Value} : binV q .neq (.agg a) (.agg b) = (eqV q (.agg a) (.agg b)).map fun b => .bool (!b) := by cases q <;> rfl
theorem eqCells_bytes {l m : List UInt8} (h : l.length = m.length) : eqCells (List.replicate l.length 0) (bcells l) (bcells m) = some (decide (l = m)) := by
  induction l generalizing m with
  | nil => cases m with
    | nil => rfl
    | cons b m => cases h
  | cons a l ih => cases m with
    | nil => cases h
    | cons b m =>
      have e : eqCell 0 (.int .u8 a.toNat) (.int .u8 b.toNat) = some (decide (a = b)) := by
        simp only [eqCell, if_true]
        congr 1
        rw [Bool.eq_iff_iff, beq_iff_eq, decide_eq_true_eq]
        constructor
        · intro h; apply UInt8.toNat.inj; omega
        · rintro rfl; rfl
      simp only [List.length_cons, List.replicate_succ, bcells_cons, eqCells, e, ih (by simpa using h)]
      congr 1
      simp [Bool.eq_iff_iff]

/- WHAT CAME IN -/
theorem bs_of_row {w : World} {x : Addr} {len cap : Nat} {zs : List Int} (hle : len ≤ zs.length) (hc : ∀ i, i < zs.length → w.cell? (x.add i) = some (.int .u8 (zs.getD i 0))) (hw : ∀ n ∈ zs, (Lit.int .u8 n).wf = true) :
    ∃ l : List UInt8, l.length = len ∧ Bs w.heap (.slice (some x) len cap) l := by
  by_cases h0 : len = 0
  · subst h0; exact ⟨[], rfl, Bs_nil⟩
  have h1 := hc 0 (by omega)
  obtain ⟨b, o, sp⟩ := x
  obtain ⟨cs, T, f, hb, rfl⟩ : ∃ cs T f, w.heap[b]? = some (.cells cs T f) ∧ sp = none := by
    have h1 : w.cell? ⟨b, o, sp⟩ = some (.int .u8 (zs.getD 0 0)) := h1
    unfold World.cell? at h1
    split at h1
    · rename_i cs T f hb
      cases sp with
      | none => exact ⟨cs, T, f, hb, rfl⟩
      | some s => cases h1
    · cases h1
  have hcs : ∀ i, i < zs.length → cs[o + i]? = some (.int .u8 (zs.getD i 0)) := fun i hi => by
    have h2 := hc i hi
    have e : (⟨b, o, none⟩ : Addr).add i = ⟨b, o + i, none⟩ := by
      unfold Addr.add; split
      · rename_i h; subst h; rfl
      · rfl
    rw [e] at h2
    unfold World.cell? at h2
    simp only [hb] at h2
    exact h2
  have hlast := (Array.getElem?_eq_some_iff.1 (hcs (zs.length - 1) (by omega))).1
  refine ⟨(zs.take len).map fun n => UInt8.ofNat n.toNat, by simp [hle], Bs.mk hb (by simp [hle]) (by omega) ?_⟩
  apply List.ext_getElem?
  intro i
  simp only [List.getElem?_take, List.getElem?_drop, bcells, List.map_map, List.getElem?_map]
  split
  · rename_i hi
    have hi' : i < zs.length := by omega
    have := hcs i hi'
    rw [← Array.getElem?_toList] at this
    rw [this]
    have hz := hw zs[i] (by simp)
    simp only [Lit.wf, IntKind.min, IntKind.max, IntKind.signed, IntKind.bits] at hz
    simp only [List.getElem?_eq_getElem hi', List.getD, Option.getD_some, Option.map_some, Function.comp]
    congr 2
    simp at hz ⊢
    omega
  · rfl

end Go.X
