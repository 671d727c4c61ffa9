/- JOINED: V195 P12 P13 V196 -/
import Derived.Test.YtanhgihfgmbojaaGreatDoorG27
import Derived.Test.YtanhgihfgmbojaaGreatDoorG7
import Derived.Lib.Overlaps
set_option linter.unusedSimpArgs false
set_option linter.unusedVariables false
/- maps of strings to strings. -/
namespace Go.Proofs.YtanhgihfgmbojaaGreatDoor
open Go.X Go.X.Diff Go.MapKept
set_option maxRecDepth 100000
set_option linter.unusedSimpArgs false
set_option linter.unusedVariables false

theorem t_mss : MapT prg T_map_string_string .string (str []) := ⟨T_string, T_string, by kernel_rfl, by kernel_rfl, fun w => by rfl⟩
def SMap (h : Heap) (q : Nat) (l : List (List UInt8 × List UInt8)) : Prop := MapAt h q (l.map fun e => (str e.1, str e.2))
theorem SMap.keep {H H' : Heap} {q : Nat} {l : List (List UInt8 × List UInt8)} {S : Nat → Prop} (h : SMap H q l) (k : Keep S H H') (hs : ¬ S q) : SMap H' q l := MapAt.keep h k hs
theorem smap_keys {l : List (List UInt8 × List UInt8)} : ∀ x ∈ l.map (fun e => (str e.1, str e.2)), IsKey .string x.1 := fun x hx => by
  obtain ⟨e, _, rfl⟩ := List.mem_map.1 hx
  exact trivial
theorem str_inj {a b : List UInt8} (h : str a = str b) : a = b := by
  have h1 : (⟨a.toArray⟩ : ByteArray) = ⟨b.toArray⟩ := by injection h
  have h2 : a.toArray = b.toArray := by injection h1
  simpa using congrArg Array.toList h2
def bySt (l : List (List UInt8 × List UInt8)) (n : List UInt8) : Option (List UInt8) := (l.find? fun e => decide (e.1 = n)).map (·.2)
theorem by_mem {l : List (List UInt8 × List UInt8)} (hn : (l.map (·.1)).Nodup) {n v : List UInt8} (h : (n, v) ∈ l) : bySt l n = some v := by
  unfold bySt
  induction l with
  | nil => cases h
  | cons e l ih =>
    rw [List.map_cons, List.nodup_cons] at hn
    rw [List.find?_cons]
    rcases List.mem_cons.1 h with rfl | h
    · simp
    · have hne : e.1 ≠ n := fun e1 => hn.1 (by rw [e1]; exact List.mem_map.2 ⟨_, h, rfl⟩)
      rw [decide_eq_false hne]
      exact ih hn.2 h
theorem by_none {l : List (List UInt8 × List UInt8)} {n : List UInt8} (h : ∀ e ∈ l, e.1 ≠ n) : bySt l n = none := by
  unfold bySt
  rw [List.find?_eq_none.2 fun e he => by simpa using h e he]; rfl
theorem smap_look {H : Heap} {q : Nat} {l : List (List UInt8 × List UInt8)} {n : List UInt8} {ok : Bool} {k : Value → Heap → Prop} (h : SMap H q l) (hn : (l.map (·.1)).Nodup) (hk : k (mres ok (str ((bySt l n).getD [])) (bySt l n).isSome) H) : Msem prg (Instr.lookup T_map_string_string (.map (some q)) (str n) ok) H k := by
  refine lookup_i t_mss h smap_keys trivial (fun v hv => ?_) fun hno => ?_
  · obtain ⟨e, he, hev⟩ := List.mem_map.1 hv
    injection hev with h1 h2
    obtain rfl := str_inj h1
    rw [by_mem hn (v := e.2) he] at hk
    rw [← h2]; exact hk
  · rw [by_none (l := l) (n := n) fun e he e1 => hno _ (List.mem_map.2 ⟨e, he, rfl⟩) (by rw [e1])] at hk
    exact hk
theorem smap_add {H : Heap} {q : Nat} {l : List (List UInt8 × List UInt8)} {n v : List UInt8} {k : Value → Heap → Prop} (h : SMap H q l) (hno : ∀ e ∈ l, e.1 ≠ n) (hk : ∀ H', SMap H' q (l ++ [(n, v)]) → Keep (· = q) H H' → k undef H') : Msu prg (Instr.mapUpdate T_map_string_string (.map (some q)) (str n) (str v)) H k := by
  refine update_i t_mss h smap_keys trivial (fun j w H' hj hm kk => ?_) fun H' _ hm kk => ?_
  · obtain ⟨e, he, hev⟩ := List.mem_map.1 (List.mem_of_getElem? hj)
    injection hev with h1 h2
    exact absurd (str_inj h1) (hno e he)
  · refine hk H' ?_ kk
    show MapAt H' q _
    rw [List.map_append]; exact hm
end Go.Proofs.YtanhgihfgmbojaaGreatDoor

/- solve: the way back by a map of what came ahead. -/
namespace Go.Proofs.YtanhgihfgmbojaaGreatDoor
open Go.X Go.X.Diff
set_option maxRecDepth 100000

abbrev ByL := List (List UInt8 × List UInt8)
theorem by_old {l m : ByL} {n v : List UInt8} (h : bySt l n = some v) : bySt (l ++ m) n = some v := by
  unfold bySt at h ⊢
  rw [List.find?_append]
  cases hf : l.find? fun e => decide (e.1 = n) with
  | none => rw [hf] at h; cases h
  | some e => rw [hf] at h; exact h
theorem by_new {l : ByL} {n v : List UInt8} (h : bySt l n = none) : bySt (l ++ [(n, v)]) n = some v := by
  unfold bySt at h ⊢
  rw [List.find?_append]
  cases hf : l.find? fun e => decide (e.1 = n) with
  | none => simp
  | some e => rw [hf] at h; cases h
theorem by_keys {l : ByL} {n : List UInt8} : bySt l n = none ↔ n ∉ l.map (·.1) := by
  constructor
  · intro h hm
    obtain ⟨e, he, rfl⟩ := List.mem_map.1 hm
    unfold bySt at h
    cases hf : l.find? fun e' => decide (e'.1 = e.1) with
    | none =>
      have := List.find?_eq_none.1 hf e he
      simp at this
    | some e' => rw [hf] at h; cases h
  · exact fun h => by_none fun e he e1 => h (List.mem_map.2 ⟨e, he, e1⟩)
/-- from n back the names that came ahead are w, the first first -/
inductive Chn (b : ByL) : List UInt8 → List (List UInt8) → Prop where
  | base {n : List UInt8} (h : bySt b n = some []) : Chn b n []
  | step {n p : List UInt8} {w : List (List UInt8)} (h : bySt b n = some p) (hp : p ≠ []) (hc : Chn b p w) : Chn b n (w ++ [p])
theorem Chn.mono {b m : ByL} {n : List UInt8} {w : List (List UInt8)} (h : Chn b n w) : Chn (b ++ m) n w := by
  induction h with
  | base h => exact .base (by_old h)
  | step h hp _ ih => exact .step (by_old h) hp ih
end Go.Proofs.YtanhgihfgmbojaaGreatDoor

/- solve: Why: what the walk keeps, and how long a way is. -/
namespace Go.Proofs.YtanhgihfgmbojaaGreatDoor
open Go.X Go.X.Diff
set_option maxRecDepth 100000

def byOf (A : List (Nm × List Nm)) : ByL := A.map fun x => (x.1, x.2.getLast?.getD [])
theorem byOf_keys {A : List (Nm × List Nm)} : (byOf A).map (·.1) = A.map (·.1) := by simp [byOf]
theorem byOf_app {A B : List (Nm × List Nm)} : byOf (A ++ B) = byOf A ++ byOf B := by simp [byOf]
structure WhyS (A : List (Nm × List Nm)) : Prop where
  nd : (A.map (·.1)).Nodup
  ch : ∀ e ∈ A, e.1 ≠ [] ∧ Chn (byOf A) e.1 e.2
  ln : ∀ e ∈ A, e.2.length < A.length
theorem WhyS.nil : WhyS [] := ⟨List.nodup_nil, fun e h => absurd h (by simp), fun e h => absurd h (by simp)⟩
theorem WhyS.none {A : List (Nm × List Nm)} {y : Nm} (h : y ∉ A.map (·.1)) : bySt (byOf A) y = .none := by_keys.2 (by rw [byOf_keys]; exact h)
theorem WhyS.snoc {A : List (Nm × List Nm)} {y : Nm} {w : List Nm} (h : WhyS A) (hy : y ≠ []) (hn : y ∉ A.map (·.1)) (hc : Chn (byOf A ++ byOf [(y, w)]) y w) (hw : w.length < A.length + 1) : WhyS (A ++ [(y, w)]) := by
  refine ⟨?_, fun e he => ?_, fun e he => ?_⟩
  · rw [List.map_append, List.nodup_append]
    exact ⟨h.nd, by simp, fun a ha b hb e => by simp at hb; subst hb; subst e; exact hn ha⟩
  · rw [byOf_app]
    rcases List.mem_append.1 he with he | he
    · exact ⟨(h.ch e he).1, (h.ch e he).2.mono⟩
    · simp at he; subst he; exact ⟨hy, hc⟩
  · rw [List.length_append, List.length_singleton]
    rcases List.mem_append.1 he with he | he
    · have := h.ln e he; omega
    · simp at he; subst he; exact hw
theorem WhyS.base {A : List (Nm × List Nm)} {y : Nm} (h : WhyS A) (hy : y ≠ []) (hn : y ∉ A.map (·.1)) : WhyS (A ++ [(y, [])]) :=
  h.snoc hy hn (.base (by_new (WhyS.none hn))) (by simp)
theorem WhyS.step {A : List (Nm × List Nm)} {y : Nm} {e : Nm × List Nm} (h : WhyS A) (he : e ∈ A) (hy : y ≠ []) (hn : y ∉ A.map (·.1)) : WhyS (A ++ [(y, e.2 ++ [e.1])]) := by
  refine h.snoc hy hn (.step ?_ (h.ch e he).1 (h.ch e he).2.mono) (by have := h.ln e he; rw [List.length_append, List.length_singleton]; omega)
  have : byOf [(y, e.2 ++ [e.1])] = [(y, e.1)] := by simp [byOf]
  rw [this]
  exact by_new (WhyS.none hn)
theorem newOf_snoc {e : Nm × List Nm} : ∀ {t : List (Nm × List Nm)} {seen : List Nm}, newOf seen (t ++ [e]) = newOf seen t ++ (if e.1 ∈ seen ++ (newOf seen t).map (·.1) then [] else [e])
  | [], seen => by
    simp only [List.nil_append, newOf, List.map_nil, List.append_nil]
  | a :: t, seen => by
    rw [List.cons_append, newOf]
    rw [show newOf seen (a :: t) = if a.1 ∈ seen then newOf seen t else a :: newOf (seen ++ [a.1]) t from rfl]
    by_cases ha : a.1 ∈ seen
    · rw [if_pos ha, if_pos ha]; exact newOf_snoc
    · rw [if_neg ha, if_neg ha, newOf_snoc (seen := seen ++ [a.1]), List.cons_append, List.map_cons, List.append_assoc, List.singleton_append]
theorem newOf_fst {t : List (Nm × List Nm)} {seen : List Nm} {e : Nm × List Nm} (h : e ∈ newOf seen t) : e ∈ t := (newOf_mem h).1
theorem WhyRun.len {hv : List Man} {c : List Nat} {name : Nm} {N : List Nm} (hcl : ∀ x ∈ N, ∀ y ∈ depsN hv c x, y ∈ N) {seen : List Nm} {l : List (Nm × List Nm)} {r : Option (List Nm)} (h : WhyRun hv c name seen l r) :
    ∀ {m : Nat}, (∀ e ∈ l, e.2.length = m) → (l ≠ [] → m + 1 ≤ seen.length) → seen.Nodup → (∀ x ∈ seen, x ∈ N) → (∀ e ∈ l, e.1 ∈ N) → ∀ p, r = some p → p.length ≤ N.length := by
  induction h with
  | nil => intro m _ _ _ _ _ p e; cases e
  | @hit seen l pr hm =>
    intro m hl hs hn hN _ p e
    cases e
    have h1 := hs (fun e => by rw [e] at hm; cases hm)
    have h2 := subset_len hn hN
    rw [List.length_append, hl _ hm, List.length_singleton]; omega
  | @next seen l r h0 hn _ ih =>
    intro m hl hs hnd hN hlN p e
    have hs1 := hs h0
    have hm : ∀ e ∈ newOf seen (nextOf hv c l), e.1 ∈ N ∧ e.2.length = m + 1 := fun e he => by
      obtain ⟨h1, _⟩ := newOf_mem he
      obtain ⟨x, hx, h2⟩ := List.mem_flatMap.1 h1
      obtain ⟨y, hy, rfl⟩ := List.mem_map.1 h2
      refine ⟨hcl _ (hlN x hx) _ hy, ?_⟩
      rw [List.length_append, hl x hx]; rfl
    refine ih (m := m + 1) (fun e he => (hm e he).2) (fun hne => ?_) (newOf_nodup hnd) (fun x hx => ?_) (fun e he => (hm e he).1) p e
    · rw [List.length_append, List.length_map]
      have := List.length_pos_iff.2 hne
      omega
    · rcases List.mem_append.1 hx with hx | hx
      · exact hN x hx
      · obtain ⟨e, he, rfl⟩ := List.mem_map.1 hx
        exact (hm e he).1
end Go.Proofs.YtanhgihfgmbojaaGreatDoor

/- slices.Insert of one string at the beginning. -/
namespace Go.Proofs.YtanhgihfgmbojaaGreatDoor
open Go.X Go.X.Diff
set_option maxRecDepth 100000
set_option linter.unusedSimpArgs false
set_option linter.unusedVariables false

theorem slI_from {b o len cap k : Nat} (h1 : k ≤ len) (h2 : len ≤ cap) : slS 1 (.slice (some ⟨b, o, none⟩) len cap) (some (.int .i64 (k : Nat))) none none = some (.slice (some ⟨b, if cap = k then o else o + k, none⟩) (len - k) (cap - k)) := by
  have hbn : bnds len cap (some (.int .i64 (k : Nat))) none none = some (k, len, cap) := by
    simp only [bnds, bnd, Option.bind_some]
    rw [if_pos (by omega)]; rfl
  simp [slS, hbn]
theorem slI_to {b o len cap k : Nat} (h2 : k ≤ cap) : slS 1 (.slice (some ⟨b, o, none⟩) len cap) none (some (.int .i64 (k : Nat))) none = some (.slice (some ⟨b, o, none⟩) k cap) := by
  have hbn : bnds len cap none (some (.int .i64 (k : Nat))) none = some (0, k, cap) := by
    simp only [bnds, bnd, Option.bind_some]
    rw [if_pos (by omega)]; rfl
  simp [slS, hbn]
theorem mcopy_at {H : Heap} {b o len cap n : Nat} {A B C vs : List Value} {new : Array Value} {T : TypeId} {f : Nat × Nat} {x : Value} {k : Value → Heap → Prop} (hb : H[b]? = some (.cells (A ++ B ++ C).toArray T f)) (ho : o = A.length) (ht : ∀ i n, thaw f i n = true)
    (hx : elemsOf 1 H x = some (n, new)) (hvs : new.extract 0 (Nat.min n len * 1) = vs.toArray) (hone : ∀ v ∈ vs, v.oneCell' = true) (hl : vs.length = B.length)
    (hk : k (.int .i64 (Nat.min n len : Nat)) (H.setIfInBounds b (.cells (A ++ vs ++ C).toArray T f))) : Mcopy 1 H (.slice (some ⟨b, o, none⟩) len cap) x k := by
  refine ⟨n, new, some ⟨b, o, none⟩, len, cap, hx, rfl, ?_⟩
  show Mwr (stA H b o (new.extract 0 (Nat.min n len * 1))) _
  rw [hvs, stA_at hb o vs.toArray (ht _ _) (by subst ho; simp; omega) (all_of hone), Mwr_some, spl_mid ho hl]
  exact hk
theorem elems_at {H : Heap} {b o n cap : Nat} {A B C : List Value} {T : TypeId} {f : Nat × Nat} (hb : H[b]? = some (.cells (A ++ B ++ C).toArray T f)) (ho : o = A.length) (hn : n = B.length) : elemsOf 1 H (.slice (some ⟨b, o, none⟩) n cap) = some (n, B.toArray) := by
  subst ho hn
  unfold elemsOf
  by_cases h0 : B.length = 0
  · have : B = [] := List.length_eq_zero_iff.1 h0
    subst this; simp
  · simp only [h0, if_false, hb, Nat.mul_one]
    rw [if_pos (by simp)]
    congr 2
    apply Array.ext'
    simp [List.take_append_of_le_length]
theorem xt_overlaps {args : Array Value} : xtV prg f_slices_overlaps_string args = Extern.SlicesOverlaps.overlaps #[T_S_string, T_S_string] #[T_bool] args := by kernel_rfl
theorem u_SStr' : prg.underlying T_S_string = some (.slice T_string) := by kernel_rfl
theorem i_Str' : ∃ i, prg.info? T_string = some i := Option.isSome_iff_exists.1 i_string
theorem overlaps_no {H : Heap} {q b oq ob lq cq lb cb : Nat} {cs ds : Array Value} {T U : TypeId} {f : Nat × Nat} {k : Value → Heap → Prop} (hq : H[q]? = some (.cells cs T (0, 0))) (hb : H[b]? = some (.cells ds U f)) (hne : q ≠ b) (hd : ds.size ≠ 0) (hk : k (.bool false) H) :
    Msem prg (xtV prg f_slices_overlaps_string #[.slice (some ⟨q, oq, none⟩) lq cq, .slice (some ⟨b, ob, none⟩) lb cb]) H k := by
  intro w hw
  subst hw
  obtain ⟨i, hi⟩ := i_Str'
  refine ⟨.bool false, w, ?_, Same.rfl' w, hk⟩
  rw [xt_overlaps]
  exact Lib.run_overlaps_apart w T_S_string T_bool T_string u_SStr' _ (run_size hi) _ _ _ _ _ _ hne T U cs.size ds.size (by simp [World.shape?, hq]) (by simp [World.shape?, hb]) hd (by simp [World.frozen?, hq]) (by simp [World.frozen?, hq])
theorem cs_cut {cs : Array Value} {o n : Nat} {vs : List Value} (h : (cs.toList.drop o).take n = vs) (hn : n = vs.length) (hle : o + n ≤ cs.size) : cs = (cs.toList.take o ++ vs ++ cs.toList.drop (o + n)).toArray := by
  apply Array.ext'
  simp only [List.append_assoc]
  rw [← h, ← List.drop_drop, List.take_append_drop, List.take_append_drop]
theorem strs_flat {l : List (List UInt8)} : (strs l).flatten = l.map str := rows1_flat
theorem str_ones {l : List (List UInt8)} : ∀ v ∈ l.map str, v.oneCell' = true := fun v hv => by obtain ⟨x, _, rfl⟩ := List.mem_map.1 hv; rfl
theorem bufS {F : Nat → Prop} {H : Heap} {b o c : Nat} {A C : List Value} {l : List (List UInt8)} {T : TypeId} {f : Nat × Nat} (hb : H[b]? = some (.cells (A ++ l.map str ++ C).toArray T f)) (ho : o = A.length) (hF : F b) (ht : ∀ i n, thaw f i n = true) (hc : l.length ≤ c) (hcs : c ≤ l.length + C.length) : BufE 1 F H (.slice (some ⟨b, o, none⟩) l.length c) (strs l) := by
  refine ⟨rows1_el, rows1_one str_ones, .inr ⟨b, o, c, _, T, f, by rw [strs_len], hF, by rw [strs_len]; exact hc, hb, ?_, ht, ?_⟩⟩
  · subst ho; simp; omega
  · subst ho
    rw [strs_flat, strs_len, Nat.mul_one, List.append_assoc, List.drop_left]
    have e : l.length = (l.map str).length := by simp
    rw [e, List.take_left]
set_option maxHeartbeats 1000000 in
theorem c_InsertS {F : Nat → Prop} {H : Heap} {v : Value} {xs : List (List UInt8)} {y : List UInt8} {q : Nat} (h : BufE 1 F H v (strs xs)) (hq : H[q]? = some (.cells [str y].toArray T_string (0, 0))) (hFq : ¬ F q) (hl : xs.length ≤ 1000000) :
    HCalls prg f_slices_Insert_S_string_string [v, .int .i64 0, .slice (some ⟨q, 0, none⟩) 1 1] H fun u H' => BufE 1 (fun b => F b ∨ H.size ≤ b) H' u (strs (y :: xs)) ∧ Keep F H H' := by
  apply sh_slices_Insert_S_string_string_calls
  unfold sh_slices_Insert_S_string_string
  have lv := h.sl.len
  rw [strs_len] at lv
  have l1 : lenV (.slice (some ⟨q, 0, none⟩) 1 1) = some (.int .i64 ((1 : Nat) : Int)) := rfl
  have hx1 : SlE 1 (· = q) H (.slice (some ⟨q, 0, none⟩) 1 1) (strs [y]) := ⟨⟨_, 1, rfl, Nat.le_refl _, .inr ⟨q, 0, rfl, rfl, by rw [strs_flat]; exact Pt.of hq⟩⟩, rows1_el, rows1_one str_ones⟩
  have e0 : ∃ u, slS 1 v (some (.int .i64 0)) none none = some u := by
    obtain ⟨_, _, ⟨rfl, _⟩ | ⟨b, o, c, cs, T, f, rfl, _, hc, _⟩⟩ := h
    · exact ⟨_, rfl⟩
    · exact ⟨_, slI_from (k := 0) (Nat.zero_le _) hc⟩
  obtain ⟨u0, e0⟩ := e0
  rw [e0, Mpu_some, l1, Mpu_some, show binV .no .eql (.int .i64 ((1 : Nat) : Int)) (.int .i64 0) = some (.bool false) from rfl, Mpu_some, Mcd_bool, if_neg (by decide), lv, Mpu_some, show binV .no .eql (.int .i64 0) (.int .i64 (xs.length : Nat)) = some (.bool (decide (0 = xs.length))) from eqNn (n := 0), Mpu_some, Mcd_bool]
  cases xs with
  | nil =>
    rw [if_pos (by decide)]
    refine (h.mono (G := fun b => F b ∨ H.size ≤ b) fun b hb => .inl hb).app hx1 (by omega) (by rw [strs_len, strs_len]; simp) (.inr (Nat.le_refl _)) fun u H' hb k => ⟨hb, k.mono fun b hb hF => hF.elim id fun h => by omega⟩
  | cons x xs =>
  rw [if_neg (by simp)]
  obtain ⟨_, _, h0 | ⟨b, o, c, cs, T, f, rfl, hF, hc, hb, hle, ht, hcells⟩⟩ := h
  · cases h0.2
  have hne : q ≠ b := fun e => hFq (e ▸ hF)
  rw [strs_len] at hc hcells lv e0 ⊢
  rw [Nat.mul_one] at hle hcells
  rw [strs_flat] at hcells
  have hcs := cs_cut hcells (by simp) (by omega)
  have hol : (cs.toList.take o).length = o := by simp; omega
  have hcl : (cs.toList.drop (o + (x :: xs).length)).length = cs.size - (o + (x :: xs).length) := by simp
  generalize hA : cs.toList.take o = A at hcs hol
  generalize hC : cs.toList.drop (o + (x :: xs).length) = C at hcs hcl
  have hsz : cs.size = o + (x :: xs).length + C.length := by rw [hcl]; omega
  clear hA hC hcl hcells
  generalize hn : (x :: xs).length = n at *
  have hnp : 1 ≤ n := by rw [← hn]; simp
  have eadd : binV .no .add (.int .i64 (n : Nat)) (.int .i64 ((1 : Nat) : Int)) = some (.int .i64 ((n + 1 : Nat) : Int)) := add_one' (by omega)
  have eadd0 : binV .no .add (.int .i64 0) (.int .i64 ((1 : Nat) : Int)) = some (.int .i64 ((1 : Nat) : Int)) := rfl
  have esub : binV .no .sub (.int .i64 ((n + 1 : Nat) : Int)) (.int .i64 0) = some (.int .i64 ((n + 1 : Nat) : Int)) := by
    rw [binV_int]; simp only [intV, Int.sub_zero]; rw [wrap_id] <;> omega
  rw [eadd, Mpu_some, show capV (.slice (some ⟨b, o, none⟩) n c) = some (.int .i64 (c : Nat)) from rfl, Mpu_some, gtNn, Mpu_some, Mcd_bool]
  rw [hcs] at hb
  have hvl : ((x :: xs).map str).length = n := by rw [List.length_map]; exact hn
  by_cases hgt : n + 1 > c
  · rw [if_pos (by simpa using hgt), show slS 1 (.slice (some ⟨b, o, none⟩) n c) none (some (.int .i64 0)) none = some (.slice (some ⟨b, o, none⟩) 0 c) from slI_to (k := 0) (Nat.zero_le _), Mpu_some, Mpu_some, esub, Mpu_some]
    refine ⟨_, 0, c, .i64, n + 1, _, rfl, rfl, by omega, by omega, z_string, ?_, fun h => by omega, fun _ => ⟨by omega, by omega, #[], rfl, fun cap rest h1 h2 h3 => ?_⟩⟩
    · exact zrow_ones (by simp) (by rw [Array.all_eq_true_iff_forall_mem]; intro c hc; simp at hc; subst hc; rfl)
    rw [Nat.zero_add] at h1 h3 ⊢
    rw [Nat.mul_one] at h3
    have ez : #[] ++ zrow [str []].toArray ((n + 1) * 1) ++ rest = ([] ++ [str []] ++ (List.replicate n (str []) ++ rest.toList)).toArray := by
      rw [zrow_v, Nat.mul_one]
      apply Array.ext'
      simp [List.replicate_succ]
    rw [ez]
    generalize hH2 : H.push (.cells ([] ++ [str []] ++ (List.replicate n (str []) ++ rest.toList)).toArray T_string (0, 0)) = H2
    have hb2 : H2[H.size]? = some (.cells ([] ++ [str []] ++ (List.replicate n (str []) ++ rest.toList)).toArray T_string (0, 0)) := by rw [← hH2]; exact push_new
    have k2 : Keep (fun _ => False) H H2 := by rw [← hH2]; exact Keep.push
    rw [show slS 1 (.slice (some ⟨H.size, 0, none⟩) (n + 1) cap) (some (.int .i64 0)) none none = _ from slI_from (k := 0) (Nat.zero_le _) h1, Mpu_some]
    have eo : (if cap = 0 then 0 else 0 + 0) = 0 := by split <;> rfl
    rw [eo]
    refine mcopy_at (A := []) hb2 rfl (fun _ _ => thaw_00) (hx1.keep k2 fun _ _ => id).elems (vs := [str y]) ?_ (fun v hv => by simp at hv; subst hv; rfl) rfl ?_
    · rw [strs_len, strs_flat]
      have : Nat.min 1 (n + 1 - 0) = 1 := Nat.min_eq_left (by omega)
      show #[str y].extract 0 (Nat.min 1 (n + 1 - 0) * 1) = _
      rw [this]; rfl
    generalize hH3 : H2.setIfInBounds H.size (.cells ([] ++ [str y] ++ (List.replicate n (str []) ++ rest.toList)).toArray T_string (0, 0)) = H3
    have hb3 : H3[H.size]? = some (.cells ([str y] ++ List.replicate n (str []) ++ rest.toList).toArray T_string (0, 0)) := by rw [← hH3, set_self hb2]; simp
    have k3 : Keep (fun _ => False) H H3 := k2.fresh (S := (· = H.size)) (by rw [← hH3]; exact Keep.set rfl) fun b hb => by omega
    rw [eadd0, Mpu_some, show slS 1 (.slice (some ⟨H.size, 0, none⟩) (n + 1) cap) (some (.int .i64 ((1 : Nat) : Int))) none none = _ from slI_from (k := 1) (by omega) h1, Mpu_some, if_neg (by omega), Nat.zero_add, Nat.add_sub_cancel, Mpu_some]
    obtain rfl := Option.some.inj (e0.symm.trans (slI_from (k := 0) (Nat.zero_le _) hc))
    have eo' : (if c = 0 then o else o + 0) = o := by split <;> omega
    rw [eo']
    have hb' : H3[b]? = some (.cells (A ++ (x :: xs).map str ++ C).toArray T f) := k3.at hb id
    refine mcopy_at (A := [str y]) hb3 rfl (fun _ _ => thaw_00) (elems_at hb' hol.symm hvl.symm) (vs := (x :: xs).map str) ?_ str_ones (by rw [hvl, List.length_replicate]) ?_
    · have : Nat.min (n - 0) n * 1 = ((x :: xs).map str).toArray.size := by rw [List.size_toArray, hvl, Nat.sub_zero, Nat.mul_one]; exact Nat.min_self n
      rw [this, Array.extract_size]
    have ey : [str y] ++ (x :: xs).map str = (y :: x :: xs).map str := rfl
    rw [ey]
    have hl' : (y :: x :: xs).length = n + 1 := by rw [List.length_cons, hn]
    refine ⟨?_, (k3.fresh (S := (· = H.size)) (Keep.set rfl) fun b hb => by omega).mono fun _ _ h => h.elim⟩
    rw [← hl'] at h1 ⊢
    exact bufS (A := []) (C := rest.toList) (set_self hb3) rfl (.inr (Nat.le_refl _)) (fun _ _ => thaw_00) h1 (by rw [hl', Array.length_toList, h3]; omega)
  · rw [if_neg (by simpa using hgt)]
    have hle1 : n + 1 ≤ c := by omega
    rw [Mpu_some]
    rw [show slS 1 (.slice (some ⟨b, o, none⟩) n c) none (some (.int .i64 ((n + 1 : Nat) : Int))) none = some (.slice (some ⟨b, o, none⟩) (n + 1) c) from slI_to hle1, Mpu_some, eadd0, Mpu_some]
    have s1 : slS 1 (.slice (some ⟨b, o, none⟩) (n + 1) c) (some (.int .i64 ((1 : Nat) : Int))) none none = some (.slice (some ⟨b, o + 1, none⟩) n (c - 1)) := by
      rw [slI_from (k := 1) (by omega) hle1, if_neg (by omega)]; rfl
    have s0 : slS 1 (.slice (some ⟨b, o, none⟩) (n + 1) c) (some (.int .i64 0)) none none = some (.slice (some ⟨b, o, none⟩) (n + 1) c) := by
      rw [show slS 1 (.slice (some ⟨b, o, none⟩) (n + 1) c) (some (.int .i64 0)) none none = _ from slI_from (k := 0) (Nat.zero_le _) hle1]
      have : (if c = 0 then o else o + 0) = o := by split <;> omega
      rw [this]; rfl
    rw [s1, Mpu_some]
    refine overlaps_no hq hb hne (by simp) ?_
    rw [unV_not, Mpu_some, Mcd_bool, if_pos (by rfl), Mpu_some, s1, Mpu_some, s0, Mpu_some]
    obtain ⟨r, C', rfl⟩ : ∃ r C', C = r :: C' := by
      cases C with
      | nil => simp at hsz; omega
      | cons r C' => exact ⟨r, C', rfl⟩
    have hb1 : H[b]? = some (.cells ((A ++ [str x]) ++ (xs.map str ++ [r]) ++ C').toArray T f) := by rw [hb]; simp
    have hb0 : H[b]? = some (.cells (A ++ ((x :: xs).map str ++ [r]) ++ C').toArray T f) := by rw [hb]; simp
    refine mcopy_at hb1 (by rw [List.length_append, hol]; rfl) ht (elems_at hb0 hol.symm (by rw [List.length_append, hvl]; rfl)) (vs := (x :: xs).map str) ?_ str_ones (by rw [hvl, List.length_append, List.length_map, ← hn]; rfl) ?_
    · have h1 : Nat.min (n + 1) n = n := Nat.min_eq_right (by omega)
      rw [h1, Nat.mul_one]
      apply Array.ext'
      rw [← hvl, Array.toList_extract, List.extract_eq_take_drop, List.drop_zero, Nat.sub_zero]
      exact List.take_left
    generalize hH2 : H.setIfInBounds b (.cells ((A ++ [str x]) ++ (x :: xs).map str ++ C').toArray T f) = H2
    have hb2 : H2[b]? = some (.cells (A ++ [str x] ++ ((x :: xs).map str ++ C')).toArray T f) := by rw [← hH2, set_self hb]; simp
    have k2 : Keep F H H2 := by rw [← hH2]; exact Keep.set hF
    rw [Mpu_some]
    refine mcopy_at (A := A) hb2 hol.symm ht (hx1.keep k2 fun b hb => by subst hb; exact hFq).elems (vs := [str y]) ?_ (fun v hv => by simp at hv; subst hv; rfl) rfl ?_
    · rw [strs_len, strs_flat]
      have : Nat.min 1 (n + 1) = 1 := Nat.min_eq_left (by omega)
      show #[str y].extract 0 (Nat.min 1 (n + 1) * 1) = _
      rw [this]; rfl
    have ey : A ++ [str y] ++ ((x :: xs).map str ++ C') = A ++ (y :: x :: xs).map str ++ C' := by simp
    rw [ey]
    have hl' : (y :: x :: xs).length = n + 1 := by rw [List.length_cons, hn]
    refine ⟨?_, k2.trans (Keep.set hF)⟩
    rw [← hl'] at hle1 ⊢
    exact bufS (set_self hb2) hol.symm (.inl hF) ht hle1 (by rw [hl']; simp at hsz; omega)
end Go.Proofs.YtanhgihfgmbojaaGreatDoor

