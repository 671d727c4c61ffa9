/- JOINED: V161 V185 -/
import Derived.Test.YtanhgihfgmbojaaGreatDoorG8
import Derived.MapKept
import Derived.Test.YtanhgihfgmbojaaGreatDoorG19
set_option linter.unusedSimpArgs false
set_option linter.unusedVariables false
/- maps whose keys are integers, strings or bools: made, looked up, written. -/
namespace Go.Proofs.YtanhgihfgmbojaaGreatDoor
open Go.X Go.X.Diff Go.MapKept
set_option maxRecDepth 100000

/-- a type of maps: its keys' kind, and the zero of what it holds -/
def MapT (P : Program) (mty : TypeId) (d : TypeDesc) (z : Value) : Prop := ∃ kt et, P.underlying mty = some (.map kt et) ∧ P.underlying kt = some d ∧ ∀ w : World, (zeroValue et).run P w = .ok z w
def mres (ok : Bool) (v : Value) (b : Bool) : Value := if ok then .tuple #[v, .bool b] else v
theorem mem_of_map {arr : Array MapEntry} {es : List (Value × Value)} (h : arr.toList.map (fun e => (e.key, e.val)) = es) {j : Nat} {e : MapEntry} (hj : arr.toList[j]? = some e) : es[j]? = some (e.key, e.val) := by
  rw [← h, List.getElem?_map, hj]; rfl
theorem lookup_i {P : Program} {mty : TypeId} {d : TypeDesc} {z key : Value} {ok : Bool} {H : Heap} {q : Nat} {es : List (Value × Value)} {k : Value → Heap → Prop} (hT : MapT P mty d z) (hm : MapAt H q es) (hks : ∀ x ∈ es, IsKey d x.1) (hk : IsKey d key)
    (h1 : ∀ v, (key, v) ∈ es → k (mres ok v true) H) (h2 : (∀ x ∈ es, x.1 ≠ key) → k (mres ok z false) H) : Msem P (Instr.lookup mty (.map (some q)) key ok) H k := fun w hw => by
  subst hw
  obtain ⟨kt, et, t1, t2, t3⟩ := hT
  obtain ⟨arr, clock, hb, he⟩ := hm
  have hks' : ∀ x ∈ arr.toList, IsKey d x.key := fun x hx => hks (x.key, x.val) (by rw [← he]; exact List.mem_map.2 ⟨x, hx, rfl⟩)
  rcases findNow_spec hk arr.toList 0 hks' with ⟨f1, f2⟩ | ⟨j, e, f1, f2, f3⟩
  · refine ⟨mres ok z false, w, ?_, Same.rfl' _, h2 fun x hx => ?_⟩
    · cases ok <;> simp [Instr.lookup, run_underlying t1, Go.MapKept.run_getObj_map hb, run_checkKey t2 hk, run_findKey t2 f1, t3, Result.andThen, mres]
    · rw [← he] at hx
      obtain ⟨y, hy, rfl⟩ := List.mem_map.1 hx
      exact f2 y hy
  · refine ⟨mres ok e.val true, w, ?_, Same.rfl' _, h1 _ ?_⟩
    · cases ok <;> simp [Instr.lookup, run_underlying t1, Go.MapKept.run_getObj_map hb, run_checkKey t2 hk, run_findKey t2 f1, Result.andThen, mres]
    · have := mem_of_map he f2
      rw [f3] at this
      exact List.mem_of_getElem? this
theorem update_i {P : Program} {mty : TypeId} {d : TypeDesc} {z key val : Value} {H : Heap} {q : Nat} {es : List (Value × Value)} {k : Value → Heap → Prop} (hT : MapT P mty d z) (hm : MapAt H q es) (hks : ∀ x ∈ es, IsKey d x.1) (hk : IsKey d key)
    (h1 : ∀ j v H', es[j]? = some (key, v) → MapAt H' q (es.set j (key, val)) → Keep (· = q) H H' → k undef H') (h2 : ∀ H', (∀ x ∈ es, x.1 ≠ key) → MapAt H' q (es ++ [(key, val)]) → Keep (· = q) H H' → k undef H') : Msu P (Instr.mapUpdate mty (.map (some q)) key val) H k := fun w hw => by
  subst hw
  obtain ⟨kt, et, t1, t2, t3⟩ := hT
  obtain ⟨arr, clock, hb, he⟩ := hm
  have hks' : ∀ x ∈ arr.toList, IsKey d x.key := fun x hx => hks (x.key, x.val) (by rw [← he]; exact List.mem_map.2 ⟨x, hx, rfl⟩)
  have hsol : ∀ o : Obj, (∀ ds, o ≠ .deferred ds) → Solid w.heap (w.heap.setIfInBounds q o) := fun o ho i ds hi => by
    rw [Array.getElem?_setIfInBounds]
    split
    · rename_i e; subst e; rw [hb] at hi; cases hi
    · exact hi
  rcases findNow_spec hk arr.toList 0 hks' with ⟨f1, f2⟩ | ⟨j, e, f1, f2, f3⟩
  · refine ⟨{ w with heap := w.heap.setIfInBounds q (.map (arr.push { key, val, born := clock }) (clock + 1)) }, ?_, ⟨rfl, rfl, rfl, hsol _ (fun _ e => by cases e)⟩, h2 _ (fun x hx => ?_) ⟨_, _, (heap_set hb).1, ?_⟩ (Keep.set rfl)⟩
    · simp [Instr.mapUpdate, run_underlying t1, Go.MapKept.run_getObj_map hb, run_checkKey t2 hk, run_findKey t2 f1, Go.MapKept.run_setObj_map _ hb, Result.andThen]
    · rw [← he] at hx
      obtain ⟨y, hy, rfl⟩ := List.mem_map.1 hx
      exact f2 y hy
    · rw [Array.toList_push, List.map_append, he]; rfl
  · have hj : arr[j]? = some e := by simpa using f2
    have hes := mem_of_map he f2
    rw [f3] at hes
    refine ⟨{ w with heap := w.heap.setIfInBounds q (.map (arr.modify j fun e => { e with key := key, val := val }) clock) }, ?_, ⟨rfl, rfl, rfl, hsol _ (fun _ e => by cases e)⟩, h1 j e.val _ hes ⟨_, _, (heap_set hb).1, ?_⟩ (Keep.set rfl)⟩
    · simp [Instr.mapUpdate, run_underlying t1, Go.MapKept.run_getObj_map hb, run_checkKey t2 hk, run_findKey t2 f1, hj, f3, run_keyThatStays hk, Go.MapKept.run_setObj_map _ hb, Result.andThen]
    · rw [← he]
      apply List.ext_getElem?
      intro i
      rw [Array.toList_modify, List.getElem?_map, List.getElem?_modify, List.getElem?_set]
      by_cases hij : j = i
      · subst hij
        obtain ⟨hlt, _⟩ := List.getElem?_eq_some_iff.1 f2
        have hlt' : j < arr.size := by simpa using hlt
        simp [f2, hlt']
      · rw [if_neg hij]
        simp [hij]
end Go.Proofs.YtanhgihfgmbojaaGreatDoor

/- law 20: SolveChoices. -/
namespace Go.Proofs.YtanhgihfgmbojaaGreatDoor
open Go.X Go.X.Diff Go.MapKept
set_option maxRecDepth 100000
set_option linter.unusedSimpArgs false
set_option linter.unusedVariables false

theorem t_mib : MapT prg T_map_int_bool (.int .i64) (.bool false) := ⟨T_int, T_bool, by kernel_rfl, by kernel_rfl, fun w => by rfl⟩
def SetAt (h : Heap) (q : Nat) (l : List Int) : Prop := ∃ es, MapAt h q es ∧ (∀ x ∈ es, ∃ n : Int, x = (.int .i64 n, .bool true)) ∧ ∀ n : Int, ((Value.int .i64 n, Value.bool true) ∈ es ↔ n ∈ l)
theorem SetAt.keep {H H' : Heap} {q : Nat} {l : List Int} {S : Nat → Prop} (h : SetAt H q l) (k : Keep S H H') (hs : ¬ S q) : SetAt H' q l := by
  obtain ⟨es, h1, h2⟩ := h
  exact ⟨es, h1.keep k hs, h2⟩
theorem SetAt.keys {es : List (Value × Value)} (h : ∀ x ∈ es, ∃ n : Int, x = (.int .i64 n, .bool true)) : ∀ x ∈ es, IsKey (.int .i64) x.1 := fun x hx => by
  obtain ⟨n, rfl⟩ := h x hx
  exact rfl
theorem set_look {H : Heap} {q : Nat} {l : List Int} {n : Int} {k : Value → Heap → Prop} (h : SetAt H q l) (hk : k (.bool (decide (n ∈ l))) H) : Msem prg (Instr.lookup T_map_int_bool (.map (some q)) (.int .i64 n) false) H k := by
  obtain ⟨es, h1, h2, h3⟩ := h
  refine lookup_i t_mib h1 (SetAt.keys h2) rfl (fun v hv => ?_) fun hno => ?_
  · obtain ⟨m, hm⟩ := h2 _ hv
    cases hm
    rw [decide_eq_true ((h3 n).1 hv)] at hk
    exact hk
  · have : n ∉ l := fun hn => hno _ ((h3 n).2 hn) rfl
    rw [decide_eq_false this] at hk
    exact hk
theorem set_add {H : Heap} {q : Nat} {l : List Int} {n : Int} {k : Value → Heap → Prop} (h : SetAt H q l) (hk : ∀ H', SetAt H' q (l ++ [n]) → Keep (· = q) H H' → k undef H') : Msu prg (Instr.mapUpdate T_map_int_bool (.map (some q)) (.int .i64 n) (.bool true)) H k := by
  obtain ⟨es, h1, h2, h3⟩ := h
  refine update_i t_mib h1 (SetAt.keys h2) rfl (fun j v H' hj hm kk => ?_) fun H' hno hm kk => ?_
  · obtain ⟨m, hm'⟩ := h2 _ (List.mem_of_getElem? hj)
    cases hm'
    rw [set_st hj] at hm
    refine hk H' ⟨es, hm, h2, fun m => ?_⟩ kk
    rw [h3, List.mem_append, List.mem_singleton]
    exact ⟨.inl, fun h => h.elim id fun e => by rw [e]; exact (h3 n).1 (List.mem_of_getElem? hj)⟩
  · refine hk H' ⟨_, hm, fun x hx => ?_, fun m => ?_⟩ kk
    · rcases List.mem_append.1 hx with hx | hx
      · exact h2 x hx
      · exact ⟨n, List.mem_singleton.1 hx⟩
    · rw [List.mem_append, List.mem_append, h3, List.mem_singleton, List.mem_singleton]
      simp
def okL (n : Nat) (l : List Int) : Bool := decide ((∀ k ∈ l, 0 ≤ k ∧ k < (n : Int)) ∧ l.Nodup)
theorem okL_snoc {n : Nat} {l : List Int} {k : Int} : okL n (l ++ [k]) = (okL n l && decide (0 ≤ k) && decide (k < (n : Int)) && !decide (k ∈ l)) := by
  rw [Bool.eq_iff_iff]
  unfold okL
  simp only [Bool.and_eq_true, decide_eq_true_eq, Bool.not_eq_true', decide_eq_false_iff_not, List.nodup_append, List.mem_append, List.mem_singleton]
  constructor
  · rintro ⟨h1, h2, _, h3⟩
    exact ⟨⟨⟨⟨fun j hj => h1 j (.inl hj), h2⟩, (h1 k (.inr rfl)).1⟩, (h1 k (.inr rfl)).2⟩, fun hk => h3 k hk k rfl rfl⟩
  · rintro ⟨⟨⟨⟨h1, h2⟩, h3⟩, h4⟩, h5⟩
    refine ⟨fun j hj => hj.elim (h1 j) fun e => by rw [e]; exact ⟨h3, h4⟩, h2, by simp, fun a ha b hb e => h5 (by rw [← hb, ← e]; exact ha)⟩
theorem okL_zs {n : Nat} {l : List Int} (h : okL n l = true) : ∃ c, l = zs c ∧ ∀ k ∈ c, k < n := by
  unfold okL at h
  obtain ⟨h1, h2⟩ := of_decide_eq_true h
  refine ⟨l.map Int.toNat, ?_, fun k hk => ?_⟩
  · unfold zs
    rw [List.map_map]
    conv => lhs; rw [← List.map_id l]
    refine List.map_congr_left fun k hk => ?_
    have := (h1 k hk).1
    show k = ((k.toNat : Nat) : Int)
    omega
  · obtain ⟨j, hj, rfl⟩ := List.mem_map.1 hk
    have := h1 j hj
    omega
theorem okL_right {hv : List Man} {wants : List Dep} {l : List Int} (h : rightB hv wants l = true) : okL hv.length l = true := by
  obtain ⟨c, rfl, hR⟩ := rightB_iff.1 h
  unfold okL
  refine decide_eq_true ⟨fun k hk => ?_, ?_⟩
  · obtain ⟨j, hj, rfl⟩ := zs_mem hk
    have := hR.nm.1 j hj
    omega
  · unfold zs
    exact List.pairwise_map.2 (hR.nm.nodup.imp fun hne e => hne (by omega))
theorem c_NeededNo {P Q : Nat → Prop} {H : Heap} {mv : List MV} {wants : List Dep} {vh vw vc : Value} {b : Int} {z : List Int} (hp : Prb P H mv wants vh vw) (hP : ∀ b, P b → b < H.size) (hc : SlE 1 Q H vc (ints z)) (hQ : ∀ b, Q b → b < H.size) (hno : (probOk (hvOf mv) wants b && rightB (hvOf mv) wants z) = false) (hl : mv.length ≤ 12) (hwl : wants.length ≤ 64) (hzl : z.length ≤ 1000000) (hO : OpsT H) :
    HCalls prg f_solve_Needed [.agg (prbC vh vw b).toArray, vc] H fun u H' => u = .slice none 0 0 ∧ Keep (fun _ => False) H H' := by
  apply sh_solve_Needed_calls
  unfold sh_solve_Needed
  simp only [Cells_agg, Mnew_some]
  generalize hH1 : H.push (.cells (prbC vh vw b).toArray T_solve_Problem (0, 0)) = H1
  have k1 : Keep (fun _ => False) H H1 := by rw [← hH1]; exact Keep.push
  have a1 : At H1 H.size (prbC vh vw b) := by rw [← hH1]; exact At.push
  have s1 : H1.size = H.size + 1 := by rw [← hH1]; simp
  rw [a1.ldN (n := 3) rfl, Mpu_some]
  refine call_i (c_Right (hp.keep k1 fun _ _ => id) (fun b hb => by have := hP b hb; omega) (hc.keep k1 fun _ _ => id) (fun b hb => by have := hQ b hb; omega) (by omega) hwl hzl (hO.keep k1 fun _ h => h.elim)) ?_
  rintro _ h2 ⟨rfl, k2⟩
  rw [hno, unV_not, Mpu_some, Mcd_bool, if_pos (by rfl)]
  exact ⟨by trivial, k1.trans k2⟩
end Go.Proofs.YtanhgihfgmbojaaGreatDoor

