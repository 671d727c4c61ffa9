/- JOINED: V161 V185 -/
import Derived.Test.YtanhgihfgmbojaaGreatDoorG8
import Derived.MapKept
import Derived.Test.YtanhgihfgmbojaaGreatDoorG19
set_option linter.unusedSimpArgs false
set_option linter.unusedVariables false
/- maps whose keys are integers, strings or bools: made, looked up, written. -/
namespace Go.Proofs.YtanhgihfgmbojaaGreatDoor
open Go.X Go.X.Diff Go.MapKept
set_option maxRecDepth 100000

/-- a type of maps: its keys' kind, and the zero of what it holds -/
def MapT (P : Program) (mty : TypeId) (d : TypeDesc) (z : Value) : Prop := ∃ kt et, P.underlying mty = some (.map kt et) ∧ P.underlying kt = some d ∧ ∀ w : World, (zeroValue et).run P w = .ok z w
def mres (ok : Bool) (v : Value) (b : Bool) : Value := if ok then .tuple #[v, .bool b] else v
theorem mem_of_map {arr : Array MapEntry} {es : List (Value × Value)} (h : arr.toList.map (fun e => (e.key, e.val)) = es) {j : Nat} {e : MapEntry} (hj : arr.toList[j]? = some e) : es[j]? = some (e.key, e.val) := by
  rw [← h, List.getElem?_map, hj]; rfl
theorem lookup_i {P : Program} {mty : TypeId} {d : TypeDesc} {z key : Value} {ok : Bool} {H : Heap} {q : Nat} {es : List (Value × Value)} {k : Value → Heap → Prop} (hT : MapT P mty d z) (hm : MapAt H q es) (hks : ∀ x ∈ es, IsKey d x.1) (hk : IsKey d key)
    (h1 : ∀ v, (key, v) ∈ es → k (mres ok v true) H) (h2 : (∀ x ∈ es, x.1 ≠ key) → k (mres ok z false) H) : Msem P (Instr.lookup mty (.map (some q)) key ok) H k := fun w hw => by
  subst hw
  obtain ⟨kt, et, t1, t2, t3⟩ := hT
  obtain ⟨arr, clock, hb, he⟩ := hm
  have hks' : ∀ x ∈ arr.toList, IsKey d x.key := fun x hx => hks (x.key, x.val) (by rw [← he]; exact List.mem_map.2 ⟨x, hx, rfl⟩)
  rcases findNow_spec hk arr.toList 0 hks' with ⟨f1, f2⟩ | ⟨j, e, f1, f2, f3⟩
  · refine ⟨mres ok z false, w, ?_, Same.rfl' _, h2 fun x hx => ?_⟩
    · cases ok <;> simp [Instr.lookup, run_underlying t1, Go.MapKept.run_getObj_map hb, run_checkKey t2 hk, run_findKey t2 f1, t3, Result.andThen, mres]
    · rw [← he] at hx
      obtain ⟨y, hy, rfl⟩ := List.mem_map.1 hx
      exact f2 y hy
  · refine ⟨mres ok e.val true, w, ?_, Same.rfl' _, h1 _ ?_⟩
    · cases ok <;> simp [Instr.lookup, run_underlying t1, Go.MapKept.run_getObj_map hb, run_checkKey t2 hk, run_findKey t2 f1, Result.andThen, mres]
    · have := mem_of_map he f2
      rw [f3] at this
      exact List.mem_of_getElem? this
theorem update_i {P : Program} {mty : TypeId} {d : TypeDesc} {z key val : Value} {H : Heap} {q : Nat} {es : List (Value × Value)} {k : Value → Heap → Prop} (hT : MapT P mty d z) (hm : MapAt H q es) (hks : ∀ x ∈ es, IsKey d x.1) (hk : IsKey d key)
    (h1 : ∀ j v H', es[j]? = some (key, v) → MapAt H' q (es.set j (key, val)) → Keep (· = q) H H' → k undef H') (h2 : ∀ H', (∀ x ∈ es, x.1 ≠ key) → MapAt H' q (es ++ [(key, val)]) → Keep (· = q) H H' → k undef H') : Msu P (Instr.mapUpdate mty (.map (some q)) key val) H k := fun w hw => by
  subst hw
  obtain ⟨kt, et, t1, t2, t3⟩ := hT
  obtain ⟨arr, clock, hb, he⟩ := hm
  have hks' : ∀ x ∈ arr.toList, IsKey d x.key := fun x hx => hks (x.key, x.val) (by rw [← he]; exact List.mem_map.2 ⟨x, hx, rfl⟩)
  have hsol : ∀ o : Obj, (∀ ds, o ≠ .deferred ds) → Solid w.heap (w.heap.setIfInBounds q o) := fun o ho i ds hi => by
    rw [Array.getElem?_setIfInBounds]
    split
    · rename_i e; subst e; rw [hb] at hi; cases hi
    · exact hi
  rcases findNow_spec hk arr.toList 0 hks' with ⟨f1, f2⟩ | ⟨j, e, f1, f2, f3⟩
  · refine ⟨{ w with heap := w.heap.setIfInBounds q (.map (arr.push { key, val, born := clock }) (clock + 1)) }, ?_, ⟨rfl, rfl, rfl, hsol _ (fun _ e => by cases e)⟩, h2 _ (fun x hx => ?_) ⟨_, _, (heap_set hb).1, ?_⟩ (Keep.set rfl)⟩
    · simp [Instr.mapUpdate, run_underlying t1, Go.MapKept.run_getObj_map hb, run_checkKey t2 hk, run_findKey t2 f1, Go.MapKept.run_setObj_map _ hb, Result.andThen]
    · rw [← he] at hx
      obtain ⟨y, hy, rfl⟩ := List.mem_map.1 hx
      exact f2 y hy
    · rw [Array.toList_push, List.map_append, he]; rfl
  · have hj : arr[j]? = some e := by simpa using f2
    have hes := mem_of_map he f2
    rw [f3] at hes
    refine ⟨{ w with heap := w.heap.setIfInBounds q (.map (arr.modify j fun e => { e with key := key, val := val }) clock) }, ?_, ⟨rfl, rfl, rfl, hsol _ (fun _ e => by cases e)⟩, h1 j e.val _ hes ⟨_, _, (heap_set hb).1, ?_⟩ (Keep.set rfl)⟩
    · simp [Instr.mapUpdate, run_underlying t1, Go.MapKept.run_getObj_map hb, run_checkKey t2 hk, run_findKey t2 f1, hj, f3, run_keyThatStays hk, Go.MapKept.run_setObj_map _ hb, Result.andThen]
    · rw [← he]
      apply List.ext_getElem?
      intro i
      rw [Array.toList_modify, List.getElem?_map, List.getElem?_modify, List.getElem?_set]
      by_cases hij : j = i
      · subst hij
        obtain ⟨hlt, _⟩ := List.getElem?_eq_some_iff.1 f2
        have hlt' : j < arr.size := by simpa using hlt
        simp [f2, hlt']
      · rw [if_neg hij]
        simp [hij]
end Go.Proofs.YtanhgihfgmbojaaGreatDoor

/- law 20: SolveChoices. -/
namespace Go.Proofs.YtanhgihfgmbojaaGreatDoor
open Go.X Go.X.Diff Go.MapKept
set_option maxRecDepth 100000
set_option linter.unusedSimpArgs false
set_option linter.unusedVariables false

def SetAt (h : Heap) (q : Nat) (l : List Int) : Prop := ∃ es, MapAt h q es ∧ (∀ x ∈ es, ∃ n : Int, x = (.int .i64 n, .bool true)) ∧ ∀ n : Int, ((Value.int .i64 n, Value.bool true) ∈ es ↔ n ∈ l)
theorem SetAt.keep {H H' : Heap} {q : Nat} {l : List Int} {S : Nat → Prop} (h : SetAt H q l) (k : Keep S H H') (hs : ¬ S q) : SetAt H' q l := by
  obtain ⟨es, h1, h2⟩ := h
  exact ⟨es, h1.keep k hs, h2⟩
theorem SetAt.keys {es : List (Value × Value)} (h : ∀ x ∈ es, ∃ n : Int, x = (.int .i64 n, .bool true)) : ∀ x ∈ es, IsKey (.int .i64) x.1 := fun x hx => by
  obtain ⟨n, rfl⟩ := h x hx
  exact rfl
end Go.Proofs.YtanhgihfgmbojaaGreatDoor

