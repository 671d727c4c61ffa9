/- JOINED: V10b V11 V12 V13 V14 -/
import Derived.Test.YtconalffokhplaaGreatDoorGI
set_option linter.unusedSimpArgs false
set_option linter.unusedVariables false
/- records: right, in bytes. -/
namespace Go.Proofs.YtconalffokhplaaGreatDoor
open Go.X
set_option maxRecDepth 100000

/- heads and records -/
def headOk (s : Int) : Bool := decide (s ≥ 0) && decide (s ≤ 1048576)
def recC (k : Int) (vb va : Value) (s : Int) (r : List UInt8) : List Value := [Value.int .i64 k, vb, va, Value.int .i64 s] ++ bcells r
theorem recC_len {k s : Int} {vb va : Value} {r : List UInt8} (h : r.length = 32) : (recC k vb va s r).length = 36 := by simp [recC, h]
theorem Items.one {P : Nat → Prop} {H : Heap} {v : Value} {xs : List Item} (h : Items P H v xs) : v.oneCell' = true := h.1.oneC
theorem recC_one {P Q : Nat → Prop} {H H2 : Heap} {k s : Int} {vb va : Value} {xs ys : List Item} {r : List UInt8} (hb : Items P H vb xs) (ha : Items Q H2 va ys) : ∀ c ∈ recC k vb va s r, c.oneCell' = true := by
  intro c hc
  simp only [recC, List.mem_append, List.mem_cons, List.not_mem_nil, or_false] at hc
  rcases hc with (rfl | rfl | rfl | rfl) | hc
  · rfl
  · exact hb.one
  · exact ha.one
  · rfl
  · exact bcells_one c hc
structure RecA where
  k : Int
  bef : List Item
  aft : List Item
  s : Int
  r : List UInt8
def recOk (a : RecA) : Bool := decide (a.k ≥ 1) && decide (a.k ≤ 4) && itemsOk a.bef && itemsOk a.aft && headOk a.s

/- bytes -/
def itemB (x : Item) : List UInt8 := textB x.name ++ textB (showF x.ver) ++ x.sum
def putB (xs : List Item) : List UInt8 := numB xs.length 8 ++ (xs.map itemB).flatten
theorem put_take {xs : List Item} {i : Nat} {x : Item} (h : xs[i]? = some x) : ((xs.take (i + 1)).map itemB).flatten = ((xs.take i).map itemB).flatten ++ itemB x := by
  obtain ⟨hlt, rfl⟩ := List.getElem?_eq_some_iff.1 h
  rw [show xs.take (i + 1) = xs.take i ++ [xs[i]] by rw [List.take_add_one, List.getElem?_eq_getElem hlt]; rfl, List.map_append, List.flatten_append]; simp
theorem put_le {xs : List Item} {i : Nat} : (((xs.take i).map itemB).flatten).length ≤ ((xs.map itemB).flatten).length := by
  conv => rhs; rw [← List.take_append_drop i xs, List.map_append, List.flatten_append, List.length_append]
  omega
theorem textB_len {l : List UInt8} : (textB l).length = 4 + l.length := by simp [textB]

end Go.Proofs.YtconalffokhplaaGreatDoor
/- records in bytes, compared, copied; a history. -/
namespace Go.Proofs.YtconalffokhplaaGreatDoor
open Go.X
set_option maxRecDepth 100000

def recB (a : RecA) : List UInt8 := numB a.k 8 ++ putB a.bef ++ putB a.aft ++ numB a.s 8 ++ a.r

/- equal items -/
instance : DecidableEq Ver := fun a b => decidable_of_iff (a.p = b.p ∧ a.pre = b.pre) (by cases a; cases b; simp)
instance : DecidableEq Item := fun a b => decidable_of_iff (a.name = b.name ∧ a.ver = b.ver ∧ a.sum = b.sum) (by cases a; cases b; simp)
theorem eqCells_app {k1 k2 : List Nat} {a1 a2 b1 b2 : List Value} {p q : Bool} (ha : a1.length = k1.length) (hb : b1.length = k1.length) (h1 : eqCells k1 a1 b1 = some p) (h2 : eqCells k2 a2 b2 = some q) : eqCells (k1 ++ k2) (a1 ++ a2) (b1 ++ b2) = some (p && q) := by
  induction k1 generalizing a1 b1 p with
  | nil =>
    obtain rfl := List.length_eq_zero_iff.1 ha
    obtain rfl := List.length_eq_zero_iff.1 hb
    simp only [eqCells, Option.some.injEq] at h1
    subst h1; simpa using h2
  | cons k k1 ih =>
    match a1, b1, ha, hb with
    | a :: a1, b :: b1, ha, hb =>
      simp only [eqCells] at h1
      simp only [List.cons_append, eqCells]
      cases hx : eqCell k a b with
      | none => rw [hx] at h1; cases h1
      | some x =>
        cases hy : eqCells k1 a1 b1 with
        | none => rw [hx, hy] at h1; cases h1
        | some y =>
          rw [hx, hy] at h1
          simp only [Option.some.injEq] at h1
          rw [ih (by simpa using ha) (by simpa using hb) hy]
          simp [← h1, Bool.and_assoc]
theorem eqCells_ints {k : IntKind} {l m : List Int} (h : l.length = m.length) : eqCells (List.replicate l.length 0) (icells k l) (icells k m) = some (decide (l = m)) := by
  induction l generalizing m with
  | nil => cases m with
    | nil => rfl
    | cons b m => cases h
  | cons a l ih => cases m with
    | nil => cases h
    | cons b m =>
      have e : eqCell 0 (.int k a) (.int k b) = some (decide (a = b)) := by
        simp only [eqCell, if_true]; congr 1
      have e2 := ih (m := m) (by simpa using h)
      simp only [icells] at e2
      simp only [List.length_cons, List.replicate_succ, icells, List.map_cons, eqCells, e, e2]
      congr 1
      simp [Bool.eq_iff_iff]
theorem eqCells_str {a b : List UInt8} : eqCells [2] [str a] [str b] = some (decide (a = b)) := by
  simp only [eqCells, eqCell, toList_mk, Bool.and_true]
  congr 1; rw [Bool.eq_iff_iff]; simp
def kItem : List Nat := [2] ++ ((List.replicate 3 0 ++ [2]) ++ List.replicate 32 0)
theorem eqItem {x y : Item} (hx : x.wf) (hy : y.wf) : eqCells kItem (itemC x) (itemC y) = some (decide (x = y)) := by
  have h1 : eqCells (List.replicate 3 0) (icells .i64 x.ver.p) (icells .i64 y.ver.p) = some (decide (x.ver.p = y.ver.p)) := by
    have := eqCells_ints (k := .i64) (l := x.ver.p) (m := y.ver.p) (by rw [hx.ver.p3, hy.ver.p3])
    rwa [hx.ver.p3] at this
  have h2 : eqCells (List.replicate 32 0) (bcells x.sum) (bcells y.sum) = some (decide (x.sum = y.sum)) := by
    have := eqCells_bytes (l := x.sum) (m := y.sum) (by rw [hx.sum, hy.sum])
    rwa [hx.sum] at this
  have hv := eqCells_app (by simp [hx.ver.p3]) (by simp [hy.ver.p3]) h1 (eqCells_str (a := x.ver.pre) (b := y.ver.pre))
  have hvs := eqCells_app (by simp [hx.ver.p3]) (by simp [hy.ver.p3]) hv h2
  have := eqCells_app (k1 := [2]) rfl rfl (eqCells_str (a := x.name) (b := y.name)) hvs
  have e : itemC x = [str x.name] ++ ((icells .i64 x.ver.p ++ [str x.ver.pre]) ++ bcells x.sum) := rfl
  have e' : itemC y = [str y.name] ++ ((icells .i64 y.ver.p ++ [str y.ver.pre]) ++ bcells y.sum) := rfl
  rw [e, e']
  unfold kItem
  rw [this]
  congr 1
  rw [Bool.eq_iff_iff]
  obtain ⟨n, ⟨p, q⟩, s⟩ := x
  obtain ⟨n', ⟨p', q'⟩, s'⟩ := y
  simp

def New (H H' : Heap) : Nat → Prop := fun b => H.size ≤ b ∧ b < H'.size
theorem st36 {H : Heap} {q : Nat} {z m : List Value} {T : TypeId} (hq : H[q]? = some (.cells z.toArray T (0, 0))) (hz : z.length = 36) (hm : m.length = 36) (h1 : ∀ c ∈ m, c.oneCell' = true) : stN 36 H (Ptr q 0) (.agg m.toArray) = some (H.setIfInBounds q (.cells m.toArray T (0, 0))) := by
  have := stN_mid (n := 36) (o := 0) (A := []) (B := z) (C := []) (B' := m) (by rw [List.nil_append, List.append_nil]; exact hq) rfl (by simp [hz]) hm (all_of h1)
  rw [List.nil_append, List.append_nil] at this
  exact this
theorem ld36 {H : Heap} {q : Nat} {m : List Value} {T : TypeId} {f : Nat × Nat} (hq : H[q]? = some (.cells m.toArray T f)) (hm : m.length = 36) : ldN 36 H (Ptr q 0) = some (.agg m.toArray) :=
  ldN_mid (A := []) (B := m) (C := []) (by rw [List.nil_append, List.append_nil]; exact hq) rfl (by simp [hm])

end Go.Proofs.YtconalffokhplaaGreatDoor
/- a history: made, asked, appended to. -/
namespace Go.Proofs.YtconalffokhplaaGreatDoor
open Go.X
set_option maxRecDepth 100000

theorem Items.mono {P Q : Nat → Prop} {H : Heap} {v : Value} {xs : List Item} (h : Items P H v xs) (k : ∀ b, P b → Q b) : Items Q H v xs := ⟨h.1.mono k, h.2⟩
theorem BufE.re {n : Nat} {F G : Nat → Prop} {H : Heap} {v : Value} {xs : List (List Value)} (h : BufE n F H v xs) (k : ∀ b, b < H.size → F b → G b) : BufE n G H v xs := by
  obtain ⟨h1, h2, h | ⟨b, o, c, cs, T, f, rfl, hf, hc, hb, hr⟩⟩ := h
  · exact ⟨h1, h2, .inl h⟩
  · exact ⟨h1, h2, .inr ⟨b, o, c, cs, T, f, rfl, k b (lt_of hb) hf, hc, hb, hr⟩⟩

def rawC (a : RecA) (x : Value × Value) : List Value := recC a.k x.1 x.2 a.s a.r
/-- the items' lists of a record of the history -/
def RawOk (F : Nat → Prop) (H : Heap) (a : RecA) (x : Value × Value) : Prop := a.r.length = 32 ∧ Items F H x.1 a.bef ∧ Items F H x.2 a.aft ∧ a.bef.length ≤ 1048576 ∧ a.aft.length ≤ 1048576
theorem RawOk.keep {F S : Nat → Prop} {H H' : Heap} {a : RecA} {x : Value × Value} (h : RawOk F H a x) (k : Keep S H H') (hs : ∀ b, F b → ¬ S b) : RawOk F H' a x := ⟨h.1, h.2.1.keep k hs, h.2.2.1.keep k hs, h.2.2.2⟩
theorem RawOk.mono {F G : Nat → Prop} {H : Heap} {a : RecA} {x : Value × Value} (h : RawOk F H a x) (k : ∀ b, F b → G b) : RawOk G H a x := ⟨h.1, h.2.1.mono k, h.2.2.1.mono k, h.2.2.2⟩

theorem Keep.back {S : Nat → Prop} {H H' : Heap} (h : Keep (fun _ => False) H H') {b : Nat} (hb : b < H.size) : H[b]? = H'[b]? := (h.2 b hb id).symm
theorem BufE.keepBack {n : Nat} {F : Nat → Prop} {H H' : Heap} {v : Value} {xs : List (List Value)} (h : BufE n F H' v xs) (k : Keep (fun _ => False) H H') (hs : ∀ b, F b → b < H.size) : BufE n F H v xs := by
  obtain ⟨h1, h2, h | ⟨b, o, c, cs, T, f, rfl, hf, hc, hb, hr⟩⟩ := h
  · exact ⟨h1, h2, .inl h⟩
  · exact ⟨h1, h2, .inr ⟨b, o, c, cs, T, f, rfl, hf, hc, by rw [← k.2 b (hs b hf) id]; exact hb, hr⟩⟩
theorem SlE.keepBack {n : Nat} {P : Nat → Prop} {H H' : Heap} {v : Value} {xs : List (List Value)} (h : SlE n P H' v xs) (k : Keep (fun _ => False) H H') (hs : ∀ b, P b → b < H.size) : SlE n P H v xs := by
  obtain ⟨⟨a, c, hv, hc, hx⟩, h2, h3⟩ := h
  refine ⟨⟨a, c, hv, hc, hx.imp id ?_⟩, h2, h3⟩
  rintro ⟨b, o, rfl, hP, cs, T, f, hb, h4, h5⟩
  exact ⟨b, o, rfl, hP, cs, T, f, by rw [← k.2 b (hs b hP) id]; exact hb, h4, h5⟩
theorem Items.keepBack {P : Nat → Prop} {H H' : Heap} {v : Value} {xs : List Item} (h : Items P H' v xs) (k : Keep (fun _ => False) H H') (hs : ∀ b, P b → b < H.size) : Items P H v xs := ⟨SlE.keepBack h.1 k hs, h.2⟩
theorem RawOk.back {F S : Nat → Prop} {H h4 h16 : Heap} {a : RecA} {x : Value × Value} (h : RawOk F h4 a x) (k : Keep (fun _ => False) H h4) (hs : ∀ b, F b → b < H.size) (k2 : Keep S H h16) (hs2 : ∀ b, F b → ¬ S b) : RawOk F h16 a x :=
  ⟨h.1, (Items.keepBack h.2.1 k hs).keep k2 hs2, (Items.keepBack h.2.2.1 k hs).keep k2 hs2, h.2.2.2⟩

/-- all blocks of a history -/
def HB (p : Nat) (Fr Fc Fi : Nat → Prop) : Nat → Prop := fun b => b = p ∨ Fr b ∨ Fc b ∨ Fi b
section
variable {p : Nat} {Fr Fc Fi : Nat → Prop} {H : Heap} {rs : List RecA} {ch : List (List UInt8)}
def topF (ch : List (List UInt8)) : List UInt8 := ch.getLast?.getD zeroH
theorem topF_len (h : ∀ c ∈ ch, c.length = 32) : (topF ch).length = 32 := by
  unfold topF
  cases hg : ch.getLast? with
  | none => rfl
  | some c => exact h c (List.mem_of_getLast? hg)
theorem bld_Hash00 : buildV prg T_sha_Hash [] = some (bv zeroH) := by kernel_rfl
def recZ : RecA := ⟨0, [], [], 0, zeroH⟩
theorem items0 {P : Nat → Prop} {H : Heap} : Items P H (.slice none 0 0) [] := ⟨SlE.nil, fun x h => by cases h⟩

def nowF (rs : List RecA) : List Item := (rs.getLast?.map (·.aft)).getD []
end

end Go.Proofs.YtconalffokhplaaGreatDoor
/- a history: one record more. -/
namespace Go.Proofs.YtconalffokhplaaGreatDoor
open Go.X
set_option maxRecDepth 100000

theorem bsl_one {P : Program} {e : TypeId} {n : Nat} {z : Array Value} {v : Value} (hn : P.cellsOf e = n) (h0 : 0 < n) (h1 : n ≤ 16777216) (hz : zcells P e = some z) (hzs : z.size = n) (hv : v.cells.size = n) : bslV P e 1 [(0, v)] = some v.cells := by
  unfold bslV
  rw [hn, if_neg (by omega), hz, Option.bind_some, if_pos hzs]
  have hs : (zrow z (1 * n)).size = n := by simp [zrow]
  have hspl : spl (zrow z (1 * n)) (0 * n) v.cells = v.cells := by
    unfold spl
    rw [Nat.zero_mul, Nat.zero_add, hv]
    apply Array.ext'
    have hs' : (zrow z n).size = n := by simpa using hs
    simp [hs']
  simp only [bfill]
  rw [if_pos ⟨hv, by rw [hs]; omega⟩, hspl]
theorem c_Hash : prg.cellsOf T_sha_Hash = 32 := by kernel_rfl
section
variable {p : Nat} {Fr Fc Fi P : Nat → Prop} {H : Heap} {rs : List RecA} {ch : List (List UInt8)} {vb va : Value} {a : RecA}
def appOk (rs : List RecA) (a : RecA) : Bool := recOk a && decide (a.bef = nowF rs)
def chainF (ch : List (List UInt8)) (a : RecA) : List UInt8 := shaF (7 :: (topF ch ++ recB a))

end

end Go.Proofs.YtconalffokhplaaGreatDoor
/- HistoryHeads: the fixed answer; the law's walk. -/
namespace Go.Proofs.YtconalffokhplaaGreatDoor
open Go.X
set_option maxRecDepth 100000

def oneV : Ver := ⟨[1, 2, 3], []⟩
def oneI : Item := ⟨[97], oneV, zeroH⟩
def oneA : RecA := ⟨1, [], [oneI], 0, zeroH⟩
theorem oneI_wf : oneI.wf := ⟨⟨rfl, by simp [oneI, oneV]⟩, rfl, by simp [oneI]⟩
theorem bld_A3 : buildV prg T_A3_int [(0, (.int .i64 1)), (1, (.int .i64 2)), (2, (.int .i64 3))] = some (.agg (icells .i64 [1, 2, 3]).toArray) := by kernel_rfl
theorem bld_Ver : buildV prg T_version_Version [(0, .agg (icells .i64 [1, 2, 3]).toArray)] = some (.agg (verC oneV).toArray) := by kernel_rfl
theorem recB_one : (recB oneA).length ≤ 1000 := by decide +kernel
theorem appOk_one0 : appOk [] oneA = true := by decide +kernel
theorem appOk_one1 : appOk [oneA] oneA = false := by decide +kernel

def kHash : List Nat := List.replicate 32 0
theorem eqK_Hash : eqK prg T_sha_Hash = .flat kHash := by kernel_rfl
theorem ne_Hash {a b : List UInt8} (ha : a.length = 32) (hb : b.length = 32) : binV (eqK prg T_sha_Hash) .neq (bv a) (bv b) = some (.bool (!decide (a = b))) := by
  unfold bv
  rw [binV_agg_ne, eqK_Hash]
  show (eqCells kHash (bcells a).toArray.toList (bcells b).toArray.toList).map (fun b => Value.bool (!b)) = _
  have := eqCells_bytes (l := a) (m := b) (by omega)
  rw [ha] at this
  unfold kHash
  rw [List.toList_toArray, List.toList_toArray, this]; rfl
theorem eq_Hash {a b : List UInt8} (ha : a.length = 32) (hb : b.length = 32) : binV (eqK prg T_sha_Hash) .eql (bv a) (bv b) = some (.bool (decide (a = b))) := by
  unfold bv
  rw [binV_agg_eq, eqK_Hash]
  show (eqCells kHash (bcells a).toArray.toList (bcells b).toArray.toList).map Value.bool = _
  have := eqCells_bytes (l := a) (m := b) (by omega)
  rw [ha] at this
  unfold kHash
  rw [List.toList_toArray, List.toList_toArray, this]; rfl

end Go.Proofs.YtconalffokhplaaGreatDoor
