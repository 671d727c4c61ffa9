/- JOINED: V80 V81 V82 V83 -/
import Derived.Test.YtdmciknajaedmaaDoorGW
import Derived.Test.YtdmciknajaedmaaDoorGE
set_option linter.unusedSimpArgs false
set_option linter.unusedVariables false
/- records that came in; a history; a walk over it. -/
namespace Go.Proofs.YtdmciknajaedmaaDoor
open Go.X Go.X.Diff
set_option maxRecDepth 100000

theorem RawIn.keep {P S : Nat → Prop} {H H' : Heap} {a : RecA} {x : Value × Value} (h : RawIn P H a x) (k : Keep S H H') (hs : ∀ b, P b → ¬ S b) : RawIn P H' a x := ⟨h.1, h.2.1.keep k hs, h.2.2.1.keep k hs, h.2.2.2⟩
/-- a slice of records -/
def Recs (P : Nat → Prop) (H : Heap) (v : Value) (l : List (RecA × Value × Value)) : Prop := SlE 36 P H v (l.map fun r => rawC r.1 r.2) ∧ ∀ r ∈ l, RawIn P H r.1 r.2
section
variable {P : Nat → Prop} {H : Heap} {v : Value} {l : List (RecA × Value × Value)}
theorem Recs.keep {S : Nat → Prop} {H' : Heap} (h : Recs P H v l) (k : Keep S H H') (hs : ∀ b, P b → ¬ S b) : Recs P H' v l := ⟨h.1.keep k hs, fun r hr => (h.2 r hr).keep k hs⟩
theorem Recs.len (h : Recs P H v l) : lenV v = some (.int .i64 l.length) := by have := h.1.len; simpa using this
theorem Recs.at (h : Recs P H v l) {i : Nat} {r : RecA × Value × Value} (hi : l[i]? = some r) : RawIn P H r.1 r.2 ∧ ∃ b o, (∀ k, ixS 36 v (.int k i) = some (Ptr b o)) ∧ Pt H b o (rawC r.1 r.2) ∧ P b := by
  refine ⟨h.2 r (List.mem_of_getElem? hi), ?_⟩
  exact h.1.at (x := rawC r.1 r.2) (by rw [List.getElem?_map, hi]; rfl)
end
theorem rawC_len {a : RecA} {x : Value × Value} (h : a.r.length = 32) : (rawC a x).length = 36 := recC_len h
theorem rawC_one {P : Nat → Prop} {H : Heap} {a : RecA} {x : Value × Value} (h : RawIn P H a x) : ∀ c ∈ rawC a x, c.oneCell' = true := recC_one h.2.1 h.2.2.1
/-- a record that is laid anew -/
theorem new_rec {h : Heap} {cs : List Value} (hl : cs.length = 36) (h1 : ∀ c ∈ cs, c.oneCell' = true) {k : Value → Heap → Prop}
    (hk : ∀ h', h'.size = h.size + 1 → At h' h.size cs → Keep (fun _ => False) h h' → k (Ptr h.size 0) h') :
    Mnew h T_history_Record (zcells prg T_history_Record) fun t h6 => Mwr (stN 36 h6 t (.agg cs.toArray)) fun h7 => k t h7 := by
  obtain ⟨z, hz, hzl⟩ := z_Record
  rw [hz, Mnew_some]
  have a1 : At (h.push (.cells z.toArray T_history_Record (0, 0))) h.size z := At.push
  obtain ⟨h', st, a2, k2⟩ := a1.st (n := 36) (ds := cs) hzl hl h1
  rw [show (Value.pointer (some ⟨h.size, 0, none⟩)) = Ptr h.size 0 from rfl, st, Mwr_some]
  refine hk _ ?_ a2 (Keep.push.fresh k2 fun b hb => by omega)
  have := k2.1
  have h2 : h'.size = (h.push (.cells z.toArray T_history_Record (0, 0))).size := by
    have hst := st
    simp only [stN, stA] at hst
    split at hst <;> first | cases hst | skip
    split at hst <;> first | cases hst | skip
    split at hst <;> first | cases hst | skip
    simp
  rw [h2]; simp

/- THE HISTORY THAT A LAW MAKES -/
def madeF (l : List RecA) : List RecA := l.foldl (fun rs a => if appOk rs a = true ∧ rs.length ≠ 4096 then rs ++ [a] else rs) []
theorem madeF_snoc {l : List RecA} {a : RecA} : madeF (l ++ [a]) = if appOk (madeF l) a = true ∧ (madeF l).length ≠ 4096 then madeF l ++ [a] else madeF l := by
  unfold madeF; rw [List.foldl_append]; rfl
def chL (rs : List RecA) : List (List UInt8) := rs.foldl (fun ch a => ch ++ [chainF ch a]) []
theorem chL_snoc {rs : List RecA} {a : RecA} : chL (rs ++ [a]) = chL rs ++ [chainF (chL rs) a] := by
  unfold chL; rw [List.foldl_append]; rfl
theorem showF_len' {v : Ver} (hp : v.p.length = 3) : (showF v).length ≤ 40 := by
  unfold showF
  split
  · rename_i hok
    obtain ⟨p, pre⟩ := v
    match p, hp with
    | [a, b, c], _ =>
      have hall : [a, b, c].all partOk = true := by unfold verOk at hok; simp only [Bool.and_eq_true] at hok; exact hok.1
      have hpre : pre.length ≤ 16 := by unfold verOk preOk at hok; simp only [Bool.and_eq_true, decide_eq_true_eq] at hok; exact hok.2.1
      have ha := partOk_iff (List.all_eq_true.1 hall a (by simp))
      have hb := partOk_iff (List.all_eq_true.1 hall b (by simp))
      have hc := partOk_iff (List.all_eq_true.1 hall c (by simp))
      have l1 := decF_len (n := a.toNat) (by omega)
      have l2 := decF_len (n := b.toNat) (by omega)
      have l3 := decF_len (n := c.toNat) (by omega)
      simp only [joinF, List.map_cons, List.map_nil, List.flatten_cons, List.flatten_nil, List.append_nil]
      split <;> simp <;> omega
  · simp
theorem flat_le {f : Item → List UInt8} {m : Nat} : ∀ {l : List Item}, (∀ x ∈ l, (f x).length ≤ m) → ((l.map f).flatten).length ≤ l.length * m
  | [], _ => by simp
  | x :: l, h => by
    have h1 := h x (by simp)
    have h2 := flat_le (l := l) fun y hy => h y (by simp [hy])
    simp only [List.map_cons, List.flatten_cons, List.length_append, List.length_cons, Nat.succ_mul]
    omega
theorem put_small {xs : List Item} (hw : ∀ x ∈ xs, x.wf) (hn : ∀ x ∈ xs, bigI x = false) (hl : xs.length ≤ 20) : (putB xs).length ≤ 4000 := by
  have h1 : ∀ x ∈ xs, (itemB x).length ≤ 180 := fun x hx => by
    have h2 := hn x hx
    unfold bigI at h2
    simp only [Bool.or_eq_false_iff, decide_eq_false_iff_not] at h2
    have h3 := showF_len' (v := x.ver) (hw x hx).ver.p3
    have h4 := (hw x hx).sum
    simp only [itemB, List.length_append, textB_len]; omega
  have := flat_le h1
  have h5 : xs.length * 180 ≤ 20 * 180 := Nat.mul_le_mul_right _ hl
  simp only [putB, List.length_append, numB_len]; omega
theorem smallB_spec {a b : List Item} (h : smallB a b = true) : (∀ x ∈ a, bigI x = false) ∧ (∀ x ∈ b, bigI x = false) ∧ a.length ≤ 20 ∧ b.length ≤ 20 := by
  unfold smallB at h
  simp only [Bool.and_eq_true, Bool.not_eq_true', List.any_eq_false, decide_eq_true_eq] at h
  exact ⟨fun x hx => by simpa using h.1.1 x hx, fun x hx => by simpa using h.1.2 x hx, h.2⟩
theorem recB_small {P : Nat → Prop} {H : Heap} {a : RecA} {x : Value × Value} (h : RawIn P H a x) (hs : smallB a.bef a.aft = true) : (recB a).length ≤ 10000 ∧ a.bef.length ≤ 20 ∧ a.aft.length ≤ 20 := by
  obtain ⟨h1, h2, h3, h4⟩ := smallB_spec hs
  have p1 := put_small h.2.1.2 h1 h3
  have p2 := put_small h.2.2.1.2 h2 h4
  refine ⟨?_, h3, h4⟩
  simp only [recB, List.length_append, numB_len, h.1]; omega

/-- a history that is made here, of blocks from m on -/
def Hist (m p : Nat) (h : Heap) (rs : List RecA) : Prop := ∃ Fr Fc Fi, HistAt p Fr Fc Fi h rs (chL rs) ∧ ∀ b, HB p Fr Fc Fi b → m ≤ b
theorem Hist.keep {m p : Nat} {S : Nat → Prop} {h h' : Heap} {rs : List RecA} (a : Hist m p h rs) (k : Keep S h h') (hs : ∀ b, m ≤ b → b < h.size → ¬ S b) : Hist m p h' rs := by
  obtain ⟨Fr, Fc, Fi, h1, h2⟩ := a
  exact ⟨Fr, Fc, Fi, h1.keep k fun b hb => hs b (h2 b hb) (h1.lt b hb).2, h2⟩
theorem madeF_len {l : List RecA} : (madeF l).length ≤ l.length := by
  suffices h : ∀ (l rs : List RecA), (l.foldl (fun rs a => if appOk rs a = true ∧ rs.length ≠ 4096 then rs ++ [a] else rs) rs).length ≤ rs.length + l.length by
    have := h l []
    simpa [madeF] using this
  intro l
  induction l with
  | nil => intro rs; simp
  | cons a l ih =>
    intro rs
    rw [List.foldl_cons, List.length_cons]
    have := ih (if appOk rs a = true ∧ rs.length ≠ 4096 then rs ++ [a] else rs)
    split at this
    · rw [List.length_append, List.length_singleton] at this
      rename_i hc
      rw [if_pos hc]; omega
    · rename_i hc
      rw [if_neg hc]; omega

/-- Append, at a history of new blocks -/
theorem c_AppendH {m p : Nat} {H : Heap} {rs : List RecA} {a : RecA} {x : Value × Value} {P : Nat → Prop} (h : Hist m p H rs) (hT : ShaT H) (hW : PowT H) (ha : RawIn P H a x) (hP : ∀ b, P b → b < H.size ∧ b < m) (hs : smallB a.bef a.aft = true) (hm : NG ≤ m) :
    HCalls prg f_history_History_Append [Ptr p 0, .agg (rawC a x).toArray] H fun u H' => u = .int .i64 (if appOk rs a = true then (if rs.length = 4096 then 12 else 0) else 10) ∧
      Hist m p H' (if appOk rs a = true ∧ rs.length ≠ 4096 then rs ++ [a] else rs) ∧ Keep (m ≤ ·) H H' := by
  obtain ⟨Fr, Fc, Fi, hh, hHB⟩ := h
  obtain ⟨r1, r2, r3⟩ := recB_small ha hs
  refine (c_Append hh hT ha.2.1 ha.2.2.1 (fun b hb => ⟨(hP b hb).1, fun h => by have := hHB b h; have := (hP b hb).2; omega⟩) ha.1 hW (by omega) (by omega) (by omega)).mono fun u H' hR => ?_
  rcases hR with ⟨h1, rfl, k⟩ | ⟨h1, h2, rfl, k⟩ | ⟨h1, h2, rfl, k, Fr', Fc', Fi', hh', hHB'⟩
  · rw [if_neg (by rw [h1]; decide), if_neg (by rw [h1]; simp)]
    exact ⟨rfl, ⟨Fr, Fc, Fi, hh.keep k fun _ _ => id, hHB⟩, k.mono fun _ _ h => h.elim⟩
  · rw [if_pos h1, if_pos h2, if_neg (fun h => h.2 h2)]
    exact ⟨rfl, ⟨Fr, Fc, Fi, hh.keep k fun _ _ => id, hHB⟩, k.mono fun _ _ h => h.elim⟩
  · rw [if_pos h1, if_neg h2, if_pos ⟨h1, h2⟩]
    refine ⟨rfl, ⟨Fr', Fc', Fi', by rw [chL_snoc]; exact hh', fun b hb => ?_⟩, k.mono fun b _ hb => hHB b hb⟩
    rcases hHB' b hb with h | h
    · exact hHB b h
    · have := hHB p (.inl rfl)
      have := (hh.lt p (.inl rfl)).2
      omega

/- A WALK -/
structure WalkSt (N q p : Nat) (Fr Fc Fi : Nat → Prop) (rs : List RecA) (ch : List (List UInt8)) (h : Heap) : Prop where
  cell : At h q [Ptr p 0]
  hist : HistAt p Fr Fc Fi h rs ch
  sz : N ≤ h.size
/-- what round i is handed -/
def WalkX (N : Nat) (rs : List RecA) (ch : List (List UInt8)) (i : Nat) (x : List Value) (h : Heap) : Prop :=
  ∃ a vb va c, rs[i]? = some a ∧ ch[i]? = some c ∧ x = [.agg (rawC a (vb, va)).toArray, bv c] ∧ RawOk (N ≤ ·) h a (vb, va)
theorem keep_not {Sr : Nat → Prop} {h h' : Heap} (hsz : h.size ≤ h'.size) (hS : ∀ b, Sr b → b < h.size → h'[b]? = h[b]?) : Keep (fun b => ¬ Sr b) h h' :=
  ⟨hsz, fun b hb hn => hS b (Classical.not_not.1 hn) hb⟩
end Go.Proofs.YtdmciknajaedmaaDoor
/- history.Parse. -/
namespace Go.Proofs.YtdmciknajaedmaaDoor
open Go.X Go.X.Diff
set_option maxRecDepth 100000

/- PLAIN LAW -/
theorem valB_inj : ∀ {l m : List UInt8}, l.length = m.length → valB l = valB m → l = m := by
  intro l
  induction h : l.length generalizing l with
  | zero =>
    intro m hm _
    obtain rfl := List.length_eq_zero_iff.1 h
    exact (List.length_eq_zero_iff.1 hm.symm).symm
  | succ n ih =>
    intro m hm hv
    obtain ⟨a, c, rfl⟩ : ∃ a c, l = a ++ [c] := ⟨l.dropLast, l.getLast (by rintro rfl; simp at h), (List.dropLast_concat_getLast _).symm⟩
    obtain ⟨b, d, rfl⟩ : ∃ b d, m = b ++ [d] := ⟨m.dropLast, m.getLast (by rintro rfl; simp at hm), (List.dropLast_concat_getLast _).symm⟩
    rw [valB_snoc, valB_snoc] at hv
    have hc := c.toNat_lt
    have hd := d.toNat_lt
    have e1 : valB a = valB b := by omega
    have e2 : c.toNat = d.toNat := by omega
    rw [ih (l := a) (by simpa using h) (by simp at hm; omega) e1, UInt8.toNat.inj e2]
theorem num_back {l : List UInt8} : numB ((valB l : Nat) : Int) l.length = l := by
  refine valB_inj (by rw [numB_len]) ?_
  rw [valB_num (valB_lt l)]
theorem text_back {m : Nat} {s : RS} (h : rText m s ≠ []) : s = (textB (rText m s) ++ (rTextS m s).1, false) ∧ (rTextS m s).2 = false := by
  obtain ⟨l, bad⟩ := s
  have h1 : tkB (rCnt m (l, bad)) (rCntS m (l, bad)) = false := by
    cases hb : tkB (rCnt m (l, bad)) (rCntS m (l, bad))
    · rfl
    · refine absurd ?_ h
      unfold rText tkO; rw [hb]; rfl
  have h2 : (rCntS m (l, bad)).2 = false := by
    unfold tkB at h1; simp only [Bool.or_eq_false_iff] at h1; exact h1.1
  have h3 : tkB 4 (l, bad) = false := by
    cases hb : tkB 4 (l, bad)
    · rfl
    · unfold rCntS at h2; rw [hb] at h2
      simp only [if_true] at h2
      have : (tkS 4 (l, bad)).2 = tkB 4 (l, bad) := rfl
      rw [this, hb] at h2; cases h2
  have h4 : ¬ (m < valB (l.take 4) ∨ l.length - 4 < valB (l.take 4)) := by
    intro hh
    unfold rCntS at h2; rw [h3] at h2
    simp only [Bool.false_eq_true, if_false, if_pos hh] at h2
    cases h2
  have hb0 : bad = false ∧ 4 ≤ l.length := by
    unfold tkB at h3; simp only [Bool.or_eq_false_iff, decide_eq_false_iff_not] at h3; exact ⟨h3.1, by omega⟩
  obtain ⟨rfl, hl4⟩ := hb0
  have e1 : rCnt m (l, false) = valB (l.take 4) := by
    unfold rCnt; rw [h3]; simp only [Bool.false_eq_true, if_false, if_neg h4]
  have e2 : rCntS m (l, false) = (l.drop 4, false) := by
    unfold rCntS; rw [h3]; simp only [Bool.false_eq_true, if_false, if_neg h4]
    unfold tkS; rw [h3]; rfl
  have h5 := h1
  rw [e1, e2] at h5
  have e3 : rText m (l, false) = (l.drop 4).take (valB (l.take 4)) := by
    unfold rText; rw [e1, e2]; unfold tkO; rw [h5]; rfl
  have e4 : rTextS m (l, false) = ((l.drop 4).drop (valB (l.take 4)), false) := by
    unfold rTextS; rw [e1, e2]; unfold tkS; rw [h5]; rfl
  have hlen : ((l.drop 4).take (valB (l.take 4))).length = valB (l.take 4) := by
    rw [List.length_take, List.length_drop]; omega
  refine ⟨?_, by rw [e4]⟩
  rw [e3, e4]
  unfold textB
  rw [hlen]
  have h6 := num_back (l := l.take 4)
  rw [List.length_take, Nat.min_eq_left hl4] at h6
  rw [h6, List.append_assoc, List.take_append_drop, List.take_append_drop]

def histB (rs : List RecA) : List UInt8 := numB rs.length 8 ++ (rs.map fun a => textB (recB a)).flatten
/-- records that lean each on the one ahead -/
def Grown (rs : List RecA) : Prop := rs.length ≤ 4096 ∧ ∀ (i : Nat) (a : RecA), rs[i]? = some a → appOk (rs.take i) a = true ∧ RecWf a
theorem appOk_rec {rs : List RecA} {a : RecA} (h : appOk rs a = true) : recOk a = true := by
  unfold appOk at h; simp only [Bool.and_eq_true] at h; exact h.1

theorem wrap_back {v : Nat} {c : Int} (hv : v < 18446744073709551616) (h : IntKind.i64.wrap (v : Int) = c) (h0 : 0 ≤ c) : (v : Int) = c := by
  simp only [IntKind.wrap, IntKind.bits, IntKind.signed] at h
  simp at h
  omega
theorem rCount_rng' {n : Int} (hn : 0 ≤ n) {s : RS} : 0 ≤ rCount 0 n s ∧ rCount 0 n s ≤ n := by
  unfold rCount
  split
  · omega
  · rename_i h
    simp only [Bool.or_eq_true, decide_eq_true_eq, not_or] at h
    omega
theorem count_back {n : Int} {l : List UInt8} (h : (rCountS 0 n (l, false)).2 = false) (c : Nat) (hc : rCount 0 n (l, false) = (c : Int)) : l = numB (c : Int) 8 ++ (rCountS 0 n (l, false)).1 := by
  have h' := h
  unfold rCountS at h'
  simp only [Bool.or_eq_false_iff, decide_eq_false_iff_not] at h'
  obtain ⟨⟨h1, h2⟩, h3⟩ := h'
  have h1b : tkB 8 (l, false) = false := h1
  have h8 : 8 ≤ l.length := by
    unfold tkB at h1b; simp only [Bool.or_eq_false_iff, decide_eq_false_iff_not] at h1b; omega
  have e1 : rCount 0 n (l, false) = rInt (l, false) := by
    unfold rCount; rw [h1, decide_eq_false h2, decide_eq_false h3]; rfl
  have e2 : rInt (l, false) = IntKind.i64.wrap (num (l.take 8)) := by unfold rInt; rw [h1b]; rfl
  have e3 : (rCountS 0 n (l, false)).1 = l.drop 8 := by
    unfold rCountS tkS; rw [h1b]; rfl
  have hlt := valB_lt (l.take 8)
  rw [List.length_take, Nat.min_eq_left h8] at hlt
  have e4 : num (l.take 8) = valB (l.take 8) := by rw [num_val]; exact Nat.mod_eq_of_lt (by omega)
  rw [e4] at e2
  have e5 := wrap_back (by omega) (e2.symm.trans (e1.symm.trans hc)) (by omega)
  have e6 := num_back (l := l.take 8)
  rw [List.length_take, Nat.min_eq_left h8, e5] at e6
  rw [e3, e6, List.take_append_drop]
theorem read_count' {n m : Nat} {r : List UInt8} (h : n ≤ m) (hm : m < 9223372036854775808) : rCount 0 (m : Nat) (numB (n : Nat) 8 ++ r, false) = n ∧ rCountS 0 (m : Nat) (numB (n : Nat) 8 ++ r, false) = (r, false) := by
  obtain ⟨e1, e2⟩ := read_int (n := n) (r := r) (by omega)
  refine ⟨?_, ?_⟩
  · rw [rCount, e1, e2]; simp; omega
  · rw [rCountS, e1, e2]; simp; omega

/-- what Parse tells of the bytes l -/
def ParseHist (n0 : Nat) (l : List UInt8) (u : Value) (H' : Heap) : Prop :=
  (∃ (p : Nat) (rs : List RecA) (Fr Fc Fi : Nat → Prop), u = .tuple #[Ptr p 0, .int .i64 0] ∧ HistAt p Fr Fc Fi H' rs (chL rs) ∧ (∀ b, HB p Fr Fc Fi b → n0 ≤ b) ∧ l = histB rs ∧ ∀ a ∈ rs, recOk a = true ∧ RecWf a) ∨
  (u = .tuple #[.pointer none, .int .i64 10] ∧ ∀ rs, Grown rs → l ≠ histB rs)
theorem recB_ne {a : RecA} : recB a ≠ [] := by
  intro h
  have := congrArg List.length h
  unfold recB at this
  simp at this

end Go.Proofs.YtdmciknajaedmaaDoor
/- (*History).Bytes. -/
namespace Go.Proofs.YtdmciknajaedmaaDoor
open Go.X Go.X.Diff
set_option maxRecDepth 100000

theorem z_POut : zcells prg T_P_wire_Out = some [Value.pointer none].toArray := by kernel_rfl
theorem OutAt.bound {F : Nat → Prop} {p : Nat} {H : Heap} {l : List UInt8} (h : OutAt F p H l) : OutAt (fun b => F b ∧ b < H.size) p H l := by
  obtain ⟨h1, v, h2, h3⟩ := h
  exact ⟨fun h => h1 h.1, v, h2, h3.bound⟩
theorem _root_.Go.X.Buf.closed {F : Nat → Prop} {n0 : Nat} {h h' : Heap} {v : Value} {l : List UInt8} (b : Buf F h v l) (c : Closed n0 h h') : Buf F h' v l := by
  rcases b with b | ⟨b, o, c', cs, T, f, e, hf, hc, hb, hr⟩
  · exact .inl b
  · exact .inr ⟨b, o, c', cs, T, f, e, hf, hc, c.2.2 b _ hb (fun ds e => by cases e), hr⟩
theorem flatR_len {rs : List RecA} (h : ∀ a ∈ rs, recOk a = true ∧ RecWf a) : ((rs.map fun a => textB (recB a)).flatten).length ≤ rs.length * 100004 := by
  induction rs with
  | nil => simp
  | cons a rs ih =>
    obtain ⟨h1, h2⟩ := h a (by simp)
    have h3 := (recB_len4 h1 h2).1
    have h4 := ih fun b hb => h b (by simp [hb])
    rw [List.map_cons, List.flatten_cons, List.length_append, textB_len, List.length_cons]; omega

end Go.Proofs.YtdmciknajaedmaaDoor
/- The walk of HistoryReads. -/
namespace Go.Proofs.YtdmciknajaedmaaDoor
open Go.X Go.X.Diff
set_option maxRecDepth 100000

end Go.Proofs.YtdmciknajaedmaaDoor
