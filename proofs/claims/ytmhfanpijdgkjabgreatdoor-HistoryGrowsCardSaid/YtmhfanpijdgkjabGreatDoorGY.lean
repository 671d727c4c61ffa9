/- JOINED: V80 V81 V82 V83 -/
import Derived.Test.YtmhfanpijdgkjabGreatDoorGW
import Derived.Test.YtmhfanpijdgkjabGreatDoorGE
import Derived.Test.YtmhfanpijdgkjabGreatDoorGR
set_option linter.unusedSimpArgs false
set_option linter.unusedVariables false
/- records that came in; a history; a walk over it. -/
namespace Go.Proofs.YtmhfanpijdgkjabGreatDoor
open Go.X Go.X.Diff
set_option maxRecDepth 100000

theorem RawIn.keep {P S : Nat → Prop} {H H' : Heap} {a : RecA} {x : Value × Value} (h : RawIn P H a x) (k : Keep S H H') (hs : ∀ b, P b → ¬ S b) : RawIn P H' a x := ⟨h.1, h.2.1.keep k hs, h.2.2.1.keep k hs, h.2.2.2⟩
/-- a slice of records -/
def Recs (P : Nat → Prop) (H : Heap) (v : Value) (l : List (RecA × Value × Value)) : Prop := SlE 36 P H v (l.map fun r => rawC r.1 r.2) ∧ ∀ r ∈ l, RawIn P H r.1 r.2
section
variable {P : Nat → Prop} {H : Heap} {v : Value} {l : List (RecA × Value × Value)}
theorem Recs.keep {S : Nat → Prop} {H' : Heap} (h : Recs P H v l) (k : Keep S H H') (hs : ∀ b, P b → ¬ S b) : Recs P H' v l := ⟨h.1.keep k hs, fun r hr => (h.2 r hr).keep k hs⟩
theorem Recs.len (h : Recs P H v l) : lenV v = some (.int .i64 l.length) := by have := h.1.len; simpa using this
theorem Recs.at (h : Recs P H v l) {i : Nat} {r : RecA × Value × Value} (hi : l[i]? = some r) : RawIn P H r.1 r.2 ∧ ∃ b o, (∀ k, ixS 36 v (.int k i) = some (Ptr b o)) ∧ Pt H b o (rawC r.1 r.2) ∧ P b := by
  refine ⟨h.2 r (List.mem_of_getElem? hi), ?_⟩
  exact h.1.at (x := rawC r.1 r.2) (by rw [List.getElem?_map, hi]; rfl)
end
theorem rawC_len {a : RecA} {x : Value × Value} (h : a.r.length = 32) : (rawC a x).length = 36 := recC_len h
theorem rawC_one {P : Nat → Prop} {H : Heap} {a : RecA} {x : Value × Value} (h : RawIn P H a x) : ∀ c ∈ rawC a x, c.oneCell' = true := recC_one h.2.1 h.2.2.1
/-- a record that is laid anew -/
theorem new_rec {h : Heap} {cs : List Value} (hl : cs.length = 36) (h1 : ∀ c ∈ cs, c.oneCell' = true) {k : Value → Heap → Prop}
    (hk : ∀ h', h'.size = h.size + 1 → At h' h.size cs → Keep (fun _ => False) h h' → k (Ptr h.size 0) h') :
    Mnew h T_history_Record (zcells prg T_history_Record) fun t h6 => Mwr (stN 36 h6 t (.agg cs.toArray)) fun h7 => k t h7 := by
  obtain ⟨z, hz, hzl⟩ := z_Record
  rw [hz, Mnew_some]
  have a1 : At (h.push (.cells z.toArray T_history_Record (0, 0))) h.size z := At.push
  obtain ⟨h', st, a2, k2⟩ := a1.st (n := 36) (ds := cs) hzl hl h1
  rw [show (Value.pointer (some ⟨h.size, 0, none⟩)) = Ptr h.size 0 from rfl, st, Mwr_some]
  refine hk _ ?_ a2 (Keep.push.fresh k2 fun b hb => by omega)
  have := k2.1
  have h2 : h'.size = (h.push (.cells z.toArray T_history_Record (0, 0))).size := by
    have hst := st
    simp only [stN, stA] at hst
    split at hst <;> first | cases hst | skip
    split at hst <;> first | cases hst | skip
    split at hst <;> first | cases hst | skip
    simp
  rw [h2]; simp

/- THE HISTORY THAT A LAW MAKES -/
def madeF (l : List RecA) : List RecA := l.foldl (fun rs a => if appOk rs a = true ∧ rs.length ≠ 4096 then rs ++ [a] else rs) []
theorem madeF_snoc {l : List RecA} {a : RecA} : madeF (l ++ [a]) = if appOk (madeF l) a = true ∧ (madeF l).length ≠ 4096 then madeF l ++ [a] else madeF l := by
  unfold madeF; rw [List.foldl_append]; rfl
def chL (rs : List RecA) : List (List UInt8) := rs.foldl (fun ch a => ch ++ [chainF ch a]) []
theorem chL_snoc {rs : List RecA} {a : RecA} : chL (rs ++ [a]) = chL rs ++ [chainF (chL rs) a] := by
  unfold chL; rw [List.foldl_append]; rfl
theorem showF_len' {v : Ver} (hp : v.p.length = 3) : (showF v).length ≤ 40 := by
  unfold showF
  split
  · rename_i hok
    obtain ⟨p, pre⟩ := v
    match p, hp with
    | [a, b, c], _ =>
      have hall : [a, b, c].all partOk = true := by unfold verOk at hok; simp only [Bool.and_eq_true] at hok; exact hok.1
      have hpre : pre.length ≤ 16 := by unfold verOk preOk at hok; simp only [Bool.and_eq_true, decide_eq_true_eq] at hok; exact hok.2.1
      have ha := partOk_iff (List.all_eq_true.1 hall a (by simp))
      have hb := partOk_iff (List.all_eq_true.1 hall b (by simp))
      have hc := partOk_iff (List.all_eq_true.1 hall c (by simp))
      have l1 := decF_len (n := a.toNat) (by omega)
      have l2 := decF_len (n := b.toNat) (by omega)
      have l3 := decF_len (n := c.toNat) (by omega)
      simp only [joinF, List.map_cons, List.map_nil, List.flatten_cons, List.flatten_nil, List.append_nil]
      split <;> simp <;> omega
  · simp
theorem flat_le {f : Item → List UInt8} {m : Nat} : ∀ {l : List Item}, (∀ x ∈ l, (f x).length ≤ m) → ((l.map f).flatten).length ≤ l.length * m
  | [], _ => by simp
  | x :: l, h => by
    have h1 := h x (by simp)
    have h2 := flat_le (l := l) fun y hy => h y (by simp [hy])
    simp only [List.map_cons, List.flatten_cons, List.length_append, List.length_cons, Nat.succ_mul]
    omega
theorem put_small {xs : List Item} (hw : ∀ x ∈ xs, x.wf) (hn : ∀ x ∈ xs, bigI x = false) (hl : xs.length ≤ 20) : (putB xs).length ≤ 4000 := by
  have h1 : ∀ x ∈ xs, (itemB x).length ≤ 180 := fun x hx => by
    have h2 := hn x hx
    unfold bigI at h2
    simp only [Bool.or_eq_false_iff, decide_eq_false_iff_not] at h2
    have h3 := showF_len' (v := x.ver) (hw x hx).ver.p3
    have h4 := (hw x hx).sum
    simp only [itemB, List.length_append, textB_len]; omega
  have := flat_le h1
  have h5 : xs.length * 180 ≤ 20 * 180 := Nat.mul_le_mul_right _ hl
  simp only [putB, List.length_append, numB_len]; omega
theorem smallB_spec {a b : List Item} (h : smallB a b = true) : (∀ x ∈ a, bigI x = false) ∧ (∀ x ∈ b, bigI x = false) ∧ a.length ≤ 20 ∧ b.length ≤ 20 := by
  unfold smallB at h
  simp only [Bool.and_eq_true, Bool.not_eq_true', List.any_eq_false, decide_eq_true_eq] at h
  exact ⟨fun x hx => by simpa using h.1.1 x hx, fun x hx => by simpa using h.1.2 x hx, h.2⟩
theorem recB_small {P : Nat → Prop} {H : Heap} {a : RecA} {x : Value × Value} (h : RawIn P H a x) (hs : smallB a.bef a.aft = true) : (recB a).length ≤ 10000 ∧ a.bef.length ≤ 20 ∧ a.aft.length ≤ 20 := by
  obtain ⟨h1, h2, h3, h4⟩ := smallB_spec hs
  have p1 := put_small h.2.1.2 h1 h3
  have p2 := put_small h.2.2.1.2 h2 h4
  refine ⟨?_, h3, h4⟩
  simp only [recB, List.length_append, numB_len, h.1]; omega

/-- a history that is made here, of blocks from m on -/
def Hist (m p : Nat) (h : Heap) (rs : List RecA) : Prop := ∃ Fr Fc Fi, HistAt p Fr Fc Fi h rs (chL rs) ∧ ∀ b, HB p Fr Fc Fi b → m ≤ b
theorem Hist.keep {m p : Nat} {S : Nat → Prop} {h h' : Heap} {rs : List RecA} (a : Hist m p h rs) (k : Keep S h h') (hs : ∀ b, m ≤ b → b < h.size → ¬ S b) : Hist m p h' rs := by
  obtain ⟨Fr, Fc, Fi, h1, h2⟩ := a
  exact ⟨Fr, Fc, Fi, h1.keep k fun b hb => hs b (h2 b hb) (h1.lt b hb).2, h2⟩
theorem madeF_len {l : List RecA} : (madeF l).length ≤ l.length := by
  suffices h : ∀ (l rs : List RecA), (l.foldl (fun rs a => if appOk rs a = true ∧ rs.length ≠ 4096 then rs ++ [a] else rs) rs).length ≤ rs.length + l.length by
    have := h l []
    simpa [madeF] using this
  intro l
  induction l with
  | nil => intro rs; simp
  | cons a l ih =>
    intro rs
    rw [List.foldl_cons, List.length_cons]
    have := ih (if appOk rs a = true ∧ rs.length ≠ 4096 then rs ++ [a] else rs)
    split at this
    · rw [List.length_append, List.length_singleton] at this
      rename_i hc
      rw [if_pos hc]; omega
    · rename_i hc
      rw [if_neg hc]; omega

/-- Append, at a history of new blocks -/
theorem c_AppendH {m p : Nat} {H : Heap} {rs : List RecA} {a : RecA} {x : Value × Value} {P : Nat → Prop} (h : Hist m p H rs) (hT : ShaT H) (hW : PowT H) (ha : RawIn P H a x) (hP : ∀ b, P b → b < H.size ∧ b < m) (hs : smallB a.bef a.aft = true) (hm : NG ≤ m) :
    HCalls prg f_history_History_Append [Ptr p 0, .agg (rawC a x).toArray] H fun u H' => u = .int .i64 (if appOk rs a = true then (if rs.length = 4096 then 12 else 0) else 10) ∧
      Hist m p H' (if appOk rs a = true ∧ rs.length ≠ 4096 then rs ++ [a] else rs) ∧ Keep (m ≤ ·) H H' := by
  obtain ⟨Fr, Fc, Fi, hh, hHB⟩ := h
  obtain ⟨r1, r2, r3⟩ := recB_small ha hs
  refine (c_Append hh hT ha.2.1 ha.2.2.1 (fun b hb => ⟨(hP b hb).1, fun h => by have := hHB b h; have := (hP b hb).2; omega⟩) ha.1 hW (by omega) (by omega) (by omega)).mono fun u H' hR => ?_
  rcases hR with ⟨h1, rfl, k⟩ | ⟨h1, h2, rfl, k⟩ | ⟨h1, h2, rfl, k, Fr', Fc', Fi', hh', hHB'⟩
  · rw [if_neg (by rw [h1]; decide), if_neg (by rw [h1]; simp)]
    exact ⟨rfl, ⟨Fr, Fc, Fi, hh.keep k fun _ _ => id, hHB⟩, k.mono fun _ _ h => h.elim⟩
  · rw [if_pos h1, if_pos h2, if_neg (fun h => h.2 h2)]
    exact ⟨rfl, ⟨Fr, Fc, Fi, hh.keep k fun _ _ => id, hHB⟩, k.mono fun _ _ h => h.elim⟩
  · rw [if_pos h1, if_neg h2, if_pos ⟨h1, h2⟩]
    refine ⟨rfl, ⟨Fr', Fc', Fi', by rw [chL_snoc]; exact hh', fun b hb => ?_⟩, k.mono fun b _ hb => hHB b hb⟩
    rcases hHB' b hb with h | h
    · exact hHB b h
    · have := hHB p (.inl rfl)
      have := (hh.lt p (.inl rfl)).2
      omega

/- A WALK -/
theorem c_Walk {p : Nat} {H : Heap} : HCalls prg f_history_History_Walk [Ptr p 0] H fun u H' => u = .func (.func f_history_History_Walk_1) #[] #[Ptr H.size 0] ∧ At H' H.size [Ptr p 0] ∧ Keep (fun _ => False) H H' := by
  apply sh_history_History_Walk_calls
  unfold sh_history_History_Walk
  have c1 : Value.cells (Ptr p 0) = [Ptr p 0].toArray := rfl
  rw [c1, Mnew_some]
  exact ⟨rfl, At.push, Keep.push⟩
structure WalkSt (N q p : Nat) (Fr Fc Fi : Nat → Prop) (rs : List RecA) (ch : List (List UInt8)) (h : Heap) : Prop where
  cell : At h q [Ptr p 0]
  hist : HistAt p Fr Fc Fi h rs ch
  sz : N ≤ h.size
/-- what round i is handed -/
def WalkX (N : Nat) (rs : List RecA) (ch : List (List UInt8)) (i : Nat) (x : List Value) (h : Heap) : Prop :=
  ∃ a vb va c, rs[i]? = some a ∧ ch[i]? = some c ∧ x = [.agg (rawC a (vb, va)).toArray, bv c] ∧ RawOk (N ≤ ·) h a (vb, va)
theorem keep_not {Sr : Nat → Prop} {h h' : Heap} (hsz : h.size ≤ h'.size) (hS : ∀ b, Sr b → b < h.size → h'[b]? = h[b]?) : Keep (fun b => ¬ Sr b) h h' :=
  ⟨hsz, fun b hb hn => hS b (Classical.not_not.1 hn) hb⟩
theorem walk_iter {N q p : Nat} {Fr Fc Fi : Nat → Prop} {rs : List RecA} {ch : List (List UInt8)} :
    IterR prg (.func (.func f_history_History_Walk_1) #[] #[Ptr q 0]) rs.length (WalkX N rs ch) (fun _ => False) (fun b => b = q ∨ HB p Fr Fc Fi b) (WalkSt N q p Fr Fc Fi rs ch) := by
  intro yv h0 J E hst hJ hbody sJ sE
  refine ⟨f_history_History_Walk_1, #[], #[Ptr q 0], rfl, by kernel_rfl, ?_⟩
  show HCalls prg f_history_History_Walk_1 [yv, Ptr q 0] h0 _
  apply sh_history_History_Walk_1_calls
  unfold sh_history_History_Walk_1
  obtain ⟨vr, vc, xs, hp, hr, hc, hxl, hx⟩ := hst.hist.blk
  have hfew := hst.hist.few
  have hlen := hst.hist.len
  have hc32 := hst.hist.c32
  have d1 := hst.cell.ld (i := 0) rfl
  have e0 : ld1 h0 (Ptr p 0) = some vr := by rw [ld1_at hp]; rfl
  have el := hr.sl.len
  have hzl : (List.zipWith rawC rs xs).length = rs.length := by simp [hxl]
  rw [hzl] at el
  simp only [d1, nck_ptr, fld_ptr, Mpu_some, Nat.zero_add, e0, el]
  /- the history, as it was found -/
  let I : Heap → Prop := fun h => At h q [Ptr p 0] ∧ h[p]? = some (.cells #[vr, vc] T_history_History (0, 0)) ∧ BufE 36 Fr h vr (List.zipWith rawC rs xs) ∧ BufE 32 Fc h vc (ch.map bcells) ∧ (∀ (i : Nat) a x, rs[i]? = some a → xs[i]? = some x → RawOk Fi h a x) ∧ N ≤ h.size ∧ ∀ b, HB p Fr Fc Fi b → b < h.size
  have IK : ∀ {h h' : Heap} {S : Nat → Prop}, I h → Keep S h h' → (∀ b, (b = q ∨ HB p Fr Fc Fi b) → ¬ S b) → I h' := fun {h h' S} ⟨i1, i2, i3, i4, i5, i6, i7⟩ k hs =>
    ⟨i1.keep k (hs q (.inl rfl)), k.at i2 (hs p (.inr (.inl rfl))), i3.keep k fun b hb => hs b (.inr (.inr (.inl hb))), i4.keep k fun b hb => hs b (.inr (.inr (.inr (.inl hb)))), fun i a x h1 h2 => (i5 i a x h1 h2).keep k fun b hb => hs b (.inr (.inr (.inr (.inr hb)))), Nat.le_trans i6 k.1, fun b hb => Nat.lt_of_lt_of_le (i7 b hb) k.1⟩
  refine L1_i (fun u h => ∃ i : Nat, i ≤ rs.length ∧ u = .int .i64 (i : Nat) ∧ J i h ∧ I h) (fun u _ => match u with | .int _ t => rs.length - t.toNat | _ => 0) ⟨0, Nat.zero_le _, rfl, hJ, hst.cell, hp, hr, hc, hx, hst.sz, fun b hb => (hst.hist.lt b hb).2⟩ ?_
  rintro _ h ⟨i, hi, rfl, hJi, hI⟩ k hk
  have elt : binV .no .lss (.int .i64 (i : Nat)) (.int .i64 (rs.length : Nat)) = some (.bool (decide (i < rs.length))) := by
    rw [binV_int]; simp only [intV]; congr 2; rw [decide_eq_decide]; omega
  rw [elt, Mpu_some, Mcd_bool]
  by_cases hlt : i < rs.length
  · rw [if_pos (by simpa using hlt)]
    have hg : rs[i]? = some rs[i] := List.getElem?_eq_getElem hlt
    generalize rs[i] = a at hg
    have hgx : xs[i]? = some (xs[i]'(by omega)) := List.getElem?_eq_getElem _
    generalize (xs[i]'(by omega)) = x at hgx
    have hgc : ch[i]? = some (ch[i]'(by omega)) := List.getElem?_eq_getElem _
    generalize (ch[i]'(by omega)) = c at hgc
    have hc32' := hc32 c (List.mem_of_getElem? hgc)
    obtain ⟨i1, i2, i3, i4, i5, i6, i7⟩ := hI
    have hraw := i5 i a x hg hgx
    have hrl := rawC_len (x := x) hraw.1
    have hone : ∀ v ∈ rawC a x, v.oneCell' = true := recC_one hraw.2.1 hraw.2.2.1
    obtain ⟨b, o, hix, hpt, hFr⟩ := i3.sl.at (i := i) (x := rawC a x) (by rw [List.getElem?_zipWith, hg, hgx])
    obtain ⟨b2, o2, hix2, hpt2, hFc⟩ := i4.sl.at (i := i) (x := bcells c) (by rw [List.getElem?_map, hgc]; rfl)
    rw [hix, Mpu_some, hpt.agg hrl, Mpu_some]
    refine new_rec hrl hone fun h4 hs4 a4 k4 => ?_
    have d14 := (i1.keep k4 id).ld (i := 0) rfl
    have e14 : ld1 h4 (Ptr p 1) = some vc := by rw [ld1_at (k4.at i2 id)]; rfl
    have g4 := (hpt2.keep k4 id).agg (n := 32) (by simp [hc32'])
    simp only [a4.ldN hrl, d14, nck_ptr, fld_ptr, Mpu_some, Nat.zero_add, e14, hix2, g4]
    refine call_i (c_copied (hraw.2.1.keep k4 fun _ _ => id) (hraw.2.2.1.keep k4 fun _ _ => id) (fun b hb => by have := i7 b (.inr (.inr (.inr hb))); have := k4.1; omega) hraw.1 hraw.2.2.2.1 hraw.2.2.2.2) ?_
    rintro _ h5 ⟨vb, va, rfl, hib, hia, k5⟩
    have k05 := k4.trans k5
    have hI5 := IK (S := fun _ => False) ⟨i1, i2, i3, i4, i5, i6, i7⟩ k05 fun _ _ => id
    have d15 := hI5.1.ld (i := 0) rfl
    have e15 : ld1 h5 (Ptr p 1) = some vc := by rw [ld1_at hI5.2.1]; rfl
    have g5 := (hpt2.keep k05 id).agg (n := 32) (by simp [hc32'])
    simp only [d15, e15, g5, Mre_cons, Mre_nil, true_and]
    have q4 := k4.1
    refine (hbody i _ h5 hlt ⟨a, vb, va, c, hg, hgc, rfl, hraw.1, hib.mono fun b hb => by have := hb.1; omega, hia.mono fun b hb => by have := hb.1; omega, hraw.2.2.2⟩ (sJ _ _ _ hJi k05)).mono ?_
    rintro v h6 ⟨hsz, hS, hv⟩
    have hI6 := IK hI5 (keep_not hsz hS) fun b hb hn => hn hb
    rcases hv with ⟨rfl, hJ'⟩ | ⟨rfl, hE⟩
    · have hadd : binV .no .add (.int .i64 (i : Nat)) (.int .i64 1) = some (.int .i64 ((i + 1 : Nat) : Int)) := add_one' (by omega)
      simp only [unV_not, Bool.not_true, Mpu_some, Mcd_bool, Bool.false_eq_true, if_false, hadd]
      exact hk _ _ ⟨i + 1, by omega, rfl, hJ', hI6⟩ (by show rs.length - (i + 1) < rs.length - i; omega)
    · simp only [unV_not, Bool.not_false, Mpu_some, Mcd_bool, if_true]
      exact .inr hE
  · rw [if_neg (by simpa using hlt)]
    obtain rfl : i = rs.length := by omega
    exact .inl hJi
end Go.Proofs.YtmhfanpijdgkjabGreatDoor
/- history.Parse. -/
namespace Go.Proofs.YtmhfanpijdgkjabGreatDoor
open Go.X Go.X.Diff
set_option maxRecDepth 100000

/- PLAIN LAW -/
theorem valB_inj : ∀ {l m : List UInt8}, l.length = m.length → valB l = valB m → l = m := by
  intro l
  induction h : l.length generalizing l with
  | zero =>
    intro m hm _
    obtain rfl := List.length_eq_zero_iff.1 h
    exact (List.length_eq_zero_iff.1 hm.symm).symm
  | succ n ih =>
    intro m hm hv
    obtain ⟨a, c, rfl⟩ : ∃ a c, l = a ++ [c] := ⟨l.dropLast, l.getLast (by rintro rfl; simp at h), (List.dropLast_concat_getLast _).symm⟩
    obtain ⟨b, d, rfl⟩ : ∃ b d, m = b ++ [d] := ⟨m.dropLast, m.getLast (by rintro rfl; simp at hm), (List.dropLast_concat_getLast _).symm⟩
    rw [valB_snoc, valB_snoc] at hv
    have hc := c.toNat_lt
    have hd := d.toNat_lt
    have e1 : valB a = valB b := by omega
    have e2 : c.toNat = d.toNat := by omega
    rw [ih (l := a) (by simpa using h) (by simp at hm; omega) e1, UInt8.toNat.inj e2]
theorem num_back {l : List UInt8} : numB ((valB l : Nat) : Int) l.length = l := by
  refine valB_inj (by rw [numB_len]) ?_
  rw [valB_num (valB_lt l)]
theorem text_back {m : Nat} {s : RS} (h : rText m s ≠ []) : s = (textB (rText m s) ++ (rTextS m s).1, false) ∧ (rTextS m s).2 = false := by
  obtain ⟨l, bad⟩ := s
  have h1 : tkB (rCnt m (l, bad)) (rCntS m (l, bad)) = false := by
    cases hb : tkB (rCnt m (l, bad)) (rCntS m (l, bad))
    · rfl
    · refine absurd ?_ h
      unfold rText tkO; rw [hb]; rfl
  have h2 : (rCntS m (l, bad)).2 = false := by
    unfold tkB at h1; simp only [Bool.or_eq_false_iff] at h1; exact h1.1
  have h3 : tkB 4 (l, bad) = false := by
    cases hb : tkB 4 (l, bad)
    · rfl
    · unfold rCntS at h2; rw [hb] at h2
      simp only [if_true] at h2
      have : (tkS 4 (l, bad)).2 = tkB 4 (l, bad) := rfl
      rw [this, hb] at h2; cases h2
  have h4 : ¬ (m < valB (l.take 4) ∨ l.length - 4 < valB (l.take 4)) := by
    intro hh
    unfold rCntS at h2; rw [h3] at h2
    simp only [Bool.false_eq_true, if_false, if_pos hh] at h2
    cases h2
  have hb0 : bad = false ∧ 4 ≤ l.length := by
    unfold tkB at h3; simp only [Bool.or_eq_false_iff, decide_eq_false_iff_not] at h3; exact ⟨h3.1, by omega⟩
  obtain ⟨rfl, hl4⟩ := hb0
  have e1 : rCnt m (l, false) = valB (l.take 4) := by
    unfold rCnt; rw [h3]; simp only [Bool.false_eq_true, if_false, if_neg h4]
  have e2 : rCntS m (l, false) = (l.drop 4, false) := by
    unfold rCntS; rw [h3]; simp only [Bool.false_eq_true, if_false, if_neg h4]
    unfold tkS; rw [h3]; rfl
  have h5 := h1
  rw [e1, e2] at h5
  have e3 : rText m (l, false) = (l.drop 4).take (valB (l.take 4)) := by
    unfold rText; rw [e1, e2]; unfold tkO; rw [h5]; rfl
  have e4 : rTextS m (l, false) = ((l.drop 4).drop (valB (l.take 4)), false) := by
    unfold rTextS; rw [e1, e2]; unfold tkS; rw [h5]; rfl
  have hlen : ((l.drop 4).take (valB (l.take 4))).length = valB (l.take 4) := by
    rw [List.length_take, List.length_drop]; omega
  refine ⟨?_, by rw [e4]⟩
  rw [e3, e4]
  unfold textB
  rw [hlen]
  have h6 := num_back (l := l.take 4)
  rw [List.length_take, Nat.min_eq_left hl4] at h6
  rw [h6, List.append_assoc, List.take_append_drop, List.take_append_drop]

def histB (rs : List RecA) : List UInt8 := numB rs.length 8 ++ (rs.map fun a => textB (recB a)).flatten
/-- records that lean each on the one ahead -/
def Grown (rs : List RecA) : Prop := rs.length ≤ 4096 ∧ ∀ (i : Nat) (a : RecA), rs[i]? = some a → appOk (rs.take i) a = true ∧ RecWf a
theorem appOk_rec {rs : List RecA} {a : RecA} (h : appOk rs a = true) : recOk a = true := by
  unfold appOk at h; simp only [Bool.and_eq_true] at h; exact h.1

theorem wrap_back {v : Nat} {c : Int} (hv : v < 18446744073709551616) (h : IntKind.i64.wrap (v : Int) = c) (h0 : 0 ≤ c) : (v : Int) = c := by
  simp only [IntKind.wrap, IntKind.bits, IntKind.signed] at h
  simp at h
  omega
theorem rCount_rng' {n : Int} (hn : 0 ≤ n) {s : RS} : 0 ≤ rCount 0 n s ∧ rCount 0 n s ≤ n := by
  unfold rCount
  split
  · omega
  · rename_i h
    simp only [Bool.or_eq_true, decide_eq_true_eq, not_or] at h
    omega
theorem count_back {n : Int} {l : List UInt8} (h : (rCountS 0 n (l, false)).2 = false) (c : Nat) (hc : rCount 0 n (l, false) = (c : Int)) : l = numB (c : Int) 8 ++ (rCountS 0 n (l, false)).1 := by
  have h' := h
  unfold rCountS at h'
  simp only [Bool.or_eq_false_iff, decide_eq_false_iff_not] at h'
  obtain ⟨⟨h1, h2⟩, h3⟩ := h'
  have h1b : tkB 8 (l, false) = false := h1
  have h8 : 8 ≤ l.length := by
    unfold tkB at h1b; simp only [Bool.or_eq_false_iff, decide_eq_false_iff_not] at h1b; omega
  have e1 : rCount 0 n (l, false) = rInt (l, false) := by
    unfold rCount; rw [h1, decide_eq_false h2, decide_eq_false h3]; rfl
  have e2 : rInt (l, false) = IntKind.i64.wrap (num (l.take 8)) := by unfold rInt; rw [h1b]; rfl
  have e3 : (rCountS 0 n (l, false)).1 = l.drop 8 := by
    unfold rCountS tkS; rw [h1b]; rfl
  have hlt := valB_lt (l.take 8)
  rw [List.length_take, Nat.min_eq_left h8] at hlt
  have e4 : num (l.take 8) = valB (l.take 8) := by rw [num_val]; exact Nat.mod_eq_of_lt (by omega)
  rw [e4] at e2
  have e5 := wrap_back (by omega) (e2.symm.trans (e1.symm.trans hc)) (by omega)
  have e6 := num_back (l := l.take 8)
  rw [List.length_take, Nat.min_eq_left h8, e5] at e6
  rw [e3, e6, List.take_append_drop]
theorem read_count' {n m : Nat} {r : List UInt8} (h : n ≤ m) (hm : m < 9223372036854775808) : rCount 0 (m : Nat) (numB (n : Nat) 8 ++ r, false) = n ∧ rCountS 0 (m : Nat) (numB (n : Nat) 8 ++ r, false) = (r, false) := by
  obtain ⟨e1, e2⟩ := read_int (n := n) (r := r) (by omega)
  refine ⟨?_, ?_⟩
  · rw [rCount, e1, e2]; simp; omega
  · rw [rCountS, e1, e2]; simp; omega

theorem c_In_Bytes {P : Nat → Prop} {p : Nat} {H : Heap} {s : RS} (h : InAt P p H s) (hl : s.1.length ≤ 140737488355328) (m : Nat) :
    HCalls prg f_wire_In_Bytes [Ptr p 0, .int .i64 (m : Nat)] H fun u H' => Sl P H' u (rText m s) ∧ InAt P p H' (rTextS m s) ∧ Keep (· = p) H H' := by
  apply sh_wire_In_Bytes_calls
  unfold sh_wire_In_Bytes
  refine call_i (c_In_count h hl m) ?_
  rintro _ h1 ⟨rfl, hi, hk⟩
  refine call_i (c_take hi (rCnt m s)) ?_
  rintro u h2 ⟨hu, hi2, hk2⟩
  exact ⟨hu, hi2, hk.trans hk2⟩

/-- what Parse tells of the bytes l -/
def ParseHist (n0 : Nat) (l : List UInt8) (u : Value) (H' : Heap) : Prop :=
  (∃ (p : Nat) (rs : List RecA) (Fr Fc Fi : Nat → Prop), u = .tuple #[Ptr p 0, .int .i64 0] ∧ HistAt p Fr Fc Fi H' rs (chL rs) ∧ (∀ b, HB p Fr Fc Fi b → n0 ≤ b) ∧ l = histB rs ∧ ∀ a ∈ rs, recOk a = true ∧ RecWf a) ∨
  (u = .tuple #[.pointer none, .int .i64 10] ∧ ∀ rs, Grown rs → l ≠ histB rs)
theorem recB_ne {a : RecA} : recB a ≠ [] := by
  intro h
  have := congrArg List.length h
  unfold recB at this
  simp at this

theorem c_ParseHist {H : Heap} {v0 : Value} {l : List UInt8} (h0 : BRow H v0 l) (hl : l.length ≤ 1099511627776) (hE : ErrT H) (hT : PowT H) (hS : ShaT H) :
    HCalls prg f_history_Parse [v0] H fun u H' => ParseHist H.size l u H' ∧ Keep (fun _ => False) H H' := by
  apply sh_history_Parse_calls
  unfold sh_history_Parse
  obtain ⟨a0, c0, hv0⟩ := h0.2
  subst hv0
  have hNG := hT.sz
  refine call_i (c_NewIn h0.1 (by omega)) ?_
  rintro _ h1 ⟨P, p, rfl, hi1, hpp, hPP, k1'⟩
  have k1 : Keep (fun _ => False) H h1 := Keep.refl.fresh k1' fun b hb => hb
  have q1 := k1.1
  refine call_i (c_HistNew (by omega)) ?_
  rintro _ h2 ⟨rfl, hh2, k2'⟩
  have k2 := k1.trans k2'
  have hi2 := hi1.keep k2' id fun _ _ => id
  have hplt := hi1.lt
  have hPlt := hi1.1.2
  obtain ⟨c, hc⟩ : ∃ c : Nat, rCount 0 4096 (l, false) = (c : Int) := ⟨(rCount 0 4096 (l, false)).toNat, by have := rCount_rng' (n := 4096) (by omega) (s := (l, false)); omega⟩
  have hc4096 : c ≤ 4096 := by have := (rCount_rng' (n := 4096) (by omega) (s := (l, false))).2; omega
  have hcount : ∀ rs, Grown rs → l = histB rs → rs.length = c ∧ rCountS 0 4096 (l, false) = ((rs.map fun a => textB (recB a)).flatten, false) := by
    intro rs hg e
    obtain ⟨n1, n2⟩ := read_count' (n := rs.length) (m := 4096) (r := (rs.map fun a => textB (recB a)).flatten) hg.1 (by omega)
    have e2 : (l, false) = (numB (rs.length : Nat) 8 ++ (rs.map fun a => textB (recB a)).flatten, false) := by rw [e]; rfl
    rw [← e2] at n1 n2
    exact ⟨by have : ((rs.length : Nat) : Int) = (c : Int) := n1.symm.trans hc
              omega, n2⟩
  have hback : (rCountS 0 4096 (l, false)).2 = false → l = numB (c : Int) 8 ++ (rCountS 0 4096 (l, false)).1 := fun h => count_back h c hc
  have hs1l : (rCountS 0 4096 (l, false)).1.length ≤ l.length := tkS_len
  generalize hs1e : rCountS 0 4096 (l, false) = s1 at *
  refine J1_i (fun _ h => ∃ (rs : List RecA) (si : RS) (Fr Fc Fi : Nat → Prop), rs.length = c ∧ HistAt h1.size Fr Fc Fi h rs (chL rs) ∧ InAt P p h si ∧ (∀ b, HB h1.size Fr Fc Fi b → h1.size ≤ b) ∧
      (si.2 = false → l = numB (c : Int) 8 ++ (rs.map fun a => textB (recB a)).flatten ++ si.1) ∧ (∀ a ∈ rs, recOk a = true ∧ RecWf a) ∧ (∀ rs', Grown rs' → l = histB rs' → rs = rs' ∧ si = ([], false)) ∧ Keep (fun _ => False) H h) (fun k3 hk3 => ?_) ?_
  · refine call_i (c_In_Count hi2 (by show l.length ≤ _; omega) 0 4096) ?_
    rintro _ h5 ⟨rfl, hi5, k5'⟩
    rw [hc]
    rw [hs1e] at hi5
    have k5 := k2.fresh k5' fun b hb => by omega
    have hh5 := hh2.keep k5' fun b hb e => by
      rcases hb with h | h | h | h <;> first | exact h.elim | omega
    refine L1_i (fun u h => ∃ (i : Nat) (rs : List RecA) (si : RS) (Fr Fc Fi : Nat → Prop), u = .int .i64 (i : Nat) ∧ i ≤ c ∧ rs.length = i ∧ HistAt h1.size Fr Fc Fi h rs (chL rs) ∧ InAt P p h si ∧ (∀ b, HB h1.size Fr Fc Fi b → h1.size ≤ b) ∧ si.1.length ≤ l.length ∧
        (si.2 = false → l = numB (c : Int) 8 ++ (rs.map fun a => textB (recB a)).flatten ++ si.1) ∧ (∀ a ∈ rs, recOk a = true ∧ RecWf a) ∧
        (∀ rs', Grown rs' → l = histB rs' → rs = rs'.take i ∧ si = (((rs'.drop i).map fun a => textB (recB a)).flatten, false)) ∧ Keep (fun _ => False) H h)
      (fun u _ => match u with | .int _ t => c - t.toNat | _ => 0)
      ⟨0, [], s1, _, _, _, rfl, Nat.zero_le _, rfl, hh5, hi5, fun b hb => by rcases hb with h | h | h | h <;> first | exact h.elim | omega,
        hs1l, fun h => by simpa using hback h, fun a h => (by cases h), fun rs' hg e => ⟨rfl, (hcount rs' hg e).2⟩, k5⟩ ?_
    rintro _ h7 ⟨i, rs, si, Fr, Fc, Fi, rfl, hic, hrl, hh, hin, hHB, hsl, hfw, hrok, hpost, kh⟩ k hk
    have elt : binV .no .lss (.int .i64 (i : Nat)) (.int .i64 (c : Nat)) = some (.bool (decide (i < c))) := by
      rw [binV_int]; simp only [intV]; congr 2; rw [decide_eq_decide]; omega
    rw [elt, Mpu_some, Mcd_bool]
    by_cases hlt : i < c
    · rw [if_pos (by simpa using hlt)]
      refine call_i (c_In_Bytes hin (by omega) 1048576) ?_
      rintro t17 h8 ⟨hu, hin8, k8'⟩
      generalize htx : rText 1048576 si = tx at hu
      have htxl : tx.length ≤ 1048576 := by rw [← htx]; exact rText_len
      have hs2l := rTextS_len (m := 1048576) (s := si)
      have htb := fun h => text_back (m := 1048576) (s := si) h
      rw [htx] at htb
      generalize hs2 : rTextS 1048576 si = s2 at hin8 hs2l htb
      have k8 := kh.fresh k8' fun b hb => by omega
      have hltb := hh.lt
      have hh8 := hh.keep k8' fun b hb e => by have := hHB b hb; omega
      have E : ∀ {h}, Keep (fun _ => False) H h → ErrT h := fun k => hE.keep k fun _ h => h.elim
      have T : ∀ {h}, Keep (fun _ => False) H h → PowT h := fun k => hT.keep k fun _ h => h.elim
      have S : ∀ {h}, Keep (fun _ => False) H h → ShaT h := fun k => hS.keep k fun _ h => h.elim
      refine call_i (c_ParseRecord hu.brow (by omega) (E k8) (T k8)) ?_
      rintro u18 h9 ⟨hR, k9⟩
      have hnext : ∀ rs', Grown rs' → l = histB rs' → ∃ a', rs'[i]? = some a' ∧ appOk (rs'.take i) a' = true ∧ RecWf a' ∧ tx = recB a' ∧ s2 = (((rs'.drop (i + 1)).map fun a => textB (recB a)).flatten, false) := by
        intro rs' hg e
        obtain ⟨g1, g2⟩ := hpost rs' hg e
        have hcl := (hcount rs' hg e).1
        have hiy : i < rs'.length := by omega
        have hd : rs'.drop i = rs'[i] :: rs'.drop (i + 1) := List.drop_eq_getElem_cons hiy
        have hg' : rs'[i]? = some rs'[i] := List.getElem?_eq_getElem hiy
        generalize rs'[i] = a' at hd hg'
        obtain ⟨o1, o2⟩ := hg.2 i a' hg'
        obtain ⟨bl, _, _⟩ := recB_len4 (appOk_rec o1) o2
        have eb : si = (textB (recB a') ++ ((rs'.drop (i + 1)).map fun a => textB (recB a)).flatten, false) := by
          rw [g2, hd]; simp
        obtain ⟨r1, r2⟩ := read_text (m := 1048576) (a := recB a') (r := ((rs'.drop (i + 1)).map fun a => textB (recB a)).flatten) (by omega) (by omega)
        rw [← eb] at r1 r2
        exact ⟨a', hg', o1, o2, htx.symm.trans r1, hs2.symm.trans r2⟩
      have hz36 : (recC 0 (.slice none 0 0) (.slice none 0 0) 0 zeroH).length = 36 := recC_len rfl
      have ex0 : ∀ x y : Value, extV 0 (.tuple #[x, y]) = some x := fun _ _ => rfl
      have ex1 : ∀ x y : Value, extV 1 (.tuple #[x, y]) = some y := fun _ _ => rfl
      have i0 : binV .no .neq (.int .i64 0) (.int .i64 0) = some (.bool false) := rfl
      have i10 : binV .no .neq (.int .i64 10) (.int .i64 0) = some (.bool true) := rfl
      generalize hH10 : h9.push (.cells (recC 0 (.slice none 0 0) (.slice none 0 0) 0 zeroH).toArray T_history_Record (0, 0)) = h10
      have k10 : Keep (fun _ => False) h9 h10 := by rw [← hH10]; exact Keep.push
      have p10 : At h10 h9.size (recC 0 (.slice none 0 0) (.slice none 0 0) 0 zeroH) := by rw [← hH10]; exact At.push
      rcases hR with ⟨a, vb, va, hok, wf, hB, hb9, ha9, rfl⟩ | ⟨hno, rfl⟩
      · obtain ⟨h11, st11, p11, k11⟩ := p10.st (n := 36) (ds := recC a.k vb va a.s a.r) hz36 (recC_len wf.r) (recC_one hb9 ha9)
        have k911 : Keep (fun _ => False) h9 h11 := k10.fresh k11 fun b hb => by omega
        have k811 := k9.trans k911
        have k11t := k8.trans k811
        rw [ex0, Mpu_some, ex1, Mpu_some, z_Rec0, Mnew_some, hH10, show (Value.pointer (some ⟨h9.size, 0, none⟩)) = Ptr h9.size 0 from rfl, st11, Mwr_some, i0, Mpu_some]
        refine J1_eq.2 ?_
        obtain ⟨bl, lb, la⟩ := recB_len4 hok wf
        simp only [p11.ldN (n := 36) (recC_len wf.r), unV_not, Bool.not_true, Bool.not_false, Mif_bool, Mif_undef, pickV_bool, Mcd_bool, Mpu_some, if_true, if_false, Bool.false_eq_true, Bool.true_eq_false, decide_true, decide_false, reduceCtorEq, ex20, ex21, ex30, ex31, ex32, Mre_ok, Mre_nil]
        have q9 := k9.1
        have q911 := k911.1
        have q8' := k8'.1
        refine call_i (c_Append (hh8.keep k811 fun _ _ => id) (S k11t) (hb9.keep k911 fun _ _ => id) (ha9.keep k911 fun _ _ => id) (fun b hb => ⟨by omega, fun h => by have := (hltb b h).2; omega⟩) wf.r (T k11t) (by omega) (by omega) (by omega)) ?_
        rintro u26 h13 hA
        rcases hA with ⟨hno, rfl, k13⟩ | ⟨_, h4096, _⟩ | ⟨hao, hne, rfl, k13, Fr', Fc', Fi', hh13, hHB13⟩
        · simp only [i10, unV_not, Bool.not_true, Bool.not_false, Mif_bool, Mif_undef, pickV_bool, Mcd_bool, Mpu_some, if_true, if_false, Bool.false_eq_true, Bool.true_eq_false, decide_true, decide_false, reduceCtorEq, J1_eq, ex20, ex21, ex30, ex31, ex32, Mre_ok, Mre_nil]
          refine ⟨.inr ⟨by trivial, fun rs' hg e => ?_⟩, k11t.trans k13⟩
          obtain ⟨a', g1, g2, g3, g4, _⟩ := hnext rs' hg e
          have ea : a = a' := recB_inj hok (appOk_rec g2) ⟨wf.bef, wf.aft, wf.r⟩ ⟨g3.bef, g3.aft, g3.r⟩ (hB.trans g4)
          rw [← (hpost rs' hg e).1, ← ea, hno] at g2
          cases g2
        · omega
        · simp only [i0, unV_not, Bool.not_true, Bool.not_false, Mif_bool, Mif_undef, pickV_bool, Mcd_bool, Mpu_some, if_true, if_false, Bool.false_eq_true, Bool.true_eq_false, decide_true, decide_false, reduceCtorEq, J1_eq, ex20, ex21, ex30, ex31, ex32, Mre_ok, Mre_nil]
          rw [add_one' (by omega), Mpu_some]
          have hin13 := (hin8.keep k811 id fun _ _ => id).keep k13 (fun hb => by have := hHB _ hb; omega) (fun b hb hB' => by have := hHB _ hB'; have := hPlt b hb; omega)
          have k13t : Keep (fun _ => False) H h13 := k11t.fresh k13 fun b hb => by have := hHB _ hb; omega
          have hne' : tx ≠ [] := by rw [← hB]; exact recB_ne
          obtain ⟨tb1, tb2⟩ := htb hne'
          refine hk _ _ ⟨i + 1, rs ++ [a], s2, Fr', Fc', Fi', rfl, hlt, by simp [hrl], by rw [chL_snoc]; exact hh13, hin13, fun b hb => ?_, by omega, fun h2 => ?_, ?_, fun rs' hg e => ?_, k13t⟩ (by show c - (i + 1) < c - i; omega)
          · rcases hHB13 b hb with h | h
            · exact hHB b h
            · have := k11t.1; have := k2'.1; have := kh.1
              have hsz : h1.size ≤ h7.size := by have := (hltb h1.size (.inl rfl)).2; omega
              omega
          · have h1e := hfw (by rw [tb1])
            rw [tb1] at h1e
            rw [h1e, ← hB]
            simp
          · intro x hx
            rcases List.mem_append.1 hx with hx | hx
            · exact hrok x hx
            · obtain rfl : x = a := by simpa using hx
              exact ⟨hok, wf⟩
          · obtain ⟨a', g1, g2, g3, g4, g5⟩ := hnext rs' hg e
            have ea : a = a' := recB_inj hok (appOk_rec g2) ⟨wf.bef, wf.aft, wf.r⟩ ⟨g3.bef, g3.aft, g3.r⟩ (hB.trans g4)
            refine ⟨?_, g5⟩
            rw [List.take_add_one, g1, (hpost rs' hg e).1, ea]; rfl
      · obtain ⟨h11, st11, p11, k11⟩ := p10.st (n := 36) (ds := recC 0 (.slice none 0 0) (.slice none 0 0) 0 zeroH) hz36 hz36 (recC_one (k := 0) (s := 0) (r := zeroH) (items0 (P := fun _ => False) (H := H)) (items0 (P := fun _ => False) (H := H)))
        have k911 : Keep (fun _ => False) h9 h11 := k10.fresh k11 fun b hb => by omega
        rw [ex0, Mpu_some, ex1, Mpu_some, z_Rec0, Mnew_some, hH10, show (Value.pointer (some ⟨h9.size, 0, none⟩)) = Ptr h9.size 0 from rfl, st11, Mwr_some, i10, Mpu_some]
        simp only [unV_not, Bool.not_true, Bool.not_false, Mif_bool, Mif_undef, pickV_bool, Mcd_bool, Mpu_some, if_true, if_false, Bool.false_eq_true, Bool.true_eq_false, decide_true, decide_false, reduceCtorEq, J1_eq, ex20, ex21, ex30, ex31, ex32, Mre_ok, Mre_nil]
        refine ⟨.inr ⟨by trivial, fun rs' hg e => ?_⟩, k8.trans (k9.trans k911)⟩
        obtain ⟨a', g1, g2, g3, g4, _⟩ := hnext rs' hg e
        exact hno a' (appOk_rec g2) g3 g4.symm
    · rw [if_neg (by simpa using hlt)]
      obtain rfl : i = c := by omega
      refine hk3 _ _ ⟨rs, si, Fr, Fc, Fi, hrl, hh, hin, hHB, hfw, hrok, fun rs' hg e => ?_, kh⟩
      obtain ⟨g1, g2⟩ := hpost rs' hg e
      have hcl := (hcount rs' hg e).1
      rw [List.take_of_length_le (by omega)] at g1
      rw [List.drop_eq_nil_of_le (by omega)] at g2
      exact ⟨g1, g2⟩
  · rintro _ h4 ⟨rs, si, Fr, Fc, Fi, hrl, hh, hin, hHB, hfw, hrok, hpost, kh⟩
    refine call_i (c_In_Done hin) ?_
    rintro _ h15 ⟨rfl, rfl⟩
    cases hd : (!si.2 && si.1.isEmpty)
    · simp only [unV_not, Bool.not_true, Bool.not_false, Mif_bool, Mif_undef, pickV_bool, Mcd_bool, Mpu_some, if_true, if_false, Bool.false_eq_true, Bool.true_eq_false, decide_true, decide_false, reduceCtorEq, J1_eq, ex20, ex21, ex30, ex31, ex32, Mre_ok, Mre_nil]
      refine ⟨.inr ⟨by trivial, fun rs' hg e => ?_⟩, kh⟩
      obtain ⟨_, g2⟩ := hpost rs' hg e
      rw [g2] at hd
      simp at hd
    · simp only [unV_not, Bool.not_true, Bool.not_false, Mif_bool, Mif_undef, pickV_bool, Mcd_bool, Mpu_some, if_true, if_false, Bool.false_eq_true, Bool.true_eq_false, decide_true, decide_false, reduceCtorEq, J1_eq, ex20, ex21, ex30, ex31, ex32, Mre_ok, Mre_nil]
      simp only [Bool.and_eq_true, Bool.not_eq_true', List.isEmpty_iff] at hd
      have e := hfw hd.1
      rw [hd.2, List.append_nil] at e
      refine ⟨.inl ⟨_, rs, Fr, Fc, Fi, rfl, hh, fun b hb => by have := hHB b hb; omega, ?_, hrok⟩, kh⟩
      rw [e, histB, hrl]
end Go.Proofs.YtmhfanpijdgkjabGreatDoor
/- (*History).Bytes. -/
namespace Go.Proofs.YtmhfanpijdgkjabGreatDoor
open Go.X Go.X.Diff
set_option maxRecDepth 100000

theorem z_POut : zcells prg T_P_wire_Out = some [Value.pointer none].toArray := by kernel_rfl
theorem OutAt.bound {F : Nat → Prop} {p : Nat} {H : Heap} {l : List UInt8} (h : OutAt F p H l) : OutAt (fun b => F b ∧ b < H.size) p H l := by
  obtain ⟨h1, v, h2, h3⟩ := h
  exact ⟨fun h => h1 h.1, v, h2, h3.bound⟩
theorem _root_.Go.X.Buf.closed {F : Nat → Prop} {n0 : Nat} {h h' : Heap} {v : Value} {l : List UInt8} (b : Buf F h v l) (c : Closed n0 h h') : Buf F h' v l := by
  rcases b with b | ⟨b, o, c', cs, T, f, e, hf, hc, hb, hr⟩
  · exact .inl b
  · exact .inr ⟨b, o, c', cs, T, f, e, hf, hc, c.2.2 b _ hb (fun ds e => by cases e), hr⟩
theorem flatR_len {rs : List RecA} (h : ∀ a ∈ rs, recOk a = true ∧ RecWf a) : ((rs.map fun a => textB (recB a)).flatten).length ≤ rs.length * 100004 := by
  induction rs with
  | nil => simp
  | cons a rs ih =>
    obtain ⟨h1, h2⟩ := h a (by simp)
    have h3 := (recB_len4 h1 h2).1
    have h4 := ih fun b hb => h b (by simp [hb])
    rw [List.map_cons, List.flatten_cons, List.length_append, textB_len, List.length_cons]; omega

theorem c_HistBytes {p : Nat} {Fr Fc Fi : Nat → Prop} {H : Heap} {rs : List RecA} (hh : HistAt p Fr Fc Fi H rs (chL rs)) (hT : PowT H) (hok : ∀ a ∈ rs, recOk a = true ∧ RecWf a) :
    HCalls prg f_history_History_Bytes [Ptr p 0] H fun u H' => Buf (fun b => H.size ≤ b ∧ b < H'.size) H' u (histB rs) ∧ Keep (fun _ => False) H H' := by
  apply sh_history_History_Bytes_calls
  unfold sh_history_History_Bytes
  have hfew := hh.few
  have klt := hh.lt
  simp only [bld_Out, Mpu_some, Cells_agg, Mnew_some, z_POut]
  generalize hH1 : H.push (.cells #[.slice none 0 0] T_wire_Out (0, 0)) = h1
  have k1 : Keep (fun _ => False) H h1 := by rw [← hH1]; exact Keep.push
  have s1 : h1.size = H.size + 1 := by rw [← hH1]; simp
  have o1 : h1[H.size]? = some (.cells #[.slice none 0 0] T_wire_Out (0, 0)) := by rw [← hH1]; exact push_new
  generalize hH2 : h1.push (.cells [Value.pointer none].toArray T_P_wire_Out (0, 0)) = h2
  have k2 : Keep (fun _ => False) h1 h2 := by rw [← hH2]; exact Keep.push
  have s2 : h2.size = h1.size + 1 := by rw [← hH2]; simp
  have c2 : At h2 h1.size [.pointer none] := by rw [← hH2]; exact At.push
  obtain ⟨h3, st3, c3, k3⟩ := c2.st1 (i := 0) (v := Ptr H.size 0) (by simp) rfl
  have k23 : Keep (· = h1.size) h1 h3 := (k2.mono fun _ _ h => h.elim).trans k3
  have o3 : h3[H.size]? = some (.cells #[.slice none 0 0] T_wire_Out (0, 0)) := k23.at o1 (by omega)
  have s3 := k3.1
  have d3 : ld1 h3 (Ptr h1.size 0) = some (Ptr H.size 0) := c3.ld rfl
  have kH3 : Keep (fun _ => False) H h3 := k1.fresh k23 fun b hb => by omega
  have hh3 := hh.keep kH3 fun _ _ => id
  rw [show (Value.pointer (some ⟨h1.size, 0, none⟩)) = Ptr h1.size 0 from rfl, show (Value.pointer (some ⟨H.size, 0, none⟩)) = Ptr H.size 0 from rfl, st3, Mwr_some, d3, Mpu_some]
  refine call_i (c_HistLen hh3) ?_
  rintro _ h4 ⟨rfl, rfl⟩
  simp only [d3, Mre_ok, Mre_nil]
  have o3' : OutAt (h3.size ≤ ·) H.size h3 [] := ⟨by omega, _, o3, .inl ⟨rfl, rfl⟩⟩
  refine call_i (c_Out_Int o3' (rs.length : Nat) (by simp) (fun b hb => hb)) ?_
  rintro _ h5 ⟨rfl, o5, k5⟩
  rw [List.nil_append] at o5
  have o5 := o5.bound
  have kH5 : Keep (fun _ => False) H h5 := kH3.fresh k5 fun b hb => by rcases hb with h | h <;> omega
  have hh5 := hh.keep kH5 fun _ _ => id
  have c5 := c3.keep k5 (fun h => by rcases h with h | h <;> omega)
  have s5 := k5.1
  refine call_i c_Walk ?_
  rintro _ h6 ⟨rfl, w6, k6⟩
  have kH6 := kH5.trans k6
  have hh6 := hh.keep kH6 fun _ _ => id
  have c6 := c5.keep k6 id
  have o6 := o5.keep k6 fun _ _ => id
  have wlt := w6.lt
  have hlt6 := hh6.lt
  let F : Nat → Prop := fun b => (h3.size ≤ b ∧ b < h5.size) ∨ h6.size + 2 ≤ b
  have hF : ∀ b, F b → H.size < b ∧ b ≠ h5.size ∧ b ≠ h6.size ∧ b ≠ h6.size + 1 ∧ b ≠ h1.size := fun b hb => by rcases hb with h | h <;> omega
  have o6 : OutAt F H.size h6 (numB (rs.length : Nat) 8) := o6.mono (fun b hb => .inl hb) fun h => by have := (hF _ h).1; omega
  refine range_r (n := rs.length) (X := WalkX (h6.size + 2) rs (chL rs)) (Sw := fun _ => False) (Sr := fun b => b = h5.size ∨ HB p Fr Fc Fi b) (W := fun b => b = H.size ∨ F b)
    (St := WalkSt (h6.size + 2) h5.size p Fr Fc Fi rs (chL rs)) walk_iter (fun o o' => ?_) kH6.1
    (fun j h => HistAt p Fr Fc Fi h rs (chL rs) ∧ At h h1.size [Ptr H.size 0] ∧ OutAt F H.size h (numB (rs.length : Nat) 8 ++ ((rs.take j).map fun a => textB (recB a)).flatten) ∧ Keep (fun _ => False) H h ∧ h6.size ≤ h.size)
    (fun _ _ => False) ⟨hh6, c6, by simpa using o6, kH6, Nat.le_refl _⟩ ?_ (fun c h h' hf => hf.elim) (fun b hb => hb.elim) (fun b hb => ?_) (fun b hb => ?_) ?_ ?_ (fun c h _ hf => hf.elim)
  · have kp : Keep (fun _ => False) h6 ((h6.push o).push o') := Keep.push.trans Keep.push
    exact ⟨w6.keep kp id, hh6.keep kp fun _ _ => id, by simp⟩
  · rintro j h h' ⟨i1, i2, i3, i4, i5⟩ k
    have nb : ∀ b, b < h6.size → ¬ (False ∨ b = h6.size ∨ b = h6.size + 1) := fun b hb h => by rcases h with h | h | h <;> first | exact h | omega
    refine ⟨i1.keep k fun b hb => nb b (hlt6 b hb).2, i2.keep k (nb _ (by omega)), i3.keep k fun b hb => ?_, i4.fresh k fun b hb => ?_, Nat.le_trans i5 k.1⟩
    · rcases hb with hb | hb
      · have := hF b hb
        intro h; rcases h with h | h | h <;> first | exact h | omega
      · exact nb b (by omega)
    · have := kH6.1
      rcases hb with h | h | h
      · exact h.elim
      · omega
      · omega
  · rcases hb with rfl | hb
    · exact wlt
    · exact (hlt6 b hb).2
  · have h1' : ∀ b, HB p Fr Fc Fi b → b < H.size := fun b hb => (klt b hb).2
    refine ⟨?_, ?_, fun hS => ?_⟩
    · rcases hb with rfl | hb
      · have := kH6.1; omega
      · exact (hF b hb).2.2.1
    · rcases hb with rfl | hb
      · have := kH6.1; omega
      · exact (hF b hb).2.2.2.1
    · rcases hS with rfl | hS
      · rcases hb with hb | hb
        · omega
        · exact (hF _ hb).2.1 rfl
      · have := h1' b hS
        rcases hb with hb | hb
        · omega
        · have := (hF b hb).1; omega
  · rintro j x h r hj hhs ⟨a, vb, va, c, hg, hgc, rfl, hraw⟩ ⟨i1, i2, i3, i4, i5⟩ hloop hready K hN _
    refine ⟨rfl, ?_⟩
    have hrl := rawC_len (x := (vb, va)) hraw.1
    have hone : ∀ v ∈ rawC a (vb, va), v.oneCell' = true := recC_one hraw.2.1 hraw.2.2.1
    show Mnew h T_history_Record (zcells prg T_history_Record) fun t10 h26 => Mwr (stN 36 h26 t10 (.agg (rawC a (vb, va)).toArray)) fun h27 => _
    refine new_rec hrl hone fun h27 hs27 a27 k27 => ?_
    refine ⟨r, k27.at hloop id, hready, ?_⟩
    have kb0 := Keep.busy (o := .loop { r with state := .busy }) k27 hloop
    generalize hhb : h27.setIfInBounds (h6.size + 1) (.loop { r with state := .busy }) = hb at *
    generalize h.setIfInBounds (h6.size + 1) (.loop { r with state := .busy }) = hb0 at *
    have kb : Keep (· = h6.size + 1) h27 hb := by rw [← hhb]; exact Keep.set rfl
    have kab : Keep (· = h6.size + 1) h hb := (k27.mono fun _ _ h => h.elim).trans kb
    have qb := kab.1
    have abr := a27.keep kb (show ¬ h.size = h6.size + 1 by omega)
    have bc := i2.keep kab (show ¬ h1.size = h6.size + 1 by omega)
    have bo := i3.keep kab (fun b hb e => by
      rcases hb with hb | hb
      · exact (hF b hb).2.2.2.1 e
      · have := kH6.1; omega)
    have bh := i1.keep kab fun b hb e => by have := (hlt6 b hb).2; omega
    have braw := hraw.keep kab fun b hb => by omega
    have b6 : Keep (fun _ => False) H hb := i4.fresh kab fun b hb => by have := kH6.1; omega
    obtain ⟨ok1, ok2⟩ := hok a (List.mem_of_getElem? hg)
    obtain ⟨bl, lb, la⟩ := recB_len4 ok1 ok2
    have hT' : PowT hb := hT.keep b6 fun _ h => h.elim
    have hub := braw.2.1.bound
    have hua := braw.2.2.1.bound
    refine (show Mpu (ld1 hb (Ptr h1.size 0)) _ from ?_)
    rw [bc.ld (i := 0) rfl, Mpu_some, abr.ldN (n := 36) hrl, Mpu_some]
    refine call_i (c_RecBytes hub hua (fun b hb => hb.2) hraw.1 hT' (by omega) (by omega) (by omega)) ?_
    rintro t17 h15 ⟨hb15, k15⟩
    have c15 := bc.keep k15 id
    rw [c15.ld (i := 0) rfl]
    simp only [Mre_ok, Mre_nil]
    have o15 := bo.bound.keep k15 fun _ _ => id
    have htl := flatR_len (rs := rs.take j) fun a ha => hok a (List.mem_of_mem_take ha)
    have htl2 : (rs.take j).length ≤ 4096 := by rw [List.length_take]; omega
    have q15 := k15.1
    have k6H := kH6.1
    let F' : Nat → Prop := fun b => (F b ∧ b < hb.size) ∨ h15.size ≤ b
    have o15' : OutAt F' H.size h15 (numB (rs.length : Nat) 8 ++ ((rs.take j).map fun a => textB (recB a)).flatten) := o15.mono (fun b h => .inl h) fun h => by
      rcases h with h | h
      · have := (hF _ h.1).1; omega
      · omega
    refine call_i (c_Out_Bytes o15' hb15.sl.bs hb15.sl.len (fun b hb' hw => by
      have hbb := hb15.sl.own b hb'
      rcases hw with hw | hw
      · rcases hw with hw | hw <;> omega
      · omega) (by rw [List.length_append, numB_len]; omega) (fun b hb => .inr hb)) ?_
    rintro _ h16 ⟨rfl, o16, k16⟩
    have q16 := k16.1
    have hF'F : ∀ b, F' b → F b := fun b hb => by
      rcases hb with hb | hb
      · exact hb.1
      · exact .inr (by omega)
    have o16' : OutAt F H.size h16 (numB (rs.length : Nat) 8 ++ ((rs.take (j + 1)).map fun a => textB (recB a)).flatten) := by
      have e : numB (rs.length : Nat) 8 ++ ((rs.take (j + 1)).map fun a => textB (recB a)).flatten = numB (rs.length : Nat) 8 ++ ((rs.take j).map fun a => textB (recB a)).flatten ++ textB (recB a) := by
        rw [List.take_add_one, hg, List.map_append, List.flatten_append, List.append_assoc]
        show _ ++ (_ ++ ([textB (recB a)] : List (List UInt8)).flatten) = _
        rw [List.flatten_cons, List.flatten_nil, List.append_nil]
      rw [e]
      exact o16.mono hF'F fun h => by have := (hF _ h).1; omega
    have kw : Keep (fun b => b = H.size ∨ F b) hb h16 := (k15.mono fun _ _ h => h.elim).trans (k16.mono fun b _ h => h.elim (fun h => .inr (hF'F b h)) .inl)
    have hltH : ∀ b, HB p Fr Fc Fi b → b < H.size := fun b hb => (klt b hb).2
    refine hN _ ((kb0.mono fun _ _ h => h.elim).trans kw) ⟨bh.keep kw fun b hb h => ?_, bc.keep kw fun h => ?_, o16', b6.fresh kw fun b hb => ?_, by omega⟩
    · have := hltH b hb
      rcases h with h | h
      · omega
      · have := (hF b h).1; omega
    · rcases h with h | h
      · omega
      · exact (hF _ h).2.2.2.2 rfl
    · rcases hb with h | h
      · omega
      · have := (hF b h).1; omega
  · rintro h11 hsz ⟨i1, i2, i3, i4, i5⟩
    refine .inl ⟨rfl, ?_⟩
    rw [i2.ld (i := 0) rfl, Mpu_some]
    rw [List.take_length] at i3
    have htl := flatR_len hok
    have i3' : OutAt (fun b => (F b ∧ b < h11.size) ∨ h11.size ≤ b) H.size h11 (histB rs) := i3.bound.mono (fun b h => .inl h) fun h => by
      have := kH6.1
      rcases h with h | h
      · have := (hF _ h.1).1; omega
      · omega
    refine call_i (c_Out_All i3' (by unfold histB; rw [List.length_append, numB_len]; omega) (fun b hb => .inr hb)) ?_
    rintro u h17 ⟨hb17, k17⟩
    refine mcl_i fun h18 cl => ?_
    have cl1 := cl.1
    have k6H := kH6.1
    refine ⟨(hb17.bound.closed cl).mono fun b hb => ⟨?_, by omega⟩, keep_closed (i4.fresh k17 fun b hb => ?_) cl⟩
    · rcases hb.1 with h | h
      · have := (hF b h.1).1; omega
      · omega
    · rcases hb with h | h
      · have := (hF b h.1).1; omega
      · omega
end Go.Proofs.YtmhfanpijdgkjabGreatDoor
/- The walk of HistoryReads. -/
namespace Go.Proofs.YtmhfanpijdgkjabGreatDoor
open Go.X Go.X.Diff
set_option maxRecDepth 100000

theorem c_HistoryReads {H : Heap} {v : Value} {l : List UInt8} (hv : BRow H v l) (hS : ShaT H) (hT : PowT H) (hE : ErrT H) :
    HCalls prg f_syngraphlaw22_HistoryReads [v] H fun u H' => u = .bool true ∧ Keep (fun _ => False) H H' := by
  apply sh_syngraphlaw22_HistoryReads_calls
  unfold sh_syngraphlaw22_HistoryReads
  have g : binV .no .gtr (.int .i64 (l.length : Nat)) (.int .i64 5000) = some (.bool (decide (5000 < l.length))) := by
    rw [binV_int]; simp only [intV]; congr 2; rw [decide_eq_decide]; omega
  rw [hv.len, Mpu_some, g, Mpu_some, Mcd_bool]
  by_cases hbig : 5000 < l.length
  · rw [if_pos (by simpa using hbig)]
    exact awake22_end hS hT Keep.refl fun h' k => ⟨rfl, k⟩
  rw [if_neg (by simpa using hbig)]
  have hl : l.length ≤ 5000 := by omega
  have E : ∀ {h}, Keep (fun _ => False) H h → ErrT h := fun k => hE.keep k fun _ h => h.elim
  have T : ∀ {h}, Keep (fun _ => False) H h → PowT h := fun k => hT.keep k fun _ h => h.elim
  have S : ∀ {h}, Keep (fun _ => False) H h → ShaT h := fun k => hS.keep k fun _ h => h.elim
  have hvS : ∀ {h}, Keep (fun _ => False) H h → b2s h v = some (str l) := fun k => (hv.keep k).b2s
  refine call_i (c_ParseRecord hv (by omega) hE hT) ?_
  rintro u15 h2 ⟨hR, k2⟩
  obtain ⟨a, vb, va, e, rfl, hib, hia, hr, lb, la, hcase⟩ : ∃ (a : RecA) (vb va : Value) (e : Int), u15 = .tuple #[.agg (recC a.k vb va a.s a.r).toArray, .int .i64 e] ∧ Items (fun b => H.size ≤ b ∧ b < h2.size) h2 vb a.bef ∧ Items (fun b => H.size ≤ b ∧ b < h2.size) h2 va a.aft ∧
      a.r.length = 32 ∧ a.bef.length ≤ 256 ∧ a.aft.length ≤ 256 ∧ ((e = 0 ∧ recOk a = true ∧ recB a = l) ∨ (e = 10 ∧ a = recZ ∧ vb = .slice none 0 0 ∧ va = .slice none 0 0)) := by
    rcases hR with ⟨a, vb, va, hok, wf, hB, hb, ha, rfl⟩ | ⟨_, rfl⟩
    · obtain ⟨_, lb, la⟩ := recB_len4 hok wf
      exact ⟨a, vb, va, 0, rfl, hb, ha, wf.r, lb, la, .inl ⟨rfl, hok, hB⟩⟩
    · exact ⟨recZ, _, _, 10, rfl, items0, items0, rfl, by simp [recZ], by simp [recZ], .inr ⟨rfl, rfl, rfl, rfl⟩⟩
  have ex0 : ∀ x y : Value, extV 0 (.tuple #[x, y]) = some x := fun _ _ => rfl
  have ex1 : ∀ x y : Value, extV 1 (.tuple #[x, y]) = some y := fun _ _ => rfl
  have hz36 : (recC 0 (.slice none 0 0) (.slice none 0 0) 0 zeroH).length = 36 := recC_len rfl
  rw [ex0, Mpu_some, ex1, Mpu_some, z_Rec0, Mnew_some]
  generalize hH3 : h2.push (.cells (recC 0 (.slice none 0 0) (.slice none 0 0) 0 zeroH).toArray T_history_Record (0, 0)) = h3
  have k3 : Keep (fun _ => False) h2 h3 := by rw [← hH3]; exact Keep.push
  have p3 : At h3 h2.size (recC 0 (.slice none 0 0) (.slice none 0 0) 0 zeroH) := by rw [← hH3]; exact At.push
  obtain ⟨h4, st4, p4, k4⟩ := p3.st (n := 36) (ds := recC a.k vb va a.s a.r) hz36 (recC_len hr) (recC_one hib hia)
  have k24 : Keep (fun _ => False) h2 h4 := k3.fresh k4 fun b hb => by omega
  have k04 := k2.trans k24
  rw [show (Value.pointer (some ⟨h2.size, 0, none⟩)) = Ptr h2.size 0 from rfl, st4, Mwr_some]
  have hib4 := hib.keep k24 fun _ _ => id
  have hia4 := hia.keep k24 fun _ _ => id
  have e00 : binV .no .eql (.int .i64 0) (.int .i64 0) = some (.bool true) := rfl
  have e100 : binV .no .eql (.int .i64 10) (.int .i64 0) = some (.bool false) := rfl
  have e1010 : binV .no .eql (.int .i64 10) (.int .i64 10) = some (.bool true) := rfl
  have n00 : binV .no .neq (.int .i64 0) (.int .i64 0) = some (.bool false) := rfl
  have n100 : binV .no .neq (.int .i64 10) (.int .i64 0) = some (.bool true) := rfl
  have sne : binV .no .neq (str l) (str l) = some (.bool false) := by rw [str_neq]; simp
  refine J0_i (fun h => Keep (fun _ => False) h4 h) (fun k5 hk5 => ?_) ?_
  · rcases hcase with ⟨rfl, hok, hB⟩ | ⟨rfl, rfl, rfl, rfl⟩
    · simp only [e00, p4.ldN (n := 36) (recC_len hr), unV_not, Bool.not_true, Bool.not_false, Mif_bool, Mif_undef, pickV_bool, Mcd_bool, Mpu_some, if_true, if_false, Bool.false_eq_true, Bool.true_eq_false, decide_true, decide_false, reduceCtorEq, ex20, ex21, ex30, ex31, ex32, Mre_ok, Mre_nil]
      refine call_i (c_recordBytes hib4 hia4 hr lb la) ?_
      rintro _ h7 ⟨⟨w, rfl, hw⟩, k7⟩
      have hw := (hw hok).sl.brow.b2s
      rw [hB] at hw
      rw [hok]
      simp only [ex0, ex1, unV_not, Bool.not_true, Bool.not_false, Mif_bool, Mif_undef, pickV_bool, Mcd_bool, Mpu_some, if_true, if_false, Bool.false_eq_true, Bool.true_eq_false, decide_true, decide_false, reduceCtorEq, ex20, ex21, ex30, ex31, ex32, Mre_ok, Mre_nil]
      refine J1_eq.2 ?_
      simp only [hw, hvS (k04.trans k7), sne, unV_not, Bool.not_true, Bool.not_false, Mif_bool, Mif_undef, pickV_bool, Mcd_bool, Mpu_some, if_true, if_false, Bool.false_eq_true, Bool.true_eq_false, decide_true, decide_false, reduceCtorEq, ex20, ex21, ex30, ex31, ex32, Mre_ok, Mre_nil]
      exact hk5 _ k7
    · simp only [e100, unV_not, Bool.not_true, Bool.not_false, Mif_bool, Mif_undef, pickV_bool, Mcd_bool, Mpu_some, if_true, if_false, Bool.false_eq_true, Bool.true_eq_false, decide_true, decide_false, reduceCtorEq, ex20, ex21, ex30, ex31, ex32, Mre_ok, Mre_nil]
      exact hk5 _ Keep.refl
  rintro h6 k46
  have k06 := k04.trans k46
  refine call_i (c_ParseHist (hv.keep k06) (by omega) (E k06) (T k06) (S k06)) ?_
  rintro u36 h10 ⟨hP, k10⟩
  have k010 := k06.trans k10
  /- the end -/
  have fin : ∀ h23, Keep (fun _ => False) h10 h23 → ∀ f : Int, (f = 0 ∨ f = 10) →
      (Mpu (binV .no .eql (.int .i64 e) (.int .i64 0)) fun t62 =>
      J1 (fun k24 => Mif t62 false (
          Mpu (binV .no .eql (.int .i64 e) (.int .i64 10)) fun t65 =>
          k24 t65 h23) (
          k24 undef h23)) fun t66_2 h25 =>
      J1 (fun k26 => Mif t66_2 true (
          Mpu (ldN 36 h25 (Ptr h2.size 0)) fun t67 =>
          Mpu (buildV prg T_history_Record []) fun t68 =>
          Mcall prg f_history_Record_Equal [t67, t68] h25 fun t69 h27 =>
          k26 t69 h27) (
          k26 undef h25)) fun t69_2 h28 =>
      J1 (fun k29 => Mif t62 false (
          Mpu (pickV t66_2 t69_2 (.bool false)) fun t70 =>
          k29 t70 h28) (
          k29 undef h28)) fun t70_2 h30 =>
      Mpu (pickV t62 (.bool true) t70_2) fun t71 =>
      J1 (fun k31 => Mif t71 true (
          Mpu (binV .no .eql (.int .i64 f) (.int .i64 0)) fun t74 =>
          k31 t74 h30) (
          k31 undef h30)) fun t75_2 h32 =>
      J1 (fun k33 => Mif t75_2 false (
          Mpu (binV .no .eql (.int .i64 f) (.int .i64 10)) fun t77 =>
          k33 t77 h32) (
          k33 undef h32)) fun t77_2 h34 =>
      J1 (fun k35 => Mif t71 true (
          Mpu (pickV t75_2 (.bool true) t77_2) fun t78 =>
          k35 t78 h34) (
          k35 undef h34)) fun t78_2 h36 =>
      Mpu (pickV t71 t78_2 (.bool false)) fun t79 =>
      J1 (fun k37 => Mif t79 true (
          Mcall prg f_syngraphlaw22_awake [] h36 fun t81 h38 =>
          k37 t81 h38) (
          k37 undef h36)) fun t81_2 h39 =>
      Mpu (pickV t79 t81_2 (.bool false)) fun t82 =>
      (t82 = .bool true ∧ Keep (fun _ => False) H h39)) := by
    intro h23 k23 f hf
    have k023 := k010.trans k23
    have last : ∀ h30, Keep (fun _ => False) H h30 →
        (J1 (fun k31 => Mif (.bool true) true (
          Mpu (binV .no .eql (.int .i64 f) (.int .i64 0)) fun t74 =>
          k31 t74 h30) (
          k31 undef h30)) fun t75_2 h32 =>
        J1 (fun k33 => Mif t75_2 false (
          Mpu (binV .no .eql (.int .i64 f) (.int .i64 10)) fun t77 =>
          k33 t77 h32) (
          k33 undef h32)) fun t77_2 h34 =>
        J1 (fun k35 => Mif (.bool true) true (
          Mpu (pickV t75_2 (.bool true) t77_2) fun t78 =>
          k35 t78 h34) (
          k35 undef h34)) fun t78_2 h36 =>
        Mpu (pickV (.bool true) t78_2 (.bool false)) fun t79 =>
        J1 (fun k37 => Mif t79 true (
          Mcall prg f_syngraphlaw22_awake [] h36 fun t81 h38 =>
          k37 t81 h38) (
          k37 undef h36)) fun t81_2 h39 =>
        Mpu (pickV t79 t81_2 (.bool false)) fun t82 =>
        (t82 = .bool true ∧ Keep (fun _ => False) H h39)) := by
      intro h30 k30
      rcases hf with rfl | rfl
      · simp only [e00, unV_not, Bool.not_true, Bool.not_false, Mif_bool, Mif_undef, pickV_bool, Mcd_bool, Mpu_some, if_true, if_false, Bool.false_eq_true, Bool.true_eq_false, decide_true, decide_false, reduceCtorEq, J1_eq, ex20, ex21, ex30, ex31, ex32, Mre_ok, Mre_nil]
        refine awake22_end hS hT k30 fun h' k => ?_
        simp only [unV_not, Bool.not_true, Bool.not_false, Mif_bool, Mif_undef, pickV_bool, Mcd_bool, Mpu_some, if_true, if_false, Bool.false_eq_true, Bool.true_eq_false, decide_true, decide_false, reduceCtorEq, J1_eq, ex20, ex21, ex30, ex31, ex32, Mre_ok, Mre_nil]
        exact ⟨by trivial, k⟩
      · simp only [e100, e1010, unV_not, Bool.not_true, Bool.not_false, Mif_bool, Mif_undef, pickV_bool, Mcd_bool, Mpu_some, if_true, if_false, Bool.false_eq_true, Bool.true_eq_false, decide_true, decide_false, reduceCtorEq, J1_eq, ex20, ex21, ex30, ex31, ex32, Mre_ok, Mre_nil]
        refine awake22_end hS hT k30 fun h' k => ?_
        simp only [unV_not, Bool.not_true, Bool.not_false, Mif_bool, Mif_undef, pickV_bool, Mcd_bool, Mpu_some, if_true, if_false, Bool.false_eq_true, Bool.true_eq_false, decide_true, decide_false, reduceCtorEq, J1_eq, ex20, ex21, ex30, ex31, ex32, Mre_ok, Mre_nil]
        exact ⟨by trivial, k⟩
    rcases hcase with ⟨rfl, hok, hB⟩ | ⟨rfl, rfl, rfl, rfl⟩
    · have := last h23 k023
      simp only [e00, unV_not, Bool.not_true, Bool.not_false, Mif_bool, Mif_undef, pickV_bool, Mcd_bool, Mpu_some, if_true, if_false, Bool.false_eq_true, Bool.true_eq_false, decide_true, decide_false, reduceCtorEq, J1_eq, ex20, ex21, ex30, ex31, ex32, Mre_ok, Mre_nil] at this ⊢
      exact this
    · have hp := ((p4.keep k46 id).keep k10 id).keep k23 id
      have hpl := hp.ldN (n := 36) (recC_len hr)
      have b0 : buildV prg T_history_Record [] = some (.agg (recC recZ.k (.slice none 0 0) (.slice none 0 0) recZ.s recZ.r).toArray) := bld_Rec0
      rw [e100, Mpu_some]
      refine J1_eq.2 ?_
      simp only [e1010, unV_not, Bool.not_true, Bool.not_false, Mif_bool, Mif_undef, pickV_bool, Mcd_bool, Mpu_some, if_true, if_false, Bool.false_eq_true, Bool.true_eq_false, decide_true, decide_false, reduceCtorEq, ex20, ex21, ex30, ex31, ex32, Mre_ok, Mre_nil]
      refine J1_eq.2 ?_
      simp only [hpl, b0, unV_not, Bool.not_true, Bool.not_false, Mif_bool, Mif_undef, pickV_bool, Mcd_bool, Mpu_some, if_true, if_false, Bool.false_eq_true, Bool.true_eq_false, decide_true, decide_false, reduceCtorEq, ex20, ex21, ex30, ex31, ex32, Mre_ok, Mre_nil]
      refine call_i (c_RecEqual (P := fun _ => False) (Q := fun _ => False) (a := recZ) (b := recZ) items0 items0 items0 items0 rfl rfl (by simp [recZ]) (by simp [recZ])) ?_
      rintro _ h27 ⟨rfl, k27⟩
      have := last h27 (k023.trans k27)
      rw [eqRec_self]
      simp only [unV_not, Bool.not_true, Bool.not_false, Mif_bool, Mif_undef, pickV_bool, Mcd_bool, Mpu_some, if_true, if_false, Bool.false_eq_true, Bool.true_eq_false, decide_true, decide_false, reduceCtorEq, J1_eq, ex20, ex21, ex30, ex31, ex32, Mre_ok, Mre_nil] at this ⊢
      exact this
  have pe : binV .ptr .eql (.pointer none) (.pointer none) = some (.bool true) := rfl
  have pn : binV .ptr .neq (.pointer none) (.pointer none) = some (.bool false) := rfl
  rcases hP with ⟨p, rs, Fr, Fc, Fi, rfl, hh, hHB, hlB, hrok⟩ | ⟨rfl, _⟩
  · have pp : binV .ptr .eql (Ptr p 0) (.pointer none) = some (.bool false) := rfl
    simp only [ex0, ex1, e00, unV_not, Bool.not_true, Bool.not_false, Mif_bool, Mif_undef, pickV_bool, Mcd_bool, Mpu_some, if_true, if_false, Bool.false_eq_true, Bool.true_eq_false, decide_true, decide_false, reduceCtorEq, ex20, ex21, ex30, ex31, ex32, Mre_ok, Mre_nil]
    refine J1_eq.2 ?_
    simp only [pp, unV_not, Bool.not_true, Bool.not_false, Mif_bool, Mif_undef, pickV_bool, Mcd_bool, Mpu_some, if_true, if_false, Bool.false_eq_true, Bool.true_eq_false, decide_true, decide_false, reduceCtorEq, ex20, ex21, ex30, ex31, ex32, Mre_ok, Mre_nil]
    refine J1_eq.2 ?_
    simp only [hvS k010, unV_not, Bool.not_true, Bool.not_false, Mif_bool, Mif_undef, pickV_bool, Mcd_bool, Mpu_some, if_true, if_false, Bool.false_eq_true, Bool.true_eq_false, decide_true, decide_false, reduceCtorEq, ex20, ex21, ex30, ex31, ex32, Mre_ok, Mre_nil]
    refine call_i (c_HistBytes hh (T k010) hrok) ?_
    rintro t46 h14 ⟨hb14, k14⟩
    have hq := hb14.sl.brow.b2s
    rw [← hlB] at hq
    have k14t := k010.trans k14
    simp only [hvS k14t, hq, sne, n00, pn, unV_not, Bool.not_true, Bool.not_false, Mif_bool, Mif_undef, pickV_bool, Mcd_bool, Mpu_some, if_true, if_false, Bool.false_eq_true, Bool.true_eq_false, decide_true, decide_false, reduceCtorEq, J1_eq, ex20, ex21, ex30, ex31, ex32, Mre_ok, Mre_nil]
    have := fin h14 k14 0 (.inl rfl)
    simp only [e00, unV_not, Bool.not_true, Bool.not_false, Mif_bool, Mif_undef, pickV_bool, Mcd_bool, Mpu_some, if_true, if_false, Bool.false_eq_true, Bool.true_eq_false, decide_true, decide_false, reduceCtorEq, J1_eq, ex20, ex21, ex30, ex31, ex32, Mre_ok, Mre_nil] at this ⊢
    exact this
  · simp only [ex0, ex1, e100, pe, pn, n100, unV_not, Bool.not_true, Bool.not_false, Mif_bool, Mif_undef, pickV_bool, Mcd_bool, Mpu_some, if_true, if_false, Bool.false_eq_true, Bool.true_eq_false, decide_true, decide_false, reduceCtorEq, J1_eq, ex20, ex21, ex30, ex31, ex32, Mre_ok, Mre_nil]
    have := fin h10 Keep.refl 10 (.inr rfl)
    simp only [e100, e1010, unV_not, Bool.not_true, Bool.not_false, Mif_bool, Mif_undef, pickV_bool, Mcd_bool, Mpu_some, if_true, if_false, Bool.false_eq_true, Bool.true_eq_false, decide_true, decide_false, reduceCtorEq, J1_eq, ex20, ex21, ex30, ex31, ex32, Mre_ok, Mre_nil] at this ⊢
    exact this
end Go.Proofs.YtmhfanpijdgkjabGreatDoor
