/- JOINED: V50 V51 V52 -/
import Derived.Test.YtmhfanpijdgkjaaDoorGV
import Derived.Test.YtmhfanpijdgkjaaDoorGN
import Derived.Test.YtmhfanpijdgkjaaDoorGW
set_option linter.unusedSimpArgs false
set_option linter.unusedVariables false
/- records that came in; the history that a law makes; a walk over it. -/
namespace Go.Proofs.YtmhfanpijdgkjaaDoor
open Go.X Go.X.Diff
set_option maxRecDepth 100000

/-- a record's items -/
def RawIn (P : Nat → Prop) (H : Heap) (a : RecA) (x : Value × Value) : Prop := a.r.length = 32 ∧ Items P H x.1 a.bef ∧ Items P H x.2 a.aft ∧ a.bef.length ≤ 9223372036854775807 ∧ a.aft.length ≤ 9223372036854775807
theorem RawIn.keep {P S : Nat → Prop} {H H' : Heap} {a : RecA} {x : Value × Value} (h : RawIn P H a x) (k : Keep S H H') (hs : ∀ b, P b → ¬ S b) : RawIn P H' a x := ⟨h.1, h.2.1.keep k hs, h.2.2.1.keep k hs, h.2.2.2⟩
/-- a slice of records -/
def Recs (P : Nat → Prop) (H : Heap) (v : Value) (l : List (RecA × Value × Value)) : Prop := SlE 36 P H v (l.map fun r => rawC r.1 r.2) ∧ ∀ r ∈ l, RawIn P H r.1 r.2
section
variable {P : Nat → Prop} {H : Heap} {v : Value} {l : List (RecA × Value × Value)}
theorem Recs.keep {S : Nat → Prop} {H' : Heap} (h : Recs P H v l) (k : Keep S H H') (hs : ∀ b, P b → ¬ S b) : Recs P H' v l := ⟨h.1.keep k hs, fun r hr => (h.2 r hr).keep k hs⟩
theorem Recs.len (h : Recs P H v l) : lenV v = some (.int .i64 l.length) := by have := h.1.len; simpa using this
theorem Recs.at (h : Recs P H v l) {i : Nat} {r : RecA × Value × Value} (hi : l[i]? = some r) : RawIn P H r.1 r.2 ∧ ∃ b o, (∀ k, ixS 36 v (.int k i) = some (Ptr b o)) ∧ Pt H b o (rawC r.1 r.2) ∧ P b := by
  refine ⟨h.2 r (List.mem_of_getElem? hi), ?_⟩
  exact h.1.at (x := rawC r.1 r.2) (by rw [List.getElem?_map, hi]; rfl)
end
theorem rawC_len {a : RecA} {x : Value × Value} (h : a.r.length = 32) : (rawC a x).length = 36 := recC_len h
theorem rawC_one {P : Nat → Prop} {H : Heap} {a : RecA} {x : Value × Value} (h : RawIn P H a x) : ∀ c ∈ rawC a x, c.oneCell' = true := recC_one h.2.1 h.2.2.1
/-- a record that is laid anew -/
theorem new_rec {h : Heap} {cs : List Value} (hl : cs.length = 36) (h1 : ∀ c ∈ cs, c.oneCell' = true) {k : Value → Heap → Prop}
    (hk : ∀ h', h'.size = h.size + 1 → At h' h.size cs → Keep (fun _ => False) h h' → k (Ptr h.size 0) h') :
    Mnew h T_history_Record (zcells prg T_history_Record) fun t h6 => Mwr (stN 36 h6 t (.agg cs.toArray)) fun h7 => k t h7 := by
  obtain ⟨z, hz, hzl⟩ := z_Record
  rw [hz, Mnew_some]
  have a1 : At (h.push (.cells z.toArray T_history_Record (0, 0))) h.size z := At.push
  obtain ⟨h', st, a2, k2⟩ := a1.st (n := 36) (ds := cs) hzl hl h1
  rw [show (Value.pointer (some ⟨h.size, 0, none⟩)) = Ptr h.size 0 from rfl, st, Mwr_some]
  refine hk _ ?_ a2 (Keep.push.fresh k2 fun b hb => by omega)
  have := k2.1
  have h2 : h'.size = (h.push (.cells z.toArray T_history_Record (0, 0))).size := by
    have hst := st
    simp only [stN, stA] at hst
    split at hst <;> first | cases hst | skip
    split at hst <;> first | cases hst | skip
    split at hst <;> first | cases hst | skip
    simp
  rw [h2]; simp

/- THE HISTORY THAT A LAW MAKES -/
def madeF (l : List RecA) : List RecA := l.foldl (fun rs a => if appOk rs a = true ∧ rs.length ≠ 4096 then rs ++ [a] else rs) []
theorem madeF_snoc {l : List RecA} {a : RecA} : madeF (l ++ [a]) = if appOk (madeF l) a = true ∧ (madeF l).length ≠ 4096 then madeF l ++ [a] else madeF l := by
  unfold madeF; rw [List.foldl_append]; rfl
def chL (rs : List RecA) : List (List UInt8) := rs.foldl (fun ch a => ch ++ [chainF ch a]) []
theorem chL_snoc {rs : List RecA} {a : RecA} : chL (rs ++ [a]) = chL rs ++ [chainF (chL rs) a] := by
  unfold chL; rw [List.foldl_append]; rfl
theorem showF_len' {v : Ver} (hp : v.p.length = 3) : (showF v).length ≤ 40 := by
  unfold showF
  split
  · rename_i hok
    obtain ⟨p, pre⟩ := v
    match p, hp with
    | [a, b, c], _ =>
      have hall : [a, b, c].all partOk = true := by unfold verOk at hok; simp only [Bool.and_eq_true] at hok; exact hok.1
      have hpre : pre.length ≤ 16 := by unfold verOk preOk at hok; simp only [Bool.and_eq_true, decide_eq_true_eq] at hok; exact hok.2.1
      have ha := partOk_iff (List.all_eq_true.1 hall a (by simp))
      have hb := partOk_iff (List.all_eq_true.1 hall b (by simp))
      have hc := partOk_iff (List.all_eq_true.1 hall c (by simp))
      have l1 := decF_len (n := a.toNat) (by omega)
      have l2 := decF_len (n := b.toNat) (by omega)
      have l3 := decF_len (n := c.toNat) (by omega)
      simp only [joinF, List.map_cons, List.map_nil, List.flatten_cons, List.flatten_nil, List.append_nil]
      split <;> simp <;> omega
  · simp
theorem flat_le {f : Item → List UInt8} {m : Nat} : ∀ {l : List Item}, (∀ x ∈ l, (f x).length ≤ m) → ((l.map f).flatten).length ≤ l.length * m
  | [], _ => by simp
  | x :: l, h => by
    have h1 := h x (by simp)
    have h2 := flat_le (l := l) fun y hy => h y (by simp [hy])
    simp only [List.map_cons, List.flatten_cons, List.length_append, List.length_cons, Nat.succ_mul]
    omega
theorem put_small {xs : List Item} (hw : ∀ x ∈ xs, x.wf) (hn : ∀ x ∈ xs, bigI x = false) (hl : xs.length ≤ 20) : (putB xs).length ≤ 4000 := by
  have h1 : ∀ x ∈ xs, (itemB x).length ≤ 180 := fun x hx => by
    have h2 := hn x hx
    unfold bigI at h2
    simp only [Bool.or_eq_false_iff, decide_eq_false_iff_not] at h2
    have h3 := showF_len' (v := x.ver) (hw x hx).ver.p3
    have h4 := (hw x hx).sum
    simp only [itemB, List.length_append, textB_len]; omega
  have := flat_le h1
  have h5 : xs.length * 180 ≤ 20 * 180 := Nat.mul_le_mul_right _ hl
  simp only [putB, List.length_append, numB_len]; omega
theorem smallB_spec {a b : List Item} (h : smallB a b = true) : (∀ x ∈ a, bigI x = false) ∧ (∀ x ∈ b, bigI x = false) ∧ a.length ≤ 20 ∧ b.length ≤ 20 := by
  unfold smallB at h
  simp only [Bool.and_eq_true, Bool.not_eq_true', List.any_eq_false, decide_eq_true_eq] at h
  exact ⟨fun x hx => by simpa using h.1.1 x hx, fun x hx => by simpa using h.1.2 x hx, h.2⟩
theorem recB_small {P : Nat → Prop} {H : Heap} {a : RecA} {x : Value × Value} (h : RawIn P H a x) (hs : smallB a.bef a.aft = true) : (recB a).length ≤ 10000 ∧ a.bef.length ≤ 20 ∧ a.aft.length ≤ 20 := by
  obtain ⟨h1, h2, h3, h4⟩ := smallB_spec hs
  have p1 := put_small h.2.1.2 h1 h3
  have p2 := put_small h.2.2.1.2 h2 h4
  refine ⟨?_, h3, h4⟩
  simp only [recB, List.length_append, numB_len, h.1]; omega

/-- a history that is made here, of blocks from m on -/
def Hist (m p : Nat) (h : Heap) (rs : List RecA) : Prop := ∃ Fr Fc Fi, HistAt p Fr Fc Fi h rs (chL rs) ∧ ∀ b, HB p Fr Fc Fi b → m ≤ b
theorem Hist.keep {m p : Nat} {S : Nat → Prop} {h h' : Heap} {rs : List RecA} (a : Hist m p h rs) (k : Keep S h h') (hs : ∀ b, m ≤ b → b < h.size → ¬ S b) : Hist m p h' rs := by
  obtain ⟨Fr, Fc, Fi, h1, h2⟩ := a
  exact ⟨Fr, Fc, Fi, h1.keep k fun b hb => hs b (h2 b hb) (h1.lt b hb).2, h2⟩
theorem madeF_len {l : List RecA} : (madeF l).length ≤ l.length := by
  suffices h : ∀ (l rs : List RecA), (l.foldl (fun rs a => if appOk rs a = true ∧ rs.length ≠ 4096 then rs ++ [a] else rs) rs).length ≤ rs.length + l.length by
    have := h l []
    simpa [madeF] using this
  intro l
  induction l with
  | nil => intro rs; simp
  | cons a l ih =>
    intro rs
    rw [List.foldl_cons, List.length_cons]
    have := ih (if appOk rs a = true ∧ rs.length ≠ 4096 then rs ++ [a] else rs)
    split at this
    · rw [List.length_append, List.length_singleton] at this
      rename_i hc
      rw [if_pos hc]; omega
    · rename_i hc
      rw [if_neg hc]; omega

/-- Append, at a history of new blocks -/
theorem c_AppendH {m p : Nat} {H : Heap} {rs : List RecA} {a : RecA} {x : Value × Value} {P : Nat → Prop} (h : Hist m p H rs) (hT : ShaT H) (hW : PowT H) (ha : RawIn P H a x) (hP : ∀ b, P b → b < H.size ∧ b < m) (hs : smallB a.bef a.aft = true) (hm : NG ≤ m) :
    HCalls prg f_history_History_Append [Ptr p 0, .agg (rawC a x).toArray] H fun u H' => u = .int .i64 (if appOk rs a = true then (if rs.length = 4096 then 12 else 0) else 10) ∧
      Hist m p H' (if appOk rs a = true ∧ rs.length ≠ 4096 then rs ++ [a] else rs) ∧ Keep (m ≤ ·) H H' := by
  obtain ⟨Fr, Fc, Fi, hh, hHB⟩ := h
  obtain ⟨r1, r2, r3⟩ := recB_small ha hs
  refine (c_Append hh hT ha.2.1 ha.2.2.1 (fun b hb => ⟨(hP b hb).1, fun h => by have := hHB b h; have := (hP b hb).2; omega⟩) ha.1 hW (by omega) (by omega) (by omega)).mono fun u H' hR => ?_
  rcases hR with ⟨h1, rfl, k⟩ | ⟨h1, h2, rfl, k⟩ | ⟨h1, h2, rfl, k, Fr', Fc', Fi', hh', hHB'⟩
  · rw [if_neg (by rw [h1]; decide), if_neg (by rw [h1]; simp)]
    exact ⟨rfl, ⟨Fr, Fc, Fi, hh.keep k fun _ _ => id, hHB⟩, k.mono fun _ _ h => h.elim⟩
  · rw [if_pos h1, if_pos h2, if_neg (fun h => h.2 h2)]
    exact ⟨rfl, ⟨Fr, Fc, Fi, hh.keep k fun _ _ => id, hHB⟩, k.mono fun _ _ h => h.elim⟩
  · rw [if_pos h1, if_neg h2, if_pos ⟨h1, h2⟩]
    refine ⟨rfl, ⟨Fr', Fc', Fi', by rw [chL_snoc]; exact hh', fun b hb => ?_⟩, k.mono fun b _ hb => hHB b hb⟩
    rcases hHB' b hb with h | h
    · exact hHB b h
    · have := hHB p (.inl rfl)
      have := (hh.lt p (.inl rfl)).2
      omega

theorem c_made {P : Nat → Prop} {H : Heap} {v : Value} {l : List (RecA × Value × Value)} (hv : Recs P H v l) (hP : ∀ b, P b → b < H.size) (hl : l.length ≤ 1048576) (hs : ∀ r ∈ l, smallB r.1.bef r.1.aft = true) (hT : ShaT H) (hW : PowT H) :
    HCalls prg f_syngraphlaw22_made [v] H fun u H' => ∃ p, u = Ptr p 0 ∧ Hist H.size p H' (madeF (l.map (·.1))) ∧ Keep (fun _ => False) H H' := by
  apply sh_syngraphlaw22_made_calls
  unfold sh_syngraphlaw22_made
  refine call_i (c_HistNew hT.sz) ?_
  rintro _ h1 ⟨rfl, hh1, k1⟩
  have hpn : binV .ptr .eql (Ptr H.size 0) (.pointer none) = some (.bool false) := rfl
  simp only [hpn, unV_not, Bool.not_true, Bool.not_false, Mif_bool, Mif_undef, pickV_bool, Mcd_bool, Mpu_some, if_true, if_false, Bool.false_eq_true, Bool.true_eq_false, decide_true, decide_false, reduceCtorEq, ex20, ex21, ex30, ex31, ex32, Mre_ok, Mre_nil]
  have hm : NG ≤ H.size := hT.sz
  have hh1 : Hist H.size H.size h1 [] := ⟨_, _, _, hh1, fun b hb => by rcases hb with h | h | h | h <;> first | omega | exact h.elim⟩
  refine J1_i (fun _ h => Hist H.size H.size h (madeF (l.map (·.1))) ∧ Keep (fun _ => False) H h) (fun k2 hk2 => ?_) ?_
  · rw [hv.len, Mpu_some]
    refine L1_i (fun u h => ∃ i : Nat, i ≤ l.length ∧ u = .int .i64 (i : Nat) ∧ Hist H.size H.size h (madeF ((l.take i).map (·.1))) ∧ Keep (fun _ => False) H h) (fun u _ => match u with | .int _ t => l.length - t.toNat | _ => 0) ⟨0, Nat.zero_le _, rfl, hh1, k1⟩ ?_
    rintro _ h ⟨i, hi, rfl, hH, kh⟩ k hk
    have elt : binV .no .lss (.int .i64 (i : Nat)) (.int .i64 (l.length : Nat)) = some (.bool (decide (i < l.length))) := by
      rw [binV_int]; simp only [intV]; congr 2; rw [decide_eq_decide]; omega
    rw [elt, Mpu_some, Mcd_bool]
    by_cases hlt : i < l.length
    · rw [if_pos (by simpa using hlt)]
      have hg : l[i]? = some l[i] := List.getElem?_eq_getElem hlt
      have hsm := hs l[i] (List.getElem_mem _)
      generalize l[i] = r at hg hsm
      obtain ⟨hr, b, o, hix, hpt, hpb⟩ := (hv.keep kh fun _ _ => id).at hg
      have hrl := rawC_len (x := r.2) hr.1
      rw [hix, Mpu_some, hpt.agg hrl, Mpu_some]
      refine new_rec hrl (rawC_one hr) fun h7 hs7 a7 k7 => ?_
      have k07 := kh.trans k7
      rw [a7.ldN hrl, Mpu_some]
      have hH7 := hH.keep k7 fun _ _ _ => id
      refine call_i (c_AppendH hH7 (hT.keep k07 fun _ h => h.elim) (hW.keep k07 fun _ h => h.elim) (hr.keep k7 fun _ _ => id) (fun b hb => ⟨by have := hP b hb; have := k07.1; omega, hP b hb⟩) hsm hm) ?_
      rintro _ h8 ⟨rfl, hH8, k8⟩
      rw [show binV .no .add (.int .i64 (i : Nat)) (.int .i64 1) = some (.int .i64 ((i + 1 : Nat) : Int)) from add_one (by omega), Mpu_some]
      refine hk _ _ ⟨i + 1, by omega, rfl, ?_, k07.fresh k8 fun b hb => hb⟩ (by show l.length - (i + 1) < l.length - i; omega)
      rw [List.take_add_one, hg, Option.toList_some, List.map_append, List.map_singleton, madeF_snoc]
      exact hH8
    · rw [if_neg (by simpa using hlt)]
      rw [List.take_of_length_le (by omega)] at hH
      exact hk2 _ _ ⟨hH, kh⟩
  rintro _ h ⟨hH, kh⟩
  exact ⟨_, rfl, hH, kh⟩

/- A WALK -/
theorem c_Walk {p : Nat} {H : Heap} : HCalls prg f_history_History_Walk [Ptr p 0] H fun u H' => u = .func (.func f_history_History_Walk_1) #[] #[Ptr H.size 0] ∧ At H' H.size [Ptr p 0] ∧ Keep (fun _ => False) H H' := by
  apply sh_history_History_Walk_calls
  unfold sh_history_History_Walk
  have c1 : Value.cells (Ptr p 0) = [Ptr p 0].toArray := rfl
  rw [c1, Mnew_some]
  exact ⟨rfl, At.push, Keep.push⟩
structure WalkSt (N q p : Nat) (Fr Fc Fi : Nat → Prop) (rs : List RecA) (ch : List (List UInt8)) (h : Heap) : Prop where
  cell : At h q [Ptr p 0]
  hist : HistAt p Fr Fc Fi h rs ch
  sz : N ≤ h.size
/-- what round i is handed -/
def WalkX (N : Nat) (rs : List RecA) (ch : List (List UInt8)) (i : Nat) (x : List Value) (h : Heap) : Prop :=
  ∃ a vb va c, rs[i]? = some a ∧ ch[i]? = some c ∧ x = [.agg (rawC a (vb, va)).toArray, bv c] ∧ RawOk (N ≤ ·) h a (vb, va)
theorem keep_not {Sr : Nat → Prop} {h h' : Heap} (hsz : h.size ≤ h'.size) (hS : ∀ b, Sr b → b < h.size → h'[b]? = h[b]?) : Keep (fun b => ¬ Sr b) h h' :=
  ⟨hsz, fun b hb hn => hS b (Classical.not_not.1 hn) hb⟩
theorem walk_iter {N q p : Nat} {Fr Fc Fi : Nat → Prop} {rs : List RecA} {ch : List (List UInt8)} :
    IterR prg (.func (.func f_history_History_Walk_1) #[] #[Ptr q 0]) rs.length (WalkX N rs ch) (fun _ => False) (fun b => b = q ∨ HB p Fr Fc Fi b) (WalkSt N q p Fr Fc Fi rs ch) := by
  intro yv h0 J E hst hJ hbody sJ sE
  refine ⟨f_history_History_Walk_1, #[], #[Ptr q 0], rfl, by kernel_rfl, ?_⟩
  show HCalls prg f_history_History_Walk_1 [yv, Ptr q 0] h0 _
  apply sh_history_History_Walk_1_calls
  unfold sh_history_History_Walk_1
  obtain ⟨vr, vc, xs, hp, hr, hc, hxl, hx⟩ := hst.hist.blk
  have hfew := hst.hist.few
  have hlen := hst.hist.len
  have hc32 := hst.hist.c32
  have d1 := hst.cell.ld (i := 0) rfl
  have e0 : ld1 h0 (Ptr p 0) = some vr := by rw [ld1_at hp]; rfl
  have el := hr.sl.len
  have hzl : (List.zipWith rawC rs xs).length = rs.length := by simp [hxl]
  rw [hzl] at el
  simp only [d1, nck_ptr, fld_ptr, Mpu_some, Nat.zero_add, e0, el]
  /- the history, as it was found -/
  let I : Heap → Prop := fun h => At h q [Ptr p 0] ∧ h[p]? = some (.cells #[vr, vc] T_history_History (0, 0)) ∧ BufE 36 Fr h vr (List.zipWith rawC rs xs) ∧ BufE 32 Fc h vc (ch.map bcells) ∧ (∀ (i : Nat) a x, rs[i]? = some a → xs[i]? = some x → RawOk Fi h a x) ∧ N ≤ h.size ∧ ∀ b, HB p Fr Fc Fi b → b < h.size
  have IK : ∀ {h h' : Heap} {S : Nat → Prop}, I h → Keep S h h' → (∀ b, (b = q ∨ HB p Fr Fc Fi b) → ¬ S b) → I h' := fun {h h' S} ⟨i1, i2, i3, i4, i5, i6, i7⟩ k hs =>
    ⟨i1.keep k (hs q (.inl rfl)), k.at i2 (hs p (.inr (.inl rfl))), i3.keep k fun b hb => hs b (.inr (.inr (.inl hb))), i4.keep k fun b hb => hs b (.inr (.inr (.inr (.inl hb)))), fun i a x h1 h2 => (i5 i a x h1 h2).keep k fun b hb => hs b (.inr (.inr (.inr (.inr hb)))), Nat.le_trans i6 k.1, fun b hb => Nat.lt_of_lt_of_le (i7 b hb) k.1⟩
  refine L1_i (fun u h => ∃ i : Nat, i ≤ rs.length ∧ u = .int .i64 (i : Nat) ∧ J i h ∧ I h) (fun u _ => match u with | .int _ t => rs.length - t.toNat | _ => 0) ⟨0, Nat.zero_le _, rfl, hJ, hst.cell, hp, hr, hc, hx, hst.sz, fun b hb => (hst.hist.lt b hb).2⟩ ?_
  rintro _ h ⟨i, hi, rfl, hJi, hI⟩ k hk
  have elt : binV .no .lss (.int .i64 (i : Nat)) (.int .i64 (rs.length : Nat)) = some (.bool (decide (i < rs.length))) := by
    rw [binV_int]; simp only [intV]; congr 2; rw [decide_eq_decide]; omega
  rw [elt, Mpu_some, Mcd_bool]
  by_cases hlt : i < rs.length
  · rw [if_pos (by simpa using hlt)]
    have hg : rs[i]? = some rs[i] := List.getElem?_eq_getElem hlt
    generalize rs[i] = a at hg
    have hgx : xs[i]? = some (xs[i]'(by omega)) := List.getElem?_eq_getElem _
    generalize (xs[i]'(by omega)) = x at hgx
    have hgc : ch[i]? = some (ch[i]'(by omega)) := List.getElem?_eq_getElem _
    generalize (ch[i]'(by omega)) = c at hgc
    have hc32' := hc32 c (List.mem_of_getElem? hgc)
    obtain ⟨i1, i2, i3, i4, i5, i6, i7⟩ := hI
    have hraw := i5 i a x hg hgx
    have hrl := rawC_len (x := x) hraw.1
    have hone : ∀ v ∈ rawC a x, v.oneCell' = true := recC_one hraw.2.1 hraw.2.2.1
    obtain ⟨b, o, hix, hpt, hFr⟩ := i3.sl.at (i := i) (x := rawC a x) (by rw [List.getElem?_zipWith, hg, hgx])
    obtain ⟨b2, o2, hix2, hpt2, hFc⟩ := i4.sl.at (i := i) (x := bcells c) (by rw [List.getElem?_map, hgc]; rfl)
    rw [hix, Mpu_some, hpt.agg hrl, Mpu_some]
    refine new_rec hrl hone fun h4 hs4 a4 k4 => ?_
    have d14 := (i1.keep k4 id).ld (i := 0) rfl
    have e14 : ld1 h4 (Ptr p 1) = some vc := by rw [ld1_at (k4.at i2 id)]; rfl
    have g4 := (hpt2.keep k4 id).agg (n := 32) (by simp [hc32'])
    simp only [a4.ldN hrl, d14, nck_ptr, fld_ptr, Mpu_some, Nat.zero_add, e14, hix2, g4]
    refine call_i (c_copied (hraw.2.1.keep k4 fun _ _ => id) (hraw.2.2.1.keep k4 fun _ _ => id) (fun b hb => by have := i7 b (.inr (.inr (.inr hb))); have := k4.1; omega) hraw.1 hraw.2.2.2.1 hraw.2.2.2.2) ?_
    rintro _ h5 ⟨vb, va, rfl, hib, hia, k5⟩
    have k05 := k4.trans k5
    have hI5 := IK (S := fun _ => False) ⟨i1, i2, i3, i4, i5, i6, i7⟩ k05 fun _ _ => id
    have d15 := hI5.1.ld (i := 0) rfl
    have e15 : ld1 h5 (Ptr p 1) = some vc := by rw [ld1_at hI5.2.1]; rfl
    have g5 := (hpt2.keep k05 id).agg (n := 32) (by simp [hc32'])
    simp only [d15, e15, g5, Mre_cons, Mre_nil, true_and]
    have q4 := k4.1
    refine (hbody i _ h5 hlt ⟨a, vb, va, c, hg, hgc, rfl, hraw.1, hib.mono fun b hb => by have := hb.1; omega, hia.mono fun b hb => by have := hb.1; omega, hraw.2.2.2⟩ (sJ _ _ _ hJi k05)).mono ?_
    rintro v h6 ⟨hsz, hS, hv⟩
    have hI6 := IK hI5 (keep_not hsz hS) fun b hb hn => hn hb
    rcases hv with ⟨rfl, hJ'⟩ | ⟨rfl, hE⟩
    · have hadd : binV .no .add (.int .i64 (i : Nat)) (.int .i64 1) = some (.int .i64 ((i + 1 : Nat) : Int)) := add_one (by omega)
      simp only [unV_not, Bool.not_true, Mpu_some, Mcd_bool, Bool.false_eq_true, if_false, hadd]
      exact hk _ _ ⟨i + 1, by omega, rfl, hJ', hI6⟩ (by show rs.length - (i + 1) < rs.length - i; omega)
    · simp only [unV_not, Bool.not_false, Mpu_some, Mcd_bool, if_true]
      exact .inr hE
  · rw [if_neg (by simpa using hlt)]
    obtain rfl : i = rs.length := by omega
    exact .inl hJi
end Go.Proofs.YtmhfanpijdgkjaaDoor
/- Find; the walk of HistoryFinds. -/
namespace Go.Proofs.YtmhfanpijdgkjaaDoor
open Go.X Go.X.Diff
set_option maxRecDepth 100000

theorem str_eql' {a b : List UInt8} {q : EqK} : binV q .eql (str a) (str b) = some (.bool (decide (a = b))) := by rw [binV_str]; exact strV_eq
/-- the names that differ are told -/
theorem diff_has (n : List UInt8) : ∀ (a b : List Item), fndI a n ≠ fndI b n → ∃ s ∈ diffF Item.name shI a b, s.name = n := by
  intro a b
  induction a, b using diffF.induct (nm := Item.name) with
  | case1 => intro h; exact absurd rfl h
  | case2 y b ih =>
    intro h; rw [diffF]
    by_cases e : y.name = n
    · exact ⟨_, List.mem_cons_self .., e⟩
    · rw [fndI_cons, if_neg e] at h
      obtain ⟨s, hs, he⟩ := ih h
      exact ⟨s, List.mem_cons_of_mem _ hs, he⟩
  | case3 x a ih =>
    intro h; rw [diffF]
    by_cases e : x.name = n
    · exact ⟨_, List.mem_cons_self .., e⟩
    · rw [fndI_cons, if_neg e] at h
      obtain ⟨s, hs, he⟩ := ih h
      exact ⟨s, List.mem_cons_of_mem _ hs, he⟩
  | case4 x a y b hl ih =>
    intro h; rw [diffF, if_pos hl]
    by_cases e : y.name = n
    · exact ⟨_, List.mem_cons_self .., e⟩
    · rw [fndI_cons (x := y), if_neg e] at h
      obtain ⟨s, hs, he⟩ := ih h
      exact ⟨s, List.mem_cons_of_mem _ hs, he⟩
  | case5 x a y b h1 hl ih =>
    intro h; rw [diffF, if_neg h1, if_pos hl]
    by_cases e : x.name = n
    · exact ⟨_, List.mem_cons_self .., e⟩
    · rw [fndI_cons (x := x), if_neg e] at h
      obtain ⟨s, hs, he⟩ := ih h
      exact ⟨s, List.mem_cons_of_mem _ hs, he⟩
  | case6 a x b h1 h2 ih =>
    intro h; rw [diffF, if_neg h1, if_neg h2, if_pos rfl]
    by_cases e : x.name = n
    · rw [fndI_cons, if_pos e, fndI_cons, if_pos e] at h; exact absurd rfl h
    · rw [fndI_cons, if_neg e, fndI_cons, if_neg e] at h
      exact ih h
  | case7 x a y b h1 h2 h3 ih =>
    intro h; rw [diffF, if_neg h1, if_neg h2, if_neg h3]
    have en : x.name = y.name := less_total (by simpa using h2) (by simpa using h1)
    by_cases e : x.name = n
    · exact ⟨_, List.mem_cons_self .., e⟩
    · rw [fndI_cons, if_neg e, fndI_cons, if_neg (by rw [← en]; exact e)] at h
      obtain ⟨s, hs, he⟩ := ih h
      exact ⟨s, List.mem_cons_of_mem _ hs, he⟩
/-- was the package changed? -/
def chg (n : List UInt8) (a : RecA) : Bool := decide (fndI a.bef n ≠ fndI a.aft n)
theorem diff_chg {n : List UInt8} {a : RecA} (h1 : Ris Item.name a.bef) (h2 : Ris Item.name a.aft) : (diffD a.bef a.aft).any (fun s => decide (s.name = n)) = chg n a := by
  rw [show diffD a.bef a.aft = diffF Item.name shI a.bef a.aft from if_pos ⟨h1, h2⟩, Bool.eq_iff_iff]
  unfold chg
  simp only [List.any_eq_true, decide_eq_true_eq]
  constructor
  · rintro ⟨s, hs, rfl⟩ he
    have hg := diff_good (nm := Item.name) (sh := shI) a.bef a.aft h1 h2 s hs
    obtain ⟨_, _, hn, hx⟩ := hg
    cases hf : fndI a.bef s.name with
    | none => exact hn ⟨hf, he.symm.trans hf⟩
    | some x => exact hx x hf (he.symm.trans hf)
  · intro h; exact diff_has n _ _ h
theorem itemsOk_ris {xs : List Item} (h : itemsOk xs = true) : Ris Item.name xs := by
  unfold itemsOk at h
  simp only [Bool.and_eq_true, List.all_eq_true, List.mem_range] at h
  have hstep : ∀ i, Ris Item.name (xs.take (i + 1)) := by
    intro i
    induction i with
    | zero =>
      cases xs with
      | nil => exact .nil
      | cons x l => show List.Pairwise _ [x]; simp
    | succ i ih =>
      by_cases hi : i + 1 < xs.length
      · have hx : xs[i + 1]? = some xs[i + 1] := List.getElem?_eq_getElem hi
        have hy : xs[i]? = some (xs[i]'(by omega)) := List.getElem?_eq_getElem _
        have hat := h.1 (i + 1) hi
        unfold itemAt at hat
        rw [hx] at hat
        simp only [Nat.add_sub_cancel, hy, Bool.and_eq_true, Bool.or_eq_true, decide_eq_true_eq] at hat
        exact ris_take ih hy hx (hat.2.resolve_left (by omega))
      · rw [List.take_of_length_le (by omega)]
        rwa [List.take_of_length_le (by omega)] at ih
  have := hstep xs.length
  rwa [List.take_of_length_le (by omega)] at this
/-- what stands in a made history is right -/
theorem madeF_ok {l : List RecA} : ∀ a ∈ madeF l, recOk a = true := by
  suffices h : ∀ (l rs : List RecA), (∀ a ∈ rs, recOk a = true) → ∀ a ∈ l.foldl (fun rs a => if appOk rs a = true ∧ rs.length ≠ 4096 then rs ++ [a] else rs) rs, recOk a = true from h l [] (by simp)
  intro l
  induction l with
  | nil => intro rs h; exact h
  | cons b l ih =>
    intro rs h
    rw [List.foldl_cons]
    refine ih _ fun a ha => ?_
    split at ha
    · rename_i hc
      rcases List.mem_append.1 ha with ha | ha
      · exact h a ha
      · obtain rfl : a = b := by simpa using ha
        have := hc.1
        unfold appOk at this
        rw [Bool.and_eq_true] at this
        exact this.1
    · exact h a ha
theorem recOk_ris {a : RecA} (h : recOk a = true) : Ris Item.name a.bef ∧ Ris Item.name a.aft := by
  unfold recOk at h
  simp only [Bool.and_eq_true] at h
  exact ⟨itemsOk_ris h.1.1.2, itemsOk_ris h.1.2⟩

abbrev ints (l : List Nat) : List (List Value) := rows1 (l.map fun n => Value.int .i64 (n : Nat))
theorem bsl_int {n : Int} : bslV prg T_int 1 [(0, .int .i64 n)] = some [Value.int .i64 n].toArray := by kernel_rfl
/-- one more number -/
theorem app_int {F : Nat → Prop} {h : Heap} {u : Value} {l : List Nat} {n : Nat} (hu : BufE 1 F h u (ints l)) (hl : l.length ≤ 1099511627776) (hF : ∀ b, h.size ≤ b → F b) {k : Value → Heap → Prop}
    (hk : ∀ v h', BufE 1 F h' v (ints (l ++ [n])) → Keep F h h' → k v h') : Mnews h T_int 1 (bslV prg T_int 1 [(0, .int .i64 (n : Nat))]) fun t27 h12 => Mapp T_int 1 8 h12 u t27 k := by
  rw [bsl_int, Mnews_some]
  have kp : Keep (fun _ => False) h (h.push (.cells [Value.int .i64 (n : Nat)].toArray T_int (0, 0))) := Keep.push
  have hx : SlE 1 (· = h.size) (h.push (.cells [Value.int .i64 (n : Nat)].toArray T_int (0, 0))) (.slice (some ⟨h.size, 0, none⟩) 1 1) (ints [n]) :=
    ⟨⟨_, 1, rfl, Nat.le_refl _, .inr ⟨h.size, 0, rfl, rfl, by rw [rows1_flat]; exact Pt.of push_new⟩⟩, rows1_el, rows1_one fun v hv => by simp at hv; subst hv; rfl⟩
  refine (hu.keep kp fun _ _ => id).app hx (by omega) (by simp; omega) (hF _ (by simp)) fun v h' hv kv => ?_
  have e : ints l ++ ints [n] = ints (l ++ [n]) := by simp [ints, rows1]
  rw [e] at hv
  exact hk v h' hv ((kp.mono fun _ _ h => h.elim).trans kv)

/-- which records are told -/
def idxs (n : List UInt8) (rs : List RecA) : List Nat := (List.range rs.length).filter fun i => match rs[i]? with | some a => chg n a | none => false
def idxTo (n : List UInt8) (rs : List RecA) (j : Nat) : List Nat := (List.range j).filter fun i => match rs[i]? with | some a => chg n a | none => false
theorem idxTo_succ {n : List UInt8} {rs : List RecA} {j : Nat} {a : RecA} (h : rs[j]? = some a) : idxTo n rs (j + 1) = if chg n a = true then idxTo n rs j ++ [j] else idxTo n rs j := by
  unfold idxTo
  rw [List.range_succ, List.filter_append]
  by_cases hc : chg n a = true
  · rw [if_pos hc]; simp [h, hc]
  · rw [if_neg hc]; simp [h, hc]
theorem idxTo_len {n : List UInt8} {rs : List RecA} {j : Nat} : (idxTo n rs j).length ≤ j := by
  unfold idxTo
  have := List.length_filter_le (fun i => match rs[i]? with | some a => chg n a | none => false) (List.range j)
  simpa using this

theorem c_IndexFind {G : Nat → Prop} {H : Heap} {v : Value} {S : List Step} {q : Nat} {n : List UInt8} (hv : SlE 3 G H v (S.map stepC)) (hq : At H q [str n]) (hl : S.length ≤ 1099511627776) :
    HCalls prg f_slices_ContainsFunc_S_history_Step_history_Step [v, .func (.func f_history_History_Find_1) #[] #[Ptr q 0]] H fun u H' => u = .bool (S.any fun s => decide (s.name = n)) ∧ Keep (fun _ => False) H H' := by
  apply sh_slices_ContainsFunc_S_history_Step_history_Step_calls
  unfold sh_slices_ContainsFunc_S_history_Step_history_Step
  refine call_i (R := fun u H' => (∃ i : Int, u = .int .i64 i ∧ decide (i ≥ 0) = S.any fun s => decide (s.name = n)) ∧ Keep (fun _ => False) H H') ?_ ?_
  · apply sh_slices_IndexFunc_S_history_Step_history_Step_calls
    unfold sh_slices_IndexFunc_S_history_Step_history_Step
    refine J1_i (fun _ h => (∀ s ∈ S, s.name ≠ n) ∧ Keep (fun _ => False) H h) (fun k1 hk1 => ?_) ?_
    · have hlen := hv.len
      rw [List.length_map] at hlen
      rw [hlen, Mpu_some]
      refine L1_i (fun u h => ∃ i : Nat, i ≤ S.length ∧ u = .int .i64 (i : Nat) ∧ (∀ s ∈ S.take i, s.name ≠ n) ∧ Keep (fun _ => False) H h) (fun u _ => match u with | .int _ t => S.length - t.toNat | _ => 0) ⟨0, Nat.zero_le _, rfl, by simp, Keep.refl⟩ ?_
      rintro _ h ⟨i, hi, rfl, hno, kh⟩ k hk
      have elt : binV .no .lss (.int .i64 (i : Nat)) (.int .i64 (S.length : Nat)) = some (.bool (decide (i < S.length))) := by
        rw [binV_int]; simp only [intV]; congr 2; rw [decide_eq_decide]; omega
      rw [elt, Mpu_some, Mcd_bool]
      by_cases hlt : i < S.length
      · rw [if_pos (by simpa using hlt)]
        have hg : S[i]? = some S[i] := List.getElem?_eq_getElem hlt
        generalize S[i] = s at hg
        obtain ⟨b, o, hix, hpt, _⟩ := (hv.keep kh fun _ _ => id).at (i := i) (x := stepC s) (by rw [List.getElem?_map, hg]; rfl)
        rw [hix, Mpu_some, hpt.agg (n := 3) rfl, Mpu_some]
        refine .inl ⟨f_history_History_Find_1, #[], #[Ptr q 0], rfl, by kernel_rfl, ?_⟩
        show HCalls prg f_history_History_Find_1 [.agg (stepC s).toArray, Ptr q 0] h _
        apply sh_history_History_Find_1_calls
        unfold sh_history_History_Find_1
        simp only [Cells_agg, Mnew_some]
        generalize hH1 : h.push (.cells (stepC s).toArray T_history_Step (0, 0)) = h1
        have k1' : Keep (fun _ => False) h h1 := by rw [← hH1]; exact Keep.push
        have a1 : At h1 h.size (stepC s) := by rw [← hH1]; exact At.push
        have q1 := (hq.keep kh id).keep k1' id
        have d0 := a1.ld (i := 0) (v := str s.name) rfl
        have dq := q1.ld (i := 0) rfl
        have es := fun q => str_eql' (q := q) (a := s.name) (b := n)
        have hadd : binV .no .add (.int .i64 (i : Nat)) (.int .i64 1) = some (.int .i64 ((i + 1 : Nat) : Int)) := add_one (by omega)
        cases hn : decide (s.name = n) <;> simp only [fld_ptr, Nat.zero_add, d0, dq, es, hn, unV_not, Bool.not_true, Bool.not_false, Mif_bool, Mif_undef, pickV_bool, Mcd_bool, Mpu_some, if_true, if_false, Bool.false_eq_true, Bool.true_eq_false, decide_true, decide_false, reduceCtorEq, ex20, ex21, ex30, ex31, ex32, Mre_ok, Mre_nil, hadd]
        · refine hk _ _ ⟨i + 1, by omega, rfl, fun t ht => ?_, kh.trans k1'⟩ (by show S.length - (i + 1) < S.length - i; omega)
          rw [List.take_add_one, hg] at ht
          rcases List.mem_append.1 ht with ht | ht
          · exact hno t ht
          · obtain rfl : t = s := by simpa using ht
            exact of_decide_eq_false hn
        · refine ⟨⟨i, rfl, ?_⟩, kh.trans k1'⟩
          rw [decide_eq_true (by omega), eq_comm, List.any_eq_true]
          exact ⟨s, List.mem_of_getElem? hg, hn⟩
      · rw [if_neg (by simpa using hlt)]
        rw [List.take_of_length_le (by omega)] at hno
        exact hk1 _ _ ⟨hno, kh⟩
    rintro _ h ⟨hno, kh⟩
    refine ⟨⟨-1, rfl, ?_⟩, kh⟩
    rw [eq_comm, show decide ((-1 : Int) ≥ 0) = false from rfl, List.any_eq_false]
    intro s hs; simpa using hno s hs
  · rintro _ h ⟨⟨i, rfl, hi⟩, k⟩
    have e : binV .no .geq (.int .i64 i) (.int .i64 0) = some (.bool (decide (i ≥ 0))) := by rw [binV_int]; rfl
    rw [e, Mpu_some, hi]
    exact ⟨rfl, k⟩

theorem c_Find {p : Nat} {Fr Fc Fi : Nat → Prop} {H : Heap} {rs : List RecA} {ch : List (List UInt8)} {n : List UInt8} (hh : HistAt p Fr Fc Fi H rs ch) (hok : ∀ a ∈ rs, recOk a = true) (hW : PowT H) :
    HCalls prg f_history_History_Find [Ptr p 0, str n] H fun u H' => BufE 1 (H.size ≤ ·) H' u (ints (idxTo n rs rs.length)) ∧ Keep (fun _ => False) H H' := by
  apply sh_history_History_Find_calls
  unfold sh_history_History_Find
  have c1 : Value.cells (str n) = [str n].toArray := rfl
  rw [c1, Mnew_some]
  generalize hH1 : H.push (.cells [str n].toArray T_string (0, 0)) = H1
  have k1 : Keep (fun _ => False) H H1 := by rw [← hH1]; exact Keep.push
  have n1 : At H1 H.size [str n] := by rw [← hH1]; exact At.push
  have s1 : H1.size = H.size + 1 := by rw [← hH1]; simp
  have hh1 := hh.keep k1 fun _ _ => id
  obtain ⟨vr, vc, xs, hp, hr, hc, hxl, hx⟩ := hh1.blk
  have hfew := hh.few
  have e0 : ld1 H1 (Ptr p 0) = some vr := by rw [ld1_at hp]; rfl
  have el := hr.sl.len
  have hzl : (List.zipWith rawC rs xs).length = rs.length := by simp [hxl]
  rw [hzl] at el
  have hlt1 := hh1.lt
  refine J2_i (fun u _ h => BufE 1 (H1.size ≤ ·) h u (ints (idxTo n rs rs.length)) ∧ Keep (fun b => H1.size ≤ b) H1 h) (fun k2 hk2 => ?_) ?_
  · simp only [nck_ptr, fld_ptr, Mpu_some, Nat.zero_add, e0, el]
    refine L2_i (fun u t h => ∃ i : Nat, i ≤ rs.length ∧ t = .int .i64 (i : Nat) ∧ BufE 1 (H1.size ≤ ·) h u (ints (idxTo n rs i)) ∧ Keep (fun b => H1.size ≤ b) H1 h) (fun _ u _ => match u with | .int _ t => rs.length - t.toNat | _ => 0) ⟨0, Nat.zero_le _, rfl, BufE.nil, Keep.refl⟩ ?_
    rintro u _ h ⟨i, hi, rfl, hu, kh⟩ k hk
    have elt : binV .no .lss (.int .i64 (i : Nat)) (.int .i64 (rs.length : Nat)) = some (.bool (decide (i < rs.length))) := by
      rw [binV_int]; simp only [intV]; congr 2; rw [decide_eq_decide]; omega
    rw [elt, Mpu_some, Mcd_bool]
    by_cases hlt : i < rs.length
    · rw [if_pos (by simpa using hlt)]
      have hg : rs[i]? = some rs[i] := List.getElem?_eq_getElem hlt
      generalize rs[i] = a at hg
      have hgx : xs[i]? = some (xs[i]'(by omega)) := List.getElem?_eq_getElem _
      generalize (xs[i]'(by omega)) = x at hgx
      have hraw := (hx i a x hg hgx).keep kh fun b hb h => by have := (hlt1 b (.inr (.inr (.inr hb)))).2; omega
      have hrl := rawC_len (x := x) hraw.1
      have hone : ∀ v ∈ rawC a x, v.oneCell' = true := recC_one hraw.2.1 hraw.2.2.1
      obtain ⟨b, o, hix, hpt, _⟩ := (hr.keep kh fun b hb h => by have := (hlt1 b (.inr (.inl hb))).2; omega).sl.at (i := i) (x := rawC a x) (by rw [List.getElem?_zipWith, hg, hgx])
      have hok' := recOk_ris (hok a (List.mem_of_getElem? hg))
      refine J1_i (fun u h => BufE 1 (H1.size ≤ ·) h u (ints (idxTo n rs (i + 1))) ∧ Keep (fun b => H1.size ≤ b) H1 h) (fun k6 hk6 => ?_) ?_
      · rw [hix, Mpu_some, hpt.agg hrl, Mpu_some]
        refine new_rec hrl hone fun h9 hs9 a9 k9 => ?_
        have d1 := a9.ld (i := 1) (v := x.1) rfl
        have d2 := a9.ld (i := 2) (v := x.2) rfl
        simp only [fld_ptr, Nat.zero_add, d1, d2, Mpu_some]
        have q9 := k9.1
        have kh1 := kh.1
        have hP9 : ∀ b, Fi b → b < h9.size := fun b hb => by have := (hlt1 b (.inr (.inr (.inr hb)))).2; omega
        have hW9 : PowT h9 := (hW.keep k1 fun _ h => h.elim).keep (kh.trans (k9.mono fun _ _ h => h.elim)) fun b hb => by have := hW.sz; have := k1.1; exact Nat.le_trans (by omega) hb
        refine call_i (c_Diff (hraw.2.1.keep k9 fun _ _ => id) (hraw.2.2.1.keep k9 fun _ _ => id) hP9 hP9 hraw.2.2.2.1 hraw.2.2.2.2 hW9) ?_
        rintro g h10 ⟨hgb, k10⟩
        have n10 : At h10 H.size [str n] := ((n1.keep kh (show ¬ H1.size ≤ H.size by omega)).keep k9 id).keep k10 id
        have hdl : (diffD a.bef a.aft).length ≤ 1099511627776 := by
          rw [show diffD a.bef a.aft = diffF Item.name shI a.bef a.aft from if_pos hok', diff_len _ _ hok'.1 hok'.2]
          have c1 : cntA Item.name a.bef a.aft ≤ a.bef.length := List.countP_le_length
          have c2 : cntB Item.name a.bef a.aft ≤ a.aft.length := List.countP_le_length
          have := hraw.2.2.2; omega
        refine call_i (c_IndexFind hgb.sl n10 hdl) ?_
        rintro _ h11 ⟨rfl, k11⟩
        rw [diff_chg hok'.1 hok'.2]
        have k911 := k9.trans (k10.trans k11)
        have u11 := hu.keep k911 fun _ _ => id
        have kh11 : Keep (fun b => H1.size ≤ b) H1 h11 := kh.trans (k911.mono fun _ _ h => h.elim)
        cases hcg : chg n a <;> simp only [unV_not, Bool.not_true, Bool.not_false, Mif_bool, Mif_undef, pickV_bool, Mcd_bool, Mpu_some, if_true, if_false, Bool.false_eq_true, Bool.true_eq_false, decide_true, decide_false, reduceCtorEq, ex20, ex21, ex30, ex31, ex32, Mre_ok, Mre_nil]
        · refine hk6 _ _ ⟨?_, kh11⟩
          rw [idxTo_succ hg, if_neg (by rw [hcg]; decide)]
          exact u11
        · have hll := idxTo_len (n := n) (rs := rs) (j := i)
          refine app_int u11 (by omega) (fun b hb => by have := kh11.1; omega) fun v h' hv kv => hk6 _ _ ⟨?_, kh11.trans kv⟩
          rw [idxTo_succ hg, if_pos hcg]
          exact hv
      · rintro u' h' ⟨hu', kh'⟩
        rw [show binV .no .add (.int .i64 (i : Nat)) (.int .i64 1) = some (.int .i64 ((i + 1 : Nat) : Int)) from add_one (by omega), Mpu_some]
        exact hk _ _ _ ⟨i + 1, by omega, rfl, hu', kh'⟩ (by show rs.length - (i + 1) < rs.length - i; omega)
    · rw [if_neg (by simpa using hlt)]
      obtain rfl : i = rs.length := by omega
      exact hk2 _ _ _ ⟨hu, kh⟩
  rintro u _ h ⟨hu, kh⟩
  exact ⟨hu.mono fun b hb => by omega, k1.fresh kh fun b hb => by omega⟩
end Go.Proofs.YtmhfanpijdgkjaaDoor
/- The walk of HistoryFinds. -/
namespace Go.Proofs.YtmhfanpijdgkjaaDoor
open Go.X Go.X.Diff
set_option maxRecDepth 100000

theorem _root_.Go.X.J5_i {body : (Value → Value → Value → Value → Value → Heap → Prop) → Prop} {rest : Value → Value → Value → Value → Value → Heap → Prop} (I : Heap → Prop) (h1 : ∀ k : Value → Value → Value → Value → Value → Heap → Prop, (∀ x y z t u h, I h → k x y z t u h) → body k) (h2 : ∀ x y z t u h, I h → rest x y z t u h) : J5 body rest := .mk (h1 rest fun x y z t u h hI => h2 x y z t u h hI)
theorem ne_bool' {x y : Bool} : binV .bool .neq (.bool x) (.bool y) = some (.bool (x != y)) := by cases x <;> cases y <;> rfl
theorem z_SInt : zcells prg T_S_int = some [Value.slice none 0 0].toArray := by kernel_rfl
theorem z_int' : zcells prg T_int = some [Value.int .i64 0].toArray := by kernel_rfl
theorem mcl_keep {H h : Heap} {R : Heap → Prop} (k : Keep (fun _ => False) H h) (hR : ∀ h', Keep (fun _ => False) H h' → R h') : Mcl H.size h R := fun h' c =>
  hR h' ⟨by rw [c.1]; exact k.1, fun i hi _ => by rw [c.2.1 i hi, k.2 i hi id]⟩
theorem awake22_end {H h : Heap} (hS : ShaT H) (hT : PowT H) (k : Keep (fun _ => False) H h) {R : Value → Heap → Prop} (hR : ∀ h', Keep (fun _ => False) H h' → R (.bool true) h') : Mcall prg f_syngraphlaw22_awake [] h R := by
  refine call_i (c_awake22 (hS.keep k fun _ h => h.elim) (hT.keep k fun _ h => h.elim)) ?_
  rintro _ h' ⟨rfl, k'⟩
  exact hR _ (k.trans k')
/-- may all be gone through? what comes of it -/
theorem small_loop {P : Nat → Prop} {H h : Heap} {v : Value} {l : List (RecA × Value × Value)} (hv : Recs P h v l) (hl : l.length ≤ 1048576) (hS : ShaT H) (hT : PowT H) (k0 : Keep (fun _ => False) H h) {R : Value → Heap → Prop} (hR : ∀ h', Keep (fun _ => False) H h' → R (.bool true) h') {k6 : Value → Heap → Prop}
    (hk : ∀ u h', (∀ r ∈ l, smallB r.1.bef r.1.aft = true) → Keep (fun _ => False) h h' → k6 u h') :
    Mpu (lenV v) fun t25 => L1 (fun k8 => fun t26_2 h9 =>
        Mpu (binV .no .lss t26_2 t25) fun t27 =>
        Mcd t27 (
          Mpu (ixS 36 v t26_2) fun t28 => Mpu (ldN 36 h9 t28) fun t29 =>
          Mnew h9 T_history_Record (zcells prg T_history_Record) fun t6 h10 => Mwr (stN 36 h10 t6 t29) fun h11 =>
          Mpu (ldN 36 h11 t6) fun t30 => Mcall prg f_syngraphlaw22_small [t30] h11 fun t31 h12 =>
          Mpu (unV .not t31) fun t32 =>
          Mcd t32 (
            Mcall prg f_syngraphlaw22_awake [] h12 fun t33 h13 => Mcl H.size h13 fun h14 => R t33 h14) (
            Mpu (binV .no .add t26_2 (.int .i64 1)) fun t34 => k8 t34 h12)) (
          k6 t26_2 h9)) (.int .i64 0) h := by
  rw [hv.len, Mpu_some]
  refine L1_i (fun u h' => ∃ i : Nat, i ≤ l.length ∧ u = .int .i64 (i : Nat) ∧ (∀ r ∈ l.take i, smallB r.1.bef r.1.aft = true) ∧ Keep (fun _ => False) h h') (fun u _ => match u with | .int _ t => l.length - t.toNat | _ => 0) ⟨0, Nat.zero_le _, rfl, by simp, Keep.refl⟩ ?_
  rintro _ h' ⟨i, hi, rfl, hno, kh⟩ k hk'
  have elt : binV .no .lss (.int .i64 (i : Nat)) (.int .i64 (l.length : Nat)) = some (.bool (decide (i < l.length))) := by
    rw [binV_int]; simp only [intV]; congr 2; rw [decide_eq_decide]; omega
  rw [elt, Mpu_some, Mcd_bool]
  by_cases hlt : i < l.length
  · rw [if_pos (by simpa using hlt)]
    have hg : l[i]? = some l[i] := List.getElem?_eq_getElem hlt
    generalize l[i] = r at hg
    obtain ⟨hr, b, o, hix, hpt, hpb⟩ := (hv.keep kh fun _ _ => id).at hg
    have hrl := rawC_len (x := r.2) hr.1
    rw [hix, Mpu_some, hpt.agg hrl, Mpu_some]
    refine new_rec hrl (rawC_one hr) fun h7 hs7 a7 k7 => ?_
    have hr7 := hr.keep k7 fun _ _ => id
    rw [a7.ldN hrl, Mpu_some]
    refine call_i (c_smallR (k := r.1.k) (s := r.1.s) hr7.2.1 hr7.2.2.1 hr.1 hr.2.2.2.1 hr.2.2.2.2) ?_
    rintro _ h12 ⟨rfl, k12⟩
    have kk := kh.trans (k7.trans k12)
    cases hs : smallB r.1.bef r.1.aft <;> simp only [unV_not, Bool.not_true, Bool.not_false, Mif_bool, Mif_undef, pickV_bool, Mcd_bool, Mpu_some, if_true, if_false, Bool.false_eq_true, Bool.true_eq_false, decide_true, decide_false, reduceCtorEq, ex20, ex21, ex30, ex31, ex32, Mre_ok, Mre_nil]
    · exact awake22_end hS hT (k0.trans kk) fun h13 k13 => mcl_keep k13 hR
    · rw [show binV .no .add (.int .i64 (i : Nat)) (.int .i64 1) = some (.int .i64 ((i + 1 : Nat) : Int)) from add_one (by omega), Mpu_some]
      refine hk' _ _ ⟨i + 1, by omega, rfl, fun t ht => ?_, kk⟩ (by show l.length - (i + 1) < l.length - i; omega)
      rw [List.take_add_one, hg] at ht
      rcases List.mem_append.1 ht with ht | ht
      · exact hno t ht
      · obtain rfl : t = r := by simpa using ht
        exact hs
  · rw [if_neg (by simpa using hlt)]
    rw [List.take_of_length_le (by omega)] at hno
    exact hk _ _ hno kh

set_option maxHeartbeats 2000000 in
theorem c_HistoryFinds {P : Nat → Prop} {H : Heap} {v : Value} {l : List (RecA × Value × Value)} {n : List UInt8} (hv : Recs P H v l) (hP : ∀ b, P b → b < H.size) (hl : l.length ≤ 9223372036854775807) (hn : n.length ≤ 9223372036854775807) (hS : ShaT H) (hT : PowT H) :
    HCalls prg f_syngraphlaw22_HistoryFinds [v, str n] H fun u H' => u = .bool true ∧ Keep (fun _ => False) H H' := by
  apply sh_syngraphlaw22_HistoryFinds_calls
  unfold sh_syngraphlaw22_HistoryFinds
  have c1 : Value.cells (str n) = [str n].toArray := rfl
  rw [c1, Mnew_some]
  generalize hH1 : H.push (.cells [str n].toArray T_string (0, 0)) = H1
  have k1 : Keep (fun _ => False) H H1 := by rw [← hH1]; exact Keep.push
  have n1 : At H1 H.size [str n] := by rw [← hH1]; exact At.push
  have s1 : H1.size = H.size + 1 := by rw [← hH1]; simp
  have d1 := n1.ld (i := 0) rfl
  have e15 : binV .no .gtr (.int .i64 (l.length : Nat)) (.int .i64 15) = some (.bool (decide (15 < l.length))) := by
    rw [binV_int]; simp only [intV]; congr 2; rw [decide_eq_decide]; omega
  have e100 : binV .no .gtr (.int .i64 (n.length : Nat)) (.int .i64 100) = some (.bool (decide (100 < n.length))) := by
    rw [binV_int]; simp only [intV]; congr 2; rw [decide_eq_decide]; omega
  have done : ∀ h', Keep (fun _ => False) H h' → (fun u H' => u = Value.bool true ∧ Keep (fun _ => False) H H') (.bool true) h' := fun h' k => ⟨rfl, k⟩
  rw [hv.len, Mpu_some, e15, Mpu_some]
  refine J1_eq.2 ?_
  cases h15 : decide (15 < l.length)
  rotate_left
  · simp only [unV_not, Bool.not_true, Bool.not_false, Mif_bool, Mif_undef, pickV_bool, Mcd_bool, Mpu_some, if_true, if_false, Bool.false_eq_true, Bool.true_eq_false, decide_true, decide_false, reduceCtorEq, ex20, ex21, ex30, ex31, ex32, Mre_ok, Mre_nil]
    exact awake22_end hS hT k1 fun h' k => mcl_keep k done
  simp only [d1, lenT_str, e100, unV_not, Bool.not_true, Bool.not_false, Mif_bool, Mif_undef, pickV_bool, Mcd_bool, Mpu_some, if_true, if_false, Bool.false_eq_true, Bool.true_eq_false, decide_true, decide_false, reduceCtorEq, ex20, ex21, ex30, ex31, ex32, Mre_ok, Mre_nil]
  cases h100 : decide (100 < n.length)
  rotate_left
  · simp only [unV_not, Bool.not_true, Bool.not_false, Mif_bool, Mif_undef, pickV_bool, Mcd_bool, Mpu_some, if_true, if_false, Bool.false_eq_true, Bool.true_eq_false, decide_true, decide_false, reduceCtorEq, ex20, ex21, ex30, ex31, ex32, Mre_ok, Mre_nil]
    exact awake22_end hS hT k1 fun h' k => mcl_keep k done
  simp only [unV_not, Bool.not_true, Bool.not_false, Mif_bool, Mif_undef, pickV_bool, Mcd_bool, Mpu_some, if_true, if_false, Bool.false_eq_true, Bool.true_eq_false, decide_true, decide_false, reduceCtorEq, ex20, ex21, ex30, ex31, ex32, Mre_ok, Mre_nil]
  have hl15 := of_decide_eq_false h15
  refine J1_i (fun _ h => (∀ r ∈ l, smallB r.1.bef r.1.aft = true) ∧ Keep (fun _ => False) H1 h) (fun k6 hk6 => ?_) ?_
  · have := small_loop (hv.keep k1 fun _ _ => id) (by omega) hS hT k1 (R := fun u H' => u = Value.bool true ∧ Keep (fun _ => False) H H') done (k6 := k6) fun u h' h1 k => hk6 _ _ ⟨h1, k⟩
    rw [(hv.keep k1 fun _ _ => id).len, Mpu_some] at this
    simpa only [unV_not, Bool.not_true, Bool.not_false, Mif_bool, Mif_undef, pickV_bool, Mcd_bool, Mpu_some, if_true, if_false, Bool.false_eq_true, Bool.true_eq_false, decide_true, decide_false, reduceCtorEq, ex20, ex21, ex30, ex31, ex32, Mre_ok, Mre_nil, hv.len] using this
  rintro _ h7 ⟨hsm, k7⟩
  have k07 := k1.trans k7
  refine call_i (c_made (hv.keep k07 fun _ _ => id) (fun b hb => by have := hP b hb; have := k07.1; omega) (by omega) hsm (hS.keep k07 fun _ h => h.elim) (hT.keep k07 fun _ h => h.elim)) ?_
  rintro _ h15 ⟨p, rfl, ⟨Fr, Fc, Fi, hh, hHB⟩, k15⟩
  generalize hrs : madeF (l.map (·.1)) = rs at *
  have hok : ∀ a ∈ rs, recOk a = true := by rw [← hrs]; exact madeF_ok
  have k015 := k07.trans k15
  have hpn : binV .ptr .eql (Ptr p 0) (.pointer none) = some (.bool false) := rfl
  simp only [hpn, z_SInt, z_int', Mnew_some, unV_not, Bool.not_true, Bool.not_false, Mif_bool, Mif_undef, pickV_bool, Mcd_bool, Mpu_some, if_true, if_false, Bool.false_eq_true, Bool.true_eq_false, decide_true, decide_false, reduceCtorEq, ex20, ex21, ex30, ex31, ex32, Mre_ok, Mre_nil]
  have q15 := k015.1
  have q7 := k07.1
  have q7' := k7.1
  have q15' := k15.1
  have n15 := (n1.keep k7 id).keep k15 id
  generalize hH17 : h15.push (.cells [Value.slice none 0 0].toArray T_S_int (0, 0)) = h17
  have k17 : Keep (fun _ => False) h15 h17 := by rw [← hH17]; exact Keep.push
  have w17 : At h17 h15.size [.slice none 0 0] := by rw [← hH17]; exact At.push
  have s17 : h17.size = h15.size + 1 := by rw [← hH17]; simp
  generalize hH18 : h17.push (.cells [Value.int .i64 0].toArray T_int (0, 0)) = h18
  have k18 : Keep (fun _ => False) h17 h18 := by rw [← hH18]; exact Keep.push
  have i18 : At h18 h17.size [.int .i64 0] := by rw [← hH18]; exact At.push
  have s18 : h18.size = h17.size + 1 := by rw [← hH18]; simp
  obtain ⟨h19, st19, i19, k19⟩ := i18.st1 (i := 0) (v := .int .i64 0) (by simp) rfl
  have q19 := k19.1
  rw [st19, Mwr_some]
  refine call_i c_Walk ?_
  rintro _ h20 ⟨rfl, c20, k20⟩
  have q20 := k20.1
  have klt := hh.lt
  have kA : Keep (· = h17.size) h15 h20 := (k17.mono fun _ _ h => h.elim).trans ((k18.mono fun _ _ h => h.elim).trans (k19.trans (k20.mono fun _ _ h => h.elim)))
  have hh20 := hh.keep kA fun b hb e => by have := (klt b hb).2; omega
  have n20 := n15.keep kA (show ¬ H.size = h17.size by omega)
  have w20 := ((w17.keep k18 id).keep k19 (show ¬ h15.size = h17.size by omega)).keep k20 id
  have i20 := i19.keep k20 id
  have clt := c20.lt
  have k020 : Keep (fun _ => False) H h20 := k015.fresh kA fun b hb => by omega
  have hsz19 : h19.size < h20.size := clt
  refine range_r (n := rs.length) (X := WalkX (h20.size + 2) rs (chL rs)) (Sw := fun _ => False) (Sr := fun b => b = h19.size ∨ HB p Fr Fc Fi b) (W := fun b => b = h15.size ∨ b = h17.size ∨ h20.size + 2 ≤ b)
    (St := WalkSt (h20.size + 2) h19.size p Fr Fc Fi rs (chL rs)) walk_iter (fun o o' => ?_) k020.1
    (fun j h => HistAt p Fr Fc Fi h rs (chL rs) ∧ At h H.size [str n] ∧ (∃ w, At h h15.size [w] ∧ BufE 1 (h20.size + 2 ≤ ·) h w (ints (idxTo n rs j))) ∧ At h h17.size [.int .i64 (j : Nat)] ∧ Keep (fun _ => False) H h ∧ h20.size ≤ h.size)
    (fun _ _ => False) ⟨hh20, n20, ⟨_, w20, BufE.nil⟩, i20, k020, Nat.le_refl _⟩ ?_ (fun c h h' hf => hf.elim) (fun b hb => hb.elim) (fun b hb => ?_) (fun b hb => ?_) ?_ ?_ (fun c h _ hf => hf.elim)
  · have kp : Keep (fun _ => False) h20 ((h20.push o).push o') := Keep.push.trans Keep.push
    exact ⟨c20.keep kp id, hh20.keep kp fun _ _ => id, by simp⟩
  · rintro j h h' ⟨i1, i2, ⟨w, i3, i4⟩, i5, i6, i7⟩ k
    have hlt20 := hh20.lt
    have nb : ∀ b, b < h20.size → ¬ (False ∨ b = h20.size ∨ b = h20.size + 1) := fun b hb h => by rcases h with h | h | h <;> first | exact h | omega
    refine ⟨i1.keep k fun b hb => nb b (hlt20 b hb).2, i2.keep k (nb _ (by omega)), ⟨w, i3.keep k (nb _ (by omega)), i4.keep k fun b hb h => by rcases h with h | h | h <;> first | exact h | omega⟩, i5.keep k (nb _ (by omega)), i6.fresh k fun b hb => ?_, Nat.le_trans i7 k.1⟩
    have := k020.1
    rcases hb with h | h | h
    · exact h.elim
    · omega
    · omega
  · rcases hb with rfl | hb
    · exact hsz19
    · exact (hh20.lt b hb).2
  · have h1 : ∀ b, HB p Fr Fc Fi b → b < h15.size := fun b hb => (klt b hb).2
    refine ⟨?_, ?_, fun hS => ?_⟩
    · rcases hb with rfl | rfl | hb <;> omega
    · rcases hb with rfl | rfl | hb <;> omega
    · rcases hS with rfl | hS
      · rcases hb with hb | hb | hb <;> omega
      · have := h1 b hS
        rcases hb with hb | hb | hb <;> omega
  · rintro j x h r hj hhs ⟨a, vb, va, c, hg, hgc, rfl, hraw⟩ ⟨i1, i2, ⟨w, i3, i4⟩, i5, i6, i7⟩ hloop hready K hN _
    refine ⟨rfl, ?_⟩
    have hrl := rawC_len (x := (vb, va)) hraw.1
    have hone : ∀ v ∈ rawC a (vb, va), v.oneCell' = true := recC_one hraw.2.1 hraw.2.2.1
    show Mnew h T_history_Record (zcells prg T_history_Record) fun t10 h26 => Mwr (stN 36 h26 t10 (.agg (rawC a (vb, va)).toArray)) fun h27 => _
    refine new_rec hrl hone fun h27 hs27 a27 k27 => ?_
    refine ⟨r, k27.at hloop id, hready, ?_⟩
    have kb0 := Keep.busy (o := .loop { r with state := .busy }) k27 hloop
    generalize hhb : h27.setIfInBounds (h20.size + 1) (.loop { r with state := .busy }) = hb at *
    generalize h.setIfInBounds (h20.size + 1) (.loop { r with state := .busy }) = hb0 at *
    have kb : Keep (· = h20.size + 1) h27 hb := by rw [← hhb]; exact Keep.set rfl
    have kab : Keep (· = h20.size + 1) h hb := (k27.mono fun _ _ h => h.elim).trans kb
    have qb := kab.1
    have abr := a27.keep kb (show ¬ h.size = h20.size + 1 by omega)
    have bn := i2.keep kab (show ¬ H.size = h20.size + 1 by omega)
    have bw := i3.keep kab (show ¬ h15.size = h20.size + 1 by omega)
    have bbuf := i4.keep kab (fun b hb => by omega)
    have bi := i5.keep kab (show ¬ h17.size = h20.size + 1 by omega)
    have bh := i1.keep kab fun b hb e => by have := (hh20.lt b hb).2; omega
    have braw := hraw.keep kab fun b hb => by omega
    have b6 : Keep (fun _ => False) H hb := i6.fresh kab fun b hb => by have := k020.1; omega
    have f1 := abr.ld (i := 1) (v := vb) rfl
    have f2 := abr.ld (i := 2) (v := va) rfl
    have fn := bn.ld (i := 0) rfl
    simp only [fld_ptr, Nat.zero_add, f1, f2, fn, Mpu_some]
    refine call_i (c_at braw.2.1 (by have := braw.2.2.2.1; omega)) ?_
    rintro u1 h29 ⟨hu1, k29⟩
    have f29 := (abr.keep k29 id).ld (i := 2) (v := va) rfl
    have fn29 := (bn.keep k29 id).ld (i := 0) rfl
    simp only [f29, fn29, Mre_cons, Mre_nil, true_and]
    refine call_i (c_at (braw.2.2.1.keep k29 fun _ _ => id) (by have := braw.2.2.2.2; omega)) ?_
    rintro u2 h30 ⟨hu2, k30⟩
    have k2930 := k29.trans k30
    have gr := abr.keep k2930 id
    have gw := bw.keep k2930 id
    have gbuf := bbuf.keep k2930 fun _ _ => id
    have gi := bi.keep k2930 id
    have gh := bh.keep k2930 fun _ _ => id
    have gn := bn.keep k2930 id
    have graw := braw.keep k2930 fun _ _ => id
    have g6 := b6.trans k2930
    have hjl := idxTo_len (n := n) (rs := rs) (j := j)
    have hfew := hh.few
    have q30 := k2930.1
    refine J5_i (fun h32 => HistAt p Fr Fc Fi h32 rs (chL rs) ∧ At h32 H.size [str n] ∧ (∃ w, At h32 h15.size [w] ∧ BufE 1 (h20.size + 2 ≤ ·) h32 w (ints (idxTo n rs (j + 1)))) ∧ At h32 h17.size [.int .i64 (j : Nat)] ∧ Keep (fun b => b = h15.size ∨ h20.size + 2 ≤ b) hb h32) (fun k31 hk31 => ?_) ?_
    · have no : chg n a = false → ∀ x y z t u : Value, k31 x y z t u h30 := fun hc x y z t u => hk31 _ _ _ _ _ _ ⟨gh, gn, ⟨w, gw, by rw [idxTo_succ hg, if_neg (by rw [hc]; decide)]; exact gbuf⟩, gi, k2930.mono fun _ _ h => h.elim⟩
      have yes : chg n a = true → ∀ x y z t u : Value, Mpu (ld1 h30 (Ptr h15.size 0)) fun t77 => Mpu (ld1 h30 (Ptr h17.size 0)) fun t78 =>
          Mnews h30 T_int 1 (bslV prg T_int 1 [(0, t78)]) fun t79 h43 => Mapp T_int 1 8 h43 t77 t79 fun t80 h44 => Mwr (st1 h44 (Ptr h15.size 0) t80) fun h45 => k31 x y z t u h45 := by
        intro hc x y z t u
        rw [gw.ld (i := 0) rfl, Mpu_some, gi.ld (i := 0) rfl, Mpu_some]
        refine app_int gbuf (by omega) (fun b hb => by omega) fun w' h44 hw' k44 => ?_
        have w44 := gw.keep k44 (show ¬ h20.size + 2 ≤ h15.size by omega)
        obtain ⟨h45, st45, w45, k45⟩ := w44.st1 (i := 0) (v := w') (by simp) hw'.sl.oneC
        rw [st45, Mwr_some]
        have hltb : ∀ b, HB p Fr Fc Fi b → b < h15.size := fun b hb => (klt b hb).2
        refine hk31 _ _ _ _ _ _ ⟨(gh.keep k44 fun b hb h => by have := hltb b hb; omega).keep k45 fun b hb h => by have := hltb b hb; omega, (gn.keep k44 (by omega)).keep k45 (by omega), ⟨w', w45, ?_⟩, (gi.keep k44 (by omega)).keep k45 (by omega), ?_⟩
        · rw [idxTo_succ hg, if_pos hc]
          exact hw'.keep k45 fun b hb e => by omega
        · exact (k2930.mono fun _ _ h => h.elim).trans ((k44.mono fun b _ h => .inr h).trans (k45.mono fun b _ h => .inl h))
      rcases hu1 with ⟨rfl, e1⟩ | ⟨i, y, rfl, hil, hiy, e1⟩ <;> rcases hu2 with ⟨rfl, e2⟩ | ⟨i', y', rfl, hil', hiy', e2⟩
      · have hc : chg n a = false := by unfold chg; rw [e1, e2]; simp
        simp only [ge_neg, ge_zero, bne_self_eq_false, ne_bool', unV_not, Bool.not_true, Bool.not_false, Mif_bool, Mif_undef, pickV_bool, Mcd_bool, Mpu_some, if_true, if_false, Bool.false_eq_true, Bool.true_eq_false, decide_true, decide_false, reduceCtorEq, J1_eq, ex20, ex21, ex30, ex31, ex32, Mre_ok, Mre_nil]
        exact no hc _ _ _ _ _
      · have hc : chg n a = true := by unfold chg; rw [e1, e2]; simp
        simp only [ge_neg, ge_zero, ne_bool', Bool.bne_true, unV_not, Bool.not_true, Bool.not_false, Mif_bool, Mif_undef, pickV_bool, Mcd_bool, Mpu_some, if_true, if_false, Bool.false_eq_true, Bool.true_eq_false, decide_true, decide_false, reduceCtorEq, J1_eq, ex20, ex21, ex30, ex31, ex32, Mre_ok, Mre_nil]
        exact yes hc _ _ _ _ _
      · have hc : chg n a = true := by unfold chg; rw [e1, e2]; simp
        simp only [ge_neg, ge_zero, ne_bool', Bool.bne_false, unV_not, Bool.not_true, Bool.not_false, Mif_bool, Mif_undef, pickV_bool, Mcd_bool, Mpu_some, if_true, if_false, Bool.false_eq_true, Bool.true_eq_false, decide_true, decide_false, reduceCtorEq, J1_eq, ex20, ex21, ex30, ex31, ex32, Mre_ok, Mre_nil]
        exact yes hc _ _ _ _ _
      · obtain ⟨wy, b1, o1, hix1, hpt1, _⟩ := graw.2.1.at hiy
        obtain ⟨wy', b2, o2, hix2, hpt2, _⟩ := graw.2.2.1.at hiy'
        have f1' := gr.ld (i := 1) (v := vb) rfl
        have f2' := gr.ld (i := 2) (v := va) rfl
        have hne := neItem wy wy'
        have hcg : chg n a = !decide (y = y') := by unfold chg; rw [e1, e2, Bool.eq_iff_iff]; simp
        cases hyy : decide (y = y') <;> rw [hyy] at hne hcg <;> simp only [ge_zero, bne_self_eq_false, ne_bool', fld_ptr, Nat.zero_add, f1', f2', hix1, hix2, hpt1.agg (itemC_len wy), hpt2.agg (itemC_len wy'), hne, unV_not, Bool.not_true, Bool.not_false, Mif_bool, Mif_undef, pickV_bool, Mcd_bool, Mpu_some, if_true, if_false, Bool.false_eq_true, Bool.true_eq_false, decide_true, decide_false, reduceCtorEq, J1_eq, ex20, ex21, ex30, ex31, ex32, Mre_ok, Mre_nil]
        · exact yes hcg _ _ _ _ _
        · exact no hcg _ _ _ _ _
    · rintro _ _ _ _ _ h32 ⟨j1, j2, ⟨w', j3, j4⟩, j5, j6⟩
      have hadd : binV .no .add (.int .i64 (j : Nat)) (.int .i64 1) = some (.int .i64 ((j + 1 : Nat) : Int)) := add_one (by omega)
      obtain ⟨h46, st46, i46, k46⟩ := j5.st1 (i := 0) (v := .int .i64 ((j + 1 : Nat) : Int)) (by simp) rfl
      rw [j5.ld (i := 0) rfl, Mpu_some, hadd, Mpu_some, st46, Mwr_some]
      have hltb : ∀ b, HB p Fr Fc Fi b → b < h15.size := fun b hb => (klt b hb).2
      have kbb : Keep (fun b => b = h15.size ∨ b = h17.size ∨ h20.size + 2 ≤ b) hb h46 := (j6.mono fun b _ h => h.elim .inl fun h => .inr (.inr h)).trans (k46.mono fun b _ h => .inr (.inl h))
      have q46 := kbb.1
      refine hN _ ((kb0.mono fun _ _ h => h.elim).trans kbb) ⟨j1.keep k46 fun b hb h => by have := hltb b hb; omega, j2.keep k46 (by omega), ⟨w', j3.keep k46 (by omega), j4.keep k46 fun b hb e => by omega⟩, i46, b6.fresh kbb fun b hb => by rcases hb with h | h | h <;> omega, by omega⟩
  · rintro h25 hsz ⟨i1, i2, ⟨w, i3, i4⟩, i5, i6, i7⟩
    refine .inl ⟨rfl, ?_⟩
    rw [i2.ld (i := 0) rfl, Mpu_some]
    refine call_i (c_Find i1 hok (hT.keep i6 fun _ h => h.elim)) ?_
    rintro g h47 ⟨hgb, k47⟩
    have k047 := i6.trans k47
    have w47 := i3.keep k47 id
    have b47 := i4.keep k47 fun _ _ => id
    have lg := hgb.sl.len
    have lw := b47.sl.len
    have il : ∀ m : List Nat, (ints m).length = m.length := fun m => by simp [ints, rows1]
    rw [il] at lg lw
    have hjl := idxTo_len (n := n) (rs := rs) (j := rs.length)
    have hfew := hh.few
    have ne0 : ∀ m : Nat, binV .no .neq (.int .i64 (m : Nat)) (.int .i64 (m : Nat)) = some (.bool false) := fun m => by rw [binV_int]; simp [intV]
    simp only [lg, w47.ld (i := 0) rfl, lw, ne0, unV_not, Bool.not_true, Bool.not_false, Mif_bool, Mif_undef, pickV_bool, Mcd_bool, Mpu_some, if_true, if_false, Bool.false_eq_true, Bool.true_eq_false, decide_true, decide_false, reduceCtorEq, ex20, ex21, ex30, ex31, ex32, Mre_ok, Mre_nil]
    generalize idxTo n rs rs.length = L at *
    refine J1_i (fun _ h => Keep (fun _ => False) h47 h) (fun k49 hk49 => ?_) ?_
    · refine L1_i (fun u h => ∃ i : Nat, i ≤ L.length ∧ u = .int .i64 (i : Nat) ∧ h47 = h) (fun u _ => match u with | .int _ t => L.length - t.toNat | _ => 0) ⟨0, Nat.zero_le _, rfl, rfl⟩ ?_
      rintro _ _ ⟨i, hi, rfl, rfl⟩ k hk
      have elt : binV .no .lss (.int .i64 (i : Nat)) (.int .i64 (L.length : Nat)) = some (.bool (decide (i < L.length))) := by
        rw [binV_int]; simp only [intV]; congr 2; rw [decide_eq_decide]; omega
      rw [elt, Mpu_some, Mcd_bool]
      by_cases hlt : i < L.length
      · rw [if_pos (by simpa using hlt)]
        have hg : L[i]? = some L[i] := List.getElem?_eq_getElem hlt
        generalize L[i] = m at hg
        have hgi : (ints L)[i]? = some [Value.int .i64 (m : Nat)] := by simp [ints, rows1, hg]
        obtain ⟨b1, o1, hx1, hp1, _⟩ := hgb.sl.at hgi
        obtain ⟨b2, o2, hx2, hp2, _⟩ := b47.sl.at hgi
        have l1 := hp1.cell0 (v := .int .i64 (m : Nat)) rfl
        have l2 := hp2.cell0 (v := .int .i64 (m : Nat)) rfl
        have hadd : binV .no .add (.int .i64 (i : Nat)) (.int .i64 1) = some (.int .i64 ((i + 1 : Nat) : Int)) := add_one (by omega)
        simp only [hx1, hx2, l1, l2, w47.ld (i := 0) rfl, ne0, hadd, unV_not, Bool.not_true, Bool.not_false, Mif_bool, Mif_undef, pickV_bool, Mcd_bool, Mpu_some, if_true, if_false, Bool.false_eq_true, Bool.true_eq_false, decide_true, decide_false, reduceCtorEq, ex20, ex21, ex30, ex31, ex32, Mre_ok, Mre_nil]
        exact hk _ _ ⟨i + 1, by omega, rfl, rfl⟩ (by show L.length - (i + 1) < L.length - i; omega)
      · rw [if_neg (by simpa using hlt)]
        exact hk49 _ _ Keep.refl
    rintro _ h50 k50
    exact awake22_end hS hT (k047.trans k50) fun h' k => mcl_keep k done
end Go.Proofs.YtmhfanpijdgkjaaDoor
