/- JOINED: V115 V116 -/
import Derived.Test.YtdmciknajaedmaaDoorG7
set_option linter.unusedSimpArgs false
set_option linter.unusedVariables false
/- The walk of AnchorCrashes. -/
namespace Go.Proofs.YtdmciknajaedmaaDoor
open Go.X Go.X.Diff
set_option maxRecDepth 100000

/-- a copy, of a colour of its own -/
theorem copy1 {col : Nat → Nat} {j jk hq : Nat} {H : Heap} {rs : List RecA} {ch : List (List UInt8)} (hh : HistC col j hq H rs ch) :
    HCalls prg f_history_History_Copy [Ptr hq 0] H fun u H' => ∃ col' pk, u = Ptr pk 0 ∧ (∀ b, b < H.size → col' b = col b) ∧ Keep (fun _ => False) H H' ∧ HistC col' jk pk H' rs ch := by
  obtain ⟨Fr, Fc, Fi, hat, c1, c2, c3⟩ := hh
  refine (c_HistCopy hat).mono fun u H' => ?_
  rintro ⟨kk, pk, Fr', Fc', rfl, npk, hat', hnew⟩
  refine ⟨fun b => if b < H.size then col b else jk, pk, rfl, fun b hb => if_pos hb, kk, Fr', Fc', Fi, hat', ?_, fun b hb => ?_, fun b hb => ?_⟩
  · exact if_neg (by omega)
  · exact if_neg (by have := hnew b hb; omega)
  · show (if b < H.size then _ else _) = _
    rw [if_pos (hat.lt b (.inr (.inr (.inr hb)))).2]
    exact c3 b hb

theorem set_now {rs : List RecA} (hl : rs.length ≤ 4000) (top : List UInt8) : setE (begR (markR rs) top) rs.length (topF (chL rs)) = 0 ∧ setR (begR (markR rs) top) rs.length (topF (chL rs)) = markR rs := by
  have e : begR (markR rs) top = ⟨rs.length, topF (chL rs), IntKind.i64.wrap ((rs.length : Int) + 1), top, true⟩ := rfl
  rw [e]
  have hm : isM ⟨rs.length, topF (chL rs), IntKind.i64.wrap ((rs.length : Int) + 1), top, true⟩ rs.length (topF (chL rs)) = true := by simp [isM]
  exact ⟨by simp [setE, hm], by simp only [setR, hm, if_true]; rfl⟩
theorem set_next {rs : List RecA} {a : RecA} (hl : rs.length ≤ 4000) : setE (begR (markR rs) (topF (chL (rs ++ [a])))) (rs ++ [a]).length (topF (chL (rs ++ [a]))) = 0 ∧ setR (begR (markR rs) (topF (chL (rs ++ [a])))) (rs ++ [a]).length (topF (chL (rs ++ [a]))) = markR (rs ++ [a]) := by
  generalize ht : topF (chL (rs ++ [a])) = top
  have e : begR (markR rs) top = ⟨rs.length, topF (chL rs), IntKind.i64.wrap ((rs.length : Int) + 1), top, true⟩ := rfl
  have ew : IntKind.i64.wrap ((rs.length : Int) + 1) = (((rs ++ [a]).length : Nat) : Int) := by
    have : (((rs ++ [a]).length : Nat) : Int) = (rs.length : Int) + 1 := by simp
    rw [this, wrap_id] <;> omega
  rw [e, ew]
  have hne : ¬ ((((rs ++ [a]).length : Nat) : Int) = (rs.length : Int)) := by
    have : (((rs ++ [a]).length : Nat) : Int) = (rs.length : Int) + 1 := by simp
    omega
  have hm : isM ⟨rs.length, topF (chL rs), ((rs ++ [a]).length : Nat), top, true⟩ (rs ++ [a]).length top = false := by
    unfold isM
    rw [decide_eq_false hne, Bool.false_and]
  have hn : isN ⟨rs.length, topF (chL rs), ((rs ++ [a]).length : Nat), top, true⟩ (rs ++ [a]).length top = true := by simp [isN]
  refine ⟨by simp only [setE, hm, hn]; rfl, ?_⟩
  simp only [setR, hm, hn, if_true, Bool.false_eq_true, if_false]
  unfold markR
  rw [ht]; rfl
theorem set_same {rs : List RecA} : setE (markR rs) rs.length (topF (chL rs)) = 0 ∧ setR (markR rs) rs.length (topF (chL rs)) = markR rs := by
  have hm : isM (markR rs) rs.length (topF (chL rs)) = true := by simp [isM, markR]
  exact ⟨by simp [setE, hm], rfl⟩

/-- the row of the records -/
theorem row3 {H h1 : Heap} {v : Value} {l : List (RecA × Value × Value)} {r : RecA × Value × Value} {q : Nat} {k4 : Value → Value → Value → Heap → Prop} (hv : Recs (· < H.size) H v l) (hl : l.length ≤ 1048576) (k1 : Keep (fun _ => False) H h1) (a1 : At h1 q (rawC r.1 r.2)) (hr : RawIn (· < H.size) H r.1 r.2)
    (hk : ∀ t h, SlE 36 (fun b => H.size ≤ b) h t ((l ++ [r]).map fun r => rawC r.1 r.2) → Keep (fun _ => False) h1 h → k4 t (.int .i64 ((l ++ [r]).length : Nat)) (.int .i64 0) h) :
    Mpu (ldN 36 h1 (Ptr q 0)) fun t30 =>
      (Mnews h1 T_history_Record 0 (bslV prg T_history_Record 0 []) fun t27 h5 =>
        Mre [(ldN 36 h5 (Ptr q 0), t30)] (
        (Mapp T_history_Record 36 96 h5 t27 v fun t29 h6 =>
          Mre [(ldN 36 h6 (Ptr q 0), t30)] (
          Mnews h6 T_history_Record 1 (bslV prg T_history_Record 1 [(0, t30)]) fun t31 h7 =>
          Mapp T_history_Record 36 96 h7 t29 t31 fun t32 h8 =>
          Mpu (lenV t32) fun t33 =>
          k4 t32 t33 (.int .i64 0) h8)) ∧
        (Mnews h5 T_history_Record 1 (bslV prg T_history_Record 1 [(0, t30)]) fun t31 h9 =>
          Mapp T_history_Record 36 96 h9 t27 v fun t29 h10 =>
          Mre [(ldN 36 h10 (Ptr q 0), t30)] (
          Mapp T_history_Record 36 96 h10 t29 t31 fun t32 h11 =>
          Mpu (lenV t32) fun t33 =>
          k4 t32 t33 (.int .i64 0) h11)))) ∧
      (Mnews h1 T_history_Record 1 (bslV prg T_history_Record 1 [(0, t30)]) fun t31 h12 =>
        Mnews h12 T_history_Record 0 (bslV prg T_history_Record 0 []) fun t27 h13 =>
        Mre [(ldN 36 h13 (Ptr q 0), t30)] (
        Mapp T_history_Record 36 96 h13 t27 v fun t29 h14 =>
        Mre [(ldN 36 h14 (Ptr q 0), t30)] (
        Mapp T_history_Record 36 96 h14 t29 t31 fun t32 h15 =>
        Mpu (lenV t32) fun t33 =>
        k4 t32 t33 (.int .i64 0) h15))) := by
  have hrl := rawC_len (x := r.2) hr.1
  have hone := rawC_one hr
  have L : ∀ {g}, Keep (fun _ => False) h1 g → ldN 36 g (Ptr q 0) = some (.agg (rawC r.1 r.2).toArray) := fun k => (a1.keep k id).ldN hrl
  have s1 := k1.1
  obtain ⟨z, hz, hzl⟩ := z_Record
  have hb1 : bslV prg T_history_Record 1 [(0, .agg (rawC r.1 r.2).toArray)] = some (rawC r.1 r.2).toArray := bsl_one c_Rec (by omega) (by omega) hz (by simp [hzl]) (by simp [hrl])
  have one : ∀ (g : Heap) (b : Nat), At g b (rawC r.1 r.2) → SlE 36 (fun _ => True) g (.slice (some ⟨b, 0, none⟩) 1 1) [rawC r.1 r.2] := fun g b a =>
    ⟨⟨_, 1, rfl, Nat.le_refl _, .inr ⟨b, 0, rfl, trivial, by simp only [List.flatten_cons, List.flatten_nil, List.append_nil]; exact a.pt⟩⟩, fun x hx => by simp at hx; subst hx; exact hrl, fun x hx => by simp at hx; subst hx; exact hone⟩
  have emp : ∀ (g : Heap) (b : Nat) (F : Nat → Prop), F b → (∃ T f, g[b]? = some (.cells #[] T f) ∧ f = (0, 0)) → BufE 36 F g (.slice (some ⟨b, 0, none⟩) 0 0) [] := fun g b F hF ⟨T, f, hb, hf⟩ => by
    subst hf
    exact .fresh (cs := []) ⟨b, rfl, hF, hb⟩ (Nat.le_refl _) (by simp) (fun _ _ => by simp [thaw]) (by simp) (fun x h => by cases h) (fun x h => by cases h)
  have fin : ∀ (t : Value) (g : Heap), BufE 36 (h1.size ≤ ·) g t ((l.map fun r => rawC r.1 r.2) ++ [rawC r.1 r.2]) → Keep (fun _ => False) h1 g → Mpu (lenV t) fun t33 => k4 t t33 (.int .i64 0) g := fun t g b kk => by
    have e : (l.map fun r => rawC r.1 r.2) ++ [rawC r.1 r.2] = (l ++ [r]).map fun r => rawC r.1 r.2 := by simp
    rw [e] at b
    have hln := b.sl.len
    rw [List.length_map] at hln
    rw [hln, Mpu_some]
    exact hk t g (b.sl.mono fun b hb => Nat.le_trans s1 hb) kk
  have hlen : ((l.map fun r => rawC r.1 r.2).length + [rawC r.1 r.2].length) * 96 ≤ 140737488355328 := by simp; omega
  have hlen0 : (([] : List (List Value)).length + (l.map fun r => rawC r.1 r.2).length) * 96 ≤ 140737488355328 := by simp; omega
  rw [L Keep.refl, Mpu_some, bslR0, hb1]
  refine ⟨?_, ?_⟩
  · rw [Mnews_some]
    generalize hH5 : h1.push (.cells #[] T_history_Record (0, 0)) = h5
    have k5 : Keep (fun _ => False) h1 h5 := by rw [← hH5]; exact Keep.push
    have n5 : h5[h1.size]? = some (.cells #[] T_history_Record (0, 0)) := by rw [← hH5]; exact push_new
    simp only [L k5, Mre_cons, Mre_nil, true_and, Mnews_some]
    refine ⟨?_, ?_⟩
    · refine BufE.app (xs := []) (emp h5 h1.size (h1.size ≤ ·) (Nat.le_refl _) ⟨_, _, n5, rfl⟩) (hv.keep (k1.trans k5) fun _ _ => id).1 (by omega) hlen0 k5.1 fun t29 h6 b6 k6 => ?_
      rw [List.nil_append] at b6
      have k06 : Keep (fun _ => False) h1 h6 := k5.fresh k6 fun b hb => hb
      simp only [L k06, true_and]
      generalize hH7 : h6.push (.cells (rawC r.1 r.2).toArray T_history_Record (0, 0)) = h7
      have k7 : Keep (fun _ => False) h6 h7 := by rw [← hH7]; exact Keep.push
      have n7 : At h7 h6.size (rawC r.1 r.2) := by rw [← hH7]; exact At.push
      have k07 := k06.trans k7
      refine BufE.app (b6.keep k7 fun _ _ => id) (one h7 h6.size n7) (by omega) hlen k07.1 fun t32 h8 b8 k8 => ?_
      exact fin _ _ b8 (k07.fresh k8 fun b hb => hb)
    · generalize hH9 : h5.push (.cells (rawC r.1 r.2).toArray T_history_Record (0, 0)) = h9
      have k9 : Keep (fun _ => False) h5 h9 := by rw [← hH9]; exact Keep.push
      have n9 : At h9 h5.size (rawC r.1 r.2) := by rw [← hH9]; exact At.push
      have k09 := k5.trans k9
      have s5 : h5.size = h1.size + 1 := by rw [← hH5]; simp
      refine BufE.app (F := fun b => h1.size ≤ b ∧ b ≠ h5.size) (xs := []) (emp h9 h1.size _ ⟨Nat.le_refl _, by omega⟩ ⟨_, _, k9.at n5 id, rfl⟩) (hv.keep (k1.trans k09) fun _ _ => id).1 (by omega) hlen0 ⟨k09.1, by have := n9.lt; omega⟩ fun t29 h10 b10 k10 => ?_
      rw [List.nil_append] at b10
      have k010 : Keep (fun _ => False) h1 h10 := k09.fresh k10 fun b hb => hb.1
      simp only [L k010, true_and]
      refine BufE.app (b10.mono fun b hb => hb.1) (one h10 h5.size (n9.keep k10 fun hb => hb.2 rfl)) (by omega) hlen k010.1 fun t32 h8 b8 k8 => ?_
      exact fin _ _ b8 (k010.fresh k8 fun b hb => hb)
  · rw [Mnews_some]
    generalize hH12 : h1.push (.cells (rawC r.1 r.2).toArray T_history_Record (0, 0)) = h12
    have k12 : Keep (fun _ => False) h1 h12 := by rw [← hH12]; exact Keep.push
    have n12 : At h12 h1.size (rawC r.1 r.2) := by rw [← hH12]; exact At.push
    have s12 : h12.size = h1.size + 1 := by rw [← hH12]; simp
    rw [Mnews_some]
    generalize hH13 : h12.push (.cells #[] T_history_Record (0, 0)) = h13
    have k13 : Keep (fun _ => False) h12 h13 := by rw [← hH13]; exact Keep.push
    have n13 : h13[h12.size]? = some (.cells #[] T_history_Record (0, 0)) := by rw [← hH13]; exact push_new
    have k013 := k12.trans k13
    simp only [L k013, Mre_cons, Mre_nil, true_and]
    refine BufE.app (F := fun b => h12.size ≤ b) (xs := []) (emp h13 h12.size _ (Nat.le_refl _) ⟨_, _, n13, rfl⟩) (hv.keep (k1.trans k013) fun _ _ => id).1 (by omega) hlen0 k13.1 fun t29 h14 b14 k14 => ?_
    rw [List.nil_append] at b14
    have k014 : Keep (fun _ => False) h1 h14 := k013.fresh k14 fun b hb => by omega
    simp only [L k014, true_and]
    refine BufE.app (b14.mono (G := (h1.size ≤ ·)) fun b hb => by omega) (one h14 h1.size ((n12.keep k13 id).keep k14 (by omega))) (by omega) hlen k014.1 fun t32 h8 b8 k8 => ?_
    exact fin _ _ b8 (k014.fresh k8 fun b hb => hb)
end Go.Proofs.YtdmciknajaedmaaDoor
/- The walk of AnchorCrashes: the law. -/
namespace Go.Proofs.YtdmciknajaedmaaDoor
open Go.X Go.X.Diff
set_option maxRecDepth 100000

theorem appB_eq {rs : List RecA} {a : RecA} (hl : rs.length ≤ 4000) : (if appOk rs a = true then (if rs.length = 4096 then (12 : Int) else 0) else 10) = if appB rs a then 0 else 10 := by
  unfold appB
  rw [if_neg (show ¬ rs.length = 4096 by omega), decide_eq_false (show ¬ rs.length = 4096 by omega)]
  cases appOk rs a <;> rfl
theorem nowF_mem {rs : List RecA} : nowF rs = [] ∨ ∃ a ∈ rs, nowF rs = a.aft := by
  unfold nowF
  cases h : rs.getLast? with
  | none => exact .inl rfl
  | some a => exact .inr ⟨a, List.mem_of_getLast? h, rfl⟩
theorem smallB_parts {a b c d : List Item} (h1 : smallB a b = true) (h2 : smallB c d = true) : smallB b d = true ∧ smallB [] d = true := by
  obtain ⟨x1, x2, x3, x4⟩ := smallB_spec h1
  obtain ⟨y1, y2, y3, y4⟩ := smallB_spec h2
  have mk : ∀ {p q : List Item}, (∀ x ∈ p, bigI x = false) → (∀ x ∈ q, bigI x = false) → p.length ≤ 20 → q.length ≤ 20 → smallB p q = true := fun hp hq lp lq => by
    unfold smallB
    simp only [Bool.and_eq_true, Bool.not_eq_true', List.any_eq_false, decide_eq_true_eq]
    exact ⟨⟨fun x hx => by simp [hp x hx], fun x hx => by simp [hq x hx]⟩, lp, lq⟩
  exact ⟨mk x2 y2 x4 y4, mk (fun x hx => by cases hx) y2 (by simp) y4⟩

def colK (n0 q0 p hq : Nat) : Nat → Nat := fun b => if b < n0 then 1 else if b = q0 then 4 else if b = p then 3 else if b = hq then 5 else 99
theorem c_AnchorCrashes {H : Heap} {v : Value} {l : List (RecA × Value × Value)} {a0 : RecA} {x0 : Value × Value} {how : Int} (hv : Recs (· < H.size) H v l) (hl : l.length ≤ 1048576) (hr0 : RawIn (· < H.size) H a0 x0) (hS : ShaT H) (hT : PowT H) :
    HCalls prg f_syngraphlaw23_AnchorCrashes [v, .agg (rawC a0 x0).toArray, .int .i64 how] H fun u H' => u = .bool true ∧ Keep (fun _ => False) H H' := by
  apply sh_syngraphlaw23_AnchorCrashes_calls
  unfold sh_syngraphlaw23_AnchorCrashes
  have hNG := hT.sz
  have hrl := rawC_len (x := x0) hr0.1
  rw [Cells_agg, Mnew_some]
  generalize hH1 : H.push (.cells (rawC a0 x0).toArray T_history_Record (0, 0)) = h1
  have k1 : Keep (fun _ => False) H h1 := by rw [← hH1]; exact Keep.push
  have a1 : At h1 H.size (rawC a0 x0) := by rw [← hH1]; exact At.push
  have p1 : (Value.pointer (some ⟨H.size, 0, none⟩)) = Ptr H.size 0 := rfl
  obtain ⟨wr, hwr⟩ : ∃ wr : Bool, (binV .no .rem (.int .i64 how) (.int .i64 2)).bind (fun t => binV .no .neq t (.int .i64 0)) = some (.bool wr) := ⟨_, rfl⟩
  obtain ⟨en, hen⟩ : ∃ en : Bool, ((binV .no .quo (.int .i64 how) (.int .i64 2)).bind fun t => binV .no .rem t (.int .i64 2)).bind (fun t => binV .no .neq t (.int .i64 0)) = some (.bool en) := ⟨_, rfl⟩
  have e1 : ∃ m, binV .no .rem (.int .i64 how) (.int .i64 2) = some (.int .i64 m) := ⟨_, rfl⟩
  obtain ⟨m1, e1⟩ := e1
  have e2 : ∃ m, binV .no .quo (.int .i64 how) (.int .i64 2) = some (.int .i64 m) := ⟨_, rfl⟩
  obtain ⟨m2, e2⟩ := e2
  have e3 : ∃ m, binV .no .rem (.int .i64 m2) (.int .i64 2) = some (.int .i64 m) := ⟨_, rfl⟩
  obtain ⟨m3, e3⟩ := e3
  rw [e1, Option.bind_some] at hwr
  rw [e2, Option.bind_some, e3, Option.bind_some] at hen
  rw [e1, Mpu_some, hwr, Mpu_some, e2, Mpu_some, e3, Mpu_some, hen, Mpu_some]
  clear e1 e2 e3 hwr hen
  have hall : ∀ r ∈ l ++ [(a0, x0)], RawIn (· < H.size) H r.1 r.2 := fun r hr => by
    rcases List.mem_append.1 hr with hr | hr
    · exact hv.2 r hr
    · simp at hr; subst hr; exact hr0
  refine J4_i (fun t _ _ _ h => SlE 69 (fun _ => True) h t (((l ++ [(a0, x0)]).map opOf).map opC) ∧ Keep (fun _ => False) h1 h) (fun k2 hk2 => ?_) ?_
  · refine J3_i (fun t n i h => n = .int .i64 ((l ++ [(a0, x0)]).length : Nat) ∧ i = .int .i64 0 ∧ SlE 36 (fun b => H.size ≤ b) h t ((l ++ [(a0, x0)]).map fun r => rawC r.1 r.2) ∧ Keep (fun _ => False) h1 h) (fun k4 hk4 => ?_) ?_
    · exact row3 (r := (a0, x0)) hv hl k1 a1 hr0 fun t h hs kk => hk4 _ _ _ _ ⟨rfl, rfl, hs, kk⟩
    · rintro t _ _ h16 ⟨rfl, rfl, hs, kk⟩
      exact ops_build hs hall (by simp; omega) (k1.trans kk) fun t u h hs' kh => hk2 _ _ _ _ _ ⟨hs'.mono fun _ _ => trivial, kk.trans kh⟩
  rintro t9 _ _ _ h3 ⟨s9, k3⟩
  have k03 := k1.trans k3
  have hops : Ops (fun _ => True) h3 t9 ((l ++ [(a0, x0)]).map opOf) := ⟨s9, fun o ho => by
    obtain ⟨r, hr, rfl⟩ := List.mem_map.1 ho
    exact ⟨rfl, RawIn.mono ((hall r hr).keep k03 fun _ _ => id) fun _ _ => trivial⟩⟩
  refine call_i (c_smallA hops (by simp; omega)) ?_
  rintro _ h23 ⟨rfl, k23⟩
  have k023 := k03.trans k23
  rw [unV_not, Mpu_some, Mcd_bool]
  cases hsm : smallA ((l ++ [(a0, x0)]).map opOf)
  · rw [Bool.not_false, if_pos rfl]
    refine call_i (c_awake23 (Nat.le_trans hNG k023.1)) ?_
    rintro _ h13 ⟨rfl, k13⟩
    exact ⟨rfl, k023.trans k13⟩
  rw [Bool.not_true, if_neg (by decide)]
  obtain ⟨hsl, ll⟩ : (∀ r ∈ l ++ [(a0, x0)], smallB r.1.bef r.1.aft = true) ∧ l.length ≤ 40 := by
    unfold smallA at hsm
    rw [Bool.and_eq_true, decide_eq_true_eq, List.length_map, List.length_append] at hsm
    exact ⟨fun r hr => opSm_small (o := opOf r) (List.all_eq_true.1 hsm.1 _ (List.mem_map.2 ⟨r, hr, rfl⟩)), by omega⟩
  have hs0 := hsl (a0, x0) (by simp)
  refine call_i c_RegNew ?_
  rintro _ h25 ⟨rfl, r25, k25⟩
  have s25 := lt_of r25.1.choose_spec
  have k025 := k023.trans k25
  refine call_i (c_HistNew (Nat.le_trans hNG k025.1)) ?_
  rintro _ h26 ⟨rfl, q26, k26⟩
  have s26 := (q26.lt h25.size (.inl rfl)).2
  have k026 := k025.trans k26
  have pn : ∀ x, binV .ptr .eql (Ptr x 0) (.pointer none) = some (.bool false) := fun x => rfl
  simp only [pn, unV_not, Bool.not_true, Bool.not_false, Mif_bool, Mif_undef, pickV_bool, Mcd_bool, Mpu_some, if_true, if_false, Bool.false_eq_true, Bool.true_eq_false, decide_true, decide_false, reduceCtorEq, ex20, ex21, ex30, ex31, ex32, Mre_ok, Mre_nil]
  refine J1_eq.2 ?_
  simp only [pn, unV_not, Bool.not_true, Bool.not_false, Mif_bool, Mif_undef, pickV_bool, Mcd_bool, Mpu_some, if_true, if_false, Bool.false_eq_true, Bool.true_eq_false, decide_true, decide_false, reduceCtorEq, ex20, ex21, ex30, ex31, ex32, Mre_ok, Mre_nil]
  have s1 := a1.lt
  have s3 := k3.1
  have s23 := k23.1
  let col := colK H.size H.size h23.size h25.size
  have hc1 : ∀ b, b < H.size → col b = 1 := fun b hb => if_pos hb
  have hc4 : col H.size = 4 := by show (if H.size < H.size then _ else _) = _; rw [if_neg (Nat.lt_irrefl _), if_pos rfl]
  have hcp : col h23.size = 3 := by show (if h23.size < H.size then _ else _) = _; rw [if_neg (by omega), if_neg (by omega), if_pos rfl]
  have hcq : col h25.size = 5 := by show (if h25.size < H.size then _ else _) = _; rw [if_neg (by omega), if_neg (by omega), if_neg (by omega), if_pos rfl]
  have R0 : RegC col 3 h23.size h26 (markR []) := ⟨r25.keep k26 id, hcp⟩
  have Q0 : HistC col 5 h25.size h26 [] (chL []) := hist0C q26 hcq
  have A0 : At h26 H.size (rawC a0 x0) := (((a1.keep k3 id).keep k23 id).keep k25 id).keep k26 id
  clear_value col
  have g0 : Grown [] := ⟨by simp, fun i a h => by simp at h⟩
  have n0 : binV .no .neq (.int .i64 0) (.int .i64 0) = some (.bool false) := by rw [binV_int]; rfl
  refine J1_i (fun _ h => ∃ col rs, rs.length ≤ 40 ∧ RegC col 3 h23.size h (markR rs) ∧ HistC col 5 h25.size h rs (chL rs) ∧ At h H.size (rawC a0 x0) ∧ col H.size = 4 ∧ Grown rs ∧ (∀ a ∈ rs, smallB a.bef a.aft = true) ∧ (∀ b, b < H.size → col b = 1) ∧ Keep (fun _ => False) H h) (fun k29 hk29 => ?_) ?_
  · rw [hv.len, Mpu_some]
    refine L1_i (fun u h => ∃ (i : Nat) (col : Nat → Nat) (rs : List RecA), i ≤ l.length ∧ u = .int .i64 (i : Nat) ∧ rs.length ≤ i ∧ RegC col 3 h23.size h (markR rs) ∧ HistC col 5 h25.size h rs (chL rs) ∧ At h H.size (rawC a0 x0) ∧ col H.size = 4 ∧ Grown rs ∧ (∀ a ∈ rs, smallB a.bef a.aft = true) ∧ (∀ b, b < H.size → col b = 1) ∧ Keep (fun _ => False) H h)
      (fun u _ => match u with | .int _ t => l.length - t.toNat | _ => 0) ⟨0, col, [], Nat.zero_le _, rfl, Nat.le_refl _, R0, Q0, A0, hc4, g0, fun a h => (by cases h), hc1, k026⟩ ?_
    clear R0 Q0 A0 hc1 hcp hcq hc4
    clear col
    rintro _ h ⟨i, col, rs, hi, rfl, hri, hr, hh, ha, hc4, g, hsr, inp, kh⟩ k hk'
    have elt : binV .no .lss (.int .i64 (i : Nat)) (.int .i64 (l.length : Nat)) = some (.bool (decide (i < l.length))) := by
      rw [binV_int]; simp only [intV]; congr 2; rw [decide_eq_decide]; omega
    rw [elt, Mpu_some, Mcd_bool]
    by_cases hlt : i < l.length
    rotate_left
    · rw [if_neg (by simpa using hlt)]
      exact hk29 _ _ ⟨col, rs, by omega, hr, hh, ha, hc4, g, hsr, inp, kh⟩
    rw [if_pos (by simpa using hlt)]
    have hg : l[i]? = some l[i] := List.getElem?_eq_getElem hlt
    have hsm := hsl l[i] (List.mem_append_left _ (List.getElem_mem _))
    generalize l[i] = r at hg hsm
    refine J0_i (fun h => ∃ (col : Nat → Nat) (rs : List RecA), rs.length ≤ i + 1 ∧ RegC col 3 h23.size h (markR rs) ∧ HistC col 5 h25.size h rs (chL rs) ∧ At h H.size (rawC a0 x0) ∧ col H.size = 4 ∧ Grown rs ∧ (∀ a ∈ rs, smallB a.bef a.aft = true) ∧ (∀ b, b < H.size → col b = 1) ∧ Keep (fun _ => False) H h) (fun k33 hk33 => ?_) ?_
    rotate_left
    · rintro h34 ⟨col, rs, y1, y2⟩
      rw [add1M (by omega), Mpu_some]
      exact hk' _ _ ⟨i + 1, col, rs, hlt, rfl, y1, y2⟩ (by show l.length - (i + 1) < l.length - i; omega)
    obtain ⟨hraw, b, o, hix, hpt, hpb⟩ := (hv.keep kh fun _ _ => id).at hg
    have hrl := rawC_len (x := r.2) hraw.1
    rw [hix, Mpu_some, hpt.agg hrl, Mpu_some]
    refine new_rec hrl (rawC_one hraw) fun h36 _ a36 k36 => ?_
    have m36 : Mv col (paint h.size 12 col) (fun _ => False) h h36 := ⟨k36.mono fun _ _ h => h.elim, fun b hb => paint_old hb⟩
    have c36 : paint h.size 12 col h.size = 12 := paint_new (Nat.le_refl _)
    have hr36 := hr.mv m36 id
    have hh36 := hh.mv m36 id id
    have ha36 := m36.cell ha id
    have hc436 : paint h.size 12 col H.size = 4 := (m36.same _ ha.lt).trans hc4
    have inp36 : ∀ b, b < H.size → paint h.size 12 col b = 1 := fun b hb => (paint_old (Nat.lt_of_lt_of_le hb kh.1)).trans (inp b hb)
    have kH36 := kh.trans k36
    have hraw36 := hraw.keep k36 fun _ _ => id
    generalize paint h.size 12 col = col1 at *
    clear hr hh ha hc4 inp m36
    refine call_i (copy1 (jk := 7) hh36) ?_
    rintro _ h37 ⟨col2, pc, rfl, hold, k37, hcp37⟩
    have m37 : Mv col1 col2 (fun _ => False) h36 h37 := ⟨k37.mono fun _ _ h => h.elim, hold⟩
    have hr37 := hr36.mv m37 id
    have hh37 := hh36.mv m37 id id
    have ha37 := m37.cell ha36 id
    have hc437 := (m37.same _ ha36.lt).trans hc436
    have inp37 : ∀ b, b < H.size → col2 b = 1 := fun b hb => (hold b (Nat.lt_of_lt_of_le hb kH36.1)).trans (inp36 b hb)
    have kH37 := kH36.trans k37
    have a37 := m37.cell a36 id
    have c37 := (m37.same _ a36.lt).trans c36
    have hraw37 := hraw36.keep k37 fun _ _ => id
    clear hr36 hh36 ha36 hc436 inp36 m37 hold c36
    rw [a37.ldN hrl, Mpu_some]
    refine call_i (c_AppendC hcp37 rfl kH37 inp37 (by omega) hS hT hraw37 hsm) ?_
    rintro _ h38 ⟨rfl, col3, m38, hcp38⟩
    rw [appRs_ch] at hcp38
    have hr38 := hr37.mv m38 (by omega)
    have hh38 := hh37.mv m38 (by omega) (by omega)
    have ha38 := m38.cell ha37 (by rw [hc437]; omega)
    have hc438 := (m38.same _ ha37.lt).trans hc437
    have inp38 : ∀ b, b < H.size → col3 b = 1 := fun b hb => (m38.same b (Nat.lt_of_lt_of_le hb kH37.1)).trans (inp37 b hb)
    have kH38 := m38.keep0 (by omega) kH37 inp37
    have a38 := m38.cell a37 (by rw [c37]; omega)
    have c38 := (m38.same _ a37.lt).trans c37
    have hraw38 : RawIn (· < H.size) h38 r.1 r.2 := (hv.2 r (List.mem_of_getElem? hg)).keep kH38 fun _ _ => id
    rw [appB_eq (by omega)]
    have ec : binV .no .neq (.int .i64 (if appB rs r.1 = true then 0 else 10)) (.int .i64 0) = some (.bool (!appB rs r.1)) := by
      rw [binV_int]; simp only [intV]
      cases appB rs r.1 <;> rfl
    rw [ec, Mpu_some, Mcd_bool]
    cases happ : appB rs r.1
    · rw [Bool.not_false, if_pos rfl]
      exact hk33 _ ⟨col3, rs, by omega, hr38, hh38, ha38, hc438, g, hsr, inp38, kH38⟩
    rw [Bool.not_true, if_neg (by decide)]
    obtain ⟨Fr, Fc, Fi, hat, _⟩ := id hcp38
    have hms := mark_step (rs := rs) (a := r.1) (by omega) happ
    refine call_i (c_HistTop hat) ?_
    rintro _ h39 ⟨rfl, k39⟩
    refine call_i (c_Begin (hr38.1.keep k39 id) (topF_len hat.c32)) ?_
    rintro _ h40 ⟨rfl, r40, k40⟩
    have eb : (markR rs).busy = false := rfl
    have m40 : Mv col3 col3 (fun k => k = 3) h38 h40 := (Mv.pure k39 (col := col3) (K := fun k => k = 3)).trans (Mv.at k40 hr38.2)
    have hh40 := hh38.mv m40 (by omega) (by omega)
    have ha40 := m40.cell ha38 (by rw [hc438]; omega)
    have a40 := m40.cell a38 (by rw [c38]; omega)
    have kH40 := m40.keep0 (by omega) kH38 inp38
    have rr40 : RegC col3 3 h23.size h40 (begR (markR rs) (topF (chL (appRs rs r.1)))) := ⟨r40, hr38.2⟩
    simp only [eb, n0, unV_not, Bool.not_true, Bool.not_false, Mif_bool, Mif_undef, pickV_bool, Mcd_bool, Mpu_some, if_true, if_false, Bool.false_eq_true, Bool.true_eq_false, decide_true, decide_false, reduceCtorEq, ex20, ex21, ex30, ex31, ex32, Mre_ok, Mre_nil]
    refine J1_eq.2 ?_
    rw [a40.ldN hrl, Mpu_some]
    refine call_i (c_AppendC hh40 rfl kH40 inp38 (by omega) hS hT (hraw38.keep (Keep.mono (S := fun b => H.size ≤ b) ⟨m40.keep.1, fun i hi hn => by rw [kH40.2 i (by omega) id, kH38.2 i (by omega) id]⟩ fun b _ h => h) fun b hb hn => by omega) hsm) ?_
    rintro _ h42 ⟨rfl, col4, m42, hh42⟩
    rw [appRs_ch] at hh42
    rw [appB_eq (by omega), happ]
    have hr42 := rr40.mv m42 (by omega)
    have ha42 := m42.cell ha40 (by rw [hc438]; omega)
    have hc442 := (m42.same _ ha40.lt).trans hc438
    have inp42 : ∀ b, b < H.size → col4 b = 1 := fun b hb => (m42.same b (Nat.lt_of_lt_of_le hb kH40.1)).trans (inp38 b hb)
    have kH42 := m42.keep0 (by omega) kH40 inp38
    simp only [n0, unV_not, Bool.not_true, Bool.not_false, Mif_bool, Mif_undef, pickV_bool, Mcd_bool, Mpu_some, if_true, if_false, Bool.false_eq_true, Bool.true_eq_false, decide_true, decide_false, reduceCtorEq, ex20, ex21, ex30, ex31, ex32, Mre_ok, Mre_nil]
    refine J1_eq.2 ?_
    refine call_i (c_End hr42.1) ?_
    rintro _ h45 ⟨rfl, r45, k45⟩
    rw [hms] at r45
    have eb2 : (begR (markR rs) (topF (chL (appRs rs r.1)))).busy = true := rfl
    have m45 : Mv col4 col4 (fun k => k = 3) h42 h45 := Mv.at k45 hr42.2
    have hh45 := hh42.mv m45 (by omega) (by omega)
    have ha45 := m45.cell ha42 (by rw [hc442]; omega)
    have kH45 := m45.keep0 (by omega) kH42 inp42
    simp only [eb2, n0, unV_not, Bool.not_true, Bool.not_false, Mif_bool, Mif_undef, pickV_bool, Mcd_bool, Mpu_some, if_true, if_false, Bool.false_eq_true, Bool.true_eq_false, decide_true, decide_false, reduceCtorEq, ex20, ex21, ex30, ex31, ex32, Mre_ok, Mre_nil]
    refine J1_eq.2 ?_
    obtain ⟨Gr, Gc, Gi, hat2, _⟩ := id hh45
    refine call_i (c_AuditH r45 hat2) ?_
    rintro _ h48 ⟨rfl, k48⟩
    have i1 : isM (markR (appRs rs r.1)) (appRs rs r.1).length (topF (chL (appRs rs r.1))) = true := by simp [isM, markR]
    simp only [i1, n0, unV_not, Bool.not_true, Bool.not_false, Mif_bool, Mif_undef, pickV_bool, Mcd_bool, Mpu_some, if_true, if_false, Bool.false_eq_true, Bool.true_eq_false, decide_true, decide_false, reduceCtorEq, ex20, ex21, ex30, ex31, ex32, Mre_ok, Mre_nil]
    refine hk33 _ ⟨col4, appRs rs r.1, by have := appRs_len (rs := rs) (a := r.1); omega, RegC.pure ⟨r45, hr42.2⟩ k48, hh45.pure k48, ha45.keep k48 id, hc442, appRs_grown g (rawIn_wf hraw), fun a ha => ?_, inp42, kH45.trans k48⟩
    have hin : a ∈ rs ++ [r.1] := by
      unfold appRs at ha
      rw [happ] at ha
      exact ha
    rcases List.mem_append.1 hin with hin | hin
    · exact hsr a hin
    · simp at hin; subst hin; exact hsm
  clear R0 Q0 A0 hc1 hcp hcq hc4
  clear col
  rintro _ h30 ⟨col, rs, hrl40, hr, hh, ha, hc4, g, hsr, inp, kH30⟩
  obtain ⟨Fr, Fc, Fi, hat, _⟩ := id hh
  refine call_i (c_HistNow hat) ?_
  rintro t92 h50 ⟨hnow, k50⟩
  have m50 : Mv col (paint h30.size 1 col) (fun _ => False) h30 h50 := ⟨k50.mono fun _ _ h => h.elim, fun b hb => paint_old hb⟩
  have n50 : ∀ b, New h30 h50 b → b < h50.size ∧ paint h30.size 1 col b = 1 := fun b hb => ⟨hb.2, paint_new hb.1⟩
  have hr50 := hr.mv m50 id
  have hh50 := hh.mv m50 id id
  have ha50 := m50.cell ha id
  have hc450 := (m50.same _ ha.lt).trans hc4
  have inp50 : ∀ b, b < H.size → paint h30.size 1 col b = 1 := fun b hb => (paint_old (Nat.lt_of_lt_of_le hb kH30.1)).trans (inp b hb)
  have kH50 := kH30.trans k50
  generalize paint h30.size 1 col = col1 at *
  clear hr hh ha hc4 inp m50
  have f1 : fld 1 (Ptr H.size 0) = some (Ptr H.size 1) := rfl
  obtain ⟨h51, st, ha51, k51⟩ := ha50.st1 (i := 1) (v := t92) (by omega) hnow.1.oneC
  have eset : (rawC a0 x0).set 1 t92 = rawC { a0 with bef := nowF rs } (t92, x0.2) := rfl
  rw [eset] at ha51
  have m51 : Mv col1 col1 (fun k => k = 4) h50 h51 := Mv.at k51 hc450
  have hr51 := hr50.mv m51 (by omega)
  have hh51 := hh50.mv m51 (by omega) (by omega)
  have kH51 := m51.keep0 (by omega) kH50 inp50
  have hsz51 := k51.1
  have hneH : ∀ b, New h30 h50 b → b ≠ H.size := fun b hb e => by have := hb.1; have := kH30.1; have := ha50.lt; have := (n50 b hb).2; rw [e, hc450] at this; omega
  have hraw51 : RawIn (fun b => b < H.size ∨ New h30 h50 b) h51 { a0 with bef := nowF rs } (t92, x0.2) := by
    have hnl : (nowF rs).length ≤ 20 := by
      rcases nowF_mem (rs := rs) with e | ⟨a, ha, e⟩
      · rw [e]; simp
      · rw [e]; exact (smallB_spec (hsr a ha)).2.2.2
    refine ⟨hr0.1, (hnow.keep k51 fun b hb e => hneH b hb e).mono fun b hb => .inr hb, (hr0.2.2.1.keep kH51 fun _ _ => id).mono fun b hb => .inl hb, by show (nowF rs).length ≤ _; omega, hr0.2.2.2.2⟩
  have hs51 : smallB (nowF rs) a0.aft = true := by
    rcases nowF_mem (rs := rs) with e | ⟨a, ha, e⟩
    · rw [e]; exact (smallB_parts hs0 hs0).2
    · rw [e]; exact (smallB_parts (hsr a ha) hs0).1
  have hP51 : ∀ b, (b < H.size ∨ New h30 h50 b) → b < h51.size ∧ col1 b = 1 := fun b hb => by
    rcases hb with hb | hb
    · exact ⟨Nat.lt_of_lt_of_le hb kH51.1, inp50 b hb⟩
    · exact ⟨Nat.lt_of_lt_of_le (n50 b hb).1 hsz51, (n50 b hb).2⟩
  rw [p1, f1, Mpu_some, st, Mwr_some]
  generalize hr' : ({ a0 with bef := nowF rs } : RecA) = ra at *
  have hs51 : smallB ra.bef ra.aft = true := by rw [← hr']; exact hs51
  have hral : ra.r.length = 32 := hraw51.1
  have hrl' := rawC_len (x := (t92, x0.2)) hral
  refine call_i (copy1 (jk := 7) hh51) ?_
  rintro _ h52 ⟨col2, pc, rfl, hold, k52, hc52⟩
  have m52 : Mv col1 col2 (fun _ => False) h51 h52 := ⟨k52.mono fun _ _ h => h.elim, hold⟩
  have hr52 := hr51.mv m52 id
  have hh52 := hh51.mv m52 id id
  have ha52 := ha51.keep k52 id
  have kH52 := kH51.trans k52
  have inp52 : ∀ b, b < H.size → col2 b = 1 := fun b hb => (hold b (Nat.lt_of_lt_of_le hb kH51.1)).trans (inp50 b hb)
  rw [ha52.ldN hrl', Mpu_some]
  refine call_i (c_AppendP (P := fun b => b < H.size ∨ New h30 h50 b) hc52 (fun b hb => ⟨Nat.lt_of_lt_of_le (hP51 b hb).1 k52.1, (hold b (hP51 b hb).1).trans (hP51 b hb).2⟩) (by omega) (hS.keep kH52 fun _ h => h.elim) (hT.keep kH52 fun _ h => h.elim) (hraw51.keep k52 fun _ _ => id) hs51) ?_
  rintro _ h53 ⟨rfl, col3, m53, hc53⟩
  rw [appRs_ch] at hc53
  have hr53 := hr52.mv m53 (by omega)
  have hh53 := hh52.mv m53 (by omega) (by omega)
  have kH53 := m53.keep0 (by omega) kH52 inp52
  have inp53 : ∀ b, b < H.size → col3 b = 1 := fun b hb => (m53.same b (Nat.lt_of_lt_of_le hb kH52.1)).trans (inp52 b hb)
  rw [appB_eq (by omega)]
  have ec : binV .no .neq (.int .i64 (if appB rs ra = true then 0 else 10)) (.int .i64 0) = some (.bool (!appB rs ra)) := by
    rw [binV_int]; simp only [intV]
    cases appB rs ra <;> rfl
  rw [ec, Mpu_some, Mcd_bool]
  cases happ : appB rs ra
  · rw [Bool.not_false, if_pos rfl]
    refine call_i (c_awake23 (Nat.le_trans hNG kH53.1)) ?_
    rintro _ h54 ⟨rfl, k54⟩
    exact ⟨rfl, kH53.trans k54⟩
  rw [Bool.not_true, if_neg (by decide)]
  have hrs' : appRs rs ra = rs ++ [ra] := by unfold appRs; rw [happ]; rfl
  rw [hrs'] at hc53
  obtain ⟨Gr, Gc, Gi, hatc, _⟩ := id hc53
  refine call_i (c_HistTop hatc) ?_
  rintro _ h55 ⟨rfl, k55⟩
  refine call_i (c_Begin (hr53.1.keep k55 id) (topF_len hatc.c32)) ?_
  rintro _ h56 ⟨rfl, r56, k56⟩
  have eb : (markR rs).busy = false := rfl
  have m56 : Mv col3 col3 (fun k => k = 3) h53 h56 := (Mv.pure k55 (col := col3) (K := fun k => k = 3)).trans (Mv.at k56 hr53.2)
  have hh56 := hh53.mv m56 (by omega) (by omega)
  have hc56 := hc53.mv m56 (by omega) (by omega)
  have kH56 := m56.keep0 (by omega) kH53 inp53
  simp only [eb, n0, unV_not, Bool.not_true, Bool.not_false, Mif_bool, Mif_undef, pickV_bool, Mcd_bool, Mpu_some, if_true, if_false, Bool.false_eq_true, Bool.true_eq_false, decide_true, decide_false, reduceCtorEq, ex20, ex21, ex30, ex31, ex32, Mre_ok, Mre_nil]
  /- what stands behind the crash -/
  refine J1_i (fun u h => ∃ (q j : Nat) (col : Nat → Nat) (Rg : Reg) (rx : List RecA), u = Ptr q 0 ∧ RegC col 3 h23.size h Rg ∧ HistC col j q h rx (chL rx) ∧ j ≠ 3 ∧ setE Rg rx.length (topF (chL rx)) = 0 ∧ setR Rg rx.length (topF (chL rx)) = markR rx ∧ Keep (fun _ => False) H h) (fun k57 hk57 => ?_) ?_
  · obtain ⟨sn1, sn2⟩ := set_next (rs := rs) (a := ra) (by omega)
    obtain ⟨so1, so2⟩ := set_now (rs := rs) (by omega) (topF (chL (rs ++ [ra])))
    cases wr
    · simp only [unV_not, Bool.not_true, Bool.not_false, Mif_bool, Mif_undef, pickV_bool, Mcd_bool, Mpu_some, if_true, if_false, Bool.false_eq_true, Bool.true_eq_false, decide_true, decide_false, reduceCtorEq, ex20, ex21, ex30, ex31, ex32, Mre_ok, Mre_nil]
      exact hk57 _ _ ⟨h25.size, 5, col3, _, rs, rfl, ⟨r56, hr53.2⟩, hh56, by omega, so1, so2, kH56⟩
    · simp only [unV_not, Bool.not_true, Bool.not_false, Mif_bool, Mif_undef, pickV_bool, Mcd_bool, Mpu_some, if_true, if_false, Bool.false_eq_true, Bool.true_eq_false, decide_true, decide_false, reduceCtorEq, ex20, ex21, ex30, ex31, ex32, Mre_ok, Mre_nil]
      cases en
      · simp only [unV_not, Bool.not_true, Bool.not_false, Mif_bool, Mif_undef, pickV_bool, Mcd_bool, Mpu_some, if_true, if_false, Bool.false_eq_true, Bool.true_eq_false, decide_true, decide_false, reduceCtorEq, ex20, ex21, ex30, ex31, ex32, Mre_ok, Mre_nil]
        refine J1_eq.2 ?_
        simp only [unV_not, Bool.not_true, Bool.not_false, Mif_bool, Mif_undef, pickV_bool, Mcd_bool, Mpu_some, if_true, if_false, Bool.false_eq_true, Bool.true_eq_false, decide_true, decide_false, reduceCtorEq, ex20, ex21, ex30, ex31, ex32, Mre_ok, Mre_nil]
        exact hk57 _ _ ⟨pc, 7, col3, _, rs ++ [ra], rfl, ⟨r56, hr53.2⟩, hc56, by omega, sn1, sn2, kH56⟩
      · simp only [unV_not, Bool.not_true, Bool.not_false, Mif_bool, Mif_undef, pickV_bool, Mcd_bool, Mpu_some, if_true, if_false, Bool.false_eq_true, Bool.true_eq_false, decide_true, decide_false, reduceCtorEq, ex20, ex21, ex30, ex31, ex32, Mre_ok, Mre_nil]
        refine J1_eq.2 ?_
        refine call_i (c_End r56) ?_
        rintro _ h60 ⟨rfl, r60, k60⟩
        have eb2 : (begR (markR rs) (topF (chL (rs ++ [ra])))).busy = true := rfl
        have hms := mark_step (rs := rs) (a := ra) (by omega) happ
        rw [hrs'] at hms
        rw [hms] at r60
        have m60 : Mv col3 col3 (fun k => k = 3) h56 h60 := Mv.at k60 hr53.2
        simp only [eb2, n0, unV_not, Bool.not_true, Bool.not_false, Mif_bool, Mif_undef, pickV_bool, Mcd_bool, Mpu_some, if_true, if_false, Bool.false_eq_true, Bool.true_eq_false, decide_true, decide_false, reduceCtorEq, ex20, ex21, ex30, ex31, ex32, Mre_ok, Mre_nil]
        exact hk57 _ _ ⟨pc, 7, col3, _, rs ++ [ra], rfl, ⟨r60, hr53.2⟩, hc56.mv m60 (by omega) (by omega), by omega, set_same.1, set_same.2, m60.keep0 (by omega) kH56 inp53⟩
  rintro _ h58 ⟨q, j, colx, Rg, rx, rfl, hRg, hHx, hj, se, sr, kH58⟩
  obtain ⟨Xr, Xc, Xi, hx, x1, x2, x3⟩ := id hHx
  have hpB : ∀ b, HB q Xr Xc Xi b → b ≠ h23.size := fun b hB e => by
    have e3 := hRg.2
    rw [← e] at e3
    rcases hB with hB | hB | hB | hB
    · rw [hB] at e3; omega
    · have := x2 _ (.inl hB); omega
    · have := x2 _ (.inr hB); omega
    · have := x3 _ hB; omega
  refine call_i (c_Settle hRg.1 hx fun hB => hpB _ hB rfl) ?_
  rintro _ h62 ⟨rfl, r62, k62⟩
  rw [se, sr] at *
  have hx62 := hx.keep k62 hpB
  have s23' : H.size ≤ h23.size := k023.1
  have kH62 : Keep (fun _ => False) H h62 := kH58.fresh k62 fun b hb => by omega
  simp only [n0, unV_not, Bool.not_true, Bool.not_false, Mif_bool, Mif_undef, pickV_bool, Mcd_bool, Mpu_some, if_true, if_false, Bool.false_eq_true, Bool.true_eq_false, decide_true, decide_false, reduceCtorEq, ex20, ex21, ex30, ex31, ex32, Mre_ok, Mre_nil]
  refine J1_eq.2 ?_
  refine call_i (c_Settle r62 hx62 fun hB => hpB _ hB rfl) ?_
  rintro _ h64 ⟨rfl, r64, k64⟩
  rw [set_same.1] at *
  rw [set_same.2] at r64
  have hx64 := hx62.keep k64 hpB
  have kH64 : Keep (fun _ => False) H h64 := kH62.fresh k64 fun b hb => by omega
  simp only [n0, unV_not, Bool.not_true, Bool.not_false, Mif_bool, Mif_undef, pickV_bool, Mcd_bool, Mpu_some, if_true, if_false, Bool.false_eq_true, Bool.true_eq_false, decide_true, decide_false, reduceCtorEq, ex20, ex21, ex30, ex31, ex32, Mre_ok, Mre_nil]
  refine J1_eq.2 ?_
  refine call_i (c_AuditH r64 hx64) ?_
  rintro _ h67 ⟨rfl, k67⟩
  have i1 : isM (markR rx) rx.length (topF (chL rx)) = true := by simp [isM, markR]
  simp only [i1, n0, unV_not, Bool.not_true, Bool.not_false, Mif_bool, Mif_undef, pickV_bool, Mcd_bool, Mpu_some, if_true, if_false, Bool.false_eq_true, Bool.true_eq_false, decide_true, decide_false, reduceCtorEq, ex20, ex21, ex30, ex31, ex32, Mre_ok, Mre_nil]
  refine J1_eq.2 ?_
  refine call_i (c_Mark (r64.keep k67 id)) ?_
  rintro _ h70 ⟨rfl, k70⟩
  have k6770 := k67.trans k70
  refine call_i (c_Of (hx64.keep k6770 fun _ _ => id)) ?_
  rintro _ h71 ⟨rfl, k71⟩
  have ne : binV (eqK prg T_anchor_Mark) .neq (mk (markR rx).n (markR rx).top) (mk rx.length (topF (chL rx))) = some (.bool false) := by
    have ht := topF_len hx64.c32
    have := neMark (a := (rx.length : Int)) (b := (rx.length : Int)) ht ht
    simpa [markR] using this
  rw [ne, Mpu_some]
  simp only [unV_not, Bool.not_true, Bool.not_false, Mif_bool, Mif_undef, pickV_bool, Mcd_bool, Mpu_some, if_true, if_false, Bool.false_eq_true, Bool.true_eq_false, decide_true, decide_false, reduceCtorEq, ex20, ex21, ex30, ex31, ex32, Mre_ok, Mre_nil]
  have k6771 := k6770.trans k71
  refine call_i (c_Next (r64.keep k6771 id)) ?_
  rintro _ h73 ⟨rfl, k73⟩
  have ex0 : ∀ x y : Value, extV 0 (.tuple #[x, y]) = some x := fun _ _ => rfl
  have ex1 : ∀ x y : Value, extV 1 (.tuple #[x, y]) = some y := fun _ _ => rfl
  rw [ex0, Mpu_some, ex1, Mpu_some]
  refine new_mk r64.2.2 fun h75 _ k75 => ?_
  have eb3 : (markR rx).busy = false := rfl
  simp only [eb3, unV_not, Bool.not_true, Bool.not_false, Mif_bool, Mif_undef, pickV_bool, Mcd_bool, Mpu_some, if_true, if_false, Bool.false_eq_true, Bool.true_eq_false, decide_true, decide_false, reduceCtorEq, ex20, ex21, ex30, ex31, ex32, Mre_ok, Mre_nil]
  refine J1_eq.2 ?_
  have kk := kH64.trans (k6771.trans (k73.trans k75))
  refine call_i (c_awake23 (Nat.le_trans hNG kk.1)) ?_
  rintro _ h77 ⟨rfl, k77⟩
  simp only [unV_not, Bool.not_true, Bool.not_false, Mif_bool, Mif_undef, pickV_bool, Mcd_bool, Mpu_some, if_true, if_false, Bool.false_eq_true, Bool.true_eq_false, decide_true, decide_false, reduceCtorEq, ex20, ex21, ex30, ex31, ex32, Mre_ok, Mre_nil]
  exact ⟨trivial, kk.trans k77⟩
end Go.Proofs.YtdmciknajaedmaaDoor
