/- JOINED: V193 -/
import Derived.Test.YtanhgihfgmbojaaGreatDoorG26
set_option linter.unusedSimpArgs false
set_option linter.unusedVariables false
/- law 20: sorted. -/
namespace Go.Proofs.YtanhgihfgmbojaaGreatDoor
open Go.X Go.X.Diff
set_option maxRecDepth 100000
set_option linter.unusedSimpArgs false
set_option linter.unusedVariables false

theorem str_lss {a b : List UInt8} {q : EqK} : binV q .lss (str a) (str b) = some (.bool (less a b)) := by
  rw [binV_str]; simp only [strV, toList_mk]
theorem less_cmp {a b : List UInt8} (h : less a b = true) : cmpB a b < 0 := by unfold cmpB; rw [if_pos h]; decide
theorem less_not {a b : List UInt8} (h : less a b = false) (hne : a ≠ b) : cmpB b a < 0 := by
  have h0 : cmpB a b ≠ 0 := fun e => hne ((cmpB_ord.zero a b).1 e)
  have h1 : ¬ cmpB a b < 0 := fun e => by rw [less_of e] at h; cases h
  have := cmpB_ord.turn a b
  omega
theorem Rise.put {hv : List Man} {A B : List Nat} {x : Nat} (h : Rise hv (A ++ B)) (h1 : ∀ a ∈ A, cmpB (gM hv a).name (gM hv x).name < 0) (h2 : ∀ b ∈ B, cmpB (gM hv x).name (gM hv b).name < 0) : Rise hv (A ++ x :: B) := by
  obtain ⟨p1, p2, p3⟩ := List.pairwise_append.1 h
  refine List.pairwise_append.2 ⟨p1, List.pairwise_cons.2 ⟨h2, p2⟩, fun a ha b hb => ?_⟩
  rcases List.mem_cons.1 hb with rfl | hb
  · exact h1 a ha
  · exact p3 a ha b hb
theorem names_perm {hv : List Man} {l c : List Nat} (hN : Names hv c) (hp : l.Perm c) {A B : List Nat} {x y : Nat} (h : l = A ++ y :: x :: B) : (gM hv x).name ≠ (gM hv y).name := by
  have hn : (l.map fun k => (gM hv k).name).Nodup := ((hp.map _).nodup_iff).2 hN.2
  rw [h, List.map_append, List.map_cons, List.map_cons] at hn
  have := (List.nodup_cons.1 (List.nodup_append.1 hn).2.1).1
  exact fun e => this (by simp [e])
theorem cswap {A B : List Nat} {x y : Nat} : (A ++ y :: x :: B).Perm (A ++ x :: y :: B) := List.Perm.append_left A (List.Perm.swap x y B)
set_option maxHeartbeats 4000000 in
theorem c_lawSorted {P Q : Nat → Prop} {H : Heap} {mv : List MV} {wants : List Dep} {vh vw vc : Value} {b : Int} {c : List Nat} (hp : Prb P H mv wants vh vw) (hP : ∀ b, P b → b < H.size) (hc : SlE 1 Q H vc (ints (zs c))) (hN : Names (hvOf mv) c) (hl : c.length ≤ 1000) :
    HCalls prg f_syngraphlaw20_sorted [.agg (prbC vh vw b).toArray, vc] H fun u H' => SlE 1 (fun b => H.size ≤ b ∧ b < H'.size) H' u (ints (zs (sortedF (hvOf mv) c))) ∧ Keep (fun _ => False) H H' := by
  apply sh_syngraphlaw20_sorted_calls
  unfold sh_syngraphlaw20_sorted
  simp only [Cells_agg, Mnew_some]
  generalize hH1 : H.push (.cells (prbC vh vw b).toArray T_solve_Problem (0, 0)) = H1
  have k1 : Keep (fun _ => False) H H1 := by rw [← hH1]; exact Keep.push
  have a1 : At H1 H.size (prbC vh vw b) := by rw [← hH1]; exact At.push
  have s1 : H1.size = H.size + 1 := by rw [← hH1]; simp
  have b0 : bslV prg T_int 0 [] = some #[] := by kernel_rfl
  rw [b0, Mnews_some]
  generalize hH2 : H1.push (.cells #[] T_int (0, 0)) = H2
  have k2 : Keep (fun _ => False) H1 H2 := by rw [← hH2]; exact Keep.push
  have n2 : H2[H1.size]? = some (.cells #[] T_int (0, 0)) := by rw [← hH2]; exact push_new
  have s2 : H2.size = H1.size + 1 := by rw [← hH2]; simp
  have hb : BufE 1 (H1.size ≤ ·) H2 (.slice (some ⟨H1.size, 0, none⟩) 0 0) [] := BufE.fresh (cs := []) ⟨H1.size, rfl, Nat.le_refl _, n2⟩ (Nat.le_refl _) (by simp) (fun _ _ => by simp [thaw]) (by simp) (fun x h => by cases h) (fun x h => by cases h)
  have k02 := k1.trans k2
  refine hb.app (hc.keep k02 fun _ _ => id) (by omega) (by rw [ints_len, zs_len, List.length_nil]; omega) (by show H1.size ≤ H2.size; omega) fun t10 h3 hb3 k3 => ?_
  rw [List.nil_append] at hb3
  have k13 : Keep (fun _ => False) H1 h3 := k2.fresh k3 fun b hb => hb
  have lt := hb3.sl.len
  rw [ints_len, zs_len] at lt
  have kS : ∀ {h : Heap}, Keep (fun b => H1.size ≤ b) h3 h → Keep (fun _ => False) H h := fun k => (k1.trans k13).fresh k fun b hb => by have : H1.size ≤ b := hb; omega
  refine J1_i (fun _ h => BufE 1 (fun b => H1.size ≤ b) h t10 (ints (zs (sortedF (hvOf mv) c))) ∧ Keep (fun b => H1.size ≤ b) h3 h) (fun k4 hk4 => ?_) ?_
  rotate_left
  · rintro _ h5 ⟨hb5, k5⟩
    exact ⟨(BufE.re (G := fun b => H.size ≤ b ∧ b < h5.size) hb5 fun b hb hF => ⟨by have : H1.size ≤ b := hF; omega, hb⟩).sl, kS k5⟩
  rw [lt, Mpu_some]
  refine L1_i (fun u h => (∃ (i : Nat) (A B : List Nat), i ≤ c.length ∧ u = .int .i64 (i : Nat) ∧ A.length = i ∧ (A ++ B).Perm c ∧ Rise (hvOf mv) A ∧ BufE 1 (fun b => H1.size ≤ b) h t10 (ints (zs (A ++ B)))) ∧ Keep (fun b => H1.size ≤ b) h3 h) (fun u _ => match u with | .int _ t => c.length - t.toNat | _ => 0) ⟨⟨0, [], c, Nat.zero_le _, rfl, rfl, .refl _, List.Pairwise.nil, hb3⟩, Keep.refl⟩ ?_
  rintro _ h7 ⟨⟨i, A, B, hi, rfl, hA, hpm, hrise, hb7⟩, k7⟩ k6 hk6
  have hplen := hpm.length_eq
  rw [List.length_append] at hplen
  rw [ltNn, Mpu_some, Mcd_bool]
  by_cases hlt : i < c.length
  rotate_left
  · rw [if_neg (by simpa using hlt)]
    have hB : B = [] := List.length_eq_zero_iff.1 (by omega)
    subst hB
    rw [List.append_nil] at hpm hb7
    have : A = sortedF (hvOf mv) c := hrise.ext (sorted_rise hN) fun k => by rw [sorted_mem]; exact hpm.mem_iff
    exact hk4 _ _ ⟨by rw [← this]; exact hb7, k7⟩
  rw [if_pos (by simpa using hlt)]
  obtain ⟨x, B, rfl⟩ : ∃ x B', B = x :: B' := by
    cases B with
    | nil => simp at hplen; omega
    | cons x B => exact ⟨x, B, rfl⟩
  refine J2_i (fun _ _ h => (∃ A', A'.length = i + 1 ∧ (A' ++ B).Perm c ∧ Rise (hvOf mv) A' ∧ BufE 1 (fun b => H1.size ≤ b) h t10 (ints (zs (A' ++ B)))) ∧ Keep (fun b => H1.size ≤ b) h3 h) (fun k8 hk8 => ?_) ?_
  rotate_left
  · rintro _ _ h9 ⟨⟨A', hA', hpm', hr', hb9⟩, k9⟩
    rw [add_one' (by omega), Mpu_some]
    exact hk6 _ _ ⟨⟨i + 1, A', B, by omega, rfl, hA', hpm', hr', hb9⟩, k9⟩ (by show c.length - (i + 1) < c.length - i; omega)
  refine L1_i (fun u h => (∃ A1 A2, u = .int .i64 (A1.length : Nat) ∧ A1.length + A2.length = i ∧ (A1 ++ x :: (A2 ++ B)).Perm c ∧ Rise (hvOf mv) (A1 ++ A2) ∧ (∀ a ∈ A2, cmpB (gM (hvOf mv) x).name (gM (hvOf mv) a).name < 0) ∧ BufE 1 (fun b => H1.size ≤ b) h t10 (ints (zs (A1 ++ x :: (A2 ++ B))))) ∧ Keep (fun b => H1.size ≤ b) h3 h) (fun u _ => match u with | .int _ t => t.toNat | _ => 0)
    ⟨⟨A, [], by rw [hA], by simpa using hA, by simpa using hpm, by simpa using hrise, fun a ha => absurd ha (by simp), by simpa using hb7⟩, k7⟩ ?_
  rintro _ h11 ⟨⟨A1, A2, rfl, hlen, hpm', hr', hx2, hb11⟩, k11⟩ k10 hk10
  have done : (∀ a ∈ A1, cmpB (gM (hvOf mv) a).name (gM (hvOf mv) x).name < 0) → ∀ u v, k8 u v h11 := fun h1 u v =>
    hk8 _ _ _ ⟨⟨A1 ++ x :: A2, by rw [List.length_append, List.length_cons]; omega, by rw [List.append_assoc]; exact hpm', hr'.put h1 hx2, by rw [List.append_assoc]; exact hb11⟩, k11⟩
  rw [show binV .no .gtr (.int .i64 (A1.length : Nat)) (.int .i64 0) = some (.bool (decide (A1.length > 0))) from gtNn (m := 0), Mpu_some]
  by_cases h0 : A1 = []
  · subst h0
    simp only [List.length_nil, Nat.lt_irrefl, gt_iff_lt, decide_false, J1_eq, Mif_bool, Bool.false_eq_true, if_false, pickV_bool, Mpu_some, Mcd_bool]
    exact done (fun a ha => absurd ha (by simp)) _ _
  obtain ⟨A1, y, rfl⟩ : ∃ A' y, A1 = A' ++ [y] := ⟨_, _, (List.dropLast_concat_getLast h0).symm⟩
  have hkl : (A1 ++ [y]).length = A1.length + 1 := by simp
  have hl1 : A1.length + 1 + A2.length = i := by rw [← hkl]; exact hlen
  rw [hkl, decide_eq_true (show A1.length + 1 > 0 by omega)]
  have eform : (A1 ++ [y]) ++ x :: (A2 ++ B) = A1 ++ y :: x :: (A2 ++ B) := by simp
  rw [eform] at hpm' hb11
  have hNl : Names (hvOf mv) (A1 ++ y :: x :: (A2 ++ B)) := ⟨fun k hk => hN.1 k (hpm'.mem_iff.1 hk), ((hpm'.map _).nodup_iff).2 hN.2⟩
  have gx : (A1 ++ y :: x :: (A2 ++ B))[A1.length + 1]? = some x := by rw [List.getElem?_append_right (by omega)]; simp
  have gy : (A1 ++ y :: x :: (A2 ++ B))[A1.length]? = some y := by rw [List.getElem?_append_right (by omega)]; simp
  have k0 := kS k11
  have aq : ld1 h11 (Ptr H.size 0) = some vh := (((a1.keep k13 id).keep k11 (show ¬ H1.size ≤ H.size by omega))).ld (i := 0) rfl
  have hpp : Prb P h11 mv wants vh vw := hp.keep k0 fun _ _ => id
  obtain ⟨x1, _, hg1, _, hm1, b1', o1', hix1, hpt1, _⟩ := hpp.at (hNl.1 x (List.mem_of_getElem? gx))
  obtain ⟨y1, _, hg2, _, hm2, b2', o2', hix2, hpt2, _⟩ := hpp.at (hNl.1 y (List.mem_of_getElem? gy))
  obtain ⟨px, ox, hixx, hptx, _⟩ := hb11.sl.at (i := A1.length + 1) (x := [.int .i64 (x : Int)]) (ints_get (zs_get gx))
  obtain ⟨py, oy, hixy, hpty, _⟩ := hb11.sl.at (i := A1.length) (x := [.int .i64 (y : Int)]) (ints_get (zs_get gy))
  have hsub : binV .no .sub (.int .i64 ((A1.length + 1 : Nat) : Int)) (.int .i64 1) = some (.int .i64 (A1.length : Nat)) := subN1 (by omega)
  refine J1_yes rfl ?_
  rw [fld_ptr, Mpu_some, Nat.add_zero, aq, Mpu_some, hixx .i64, Mpu_some, hptx.cell0 rfl, Mpu_some, hix1 .i64, Mpu_some, fld_ptr, Mpu_some, Nat.add_zero, mv_name hpt1, Mpu_some, Mpu_some, aq, Mpu_some, hsub, Mpu_some, hixy .i64, Mpu_some, hpty.cell0 rfl, Mpu_some, hix2 .i64, Mpu_some, fld_ptr, Mpu_some, Nat.add_zero, mv_name hpt2, Mpu_some, str_lss, Mpu_some]
  show Mpu (pickV (.bool true) (.bool (less x1.1.name y1.1.name)) (.bool false)) _
  rw [pickV_bool, if_pos rfl, Mpu_some, Mcd_bool]
  cases hls : less x1.1.name y1.1.name
  · rw [if_neg (by decide)]
    have hyx : cmpB (gM (hvOf mv) y).name (gM (hvOf mv) x).name < 0 := by
      rw [hg1, hg2]
      refine less_not hls ?_
      rw [← hg1, ← hg2]; exact names_perm hN hpm' rfl
    refine done (fun a ha => ?_) _ _
    rcases List.mem_append.1 ha with ha | ha
    · have h3 := (List.pairwise_append.1 (List.pairwise_append.1 hr').1).2.2 a ha y (by simp)
      have h4 := cmpB_ord.trans (Int.le_of_lt h3) (Int.le_of_lt hyx)
      have h5 : cmpB (gM (hvOf mv) a).name (gM (hvOf mv) x).name ≠ 0 := fun e => by
        rw [(cmpB_ord.zero _ _).1 e] at h3
        have := cmpB_ord.turn (gM (hvOf mv) y).name (gM (hvOf mv) x).name
        omega
      omega
    · rw [List.mem_singleton.1 ha]; exact hyx
  · rw [if_pos rfl]
    obtain ⟨bx, obx, h14, hix14, _, st14, hb14, k14⟩ := hb11.st (i := A1.length + 1) (j := 0) (ints_get (zs_get gx)) (by omega) (w := .int .i64 (y : Int)) rfl
    have e14 : (ints (zs (A1 ++ y :: x :: (A2 ++ B)))).set (A1.length + 1) ([Value.int .i64 (x : Int)].set 0 (.int .i64 (y : Int))) = ints (zs ((A1 ++ y :: x :: (A2 ++ B)).set (A1.length + 1) y)) := by simp [rows1, zs, List.map_set]
    rw [e14] at hb14
    have gy' : ((A1 ++ y :: x :: (A2 ++ B)).set (A1.length + 1) y)[A1.length]? = some y := by rw [List.getElem?_set_ne (by omega)]; exact gy
    obtain ⟨by', oby, h15, hix15, _, st15, hb15, k15⟩ := hb14.st (i := A1.length) (j := 0) (ints_get (zs_get gy')) (by omega) (w := .int .i64 (x : Int)) rfl
    have e15 : (ints (zs ((A1 ++ y :: x :: (A2 ++ B)).set (A1.length + 1) y))).set A1.length ([Value.int .i64 (y : Int)].set 0 (.int .i64 (x : Int))) = ints (zs (A1 ++ x :: y :: (A2 ++ B))) := by
      have e : ((A1 ++ y :: x :: (A2 ++ B)).set (A1.length + 1) y).set A1.length x = A1 ++ x :: y :: (A2 ++ B) := by
        rw [List.set_append_right _ _ (by omega), show A1.length + 1 - A1.length = 1 by omega, List.set_append_right _ _ (by omega), Nat.sub_self]; rfl
      rw [← e]; simp [rows1, zs, List.map_set]
    rw [e15] at hb15
    rw [Nat.add_zero] at st14 st15
    have ex := Option.some.inj ((hixx .i64).symm.trans (hix14 .i64))
    have ey := Option.some.inj ((hixy .i64).symm.trans (hix15 .i64))
    rw [← ex] at st14
    rw [← ey] at st15
    rw [Mpu_some, Mpu_some, hixy .i64, Mpu_some, hpty.cell0 rfl, Mpu_some, Mpu_some, hptx.cell0 rfl, Mpu_some, Mpu_some, st14, Mwr_some, Mpu_some, st15, Mwr_some, Mpu_some]
    have hxy : cmpB (gM (hvOf mv) x).name (gM (hvOf mv) y).name < 0 := by rw [hg1, hg2]; exact less_cmp hls
    refine hk10 _ _ ⟨⟨A1, y :: A2, rfl, by rw [List.length_cons]; omega, cswap.symm.trans hpm', by simpa using hr', fun a ha => ?_, hb15⟩, k11.trans (k14.trans k15)⟩ (by show A1.length < (A1 ++ [y]).length; omega)
    rcases List.mem_cons.1 ha with rfl | ha
    · exact hxy
    · exact hx2 a ha
end Go.Proofs.YtanhgihfgmbojaaGreatDoor

