/- HistoryHeads: the fixed answer; the law's walk. -/
import Derived.Test.YtmhfanpijdgkjaaDoorV13
namespace Go.Proofs.YtmhfanpijdgkjaaDoor
open Go.X
set_option maxRecDepth 100000

theorem HistAt.mono {p : Nat} {Fr Fc Fi : Nat → Prop} {H : Heap} {rs : List RecA} {ch : List (List UInt8)} (h : HistAt p Fr Fc Fi H rs ch) : HistAt p Fr Fc Fi H rs ch := h

def oneV : Ver := ⟨[1, 2, 3], []⟩
def oneI : Item := ⟨[97], oneV, zeroH⟩
def oneA : RecA := ⟨1, [], [oneI], 0, zeroH⟩
theorem oneI_wf : oneI.wf := ⟨⟨rfl, by simp [oneI, oneV]⟩, rfl, by simp [oneI]⟩
theorem itoa_one : ItoaOk [1, 2, 3] := by
  intro n hn h0 h1 H
  simp at hn
  rcases hn with rfl | rfl | rfl
  · exact c_ItoaSmall (n := 1) (by omega)
  · exact c_ItoaSmall (n := 2) (by omega)
  · exact c_ItoaSmall (n := 3) (by omega)

theorem bld_A3 : buildV prg T_A3_int [(0, (.int .i64 1)), (1, (.int .i64 2)), (2, (.int .i64 3))] = some (.agg (icells .i64 [1, 2, 3]).toArray) := by kernel_rfl
theorem bld_Ver : buildV prg T_version_Version [(0, .agg (icells .i64 [1, 2, 3]).toArray)] = some (.agg (verC oneV).toArray) := by kernel_rfl
theorem bld_Item : buildV prg T_history_Item [(0, (.string ⟨#[97]⟩)), (1, .agg (verC oneV).toArray)] = some (.agg (itemC oneI).toArray) := by kernel_rfl
theorem bld_Rec1 {a : Option Addr} {n c : Nat} : buildV prg T_history_Record [(0, (.int .i64 1)), (2, .slice a n c)] = some (.agg (recC 1 (.slice none 0 0) (.slice a n c) 0 zeroH).toArray) := by kernel_rfl
theorem c_Item : prg.cellsOf T_history_Item = 37 := by kernel_rfl

theorem c_one {H : Heap} : HCalls prg f_syngraphlaw22_one [] H fun u H' => ∃ va, u = .agg (recC 1 (.slice none 0 0) va 0 zeroH).toArray ∧ Items (New H H') H' va [oneI] ∧ Keep (fun _ => False) H H' := by
  apply sh_syngraphlaw22_one_calls
  unfold sh_syngraphlaw22_one
  obtain ⟨z, hz, hzl⟩ := z_Record
  obtain ⟨zi, hzi, hzil⟩ := z_Item
  have hb1 : bslV prg T_history_Item 1 [(0, .agg (itemC oneI).toArray)] = some (itemC oneI).toArray := bsl_one c_Item (by omega) (by omega) hzi (by simp [hzil]) (by simp [itemC_len oneI_wf])
  simp only [hz, Mnew_some, bld_A3, bld_Ver, bld_Item, Mpu_some, hb1, Mnews_some, bld_Rec1]
  generalize hH1 : H.push (.cells z.toArray T_history_Record (0, 0)) = H1
  have k1 : Keep (fun _ => False) H H1 := by rw [← hH1]; exact Keep.push
  have hs1 : H1.size = H.size + 1 := by rw [← hH1]; simp
  have hn1 : H1[H.size]? = some (.cells z.toArray T_history_Record (0, 0)) := by rw [← hH1]; exact push_new
  generalize hH2 : H1.push (.cells (itemC oneI).toArray T_history_Item (0, 0)) = H2
  have k2 : Keep (fun _ => False) H1 H2 := by rw [← hH2]; exact Keep.push
  have hs2 : H2.size = H1.size + 1 := by rw [← hH2]; simp
  have hi2 : H2[H1.size]? = some (.cells (itemC oneI).toArray T_history_Item (0, 0)) := by rw [← hH2]; exact push_new
  have hit : Items (· = H1.size) H2 (.slice (some ⟨H1.size, 0, none⟩) 1 1) [oneI] :=
    ⟨⟨⟨_, 1, rfl, Nat.le_refl _, .inr ⟨H1.size, 0, rfl, rfl, by simp only [List.map_cons, List.map_nil, List.flatten_cons, List.flatten_nil, List.append_nil]; exact Pt.of hi2⟩⟩, fun x hx => by simp at hx; subst hx; exact itemC_len oneI_wf, fun x hx => by simp at hx; subst hx; exact itemC_one⟩, fun x hx => by simp at hx; subst hx; exact oneI_wf⟩
  have hr36 : (recC 1 (.slice none 0 0) (.slice (some ⟨H1.size, 0, none⟩) 1 1) 0 zeroH).length = 36 := recC_len rfl
  have hone := recC_one (k := 1) (s := 0) (r := zeroH) (items0 (P := fun _ => False) (H := H)) hit
  have hn2 := k2.at hn1 id
  rw [show (Value.pointer (some ⟨H.size, 0, none⟩)) = Ptr H.size 0 from rfl, st36 hn2 hzl hr36 hone, Mwr_some, ld36 (set_self hn2) hr36, Mpu_some]
  have ks : Keep (· = H.size) H2 (H2.setIfInBounds H.size (.cells (recC 1 (.slice none 0 0) (.slice (some ⟨H1.size, 0, none⟩) 1 1) 0 zeroH).toArray T_history_Record (0, 0))) := Keep.set rfl
  refine ⟨_, rfl, (hit.keep ks fun b hb e => by omega).mono fun b hb => ⟨by omega, by simp; omega⟩, by simp; omega, fun i hi _ => ?_⟩
  rw [ks.2 i (by omega) (by omega), k2.2 i (by omega) id, k1.2 i hi id]

theorem recB_one : (recB oneA).length ≤ 1000 := by decide +kernel
theorem appOk_one0 : appOk [] oneA = true := by decide +kernel
theorem appOk_one1 : appOk [oneA] oneA = false := by decide +kernel

def kHash : List Nat := List.replicate 32 0
theorem eqK_Hash : eqK prg T_sha_Hash = .flat kHash := by kernel_rfl
theorem ne_Hash {a b : List UInt8} (ha : a.length = 32) (hb : b.length = 32) : binV (eqK prg T_sha_Hash) .neq (bv a) (bv b) = some (.bool (!decide (a = b))) := by
  unfold bv
  rw [binV_agg_ne, eqK_Hash]
  show (eqCells kHash (bcells a).toArray.toList (bcells b).toArray.toList).map (fun b => Value.bool (!b)) = _
  have := eqCells_bytes (l := a) (m := b) (by omega)
  rw [ha] at this
  unfold kHash
  rw [List.toList_toArray, List.toList_toArray, this]; rfl
theorem eq_Hash {a b : List UInt8} (ha : a.length = 32) (hb : b.length = 32) : binV (eqK prg T_sha_Hash) .eql (bv a) (bv b) = some (.bool (decide (a = b))) := by
  unfold bv
  rw [binV_agg_eq, eqK_Hash]
  show (eqCells kHash (bcells a).toArray.toList (bcells b).toArray.toList).map Value.bool = _
  have := eqCells_bytes (l := a) (m := b) (by omega)
  rw [ha] at this
  unfold kHash
  rw [List.toList_toArray, List.toList_toArray, this]; rfl

theorem itoa_aft : ∀ x ∈ oneA.aft, ItoaOk x.ver.p := fun x hx => by
  have : x = oneI := by simpa [oneA] using hx
  subst this; exact itoa_one

theorem c_awake22 {H : Heap} (hT : ShaT H) : HCalls prg f_syngraphlaw22_awake [] H fun u H' => u = .bool true ∧ Keep (fun _ => False) H H' := by
  apply sh_syngraphlaw22_awake_calls
  unfold sh_syngraphlaw22_awake
  refine call_i (c_HistNew hT.sz) ?_
  rintro _ h1 ⟨rfl, hh1, k1⟩
  have hpn : binV .ptr .eql (Ptr H.size 0) (.pointer none) = some (.bool false) := rfl
  have ht0 : topF ([] : List (List UInt8)) = zeroH := rfl
  simp only [hpn, Mpu_some, J1_eq, Mif_bool, if_true]
  refine call_i (c_HistTop hh1) ?_
  rintro _ h2 ⟨rfl, k2⟩
  have hne := ne_Hash (a := topF []) (b := zeroH) rfl rfl
  rw [ht0] at hne
  simp only [decide_true, Bool.not_true] at hne
  simp only [ht0, bld_Hash00, Mpu_some, hne, pickV_bool, Bool.false_eq_true, if_false, if_true, Mif_bool]
  have kA := k1.trans k2
  have hh2 := hh1.keep k2 fun _ _ => id
  refine call_i c_one ?_
  rintro _ h3 ⟨va, rfl, hit, k3⟩
  have kB := kA.trans k3
  have hh3 := hh2.keep k3 fun _ _ => id
  have hlt1 := hh1.lt
  have q1 := k1.1; have q2 := k2.1; have q3 := k3.1
  have hb0 : ∀ b, HB H.size (fun _ => False) (fun _ => False) (fun _ => False) b → b = H.size := fun b hb => by rcases hb with h | h | h | h <;> first | exact h | exact h.elim
  have hHs : H.size < h1.size := (hlt1 H.size (.inl rfl)).2
  refine call_i (c_Append (a := oneA) (vb := .slice none 0 0) (va := va) (P := New h2 h3) hh3 (hT.keep kB fun _ h => h.elim) items0 hit (fun b hb => ⟨hb.2, fun h => ?_⟩) rfl (fun x hx => by simp [oneA] at hx) itoa_aft (Nat.le_trans recB_one (by decide)) (by simp [oneA]) (by simp [oneA])) ?_
  · have := hb0 b h; have := hb.1; omega
  rintro u h4 hR
  rcases hR with ⟨hbad, _⟩ | ⟨_, hbad, _⟩ | ⟨_, _, rfl, k4, Fr, Fc, Fi, hh4, hHB⟩
  · rw [appOk_one0] at hbad; cases hbad
  · cases hbad
  simp only [binV_int, intV, Mpu_some, pickV_bool, show (((0 : Int) != 0) = false) from rfl, Bool.false_eq_true, if_false, if_true, Mif_bool]
  have q4 := k4.1
  have kC : Keep (fun _ => False) H h4 := ⟨by omega, fun i hi _ => by rw [k4.2 i (by omega) (fun h => by have := hb0 i h; omega), kB.2 i hi id]⟩
  refine call_i c_one ?_
  rintro _ h5 ⟨vb, rfl, hit2, k5⟩
  have q5 := k5.1
  have hh5 := hh4.keep k5 fun _ _ => id
  have hlt4 := hh4.lt
  refine call_i (c_Append (a := oneA) (vb := .slice none 0 0) (va := vb) (P := New h4 h5) hh5 (hT.keep (kC.trans k5) fun _ h => h.elim) items0 hit2 (fun b hb => ⟨hb.2, fun h => ?_⟩) rfl (fun x hx => by simp [oneA] at hx) itoa_aft (Nat.le_trans recB_one (by decide)) (by simp [oneA]) (by simp [oneA])) ?_
  · have := (hlt4 b h).2; have := hb.1; omega
  rintro u h6 hR
  have hrs : ([] : List RecA) ++ [oneA] = [oneA] := rfl
  rw [hrs] at hR
  rcases hR with ⟨_, rfl, k6⟩ | ⟨hbad, _⟩ | ⟨hbad, _⟩
  rotate_left
  · rw [appOk_one1] at hbad; cases hbad
  · rw [appOk_one1] at hbad; cases hbad
  simp only [binV_int, intV, Mpu_some, pickV_bool, show (((10 : Int) != 10) = false) from rfl, Bool.false_eq_true, if_false, if_true, Mcd_bool]
  have hh6 := hh5.keep k6 fun _ _ => id
  rw [hrs] at hh6
  have hch : ([] : List (List UInt8)) ++ [chainF [] oneA] = [chainF [] oneA] := rfl
  rw [hch] at hh6
  have kD := kC.trans (k5.trans k6)
  refine call_i (c_HistLen hh6) ?_
  rintro _ _ ⟨rfl, rfl⟩
  simp only [binV_int, intV, Mpu_some, List.length_cons, List.length_nil, Nat.zero_add, show ((((1 : Nat) : Int) == 1) = true) from rfl, Mif_bool, if_true]
  refine call_i (c_HistTop hh6) ?_
  rintro _ h7 ⟨rfl, k7⟩
  have hh7 := hh6.keep k7 fun _ _ => id
  refine call_i c_one ?_
  rintro _ h8 ⟨vc, rfl, hit3, k8⟩
  have kE := kD.trans (k7.trans k8)
  refine call_i (c_RecBytes (a := oneA) (vb := .slice none 0 0) (va := vc) (P := New h7 h8) items0 hit3 (fun b hb => hb.2) rfl (fun x hx => by simp [oneA] at hx) itoa_aft (Nat.le_trans recB_one (by decide)) (by simp [oneA]) (by simp [oneA])) ?_
  rintro w h9 ⟨hbuf, k9⟩
  have kF := kE.trans k9
  refine call_i (c_tag_Record (a := zeroH) rfl hbuf.sl (hT.keep kF fun _ h => h.elim) (fun b hb => hb.2) (Nat.le_trans recB_one (by decide))) ?_
  rintro _ h10 ⟨rfl, k10⟩
  have kG := kF.trans k10
  have htop : topF [chainF [] oneA] = shaF (7 :: (zeroH ++ recB oneA)) := rfl
  have heq := eq_Hash (a := topF [chainF [] oneA]) (b := shaF (7 :: (zeroH ++ recB oneA))) (by rw [htop]; exact shaF_len) shaF_len
  rw [decide_eq_true htop] at heq
  simp only [heq, Mpu_some, pickV_bool, if_true, Mif_bool]
  have hh10 := hh7.keep (k8.trans (k9.trans k10)) fun _ _ => id
  refine call_i (c_HistNow hh10) ?_
  rintro wn h11 ⟨hnow, k11⟩
  have hnl := hnow.len
  have hn1 : (nowF [oneA]).length = 1 := rfl
  rw [hn1] at hnl
  simp only [hnl, Mpu_some, binV_int, intV, pickV_bool, if_true, show ((((1 : Nat) : Int) == 1) = true) from rfl]
  exact ⟨by trivial, kG.trans k11⟩

theorem c_HistoryHeads {H : Heap} {s : Int} {r : List UInt8} (hT : ShaT H) (hr : r.length = 32) :
    HCalls prg f_syngraphlaw22_HistoryHeads [.agg (Value.int .i64 s :: bcells r).toArray] H fun u H' => u = .bool true ∧ Keep (fun _ => False) H H' := by
  apply sh_syngraphlaw22_HistoryHeads_calls
  unfold sh_syngraphlaw22_HistoryHeads
  simp only [Cells_agg, Mnew_some]
  generalize hH1 : H.push (.cells (Value.int .i64 s :: bcells r).toArray T_head_Head (0, 0)) = H1
  have k1 : Keep (fun _ => False) H H1 := by rw [← hH1]; exact Keep.push
  have hs1 : H1.size = H.size + 1 := by rw [← hH1]; simp
  have hh1 : H1[H.size]? = some (.cells (Value.int .i64 s :: bcells r).toArray T_head_Head (0, 0)) := by rw [← hH1]; exact push_new
  refine call_i c_one ?_
  rintro _ h2 ⟨va, rfl, hit, k2⟩
  have q2 := k2.1
  have hh2 := k2.at hh1 id
  obtain ⟨z, hz, hzl⟩ := z_Record
  simp only [hz, Mnew_some]
  generalize hH3 : h2.push (.cells z.toArray T_history_Record (0, 0)) = h3
  have k3 : Keep (fun _ => False) h2 h3 := by rw [← hH3]; exact Keep.push
  have hs3 : h3.size = h2.size + 1 := by rw [← hH3]; simp
  have hn3 : h3[h2.size]? = some (.cells z.toArray T_history_Record (0, 0)) := by rw [← hH3]; exact push_new
  have hone := recC_one (k := 1) (s := 0) (r := zeroH) (items0 (P := fun _ => False) (H := H)) hit
  rw [show (Value.pointer (some ⟨h2.size, 0, none⟩)) = Ptr h2.size 0 from rfl, st36 hn3 hzl (recC_len rfl) hone, Mwr_some]
  generalize hH4 : h3.setIfInBounds h2.size (.cells (recC 1 (.slice none 0 0) va 0 zeroH).toArray T_history_Record (0, 0)) = h4
  have k4 : Keep (· = h2.size) h3 h4 := by rw [← hH4]; exact Keep.set rfl
  have hs4 : h4.size = h3.size := by rw [← hH4]; simp
  have hn4 : h4[h2.size]? = some (.cells (recC 1 (.slice none 0 0) va 0 zeroH).toArray T_history_Record (0, 0)) := by rw [← hH4]; exact set_self hn3
  have hh4 := k4.at (k3.at hh2 id) (show H.size ≠ h2.size by omega)
  have l33 : ∀ g : Heap, g[H.size]? = some (.cells (Value.int .i64 s :: bcells r).toArray T_head_Head (0, 0)) → ldN 33 g (Ptr H.size 0) = some (.agg (Value.int .i64 s :: bcells r).toArray) := fun g hg => ldN_mid (A := []) (B := Value.int .i64 s :: bcells r) (C := []) (by rw [List.nil_append, List.append_nil]; exact hg) rfl (by simp [hr])
  simp only [l33 h4 hh4, Mpu_some, fld_ptr, Nat.zero_add]
  have h33one : (Value.int .i64 s :: bcells r).toArray.all (·.oneCell') = true := all_of fun c hc => by
    rcases List.mem_cons.1 hc with rfl | hc
    · rfl
    · exact bcells_one c hc
  have hst := stN_mid (n := 33) (o := 3) (A := [Value.int .i64 1, .slice none 0 0, va]) (B := Value.int .i64 0 :: bcells zeroH) (C := []) (B' := Value.int .i64 s :: bcells r) (by rw [List.append_nil]; exact hn4) rfl (by simp [zeroH]) (by simp [hr]) h33one
  rw [List.append_nil] at hst
  have hrec : [Value.int .i64 1, Value.slice none 0 0, va] ++ (Value.int .i64 s :: bcells r) = recC 1 (.slice none 0 0) va s r := rfl
  rw [hrec] at hst
  rw [show (Value.pointer (some ⟨h2.size, 3, none⟩)) = Ptr h2.size 3 from rfl, hst, Mwr_some]
  generalize hH5 : h4.setIfInBounds h2.size (.cells (recC 1 (.slice none 0 0) va s r).toArray T_history_Record (0, 0)) = h5
  have k5 : Keep (· = h2.size) h4 h5 := by rw [← hH5]; exact Keep.set rfl
  have hs5 : h5.size = h4.size := by rw [← hH5]; simp
  have hn5 : h5[h2.size]? = some (.cells (recC 1 (.slice none 0 0) va s r).toArray T_history_Record (0, 0)) := by rw [← hH5]; exact set_self hn4
  have hh5 := k5.at hh4 (show H.size ≠ h2.size by omega)
  have l0 : ∀ g : Heap, g[H.size]? = some (.cells (Value.int .i64 s :: bcells r).toArray T_head_Head (0, 0)) → ld1 g (Ptr H.size 0) = some (.int .i64 s) := fun g hg => ld_l hg rfl
  have k05 : Keep (fun _ => False) H h5 := ⟨by omega, fun i hi _ => by rw [k5.2 i (by omega) (by omega), k4.2 i (by omega) (by omega), k3.2 i (by omega) id, k2.2 i (by omega) id, k1.2 i hi id]⟩
  have hit5 : Items (New H1 h2) h5 va [oneI] := (((hit.keep k3 fun _ _ => id).keep k4 fun b hb e => by have := hb.2; omega).keep k5 fun b hb e => by have := hb.2; omega)
  simp only [ld36 hn5 (recC_len hr), Mpu_some, l0 h5 hh5, binV_int, intV]
  refine call_i (c_RecRight (a := ⟨1, [], [oneI], s, r⟩) (vb := .slice none 0 0) (va := va) (P := New H1 h2) items0 hit5 (fun b hb => by have := hb.2; omega) hr (by simp) (by simp)) ?_
  rintro _ h6 ⟨rfl, k6⟩
  have hh6 := k6.at hh5 id
  have hok : recOk ⟨1, [], [oneI], s, r⟩ = headOk s := by
    have h1 : itemsOk [] = true := by decide +kernel
    have h2 : itemsOk [oneI] = true := by decide +kernel
    unfold recOk
    simp [h1, h2]
  simp only [l0 h6 hh6, Mre_cons, Mre_nil, true_and, J1_eq, Mif_bool, decide_eq_true_eq, Mpu_some, binV_int, intV, hok]
  have k06 := k05.trans k6
  have hT6 := hT.keep k06 fun _ h => h.elim
  have hbb : ∀ b : Bool, binV .bool .eql (.bool b) (.bool b) = some (.bool true) := fun b => by cases b <;> rfl
  have fin : ∀ b : Bool, Mpu (binV .bool .eql (.bool b) (.bool b)) fun t17 => Mif t17 true (Mcall prg f_syngraphlaw22_awake [] h6 fun t19 h10 => Mpu (pickV t17 t19 (.bool false)) fun t20 => t20 = .bool true ∧ Keep (fun _ => False) H h10)
      (Mpu (pickV t17 undef (.bool false)) fun t20 => t20 = .bool true ∧ Keep (fun _ => False) H h6) := fun b => by
    rw [hbb, Mpu_some, Mif_bool, if_pos rfl]
    refine call_i (c_awake22 hT6) ?_
    rintro _ h7 ⟨rfl, k7⟩
    simp only [pickV_bool, if_true, Mpu_some]
    exact ⟨by trivial, k06.trans k7⟩
  unfold headOk
  by_cases h0 : s ≥ 0
  · have := fin (decide (s ≤ 1048576))
    simpa only [h0, decide_true, if_true, pickV_bool, Mpu_some, Bool.true_and] using this
  · have := fin false
    simpa only [h0, decide_false, if_false, pickV_bool, Mpu_some, Bool.false_and, Bool.false_eq_true] using this

end Go.Proofs.YtmhfanpijdgkjaaDoor
