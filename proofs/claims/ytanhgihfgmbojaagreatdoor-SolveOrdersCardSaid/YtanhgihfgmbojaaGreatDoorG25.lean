/- JOINED: V191 P11 -/
import Derived.Test.YtanhgihfgmbojaaGreatDoorG24
import Derived.Test.YtanhgihfgmbojaaGreatDoorG7
import Derived.Test.YtanhgihfgmbojaaGreatDoorGX
set_option linter.unusedSimpArgs false
set_option linter.unusedVariables false
/- solve: Order. -/
namespace Go.Proofs.YtanhgihfgmbojaaGreatDoor
open Go.X Go.X.Diff
set_option maxRecDepth 100000
set_option linter.unusedSimpArgs false
set_option linter.unusedVariables false

theorem erase_at : ∀ {l : List Nat} {i k : Nat}, l.Nodup → l[i]? = some k → l.take i ++ l.drop (i + 1) = l.erase k
  | [], i, k, _, h => by simp at h
  | a :: l, 0, k, _, h => by
    simp at h; subst h; simp
  | a :: l, i + 1, k, hn, h => by
    obtain ⟨h1, h2⟩ := List.nodup_cons.1 hn
    have hk : l[i]? = some k := by simpa using h
    have hne : ¬ a = k := fun e => h1 (by rw [e]; exact List.mem_of_getElem? hk)
    rw [List.take_succ_cons, List.drop_succ_cons, List.cons_append, erase_at h2 hk, List.erase_cons_tail (by simpa using hne)]
def OrdU (hv : List Man) (wants : List Dep) (b : Int) (H H' : Heap) (z : List Int) (u : Value) : Prop := ((probOk hv wants b && rightB hv wants z) = false ∧ u = .slice none 0 0) ∨ ∃ c, z = zs c ∧ probOk hv wants b = true ∧ RightC hv wants c ∧ SlE 1 (fun b => H.size ≤ b ∧ b < H'.size) H' u (ints (zs (orderF hv (sortedF hv c).length (sortedF hv c))))
set_option maxHeartbeats 4000000 in
theorem c_Order {P Q : Nat → Prop} {H : Heap} {mv : List MV} {wants : List Dep} {vh vw vc : Value} {b : Int} {z : List Int} (hp : Prb P H mv wants vh vw) (hP : ∀ b, P b → b < H.size) (hc : SlE 1 Q H vc (ints z)) (hQ : ∀ b, Q b → b < H.size) (hl : mv.length ≤ 12) (hwl : wants.length ≤ 64) (hzl : z.length ≤ 1000000) (hO : OpsT H) :
    HCalls prg f_solve_Order [.agg (prbC vh vw b).toArray, vc] H fun u H' => OrdU (hvOf mv) wants b H H' z u ∧ Keep (fun _ => False) H H' := by
  apply sh_solve_Order_calls
  unfold sh_solve_Order
  simp only [Cells_agg, Mnew_some]
  generalize hH1 : H.push (.cells (prbC vh vw b).toArray T_solve_Problem (0, 0)) = H1
  have k1 : Keep (fun _ => False) H H1 := by rw [← hH1]; exact Keep.push
  have a1 : At H1 H.size (prbC vh vw b) := by rw [← hH1]; exact At.push
  have s1 : H1.size = H.size + 1 := by rw [← hH1]; simp
  have hvl : (hvOf mv).length = mv.length := by simp
  rw [a1.ldN (n := 3) rfl, Mpu_some]
  refine call_i (c_Right (hp.keep k1 fun _ _ => id) (fun b hb => by have := hP b hb; omega) (hc.keep k1 fun _ _ => id) (fun b hb => by have := hQ b hb; omega) (by omega) hwl hzl (hO.keep k1 fun _ h => h.elim)) ?_
  rintro _ h2 ⟨rfl, k2⟩
  have k02 := k1.trans k2
  rw [unV_not, Mpu_some, Mcd_bool]
  cases hrb : (probOk (hvOf mv) wants b && rightB (hvOf mv) wants z)
  · rw [if_pos (by rfl)]
    exact ⟨.inl ⟨hrb, rfl⟩, k02⟩
  rw [if_neg (by decide)]
  obtain ⟨w1, w2⟩ := Bool.and_eq_true_iff.1 hrb
  obtain ⟨c, rfl, hR⟩ := rightB_iff.1 w2
  have hcl := hR.nm.len
  have hNs := hR.nm.sorted
  have hsl : (sortedF (hvOf mv) c).length ≤ 12 := by have := hNs.len; omega
  have g2 := k02.1
  have g12 := k2.1
  refine J2_i (fun t5 _ h => (∃ F5, (∀ b, F5 b → H1.size ≤ b ∧ b < h.size) ∧ BufE 1 F5 h t5 (ints (zs (orderF (hvOf mv) (sortedF (hvOf mv) c).length (sortedF (hvOf mv) c))))) ∧ Keep (fun _ => False) H1 h) (fun k3 hk3 => ?_) ?_
  rotate_left
  · rintro t5 _ h4 ⟨⟨F5, hF, hb5⟩, k4⟩
    exact ⟨.inr ⟨c, rfl, w1, hR, hb5.sl.mono fun b hb => ⟨by have := (hF b hb).1; omega, (hF b hb).2⟩⟩, k1.trans k4⟩
  rw [(a1.keep k2 id).ldN (n := 3) rfl, Mpu_some]
  refine call_i (c_sorted (hp.keep k02 fun _ _ => id) (fun b hb => Nat.lt_of_lt_of_le (hP b hb) k02.1) (hc.keep k02 fun _ _ => id) hR.nm.1 (by omega)) ?_
  rintro t14 h5 ⟨hb14, k5⟩
  have k15 := k2.trans k5
  let I : Value → Value → Heap → Prop := fun t5 t6 h => ∃ (out left : List Nat) (F5 F6 : Nat → Prop), out ++ orderF (hvOf mv) left.length left = orderF (hvOf mv) (sortedF (hvOf mv) c).length (sortedF (hvOf mv) c) ∧ Names (hvOf mv) left ∧ out.length + left.length ≤ 12 ∧ (∀ b, F5 b → H1.size ≤ b ∧ b < h.size ∧ ¬ F6 b) ∧ (∀ b, F6 b → H1.size ≤ b ∧ b < h.size) ∧ BufE 1 F5 h t5 (ints (zs out)) ∧ BufE 1 F6 h t6 (ints (zs left))
  refine L2_i (fun t5 t6 h => I t5 t6 h ∧ Keep (fun _ => False) H1 h) (fun _ t6 _ => match t6 with | .slice _ n _ => n | _ => 0)
    ⟨⟨[], sortedF (hvOf mv) c, fun _ => False, fun b => h2.size ≤ b ∧ b < h5.size, rfl, hNs, by simpa using hsl, fun b hb => hb.elim, fun b hb => ⟨by omega, hb.2⟩, BufE.nil, hb14⟩, k15⟩ ?_
  rintro t5 t6 h ⟨⟨out, left, F5, F6, hout, hN, hlen, hF5, hF6, hb5, hb6⟩, kh⟩ k6 hk6
  have k0h := k1.trans kh
  have ll := hb6.sl.len
  rw [ints_len, zs_len] at ll
  rw [ll, Mpu_some, show binV .no .gtr (.int .i64 (left.length : Nat)) (.int .i64 0) = some (.bool (decide (left.length > 0))) from gtNn (m := 0), Mpu_some, Mcd_bool]
  by_cases hne : left = []
  · subst hne
    rw [if_neg (by decide)]
    rw [show orderF (hvOf mv) ([] : List Nat).length [] = [] from rfl, List.append_nil] at hout
    exact hk3 _ _ _ ⟨⟨F5, fun b hb => ⟨(hF5 b hb).1, (hF5 b hb).2.1⟩, by rw [← hout]; exact hb5⟩, kh⟩
  have hpos : left.length > 0 := List.length_pos_iff.2 hne
  rw [if_pos (by simpa using hpos), (a1.keep kh id).ldN (n := 3) rfl, Mpu_some]
  refine call_i (c_ready (hp.keep k0h fun _ _ => id) hb6.sl hN (by omega)) ?_
  rintro _ h8 ⟨⟨i, rfl, hi⟩, k8⟩
  have hgi := hi hne
  have hil := (List.getElem?_eq_some_iff.1 hgi).1
  generalize hpk : pickF (hvOf mv) left = pk at hgi
  have hb6' := hb6.keep k8 fun _ _ => id
  have hb5' := hb5.keep k8 fun _ _ => id
  obtain ⟨p, o, hix, hpt, _⟩ := hb6'.sl.at (i := i) (x := [.int .i64 (pk : Int)]) (ints_get (zs_get hgi))
  rw [hix .i64, Mpu_some, hpt.cell0 rfl, Mpu_some, bslI1', Mnews_some]
  generalize hH9 : h8.push (.cells #[.int .i64 (pk : Nat)] T_int (0, 0)) = h9
  have k9 : Keep (fun _ => False) h8 h9 := by rw [← hH9]; exact Keep.push
  have hx9 : SlE 1 (· = h8.size) h9 (.slice (some ⟨h8.size, 0, none⟩) 1 1) (ints [(pk : Int)]) :=
    ⟨⟨_, 1, rfl, Nat.le_refl _, .inr ⟨h8.size, 0, rfl, rfl, by rw [rows1_flat, ← hH9]; exact Pt.of push_new⟩⟩, rows1_el, rows1_one fun v hv => by simp at hv; subst hv; rfl⟩
  have k89 := k8.trans k9
  have g89 := k89.1
  have kh9 := kh.trans k89
  refine ((hb5'.keep k9 fun _ _ => id).mono (G := fun b => F5 b ∨ h9.size ≤ b) fun b hb => .inl hb).app hx9 (by omega) (by rw [ints_len, ints_len, zs_len, List.length_singleton]; omega) (.inr (Nat.le_refl _)) fun t27 h10 hb27 k10 => ?_
  have kh10 : Keep (fun _ => False) H1 h10 := kh9.fresh k10 fun b hb => hb.elim (fun hb => (hF5 b hb).1) fun hb => by have := kh9.1; omega
  have hb6i := (hb6'.keep k9 fun _ _ => id).keep k10 fun b hb hb' => hb'.elim (fun hb' => (hF5 b hb').2.2 hb) fun hb' => by have := (hF6 b hb).2; omega
  have g10 := k10.1
  rw [add_one' (by omega), Mpu_some]
  refine call_i (c_DeleteI hb6i (by rw [zs_len]; exact hil) (by rw [zs_len]; omega)) ?_
  rintro t32 h11 ⟨hb32, k11⟩
  have e32 : (zs left).take i ++ (zs left).drop (i + 1) = zs (left.erase pk) := by
    rw [← erase_at hN.nodup hgi]; simp [zs, List.map_take, List.map_drop]
  rw [e32] at hb32
  have g11 := k11.1
  have hb27' := BufE.re (G := fun b => (F5 b ∨ h9.size ≤ b) ∧ b < h10.size) hb27 fun b hb hF => ⟨hF, hb⟩
  have dis : ∀ b, (F5 b ∨ h9.size ≤ b) ∧ b < h10.size → ¬ F6 b := fun b hb hb' => hb.1.elim (fun h5 => (hF5 b h5).2.2 hb') fun h9' => by have := (hF6 b hb').2; omega
  have eints : ints (zs (out ++ [pk])) = ints (zs out) ++ ints [(pk : Int)] := by simp [zs, rows1]
  have hmem : pk ∈ left := List.mem_of_getElem? hgi
  have hel := List.length_erase_of_mem hmem
  have hNe : Names (hvOf mv) (left.erase pk) := ⟨fun k hk => hN.1 k (List.mem_of_mem_erase hk), (hN.2.sublist (List.Sublist.map _ List.erase_sublist))⟩
  refine hk6 _ _ _ ⟨⟨out ++ [pk], left.erase pk, fun b => (F5 b ∨ h9.size ≤ b) ∧ b < h10.size, F6, ?_, hNe, ?_, fun b hb => ⟨hb.1.elim (fun hb => (hF5 b hb).1) fun hb => by have := kh9.1; omega, by have := hb.2; omega, dis b hb⟩, fun b hb => ⟨(hF6 b hb).1, by have := (hF6 b hb).2; omega⟩, ?_, hb32⟩, kh10.fresh k11 fun b hb => (hF6 b hb).1⟩ ?_
  · rw [← hout, orderF_cons hne, hpk, List.append_assoc]; rfl
  · rw [List.length_append, List.length_singleton, hel]; omega
  · rw [eints]; exact hb27'.keep k11 dis
  · obtain ⟨p32, c32, e32'⟩ := hb32.sl.shape
    obtain ⟨p6, c6, e6⟩ := hb6.sl.shape
    rw [ints_len, zs_len] at e32' e6
    rw [e32', e6]
    show (left.erase pk).length < left.length
    omega
end Go.Proofs.YtanhgihfgmbojaaGreatDoor

/- solve: the reference's order, by places, is orderF. -/
namespace Go.Proofs.YtanhgihfgmbojaaGreatDoor
open Go.X Go.X.Diff
set_option maxRecDepth 100000

def fL (L : List Nat) (i : Nat) : Nat := L.getD i 0
def remR (n : Nat) (bs : List Bool) : List Nat := (List.range n).filter fun i => !bs.getD i false
def leftF (L : List Nat) (bs : List Bool) : List Nat := (remR L.length bs).map (fL L)
def namesM (m : Man) (nm : List UInt8) : Bool := m.deps.any fun d => decide (d.name = nm)
def freeI (hv : List Man) (L : List Nat) (bs : List Bool) (i : Nat) : Bool := (List.range L.length).all fun k => bs.getD k false || decide (k = i) || !namesM (gM hv (fL L i)) (gM hv (fL L k)).name
section
variable {hv : List Man} {L : List Nat} {bs : List Bool} {i : Nat}
theorem mem_rem {n : Nat} : i ∈ remR n bs ↔ i < n ∧ bs.getD i false = false := by
  unfold remR
  rw [List.mem_filter, List.mem_range]
  simp
theorem fL_at (h : i < L.length) : fL L i = L[i] := by unfold fL; rw [List.getD_eq_getElem?_getD, List.getElem?_eq_getElem h]; rfl
theorem fL_inj (hn : L.Nodup) {j : Nat} (hi : i < L.length) (hj : j < L.length) (e : fL L i = fL L j) : i = j := by
  rw [fL_at hi, fL_at hj] at e
  have hp := List.pairwise_iff_getElem.1 hn
  rcases Nat.lt_trichotomy i j with h | h | h
  · exact absurd e (hp i j hi hj h)
  · exact h
  · exact absurd e.symm (hp j i hj hi h)
theorem freeI_eq (hn : L.Nodup) (hi : i ∈ remR L.length bs) : freeI hv L bs i = freeF hv (leftF L bs) (fL L i) := by
  have hil := (mem_rem.1 hi).1
  rw [Bool.eq_iff_iff]
  unfold freeI freeF namesM leftF
  simp only [List.all_eq_true, List.mem_range, Bool.or_eq_true, decide_eq_true_eq, Bool.not_eq_true', List.any_eq_false, List.any_eq_true, Bool.and_eq_true, not_exists, not_and, List.mem_map, decide_eq_false_iff_not]
  constructor
  · rintro h d hd j ⟨k, hk, rfl⟩ hnm hne
    obtain ⟨hkl, hkb⟩ := mem_rem.1 hk
    rcases h k hkl with (h1 | h1) | h1
    · rw [hkb] at h1; cases h1
    · exact hne (by rw [h1])
    · exact h1 d hd hnm.symm
  · intro h k hkl
    by_cases hkb : bs.getD k false = true
    · exact .inl (.inl hkb)
    · by_cases hki : k = i
      · exact .inl (.inr hki)
      · refine .inr fun d hd hdn => h d hd _ ⟨k, mem_rem.2 ⟨hkl, by simpa using hkb⟩, rfl⟩ hdn.symm fun e => hki (fL_inj hn hkl hil e)
def firstI (n : Nat) (bs : List Bool) : Option Nat := (List.range n).find? fun i => !bs.getD i false
def readyI (hv : List Man) (L : List Nat) (bs : List Bool) (n : Nat) : Option Nat := (List.range n).find? fun i => !bs.getD i false && freeI hv L bs i
theorem find_succ {p : Nat → Bool} {n : Nat} : (List.range (n + 1)).find? p = ((List.range n).find? p).or (if p n then some n else none) := by
  rw [List.range_succ, List.find?_append]
  congr 1
  rw [List.find?_cons]
  cases p n <;> rfl
theorem find_filter {p q : Nat → Bool} : ∀ {l : List Nat}, (l.filter p).find? q = l.find? fun i => p i && q i
  | [] => rfl
  | a :: l => by
    rw [List.filter_cons]
    cases hp : p a
    · rw [if_neg (by decide), find_filter, List.find?_cons, hp]; rfl
    · rw [if_pos rfl, List.find?_cons, List.find?_cons, hp, find_filter, Bool.true_and]
theorem find_congr {p q : Nat → Bool} : ∀ {l : List Nat}, (∀ i ∈ l, p i = q i) → l.find? p = l.find? q
  | [], _ => rfl
  | a :: l, h => by
    rw [List.find?_cons, List.find?_cons, h a (by simp), find_congr fun i hi => h i (by simp [hi])]
theorem find_mapN {f : Nat → Nat} {p : Nat → Bool} : ∀ {l : List Nat}, (l.map f).find? p = (l.find? fun i => p (f i)).map f
  | [] => rfl
  | a :: l => by
    rw [List.map_cons, List.find?_cons, List.find?_cons]
    cases hp : p (f a)
    · simp only; exact find_mapN
    · simp only; rfl
theorem head_first : (remR L.length bs).head? = firstI L.length bs := by
  unfold remR firstI
  induction (List.range L.length) with
  | nil => rfl
  | cons a l ih =>
    rw [List.filter_cons, List.find?_cons]
    cases hp : !bs.getD a false
    · rw [if_neg (by decide)]; exact ih
    · rw [if_pos rfl]; rfl
theorem pick_I (hn : L.Nodup) (hne : remR L.length bs ≠ []) : ∃ p, (readyI hv L bs L.length).or (firstI L.length bs) = some p ∧ p ∈ remR L.length bs ∧ pickF hv (leftF L bs) = fL L p := by
  have h1 : (leftF L bs).find? (freeF hv (leftF L bs)) = (readyI hv L bs L.length).map (fL L) := by
    show ((remR L.length bs).map (fL L)).find? (freeF hv (leftF L bs)) = _
    rw [find_mapN]
    congr 1
    unfold readyI
    rw [← find_filter (p := fun i => !bs.getD i false) (q := freeI hv L bs)]
    exact find_congr fun i hi => (freeI_eq hn hi).symm
  unfold pickF
  rw [h1]
  cases hr : readyI hv L bs L.length with
  | some p =>
    refine ⟨p, rfl, ?_, rfl⟩
    have hm := List.mem_of_find?_eq_some hr
    have hp := List.find?_some hr
    rw [Bool.and_eq_true] at hp
    exact mem_rem.2 ⟨List.mem_range.1 hm, by simpa using hp.1⟩
  | none =>
    rw [← head_first]
    cases hrem : remR L.length bs with
    | nil => exact absurd hrem hne
    | cons a l =>
      refine ⟨a, rfl, by simp, ?_⟩
      unfold leftF
      rw [hrem]; rfl
theorem rem_set (hn : L.Nodup) {p : Nat} (hb : bs.length = L.length) (hp : p ∈ remR L.length bs) : leftF L (bs.set p true) = (leftF L bs).erase (fL L p) := by
  have hpl := (mem_rem.1 hp).1
  have hrn : (remR L.length bs).Nodup := List.nodup_range.filter _
  have h1 : remR L.length (bs.set p true) = (remR L.length bs).filter (· != p) := by
    unfold remR
    rw [List.filter_filter]
    refine List.filter_congr fun i hi => ?_
    rw [List.getD_eq_getElem?_getD, List.getElem?_set, List.getD_eq_getElem?_getD]
    by_cases e : p = i
    · subst e; simp [hb, hpl]
    · rw [if_neg e]
      have : (i != p) = true := by simpa using fun h => e h.symm
      rw [this, Bool.true_and]
  have hln : (leftF L bs).Nodup := by
    unfold leftF
    refine List.pairwise_map.2 (List.Pairwise.imp_of_mem ?_ hrn)
    intro a b ha hb' hab e
    exact hab (fL_inj hn (mem_rem.1 ha).1 (mem_rem.1 hb').1 e)
  rw [hln.erase_eq_filter]
  unfold leftF
  rw [h1, List.filter_map]
  congr 1
  refine List.filter_congr fun i hi => ?_
  rw [Bool.eq_iff_iff]
  simp only [bne_iff_ne, ne_eq, Function.comp]
  constructor
  · exact fun h e => h (fL_inj hn (mem_rem.1 hi).1 hpl e)
  · exact fun h e => h (by rw [e])
end
end Go.Proofs.YtanhgihfgmbojaaGreatDoor

