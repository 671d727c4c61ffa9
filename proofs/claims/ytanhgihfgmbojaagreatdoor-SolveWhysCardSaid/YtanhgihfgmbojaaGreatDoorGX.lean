/- JOINED: V165 V166 -/
import Derived.Test.YtanhgihfgmbojaaGreatDoorG9
set_option linter.unusedSimpArgs false
set_option linter.unusedVariables false
/- slices.SortFunc of at most twelve ints; newest, sorted. -/
namespace Go.Proofs.YtanhgihfgmbojaaGreatDoor
open Go.X Go.X.Diff
set_option maxRecDepth 100000
set_option linter.unusedSimpArgs false
set_option linter.unusedVariables false

theorem c_LenSmall {H : Heap} {u : Nat} (hu : u < 256) : HCalls prg f_math_bits_Len [.int .u64 (u : Nat)] H fun v H' => (∃ m : Nat, v = .int .i64 (m : Nat)) ∧ H = H' := by
  apply sh_math_bits_Len_calls
  unfold sh_math_bits_Len
  rw [Mcd_bool, if_neg (by decide)]
  refine call_i (R := fun v H' => (∃ m : Nat, v = .int .i64 (m : Nat)) ∧ H = H') ?_ fun v h hR => hR
  apply sh_math_bits_Len64_calls
  unfold sh_math_bits_Len64
  have ge : ∀ (b : Nat), u < b → binV .no .geq (.int .u64 (u : Nat)) (.int .u64 (b : Nat)) = some (.bool false) := fun b hb => by
    rw [binV_int]; simp only [intV]; rw [decide_eq_false (by omega)]
  have g1 : binV .no .geq (.int .u64 (u : Nat)) (.int .u64 4294967296) = some (.bool false) := ge 4294967296 (by omega)
  have g2 : binV .no .geq (.int .u64 (u : Nat)) (.int .u64 65536) = some (.bool false) := ge 65536 (by omega)
  have g3 : binV .no .geq (.int .u64 (u : Nat)) (.int .u64 256) = some (.bool false) := ge 256 (by omega)
  simp only [J2_eq, g1, g2, g3, Mpu_some, Mcd_bool, Bool.false_eq_true, if_false]
  exact len_tail (R := fun v _ => (∃ m : Nat, v = .int .i64 (m : Nat)) ∧ True) (H := H) (off := 0) (x := u) hu (by omega) ⟨⟨_, rfl⟩, trivial⟩

/-- a comparison of what stands in xs; G: what is known of the heap -/
def CmpI (fv : Value) (xs : List Int) (lt : Int → Int → Bool) (G : Heap → Prop) : Prop := ∀ (a b : Int) (h : Heap), a ∈ xs → b ∈ xs → G h → Mcallv prg fv [.int .i64 a, .int .i64 b] h fun u h' => (∃ n : Int, u = .int .i64 n ∧ decide (n < 0) = lt a b) ∧ Keep (fun _ => False) h h'
theorem ints_set {l : List Int} {i : Nat} {n : Int} : (ints l).set i [.int .i64 n] = ints (l.set i n) := by simp [rows1, List.map_set]
theorem ints_get {l : List Int} {i : Nat} {n : Int} (h : l[i]? = some n) : (ints l)[i]? = some [.int .i64 n] := rows1_get (by rw [List.getElem?_map, h]; rfl)
theorem ints_len {l : List Int} : (ints l).length = l.length := by simp
theorem swap_set {A R : List Int} {x y : Int} : ((A ++ y :: x :: R).set (A.length + 1) y).set A.length x = A ++ x :: y :: R := by
  rw [List.set_append_right _ _ (by omega)]
  rw [show A.length + 1 - A.length = 1 by omega]
  rw [List.set_append_right _ _ (by omega), Nat.sub_self]
  rfl
theorem subN1 {i : Nat} (h : i + 1 ≤ 9223372036854775807) : binV .no .sub (.int .i64 ((i + 1 : Nat) : Int)) (.int .i64 1) = some (.int .i64 (i : Nat)) := by
  rw [binV_int]; simp only [intV]; rw [wrap_id (by omega) (by omega)]; congr 2; omega
theorem isort_one {α : Type} {lt : α → α → Bool} {x : α} : isort lt [x] = [x] := rfl
theorem insR_cons {α : Type} {lt : α → α → Bool} {x y : α} {ys : List α} : insR lt x (y :: ys) = if lt x y = true then y :: insR lt x ys else x :: y :: ys := by rw [insR]

set_option maxHeartbeats 2000000 in
theorem c_insertion {F G : Heap → Prop} {Fb : Nat → Prop} {H : Heap} {v fv : Value} {xs : List Int} {lt : Int → Int → Bool} (hv : BufE 1 Fb H v (ints xs)) (hc : CmpI fv xs lt G) (hG : ∀ h, Keep Fb H h → G h) (hl : xs.length ≤ 1000) :
    HCalls prg f_slices_insertionSortCmpFunc_int [v, .int .i64 0, .int .i64 (xs.length : Nat), fv] H fun _ H' => BufE 1 Fb H' v (ints (isort lt xs)) ∧ Keep Fb H H' := by
  apply sh_slices_insertionSortCmpFunc_int_calls
  unfold sh_slices_insertionSortCmpFunc_int
  have e01 : binV .no .add (.int .i64 0) (.int .i64 1) = some (.int .i64 ((1 : Nat) : Int)) := rfl
  rw [e01, Mpu_some]
  have hx0 : xs = isort lt (xs.take 1) ++ xs.drop 1 := by
    cases xs with
    | nil => rfl
    | cons a l => simp [isort_one]
  refine L1_i (fun u h => ∃ i : Nat, 1 ≤ i ∧ i ≤ xs.length + 1 ∧ u = .int .i64 (i : Nat) ∧ BufE 1 Fb h v (ints (isort lt (xs.take i) ++ xs.drop i)) ∧ Keep Fb H h) (fun u _ => match u with | .int _ t => xs.length + 1 - t.toNat | _ => 0) ⟨1, Nat.le_refl _, by omega, rfl, by rw [← hx0]; exact hv, Keep.refl⟩ ?_
  rintro _ h ⟨i, hi1, hi, rfl, hb, kh⟩ kk hkk
  rw [ltNn, Mpu_some, Mcd_bool]
  by_cases hlt : i < xs.length
  rotate_left
  · rw [if_neg (by simpa using hlt)]
    rw [List.take_of_length_le (by omega), List.drop_eq_nil_of_le (by omega), List.append_nil] at hb
    exact ⟨hb, kh⟩
  rw [if_pos (by simpa using hlt)]
  have hg : xs[i]? = some xs[i] := List.getElem?_eq_getElem hlt
  have hmx : xs[i] ∈ xs := List.getElem_mem hlt
  have hdr : xs.drop i = xs[i] :: xs.drop (i + 1) := List.drop_eq_getElem_cons hlt
  have htk : xs.take (i + 1) = xs.take i ++ [xs[i]] := by rw [List.take_add_one, hg]; rfl
  have hlen : (isort lt (xs.take i)).length = i := by rw [isort_len, List.length_take]; omega
  have hmem : ∀ y ∈ isort lt (xs.take i), y ∈ xs := fun y hy => List.mem_of_mem_take (isort_mem.1 hy)
  have hins : isort lt (xs.take (i + 1)) = (insR lt xs[i] (isort lt (xs.take i)).reverse).reverse := by
    rw [htk]; unfold isort
    rw [isortR_snoc, List.reverse_reverse]
  rw [hdr] at hb
  generalize xs[i] = x at *
  generalize hS : isort lt (xs.take i) = S at *
  generalize hR : xs.drop (i + 1) = R at *
  refine J2_i (fun _ _ h' => BufE 1 Fb h' v (ints (isort lt (xs.take (i + 1)) ++ R)) ∧ Keep Fb H h') (fun k3 hk3 => ?_) ?_
  rotate_left
  · rintro _ _ h' ⟨hb', kh'⟩
    rw [add_one' (by omega), Mpu_some]
    exact hkk _ _ ⟨i + 1, by omega, by omega, rfl, by rw [hR]; exact hb', kh'⟩ (by show xs.length + 1 - (i + 1) < xs.length + 1 - i; omega)
  refine L1_i (fun u h' => ∃ (A B : List Int), u = .int .i64 (A.length : Nat) ∧ S = A ++ B ∧ insR lt x S.reverse = B.reverse ++ insR lt x A.reverse ∧ BufE 1 Fb h' v (ints (A ++ x :: (B ++ R))) ∧ Keep Fb H h') (fun u _ => match u with | .int _ t => t.toNat | _ => 0) ⟨S, [], by rw [hlen], by simp, by simp, by simpa using hb, kh⟩ ?_
  rintro _ h' ⟨A, B, rfl, hAB, hin, hb', kh'⟩ k5 hk5
  have hAl : A.length ≤ 1000 := by
    have : S.length = A.length + B.length := by rw [hAB, List.length_append]
    omega
  have g0 : binV .no .gtr (.int .i64 (A.length : Nat)) (.int .i64 0) = some (.bool (decide (A.length > 0))) := gtNn (m := 0)
  rw [g0, Mpu_some]
  rcases List.eq_nil_or_concat A with rfl | ⟨A', y, hA⟩
  · refine J1_no (by decide) ?_
    rw [pickV_bool]
    show Mpu (some (.bool false)) _
    rw [Mpu_some, Mcd_bool, if_neg (by decide)]
    refine hk3 _ _ _ ⟨?_, kh'⟩
    have : isort lt (xs.take (i + 1)) = x :: B := by
      rw [hins, hin]; simp [insR]
    rw [this]; simpa using hb'
  · rw [List.concat_eq_append] at hA
    subst hA
    have hAl' : (A' ++ [y]).length = A'.length + 1 := by simp
    rw [hAl', decide_eq_true (by omega)]
    have eL : A' ++ [y] ++ x :: (B ++ R) = A' ++ y :: x :: (B ++ R) := by simp
    rw [eL] at hb'
    have gx : (A' ++ y :: x :: (B ++ R))[A'.length + 1]? = some x := by
      rw [List.getElem?_append_right (by omega)]; simp
    have gy : (A' ++ y :: x :: (B ++ R))[A'.length]? = some y := by
      rw [List.getElem?_append_right (by omega)]; simp
    have hym : y ∈ xs := hmem y (by rw [hAB]; simp)
    obtain ⟨bx, ox, hix, hpx, _⟩ := hb'.sl.at (ints_get gx)
    obtain ⟨by', oy, hiy, hpy, _⟩ := hb'.sl.at (ints_get gy)
    refine J1_yes rfl ?_
    rw [hix .i64, Mpu_some, hpx.cell0 rfl, Mpu_some, subN1 (by omega), Mpu_some, hiy .i64, Mpu_some, hpy.cell0 rfl, Mpu_some]
    refine (hc x y h' hmx hym (hG h' kh')).mono ?_
    rintro _ h8 ⟨⟨n, rfl, hn⟩, k8⟩
    have en : binV .no .lss (.int .i64 n) (.int .i64 0) = some (.bool (decide (n < 0))) := ltI
    have hb8 := hb'.keep k8 fun _ _ => id
    have kh8 : Keep Fb H h8 := kh'.trans (k8.mono fun _ _ h => h.elim)
    rw [en, Mpu_some, hn]
    show Mpu (pickV (.bool true) (.bool (lt x y)) (.bool false)) _
    rw [pickV_bool, if_pos rfl, Mpu_some, Mcd_bool]
    have hrev : (A' ++ [y]).reverse = y :: A'.reverse := by simp
    rw [hrev, insR_cons] at hin
    cases hxy : lt x y
    · rw [if_neg (by decide)]
      rw [hxy, if_neg (by decide)] at hin
      refine hk3 _ _ _ ⟨?_, kh8⟩
      have : isort lt (xs.take (i + 1)) = A' ++ y :: x :: B := by
        rw [hins, hin]; simp
      rw [this]; simpa using hb8
    · rw [if_pos rfl]
      rw [hxy, if_pos rfl] at hin
      obtain ⟨b1, o1, h10, i1, p1, st1', hb10, k10⟩ := hb8.st (ints_get gx) (j := 0) (by omega) (w := .int .i64 y) rfl
      have e1 : ([Value.int .i64 x]).set 0 (.int .i64 y) = [.int .i64 y] := rfl
      rw [e1, ints_set] at hb10
      have gy2 : ((A' ++ y :: x :: (B ++ R)).set (A'.length + 1) y)[A'.length]? = some y := by
        rw [List.getElem?_set_ne (by omega)]; exact gy
      obtain ⟨b2, o2, h11, i2, p2, st2', hb11, k11⟩ := hb10.st (ints_get gy2) (j := 0) (by omega) (w := .int .i64 x) rfl
      have e2 : ([Value.int .i64 y]).set 0 (.int .i64 x) = [.int .i64 x] := rfl
      rw [e2, ints_set, swap_set] at hb11
      have hpx8 := hpx.keep k8 id
      have hpy8 := hpy.keep k8 id
      have ly : ld1 h8 (Ptr by' oy) = some (.int .i64 y) := hpy8.cell0 rfl
      have lx : ld1 h8 (Ptr bx ox) = some (.int .i64 x) := hpx8.cell0 rfl
      simp only [Mpu_some, hiy .i64, hix .i64, ly, lx]
      have j1 : Ptr bx ox = Ptr b1 o1 := Option.some.inj ((hix .i64).symm.trans (i1 .i64))
      have j2 : Ptr by' oy = Ptr b2 o2 := Option.some.inj ((hiy .i64).symm.trans (i2 .i64))
      rw [Nat.add_zero] at st1' st2'
      rw [j1, st1', Mwr_some, j2, st2', Mwr_some]
      refine hk5 _ _ ⟨A', y :: B, rfl, by rw [hAB]; simp, ?_, by simpa using hb11, (kh8.trans k10).trans k11⟩ ?_
      · rw [hin]; simp
      · show A'.length < (A' ++ [y]).length; omega

theorem L5_once {body : (Value → Value → Value → Value → Value → Heap → Prop) → Value → Value → Value → Value → Value → Heap → Prop} {a b c d e : Value} {H : Heap} (hs : ∀ k : Value → Value → Value → Value → Value → Heap → Prop, body k a b c d e H) : L5 body a b c d e H := by
  refine ⟨fun vs h => vs = [a, b, c, d, e] ∧ h = H, fun _ _ => 0, ⟨rfl, rfl⟩, ?_⟩
  rintro vs h _ ⟨rfl, rfl⟩
  exact hs _
theorem c_SortInt {G : Heap → Prop} {Fb : Nat → Prop} {H : Heap} {v fv : Value} {xs : List Int} {lt : Int → Int → Bool} (hv : BufE 1 Fb H v (ints xs)) (hc : CmpI fv xs lt G) (hG : ∀ h, Keep Fb H h → G h) (hl : xs.length ≤ 12) :
    HCalls prg f_slices_SortFunc_S_int_int [v, fv] H fun _ H' => BufE 1 Fb H' v (ints (isort lt xs)) ∧ Keep Fb H H' := by
  apply sh_slices_SortFunc_S_int_int_calls
  unfold sh_slices_SortFunc_S_int_int
  have hlen := hv.sl.len
  rw [ints_len] at hlen
  have cv : cvI .u64 (.int .i64 (xs.length : Nat)) = some (.int .u64 (xs.length : Nat)) := by
    rw [cvI_int]
    congr 2
    simp only [IntKind.wrap, IntKind.bits, IntKind.signed]
    simp; omega
  rw [hlen, Mpu_some, cv, Mpu_some]
  refine call_i (c_LenSmall (by omega)) ?_
  rintro _ _ ⟨⟨m, rfl⟩, rfl⟩
  refine call_i (R := fun _ H' => BufE 1 Fb H' v (ints (isort lt xs)) ∧ Keep Fb H H') ?_ fun _ h hR => hR
  apply sh_slices_pdqsortCmpFunc_int_calls
  unfold sh_slices_pdqsortCmpFunc_int
  refine L5_once fun k => ?_
  have es : binV .no .sub (.int .i64 (xs.length : Nat)) (.int .i64 0) = some (.int .i64 (xs.length : Nat)) := by
    rw [binV_int]; simp only [intV]; rw [Int.sub_zero, wrap_id (by omega) (by omega)]
  have el : binV .no .leq (.int .i64 (xs.length : Nat)) (.int .i64 12) = some (.bool true) := by
    rw [binV_int]; simp only [intV]; rw [decide_eq_true (by omega)]
  rw [es, Mpu_some, el, Mpu_some, Mcd_bool, if_pos rfl]
  exact call_i (c_insertion (F := G) hv hc hG (by omega)) fun _ h hR => hR
end Go.Proofs.YtanhgihfgmbojaaGreatDoor

/- solve: Check; Clone, Concat; newest, sorted. -/
namespace Go.Proofs.YtanhgihfgmbojaaGreatDoor
open Go.X Go.X.Diff
set_option maxRecDepth 100000
set_option linter.unusedSimpArgs false
set_option linter.unusedVariables false

/- Check -/
def twinF (hv : List Man) (i : Nat) : Bool := (hv.take i).any fun o => decide (o.name = (gM hv i).name) && decide (o.ver = (gM hv i).ver)
def haveAt (hv : List Man) (i : Nat) : Bool := manOkG (gM hv i) && !twinF hv i
def wantsOk (ws : List Dep) : Bool := ws.all fun d => nameOk d.name && wantOk d.want
def probOk (hv : List Man) (ws : List Dep) (b : Int) : Bool := decide (0 ≤ b) && decide (b ≤ 65536) && (List.range hv.length).all (haveAt hv) && wantsOk ws
theorem z_Man' : zcells prg T_manifest_Manifest = some (manC ⟨[], zeroV, [], [], []⟩ nilS nilS nilS).toArray := by kernel_rfl
theorem zM_wf : (⟨[], zeroV, [], [], []⟩ : Man).wf := ⟨by simp, zeroV_wf, (fun d h => absurd h (by simp)), (fun d h => absurd h (by simp)), (fun d h => absurd h (by simp))⟩
theorem z_Dep' : zcells prg T_manifest_Dep = some (depC zeroD).toArray := by kernel_rfl
theorem mvC_one {P : Nat → Prop} {H : Heap} {x : MV} (h : ManV P H x.1 x.2.1 x.2.2.1 x.2.2.2) : ∀ c ∈ mvC x, c.oneCell' = true := h.one
def DelM (fv : Value) (xs : List MV) (del : Man → Bool) (G : Heap → Prop) : Prop := ∀ (x : MV) (h : Heap), x ∈ xs → G h → Mcallv prg fv [.agg (mvC x).toArray] h fun u h' => u = .bool (del x.1) ∧ Keep (fun _ => False) h h'
theorem c_ContainsMan {G : Heap → Prop} {P : Nat → Prop} {H : Heap} {v fv : Value} {xs : List MV} {del : Man → Bool} (hv : SlE 8 P H v (xs.map mvC)) (hw : ∀ x ∈ xs, x.1.wf) (hd : DelM fv xs del G) (hG : ∀ h, Keep (fun _ => False) H h → G h) (hl : xs.length ≤ 1099511627776) :
    HCalls prg f_slices_ContainsFunc_S_manifest_Manifest_manifest_Manifest [v, fv] H fun u H' => u = .bool (xs.any fun x => del x.1) ∧ Keep (fun _ => False) H H' := by
  apply sh_slices_ContainsFunc_S_manifest_Manifest_manifest_Manifest_calls
  unfold sh_slices_ContainsFunc_S_manifest_Manifest_manifest_Manifest
  refine call_i (R := fun u H' => Keep (fun _ => False) H H' ∧ ((u = .int .i64 (-1) ∧ ∀ x ∈ xs, del x.1 = false) ∨ ∃ (i : Nat) (x : MV), u = .int .i64 (i : Nat) ∧ x ∈ xs ∧ del x.1 = true)) ?_ ?_
  · apply sh_slices_IndexFunc_S_manifest_Manifest_manifest_Manifest_calls
    unfold sh_slices_IndexFunc_S_manifest_Manifest_manifest_Manifest
    have hlen := hv.len
    rw [List.length_map] at hlen
    refine J1_i (fun _ h => (∀ x ∈ xs, del x.1 = false) ∧ Keep (fun _ => False) H h) (fun k1 hk1 => ?_) ?_
    · rw [hlen, Mpu_some]
      refine L1_i (fun u h => ∃ i : Nat, i ≤ xs.length ∧ u = .int .i64 (i : Nat) ∧ (∀ x ∈ xs.take i, del x.1 = false) ∧ Keep (fun _ => False) H h) (fun u _ => match u with | .int _ t => xs.length - t.toNat | _ => 0) ⟨0, Nat.zero_le _, rfl, by simp, Keep.refl⟩ ?_
      rintro _ h ⟨i, hi, rfl, hno, kh⟩ k hk
      rw [ltNn, Mpu_some, Mcd_bool]
      by_cases hlt : i < xs.length
      · rw [if_pos (by simpa using hlt)]
        have hg : xs[i]? = some xs[i] := List.getElem?_eq_getElem hlt
        have hm : xs[i] ∈ xs := List.getElem_mem hlt
        generalize xs[i] = x at *
        obtain ⟨b, o, hix, hpt, _⟩ := (hv.keep kh fun _ _ => id).at (i := i) (x := mvC x) (by rw [List.getElem?_map, hg]; rfl)
        rw [hix .i64, Mpu_some, mv_agg hpt (hw x hm), Mpu_some]
        refine (hd x h hm (hG h kh)).mono ?_
        rintro _ h5 ⟨rfl, k5⟩
        rw [Mcd_bool]
        cases hdx : del x.1
        · rw [if_neg (by decide), add_one' (by omega), Mpu_some]
          refine hk _ _ ⟨i + 1, by omega, rfl, fun t ht => ?_, kh.trans k5⟩ (by show xs.length - (i + 1) < xs.length - i; omega)
          rw [List.take_add_one, hg] at ht
          rcases List.mem_append.1 ht with ht | ht
          · exact hno t ht
          · obtain rfl : t = x := by simpa using ht
            exact hdx
        · rw [if_pos rfl]
          exact ⟨kh.trans k5, .inr ⟨i, x, rfl, hm, hdx⟩⟩
      · rw [if_neg (by simpa using hlt)]
        rw [List.take_of_length_le (by omega)] at hno
        exact hk1 _ _ ⟨hno, kh⟩
    rintro _ h ⟨hno, kh⟩
    exact ⟨kh, .inl ⟨rfl, hno⟩⟩
  · rintro _ h1 ⟨k1, ⟨rfl, hno⟩ | ⟨i, x, rfl, hm, hx⟩⟩
    · have e : binV .no .geq (.int .i64 (-1)) (.int .i64 0) = some (.bool false) := rfl
      rw [e, Mpu_some]
      refine ⟨?_, k1⟩
      rw [List.any_eq_false.2 fun x hx => by simp [hno x hx]]
    · rw [geN0, Mpu_some]
      refine ⟨?_, k1⟩
      rw [List.any_eq_true.2 ⟨x, hm, hx⟩]
theorem hv_take {mv : List MV} {i : Nat} : (hvOf mv).take i = (mv.take i).map (·.1) := by simp [hvOf, List.map_take]
theorem _root_.Go.X.SlE.pre {n : Nat} {P : Nat → Prop} {H : Heap} {v : Value} {xs : List (List Value)} (h : SlE n P H v xs) {m : Nat} (hm : m ≤ xs.length) : ∃ u, slS n v none (some (.int .i64 (m : Nat))) none = some u ∧ SlE n P H u (xs.take m) := by
  by_cases hne : xs = []
  · subst hne
    have : m = 0 := by simpa using hm
    subst this
    obtain ⟨⟨a, c, rfl, hc, _⟩, _, _⟩ := h
    have hb : bnds 0 c none (some (.int .i64 0)) none = some (0, 0, c) := by simp [bnds, bnd]
    have e0 : ((0 : Nat) : Int) = 0 := rfl
    rw [e0]
    rcases a with _ | ⟨b, o, _ | sp⟩
    · exact ⟨.slice none 0 c, by simp [slS, hb], SlE.nil⟩
    · exact ⟨.slice (some ⟨b, if c = 0 then o else o + 0 * n, none⟩) 0 c, by simp [slS, hb], by simpa using SlE.nil⟩
    · exact ⟨.slice (some ⟨b, o, some sp⟩) 0 c, by simp [slS, hb], by simpa using SlE.nil⟩
  · obtain ⟨u, h1, h2⟩ := h.cut hne (lo := 0) (hi := m) (Nat.zero_le _) hm (l := none) (r := some (.int .i64 (m : Nat))) rfl (fun c hc => by simp [bnd]; omega)
    rw [List.drop_zero] at h2
    exact ⟨u, h1, h2⟩

set_option maxHeartbeats 4000000 in
theorem c_Check {P : Nat → Prop} {H : Heap} {mv : List MV} {wants : List Dep} {vh vw : Value} {b : Int} (hp : Prb P H mv wants vh vw) (hl : mv.length ≤ 256) (hwl : wants.length ≤ 64) (hO : OpsT H) :
    HCalls prg f_solve_Problem_Check [.agg (prbC vh vw b).toArray] H fun u H' => u = .int .i64 (if probOk (hvOf mv) wants b then 0 else 10) ∧ Keep (fun _ => False) H H' := by
  apply sh_solve_Problem_Check_calls
  unfold sh_solve_Problem_Check
  simp only [Cells_agg, Mnew_some, fld_ptr, Nat.zero_add, Nat.add_zero, Mpu_some]
  generalize hH1 : H.push (.cells (prbC vh vw b).toArray T_solve_Problem (0, 0)) = H1
  have k1 : Keep (fun _ => False) H H1 := by rw [← hH1]; exact Keep.push
  have a1 : At H1 H.size (prbC vh vw b) := by rw [← hH1]; exact At.push
  have d0 : ∀ h, Keep (fun _ => False) H1 h → ld1 h (Ptr H.size 0) = some vh := fun h k => (a1.keep k id).ld rfl
  have d1 : ∀ h, Keep (fun _ => False) H1 h → ld1 h (Ptr H.size 1) = some vw := fun h k => (a1.keep k id).ld rfl
  have d2 : ∀ h, Keep (fun _ => False) H1 h → ld1 h (Ptr H.size 2) = some (.int .i64 b) := fun h k => (a1.keep k id).ld rfl
  have lh := hp.h.len
  have lw := hp.w.len
  rw [List.length_map] at lh lw
  have hvl : (hvOf mv).length = mv.length := by simp
  have no : ∀ h, Keep (fun _ => False) H h → probOk (hvOf mv) wants b = false → (Value.int .i64 10 = .int .i64 (if probOk (hvOf mv) wants b then 0 else 10) ∧ Keep (fun _ => False) H h) := fun h kh hf => ⟨by rw [hf]; rfl, kh⟩
  have e1 : binV .no .gtr (.int .i64 (mv.length : Nat)) (.int .i64 256) = some (.bool false) := by
    rw [binV_int]; simp only [intV]; rw [decide_eq_false (by omega)]
  have e2 : binV .no .gtr (.int .i64 (wants.length : Nat)) (.int .i64 64) = some (.bool false) := by
    rw [binV_int]; simp only [intV]; rw [decide_eq_false (by omega)]
  rw [d0 _ Keep.refl, Mpu_some, lh, Mpu_some, e1, Mpu_some]
  refine J1_yes rfl ?_
  rw [d1 _ Keep.refl, Mpu_some, lw, Mpu_some, e2, Mpu_some]
  show Mpu (pickV (.bool false) (.bool true) (.bool false)) _
  rw [pickV_bool, if_neg (by decide), Mpu_some]
  refine J1_yes rfl ?_
  rw [d2 _ Keep.refl, Mpu_some, ltI, Mpu_some]
  show Mpu (pickV (.bool false) (.bool true) _) _
  rw [pickV_bool, if_neg (by decide), Mpu_some]
  cases q1 : decide (b < 0)
  rotate_left
  · simp only [J1_eq, Mif_bool, Bool.true_eq_false, if_false, pickV_bool, if_true, Mpu_some, Mcd_bool]
    refine no _ k1 ?_
    unfold probOk
    rw [decide_eq_false (show ¬ 0 ≤ b by have := of_decide_eq_true q1; omega)]; rfl
  refine J1_yes rfl ?_
  rw [d2 _ Keep.refl, Mpu_some, gtI, Mpu_some]
  show Mpu (pickV (.bool false) (.bool true) _) _
  rw [pickV_bool, if_neg (by decide), Mpu_some, Mcd_bool]
  have hb0 : 0 ≤ b := by have := of_decide_eq_false q1; omega
  cases q2 : decide (b > 65536)
  rotate_left
  · rw [if_pos rfl]
    refine no _ k1 ?_
    unfold probOk
    rw [decide_eq_true hb0, decide_eq_false (show ¬ b ≤ 65536 by have := of_decide_eq_true q2; omega)]; rfl
  have hb1 : b ≤ 65536 := by have := of_decide_eq_false q2; omega
  have hpo : probOk (hvOf mv) wants b = ((List.range mv.length).all (haveAt (hvOf mv)) && wantsOk wants) := by
    unfold probOk
    rw [decide_eq_true hb0, decide_eq_true hb1, hvl]; rfl
  rw [if_neg (by decide)]
  refine J1_i (fun _ h => (List.range mv.length).all (haveAt (hvOf mv)) = true ∧ Keep (fun _ => False) H1 h) (fun k hk => ?_) ?_
  · rw [d0 _ Keep.refl, Mpu_some, lh, Mpu_some]
    refine L1_i (fun u h => ∃ i : Nat, i ≤ mv.length ∧ u = .int .i64 (i : Nat) ∧ (List.range i).all (haveAt (hvOf mv)) = true ∧ Keep (fun _ => False) H1 h) (fun u _ => match u with | .int _ t => mv.length - t.toNat | _ => 0) ⟨0, Nat.zero_le _, rfl, rfl, Keep.refl⟩ ?_
    rintro _ h ⟨i, hi, rfl, hall, kh⟩ kk hkk
    rw [ltNn, Mpu_some, Mcd_bool]
    by_cases hlt : i < mv.length
    rotate_left
    · rw [if_neg (by simpa using hlt)]
      obtain rfl : i = mv.length := by omega
      exact hk _ _ ⟨hall, kh⟩
    rw [if_pos (by simpa using hlt)]
    have k0h := k1.trans kh
    obtain ⟨x, hx, hgx, hxm, hmx, bx, ox, hix, hpx, _⟩ := (hp.keep k0h fun _ _ => id).at (k := i) (by rw [hvl]; exact hlt)
    rw [hix .i64, Mpu_some, mv_agg hpx hmx.wf, Mpu_some]
    simp only [z_Man', Mnew_some]
    generalize hH12 : h.push (.cells (manC ⟨[], zeroV, [], [], []⟩ nilS nilS nilS).toArray T_manifest_Manifest (0, 0)) = h12
    have k12 : Keep (fun _ => False) h h12 := by rw [← hH12]; exact Keep.push
    have a12 : At h12 h.size (manC ⟨[], zeroV, [], [], []⟩ nilS nilS nilS) := by rw [← hH12]; exact At.push
    obtain ⟨h13, st13, a13, k13⟩ := a12.st (n := 8) (ds := mvC x) (manC_len zM_wf) (manC_len hmx.wf) (mvC_one hmx)
    have gh := kh.1
    have k113 : Keep (fun _ => False) H1 h13 := (kh.trans k12).fresh k13 fun b hb => by omega
    have k013 := k1.trans k113
    rw [st13, Mwr_some, d0 _ k113, Mpu_some]
    obtain ⟨u, hu, hsu⟩ := (hp.keep k013 fun _ _ => id).h.pre (m := i) (by rw [List.length_map]; omega)
    have hmt : (mv.map mvC).take i = (mv.take i).map mvC := by rw [List.map_take]
    rw [hmt] at hsu
    rw [hu, Mpu_some]
    have hd : DelM (.func (.func f_solve_Problem_Check_1) #[] #[Ptr h.size 0]) (mv.take i) (fun o => decide (o.name = x.1.name) && decide (o.ver = x.1.ver)) (fun g => Keep (fun _ => False) h13 g) := fun y g hy kg => by
      refine .inl ⟨f_solve_Problem_Check_1, #[], #[Ptr h.size 0], rfl, by kernel_rfl, ?_⟩
      show HCalls prg f_solve_Problem_Check_1 [.agg (mvC y).toArray, Ptr h.size 0] g _
      have hyw := (hp.m y (List.mem_of_mem_take hy)).wf
      apply sh_solve_Problem_Check_1_calls
      unfold sh_solve_Problem_Check_1
      simp only [Cells_agg, Mnew_some]
      generalize hG1 : g.push (.cells (mvC y).toArray T_manifest_Manifest (0, 0)) = g1
      have kg1 : Keep (fun _ => False) g g1 := by rw [← hG1]; exact Keep.push
      have ag : At g1 g.size (manC y.1 y.2.1 y.2.2.1 y.2.2.2) := by rw [← hG1]; exact At.push
      have bg : At g1 h.size (manC x.1 x.2.1 x.2.2.1 x.2.2.2) := (a13.keep kg id).keep kg1 id
      have e := fun q => str_eql (q := q) (a := y.1.name) (b := x.1.name)
      rw [fld_ptr, Mpu_some, Nat.add_zero, man_name ag, Mpu_some, fld_ptr, Mpu_some, Nat.add_zero, man_name bg, Mpu_some, e, Mpu_some]
      cases hn : decide (y.1.name = x.1.name)
      · refine J1_no (by decide) ?_
        rw [pickV_bool, if_neg (by decide), Mpu_some, Bool.false_and]
        exact ⟨rfl, kg1⟩
      · refine J1_yes rfl ?_
        rw [fld_ptr, Mpu_some, Nat.zero_add, man_ver ag hyw, Mpu_some, fld_ptr, Mpu_some, Nat.zero_add, man_ver bg hmx.wf, Mpu_some, eqVer hyw.ver hmx.wf.ver, Mpu_some]
        show Mpu (pickV (.bool true) _ (.bool false)) _
        rw [pickV_bool, if_pos rfl, Mpu_some, Bool.true_and]
        exact ⟨rfl, kg1⟩
    refine call_i (c_ContainsMan hsu (fun y hy => (hp.m y (List.mem_of_mem_take hy)).wf) hd (fun g kg => kg) (by rw [List.length_take]; omega)) ?_
    rintro _ h14 ⟨rfl, k14⟩
    have htw : (mv.take i).any (fun y => decide (y.1.name = x.1.name) && decide (y.1.ver = x.1.ver)) = twinF (hvOf mv) i := by
      unfold twinF
      rw [hv_take, List.any_map, hgx]; rfl
    rw [htw]
    have a14 := a13.keep k14 id
    rw [a14.ldN (manC_len hmx.wf), Mpu_some]
    have k014 := k013.trans k14
    have hsm := hp.sm x hxm
    have khh : Keep (fun _ => False) h h14 := (k12.fresh k13 fun b hb => by omega).trans k14
    refine call_i (c_RightG (hmx.keep khh fun _ _ => id) (by omega) (by omega) (hO.keep k014 fun _ h => h.elim)) ?_
    rintro _ h15 ⟨rfl, k15⟩
    have k115 := k113.trans (k14.trans k15)
    have hha : haveAt (hvOf mv) i = (manOkG x.1 && !twinF (hvOf mv) i) := by unfold haveAt; rw [hgx]
    have bad : haveAt (hvOf mv) i = false → probOk (hvOf mv) wants b = false := fun hf => by rw [hpo, range_bad hlt hf]; rfl
    rw [unV_not, Mpu_some]
    cases r1 : manOkG x.1
    · refine J1_no (by decide) ?_
      rw [Bool.not_false, pickV_bool, if_pos rfl, Mpu_some, Mcd_bool, if_pos rfl]
      exact no _ (k1.trans k115) (bad (by rw [hha, r1]; rfl))
    · refine J1_yes rfl ?_
      show Mpu (pickV (.bool false) (.bool true) (.bool (twinF (hvOf mv) i))) _
      rw [pickV_bool, if_neg (by decide), Mpu_some, Mcd_bool]
      cases r2 : twinF (hvOf mv) i
      · rw [if_neg (by decide), add_one' (by omega), Mpu_some]
        exact hkk _ _ ⟨i + 1, by omega, rfl, range_snoc hall (by rw [hha, r1, r2]; rfl), k115⟩ (by show mv.length - (i + 1) < mv.length - i; omega)
      · rw [if_pos rfl]
        exact no _ (k1.trans k115) (bad (by rw [hha, r1, r2]; rfl))
  rintro _ h9 ⟨hall, k9⟩
  rw [hall, Bool.true_and] at hpo
  refine J1_i (fun _ h => wantsOk wants = true ∧ Keep (fun _ => False) H1 h) (fun k hk => ?_) ?_
  · rw [d1 _ k9, Mpu_some, lw, Mpu_some]
    refine L1_i (fun u h => ∃ i : Nat, i ≤ wants.length ∧ u = .int .i64 (i : Nat) ∧ wantsOk (wants.take i) = true ∧ Keep (fun _ => False) H1 h) (fun u _ => match u with | .int _ t => wants.length - t.toNat | _ => 0) ⟨0, Nat.zero_le _, rfl, rfl, k9⟩ ?_
    rintro _ h ⟨i, hi, rfl, hok, kh⟩ kk hkk
    rw [ltNn, Mpu_some, Mcd_bool]
    by_cases hlt : i < wants.length
    rotate_left
    · rw [if_neg (by simpa using hlt)]
      rw [List.take_of_length_le (by omega)] at hok
      exact hk _ _ ⟨hok, kh⟩
    rw [if_pos (by simpa using hlt)]
    have hg : wants[i]? = some wants[i] := List.getElem?_eq_getElem hlt
    have hdm : wants[i] ∈ wants := List.getElem_mem hlt
    have htk : wants.take (i + 1) = wants.take i ++ [wants[i]] := by rw [List.take_add_one, hg]; rfl
    generalize wants[i] = d at *
    have hdw := hp.ww d hdm
    have k0h := k1.trans kh
    obtain ⟨bd, od, hid, hpd, _⟩ := (hp.keep k0h fun _ _ => id).w.at (i := i) (x := depC d) (by rw [List.getElem?_map, hg]; rfl)
    rw [hid .i64, Mpu_some, hpd.agg (depC_len hdw), Mpu_some]
    simp only [z_Dep', Mnew_some]
    generalize hH22 : h.push (.cells (depC zeroD).toArray T_manifest_Dep (0, 0)) = h22
    have k22 : Keep (fun _ => False) h h22 := by rw [← hH22]; exact Keep.push
    have a22 : At h22 h.size (depC zeroD) := by rw [← hH22]; exact At.push
    obtain ⟨h23, st23, a23, k23⟩ := a22.st (n := 6) (ds := depC d) (depC_len zeroD_wf) (depC_len hdw) depC_one
    have khh : Keep (fun _ => False) h h23 := k22.fresh k23 fun b hb => by omega
    rw [st23, Mwr_some]
    simp only [fld_ptr, Nat.zero_add, Nat.add_zero, Mpu_some]
    rw [depNm a23, Mpu_some]
    refine call_i (c_Name hdw.name) ?_
    rintro _ h24 ⟨rfl, k24⟩
    have bad : (nameOk d.name && wantOk d.want) = false → probOk (hvOf mv) wants b = false := fun hf => by
      rw [hpo]
      exact List.all_eq_false.2 ⟨d, hdm, by simpa using hf⟩
    rw [unV_not, Mpu_some]
    cases r1 : nameOk d.name
    · refine J1_no (by decide) ?_
      rw [Bool.not_false, pickV_bool, if_pos rfl, Mpu_some, Mcd_bool, if_pos rfl]
      exact no _ (k0h.trans (khh.trans k24)) (bad (by rw [r1]; rfl))
    · refine J1_yes rfl ?_
      rw [depWant (a23.keep k24 id) hdw, Mpu_some]
      have kall := k0h.trans (khh.trans k24)
      refine call_i (c_WantRight hdw.want (hO.keep kall fun _ h => h.elim)) ?_
      rintro _ h26 ⟨rfl, k26⟩
      rw [unV_not, Mpu_some]
      show Mpu (pickV (.bool false) (.bool true) (.bool (!wantOk d.want))) _
      rw [pickV_bool, if_neg (by decide), Mpu_some, Mcd_bool]
      cases r2 : wantOk d.want
      · rw [if_pos (show (!false) = true from rfl)]
        exact no _ (kall.trans k26) (bad (by rw [r1, r2]; rfl))
      · rw [if_neg (by decide), add_one' (by omega), Mpu_some]
        refine hkk _ _ ⟨i + 1, by omega, rfl, ?_, kh.trans (khh.trans (k24.trans k26))⟩ (by show wants.length - (i + 1) < wants.length - i; omega)
        rw [htk]
        unfold wantsOk at hok ⊢
        rw [List.all_append, hok]; simp [r1, r2]
  rintro _ h19 ⟨hw, k19⟩
  exact ⟨by rw [hpo, hw]; rfl, k1.trans k19⟩
end Go.Proofs.YtanhgihfgmbojaaGreatDoor

