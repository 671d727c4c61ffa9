/- JOINED: V120 V121 V122 V123 -/
import Derived.Test.YtconalffokhplaaGreatDoorGO
import Derived.Test.YtconalffokhplaaGreatDoorGN
import Derived.Test.YtconalffokhplaaGreatDoorG0
set_option linter.unusedSimpArgs false
set_option linter.unusedVariables false
/- strings: Count of one byte, Split, TrimSuffix, Lines. -/
namespace Go.Proofs.YtconalffokhplaaGreatDoor
open Go.X Go.X.Diff
set_option maxRecDepth 100000

theorem xt_CountString {args : Array Value} : xtV prg f_internal_bytealg_CountString args = Extern.BytealgCount.count args := by kernel_rfl
theorem c_Count {H : Heap} {l : List UInt8} {c : UInt8} : HCalls prg f_strings_Count [str l, str [c]] H fun u H' => u = .int .i64 (l.count c : Nat) ∧ H = H' := by
  apply sh_strings_Count_calls
  unfold sh_strings_Count
  have e1 : lenT (str [c]) = some (.int .i64 1) := rfl
  have e2 : binV .no .eql (.int .i64 1) (.int .i64 0) = some (.bool false) := rfl
  have e3 : binV .no .eql (.int .i64 1) (.int .i64 1) = some (.bool true) := rfl
  have e4 : ixT (str [c]) (.int .i64 0) = some (.int .u8 c.toNat) := ixT_str (i := 0) rfl
  simp only [e1, e2, e3, e4, Mpu_some, Mcd_bool, Bool.false_eq_true, if_false, if_true]
  intro w hw
  refine ⟨_, w, by rw [xt_CountString]; exact Lib.run_countString _ _ w, Same.rfl' w, ?_, hw.symm⟩
  simp [Lib.countByte]

theorem split_count (c : UInt8) : ∀ l : List UInt8, (splitF c l).length = l.count c + 1
  | [] => rfl
  | x :: l => by
    have ih := split_count c l
    rw [splitF]
    by_cases hx : x = c
    · rw [if_pos hx, List.length_cons, ih, hx, List.count_cons_self]
    · rw [if_neg hx, List.count_cons_of_ne hx]
      split
      · rename_i h; exact absurd h splitF_ne
      · rename_i h t e; rw [e] at ih; simpa using ih
theorem split_one {c : UInt8} {l : List UInt8} (h : (splitF c l).length ≤ 1) : splitF c l = [l] := by
  rw [split_count] at h
  exact splitF_none (List.count_eq_zero.1 (by omega))

theorem zrow_v {v : Value} {n : Nat} : zrow #[v] n = (List.replicate n v).toArray := by
  apply Array.ext'
  unfold zrow
  simp only [Array.toList_map, Array.toList_range, List.toList_toArray]
  apply List.ext_getElem
  · simp
  · intro i h1 h2
    simp [Nat.mod_one]
theorem b_string : prg.bytesOf T_string = 16 := by kernel_rfl
theorem c1_string : prg.cellsOf T_string = 1 := by kernel_rfl
theorem i_string : (prg.info? T_string).isSome = true := by kernel_rfl
theorem z_string : zcells prg T_string = some [str []].toArray := by kernel_rfl

theorem c_Split {H : Heap} {l : List UInt8} {c : UInt8} (hl : l.length ≤ 1099511627776) : HCalls prg f_strings_Split [str l, str [c]] H fun u H' => BufE 1 (H.size ≤ ·) H' u (strs (splitF c l)) ∧ Keep (fun _ => False) H H' := by
  apply sh_strings_Split_calls
  unfold sh_strings_Split
  refine call_i (R := fun u H' => BufE 1 (H.size ≤ ·) H' u (strs (splitF c l)) ∧ Keep (fun _ => False) H H') ?_ fun u h hR => hR
  apply sh_strings_genSplit_calls
  unfold sh_strings_genSplit
  have e1 : binV .no .eql (.int .i64 (-1)) (.int .i64 0) = some (.bool false) := rfl
  have e2 : binV .no .eql (str [c]) (.string ⟨#[]⟩) = some (.bool false) := by
    have := str_eql (q := .no) (a := [c]) (b := [])
    simpa using this
  have e3 : binV .no .lss (.int .i64 (-1)) (.int .i64 0) = some (.bool true) := rfl
  have hcnt : l.count c ≤ l.length := List.count_le_length
  have hn := split_count c l
  generalize hN : (splitF c l).length = n at hn
  simp only [e1, e2, e3, Mpu_some, Mcd_bool, Bool.false_eq_true, if_false]
  refine J1_i (fun v h => v = .int .i64 (n : Nat) ∧ H = h) (fun k hk => ?_) ?_
  · simp only [if_true]
    refine call_i c_Count ?_
    rintro _ _ ⟨rfl, rfl⟩
    rw [add_one' (by omega), Mpu_some]
    exact hk _ _ ⟨by rw [hn], rfl⟩
  rintro _ _ ⟨rfl, rfl⟩
  have e4 : minV true [.int .i64 (n : Nat), .int .i64 ((l.length + 1 : Nat) : Int)] = some (.int .i64 (n : Nat)) := by
    simp only [minV, if_true]; rw [if_neg (by omega)]
  have e5 : binV .no .sub (.int .i64 (n : Nat)) (.int .i64 1) = some (.int .i64 ((n - 1 : Nat) : Int)) := by
    rw [binV_int]; simp only [intV]; rw [wrap_id (by omega) (by omega)]; congr 2; omega
  rw [lenT_str, Mpu_some, add_one' hl, Mpu_some, e4, Mpu_some]
  refine ⟨_, _, n, n, _, rfl, rfl, Nat.le_refl _, by rw [b_string]; omega, by omega, z_string, i_string, ?_⟩
  rw [c1_string, Nat.mul_one, zrow_v]
  generalize hH1 : H.push (.cells (List.replicate n (str [])).toArray T_string (0, 0)) = H1
  have k1 : Keep (fun _ => False) H H1 := by rw [← hH1]; exact Keep.push
  have a1 : At H1 H.size (List.replicate n (str [])) := by rw [← hH1]; exact At.push
  rw [e5, Mpu_some]
  let I : Value → Value → Heap → Prop := fun u v h => ∃ (pre : List (List UInt8)) (rest : List UInt8), splitF c l = pre ++ splitF c rest ∧ rest.length ≤ l.length ∧ u = str rest ∧ v = .int .i64 (pre.length : Nat) ∧ At h H.size (pre.map str ++ List.replicate (n - pre.length) (str [])) ∧ Keep (fun _ => False) H h
  let Z : Value → Value → Heap → Prop := fun u v h => ∃ (pre : List (List UInt8)) (rest : List UInt8), splitF c l = pre ++ [rest] ∧ u = str rest ∧ v = .int .i64 (pre.length : Nat) ∧ At h H.size (pre.map str ++ List.replicate (n - pre.length) (str [])) ∧ Keep (fun _ => False) H h
  refine J2_i Z (fun k hk => ?_) ?_
  · refine L2_i I (fun _ v _ => match v with | .int _ i => n - i.toNat | _ => 0) ⟨[], l, rfl, Nat.le_refl _, rfl, rfl, by simpa using a1, k1⟩ ?_
    rintro _ _ h ⟨pre, rest, hsp, hle, rfl, rfl, ha, hk1⟩ k2 hk2
    have hlen := congrArg List.length hsp
    rw [List.length_append, hN] at hlen
    have hpos : 0 < (splitF c rest).length := List.length_pos_iff.2 splitF_ne
    have e6 : binV .no .lss (.int .i64 (pre.length : Nat)) (.int .i64 ((n - 1 : Nat) : Int)) = some (.bool (decide (pre.length < n - 1))) := by
      rw [binV_int]; simp only [intV]; congr 2; rw [decide_eq_decide]; omega
    rw [e6, Mpu_some, Mcd_bool]
    by_cases hlt : pre.length < n - 1
    · rw [if_pos (by simpa using hlt)]
      refine call_i c_sIndex ?_
      rintro _ _ ⟨rfl, rfl⟩
      rcases index_cases rest c with he | ⟨o, he⟩
      · rw [he, lt_neg', Mpu_some, Mcd_bool, if_pos rfl]
        exact hk _ _ _ ⟨pre, rest, by rw [hsp, splitF_none (index_none he)], rfl, rfl, ha, hk1⟩
      · obtain ⟨hlo, hni, hre⟩ := index_some he
        have hsr : splitF c rest = rest.take o :: splitF c (rest.drop (o + 1)) := by
          conv => lhs; rw [hre]
          exact splitF_some hni
        have e7 : binV .no .add (.int .i64 (o : Nat)) (.int .i64 0) = some (.int .i64 (o : Nat)) := by
          rw [binV_int]; simp only [intV]; rw [wrap_id (by omega) (by omega)]; simp
        have e8 : lenT (str [c]) = some (.int .i64 1) := rfl
        obtain ⟨h2, st2, a2, kk2⟩ := ha.st1 (i := pre.length) (v := str (rest.take o)) (by simp; omega) rfl
        have hrep : n - pre.length = n - (pre.length + 1) + 1 := by omega
        rw [he, lt_zero', Mpu_some, Mcd_bool, if_neg (by decide), e7, Mpu_some, sl_to (Nat.le_of_lt hlo), Mpu_some, ixS_at (by omega), Mpu_some, Nat.zero_add, st2, Mwr_some, e8, Mpu_some, add_one' (by omega), Mpu_some, sl_from (show o + 1 ≤ rest.length by omega), Mpu_some, add_one' (by omega), Mpu_some]
        refine hk2 _ _ _ ⟨pre ++ [rest.take o], rest.drop (o + 1), by rw [hsp, hsr]; simp, by simp; omega, rfl, by simp, ?_, hk1.fresh kk2 fun b hb => by omega⟩ ?_
        · have : (pre.map str ++ List.replicate (n - pre.length) (str [])).set pre.length (str (rest.take o)) = (pre ++ [rest.take o]).map str ++ List.replicate (n - (pre ++ [rest.take o]).length) (str []) := by
            rw [hrep, List.replicate_succ, List.set_append_right _ _ (by simp)]
            simp
          rw [← this]; exact a2
        · simp; omega
    · rw [if_neg (by simpa using hlt)]
      exact hk _ _ _ ⟨pre, rest, by rw [hsp, split_one (l := rest) (by omega)], rfl, rfl, ha, hk1⟩
  · rintro _ _ h ⟨pre, rest, hsp, rfl, rfl, ha, hk1⟩
    have hlen := congrArg List.length hsp
    rw [List.length_append, hN] at hlen
    simp only [List.length_cons, List.length_nil] at hlen
    obtain ⟨h2, st2, a2, kk2⟩ := ha.st1 (i := pre.length) (v := str rest) (by simp; omega) rfl
    have e9 : slS 1 (.slice (some ⟨H.size, 0, none⟩) n n) none (some (.int .i64 ((pre.length + 1 : Nat) : Int))) none = some (.slice (some ⟨H.size, 0, none⟩) n n) := by
      have hbn : bnds n n none (some (.int .i64 ((pre.length + 1 : Nat) : Int))) none = some (0, n, n) := by
        rw [← hlen]
        simp [bnds, bnd]
      simp only [slS, hbn]; simp
    rw [ixS_at (by omega), Mpu_some, Nat.zero_add, st2, Mwr_some, add_one' (by omega), Mpu_some, e9, Mpu_some]
    have hfin : (pre.map str ++ List.replicate (n - pre.length) (str [])).set pre.length (str rest) = (splitF c l).map str := by
      rw [show n - pre.length = 1 by omega, List.set_append_right _ _ (by simp), hsp]; simp
    rw [hfin] at a2
    obtain ⟨T, a2⟩ := a2
    refine ⟨⟨rows1_el, rows1_one (fun v hv => by obtain ⟨x, _, rfl⟩ := List.mem_map.1 hv; rfl), .inr ⟨H.size, 0, n, _, T, _, by simp [hN], Nat.le_refl _, by simp [hN], a2, by simp [hN], fun _ _ => thaw_00, by rw [rows1_len, List.length_map, Nat.mul_one, List.drop_zero, rows1_flat]; exact List.take_of_length_le (by simp)⟩⟩, hk1.fresh kk2 fun b hb => by omega⟩

/- TrimSuffix of one byte -/
def trimNl (l : List UInt8) : List UInt8 := if l.getLast? = some 10 then l.dropLast else l
theorem c_TrimSuffix {H : Heap} {l : List UInt8} (hl : l.length ≤ 1099511627776) : HCalls prg f_strings_TrimSuffix [str l, .string ⟨#[10]⟩] H fun u H' => u = str (trimNl l) ∧ H = H' := by
  apply sh_strings_TrimSuffix_calls
  unfold sh_strings_TrimSuffix
  refine call_i (R := fun u H' => u = str (trimNl l) ∧ H = H') ?_ fun u h hR => hR
  apply sh_internal_stringslite_TrimSuffix_calls
  unfold sh_internal_stringslite_TrimSuffix
  have hs : (Value.string ⟨#[10]⟩) = str [10] := rfl
  have e1 : lenT (str [10]) = some (.int .i64 1) := rfl
  have hsuf : HCalls prg f_internal_stringslite_HasSuffix [str l, str [10]] H fun u H' => u = .bool (decide (l.getLast? = some 10)) ∧ H = H' := by
    apply sh_internal_stringslite_HasSuffix_calls
    unfold sh_internal_stringslite_HasSuffix
    have e0 : binV .no .geq (.int .i64 (l.length : Nat)) (.int .i64 1) = some (.bool (decide (1 ≤ l.length))) := by
      rw [binV_int]; simp only [intV]; congr 2; rw [decide_eq_decide]; omega
    rw [lenT_str, Mpu_some, e1, Mpu_some, e0, Mpu_some]
    rcases List.eq_nil_or_concat l with rfl | ⟨a, x, rfl⟩
    · simp [J1_eq]
    · simp only [List.concat_eq_append] at hl e0 ⊢
      have h1 : decide (1 ≤ (a ++ [x]).length) = true := by simp
      have e5 : binV .no .sub (.int .i64 ((a ++ [x]).length : Nat)) (.int .i64 1) = some (.int .i64 (a.length : Nat)) := by
        have : (a ++ [x]).length = a.length + 1 := by simp
        rw [binV_int]; simp only [intV]; rw [wrap_id (by omega) (by omega)]; congr 2; omega
      have e6 : (a ++ [x]).drop a.length = [x] := by simp
      have e7 : binV .no .eql (str [x]) (str [10]) = some (.bool (decide ([x] = [10]))) := str_eql
      have e8 : decide ((a ++ [x]).getLast? = some 10) = decide ([x] = ([10] : List UInt8)) := by simp
      rw [J1_eq, h1, Mif_bool, if_pos rfl, Mpu_some, Mpu_some, e5, Mpu_some, sl_from (by simp), Mpu_some, e6, e7, Mpu_some]
      show Mpu (pickV _ _ _) _
      rw [pickV_bool, Mpu_some, e8]
      exact ⟨rfl, rfl⟩
  rw [hs]
  refine call_i hsuf ?_
  rintro _ _ ⟨rfl, rfl⟩
  rw [Mcd_bool]
  unfold trimNl
  by_cases h : l.getLast? = some 10
  · have hne : l ≠ [] := fun e => by subst e; simp at h
    have hpos : 0 < l.length := List.length_pos_iff.2 hne
    have e5 : binV .no .sub (.int .i64 (l.length : Nat)) (.int .i64 1) = some (.int .i64 ((l.length - 1 : Nat) : Int)) := by
      rw [binV_int]; simp only [intV]; rw [wrap_id (by omega) (by omega)]; congr 2; omega
    rw [if_pos (by simpa using h), lenT_str, Mpu_some, e1, Mpu_some, e5, Mpu_some, sl_to (by omega), Mpu_some, if_pos h, List.dropLast_eq_take]
    exact ⟨rfl, rfl⟩
  · rw [if_neg (by simpa using h), if_neg h]
    exact ⟨rfl, rfl⟩

/- Lines -/
def linesF : List UInt8 → List (List UInt8)
  | [] => []
  | x :: l => if x = 10 then [10] :: linesF l else match linesF l with
    | [] => [[x]]
    | h :: t => (x :: h) :: t
theorem linesF_none : ∀ {l : List UInt8}, 10 ∉ l → l ≠ [] → linesF l = [l]
  | [], _, h => absurd rfl h
  | [x], h, _ => by
    have : x ≠ 10 := fun e => h (by simp [e])
    simp [linesF, this]
  | x :: y :: l, h, _ => by
    have h1 : x ≠ 10 := fun e => h (by simp [e])
    have ih := linesF_none (l := y :: l) (fun e => h (List.mem_cons_of_mem _ e)) (by simp)
    rw [linesF, if_neg h1, ih]
theorem linesF_some {b : List UInt8} : ∀ {a : List UInt8}, 10 ∉ a → linesF (a ++ 10 :: b) = (a ++ [10]) :: linesF b
  | [], _ => by simp [linesF]
  | x :: a, h => by
    have h1 : x ≠ 10 := fun e => h (by simp [e])
    rw [List.cons_append, linesF, if_neg h1, linesF_some (fun e => h (List.mem_cons_of_mem _ e))]
    rfl
theorem linesF_len : ∀ {l x : List UInt8}, x ∈ linesF l → x.length ≤ l.length
  | [], x, h => by simp [linesF] at h
  | y :: l, x, h => by
    rw [linesF] at h
    split at h
    · rcases List.mem_cons.1 h with rfl | h
      · simp
      · have := linesF_len h; simp; omega
    · split at h
      · obtain rfl : x = [y] := by simpa using h
        simp
      · rename_i h' t he
        rcases List.mem_cons.1 h with rfl | h
        · have := linesF_len (l := l) (x := h') (by rw [he]; simp)
          simp; omega
        · have := linesF_len (l := l) (x := x) (by rw [he]; simp [h])
          simp; omega

theorem lines_iter {q : Nat} {l : List UInt8} (hl : l.length ≤ 1099511627776) :
    Iter prg (.func (.func f_strings_Lines_1) #[] #[Ptr q 0]) ((linesF l).map fun x => [str x]) (· = q) (fun h => At h q [str l]) := by
  intro yv h0 J E hst hJ hbody sJ sE
  refine ⟨f_strings_Lines_1, #[], #[Ptr q 0], rfl, by kernel_rfl, ?_⟩
  show HCalls prg f_strings_Lines_1 [yv, Ptr q 0] h0 _
  apply sh_strings_Lines_1_calls
  unfold sh_strings_Lines_1
  have hn : ((linesF l).map fun x => [str x]).length = (linesF l).length := by simp
  rw [hn]
  let I : Heap → Prop := fun h => ∃ (pre : List (List UInt8)) (rest : List UInt8), linesF l = pre ++ linesF rest ∧ rest.length ≤ l.length ∧ At h q [str rest] ∧ J pre.length h
  refine L0_i I (fun h => match ld1 h (Ptr q 0) with | some (.string s) => s.size | _ => 0) ⟨[], l, rfl, Nat.le_refl _, hst, hJ⟩ ?_
  rintro h ⟨pre, rest, hsp, hle, hs, hJ⟩ k2 hk2
  have d1 := hs.ld (i := 0) rfl
  have e0 : binV .no .gtr (.int .i64 (rest.length : Nat)) (.int .i64 0) = some (.bool (decide (0 < rest.length))) := by
    rw [binV_int]; simp only [intV]; congr 2; rw [decide_eq_decide]; omega
  rw [d1, Mpu_some, lenT_str, Mpu_some, e0, Mpu_some, Mcd_bool]
  by_cases hpos : 0 < rest.length
  · have hne : rest ≠ [] := List.length_pos_iff.1 hpos
    rw [if_pos (by simpa using hpos)]
    refine J1_i (fun v h' => ∃ x rest', linesF l = pre ++ x :: linesF rest' ∧ v = str x ∧ rest'.length < rest.length ∧ At h' q [str rest'] ∧ J pre.length h') (fun k3 hk3 => ?_) ?_
    · rw [Mpu_some]
      have hb := c_IndexByte (H := h) (l := rest) (x := 10)
      rw [show ((10 : UInt8).toNat : Int) = 10 from rfl] at hb
      refine call_i hb ?_
      rintro _ _ ⟨rfl, rfl⟩
      rcases index_cases rest 10 with he | ⟨o, he⟩
      · have e1 : binV .no .geq (.int .i64 (-1)) (.int .i64 0) = some (.bool false) := rfl
        obtain ⟨h2, hst2, a2, k2'⟩ := hs.st1 (i := 0) (v := str []) (by simp) rfl
        have hz : Value.string ⟨#[]⟩ = str [] := rfl
        rw [he, e1, Mpu_some, Mcd_bool, if_neg (by decide), d1, Mpu_some, hz, hst2, Mwr_some]
        refine hk3 _ _ ⟨rest, [], by rw [hsp, linesF_none (index_none he) hne]; rfl, rfl, by simpa using hpos, a2, sJ _ _ _ hJ (k2'.mono fun b _ hb => hb)⟩
      · obtain ⟨hlt, hni, hre⟩ := index_some he
        obtain ⟨h2, hst2, a2, k2'⟩ := hs.st1 (i := 0) (v := str (rest.drop (o + 1))) (by simp) rfl
        rw [he, ge_zero', Mpu_some, Mcd_bool, if_pos rfl, d1, Mpu_some, add_one' (by omega), Mpu_some, sl_to (show o + 1 ≤ rest.length by omega), Mpu_some, Mpu_some, Mpu_some, sl_from (show o + 1 ≤ rest.length by omega), Mpu_some, hst2, Mwr_some]
        have htk : rest.take (o + 1) = rest.take o ++ [10] := by
          have h1 := congrArg (List.take (o + 1)) hre
          rw [h1, List.take_append]
          have h2 : (rest.take o).length = o := by simp; omega
          rw [h2, List.take_of_length_le (by omega)]
          simp
        refine hk3 _ _ ⟨rest.take (o + 1), rest.drop (o + 1), ?_, rfl, by simp; omega, a2, sJ _ _ _ hJ (k2'.mono fun b _ hb => hb)⟩
        rw [hsp, htk]
        conv => lhs; rw [hre]
        rw [linesF_some hni]
    · rintro _ h3 ⟨x, rest', hsp', rfl, hlt, a3, hJ3⟩
      have hget : ((linesF l).map fun x => [str x])[pre.length]? = some [str x] := by
        rw [List.getElem?_map, hsp', List.getElem?_append_right (Nat.le_refl _), Nat.sub_self]; rfl
      refine (hbody _ _ _ hget hJ3).mono ?_
      rintro v h' ⟨hsz, hS, hv⟩
      have a4 : At h' q [str rest'] := by obtain ⟨T, a⟩ := a3; exact ⟨T, by rw [hS q rfl (lt_of a)]; exact a⟩
      rcases hv with ⟨rfl, hJ'⟩ | ⟨rfl, hE⟩
      · simp only [unV_not, Bool.not_true, Mpu_some, Mcd_bool, Bool.false_eq_true, if_false]
        refine hk2 _ ⟨pre ++ [x], rest', by rw [hsp']; simp, by omega, a4, by rw [List.length_append]; exact hJ'⟩ ?_
        have := a4.ld (i := 0) (v := str rest') rfl
        rw [this, d1]
        simp only [size_mk]; omega
      · simp only [unV_not, Bool.not_false, Mpu_some, Mcd_bool, if_true]
        exact .inr hE
  · obtain rfl : rest = [] := by cases rest with | nil => rfl | cons a b => simp at hpos
    rw [if_neg (by simp)]
    left
    rw [hsp]; simpa [linesF] using hJ

theorem c_Lines {H : Heap} {l : List UInt8} : HCalls prg f_strings_Lines [str l] H fun u H' => u = .func (.func f_strings_Lines_1) #[] #[Ptr H.size 0] ∧ At H' H.size [str l] ∧ H'.size = H.size + 1 ∧ Keep (fun _ => False) H H' := by
  apply sh_strings_Lines_calls
  unfold sh_strings_Lines
  have c1 : Value.cells (str l) = [str l].toArray := rfl
  simp only [Mnew_some, c1]
  exact ⟨by trivial, At.push, by simp, Keep.push⟩
end Go.Proofs.YtconalffokhplaaGreatDoor
/- manifests: what they are, Deps that are right. -/
namespace Go.Proofs.YtconalffokhplaaGreatDoor
open Go.X Go.X.Diff
set_option maxRecDepth 100000

structure Dep where
  name : List UInt8
  want : Want
structure Dep.wf (d : Dep) : Prop where
  want : d.want.wf
  name : d.name.length ≤ 9223372036854775807
def depC (d : Dep) : List Value := str d.name :: wantC d.want
def zeroD : Dep := ⟨[], zeroW⟩
theorem zeroD_wf : zeroD.wf := ⟨zeroW_wf, by simp [zeroD]⟩
theorem depC_len {d : Dep} (h : d.wf) : (depC d).length = 6 := by simp [depC, wantC_len h.want]
theorem depC_one {d : Dep} : ∀ c ∈ depC d, c.oneCell' = true := by
  intro c hc
  rcases List.mem_cons.1 hc with rfl | hc
  · rfl
  · exact wantC_one c hc
theorem z_Dep : zcells prg T_manifest_Dep = some (depC zeroD).toArray := by kernel_rfl
theorem k_Dep : structK prg T_manifest_Dep = some ([(0, 1), (1, 5)], (depC zeroD).toArray) := by kernel_rfl
theorem dep_want {h : Heap} {q : Nat} {d : Dep} (a : At h q (depC d)) (hd : d.wf) : ldN 5 h (Ptr q 1) = some (.agg (wantC d.want).toArray) := by
  obtain ⟨T, a⟩ := a
  exact ldN_mid (A := [str d.name]) (B := wantC d.want) (C := []) (by rw [List.append_nil]; exact a) rfl (wantC_len hd.want).symm

structure MFile where
  name : List UInt8
  sum : List UInt8
  size : Int
def fileC (f : MFile) : List Value := str f.name :: (bcells f.sum ++ [.int .i64 f.size])
structure MFile.wf (f : MFile) : Prop where
  name : f.name.length ≤ 9223372036854775807
  sum : f.sum.length = 32
  size : -9223372036854775808 ≤ f.size ∧ f.size ≤ 9223372036854775807
theorem fileC_len {f : MFile} (h : f.wf) : (fileC f).length = 34 := by simp [fileC, h.sum]
theorem fileC_one {f : MFile} : ∀ c ∈ fileC f, c.oneCell' = true := by
  intro c hc
  rcases List.mem_cons.1 hc with rfl | hc
  · rfl
  · rcases List.mem_append.1 hc with hc | hc
    · exact bcells_one c hc
    · simp at hc; subst hc; rfl

structure Man where
  name : List UInt8
  ver : Ver
  deps : List Dep
  conf : List Dep
  files : List MFile
structure Man.wf (m : Man) : Prop where
  name : m.name.length ≤ 9223372036854775807
  ver : m.ver.wf
  deps : ∀ d ∈ m.deps, d.wf
  conf : ∀ d ∈ m.conf, d.wf
  files : ∀ f ∈ m.files, f.wf
def manC (m : Man) (vd vc vf : Value) : List Value := str m.name :: (verC m.ver ++ [vd, vc, vf])
theorem manC_len {m : Man} {vd vc vf : Value} (h : m.wf) : (manC m vd vc vf).length = 8 := by simp [manC, verC_len h.ver]

/-- a manifest's value: what its slices hold -/
structure ManV (P : Nat → Prop) (H : Heap) (m : Man) (vd vc vf : Value) : Prop where
  d : SlE 6 P H vd (m.deps.map depC)
  c : SlE 6 P H vc (m.conf.map depC)
  f : SlE 34 P H vf (m.files.map fileC)
  wf : m.wf
theorem ManV.keep {P S : Nat → Prop} {H H' : Heap} {m : Man} {vd vc vf : Value} (h : ManV P H m vd vc vf) (k : Keep S H H') (hs : ∀ b, P b → ¬ S b) : ManV P H' m vd vc vf :=
  ⟨h.d.keep k hs, h.c.keep k hs, h.f.keep k hs, h.wf⟩
theorem ManV.one {P : Nat → Prop} {H : Heap} {m : Man} {vd vc vf : Value} (h : ManV P H m vd vc vf) : ∀ c ∈ manC m vd vc vf, c.oneCell' = true := by
  intro c hc
  rcases List.mem_cons.1 hc with rfl | hc
  · rfl
  rcases List.mem_append.1 hc with hc | hc
  · exact verC_one c hc
  simp at hc
  rcases hc with rfl | rfl | rfl
  · exact h.d.oneC
  · exact h.c.oneC
  · exact h.f.oneC
section
variable {h : Heap} {q : Nat} {m : Man} {vd vc vf : Value}
theorem man_name (a : At h q (manC m vd vc vf)) : ld1 h (Ptr q 0) = some (str m.name) := a.ld rfl
theorem man_ver (a : At h q (manC m vd vc vf)) (hm : m.wf) : ldN 4 h (Ptr q 1) = some (.agg (verC m.ver).toArray) := by
  obtain ⟨T, a⟩ := a
  exact ldN_mid (A := [str m.name]) (B := verC m.ver) (C := [vd, vc, vf]) a rfl (verC_len hm.ver).symm
theorem man_get (a : At h q (manC m vd vc vf)) (hm : m.wf) : ld1 h (Ptr q 5) = some vd ∧ ld1 h (Ptr q 6) = some vc ∧ ld1 h (Ptr q 7) = some vf := by
  have h4 := verC_len hm.ver
  refine ⟨a.ld ?_, a.ld ?_, a.ld ?_⟩ <;> simp [manC, List.getElem?_append_right, h4]
theorem man_ld (a : At h q (manC m vd vc vf)) (hm : m.wf) : ldN 8 h (Ptr q 0) = some (.agg (manC m vd vc vf).toArray) := a.ldN (manC_len hm)
end

/- rising names -/
def riseAt (l : List (List UInt8)) (i : Nat) : Bool := decide (i = 0) || lessB (l.getD (i - 1) []) (l.getD i [])
def riseF (l : List (List UInt8)) : Bool := (List.range l.length).all (riseAt l)
theorem rise_bad {l : List (List UInt8)} {i : Nat} (hi : i < l.length) (h : riseAt l i = false) : riseF l = false := by
  unfold riseF
  rw [List.all_eq_false]; exact ⟨i, by simpa using hi, by simp [h]⟩
theorem rise_snoc {l : List (List UInt8)} {i : Nat} (h : (List.range i).all (riseAt l) = true) (hb : riseAt l i = true) : (List.range (i + 1)).all (riseAt l) = true := by
  rw [List.range_succ, List.all_append, h]; simp [hb]

theorem c_depName {H : Heap} {d : Dep} : HCalls prg f_manifest_Dep_name [.agg (depC d).toArray] H fun u H' => u = str d.name ∧ Keep (fun _ => False) H H' := by
  apply sh_manifest_Dep_name_calls
  unfold sh_manifest_Dep_name
  simp only [Cells_agg, Mnew_some]
  have a : At (H.push (.cells (depC d).toArray T_manifest_Dep (0, 0))) H.size (depC d) := At.push
  have d0 : ld1 (H.push (.cells (depC d).toArray T_manifest_Dep (0, 0))) (Ptr H.size 0) = some (str d.name) := a.ld rfl
  rw [fld_ptr, Mpu_some, Nat.add_zero, d0, Mpu_some]
  exact ⟨rfl, Keep.push⟩

theorem c_riseDep {P : Nat → Prop} {H : Heap} {v : Value} {l : List Dep} (hv : SlE 6 P H v (l.map depC)) (hw : ∀ d ∈ l, d.wf) (hl : l.length ≤ 1099511627776) :
    HCalls prg f_manifest_rising_manifest_Dep [v, .func (.func f_manifest_Dep_name) #[] #[]] H fun u H' => u = .bool (riseF (l.map (·.name))) ∧ Keep (fun _ => False) H H' := by
  apply sh_manifest_rising_manifest_Dep_calls
  unfold sh_manifest_rising_manifest_Dep
  have hlen := hv.len
  rw [List.length_map] at hlen
  have hln : (l.map (·.name)).length = l.length := by simp
  have hcall : ∀ (d : Dep) (h : Heap) (k : Value → Heap → Prop), (∀ h', Keep (fun _ => False) h h' → k (str d.name) h') → Mcallv prg (.func (.func f_manifest_Dep_name) #[] #[]) [.agg (depC d).toArray] h k := fun d h k hk =>
    .inl ⟨f_manifest_Dep_name, #[], #[], rfl, by kernel_rfl, HCalls.mono (R := fun u H' => u = str d.name ∧ Keep (fun _ => False) h H') (c_depName (d := d)) fun u h' hR => by obtain ⟨rfl, k'⟩ := hR; exact hk h' k'⟩
  refine J1_i (fun _ h => riseF (l.map (·.name)) = true ∧ Keep (fun _ => False) H h) (fun k hk => ?_) ?_
  · refine L1_i (fun u h => ∃ i : Nat, 1 ≤ i ∧ u = .int .i64 (i : Nat) ∧ (List.range (min i l.length)).all (riseAt (l.map (·.name))) = true ∧ Keep (fun _ => False) H h) (fun u _ => match u with | .int _ t => l.length - t.toNat | _ => 0) ⟨1, Nat.le_refl _, rfl, ?_, Keep.refl⟩ ?_
    · by_cases h0 : l.length = 0
      · rw [h0]; rfl
      · rw [Nat.min_eq_left (by omega)]; rfl
    rintro _ h ⟨i, hi, rfl, hall, kh⟩ k2 hk2
    have e1 : binV .no .lss (.int .i64 (i : Nat)) (.int .i64 (l.length : Nat)) = some (.bool (decide (i < l.length))) := by
      rw [binV_int]; simp only [intV]; congr 2; rw [decide_eq_decide]; omega
    rw [hlen, Mpu_some, e1, Mpu_some, Mcd_bool]
    by_cases hlt : i < l.length
    · rw [if_pos (by simpa using hlt)]
      have hg : l[i]? = some l[i] := List.getElem?_eq_getElem hlt
      have hg' : l[i - 1]? = some (l[i - 1]'(by omega)) := List.getElem?_eq_getElem (by omega)
      have hvh := hv.keep kh fun _ _ => id
      obtain ⟨b, o, hix, hpt, _⟩ := hvh.at (i := i) (x := depC l[i]) (by rw [List.getElem?_map, hg]; rfl)
      obtain ⟨b', o', hix', hpt', _⟩ := hvh.at (i := i - 1) (x := depC (l[i - 1]'(by omega))) (by rw [List.getElem?_map, hg']; rfl)
      have hwd := hw _ (List.getElem_mem hlt)
      have hwd' := hw _ (List.getElem_mem (show i - 1 < l.length by omega))
      have hra : riseAt (l.map (·.name)) i = lessB (l[i - 1]'(by omega)).name l[i].name := by
        have h0 : ((l.map (·.name)).getD (i - 1) []) = (l[i - 1]'(by omega)).name := by simp [List.getD, hg']
        have h1 : ((l.map (·.name)).getD i []) = l[i].name := by simp [List.getD, hg]
        unfold riseAt
        rw [h0, h1, decide_eq_false (by omega)]; rfl
      generalize l[i] = d at *
      generalize (l[i - 1]'(by omega)) = d' at *
      have e2 : binV .no .sub (.int .i64 (i : Nat)) (.int .i64 1) = some (.int .i64 ((i - 1 : Nat) : Int)) := by
        rw [binV_int]; simp only [intV]; rw [wrap_id (by omega) (by omega)]; congr 2; omega
      rw [e2, Mpu_some, hix' .i64, Mpu_some, hpt'.agg (depC_len hwd'), Mpu_some, hix .i64, Mpu_some, hpt.agg (depC_len hwd), Mpu_some]
      refine hcall d' h _ fun h5 k5 => ?_
      refine ⟨(hpt.keep k5 id).agg (depC_len hwd), ?_⟩
      refine hcall d h5 _ fun h6 k6 => ?_
      have hge : binV .no .geq (str d'.name) (str d.name) = some (.bool (!lessB d'.name d.name)) := by rw [binV_str]; exact strV_geq
      rw [hge, Mpu_some, Mcd_bool]
      have kk := kh.trans (k5.trans k6)
      cases hb : lessB d'.name d.name
      · rw [if_pos (show (!false) = true from rfl)]
        exact ⟨by rw [rise_bad (i := i) (by rw [hln]; exact hlt) (by rw [hra, hb])], kk⟩
      · rw [if_neg (by decide), add_one' (by omega), Mpu_some]
        refine hk2 _ _ ⟨i + 1, by omega, rfl, ?_, kk⟩ (by show l.length - (i + 1) < l.length - i; omega)
        rw [Nat.min_eq_left (by omega)] at hall ⊢
        exact rise_snoc hall (by rw [hra, hb])
    · rw [if_neg (by simpa using hlt)]
      refine hk _ _ ⟨?_, kh⟩
      rw [Nat.min_eq_right (by omega)] at hall
      unfold riseF
      rw [hln]; exact hall
  · rintro _ h ⟨h1, h2⟩
    exact ⟨by rw [h1], h2⟩

/- Deps -/
def depAt (own : List UInt8) (d : Dep) : Bool := nameOk d.name && !decide (d.name = own) && wantOk d.want
def depsOk (own : List UInt8) (l : List Dep) : Bool := l.all (depAt own) && decide (l.length ≤ 16) && riseF (l.map (·.name))
theorem depsOk_bad {own : List UInt8} {l : List Dep} {d : Dep} (hd : d ∈ l) (h : depAt own d = false) : depsOk own l = false := by
  unfold depsOk
  rw [List.all_eq_false.2 ⟨d, hd, by simp [h]⟩]; rfl

theorem c_deps {P : Nat → Prop} {H : Heap} {m : Man} {vd vc vf v : Value} {l : List Dep} (hv : SlE 6 P H v (l.map depC)) (hw : ∀ d ∈ l, d.wf) (hO : OpsT H) (hl : l.length ≤ 1099511627776) :
    HCalls prg f_manifest_Manifest_deps [.agg (manC m vd vc vf).toArray, v] H fun u H' => u = .bool (depsOk m.name l) ∧ Keep (fun _ => False) H H' := by
  apply sh_manifest_Manifest_deps_calls
  unfold sh_manifest_Manifest_deps
  have hlen := hv.len
  rw [List.length_map] at hlen
  simp only [Cells_agg, Mnew_some]
  generalize hH1 : H.push (.cells (manC m vd vc vf).toArray T_manifest_Manifest (0, 0)) = H1
  have k1 : Keep (fun _ => False) H H1 := by rw [← hH1]; exact Keep.push
  have a1 : At H1 H.size (manC m vd vc vf) := by rw [← hH1]; exact At.push
  have s1 : H1.size = H.size + 1 := by rw [← hH1]; simp
  refine J1_i (fun _ h => l.all (depAt m.name) = true ∧ Keep (fun _ => False) H1 h) (fun k hk => ?_) ?_
  · rw [hlen, Mpu_some]
    refine L1_i (fun u h => ∃ i : Nat, i ≤ l.length ∧ u = .int .i64 (i : Nat) ∧ (l.take i).all (depAt m.name) = true ∧ Keep (fun _ => False) H1 h) (fun u _ => match u with | .int _ t => l.length - t.toNat | _ => 0) ⟨0, Nat.zero_le _, rfl, rfl, Keep.refl⟩ ?_
    rintro _ h ⟨i, hi, rfl, hall, kh⟩ k2 hk2
    have e1 : binV .no .lss (.int .i64 (i : Nat)) (.int .i64 (l.length : Nat)) = some (.bool (decide (i < l.length))) := by
      rw [binV_int]; simp only [intV]; congr 2; rw [decide_eq_decide]; omega
    rw [e1, Mpu_some, Mcd_bool]
    by_cases hlt : i < l.length
    · rw [if_pos (by simpa using hlt)]
      have hg : l[i]? = some l[i] := List.getElem?_eq_getElem hlt
      have hvh := hv.keep (k1.trans kh) fun _ _ => id
      obtain ⟨b, o, hix, hpt, _⟩ := hvh.at (i := i) (x := depC l[i]) (by rw [List.getElem?_map, hg]; rfl)
      have hwd := hw _ (List.getElem_mem hlt)
      have hmem : l[i] ∈ l := List.getElem_mem hlt
      have hnext : depAt m.name l[i] = true → (l.take (i + 1)).all (depAt m.name) = true := fun hb => by
        rw [List.take_add_one, hg, List.all_append, hall]; simp [hb]
      generalize l[i] = d at *
      rw [hix .i64, Mpu_some, hpt.agg (depC_len hwd), Mpu_some]
      simp only [z_Dep, Mnew_some]
      generalize hH6 : h.push (.cells (depC zeroD).toArray T_manifest_Dep (0, 0)) = h6
      have k6 : Keep (fun _ => False) h h6 := by rw [← hH6]; exact Keep.push
      have a6 : At h6 h.size (depC zeroD) := by rw [← hH6]; exact At.push
      obtain ⟨h7, st7, a7, k7⟩ := a6.st (n := 6) (ds := depC d) (depC_len zeroD_wf) (depC_len hwd) depC_one
      have g1 := kh.1
      have k17 : Keep (fun _ => False) H1 h7 := (kh.trans k6).fresh k7 fun b hb => by omega
      have d0 : ld1 h7 (Ptr h.size 0) = some (str d.name) := a7.ld rfl
      rw [st7, Mwr_some, fld_ptr, Mpu_some, Nat.add_zero, d0, Mpu_some]
      refine call_i (c_Name hwd.name) ?_
      rintro _ h8 ⟨rfl, k8⟩
      have a8 := a7.keep k8 id
      have k18 := k17.trans k8
      have m8 := man_name (a1.keep k18 id)
      have d8 : ld1 h8 (Ptr h.size 0) = some (str d.name) := a8.ld rfl
      have w8 := dep_want a8 hwd
      have hO8 := hO.keep (k1.trans k18) fun _ h => h.elim
      have eqn : binV .no .eql (str d.name) (str m.name) = some (.bool (decide (d.name = m.name))) := str_eql
      have bad : depAt m.name d = false → ∀ h', Keep (fun _ => False) h8 h' → Value.bool false = .bool (depsOk m.name l) ∧ Keep (fun _ => False) H h' := fun hb h' k' => ⟨by rw [depsOk_bad hmem hb], k1.trans (k18.trans k')⟩
      cases hn : nameOk d.name
      · simp only [fld_ptr, Nat.add_zero, Nat.zero_add, unV_not, Bool.not_true, Bool.not_false, Mif_bool, Mif_undef, pickV_bool, Mcd_bool, Mpu_some, if_true, if_false, Bool.false_eq_true, Bool.true_eq_false, decide_true, decide_false, reduceCtorEq, J1_eq, ex20, ex21, ex30, ex31, ex32, Mre_ok, Mre_nil]
        exact bad (by simp [depAt, hn]) _ Keep.refl
      cases hq : decide (d.name = m.name)
      · simp only [fld_ptr, Nat.add_zero, Nat.zero_add, d8, m8, eqn, hq, w8, unV_not, Bool.not_true, Bool.not_false, Mif_bool, Mif_undef, pickV_bool, Mcd_bool, Mpu_some, if_true, if_false, Bool.false_eq_true, Bool.true_eq_false, decide_true, decide_false, reduceCtorEq, J1_eq, ex20, ex21, ex30, ex31, ex32, Mre_ok, Mre_nil]
        refine call_i (c_WantRight hwd.want hO8) ?_
        rintro _ h9 ⟨rfl, k9⟩
        cases hk9 : wantOk d.want
        · simp only [unV_not, Bool.not_true, Bool.not_false, Mif_bool, Mif_undef, pickV_bool, Mcd_bool, Mpu_some, if_true, if_false, Bool.false_eq_true, Bool.true_eq_false, decide_true, decide_false, reduceCtorEq, J1_eq, ex20, ex21, ex30, ex31, ex32, Mre_ok, Mre_nil]
          exact bad (by simp [depAt, hk9]) _ k9
        · simp only [unV_not, Bool.not_true, Bool.not_false, Mif_bool, Mif_undef, pickV_bool, Mcd_bool, Mpu_some, if_true, if_false, Bool.false_eq_true, Bool.true_eq_false, decide_true, decide_false, reduceCtorEq, J1_eq, ex20, ex21, ex30, ex31, ex32, Mre_ok, Mre_nil]
          rw [add_one' (by omega), Mpu_some]
          exact hk2 _ _ ⟨i + 1, by omega, rfl, hnext (by simp [depAt, hn, hk9, of_decide_eq_false hq]), k18.trans k9⟩ (by show l.length - (i + 1) < l.length - i; omega)
      · simp only [fld_ptr, Nat.add_zero, Nat.zero_add, d8, m8, eqn, hq, unV_not, Bool.not_true, Bool.not_false, Mif_bool, Mif_undef, pickV_bool, Mcd_bool, Mpu_some, if_true, if_false, Bool.false_eq_true, Bool.true_eq_false, decide_true, decide_false, reduceCtorEq, J1_eq, ex20, ex21, ex30, ex31, ex32, Mre_ok, Mre_nil]
        exact bad (by simp [depAt, of_decide_eq_true hq]) _ Keep.refl
    · rw [if_neg (by simpa using hlt)]
      refine hk _ _ ⟨?_, kh⟩
      rwa [List.take_of_length_le (by omega)] at hall
  · rintro _ h ⟨hall, kh⟩
    have e3 : binV .no .leq (.int .i64 (l.length : Nat)) (.int .i64 16) = some (.bool (decide (l.length ≤ 16))) := by
      rw [binV_int]; simp only [intV]; congr 2; rw [decide_eq_decide]; omega
    have kk := k1.trans kh
    rw [hlen, Mpu_some, e3, Mpu_some]
    unfold depsOk
    rw [hall]
    cases h16 : decide (l.length ≤ 16)
    · simp only [unV_not, Bool.not_true, Bool.not_false, Mif_bool, Mif_undef, pickV_bool, Mcd_bool, Mpu_some, if_true, if_false, Bool.false_eq_true, Bool.true_eq_false, decide_true, decide_false, reduceCtorEq, J1_eq, ex20, ex21, ex30, ex31, ex32, Mre_ok, Mre_nil, Bool.true_and, Bool.false_and]
      exact ⟨by trivial, kk⟩
    · simp only [unV_not, Bool.not_true, Bool.not_false, Mif_bool, Mif_undef, pickV_bool, Mcd_bool, Mpu_some, if_true, if_false, Bool.false_eq_true, Bool.true_eq_false, decide_true, decide_false, reduceCtorEq, J1_eq, ex20, ex21, ex30, ex31, ex32, Mre_ok, Mre_nil, Bool.true_and]
      refine call_i (c_riseDep (hv.keep kk fun _ _ => id) hw hl) ?_
      rintro _ h2 ⟨rfl, k2⟩
      simp only [unV_not, Bool.not_true, Bool.not_false, Mif_bool, Mif_undef, pickV_bool, Mcd_bool, Mpu_some, if_true, if_false, Bool.false_eq_true, Bool.true_eq_false, decide_true, decide_false, reduceCtorEq, J1_eq, ex20, ex21, ex30, ex31, ex32, Mre_ok, Mre_nil]
      exact ⟨by trivial, kk.trans k2⟩
end Go.Proofs.YtconalffokhplaaGreatDoor
/- manifests without files: Right, line, Show. -/
namespace Go.Proofs.YtconalffokhplaaGreatDoor
open Go.X Go.X.Diff
set_option maxRecDepth 100000

def manOk (m : Man) : Bool := nameOk m.name && verOk m.ver && depsOk m.name m.deps && depsOk m.name m.conf

theorem c_files0 {P : Nat → Prop} {H : Heap} {m : Man} {vd vc vf : Value} (hv : ManV P H m vd vc vf) (h0 : m.files = []) :
    HCalls prg f_manifest_Manifest_files [.agg (manC m vd vc vf).toArray] H fun u H' => u = .bool true ∧ Keep (fun _ => False) H H' := by
  apply sh_manifest_Manifest_files_calls
  unfold sh_manifest_Manifest_files
  have hlen := hv.f.len
  rw [h0, List.map_nil, List.length_nil] at hlen
  simp only [Cells_agg, Mnew_some]
  generalize hH1 : H.push (.cells (manC m vd vc vf).toArray T_manifest_Manifest (0, 0)) = H1
  have k1 : Keep (fun _ => False) H H1 := by rw [← hH1]; exact Keep.push
  have a1 : At H1 H.size (manC m vd vc vf) := by rw [← hH1]; exact At.push
  have d7 := (man_get a1 hv.wf).2.2
  have e1 : binV .no .gtr (.int .i64 ((0 : Nat) : Int)) (.int .i64 64) = some (.bool false) := rfl
  have e2 : binV .no .lss (.int .i64 1) (.int .i64 ((0 : Nat) : Int)) = some (.bool false) := rfl
  have e3 : binV .no .lss (.int .i64 0) (.int .i64 ((0 : Nat) : Int)) = some (.bool false) := rfl
  have hr : HCalls prg f_manifest_rising_manifest_File [vf, .func (.func f_manifest_File_name) #[] #[]] H1 fun u H' => u = .bool true ∧ H1 = H' := by
    apply sh_manifest_rising_manifest_File_calls
    unfold sh_manifest_rising_manifest_File
    simp only [J1_eq]
    refine L1_i (fun u h => u = .int .i64 1 ∧ H1 = h) (fun _ _ => 0) ⟨rfl, rfl⟩ ?_
    rintro _ _ ⟨rfl, rfl⟩ k hk
    rw [hlen, Mpu_some, e2, Mpu_some, Mcd_bool, if_neg (by decide)]
    exact ⟨by trivial, rfl⟩
  simp only [fld_ptr, Nat.zero_add, d7, hlen, e1, unV_not, Bool.not_true, Bool.not_false, Mif_bool, Mif_undef, pickV_bool, Mcd_bool, Mpu_some, if_true, if_false, Bool.false_eq_true, Bool.true_eq_false, decide_true, decide_false, reduceCtorEq, J1_eq, ex20, ex21, ex30, ex31, ex32, Mre_ok, Mre_nil]
  refine call_i hr ?_
  rintro _ _ ⟨rfl, rfl⟩
  simp only [d7, hlen, unV_not, Bool.not_true, Bool.not_false, Mif_bool, Mif_undef, pickV_bool, Mcd_bool, Mpu_some, if_true, if_false, Bool.false_eq_true, Bool.true_eq_false, decide_true, decide_false, reduceCtorEq, J1_eq, ex20, ex21, ex30, ex31, ex32, Mre_ok, Mre_nil]
  refine L1_i (fun u h => u = .int .i64 0 ∧ H1 = h) (fun _ _ => 0) ⟨by trivial, rfl⟩ ?_
  rintro _ _ ⟨rfl, rfl⟩ k hk
  rw [e3, Mpu_some, Mcd_bool, if_neg (by decide)]
  exact ⟨by trivial, k1⟩

theorem c_Right0 {P : Nat → Prop} {H : Heap} {m : Man} {vd vc vf : Value} (hv : ManV P H m vd vc vf) (h0 : m.files = []) (hd : m.deps.length ≤ 1099511627776) (hc : m.conf.length ≤ 1099511627776) (hO : OpsT H) :
    HCalls prg f_manifest_Manifest_Right [.agg (manC m vd vc vf).toArray] H fun u H' => u = .bool (manOk m) ∧ Keep (fun _ => False) H H' := by
  apply sh_manifest_Manifest_Right_calls
  unfold sh_manifest_Manifest_Right
  simp only [Cells_agg, Mnew_some]
  generalize hH1 : H.push (.cells (manC m vd vc vf).toArray T_manifest_Manifest (0, 0)) = H1
  have k1 : Keep (fun _ => False) H H1 := by rw [← hH1]; exact Keep.push
  have a1 : At H1 H.size (manC m vd vc vf) := by rw [← hH1]; exact At.push
  have w := hv.wf
  rw [fld_ptr, Mpu_some, Nat.add_zero, man_name a1, Mpu_some]
  refine call_i (c_Name w.name) ?_
  rintro _ h2 ⟨rfl, k2⟩
  have a2 := a1.keep k2 id
  have k12 := k1.trans k2
  unfold manOk
  cases h1 : nameOk m.name
  · simp only [unV_not, Bool.not_true, Bool.not_false, Mif_bool, Mif_undef, pickV_bool, Mcd_bool, Mpu_some, if_true, if_false, Bool.false_eq_true, Bool.true_eq_false, decide_true, decide_false, reduceCtorEq, J1_eq, ex20, ex21, ex30, ex31, ex32, Mre_ok, Mre_nil, Bool.false_and]
    exact ⟨by trivial, k12⟩
  simp only [fld_ptr, Nat.zero_add, man_ver a2 w, unV_not, Bool.not_true, Bool.not_false, Mif_bool, Mif_undef, pickV_bool, Mcd_bool, Mpu_some, if_true, if_false, Bool.false_eq_true, Bool.true_eq_false, decide_true, decide_false, reduceCtorEq, J1_eq, ex20, ex21, ex30, ex31, ex32, Mre_ok, Mre_nil]
  refine call_i (c_VerRight w.ver) ?_
  rintro _ h3 ⟨rfl, k3⟩
  have a3 := a2.keep k3 id
  have k13 := k12.trans k3
  cases h2 : verOk m.ver
  · simp only [unV_not, Bool.not_true, Bool.not_false, Mif_bool, Mif_undef, pickV_bool, Mcd_bool, Mpu_some, if_true, if_false, Bool.false_eq_true, Bool.true_eq_false, decide_true, decide_false, reduceCtorEq, J1_eq, ex20, ex21, ex30, ex31, ex32, Mre_ok, Mre_nil, Bool.false_and, Bool.and_false]
    exact ⟨by trivial, k13⟩
  obtain ⟨g5, g6, g7⟩ := man_get a3 w
  simp only [fld_ptr, Nat.zero_add, man_ld a3 w, g5, unV_not, Bool.not_true, Bool.not_false, Mif_bool, Mif_undef, pickV_bool, Mcd_bool, Mpu_some, if_true, if_false, Bool.false_eq_true, Bool.true_eq_false, decide_true, decide_false, reduceCtorEq, J1_eq, ex20, ex21, ex30, ex31, ex32, Mre_ok, Mre_nil]
  refine call_i (c_deps (hv.d.keep k13 fun _ _ => id) w.deps (hO.keep k13 fun _ h => h.elim) hd) ?_
  rintro _ h4 ⟨rfl, k4⟩
  have a4 := a3.keep k4 id
  have k14 := k13.trans k4
  cases h3 : depsOk m.name m.deps
  · simp only [unV_not, Bool.not_true, Bool.not_false, Mif_bool, Mif_undef, pickV_bool, Mcd_bool, Mpu_some, if_true, if_false, Bool.false_eq_true, Bool.true_eq_false, decide_true, decide_false, reduceCtorEq, J1_eq, ex20, ex21, ex30, ex31, ex32, Mre_ok, Mre_nil, Bool.false_and, Bool.and_false]
    exact ⟨by trivial, k14⟩
  obtain ⟨g5, g6, g7⟩ := man_get a4 w
  simp only [fld_ptr, Nat.zero_add, man_ld a4 w, g6, unV_not, Bool.not_true, Bool.not_false, Mif_bool, Mif_undef, pickV_bool, Mcd_bool, Mpu_some, if_true, if_false, Bool.false_eq_true, Bool.true_eq_false, decide_true, decide_false, reduceCtorEq, J1_eq, ex20, ex21, ex30, ex31, ex32, Mre_ok, Mre_nil]
  refine call_i (c_deps (hv.c.keep k14 fun _ _ => id) w.conf (hO.keep k14 fun _ h => h.elim) hc) ?_
  rintro _ h5 ⟨rfl, k5⟩
  have a5 := a4.keep k5 id
  have k15 := k14.trans k5
  cases h4 : depsOk m.name m.conf
  · simp only [unV_not, Bool.not_true, Bool.not_false, Mif_bool, Mif_undef, pickV_bool, Mcd_bool, Mpu_some, if_true, if_false, Bool.false_eq_true, Bool.true_eq_false, decide_true, decide_false, reduceCtorEq, J1_eq, ex20, ex21, ex30, ex31, ex32, Mre_ok, Mre_nil, Bool.false_and, Bool.and_false]
    exact ⟨by trivial, k15⟩
  simp only [man_ld a5 w, unV_not, Bool.not_true, Bool.not_false, Mif_bool, Mif_undef, pickV_bool, Mcd_bool, Mpu_some, if_true, if_false, Bool.false_eq_true, Bool.true_eq_false, decide_true, decide_false, reduceCtorEq, J1_eq, ex20, ex21, ex30, ex31, ex32, Mre_ok, Mre_nil]
  refine call_i (c_files0 (hv.keep k15 fun _ _ => id) h0) ?_
  rintro _ h6 ⟨rfl, k6⟩
  simp only [unV_not, Bool.not_true, Bool.not_false, Mif_bool, Mif_undef, pickV_bool, Mcd_bool, Mpu_some, if_true, if_false, Bool.false_eq_true, Bool.true_eq_false, decide_true, decide_false, reduceCtorEq, J1_eq, ex20, ex21, ex30, ex31, ex32, Mre_ok, Mre_nil, Bool.and_self]
  exact ⟨by trivial, k15.trans k6⟩

/- a line of words -/
def lineF (l : List (List UInt8)) : List UInt8 := joinF [32] l ++ [10]
theorem strs_sl {h : Heap} {q : Nat} {l : List (List UInt8)} {n : Nat} (a : At h q (l.map str)) (hn : n = l.length) : SlE 1 (· = q) h (.slice (some ⟨q, 0, none⟩) n n) (strs l) := by
  subst hn
  exact ⟨⟨_, l.length, by rw [strs_len], by rw [strs_len]; exact Nat.le_refl _, .inr ⟨q, 0, rfl, rfl, by rw [rows1_flat]; exact a.pt⟩⟩, rows1_el, rows1_one fun v hv => by obtain ⟨x, _, rfl⟩ := List.mem_map.1 hv; rfl⟩
theorem join_len (s : List UInt8) : ∀ l : List (List UInt8), (joinF s l).length ≤ total l + l.length * s.length
  | [] => by simp [joinF]
  | x :: xs => by
    have : ∀ ys : List (List UInt8), ((ys.map (s ++ ·)).flatten).length = total ys + ys.length * s.length := by
      intro ys
      induction ys with
      | nil => simp [total]
      | cons y ys ih =>
        rw [List.map_cons, List.flatten_cons, List.length_append, List.length_append, ih]
        unfold total
        rw [List.flatten_cons, List.length_append, List.length_cons, Nat.succ_mul]; omega
    unfold joinF
    rw [List.length_append, this]
    unfold total
    rw [List.flatten_cons, List.length_append, List.length_cons, Nat.succ_mul]; omega
theorem c_line {H : Heap} {q n : Nat} {l : List (List UInt8)} (a : At H q (l.map str)) (hn : n = l.length) (h4 : l.length ≤ 100) (ht : total l ≤ 1099511627776) :
    HCalls prg f_manifest_line [.slice (some ⟨q, 0, none⟩) n n] H fun u H' => u = str (lineF l) ∧ Keep (fun _ => False) H H' := by
  apply sh_manifest_line_calls
  unfold sh_manifest_line
  refine call_i (c_Join (sep := [32]) (strs_sl a hn) (fun b hb => by subst hb; exact a.lt) (by omega) (by simp) ht) ?_
  rintro _ h1 ⟨rfl, k1⟩
  have hj := join_len [32] l
  have e : binV .no .add (str (joinF [32] l)) (.string ⟨#[10]⟩) = some (str (joinF [32] l ++ [10])) := str_app (b := [10]) (by simp at hj ⊢; omega)
  rw [e, Mpu_some]
  exact ⟨rfl, k1⟩

theorem bsl3 {a b c : ByteArray} : bslV prg T_string 3 [(0, .string a), (1, .string b), (2, .string c)] = some #[.string a, .string b, .string c] := by kernel_rfl

def wPackage : List UInt8 := [112, 97, 99, 107, 97, 103, 101]
def wNeeds : List UInt8 := [110, 101, 101, 100, 115]
def wRefuses : List UInt8 := [114, 101, 102, 117, 115, 101, 115]
def depL (w : List UInt8) (d : Dep) : List UInt8 := lineF [w, d.name, wantS d.want]
def manS (m : Man) : List UInt8 := lineF [wPackage, m.name, showF m.ver] ++ ((m.deps.map (depL wNeeds)).flatten ++ (m.conf.map (depL wRefuses)).flatten)

theorem nameOk_len {l : List UInt8} (h : nameOk l = true) : l.length ≤ 32 := by
  unfold nameOk at h
  simp only [Bool.and_eq_true, decide_eq_true_eq] at h
  exact h.1.1.2
theorem lineF_len {l : List (List UInt8)} : (lineF l).length ≤ total l + l.length + 1 := by
  have := join_len [32] l
  unfold lineF
  rw [List.length_append]; simp at this ⊢; omega
end Go.Proofs.YtconalffokhplaaGreatDoor
/- manifests without files: Show. -/
namespace Go.Proofs.YtconalffokhplaaGreatDoor
open Go.X Go.X.Diff
set_option maxRecDepth 100000

theorem wantS_len {w : Want} (h : w.wf) : (wantS w).length ≤ 42 := by
  unfold wantS
  cases hok : wantOk w
  · simp
  cases hs : decide (w.op = [42])
  · have hm := (wantOk_op hok hs).1
    have : ∀ x ∈ opsR, x.length ≤ 2 := by decide
    have h1 := this _ hm
    have h2 := showF_len (v := w.ver) h.ver.p3
    simp only [cond_true, cond_false, List.length_append]; omega
  · simp
theorem depL_len {w : List UInt8} {d : Dep} (hw : w.length ≤ 10) (hd : d.wf) (hn : nameOk d.name = true) : (depL w d).length ≤ 100 := by
  have h1 := nameOk_len hn
  have h2 := wantS_len hd.want
  have := lineF_len (l := [w, d.name, wantS d.want])
  unfold depL
  simp [total] at this ⊢; omega
theorem flat_le {α : Type} {f : α → List UInt8} {n : Nat} : ∀ {l : List α}, (∀ x ∈ l, (f x).length ≤ n) → (l.map f).flatten.length ≤ l.length * n
  | [], _ => by simp
  | x :: l, h => by
    have ih := flat_le (f := f) (n := n) (l := l) fun y hy => h y (List.mem_cons_of_mem _ hy)
    have := h x (List.mem_cons_self ..)
    rw [List.map_cons, List.flatten_cons, List.length_append, List.length_cons, Nat.succ_mul]; omega
theorem bsl3s {a b c : List UInt8} : bslV prg T_string 3 [(0, str a), (1, str b), (2, str c)] = some ([a, b, c].map str).toArray := bsl3

theorem show_loop {P : Nat → Prop} {p : Nat} {H : Heap} {v : Value} {l : List Dep} {w acc : List UInt8} {k : Value → Heap → Prop}
    (hv : SlE 6 P H v (l.map depC)) (hP : ∀ b, P b → b < p) (hb : BAt (p < ·) p H acc) (hp : p < H.size) (hw : ∀ d ∈ l, d.wf) (hok : ∀ d ∈ l, nameOk d.name = true) (hl : l.length ≤ 1048576) (hw8 : w.length ≤ 10) (hacc : acc.length ≤ 1099511627776)
    (hO : OpsT H) (hT : PowT H) (hN : NG ≤ p)
    (hk : ∀ u h, BAt (p < ·) p h (acc ++ (l.map (depL w)).flatten) → Keep (p ≤ ·) H h → k u h) :
    L1 (fun k10 => fun t25_2 h11 =>
        Mpu (binV .no .lss t25_2 (.int .i64 (l.length : Nat))) fun t26 =>
        Mcd t26 (
          Mpu (ixS 6 v t25_2) fun t27 =>
          Mpu (ldN 6 h11 t27) fun t28 =>
          Mnew h11 T_manifest_Dep (zcells prg T_manifest_Dep) fun t6 h12 =>
          Mwr (stN 6 h12 t6 t28) fun h13 =>
          Mpu (fld 0 t6) fun t29 =>
          Mpu (ld1 h13 t29) fun t30 =>
          Mpu (fld 1 t6) fun t31 =>
          Mpu (ldN 5 h13 t31) fun t32 =>
          Mcall prg f_version_Want_Show [t32] h13 fun t33 h14 =>
          Mre [(ld1 h14 t29, t30)] (
          Mnews h14 T_string 3 (bslV prg T_string 3 [(0, str w), (1, t30), (2, t33)]) fun t34 h15 =>
          Mcall prg f_manifest_line [t34] h15 fun t35 h16 =>
          Mcall prg f_strings_Builder_WriteString [Ptr p 0, t35] h16 fun _ h17 =>
          Mpu (binV .no .add t25_2 (.int .i64 1)) fun t37 =>
          k10 t37 h17)) (
          k t25_2 h11)) ((.int .i64 0)) H := by
  refine L1_i (fun u h => ∃ i : Nat, i ≤ l.length ∧ u = .int .i64 (i : Nat) ∧ BAt (p < ·) p h (acc ++ ((l.take i).map (depL w)).flatten) ∧ Keep (p ≤ ·) H h) (fun u _ => match u with | .int _ t => l.length - t.toNat | _ => 0) ⟨0, Nat.zero_le _, rfl, by simpa using hb, Keep.refl⟩ ?_
  rintro _ h ⟨i, hi, rfl, hbi, kh⟩ k2 hk2
  have e1 : binV .no .lss (.int .i64 (i : Nat)) (.int .i64 (l.length : Nat)) = some (.bool (decide (i < l.length))) := by
    rw [binV_int]; simp only [intV]; congr 2; rw [decide_eq_decide]; omega
  rw [e1, Mpu_some, Mcd_bool]
  by_cases hlt : i < l.length
  · rw [if_pos (by simpa using hlt)]
    have hg : l[i]? = some l[i] := List.getElem?_eq_getElem hlt
    obtain ⟨b, o, hix, hpt, _⟩ := (hv.keep kh fun b hb => by have := hP b hb; omega).at (i := i) (x := depC l[i]) (by rw [List.getElem?_map, hg]; rfl)
    have hwd := hw _ (List.getElem_mem hlt)
    have hnd := hok _ (List.getElem_mem hlt)
    have htk : ((l.take (i + 1)).map (depL w)).flatten = ((l.take i).map (depL w)).flatten ++ depL w l[i] := by
      rw [List.take_add_one, hg, List.map_append, List.flatten_append]
      simp only [Option.toList_some, List.map_cons, List.map_nil, List.flatten_cons, List.flatten_nil, List.append_nil]
    generalize l[i] = d at *
    rw [hix .i64, Mpu_some, hpt.agg (depC_len hwd), Mpu_some]
    simp only [z_Dep, Mnew_some]
    generalize hH6 : h.push (.cells (depC zeroD).toArray T_manifest_Dep (0, 0)) = h6
    have k6 : Keep (fun _ => False) h h6 := by rw [← hH6]; exact Keep.push
    have a6 : At h6 h.size (depC zeroD) := by rw [← hH6]; exact At.push
    obtain ⟨h7, st7, a7, k7⟩ := a6.st (n := 6) (ds := depC d) (depC_len zeroD_wf) (depC_len hwd) depC_one
    have g1 := kh.1
    have g6 := k6.1
    have k17 : Keep (fun _ => False) h h7 := k6.fresh k7 fun b hb => by omega
    have kH7 : Keep (p ≤ ·) H h7 := kh.trans (k17.mono fun _ _ h => h.elim)
    have d0 : ld1 h7 (Ptr h.size 0) = some (str d.name) := a7.ld rfl
    rw [st7, Mwr_some, fld_ptr, Mpu_some, Nat.add_zero, d0, Mpu_some, fld_ptr, Mpu_some, Nat.zero_add, dep_want a7 hwd, Mpu_some]
    refine call_i (c_WantShow hwd.want (hO.keep kH7 fun b hb => by omega) (hT.keep kH7 fun b hb => by omega)) ?_
    rintro _ h8 ⟨rfl, k8⟩
    have d8 : ld1 h8 (Ptr h.size 0) = some (str d.name) := (a7.keep k8 id).ld rfl
    refine ⟨d8, ?_⟩
    simp only [bsl3s, Mnews_some]
    generalize hH9 : h8.push (.cells ([w, d.name, wantS d.want].map str).toArray T_string (0, 0)) = h9
    have k9 : Keep (fun _ => False) h8 h9 := by rw [← hH9]; exact Keep.push
    have a9 : At h9 h8.size ([w, d.name, wantS d.want].map str) := by rw [← hH9]; exact At.push
    have l1 := nameOk_len hnd
    have l2 := wantS_len hwd.want
    refine call_i (c_line a9 rfl (by simp) (by simp [total]; omega)) ?_
    rintro _ h10 ⟨rfl, k10⟩
    have kk : Keep (fun _ => False) h h10 := k17.trans (k8.trans (k9.trans k10))
    have hb10 := hbi.keep kk fun _ _ => id
    have hdl : (lineF [w, d.name, wantS d.want]).length ≤ 100 := depL_len hw8 hwd hnd
    have hfl := flat_le (f := depL w) (n := 100) (l := l.take i) fun x hx => depL_len hw8 (hw x (List.mem_of_mem_take hx)) (hok x (List.mem_of_mem_take hx))
    have hti : (l.take i).length ≤ 1048576 := by rw [List.length_take]; omega
    have hsz := kk.1
    refine call_i (c_WriteString hb10 (by
      rw [List.length_append]
      have : (l.take i).length * 100 ≤ 1048576 * 100 := Nat.mul_le_mul_right _ hti
      omega) fun b hb => by show p < b; omega) ?_
    rintro _ h11 ⟨rfl, hb11, k11⟩
    rw [add_one' (by omega), Mpu_some]
    refine hk2 _ _ ⟨i + 1, by omega, rfl, ?_, ?_⟩ (by show l.length - (i + 1) < l.length - i; omega)
    · rw [htk, ← List.append_assoc]; exact hb11
    · exact (kh.trans (kk.mono fun _ _ h => h.elim)).trans (k11.mono fun b _ hb => by rcases hb with hb | hb <;> omega)
  · rw [if_neg (by simpa using hlt)]
    rw [List.take_of_length_le (by omega)] at hbi
    exact hk _ _ hbi kh

theorem c_Show0 {P : Nat → Prop} {H : Heap} {m : Man} {vd vc vf : Value} (hv : ManV P H m vd vc vf) (hP : ∀ b, P b → b < H.size) (h0 : m.files = []) (hd : m.deps.length ≤ 1048576) (hc : m.conf.length ≤ 1048576) (hO : OpsT H) (hT : PowT H) :
    HCalls prg f_manifest_Manifest_Show [.agg (manC m vd vc vf).toArray] H fun u H' => u = (if manOk m = true then .tuple #[str (manS m), .int .i64 0] else .tuple #[str [], .int .i64 10]) ∧ Keep (fun _ => False) H H' := by
  apply sh_manifest_Manifest_Show_calls
  unfold sh_manifest_Manifest_Show
  simp only [Cells_agg, Mnew_some]
  generalize hH1 : H.push (.cells (manC m vd vc vf).toArray T_manifest_Manifest (0, 0)) = H1
  have k1 : Keep (fun _ => False) H H1 := by rw [← hH1]; exact Keep.push
  have a1 : At H1 H.size (manC m vd vc vf) := by rw [← hH1]; exact At.push
  have w := hv.wf
  rw [man_ld a1 w, Mpu_some]
  refine call_i (c_Right0 (hv.keep k1 fun _ _ => id) h0 (by omega) (by omega) (hO.keep k1 fun _ h => h.elim)) ?_
  rintro _ h2 ⟨rfl, k2⟩
  have a2 := a1.keep k2 id
  have k12 := k1.trans k2
  rw [unV_not, Mpu_some, Mcd_bool]
  cases hok : manOk m
  · simp only [unV_not, Bool.not_true, Bool.not_false, Mif_bool, Mif_undef, pickV_bool, Mcd_bool, Mpu_some, if_true, if_false, Bool.false_eq_true, Bool.true_eq_false, decide_true, decide_false, reduceCtorEq, J1_eq, ex20, ex21, ex30, ex31, ex32, Mre_ok, Mre_nil]
    exact ⟨by trivial, k12⟩
  rw [if_neg (by decide)]
  simp only [z_Builder, Mnew_some]
  generalize hH3 : h2.push (.cells #[.pointer none, .slice none 0 0] T_strings_Builder (0, 0)) = h3
  have k3 : Keep (fun _ => False) h2 h3 := by rw [← hH3]; exact Keep.push
  generalize hp : h2.size = p at *
  have hp1 : h3[p]? = some (.cells #[.pointer none, .slice none 0 0] T_strings_Builder (0, 0)) := by rw [← hH3, ← hp]; exact push_new
  have hB : BAt (p < ·) p h3 [] := ⟨Nat.lt_irrefl _, _, _, hp1, .inl rfl, .inl ⟨rfl, rfl⟩⟩
  have s3 : h3.size = p + 1 := by rw [← hH3]; simp [hp]
  have a3 := a2.keep k3 id
  have k13 := k12.trans k3
  have g1 := k1.1
  have g12 := k12.1
  have hN : NG ≤ p := by have := hT.sz; omega
  have hq : H.size < p := by have := a2.lt; omega
  rw [fld_ptr, Mpu_some, Nat.add_zero, man_name a3, Mpu_some, fld_ptr, Mpu_some, Nat.zero_add, man_ver a3 w, Mpu_some]
  refine call_i (c_ShowT w.ver (hT.keep k13 fun _ h => h.elim)) ?_
  rintro _ h4 ⟨rfl, k4⟩
  have a4 := a3.keep k4 id
  refine ⟨man_name a4, ?_⟩
  have hpk : (Value.string ⟨#[112, 97, 99, 107, 97, 103, 101]⟩) = str wPackage := rfl
  simp only [hpk, bsl3s, Mnews_some]
  generalize hH5 : h4.push (.cells ([wPackage, m.name, showF m.ver].map str).toArray T_string (0, 0)) = h5
  have k5 : Keep (fun _ => False) h4 h5 := by rw [← hH5]; exact Keep.push
  have b5 : At h5 h4.size ([wPackage, m.name, showF m.ver].map str) := by rw [← hH5]; exact At.push
  have hok' := hok
  unfold manOk at hok'
  simp only [Bool.and_eq_true] at hok'
  obtain ⟨⟨⟨ok1, ok2⟩, ok3⟩, ok4⟩ := hok'
  have l1 := nameOk_len ok1
  have l2 := showF_len (v := m.ver) w.ver.p3
  refine call_i (c_line b5 rfl (by simp) (by simp [total, wPackage]; omega)) ?_
  rintro _ h6 ⟨rfl, k6⟩
  have k36 := k4.trans (k5.trans k6)
  have g3 := k36.1
  have hB6 := hB.keep k36 fun _ _ => id
  have hl0 : (lineF [wPackage, m.name, showF m.ver]).length ≤ 100 := by
    have := lineF_len (l := [wPackage, m.name, showF m.ver])
    simp [total, wPackage] at this ⊢; omega
  refine call_i (c_WriteString hB6 (by simp; omega) fun b hb => by show p < b; omega) ?_
  rintro _ h7 ⟨rfl, hB7, k7⟩
  rw [List.nil_append] at hB7
  have k17 : Keep (p ≤ ·) H h7 := ((k13.trans k36).mono fun _ _ h => h.elim).trans (k7.mono fun b _ hb => by rcases hb with hb | hb <;> omega)
  have k37 : Keep (p ≤ ·) h3 h7 := (k36.mono fun _ _ h => h.elim).trans (k7.mono fun b _ hb => by rcases hb with hb | hb <;> omega)
  have a7 := a3.keep k37 (show ¬ p ≤ H.size by omega)
  have hPp : ∀ b, P b → b < p := fun b hb => by have := hP b hb; omega
  have hPn : ∀ b, P b → ¬ p ≤ b := fun b hb => by have := hPp b hb; omega
  have hv7 := hv.keep k17 hPn
  obtain ⟨g5, g6, g7⟩ := man_get a7 w
  have hdw : ∀ l : List Dep, depsOk m.name l = true → ∀ d ∈ l, nameOk d.name = true := fun l hl d hd => by
    unfold depsOk at hl
    simp only [Bool.and_eq_true, List.all_eq_true] at hl
    have := hl.1.1 d hd
    unfold depAt at this
    simp only [Bool.and_eq_true] at this
    exact this.1.1
  have g77 := k37.1
  have lend := hv7.d.len
  rw [List.length_map] at lend
  refine J1_i (fun _ h => BAt (p < ·) p h (lineF [wPackage, m.name, showF m.ver] ++ (m.deps.map (depL wNeeds)).flatten) ∧ Keep (p ≤ ·) h7 h) (fun k hk => ?_) ?_
  · rw [fld_ptr, Mpu_some, Nat.zero_add, g5, Mpu_some, lend, Mpu_some]
    exact show_loop (w := wNeeds) hv7.d hPp hB7 (by omega) w.deps (hdw _ ok3) hd (by decide) (by omega) (hO.keep k17 fun b hb => by omega) (hT.keep k17 fun b hb => by omega) hN fun u h hb k => hk u h ⟨hb, k⟩
  rintro _ h8 ⟨hB8, k8⟩
  have k18 := k17.trans k8
  have a8 := a7.keep k8 (show ¬ p ≤ H.size by omega)
  have hv8 := hv.keep k18 hPn
  obtain ⟨g5, g6, g7⟩ := man_get a8 w
  have lenc := hv8.c.len
  rw [List.length_map] at lenc
  have hfl := flat_le (f := depL wNeeds) (n := 100) (l := m.deps) fun x hx => depL_len (by decide) (w.deps x hx) (hdw _ ok3 x hx)
  have hd' : m.deps.length * 100 ≤ 1048576 * 100 := Nat.mul_le_mul_right _ hd
  have g8 := k8.1
  refine J1_i (fun _ h => BAt (p < ·) p h (manS m) ∧ Keep (p ≤ ·) h8 h) (fun k hk => ?_) ?_
  · rw [fld_ptr, Mpu_some, Nat.zero_add, g6, Mpu_some, lenc, Mpu_some]
    exact show_loop (w := wRefuses) hv8.c hPp hB8 (by omega) w.conf (hdw _ ok4) hc (by decide) (by rw [List.length_append]; omega) (hO.keep k18 fun b hb => by omega) (hT.keep k18 fun b hb => by omega) hN fun u h hb k => hk u h ⟨by unfold manS; rw [← List.append_assoc]; exact hb, k⟩
  rintro _ h9 ⟨hB9, k9⟩
  have k19 := k18.trans k9
  have a9 := a8.keep k9 (show ¬ p ≤ H.size by omega)
  have hv9 := hv.keep k19 hPn
  obtain ⟨g5, g6, g7⟩ := man_get a9 w
  have lenf := hv9.f.len
  rw [h0, List.map_nil, List.length_nil] at lenf
  have e3 : binV .no .lss (.int .i64 0) (.int .i64 ((0 : Nat) : Int)) = some (.bool false) := rfl
  refine J1_i (fun _ h => h9 = h) (fun k hk => ?_) ?_
  · rw [fld_ptr, Mpu_some, Nat.zero_add, g7, Mpu_some, lenf, Mpu_some]
    refine L1_i (fun u h => u = .int .i64 0 ∧ h9 = h) (fun _ _ => 0) ⟨rfl, rfl⟩ ?_
    rintro _ _ ⟨rfl, rfl⟩ k' hk'
    rw [e3, Mpu_some, Mcd_bool, if_neg (by decide)]
    exact hk _ _ rfl
  rintro _ _ rfl
  have hfl2 := flat_le (f := depL wRefuses) (n := 100) (l := m.conf) fun x hx => depL_len (by decide) (w.conf x hx) (hdw _ ok4 x hx)
  have hc' : m.conf.length * 100 ≤ 1048576 * 100 := Nat.mul_le_mul_right _ hc
  refine call_i (c_BString hB9 (by unfold manS; rw [List.length_append, List.length_append]; omega)) ?_
  rintro _ h10 ⟨rfl, k10⟩
  refine ⟨by rw [if_pos trivial], ?_⟩
  have kk : Keep (p ≤ ·) H h10 := k19.trans (k10.mono fun b _ hb => by omega)
  exact ⟨kk.1, fun i hi _ => kk.2 i hi (by omega)⟩
end Go.Proofs.YtconalffokhplaaGreatDoor
