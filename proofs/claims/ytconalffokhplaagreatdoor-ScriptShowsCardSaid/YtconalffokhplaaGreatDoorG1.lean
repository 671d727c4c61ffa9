/- JOINED: V120 V121 V122 V123 -/
import Derived.Test.YtconalffokhplaaGreatDoorGO
import Derived.Test.YtconalffokhplaaGreatDoorGN
import Derived.Test.YtconalffokhplaaGreatDoorG0
set_option linter.unusedSimpArgs false
set_option linter.unusedVariables false
/- strings: Count of one byte, Split, TrimSuffix, Lines. -/
namespace Go.Proofs.YtconalffokhplaaGreatDoor
open Go.X Go.X.Diff
set_option maxRecDepth 100000

theorem xt_CountString {args : Array Value} : xtV prg f_internal_bytealg_CountString args = Extern.BytealgCount.count args := by kernel_rfl
theorem c_Count {H : Heap} {l : List UInt8} {c : UInt8} : HCalls prg f_strings_Count [str l, str [c]] H fun u H' => u = .int .i64 (l.count c : Nat) ∧ H = H' := by
  apply sh_strings_Count_calls
  unfold sh_strings_Count
  have e1 : lenT (str [c]) = some (.int .i64 1) := rfl
  have e2 : binV .no .eql (.int .i64 1) (.int .i64 0) = some (.bool false) := rfl
  have e3 : binV .no .eql (.int .i64 1) (.int .i64 1) = some (.bool true) := rfl
  have e4 : ixT (str [c]) (.int .i64 0) = some (.int .u8 c.toNat) := ixT_str (i := 0) rfl
  simp only [e1, e2, e3, e4, Mpu_some, Mcd_bool, Bool.false_eq_true, if_false, if_true]
  intro w hw
  refine ⟨_, w, by rw [xt_CountString]; exact Lib.run_countString _ _ w, Same.rfl' w, ?_, hw.symm⟩
  simp [Lib.countByte]

theorem split_count (c : UInt8) : ∀ l : List UInt8, (splitF c l).length = l.count c + 1
  | [] => rfl
  | x :: l => by
    have ih := split_count c l
    rw [splitF]
    by_cases hx : x = c
    · rw [if_pos hx, List.length_cons, ih, hx, List.count_cons_self]
    · rw [if_neg hx, List.count_cons_of_ne hx]
      split
      · rename_i h; exact absurd h splitF_ne
      · rename_i h t e; rw [e] at ih; simpa using ih
theorem split_one {c : UInt8} {l : List UInt8} (h : (splitF c l).length ≤ 1) : splitF c l = [l] := by
  rw [split_count] at h
  exact splitF_none (List.count_eq_zero.1 (by omega))

theorem zrow_v {v : Value} {n : Nat} : zrow #[v] n = (List.replicate n v).toArray := by
  apply Array.ext'
  unfold zrow
  simp only [Array.toList_map, Array.toList_range, List.toList_toArray]
  apply List.ext_getElem
  · simp
  · intro i h1 h2
    simp [Nat.mod_one]
theorem b_string : prg.bytesOf T_string = 16 := by kernel_rfl
theorem c1_string : prg.cellsOf T_string = 1 := by kernel_rfl
theorem i_string : (prg.info? T_string).isSome = true := by kernel_rfl
theorem z_string : zcells prg T_string = some [str []].toArray := by kernel_rfl

theorem c_Split {H : Heap} {l : List UInt8} {c : UInt8} (hl : l.length ≤ 1099511627776) : HCalls prg f_strings_Split [str l, str [c]] H fun u H' => BufE 1 (H.size ≤ ·) H' u (strs (splitF c l)) ∧ Keep (fun _ => False) H H' := by
  apply sh_strings_Split_calls
  unfold sh_strings_Split
  refine call_i (R := fun u H' => BufE 1 (H.size ≤ ·) H' u (strs (splitF c l)) ∧ Keep (fun _ => False) H H') ?_ fun u h hR => hR
  apply sh_strings_genSplit_calls
  unfold sh_strings_genSplit
  have e1 : binV .no .eql (.int .i64 (-1)) (.int .i64 0) = some (.bool false) := rfl
  have e2 : binV .no .eql (str [c]) (.string ⟨#[]⟩) = some (.bool false) := by
    have := str_eql (q := .no) (a := [c]) (b := [])
    simpa using this
  have e3 : binV .no .lss (.int .i64 (-1)) (.int .i64 0) = some (.bool true) := rfl
  have hcnt : l.count c ≤ l.length := List.count_le_length
  have hn := split_count c l
  generalize hN : (splitF c l).length = n at hn
  simp only [e1, e2, e3, Mpu_some, Mcd_bool, Bool.false_eq_true, if_false]
  refine J1_i (fun v h => v = .int .i64 (n : Nat) ∧ H = h) (fun k hk => ?_) ?_
  · simp only [if_true]
    refine call_i c_Count ?_
    rintro _ _ ⟨rfl, rfl⟩
    rw [add_one' (by omega), Mpu_some]
    exact hk _ _ ⟨by rw [hn], rfl⟩
  rintro _ _ ⟨rfl, rfl⟩
  have e4 : minV true [.int .i64 (n : Nat), .int .i64 ((l.length + 1 : Nat) : Int)] = some (.int .i64 (n : Nat)) := by
    simp only [minV, if_true]; rw [if_neg (by omega)]
  have e5 : binV .no .sub (.int .i64 (n : Nat)) (.int .i64 1) = some (.int .i64 ((n - 1 : Nat) : Int)) := by
    rw [binV_int]; simp only [intV]; rw [wrap_id (by omega) (by omega)]; congr 2; omega
  rw [lenT_str, Mpu_some, add_one' hl, Mpu_some, e4, Mpu_some]
  refine ⟨_, _, n, n, _, rfl, rfl, Nat.le_refl _, by rw [b_string]; omega, by omega, z_string, i_string, ?_⟩
  rw [c1_string, Nat.mul_one, zrow_v]
  generalize hH1 : H.push (.cells (List.replicate n (str [])).toArray T_string (0, 0)) = H1
  have k1 : Keep (fun _ => False) H H1 := by rw [← hH1]; exact Keep.push
  have a1 : At H1 H.size (List.replicate n (str [])) := by rw [← hH1]; exact At.push
  rw [e5, Mpu_some]
  let I : Value → Value → Heap → Prop := fun u v h => ∃ (pre : List (List UInt8)) (rest : List UInt8), splitF c l = pre ++ splitF c rest ∧ rest.length ≤ l.length ∧ u = str rest ∧ v = .int .i64 (pre.length : Nat) ∧ At h H.size (pre.map str ++ List.replicate (n - pre.length) (str [])) ∧ Keep (fun _ => False) H h
  let Z : Value → Value → Heap → Prop := fun u v h => ∃ (pre : List (List UInt8)) (rest : List UInt8), splitF c l = pre ++ [rest] ∧ u = str rest ∧ v = .int .i64 (pre.length : Nat) ∧ At h H.size (pre.map str ++ List.replicate (n - pre.length) (str [])) ∧ Keep (fun _ => False) H h
  refine J2_i Z (fun k hk => ?_) ?_
  · refine L2_i I (fun _ v _ => match v with | .int _ i => n - i.toNat | _ => 0) ⟨[], l, rfl, Nat.le_refl _, rfl, rfl, by simpa using a1, k1⟩ ?_
    rintro _ _ h ⟨pre, rest, hsp, hle, rfl, rfl, ha, hk1⟩ k2 hk2
    have hlen := congrArg List.length hsp
    rw [List.length_append, hN] at hlen
    have hpos : 0 < (splitF c rest).length := List.length_pos_iff.2 splitF_ne
    have e6 : binV .no .lss (.int .i64 (pre.length : Nat)) (.int .i64 ((n - 1 : Nat) : Int)) = some (.bool (decide (pre.length < n - 1))) := by
      rw [binV_int]; simp only [intV]; congr 2; rw [decide_eq_decide]; omega
    rw [e6, Mpu_some, Mcd_bool]
    by_cases hlt : pre.length < n - 1
    · rw [if_pos (by simpa using hlt)]
      refine call_i c_sIndex ?_
      rintro _ _ ⟨rfl, rfl⟩
      rcases index_cases rest c with he | ⟨o, he⟩
      · rw [he, lt_neg', Mpu_some, Mcd_bool, if_pos rfl]
        exact hk _ _ _ ⟨pre, rest, by rw [hsp, splitF_none (index_none he)], rfl, rfl, ha, hk1⟩
      · obtain ⟨hlo, hni, hre⟩ := index_some he
        have hsr : splitF c rest = rest.take o :: splitF c (rest.drop (o + 1)) := by
          conv => lhs; rw [hre]
          exact splitF_some hni
        have e7 : binV .no .add (.int .i64 (o : Nat)) (.int .i64 0) = some (.int .i64 (o : Nat)) := by
          rw [binV_int]; simp only [intV]; rw [wrap_id (by omega) (by omega)]; simp
        have e8 : lenT (str [c]) = some (.int .i64 1) := rfl
        obtain ⟨h2, st2, a2, kk2⟩ := ha.st1 (i := pre.length) (v := str (rest.take o)) (by simp; omega) rfl
        have hrep : n - pre.length = n - (pre.length + 1) + 1 := by omega
        rw [he, lt_zero', Mpu_some, Mcd_bool, if_neg (by decide), e7, Mpu_some, sl_to (Nat.le_of_lt hlo), Mpu_some, ixS_at (by omega), Mpu_some, Nat.zero_add, st2, Mwr_some, e8, Mpu_some, add_one' (by omega), Mpu_some, sl_from (show o + 1 ≤ rest.length by omega), Mpu_some, add_one' (by omega), Mpu_some]
        refine hk2 _ _ _ ⟨pre ++ [rest.take o], rest.drop (o + 1), by rw [hsp, hsr]; simp, by simp; omega, rfl, by simp, ?_, hk1.fresh kk2 fun b hb => by omega⟩ ?_
        · have : (pre.map str ++ List.replicate (n - pre.length) (str [])).set pre.length (str (rest.take o)) = (pre ++ [rest.take o]).map str ++ List.replicate (n - (pre ++ [rest.take o]).length) (str []) := by
            rw [hrep, List.replicate_succ, List.set_append_right _ _ (by simp)]
            simp
          rw [← this]; exact a2
        · simp; omega
    · rw [if_neg (by simpa using hlt)]
      exact hk _ _ _ ⟨pre, rest, by rw [hsp, split_one (l := rest) (by omega)], rfl, rfl, ha, hk1⟩
  · rintro _ _ h ⟨pre, rest, hsp, rfl, rfl, ha, hk1⟩
    have hlen := congrArg List.length hsp
    rw [List.length_append, hN] at hlen
    simp only [List.length_cons, List.length_nil] at hlen
    obtain ⟨h2, st2, a2, kk2⟩ := ha.st1 (i := pre.length) (v := str rest) (by simp; omega) rfl
    have e9 : slS 1 (.slice (some ⟨H.size, 0, none⟩) n n) none (some (.int .i64 ((pre.length + 1 : Nat) : Int))) none = some (.slice (some ⟨H.size, 0, none⟩) n n) := by
      have hbn : bnds n n none (some (.int .i64 ((pre.length + 1 : Nat) : Int))) none = some (0, n, n) := by
        rw [← hlen]
        simp [bnds, bnd]
      simp only [slS, hbn]; simp
    rw [ixS_at (by omega), Mpu_some, Nat.zero_add, st2, Mwr_some, add_one' (by omega), Mpu_some, e9, Mpu_some]
    have hfin : (pre.map str ++ List.replicate (n - pre.length) (str [])).set pre.length (str rest) = (splitF c l).map str := by
      rw [show n - pre.length = 1 by omega, List.set_append_right _ _ (by simp), hsp]; simp
    rw [hfin] at a2
    obtain ⟨T, a2⟩ := a2
    refine ⟨⟨rows1_el, rows1_one (fun v hv => by obtain ⟨x, _, rfl⟩ := List.mem_map.1 hv; rfl), .inr ⟨H.size, 0, n, _, T, _, by simp [hN], Nat.le_refl _, by simp [hN], a2, by simp [hN], fun _ _ => thaw_00, by rw [rows1_len, List.length_map, Nat.mul_one, List.drop_zero, rows1_flat]; exact List.take_of_length_le (by simp)⟩⟩, hk1.fresh kk2 fun b hb => by omega⟩

/- TrimSuffix of one byte -/
/- Lines -/
end Go.Proofs.YtconalffokhplaaGreatDoor

/- manifests: what they are, Deps that are right. -/
namespace Go.Proofs.YtconalffokhplaaGreatDoor
open Go.X Go.X.Diff
set_option maxRecDepth 100000

structure Dep where
  name : List UInt8
  want : Want
structure Dep.wf (d : Dep) : Prop where
  want : d.want.wf
  name : d.name.length ≤ 9223372036854775807
def depC (d : Dep) : List Value := str d.name :: wantC d.want
structure MFile where
  name : List UInt8
  sum : List UInt8
  size : Int
def fileC (f : MFile) : List Value := str f.name :: (bcells f.sum ++ [.int .i64 f.size])
structure MFile.wf (f : MFile) : Prop where
  name : f.name.length ≤ 9223372036854775807
  sum : f.sum.length = 32
  size : -9223372036854775808 ≤ f.size ∧ f.size ≤ 9223372036854775807
structure Man where
  name : List UInt8
  ver : Ver
  deps : List Dep
  conf : List Dep
  files : List MFile
structure Man.wf (m : Man) : Prop where
  name : m.name.length ≤ 9223372036854775807
  ver : m.ver.wf
  deps : ∀ d ∈ m.deps, d.wf
  conf : ∀ d ∈ m.conf, d.wf
  files : ∀ f ∈ m.files, f.wf
def manC (m : Man) (vd vc vf : Value) : List Value := str m.name :: (verC m.ver ++ [vd, vc, vf])
/-- a manifest's value: what its slices hold -/
structure ManV (P : Nat → Prop) (H : Heap) (m : Man) (vd vc vf : Value) : Prop where
  d : SlE 6 P H vd (m.deps.map depC)
  c : SlE 6 P H vc (m.conf.map depC)
  f : SlE 34 P H vf (m.files.map fileC)
  wf : m.wf
theorem ManV.keep {P S : Nat → Prop} {H H' : Heap} {m : Man} {vd vc vf : Value} (h : ManV P H m vd vc vf) (k : Keep S H H') (hs : ∀ b, P b → ¬ S b) : ManV P H' m vd vc vf :=
  ⟨h.d.keep k hs, h.c.keep k hs, h.f.keep k hs, h.wf⟩
theorem ManV.one {P : Nat → Prop} {H : Heap} {m : Man} {vd vc vf : Value} (h : ManV P H m vd vc vf) : ∀ c ∈ manC m vd vc vf, c.oneCell' = true := by
  intro c hc
  rcases List.mem_cons.1 hc with rfl | hc
  · rfl
  rcases List.mem_append.1 hc with hc | hc
  · exact verC_one c hc
  simp at hc
  rcases hc with rfl | rfl | rfl
  · exact h.d.oneC
  · exact h.c.oneC
  · exact h.f.oneC
section
variable {h : Heap} {q : Nat} {m : Man} {vd vc vf : Value}
end

/- rising names -/
/- Deps -/
end Go.Proofs.YtconalffokhplaaGreatDoor

/- manifests without files: Right, line, Show. -/
namespace Go.Proofs.YtconalffokhplaaGreatDoor
open Go.X Go.X.Diff
set_option maxRecDepth 100000

/- a line of words -/
theorem join_len (s : List UInt8) : ∀ l : List (List UInt8), (joinF s l).length ≤ total l + l.length * s.length
  | [] => by simp [joinF]
  | x :: xs => by
    have : ∀ ys : List (List UInt8), ((ys.map (s ++ ·)).flatten).length = total ys + ys.length * s.length := by
      intro ys
      induction ys with
      | nil => simp [total]
      | cons y ys ih =>
        rw [List.map_cons, List.flatten_cons, List.length_append, List.length_append, ih]
        unfold total
        rw [List.flatten_cons, List.length_append, List.length_cons, Nat.succ_mul]; omega
    unfold joinF
    rw [List.length_append, this]
    unfold total
    rw [List.flatten_cons, List.length_append, List.length_cons, Nat.succ_mul]; omega
end Go.Proofs.YtconalffokhplaaGreatDoor

/- manifests without files: Show. -/
namespace Go.Proofs.YtconalffokhplaaGreatDoor
open Go.X Go.X.Diff
set_option maxRecDepth 100000

theorem wantS_len {w : Want} (h : w.wf) : (wantS w).length ≤ 42 := by
  unfold wantS
  cases hok : wantOk w
  · simp
  cases hs : decide (w.op = [42])
  · have hm := (wantOk_op hok hs).1
    have : ∀ x ∈ opsR, x.length ≤ 2 := by decide
    have h1 := this _ hm
    have h2 := showF_len (v := w.ver) h.ver.p3
    simp only [cond_true, cond_false, List.length_append]; omega
  · simp
theorem flat_le {α : Type} {f : α → List UInt8} {n : Nat} : ∀ {l : List α}, (∀ x ∈ l, (f x).length ≤ n) → (l.map f).flatten.length ≤ l.length * n
  | [], _ => by simp
  | x :: l, h => by
    have ih := flat_le (f := f) (n := n) (l := l) fun y hy => h y (List.mem_cons_of_mem _ hy)
    have := h x (List.mem_cons_self ..)
    rw [List.map_cons, List.flatten_cons, List.length_append, List.length_cons, Nat.succ_mul]; omega
end Go.Proofs.YtconalffokhplaaGreatDoor

