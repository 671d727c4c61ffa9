/- JOINED: V106 V107 -/
import Derived.Test.YtdmciknajaedmaaGreatDoorG2
import Derived.Test.YtdmciknajaedmaaGreatDoorG3
set_option linter.unusedSimpArgs false
set_option linter.unusedVariables false
/- anchor: Parse; a register and a history copied at once. -/
namespace Go.Proofs.YtdmciknajaedmaaGreatDoor
open Go.X Go.X.Diff
set_option maxRecDepth 100000

def rBool (s : RS) : Bool := !tkB 1 s && (s.1.headD 0 == 1)
def rBoolS (s : RS) : RS := ((tkS 1 s).1, tkB 1 s || decide ((s.1.headD 0).toNat > 1))
theorem c_In_Bool {P : Nat → Prop} {p : Nat} {H : Heap} {s : RS} (h : InAt P p H s) :
    HCalls prg f_wire_In_Bool [Ptr p 0] H fun u H' => u = .bool (rBool s) ∧ InAt P p H' (rBoolS s) ∧ Keep (· = p) H H' := by
  apply sh_wire_In_Bool_calls
  unfold sh_wire_In_Bool
  refine call_i (c_take h 1) ?_
  rintro u h1 ⟨hu, hi, hk⟩
  simp only [nck_ptr, fld_ptr, Mpu_some, Nat.zero_add, hi.bad, Mcd_bool]
  have e : (tkS 1 s).2 = tkB 1 s := rfl
  rw [e]
  by_cases hb : tkB 1 s = true
  · rw [if_pos hb]
    refine ⟨by simp [rBool, hb], ?_, hk⟩
    have : rBoolS s = tkS 1 s := by unfold rBoolS; rw [hb]; exact Prod.ext rfl (by rw [e, hb]; rfl)
    rw [this]; exact hi
  · rw [if_neg hb]
    have hb' : tkB 1 s = false := by simpa using hb
    obtain ⟨l, bad⟩ := s
    have hn : ¬ l.length < 1 := by intro h; simp [tkB, h] at hb'
    obtain ⟨x, l, rfl⟩ := List.exists_cons_of_length_pos (show 0 < l.length by omega)
    have ho : tkO 1 (x :: l, bad) = [x] := by rw [tkO, hb']; rfl
    rw [ho] at hu
    obtain ⟨y, hy, hy', hyb⟩ := hu.at (i := 0) (x := x) rfl
    obtain ⟨h2, hst, hin, hk2⟩ := hi.setBad (decide (x.toNat > 1))
    have hy2 : ld1 h2 y = some (.int .u8 x.toNat) := by
      obtain ⟨z, hz, hz', _⟩ := (hu.keep hk2 fun b hb e => h.1.1 (e ▸ hb)).at (i := 0) (x := x) rfl
      rw [hy] at hz; cases hz; exact hz'
    have hy : ixS 1 u (.int .i64 0) = some y := hy
    have hd : decide ((x.toNat : Int) > 1) = decide (x.toNat > 1) := by rw [decide_eq_decide]; omega
    simp only [hy, Mpu_some, hy', binV_int, intV, hd, hst, Mwr_some, hy2]
    refine ⟨?_, ?_, hk.trans hk2⟩
    · simp only [rBool, hb', List.headD_cons, Bool.not_false, Bool.true_and]
      congr 1
      rw [Bool.eq_iff_iff, beq_iff_eq, beq_iff_eq]
      constructor
      · intro h; apply UInt8.toNat.inj; have : x.toNat = 1 := by omega
        simpa using this
      · rintro rfl; rfl
    · have : rBoolS (x :: l, bad) = ((tkS 1 (x :: l, bad)).1, decide (x.toNat > 1)) := by simp [rBoolS, hb']
      rw [this]; exact hin


theorem RegAt.fresh {H : Heap} {n : Int} : RegAt H.size (H.push (.cells (regC ⟨n, zeroH, 0, zeroH, false⟩).toArray T_anchor_Register (0, 0))) ⟨n, zeroH, 0, zeroH, false⟩ := ⟨⟨_, push_new⟩, rfl, rfl⟩
abbrev lim : Int := 1099511627776
def parse (l : List UInt8) : Reg × RS :=
  let s1 := rCountS 0 lim (l, false)
  let s2 := tkS 32 s1
  let s3 := rBoolS s2
  let r : Reg := ⟨rCount 0 lim (l, false), rHash s1, 0, zeroH, false⟩
  if rBool s2 then (begR r (rHash s3), tkS 32 s3) else (r, s3)
def parseOk (l : List UInt8) : Bool := !(parse l).2.2 && (parse l).2.1.isEmpty

def ParseRg (H : Heap) (l : List UInt8) (u : Value) (H' : Heap) : Prop := (if parseOk l then ∃ p, u = .tuple #[Ptr p 0, .int .i64 0] ∧ H.size ≤ p ∧ RegAt p H' (parse l).1 else u = .tuple #[.pointer none, .int .i64 10]) ∧ Keep (H.size ≤ ·) H H'
theorem c_ParseReg {H : Heap} {a : Option Addr} {n c : Nat} {l : List UInt8} (h : Bs H (.slice a n c) l) (hl : l.length ≤ 140737488355328) :
    HCalls prg f_anchor_Parse [.slice a n c] H (ParseRg H l) := by
  apply sh_anchor_Parse_calls
  unfold sh_anchor_Parse
  refine call_i (c_NewIn h hl) ?_
  rintro _ h1 ⟨P, q, rfl, i1, hq, hP, k1⟩
  refine call_i (c_In_Count i1 hl 0 lim) ?_
  rintro _ h2 ⟨rfl, i2, k2⟩
  simp only [bld_Mark1, Mpu_some, bld_Reg, Mnew_some, Cells_agg]
  generalize hs1 : rCountS 0 lim (l, false) = s1 at *
  generalize hn : rCount 0 lim (l, false) = n at *
  have r3 := RegAt.fresh (H := h2) (n := n)
  have k3 : Keep (fun _ => False) h2 (h2.push (.cells (regC ⟨n, zeroH, 0, zeroH, false⟩).toArray T_anchor_Register (0, 0))) := Keep.push
  have i3 := i2.keep k3 id fun _ _ => id
  have hqp : q < h2.size := i2.lt
  have hPp := i2.1.2
  have z1 := k1.1; have z2 := k2.1
  generalize hp : h2.size = p at *
  generalize h2.push (.cells (regC ⟨n, zeroH, 0, zeroH, false⟩).toArray T_anchor_Register (0, 0)) = h3 at *
  have z3 := k3.1
  refine call_i (c_In_Hash i3) ?_
  rintro _ h4 ⟨rfl, i4, k4⟩
  have z4 := k4.1
  have r4 := r3.keep k4 (by omega)
  obtain ⟨h5, e5, r5, k5⟩ := r4.st_top (l := rHash s1) rHash_len
  have z5 := k5.1
  have i5 := i4.keep k5 (by omega) fun b hb => by have := hPp b hb; omega
  simp only [nck_ptr, fld_ptr, Mpu_some, Nat.zero_add, e5, Mwr_some, J0_eq]
  refine call_i (c_In_Bool i5) ?_
  rintro _ h6 ⟨rfl, i6, k6⟩
  have z6 := k6.1
  have r6 := r5.keep k6 (by omega)
  have fin : ∀ h7, InAt P q h7 (parse l).2 → RegAt p h7 (parse l).1 → Keep (fun b => b = q ∨ b = p) h6 h7 →
      Mcall prg f_wire_In_Done [Ptr q 0] h7 fun t26 h11 => Mpu (unV .not t26) fun t27 => Mcd t27
        (ParseRg H l (.tuple #[.pointer none, .int .i64 10]) h11) (ParseRg H l (.tuple #[Ptr p 0, .int .i64 0]) h11) := fun h7 i7 r7 k7 => by
    refine call_i (c_In_Done i7) ?_
    rintro _ h8 ⟨rfl, rfl⟩
    have z7 := k7.1
    have kk : Keep (H.size ≤ ·) H h8 := by
      refine ⟨by omega, fun i hi hn => ?_⟩
      rw [k7.2 i (by omega) (by omega), k6.2 i (by omega) (by omega), k5.2 i (by omega) (by omega), k4.2 i (by omega) (by omega), k3.2 i (by omega) id, k2.2 i (by omega) (by omega), k1.2 i hi hn]
    simp only [unV_not, Mpu_some, Mcd_bool]
    have e : (!(parse l).2.2 && (parse l).2.1.isEmpty) = parseOk l := rfl
    rw [e]
    cases hok : parseOk l
    · simp only [Bool.not_false, if_true]; exact ⟨by rw [hok]; rfl, kk⟩
    · simp only [Bool.not_true, Bool.false_eq_true, if_false]; exact ⟨by rw [if_pos hok]; exact ⟨p, rfl, by omega, r7⟩, kk⟩
  have ep : parse l = if rBool (tkS 32 s1) then (begR ⟨n, rHash s1, 0, zeroH, false⟩ (rHash (rBoolS (tkS 32 s1))), tkS 32 (rBoolS (tkS 32 s1))) else (⟨n, rHash s1, 0, zeroH, false⟩, rBoolS (tkS 32 s1)) := by
    unfold parse; rw [hs1, hn]
  rw [Mcd_bool]
  by_cases hb : rBool (tkS 32 s1) = true
  · rw [if_pos hb] at ep ⊢
    refine call_i (c_In_Hash i6) ?_
    rintro _ h9 ⟨rfl, i9, k9⟩
    have z9 := k9.1
    have r9 := r6.keep k9 (by omega)
    refine call_i (c_Begin r9 rHash_len) ?_
    rintro _ h10 ⟨rfl, r10, k10⟩
    have i10 := i9.keep k10 (by omega) fun b hb => by have := hPp b hb; omega
    refine fin h10 (by rw [ep]; exact i10) (by rw [ep]; exact r10) ((k9.mono fun _ _ h => .inl h).trans (k10.mono fun _ _ h => .inr h))
  · rw [if_neg hb] at ep ⊢
    exact fin h6 (by rw [ep]; exact i6) (by rw [ep]; exact r6) Keep.refl


/-- what a register holds that is written and read back -/
def RegF (r : Reg) : Prop := ∃ n : Nat, n ≤ 1000000 ∧ r.n = (n : Int) ∧ (r.busy = true → r.nn = (n : Int) + 1) ∧ (r.busy = false → r.nn = 0 ∧ r.ntop = zeroH)
theorem parse_back {r : Reg} (h : RegF r) (h1 : r.top.length = 32) (h2 : r.ntop.length = 32) : parse (regB r) = (r, [], false) := by
  obtain ⟨n, hn, e, hb, hf⟩ := h
  have e1 : regB r = numB (n : Nat) 8 ++ (r.top ++ ((if r.busy then 1 else 0) :: if r.busy then r.ntop else [])) := by simp [regB, e]
  obtain ⟨c1, c2⟩ := read_count' (n := n) (m := 1099511627776) (r := r.top ++ ((if r.busy then 1 else 0) :: if r.busy then r.ntop else [])) (by omega) (by omega)
  obtain ⟨d1, d2⟩ := read_hash (a := r.top) (r := (if r.busy then 1 else 0) :: if r.busy then r.ntop else []) h1
  have c1 : rCount 0 lim (regB r, false) = n := by rw [e1]; exact c1
  have c2 : rCountS 0 lim (regB r, false) = (r.top ++ ((if r.busy then 1 else 0) :: if r.busy then r.ntop else []), false) := by rw [e1]; exact c2
  unfold parse
  simp only [c1, c2, d1, d2]
  cases hbb : r.busy
  · have hrb : rBool ((if false = true then (1 : UInt8) else 0) :: (if false = true then r.ntop else []), false) = false := by simp [rBool]
    have hrs : rBoolS ((if false = true then (1 : UInt8) else 0) :: (if false = true then r.ntop else []), false) = ([], false) := by simp [rBoolS, tkS, tkB]
    rw [if_neg (by rw [hrb]; decide), hrs]
    obtain ⟨f1, f2⟩ := hf hbb
    rw [← e]
    obtain ⟨a, b, c, d, g⟩ := r
    simp only at f1 f2 hbb
    subst f1 f2 hbb
    rfl
  · have hrb : rBool ((if true = true then (1 : UInt8) else 0) :: (if true = true then r.ntop else []), false) = true := by simp [rBool, tkB]
    have hrs : rBoolS ((if true = true then (1 : UInt8) else 0) :: (if true = true then r.ntop else []), false) = (r.ntop ++ [], false) := by simp [rBoolS, tkS, tkB]
    rw [if_pos hrb, hrs]
    obtain ⟨g1, g2⟩ := read_hash (a := r.ntop) (r := []) h2
    rw [g1, g2]
    have hbeg : begR ⟨n, r.top, 0, zeroH, false⟩ r.ntop = r := by
      have e1 : begR ⟨n, r.top, 0, zeroH, false⟩ r.ntop = ⟨n, r.top, IntKind.i64.wrap ((n : Int) + 1), r.ntop, true⟩ := rfl
      have e2 : IntKind.i64.wrap ((n : Int) + 1) = r.nn := by rw [hb hbb, wrap_id] <;> omega
      rw [e1, e2, ← e, ← hbb]
    rw [hbeg]
theorem parseOk_back {r : Reg} (h : RegF r) (h1 : r.top.length = 32) (h2 : r.ntop.length = 32) : parseOk (regB r) = true := by
  unfold parseOk
  rw [parse_back h h1 h2]; rfl

/- a register and a history are copied, in whatever order -/
theorem z_rReg : zcells prg T_syngraphref23_Register = some (regC ⟨0, zeroH, 0, zeroH, false⟩).toArray := by kernel_rfl
theorem regC_len {r : Reg} (h1 : r.top.length = 32) (h2 : r.ntop.length = 32) : (regC r).length = 67 := by simp [regC, h1, h2]
theorem regC_one {r : Reg} : ∀ v ∈ regC r, v.oneCell' = true := by
  intro v hv
  simp only [regC, List.mem_append, List.mem_cons, List.not_mem_nil, or_false] at hv
  rcases hv with ((rfl | hv) | rfl | hv) | rfl
  · rfl
  · exact bcells_one v hv
  · rfl
  · exact bcells_one v hv
  · rfl
theorem RegAt.ld {p : Nat} {H : Heap} {r : Reg} (h : RegAt p H r) : ldN 67 H (Ptr p 0) = some (.agg (regC r).toArray) := ldN_mid (A := []) (B := regC r) (C := []) (by rw [List.nil_append, List.append_nil]; exact h.1.choose_spec) rfl (by rw [regC_len h.2.1 h.2.2])
theorem copy2 {col : Nat → Nat} {jx j jz jk q hq : Nat} {H : Heap} {r : Reg} {rs : List RecA} {ch : List (List UInt8)} {k : Value → Value → Heap → Prop} (hx : RegC col jx q H r) (hh : HistC col j hq H rs ch)
    (hk : ∀ (col' : Nat → Nat) (pz pk : Nat) (h' : Heap), (∀ b, b < H.size → col' b = col b) → Keep (fun _ => False) H h' → RegC col' jz pz h' r → HistC col' jk pk h' rs ch → k (Ptr pz 0) (Ptr pk 0) h') :
    Mpu (ldN 67 H (Ptr q 0)) fun t78 =>
      (Mcall prg f_history_History_Copy [Ptr hq 0] H fun t80 h30 =>
        Mre [(ldN 67 h30 (Ptr q 0), t78)] (
        Mnew h30 T_syngraphref23_Register (zcells prg T_syngraphref23_Register) fun t13 h31 =>
        Mre [(ldN 67 h31 (Ptr q 0), t78)] (
        Mwr (stN 67 h31 t13 t78) fun h32 =>
        k t13 t80 h32))) ∧
      (Mnew H T_syngraphref23_Register (zcells prg T_syngraphref23_Register) fun t13 h33 =>
        Mre [(ldN 67 h33 (Ptr q 0), t78)] (
        Mcall prg f_history_History_Copy [Ptr hq 0] h33 fun t80 h34 =>
        Mre [(ldN 67 h34 (Ptr q 0), t78)] (
        Mwr (stN 67 h34 t13 t78) fun h35 =>
        k t13 t80 h35))) := by
  obtain ⟨Fr, Fc, Fi, hat, c1, c2, c3⟩ := hh
  have hl := regC_len hx.1.2.1 hx.1.2.2
  have fin : ∀ (pz pk : Nat) (Fr' Fc' : Nat → Prop) (h' : Heap), Keep (fun _ => False) H h' → RegAt pz h' r → HistAt pk Fr' Fc' Fi h' rs ch → H.size ≤ pz → H.size ≤ pk → pz ≠ pk → (∀ b, Fr' b ∨ Fc' b → H.size ≤ b ∧ b ≠ pz) → k (Ptr pz 0) (Ptr pk 0) h' := by
    intro pz pk Fr' Fc' h' kk hz hk' n1 n2 n3 n4
    have hown := hk'.own
    refine hk (fun b => if b < H.size then col b else if b = pz then jz else jk) pz pk h' (fun b hb => if_pos hb) kk ⟨hz, ?_⟩ ⟨Fr', Fc', Fi, hk', ?_, fun b hb => ?_, fun b hb => ?_⟩
    · show (if pz < H.size then _ else _) = _
      rw [if_neg (by omega), if_pos rfl]
    · show (if pk < H.size then _ else _) = _
      rw [if_neg (by omega), if_neg (fun e => n3 e.symm)]
    · obtain ⟨m1, m2⟩ := n4 b hb
      show (if b < H.size then _ else _) = _
      rw [if_neg (by omega), if_neg m2]
    · show (if b < H.size then _ else _) = _
      rw [if_pos (hat.lt b (.inr (.inr (.inr hb)))).2]
      exact c3 b hb
  rw [hx.1.ld, Mpu_some]
  constructor
  · refine call_i (c_HistCopy hat) ?_
    rintro _ h30 ⟨k30, pk, Fr', Fc', rfl, npk, hat30, hnew⟩
    have hown := hat30.own
    have hpk := (hat30.lt pk (.inl rfl)).2
    rw [(hx.1.keep k30 id).ld]
    simp only [Mre_cons, Mre_nil, true_and]
    rw [z_rReg, Mnew_some]
    generalize hH31 : h30.push (.cells (regC ⟨0, zeroH, 0, zeroH, false⟩).toArray T_syngraphref23_Register (0, 0)) = h31
    have k31 : Keep (fun _ => False) h30 h31 := by rw [← hH31]; exact Keep.push
    have a31 : At h31 h30.size (regC ⟨0, zeroH, 0, zeroH, false⟩) := by rw [← hH31]; exact At.push
    rw [((hx.1.keep k30 id).keep k31 id).ld]
    simp only [true_and]
    obtain ⟨h32, st, a32, k32⟩ := a31.st (n := 67) (ds := regC r) (by rfl) hl regC_one
    rw [show (Value.pointer (some ⟨h30.size, 0, none⟩)) = Ptr h30.size 0 from rfl, st, Mwr_some]
    have s30 := k30.1
    refine fin h30.size pk Fr' Fc' h32 (k30.trans (k31.fresh k32 fun b hb => by omega)) ⟨a32, hx.1.2⟩ ((hat30.keep k31 fun _ _ => id).keep k32 fun b hb e => ?_) s30 npk (by omega) fun b hb => ⟨hnew b hb, ?_⟩
    · have := (hat30.lt b hb).2; omega
    · rcases hb with hb | hb
      · have := ((hown b).1 hb).2.1; omega
      · have := ((hown b).2.1 hb).2.1; omega
  · rw [z_rReg, Mnew_some]
    generalize hH33 : H.push (.cells (regC ⟨0, zeroH, 0, zeroH, false⟩).toArray T_syngraphref23_Register (0, 0)) = h33
    have k33 : Keep (fun _ => False) H h33 := by rw [← hH33]; exact Keep.push
    have s33 : h33.size = H.size + 1 := by rw [← hH33]; simp
    have a33 : At h33 H.size (regC ⟨0, zeroH, 0, zeroH, false⟩) := by rw [← hH33]; exact At.push
    rw [(hx.1.keep k33 id).ld]
    simp only [Mre_cons, Mre_nil, true_and]
    refine call_i (c_HistCopy (hat.keep k33 fun _ _ => id)) ?_
    rintro _ h34 ⟨k34, pk, Fr', Fc', rfl, npk, hat34, hnew⟩
    rw [((hx.1.keep k33 id).keep k34 id).ld]
    simp only [true_and]
    obtain ⟨h35, st, a35, k35⟩ := (a33.keep k34 id).st (n := 67) (ds := regC r) (by rfl) hl regC_one
    rw [show (Value.pointer (some ⟨H.size, 0, none⟩)) = Ptr H.size 0 from rfl, st, Mwr_some]
    have hlt := hat.lt
    refine fin H.size pk Fr' Fc' h35 ((k33.trans k34).fresh k35 fun b hb => by omega) ⟨a35, hx.1.2⟩ (hat34.keep k35 fun b hb e => ?_) (Nat.le_refl _) (by omega) (by omega) fun b hb => ⟨by have := hnew b hb; omega, by have := hnew b hb; omega⟩
    rcases hb with hb | hb | hb | hb
    · omega
    · have := hnew b (.inl hb); omega
    · have := hnew b (.inr hb); omega
    · have := (hlt b (.inr (.inr (.inr hb)))).2; omega
end Go.Proofs.YtdmciknajaedmaaGreatDoor
/- The walk of AnchorGoes. -/
namespace Go.Proofs.YtdmciknajaedmaaGreatDoor
open Go.X Go.X.Diff
set_option maxRecDepth 100000

def RegG (i : Nat) (r : Reg) : Prop := RegW i r ∧ (r.busy = false → r.nn = 0 ∧ r.ntop = zeroH)
theorem stepR_g {i : Nat} {r : Reg} (h : RegG i r) (hi : i ≤ 100000) (rs : List RecA) (ch : List (List UInt8)) (o : OpA) : RegG (i + 1) (stepR r rs ch o) := by
  refine ⟨(stepR_w h.1 hi rs ch o).1, ?_⟩
  have hend : (endR r).busy = false → (endR r).nn = 0 ∧ (endR r).ntop = zeroH := by
    unfold endR
    cases hb : r.busy
    · rw [if_neg (by decide)]; exact fun _ => h.2 hb
    · rw [if_pos rfl]; exact fun _ => ⟨rfl, rfl⟩
  have hcan : (canR r).busy = false → (canR r).nn = 0 ∧ (canR r).ntop = zeroH := by
    unfold canR
    cases hb : r.busy
    · rw [if_neg (by decide)]; exact fun _ => h.2 hb
    · rw [if_pos rfl]; exact fun _ => ⟨rfl, rfl⟩
  unfold stepR
  split
  · generalize (if appB rs o.rcd then chainF ch o.rcd else o.top) = tp
    unfold begR
    cases hb : r.busy
    · rw [if_neg (by decide)]; intro h; cases h
    · rw [if_pos rfl]; intro h; rw [hb] at h; cases h
  split
  · exact hend
  split
  · exact hcan
  split
  · unfold setR
    split
    · split
      · exact hcan
      split
      · exact hend
      · exact h.2
    · exact h.2
  · exact h.2
theorem RegG.f {i : Nat} {r : Reg} (h : RegG i r) (hi : i ≤ 1000000) : RegF r := by
  obtain ⟨⟨n, h1, h2, h3⟩, h4⟩ := h
  exact ⟨n, by omega, h2, h3, h4⟩
theorem RegG.nn {i : Nat} {r : Reg} (h : RegG i r) : ∃ n : Nat, r.n = (n : Int) := let ⟨⟨n, _, h2, _⟩, _⟩ := h; ⟨n, h2⟩

/-- a loop that goes through calls -/
theorem step_loop {H0 h0 : Heap} {v : Value} {l : List OpA} {i0 jr jx jh p q hq : Nat} {X : (Nat → Nat) → Heap → Prop} {k15 : Value → Heap → Prop} (hv : Ops (· < H0.size) H0 v l) (hl : l.length ≤ 40) (hall : l.all opSm = true) (hi0 : i0 ≤ 100) (hS : ShaT H0) (hT : PowT H0)
    (d1 : jr ≠ jx) (d2 : jr ≠ jh) (d3 : jx ≠ jh) (g1 : 2 < jr) (g2 : 2 < jx) (g3 : 2 < jh) (hX : ∀ col col' h h', Mv col col' (fun k => k = jr ∨ k = jx ∨ k = jh) h h' → X col h → X col' h')
    {col : Nat → Nat} {r : Reg} {rs : List RecA} {ch : List (List UInt8)} (hw : RegG i0 r) (hr : RegC col jr p h0 r) (hx : RegC col jx q h0 r) (hh : HistC col jh hq h0 rs ch) (inp : ∀ b, b < H0.size → col b = 1) (kH : Keep (fun _ => False) H0 h0) (x0 : X col h0)
    (hk : ∀ u h col r rs ch, RegG (i0 + l.length) r → RegC col jr p h r → RegC col jx q h r → HistC col jh hq h rs ch → (∀ b, b < H0.size → col b = 1) → Keep (fun _ => False) H0 h → X col h → k15 u h) :
    L1 (fun k17 => fun t48_2 h18 =>
        Mpu (binV .no .lss t48_2 (.int .i64 l.length)) fun t49 =>
        Mcd t49 (
          Mpu (ixS 69 v t48_2) fun t50 =>
          Mpu (ldN 69 h18 t50) fun t51 =>
          Mnew h18 T_syngraphlaw23_Op (zcells prg T_syngraphlaw23_Op) fun t9 h19 =>
          Mwr (stN 69 h19 t9 t51) fun h20 =>
          Mpu (ldN 69 h20 t9) fun t55 =>
          Mcall prg f_syngraphlaw23_step [Ptr p 0, Ptr q 0, Ptr hq 0, t55] h20 fun t56 h21 =>
          Mpu (binV .no .add t48_2 (.int .i64 1)) fun t57 =>
          k17 t57 h21) (
          k15 t48_2 h18)) ((.int .i64 0)) h0 := by
  refine L1_i (fun u h => ∃ (i : Nat) (col : Nat → Nat) (r : Reg) (rs : List RecA) (ch : List (List UInt8)), i ≤ l.length ∧ u = .int .i64 (i : Nat) ∧ RegG (i0 + i) r ∧ RegC col jr p h r ∧ RegC col jx q h r ∧ HistC col jh hq h rs ch ∧ (∀ b, b < H0.size → col b = 1) ∧ Keep (fun _ => False) H0 h ∧ X col h)
    (fun u _ => match u with | .int _ t => l.length - t.toNat | _ => 0) ⟨0, col, r, rs, ch, Nat.zero_le _, rfl, hw, hr, hx, hh, inp, kH, x0⟩ ?_
  clear hw hr hx hh inp kH x0
  clear col r rs ch
  rintro _ h ⟨i, col, r, rs, ch, hi, rfl, hw, hr, hx, hh, inp, kh, hxx⟩ k hk'
  have elt : binV .no .lss (.int .i64 (i : Nat)) (.int .i64 (l.length : Nat)) = some (.bool (decide (i < l.length))) := by
    rw [binV_int]; simp only [intV]; congr 2; rw [decide_eq_decide]; omega
  rw [elt, Mpu_some, Mcd_bool]
  by_cases hlt : i < l.length
  rotate_left
  · rw [if_neg (by simpa using hlt)]
    obtain rfl : i = l.length := by omega
    exact hk _ _ col r rs ch hw hr hx hh inp kh hxx
  rw [if_pos (by simpa using hlt)]
  have hg : l[i]? = some l[i] := List.getElem?_eq_getElem hlt
  have hsm := opSm_small (List.all_eq_true.1 hall l[i] (List.getElem_mem _))
  generalize l[i] = o at hg hsm
  obtain ⟨ho, b, kk, hix, hpt, hpb⟩ := (hv.keep kh fun _ _ => id).at hg
  rw [hix, Mpu_some, hpt.agg (opC_len ho), Mpu_some]
  refine new_op (opC_len ho) (opC_one ho) fun h17 a17 k17 => ?_
  rw [a17.ldN (opC_len ho), Mpu_some]
  refine call_i (c_step (hr.pure k17) (hx.pure k17) (hh.pure k17) d1 d2 d3 g1 g2 g3 rfl (kh.trans k17) inp hS hT (ho.keep k17 fun _ _ => id) hsm) ?_
  rintro _ h19 ⟨rfl, col', m, hr', hx', hh'⟩
  rw [add1M (by omega), Mpu_some]
  have m0 : Mv col col (fun k => k = jr ∨ k = jx ∨ k = jh) h h17 := Mv.pure k17
  refine hk' _ _ ⟨i + 1, col', _, _, _, hlt, rfl, stepR_g hw (by omega) rs ch o, hr', hx', hh', fun b hb => (m.same b (Nat.lt_of_lt_of_le hb (kh.trans k17).1)).trans (inp b hb), m.keep0 (by omega) (kh.trans k17) inp, hX _ _ _ _ (m0.trans m) hxx⟩ (by show l.length - (i + 1) < l.length - i; omega)

theorem c_AnchorGoes {H : Heap} {v w : Value} {l ml : List OpA} (hv : Ops (· < H.size) H v l) (hl : l.length ≤ 9223372036854775807) (hm : Ops (· < H.size) H w ml) (hml : ml.length ≤ 9223372036854775807) (hS : ShaT H) (hT : PowT H) :
    HCalls prg f_syngraphlaw23_AnchorGoes [v, w] H fun u H' => u = .bool true ∧ Keep (fun _ => False) H H' := by
  apply sh_syngraphlaw23_AnchorGoes_calls
  unfold sh_syngraphlaw23_AnchorGoes
  have hNG := hT.sz
  refine call_i c_RegNew ?_
  rintro _ h1 ⟨rfl, r1, k1⟩
  have s1 := lt_of r1.1.choose_spec
  refine call_i (c_HistNew (by omega)) ?_
  rintro _ h2 ⟨rfl, q2, k2⟩
  have s2 := (q2.lt h1.size (.inl rfl)).2
  have r2 := r1.keep k2 id
  have k02 := k1.trans k2
  have pn : ∀ x, binV .ptr .eql (Ptr x 0) (.pointer none) = some (.bool false) := fun x => rfl
  have pne : ∀ x, binV .ptr .neq (Ptr x 0) (.pointer none) = some (.bool true) := fun x => rfl
  simp only [pn, unV_not, Bool.not_true, Bool.not_false, Mif_bool, Mif_undef, pickV_bool, Mcd_bool, Mpu_some, if_true, if_false, Bool.false_eq_true, Bool.true_eq_false, decide_true, decide_false, reduceCtorEq, ex20, ex21, ex30, ex31, ex32, Mre_ok, Mre_nil]
  refine J1_eq.2 ?_
  simp only [unV_not, Bool.not_true, Bool.not_false, Mif_bool, Mif_undef, pickV_bool, Mcd_bool, Mpu_some, if_true, if_false, Bool.false_eq_true, Bool.true_eq_false, decide_true, decide_false, reduceCtorEq, ex20, ex21, ex30, ex31, ex32, Mre_ok, Mre_nil]
  refine J1_i (fun u h => Keep (fun _ => False) h2 h ∧ u = .bool (!smallA l)) (fun k5 hk5 => ?_) ?_
  · refine call_i (c_smallA (hv.keep k02 fun _ _ => id) hl) ?_
    rintro _ h6 ⟨rfl, k6⟩
    simp only [unV_not, Mpu_some]
    exact hk5 _ _ ⟨k6, rfl⟩
  rintro _ h7 ⟨k7, rfl⟩
  simp only [unV_not, Bool.not_true, Bool.not_false, Mif_bool, Mif_undef, pickV_bool, Mcd_bool, Mpu_some, if_true, if_false, Bool.false_eq_true, Bool.true_eq_false, decide_true, decide_false, reduceCtorEq, ex20, ex21, ex30, ex31, ex32, Mre_ok, Mre_nil]
  have k07 := k02.trans k7
  refine J1_i (fun u h => Keep (fun _ => False) h2 h ∧ (smallA l = true → u = .bool (!smallA ml))) (fun k5 hk5 => ?_) ?_
  · cases hsl : smallA l
    · simp only [unV_not, Bool.not_true, Bool.not_false, Mif_bool, Mif_undef, pickV_bool, Mcd_bool, Mpu_some, if_true, if_false, Bool.false_eq_true, Bool.true_eq_false, decide_true, decide_false, reduceCtorEq, ex20, ex21, ex30, ex31, ex32, Mre_ok, Mre_nil]
      exact hk5 _ _ ⟨k7, fun h => by rw [hsl] at h; cases h⟩
    · simp only [unV_not, Bool.not_true, Bool.not_false, Mif_bool, Mif_undef, pickV_bool, Mcd_bool, Mpu_some, if_true, if_false, Bool.false_eq_true, Bool.true_eq_false, decide_true, decide_false, reduceCtorEq, ex20, ex21, ex30, ex31, ex32, Mre_ok, Mre_nil]
      refine call_i (c_smallA (hm.keep k07 fun _ _ => id) hml) ?_
      rintro _ h6 ⟨rfl, k6⟩
      simp only [unV_not, Mpu_some]
      exact hk5 _ _ ⟨k7.trans k6, fun _ => rfl⟩
  rintro u h10 ⟨k10, hu⟩
  have hp : (if (!smallA l) = true then Value.bool true else u) = .bool (!(smallA l && smallA ml)) := by
    cases hsl : smallA l
    · simp
    · rw [hu hsl]; simp
  rw [hp, Mcd_bool]
  have k010 := k02.trans k10
  cases hsm : smallA l && smallA ml
  · simp only [pne, unV_not, Bool.not_true, Bool.not_false, Mif_bool, Mif_undef, pickV_bool, Mcd_bool, Mpu_some, if_true, if_false, Bool.false_eq_true, Bool.true_eq_false, decide_true, decide_false, reduceCtorEq, ex20, ex21, ex30, ex31, ex32, Mre_ok, Mre_nil]
    refine J1_eq.2 ?_
    refine call_i (c_awake23 (Nat.le_trans hNG k010.1)) ?_
    rintro _ h9 ⟨rfl, k9⟩
    simp only [unV_not, Bool.not_true, Bool.not_false, Mif_bool, Mif_undef, pickV_bool, Mcd_bool, Mpu_some, if_true, if_false, Bool.false_eq_true, Bool.true_eq_false, decide_true, decide_false, reduceCtorEq, ex20, ex21, ex30, ex31, ex32, Mre_ok, Mre_nil]
    exact ⟨trivial, k010.trans k9⟩
  simp only [unV_not, Bool.not_true, Bool.not_false, Mif_bool, Mif_undef, pickV_bool, Mcd_bool, Mpu_some, if_true, if_false, Bool.false_eq_true, Bool.true_eq_false, decide_true, decide_false, reduceCtorEq, ex20, ex21, ex30, ex31, ex32, Mre_ok, Mre_nil]
  have hall : (l.all opSm = true ∧ l.length ≤ 40) ∧ ml.all opSm = true ∧ ml.length ≤ 40 := by
    unfold smallA at hsm
    simpa using hsm
  obtain ⟨⟨al, ll⟩, aml, lml⟩ := hall
  rw [bld_rReg0, Mpu_some, Cells_agg, Mnew_some]
  generalize hH11 : h10.push (.cells (regC ⟨0, zeroH, 0, zeroH, false⟩).toArray T_syngraphref23_Register (0, 0)) = h11
  have k11 : Keep (fun _ => False) h10 h11 := by rw [← hH11]; exact Keep.push
  have x11 : RegAt h10.size h11 ⟨0, zeroH, 0, zeroH, false⟩ := ⟨by rw [← hH11]; exact ⟨_, push_new⟩, rfl, rfl⟩
  have k0 := k010.trans k11
  have s6 := k10.1
  have s11 := lt_of x11.1.choose_spec
  let col := colA H.size H.size h10.size h1.size
  have hc1 : ∀ b, b < H.size → col b = 1 := fun b hb => if_pos hb
  have hcp : col H.size = 3 := by show (if H.size < H.size then _ else _) = _; rw [if_neg (Nat.lt_irrefl _), if_pos rfl]
  have hcq : col h10.size = 4 := by show (if h10.size < H.size then _ else _) = _; rw [if_neg (by omega), if_neg (by omega), if_pos rfl]
  have hch : col h1.size = 5 := by show (if h1.size < H.size then _ else _) = _; rw [if_neg (by omega), if_neg (by omega), if_neg (by omega), if_pos rfl]
  clear_value col
  refine J1_eq.2 ?_
  rw [hv.len, Mpu_some]
  refine step_loop (i0 := 0) (X := fun _ _ => True) (jr := 3) (jx := 4) (jh := 5) hv ll al (by omega) hS hT (by omega) (by omega) (by omega) (by omega) (by omega) (by omega) (fun _ _ _ _ _ _ => trivial) ⟨⟨0, Nat.le_refl _, rfl, fun h => by cases h⟩, fun _ => ⟨rfl, rfl⟩⟩
    ⟨r2.keep (k10.trans k11) id, hcp⟩ ⟨x11, hcq⟩ (hist0C (q2.keep (k10.trans k11) fun _ _ => id) hch) hc1 k0 trivial ?_
  clear hc1 hcp hcq hch
  clear col
  intro _ h16 col r rs ch hw hr hx hh inp kH16 _
  have hlim : 0 + l.length ≤ 1000000 := by omega
  refine call_i (c_RegBytes hr.1) ?_
  rintro t60 h22 ⟨b60, k22⟩
  obtain ⟨a60, c60, e60, _⟩ := b60.sl.sl
  have bs60 := b60.sl.bs
  have hlB : (regB r).length ≤ 1000 := by
    unfold regB
    simp only [List.length_append, numB_len, hr.1.2.1]
    split <;> simp [hr.1.2.2]
  rw [e60] at bs60 ⊢
  refine call_i (c_ParseReg bs60 (by omega)) ?_
  rintro t61 h23 ⟨hu, k23⟩
  rw [if_pos (parseOk_back (hw.f hlim) hr.1.2.1 hr.1.2.2), parse_back (hw.f hlim) hr.1.2.1 hr.1.2.2] at hu
  obtain ⟨pp, rfl, npp, rp⟩ := hu
  have rp : RegAt pp h23 r := rp
  have ex0 : ∀ x y : Value, extV 0 (.tuple #[x, y]) = some x := fun _ _ => rfl
  have ex1 : ∀ x y : Value, extV 1 (.tuple #[x, y]) = some y := fun _ _ => rfl
  rw [ex0, Mpu_some, ex1, Mpu_some]
  have k23' : Keep (fun _ => False) h22 h23 := ⟨k23.1, fun i hi _ => k23.2 i hi (by omega)⟩
  have k1623 := k22.trans k23'
  refine call_i (c_RegCopy (hr.1.keep k1623 id)) ?_
  rintro _ h24 ⟨rfl, rc, k24⟩
  have en : binV .no .neq (.int .i64 0) (.int .i64 0) = some (.bool false) := by rw [binV_int]; rfl
  simp only [en, unV_not, Bool.not_true, Bool.not_false, Mif_bool, Mif_undef, pickV_bool, Mcd_bool, Mpu_some, if_true, if_false, Bool.false_eq_true, Bool.true_eq_false, decide_true, decide_false, reduceCtorEq, ex20, ex21, ex30, ex31, ex32, Mre_ok, Mre_nil]
  refine J1_eq.2 ?_
  simp only [pn, unV_not, Bool.not_true, Bool.not_false, Mif_bool, Mif_undef, pickV_bool, Mcd_bool, Mpu_some, if_true, if_false, Bool.false_eq_true, Bool.true_eq_false, decide_true, decide_false, reduceCtorEq, ex20, ex21, ex30, ex31, ex32, Mre_ok, Mre_nil]
  refine J1_eq.2 ?_
  simp only [pn, unV_not, Bool.not_true, Bool.not_false, Mif_bool, Mif_undef, pickV_bool, Mcd_bool, Mpu_some, if_true, if_false, Bool.false_eq_true, Bool.true_eq_false, decide_true, decide_false, reduceCtorEq, ex20, ex21, ex30, ex31, ex32, Mre_ok, Mre_nil]
  refine J2_eq.2 ?_
  have s22 := k22.1
  have s23 := k23.1
  have s24 := lt_of rc.1.choose_spec
  have spp := lt_of rp.1.choose_spec
  have k1624 := k1623.trans k24
  /- the colours behind the reading and the copy -/
  let col2 : Nat → Nat := fun b => if b < h16.size then col b else if b = pp then 6 else 7
  have hold2 : ∀ b, b < h16.size → col2 b = col b := fun b hb => if_pos hb
  have m2 : Mv col col2 (fun _ => False) h16 h24 := ⟨k1624.mono fun _ _ h => h.elim, hold2⟩
  have hp2 : RegC col2 6 pp h24 r := ⟨rp.keep k24 id, by show (if pp < h16.size then _ else _) = _; rw [if_neg (by omega), if_pos rfl]⟩
  have hc2 : RegC col2 7 h23.size h24 r := ⟨rc, by show (if h23.size < h16.size then _ else _) = _; rw [if_neg (by omega), if_neg (by omega)]⟩
  have hr2 := hr.mv m2 id
  have hx2 := hx.mv m2 id
  have hh2 := hh.mv m2 id id
  have inp2 : ∀ b, b < H.size → col2 b = 1 := fun b hb => (hold2 b (Nat.lt_of_lt_of_le hb kH16.1)).trans (inp b hb)
  have kH24 := kH16.trans k1624
  clear_value col2
  simp only [nck_ptr, Mpu_some]
  refine copy2 (jz := 8) (jk := 9) hx2 hh2 fun col3 py pg h36 hold3 k36 hy3 hg3 => ?_
  have m3 : Mv col2 col3 (fun _ => False) h24 h36 := ⟨k36.mono fun _ _ h => h.elim, hold3⟩
  have inp3 : ∀ b, b < H.size → col3 b = 1 := fun b hb => (hold3 b (Nat.lt_of_lt_of_le hb kH24.1)).trans (inp2 b hb)
  refine J1_eq.2 ?_
  rw [hm.len, Mpu_some]
  refine step_loop (i0 := l.length) (X := fun col h => RegC col 6 pp h r ∧ RegC col 7 h23.size h r ∧ RegC col 8 py h r ∧ HistC col 9 pg h rs ch) (jr := 3) (jx := 4) (jh := 5) hm lml aml (by omega) hS hT (by omega) (by omega) (by omega) (by omega) (by omega) (by omega)
    (fun _ _ _ _ m ⟨x1, x2, x3, x4⟩ => ⟨x1.mv m (by omega), x2.mv m (by omega), x3.mv m (by omega), x4.mv m (by omega) (by omega)⟩) (by rw [Nat.zero_add] at hw; exact hw)
    (hr2.mv m3 id) (hx2.mv m3 id) (hh2.mv m3 id id) inp3 (kH24.trans k36) ⟨hp2.mv m3 id, hc2.mv m3 id, hy3, hg3⟩ ?_
  clear hr2 hx2 hh2 hp2 hc2 hy3 hg3 inp3 inp2 m3 m2 hold3 hold2 hr hx hh inp
  clear col3 col2 col
  intro _ h38 col R _ _ hW hr hx _ inp kH38 ⟨hp, hc, hy, hg⟩
  obtain ⟨N, hN⟩ := hW.nn
  refine J1_i (fun _ h => ∃ col, RegC col 3 H.size h R ∧ RegC col 4 h10.size h R ∧ Keep (fun _ => False) H h) (fun k44 hk44 => ?_) ?_
  rotate_left
  · rintro _ h45 ⟨col, hr, hx, k45⟩
    refine call_i (c_sameA hr.1 hx.1 hN) ?_
    rintro _ h68 ⟨rfl, k68⟩
    simp only [unV_not, Bool.not_true, Bool.not_false, Mif_bool, Mif_undef, pickV_bool, Mcd_bool, Mpu_some, if_true, if_false, Bool.false_eq_true, Bool.true_eq_false, decide_true, decide_false, reduceCtorEq, ex20, ex21, ex30, ex31, ex32, Mre_ok, Mre_nil]
    refine J1_eq.2 ?_
    refine call_i (c_awake23 (Nat.le_trans hNG (k45.trans k68).1)) ?_
    rintro _ h70 ⟨rfl, k70⟩
    simp only [unV_not, Bool.not_true, Bool.not_false, Mif_bool, Mif_undef, pickV_bool, Mcd_bool, Mpu_some, if_true, if_false, Bool.false_eq_true, Bool.true_eq_false, decide_true, decide_false, reduceCtorEq, ex20, ex21, ex30, ex31, ex32, Mre_ok, Mre_nil]
    exact ⟨trivial, k45.trans (k68.trans k70)⟩
  rw [Mpu_some]
  refine L1_i (fun u h => ∃ (i : Nat) (col : Nat → Nat) (r : Reg) (rs : List RecA) (ch : List (List UInt8)), i ≤ ml.length ∧ u = .int .i64 (i : Nat) ∧ RegG (l.length + i) r ∧ RegC col 3 H.size h R ∧ RegC col 4 h10.size h R ∧ RegC col 6 pp h r ∧ RegC col 7 h23.size h r ∧ RegC col 8 py h r ∧ HistC col 9 pg h rs ch ∧ (∀ b, b < H.size → col b = 1) ∧ Keep (fun _ => False) H h)
    (fun u _ => match u with | .int _ t => ml.length - t.toNat | _ => 0) ⟨0, col, r, rs, ch, Nat.zero_le _, rfl, by rw [Nat.zero_add] at hw; exact hw, hr, hx, hp, hc, hy, hg, inp, kH38⟩ ?_
  clear hr hx hp hc hy hg inp hw kH38 rp rc
  rintro _ h ⟨i, col, r, rs, ch, hi, rfl, hw, hr, hx, hp, hc, hy, hg, inp, kh⟩ k hk'
  have elt : binV .no .lss (.int .i64 (i : Nat)) (.int .i64 (ml.length : Nat)) = some (.bool (decide (i < ml.length))) := by
    rw [binV_int]; simp only [intV]; congr 2; rw [decide_eq_decide]; omega
  rw [elt, Mpu_some, Mcd_bool]
  by_cases hlt : i < ml.length
  rotate_left
  · rw [if_neg (by simpa using hlt)]
    exact hk44 _ _ ⟨col, hr, hx, kh⟩
  rw [if_pos (by simpa using hlt)]
  have hgl : ml[i]? = some ml[i] := List.getElem?_eq_getElem hlt
  have hsmo := opSm_small (List.all_eq_true.1 aml ml[i] (List.getElem_mem _))
  generalize ml[i] = o at hgl hsmo
  obtain ⟨ho, b, kk, hix, hpt, hpb⟩ := (hm.keep kh fun _ _ => id).at hgl
  rw [hix, Mpu_some, hpt.agg (opC_len ho), Mpu_some]
  refine new_op (opC_len ho) (opC_one ho) fun h49 a49 k49 => ?_
  refine J2_eq.2 ?_
  /- the call's cell is of colour 12 -/
  have q49 := a49.lt
  have m49 : Mv col (paint h.size 12 col) (fun _ => False) h h49 := ⟨k49.mono fun _ _ h => h.elim, fun b hb => paint_old hb⟩
  have ca : paint h.size 12 col h.size = 12 := paint_new (Nat.le_refl _)
  have hr49 := hr.mv m49 id
  have hx49 := hx.mv m49 id
  have hp49 := hp.mv m49 id
  have hc49 := hc.mv m49 id
  have hy49 := hy.mv m49 id
  have hg49 := hg.mv m49 id id
  have inp49 : ∀ b, b < H.size → paint h.size 12 col b = 1 := fun b hb => (paint_old (Nat.lt_of_lt_of_le hb kh.1)).trans (inp b hb)
  have kH49 := kh.trans k49
  have o49 := ho.keep k49 fun _ _ => id
  generalize paint h.size 12 col = col1 at *
  refine copy2 (jz := 10) (jk := 11) hy49 hg49 fun col2 pz pk h57 hold2 k57 hz hk57 => ?_
  have m57 : Mv col1 col2 (fun _ => False) h49 h57 := ⟨k57.mono fun _ _ h => h.elim, hold2⟩
  have a57 := a49.keep k57 id
  have ca2 : col2 h.size = 12 := (hold2 _ q49).trans ca
  have o57 := o49.keep k57 fun _ _ => id
  rw [a57.ldN (opC_len ho), Mpu_some]
  have kH57 := kH49.trans k57
  have inp57 : ∀ b, b < H.size → col2 b = 1 := fun b hb => (hold2 b (Nat.lt_of_lt_of_le hb kH49.1)).trans (inp49 b hb)
  refine call_i (c_step (hp49.mv m57 id) hz hk57 (by omega) (by omega) (by omega) (by omega) (by omega) (by omega) rfl kH57 inp57 hS hT o57 hsmo) ?_
  rintro _ h58 ⟨rfl, col3, m58, hp58, _, _⟩
  have a58 : At h58 h.size (opC o) := m58.cell a57 (by rw [ca2]; omega)
  have kH58 := m58.keep0 (by omega) kH57 inp57
  have inp58 : ∀ b, b < H.size → col3 b = 1 := fun b hb => (m58.same b (Nat.lt_of_lt_of_le hb kH57.1)).trans (inp57 b hb)
  have o58 : OpIn (· < H.size) h58 o := o57.keep m58.keep fun b hb hS' => by
    rcases hS' with hS' | hS'
    · have := kH57.1; omega
    · have := inp57 b hb; omega
  have mv58 : ∀ {j p r}, RegC col1 j p h49 r → j ≠ 6 → j ≠ 10 → j ≠ 11 → RegC col3 j p h58 r := fun a h1 h2 h3 => (a.mv m57 id).mv m58 (by omega)
  have hr58 := mv58 hr49 (by omega) (by omega) (by omega)
  have hx58 := mv58 hx49 (by omega) (by omega) (by omega)
  have hc58 := mv58 hc49 (by omega) (by omega) (by omega)
  have hy58 := mv58 hy49 (by omega) (by omega) (by omega)
  have hg58 := (hg49.mv m57 id id).mv m58 (by omega) (by omega)
  simp only [unV_not, Bool.not_true, Bool.not_false, Mif_bool, Mif_undef, pickV_bool, Mcd_bool, Mpu_some, if_true, if_false, Bool.false_eq_true, Bool.true_eq_false, decide_true, decide_false, reduceCtorEq, ex20, ex21, ex30, ex31, ex32, Mre_ok, Mre_nil]
  refine J1_eq.2 ?_
  rw [a58.ldN (opC_len ho), Mpu_some]
  refine call_i (c_step hc58 hy58 hg58 (by omega) (by omega) (by omega) (by omega) (by omega) (by omega) rfl kH58 inp58 hS hT o58 hsmo) ?_
  rintro _ h60 ⟨rfl, col4, m60, hc60, hy60, hg60⟩
  have kH60 := m60.keep0 (by omega) kH58 inp58
  have inp60 : ∀ b, b < H.size → col4 b = 1 := fun b hb => (m60.same b (Nat.lt_of_lt_of_le hb kH58.1)).trans (inp58 b hb)
  have hr60 := hr58.mv m60 (by omega)
  have hx60 := hx58.mv m60 (by omega)
  have hp60 := hp58.mv m60 (by omega)
  have hw' := stepR_g hw (by omega) rs ch o
  generalize stepR r rs ch o = r' at *
  generalize stepRs rs o = rs' at *
  generalize stepCh rs ch o = ch' at *
  obtain ⟨n, hn⟩ := hw'.nn
  simp only [unV_not, Bool.not_true, Bool.not_false, Mif_bool, Mif_undef, pickV_bool, Mcd_bool, Mpu_some, if_true, if_false, Bool.false_eq_true, Bool.true_eq_false, decide_true, decide_false, reduceCtorEq, ex20, ex21, ex30, ex31, ex32, Mre_ok, Mre_nil]
  refine J1_eq.2 ?_
  refine call_i (c_sameA hp60.1 hy60.1 hn) ?_
  rintro _ h63 ⟨rfl, k63⟩
  simp only [unV_not, Bool.not_true, Bool.not_false, Mif_bool, Mif_undef, pickV_bool, Mcd_bool, Mpu_some, if_true, if_false, Bool.false_eq_true, Bool.true_eq_false, decide_true, decide_false, reduceCtorEq, ex20, ex21, ex30, ex31, ex32, Mre_ok, Mre_nil]
  refine J1_eq.2 ?_
  refine call_i (c_sameA (hc60.1.keep k63 id) (hy60.1.keep k63 id) hn) ?_
  rintro _ h66 ⟨rfl, k66⟩
  have kl := k63.trans k66
  simp only [unV_not, Bool.not_true, Bool.not_false, Mif_bool, Mif_undef, pickV_bool, Mcd_bool, Mpu_some, if_true, if_false, Bool.false_eq_true, Bool.true_eq_false, decide_true, decide_false, reduceCtorEq, ex20, ex21, ex30, ex31, ex32, Mre_ok, Mre_nil]
  rw [add1M (by omega), Mpu_some]
  exact hk' _ _ ⟨i + 1, col4, r', rs', ch', hlt, rfl, hw', hr60.pure kl, hx60.pure kl, hp60.pure kl, hc60.pure kl, hy60.pure kl, hg60.pure kl, inp60, kH60.trans kl⟩ (by show ml.length - (i + 1) < ml.length - i; omega)
end Go.Proofs.YtdmciknajaedmaaGreatDoor
