/- JOINED: V181 -/
import Derived.Test.YtanhgihfgmbojaaGreatDoorG15
set_option linter.unusedSimpArgs false
set_option linter.unusedVariables false
/- ref 20: the search. -/
namespace Go.Proofs.YtanhgihfgmbojaaGreatDoor
open Go.X Go.X.Diff
set_option maxRecDepth 100000
set_option linter.unusedSimpArgs false
set_option linter.unusedVariables false

def fndC (vpk : Value) (bd s : Nat) (o : Bool) : List Value := [vpk, .int .i64 (bd : Nat), .int .i64 (s : Nat), .bool o]
def ovF : Res → Bool
  | .over => true
  | _ => false
structure OkH (hv : List Man) : Prop where
  v : ∀ k, k < hv.length → verOk (gM hv k).ver = true
  d : ∀ k, k < hv.length → ∀ d ∈ (gM hv k).deps, d.wf ∧ wantOk d.want = true
  c : ∀ k, k < hv.length → ∀ d ∈ (gM hv k).conf, wantOk d.want = true
  s : ∀ k, k < hv.length → (gM hv k).deps.length ≤ 1000 ∧ (gM hv k).conf.length ≤ 1000
  r : (List.range hv.length).all (haveAt hv) = true
theorem OkH.ref {hv : List Man} (h : OkH hv) {i j : Nat} (hi : i < hv.length) (hj : j < hv.length) : refR (gM hv i) (gM hv j) = refM (gM hv i) (gM hv j) := by
  unfold refR refM
  rw [Bool.eq_iff_iff, List.any_eq_true, List.any_eq_true]
  constructor
  · rintro ⟨d, hd, hf⟩
    exact ⟨d, hd, by rw [← fitR_eq (h.c i hi d hd) (h.v j hj)]; exact hf⟩
  · rintro ⟨d, hd, hf⟩
    exact ⟨d, hd, by rw [fitR_eq (h.c i hi d hd) (h.v j hj)]; exact hf⟩
def FindR (hv : List Man) (bd : Nat) (vpk : Value) (q : Nat) (ch : List Nat) (ws : List Dep) (s : Nat) (H : Heap) (u : Value) (H' : Heap) : Prop :=
  ∃ (r : Res) (s' : Nat), Run hv bd (.sol ch ws) s r s' ∧ At H' q (fndC vpk bd s' (ovF r)) ∧ Keep (· = q) H H' ∧ match r with
    | .ok l => ∃ v, u = .tuple #[v, .bool true] ∧ SlE 1 (· ≠ q) H' v (ints (zs l)) ∧ Names hv l
    | _ => u = .tuple #[.slice none 0 0, .bool false]
def FindOk (hv : List Man) (bd : Nat) (pk : List PK) (vpk : Value) (q m : Nat) : Prop := ∀ (ch : List Nat) (ws : List Dep) (s : Nat) (H : Heap) (vc vw : Value), (13 - ch.length) * 20000 + ws.length < m → Names hv ch → (∀ d ∈ ws, d.wf ∧ wantOk d.want = true) → ws.length ≤ 64 + 1000 * ch.length → s ≤ bd →
  PksV (· ≠ q) H vpk pk → SlE 1 (· ≠ q) H vc (ints (zs ch)) → SlE 6 (· ≠ q) H vw (ws.map depC) → At H q (fndC vpk bd s false) → HCalls prg f_syngraphref20_Find_Solve [Ptr q 0, vc, vw] H (FindR hv bd vpk q ch ws s H)
theorem _root_.Go.X.SlE.lt {n : Nat} {P : Nat → Prop} {H : Heap} {v : Value} {xs : List (List Value)} (h : SlE n P H v xs) : SlE n (fun b => P b ∧ b < H.size) H v xs := by
  obtain ⟨⟨a, c, hv, hc, hx⟩, h2, h3⟩ := h
  refine ⟨⟨a, c, hv, hc, hx.imp id ?_⟩, h2, h3⟩
  rintro ⟨b, o, rfl, hP, hp⟩
  exact ⟨b, o, rfl, ⟨hP, hp.lt⟩, hp⟩
theorem PksV.lt {Q : Nat → Prop} {H : Heap} {v : Value} {pk : List PK} (h : PksV Q H v pk) : PksV (fun b => Q b ∧ b < H.size) H v pk := ⟨h.s.lt, fun x hx => ⟨(h.m x hx).d.lt, (h.m x hx).c.lt, (h.m x hx).wf⟩⟩
theorem zrow_bool {n : Nat} : zrow #[Value.bool false] n = ((List.replicate n false).map Value.bool).toArray := by
  apply Array.ext
  · simp [zrow]
  · intro i h1 h2
    simp [zrow, Nat.mod_one]
theorem z_bool : zcells prg T_bool = some #[Value.bool false] := by kernel_rfl
theorem mks_bool {H : Heap} {n : Nat} {k : Value → Heap → Prop} (hn : n ≤ 1000000) (hk : ∀ h', At h' H.size ((List.replicate n false).map Value.bool) → Keep (fun _ => False) H h' → k (.slice (some ⟨H.size, 0, none⟩) n n) h') : Mmks prg H T_bool (.int .i64 (n : Nat)) (.int .i64 (n : Nat)) k := by
  have hc : prg.cellsOf T_bool = 1 := by kernel_rfl
  have hb : prg.bytesOf T_bool = 1 := by kernel_rfl
  have hi : (prg.info? T_bool).isSome = true := by kernel_rfl
  refine ⟨.i64, .i64, n, n, _, rfl, rfl, Nat.le_refl _, by rw [hb]; omega, by omega, z_bool, hi, ?_⟩
  rw [hc, Nat.mul_one, zrow_bool]
  exact hk _ At.push Keep.push
theorem gd_set {bs : List Bool} {k i : Nat} (hk : k < bs.length) : (bs.set k true).getD i false = if i = k then true else bs.getD i false := by
  rw [List.getD_eq_getElem?_getD, List.getElem?_set, List.getD_eq_getElem?_getD]
  by_cases e : k = i
  · subst e; simp [hk]
  · rw [if_neg e, if_neg (fun h => e h.symm)]
set_option maxHeartbeats 8000000 in
theorem c_find {hv : List Man} {bd : Nat} {pk : List PK} {vpk : Value} {q : Nat} (he : pk.map (·.1) = hv) (hok : OkH hv) (hl : hv.length ≤ 12) (hbd : bd ≤ 65536) : ∀ m, FindOk hv bd pk vpk q m := by
  intro m
  induction m with
  | zero => intro ch ws s H vc vw hm; omega
  | succ m ih =>
  intro ch ws s H vc vw hm hN hw hwl hs hp hc hsw aq
  apply sh_syngraphref20_Find_Solve_calls
  unfold sh_syngraphref20_Find_Solve
  have hpl : pk.length = hv.length := by rw [← he]; simp
  have hchl : ch.length ≤ 12 := by have := hN.len; omega
  have lw := hsw.len
  have lc := hc.len
  rw [List.length_map] at lw
  rw [ints_len, zs_len] at lc
  rw [lw, Mpu_some, show binV .no .eql (.int .i64 (ws.length : Nat)) (.int .i64 0) = some (.bool (decide (ws.length = 0))) from eqNn (m := 0), Mpu_some, Mcd_bool]
  cases ws with
  | nil =>
    rw [if_pos (by decide)]
    exact ⟨.ok ch, s, .done, aq, Keep.refl, vc, rfl, hc, hN⟩
  | cons d ws =>
  rw [if_neg (by simp)]
  obtain ⟨hdw, hdo⟩ := hw d (by simp)
  have hq := aq.lt
  obtain ⟨bw, ow, hixw, hptw, _⟩ := hsw.at (i := 0) (x := depC d) rfl
  have hix0 : ixS 6 vw (.int .i64 0) = some (Ptr bw ow) := hixw .i64
  rw [hix0, Mpu_some, hptw.agg (depC_len hdw), Mpu_some]
  simp only [z_RDep, Mnew_some]
  generalize hH1 : H.push (.cells (depC zeroD).toArray T_syngraphref20_Dep (0, 0)) = H1
  have k1 : Keep (fun _ => False) H H1 := by rw [← hH1]; exact Keep.push
  have a1 : At H1 H.size (depC zeroD) := by rw [← hH1]; exact At.push
  obtain ⟨h2, st2, a2, k2'⟩ := a1.st (n := 6) (ds := depC d) (depC_len zeroD_wf) (depC_len hdw) (depC_one)
  have k2 : Keep (fun _ => False) H h2 := k1.fresh k2' fun b hb => by omega
  rw [st2, Mwr_some]
  have hfit : ∀ k, k < hv.length → fitR d (gM hv k) = fitM d (gM hv k) := fun k hk => fitR_eq hdo (hok.v k hk)
  have ret : ∀ (h : Heap) (u : Value) (r : Res) (s' : Nat), Run hv bd (.sol ch (d :: ws)) s r s' → At h q (fndC vpk bd s' (ovF r)) → Keep (· = q) H h → (match r with | .ok l => ∃ v, u = .tuple #[v, .bool true] ∧ SlE 1 (· ≠ q) h v (ints (zs l)) ∧ Names hv l | _ => u = .tuple #[.slice none 0 0, .bool false]) → FindR hv bd vpk q ch (d :: ws) s H u h := fun h u r s' h1 h2 h3 h4 => ⟨r, s', h1, h2, h3, h4⟩
  refine J1_i (fun _ h => ofF hv ch d.name = none ∧ Keep (fun _ => False) h2 h) (fun k3 hk3 => ?_) ?_
  · refine L1_i (fun u h => ∃ i : Nat, i ≤ ch.length ∧ u = .int .i64 (i : Nat) ∧ (∀ k ∈ ch.take i, (gM hv k).name ≠ d.name) ∧ Keep (fun _ => False) h2 h) (fun u _ => match u with | .int _ t => ch.length - t.toNat | _ => 0) ⟨0, Nat.zero_le _, rfl, by simp, Keep.refl⟩ ?_
    rintro _ h ⟨i, hi, rfl, hno, kh⟩ k5 hk5
    rw [lc, Mpu_some, ltNn, Mpu_some, Mcd_bool]
    by_cases hlt : i < ch.length
    rotate_left
    · rw [if_neg (by simpa using hlt)]
      rw [List.take_of_length_le (by omega)] at hno
      exact hk3 _ _ ⟨List.find?_eq_none.2 fun k hk => by simpa using hno k hk, kh⟩
    rw [if_pos (by simpa using hlt)]
    have hg : ch[i]? = some ch[i] := List.getElem?_eq_getElem hlt
    have hmem : ch[i] ∈ ch := List.getElem_mem hlt
    have htk : ch.take (i + 1) = ch.take i ++ [ch[i]] := by rw [List.take_add_one, hg]; rfl
    generalize ch[i] = k at *
    have hkl := hN.1 k hmem
    have k0h := k2.trans kh
    obtain ⟨x, hgx, hmx, hxm, hpx, b, o, hix, hpt⟩ := (hp.keep k0h fun _ _ => id).at he hkl
    obtain ⟨bc, oc, hixc, hptc, _⟩ := (hc.keep k0h fun _ _ => id).at (i := i) (x := [.int .i64 (k : Int)]) (ints_get (zs_get hg))
    have e := fun q => str_eql (q := q) (a := x.1.name) (b := d.name)
    simp only [nck_ptr, fld_ptr, Nat.zero_add, Nat.add_zero, Mpu_some]
    rw [(aq.keep k0h id).ld (i := 0) rfl, Mpu_some, hixc .i64, Mpu_some, hptc.cell0 rfl, Mpu_some, hix .i64, Mpu_some, fld_ptr, Mpu_some, Nat.add_zero, pk_name hpt, Mpu_some, depNm (a2.keep kh id), Mpu_some, e, Mpu_some, Mcd_bool]
    by_cases hn : x.1.name = d.name
    rotate_left
    · rw [if_neg (by simpa using hn), add_one' (by omega), Mpu_some]
      refine hk5 _ _ ⟨i + 1, by omega, rfl, fun j hj => ?_, kh⟩ (by show ch.length - (i + 1) < ch.length - i; omega)
      rw [htk] at hj
      rcases List.mem_append.1 hj with hj | hj
      · exact hno j hj
      · rw [List.mem_singleton.1 hj, hmx]; exact hn
    rw [if_pos (by simpa using hn)]
    have hof : ofF hv ch d.name = some k := find_at (i := i) (fun p hp => by simpa using hno p hp) hg (by simpa using (hmx ▸ hn))
    rw [(a2.keep kh id).ldN (depC_len hdw), Mpu_some]
    rw [Mpu_some, Mpu_some, hptc.cell0 rfl, Mpu_some, hix .i64, Mpu_some, hpt.agg (pkgC_len hpx.wf), Mpu_some]
    refine call_i (c_rfits hdw hpx.wf) ?_
    rintro _ h7 ⟨rfl, k7⟩
    have k07 := k0h.trans k7
    have hff : fitM d (gM hv k) = fitR d x.1 := by rw [← hfit k hkl, hmx]
    rw [unV_not, Mpu_some, Mcd_bool]
    cases hfv : fitR d x.1
    · rw [if_pos (by rfl)]
      exact ret _ _ .fail s (.no hof (by rw [hff, hfv])) (aq.keep k07 id) (k07.mono fun _ _ h => h.elim) rfl
    · rw [if_neg (by decide)]
      obtain ⟨t61, e61, hw61⟩ := (hsw.keep k07 fun _ _ => id).rest
      rw [e61, Mpu_some]
      rw [List.length_cons] at hm hwl
      refine call_i (ih ch ws s h7 vc t61 (by omega) hN (fun y hy => hw y (by simp [hy])) (by omega) hs (hp.keep k07 fun _ _ => id) (hc.keep k07 fun _ _ => id) hw61 (aq.keep k07 id)) ?_
      rintro u h8 ⟨r, s', hr, hat, k8, hu⟩
      have k08 : Keep (· = q) H h8 := (k07.mono fun _ _ h => h.elim).trans k8
      have hrun : Run hv bd (.sol ch (d :: ws)) s r s' := .has hof (by rw [hff, hfv]) hr
      cases r with
      | ok l =>
        obtain ⟨v, rfl, hv1, hv2⟩ := hu
        simp only [extV_tuple]
        rw [show (#[v, Value.bool true][0]?) = some v from rfl, Mpu_some, show (#[v, Value.bool true][1]?) = some (.bool true) from rfl, Mpu_some]
        exact ret _ _ _ s' hrun hat k08 ⟨v, rfl, hv1, hv2⟩
      | fail =>
        subst hu
        simp only [extV_tuple]
        rw [show (#[Value.slice none 0 0, Value.bool false][0]?) = some (.slice none 0 0) from rfl, Mpu_some, show (#[Value.slice none 0 0, Value.bool false][1]?) = some (.bool false) from rfl, Mpu_some]
        exact ret _ _ _ s' hrun hat k08 rfl
      | over =>
        subst hu
        simp only [extV_tuple]
        rw [show (#[Value.slice none 0 0, Value.bool false][0]?) = some (.slice none 0 0) from rfl, Mpu_some, show (#[Value.slice none 0 0, Value.bool false][1]?) = some (.bool false) from rfl, Mpu_some]
        exact ret _ _ _ s' hrun hat k08 rfl
  rintro _ h4 ⟨hof, k24⟩
  have k4 := k2.trans k24
  have aq4 := aq.keep k4 id
  have a4 := a2.keep k24 id
  have lp := (hp.keep k4 fun _ _ => id).s.len
  rw [List.length_map, hpl] at lp
  simp only [nck_ptr, fld_ptr, Nat.zero_add, Nat.add_zero, Mpu_some]
  rw [aq4.ld (i := 0) rfl, Mpu_some, lp, Mpu_some]
  refine mks_bool (by omega) fun h9 ar9 k49 => ?_
  let W : Nat → Prop := fun b => b = q ∨ h4.size ≤ b
  let D : Nat → Prop := fun b => b ≠ q ∧ b < h4.size
  have hDW : ∀ b, D b → ¬ W b := fun b hb hw => hw.elim hb.1 fun h => by have := hb.2; omega
  have hp4 : PksV D h4 vpk pk := (hp.keep k4 fun _ _ => id).lt
  have hc4 : SlE 1 D h4 vc (ints (zs ch)) := (hc.keep k4 fun _ _ => id).lt
  have hs4 : SlE 6 D h4 vw ((d :: ws).map depC) := (hsw.keep k4 fun _ _ => id).lt
  have lt4 := a4.lt
  have g4 := k4.1
  let I : Heap → Prop := fun h => ∃ (A rest : List Nat) (s1 : Nat) (bs : List Bool), candF hv d = A ++ rest ∧ bs.length = hv.length ∧ (∀ i, i < hv.length → (bs.getD i false = true ↔ i ∈ A)) ∧ At h q (fndC vpk bd s1 false) ∧ At h h4.size (bs.map Value.bool) ∧ s1 ≤ bd ∧ Keep W h4 h ∧
    ∀ r s', Run hv bd (.tri ch ws rest) s1 r s' → Run hv bd (.sol ch (d :: ws)) s r s'
  refine L0_i I (fun h => match ld1 h (Ptr q 2) with | some (.int _ t) => bd - t.toNat | _ => 0)
    ⟨[], candF hv d, s, List.replicate hv.length false, rfl, by simp, fun i hi => by simp [List.getD_eq_getElem?_getD, List.getElem?_replicate, hi], aq4.keep k49 id, ar9, hs, k49.mono fun _ _ h => h.elim, fun r s' hr => .go hof hr⟩ ?_
  rintro h11 ⟨A, rest, s1, bs, hcand, hbl, hbs, aq11, ar11, hs1, kW, hrun⟩ k10 hk10
  have a11 := a4.keep kW (show ¬ W H.size from fun hw => hw.elim (fun e => by omega) fun e => by omega)
  rw [a11.ldN (depC_len hdw), Mpu_some]
  refine call_i (c_rnewest (hp4.keep kW hDW) he aq11 ar11 hbl hdw (by omega)) ?_
  rintro _ h12 ⟨rfl, k12⟩
  have hff : ∀ i, i < hv.length → (fF hv d bs i = true ↔ fitM d (gM hv i) = true ∧ i ∉ A) := fun i hi => by
    unfold fF
    rw [hfit i hi, Bool.and_eq_true, Bool.not_eq_true', ← Bool.not_eq_true, hbs i hi]
    exact And.comm
  have aq12 := aq11.keep k12 id
  have ar12 := ar11.keep k12 id
  have kW12 : Keep W h4 h12 := kW.trans (k12.mono fun _ _ h => h.elim)
  have kq : ∀ h, Keep W h4 h → Keep (· = q) H h := fun h kh => (k4.mono fun _ _ h => h.elim).trans ⟨kh.1, fun i hi hne => kh.2 i hi fun hw => hw.elim hne fun e => by omega⟩
  cases rest with
  | nil =>
    rw [pick_end (by rw [hcand, List.append_nil]) hff]
    have e : binV .no .lss (.int .i64 (ofO none)) (.int .i64 0) = some (.bool true) := rfl
    rw [e, Mpu_some, Mcd_bool, if_pos rfl]
    exact ret _ _ .fail s1 (hrun _ _ .none) aq12 (kq _ kW12) rfl
  | cons k rest =>
  have hkc : k ∈ candF hv d := by rw [hcand]; simp
  obtain ⟨hkl, hkf⟩ := mem_cand.1 hkc
  rw [pick_next hok.r hcand hff]
  have e0 : binV .no .lss (.int .i64 (ofO (some k))) (.int .i64 0) = some (.bool false) := ltN00
  rw [e0, Mpu_some, Mcd_bool, if_neg (by decide)]
  rw [aq12.ld (i := 2) rfl, Mpu_some, aq12.ld (i := 1) rfl, Mpu_some, eqNn, Mpu_some, Mcd_bool]
  by_cases hsb : s1 = bd
  · rw [if_pos (by simpa using hsb)]
    subst hsb
    obtain ⟨h13, st13, a13, k13⟩ := aq12.st1 (i := 3) (v := .bool true) (by simp [fndC]) rfl
    rw [st13, Mwr_some]
    exact ret _ _ .over s1 (hrun _ _ .over) a13 ((kq _ kW12).trans k13) rfl
  rw [if_neg (by simpa using hsb)]
  obtain ⟨h14, st14, a14', k14⟩ := aq12.st1 (i := 2) (v := .int .i64 ((s1 + 1 : Nat) : Int)) (by simp [fndC]) rfl
  have a14 : At h14 q (fndC vpk bd (s1 + 1) false) := a14'
  rw [Mpu_some, add_one' (by omega), Mpu_some, st14, Mwr_some]
  have hrq : h4.size ≠ q := by omega
  have ar14 := ar12.keep k14 hrq
  have ixk : ixS 1 (.slice (some ⟨h4.size, 0, none⟩) hv.length hv.length) (.int .i64 (ofO (some k))) = some (Ptr h4.size k) := by
    show ixS 1 _ (.int .i64 ((k : Nat) : Int)) = _
    rw [ixS_at hkl]; simp
  obtain ⟨h15, st15, a15', k15⟩ := ar14.st1 (i := k) (v := .bool true) (by rw [List.length_map]; omega) rfl
  have ar15 : At h15 h4.size ((bs.set k true).map Value.bool) := by rw [List.map_set]; exact a15'
  have aq15 := a14.keep k15 (fun e => hrq e.symm)
  rw [ixk, Mpu_some, st15, Mwr_some]
  have kW15 : Keep W h4 h15 := (kW12.trans (k14.mono fun b _ hb => .inl hb)).trans (k15.mono fun b _ hb => .inr (by omega))
  have hp15 := hp4.keep kW15 hDW
  have hc15 := hc4.keep kW15 hDW
  refine J2_i (fun t12 _ h => t12 = .bool (clashF hv ch k) ∧ Keep (fun _ => False) h15 h) (fun k16 hk16 => ?_) ?_
  · refine L2_i (fun t12 u h => (∃ j : Nat, j ≤ ch.length ∧ u = .int .i64 (j : Nat) ∧ t12 = .bool (clashF hv (ch.take j) k)) ∧ Keep (fun _ => False) h15 h) (fun _ u _ => match u with | .int _ t => ch.length - t.toNat | _ => 0) ⟨⟨0, Nat.zero_le _, rfl, rfl⟩, Keep.refl⟩ ?_
    rintro _ _ h ⟨⟨j, hj, rfl, rfl⟩, kh⟩ k18 hk18
    rw [lc, Mpu_some, ltNn, Mpu_some, Mcd_bool]
    by_cases hlt : j < ch.length
    rotate_left
    · rw [if_neg (by simpa using hlt)]
      rw [List.take_of_length_le (by omega)]
      exact hk16 _ _ _ ⟨rfl, kh⟩
    rw [if_pos (by simpa using hlt)]
    have hg : ch[j]? = some ch[j] := List.getElem?_eq_getElem hlt
    have hmem : ch[j] ∈ ch := List.getElem_mem hlt
    have htk : ch.take (j + 1) = ch.take j ++ [ch[j]] := by rw [List.take_add_one, hg]; rfl
    generalize ch[j] = i at *
    have hil := hN.1 i hmem
    have hst : clashF hv (ch.take (j + 1)) k = (clashF hv (ch.take j) k || (refR (gM hv i) (gM hv k) || refR (gM hv k) (gM hv i))) := by
      rw [htk, hok.ref hil hkl, hok.ref hkl hil]
      unfold clashF
      rw [List.any_append]; simp
    obtain ⟨x, hgx, hmx, hxm, hpx, bx, ox, hix, hpt⟩ := (hp15.keep kh fun _ _ => id).at he hil
    obtain ⟨y, hgy, hmy, hym, hpy, by', oy, hiy, hpty⟩ := (hp15.keep kh fun _ _ => id).at he hkl
    obtain ⟨bc, oc, hixc, hptc, _⟩ := (hc15.keep kh fun _ _ => id).at (i := j) (x := [.int .i64 (i : Int)]) (ints_get (zs_get hg))
    have iyk : ixS 7 vpk (.int .i64 (ofO (some k))) = some (Ptr by' oy) := hiy .i64
    have hcx := (hok.s i hil).2
    have hcy := (hok.s k hkl).2
    rw [hmx] at hcx
    rw [hmy] at hcy
    have aqh := aq15.keep kh id
    have fin : ∀ h', Keep (fun _ => False) h h' → k18 (.bool (clashF hv (ch.take (j + 1)) k)) (.int .i64 ((j + 1 : Nat) : Int)) h' := fun h' k' =>
      hk18 _ _ _ ⟨⟨j + 1, by omega, rfl, rfl⟩, kh.trans k'⟩ (by show ch.length - (j + 1) < ch.length - j; omega)
    rw [hst, hmx, hmy] at fin
    cases hcl : clashF hv (ch.take j) k
    rotate_left
    · rw [hcl] at fin
      simp only [J1_eq, Mif_bool, Bool.true_eq_false, if_false, pickV_bool, if_true, Mpu_some]
      rw [add_one' (by omega), Mpu_some]
      exact fin _ Keep.refl
    rw [hcl] at fin
    refine J1_yes rfl ?_
    rw [aqh.ld (i := 0) rfl, Mpu_some, hixc .i64, Mpu_some, hptc.cell0 rfl, Mpu_some, hix .i64, Mpu_some, hpt.agg (pkgC_len hpx.wf), Mpu_some, Mpu_some, iyk, Mpu_some, hpty.agg (pkgC_len hpy.wf), Mpu_some]
    refine call_i (c_rrefuses hpx hpy.wf hcx) ?_
    rintro _ h21 ⟨rfl, k21⟩
    show Mpu (pickV (.bool false) (.bool true) (.bool (refR x.1 y.1))) _
    rw [pickV_bool, if_neg (by decide), Mpu_some]
    cases hr1 : refR x.1 y.1
    rotate_left
    · rw [hr1] at fin
      simp only [J1_eq, Mif_bool, Bool.true_eq_false, if_false, pickV_bool, if_true, Mpu_some]
      rw [add_one' (by omega), Mpu_some]
      exact fin _ k21
    rw [hr1] at fin
    refine J1_yes rfl ?_
    rw [(aqh.keep k21 id).ld (i := 0) rfl, Mpu_some, iyk, Mpu_some, (hpty.keep k21 id).agg (pkgC_len hpy.wf), Mpu_some, Mpu_some, Mpu_some, (hptc.keep k21 id).cell0 rfl, Mpu_some, hix .i64, Mpu_some, (hpt.keep k21 id).agg (pkgC_len hpx.wf), Mpu_some]
    refine call_i (c_rrefuses (hpy.keep k21 fun _ _ => id) hpx.wf hcy) ?_
    rintro _ h24 ⟨rfl, k24'⟩
    show Mpu (pickV (.bool false) (.bool true) (.bool (refR y.1 x.1))) _
    rw [pickV_bool, if_neg (by decide), Mpu_some, add_one' (by omega), Mpu_some]
    have := fin _ (k21.trans k24')
    simpa using this
  rintro _ _ h17 ⟨rfl, k17⟩
  have aq17 := aq15.keep k17 id
  have ar17 := ar15.keep k17 id
  have kW17 : Keep W h4 h17 := kW15.trans (k17.mono fun _ _ h => h.elim)
  have hcand' : candF hv d = (A ++ [k]) ++ rest := by rw [hcand]; simp
  have hbs' : ∀ i, i < hv.length → ((bs.set k true).getD i false = true ↔ i ∈ A ++ [k]) := fun i hi => by
    rw [gd_set (by omega), List.mem_append, List.mem_singleton]
    by_cases e : i = k
    · rw [if_pos e]; simp [e]
    · rw [if_neg e, hbs i hi]; simp [e]
  have l11 : ld1 h11 (Ptr q 2) = some (.int .i64 (s1 : Nat)) := aq11.ld (i := 2) rfl
  rw [Mcd_bool]
  cases hcl : clashF hv ch k
  rotate_left
  · rw [if_pos rfl]
    refine hk10 h17 ⟨A ++ [k], rest, s1 + 1, bs.set k true, hcand', by simpa using hbl, hbs', aq17, ar17, by omega, kW17, fun r s' hr => hrun r s' (.clash hsb hcl hr)⟩ ?_
    have l17 : ld1 h17 (Ptr q 2) = some (.int .i64 ((s1 + 1 : Nat) : Int)) := aq17.ld (i := 2) rfl
    rw [l17, l11]
    show bd - (s1 + 1) < bd - s1
    omega
  rw [if_neg (by decide)]
  have hN' : Names hv (ch ++ [k]) := hN.add hof hkc
  have hchl' : ch.length ≤ 11 := by have := hN'.len; simp at this; omega
  have hp17 := hp4.keep kW17 hDW
  have hs17 := hs4.keep kW17 hDW
  obtain ⟨t149, e149, hw149⟩ := hs17.rest
  rw [e149, Mpu_some]
  have g17 := kW17.1
  rw [List.length_cons] at hm hwl
  have hwl' : ws.length ≤ 20000 := by omega
  refine (BufE.nil (n := 6) (F := fun b => h17.size ≤ b) (H := h17)).app hw149 (by omega) (by simp; omega) (Nat.le_refl _) fun t150 h26 hb150 k26 => ?_
  rw [List.nil_append] at hb150
  have k1726 : Keep (fun _ => False) h17 h26 := Keep.refl.fresh k26 fun b hb => hb
  obtain ⟨x, hgx, hmx, hxm, hpx, bx, ox, hix, hpt⟩ := (hp17.keep k1726 fun _ _ => id).at he hkl
  have ixk' : ixS 7 vpk (.int .i64 (ofO (some k))) = some (Ptr bx ox) := hix .i64
  have hdl := (hok.s k hkl).1
  rw [hmx] at hdl
  rw [(aq17.keep k1726 id).ld (i := 0) rfl, Mpu_some, ixk', Mpu_some, fld_ptr, Mpu_some, pk_d hpt hpx.wf, Mpu_some]
  have g26 := k1726.1
  refine hb150.app hpx.d (by omega) (by simp; omega) (by show h17.size ≤ h26.size; omega) fun t160 h27 hb160 k27 => ?_
  have k1727 : Keep (fun _ => False) h17 h27 := k1726.fresh k27 fun b hb => hb
  have g27 := k1727.1
  have hc27 := (hc4.keep kW17 hDW).keep k1727 fun _ _ => id
  refine (BufE.nil (n := 1) (F := fun b => h27.size ≤ b) (H := h27)).app hc27 (by omega) (by rw [ints_len, zs_len, List.length_nil]; omega) (Nat.le_refl _) fun t163 h28 hb163 k28 => ?_
  rw [List.nil_append] at hb163
  have k2728 : Keep (fun _ => False) h27 h28 := Keep.refl.fresh k28 fun b hb => hb
  rw [show bslV prg T_int 1 [(0, .int .i64 (ofO (some k)))] = some #[.int .i64 (k : Nat)] from bslI1', Mnews_some]
  generalize hH29 : h28.push (.cells #[.int .i64 (k : Nat)] T_int (0, 0)) = h29
  have k29 : Keep (fun _ => False) h28 h29 := by rw [← hH29]; exact Keep.push
  have hx29 : SlE 1 (· = h28.size) h29 (.slice (some ⟨h28.size, 0, none⟩) 1 1) (ints [(k : Int)]) :=
    ⟨⟨_, 1, rfl, Nat.le_refl _, .inr ⟨h28.size, 0, rfl, rfl, by rw [rows1_flat, ← hH29]; exact Pt.of push_new⟩⟩, rows1_el, rows1_one fun v hv => by simp at hv; subst hv; rfl⟩
  have g28 := k2728.1
  have g29 := k29.1
  refine (hb163.keep k29 fun _ _ => id).app hx29 (by omega) (by rw [ints_len, ints_len, zs_len]; simp; omega) (by show h27.size ≤ h29.size; omega) fun t169 h30 hb169 k30 => ?_
  have k2730 : Keep (fun _ => False) h27 h30 := (k2728.trans k29).fresh k30 fun b hb => hb
  have k1730 := k1727.trans k2730
  have eints : ints (zs (ch ++ [k])) = ints (zs ch) ++ ints [(k : Int)] := by simp [zs, rows1]
  rw [← eints] at hb169
  have hb160' : BufE 6 (fun b => h17.size ≤ b) h27 t160 ((ws ++ (gM hv k).deps).map depC) := by rw [List.map_append, hmx]; exact hb160
  have hq17 : q < h17.size := aq17.lt
  refine call_i (ih (ch ++ [k]) (ws ++ (gM hv k).deps) (s1 + 1) h30 t169 t160 (by simp only [List.length_append, List.length_cons, List.length_nil, hmx]; omega) hN' (fun y hy => ?_) (by simp only [List.length_append, List.length_cons, List.length_nil, hmx]; omega) (by omega) ((hp17.keep k1730 fun _ _ => id).mono fun b hb => hb.1) (hb169.sl.mono fun b hb => by have : h27.size ≤ b := hb; omega) ((hb160'.sl.keep k2730 fun _ _ => id).mono fun b hb => by have : h17.size ≤ b := hb; omega) (aq17.keep k1730 id)) ?_
  · rcases List.mem_append.1 hy with hy | hy
    · exact hw y (by simp [hy])
    · exact hok.d k hkl y hy
  rintro u h31 ⟨r, s2, hr, hat, k31, hu⟩
  have k1731 : Keep (· = q) h17 h31 := (k1730.mono fun _ _ h => h.elim).trans k31
  have kW31 : Keep W h4 h31 := kW17.trans (k1731.mono fun b _ hb => .inl hb)
  have hle := hr.le
  have htop := hr.top (by omega)
  cases r with
  | ok l =>
    obtain ⟨v, rfl, hv1, hv2⟩ := hu
    simp only [extV_tuple]
    rw [show (#[v, Value.bool true][0]?) = some v from rfl, Mpu_some, show (#[v, Value.bool true][1]?) = some (.bool true) from rfl, Mpu_some]
    simp only [J1_eq, Mif_bool, Bool.true_eq_false, if_false, pickV_bool, if_true, Mpu_some, Mcd_bool]
    exact ret _ _ (.ok l) s2 (hrun _ _ (.down hsb hcl hr (by simp))) hat (kq _ kW31) ⟨v, rfl, hv1, hv2⟩
  | over =>
    subst hu
    simp only [extV_tuple]
    rw [show (#[Value.slice none 0 0, Value.bool false][0]?) = some (.slice none 0 0) from rfl, Mpu_some, show (#[Value.slice none 0 0, Value.bool false][1]?) = some (.bool false) from rfl, Mpu_some]
    refine J1_yes rfl ?_
    rw [hat.ld (i := 3) rfl, Mpu_some]
    show Mpu (pickV (.bool false) (.bool true) (.bool true)) _
    rw [pickV_bool, if_neg (by decide), Mpu_some, Mcd_bool, if_pos rfl]
    exact ret _ _ .over s2 (hrun _ _ (.down hsb hcl hr (by simp))) hat (kq _ kW31) rfl
  | fail =>
    subst hu
    simp only [extV_tuple]
    rw [show (#[Value.slice none 0 0, Value.bool false][0]?) = some (.slice none 0 0) from rfl, Mpu_some, show (#[Value.slice none 0 0, Value.bool false][1]?) = some (.bool false) from rfl, Mpu_some]
    refine J1_yes rfl ?_
    rw [hat.ld (i := 3) rfl, Mpu_some]
    show Mpu (pickV (.bool false) (.bool true) (.bool false)) _
    rw [pickV_bool, if_neg (by decide), Mpu_some, Mcd_bool, if_neg (by decide)]
    refine hk10 h31 ⟨A ++ [k], rest, s2, bs.set k true, hcand', by simpa using hbl, hbs', hat, ar17.keep k1731 hrq, htop, kW31, fun r s' hr' => hrun r s' (.back hsb hcl hr hr')⟩ ?_
    have l31 : ld1 h31 (Ptr q 2) = some (.int .i64 (s2 : Nat)) := hat.ld (i := 2) rfl
    rw [l31, l11]
    show bd - s2 < bd - s1
    omega
end Go.Proofs.YtanhgihfgmbojaaGreatDoor

