/- a history: one record more. -/
import Derived.Test.YtmhfanpijdgkjaaDoorV12
namespace Go.Proofs.YtmhfanpijdgkjaaDoor
open Go.X
set_option maxRecDepth 100000

theorem bsl_one {P : Program} {e : TypeId} {n : Nat} {z : Array Value} {v : Value} (hn : P.cellsOf e = n) (h0 : 0 < n) (h1 : n ≤ 16777216) (hz : zcells P e = some z) (hzs : z.size = n) (hv : v.cells.size = n) : bslV P e 1 [(0, v)] = some v.cells := by
  unfold bslV
  rw [hn, if_neg (by omega), hz, Option.bind_some, if_pos hzs]
  have hs : (zrow z (1 * n)).size = n := by simp [zrow]
  have hspl : spl (zrow z (1 * n)) (0 * n) v.cells = v.cells := by
    unfold spl
    rw [Nat.zero_mul, Nat.zero_add, hv]
    apply Array.ext'
    have hs' : (zrow z n).size = n := by simpa using hs
    simp [hs']
  simp only [bfill]
  rw [if_pos ⟨hv, by rw [hs]; omega⟩, hspl]
theorem c_Hash : prg.cellsOf T_sha_Hash = 32 := by kernel_rfl
theorem c_Rec : prg.cellsOf T_history_Record = 36 := by kernel_rfl

section
variable {p : Nat} {Fr Fc Fi P : Nat → Prop} {H : Heap} {rs : List RecA} {ch : List (List UInt8)} {vb va : Value} {a : RecA}
def appOk (rs : List RecA) (a : RecA) : Bool := recOk a && decide (a.bef = nowF rs)
def chainF (ch : List (List UInt8)) (a : RecA) : List UInt8 := shaF (7 :: (topF ch ++ recB a))

def AppR (p : Nat) (Fr Fc Fi : Nat → Prop) (H : Heap) (rs : List RecA) (ch : List (List UInt8)) (a : RecA) (u : Value) (H' : Heap) : Prop :=
  (appOk rs a = false ∧ u = .int .i64 10 ∧ Keep (fun _ => False) H H') ∨
  (appOk rs a = true ∧ rs.length = 4096 ∧ u = .int .i64 12 ∧ Keep (fun _ => False) H H') ∨
  (appOk rs a = true ∧ rs.length ≠ 4096 ∧ u = .int .i64 0 ∧ Keep (HB p Fr Fc Fi) H H' ∧ ∃ Fr' Fc' Fi', HistAt p Fr' Fc' Fi' H' (rs ++ [a]) (ch ++ [chainF ch a]) ∧ ∀ b, HB p Fr' Fc' Fi' b → HB p Fr Fc Fi b ∨ H.size ≤ b)
theorem c_Append (h : HistAt p Fr Fc Fi H rs ch) (hT : ShaT H) (hb : Items P H vb a.bef) (ha : Items P H va a.aft) (hP : ∀ b, P b → b < H.size ∧ ¬ HB p Fr Fc Fi b) (hr : a.r.length = 32)
    (hIb : ∀ x ∈ a.bef, ItoaOk x.ver.p) (hIa : ∀ x ∈ a.aft, ItoaOk x.ver.p) (hl : (recB a).length ≤ 1099511627776) (hl1 : a.bef.length ≤ 1048576) (hl2 : a.aft.length ≤ 1048576) :
    HCalls prg f_history_History_Append [Ptr p 0, .agg (recC a.k vb va a.s a.r).toArray] H (AppR p Fr Fc Fi H rs ch a) := by
  apply sh_history_History_Append_calls
  unfold sh_history_History_Append
  have hlt := h.lt
  have hpH : p < H.size := (hlt p (.inl rfl)).2
  simp only [Cells_agg, Mnew_some]
  generalize hH1 : H.push (.cells (recC a.k vb va a.s a.r).toArray T_history_Record (0, 0)) = H1
  have k1 : Keep (fun _ => False) H H1 := by rw [← hH1]; exact Keep.push
  have hs1 : H1.size = H.size + 1 := by rw [← hH1]; simp
  have hq1 : H1[H.size]? = some (.cells (recC a.k vb va a.s a.r).toArray T_history_Record (0, 0)) := by rw [← hH1]; exact push_new
  have hrl := recC_len (k := a.k) (s := a.s) (vb := vb) (va := va) hr
  rw [show (Value.pointer (some ⟨H.size, 0, none⟩)) = Ptr H.size 0 from rfl, ld36 hq1 hrl, Mpu_some]
  have hb1 := hb.keep k1 fun _ _ => id
  have ha1 := ha.keep k1 fun _ _ => id
  refine call_i (c_RecRight hb1 ha1 (fun b hb => by have := (hP b hb).1; omega) hr (by omega) (by omega)) ?_
  rintro _ h2 ⟨rfl, k2⟩
  have k02 := k1.trans k2
  simp only [unV_not, Mpu_some, J1_eq]
  by_cases hok : recOk a = true
  case neg =>
    have hok' := eq_false_of_ne_true hok
    simp only [hok', Bool.not_false, Mif_bool, Bool.true_eq_false, if_false, pickV_bool, if_true, Mpu_some, Mcd_bool]
    exact Or.inl ⟨by unfold appOk; rw [hok']; rfl, by trivial, k02⟩
  have hq2 := k2.at hq1 id
  have d1 : ld1 h2 (Ptr H.size 1) = some vb := ld_l hq2 rfl
  simp only [hok, Bool.not_true, Mif_bool, if_true, fld_ptr, Mpu_some, Nat.zero_add, d1, pickV_bool, Bool.false_eq_true, if_false]
  have hh2 := h.keep k02 fun _ _ => id
  refine call_i (c_HistNow hh2) ?_
  rintro w h4 ⟨hnow, k4⟩
  have hq4 := k4.at hq2 id
  have d14 : ld1 h4 (Ptr H.size 1) = some vb := ld_l hq4 rfl
  have k04 := k02.trans k4
  simp only [d14, Mre_cons, Mre_nil, true_and]
  refine call_i (c_EqItems ((hb1.keep k2 fun _ _ => id).keep k4 fun _ _ => id) hnow (by omega)) ?_
  rintro _ _ ⟨rfl, rfl⟩
  simp only [unV_not, Mpu_some, Mcd_bool]
  by_cases heq : a.bef = nowF rs
  case neg =>
    rw [if_pos (by simp [heq])]
    exact Or.inl ⟨by unfold appOk; rw [hok]; simp [heq], by trivial, k04⟩
  rw [if_neg (by simp [heq])]
  have happ : appOk rs a = true := by unfold appOk; rw [hok]; simp [heq]
  have hh4 := h.keep k04 fun _ _ => id
  obtain ⟨vr, vc, xs, hp4, hr4, hc4, hxl, hx4⟩ := hh4.blk
  have e0 : ld1 h4 (Ptr p 0) = some vr := by rw [ld1_at hp4]; rfl
  have e1 : ld1 h4 (Ptr p 1) = some vc := by rw [ld1_at hp4]; rfl
  have el := hr4.sl.len
  have hzl : (List.zipWith rawC rs xs).length = rs.length := by simp [hxl]
  rw [hzl] at el
  have hfew := h.few
  simp only [nck_ptr, fld_ptr, Mpu_some, Nat.zero_add, e0, el, binV_int, intV, Mcd_bool]
  by_cases hfull : rs.length = 4096
  · rw [if_pos (by rw [beq_iff_eq]; omega)]
    exact Or.inr (Or.inl ⟨happ, hfull, by trivial, k04⟩)
  rw [if_neg (by rw [beq_iff_eq]; omega)]
  simp only [e1, Mpu_some, ld36 hq4 hrl]
  refine call_i (c_HistTop hh4) ?_
  rintro _ h7 ⟨rfl, k7⟩
  have hq7 := k7.at hq4 id
  have hp7 := k7.at hp4 id
  have e17 : ld1 h7 (Ptr p 1) = some vc := by rw [ld1_at hp7]; rfl
  have k07 := k04.trans k7
  simp only [ld36 hq7 hrl, e17, Mre_cons, Mre_nil, true_and]
  refine call_i (c_RecBytes (hb.keep k07 fun _ _ => id) (ha.keep k07 fun _ _ => id) (fun b hb => Nat.lt_of_lt_of_le (hP b hb).1 k07.1) hr hIb hIa hl (by omega) (by omega)) ?_
  rintro wb h8 ⟨hbuf, k8⟩
  have hp8 := k8.at hp7 id
  have e18 : ld1 h8 (Ptr p 1) = some vc := by rw [ld1_at hp8]; rfl
  have k08 := k07.trans k8
  simp only [e18, true_and]
  refine call_i (c_tag_Record (topF_len h.c32) hbuf.sl (hT.keep k08 fun _ h => h.elim) (fun b hb => hb.2) hl) ?_
  rintro _ h9 ⟨rfl, k9⟩
  have hp9 := k9.at hp8 id
  have e19 : ld1 h9 (Ptr p 1) = some vc := by rw [ld1_at hp9]; rfl
  have k09 := k08.trans k9
  have hcl : (chainF ch a).length = 32 := shaF_len
  have hb1h : bslV prg T_sha_Hash 1 [(0, bv (chainF ch a))] = some (bcells (chainF ch a)).toArray := bsl_one c_Hash (by omega) (by omega) z_Hash rfl (by simp [hcl])
  rw [show shaF (7 :: (topF ch ++ recB a)) = chainF ch a from rfl]
  simp only [e19, true_and, hb1h, Mnews_some]
  generalize hH10 : h9.push (.cells (bcells (chainF ch a)).toArray T_sha_Hash (0, 0)) = h10
  have k10 : Keep (fun _ => False) h9 h10 := by rw [← hH10]; exact Keep.push
  have hs10 : h10.size = h9.size + 1 := by rw [← hH10]; simp
  have hn10 : h10[h9.size]? = some (.cells (bcells (chainF ch a)).toArray T_sha_Hash (0, 0)) := by rw [← hH10]; exact push_new
  have hp10 := k10.at hp9 id
  have e110 : ld1 h10 (Ptr p 1) = some vc := by rw [ld1_at hp10]; rfl
  have k410 : Keep (fun _ => False) h4 h10 := k7.trans (k8.trans (k9.trans k10))
  have k010 := k04.trans k410
  simp only [e110, true_and]
  have hx10 : SlE 32 (· = h9.size) h10 (.slice (some ⟨h9.size, 0, none⟩) 1 1) [bcells (chainF ch a)] :=
    ⟨⟨_, 1, rfl, Nat.le_refl _, .inr ⟨h9.size, 0, rfl, rfl, by rw [List.flatten_cons, List.flatten_nil, List.append_nil]; exact Pt.of hn10⟩⟩, fun x hx => by simp at hx; subst hx; simp [hcl], fun x hx => by simp at hx; subst hx; exact bcells_one⟩
  have hc10 : BufE 32 (fun b => Fc b ∨ b = h10.size) h10 vc (ch.map bcells) := (hc4.keep k410 fun _ _ => id).mono fun b h => .inl h
  have hclen := h.len
  refine hc10.app hx10 (by omega) (by simp; omega) (.inr rfl) fun x h11 hx11 k11 => ?_
  have hown := h.own
  have hpF1 : ¬ (Fc p ∨ p = h10.size) := fun h => h.elim (fun h => ((hown p).2.1 h).2.2.1 rfl) fun h => by have := k010.1; omega
  have hp11 := k11.at hp10 hpF1
  have s11 := k11.1
  rw [st1_at hp11 1 x (by simp) hx11.sl.oneC, Mwr_some]
  generalize hH12 : h11.setIfInBounds p (.cells (#[vr, vc].setIfInBounds 1 x) T_history_History (0, 0)) = h12
  have k12 : Keep (· = p) h11 h12 := by rw [← hH12]; exact Keep.set rfl
  have hs12 : h12.size = h11.size := by rw [← hH12]; simp
  have hp12 : h12[p]? = some (.cells #[vr, x] T_history_History (0, 0)) := by rw [← hH12, set_self hp11]; rfl
  have e012 : ld1 h12 (Ptr p 0) = some vr := by rw [ld1_at hp12]; rfl
  have k012 : Keep (fun b => b = p ∨ Fc b) H h12 := by
    refine ⟨by have := k010.1; omega, fun i hi hn => ?_⟩
    rw [k12.2 i (by have := k010.1; omega) (fun h => hn (.inl h)), k11.2 i (by have := k010.1; omega) (fun h => h.elim (fun h => hn (.inr h)) fun h => by have := k010.1; omega), k010.2 i hi id]
  have hqp : ¬ (H.size = p) := by omega
  have hq12 : h12[H.size]? = some (.cells (recC a.k vb va a.s a.r).toArray T_history_Record (0, 0)) := k12.at (k11.at (k410.at hq4 id) fun h => h.elim (fun h => by have := ((hown _).2.1 h).2.1; omega) fun h => by have := k410.1; have := k4.1; have := k2.1; omega) (by omega)
  simp only [e012, Mpu_some, ld36 hq12 hrl]
  have hPS : ∀ b, P b → ¬ (b = p ∨ Fc b) := fun b hb h => (hP b hb).2 (h.elim .inl fun h => .inr (.inr (.inl h)))
  refine call_i (c_copied (hb.keep k012 hPS) (ha.keep k012 hPS) (fun b hb => Nat.lt_of_lt_of_le (hP b hb).1 k012.1) hr hl1 hl2) ?_
  rintro _ h13 ⟨vb', va', rfl, ib, ia, k13⟩
  have hp13 := k13.at hp12 id
  have e013 : ld1 h13 (Ptr p 0) = some vr := by rw [ld1_at hp13]; rfl
  obtain ⟨z, hz, hz36⟩ := z_Record
  have hb1r : bslV prg T_history_Record 1 [(0, .agg (recC a.k vb' va' a.s a.r).toArray)] = some (recC a.k vb' va' a.s a.r).toArray := bsl_one c_Rec (by omega) (by omega) hz (by simp [hz36]) (by simp [recC_len hr])
  simp only [e013, Mre_cons, Mre_nil, true_and, hb1r, Mnews_some]
  generalize hH14 : h13.push (.cells (recC a.k vb' va' a.s a.r).toArray T_history_Record (0, 0)) = h14
  have k14 : Keep (fun _ => False) h13 h14 := by rw [← hH14]; exact Keep.push
  have hs14 : h14.size = h13.size + 1 := by rw [← hH14]; simp
  have hn14 : h14[h13.size]? = some (.cells (recC a.k vb' va' a.s a.r).toArray T_history_Record (0, 0)) := by rw [← hH14]; exact push_new
  have hp14 := k14.at hp13 id
  have e014 : ld1 h14 (Ptr p 0) = some vr := by rw [ld1_at hp14]; rfl
  simp only [e014, true_and]
  have hx14 : SlE 36 (· = h13.size) h14 (.slice (some ⟨h13.size, 0, none⟩) 1 1) [rawC a (vb', va')] :=
    ⟨⟨_, 1, rfl, Nat.le_refl _, .inr ⟨h13.size, 0, rfl, rfl, by rw [List.flatten_cons, List.flatten_nil, List.append_nil]; exact Pt.of hn14⟩⟩, fun x hx => by simp at hx; subst hx; exact recC_len hr, fun x hx => by simp at hx; subst hx; exact recC_one ib ia⟩
  have k014 : Keep (fun b => b = p ∨ Fc b) H h14 := k012.trans ((k13.trans k14).mono fun _ _ h => h.elim)
  have hr0 : BufE 36 Fr H vr (List.zipWith rawC rs xs) := BufE.keepBack hr4 k04 (fun b hb => ((hown b).1 hb).2.1)
  have hr14 : BufE 36 (fun b => Fr b ∨ b = h14.size) h14 vr (List.zipWith rawC rs xs) := (hr0.keep k014 fun b hb h => by
    obtain ⟨_, _, h1, h2, _⟩ := (hown b).1 hb
    exact h.elim h1 h2).mono fun b h => .inl h
  refine hr14.app hx14 (by omega) (by rw [hzl]; simp; omega) (.inr rfl) fun y h15 hy15 k15 => ?_
  have s13 := k13.1
  have s15 := k15.1
  have s010 := k010.1
  have hpF2 : ¬ (Fr p ∨ p = h14.size) := fun h => h.elim (fun h => ((hown p).1 h).2.2.1 rfl) fun h => by omega
  have hp15 := k15.at hp14 hpF2
  rw [st1_at hp15 0 y (by simp) hy15.sl.oneC, Mwr_some]
  generalize hH16 : h15.setIfInBounds p (.cells (#[vr, x].setIfInBounds 0 y) T_history_History (0, 0)) = h16
  have k16 : Keep (· = p) h15 h16 := by rw [← hH16]; exact Keep.set rfl
  have hs16 : h16.size = h15.size := by rw [← hH16]; simp
  have hp16 : h16[p]? = some (.cells #[y, x] T_history_History (0, 0)) := by rw [← hH16, set_self hp15]; rfl
  have k016 : Keep (fun b => b = p ∨ Fc b ∨ Fr b) H h16 := by
    refine ⟨by omega, fun i hi hn => ?_⟩
    rw [k16.2 i (by omega) (fun h => hn (.inl h)), k15.2 i (by omega) (fun h => h.elim (fun h => hn (.inr (.inr h))) fun h => by omega), k014.2 i hi (fun h => h.elim (fun h => hn (.inl h)) fun h => hn (.inr (.inl h)))]
  have k1116 : ∀ b, b < h11.size → b ≠ p → ¬ Fr b → h16[b]? = h11[b]? := fun b hb h1 h2 => by
    rw [k16.2 b (by omega) h1, k15.2 b (by omega) (fun h => h.elim h2 fun h => by omega), k14.2 b (by omega) id, k13.2 b (by omega) id, k12.2 b hb h1]
  refine Or.inr (Or.inr ⟨happ, hfull, by trivial, k016.mono fun b _ h => ?_, fun b => (Fr b ∨ b = h14.size) ∧ b < h15.size, fun b => (Fc b ∨ b = h10.size) ∧ b < h11.size, fun b => Fi b ∨ New h12 h13 b, ?_, ?_⟩)
  · rcases h with h | h | h
    · exact .inl h
    · exact .inr (.inr (.inl h))
    · exact .inr (.inl h)
  · have hng := h.ng
    refine ⟨fun b => ?_, hng, by simp [hclen], by simp; omega, ?_, y, x, xs ++ [(vb', va')], hp16, ?_, ?_, by simp [hxl], ?_⟩
    · obtain ⟨o1, o2, o3⟩ := hown b
      have hn1 : New h12 h13 b → h12.size ≤ b ∧ b < h13.size := id
      refine ⟨?_, ?_, ?_⟩
      · rintro ⟨h1 | h1, h2⟩
        · obtain ⟨a1, a2, a3, a4, a5⟩ := o1 h1
          refine ⟨a1, by omega, a3, fun h => h.1.elim a4 fun h => by omega, fun h => h.elim a5 fun h => by have := hn1 h; omega⟩
        · refine ⟨by omega, by omega, by omega, fun h => by omega, fun h => h.elim (fun h => by have := (o3 h).2.1; omega) fun h => by have := hn1 h; omega⟩
      · rintro ⟨h1 | h1, h2⟩
        · obtain ⟨a1, a2, a3, a4⟩ := o2 h1
          exact ⟨a1, by omega, a3, fun h => h.elim a4 fun h => by have := hn1 h; omega⟩
        · exact ⟨by omega, by omega, by omega, fun h => h.elim (fun h => by have := (o3 h).2.1; omega) fun h => by have := hn1 h; omega⟩
      · rintro (h1 | h1)
        · obtain ⟨a1, a2, a3⟩ := o3 h1
          exact ⟨a1, by omega, a3⟩
        · have := hn1 h1
          exact ⟨by omega, by omega, by omega⟩
    · intro c hc
      rcases List.mem_append.1 hc with hc | hc
      · exact h.c32 c hc
      · simp at hc; subst hc; exact hcl
    · rw [List.zipWith_append (by rw [hxl])]
      have hk16 := hy15.keep k16 fun b hb e => by subst e; exact hpF2 hb
      exact BufE.re hk16 fun b hb h => ⟨h, by omega⟩
    · rw [List.map_append]
      obtain ⟨c1, c2, c3⟩ := hx11
      refine ⟨c1, c2, ?_⟩
      rcases c3 with c3 | ⟨b, o, c, cs, T, f, rfl, hf, hc, hb', hrest⟩
      · exact .inl c3
      · have hblt := lt_of hb'
        refine .inr ⟨b, o, c, cs, T, f, rfl, ⟨hf, hblt⟩, hc, ?_, hrest⟩
        rw [k1116 b hblt (fun e => hpF1 (e ▸ hf)) (fun h => hf.elim (fun h2 => ((hown b).1 h).2.2.2.1 h2) fun h2 => by have := ((hown b).1 h).2.1; omega)]
        exact hb'
    · intro i a' x' ha' hx'
      by_cases hi : i < rs.length
      · rw [List.getElem?_append_left hi] at ha'
        rw [List.getElem?_append_left (by omega)] at hx'
        have hraw := (h.blk)
        have := hx4 i a' x' ha' hx'
        refine RawOk.mono (F := Fi) ?_ fun b h => .inl h
        refine RawOk.back this k04 (fun b hb => ((hown b).2.2 hb).2.1) k016 fun b hb h => ?_
        obtain ⟨_, _, h3⟩ := (hown b).2.2 hb
        rcases h with h | h | h
        · exact h3 h
        · exact ((hown b).2.1 h).2.2.2 hb
        · exact ((hown b).1 h).2.2.2.2 hb
      · rw [List.getElem?_append_right (by omega)] at ha' hx'
        obtain rfl : a = a' := by
          cases hi' : i - rs.length with
          | zero => rw [hi'] at ha'; simpa using ha'
          | succ n => rw [hi'] at ha'; simp at ha'
        obtain rfl : (vb', va') = x' := by
          cases hi' : i - xs.length with
          | zero => rw [hi'] at hx'; simpa using hx'
          | succ n => rw [hi'] at hx'; simp at hx'
        have k1316 : Keep (fun b => b = p ∨ b = h14.size ∨ Fr b) h13 h16 := by
          refine ⟨by omega, fun i hi hn => ?_⟩
          rw [k16.2 i (by omega) (fun h => hn (.inl h)), k15.2 i (by omega) (fun h => h.elim (fun h => hn (.inr (.inr h))) fun h => hn (.inr (.inl h))), k14.2 i hi id]
        have hs : ∀ b, New h12 h13 b → ¬ (b = p ∨ b = h14.size ∨ Fr b) := fun b hb h => by
          have h1 := hb.1; have h2 := hb.2
          rcases h with h | h | h
          · omega
          · omega
          · have := ((hown b).1 h).2.1; omega
        exact ⟨hr, (ib.keep k1316 hs).mono fun b h => .inr h, (ia.keep k1316 hs).mono fun b h => .inr h, hl1, hl2⟩
  · rintro b (h | ⟨h | h, _⟩ | ⟨h | h, _⟩ | h | h)
    · exact .inl (.inl h)
    · exact .inl (.inr (.inl h))
    · exact .inr (by omega)
    · exact .inl (.inr (.inr (.inl h)))
    · exact .inr (by omega)
    · exact .inl (.inr (.inr (.inr h)))
    · exact .inr (by have := h.1; omega)
end

end Go.Proofs.YtmhfanpijdgkjaaDoor
