/- JOINED: V108 V109 V110 -/
import Derived.Test.YtconalffokhplaaDoorGZ
set_option linter.unusedSimpArgs false
set_option linter.unusedVariables false
/- Two histories of one top: the inputs that were summed. -/
namespace Go.Proofs.YtconalffokhplaaDoor
open Go.X Go.X.Diff
set_option maxRecDepth 100000

/- PLAIN -/
theorem eqRec_iff {a b : RecA} : eqRec a b = true ↔ a = b := by
  obtain ⟨k, x, y, s, r⟩ := a
  obtain ⟨k', x', y', s', r'⟩ := b
  simp [eqRec, and_assoc]
theorem chL_len {rs : List RecA} : (chL rs).length = rs.length := by
  suffices h : ∀ (l : List RecA) (ch : List (List UInt8)), (l.foldl (fun ch a => ch ++ [chainF ch a]) ch).length = ch.length + l.length by
    have := h rs []
    simpa [chL] using this
  intro l
  induction l with
  | nil => intro ch; simp
  | cons a l ih => intro ch; rw [List.foldl_cons, ih]; simp; omega
theorem take_snoc {α : Type} {l : List α} {i : Nat} {a : α} (h : l[i]? = some a) : l.take (i + 1) = l.take i ++ [a] := by rw [List.take_add_one, h]; rfl
theorem chL_take {rs : List RecA} : ∀ {i : Nat}, i ≤ rs.length → (chL rs).take i = chL (rs.take i) := by
  suffices h : ∀ (l : List RecA) (ch : List (List UInt8)) (i : Nat), i ≤ l.length → (l.foldl (fun ch a => ch ++ [chainF ch a]) ch).take (ch.length + i) = (l.take i).foldl (fun ch a => ch ++ [chainF ch a]) ch by
    intro i hi
    have := h rs [] i hi
    simpa [chL] using this
  intro l
  induction l with
  | nil => intro ch i hi; simp at hi; subst hi; simp
  | cons a l ih =>
    intro ch i hi
    cases i with
    | zero =>
      rw [Nat.add_zero]
      have : ∀ (l : List RecA) (c : List (List UInt8)), (l.foldl (fun ch a => ch ++ [chainF ch a]) (ch ++ c)).take ch.length = ch := by
        intro l
        induction l with
        | nil => intro c; simp
        | cons b l ih2 =>
          intro c
          rw [List.foldl_cons, List.append_assoc]
          exact ih2 _
      have h0 := this (a :: l) []
      rw [List.append_nil] at h0
      rw [h0]; rfl
    | succ i =>
      rw [List.foldl_cons, List.take_succ_cons, List.foldl_cons]
      have := ih (ch ++ [chainF ch a]) i (by simpa using hi)
      rw [← this]
      congr 1
      simp; omega
/-- the chain ahead of a record -/
def aheadF (ch : List (List UInt8)) (i : Nat) : List UInt8 := if i = 0 then zeroH else ch.getD (i - 1) zeroH
def inpF (ch : List (List UInt8)) (i : Nat) (a : RecA) : List UInt8 := 7 :: (aheadF ch i ++ recB a)
theorem ahead_top {rs : List RecA} {i : Nat} (hi : i ≤ rs.length) : aheadF (chL rs) i = topF (chL (rs.take i)) := by
  rw [← chL_take hi]
  unfold aheadF topF
  by_cases h0 : i = 0
  · subst h0; simp
  · rw [if_neg h0, List.getLast?_eq_getElem?, List.length_take, chL_len, Nat.min_eq_left hi, List.getElem?_take, if_pos (by omega), List.getD_eq_getElem?_getD]
theorem chL_at {rs : List RecA} {i : Nat} {a : RecA} (h : rs[i]? = some a) : aheadF (chL rs) (i + 1) = shaF (inpF (chL rs) i a) := by
  have hi := (List.getElem?_eq_some_iff.1 h).1
  rw [ahead_top hi, take_snoc h, chL_snoc]
  have : topF (chL (rs.take i) ++ [chainF (chL (rs.take i)) a]) = chainF (chL (rs.take i)) a := by unfold topF; simp
  rw [this]
  unfold inpF
  rw [ahead_top (by omega)]
  rfl
theorem ahead_len {ch : List (List UInt8)} (h : ∀ c ∈ ch, c.length = 32) {i : Nat} : (aheadF ch i).length = 32 := by
  unfold aheadF
  split
  · rfl
  · rw [List.getD_eq_getElem?_getD]
    cases hg : ch[i - 1]? with
    | none => rfl
    | some c => exact h c (List.mem_of_getElem? hg)
theorem chL_32 {rs : List RecA} : ∀ c ∈ chL rs, c.length = 32 := by
  suffices h : ∀ (l : List RecA) (ch : List (List UInt8)), (∀ c ∈ ch, c.length = 32) → ∀ c ∈ l.foldl (fun ch a => ch ++ [chainF ch a]) ch, c.length = 32 from fun c hc => h rs [] (fun c hc => by cases hc) c hc
  intro l
  induction l with
  | nil => intro ch h; exact h
  | cons a l ih =>
    intro ch h
    rw [List.foldl_cons]
    refine ih _ fun c hc => ?_
    rcases List.mem_append.1 hc with hc | hc
    · exact h c hc
    · simp at hc; subst hc; exact shaF_len
theorem top_ahead {rs : List RecA} : topF (chL rs) = aheadF (chL rs) rs.length := by rw [ahead_top (Nat.le_refl _), List.take_length]

/-- do two records' inputs collide? -/
def Coll (rs rs2 : List RecA) (i : Nat) : Prop := ∃ a b, rs[i]? = some a ∧ rs2[i]? = some b ∧ inpF (chL rs) i a ≠ inpF (chL rs2) i b ∧ shaF (inpF (chL rs) i a) = shaF (inpF (chL rs2) i b)
theorem recsOk_of {rs : List RecA} (h : Grown rs) : ∀ a ∈ rs, recOk a = true ∧ RecWf a := fun a ha => by
  obtain ⟨i, hi⟩ := List.getElem?_of_mem ha
  obtain ⟨h1, h2⟩ := h.2 i a hi
  exact ⟨appOk_rec h1, h2⟩
theorem Grown.snoc {rs : List RecA} {a : RecA} (h : Grown rs) (hl : rs.length < 4096) (ha : appOk rs a = true) (w : RecWf a) : Grown (rs ++ [a]) := by
  refine ⟨by simp; omega, fun i b hb => ?_⟩
  by_cases hi : i < rs.length
  · rw [List.getElem?_append_left hi] at hb
    rw [List.take_append_of_le_length (by omega)]
    exact h.2 i b hb
  · rw [List.getElem?_append_right (by omega)] at hb
    have hlt := (List.getElem?_eq_some_iff.1 hb).1
    simp at hlt
    obtain rfl : i = rs.length := by omega
    simp at hb
    subst hb
    rw [List.take_left']
    · exact ⟨ha, w⟩
    · rfl
theorem no_coll {rs rs2 : List RecA} (g : Grown rs) (g2 : Grown rs2) (hl : rs.length = rs2.length) (ht : topF (chL rs) = topF (chL rs2)) (hno : ∀ i, ¬ Coll rs rs2 i) : rs = rs2 := by
  have key : ∀ k, k ≤ rs.length → aheadF (chL rs) (rs.length - k) = aheadF (chL rs2) (rs.length - k) ∧ ∀ i, rs.length - k ≤ i → rs[i]? = rs2[i]? := by
    intro k
    induction k with
    | zero =>
      intro _
      refine ⟨?_, fun i hi => ?_⟩
      · rw [Nat.sub_zero, ← top_ahead, hl, ← top_ahead]; exact ht
      · rw [List.getElem?_eq_none (by omega), List.getElem?_eq_none (by omega)]
    | succ k ih =>
      intro hk
      obtain ⟨h1, h2⟩ := ih (by omega)
      have e : rs.length - k = (rs.length - (k + 1)) + 1 := by omega
      generalize rs.length - (k + 1) = i at *
      have hlt : i < rs.length := by omega
      have ha : rs[i]? = some rs[i] := List.getElem?_eq_getElem hlt
      have hb : rs2[i]? = some (rs2[i]'(by omega)) := List.getElem?_eq_getElem _
      generalize rs[i] = a at ha
      generalize (rs2[i]'(by omega)) = b at hb
      rw [e, chL_at ha, chL_at hb] at h1
      have hin : inpF (chL rs) i a = inpF (chL rs2) i b := Classical.byContradiction fun hne => hno i ⟨a, b, ha, hb, hne, h1⟩
      unfold inpF at hin
      have hin := (List.cons_inj_right _).1 hin
      obtain ⟨p1, p2⟩ := List.append_inj hin (by rw [ahead_len chL_32, ahead_len chL_32])
      obtain ⟨o1, w1⟩ := recsOk_of g a (List.mem_of_getElem? ha)
      obtain ⟨o2, w2⟩ := recsOk_of g2 b (List.mem_of_getElem? hb)
      have hab := recB_inj o1 o2 ⟨w1.bef, w1.aft, w1.r⟩ ⟨w2.bef, w2.aft, w2.r⟩ p2
      refine ⟨p1, fun j hj => ?_⟩
      by_cases hji : j = i
      · subst hji; rw [ha, hb, hab]
      · exact h2 j (by omega)
  obtain ⟨_, h⟩ := key rs.length (Nat.le_refl _)
  exact List.ext_getElem? fun i => h i (by omega)
theorem coll_ne {rs rs2 : List RecA} {i : Nat} (h : Coll rs rs2 i) : rs ≠ rs2 := by
  rintro rfl
  obtain ⟨a, b, h1, h2, h3, _⟩ := h
  rw [h1] at h2
  cases h2
  exact h3 rfl

/- SUMS -/
theorem c_ShaSum {P : Nat → Prop} {H : Heap} {v : Value} {m : List UInt8} (hx : Sl P H v m) (hT : ShaT H) (hP : ∀ b, P b → b < H.size) (hl : m.length ≤ 35184372088832) :
    HCalls prg f_sha_Sum [v] H fun u H' => u = bv (shaF m) ∧ Keep (fun _ => False) H H' := by
  apply sh_sha_Sum_calls
  unfold sh_sha_Sum
  simp only [z_Hash, Mnew_some]
  generalize hH1 : H.push (.cells (bcells zeroH).toArray T_sha_Hash (0, 0)) = H1
  have k1 : Keep (fun _ => False) H H1 := by rw [← hH1]; exact Keep.push
  have hs1 : H1.size = H.size + 1 := by rw [← hH1]; simp
  have hr1 : H1[H.size]? = some (.cells (bcells zeroH).toArray T_sha_Hash (0, 0)) := by rw [← hH1]; exact push_new
  refine call_i (c_ShaNew (hT.keep k1 fun _ h => h.elim)) ?_
  rintro _ H2 ⟨rfl, hD, k2⟩
  have k12 := k1.trans k2
  have hT2 := hT.keep k12 fun _ h => h.elim
  have hr2 := k2.at hr1 id
  have hsz := hT.sz
  generalize hde : H1.size = d at *
  have hdlt := hD.lt
  refine call_i (c_Write hD hT2 (hx.keep k12 fun _ _ => id) (fun b hb => by have := hP b hb; exact ⟨by omega, by omega, by omega⟩) (by simp; omega) fun b hb => by omega) ?_
  rintro _ H4 ⟨rfl, hD4, k4⟩
  rw [List.nil_append] at hD4
  have k4' : Keep (d ≤ ·) H2 H4 := k4.mono fun b _ h => by rcases h with h | h <;> omega
  have k04 : Keep (fun _ => False) H H4 := k12.fresh k4' fun b hb => by omega
  refine call_i (c_DigSum hD4 (hT.keep k04 fun _ h => h.elim) hl) ?_
  rintro _ h2 ⟨rfl, k5⟩
  have hr5 := k5.at (k4'.at hr2 (by omega)) id
  rw [stN_bytes hr5 (n := 32) rfl shaF_len, Mwr_some, ldN_bytes (set_self hr5) shaF_len, Mpu_some]
  have k05 := k04.trans k5
  refine ⟨rfl, k05.fresh (Keep.set (S := (· = H.size)) rfl) fun b hb => by omega⟩

/- SLICES JOINED -/
theorem zrow_u8 {n : Nat} : zrow #[.int .u8 0] n = (bcells (List.replicate n 0)).toArray := by
  apply Array.ext'
  simp only [zrow, bcells, List.map_replicate]
  apply List.ext_getElem?
  intro i
  by_cases hi : i < n
  · simp [hi, Nat.mod_one]
  · simp [List.getElem?_eq_none, hi]
theorem c_GrowNil {H : Heap} {n : Nat} (hn : n ≤ 1099511627776) : HCalls prg f_slices_Grow_S_byte_byte [.slice none 0 0, .int .i64 (n : Nat)] H fun u H' => Buf (H.size ≤ ·) H' u [] ∧ Keep (fun _ => False) H H' := by
  apply sh_slices_Grow_S_byte_byte_calls
  unfold sh_slices_Grow_S_byte_byte
  have e1 : binV .no .lss (.int .i64 (n : Nat)) (.int .i64 0) = some (.bool false) := by
    rw [binV_int]; simp only [intV]; rw [decide_eq_false (by omega)]
  have e2 : binV .no .sub (.int .i64 0) (.int .i64 0) = some (.int .i64 0) := by rw [binV_int]; rfl
  have e3 : binV .no .sub (.int .i64 (n : Nat)) (.int .i64 0) = some (.int .i64 (n : Nat)) := by
    rw [binV_int]; simp only [intV, Int.sub_zero]; rw [wrap_id] <;> omega
  have e4 : binV .no .gtr (.int .i64 (n : Nat)) (.int .i64 0) = some (.bool (decide (0 < n))) := by
    rw [binV_int]; simp only [intV]; congr 2; rw [decide_eq_decide]; omega
  have c0 : capV (.slice none 0 0) = some (.int .i64 0) := rfl
  have l0 : lenV (.slice none 0 0) = some (.int .i64 0) := rfl
  have s0 : slS 1 (.slice none 0 0) none (some (.int .i64 0)) none = some (.slice none 0 0) := rfl
  refine J0_eq.2 ?_
  rw [e1, Mpu_some, Mcd_bool, if_neg (by decide)]
  refine J1_i (fun u h => Buf (H.size ≤ ·) h u [] ∧ Keep (fun _ => False) H h) (fun k hk => ?_) fun u h hh => hh
  simp only [c0, l0, e2, e3, e4, Mpu_some, Mcd_bool]
  by_cases h0 : 0 < n
  · rw [if_pos (by simpa using h0), s0, Mpu_some]
    refine ⟨none, 0, 0, .i64, n, _, rfl, rfl, by omega, by omega, z_u8, ?_, fun h => by omega, fun _ => ⟨by omega, Nat.one_pos, #[], rfl, fun cap rest h1 h2 h3 => ?_⟩⟩
    · rw [Nat.mul_one, zrow_u8]; exact bcells_all
    · rw [Nat.mul_one, zrow_u8]
      rw [Nat.zero_add] at h1 h3 ⊢
      have hb : Buf (H.size ≤ ·) (H.push (.cells (#[] ++ (bcells (List.replicate n 0)).toArray ++ rest) T_uint8 (0, 0))) (.slice (some ⟨H.size, 0, none⟩) n cap) (List.replicate n 0) :=
        .inr ⟨H.size, 0, cap, _, T_uint8, (0, 0), by rw [List.length_replicate], Nat.le_refl _, by simpa using h1, push_new, by simp [h3]; omega, fun _ _ _ _ => thaw_00, by simp [bcells]⟩
      obtain ⟨u, hu, hbu⟩ := hb.cut0
      rw [hu, Mpu_some]
      exact hk _ _ ⟨hbu, Keep.push⟩
  · rw [if_neg (by simpa using h0)]
    exact hk _ _ ⟨.inl ⟨rfl, rfl⟩, Keep.refl⟩

theorem flat_snoc {ls : List (List UInt8)} {i : Nat} {l : List UInt8} (h : ls[i]? = some l) : (ls.take (i + 1)).flatten = (ls.take i).flatten ++ l := by
  rw [take_snoc h, List.flatten_append]
  show _ ++ ([l] : List (List UInt8)).flatten = _
  rw [List.flatten_cons, List.flatten_nil, List.append_nil]
theorem c_Concat {P : Nat → Prop} {H : Heap} {q n : Nat} {vs : List Value} {ls : List (List UInt8)} (a : At H q vs) (hn : vs.length = n) (hlen : ls.length = n) (hv : ∀ (i : Nat) (v : Value) (l : List UInt8), vs[i]? = some v → ls[i]? = some l → Sl P H v l) (ht : ls.flatten.length ≤ 1099511627776) (hm : n ≤ 1000) :
    HCalls prg f_slices_Concat_S_byte_byte [.slice (some ⟨q, 0, none⟩) n n] H fun u H' => Buf (fun b => H.size ≤ b ∧ b < H'.size) H' u ls.flatten ∧ Keep (fun _ => False) H H' := by
  apply sh_slices_Concat_S_byte_byte_calls
  unfold sh_slices_Concat_S_byte_byte
  have hlv : lenV (.slice (some ⟨q, 0, none⟩) n n) = some (.int .i64 (n : Nat)) := rfl
  have elt : ∀ i : Nat, binV .no .lss (.int .i64 (i : Nat)) (.int .i64 (n : Nat)) = some (.bool (decide (i < n))) := fun i => by
    rw [binV_int]; simp only [intV]; congr 2; rw [decide_eq_decide]; omega
  refine J2_i (fun t _ h => t = .int .i64 (ls.flatten.length : Nat) ∧ H = h) (fun k hk => ?_) ?_
  · rw [hlv, Mpu_some]
    refine L2_i (fun t3 t4 h => ∃ i : Nat, i ≤ n ∧ t4 = .int .i64 (i : Nat) ∧ t3 = .int .i64 ((ls.take i).flatten.length : Nat) ∧ H = h)
      (fun _ u _ => match u with | .int _ t => n - t.toNat | _ => 0) ⟨0, Nat.zero_le _, rfl, rfl, rfl⟩ ?_
    rintro _ _ h ⟨i, hi, rfl, rfl, rfl⟩ k' hk'
    rw [elt, Mpu_some, Mcd_bool]
    by_cases hlt : i < n
    · rw [if_pos (by simpa using hlt)]
      have g1 : vs[i]? = some vs[i] := List.getElem?_eq_getElem (by omega)
      have g2 : ls[i]? = some ls[i] := List.getElem?_eq_getElem (by omega)
      have hsl := hv i _ _ g1 g2
      generalize vs[i] = v at g1 hsl
      generalize ls[i] = l at g2 hsl
      have hix := ixS_at (b := q) (o := 0) (n := n) (c := n) (k := .i64) (i := i) hlt
      rw [Nat.zero_add] at hix
      have hle := flat_take_le (ls := ls) (i := i + 1)
      rw [flat_snoc g2, List.length_append] at hle
      have ea : binV .no .add (.int .i64 ((ls.take i).flatten.length : Nat)) (.int .i64 (l.length : Nat)) = some (.int .i64 (((ls.take (i + 1)).flatten.length : Nat) : Int)) := by
        rw [binV_int, flat_snoc g2, List.length_append]; simp only [intV]
        have : IntKind.i64.wrap (((ls.take i).flatten.length : Int) + (l.length : Int)) = (((ls.take i).flatten.length + l.length : Nat) : Int) := by rw [wrap_id] <;> omega
        rw [this]
      have e0 : binV .no .lss (.int .i64 (((ls.take (i + 1)).flatten.length : Nat) : Int)) (.int .i64 0) = some (.bool false) := by
        rw [binV_int]; simp only [intV]; rw [decide_eq_false (by omega)]
      refine J1_eq.2 ?_
      rw [hix, Mpu_some, a.ld g1, Mpu_some, hsl.len, Mpu_some, ea, Mpu_some, e0, Mpu_some, Mcd_bool, if_neg (by decide)]
      show Mpu _ _
      rw [add_one' (by omega), Mpu_some]
      exact hk' _ _ _ ⟨i + 1, hlt, rfl, rfl, rfl⟩ (by show n - (i + 1) < n - i; omega)
    · rw [if_neg (by simpa using hlt), List.take_of_length_le (by omega)]
      exact hk _ _ _ ⟨rfl, rfl⟩
  rintro _ _ _ ⟨rfl, rfl⟩
  refine call_i (c_GrowNil ht) ?_
  rintro t24 h7 ⟨b0, k7⟩
  refine J2_i (fun t _ h => Buf (H.size ≤ ·) h t ls.flatten ∧ Keep (fun _ => False) H h) (fun k hk => ?_) ?_
  · rw [hlv, Mpu_some]
    refine L2_i (fun t3 t4 h => ∃ i : Nat, i ≤ n ∧ t4 = .int .i64 (i : Nat) ∧ Buf (H.size ≤ ·) h t3 (ls.take i).flatten ∧ Keep (fun _ => False) H h)
      (fun _ u _ => match u with | .int _ t => n - t.toNat | _ => 0) ⟨0, Nat.zero_le _, rfl, b0, k7⟩ ?_
    rintro t3 _ h ⟨i, hi, rfl, hb, kh⟩ k' hk'
    rw [elt, Mpu_some, Mcd_bool]
    by_cases hlt : i < n
    · rw [if_pos (by simpa using hlt)]
      have g1 : vs[i]? = some vs[i] := List.getElem?_eq_getElem (by omega)
      have g2 : ls[i]? = some ls[i] := List.getElem?_eq_getElem (by omega)
      have hsl := hv i _ _ g1 g2
      generalize vs[i] = v at g1 hsl
      generalize ls[i] = l at g2 hsl
      have hix := ixS_at (b := q) (o := 0) (n := n) (c := n) (k := .i64) (i := i) hlt
      rw [Nat.zero_add] at hix
      rw [hix, Mpu_some, (a.keep kh id).ld g1, Mpu_some]
      have hle := flat_take_le (ls := ls) (i := i + 1)
      rw [flat_snoc g2, List.length_append] at hle
      refine Buf.app hb (hsl.keep kh fun _ _ => id).bs (by omega) kh.1 fun u h5 hb5 k5 => ?_
      rw [add_one' (by omega), Mpu_some]
      exact hk' _ _ _ ⟨i + 1, hlt, rfl, by rw [flat_snoc g2]; exact hb5, kh.fresh k5 fun b hb => hb⟩ (by show n - (i + 1) < n - i; omega)
    · rw [if_neg (by simpa using hlt)]
      rw [List.take_of_length_le (by omega)] at hb
      exact hk _ _ _ ⟨hb, kh⟩
  · rintro t _ h ⟨hb, kh⟩
    exact ⟨hb.bound, kh⟩

theorem c_tagInput {P : Nat → Prop} {H : Heap} {q n k : Nat} {vs : List Value} {ls : List (List UInt8)} (hk : k < 256) (a : At H q vs) (hn : vs.length = n) (hlen : ls.length = n) (hv : ∀ (i : Nat) (v : Value) (l : List UInt8), vs[i]? = some v → ls[i]? = some l → Sl P H v l) (ht : ls.flatten.length ≤ 1099511627776) (hm : n ≤ 1000) :
    HCalls prg f_tag_Input [.int .i64 (k : Nat), .slice (some ⟨q, 0, none⟩) n n] H fun u H' => Buf (fun b => H.size ≤ b ∧ b < H'.size) H' u (UInt8.ofNat k :: ls.flatten) ∧ Keep (fun _ => False) H H' := by
  apply sh_tag_Input_calls
  unfold sh_tag_Input
  have hw : IntKind.u8.wrap (k : Int) = (k : Int) := by
    simp only [IntKind.wrap, IntKind.signed, IntKind.bits]
    simp; omega
  have hk8 : ((UInt8.ofNat k).toNat : Int) = k := by
    have : (UInt8.ofNat k).toNat = k := by simp; omega
    rw [this]
  rw [cvI_int, hw, Mpu_some, bsl1, Mnews_some]
  generalize hH1 : H.push (.cells #[.int .u8 (k : Nat)] T_uint8 (0, 0)) = h1
  have k1 : Keep (fun _ => False) H h1 := by rw [← hH1]; exact Keep.push
  have n1 : h1[H.size]? = some (.cells #[.int .u8 (k : Nat)] T_uint8 (0, 0)) := by rw [← hH1]; exact push_new
  refine call_i (c_Concat (a.keep k1 id) hn hlen (fun i v l h1 h2 => (hv i v l h1 h2).keep k1 fun _ _ => id) ht hm) ?_
  rintro t9 h2 ⟨b9, k2⟩
  have b1 : Buf (H.size ≤ ·) h2 (.slice (some ⟨H.size, 0, none⟩) 1 1) [UInt8.ofNat k] :=
    .inr ⟨H.size, 0, 1, _, T_uint8, (0, 0), rfl, Nat.le_refl _, Nat.le_refl _, k2.at n1 id, by simp, fun _ _ _ _ => thaw_00, by simp [bcells]; omega⟩
  refine Buf.app b1 b9.sl.bs (by simp at ht ⊢; omega) ((k1.trans k2).1) fun u h3 b3 k3 => ?_
  exact ⟨b3.bound, (k1.trans k2).fresh k3 fun b hb => hb⟩
end Go.Proofs.YtconalffokhplaaDoor
/- history.Collide. -/
namespace Go.Proofs.YtconalffokhplaaDoor
open Go.X Go.X.Diff
set_option maxRecDepth 100000

section
variable {p : Nat} {Fr Fc Fi : Nat → Prop} {H : Heap} {rs : List RecA} {ch : List (List UInt8)}
theorem c_ahead (h : HistAt p Fr Fc Fi H rs ch) {i : Nat} (hi : i < rs.length) : HCalls prg f_history_History_ahead [Ptr p 0, .int .i64 (i : Nat)] H fun u H' => u = bv (aheadF ch i) ∧ Keep (fun _ => False) H H' := by
  apply sh_history_History_ahead_calls
  unfold sh_history_History_ahead
  have hfew := h.few
  have hlen := h.len
  rw [z_Hash, Mnew_some]
  generalize hH1 : H.push (.cells (bcells zeroH).toArray T_sha_Hash (0, 0)) = h1
  have k1 : Keep (fun _ => False) H h1 := by rw [← hH1]; exact Keep.push
  have a1 : At h1 H.size (bcells zeroH) := by rw [← hH1]; exact At.push
  obtain ⟨vr, vc, xs, hp, hr, hc, hxl, hx⟩ := (h.keep k1 fun _ _ => id).blk
  have e0 : binV .no .eql (.int .i64 (i : Nat)) (.int .i64 0) = some (.bool (decide (i = 0))) := by
    rw [binV_int]; simp only [intV]; congr 2
    rw [Bool.eq_iff_iff]; simp
  have fin : ∀ m : List UInt8, m.length = 32 → m = aheadF ch i → Mwr (stN 32 h1 (.pointer (some ⟨H.size, 0, none⟩)) (bv m)) fun h2 => Mpu (ldN 32 h2 (.pointer (some ⟨H.size, 0, none⟩))) fun r3 => r3 = bv (aheadF ch i) ∧ Keep (fun _ => False) H h2 := fun m hm e => by
    obtain ⟨h2, st, a2, k2⟩ := a1.st (n := 32) (ds := bcells m) (by simp [zeroH]) (by simp [hm]) bcells_one
    have hbv : (bv m) = .agg (bcells m).toArray := rfl
    rw [show (Value.pointer (some ⟨H.size, 0, none⟩)) = Ptr H.size 0 from rfl, hbv, st, Mwr_some, a2.ldN (by simp [hm]), Mpu_some]
    exact ⟨by rw [← e]; rfl, k1.fresh k2 fun b hb => by omega⟩
  rw [e0, Mpu_some, Mcd_bool]
  by_cases h0 : i = 0
  · rw [if_pos (by simpa using h0), bld_Hash00, Mpu_some]
    exact fin zeroH rfl (by simp [aheadF, h0])
  · rw [if_neg (by simpa using h0)]
    have d1 : ld1 h1 (Ptr p 1) = some vc := by rw [ld1_at hp]; rfl
    have es : binV .no .sub (.int .i64 (i : Nat)) (.int .i64 1) = some (.int .i64 ((i - 1 : Nat) : Int)) := by
      have : IntKind.i64.wrap ((i : Int) - 1) = ((i - 1 : Nat) : Int) := by rw [wrap_id] <;> omega
      rw [binV_int]; simp only [intV, this]
    have hg : ch[i - 1]? = some (ch[i - 1]'(by omega)) := List.getElem?_eq_getElem _
    generalize (ch[i - 1]'(by omega)) = c at hg
    have hc32 := h.c32 c (List.mem_of_getElem? hg)
    obtain ⟨b, o, hix, hpt, _⟩ := hc.sl.at (i := i - 1) (x := bcells c) (by rw [List.getElem?_map, hg]; rfl)
    simp only [nck_ptr, fld_ptr, Nat.zero_add, d1, es, hix, hpt.agg (n := 32) (by simp [hc32]), Mpu_some]
    exact fin c hc32 (by unfold aheadF; rw [if_neg h0, List.getD_eq_getElem?_getD, hg]; rfl)

theorem c_input (h : HistAt p Fr Fc Fi H rs ch) {i : Nat} {a : RecA} (hg : rs[i]? = some a) (hok : recOk a = true) (hwf : RecWf a) (hT : PowT H) :
    HCalls prg f_history_History_input [Ptr p 0, .int .i64 (i : Nat)] H fun u H' => Buf (fun b => H.size ≤ b ∧ b < H'.size) H' u (inpF ch i a) ∧ Keep (fun _ => False) H H' := by
  apply sh_history_History_input_calls
  unfold sh_history_History_input
  have hi := (List.getElem?_eq_some_iff.1 hg).1
  have hlt := h.lt
  refine call_i (c_ahead h hi) ?_
  rintro _ h1 ⟨rfl, k1⟩
  have hal := ahead_len (i := i) h.c32
  rw [z_Hash, Mnew_some]
  generalize hH2 : h1.push (.cells (bcells zeroH).toArray T_sha_Hash (0, 0)) = h2
  have k2 : Keep (fun _ => False) h1 h2 := by rw [← hH2]; exact Keep.push
  have a2 : At h2 h1.size (bcells zeroH) := by rw [← hH2]; exact At.push
  obtain ⟨h3, st3, a3, k3'⟩ := a2.st (n := 32) (ds := bcells (aheadF ch i)) (by simp [zeroH]) (by simp [hal]) bcells_one
  have k3 : Keep (fun _ => False) h1 h3 := k2.fresh k3' fun b hb => by omega
  have hbv : (bv (aheadF ch i)) = .agg (bcells (aheadF ch i)).toArray := rfl
  rw [show (Value.pointer (some ⟨h1.size, 0, none⟩)) = Ptr h1.size 0 from rfl, hbv, st3, Mwr_some]
  have k03 := k1.trans k3
  have hat3 := h.keep k03 fun _ _ => id
  obtain ⟨vr, vc, xs, hp, hr, hc, hxl, hx⟩ := hat3.blk
  have d0 : ld1 h3 (Ptr p 0) = some vr := by rw [ld1_at hp]; rfl
  have hgx : xs[i]? = some (xs[i]'(by omega)) := List.getElem?_eq_getElem _
  generalize (xs[i]'(by omega)) = x at hgx
  have hraw := hx i a x hg hgx
  obtain ⟨b, o, hix, hpt, hb⟩ := hr.sl.at (i := i) (x := rawC a x) (by rw [List.getElem?_zipWith, hg, hgx])
  have hlt3 := hat3.lt
  obtain ⟨bl, _, _⟩ := recB_len4 hok hwf
  have e32 : slA 32 1 (Ptr h1.size 0) none none none = some (.slice (some ⟨h1.size, 0, none⟩) 32 32) := by simp [slA, bnds, bnd]
  simp only [e32, nck_ptr, fld_ptr, Nat.zero_add, d0, hix, hpt.agg (rawC_len (x := x) hraw.1), Mpu_some]
  refine call_i (c_RecBytes (a := a) hraw.2.1 hraw.2.2.1 (fun b hb => (hlt3 b (.inr (.inr (.inr hb)))).2) hraw.1 (hT.keep k03 fun _ h => h.elim) (by omega) (by have := hraw.2.2.2.1; omega) (by have := hraw.2.2.2.2; omega)) ?_
  rintro t17 h4 ⟨b17, k4⟩
  obtain ⟨a17, c17, e17, _⟩ := b17.sl.sl
  rw [e17, bsl2S, Mnews_some, ← e17]
  generalize hH5 : h4.push (.cells #[.slice (some ⟨h1.size, 0, none⟩) 32 32, t17] T_S_uint8 (0, 0)) = h5
  have k5 : Keep (fun _ => False) h4 h5 := by rw [← hH5]; exact Keep.push
  have n5 : At h5 h4.size [.slice (some ⟨h1.size, 0, none⟩) 32 32, t17] := by rw [← hH5]; exact At.push
  have a5 := (a3.keep k4 id).keep k5 id
  have sa := sl_arr a5
  rw [hal] at sa
  refine call_i (c_tagInput (P := fun _ => True) (k := 7) (n := 2) (ls := [aheadF ch i, recB a]) (by omega) n5 rfl rfl (fun j v l hv hl => ?_) (by simp [hal]; omega) (by omega)) ?_
  · match j, hv, hl with
    | 0, hv, hl => cases hv; cases hl; exact sa.mono fun _ _ => trivial
    | 1, hv, hl => cases hv; cases hl; exact (b17.sl.keep k5 fun _ _ => id).mono fun _ _ => trivial
    | j + 2, hv, hl => simp at hv
  rintro t19 h6 ⟨b19, k6⟩
  have kk := k03.trans (k4.trans k5)
  have q := kk.1
  have e7 : (UInt8.ofNat 7 :: [aheadF ch i, recB a].flatten) = inpF ch i a := by simp [inpF]
  rw [e7] at b19
  exact ⟨b19.mono fun b hb => ⟨by omega, hb.2⟩, kk.trans k6⟩
end

theorem c_bytesEqual {P Q : Nat → Prop} {H : Heap} {v w : Value} {l m : List UInt8} (hv : Sl P H v l) (hw : Sl Q H w m) : HCalls prg f_bytes_Equal [v, w] H fun u H' => u = .bool (decide (l = m)) ∧ H = H' := by
  apply sh_bytes_Equal_calls
  unfold sh_bytes_Equal
  rw [hv.b2s, hw.b2s, Mpu_some, Mpu_some]
  have : binV .no .eql (.string ⟨l.toArray⟩) (.string ⟨m.toArray⟩) = some (.bool (decide (l = m))) := strV_eq
  rw [this, Mpu_some]
  exact ⟨rfl, rfl⟩

theorem c_CollRight {P Q : Nat → Prop} {H : Heap} {v w : Value} {l m : List UInt8} (hv : Sl P H v l) (hw : Sl Q H w m) (hT : ShaT H) (hP : ∀ b, P b → b < H.size) (hQ : ∀ b, Q b → b < H.size) (hl : l.length ≤ 35184372088832) (hm : m.length ≤ 35184372088832) :
    HCalls prg f_collide_Collision_Right [.agg #[v, w]] H fun u H' => u = .bool (!decide (l = m) && decide (shaF l = shaF m)) ∧ Keep (fun _ => False) H H' := by
  apply sh_collide_Collision_Right_calls
  unfold sh_collide_Collision_Right
  rw [Cells_agg, Mnew_some]
  generalize hH1 : H.push (.cells #[v, w] T_collide_Collision (0, 0)) = h1
  have k1 : Keep (fun _ => False) H h1 := by rw [← hH1]; exact Keep.push
  have a1 : At h1 H.size [v, w] := by rw [← hH1]; exact At.push
  have f0 : fld 0 (Value.pointer (some ⟨H.size, 0, none⟩)) = some (Ptr H.size 0) := rfl
  have f1 : fld 1 (Value.pointer (some ⟨H.size, 0, none⟩)) = some (Ptr H.size 1) := rfl
  have L0 : ∀ {g}, Keep (fun _ => False) h1 g → ld1 g (Ptr H.size 0) = some v := fun k => (a1.keep k id).ld rfl
  have L1 : ∀ {g}, Keep (fun _ => False) h1 g → ld1 g (Ptr H.size 1) = some w := fun k => (a1.keep k id).ld rfl
  simp only [f0, f1, L0 Keep.refl, L1 Keep.refl, Mpu_some]
  refine call_i (c_bytesEqual (hv.keep k1 fun _ _ => id) (hw.keep k1 fun _ _ => id)) ?_
  rintro _ _ ⟨rfl, rfl⟩
  simp only [unV_not, Mpu_some]
  refine J1_i (fun u h => Keep (fun _ => False) h1 h ∧ (decide (l = m) = false → u = .bool (decide (shaF l = shaF m)))) (fun k hk => ?_) ?_
  · cases he : decide (l = m)
    · simp only [L0 Keep.refl, L1 Keep.refl, unV_not, Bool.not_true, Bool.not_false, Mif_bool, Mif_undef, pickV_bool, Mcd_bool, Mpu_some, if_true, if_false, Bool.false_eq_true, Bool.true_eq_false, decide_true, decide_false, reduceCtorEq, ex20, ex21, ex30, ex31, ex32, Mre_ok, Mre_nil]
      refine call_i (c_ShaSum (hv.keep k1 fun _ _ => id) (hT.keep k1 fun _ h => h.elim) (fun b hb => Nat.lt_of_lt_of_le (hP b hb) k1.1) hl) ?_
      rintro _ h4 ⟨rfl, k4⟩
      have k14 := k1.trans k4
      simp only [L1 k4, Mre_cons, Mre_nil, true_and]
      refine call_i (c_ShaSum (hw.keep k14 fun _ _ => id) (hT.keep k14 fun _ h => h.elim) (fun b hb => Nat.lt_of_lt_of_le (hQ b hb) k14.1) hm) ?_
      rintro _ h5 ⟨rfl, k5⟩
      rw [eq_Hash shaF_len shaF_len, Mpu_some]
      exact hk _ _ ⟨k4.trans k5, fun _ => rfl⟩
    · simp only [unV_not, Bool.not_true, Bool.not_false, Mif_bool, Mif_undef, pickV_bool, Mcd_bool, Mpu_some, if_true, if_false, Bool.false_eq_true, Bool.true_eq_false, decide_true, decide_false, reduceCtorEq, ex20, ex21, ex30, ex31, ex32, Mre_ok, Mre_nil]
      exact hk _ _ ⟨Keep.refl, fun h => by rw [he] at h; cases h⟩
  · rintro u h6 ⟨k6, hu⟩
    cases he : decide (l = m)
    · rw [hu he]
      simp only [unV_not, Bool.not_true, Bool.not_false, Mif_bool, Mif_undef, pickV_bool, Mcd_bool, Mpu_some, if_true, if_false, Bool.false_eq_true, Bool.true_eq_false, decide_true, decide_false, reduceCtorEq, ex20, ex21, ex30, ex31, ex32, Mre_ok, Mre_nil, Bool.true_and]
      exact ⟨trivial, k1.trans k6⟩
    · simp only [unV_not, Bool.not_true, Bool.not_false, Mif_bool, Mif_undef, pickV_bool, Mcd_bool, Mpu_some, if_true, if_false, Bool.false_eq_true, Bool.true_eq_false, decide_true, decide_false, reduceCtorEq, ex20, ex21, ex30, ex31, ex32, Mre_ok, Mre_nil, Bool.false_and]
      exact ⟨trivial, k1.trans k6⟩

/-- two histories, record by record -/
theorem c_HistEqualG {p p2 : Nat} {Fr Fc Fi Gr Gc Gi : Nat → Prop} {H : Heap} {rs rs2 : List RecA} {ch ch2 : List (List UInt8)} (h1 : HistAt p Fr Fc Fi H rs ch) (h2 : HistAt p2 Gr Gc Gi H rs2 ch2) :
    HCalls prg f_history_History_Equal [Ptr p 0, Ptr p2 0] H fun u H' => (∃ b, u = .bool b ∧ (b = true ↔ rs = rs2)) ∧ Keep (fun _ => False) H H' := by
  apply sh_history_History_Equal_calls
  unfold sh_history_History_Equal
  obtain ⟨vr, vc, xs, hp, hr, hc, hxl, hx⟩ := h1.blk
  obtain ⟨wr, wc, ys, hp2, hr2, hc2, hyl, hy⟩ := h2.blk
  have hfew := h1.few
  have hfew2 := h2.few
  have e1 : ld1 H (Ptr p 0) = some vr := by rw [ld1_at hp]; rfl
  have e2 : ld1 H (Ptr p2 0) = some wr := by rw [ld1_at hp2]; rfl
  have hzl : (List.zipWith rawC rs xs).length = rs.length := by simp [hxl]
  have hzl2 : (List.zipWith rawC rs2 ys).length = rs2.length := by simp [hyl]
  simp only [nck_ptr, fld_ptr, Nat.zero_add, e1, e2, Mpu_some]
  have main : HCalls prg f_slices_EqualFunc_S_history_Record_S_history_Record_history_R_94851 [vr, wr, .func (.func f_history_Record_Equal) #[] #[]] H fun u H' => (∃ b, u = .bool b ∧ (b = true ↔ rs = rs2)) ∧ Keep (fun _ => False) H H' := by
    apply sh_slices_EqualFunc_S_history_Record_S_history_Record_history_R_94851_calls
    unfold sh_slices_EqualFunc_S_history_Record_S_history_Record_history_R_94851
    have l1 := hr.sl.len
    have l2 := hr2.sl.len
    rw [hzl] at l1; rw [hzl2] at l2
    have hne : binV .no .neq (.int .i64 (rs.length : Nat)) (.int .i64 (rs2.length : Nat)) = some (.bool (!decide (rs.length = rs2.length))) := by
      rw [binV_int]; simp only [intV]; congr 2
      rw [Bool.eq_iff_iff]; simp; omega
    rw [l1, Mpu_some, l2, Mpu_some, hne, Mpu_some, Mcd_bool]
    by_cases hll : rs.length = rs2.length
    rotate_left
    · rw [if_pos (by simpa using hll)]
      exact ⟨⟨false, rfl, fun h => (by cases h), fun h => absurd (by rw [h]) hll⟩, Keep.refl⟩
    rw [if_neg (by simpa using hll)]
    refine J1_i (fun _ h => rs = rs2 ∧ Keep (fun _ => False) H h) (fun k1 hk1 => ?_) ?_
    · rw [Mpu_some]
      refine L1_i (fun u h => ∃ i : Nat, i ≤ rs.length ∧ u = .int .i64 (i : Nat) ∧ rs.take i = rs2.take i ∧ Keep (fun _ => False) H h) (fun u _ => match u with | .int _ t => rs.length - t.toNat | _ => 0) ⟨0, Nat.zero_le _, rfl, rfl, Keep.refl⟩ ?_
      rintro _ h ⟨i, hi, rfl, heq, kh⟩ k hk
      have elt : binV .no .lss (.int .i64 (i : Nat)) (.int .i64 (rs.length : Nat)) = some (.bool (decide (i < rs.length))) := by
        rw [binV_int]; simp only [intV]; congr 2; rw [decide_eq_decide]; omega
      rw [elt, Mpu_some, Mcd_bool]
      by_cases hlt : i < rs.length
      · rw [if_pos (by simpa using hlt)]
        have hg : rs[i]? = some rs[i] := List.getElem?_eq_getElem hlt
        generalize rs[i] = a at hg
        have hg2 : rs2[i]? = some (rs2[i]'(by omega)) := List.getElem?_eq_getElem _
        generalize (rs2[i]'(by omega)) = a2 at hg2
        have hgx : xs[i]? = some (xs[i]'(by omega)) := List.getElem?_eq_getElem _
        generalize (xs[i]'(by omega)) = x at hgx
        have hgy : ys[i]? = some (ys[i]'(by omega)) := List.getElem?_eq_getElem _
        generalize (ys[i]'(by omega)) = y at hgy
        have r1 := (hx i a x hg hgx).keep kh fun _ _ => id
        have r2 := (hy i a2 y hg2 hgy).keep kh fun _ _ => id
        obtain ⟨b, o, hix, hpt, _⟩ := (hr.sl.keep kh fun _ _ => id).at (i := i) (x := rawC a x) (by rw [List.getElem?_zipWith, hg, hgx])
        obtain ⟨b2, o2, hix2, hpt2, _⟩ := (hr2.sl.keep kh fun _ _ => id).at (i := i) (x := rawC a2 y) (by rw [List.getElem?_zipWith, hg2, hgy])
        have n1 := rawC_len (x := x) r1.1
        have n2 := rawC_len (x := y) r2.1
        rw [hix, Mpu_some, hpt.agg n1, Mpu_some]
        refine new_rec n1 (recC_one r1.2.1 r1.2.2.1) fun h6 hs6 a6 k6 => ?_
        rw [hix2, Mpu_some, (hpt2.keep k6 id).agg n2, Mpu_some]
        refine new_rec n2 (recC_one r2.2.1 r2.2.2.1) fun h8 hs8 a8 k8 => ?_
        have k68 := k6.trans k8
        rw [(a6.keep k8 id).ldN n1, Mpu_some, a8.ldN n2, Mpu_some]
        refine .inl ⟨f_history_Record_Equal, #[], #[], rfl, by kernel_rfl, ?_⟩
        show HCalls prg f_history_Record_Equal [.agg (recC a.k x.1 x.2 a.s a.r).toArray, .agg (recC a2.k y.1 y.2 a2.s a2.r).toArray] h8 _
        refine (c_RecEqual (a := a) (b := a2) (r1.2.1.keep k68 fun _ _ => id) (r1.2.2.1.keep k68 fun _ _ => id) (r2.2.1.keep k68 fun _ _ => id) (r2.2.2.1.keep k68 fun _ _ => id) r1.1 r2.1 r1.2.2.2.1 r1.2.2.2.2).mono ?_
        rintro _ h9 ⟨rfl, k9⟩
        have kk := kh.trans (k68.trans k9)
        rw [unV_not, Mpu_some, Mcd_bool]
        cases her : eqRec a a2
        · rw [Bool.not_false, if_pos rfl]
          refine ⟨⟨false, rfl, fun h => (by cases h), fun h => ?_⟩, kk⟩
          subst h
          rw [hg] at hg2
          cases hg2
          rw [eqRec_self] at her; cases her
        · rw [Bool.not_true, if_neg (by decide), add_one' (by omega), Mpu_some]
          refine hk _ _ ⟨i + 1, hlt, rfl, ?_, kk⟩ (by show rs.length - (i + 1) < rs.length - i; omega)
          rw [take_snoc hg, take_snoc hg2, heq, eqRec_iff.1 her]
      · rw [if_neg (by simpa using hlt)]
        rw [List.take_of_length_le (by omega), List.take_of_length_le (by omega)] at heq
        exact hk1 _ _ ⟨heq, kh⟩
    · rintro _ h ⟨he, kh⟩
      exact ⟨⟨true, rfl, fun _ => he, fun _ => rfl⟩, kh⟩
  refine call_i main ?_
  intro u h h'; exact h'
end Go.Proofs.YtconalffokhplaaDoor
/- history.Collide: the search. -/
namespace Go.Proofs.YtconalffokhplaaDoor
open Go.X Go.X.Diff
set_option maxRecDepth 100000

theorem _root_.Go.X.Sl.closed {P : Nat → Prop} {n0 : Nat} {h h' : Heap} {v : Value} {l : List UInt8} (s : Sl P h v l) (c : Closed n0 h h') : Sl P h' v l := by
  rcases s.cases with ⟨a, cc, rfl, rfl, hsp⟩ | ⟨b, o, cc, cs, T, f, rfl, hp, hc, hb, hle, hl⟩
  · exact ⟨Bs_nil, ⟨a, cc, rfl, Nat.zero_le _, hsp⟩, fun b hb => s.own b hb⟩
  · exact ⟨Bs.mk (c.2.2 b _ hb fun ds e => by cases e) rfl hle hl, s.sl, s.own⟩
theorem c_Backward {H : Heap} {a : Option Addr} {n c : Nat} : HCalls prg f_slices_Backward_S_history_Record_history_Record [.slice a n c] H fun u H' => u = .func (.func f_slices_Backward_S_history_Record_history_Record_1) #[] #[Ptr H.size 0] ∧ At H' H.size [.slice a n c] ∧ Keep (fun _ => False) H H' := by
  apply sh_slices_Backward_S_history_Record_history_Record_calls
  unfold sh_slices_Backward_S_history_Record_history_Record
  have c1 : Value.cells (.slice a n c) = [Value.slice a n c].toArray := rfl
  rw [c1, Mnew_some]
  exact ⟨rfl, At.push, Keep.push⟩
structure BackSt (q : Nat) (Fr : Nat → Prop) (v : Value) (rows : List (List Value)) (h : Heap) : Prop where
  cell : At h q [v]
  row : SlE 36 Fr h v rows
  lt : ∀ b, Fr b → b < h.size
def BackX (n j : Nat) (x : List Value) (_ : Heap) : Prop := ∃ y, x = [.int .i64 ((n - 1 - j : Nat) : Int), y]
theorem back_iter {q n : Nat} {Fr : Nat → Prop} {v : Value} {rows : List (List Value)} (hn : rows.length = n) (hl : n ≤ 1000000) :
    IterR prg (.func (.func f_slices_Backward_S_history_Record_history_Record_1) #[] #[Ptr q 0]) n (BackX n) (fun _ => False) (fun b => b = q ∨ Fr b) (BackSt q Fr v rows) := by
  intro yv h0 J E hst hJ hbody sJ sE
  refine ⟨f_slices_Backward_S_history_Record_history_Record_1, #[], #[Ptr q 0], rfl, by kernel_rfl, ?_⟩
  show HCalls prg f_slices_Backward_S_history_Record_history_Record_1 [yv, Ptr q 0] h0 _
  apply sh_slices_Backward_S_history_Record_history_Record_1_calls
  unfold sh_slices_Backward_S_history_Record_history_Record_1
  have el := hst.row.len
  rw [hn] at el
  have es : binV .no .sub (.int .i64 (n : Nat)) (.int .i64 1) = some (.int .i64 ((n : Int) - 1)) := by
    have : IntKind.i64.wrap ((n : Int) - 1) = (n : Int) - 1 := by rw [wrap_id] <;> omega
    rw [binV_int]; simp only [intV, this]
  rw [hst.cell.ld (i := 0) rfl, Mpu_some, el, Mpu_some, es, Mpu_some]
  have IK : ∀ {h h' : Heap}, BackSt q Fr v rows h → Keep (fun b => ¬ (b = q ∨ Fr b)) h h' → BackSt q Fr v rows h' := fun ⟨i1, i2, i3⟩ k =>
    ⟨i1.keep k fun hn => hn (.inl rfl), i2.keep k fun b hb hn => hn (.inr hb), fun b hb => Nat.lt_of_lt_of_le (i3 b hb) k.1⟩
  refine L1_i (fun u h => ∃ j : Nat, j ≤ n ∧ u = .int .i64 ((n : Int) - 1 - j) ∧ J j h ∧ BackSt q Fr v rows h) (fun u _ => match u with | .int _ t => (t + 1).toNat | _ => 0) ⟨0, Nat.zero_le _, by simp, hJ, hst⟩ ?_
  rintro _ h ⟨j, hj, rfl, hJj, hI⟩ k hk
  have ege : binV .no .geq (.int .i64 ((n : Int) - 1 - j)) (.int .i64 0) = some (.bool (decide (j < n))) := by
    rw [binV_int]; simp only [intV]; congr 2; rw [decide_eq_decide]; omega
  rw [ege, Mpu_some, Mcd_bool]
  by_cases hlt : j < n
  · rw [if_pos (by simpa using hlt)]
    have ei : ((n : Int) - 1 - j) = ((n - 1 - j : Nat) : Int) := by omega
    have hg : rows[n - 1 - j]? = some (rows[n - 1 - j]'(by omega)) := List.getElem?_eq_getElem _
    generalize (rows[n - 1 - j]'(by omega)) = x at hg
    obtain ⟨b, o, hix, hpt, hFr⟩ := hI.row.at hg
    have hxl := hI.row.el x (List.mem_of_getElem? hg)
    rw [hI.cell.ld (i := 0) rfl, Mpu_some, ei, hix, Mpu_some, hpt.agg hxl, Mpu_some]
    refine (hbody j _ h hlt ⟨_, rfl⟩ hJj).mono ?_
    rintro v' h6 ⟨hsz, hS, hv⟩
    have hI6 := IK hI (keep_not hsz hS)
    rcases hv with ⟨rfl, hJ'⟩ | ⟨rfl, hE⟩
    · have hsub : binV .no .sub (.int .i64 ((n - 1 - j : Nat) : Int)) (.int .i64 1) = some (.int .i64 ((n : Int) - 1 - ((j + 1 : Nat) : Int))) := by
        have : IntKind.i64.wrap (((n - 1 - j : Nat) : Int) - 1) = (n : Int) - 1 - ((j + 1 : Nat) : Int) := by rw [wrap_id] <;> omega
        rw [binV_int]; simp only [intV, this]
      simp only [unV_not, Bool.not_true, Mpu_some, Mcd_bool, Bool.false_eq_true, if_false, hsub]
      exact hk _ _ ⟨j + 1, by omega, rfl, hJ', hI6⟩ (by show ((n : Int) - 1 - ((j + 1 : Nat) : Int) + 1).toNat < ((n : Int) - 1 - (j : Int) + 1).toNat; omega)
    · simp only [unV_not, Bool.not_false, Mpu_some, Mcd_bool, if_true]
      exact .inr hE
  · rw [if_neg (by simpa using hlt)]
    obtain rfl : j = n := by omega
    exact .inl hJj

theorem bld_Coll {a b : Option Addr} {n m c d : Nat} : buildV prg T_collide_Collision [(0, .slice a n c), (1, .slice b m d)] = some (.agg #[.slice a n c, .slice b m d]) := by kernel_rfl
theorem bld_Coll0 : buildV prg T_collide_Collision [] = some (.agg #[.slice none 0 0, .slice none 0 0]) := by kernel_rfl
theorem z_Coll : zcells prg T_collide_Collision = some [Value.slice none 0 0, .slice none 0 0].toArray := by kernel_rfl
theorem bld_CollS {P Q : Nat → Prop} {h : Heap} {va vb : Value} {A B : List UInt8} (ha : Sl P h va A) (hb : Sl Q h vb B) : buildV prg T_collide_Collision [(0, va), (1, vb)] = some (.agg [va, vb].toArray) := by
  obtain ⟨a, c, e, _⟩ := ha.sl
  obtain ⟨b, d, e2, _⟩ := hb.sl
  subst e e2
  exact bld_Coll
theorem two_one {P Q : Nat → Prop} {h : Heap} {va vb : Value} {A B : List UInt8} (ha : Sl P h va A) (hb : Sl Q h vb B) : ∀ c ∈ [va, vb], c.oneCell' = true := by
  intro c hc
  simp at hc
  rcases hc with rfl | rfl
  · exact ha.one
  · exact hb.one

section
variable {p1 p2 q2 q3 i : Nat} {Fr Fc Fi Gr Gc Gi : Nat → Prop} {h : Heap} {rs rs2 : List RecA} {ch ch2 : List (List UInt8)} {a b : RecA} {k : Value → Heap → Prop}
theorem coll3 (c2 : At h q2 [Ptr p1 0]) (c3 : At h q3 [Ptr p2 0]) (h1 : HistAt p1 Fr Fc Fi h rs ch) (h2 : HistAt p2 Gr Gc Gi h rs2 ch2) (g1 : rs[i]? = some a) (g2 : rs2[i]? = some b) (o1 : recOk a = true) (w1 : RecWf a) (o2 : recOk b = true) (w2 : RecWf b) (hT : PowT h)
    (hk : ∀ t h' va vb, At h' t [va, vb] → Sl (fun x => h.size ≤ x ∧ x < h'.size ∧ x ≠ t) h' va (inpF ch i a) → Sl (fun x => h.size ≤ x ∧ x < h'.size ∧ x ≠ t) h' vb (inpF ch2 i b) → Keep (fun _ => False) h h' → h.size ≤ t → k (Ptr t 0) h') :
    Mpu (ld1 h (Ptr q2 0)) fun t28 => Mpu (ld1 h (Ptr q3 0)) fun t31 =>
      (Mcall prg f_history_History_input [t28, .int .i64 (i : Nat)] h fun t30 h24 =>
        Mre [(ld1 h24 (Ptr q3 0), t31)] (
        (Mcall prg f_history_History_input [t31, .int .i64 (i : Nat)] h24 fun t33 h25 =>
          Mpu (buildV prg T_collide_Collision [(0, t30), (1, t33)]) fun t34 =>
          Mnew h25 T_collide_Collision (zcells prg T_collide_Collision) fun t7 h26 =>
          Mre [(ld1 h26 (Ptr q3 0), t31), (ld1 h26 (Ptr q2 0), t28)] (
          Mwr (stN 2 h26 t7 t34) fun h27 => k t7 h27)) ∧
        (Mnew h24 T_collide_Collision (zcells prg T_collide_Collision) fun t7 h28 =>
          Mre [(ld1 h28 (Ptr q3 0), t31), (ld1 h28 (Ptr q2 0), t28)] (
          Mcall prg f_history_History_input [t31, .int .i64 (i : Nat)] h28 fun t33 h29 =>
          Mpu (buildV prg T_collide_Collision [(0, t30), (1, t33)]) fun t34 =>
          Mwr (stN 2 h29 t7 t34) fun h30 => k t7 h30)))) ∧
      (Mnew h T_collide_Collision (zcells prg T_collide_Collision) fun t7 h31 =>
        Mre [(ld1 h31 (Ptr q3 0), t31), (ld1 h31 (Ptr q2 0), t28)] (
        Mcall prg f_history_History_input [t28, .int .i64 (i : Nat)] h31 fun t30 h32 =>
        Mre [(ld1 h32 (Ptr q3 0), t31)] (
        Mcall prg f_history_History_input [t31, .int .i64 (i : Nat)] h32 fun t33 h33 =>
        Mpu (buildV prg T_collide_Collision [(0, t30), (1, t33)]) fun t34 =>
        Mwr (stN 2 h33 t7 t34) fun h34 => k t7 h34))) := by
  have L2 : ∀ {g}, Keep (fun _ => False) h g → ld1 g (Ptr q2 0) = some (Ptr p1 0) := fun k => (c2.keep k id).ld rfl
  have L3 : ∀ {g}, Keep (fun _ => False) h g → ld1 g (Ptr q3 0) = some (Ptr p2 0) := fun k => (c3.keep k id).ld rfl
  have zc : ([Value.slice none 0 0, .slice none 0 0] : List Value).length = 2 := rfl
  rw [L2 Keep.refl, Mpu_some, L3 Keep.refl, Mpu_some]
  refine ⟨?_, ?_⟩
  · refine call_i (c_input h1 g1 o1 w1 hT) ?_
    rintro t30 h24 ⟨b30, k24⟩
    have s24 := k24.1
    simp only [L3 k24, Mre_cons, Mre_nil, true_and]
    refine ⟨?_, ?_⟩
    · refine call_i (c_input (h2.keep k24 fun _ _ => id) g2 o2 w2 (hT.keep k24 fun _ h => h.elim)) ?_
      rintro t33 h25 ⟨b33, k25⟩
      have k025 := k24.trans k25
      have s25 := k25.1
      have A := b30.sl.keep k25 fun _ _ => id
      rw [bld_CollS A b33.sl, Mpu_some, z_Coll, Mnew_some]
      generalize hH26 : h25.push (.cells [Value.slice none 0 0, .slice none 0 0].toArray T_collide_Collision (0, 0)) = h26
      have k26 : Keep (fun _ => False) h25 h26 := by rw [← hH26]; exact Keep.push
      have a26 : At h26 h25.size [.slice none 0 0, .slice none 0 0] := by rw [← hH26]; exact At.push
      simp only [L3 (k025.trans k26), L2 (k025.trans k26), true_and]
      obtain ⟨h27, st, a27, k27⟩ := a26.st (n := 2) (ds := [t30, t33]) rfl rfl (two_one A b33.sl)
      rw [show (Value.pointer (some ⟨h25.size, 0, none⟩)) = Ptr h25.size 0 from rfl, st, Mwr_some]
      have kk : Keep (fun _ => False) h25 h27 := k26.fresh k27 fun b hb => by omega
      have s27 := a27.lt
      exact hk h25.size h27 t30 t33 a27 ((A.keep kk fun _ _ => id).mono fun x hx => ⟨hx.1, by omega, by omega⟩) ((b33.sl.keep kk fun _ _ => id).mono fun x hx => ⟨by omega, by omega, by omega⟩) (k025.trans kk) (by omega)
    · rw [z_Coll, Mnew_some]
      generalize hH28 : h24.push (.cells [Value.slice none 0 0, .slice none 0 0].toArray T_collide_Collision (0, 0)) = h28
      have k28 : Keep (fun _ => False) h24 h28 := by rw [← hH28]; exact Keep.push
      have a28 : At h28 h24.size [.slice none 0 0, .slice none 0 0] := by rw [← hH28]; exact At.push
      have s28 : h28.size = h24.size + 1 := by rw [← hH28]; simp
      have k028 := k24.trans k28
      simp only [L3 k028, L2 k028, true_and]
      refine call_i (c_input (h2.keep k028 fun _ _ => id) g2 o2 w2 (hT.keep k028 fun _ h => h.elim)) ?_
      rintro t33 h29 ⟨b33, k29⟩
      have s29 := k29.1
      have A := b30.sl.keep (k28.trans k29) fun _ _ => id
      rw [bld_CollS A b33.sl, Mpu_some]
      obtain ⟨h30, st, a30, k30⟩ := (a28.keep k29 id).st (n := 2) (ds := [t30, t33]) rfl rfl (two_one A b33.sl)
      rw [show (Value.pointer (some ⟨h24.size, 0, none⟩)) = Ptr h24.size 0 from rfl, st, Mwr_some]
      have s30 := k30.1
      exact hk h24.size h30 t30 t33 a30 ((A.keep k30 fun x hx e => by have := hx.2; omega).mono fun x hx => ⟨hx.1, by have := hx.2; omega, by have := hx.2; omega⟩) ((b33.sl.keep k30 fun x hx e => by have := hx.1; omega).mono fun x hx => ⟨by have := hx.1; omega, by have := hx.2; omega, by have := hx.1; omega⟩)
        ((k028.trans k29).fresh k30 fun b hb => by omega) s24
  · rw [z_Coll, Mnew_some]
    generalize hH31 : h.push (.cells [Value.slice none 0 0, .slice none 0 0].toArray T_collide_Collision (0, 0)) = h31
    have k31 : Keep (fun _ => False) h h31 := by rw [← hH31]; exact Keep.push
    have a31 : At h31 h.size [.slice none 0 0, .slice none 0 0] := by rw [← hH31]; exact At.push
    have s31 : h31.size = h.size + 1 := by rw [← hH31]; simp
    simp only [L3 k31, L2 k31, Mre_cons, Mre_nil, true_and]
    refine call_i (c_input (h1.keep k31 fun _ _ => id) g1 o1 w1 (hT.keep k31 fun _ h => h.elim)) ?_
    rintro t30 h32 ⟨b30, k32⟩
    have s32 := k32.1
    have k032 := k31.trans k32
    simp only [L3 k032, true_and]
    refine call_i (c_input (h2.keep k032 fun _ _ => id) g2 o2 w2 (hT.keep k032 fun _ h => h.elim)) ?_
    rintro t33 h33 ⟨b33, k33⟩
    have s33 := k33.1
    have A := b30.sl.keep k33 fun _ _ => id
    rw [bld_CollS A b33.sl, Mpu_some]
    obtain ⟨h34, st, a34, k34⟩ := ((a31.keep k32 id).keep k33 id).st (n := 2) (ds := [t30, t33]) rfl rfl (two_one A b33.sl)
    rw [show (Value.pointer (some ⟨h.size, 0, none⟩)) = Ptr h.size 0 from rfl, st, Mwr_some]
    have s34 := k34.1
    exact hk h.size h34 t30 t33 a34 ((A.keep k34 fun x hx e => by have := hx.1; omega).mono fun x hx => ⟨by have := hx.1; omega, by have := hx.2; omega, by have := hx.1; omega⟩) ((b33.sl.keep k34 fun x hx e => by have := hx.1; omega).mono fun x hx => ⟨by have := hx.1; omega, by have := hx.2; omega, by have := hx.1; omega⟩)
      ((k032.trans k33).fresh k34 fun b hb => by omega) (Nat.le_refl _)
end

/-- what Collide tells -/
def ColR (rs rs2 : List RecA) (N : Nat) (u : Value) (h : Heap) : Prop :=
  (u = .tuple #[.agg [.slice none 0 0, .slice none 0 0].toArray, .bool false] ∧ (rs.length = rs2.length → topF (chL rs) = topF (chL rs2) → rs = rs2)) ∨
  ∃ va vb i a b, u = .tuple #[.agg [va, vb].toArray, .bool true] ∧ rs.length = rs2.length ∧ topF (chL rs) = topF (chL rs2) ∧ rs[i]? = some a ∧ rs2[i]? = some b ∧ Sl (fun x => N ≤ x ∧ x < h.size) h va (inpF (chL rs) i a) ∧ Sl (fun x => N ≤ x ∧ x < h.size) h vb (inpF (chL rs2) i b) ∧
    inpF (chL rs) i a ≠ inpF (chL rs2) i b ∧ shaF (inpF (chL rs) i a) = shaF (inpF (chL rs2) i b)

theorem inp_len {rs : List RecA} (g : Grown rs) {i : Nat} {a : RecA} (h : rs[i]? = some a) : (inpF (chL rs) i a).length ≤ 200000 ∧ 32 < (inpF (chL rs) i a).length := by
  obtain ⟨o, w⟩ := recsOk_of g a (List.mem_of_getElem? h)
  have := (recB_len4 o w).1
  have h32 := ahead_len (ch := chL rs) chL_32 (i := i)
  simp only [inpF, List.length_cons, List.length_append, h32]
  omega

theorem c_Collide {p1 p2 : Nat} {Fr Fc Fi Gr Gc Gi : Nat → Prop} {H : Heap} {rs rs2 : List RecA} (h1 : HistAt p1 Fr Fc Fi H rs (chL rs)) (h2 : HistAt p2 Gr Gc Gi H rs2 (chL rs2)) (g1 : Grown rs) (g2 : Grown rs2) (hS : ShaT H) (hT : PowT H) :
    HCalls prg f_history_Collide [Ptr p1 0, Ptr p2 0] H fun u H' => ColR rs rs2 H.size u H' ∧ Keep (fun _ => False) H H' := by
  apply sh_history_Collide_calls
  unfold sh_history_Collide
  have lt1 := h1.lt
  have lt2 := h2.lt
  have hfew := h1.few
  have hfew2 := h2.few
  have cP : ∀ x, Value.cells (Ptr x 0) = [Ptr x 0].toArray := fun x => rfl
  have zB : zcells prg T_bool = some [Value.bool false].toArray := by kernel_rfl
  rw [cP, Mnew_some]
  generalize hE1 : H.push (.cells [Ptr p1 0].toArray T_P_history_History (0, 0)) = e1
  have k1 : Keep (fun _ => False) H e1 := by rw [← hE1]; exact Keep.push
  have s1 : e1.size = H.size + 1 := by rw [← hE1]; simp
  have a2 : At e1 H.size [Ptr p1 0] := by rw [← hE1]; exact At.push
  rw [cP, Mnew_some]
  generalize hE2 : e1.push (.cells [Ptr p2 0].toArray T_P_history_History (0, 0)) = e2
  have k2 : Keep (fun _ => False) e1 e2 := by rw [← hE2]; exact Keep.push
  have s2 : e2.size = e1.size + 1 := by rw [← hE2]; simp
  have a3 : At e2 e1.size [Ptr p2 0] := by rw [← hE2]; exact At.push
  rw [z_Coll, Mnew_some]
  generalize hE3 : e2.push (.cells [Value.slice none 0 0, .slice none 0 0].toArray T_collide_Collision (0, 0)) = e3
  have k3 : Keep (fun _ => False) e2 e3 := by rw [← hE3]; exact Keep.push
  have s3 : e3.size = e2.size + 1 := by rw [← hE3]; simp
  have a4 : At e3 e2.size [.slice none 0 0, .slice none 0 0] := by rw [← hE3]; exact At.push
  rw [zB, Mnew_some]
  generalize hE4 : e3.push (.cells [Value.bool false].toArray T_bool (0, 0)) = e4
  have k4 : Keep (fun _ => False) e3 e4 := by rw [← hE4]; exact Keep.push
  have s4 : e4.size = e3.size + 1 := by rw [← hE4]; simp
  have a5 : At e4 e3.size [.bool false] := by rw [← hE4]; exact At.push
  have k04 := k1.trans (k2.trans (k3.trans k4))
  /- the state: nothing of it was written to -/
  have b2 : At e4 H.size [Ptr p1 0] := a2.keep (k2.trans (k3.trans k4)) id
  have b3 : At e4 e1.size [Ptr p2 0] := a3.keep (k3.trans k4) id
  have b4 : At e4 e2.size [.slice none 0 0, .slice none 0 0] := a4.keep k4 id
  have hh1 := h1.keep k04 fun _ _ => id
  have hh2 := h2.keep k04 fun _ _ => id
  have L2 : ∀ {g}, Keep (fun _ => False) e4 g → ld1 g (Ptr H.size 0) = some (Ptr p1 0) := fun k => (b2.keep k id).ld rfl
  have L3 : ∀ {g}, Keep (fun _ => False) e4 g → ld1 g (Ptr e1.size 0) = some (Ptr p2 0) := fun k => (b3.keep k id).ld rfl
  have P2 : (Value.pointer (some ⟨H.size, 0, none⟩)) = Ptr H.size 0 := rfl
  have P3 : (Value.pointer (some ⟨e1.size, 0, none⟩)) = Ptr e1.size 0 := rfl
  have P4 : (Value.pointer (some ⟨e2.size, 0, none⟩)) = Ptr e2.size 0 := rfl
  have P5 : (Value.pointer (some ⟨e3.size, 0, none⟩)) = Ptr e3.size 0 := rfl
  simp only [P2, P3, P4, P5, L2 Keep.refl, L3 Keep.refl, Mpu_some]
  refine call_i (c_HistLen hh1) ?_
  rintro _ _ ⟨rfl, rfl⟩
  simp only [L3 Keep.refl, Mre_cons, Mre_nil, true_and]
  refine call_i (c_HistLen hh2) ?_
  rintro _ _ ⟨rfl, rfl⟩
  have ene : binV .no .neq (.int .i64 (rs.length : Nat)) (.int .i64 (rs2.length : Nat)) = some (.bool (!decide (rs.length = rs2.length))) := by
    rw [binV_int]; simp only [intV]; congr 2
    rw [Bool.eq_iff_iff]; simp; omega
  rw [ene, Mpu_some]
  /- the answer no -/
  have no : (rs.length = rs2.length → topF (chL rs) = topF (chL rs2) → rs = rs2) → ∀ g, Keep (fun _ => False) H g → At g e2.size [.slice none 0 0, .slice none 0 0] → At g e3.size [.bool false] → 
      Mpu (buildV prg T_collide_Collision []) fun t20 => Mwr (stN 2 g (Ptr e2.size 0) t20) fun h11 => Mwr (st1 h11 (Ptr e3.size 0) (.bool false)) fun h12 => Mcl H.size h12 fun h13 =>
        Mpu (ldN 2 h13 (Ptr e2.size 0)) fun r14 => Mpu (ld1 h13 (Ptr e3.size 0)) fun r15 => ColR rs rs2 H.size (.tuple #[r14, r15]) h13 ∧ Keep (fun _ => False) H h13 := fun hno g kg x4 x5 => by
    obtain ⟨h11, st, y4, k11⟩ := x4.st (n := 2) (ds := [.slice none 0 0, .slice none 0 0]) rfl rfl (fun c hc => by simp at hc; subst hc; rfl)
    have y5 := x5.keep k11 (by omega)
    obtain ⟨h12, st2, z5, k12⟩ := y5.st1 (i := 0) (v := .bool false) (by simp) rfl
    have z4 := y4.keep k12 (by omega)
    rw [bld_Coll0, Mpu_some, show (Value.agg #[.slice none 0 0, .slice none 0 0]) = .agg [Value.slice none 0 0, .slice none 0 0].toArray from rfl, st, Mwr_some, st2, Mwr_some]
    refine mcl_i fun h13 cl => ?_
    rw [(z4.closed cl).ldN (n := 2) rfl, Mpu_some, (z5.closed cl).ld (i := 0) rfl, Mpu_some]
    exact ⟨.inl ⟨rfl, hno⟩, keep_closed ((kg.fresh k11 fun b hb => by omega).fresh k12 fun b hb => by omega) cl⟩
  refine J1_i (fun u g => Keep (fun _ => False) e4 g ∧ (rs.length = rs2.length → u = .bool (!decide (topF (chL rs) = topF (chL rs2))))) (fun k7 hk7 => ?_) ?_
  · by_cases hll : rs.length = rs2.length
    · simp only [hll, decide_true, Bool.not_true, Mif_bool, if_true, L2 Keep.refl, L3 Keep.refl, Mpu_some]
      refine call_i (c_HistTop hh1) ?_
      rintro _ h8 ⟨rfl, k8⟩
      simp only [L3 k8, Mre_cons, Mre_nil, true_and]
      refine call_i (c_HistTop (hh2.keep k8 fun _ _ => id)) ?_
      rintro _ h9 ⟨rfl, k9⟩
      rw [ne_Hash (topF_len h1.c32) (topF_len h2.c32), Mpu_some]
      exact hk7 _ _ ⟨k8.trans k9, fun _ => rfl⟩
    · simp only [hll, decide_false, Bool.not_false, Mif_bool, Bool.true_eq_false, if_false]
      exact hk7 _ _ ⟨Keep.refl, fun h => absurd h hll⟩
  rintro u h10 ⟨k10, hu⟩
  have k010 := k04.trans k10
  have c4 := b4.keep k10 id
  have c5 := a5.keep k10 id
  by_cases hll : rs.length = rs2.length
  rotate_left
  · simp only [hll, decide_false, Bool.not_false, pickV_bool, if_true, Mpu_some, Mcd_bool]
    exact no (fun h => absurd h hll) h10 k010 c4 c5
  rw [hu hll]
  by_cases htt : topF (chL rs) = topF (chL rs2)
  rotate_left
  · simp only [hll, htt, decide_true, decide_false, Bool.not_true, Bool.not_false, pickV_bool, Bool.false_eq_true, if_false, if_true, Mpu_some, Mcd_bool]
    exact no (fun _ h => absurd h htt) h10 k010 c4 c5
  simp only [hll, htt, decide_true, Bool.not_true, pickV_bool, Bool.false_eq_true, if_false, Mpu_some, Mcd_bool]
  have hat1 := hh1.keep k10 fun _ _ => id
  have hat2 := hh2.keep k10 fun _ _ => id
  obtain ⟨vr, vc, xs, hp, hr, hc, hxl, hx⟩ := hat1.blk
  have hzl : (List.zipWith rawC rs xs).length = rs.length := by simp [hxl]
  have d0 : ld1 h10 (Ptr p1 0) = some vr := by rw [ld1_at hp]; rfl
  obtain ⟨⟨va0, vc0, ev, _⟩, _⟩ := id hr.sl
  simp only [L2 k10, nck_ptr, fld_ptr, Nat.zero_add, d0, Mpu_some]
  rw [ev]
  refine call_i c_Backward ?_
  rintro _ h16 ⟨rfl, cq, k16⟩
  rw [← ev] at cq
  have k016 := k010.trans k16
  have sr16 := hr.sl.keep k16 fun _ _ => id
  have hown := h1.own
  have hFr : ∀ b, Fr b → b < H.size := fun b hb => (lt1 b (.inr (.inl hb))).2
  have s16 := k016.1
  have sq := cq.lt
  have s10 := k10.1
  have t1 := hh1.keep (k10.trans k16) fun _ _ => id
  have t2 := hh2.keep (k10.trans k16) fun _ _ => id
  let S : Heap → Prop := fun h => At h H.size [Ptr p1 0] ∧ At h e1.size [Ptr p2 0] ∧ HistAt p1 Fr Fc Fi h rs (chL rs) ∧ HistAt p2 Gr Gc Gi h rs2 (chL rs2) ∧ Keep (fun _ => False) H h ∧ h16.size ≤ h.size
  have SK : ∀ {h h' : Heap} {T : Nat → Prop}, S h → Keep T h h' → (∀ b, T b → e2.size ≤ b) → S h' := fun {h h' T} ⟨i1, i2, i3, i4, i5, i6⟩ kk hT' =>
    ⟨i1.keep kk fun hb => by have := hT' _ hb; omega, i2.keep kk fun hb => by have := hT' _ hb; omega, i3.keep kk fun b hb hb' => by have := hT' _ hb'; have := (lt1 b hb).2; omega, i4.keep kk fun b hb hb' => by have := hT' _ hb'; have := (lt2 b hb).2; omega,
      i5.fresh kk fun b hb => by have := hT' _ hb; omega, Nat.le_trans i6 kk.1⟩
  have S16 : S h16 := ⟨b2.keep (k10.trans k16) id, b3.keep (k10.trans k16) id, t1, t2, k016, Nat.le_refl _⟩
  have frame : ∀ {b : Nat}, (False ∨ b = h16.size ∨ b = h16.size + 1) → h16.size ≤ b := fun hb => by rcases hb with hb | hb | hb <;> first | exact hb.elim | omega
  refine range_r (n := rs.length) (X := BackX rs.length) (Sw := fun _ => False) (Sr := fun b => b = h10.size ∨ Fr b) (W := fun b => b = e2.size ∨ b = e3.size ∨ h16.size + 2 ≤ b) (St := BackSt h10.size Fr vr (List.zipWith rawC rs xs)) (back_iter hzl (by omega)) (fun o o' => ?_) (by omega)
    (fun j h => S h ∧ At h e2.size [.slice none 0 0, .slice none 0 0] ∧ At h e3.size [.bool false] ∧ ∀ i, rs.length - j ≤ i → ¬ Coll rs rs2 i)
    (fun c h => c = Code.ret ∧ Keep (fun _ => False) H h ∧ ∃ va vb i a b, At h e2.size [va, vb] ∧ At h e3.size [.bool true] ∧ rs[i]? = some a ∧ rs2[i]? = some b ∧ Sl (fun x => h16.size + 2 ≤ x ∧ x < h.size) h va (inpF (chL rs) i a) ∧ Sl (fun x => h16.size + 2 ≤ x ∧ x < h.size) h vb (inpF (chL rs2) i b) ∧ inpF (chL rs) i a ≠ inpF (chL rs2) i b ∧ shaF (inpF (chL rs) i a) = shaF (inpF (chL rs2) i b))
    ⟨S16, c4.keep k16 id, c5.keep k16 id, fun i hi ⟨a, b, ha, _⟩ => by have := (List.getElem?_eq_some_iff.1 ha).1; omega⟩
    (fun j h h' ⟨i1, i2, i3, i4⟩ kk => ⟨SK i1 kk fun b hb => by have := frame hb; omega, i2.keep kk fun hb => by have := frame hb; omega, i3.keep kk fun hb => by have := frame hb; omega, i4⟩)
    (fun c h h' ⟨x0, x1, va, vb, i, a, b, x2, x3, x4, x5, x6, x7, x8⟩ kk => ⟨x0, x1.fresh kk fun b hb => by have := frame hb; omega, va, vb, i, a, b, x2.keep kk fun hb => by (have := frame hb; omega), x3.keep kk fun hb => by (have := frame hb; omega), x4, x5,
      (x6.keep kk fun x hx hb => by rcases hb with hb | hb | hb <;> first | exact hb.elim | (have := hx.1; omega)).mono fun x hx => ⟨hx.1, Nat.lt_of_lt_of_le hx.2 kk.1⟩, (x7.keep kk fun x hx hb => by rcases hb with hb | hb | hb <;> first | exact hb.elim | (have := hx.1; omega)).mono fun x hx => ⟨hx.1, Nat.lt_of_lt_of_le hx.2 kk.1⟩, x8⟩)
    (fun b hb => hb.elim) (fun b hb => ?_) (fun b hb => ?_) ?_ ?_ ?_
  · have kp : Keep (fun _ => False) h16 ((h16.push o).push o') := Keep.push.trans Keep.push
    exact ⟨cq.keep kp id, sr16.keep kp fun _ _ => id, fun b hb => by have := hFr b hb; have := kp.1; omega⟩
  · rcases hb with rfl | hb
    · exact sq
    · have := hFr b hb; omega
  · refine ⟨by omega, by omega, fun hS' => ?_⟩
    rcases hS' with hS' | hS'
    · omega
    · have := hFr b hS'; omega
  · rintro j x h r hj hhs ⟨y, rfl⟩ ⟨i1, i2, i3, i4⟩ hloop hready K hN hX
    refine ⟨rfl, r, hloop, hready, ?_⟩
    have hne2 : e2.size ≠ h16.size + 1 := by omega
    have hne3 : e3.size ≠ h16.size + 1 := by omega
    have kb : Keep (· = h16.size + 1) h (h.setIfInBounds (h16.size + 1) (.loop { r with state := .busy })) := Keep.set rfl
    generalize h.setIfInBounds (h16.size + 1) (.loop { r with state := .busy }) = hb at *
    have ib := SK i1 kb fun b hb => by omega
    have j2 := i2.keep kb hne2
    have j3 := i3.keep kb hne3
    have hbs : h16.size + 2 ≤ hb.size := Nat.le_trans hhs kb.1
    obtain ⟨q1, q2', q3', q4', q5', q6'⟩ := id ib
    have hga : rs[rs.length - 1 - j]? = some (rs[rs.length - 1 - j]'(by omega)) := List.getElem?_eq_getElem _
    generalize (rs[rs.length - 1 - j]'(by omega)) = a at hga
    have hgb : rs2[rs.length - 1 - j]? = some (rs2[rs.length - 1 - j]'(by omega)) := List.getElem?_eq_getElem _
    generalize (rs2[rs.length - 1 - j]'(by omega)) = b at hgb
    have hij : rs.length - (j + 1) = rs.length - 1 - j := by omega
    generalize hi : rs.length - 1 - j = i at hga hgb hij
    obtain ⟨o1, w1⟩ := recsOk_of g1 a (List.mem_of_getElem? hga)
    obtain ⟨o2, w2⟩ := recsOk_of g2 b (List.mem_of_getElem? hgb)
    obtain ⟨l1, _⟩ := inp_len g1 hga
    obtain ⟨l2, _⟩ := inp_len g2 hgb
    refine J1_eq.2 ?_
    refine coll3 q1 q2' q3' q4' hga hgb o1 w1 o2 w2 (hT.keep q5' fun _ h => h.elim) fun t h35 va vb at35 sa sb k35 ht => ?_
    rw [at35.ldN (n := 2) rfl, Mpu_some]
    have kH35 := q5'.trans k35
    refine call_i (c_CollRight sa sb (hS.keep kH35 fun _ h => h.elim) (fun b hb => hb.2.1) (fun b hb => hb.2.1) (by omega) (by omega)) ?_
    rintro _ h36 ⟨rfl, k36⟩
    have k356 := k35.trans k36
    have s35 := k35.1
    have s36 := k36.1
    rw [Mcd_bool]
    cases hright : (!decide (inpF (chL rs) i a = inpF (chL rs2) i b) && decide (shaF (inpF (chL rs) i a) = shaF (inpF (chL rs2) i b)))
    · rw [if_neg (by decide)]
      refine hN _ (k356.mono fun _ _ h => h.elim) ⟨SK (T := fun _ => False) ib k356 fun _ h => h.elim, j2.keep k356 id, j3.keep k356 id, fun i' hi' hc => ?_⟩
      by_cases hii : i' = i
      · subst hii
        obtain ⟨a', b', x1, x2, x3, x4⟩ := hc
        rw [hga] at x1; rw [hgb] at x2
        cases x1; cases x2
        rw [decide_eq_false x3, decide_eq_true x4] at hright
        cases hright
      · exact i4 i' (by omega) hc
    · rw [if_pos rfl]
      simp only [Bool.and_eq_true, Bool.not_eq_true', decide_eq_false_iff_not, decide_eq_true_eq] at hright
      have at36 := at35.keep k36 id
      have sa36 := sa.keep k36 fun _ _ => id
      have sb36 := sb.keep k36 fun _ _ => id
      rw [at36.ldN (n := 2) rfl, Mpu_some]
      obtain ⟨h37, st37, z4, k37⟩ := (j2.keep k356 id).st (n := 2) (ds := [va, vb]) rfl rfl (two_one sa36 sb36)
      rw [st37, Mwr_some]
      obtain ⟨h38, st38, z5, k38⟩ := ((j3.keep k356 id).keep k37 (show ¬ e3.size = e2.size by omega)).st1 (i := 0) (v := .bool true) (by simp) rfl
      rw [st38, Mwr_some]
      have s37 := k37.1
      have s38 := k38.1
      have kW : Keep (fun b => b = e2.size ∨ b = e3.size ∨ h16.size + 2 ≤ b) hb h38 := (k356.mono fun _ _ h => h.elim).trans ((k37.mono fun b _ h => .inl h).trans (k38.mono fun b _ h => .inr (.inl h)))
      refine hX _ _ kW ⟨rfl, ((q5'.trans k356).fresh k37 fun b hb => by omega).fresh k38 fun b hb => by omega, va, vb, i, a, b, z4.keep k38 (by omega), z5, hga, hgb, ?_, ?_, hright.1, hright.2⟩
      · exact ((sa36.keep k37 fun x hx e => by have := hx.1; omega).keep k38 fun x hx e => by have := hx.1; omega).mono fun x hx => ⟨by have := hx.1; omega, by have := hx.2.1; omega⟩
      · exact ((sb36.keep k37 fun x hx e => by have := hx.1; omega).keep k38 fun x hx e => by have := hx.1; omega).mono fun x hx => ⟨by have := hx.1; omega, by have := hx.2.1; omega⟩
  · rintro h75 hsz ⟨i1, i2, i3, i4⟩
    exact .inl ⟨rfl, no (fun hl' ht' => no_coll g1 g2 hl' ht' fun i => i4 i (by omega)) h75 i1.2.2.2.2.1 i2 i3⟩
  · rintro cc h75 hsz ⟨rfl, x1, va, vb, i, a, b, x2, x3, x4, x5, x6, x7, x8⟩
    refine .inr ⟨rfl, ?_⟩
    refine mcl_i fun h44 cl => ?_
    rw [(x2.closed cl).ldN (n := 2) rfl, Mpu_some, (x3.closed cl).ld (i := 0) rfl, Mpu_some]
    refine ⟨.inr ⟨va, vb, i, a, b, rfl, hll, htt, x4, x5, ?_, ?_, x8⟩, keep_closed x1 cl⟩
    · exact (x6.closed cl).mono fun x hx => ⟨by have := hx.1; omega, by have := hx.2; have := cl.1; omega⟩
    · exact (x7.closed cl).mono fun x hx => ⟨by have := hx.1; omega, by have := hx.2; have := cl.1; omega⟩
end Go.Proofs.YtconalffokhplaaDoor
