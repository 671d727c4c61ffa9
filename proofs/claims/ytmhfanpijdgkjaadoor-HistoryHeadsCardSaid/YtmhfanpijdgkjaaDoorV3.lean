/- sha: bytes are written; the sum. -/
import Derived.Test.YtmhfanpijdgkjaaDoorV2
namespace Go.Proofs.YtmhfanpijdgkjaaDoor
open Go.X
set_option maxRecDepth 100000

def chew (s : List Int) (l : List UInt8) : List Int × List UInt8 := if h : 64 ≤ l.length then chew (blkF s (l.take 64)) (l.drop 64) else (s, l)
termination_by l.length
decreasing_by simp; omega
theorem chew_small {s : List Int} {l : List UInt8} (h : l.length < 64) : chew s l = (s, l) := by rw [chew, dif_neg (by omega)]
theorem chew_big {s : List Int} {l : List UInt8} (h : 64 ≤ l.length) : chew s l = chew (blkF s (l.take 64)) (l.drop 64) := by rw [chew, dif_pos h]
theorem chew_append (n : Nat) : ∀ (s : List Int) (l m : List UInt8), l.length ≤ n → chew s (l ++ m) = chew (chew s l).1 ((chew s l).2 ++ m) := by
  induction n using Nat.strongRecOn with
  | _ n ih =>
    intro s l m hn
    by_cases h : 64 ≤ l.length
    · rw [chew_big (l := l) h, chew_big (l := l ++ m) (by simp; omega), List.take_append_of_le_length h, List.drop_append_of_le_length h]
      exact ih (l.length - 64) (by omega) _ _ _ (by simp)
    · rw [chew_small (l := l) (by omega)]
theorem chew_lt (n : Nat) : ∀ (s : List Int) (l : List UInt8), l.length ≤ n → (chew s l).2.length < 64 := by
  induction n using Nat.strongRecOn with
  | _ n ih =>
    intro s l hn
    by_cases h : 64 ≤ l.length
    · rw [chew_big h]; exact ih (l.length - 64) (by omega) _ _ (by simp)
    · rw [chew_small (by omega)]; show l.length < 64; omega
theorem chew_len (n : Nat) : ∀ (s : List Int) (l : List UInt8), s.length = 8 → l.length ≤ n → (chew s l).1.length = 8 := by
  induction n using Nat.strongRecOn with
  | _ n ih =>
    intro s l hs hn
    by_cases h : 64 ≤ l.length
    · rw [chew_big h]; exact ih (l.length - 64) (by omega) _ _ (blkF_len hs) (by simp)
    · rw [chew_small (by omega)]; exact hs

/-- a digest at block p, its rest in blocks of F: the eight numbers, the rest, the count -/
def DigS (F : Nat → Prop) (p : Nat) (H : Heap) (s : List Int) (r : List UInt8) (n : Int) : Prop :=
  (¬ F p ∧ NG ≤ p ∧ ∀ b, F b → NG ≤ b) ∧ s.length = 8 ∧ ∃ v, H[p]? = some (.cells (icells .u32 s ++ [v, .int .i64 n]).toArray T_sha_Digest (0, 0)) ∧ Buf F H v r
/-- a digest that has read l -/
def Dig (F : Nat → Prop) (p : Nat) (H : Heap) (l : List UInt8) : Prop := DigS F p H (chew beginL l).1 (chew beginL l).2 l.length
theorem DigS.keep {F S : Nat → Prop} {p : Nat} {H H' : Heap} {s : List Int} {r : List UInt8} {n : Int} (h : DigS F p H s r n) (k : Keep S H H') (hs : ∀ b, Wr F p b → ¬ S b) : DigS F p H' s r n := by
  obtain ⟨h1, h2, v, h3, h4⟩ := h
  exact ⟨h1, h2, v, k.at h3 (hs p (.inr rfl)), h4.keep k fun b hb => hs b (.inl hb)⟩
theorem Dig.keep {F S : Nat → Prop} {p : Nat} {H H' : Heap} {l : List UInt8} (h : Dig F p H l) (k : Keep S H H') (hs : ∀ b, Wr F p b → ¬ S b) : Dig F p H' l := DigS.keep h k hs
theorem Dig.lt {F : Nat → Prop} {p : Nat} {H : Heap} {l : List UInt8} (h : Dig F p H l) : p < H.size := by obtain ⟨_, _, v, h3, _⟩ := h; exact lt_of h3

theorem dig_g8 {s : List Int} {v w : Value} (h : s.length = 8) : (icells .u32 s ++ [v, w])[8]? = some v := by
  match s, h with | [a, b, c, d, e, f, g, h], _ => rfl
theorem dig_g9 {s : List Int} {v w : Value} (h : s.length = 8) : (icells .u32 s ++ [v, w])[9]? = some w := by
  match s, h with | [a, b, c, d, e, f, g, h], _ => rfl
theorem dig_s8 {s : List Int} {v w x : Value} (h : s.length = 8) : (icells .u32 s ++ [v, w]).set 8 x = icells .u32 s ++ [x, w] := by
  match s, h with | [a, b, c, d, e, f, g, h], _ => rfl
theorem dig_s9 {s : List Int} {v w x : Value} (h : s.length = 8) : (icells .u32 s ++ [v, w]).set 9 x = icells .u32 s ++ [v, x] := by
  match s, h with | [a, b, c, d, e, f, g, h], _ => rfl

theorem bld_Digest : buildV prg T_sha_Digest [(0, .agg (icells .u32 beginL).toArray)] = some (.agg (icells .u32 beginL ++ [Value.slice none 0 0, Value.int .i64 0]).toArray) := by kernel_rfl
theorem z_Digest : zcells prg T_sha_Digest = some (icells .u32 (List.replicate 8 0) ++ [Value.slice none 0 0, Value.int .i64 0]).toArray := by kernel_rfl

theorem c_ShaNew {H : Heap} (hT : ShaT H) : HCalls prg f_sha_New [] H fun u H' => u = Ptr H.size 0 ∧ Dig (H.size < ·) H.size H' [] ∧ Keep (fun _ => False) H H' := by
  apply sh_sha_New_calls
  unfold sh_sha_New
  have e : ldN 8 H (.pointer (some ⟨g_sha_begin, 0, none⟩)) = some (.agg (icells .u32 beginL).toArray) := by
    obtain ⟨T, f, h⟩ := hT.bgn
    exact ldN_mid (A := []) (B := icells .u32 beginL) (C := []) (by rw [List.nil_append, List.append_nil]; exact h) rfl rfl
  have hsz := hT.sz
  simp only [e, bld_Digest, Mpu_some, Mnew_some, Cells_agg]
  refine ⟨trivial, ?_, Keep.push⟩
  unfold Dig
  rw [chew_small (by simp)]
  exact ⟨⟨Nat.lt_irrefl _, hsz, fun b hb => Nat.le_trans hsz (Nat.le_of_lt hb)⟩, rfl, _, push_new, .inl ⟨rfl, rfl⟩⟩

theorem DigS.block {F P : Nat → Prop} {p : Nat} {H : Heap} {s : List Int} {r m : List UInt8} {n : Int} {v : Value} {k : Value → Heap → Prop} (h : DigS F p H s r n) (hT : ShaT H) (hb : Sl P H v m) (hm : 64 ≤ m.length) (hP : ∀ b, P b → b < H.size)
    (hk : ∀ H', DigS F p H' (blkF s m) r n → Keep (· = p) H H' → k (.tuple #[]) H') : Mcall prg f_sha_Digest_block [Ptr p 0, v] H k := by
  obtain ⟨h1, h2, w, h3, h4⟩ := h
  refine call_i (c_block hT h3 h2 hb hm hP) ?_
  rintro _ H' ⟨rfl, hd, kp⟩
  exact hk H' ⟨h1, blkF_len h2, w, hd, h4.keep kp fun b hb e => h1.1 (e ▸ hb)⟩ kp

theorem c_Write {F P : Nat → Prop} {p : Nat} {H : Heap} {v : Value} {l m : List UInt8} (h : Dig F p H l) (hT : ShaT H) (hb : Sl P H v m) (hP : ∀ b, P b → b < H.size ∧ ¬ F b ∧ b ≠ p) (hl : l.length + m.length ≤ 70368744177664) (hf : ∀ b, H.size ≤ b → F b) :
    HCalls prg f_sha_Digest_Write [Ptr p 0, v] H fun u H' => u = .tuple #[] ∧ Dig F p H' (l ++ m) ∧ Keep (Wr F p) H H' := by
  apply sh_sha_Digest_Write_calls
  unfold sh_sha_Digest_Write
  obtain ⟨hF, hs, w, hd, hr⟩ := h
  have hrl := chew_lt _ beginL l (Nat.le_refl _)
  have happ := chew_append _ beginL l m (Nat.le_refl _)
  generalize hS : (chew beginL l).1 = S at *
  generalize hR : (chew beginL l).2 = R at *
  have hw : IntKind.i64.wrap ((l.length : Int) + m.length) = ((l ++ m).length : Nat) := by rw [wrap_id (by omega) (by omega)]; simp
  have d9 : ld1 H (Ptr p 9) = some (.int .i64 l.length) := ld_l hd (dig_g9 hs)
  simp only [nck_ptr, fld_ptr, Mpu_some, Nat.zero_add, d9, hb.len, binV_int, intV, hw]
  rw [st_l hd (i := 9) (by simp [hs]) rfl, Mwr_some, dig_s9 hs]
  generalize hH1 : H.setIfInBounds p (.cells (icells .u32 S ++ [w, .int .i64 (l ++ m).length]).toArray T_sha_Digest (0, 0)) = H1
  have k1 : Keep (· = p) H H1 := by rw [← hH1]; exact Keep.set rfl
  have hd1 : H1[p]? = some (.cells (icells .u32 S ++ [w, .int .i64 (l ++ m).length]).toArray T_sha_Digest (0, 0)) := by rw [← hH1]; exact set_self hd
  have hr1 : Buf F H1 w R := hr.keep k1 fun b hb e => hF.1 (e ▸ hb)
  have hb1 : Sl P H1 v m := hb.keep k1 fun b hb => (hP b hb).2.2
  have d8 : ld1 H1 (Ptr p 8) = some w := ld_l hd1 (dig_g8 hs)
  have hT1 := hT.keep k1 fun b hb => by subst hb; exact hF.2.1
  -- behind the first part: the digest has whole blocks behind it, and an empty rest, or m is not begun
  have loop : ∀ (S' : List Int) (u : Value) (m' : List UInt8) (H2 : Heap), DigS F p H2 S' [] (l ++ m).length → Sl P H2 u m' → Keep (Wr F p) H H2 → chew S' m' = chew beginL (l ++ m) →
      L1 (fun k10 => fun t1_4 h11 =>
        Mpu (lenV t1_4) fun t64 =>
        Mpu (binV .no .geq t64 (.int .i64 64)) fun t65 =>
        Mcd t65 (
          Mpu (slS 1 t1_4 none (some (.int .i64 64)) none) fun t70 =>
          Mcall prg f_sha_Digest_block [Ptr p 0, t70] h11 fun t71 h12 =>
          Mpu (slS 1 t1_4 (some (.int .i64 64)) none none) fun t67 =>
          k10 t67 h12) (
          Mpu (nck (Ptr p 0)) fun t74 =>
          Mpu (fld 8 t74) fun t75 =>
          Mpu (ld1 h11 t75) fun t76 =>
          Mapp T_uint8 1 1 h11 t76 t1_4 fun t78 h13 =>
          Mpu (nck (Ptr p 0)) fun t79 =>
          Mpu (fld 8 t79) fun t80 =>
          Mwr (st1 h13 t80 t78) fun h14 =>
          (Value.tuple #[]) = .tuple #[] ∧ Dig F p h14 (l ++ m) ∧ Keep (Wr F p) H h14)) u H2 := by
    intro S' u m' H2 hD hu hk2 hch
    refine L1_i (fun u h => ∃ S' m', DigS F p h S' [] (l ++ m).length ∧ Sl P h u m' ∧ Keep (Wr F p) H h ∧ chew S' m' = chew beginL (l ++ m)) (fun u _ => match u with | .slice _ n _ => n | _ => 0) ⟨S', m', hD, hu, hk2, hch⟩ ?_
    rintro u g ⟨S', m', hD, hu, hkg, hch⟩ k hk
    simp only [hu.len, Mpu_some, binV_int, intV, Mcd_bool, decide_eq_true_eq]
    have hTg := hT.keep hkg fun b hb => hb.elim (hF.2.2 b) fun e => by subst e; exact hF.2.1
    by_cases h64 : (m'.length : Int) ≥ 64
    · rw [if_pos h64]
      have h64' : 64 ≤ m'.length := by omega
      obtain ⟨x, hx, hsx⟩ := hu.pre h64'
      have hx : slS 1 u none (some (.int .i64 64)) none = some x := hx
      rw [hx, Mpu_some]
      refine hD.block hTg hsx (by simp; omega) (fun b hb => Nat.lt_of_lt_of_le (hP b hb).1 hkg.1) fun g2 hD2 kp => ?_
      obtain ⟨y, hy, hsy⟩ := hu.tail h64'
      have hy : slS 1 u (some (.int .i64 64)) none none = some y := hy
      rw [hy, Mpu_some]
      refine hk _ _ ⟨_, _, hD2, hsy.keep kp fun b hb => (hP b hb).2.2, hkg.trans (kp.mono fun b _ h => .inr h), by rw [← hch, chew_big h64']⟩ ?_
      obtain ⟨a1, c1, e1, _⟩ := hu.sl
      obtain ⟨a2, c2, e2, _⟩ := hsy.sl
      subst e1 e2
      simp; omega
    · rw [if_neg h64]
      rw [chew_small (by omega)] at hch
      obtain ⟨_, hs', w', hd', hr'⟩ := hD
      have d8 : ld1 g (Ptr p 8) = some w' := ld_l hd' (dig_g8 hs')
      simp only [nck_ptr, fld_ptr, Mpu_some, Nat.zero_add, d8]
      refine hr'.app hu.bs (by simp; omega) (hf _ hkg.1) fun x g2 hx kx => ?_
      have hd2 := kx.at hd' hF.1
      rw [st_l hd2 (i := 8) (by simp [hs']) hx.sl.one, Mwr_some, dig_s8 hs']
      have kp : Keep (· = p) g2 (g2.setIfInBounds p (.cells (icells .u32 S' ++ [x, .int .i64 (l ++ m).length]).toArray T_sha_Digest (0, 0))) := Keep.set rfl
      refine ⟨trivial, ?_, (hkg.trans (kx.mono fun b _ h => .inl h)).trans (kp.mono fun b _ h => .inr h)⟩
      unfold Dig
      rw [← hch]
      exact ⟨hF, hs', x, set_self hd2, hx.keep kp fun b hb e => hF.1 (e ▸ hb)⟩
  simp only [nck_ptr, fld_ptr, Mpu_some, Nat.zero_add] at loop
  simp only [J1_eq, nck_ptr, fld_ptr, Mpu_some, Nat.zero_add, d8, hr1.sl.len, binV_int, intV, Mcd_bool, decide_eq_true_eq]
  by_cases h0 : (R.length : Int) > 0
  · rw [if_pos h0]
    have e1 : IntKind.i64.wrap (64 - (R.length : Int)) = ((64 - R.length : Nat) : Int) := by rw [wrap_id] <;> omega
    have e2 : minV true [.int .i64 ((64 - R.length : Nat) : Int), .int .i64 (m.length : Int)] = some (.int .i64 (min (64 - R.length) m.length : Nat)) := by
      simp only [minV, if_true]
      congr 2
      split <;> omega
    generalize hK : min (64 - R.length) m.length = K at e2
    have hK1 : K ≤ m.length := by omega
    have hK2 : K ≤ 64 - R.length := by omega
    have hK3 : K = m.length ∨ K = 64 - R.length := by omega
    obtain ⟨x, hx, hsx⟩ := hb1.pre hK1
    simp only [e1, e2, Mpu_some, hb1.len, hx]
    refine hr1.app hsx.bs (by simp; omega) (hf _ k1.1) fun x2 H2 hx2 kx2 => ?_
    have hd2 := kx2.at hd1 hF.1
    rw [st_l hd2 (i := 8) (by simp [hs]) hx2.sl.one, Mwr_some, dig_s8 hs]
    generalize hH3 : H2.setIfInBounds p (.cells (icells .u32 S ++ [x2, .int .i64 (l ++ m).length]).toArray T_sha_Digest (0, 0)) = H3
    have k3 : Keep (· = p) H2 H3 := by rw [← hH3]; exact Keep.set rfl
    have hd3 : H3[p]? = some (.cells (icells .u32 S ++ [x2, .int .i64 (l ++ m).length]).toArray T_sha_Digest (0, 0)) := by rw [← hH3]; exact set_self hd2
    have hx3 : Buf F H3 x2 (R ++ m.take K) := hx2.keep k3 fun b hb e => hF.1 (e ▸ hb)
    have kk : Keep (Wr F p) H H3 := ((k1.mono fun b _ h => .inr h).trans (kx2.mono fun b _ h => .inl h)).trans (k3.mono fun b _ h => .inr h)
    have hb3 : Sl P H3 v m := (hb1.keep kx2 fun b hb => (hP b hb).2.1).keep k3 fun b hb => (hP b hb).2.2
    obtain ⟨y, hy, hsy⟩ := hb3.tail hK1
    have d83 : ld1 H3 (Ptr p 8) = some x2 := ld_l hd3 (dig_g8 hs)
    have hD3 : DigS F p H3 S (R ++ m.take K) (l ++ m).length := ⟨hF, hs, x2, hd3, hx3⟩
    simp only [hy, Mpu_some, d83, hx3.sl.len, binV_int, intV, Mcd_bool, decide_eq_true_eq]
    by_cases h64 : ((R ++ m.take K).length : Int) < 64
    · rw [if_pos h64]
      have hKm : K = m.length := by simp at h64; omega
      subst hKm
      refine ⟨trivial, ?_, kk⟩
      unfold Dig
      rw [List.take_length] at hD3
      rw [happ, chew_small (by simp at h64 ⊢; omega)]
      exact hD3
    · rw [if_neg h64]
      have hKr : K = 64 - R.length := by simp at h64; omega
      have hlen : (R ++ m.take K).length = 64 := by simp; omega
      have hT3 := hT.keep kk fun b hb => hb.elim (hF.2.2 b) fun e => by subst e; exact hF.2.1
      have hs3 := hx3.sl
      refine hD3.block (P := fun b => F b ∧ b < H3.size) hT3 ⟨hs3.bs, hs3.sl, fun b hb => ⟨hs3.own b hb, ?_⟩⟩ (by omega) (fun b hb => hb.2) fun H4 hD4 k4 => ?_
      · rcases hx3 with ⟨rfl, _⟩ | ⟨b', o, c, cs, T, f, rfl, hp, hc, hb', _⟩
        · cases hb
        · cases hb; exact lt_of hb'
      · obtain ⟨_, hs4, w4, hd4, hr4⟩ := hD4
        have d84 : ld1 H4 (Ptr p 8) = some w4 := ld_l hd4 (dig_g8 hs4)
        obtain ⟨z, hz, hbz⟩ := hr4.cut0
        simp only [d84, Mpu_some, hz]
        rw [st_l hd4 (i := 8) (by simp [hs4]) hbz.sl.one, Mwr_some, dig_s8 hs4]
        have k5 : Keep (· = p) H4 (H4.setIfInBounds p (.cells (icells .u32 (blkF S (R ++ m.take K)) ++ [z, .int .i64 (l ++ m).length]).toArray T_sha_Digest (0, 0))) := Keep.set rfl
        refine loop (blkF S (R ++ m.take K)) y (m.drop K) _ ⟨hF, hs4, z, set_self hd4, hbz.keep k5 fun b hb e => hF.1 (e ▸ hb)⟩ ((hsy.keep k4 fun b hb => (hP b hb).2.2).keep k5 fun b hb => (hP b hb).2.2) ((kk.trans (k4.mono fun b _ h => .inr h)).trans (k5.mono fun b _ h => .inr h)) ?_
        have hsplit : R ++ m = (R ++ m.take K) ++ m.drop K := by rw [List.append_assoc, List.take_append_drop]
        generalize hX : R ++ m.take K = X at hsplit hlen
        generalize m.drop K = Y at hsplit
        have t1 : (X ++ Y).take 64 = X := by rw [List.take_append_of_le_length (Nat.le_of_eq hlen.symm), List.take_of_length_le (Nat.le_of_eq hlen)]
        have t2 : (X ++ Y).drop 64 = Y := by rw [List.drop_append_of_le_length (Nat.le_of_eq hlen.symm), List.drop_eq_nil_of_le (Nat.le_of_eq hlen), List.nil_append]
        rw [happ, hsplit, chew_big (l := X ++ Y) (by rw [List.length_append, hlen]; omega), t1, t2]
  · rw [if_neg h0]
    have hR0 : R = [] := List.length_eq_zero_iff.1 (by omega)
    subst hR0
    exact loop S v m H1 ⟨hF, hs, w, hd1, hr1⟩ hb1 (k1.mono fun b _ h => .inr h) (by rw [happ]; rfl)

end Go.Proofs.YtmhfanpijdgkjaaDoor
