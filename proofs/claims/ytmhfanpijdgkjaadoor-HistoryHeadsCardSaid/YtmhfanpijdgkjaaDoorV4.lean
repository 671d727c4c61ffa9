/- sha: Copy and Sum. -/
import Derived.Test.YtmhfanpijdgkjaaDoorV3
namespace Go.Proofs.YtmhfanpijdgkjaaDoor
open Go.X
set_option maxRecDepth 100000

theorem Dig.re {F G : Nat → Prop} {p : Nat} {H : Heap} {l : List UInt8} (h : Dig F p H l) (k : ∀ b, b < H.size → F b → G b) (hp : ¬ G p) (hg : ∀ b, G b → NG ≤ b) : Dig G p H l := by
  obtain ⟨h1, h2, v, h3, h4⟩ := h
  refine ⟨⟨hp, h1.2.1, hg⟩, h2, v, h3, ?_⟩
  rcases h4 with h | ⟨b, o, c, cs, T, f, rfl, hf, hc, hb, hr⟩
  · exact .inl h
  · exact .inr ⟨b, o, c, cs, T, f, rfl, k b (lt_of hb) hf, hc, hb, hr⟩

theorem c_DigCopy {F : Nat → Prop} {p : Nat} {H : Heap} {l : List UInt8} (h : Dig F p H l) :
    HCalls prg f_sha_Digest_Copy [Ptr p 0] H fun u H' => u = Ptr H.size 0 ∧ Dig (H.size < ·) H.size H' l ∧ Keep (fun _ => False) H H' := by
  apply sh_sha_Digest_Copy_calls
  unfold sh_sha_Digest_Copy
  have hplt := h.lt
  obtain ⟨hF, hs, v, hd, hr⟩ := h
  have hrl := chew_lt _ beginL l (Nat.le_refl _)
  have hld : ldN 10 H (Ptr p 0) = some (.agg (icells .u32 (chew beginL l).1 ++ [v, Value.int .i64 l.length]).toArray) := ldN_mid (A := []) (C := []) (by rw [List.nil_append, List.append_nil]; exact hd) rfl (by simp [hs])
  simp only [nck_ptr, Mpu_some, hld, z_Digest, Mnew_some]
  have hq : (H.push (.cells (icells .u32 (List.replicate 8 0) ++ [Value.slice none 0 0, Value.int .i64 0]).toArray T_sha_Digest (0, 0)))[H.size]? = some (.cells (icells .u32 (List.replicate 8 0) ++ [Value.slice none 0 0, Value.int .i64 0]).toArray T_sha_Digest (0, 0)) := push_new
  have hst := stN_mid (n := 10) (o := 0) (A := []) (B := icells .u32 (List.replicate 8 0) ++ [Value.slice none 0 0, Value.int .i64 0]) (C := []) (B' := icells .u32 (chew beginL l).1 ++ [v, Value.int .i64 l.length]) (by rw [List.nil_append, List.append_nil]; exact hq) rfl (by simp) (by simp [hs]) (by
    rw [Array.all_eq_true_iff_forall_mem]
    intro x hx
    simp only [List.mem_toArray, List.mem_append, List.mem_cons, List.not_mem_nil, or_false] at hx
    rcases hx with hx | rfl | rfl
    · exact icells_one x hx
    · exact hr.sl.one
    · rfl)
  simp only [List.nil_append, List.append_nil] at hst
  rw [hst, Mwr_some]
  generalize hH2 : (H.push (.cells (icells .u32 (List.replicate 8 0) ++ [Value.slice none 0 0, Value.int .i64 0]).toArray T_sha_Digest (0, 0))).setIfInBounds H.size (.cells (icells .u32 (chew beginL l).1 ++ [v, Value.int .i64 l.length]).toArray T_sha_Digest (0, 0)) = H2
  have k2 : Keep (fun _ => False) H H2 := by
    rw [← hH2]
    refine ⟨by simp, fun i hi _ => ?_⟩
    rw [Array.getElem?_setIfInBounds, if_neg (by omega), Array.getElem?_push, if_neg (by omega)]
  have hs2 : H2.size = H.size + 1 := by rw [← hH2]; simp
  have hq2 : H2[H.size]? = some (.cells (icells .u32 (chew beginL l).1 ++ [v, Value.int .i64 l.length]).toArray T_sha_Digest (0, 0)) := by rw [← hH2]; exact set_self hq
  have hd2 := k2.at hd id
  have hr2 := hr.keep k2 fun _ _ => id
  have d8 : ld1 H2 (Ptr p 8) = some v := ld_l hd2 (dig_g8 hs)
  simp only [fld_ptr, Mpu_some, Nat.zero_add, d8]
  refine call_i (c_CloneS (F := (H.size < ·)) hr2.sl (by omega) fun b hb => by omega) ?_
  rintro x H3 ⟨hx, k3⟩
  have hq3 := k3.at hq2 (Nat.lt_irrefl _)
  rw [st_l hq3 (i := 8) (by simp [hs]) hx.sl.one, Mwr_some, dig_s8 hs]
  have k4 : Keep (· = H.size) H3 (H3.setIfInBounds H.size (.cells (icells .u32 (chew beginL l).1 ++ [x, Value.int .i64 l.length]).toArray T_sha_Digest (0, 0))) := Keep.set rfl
  have hNG : NG ≤ H.size := by have := hF.2.1; omega
  refine ⟨trivial, ⟨⟨Nat.lt_irrefl _, hNG, fun b hb => by omega⟩, hs, x, set_self hq3, hx.keep k4 fun b hb e => by omega⟩, ?_⟩
  refine ⟨by have := k2.1; have := k3.1; have := k4.1; omega, fun i hi _ => ?_⟩
  rw [k4.2 i (by have := k3.1; omega) (by omega), k3.2 i (by omega) (by omega), k2.2 i hi id]

/- the sum -/
def zN (n : Nat) : Nat := (64 - (n + 9) % 64) % 64
def bO (n : Int) : UInt8 := UInt8.ofNat (n % 256).toNat
def lenB (N : Int) (i : Nat) : UInt8 := bO (shrI .u64 N (8 * (i : Int)))
def lensB (N : Int) (j : Nat) : List UInt8 := (List.range j).map fun i => lenB N (7 - i)
@[simp] theorem lensB_len {N : Int} {j : Nat} : (lensB N j).length = j := by simp [lensB]
theorem lensB_succ {N : Int} {j : Nat} : lensB N (j + 1) = lensB N j ++ [lenB N (7 - j)] := by simp [lensB, List.range_succ]
def bitN (n : Nat) : Int := IntKind.u64.wrap (IntKind.u64.wrap n * 8)
def padF (n : Nat) : List UInt8 := (128 :: List.replicate (zN n) 0) ++ lensB (bitN n) 8
def outW (x : Int) : List UInt8 := [bO (shrI .u32 x 24), bO (shrI .u32 x 16), bO (shrI .u32 x 8), bO x]
def outB (s : List Int) : List UInt8 := (s.map outW).flatten
theorem outB_len {s : List Int} : (outB s).length = 4 * s.length := by
  induction s with
  | nil => rfl
  | cons x s ih => simp only [outB, List.map_cons, List.flatten_cons, List.length_append, List.length_cons] at ih ⊢; rw [ih]; simp [outW]; omega
def shaF (l : List UInt8) : List UInt8 := outB (chew beginL (l ++ padF l.length)).1
theorem shaF_len {l : List UInt8} : (shaF l).length = 32 := by
  unfold shaF; rw [outB_len, chew_len _ _ _ rfl (Nat.le_refl _)]
theorem padF_len {n : Nat} : (padF n).length ≤ 72 := by
  have : zN n < 64 := Nat.mod_lt _ (by omega)
  simp [padF]; omega

theorem set4 {A B : List Value} {a b c d x y z w : Value} {n : Nat} (hn : n = A.length) : ((((A ++ a :: b :: c :: d :: B).set n x).set (n + 1) y).set (n + 2) z).set (n + 3) w = (A ++ [x, y, z, w]) ++ B := by
  subst hn
  induction A with
  | nil => rfl
  | cons v A ih => simp at ih ⊢; try exact ih

theorem out_step {s : List Int} {i : Nat} {x : Int} (h : s[i]? = some x) (hs : s.length = 8) :
    ((((bcells (outB (s.take i) ++ List.replicate (32 - 4 * i) 0)).set (4 * i) (.int .u8 (bO (shrI .u32 x 24)).toNat)).set (4 * i + 1) (.int .u8 (bO (shrI .u32 x 16)).toNat)).set (4 * i + 2) (.int .u8 (bO (shrI .u32 x 8)).toNat)).set (4 * i + 3) (.int .u8 (bO x).toNat)
      = bcells (outB (s.take (i + 1)) ++ List.replicate (32 - 4 * (i + 1)) 0) := by
  obtain ⟨hlt, rfl⟩ := List.getElem?_eq_some_iff.1 h
  have e : 32 - 4 * i = (32 - 4 * (i + 1)) + 4 := by omega
  have e2 : outB (s.take (i + 1)) = outB (s.take i) ++ outW s[i] := by
    unfold outB
    rw [show s.take (i + 1) = s.take i ++ [s[i]] by rw [List.take_add_one, List.getElem?_eq_getElem hlt]; rfl, List.map_append, List.flatten_append]; simp
  have e3 : List.replicate (32 - 4 * i) (0 : UInt8) = 0 :: 0 :: 0 :: 0 :: List.replicate (32 - 4 * (i + 1)) 0 := by rw [e]; rfl
  rw [e3, e2, bcells_append]
  simp only [bcells_cons]
  rw [set4 (by rw [bcells_length, outB_len]; simp; omega)]
  simp [outW]

theorem c_DigSum {F : Nat → Prop} {p : Nat} {H : Heap} {l : List UInt8} (h : Dig F p H l) (hT : ShaT H) (hl : l.length ≤ 35184372088832) :
    HCalls prg f_sha_Digest_Sum [Ptr p 0] H fun u H' => u = bv (shaF l) ∧ Keep (fun _ => False) H H' := by
  apply sh_sha_Digest_Sum_calls
  unfold sh_sha_Digest_Sum
  simp only [z_Hash, Mnew_some]
  have hplt := h.lt
  generalize hH1 : H.push (.cells (bcells zeroH).toArray T_sha_Hash (0, 0)) = H1
  have k1 : Keep (fun _ => False) H H1 := by rw [← hH1]; exact Keep.push
  have hs1 : H1.size = H.size + 1 := by rw [← hH1]; simp
  have hr1 : H1[H.size]? = some (.cells (bcells zeroH).toArray T_sha_Hash (0, 0)) := by rw [← hH1]; exact push_new
  refine call_i (c_DigCopy (h.keep k1 fun _ _ => id)) ?_
  rintro _ H2 ⟨rfl, ho, k2⟩
  have h2 := (h.keep k1 fun _ _ => id).keep k2 fun _ _ => id
  have hr2 := k2.at hr1 id
  have hT2 := (hT.keep k1 fun _ h => h.elim).keep k2 fun _ h => h.elim
  obtain ⟨hF, hs, v, hd, _⟩ := h2
  have hNGp := hF.2.1
  generalize hqe : H1.size = q at *
  have hqlt := ho.lt
  have ho2 : Dig (fun b => q < b ∧ b < H2.size) q H2 l := ho.re (fun b hb h => ⟨h, hb⟩) (fun h => Nat.lt_irrefl _ h.1) fun b hb => by omega
  have d9 : ∀ h, Keep (H2.size ≤ ·) H2 h → ld1 h (Ptr p 9) = some (.int .i64 l.length) := fun h k => ld_l (k.at hd (by omega)) (dig_g9 hs)
  have d9' := d9 H2 Keep.refl
  simp only [nck_ptr, fld_ptr, Mpu_some, Nat.zero_add, d9', cvI_int, binV_int, intV, bsl1, Mnews_some, J1_eq]
  have hbit : IntKind.u64.wrap (IntKind.u64.wrap (l.length : Int) * 8) = bitN l.length := rfl
  rw [hbit]
  -- the noughts
  refine L1_i (fun u h => ∃ j, j ≤ zN l.length ∧ Buf (H2.size ≤ ·) h u (128 :: List.replicate j 0) ∧ Keep (H2.size ≤ ·) H2 h) (fun u _ => match u with | .slice _ n _ => 100 - n | _ => 0)
    ⟨0, Nat.zero_le _, .inr ⟨H2.size, 0, 1, _, T_uint8, (0, 0), rfl, Nat.le_refl _, Nat.le_refl _, push_new, by simp, fun _ _ _ _ => thaw_00, rfl⟩, Keep.push⟩ ?_
  rintro u h3 ⟨j, hj, hu, k3⟩ k hk
  have hz : zN l.length < 64 := Nat.mod_lt _ (by omega)
  have e1 : IntKind.i64.wrap ((l.length : Int) + ((128 :: List.replicate j 0 : List UInt8).length : Nat)) = ((l.length + (j + 1) : Nat) : Int) := by rw [wrap_id] <;> simp <;> omega
  have e2 : IntKind.i64.wrap (((l.length + (j + 1) : Nat) : Int) + 8) = ((l.length + (j + 1) + 8 : Nat) : Int) := by rw [wrap_id] <;> omega
  have e3 : Int.tmod ((l.length + (j + 1) + 8 : Nat) : Int) 64 = (((l.length + (j + 1) + 8) % 64 : Nat) : Int) := by
    rw [Int.tmod_eq_emod_of_nonneg (by omega)]; omega
  simp only [d9 h3 k3, Mpu_some, hu.sl.len, binV_int, intV, e1, e2]
  rw [if_neg (by decide)]
  simp only [Mpu_some, e3, binV_int, intV, Mcd_bool]
  by_cases hne : ((((l.length + (j + 1) + 8) % 64 : Nat) : Int) != 0) = true
  · rw [if_pos hne]
    have hne' : (l.length + (j + 1) + 8) % 64 ≠ 0 := fun h0 => by rw [h0] at hne; exact absurd hne (by decide)
    have hjz : j < zN l.length := by
      unfold zN at hj ⊢
      omega
    have kp : Keep (fun _ => False) h3 (h3.push (.cells #[.int .u8 0] T_uint8 (0, 0))) := Keep.push
    refine (hu.keep kp fun _ _ => id).app (m := [0]) (Bs.mk push_new rfl (by simp) rfl) (by simp; omega) (by have := k3.1; simp; omega) fun x h4 hx k4 => ?_
    refine hk _ _ ⟨j + 1, hjz, by rw [show (128 :: List.replicate (j + 1) 0 : List UInt8) = (128 :: List.replicate j 0) ++ [0] by rw [List.cons_append, ← List.replicate_succ']]; exact hx, k3.trans ((kp.mono fun _ _ h => h.elim).trans k4)⟩ ?_
    obtain ⟨a1, c1, e1, _⟩ := hu.sl.sl
    obtain ⟨a2, c2, e2, _⟩ := hx.sl.sl
    subst e1 e2
    simp; omega
  · rw [if_neg hne]
    have hne' : (l.length + (j + 1) + 8) % 64 = 0 := by
      have : ¬ ((((l.length + (j + 1) + 8) % 64 : Nat) : Int) ≠ 0) := by simpa only [bne_iff_ne] using hne
      omega
    have hjz : j = zN l.length := by
      unfold zN at hj ⊢
      omega
    subst hjz
    clear hk hj e1 e2 e3 hne hne'
    simp only [J2_eq]
    -- the count of bits
    refine L2_i (fun u i h => ∃ j, j ≤ 8 ∧ i = .int .i64 (7 - (j : Nat) : Int) ∧ Buf (H2.size ≤ ·) h u ((128 :: List.replicate (zN l.length) 0) ++ lensB (bitN l.length) j) ∧ Keep (H2.size ≤ ·) H2 h) (fun _ i _ => match i with | .int _ i => (i + 1).toNat | _ => 0)
      ⟨0, by omega, rfl, by simp [lensB]; exact hu, k3⟩ ?_
    rintro u _ h4 ⟨j, hj, rfl, hu, k4⟩ k hk
    simp only [binV_int, intV, Mpu_some, Mcd_bool, decide_eq_true_eq]
    by_cases hlt : (7 - (j : Int)) ≥ 0
    · rw [if_pos hlt]
      have e1 : IntKind.i64.wrap (8 * (7 - (j : Int))) = 8 * ((7 - j : Nat) : Int) := by rw [wrap_id] <;> omega
      have e2 : IntKind.i64.wrap (7 - (j : Int) - 1) = 7 - ((j + 1 : Nat) : Int) := by rw [wrap_id] <;> omega
      rw [e1, v_shr (by omega)]
      simp only [Mpu_some, cvI_int, wrap_u8', e2]
      have hlb : (UInt8.ofNat ((shrI .u64 (bitN l.length) (8 * ((7 - j : Nat) : Int))) % 256).toNat) = lenB (bitN l.length) (7 - j) := rfl
      rw [hlb, bsl1, Mnews_some]
      have kp : Keep (fun _ => False) h4 (h4.push (.cells #[.int .u8 (lenB (bitN l.length) (7 - j)).toNat] T_uint8 (0, 0))) := Keep.push
      refine (hu.keep kp fun _ _ => id).app (m := [lenB (bitN l.length) (7 - j)]) (Bs.mk push_new rfl (by simp) rfl) (by simp; omega) (by have := k4.1; simp; omega) fun x h5 hx k5 => ?_
      refine hk _ _ _ ⟨j + 1, by omega, rfl, by rw [lensB_succ, ← List.append_assoc]; exact hx, k4.trans ((kp.mono fun _ _ h => h.elim).trans k5)⟩ ?_
      show ((7 - ((j + 1 : Nat) : Int)) + 1).toNat < (7 - (j : Int) + 1).toNat
      omega
    · rw [if_neg hlt]
      obtain rfl : j = 8 := by omega
      clear hk hj hlt
      have hu : Buf (H2.size ≤ ·) h4 u (padF l.length) := hu
      have hul := padF_len (n := l.length)
      have ho4 : Dig (fun b => q < b ∧ b < H2.size ∨ h4.size ≤ b) q h4 l := (ho2.keep k4 fun b hb hb' => by
        rcases hb with hb | rfl
        · omega
        · omega).re (fun b hb h => .inl h) (fun h => by have := k4.1; omega) fun b hb => by have := k4.1; omega
      have hT4 := hT2.keep k4 fun b hb => by omega
      have hus := hu.sl
      refine call_i (c_Write (P := fun b => H2.size ≤ b ∧ b < h4.size) ho4 hT4 ⟨hus.bs, hus.sl, fun b hb => ⟨hus.own b hb, ?_⟩⟩ (fun b hb => ⟨hb.2, by omega, by omega⟩) (by omega) fun b hb => .inr hb) ?_
      · rcases hu with ⟨rfl, _⟩ | ⟨b', o, c, cs, T, f, rfl, hp, hc, hb', _⟩
        · cases hb
        · cases hb; exact lt_of hb'
      rintro _ h5 ⟨rfl, ho5, k5⟩
      obtain ⟨hF5, hs5, v5, hd5, _⟩ := ho5
      have hr5 : h5[H.size]? = some (.cells (bcells zeroH).toArray T_sha_Hash (0, 0)) := k5.at (k4.at hr2 (by omega)) fun h => by
        rcases h with h | h
        · have := k4.1; omega
        · omega
      have hsh : shaF l = outB (chew beginL (l ++ padF l.length)).1 := rfl
      generalize (chew beginL (l ++ padF l.length)).1 = S at *
      have hq6 : (h5.push (.cells (bcells zeroH).toArray T_sha_Hash (0, 0)))[h5.size]? = some (.cells (bcells zeroH).toArray T_sha_Hash (0, 0)) := push_new
      have hd6 := push_old (y := .cells (bcells zeroH).toArray T_sha_Hash (0, 0)) hd5
      have hr6 := push_old (y := .cells (bcells zeroH).toArray T_sha_Hash (0, 0)) hr5
      have hld : ldN 8 (h5.push (.cells (bcells zeroH).toArray T_sha_Hash (0, 0))) (Ptr q 0) = some (.agg (icells .u32 S).toArray) := ldN_mid (A := []) (B := icells .u32 S) (by rw [List.nil_append]; exact hd6) rfl (by simp [hs5])
      rw [hld, Mpu_some]
      have hq5 : q < h5.size := by have := lt_of hd5; omega
      have k6 : Keep (fun _ => False) h5 (h5.push (.cells (bcells zeroH).toArray T_sha_Hash (0, 0))) := Keep.push
      generalize hH6 : h5.push (.cells (bcells zeroH).toArray T_sha_Hash (0, 0)) = h6 at *
      generalize hze : h5.size = z at *
      refine L1_i (fun u h => ∃ i, i ≤ 8 ∧ u = .int .i64 (i : Nat) ∧ h[z]? = some (.cells (bcells (outB (S.take i) ++ List.replicate (32 - 4 * i) 0)).toArray T_sha_Hash (0, 0)) ∧ Keep (· = z) h6 h)
        (fun u _ => match u with | .int _ t => 8 - t.toNat | _ => 0) ⟨0, by omega, rfl, hq6, Keep.refl⟩ ?_
      rintro _ x ⟨i, hi, rfl, hx, kx⟩ k hk
      simp only [binV_int, intV, Mpu_some, Mcd_bool, decide_eq_true_eq]
      have hinc : IntKind.i64.wrap ((i : Int) + 1) = (i + 1 : Nat) := by rw [wrap_id] <;> omega
      by_cases hlt : (i : Int) < 8
      · rw [if_pos hlt]
        have hlt' : i < 8 := by omega
        have hi4 : IntKind.i64.wrap (4 * (i : Int)) = ((4 * i : Nat) : Int) := by rw [wrap_id] <;> omega
        have a1 : IntKind.i64.wrap (((4 * i : Nat) : Int) + 1) = ((4 * i + 1 : Nat) : Int) := by rw [wrap_id] <;> omega
        have a2 : IntKind.i64.wrap (((4 * i : Nat) : Int) + 2) = ((4 * i + 2 : Nat) : Int) := by rw [wrap_id] <;> omega
        have a3 : IntKind.i64.wrap (((4 * i : Nat) : Int) + 3) = ((4 * i + 3 : Nat) : Int) := by rw [wrap_id] <;> omega
        have hg : S[i]? = some (S.getD i 0) := getD_of (by omega)
        have hiv : ixV 8 false 1 (.agg (icells .u32 S).toArray) (.int .i64 (i : Nat)) = some (.int .u32 (S.getD i 0)) := by
          simp only [ixV]; rw [if_pos ⟨by omega, by omega⟩]
          simpa using icells_get (k := .u32) hg
        have s24 : ∀ x, binV .no .shr (.int .u32 x) (.int .u64 24) = some (.int .u32 (shrI .u32 x 24)) := fun x => v_shr (by omega)
        have s16 : ∀ x, binV .no .shr (.int .u32 x) (.int .u64 16) = some (.int .u32 (shrI .u32 x 16)) := fun x => v_shr (by omega)
        have s8 : ∀ x, binV .no .shr (.int .u32 x) (.int .u64 8) = some (.int .u32 (shrI .u32 x 8)) := fun x => v_shr (by omega)
        have ix : ∀ j, j < 32 → ixA 32 1 (.pointer (some ⟨z, 0, none⟩)) (.int .i64 (j : Nat)) = some (Ptr z j) := fun j hj => by rw [ixA_at hj]; simp
        have bw : ∀ n : Int, (UInt8.ofNat (n % 256).toNat) = bO n := fun n => rfl
        simp only [hiv, Mpu_some, hi4, a1, a2, a3, s24, s16, s8, cvI_int, wrap_u8', bw, ix (4 * i) (by omega), ix (4 * i + 1) (by omega), ix (4 * i + 2) (by omega), ix (4 * i + 3) (by omega), hinc]
        have hlen : (bcells (outB (S.take i) ++ List.replicate (32 - 4 * i) 0)).length = 32 := by rw [bcells_length, List.length_append, outB_len]; simp [hs5]; omega
        rw [st_l hx (i := 4 * i) (by omega) rfl, Mwr_some, st_l (set_self hx) (i := 4 * i + 1) (by simp only [List.length_set]; omega) rfl, Mwr_some, st_l (set_self (set_self hx)) (i := 4 * i + 2) (by simp only [List.length_set]; omega) rfl, Mwr_some,
          st_l (set_self (set_self (set_self hx))) (i := 4 * i + 3) (by simp only [List.length_set]; omega) rfl, Mwr_some]
        refine hk _ _ ⟨i + 1, hlt', rfl, ?_, (((kx.trans (Keep.set rfl)).trans (Keep.set rfl)).trans (Keep.set rfl)).trans (Keep.set rfl)⟩ (by show 8 - (i + 1) < 8 - i; omega)
        rw [set_self (set_self (set_self (set_self hx))), out_step hg hs5]
      · rw [if_neg hlt]
        obtain rfl : i = 8 := by omega
        rw [List.take_of_length_le (by omega), ← hsh] at hx
        have hx : x[z]? = some (.cells (bcells (shaF l)).toArray T_sha_Hash (0, 0)) := by rw [hx]; simp
        have hrx := kx.at hr6 (show H.size ≠ z by omega)
        rw [ldN_bytes hx shaF_len, Mpu_some, stN_bytes hrx (n := 32) rfl shaF_len, Mwr_some, ldN_bytes (set_self hrx) shaF_len, Mpu_some]
        refine ⟨rfl, ?_⟩
        have sz6 : h6.size = z + 1 := by rw [← hH6]; simp [hze]
        refine ⟨by simp; have := kx.1; have := k1.1; have := k2.1; have := k4.1; have := k5.1; omega, fun i hi _ => ?_⟩
        have q1 := k1.1; have q2 := k2.1; have q4 := k4.1; have q5 := k5.1
        rw [Array.getElem?_setIfInBounds, if_neg (by omega), kx.2 i (by omega) (by omega), k6.2 i (by omega) id, k5.2 i (by omega) (fun h => by rcases h with h | h <;> omega), k4.2 i (by omega) (by omega), k2.2 i (by omega) id, k1.2 i hi id]

end Go.Proofs.YtmhfanpijdgkjaaDoor
