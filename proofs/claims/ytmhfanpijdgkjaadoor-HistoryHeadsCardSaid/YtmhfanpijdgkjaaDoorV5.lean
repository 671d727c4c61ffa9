/- tag: sums of a kind. -/
import Derived.Test.YtmhfanpijdgkjaaDoorV4
namespace Go.Proofs.YtmhfanpijdgkjaaDoor
open Go.X
set_option maxRecDepth 100000

theorem rows1_one' {P : Nat → Prop} {H : Heap} {xs : List (Value × List UInt8)} (h : ∀ x ∈ xs, Sl P H x.1 x.2) : ∀ x ∈ rows1 (xs.map (·.1)), ∀ c ∈ x, c.oneCell' = true :=
  rows1_one fun v hv => by obtain ⟨x, hx, rfl⟩ := List.mem_map.1 hv; exact (h x hx).one

def partsB (xs : List (Value × List UInt8)) : List UInt8 := (xs.map (·.2)).flatten
theorem partsB_take {xs : List (Value × List UInt8)} {i : Nat} {x : Value × List UInt8} (h : xs[i]? = some x) : partsB (xs.take (i + 1)) = partsB (xs.take i) ++ x.2 := by
  obtain ⟨hlt, rfl⟩ := List.getElem?_eq_some_iff.1 h
  unfold partsB
  rw [show xs.take (i + 1) = xs.take i ++ [xs[i]] by rw [List.take_add_one, List.getElem?_eq_getElem hlt]; rfl, List.map_append, List.flatten_append]; simp
theorem partsB_le {xs : List (Value × List UInt8)} {i : Nat} : (partsB (xs.take i)).length ≤ (partsB xs).length := by
  have : partsB xs = partsB (xs.take i) ++ partsB (xs.drop i) := by
    unfold partsB; rw [← List.flatten_append, ← List.map_append, List.take_append_drop]
  rw [this, List.length_append]; omega

theorem c_tag_sum {Pv Pd : Nat → Prop} {H : Heap} {v : Value} {xs : List (Value × List UInt8)} {kind : Int} (hv : SlE 1 Pv H v (rows1 (xs.map (·.1)))) (hx : ∀ x ∈ xs, Sl Pd H x.1 x.2) (hT : ShaT H) (hPv : ∀ b, Pv b → b < H.size) (hPd : ∀ b, Pd b → b < H.size)
    (hl : (partsB xs).length + 1 ≤ 35184372088832) (hn : xs.length ≤ 1000000) :
    HCalls prg f_tag_sum [.int .i64 kind, v] H fun u H' => u = bv (shaF (bO kind :: partsB xs)) ∧ Keep (fun _ => False) H H' := by
  apply sh_tag_sum_calls
  unfold sh_tag_sum
  simp only [z_Hash, Mnew_some]
  generalize hH1 : H.push (.cells (bcells zeroH).toArray T_sha_Hash (0, 0)) = H1
  have k1 : Keep (fun _ => False) H H1 := by rw [← hH1]; exact Keep.push
  have hs1 : H1.size = H.size + 1 := by rw [← hH1]; simp
  have hr1 : H1[H.size]? = some (.cells (bcells zeroH).toArray T_sha_Hash (0, 0)) := by rw [← hH1]; exact push_new
  refine call_i (c_ShaNew (hT.keep k1 fun _ h => h.elim)) ?_
  rintro _ H2 ⟨rfl, hD, k2⟩
  have hT2 := (hT.keep k1 fun _ h => h.elim).keep k2 fun _ h => h.elim
  have hr2 := k2.at hr1 id
  have hsz := hT.sz
  generalize hde : H1.size = d at *
  have hdlt := hD.lt
  have bw : ∀ n : Int, (UInt8.ofNat (n % 256).toNat) = bO n := fun n => rfl
  simp only [cvI_int, Mpu_some, wrap_u8', bw, bsl1, Mnews_some]
  have hD2 : Dig (fun b => d < b ∧ b ≠ H2.size) d H2 [] := hD.re (fun b hb h => ⟨h, by omega⟩) (fun h => Nat.lt_irrefl _ h.1) fun b hb => by omega
  generalize hH3 : H2.push (.cells #[.int .u8 (bO kind).toNat] T_uint8 (0, 0)) = H3
  have k3 : Keep (fun _ => False) H2 H3 := by rw [← hH3]; exact Keep.push
  have hs3 : H3.size = H2.size + 1 := by rw [← hH3]; simp
  have hb3 : Sl (· = H2.size) H3 (.slice (some ⟨H2.size, 0, none⟩) 1 1) [bO kind] := by
    rw [← hH3]
    exact ⟨Bs.mk push_new rfl (by simp) rfl, ⟨_, 1, rfl, Nat.le_refl _, fun x hx => by cases hx; rfl⟩, fun b hb => by cases hb; rfl⟩
  have hT3 := hT2.keep k3 fun _ h => h.elim
  refine call_i (c_Write (hD2.keep k3 fun _ _ => id) hT3 hb3 (fun b hb => by subst hb; exact ⟨by omega, fun h => h.2 rfl, by omega⟩) (by simp) fun b hb => ⟨by omega, by omega⟩) ?_
  rintro _ H4 ⟨rfl, hD4, k4⟩
  have hlen : lenV v = some (.int .i64 xs.length) := by have := hv.len; simpa using this
  have k4' : Keep (d ≤ ·) H2 H4 := (k3.mono fun _ _ h => h.elim).trans (k4.mono fun b _ h => by rcases h with h | h <;> omega)
  have k04 : Keep (d ≤ ·) H H4 := (k1.mono fun _ _ h => h.elim).trans ((k2.mono fun _ _ h => h.elim).trans k4')
  simp only [hlen, Mpu_some, J1_eq]
  refine L1_i (fun u h => ∃ i, i ≤ xs.length ∧ u = .int .i64 (i : Nat) ∧ Dig (fun b => d < b ∧ b ≠ H2.size) d h (bO kind :: partsB (xs.take i)) ∧ Keep (d ≤ ·) H4 h) (fun u _ => match u with | .int _ t => xs.length - t.toNat | _ => 0)
    ⟨0, Nat.zero_le _, rfl, by simpa [partsB] using hD4, Keep.refl⟩ ?_
  rintro _ h ⟨i, hi, rfl, hDi, kh⟩ k hk
  simp only [binV_int, intV, Mpu_some, Mcd_bool, decide_eq_true_eq]
  have hinc : IntKind.i64.wrap ((i : Int) + 1) = (i + 1 : Nat) := by rw [wrap_id] <;> omega
  have kall := k04.trans kh
  have hTh := hT.keep kall fun b hb => by omega
  by_cases hlt : (i : Int) < xs.length
  · rw [if_pos hlt]
    have hlt' : i < xs.length := by omega
    have hg : xs[i]? = some xs[i] := List.getElem?_eq_getElem hlt'
    have hvh := hv.keep kall fun b hb hb' => by have := hPv b hb; omega
    obtain ⟨b, o, hix, hpt, _⟩ := hvh.at (i := i) (x := [xs[i].1]) (rows1_get (by simp [hg]))
    have hsl := (hx xs[i] (by simp)).keep kall fun b hb hb' => by have := hPd b hb; omega
    simp only [hix, Mpu_some, hpt.cell0 rfl, hinc]
    have hle := partsB_le (xs := xs) (i := i + 1)
    rw [partsB_take hg, List.length_append] at hle
    refine call_i (c_Write hDi hTh hsl (fun b hb => ⟨Nat.lt_of_lt_of_le (hPd b hb) kall.1, by have := hPd b hb; omega, by have := hPd b hb; omega⟩) (by simp only [List.length_cons]; omega) fun b hb => ⟨by have := kh.1; have := k4'.1; omega, by have := kh.1; have := k4.1; omega⟩) ?_
    rintro _ h2 ⟨rfl, hDj, kj⟩
    refine hk _ _ ⟨i + 1, hlt', rfl, by rw [partsB_take hg]; exact hDj, kh.trans (kj.mono fun b _ h => by rcases h with h | h <;> omega)⟩ (by show xs.length - (i + 1) < xs.length - i; omega)
  · rw [if_neg hlt]
    obtain rfl : i = xs.length := by omega
    rw [List.take_length] at hDi
    refine call_i (c_DigSum hDi hTh (by simp; omega)) ?_
    rintro _ h2 ⟨rfl, k5⟩
    have hr5 := k5.at (kh.at (k4'.at hr2 (by omega)) (by omega)) id
    rw [stN_bytes hr5 (n := 32) rfl shaF_len, Mwr_some, ldN_bytes (set_self hr5) shaF_len, Mpu_some]
    refine ⟨rfl, ?_⟩
    refine ⟨by simp; have := kall.1; have := k5.1; omega, fun i hi _ => ?_⟩
    have q1 := kall.1; have q2 := k5.1
    rw [Array.getElem?_setIfInBounds, if_neg (by omega), k5.2 i (by omega) id, kall.2 i hi (by omega)]

theorem bsl2S {a b : Option Addr} {n m c d : Nat} : bslV prg T_S_uint8 2 [(0, .slice a n c), (1, .slice b m d)] = some #[.slice a n c, .slice b m d] := by kernel_rfl

theorem c_tag_Record {Pd : Nat → Prop} {H : Heap} {v : Value} {a m : List UInt8} (ha : a.length = 32) (hx : Sl Pd H v m) (hT : ShaT H) (hPd : ∀ b, Pd b → b < H.size) (hl : m.length ≤ 1099511627776) :
    HCalls prg f_tag_Record [bv a, v] H fun u H' => u = bv (shaF (7 :: (a ++ m))) ∧ Keep (fun _ => False) H H' := by
  apply sh_tag_Record_calls
  unfold sh_tag_Record
  simp only [cells_bv, z_Hash, Mnew_some]
  have e : ∀ q, slA 32 1 (.pointer (some ⟨q, 0, none⟩)) none none none = some (.slice (some ⟨q, 0, none⟩) 32 32) := fun q => rfl
  obtain ⟨va, vc, hve, _⟩ := hx.sl
  simp only [e, Mpu_some, hve, bsl2S, Mnews_some]
  rw [← hve]
  generalize hH1 : H.push (.cells (bcells a).toArray T_sha_Hash (0, 0)) = H1
  have k1 : Keep (fun _ => False) H H1 := by rw [← hH1]; exact Keep.push
  have hs1 : H1.size = H.size + 1 := by rw [← hH1]; simp
  have ha1 : H1[H.size]? = some (.cells (bcells a).toArray T_sha_Hash (0, 0)) := by rw [← hH1]; exact push_new
  generalize hH2 : H1.push (.cells (bcells zeroH).toArray T_sha_Hash (0, 0)) = H2
  have k2 : Keep (fun _ => False) H1 H2 := by rw [← hH2]; exact Keep.push
  have hs2 : H2.size = H1.size + 1 := by rw [← hH2]; simp
  have hr2 : H2[H1.size]? = some (.cells (bcells zeroH).toArray T_sha_Hash (0, 0)) := by rw [← hH2]; exact push_new
  generalize hH3 : H2.push (.cells #[.slice (some ⟨H.size, 0, none⟩) 32 32, v] T_S_uint8 (0, 0)) = H3
  have k3 : Keep (fun _ => False) H2 H3 := by rw [← hH3]; exact Keep.push
  have hs3 : H3.size = H2.size + 1 := by rw [← hH3]; simp
  have hv3 : H3[H2.size]? = some (.cells #[.slice (some ⟨H.size, 0, none⟩) 32 32, v] T_S_uint8 (0, 0)) := by rw [← hH3]; exact push_new
  have kk : Keep (fun _ => False) H H3 := k1.trans (k2.trans k3)
  have sa : Sl (fun b => b = H.size ∨ Pd b) H3 (.slice (some ⟨H.size, 0, none⟩) 32 32) a :=
    ⟨Bs.mk (k3.at (k2.at ha1 id) id) ha.symm (by simp [ha]) (by simp [← ha, List.take_of_length_le]), ⟨_, 32, by rw [ha], by rw [ha]; omega, fun x hx => by cases hx; rfl⟩, fun b hb => by cases hb; exact .inl rfl⟩
  have sv : Sl (fun b => b = H.size ∨ Pd b) H3 v m := (hx.keep kk fun _ _ => id).mono fun b h => .inr h
  have hvv : SlE 1 (· = H2.size) H3 (.slice (some ⟨H2.size, 0, none⟩) 2 2) (rows1 ([(.slice (some ⟨H.size, 0, none⟩) 32 32, a), (v, m)].map (·.1))) := by
    refine ⟨⟨_, 2, rfl, Nat.le_refl _, .inr ⟨H2.size, 0, rfl, rfl, ?_⟩⟩, rows1_el, rows1_one' (P := fun b => b = H.size ∨ Pd b) (H := H3) ?_⟩
    · rw [rows1_flat]; exact Pt.of hv3
    · intro x hx; simp at hx; rcases hx with rfl | rfl
      · exact sa
      · exact sv
  refine call_i (c_tag_sum (Pd := fun b => b = H.size ∨ Pd b) hvv ?_ (hT.keep kk fun _ h => h.elim) (fun b hb => by omega) (fun b hb => ?_) ?_ (by simp)) ?_
  · intro x hx; simp at hx; rcases hx with rfl | rfl
    · exact sa
    · exact sv
  · rcases hb with rfl | hb
    · omega
    · have := hPd b hb; omega
  · simp [partsB]; omega
  · rintro _ h2 ⟨rfl, k5⟩
    have e7 : (bO 7 :: partsB [(.slice (some ⟨H.size, 0, none⟩) 32 32, a), (v, m)]) = 7 :: (a ++ m) := by simp [partsB]; rfl
    rw [e7]
    have hr5 := k5.at (k3.at hr2 id) id
    rw [stN_bytes hr5 (n := 32) rfl shaF_len, Mwr_some, ldN_bytes (set_self hr5) shaF_len, Mpu_some]
    refine ⟨rfl, ?_⟩
    refine ⟨by simp; have := kk.1; have := k5.1; omega, fun i hi _ => ?_⟩
    have q1 := kk.1; have q2 := k5.1
    rw [Array.getElem?_setIfInBounds, if_neg (by omega), k5.2 i (by omega) id, kk.2 i hi id]

end Go.Proofs.YtmhfanpijdgkjaaDoor
