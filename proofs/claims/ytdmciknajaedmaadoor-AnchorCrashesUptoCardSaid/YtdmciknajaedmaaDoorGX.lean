/- JOINED: V84 V79 -/
import Derived.Test.YtdmciknajaedmaaDoorGV
import Derived.Test.YtdmciknajaedmaaDoorGM
import Derived.Test.YtdmciknajaedmaaDoorGW
set_option linter.unusedSimpArgs false
set_option linter.unusedVariables false
/- Bytes that came in. -/
namespace Go.Proofs.YtdmciknajaedmaaDoor.Came
open Go.X
set_option maxRecDepth 100000

def RowIn (_ : Nat → Prop) (H : Heap) (v : Value) (l : List UInt8) : Prop := BRow H v l
theorem u_SU8 : prg.underlying T_S_uint8 = some (.slice T_uint8) := by kernel_rfl
theorem u_U8 : prg.underlying T_uint8 = some (.int .u8) := by kernel_rfl
theorem cs_U8 : prg.cellsOf T_uint8 = 1 := by kernel_rfl
theorem bmaps_of {q : List (List Value)} (h : ∀ x ∈ q, ∃ y : UInt8, x = [.int .u8 y.toNat]) : ∃ l : List UInt8, q = l.map fun y => [Value.int .u8 y.toNat] := by
  induction q with
  | nil => exact ⟨[], rfl⟩
  | cons x q ih =>
    obtain ⟨l, hl⟩ := ih fun x hx => h x (by simp [hx])
    obtain ⟨y, rfl⟩ := h x (by simp)
    exact ⟨y :: l, by rw [hl]; rfl⟩
theorem flat_one : ∀ l : List UInt8, (l.map fun y => [Value.int .u8 y.toNat]).flatten = bcells l
  | [] => rfl
  | y :: l => by
    rw [List.map_cons, List.flatten_cons, flat_one l]; rfl
theorem bytes_of {w : World} {d : Nat} {v : Value} (h : Shp prg w d T_S_uint8 [v]) : ∃ l : List UInt8, l.length ≤ 9223372036854775807 ∧ RowIn (· < w.heap.size) w.heap v l := by
  cases d with
  | zero => exact h.elim
  | succ d =>
    simp only [Shp, u_SU8] at h
    rcases h with h | ⟨a, len, cap, hv, hle, hcap, hel⟩
    · obtain rfl : v = .slice none 0 0 := by simpa using h
      exact ⟨[], by simp, Bs_nil, none, 0, rfl⟩
    · obtain rfl : v = .slice (some a) len cap := by simpa using hv
      rw [cs_U8] at hel
      have h1c : ∀ cs : List Value, (∃ y : UInt8, cs = [.int .u8 y.toNat]) → ∀ c ∈ cs, c.oneCell' = true := by
        rintro _ ⟨y, rfl⟩ c hc
        obtain rfl : c = _ := by simpa using hc
        rfl
      obtain ⟨q, hq, hs, hqi⟩ := sle_of_cells (n := 1) (q := fun cs => ∃ y : UInt8, cs = [.int .u8 y.toNat]) (by omega) hle h1c fun i hi => by
        obtain ⟨cs', h1, h2⟩ := hel i hi
        obtain ⟨n, hn, hw⟩ := Go.X.shp_int u_U8 h2
        refine ⟨cs', h1, UInt8.ofNat n.toNat, ?_⟩
        rw [hn]
        have : 0 ≤ n ∧ n ≤ 255 := by
          simp only [Lit.wf, IntKind.min, IntKind.max, IntKind.signed, IntKind.bits] at hw
          simp at hw
          omega
        have e : (((UInt8.ofNat n.toNat).toNat : Nat) : Int) = n := by rw [UInt8.toNat_ofNat']; omega
        rw [e]
      obtain ⟨l, rfl⟩ := bmaps_of hqi
      rw [List.length_map] at hq
      have hm : maxLen = 9223372036854775807 := rfl
      refine ⟨l, by omega, ?_, some a, cap, by rw [hq]⟩
      obtain ⟨⟨a', c', he, hc, hx⟩, _, _⟩ := hs
      rw [List.length_map] at he
      cases he
      rcases hx with hx | ⟨b, o, e, _, ⟨cs, T, f, hb, h1, h2⟩⟩
      · have : l = [] := by simpa using hx
        subst this
        exact Bs_nil
      · cases e
        have hfl := flat_one l
        rw [hfl] at h1 h2
        have hbl : (bcells l).length = l.length := by simp [bcells]
        exact Bs.mk hb rfl (by omega) (by rw [← hbl]; exact h2)
end Go.Proofs.YtdmciknajaedmaaDoor.Came
/- What a row gives: a record that came in; the tables of layer 22. -/
namespace Go.Proofs.YtdmciknajaedmaaDoor.Came
open Go.X
set_option maxRecDepth 100000

theorem s_Rec : ∃ fs, Tryd.prog.underlying T_history_Record = some (.struct fs) := by
  have h : (match Tryd.prog.underlying T_history_Record with | some (.struct _) => true | _ => false) = true := by kernel_rfl
  split at h
  · exact ⟨_, by assumption⟩
  · cases h
theorem u_SRec : prg.underlying T_S_history_Record = some (.slice T_history_Record) := by kernel_rfl
theorem f_Rec : flds T_history_Record [(0, T_int), (1, T_S_history_Item), (2, T_S_history_Item), (3, T_head_Head)] = true := by kernel_rfl
theorem f_Head : flds T_head_Head [(0, T_int), (1, T_sha_Hash)] = true := by kernel_rfl
theorem cs_Rec : prg.cellsOf T_history_Record = 36 := by kernel_rfl
theorem cs_Head : prg.cellsOf T_head_Head = 33 := by kernel_rfl
theorem cs_int : prg.cellsOf T_int = 1 := by kernel_rfl
theorem cs_SItem : prg.cellsOf T_S_history_Item = 1 := by kernel_rfl
theorem int_rng' {n : Int} (h : (Lit.int .i64 n).wf = true) : -9223372036854775808 ≤ n ∧ n ≤ 9223372036854775807 := by
  simp only [Lit.wf, IntKind.min, IntKind.max, IntKind.signed, IntKind.bits] at h
  simp at h
  omega
theorem items_of' {w : World} {d : Nat} {cs : List Value} (hl : cs.length = 1) (h : Shp prg w d T_S_history_Item cs) : ∃ v, cs = [v] ∧ ∃ xs : List Item, xs.length ≤ 9223372036854775807 ∧ Items (· < w.heap.size) w.heap v xs := by
  match cs, hl with
  | [v], _ => exact ⟨v, rfl, items_of h⟩
theorem rec_of {w : World} {d : Nat} {cs : List Value} (h : Shp prg w d T_history_Record cs) : ∃ (a : RecA) (x : Value × Value), RawIn (· < w.heap.size) w.heap a x ∧ cs = rawC a x := by
  obtain ⟨d', hl, hfl⟩ := shp_flds f_Rec h
  rw [cs_Rec] at hl
  have h0 := hfl 0 0 T_int rfl
  have h1 := hfl 1 1 T_S_history_Item rfl
  have h2 := hfl 2 2 T_S_history_Item rfl
  have h3 := hfl 3 3 T_head_Head rfl
  rw [cs_int] at h0; rw [cs_SItem] at h1 h2; rw [cs_Head] at h3
  obtain ⟨k, hk, _⟩ := shp_int u_int h0
  obtain ⟨vb, hb, xs, hxl, hxs⟩ := items_of' (by simp; omega) h1
  obtain ⟨va, ha, ys, hyl, hys⟩ := items_of' (by simp; omega) h2
  obtain ⟨d2, hl3, hf3⟩ := shp_flds f_Head h3
  have g0 := hf3 0 0 T_int rfl
  have g1 := hf3 1 1 T_sha_Hash rfl
  rw [cs_int] at g0; rw [cs_Hash] at g1
  obtain ⟨s, hs, _⟩ := shp_int u_int g0
  obtain ⟨e, he, hu, hc⟩ := u_Hash
  obtain ⟨l, hll, hlc, hlw⟩ := shp_ints he hu hc cs_Hash g1
  obtain ⟨r, hr, hrc⟩ := ints_bytes hlw
  refine ⟨⟨k, xs, ys, s, r⟩, (vb, va), ⟨by show r.length = 32; omega, hxs, hys, hxl, hyl⟩, ?_⟩
  have e3 : (cs.drop 3).take 33 = cs.drop 3 := List.take_of_length_le (by simp; omega)
  rw [e3] at hs hlc
  have e4 : ((cs.drop 3).drop 1).take 32 = (cs.drop 3).drop 1 := List.take_of_length_le (by simp; omega)
  rw [e4] at hlc
  have p3 : cs.drop 3 = [Value.int .i64 s] ++ bcells r := by
    rw [← hrc, ← hlc, ← hs, List.drop_zero]
    exact (List.take_append_drop 1 _).symm
  have p2 : cs.drop 2 = [va] ++ cs.drop 3 := by
    rw [← ha, show cs.drop 3 = (cs.drop 2).drop 1 by rw [List.drop_drop]]
    exact (List.take_append_drop 1 _).symm
  have p1 : cs.drop 1 = [vb] ++ cs.drop 2 := by
    rw [← hb, show cs.drop 2 = (cs.drop 1).drop 1 by rw [List.drop_drop]]
    exact (List.take_append_drop 1 _).symm
  have p0 : cs = [Value.int .i64 k] ++ cs.drop 1 := by
    rw [List.drop_zero] at hk
    rw [← hk]
    exact (List.take_append_drop 1 _).symm
  rw [p0, p1, p2, p3]; rfl
end Go.Proofs.YtdmciknajaedmaaDoor.Came
