/- The law 'AnchorParses' as the walk of its code. -/
import Derived.Test.YtdmciknajaedmaaW6
namespace Go.Proofs.Ytdmciknajaedmaa
open Go.X
set_option maxRecDepth 100000

theorem beq_refl_bytes {l : List UInt8} : (ByteArray.toList ⟨l.toArray⟩ == ByteArray.toList ⟨l.toArray⟩) = true := by simp

theorem c_law {H : Heap} {a : Option Addr} {n c : Nat} {l : List UInt8} (h : Bs H (.slice a n c) l) (hn : n = l.length) :
    HCalls prg f_syngraphlaw23_AnchorParses [.slice a n c] H fun u H' => u = .bool true ∧ Keep (fun _ => False) H H' := by
  apply sh_syngraphlaw23_AnchorParses_calls
  unfold sh_syngraphlaw23_AnchorParses
  simp only [lenV_slice, Mpu_some, binV_int, intV, Mcd_bool, decide_eq_true_eq]
  by_cases hl : (n : Int) > 300
  · rw [if_pos hl]
    exact call_i c_awake fun v h' hR => hR
  · rw [if_neg hl]
    refine call_i (c_Parse h (by omega)) ?_
    rintro u h2 ⟨hu, k2⟩
    have kk2 : Keep (fun _ => False) H h2 := ⟨k2.1, fun i hi _ => k2.2 i hi (by omega)⟩
    cases hok : parseOk l
    · rw [hok] at hu
      obtain rfl : u = .tuple #[.pointer none, .int .i64 10] := hu
      have e0 : binV .ptr .eql (.pointer none) (.pointer none) = some (.bool true) := rfl
      simp only [extV_tuple, List.getElem?_toArray, List.getElem?_cons_succ, List.getElem?_cons_zero, Mpu_some, binV_int, intV, Mcd_bool, J1_eq, Mif_bool, e0, pickV_bool]
      simp only [show (((10 : Int) != 0) = true) from rfl, show (((10 : Int) == 10) = true) from rfl, if_true, Mif_bool]
      refine call_i c_awake ?_
      rintro _ h4 ⟨rfl, k4⟩
      simp only [pickV_bool, Mpu_some, if_true]
      exact ⟨trivial, kk2.trans k4⟩
    · rw [if_pos hok] at hu
      obtain ⟨p, rfl, hp, r2⟩ := hu
      obtain ⟨hb, h0, h1⟩ := parse_bytes hok
      have e0 : ∀ x, binV .ptr .neq (Ptr x 0) (.pointer none) = some (.bool true) := fun x => rfl
      have s2 : b2s h2 (.slice a n c) = some (.string ⟨l.toArray⟩) := Bs.b2s (l := l) (elems_keep kk2 h fun _ _ => id) fun s e => by cases e
      simp only [extV_tuple, List.getElem?_toArray, List.getElem?_cons_succ, List.getElem?_cons_zero, Mpu_some, binV_int, intV, Mcd_bool, J1_eq, Mif_bool, e0, pickV_bool, s2]
      simp only [show (((0 : Int) != 0) = false) from rfl, Bool.false_eq_true, if_false, if_true]
      refine call_i (c_Bytes r2) ?_
      rintro v h3 ⟨ho, k3⟩
      have r3 := r2.keep k3 id
      have s3 : b2s h3 (.slice a n c) = some (.string ⟨l.toArray⟩) := Bs.b2s (l := l) (elems_keep (kk2.trans k3) h fun _ _ => id) fun s e => by cases e
      rw [hb] at ho
      simp only [s3, Mre_cons, Mre_nil, true_and, ho.sl.b2s, Mpu_some, binV_str, strV, beq_refl_bytes, pickV_bool, if_true, J1_eq, Mif_bool]
      refine call_i (c_Mark r3) ?_
      rintro _ h4 ⟨rfl, k4⟩
      have r4 := r3.keep k4 id
      have e4 : ∀ m l, partV false 1 0 (mk m l) = some (.int .i64 m) := fun m l => rfl
      have d0 : decide ((parse l).1.n ≥ 0) = true := decide_eq_true h0
      have d1 : decide ((parse l).1.n ≤ 1099511627776) = true := decide_eq_true h1
      simp only [e4, Mpu_some, binV_int, intV, d0, pickV_bool, if_true, J1_eq, Mif_bool]
      refine call_i (c_Mark r4) ?_
      rintro _ h5 ⟨rfl, k5⟩
      simp only [e4, Mpu_some, binV_int, intV, d1, pickV_bool, if_true, J1_eq, Mif_bool]
      refine call_i c_awake ?_
      rintro _ h6 ⟨rfl, k6⟩
      simp only [pickV_bool, Mpu_some, if_true]
      exact ⟨trivial, kk2.trans (k3.trans (k4.trans (k5.trans k6)))⟩

end Go.Proofs.Ytdmciknajaedmaa
