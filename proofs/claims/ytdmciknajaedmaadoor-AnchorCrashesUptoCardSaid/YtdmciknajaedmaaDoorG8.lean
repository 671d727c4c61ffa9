/- JOINED: V113 -/
import Derived.Test.YtdmciknajaedmaaDoorGK
set_option linter.unusedSimpArgs false
set_option linter.unusedVariables false
/- What a bound on what is read gives. -/
namespace Go.Proofs.YtdmciknajaedmaaDoor.Came
open Go.X
set_option maxRecDepth 100000

theorem bulk_one {H : Type} (d : DataW H) : 1 ≤ Rows.uptoBulk d := by
  unfold Rows.uptoBulk
  split <;> omega
theorem bulk_many {H : Type} : ∀ (l : List (DataW H)), l.length ≤ Rows.uptoBulkAll l
  | [] => by simp
  | d :: l => by
    have h1 := bulk_one d
    have h2 := bulk_many l
    have e : Rows.uptoBulkAll (d :: l) = Rows.uptoBulk d + Rows.uptoBulkAll l := by rw [Rows.uptoBulkAll]
    rw [e, List.length_cons]; omega
theorem bulk_at {H : Type} {d : DataW H} : ∀ {l : List (DataW H)}, d ∈ l → Rows.uptoBulk d ≤ Rows.uptoBulkAll l
  | x :: l, h => by
    have e : Rows.uptoBulkAll (x :: l) = Rows.uptoBulk x + Rows.uptoBulkAll l := by rw [Rows.uptoBulkAll]
    rw [e]
    rcases List.mem_cons.1 h with rfl | h
    · omega
    · have := bulk_at h; omega
theorem bulk_bound {H : Type} {l : List (DataW H)} (h : Rows.uptoSmall H l = true) : Rows.uptoBulkAll l ≤ 1048576 := of_decide_eq_true h
/-- a slice's elements -/
theorem slice_bulk {H : Type} {enc : TypeId × Value → H} {P : Program} {w : World} {base : Nat} {sp : Nat → Bool} {held : Bool} {fuel : Nat} {t e : TypeId} {a : Option Addr} {n c : Nat} {d : DataW H} {p : List MemPlace}
    (ht : P.underlying t = some (.slice e)) (h : DataW.trod enc P w base sp held fuel t [.slice a n c] = some (d, p)) : n ≤ Rows.uptoBulk d := by
  rcases DataW.trod_slice ht h with ⟨h0, _⟩ | ⟨a', len, cap, elems, rest, m, _, hc, hx, _, _, _, hel, _⟩
  · cases h0; exact Nat.zero_le _
  · cases hc
    cases hx
    have := bulk_many (elems.map (·.1))
    rw [List.length_map] at this
    rw [Rows.uptoBulk]
    omega
end Go.Proofs.YtdmciknajaedmaaDoor.Came
