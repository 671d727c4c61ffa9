/- JOINED: V186 -/
import Derived.Test.YtanhgihfgmbojaaGreatDoorG20
set_option linter.unusedSimpArgs false
set_option linter.unusedVariables false
/- law 20: SolveChoices, the walk. -/
namespace Go.Proofs.YtanhgihfgmbojaaGreatDoor
open Go.X Go.X.Diff Go.MapKept
set_option maxRecDepth 100000
set_option linter.unusedSimpArgs false
set_option linter.unusedVariables false

theorem NeedL.sub {hv : List Man} {wants : List Dep} {c n : List Nat} (h : NeedL hv wants c n) : ∀ k ∈ n, k ∈ c := fun k hk => ((h.2 k).1 hk).mem
theorem sub_len : ∀ {l m : List Nat}, l.Nodup → (∀ x ∈ l, x ∈ m) → l.length ≤ m.length
  | [], m, _, _ => Nat.zero_le _
  | x :: l, m, hn, hs => by
    obtain ⟨h1, h2⟩ := List.nodup_cons.1 hn
    have hx := hs x (by simp)
    have h3 := sub_len (l := l) (m := m.erase x) h2 fun y hy => (List.mem_erase_of_ne (fun e => h1 (by rw [← e]; exact hy))).2 (hs y (by simp [hy]))
    rw [List.length_erase_of_mem hx] at h3
    have := List.length_pos_of_mem hx
    rw [List.length_cons]; omega
theorem NeedL.le {hv : List Man} {wants : List Dep} {c n : List Nat} (h : NeedL hv wants c n) (hR : RightC hv wants c) : n.length ≤ c.length := by
  have hn : n.Nodup := (List.pairwise_map.1 h.1.nodup).imp fun hne e => hne (by rw [e])
  exact sub_len hn fun k hk => h.sub k hk
end Go.Proofs.YtanhgihfgmbojaaGreatDoor

