/- JOINED: V104 -/
import Derived.Test.YtdmciknajaedmaaDoorG2
set_option linter.unusedSimpArgs false
set_option linter.unusedVariables false
/- The walk of AnchorPlays. -/
namespace Go.Proofs.YtdmciknajaedmaaDoor
open Go.X Go.X.Diff
set_option maxRecDepth 100000

def colA (n0 p q hq : Nat) : Nat → Nat := fun b => if b < n0 then 1 else if b = p then 3 else if b = q then 4 else if b = hq then 5 else 99
theorem hist0C {col : Nat → Nat} {j q : Nat} {H : Heap} (h : HistAt q (fun _ => False) (fun _ => False) (fun _ => False) H [] []) (hj : col q = j) : HistC col j q H [] [] :=
  ⟨_, _, _, h, hj, fun b hb => hb.elim False.elim False.elim, fun b hb => hb.elim⟩

end Go.Proofs.YtdmciknajaedmaaDoor
