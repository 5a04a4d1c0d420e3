/-
What the statement RadixFroms computes of any script: true.
-/
import Derived.Test.YtfljnfmocmhhdaaOpen
import Derived.Test.YtfljnfmocmhhdaaWFroms
namespace Go.Proofs.Ytfljnfmocmhhdaa
open Go.RowKit

theorem RadixFroms.walk (W : World) (v0 : Value) (o0 : Ops W v0) : Calls Try.prog 15 #[v0] W fun e w' => e = .returned (.bool true) ∧ Below W.heap.size W w' := by
  obtain ⟨A, n, c, os, rfl, hs⟩ := o0
  exact froms_any A n c os W hs

end Go.Proofs.Ytfljnfmocmhhdaa
