/- A cell in whatever later world that differs in a set's blocks alone. No condition. -/
import Derived.Test.YteeclobpajalmaaOnly
namespace Go.Proofs.Yteeclobpajalmaa
open Go.RowKit
set_option linter.unusedVariables false
set_option linter.unusedSimpArgs false
section
variable {w : World}
theorem Only.fact {Q : Nat → Prop} {B N j : Nat} {u : Value} (h : w.cell? ⟨N, j, none⟩ = some u) (hN : N < B) (hQ : ¬ Q N) : ∀ w', Only Q B w w' → w'.cell? ⟨N, j, none⟩ = some u := fun w' hw => (hw.cell (p := ⟨N, j, none⟩) hN hQ).trans h
theorem Only.free {Q : Nat → Prop} {B N j : Nat} (h : w.frozen? ⟨N, j, none⟩ = false) (hN : N < B) (hQ : ¬ Q N) : ∀ w', Only Q B w w' → w'.frozen? ⟨N, j, none⟩ = false := fun w' hw => (World.frozen?_of_block (a := ⟨N, j, none⟩) (hw.block N hN hQ)).trans h
end
end Go.Proofs.Yteeclobpajalmaa
