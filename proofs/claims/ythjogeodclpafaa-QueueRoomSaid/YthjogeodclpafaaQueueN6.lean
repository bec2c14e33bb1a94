/- Conditions of functions in normal form, as printed by a program of this seat. -/
import Derived.Test.YthjogeodclpafaaQueueG
import Derived.KernelRfl
set_option linter.unusedVariables false
namespace Go.Proofs.Ythjogeodclpafaa.AM
open Go Go.Proofs.Ythjogeodclpafaa

theorem nf10 (K : SV → List AObj → Prop) :
 (0 ≤ lenMax ∧ 0 ≤ lenMax ∧ 1 ≤ lenMax ∧ 0 ≤ lenMax ∧ 2 ≤ lenMax ∧ 0 ≤ lenMax ∧ 2 ≤ lenMax ∧ 1 ≤ lenMax ∧ 2 ≤ lenMax ∧ 2 ≤ lenMax ∧ 2 ≤ lenMax ∧ 2 ≤ lenMax ∧ K (SV.b ((BV.bool true))) [])
 = fnVC Try.prog (look Ld) {} Try.f10 [] [] K := by kernel_rfl

end Go.Proofs.Ythjogeodclpafaa.AM
