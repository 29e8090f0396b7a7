-- Printed by pp.py (wip/pp), a program of this session's, over the kit's print; Lean checks it.
import Derived.Test.YtcmaohhcbiienaaS0
import Derived.Test.YtcmaohhcbiienaaS9
import Derived.Test.YtcmaohhcbiienaaS10
namespace Go.Proofs.Ytcmaohhcbiienaa.S
open Go.RowKit Go.Proofs.YtcmaohhcbiienaaW.PrintWords Go.Proofs.YtcmaohhcbiienaaW.PrintLast Go.Proofs.YtcmaohhcbiienaaW.PrintMore
attribute [local go_sem] max2_int min2_int max_two min_two max_three min_three max_four min_four   -- for this text's walks alone
set_option linter.unusedVariables false
set_option linter.unusedSimpArgs false

/-! ### laws: what is to be shown -/
def wf56 (x : S56) : Prop := ((Lit.int .i64 x.f0).wf = true) ∧ ((Lit.int .i64 x.f1).wf = true)
def wf58 (x : S58) : Prop := ((Lit.int .i64 x.f0).wf = true) ∧ ((Lit.int .i64 x.f1).wf = true) ∧ ((Lit.int .i64 x.f2).wf = true) ∧ (wf56 x.f3) ∧ ((Lit.int .i32 x.f4).wf = true)
def cashbooklaw30_NettingNets.PureS : Prop := ∀ (l0 : List (S58)) (a1 : Int) (a2 : Int) (l3 : List Int), ((∀ y ∈ l0, wf58 y) ∧ l0.length ≤ maxLen) → (Lit.int .i64 a1).wf = true → (Lit.int .i32 a2).wf = true → ((∀ y ∈ l3, (Lit.int .i64 y).wf = true) ∧ l3.length ≤ maxLen) → ∃ k, cashbooklaw30_NettingNets.f k l0 a1 a2 l3 = some true
def cashbooklaw30_NettingSettles.PureS : Prop := ∀ (l0 : List (S58)) (a1 : Int) (a2 : Int), ((∀ y ∈ l0, wf58 y) ∧ l0.length ≤ maxLen) → (Lit.int .i64 a1).wf = true → (Lit.int .i32 a2).wf = true → ∃ k, cashbooklaw30_NettingSettles.f k l0 a1 a2 = some true

end Go.Proofs.Ytcmaohhcbiienaa.S
