/- Statements of layer 12 (page): PageNil. Conditions: none. -/
import Derived.Test.YtkbgiflmecaffaaPageH
import Derived.Test.YtkbgiflmecaffaaVcL
set_option linter.unusedVariables false
set_option linter.unusedSimpArgs false
namespace Go.Proofs.Ytkbgiflmecaffaa
open Go.RowKit

theorem walk_PageNil (k : Int) (_ : -9223372036854775808 ≤ k ∧ k ≤ 9223372036854775807) (w : World) :
    Calls Try.prog 6 #[.int .i64 k] w (Ret (Yes w)) := by
  refine VC.garthlaw12_PageNil.ok ?_
  unfold VC.garthlaw12_PageNil
  refine alloc_nil ⟨_, _, rfl, pnew_nil w _ _ ⟨_, _, rfl, awake_any w fun w1 hE => ⟨_, rfl, ifB_true rfl (ifB_true rfl (ifB_true rfl ?_))⟩⟩⟩
  refine pfree_nil k ⟨_, rfl, ifB_true rfl (pmove_nil k ⟨_, rfl, ifB_true rfl (phas_nil k ⟨_, rfl, ifB_true rfl (used_nil ⟨_, rfl, ifB_true rfl ?_⟩)⟩)⟩)⟩
  refine full_nil ⟨_, rfl, ifB_true rfl (base_nil ⟨_, rfl, ifB_true rfl (kind_nil ⟨_, rfl, ifB_true rfl (pcopy_nil none ⟨_, rfl, ifB_true rfl (ifB_true rfl ⟨rfl, hE⟩)⟩)⟩)⟩)⟩

end Go.Proofs.Ytkbgiflmecaffaa
