/- One more step of a walk: a store where not all of what is known is written out. -/
import Derived.Test.YtabcaiecoiejkaaK14
import Derived.Test.YtabcaiecoiejkaaKS
set_option maxRecDepth 100000
set_option linter.unusedVariables false
namespace Go.Proofs.Ytabcaiecoiejkaa
open Go K
theorem stx {P Q : Prop} (x : Q) (h : Q → P := by intro x; first | (with_reducible refine g_guard ?_; exact zx_skipU rfl rfl rfl x) | (with_reducible refine g_store ?_; (first | (exact zx_storeU tab_ok 0 rfl rfl rfl rfl rfl rfl rfl rfl rfl rfl rfl rfl x) | (exact zx_storeU tab_ok 1 rfl rfl rfl rfl rfl rfl rfl rfl rfl rfl rfl rfl x) | (exact zx_storeU tab_ok 2 rfl rfl rfl rfl rfl rfl rfl rfl rfl rfl rfl rfl x) | (exact zx_storeU tab_ok 3 rfl rfl rfl rfl rfl rfl rfl rfl rfl rfl rfl rfl x) | (exact zx_storeU tab_ok 4 rfl rfl rfl rfl rfl rfl rfl rfl rfl rfl rfl rfl x)))) : P := h x
end Go.Proofs.Ytabcaiecoiejkaa
