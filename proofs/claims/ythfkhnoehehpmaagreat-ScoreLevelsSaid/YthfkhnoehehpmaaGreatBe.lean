import Derived.Test.YthfkhnoehehpmaaGreatBd
set_option linter.unusedVariables false
set_option linter.unusedSimpArgs false
/- THE LAWS ARE AWAKE. -/
namespace Go.Ab
open Go.Proofs
theorem awake_con : Pure PP LL 10 [] (.bool true) := pureOf_sound (KE_ok (memL_sound baseE_ok ml8_ok)) (n := 4000) (by kernel_rfl)
end Go.Ab
