/- The reference's constants are the program's: by reckoning. -/
import Derived.Test.YtejhjlfakfaegaaRefV
set_option linter.unusedSimpArgs false
set_option linter.unusedVariables false
namespace Go.Proofs.Ytejhjlfakfaegaa
theorem pr_310 : (pr 310).length = 64 := by decide +kernel
theorem pr_309 : (pr 309).length = 63 := by decide +kernel
theorem ks_eq : (ints (pr 310)).map cubeM = kst := by decide +kernel
end Go.Proofs.Ytejhjlfakfaegaa
