/-     -/
import Derived.Test.YtcdflpkbdabljaaDoorP1
section
namespace Alg.MR
theorem ke : loopE 1290 1 1 = true := by decide +kernel
end Alg.MR
end
section
namespace Alg.MR
theorem ka1 : all stepA 1250 41 = true := by decide +kernel
end Alg.MR
end
section
namespace Alg.MR
theorem kf5 : all chkF 491 800 = true := by decide +kernel
end Alg.MR
end
section
namespace Alg.MR
theorem ka2 : all stepA 1000 1291 = true := by decide +kernel
end Alg.MR
end
