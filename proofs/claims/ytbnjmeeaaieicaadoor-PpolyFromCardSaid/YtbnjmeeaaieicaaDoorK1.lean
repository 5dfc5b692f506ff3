/-      -/
import Derived.Test.YtbnjmeeaaieicaaDoorP1
section
section
namespace Alg.MR
theorem ke : loopE 1290 1 1 = true := by decide +kernel
end Alg.MR
end
section
namespace Alg.MR
theorem ka1 : all stepA 1250 41 = true := by decide +kernel
end Alg.MR
end
section
namespace Alg.MR
theorem kf5 : all chkF 491 800 = true := by decide +kernel
end Alg.MR
end
section
namespace Alg.MR
theorem ka2 : all stepA 1000 1291 = true := by decide +kernel
end Alg.MR
end
end
section
namespace Alg.MR
theorem kf1 : all chkF 40 41 = true := by decide +kernel
end Alg.MR
end
section
namespace Alg.MR
theorem kf2 : all chkF 100 81 = true := by decide +kernel
end Alg.MR
end
section
namespace Alg.MR
theorem kf3 : all chkF 219 181 = true := by decide +kernel
end Alg.MR
end
section
namespace Alg.MR
theorem kf4 : all chkF 400 400 = true := by decide +kernel
end Alg.MR
end
