/-    -/
import Derived.Test.YtbnjmeeaaieicaaDoorP1
section
namespace Alg.MR
theorem ka6 : all stepA 9000 19291 = true := by decide +kernel
end Alg.MR
end
section
namespace Alg.MR
theorem ka7 : all stepA 9000 28291 = true := by decide +kernel
end Alg.MR
end
section
namespace Alg.MR
theorem ka8 : all stepA 9050 37291 = true := by decide +kernel
end Alg.MR
end
