/-    -/
import Derived.Test.YtbnjmeeaaieicaaDoorP1
section
namespace Alg.MR
theorem ka3 : all stepA 2000 2291 = true := by decide +kernel
end Alg.MR
end
section
namespace Alg.MR
theorem ka4 : all stepA 6000 4291 = true := by decide +kernel
end Alg.MR
end
section
namespace Alg.MR
theorem ka5 : all stepA 9000 10291 = true := by decide +kernel
end Alg.MR
end
