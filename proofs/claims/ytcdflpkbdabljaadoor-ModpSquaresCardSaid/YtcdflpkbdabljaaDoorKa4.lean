import Derived.Test.YtcdflpkbdabljaaDoorP1
namespace Alg.MR
theorem ka4 : all stepA 6000 4291 = true := by decide +kernel
end Alg.MR
