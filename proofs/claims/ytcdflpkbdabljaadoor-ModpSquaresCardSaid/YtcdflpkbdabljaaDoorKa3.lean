import Derived.Test.YtcdflpkbdabljaaDoorP1
namespace Alg.MR
theorem ka3 : all stepA 2000 2291 = true := by decide +kernel
end Alg.MR
