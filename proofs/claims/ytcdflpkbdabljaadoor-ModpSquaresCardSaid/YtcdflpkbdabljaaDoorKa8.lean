import Derived.Test.YtcdflpkbdabljaaDoorP1
namespace Alg.MR
theorem ka8 : all stepA 9050 37291 = true := by decide +kernel
end Alg.MR
