import Derived.Test.YtcdflpkbdabljaaDoorP1
namespace Alg.MR
theorem ka5 : all stepA 9000 10291 = true := by decide +kernel
end Alg.MR
