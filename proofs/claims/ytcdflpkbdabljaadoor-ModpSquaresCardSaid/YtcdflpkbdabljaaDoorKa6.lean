import Derived.Test.YtcdflpkbdabljaaDoorP1
namespace Alg.MR
theorem ka6 : all stepA 9000 19291 = true := by decide +kernel
end Alg.MR
