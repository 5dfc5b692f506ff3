import Derived.Test.YtcdflpkbdabljaaDoorP1
namespace Alg.MR
theorem ka7 : all stepA 9000 28291 = true := by decide +kernel
end Alg.MR
