import Derived.Test.YtcdflpkbdabljaaDoorP1
namespace Alg.MR
theorem kf3 : all chkF 219 181 = true := by decide +kernel
end Alg.MR
