import Derived.Test.YtcdflpkbdabljaaDoorP1
namespace Alg.MR
theorem kf1 : all chkF 40 41 = true := by decide +kernel
end Alg.MR
