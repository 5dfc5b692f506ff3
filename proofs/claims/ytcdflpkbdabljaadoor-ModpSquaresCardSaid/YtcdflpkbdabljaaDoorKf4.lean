import Derived.Test.YtcdflpkbdabljaaDoorP1
namespace Alg.MR
theorem kf4 : all chkF 400 400 = true := by decide +kernel
end Alg.MR
