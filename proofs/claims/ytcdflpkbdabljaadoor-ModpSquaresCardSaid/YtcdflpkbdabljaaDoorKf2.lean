import Derived.Test.YtcdflpkbdabljaaDoorP1
namespace Alg.MR
theorem kf2 : all chkF 100 81 = true := by decide +kernel
end Alg.MR
