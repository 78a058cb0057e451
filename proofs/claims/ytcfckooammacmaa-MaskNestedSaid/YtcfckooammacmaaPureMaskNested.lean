/-
  MaskNested: the law, by the printed walk and its plain statement.
-/
import Derived.Test.YtcfckooammacmaaPureMaskW
namespace Go.Proofs.Ytcfckooammacmaa.Pure
end Go.Proofs.Ytcfckooammacmaa.Pure
