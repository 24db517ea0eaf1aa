/- Copy, as the law of valid books asks for it. -/
import Derived.Test.YtgoojcjfhghmgaaDoorDisFb
import Derived.Test.YtgoojcjfhghmgaaDoorDisFt
namespace Go.Proofs.YtgoojcjfhghmgaaDoor
open Go.RowKit
theorem copyOk : CopyOk := fun AI AR cI cR B b w hB h h' hs => Copy_ref AI AR cI cR B b w hB h h' hs
end Go.Proofs.YtgoojcjfhghmgaaDoor
