/- The harness's main. -/
import Derived.Test.YtgoojcjfhghmgaaDoorOpen4
namespace Go.Proofs.YtgoojcjfhghmgaaDoor
theorem mainIs : Tryd.pinned.checked.prog.mainIs = some (true, "8c487879d048aae23dd660c744b71e8b4582616f73d0860a610df5222bf65492".toList) := by kernel_rfl
end Go.Proofs.YtgoojcjfhghmgaaDoor
