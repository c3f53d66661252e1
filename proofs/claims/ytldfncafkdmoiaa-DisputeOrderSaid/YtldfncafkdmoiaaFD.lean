import Derived.Test.YtldfncafkdmoiaaTk
namespace Go.SL
/-! ### a stable merge: plain -/
section
variable {α : Type} {lt : α → α → Bool}
end
end Go.SL
