import Derived.Test.YtldfncafkdmoiaaGreatTk
namespace Go.SL
/-! ### a stable merge: plain -/
section
variable {α : Type} {lt : α → α → Bool}
end
end Go.SL
namespace Go.SL
/-! ### slices' symMerge: plain -/
section
variable {α : Type} {lt : α → α → Bool}
end
end Go.SL
