/-
  No function of the shelf is laid for this seat.
-/
import Derived.Test.YtmdhangeglaigaaTbl
namespace Go.Shelf
end Go.Shelf
