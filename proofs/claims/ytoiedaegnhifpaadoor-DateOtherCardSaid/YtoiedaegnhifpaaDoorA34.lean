/-
  A slice of structs as a law's argument.
-/
import Derived.Test.YtoiedaegnhifpaaDoorA33
set_option linter.unusedVariables false
set_option linter.unusedSimpArgs false
namespace Go.Abs
open Go Go.RowKit Go.ChangeShapes Go.WideShapes

end Go.Abs
