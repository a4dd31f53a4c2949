/-
  What is proved here: the library's own variable holds some number, of the law's condition. No condition.
-/
import Derived.Test.YtdkgphambjnbiaaDoorEvOpen
import Derived.Test.YtdkgphambjnbiaaDoorOpenT
import Derived.Test.YtdkgphambjnbiaaDoorTrX
namespace Go.Proofs.YtdkgphambjnbiaaDoor
open Go Go.RowKit Go.Proofs Go.ChangeShapes Go.WideShapes
theorem vars_of_laid {W : World} {L} (_ : laidMetH Tryd.prog L W) (hsh : W.ShapedOpen Tryd.prog) : Mx W := mx_of_shaped hsh
end Go.Proofs.YtdkgphambjnbiaaDoor
