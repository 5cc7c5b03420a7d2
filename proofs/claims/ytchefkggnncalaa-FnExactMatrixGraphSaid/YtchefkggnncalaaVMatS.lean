
/- The reference's ValidMatrix. -/
import Derived.Test.YtchefkggnncalaaVMat
namespace Go.Proofs.Ytchefkggnncalaa
open Go.RowKit

end Go.Proofs.Ytchefkggnncalaa
