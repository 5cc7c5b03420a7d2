
/- Copies of rows of numbers: the reference's copyInts, the program's clone. -/
import Derived.Test.YtchefkggnncalaaEach
import Derived.Test.YtchefkggnncalaaCopy
import Derived.WalkSpells
namespace Go.Proofs.Ytchefkggnncalaa
open Go.RowKit

theorem own_cap {w : World} {B T s n c : Nat} {a : Option Addr} {cs : List Value} (h : w.ownsRow B T s (.slice a n c) n cs) : n ≤ c := by
  rcases h.2 with ⟨h1, h2⟩ | ⟨g, cap, cur, h1, hB, hg, hn, _⟩
  · omega
  · cases h1
    exact hn

end Go.Proofs.Ytchefkggnncalaa
