
/- Tournaments: the program's ValidTournament. -/
import Derived.Test.YtchefkggnncalaaTourP
import Derived.Test.YtchefkggnncalaaLater
namespace Go.Proofs.Ytchefkggnncalaa
open Go.RowKit

theorem RdM.at {w : World} {a : Option Addr} {m : List (List Int)} (h : RdM w a m) {i k : Nat} (hi : i < m.length) (hk : k < (m[i]'hi).length) :
    ∃ b off bi oi ci, a = some ⟨b, off, none⟩ ∧ w.cell? ⟨b, off + i, none⟩ = some (.slice (some ⟨bi, oi, none⟩) (m[i]'hi).length ci) ∧ w.cell? ⟨bi, oi + k, none⟩ = some (.int .i64 (at2 m i k)) := by
  obtain ⟨b, off, ai, ci, ha, hc, hrd, _⟩ := h i hi
  obtain ⟨bi, oi, e, hk'⟩ := hrd.int (k := k) hk
  subst e
  exact ⟨b, off, bi, oi, ci, ha, hc, by rw [at2_get hi hk]; exact hk'⟩

end Go.Proofs.Ytchefkggnncalaa
