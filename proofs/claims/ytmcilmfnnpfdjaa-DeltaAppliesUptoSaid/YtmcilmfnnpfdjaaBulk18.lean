/- What the bound on the bulk of what is read gives (from the template UptoLemmas.lean). -/
import Derived.Test.YtmcilmfnnpfdjaaRows

namespace Go.Proofs.Ytmcilmfnnpfdjaa.bulks

/-- THE BOUND, as the builder hands it over ('hk') -/
theorem bound {H : Type} {l : List (DataW H)} (hk : Rows.uptoSmall H l = true) : Rows.uptoBulkAll l ≤ 1048576 := by
  simpa [Rows.uptoSmall] using hk

end Go.Proofs.Ytmcilmfnnpfdjaa.bulks
