/- Values whose numbers are of 64 bits. -/
import Derived.Test.YtklnalofcjagnaaZSpRowV
import Derived.Test.YtklnalofcjagnaaZPuWire
set_option linter.unusedVariables false
namespace Go.Proofs.Ytklnalofcjagnaa
open Go Go.Abs

theorem rg_v64 : ∀ (v : Va), RgV v → V64 v
  | .mk k i b s t, h => by
    cases h with
    | mk _ _ _ _ _ hk hi hs ht ho =>
    exact .mk k i b s t hi (fun v hv => rg_v64 v (ho v hv))
termination_by v => SizeOf.sizeOf v
decreasing_by
  have := List.sizeOf_lt_of_mem hv
  simp
  omega

end Go.Proofs.Ytklnalofcjagnaa
