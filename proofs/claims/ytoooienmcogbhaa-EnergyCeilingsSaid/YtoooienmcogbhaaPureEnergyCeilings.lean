/- EnergyCeilings: its walk shows all. -/
import Derived.Test.YtoooienmcogbhaaPEnergyCeilingsx4
namespace Go.Proofs.Ytoooienmcogbhaa.Pure
theorem EnergyCeilings : PEnergyCeilings.sidebandlaw10_EnergyCeilings.Pure := trivial
end Go.Proofs.Ytoooienmcogbhaa.Pure
