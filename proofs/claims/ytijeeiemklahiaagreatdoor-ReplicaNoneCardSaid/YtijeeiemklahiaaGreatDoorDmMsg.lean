/-
  A message's cells (a filled template).
-/
import Derived.Test.YtijeeiemklahiaaGreatDoorDmTables
import Derived.Test.YtijeeiemklahiaaGreatDoorDmSub
import Derived.Test.YtijeeiemklahiaaGreatDoorDmArg
namespace Go.DM
noncomputable section
open Go.Proofs
set_option maxRecDepth 1000000
noncomputable def ksMsg : List CK := match kindsOf Tryz.prog 10 42 with
  | some l => l
  | none => []
theorem ksMsg_eq : kindsOf Tryz.prog 10 42 = some ksMsg := by kernel_rfl
end
end Go.DM
