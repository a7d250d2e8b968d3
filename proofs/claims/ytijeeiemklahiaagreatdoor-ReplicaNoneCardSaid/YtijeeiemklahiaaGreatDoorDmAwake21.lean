/-
  rolodexlaw21's awake (a filled template).
-/
import Derived.Test.YtijeeiemklahiaaGreatDoorDmTables
namespace Go.DM
noncomputable section
open Go.Proofs
set_option maxRecDepth 1000000
theorem awake21_run : okTrue (kcall true (ctxOf glA orcP noHint) 1000 (.fn 7) [] stA) = true := by kernel_rfl
theorem awake21_ok (args : List DVal) (m : DMem) (v : DVal) (m' : DMem) (h : trueOrc args m = some (v, m')) : m' = m ∧ CallP glA 7 args m v m' :=
  trueOrc_ok (orcP_ok.widen glL_glA) awake21_run args m v m' h
end
end Go.DM
