/-
  ReplicaNone: the closed facts of its row (a filled template).
-/
import Derived.Test.YtijeeiemklahiaaGreatDoorDmStart
namespace Go.Proofs.YtijeeiemklahiaaGreatDoor
open Go
set_option maxRecDepth 1000000
set_option maxHeartbeats 4000000 in
theorem replicaNone_facts : joinedFacts Tryz.pinned.checked.prog 3 Tryz.f3 Rows.replicaNoneSpec Rows.replicaNoneRow = true := by
  unfold joinedFacts
  repeat' (with_reducible apply and_mk)
  all_goals as_aux_lemma => kernel_rfl
theorem replicaNone_named : Tryz.pinned.checked.prog.funcNamed Rows.replicaNoneRow.func = some 3 := by kernel_rfl
theorem replicaNone_inst : Tryz.f3.isInstance Tryz.pinned.checked.prog Rows.replicaNoneRow.origin Rows.replicaNoneRow.targs := of_decide_eq_true (by kernel_rfl)
theorem replicaNone_wrap : Tryz.f3.isWrapper Tryz.pinned.checked.prog Rows.replicaNoneRow.wrapper Rows.replicaNoneRow.mainSum := by
  unfold Func.isWrapper; rw [if_neg (of_decide_eq_false (by kernel_rfl))]; exact ⟨rfl, rfl⟩
end Go.Proofs.YtijeeiemklahiaaGreatDoor
