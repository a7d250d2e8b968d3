/-
  PrimaryNone: the closed facts of its row (a filled template).
-/
import Derived.Test.YtijeeiemklahiaaGreatDoorDmStart
namespace Go.Proofs.YtijeeiemklahiaaGreatDoor
open Go
set_option maxRecDepth 1000000
set_option maxHeartbeats 4000000 in
theorem primaryNone_facts : joinedFacts Tryz.pinned.checked.prog 4 Tryz.f4 Rows.primaryNoneSpec Rows.primaryNoneRow = true := by
  unfold joinedFacts
  repeat' (with_reducible apply and_mk)
  all_goals as_aux_lemma => kernel_rfl
theorem primaryNone_named : Tryz.pinned.checked.prog.funcNamed Rows.primaryNoneRow.func = some 4 := by kernel_rfl
theorem primaryNone_inst : Tryz.f4.isInstance Tryz.pinned.checked.prog Rows.primaryNoneRow.origin Rows.primaryNoneRow.targs := of_decide_eq_true (by kernel_rfl)
theorem primaryNone_wrap : Tryz.f4.isWrapper Tryz.pinned.checked.prog Rows.primaryNoneRow.wrapper Rows.primaryNoneRow.mainSum := by
  unfold Func.isWrapper; rw [if_neg (of_decide_eq_false (by kernel_rfl))]; exact ⟨rfl, rfl⟩
end Go.Proofs.YtijeeiemklahiaaGreatDoor
