/-
  EpochNil: the closed facts of its row.
-/
import Derived.Test.YtcghhpcmajheoaaGreatDoorDmRow
import Derived.Test.YtcghhpcmajheoaaGreatDoorRows
namespace Go.Proofs.YtcghhpcmajheoaaGreatDoor
open Go
set_option maxRecDepth 1000000
theorem and_mk {a b : Bool} (ha : a = true) (hb : b = true) : (a && b) = true := by rw [ha, hb]; rfl
set_option maxHeartbeats 4000000 in
theorem epochNil_facts : joinedFacts Tryz.pinned.checked.prog 3 Tryz.f3 Rows.epochNilSpec Rows.epochNilRow = true := by
  unfold joinedFacts
  repeat' (with_reducible apply and_mk)
  all_goals as_aux_lemma => kernel_rfl
theorem epochNil_named : Tryz.pinned.checked.prog.funcNamed Rows.epochNilRow.func = some 3 := by kernel_rfl
theorem epochNil_inst : Tryz.f3.isInstance Tryz.pinned.checked.prog Rows.epochNilRow.origin Rows.epochNilRow.targs := of_decide_eq_true (by kernel_rfl)
theorem epochNil_wrap : Tryz.f3.isWrapper Tryz.pinned.checked.prog Rows.epochNilRow.wrapper Rows.epochNilRow.mainSum := by
  unfold Func.isWrapper; rw [if_neg (of_decide_eq_false (by kernel_rfl))]; exact ⟨rfl, rfl⟩


end Go.Proofs.YtcghhpcmajheoaaGreatDoor
