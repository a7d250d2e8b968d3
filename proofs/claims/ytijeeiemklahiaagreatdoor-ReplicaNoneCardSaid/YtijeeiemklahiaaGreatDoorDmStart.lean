/-
  The start: the tables as a row lays them (a filled template).
-/
import Derived.Test.YtijeeiemklahiaaGreatDoorDmTables
import Derived.Test.YtijeeiemklahiaaGreatDoorDmLaid
import Derived.Test.YtijeeiemklahiaaGreatDoorRows
namespace Go.Proofs.YtijeeiemklahiaaGreatDoor
open Go Go.DM Go.ChangeShapes Go.WideShapes Go.ChangeAt Go.RowKit
set_option maxRecDepth 1000000
theorem and_mk {a b : Bool} (ha : a = true) (hb : b = true) : (a && b) = true := by rw [ha, hb]; rfl
theorem own_knob : ownKnob Tryz.prog.godebug = none := by kernel_rfl
theorem laid_out : laidOutB Tryz.prog = true := by kernel_rfl
def tabs : List (String × DataW Unit) := [("math/bits.deBruijn32tab", Rows.laid_math_bits_deBruijn32tab), ("math/bits.deBruijn64tab", Rows.laid_math_bits_deBruijn64tab), ("rolodex/hash.begin", Rows.laid_rolodex_hash_begin), ("rolodex/hash.rounds", Rows.laid_rolodex_hash_rounds), ("rolodex/lmots.forms", Rows.laid_rolodex_lmots_forms)]
/-- What a row's condition lays: the tables. -/
theorem start_rows {W : World} (h : laidMet Tryz.prog tabs W) : ∀ i s o, (i, s, o) ∈ tabL → i < 5 ∧ s.blk < W.heap.size ∧ ∀ ρ, BlkRel ρ s W o := by
  obtain ⟨uA, hA⟩ := laid_cells (ks := List.replicate 32 (.int .u8)) h (.head _) (by kernel_rfl : Tryz.prog.globalNamed "math/bits.deBruijn32tab" = some 3) (by kernel_rfl : (Tryz.prog.globals[3]?).map (·.type) = some 24) (by kernel_rfl) (by kernel_rfl) (by decide)
  obtain ⟨uC, hC⟩ := laid_cells (ks := List.replicate 64 (.int .u8)) h (.tail _ (.head _)) (by kernel_rfl : Tryz.prog.globalNamed "math/bits.deBruijn64tab" = some 4) (by kernel_rfl : (Tryz.prog.globals[4]?).map (·.type) = some 431) (by kernel_rfl) (by kernel_rfl) (by decide)
  obtain ⟨uB, hB⟩ := laid_cells (ks := List.replicate 8 (.int .u32)) h (.tail _ (.tail _ (.head _))) (by kernel_rfl : Tryz.prog.globalNamed "rolodex/hash.begin" = some 0) (by kernel_rfl : (Tryz.prog.globals[0]?).map (·.type) = some 289) (by kernel_rfl) (by kernel_rfl) (by decide)
  obtain ⟨uR, hR⟩ := laid_cells (ks := List.replicate 64 (.int .u32)) h (.tail _ (.tail _ (.tail _ (.head _)))) (by kernel_rfl : Tryz.prog.globalNamed "rolodex/hash.rounds" = some 1) (by kernel_rfl : (Tryz.prog.globals[1]?).map (·.type) = some 371) (by kernel_rfl) (by kernel_rfl) (by decide)
  obtain ⟨uF, hF⟩ := laid_cells (ks := List.replicate 15 (.int .i64)) h (.tail _ (.tail _ (.tail _ (.tail _ (.head _))))) (by kernel_rfl : Tryz.prog.globalNamed "rolodex/lmots.forms" = some 2) (by kernel_rfl : (Tryz.prog.globals[2]?).map (·.type) = some 402) (by kernel_rfl) (by kernel_rfl) (by decide)
  intro i s o hm
  simp only [tabL, List.mem_cons, List.not_mem_nil, or_false, Prod.mk.injEq] at hm
  rcases hm with ⟨rfl, rfl, rfl⟩ | ⟨rfl, rfl, rfl⟩ | ⟨rfl, rfl, rfl⟩ | ⟨rfl, rfl, rfl⟩ | ⟨rfl, rfl, rfl⟩
  · exact ⟨by omega, (Array.getElem?_eq_some_iff.1 hB).1, fun ρ => ro_table hB (eqDV_rel _ (by kernel_rfl)) (by kernel_rfl)⟩
  · exact ⟨by omega, (Array.getElem?_eq_some_iff.1 hR).1, fun ρ => ro_table hR (eqDV_rel _ (by kernel_rfl)) (by kernel_rfl)⟩
  · exact ⟨by omega, (Array.getElem?_eq_some_iff.1 hF).1, fun ρ => ro_table hF (eqDV_rel _ (by kernel_rfl)) (by kernel_rfl)⟩
  · exact ⟨by omega, (Array.getElem?_eq_some_iff.1 hA).1, fun ρ => ro_table hA (eqDV_rel _ (by kernel_rfl)) (by kernel_rfl)⟩
  · exact ⟨by omega, (Array.getElem?_eq_some_iff.1 hC).1, fun ρ => ro_table hC (eqDV_rel _ (by kernel_rfl)) (by kernel_rfl)⟩
theorem tab_still : ∀ i s o, (i, s, o) ∈ tabL → still o := by
  intro i s o hm
  simp only [tabL, List.mem_cons, List.not_mem_nil, or_false, Prod.mk.injEq] at hm
  rcases hm with ⟨rfl, rfl, rfl⟩ | ⟨rfl, rfl, rfl⟩ | ⟨rfl, rfl, rfl⟩ | ⟨rfl, rfl, rfl⟩ | ⟨rfl, rfl, rfl⟩ <;> trivial
theorem start_ok {W : World} (h : laidMet Tryz.prog tabs W) : MRel (renOf tabL) stA W ∧ GOk (ctxOf glA noOrc noHint) (renOf tabL) := by
  refine ⟨start_of fun i s o hm => ?_, ?_⟩
  · obtain ⟨h1, h2, h3⟩ := start_rows h i s o hm
    exact ⟨h1, h2, h3 _, tab_still i s o hm⟩
  · intro g hg
    have := glA_mem hg
    simp at this
    rcases this with rfl | rfl | rfl | rfl | rfl <;> exact ⟨_, rfl⟩
/-- A table's row. -/
theorem some_row {W : World} (h : laidMet Tryz.prog tabs W) : ∃ (g : Nat) (row : Array Value) (u : TypeId) (fz : Nat × Nat), W.heap[g]? = some (.cells row u fz) := by
  obtain ⟨_, _, h3⟩ := start_rows h 0 ⟨0, 0, 8⟩ (.ro cG0) (.head _)
  obtain ⟨row, u, fz, hr, _⟩ := h3 (fun _ => none)
  exact ⟨_, row, u, fz, hr⟩
/-- A type's zero. -/
noncomputable def zeroOf (t : TypeId) : Value := (((Tryz.prog.info? t).bind (·.zero)).getD undef)
end Go.Proofs.YtijeeiemklahiaaGreatDoor
