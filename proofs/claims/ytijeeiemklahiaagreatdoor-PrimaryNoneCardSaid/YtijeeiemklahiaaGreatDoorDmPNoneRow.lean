/-
  PrimaryNone is true for every input: its row, and its card (a filled template). No condition but the row's own.
-/
import Derived.Test.YtijeeiemklahiaaGreatDoorDmPNone
import Derived.Test.YtijeeiemklahiaaGreatDoorDmPNoneFacts
import Derived.Test.YtijeeiemklahiaaGreatDoorCards
import Derived.Test.YtijeeiemklahiaaGreatDoorTie
namespace Go.Proofs.YtijeeiemklahiaaGreatDoor
open Go Go.DM Go.ChangeShapes Go.WideShapes Go.ChangeAt Go.RowKit
set_option maxRecDepth 1000000
noncomputable def ksForm : List CK := match kindsOf Tryz.prog 10 60 with
  | some l => l
  | none => []
theorem ksForm_eq : kindsOf Tryz.prog 10 60 = some ksForm := by kernel_rfl
theorem form_cells (B : Nat → Bool) (X : Nat → Int) (N : Nat → Nat) (S : Nat → List UInt8) : mkCells B X N S 0 ksForm = .int .i64 (X 0) :: .int .i64 (X 1) :: .int .i64 (X 2) :: ints .u8 32 (fun i => X (i + 3)) := by kernel_rfl
theorem door_met (os : Os) (args : Array Value) : laidMetH Tryz.prog Rows.primaryNoneRow.laid ((World.doorLaid Tryz.prog 39 os).forCall (fun _ _ => 0) ⟨#[], args, []⟩).memory :=
  laidMetH_of_parts3 (fuel := 8) (laidMet_of_run' 8 (by kernel_rfl) (by kernel_rfl)) (by kernel_rfl) (by kernel_rfl)

theorem lifted (os : Os) (started : os.Started) (H : Type) (enc : TypeId × Value → H) :
    ReturnsInHanded {} Tryz.checked os 4 .any (fun w args => (Rows.primaryNoneSpec.pre enc Tryz.prog Tryz.f4 [] false w args ∧ laidMetH Tryz.prog Rows.primaryNoneRow.laid w) ∧ sizedMet enc Tryz.prog Tryz.f4 (OpenSpec.ofChange Rows.primaryNoneSpec) false w args)
      (Rows.primaryNoneSpec.post enc Tryz.prog Tryz.f4 false true false false) := by
  refine returnsInHanded_of_change_and (C := Tryz.checked) (X := fun w _ => laidMetH Tryz.prog Rows.primaryNoneRow.laid w) (fun _ _ _ hh h => h.of_heap hh) own_knob started (by kernel_rfl) Tryz.func4
    (ChangeSpec.witness_shaped (enc := enc) (C := Tryz.checked) (os := os) (X := fun w _ => laidMetH Tryz.prog Rows.primaryNoneRow.laid w) false (World.doorLaid Tryz.prog 39 os) #[zeroOf 60, zeroOf 42, .int .i64 0] 8 rfl (World.shaped_of_RefB (by kernel_rfl) (by kernel_rfl)) (by kernel_rfl) (by kernel_rfl) (by kernel_rfl) (door_met os _)) ?_
  intro W base args ds gs before hval0 hW _ _ hL _
  have hval : ∀ (j : Nat) t v, Tryz.f4.params[j]? = some t → args[j]? = some v → Value.okWide Tryz.prog W .any base t v := hval0
  have hW' := hW
  obtain ⟨p, q, hA0, hV0, rfl, hfz, hnd⟩ := hW
  have hA : DataW.TrodAll enc Tryz.prog W 0 (fun _ => true) true Tryz.f4.params.toList args.toList ds p := hA0
  obtain ⟨rfl, rfl⟩ := trodVars_none hV0
  rw [Tryz.params4] at hA hval
  obtain ⟨v0, v1, v2, d0, d1, d2, p0, p1, p2, rfl, rfl, rfl, h0, h1, h2⟩ := trodAll_three hA
  obtain ⟨e, rfl, rfl, rfl, we⟩ := open_int Tryz.underlying3 (hval 2 3 v2 rfl rfl) h2
  obtain ⟨B0, X0, N0, S0, r0⟩ := open_cells (by kernel_rfl) (hval 0 60 v0 rfl rfl) h0 ksForm_eq
  obtain ⟨B1, X1, N1, S1, r1⟩ := open_cells (by kernel_rfl) (hval 1 42 v1 rfl rfl) h1 ksMsg_eq
  simp only [form_cells] at r0
  obtain ⟨hm, hg⟩ := start_ok (W := W) hL
  obtain ⟨m', hrun⟩ := pn_true (X0 0) (X0 1) (X0 2) (fun i => X0 (i + 3)) B1 X1 N1 S1 e
  refine (law_true hrun tab_still hm hg (A := #[v0, v1, .int .i64 e]) (.cons (r0 _) (.cons (r1 _) (.cons (by simp only [VRel]) .nil)))).mono fun ex W' ⟨he, hb⟩ => ⟨_, he, ?_⟩
  exact post_true (tb := 4) laid_out (by rw [Tryz.params4]; intro t ht; simp at ht; rcases ht with rfl | rfl | rfl <;> exact ⟨by kernel_rfl, of_decide_eq_true (by kernel_rfl)⟩) rfl Tryz.underlying4 rfl hW' rfl hb

theorem primaryNone_holds : Rows.PrimaryNoneSaid :=
  OpenClaim.holds_of_wide 4 Tryz.f4 rfl rfl rfl rfl rfl rfl rfl ⟨rfl, rfl, rfl, rfl, rfl⟩ rfl rfl rfl rfl rfl primaryNone_named Tryz.func4 primaryNone_facts
    primaryNone_inst primaryNone_wrap (fun os started H enc _ => lifted os started H enc)

theorem primaryNone_card : Rows.PrimaryNoneCardSaid :=
  Claim7.holds_tied_plain_at .later [] [.data, .data, .data, .data, .data] true (true, "d4d1b1bb2118ab6f735738157dd753cae39a8a1bc817b13a4470ef321fe6e7d7") false
    primaryNone_holds (fun _ h => by cases h) (by as_aux_lemma => kernel_rfl) (fun _ h => by cases h) primaryNone_row_tie rfl ⟨rfl, rfl⟩ (by as_aux_lemma => kernel_rfl) rfl
    (fun f fn hf hfn => by
      obtain rfl : f = 4 := Option.some.inj ((show Tryz.prog.funcNamed "rolodex/rolodexlaw20.PrimaryNone" = some 4 by as_aux_lemma => kernel_rfl).symm.trans hf) |>.symm
      obtain rfl : fn = Tryz.f4 := (Option.some.inj (Tryz.func4.symm.trans hfn)).symm
      exact ⟨by as_aux_lemma => kernel_rfl, fun j t ht => by
        rw [Tryz.params4] at ht
        have h3 : t = 60 ∨ t = 42 ∨ t = 3 := by
          rcases j with _ | _ | _ | j
          · left; simpa using ht.symm
          · right; left; simpa using ht.symm
          · right; right; simpa using ht.symm
          · simp at ht
        rcases h3 with rfl | rfl | rfl
        · exact (show Tryz.prog.wantsStandIn 60 = false by as_aux_lemma => kernel_rfl)
        · exact (show Tryz.prog.wantsStandIn 42 = false by as_aux_lemma => kernel_rfl)
        · exact (show Tryz.prog.wantsStandIn 3 = false by as_aux_lemma => kernel_rfl)⟩)
    (by as_aux_lemma => kernel_rfl)
end Go.Proofs.YtijeeiemklahiaaGreatDoor
