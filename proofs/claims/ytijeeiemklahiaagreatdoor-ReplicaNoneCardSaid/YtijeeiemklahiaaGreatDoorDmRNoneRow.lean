/-
  ReplicaNone is true for every input: its row, and its card (a filled template). No condition but the row's own.
-/
import Derived.Test.YtijeeiemklahiaaGreatDoorDmRNone
import Derived.Test.YtijeeiemklahiaaGreatDoorDmMsgOpen
import Derived.Test.YtijeeiemklahiaaGreatDoorDmRNoneFacts
import Derived.Test.YtijeeiemklahiaaGreatDoorCards
import Derived.Test.YtijeeiemklahiaaGreatDoorTie
namespace Go.Proofs.YtijeeiemklahiaaGreatDoor
open Go Go.DM Go.ChangeShapes Go.WideShapes Go.ChangeAt Go.RowKit
set_option maxRecDepth 1000000
theorem rn_true {B : Nat → Bool} {X : Nat → Int} {N : Nat → Nat} {S : Nat → List UInt8} {C W : List DVal} {l u v : Nat → Nat} (hl : Lists N C W l u v) (hC : ∀ D, refsIn D C = true) (hW : ∀ D, refsIn D W = true) (s1 s2 : Spot) (now p : Int) (hp : 0 ≤ p) :
    ∃ m', CallP glA 3 [.agg (fewCells B X N S), .int .i64 now, .int .u8 p] (stOf (rL C W s1 s2) 7) (.bool true) m' := by
  obtain ⟨b, mf, hf⟩ := few_some (B := B) (X := X) (S := S) hl.c hl.u hl.v
  have hb : FewGives B X N S C W b := ⟨mf, hf⟩
  have own : fewOwed B X N S C W := ⟨rfl, rfl, rfl⟩
  cases b with
  | false =>
    obtain ⟨m, e1, e2⟩ := obsT_facts (rn_no B X N S C W s1 s2 now p) (by simp only [List.forall_mem_cons, List.not_mem_nil, false_imp_iff, implies_true, and_true]; exact own)
    exact ⟨m, (CallP.run (orcR_ok B X N S C W hb (hC _) (hW _)) e1).2 e2⟩
  | true =>
    have hm : ∀ r : Nat, p.tmod 8 = (r : Int) → ∀ q ∈ [DVal.int .u8 (p.tmod 8) = .int .u8 (.ofNat r), DVal.int .u8 (p.tmod 8) = .int .u8 (.ofNat r), fewOwed B X N S C W], q := by
      intro r hr
      simp only [List.forall_mem_cons, List.not_mem_nil, false_imp_iff, implies_true, and_true]
      exact ⟨by rw [hr]; rfl, by rw [hr]; rfl, own⟩
    have hlt : p.tmod 8 = 0 ∨ p.tmod 8 = 1 ∨ p.tmod 8 = 2 ∨ p.tmod 8 = 3 ∨ p.tmod 8 = 4 ∨ p.tmod 8 = 5 ∨ p.tmod 8 = 6 ∨ p.tmod 8 = 7 := by
      rw [Int.tmod_eq_emod_of_nonneg hp]; omega
    rcases hlt with h | h | h | h | h | h | h | h
    · obtain ⟨m, e1, e2⟩ := obsT_facts (rn_0 B X N S C W s1 s2 now p) (hm 0 h); exact ⟨m, (CallP.run (orcR_ok B X N S C W hb (hC _) (hW _)) e1).2 e2⟩
    · obtain ⟨m, e1, e2⟩ := obsT_facts (rn_1 B X N S C W s1 s2 now p) (hm 1 h); exact ⟨m, (CallP.run (orcR_ok B X N S C W hb (hC _) (hW _)) e1).2 e2⟩
    · obtain ⟨m, e1, e2⟩ := obsT_facts (rn_2 B X N S C W s1 s2 now p) (hm 2 h); exact ⟨m, (CallP.run (orcR_ok B X N S C W hb (hC _) (hW _)) e1).2 e2⟩
    · obtain ⟨m, e1, e2⟩ := obsT_facts (rn_3 B X N S C W s1 s2 now p) (hm 3 h); exact ⟨m, (CallP.run (orcR_ok B X N S C W hb (hC _) (hW _)) e1).2 e2⟩
    · obtain ⟨m, e1, e2⟩ := obsT_facts (rn_4 B X N S C W s1 s2 now p) (hm 4 h); exact ⟨m, (CallP.run (orcR_ok B X N S C W hb (hC _) (hW _)) e1).2 e2⟩
    · obtain ⟨m, e1, e2⟩ := obsT_facts (rn_5 B X N S C W s1 s2 now p) (hm 5 h); exact ⟨m, (CallP.run (orcR_ok B X N S C W hb (hC _) (hW _)) e1).2 e2⟩
    · obtain ⟨m, e1, e2⟩ := obsT_facts (rn_6 B X N S C W s1 s2 now p) (hm 6 h); exact ⟨m, (CallP.run (orcR_ok B X N S C W hb (hC _) (hW _)) e1).2 e2⟩
    · obtain ⟨m, e1, e2⟩ := obsT_facts (rn_7 B X N S C W s1 s2 now p) (hm 7 h); exact ⟨m, (CallP.run (orcR_ok B X N S C W hb (hC _) (hW _)) e1).2 e2⟩

theorem door_met (os : Os) (args : Array Value) : laidMetH Tryz.prog Rows.replicaNoneRow.laid ((World.doorLaid Tryz.prog 39 os).forCall (fun _ _ => 0) ⟨#[], args, []⟩).memory :=
  laidMetH_of_parts3 (fuel := 8) (laidMet_of_run' 8 (by kernel_rfl) (by kernel_rfl)) (by kernel_rfl) (by kernel_rfl)

theorem lifted (os : Os) (started : os.Started) (H : Type) (enc : TypeId × Value → H) :
    ReturnsInHanded {} Tryz.checked os 3 .any (fun w args => (Rows.replicaNoneSpec.pre enc Tryz.prog Tryz.f3 [] false w args ∧ laidMetH Tryz.prog Rows.replicaNoneRow.laid w) ∧ sizedMet enc Tryz.prog Tryz.f3 (OpenSpec.ofChange Rows.replicaNoneSpec) false w args)
      (Rows.replicaNoneSpec.post enc Tryz.prog Tryz.f3 false true false false) := by
  refine returnsInHanded_of_change_and (C := Tryz.checked) (X := fun w _ => laidMetH Tryz.prog Rows.replicaNoneRow.laid w) (fun _ _ _ hh h => h.of_heap hh) own_knob started (by kernel_rfl) Tryz.func3
    (ChangeSpec.witness_shaped (enc := enc) (C := Tryz.checked) (os := os) (X := fun w _ => laidMetH Tryz.prog Rows.replicaNoneRow.laid w) false (World.doorLaid Tryz.prog 39 os) #[zeroOf 42, .int .i64 0, .int .u8 0] 8 rfl (World.shaped_of_RefB (by kernel_rfl) (by kernel_rfl)) (by kernel_rfl) (by kernel_rfl) (by kernel_rfl) (door_met os _)) ?_
  intro W base args ds gs before hval0 hW _ _ hL _
  have hval : ∀ (j : Nat) t v, Tryz.f3.params[j]? = some t → args[j]? = some v → Value.okWide Tryz.prog W .any base t v := hval0
  have hW' := hW
  obtain ⟨p, q, hA0, hV0, rfl, hfz, hnd⟩ := hW
  have hA : DataW.TrodAll enc Tryz.prog W 0 (fun _ => true) true Tryz.f3.params.toList args.toList ds p := hA0
  obtain ⟨rfl, rfl⟩ := trodVars_none hV0
  rw [Tryz.params3] at hA hval
  obtain ⟨v0, v1, v2, d0, d1, d2, p0, p1, p2, rfl, rfl, rfl, h0, h1, h2⟩ := trodAll_three hA
  obtain ⟨e, rfl, rfl, rfl, we⟩ := open_int Tryz.underlying3 (hval 1 3 v1 rfl rfl) h1
  obtain ⟨f, rfl, rfl, rfl, wf⟩ := open_int Tryz.underlying5 (hval 2 5 v2 rfl rfl) h2
  obtain ⟨B, X, N, S, C, Wd, l, u, v, s1, s2, hl, hC, hWd, b1, b2, k1, k2, hv⟩ := open_msg (W0 := W) hL (hval 0 42 v0 rfl rfl) h0
  have hpos : 0 ≤ f := by
    have h0 : IntKind.u8.min = 0 := by decide
    simp [Lit.wf] at wf
    omega
  obtain ⟨m', hrun⟩ := rn_true (B := B) (X := X) (S := S) hl hC hWd s1 s2 e f hpos
  have hst : ∀ i s o, (i, s, o) ∈ rL C Wd s1 s2 → i < 7 ∧ s.blk < W.heap.size ∧ (∀ ρ, BlkRel ρ s W o) ∧ still o := by
    intro i s o hm
    simp only [rL, List.mem_cons] at hm
    rcases hm with hm | hm | hm
    · cases hm; exact ⟨by omega, b1, k1, trivial⟩
    · cases hm; exact ⟨by omega, b2, k2, trivial⟩
    · obtain ⟨a1, a2, a3⟩ := start_rows (W := W) hL i s o hm
      exact ⟨by omega, a2, a3, tab_still i s o hm⟩
  have hm : MRel (renOf (rL C Wd s1 s2)) (stOf (rL C Wd s1 s2) 7) W := start_of fun i s o hm => by
    obtain ⟨a1, a2, a3, a4⟩ := hst i s o hm
    exact ⟨a1, a2, a3 _, a4⟩
  have hg : GOk (ctxOf glA noOrc noHint) (renOf (rL C Wd s1 s2)) := by
    intro g hg
    have := glA_mem hg
    simp at this
    rcases this with rfl | rfl | rfl | rfl | rfl <;> exact ⟨_, rfl⟩
  refine (law_true hrun (fun i s o h => (hst i s o h).2.2.2) hm hg (A := #[v0, .int .i64 e, .int .u8 f]) (.cons (hv _ rfl rfl) (.cons (by simp only [VRel]) (.cons (by simp only [VRel]) .nil)))).mono fun ex W' ⟨he, hb⟩ => ⟨_, he, ?_⟩
  exact post_true (tb := 4) laid_out (by rw [Tryz.params3]; intro t ht; simp at ht; rcases ht with rfl | rfl | rfl <;> exact ⟨by kernel_rfl, of_decide_eq_true (by kernel_rfl)⟩) rfl Tryz.underlying4 rfl hW' rfl hb

theorem replicaNone_holds : Rows.ReplicaNoneSaid :=
  OpenClaim.holds_of_wide 3 Tryz.f3 rfl rfl rfl rfl rfl rfl rfl ⟨rfl, rfl, rfl, rfl, rfl⟩ rfl rfl rfl rfl rfl replicaNone_named Tryz.func3 replicaNone_facts
    replicaNone_inst replicaNone_wrap (fun os started H enc _ => lifted os started H enc)

theorem replicaNone_card : Rows.ReplicaNoneCardSaid :=
  Claim7.holds_tied_plain_at .later [] [.data, .data, .data, .data, .data] true (true, "d4d1b1bb2118ab6f735738157dd753cae39a8a1bc817b13a4470ef321fe6e7d7") false
    replicaNone_holds (fun _ h => by cases h) (by as_aux_lemma => kernel_rfl) (fun _ h => by cases h) replicaNone_row_tie rfl ⟨rfl, rfl⟩ (by as_aux_lemma => kernel_rfl) rfl
    (fun f fn hf hfn => by
      obtain rfl : f = 3 := Option.some.inj ((show Tryz.prog.funcNamed "rolodex/rolodexlaw21.ReplicaNone" = some 3 by as_aux_lemma => kernel_rfl).symm.trans hf) |>.symm
      obtain rfl : fn = Tryz.f3 := (Option.some.inj (Tryz.func3.symm.trans hfn)).symm
      exact ⟨by as_aux_lemma => kernel_rfl, fun j t ht => by
        rw [Tryz.params3] at ht
        have h3 : t = 42 ∨ t = 3 ∨ t = 5 := by
          rcases j with _ | _ | _ | j
          · left; simpa using ht.symm
          · right; left; simpa using ht.symm
          · right; right; simpa using ht.symm
          · simp at ht
        rcases h3 with rfl | rfl | rfl
        · exact (show Tryz.prog.wantsStandIn 42 = false by as_aux_lemma => kernel_rfl)
        · exact (show Tryz.prog.wantsStandIn 3 = false by as_aux_lemma => kernel_rfl)
        · exact (show Tryz.prog.wantsStandIn 5 = false by as_aux_lemma => kernel_rfl)⟩)
    (by as_aux_lemma => kernel_rfl)
end Go.Proofs.YtijeeiemklahiaaGreatDoor
