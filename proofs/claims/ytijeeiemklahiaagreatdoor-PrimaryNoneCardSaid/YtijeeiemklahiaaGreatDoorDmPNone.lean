/-
  PrimaryNone: the machine's runs (a filled template).
-/
import Derived.Test.YtijeeiemklahiaaGreatDoorDmAwake20
import Derived.Test.YtijeeiemklahiaaGreatDoorDmArg
namespace Go.DM
noncomputable section
open Go.Proofs
set_option maxRecDepth 1000000
noncomputable def ksMsg : List CK := match kindsOf Tryz.prog 10 42 with
  | some l => l
  | none => []
theorem ksMsg_eq : kindsOf Tryz.prog 10 42 = some ksMsg := by kernel_rfl
def orcPN : Orc := oneOrc 17 trueOrc orcP
theorem orcPN_ok : OrcOk glA orcPN := oneOrc_ok (fun args m v m' h => free_ok (awake20_ok args m v m' h)) (orcP_ok.widen glL_glA)
/-- Two values are laid: whether the label is too long; the greater one of the height and 5. -/
def hintPN (q : Bool) (k : Nat) : Oper → Option DVal := fun o =>
  match o.op with
  | .binOp .gtr _ _ (.const (.int .i64 (.ofNat n))) _ => match Nat.beq n 100 with
    | true => some (.bool q)
    | false => none
  | .call ⟨.builtin .max, _, _⟩ => some (.int .i64 (.ofNat (k + 5)))
  | _ => none
def pnRun (q : Bool) (k : Nat) (a b c : Int) (x : Nat → Int) (B : Nat → Bool) (X : Nat → Int) (N : Nat → Nat) (S : Nat → List UInt8) (tick : Int) : Option (DVal × DMem) :=
  kcall true (ctxOf glA orcPN (hintPN q k)) 1000 (some 4) [.agg (.int .i64 a :: .int .i64 b :: .int .i64 c :: ints .u8 32 x), .agg (mkCells B X N S 0 ksMsg), .int .i64 tick] stA
section
variable (k : Nat) (a b c : Int) (x : Nat → Int) (B : Nat → Bool) (X : Nat → Int) (N : Nat → Nat) (S : Nat → List UInt8) (tick : Int)
theorem pn_long : obsT (pnRun true k a b c x B X N S tick) = some [DVal.bool (Nat.blt 100 (N 7)) = .bool true] := by kernel_rfl
def pnObs : List Prop := [DVal.int .i64 (if (5 : Int) > a then 5 else a) = .int .i64 (.ofNat (k + 5)), DVal.bool (Nat.blt 100 (N 7)) = .bool false]
theorem pn_bn (y : Nat) : obsT (pnRun false k a (.negSucc y) c x B X N S tick) = some (pnObs k a N) := by kernel_rfl
theorem pn_b0 : obsT (pnRun false k a (.ofNat 0) c x B X N S tick) = some (pnObs k a N) := by kernel_rfl
theorem pn_bg (y : Nat) : obsT (pnRun false k a (.ofNat (y + 5)) c x B X N S tick) = some (pnObs k a N) := by kernel_rfl
theorem pn_1m : obsT (pnRun false k a (.ofNat 1) (.negSucc 0) x B X N S tick) = some (pnObs k a N) := by kernel_rfl
theorem pn_1n (y : Nat) : obsT (pnRun false k a (.ofNat 1) (.negSucc (y + 1)) x B X N S tick) = some (pnObs k a N) := by kernel_rfl
theorem pn_10 : obsT (pnRun false k a (.ofNat 1) (.ofNat 0) x B X N S tick) = some (pnObs k a N) := by kernel_rfl
theorem pn_1g (y : Nat) : obsT (pnRun false k a (.ofNat 1) (.ofNat (y + 5)) x B X N S tick) = some (pnObs k a N) := by kernel_rfl
theorem pn_11 : obsT (pnRun false k a (.ofNat 1) (.ofNat 1) x B X N S tick) = some (pnObs k a N) := by kernel_rfl
theorem pn_12 : obsT (pnRun false k a (.ofNat 1) (.ofNat 2) x B X N S tick) = some (pnObs k a N) := by kernel_rfl
theorem pn_13 : obsT (pnRun false k a (.ofNat 1) (.ofNat 3) x B X N S tick) = some (pnObs k a N) := by kernel_rfl
theorem pn_14 : obsT (pnRun false k a (.ofNat 1) (.ofNat 4) x B X N S tick) = some (pnObs k a N) := by kernel_rfl
theorem pn_2m : obsT (pnRun false k a (.ofNat 2) (.negSucc 0) x B X N S tick) = some (pnObs k a N) := by kernel_rfl
theorem pn_2n (y : Nat) : obsT (pnRun false k a (.ofNat 2) (.negSucc (y + 1)) x B X N S tick) = some (pnObs k a N) := by kernel_rfl
theorem pn_20 : obsT (pnRun false k a (.ofNat 2) (.ofNat 0) x B X N S tick) = some (pnObs k a N) := by kernel_rfl
theorem pn_2g (y : Nat) : obsT (pnRun false k a (.ofNat 2) (.ofNat (y + 5)) x B X N S tick) = some (pnObs k a N) := by kernel_rfl
theorem pn_21 : obsT (pnRun false k a (.ofNat 2) (.ofNat 1) x B X N S tick) = some (pnObs k a N) := by kernel_rfl
theorem pn_22 : obsT (pnRun false k a (.ofNat 2) (.ofNat 2) x B X N S tick) = some (pnObs k a N) := by kernel_rfl
theorem pn_23 : obsT (pnRun false k a (.ofNat 2) (.ofNat 3) x B X N S tick) = some (pnObs k a N) := by kernel_rfl
theorem pn_24 : obsT (pnRun false k a (.ofNat 2) (.ofNat 4) x B X N S tick) = some (pnObs k a N) := by kernel_rfl
theorem pn_3m : obsT (pnRun false k a (.ofNat 3) (.negSucc 0) x B X N S tick) = some (pnObs k a N) := by kernel_rfl
theorem pn_3n (y : Nat) : obsT (pnRun false k a (.ofNat 3) (.negSucc (y + 1)) x B X N S tick) = some (pnObs k a N) := by kernel_rfl
theorem pn_30 : obsT (pnRun false k a (.ofNat 3) (.ofNat 0) x B X N S tick) = some (pnObs k a N) := by kernel_rfl
theorem pn_3g (y : Nat) : obsT (pnRun false k a (.ofNat 3) (.ofNat (y + 5)) x B X N S tick) = some (pnObs k a N) := by kernel_rfl
theorem pn_31 : obsT (pnRun false k a (.ofNat 3) (.ofNat 1) x B X N S tick) = some (pnObs k a N) := by kernel_rfl
theorem pn_32 : obsT (pnRun false k a (.ofNat 3) (.ofNat 2) x B X N S tick) = some (pnObs k a N) := by kernel_rfl
theorem pn_33 : obsT (pnRun false k a (.ofNat 3) (.ofNat 3) x B X N S tick) = some (pnObs k a N) := by kernel_rfl
theorem pn_34 : obsT (pnRun false k a (.ofNat 3) (.ofNat 4) x B X N S tick) = some (pnObs k a N) := by kernel_rfl
theorem pn_4m : obsT (pnRun false k a (.ofNat 4) (.negSucc 0) x B X N S tick) = some (pnObs k a N) := by kernel_rfl
theorem pn_4n (y : Nat) : obsT (pnRun false k a (.ofNat 4) (.negSucc (y + 1)) x B X N S tick) = some (pnObs k a N) := by kernel_rfl
theorem pn_40 : obsT (pnRun false k a (.ofNat 4) (.ofNat 0) x B X N S tick) = some (pnObs k a N) := by kernel_rfl
theorem pn_4g (y : Nat) : obsT (pnRun false k a (.ofNat 4) (.ofNat (y + 5)) x B X N S tick) = some (pnObs k a N) := by kernel_rfl
theorem pn_41 : obsT (pnRun false k a (.ofNat 4) (.ofNat 1) x B X N S tick) = some (pnObs k a N) := by kernel_rfl
theorem pn_42 : obsT (pnRun false k a (.ofNat 4) (.ofNat 2) x B X N S tick) = some (pnObs k a N) := by kernel_rfl
theorem pn_43 : obsT (pnRun false k a (.ofNat 4) (.ofNat 3) x B X N S tick) = some (pnObs k a N) := by kernel_rfl
theorem pn_44 : obsT (pnRun false k a (.ofNat 4) (.ofNat 4) x B X N S tick) = some (pnObs k a N) := by kernel_rfl
theorem pn_few : obsT (pnRun false k a b c x B X N S tick) = some (pnObs k a N) := by
  cases b with
  | negSucc y => exact pn_bn k a c x B X N S tick y
  | ofNat y => match y with
    | 0 => exact pn_b0 k a c x B X N S tick
    | 1 => cases c with
      | negSucc z => match z with
        | 0 => exact pn_1m k a x B X N S tick
        | z + 1 => exact pn_1n k a x B X N S tick z
      | ofNat z => match z with
        | 0 => exact pn_10 k a x B X N S tick
        | 1 => exact pn_11 k a x B X N S tick
        | 2 => exact pn_12 k a x B X N S tick
        | 3 => exact pn_13 k a x B X N S tick
        | 4 => exact pn_14 k a x B X N S tick
        | z + 5 => exact pn_1g k a x B X N S tick z
    | 2 => cases c with
      | negSucc z => match z with
        | 0 => exact pn_2m k a x B X N S tick
        | z + 1 => exact pn_2n k a x B X N S tick z
      | ofNat z => match z with
        | 0 => exact pn_20 k a x B X N S tick
        | 1 => exact pn_21 k a x B X N S tick
        | 2 => exact pn_22 k a x B X N S tick
        | 3 => exact pn_23 k a x B X N S tick
        | 4 => exact pn_24 k a x B X N S tick
        | z + 5 => exact pn_2g k a x B X N S tick z
    | 3 => cases c with
      | negSucc z => match z with
        | 0 => exact pn_3m k a x B X N S tick
        | z + 1 => exact pn_3n k a x B X N S tick z
      | ofNat z => match z with
        | 0 => exact pn_30 k a x B X N S tick
        | 1 => exact pn_31 k a x B X N S tick
        | 2 => exact pn_32 k a x B X N S tick
        | 3 => exact pn_33 k a x B X N S tick
        | 4 => exact pn_34 k a x B X N S tick
        | z + 5 => exact pn_3g k a x B X N S tick z
    | 4 => cases c with
      | negSucc z => match z with
        | 0 => exact pn_4m k a x B X N S tick
        | z + 1 => exact pn_4n k a x B X N S tick z
      | ofNat z => match z with
        | 0 => exact pn_40 k a x B X N S tick
        | 1 => exact pn_41 k a x B X N S tick
        | 2 => exact pn_42 k a x B X N S tick
        | 3 => exact pn_43 k a x B X N S tick
        | 4 => exact pn_44 k a x B X N S tick
        | z + 5 => exact pn_4g k a x B X N S tick z
    | y + 5 => exact pn_bg k a c x B X N S tick y
/-- THE LAW's CALL gives true. -/
theorem pn_true : ∃ m', CallP glA 4 [.agg (.int .i64 a :: .int .i64 b :: .int .i64 c :: ints .u8 32 x), .agg (mkCells B X N S 0 ksMsg), .int .i64 tick] stA (.bool true) m' := by
  cases hl : Nat.blt 100 (N 7) with
  | true =>
    obtain ⟨m, e1, e2⟩ := obsT_facts (pn_long 0 a b c x B X N S tick) (by intro p hp; simp only [List.mem_singleton] at hp; subst hp; rw [hl])
    exact ⟨m, (CallP.run orcPN_ok e1).2 e2⟩
  | false =>
    obtain ⟨k, hk⟩ : ∃ k : Nat, (if (5 : Int) > a then 5 else a) = .ofNat (k + 5) := by
      by_cases h : (5 : Int) > a
      · exact ⟨0, by rw [if_pos h]; rfl⟩
      · exact ⟨(a - 5).toNat, by rw [if_neg h]; show a = (((a - 5).toNat + 5 : Nat) : Int); omega⟩
    obtain ⟨m, e1, e2⟩ := obsT_facts (pn_few k a b c x B X N S tick) (by
      intro p hp
      simp only [pnObs, List.mem_cons, List.not_mem_nil, or_false] at hp
      rcases hp with rfl | rfl
      · rw [hk]
      · rw [hl])
    exact ⟨m, (CallP.run orcPN_ok e1).2 e2⟩
end
end
end Go.DM
