/-
  ReplicaNone: the machine's runs (a filled template).
-/
import Derived.Test.YtijeeiemklahiaaGreatDoorDmAwake21
import Derived.Test.YtijeeiemklahiaaGreatDoorDmFewEnd
namespace Go.DM
noncomputable section
open Go.Proofs
set_option maxRecDepth 1000000
section
variable (B : Nat → Bool) (X : Nat → Int) (N : Nat → Nat) (S : Nat → List UInt8) (C W : List DVal)
/-- Few, by a bool that it is owed to give. -/
noncomputable def fewOrc (b : Bool) (args : List DVal) (m : DMem) : Option (DVal × DMem) :=
  match args with
  | [.agg cs] => some (.bool b, ⟨m.t, m.size, (cs = fewCells B X N S ∧ m.get 5 = some (.ro C) ∧ m.get 6 = some (.ro W)) :: m.ob⟩)
  | _ => none
/-- What Few's call leans on. -/
noncomputable def FewGives (b : Bool) : Prop := ∃ m', CallP glN 8 [.agg (fewCells B X N S)] (stF C W) (.bool b) m'
theorem mk_refs (D : Nat → Bool) : ∀ (ks : List CK) (j : Nat), refsIn D (mkCells B X N S j ks) = true
  | [], _ => rfl
  | k :: ks, j => by
    simp only [mkCells, refsIn, Bool.and_eq_true]
    exact ⟨by cases k <;> rfl, mk_refs D ks (j + 1)⟩
theorem set_refs (D : Nat → Bool) {d : DVal} (hd : refIn D d = true) : ∀ (ds : List DVal) (n : Nat), refsIn D ds = true → refsIn D (ds.set n d) = true
  | [], _, _ => rfl
  | x :: ds, 0, h => by simp only [List.set, refsIn, Bool.and_eq_true] at h ⊢; exact ⟨hd, h.2⟩
  | x :: ds, n + 1, h => by simp only [List.set, refsIn, Bool.and_eq_true] at h ⊢; exact ⟨h.1, set_refs D hd ds n h.2⟩
noncomputable def inF (i : Nat) : Bool := Nat.beq i 5 || Nat.beq i 6
theorem fewOrc_ok {b : Bool} (hb : FewGives B X N S C W b) (hC : refsIn inF C = true) (hW : refsIn inF W = true) (args : List DVal) (m : DMem) (v : DVal) (m' : DMem) (h : fewOrc B X N S C W b args m = some (v, m')) :
    Owes m m' ∧ (Ok m' → CallP glA 8 args m v m') := by
  unfold fewOrc at h
  split at h
  · rename_i cs
    cases h
    refine ⟨fun p hp => List.mem_cons_of_mem _ hp, fun ho => ?_⟩
    obtain ⟨rfl, h1, h2⟩ := ho _ (List.mem_cons_self ..)
    obtain ⟨m1, hc⟩ := hb
    have key : CallP glN 8 [.agg (fewCells B X N S)] m (.bool b) m := by
      refine sub_call (D := inF) hc (fun g hg => by cases hg) ?_ ?_ ?_ rfl
      · intro i hi
        have hi : 7 ≤ i := hi
        show ((T.set (T.set .leaf 5 (.ro C)) 6 (.ro W)).get i : Option DObj) = none
        rw [T.get_set, T.get_set, if_neg (by omega), if_neg (by omega)]; rfl
      · intro i hi
        simp only [inF, Bool.or_eq_true] at hi
        rcases hi with hi | hi
        · obtain rfl := Nat.eq_of_beq_eq_true hi; exact ⟨(show 5 < 7 by omega), .ro C, rfl, h1, hC⟩
        · obtain rfl := Nat.eq_of_beq_eq_true hi; exact ⟨(show 6 < 7 by omega), .ro W, rfl, h2, hW⟩
      · simp only [refsIn, refIn, Bool.and_true]
        unfold fewCells
        exact set_refs _ rfl _ _ (set_refs _ rfl _ _ (mk_refs B X N S _ _ _))
    have k2 := CallP.widen (gl' := glA) (fun g hg => by cases hg) key
    intro ρ w A q1 q2 q3
    obtain ⟨r1, r2⟩ := k2 ρ w A q1 q2 q3
    refine ⟨r1, r2.mono ?_⟩
    rintro ex w' ⟨V, ρ', e1, e2, e3⟩
    exact ⟨V, ρ', e1, e2, Post.trans q1 e3 (Post.same e3.rel rfl rfl)⟩
  · cases h
noncomputable def orcR (b : Bool) : Orc := oneOrc 7 trueOrc (oneOrc 8 (fewOrc B X N S C W b) orcP)
theorem orcR_ok {b : Bool} (hb : FewGives B X N S C W b) (hC : refsIn inF C = true) (hW : refsIn inF W = true) : OrcOk glA (orcR B X N S C W b) :=
  oneOrc_ok (fun args m v m' h => free_ok (awake21_ok args m v m' h)) (oneOrc_ok (fewOrc_ok B X N S C W hb hC hW) (orcP_ok.widen glL_glA))
/-- The remainder is laid. -/
noncomputable def hintR (r : Nat) : Oper → Option DVal := fun o =>
  match o.op with
  | .binOp .rem _ _ (.const (.int .u8 (.ofNat n))) _ => match Nat.beq n 8 with
    | true => some (.int .u8 (.ofNat r))
    | false => none
  | _ => none
variable (s1 s2 : Spot)
noncomputable def rL : List (Nat × Spot × DObj) := (5, s1, .ro C) :: (6, s2, .ro W) :: tabL
noncomputable def rnRun (b : Bool) (r : Nat) (now p : Int) : Option (DVal × DMem) :=
  kcall true (ctxOf glA (orcR B X N S C W b) (hintR r)) 1000 (.fn 3) [.agg (fewCells B X N S), .int .i64 now, .int .u8 p] (stOf (rL C W s1 s2) 7)
noncomputable def fewOwed : Prop := fewCells B X N S = fewCells B X N S ∧ some (DObj.ro C) = some (.ro C) ∧ some (DObj.ro W) = some (.ro W)
theorem rn_no (now p : Int) : obsT (rnRun B X N S C W s1 s2 false 0 now p) = some [fewOwed B X N S C W] := by kernel_rfl
theorem rn_0 (now p : Int) : obsT (rnRun B X N S C W s1 s2 true 0 now p) = some [DVal.int .u8 (p.tmod 8) = .int .u8 (.ofNat 0), DVal.int .u8 (p.tmod 8) = .int .u8 (.ofNat 0), fewOwed B X N S C W] := by kernel_rfl
theorem rn_1 (now p : Int) : obsT (rnRun B X N S C W s1 s2 true 1 now p) = some [DVal.int .u8 (p.tmod 8) = .int .u8 (.ofNat 1), DVal.int .u8 (p.tmod 8) = .int .u8 (.ofNat 1), fewOwed B X N S C W] := by kernel_rfl
theorem rn_2 (now p : Int) : obsT (rnRun B X N S C W s1 s2 true 2 now p) = some [DVal.int .u8 (p.tmod 8) = .int .u8 (.ofNat 2), DVal.int .u8 (p.tmod 8) = .int .u8 (.ofNat 2), fewOwed B X N S C W] := by kernel_rfl
theorem rn_3 (now p : Int) : obsT (rnRun B X N S C W s1 s2 true 3 now p) = some [DVal.int .u8 (p.tmod 8) = .int .u8 (.ofNat 3), DVal.int .u8 (p.tmod 8) = .int .u8 (.ofNat 3), fewOwed B X N S C W] := by kernel_rfl
theorem rn_4 (now p : Int) : obsT (rnRun B X N S C W s1 s2 true 4 now p) = some [DVal.int .u8 (p.tmod 8) = .int .u8 (.ofNat 4), DVal.int .u8 (p.tmod 8) = .int .u8 (.ofNat 4), fewOwed B X N S C W] := by kernel_rfl
theorem rn_5 (now p : Int) : obsT (rnRun B X N S C W s1 s2 true 5 now p) = some [DVal.int .u8 (p.tmod 8) = .int .u8 (.ofNat 5), DVal.int .u8 (p.tmod 8) = .int .u8 (.ofNat 5), fewOwed B X N S C W] := by kernel_rfl
theorem rn_6 (now p : Int) : obsT (rnRun B X N S C W s1 s2 true 6 now p) = some [DVal.int .u8 (p.tmod 8) = .int .u8 (.ofNat 6), DVal.int .u8 (p.tmod 8) = .int .u8 (.ofNat 6), fewOwed B X N S C W] := by kernel_rfl
theorem rn_7 (now p : Int) : obsT (rnRun B X N S C W s1 s2 true 7 now p) = some [DVal.int .u8 (p.tmod 8) = .int .u8 (.ofNat 7), DVal.int .u8 (p.tmod 8) = .int .u8 (.ofNat 7), fewOwed B X N S C W] := by kernel_rfl
end
end
end Go.DM
