/-
  rolodexref18.Few gives a bool, whatever the message (a filled template).
-/
import Derived.Test.YtijeeiemklahiaaGreatDoorDmMsg
namespace Go.DM
noncomputable section
open Go.Proofs
set_option maxRecDepth 1000000
noncomputable def glN : Nat → Bool := fun _ => false
/-- The part of the memory: what the chain and the news hold. -/
noncomputable def stF (C W : List DVal) : DMem := ⟨T.set (T.set .leaf 5 (.ro C)) 6 (.ro W), 7, []⟩
section
variable (B : Nat → Bool) (X : Nat → Int) (N : Nat → Nat) (S : Nat → List UInt8) (C W : List DVal)
noncomputable def fewCells : List DVal := ((mkCells B X N S 0 ksMsg).set 275 (.view (some (5, 0)) (N 275))).set 277 (.view (some (6, 0)) (N 277))
noncomputable def stM : DMem := (stF C W).alloc (.cells (fewCells B X N S) 42 0)
noncomputable def fewCode : Code := match Tryz.f8.body with
  | some code => code
  | none => .skip
noncomputable def loop1 : Code := match loopAt 6 fewCode with
  | some b => b
  | none => .skip
noncomputable def loop2 : Code := match loopAt 11 fewCode with
  | some b => b
  | none => .skip
/-- The frame at a loop's head: the message's place, the result, one slot; the others as they are. -/
noncomputable def headF (k : Nat) (d : DVal) (j : Nat → DVal) : Nat → DVal := fun t =>
  match Nat.beq t 1 with
  | true => .ptr (some (7, 0))
  | false => match Nat.beq t 2 with
    | true => .bool false
    | false => match Nat.beq t k with
      | true => d
      | false => j t
noncomputable def headS (k : Nat) (d : DVal) (j : Nat → DVal) : DSt := ⟨ofFn 120 (headF k d j), stM B X N S C W⟩
noncomputable def endS (m : DMem) (j : Nat → DVal) : DSt := ⟨ofFn 120 (headF 1 (.ptr (some (7, 0))) j), m⟩
/-- A loop comes to an exit. -/
noncomputable def Out (b : Code) (k : Nat) (x : DExit) : Prop := ∀ j0, ∃ j, CodeP glN (.loop b) (headS B X N S C W k (.int .i64 (.ofNat 0)) j0) x (endS (stM B X N S C W) j)
noncomputable def liveB (k : Nat) (s : DSt) : Bool :=
  Nat.beq s.fr.n 120 && (match s.fr.getD 1 with
    | .ptr (some (b, o)) => Nat.beq b 7 && Nat.beq o 0
    | _ => false) && (match s.fr.getD 2 with
    | .bool false => true
    | _ => false) && (match s.fr.getD k with
    | .int .i64 (.ofNat n) => Nat.beq n 0
    | _ => false)
theorem liveB_facts {k : Nat} {s : DSt} (h : liveB k s = true) : s.fr.n = 120 ∧ s.fr.getD 1 = .ptr (some (7, 0)) ∧ s.fr.getD 2 = .bool false ∧ s.fr.getD k = .int .i64 (.ofNat 0) := by
  unfold liveB at h
  simp only [Bool.and_eq_true] at h
  obtain ⟨⟨⟨h1, h2⟩, h3⟩, h4⟩ := h
  refine ⟨Nat.eq_of_beq_eq_true h1, ?_, ?_, ?_⟩
  · split at h2
    · rename_i b o e
      simp only [Bool.and_eq_true] at h2
      rw [e, Nat.eq_of_beq_eq_true h2.1, Nat.eq_of_beq_eq_true h2.2]
    · cases h2
  · split at h3
    · assumption
    · cases h3
  · split at h4
    · rename_i n e
      rw [e, Nat.eq_of_beq_eq_true h4]
    · cases h4
open Classical in
noncomputable def lpOne (k : Nat) (x : DExit) (b : Code) (s : DSt) : Option (DExit × DSt × Prop) :=
  match liveB k s with
  | true => some (x, endS s.m (@epsilon _ ⟨fun _ => dundef⟩ fun j => CodeP glN (.loop b) s x (endS s.m j)), (s.m.t = (stM B X N S C W).t ∧ s.m.size = (stM B X N S C W).size) ∧ Out B X N S C W b k x)
  | false => none
noncomputable def lpF (x1 x2 : DExit) : Lp := fun code =>
  match headReg code with
  | some i => match Nat.beq i 6 with
    | true => some (lpOne B X N S C W 3 x1 code)
    | false => match Nat.beq i 11 with
      | true => some (lpOne B X N S C W 4 x2 code)
      | false => none
  | none => none
theorem lpOne_ok {k : Nat} {x : DExit} {b : Code} {s s' : DSt} {e : DExit} {P : Prop} (h : lpOne B X N S C W k x b s = some (e, s', P)) : Owes s.m s'.m ∧ (P → CodeP glN (.loop b) s e s') := by
  unfold lpOne at h
  split at h
  · rename_i hl
    cases h
    refine ⟨Owes.refl _, ?_⟩
    rintro ⟨⟨h1, h2⟩, h3⟩
    obtain ⟨f1, f2, f3, f4⟩ := liveB_facts hl
    obtain ⟨j, hj⟩ := h3 (fun t => s.fr.getD t)
    have h5 : CodeP glN (.loop b) s x (endS s.m j) := by
      refine CodeTo.to (CodeTo.from hj (frEq_ofFn f1 ?_) h1.symm h2.symm) (fun _ => rfl) h1 h2
      intro t _
      unfold headF
      by_cases e1 : t = 1
      · subst e1; simp [f2]
      · by_cases e2 : t = 2
        · subst e2; simp [f3]
        · have b1 : Nat.beq t 1 = false := by rw [← Bool.not_eq_true]; exact fun h => e1 (Nat.eq_of_beq_eq_true h)
          have b2 : Nat.beq t 2 = false := by rw [← Bool.not_eq_true]; exact fun h => e2 (Nat.eq_of_beq_eq_true h)
          rw [b1, b2]
          simp only
          split
          · rename_i h; rw [Nat.eq_of_beq_eq_true h, f4]
          · rfl
    exact Classical.epsilon_spec (p := fun j => CodeP glN (.loop b) s x (endS s.m j)) ⟨j, h5⟩
  · cases h
theorem lpF_ok (x1 x2 : DExit) : LpP glN (lpF B X N S C W x1 x2) := by
  intro b g s e s' P h1 h2
  unfold lpF at h1
  split at h1
  · split at h1
    · cases h1; exact lpOne_ok B X N S C W h2
    · split at h1
      · cases h1; exact lpOne_ok B X N S C W h2
      · cases h1
  · cases h1

noncomputable def fewRun (hs : List (Nat × DVal)) (x1 x2 : DExit) : Option (DVal × DMem) :=
  kcall true (ctxAll glN noOrc (hintD hs) noPre (lpF B X N S C W x1 x2)) 1000 (.fn 8) [.agg (fewCells B X N S)] (stF C W)
noncomputable def noH : List (Nat × DVal) := [(8, .bool false), (13, .bool false), (20, .bool false), (27, .bool false), (33, .bool false), (39, .bool false), (45, .bool false), (51, .bool false), (57, .bool false), (63, .bool false), (70, .bool false), (77, .bool false)]
noncomputable def cmpOk : List Prop := [DVal.bool (Nat.blt 30 (N 79)) = .bool false, DVal.bool (Nat.blt 30 (N 78)) = .bool false, DVal.bool (Nat.blt 30 (N 77)) = .bool false, DVal.bool (Nat.blt 30 (N 76)) = .bool false, DVal.bool (Nat.blt 30 (N 278)) = .bool false, DVal.bool (Nat.blt 30 (N 277)) = .bool false, DVal.bool (Nat.blt 30 (N 276)) = .bool false, DVal.bool (Nat.blt 30 (N 275)) = .bool false, DVal.bool (Nat.blt 30 (N 112)) = .bool false, DVal.bool (Nat.blt 9000 (N 75)) = .bool false, DVal.bool (Nat.blt 100 (N 8)) = .bool false, DVal.bool (Nat.blt 100 (N 7)) = .bool false]
theorem few_e0 : resB (fewRun B X N S C W [(8, .bool true)] .ret .ret) = some (false, [DVal.bool (Nat.blt 100 (N 7)) = .bool true]) := by kernel_rfl
theorem few_e1 : resB (fewRun B X N S C W [(8, .bool false), (13, .bool true)] .ret .ret) = some (false, [DVal.bool (Nat.blt 100 (N 8)) = .bool true, DVal.bool (Nat.blt 100 (N 7)) = .bool false]) := by kernel_rfl
theorem few_e2 : resB (fewRun B X N S C W [(8, .bool false), (13, .bool false), (20, .bool true)] .ret .ret) = some (false, [DVal.bool (Nat.blt 9000 (N 75)) = .bool true, DVal.bool (Nat.blt 100 (N 8)) = .bool false, DVal.bool (Nat.blt 100 (N 7)) = .bool false]) := by kernel_rfl
theorem few_e3 : resB (fewRun B X N S C W [(8, .bool false), (13, .bool false), (20, .bool false), (27, .bool true)] .ret .ret) = some (false, [DVal.bool (Nat.blt 30 (N 112)) = .bool true, DVal.bool (Nat.blt 9000 (N 75)) = .bool false, DVal.bool (Nat.blt 100 (N 8)) = .bool false, DVal.bool (Nat.blt 100 (N 7)) = .bool false]) := by kernel_rfl
theorem few_e4 : resB (fewRun B X N S C W [(8, .bool false), (13, .bool false), (20, .bool false), (27, .bool false), (33, .bool true)] .ret .ret) = some (false, [DVal.bool (Nat.blt 30 (N 275)) = .bool true, DVal.bool (Nat.blt 30 (N 112)) = .bool false, DVal.bool (Nat.blt 9000 (N 75)) = .bool false, DVal.bool (Nat.blt 100 (N 8)) = .bool false, DVal.bool (Nat.blt 100 (N 7)) = .bool false]) := by kernel_rfl
theorem few_e5 : resB (fewRun B X N S C W [(8, .bool false), (13, .bool false), (20, .bool false), (27, .bool false), (33, .bool false), (39, .bool true)] .ret .ret) = some (false, [DVal.bool (Nat.blt 30 (N 276)) = .bool true, DVal.bool (Nat.blt 30 (N 275)) = .bool false, DVal.bool (Nat.blt 30 (N 112)) = .bool false, DVal.bool (Nat.blt 9000 (N 75)) = .bool false, DVal.bool (Nat.blt 100 (N 8)) = .bool false, DVal.bool (Nat.blt 100 (N 7)) = .bool false]) := by kernel_rfl
theorem few_e6 : resB (fewRun B X N S C W [(8, .bool false), (13, .bool false), (20, .bool false), (27, .bool false), (33, .bool false), (39, .bool false), (45, .bool true)] .ret .ret) = some (false, [DVal.bool (Nat.blt 30 (N 277)) = .bool true, DVal.bool (Nat.blt 30 (N 276)) = .bool false, DVal.bool (Nat.blt 30 (N 275)) = .bool false, DVal.bool (Nat.blt 30 (N 112)) = .bool false, DVal.bool (Nat.blt 9000 (N 75)) = .bool false, DVal.bool (Nat.blt 100 (N 8)) = .bool false, DVal.bool (Nat.blt 100 (N 7)) = .bool false]) := by kernel_rfl
theorem few_e7 : resB (fewRun B X N S C W [(8, .bool false), (13, .bool false), (20, .bool false), (27, .bool false), (33, .bool false), (39, .bool false), (45, .bool false), (51, .bool true)] .ret .ret) = some (false, [DVal.bool (Nat.blt 30 (N 278)) = .bool true, DVal.bool (Nat.blt 30 (N 277)) = .bool false, DVal.bool (Nat.blt 30 (N 276)) = .bool false, DVal.bool (Nat.blt 30 (N 275)) = .bool false, DVal.bool (Nat.blt 30 (N 112)) = .bool false, DVal.bool (Nat.blt 9000 (N 75)) = .bool false, DVal.bool (Nat.blt 100 (N 8)) = .bool false, DVal.bool (Nat.blt 100 (N 7)) = .bool false]) := by kernel_rfl
theorem few_e8 : resB (fewRun B X N S C W [(8, .bool false), (13, .bool false), (20, .bool false), (27, .bool false), (33, .bool false), (39, .bool false), (45, .bool false), (51, .bool false), (57, .bool true)] .ret .ret) = some (false, [DVal.bool (Nat.blt 30 (N 76)) = .bool true, DVal.bool (Nat.blt 30 (N 278)) = .bool false, DVal.bool (Nat.blt 30 (N 277)) = .bool false, DVal.bool (Nat.blt 30 (N 276)) = .bool false, DVal.bool (Nat.blt 30 (N 275)) = .bool false, DVal.bool (Nat.blt 30 (N 112)) = .bool false, DVal.bool (Nat.blt 9000 (N 75)) = .bool false, DVal.bool (Nat.blt 100 (N 8)) = .bool false, DVal.bool (Nat.blt 100 (N 7)) = .bool false]) := by kernel_rfl
theorem few_e9 : resB (fewRun B X N S C W [(8, .bool false), (13, .bool false), (20, .bool false), (27, .bool false), (33, .bool false), (39, .bool false), (45, .bool false), (51, .bool false), (57, .bool false), (63, .bool true)] .ret .ret) = some (false, [DVal.bool (Nat.blt 30 (N 77)) = .bool true, DVal.bool (Nat.blt 30 (N 76)) = .bool false, DVal.bool (Nat.blt 30 (N 278)) = .bool false, DVal.bool (Nat.blt 30 (N 277)) = .bool false, DVal.bool (Nat.blt 30 (N 276)) = .bool false, DVal.bool (Nat.blt 30 (N 275)) = .bool false, DVal.bool (Nat.blt 30 (N 112)) = .bool false, DVal.bool (Nat.blt 9000 (N 75)) = .bool false, DVal.bool (Nat.blt 100 (N 8)) = .bool false, DVal.bool (Nat.blt 100 (N 7)) = .bool false]) := by kernel_rfl
theorem few_e10 : resB (fewRun B X N S C W [(8, .bool false), (13, .bool false), (20, .bool false), (27, .bool false), (33, .bool false), (39, .bool false), (45, .bool false), (51, .bool false), (57, .bool false), (63, .bool false), (70, .bool true)] .ret .ret) = some (false, [DVal.bool (Nat.blt 30 (N 78)) = .bool true, DVal.bool (Nat.blt 30 (N 77)) = .bool false, DVal.bool (Nat.blt 30 (N 76)) = .bool false, DVal.bool (Nat.blt 30 (N 278)) = .bool false, DVal.bool (Nat.blt 30 (N 277)) = .bool false, DVal.bool (Nat.blt 30 (N 276)) = .bool false, DVal.bool (Nat.blt 30 (N 275)) = .bool false, DVal.bool (Nat.blt 30 (N 112)) = .bool false, DVal.bool (Nat.blt 9000 (N 75)) = .bool false, DVal.bool (Nat.blt 100 (N 8)) = .bool false, DVal.bool (Nat.blt 100 (N 7)) = .bool false]) := by kernel_rfl
theorem few_e11 : resB (fewRun B X N S C W [(8, .bool false), (13, .bool false), (20, .bool false), (27, .bool false), (33, .bool false), (39, .bool false), (45, .bool false), (51, .bool false), (57, .bool false), (63, .bool false), (70, .bool false), (77, .bool true)] .ret .ret) = some (false, [DVal.bool (Nat.blt 30 (N 79)) = .bool true, DVal.bool (Nat.blt 30 (N 78)) = .bool false, DVal.bool (Nat.blt 30 (N 77)) = .bool false, DVal.bool (Nat.blt 30 (N 76)) = .bool false, DVal.bool (Nat.blt 30 (N 278)) = .bool false, DVal.bool (Nat.blt 30 (N 277)) = .bool false, DVal.bool (Nat.blt 30 (N 276)) = .bool false, DVal.bool (Nat.blt 30 (N 275)) = .bool false, DVal.bool (Nat.blt 30 (N 112)) = .bool false, DVal.bool (Nat.blt 9000 (N 75)) = .bool false, DVal.bool (Nat.blt 100 (N 8)) = .bool false, DVal.bool (Nat.blt 100 (N 7)) = .bool false]) := by kernel_rfl
noncomputable def owed (b : Code) (k : Nat) (x : DExit) : Prop := ((stM B X N S C W).t = (stM B X N S C W).t ∧ (stM B X N S C W).size = (stM B X N S C W).size) ∧ Out B X N S C W b k x
theorem few_all : resB (fewRun B X N S C W noH (.exit 0) (.exit 2)) = some (true, owed B X N S C W loop2 4 (.exit 2) :: owed B X N S C W loop1 3 (.exit 0) :: cmpOk N) := by kernel_rfl
theorem few_r1 : resB (fewRun B X N S C W noH .ret .ret) = some (false, owed B X N S C W loop1 3 .ret :: cmpOk N) := by kernel_rfl
theorem few_r2 : resB (fewRun B X N S C W noH (.exit 0) .ret) = some (false, owed B X N S C W loop2 4 .ret :: owed B X N S C W loop1 3 (.exit 0) :: cmpOk N) := by kernel_rfl

/-- The loops' bodies. -/
noncomputable def preF (a b c : Nat) : Pre := fun o =>
  match o.dst with
  | some d => match Nat.beq d 89 || Nat.beq d 104 || Nat.beq d 113 with
    | true => some (softIx (tyOf Tryz.prog) o.op)
    | false => match Nat.beq d 91 with
      | true => some (softLd (tyOf Tryz.prog) (.view none a) o.op)
      | false => match Nat.beq d 106 with
        | true => some (softLd (tyOf Tryz.prog) (.view none b) o.op)
        | false => match Nat.beq d 116 with
          | true => some (softLd (tyOf Tryz.prog) (.view none c) o.op)
          | false => none
  | none => none
theorem preF_ok (a b c : Nat) : PreP (preF a b c) := by
  intro gl orc hint lp o p ev m v P h1 h2 h3
  have h1 : preF a b c o = some p := h1
  unfold preF at h1
  split at h1
  · split at h1
    · cases h1; exact softIx_ok (c := ctxAll gl orc hint (preF a b c) lp) h2 h3
    · split at h1
      · cases h1; exact softLd_ok (c := ctxAll gl orc hint (preF a b c) lp) h2 h3
      · split at h1
        · cases h1; exact softLd_ok (c := ctxAll gl orc hint (preF a b c) lp) h2 h3
        · split at h1
          · cases h1; exact softLd_ok (c := ctxAll gl orc hint (preF a b c) lp) h2 h3
          · cases h1
  · cases h1
noncomputable def bodyRun (code : Code) (k : Nat) (hs : List (Nat × DVal)) (a b c i : Nat) (j : Nat → DVal) : Option (DExit × DSt) :=
  kcode true (ctxAll glN noOrc (hintD hs) (preF a b c) noLp) (kcall true (ctxAll glN noOrc (hintD hs) (preF a b c) noLp) 10) 10 code (headS B X N S C W k (.int .i64 (.ofNat i)) j)
variable (a b c i : Nat) (j : Nat → DVal)
noncomputable def liveV (d : DVal) : List DVal := [.ptr (some (7, 0)), .bool false, d]
theorem b1_end : resC [1, 2, 3] (bodyRun B X N S C W loop1 3 [(83, .bool false)] a b c i j) = some (.exit 0, liveV (.int .i64 (.ofNat i)), 120, (stM B X N S C W).t, (stM B X N S C W).size, [DVal.bool (Nat.blt i (N 275)) = .bool false]) := by kernel_rfl
theorem b1_ret : resC [1, 2, 3] (bodyRun B X N S C W loop1 3 [(83, .bool true), (93, .bool true)] a b c i j) = some (.ret, liveV (.int .i64 (.ofNat i)), 120, (stM B X N S C W).t, (stM B X N S C W).size,
    [DVal.bool (Nat.blt 100 a) = .bool true, C[0 + i * 67 + 66]? = some (.view none a), i < N 275, DVal.bool (Nat.blt i (N 275)) = .bool true]) := by kernel_rfl
theorem b1_next : resC [1, 2, 3] (bodyRun B X N S C W loop1 3 [(83, .bool true), (93, .bool false), (85, .int .i64 (.ofNat (i + 1)))] a b c i j) = some (.normal, liveV (.int .i64 (.ofNat (i + 1))), 120, (stM B X N S C W).t, (stM B X N S C W).size,
    [knorm .i64 (i + 1) = .int .i64 (.ofNat (i + 1)), DVal.bool (Nat.blt 100 a) = .bool false, C[0 + i * 67 + 66]? = some (.view none a), i < N 275, DVal.bool (Nat.blt i (N 275)) = .bool true]) := by kernel_rfl
theorem b2_end : resC [1, 2, 4] (bodyRun B X N S C W loop2 4 [(98, .bool false)] a b c i j) = some (.exit 2, liveV (.int .i64 (.ofNat i)), 120, (stM B X N S C W).t, (stM B X N S C W).size, [DVal.bool (Nat.blt i (N 277)) = .bool false]) := by kernel_rfl
theorem b2_ret1 : resC [1, 2, 4] (bodyRun B X N S C W loop2 4 [(98, .bool true), (108, .bool true)] a b c i j) = some (.ret, liveV (.int .i64 (.ofNat i)), 120, (stM B X N S C W).t, (stM B X N S C W).size,
    [DVal.bool (Nat.blt 100 b) = .bool true, W[0 + i * 68 + 0]? = some (.view none b), i < N 277, DVal.bool (Nat.blt i (N 277)) = .bool true]) := by kernel_rfl
theorem b2_ret2 : resC [1, 2, 4] (bodyRun B X N S C W loop2 4 [(98, .bool true), (108, .bool false), (118, .bool true)] a b c i j) = some (.ret, liveV (.int .i64 (.ofNat i)), 120, (stM B X N S C W).t, (stM B X N S C W).size,
    [DVal.bool (Nat.blt 100 c) = .bool true, W[0 + i * 68 + 1 + 66]? = some (.view none c), i < N 277, DVal.bool (Nat.blt 100 b) = .bool false, W[0 + i * 68 + 0]? = some (.view none b), i < N 277, DVal.bool (Nat.blt i (N 277)) = .bool true]) := by kernel_rfl
theorem b2_next : resC [1, 2, 4] (bodyRun B X N S C W loop2 4 [(98, .bool true), (108, .bool false), (118, .bool false), (100, .int .i64 (.ofNat (i + 1)))] a b c i j) = some (.normal, liveV (.int .i64 (.ofNat (i + 1))), 120, (stM B X N S C W).t, (stM B X N S C W).size,
    [knorm .i64 (i + 1) = .int .i64 (.ofNat (i + 1)), DVal.bool (Nat.blt 100 c) = .bool false, W[0 + i * 68 + 1 + 66]? = some (.view none c), i < N 277, DVal.bool (Nat.blt 100 b) = .bool false, W[0 + i * 68 + 0]? = some (.view none b), i < N 277, DVal.bool (Nat.blt i (N 277)) = .bool true]) := by kernel_rfl
end
end
end Go.DM
