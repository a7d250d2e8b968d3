/-
  All tables of this program, as they are read (a filled template).
-/
import Derived.Test.YtijeeiemklahiaaGreatDoorDmLmots
import Derived.Test.YtijeeiemklahiaaGreatDoorDmRow
namespace Go.DM
noncomputable section
open Go.Proofs
set_option maxRecDepth 1000000
def cGA : List DVal := [.int .u8 0, .int .u8 1, .int .u8 28, .int .u8 2, .int .u8 29, .int .u8 14, .int .u8 24, .int .u8 3, .int .u8 30, .int .u8 22, .int .u8 20, .int .u8 15, .int .u8 25, .int .u8 17, .int .u8 4, .int .u8 8, .int .u8 31, .int .u8 27, .int .u8 13, .int .u8 23, .int .u8 21, .int .u8 19, .int .u8 16, .int .u8 7, .int .u8 26, .int .u8 12, .int .u8 18, .int .u8 6, .int .u8 11, .int .u8 5, .int .u8 10, .int .u8 9]
def cGC : List DVal := [.int .u8 0, .int .u8 1, .int .u8 56, .int .u8 2, .int .u8 57, .int .u8 49, .int .u8 28, .int .u8 3, .int .u8 61, .int .u8 58, .int .u8 42, .int .u8 50, .int .u8 38, .int .u8 29, .int .u8 17, .int .u8 4, .int .u8 62, .int .u8 47, .int .u8 59, .int .u8 36, .int .u8 45, .int .u8 43, .int .u8 51, .int .u8 22, .int .u8 53, .int .u8 39, .int .u8 33, .int .u8 30, .int .u8 24, .int .u8 18, .int .u8 12, .int .u8 5, .int .u8 63, .int .u8 55, .int .u8 48, .int .u8 27, .int .u8 60, .int .u8 41, .int .u8 37, .int .u8 16, .int .u8 46, .int .u8 35, .int .u8 44, .int .u8 21, .int .u8 52, .int .u8 32, .int .u8 23, .int .u8 11, .int .u8 54, .int .u8 26, .int .u8 40, .int .u8 15, .int .u8 34, .int .u8 20, .int .u8 31, .int .u8 10, .int .u8 25, .int .u8 14, .int .u8 19, .int .u8 9, .int .u8 13, .int .u8 8, .int .u8 7, .int .u8 6]
def glA (g : Nat) : Bool := Nat.beq g 0 || Nat.beq g 1 || Nat.beq g 2 || Nat.beq g 3 || Nat.beq g 4
theorem glL_glA (g : Nat) (h : glL g = true) : glA g = true := by
  simp only [glL, glH, glA, Bool.or_eq_true] at h ⊢
  exact .inl (.inl h)
theorem glA_mem {g : Nat} (h : glA g = true) : g ∈ [0, 1, 2, 3, 4] := by
  simp only [glA, Bool.or_eq_true] at h
  rcases h with (((h | h) | h) | h) | h <;> simp [Nat.eq_of_beq_eq_true h]
/-- The tables, as a start's list. -/
def tabL : List (Nat × Spot × DObj) := [(0, ⟨0, 0, 8⟩, .ro cG0), (1, ⟨1, 0, 64⟩, .ro cG2), (2, ⟨2, 0, 15⟩, .ro cGF), (3, ⟨3, 0, 32⟩, .ro cGA), (4, ⟨4, 0, 64⟩, .ro cGC)]
def stA : DMem := stOf tabL 5
def hasA (m : DMem) : Bool := hasL m && hasG m 3 cGA && hasG m 4 cGC
theorem stA_none (i : Nat) (h : 5 ≤ i) : stA.get i = none := by
  unfold stA
  rw [stOf_get]
  have : tabL.lookup i = none := by
    unfold tabL
    have h0 : ∀ k, k < 5 → (i == k) = false := fun k hk => by simp; omega
    simp only [List.lookup, h0 0 (by omega), h0 1 (by omega), h0 2 (by omega), h0 3 (by omega), h0 4 (by omega)]
  rw [this]; rfl
theorem smallA_plain {f : FuncId} {args : List DVal} {v : DVal} {m m2 : DMem} (hcall : CallP glA f args stA v m2) (hv : plain v = true) (hp : plains args = true) (hm : hasA m = true) :
    CallP glA f args m v m := by
  simp only [hasA, hasL, hasH, Bool.and_eq_true] at hm
  exact view_plain (gs := [0, 1, 2, 3, 4]) (m := m) hcall (fun g hg => glA_mem hg) stA_none
    (by intro g hg; simp at hg; rcases hg with rfl | rfl | rfl | rfl | rfl <;> (show _ < 5; omega))
    (by
      intro g hg
      simp at hg
      rcases hg with rfl | rfl | rfl | rfl | rfl
      · obtain ⟨h, hpl⟩ := hasG_get hm.1.1.1.1; exact .inr ⟨cG0, rfl, h, hpl⟩
      · obtain ⟨h, hpl⟩ := hasG_get hm.1.1.1.2; exact .inr ⟨cG2, rfl, h, hpl⟩
      · obtain ⟨h, hpl⟩ := hasG_get hm.1.1.2; exact .inr ⟨cGF, rfl, h, hpl⟩
      · obtain ⟨h, hpl⟩ := hasG_get hm.1.2; exact .inr ⟨cGA, rfl, h, hpl⟩
      · obtain ⟨h, hpl⟩ := hasG_get hm.2; exact .inr ⟨cGC, rfl, h, hpl⟩)
    hp hv
/-- A function without arguments that gives true. -/
def trueOrc (args : List DVal) (m : DMem) : Option (DVal × DMem) :=
  match args with
  | [] => match hasA m with
    | true => some (.bool true, m)
    | false => none
  | _ => none
theorem trueOrc_ok {f : FuncId} {orc : Orc} {hint : Oper → Option DVal} (ho : OrcOk glA orc) (hr : okTrue (kcall true (ctxOf glA orc hint) 1000 (.fn f) [] stA) = true) (args : List DVal) (m : DMem) (v : DVal) (m' : DMem) (h : trueOrc args m = some (v, m')) : m' = m ∧ CallP glA f args m v m' := by
  unfold trueOrc at h
  split at h
  · split at h
    · rename_i hc
      simp only [Option.some.injEq, Prod.mk.injEq] at h
      obtain ⟨rfl, rfl⟩ := h
      obtain ⟨m2, e1, e2⟩ := okTrue_facts hr
      exact ⟨rfl, smallA_plain ((CallP.run ho e1).2 e2) rfl rfl hc⟩
    · cases h
  · cases h
end
end Go.DM
