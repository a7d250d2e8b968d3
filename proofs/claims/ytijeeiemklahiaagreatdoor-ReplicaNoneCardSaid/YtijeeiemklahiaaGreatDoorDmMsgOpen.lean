/-
  A message argument, with what its chain and its news hold (a filled template).
-/
import Derived.Test.YtijeeiemklahiaaGreatDoorDmStart
import Derived.Test.YtijeeiemklahiaaGreatDoorDmSlice
import Derived.Test.YtijeeiemklahiaaGreatDoorDmFewEnd
namespace Go.Proofs.YtijeeiemklahiaaGreatDoor
open Go Go.DM Go.ChangeShapes Go.WideShapes Go.ChangeAt Go.RowKit
set_option maxRecDepth 1000000
noncomputable def ksVer : List CK := match kindsOf Tryz.prog 10 82 with
  | some l => l
  | none => []
noncomputable def ksNews : List CK := match kindsOf Tryz.prog 10 84 with
  | some l => l
  | none => []
theorem ksVer_eq : kindsOf Tryz.prog 10 82 = some ksVer := by kernel_rfl
theorem ksNews_eq : kindsOf Tryz.prog 10 84 = some ksNews := by kernel_rfl
theorem ksVer_len : ksVer.length = 67 := by kernel_rfl
theorem ksNews_len : ksNews.length = 68 := by kernel_rfl
theorem ksVer_at : ksVer[66]? = some (.sl 5) := by kernel_rfl
theorem ksNews_at0 : ksNews[0]? = some (.sl 5) := by kernel_rfl
theorem ksNews_at1 : ksNews[1 + 66]? = some (.sl 5) := by kernel_rfl
theorem ksMsg_len : ksMsg.length = 279 := by kernel_rfl
theorem msg_cells (B : Nat → Bool) (X : Nat → Int) (N : Nat → Nat) (S : Nat → List UInt8) : (mkCells B X N S 0 ksMsg)[275]? = some (.view none (N 275)) ∧ (mkCells B X N S 0 ksMsg)[277]? = some (.view none (N 277)) := ⟨by kernel_rfl, by kernel_rfl⟩
/-- What a message's lists hold. -/
structure Lists (N : Nat → Nat) (C W : List DVal) (l u v : Nat → Nat) : Prop where
  c : ∀ i, i < N 275 → C[0 + i * 67 + 66]? = some (.view none (l i))
  u : ∀ i, i < N 277 → W[0 + i * 68 + 0]? = some (.view none (u i))
  v : ∀ i, i < N 277 → W[0 + i * 68 + 1 + 66]? = some (.view none (v i))

theorem open_msg {H : Type} {enc : TypeId × Value → H} {W0 : World} {base : Nat} {val : Value} {d : DataW H} {ps : List MemPlace} (hL : laidMet Tryz.prog tabs W0)
    (hval : Value.okWide Tryz.prog W0 .any base 42 val) (hd : DataW.Trod enc Tryz.prog W0 0 (fun _ => true) true 42 val d ps) :
    ∃ (B : Nat → Bool) (X : Nat → Int) (N : Nat → Nat) (S : Nat → List UInt8) (C W : List DVal) (l u v : Nat → Nat) (s1 s2 : Spot), Lists N C W l u v ∧ (∀ D, refsIn D C = true) ∧ (∀ D, refsIn D W = true) ∧
      s1.blk < W0.heap.size ∧ s2.blk < W0.heap.size ∧ (∀ ρ, BlkRel ρ s1 W0 (.ro C)) ∧ (∀ ρ, BlkRel ρ s2 W0 (.ro W)) ∧
      ∀ ρ : Ren, ρ 5 = some s1 → ρ 6 = some s2 → VRel ρ (.agg (fewCells B X N S)) val := by
  obtain ⟨B, X, N, S, hr⟩ := open_cells (by kernel_rfl) hval hd ksMsg_eq
  have hr0 := hr (fun _ => none)
  simp only [VRel] at hr0
  obtain ⟨cs, rfl, hrel0⟩ := hr0
  obtain ⟨g1, g2⟩ := msg_cells B X N S
  have hlen : cs.toList.length = 279 := by rw [← hrel0.length, (mk_all B X N S ksMsg 0).1, ksMsg_len]
  obtain ⟨v1, k1, r1⟩ := hrel0.get 275 _ g1
  obtain ⟨v2, k2, r2⟩ := hrel0.get 277 _ g2
  obtain ⟨fuel, hf⟩ := hd
  have hany := some_row hL
  obtain ⟨C, s1, c1, c2, c3, c4, c5⟩ := open_field (e := 82) (ks := ksVer) (ts := 38) (i := 14) (o := 275) (by kernel_rfl) (by kernel_rfl) (by kernel_rfl) ksVer_eq (by kernel_rfl) (by rw [ksVer_len]; omega) hf (by show 275 < cs.toList.length; omega) k1 r1.view_inv hany
  obtain ⟨W, s2, w1, w2, w3, w4, w5⟩ := open_field (e := 84) (ks := ksNews) (ts := 40) (i := 16) (o := 277) (by kernel_rfl) (by kernel_rfl) (by kernel_rfl) ksNews_eq (by kernel_rfl) (by rw [ksNews_len]; omega) hf (by show 277 < cs.toList.length; omega) k2 r2.view_inv hany
  have q1 : ∀ i, ∃ l, i < N 275 → C[0 + i * 67 + 66]? = some (.view none l) := by
    intro i
    by_cases hi : i < N 275
    · obtain ⟨l, hl⟩ := c2 i hi 66 _ ksVer_at
      refine ⟨l, fun _ => ?_⟩
      rw [ksVer_len] at hl
      rw [Nat.zero_add]; exact hl
    · exact ⟨0, fun h => absurd h hi⟩
  have q2 : ∀ i, ∃ l, i < N 277 → W[0 + i * 68 + 0]? = some (.view none l) := by
    intro i
    by_cases hi : i < N 277
    · obtain ⟨l, hl⟩ := w2 i hi 0 _ ksNews_at0
      refine ⟨l, fun _ => ?_⟩
      rw [ksNews_len] at hl
      rw [Nat.zero_add]; exact hl
    · exact ⟨0, fun h => absurd h hi⟩
  have q3 : ∀ i, ∃ l, i < N 277 → W[0 + i * 68 + 1 + 66]? = some (.view none l) := by
    intro i
    by_cases hi : i < N 277
    · obtain ⟨l, hl⟩ := w2 i hi (1 + 66) _ ksNews_at1
      refine ⟨l, fun _ => ?_⟩
      rw [ksNews_len] at hl
      rw [Nat.zero_add, Nat.add_assoc]; exact hl
    · exact ⟨0, fun h => absurd h hi⟩
  refine ⟨B, X, N, S, C, W, fun i => Classical.choose (q1 i), fun i => Classical.choose (q2 i), fun i => Classical.choose (q3 i), s1, s2, ⟨fun i => Classical.choose_spec (q1 i), fun i => Classical.choose_spec (q2 i), fun i => Classical.choose_spec (q3 i)⟩, c1, w1, c3, w3, c4, w4, ?_⟩
  intro ρ h1 h2
  have hρ := hr ρ
  simp only [VRel] at hρ
  obtain ⟨cs', e, hrel⟩ := hρ
  cases e
  simp only [VRel]
  refine ⟨cs, rfl, ?_⟩
  have a1 := VsRel.set 275 hrel (c5 ρ 5 h1)
  rw [set_self _ _ _ k1] at a1
  have a2 := VsRel.set 277 a1 (w5 ρ 6 h2)
  rw [set_self _ _ _ k2] at a2
  exact a2
end Go.Proofs.YtijeeiemklahiaaGreatDoor
