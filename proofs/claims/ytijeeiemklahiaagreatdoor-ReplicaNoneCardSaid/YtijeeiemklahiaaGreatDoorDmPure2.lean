/-
  A deterministic machine over Go's code: the operations that touch no memory, and their law.
-/
import Derived.Test.YtijeeiemklahiaaGreatDoorDmPure
namespace Go.DM

theorem VRel.ptr_inv {ρ b o v} (h : VRel ρ (.ptr (some (b, o))) v) : ∃ s, ρ b = some s ∧ v = .pointer (some (s.at_ o)) := by simpa only [VRel] using h
theorem VRel.int_inv {ρ k n v} (h : VRel ρ (.int k n) v) : v = .int k n := by simpa only [VRel] using h
theorem VRel.bool_inv {ρ b v} (h : VRel ρ (.bool b) v) : v = .bool b := by simpa only [VRel] using h
theorem VRel.str_inv {ρ l v} (h : VRel ρ (.str l) v) : ∃ s : ByteArray, s.data.toList = l ∧ v = .string s := by simpa only [VRel] using h
theorem VRel.agg_inv {ρ cs v} (h : VRel ρ (.agg cs) v) : ∃ cs', v = .agg cs' ∧ VsRel ρ cs cs'.toList := by simpa only [VRel] using h
theorem VRel.tuple_inv {ρ cs v} (h : VRel ρ (.tuple cs) v) : ∃ cs', v = .tuple cs' ∧ VsRel ρ cs cs'.toList := by simpa only [VRel] using h

/-- A slice that is not nil has an address, its length, and at least its capacity. -/
theorem VRel.slice_inv {ρ p len cap md v} (h : VRel ρ (.slice (some p) len cap md) v) : ∃ A cap', v = .slice (some A) len cap' ∧ cap ≤ cap' := by
  obtain ⟨b, o⟩ := p
  cases md with
  | exact => simp only [VRel] at h; obtain ⟨s, _, rfl⟩ := h; exact ⟨_, _, rfl, Nat.le_refl _⟩
  | grow z => simp only [VRel] at h; obtain ⟨s, c, _, h1, _, rfl⟩ := h; exact ⟨_, _, rfl, h1⟩
  | ro => simp only [VRel] at h; obtain ⟨A, c, h1, rfl, _⟩ := h; exact ⟨_, _, rfl, h1⟩

/-- Where its capacity is not nought, it lies at its address. -/
theorem VRel.slice_at {ρ b o len cap md v} (h : VRel ρ (.slice (some (b, o)) len cap md) v) (hc : 0 < cap) : ∃ s cap', ρ b = some s ∧ v = .slice (some (s.at_ o)) len cap' := by
  cases md with
  | exact => simp only [VRel] at h; obtain ⟨s, h1, rfl⟩ := h; exact ⟨_, _, h1, rfl⟩
  | grow z => simp only [VRel] at h; obtain ⟨s, c, h1, _, _, rfl⟩ := h; exact ⟨_, _, h1, rfl⟩
  | ro => simp only [VRel] at h; obtain ⟨A, c, _, rfl, h3, _⟩ := h; obtain ⟨s, h4, rfl⟩ := h3 hc; exact ⟨_, _, h4, rfl⟩

/-- The same by its length. -/
theorem VRel.slice_at_len {ρ b o len cap md v} (h : VRel ρ (.slice (some (b, o)) len cap md) v) (hc : 0 < len) : ∃ s cap', ρ b = some s ∧ v = .slice (some (s.at_ o)) len cap' := by
  cases md with
  | exact => simp only [VRel] at h; obtain ⟨s, h1, rfl⟩ := h; exact ⟨_, _, h1, rfl⟩
  | grow z => simp only [VRel] at h; obtain ⟨s, c, h1, _, _, rfl⟩ := h; exact ⟨_, _, h1, rfl⟩
  | ro => simp only [VRel] at h; obtain ⟨A, c, _, rfl, h3, h4⟩ := h; obtain ⟨s, h4, rfl⟩ := h3 (by omega); exact ⟨_, _, h4, rfl⟩

theorem VRel.view_inv {ρ a len v} (h : VRel ρ (.view a len) v) : ∃ A cap, v = .slice A len cap := by
  cases a with
  | none => simp only [VRel] at h; exact h
  | some p => obtain ⟨b, o⟩ := p; simp only [VRel] at h; obtain ⟨A, c, rfl, _⟩ := h; exact ⟨_, _, rfl⟩
theorem VRel.view_at {ρ b o len v} (h : VRel ρ (.view (some (b, o)) len) v) (hc : 0 < len) : ∃ s cap, ρ b = some s ∧ v = .slice (some (s.at_ o)) len cap := by
  simp only [VRel] at h; obtain ⟨A, c, rfl, h2⟩ := h; obtain ⟨s, h3, rfl⟩ := h2 hc; exact ⟨_, _, h3, rfl⟩

theorem dslice_sound {c : Ctx} (ok : CtxOk c) {ρ : Ren} {w : World} {t : TypeId} {x : DVal} {lo hi mx : Option DVal} {d : DVal} (h : dslice c t x lo hi mx = some d)
    {X : Value} (hx : VRel ρ x X) {lo' hi' mx' : Option Value} (h1 : ORel ρ lo lo') (h2 : ORel ρ hi hi') (h3 : ORel ρ mx mx') :
    PureTo c ρ w (Instr.sliceAt t X lo' hi' mx') d := by
  unfold PureTo
  unfold dslice at h
  cases ht : c.ty t with
  | none => rw [ht] at h; cases h
  | some i =>
    rw [ht] at h; simp only at h
    have hT := ok.ty t i ht
    have hu := hT.run_underlying w
    split at h
    · -- a string
      rename_i s hdesc
      obtain ⟨S, hS, rfl⟩ := hx.str_inv
      split at h
      · cases h
      · split at h
        · rename_i l hh m hb
          simp at h; subst h
          simp only [ORel] at h3; subst h3
          have hlen : s.length = S.size := by rw [← hS]; simp only [Array.length_toList]; rfl
          obtain ⟨g1, g2, g3, g4, g5, g6⟩ := dbounds_sound (c := c) (ρ := ρ) (w := w) (isSlice := false) hb h1 h2 (mx' := none) rfl S.size (by omega)
          simp only [Option.isNone_none, if_true] at g1
          rw [hlen] at g1 g4 g6
          have hle : hh ≤ S.size := by
            cases hi with
            | none => have := g6 rfl; omega
            | some _ => exact g4 rfl
          refine ⟨.string (S.extract l hh), ?_, ?_⟩
          · simp [Instr.sliceAt, hu, hdesc, Instr.slice, g1]
          · simp only [VRel]
            refine ⟨_, ?_, rfl⟩
            rw [← hS]; simp
        · cases h
    · -- an array's address
      rename_i n e b o hdesc
      obtain ⟨s, hs, rfl⟩ := hx.ptr_inv
      split at h
      · rename_i ie l hh m hie hb
        simp at h; subst h
        obtain ⟨g1, g2, g3, g4, g5, g6⟩ := dbounds_sound (c := c) (ρ := ρ) (w := w) (isSlice := false) hb h1 h2 h3 n (by omega)
        have hE := (ok.ty e ie hie).run_sizeOf w
        have hm : (if mx.isNone = true then n else m) = m := by
          cases mx with
          | none => simp [g5 rfl]
          | some _ => simp
        rw [hm] at g1
        refine ⟨_, by simp [Instr.sliceAt, hu, hdesc, Instr.sureAddr, g1, hE]; rfl, ?_⟩
        by_cases e1 : m = l
        · subst e1; simp only [if_true, VRel]; exact ⟨s, hs, rfl⟩
        · simp only [if_neg e1, VRel]; exact ⟨s, hs, by rw [Spot.add]⟩
      · cases h
    · -- a slice
      rename_i e a len cap md hdesc
      split at h
      · rename_i ie l hh m hie hb
        have hE := (ok.ty e ie hie).run_sizeOf w
        cases a with
        | none =>
          simp only [VRel] at hx; obtain ⟨rfl, rfl, rfl⟩ := hx
          obtain ⟨g1, g2, g3, g4, g5, g6⟩ := dbounds_sound (c := c) (ρ := ρ) (w := w) (isSlice := true) hb h1 h2 h3 0 (by omega)
          have hm0 : m = 0 := by
            cases mx with
            | none => exact g5 rfl
            | some _ => have := g3 rfl; omega
          have hh0 : hh = 0 := by
            cases hi with
            | none => exact g6 rfl
            | some _ => have := g4 rfl; omega
          have hl0 : l = 0 := by omega
          subst hm0 hh0 hl0
          have hm : (if mx.isNone = true then 0 else 0) = 0 := by split <;> rfl
          rw [hm] at g1
          refine ⟨.slice none 0 0, by simp [Instr.sliceAt, hu, hdesc, Instr.slice, g1, hE], ?_⟩
          simp at h; subst h; simp [VRel]
        | some p =>
          obtain ⟨b, o⟩ := p
          cases md with
          | exact =>
            simp only [VRel] at hx; obtain ⟨s, hs, rfl⟩ := hx
            simp at h; subst h
            obtain ⟨g1, g2, g3, g4, g5, g6⟩ := dbounds_sound (c := c) (ρ := ρ) (w := w) (isSlice := true) hb h1 h2 h3 cap (by omega)
            have hm : (if mx.isNone = true then cap else m) = m := by
              cases mx with
              | none => simp [g5 rfl]
              | some _ => simp
            rw [hm] at g1
            refine ⟨_, by simp [Instr.sliceAt, hu, hdesc, Instr.slice, g1, hE]; rfl, ?_⟩
            by_cases e1 : m = l
            · subst e1; simp only [if_true, VRel]; exact ⟨s, hs, rfl⟩
            · simp only [if_neg e1, VRel]; exact ⟨s, hs, by rw [Spot.add]⟩
          | grow z =>
            simp only [VRel] at hx; obtain ⟨s, cap', hs, hc, htot, rfl⟩ := hx
            obtain ⟨g1, g2, g3, g4, g5, g6⟩ := dbounds_sound (c := c) (ρ := ρ) (w := w) (isSlice := true) hb h1 h2 h3 cap' hc
            cases mx with
            | some mv =>
              simp at h; subst h
              simp only [Option.isNone_some, Bool.false_eq_true, if_false] at g1
              refine ⟨_, by simp [Instr.sliceAt, hu, hdesc, Instr.slice, g1, hE]; rfl, ?_⟩
              by_cases e1 : m = l
              · subst e1; simp only [if_true, VRel]; exact ⟨s, hs, rfl⟩
              · simp only [if_neg e1, VRel]; exact ⟨s, hs, by rw [Spot.add]⟩
            | none =>
              have hm := g5 rfl
              subst hm
              simp only [Option.isNone_none, if_true] at g1
              simp only at h
              have hrun : (Instr.sliceAt t (.slice (some (s.at_ o)) len cap') lo' hi' mx').run c.P w =
                  .ok (.slice (some (if cap' = l then s.at_ o else (s.at_ o).add (l * ie.size))) (hh - l) (cap' - l)) w := by
                simp [Instr.sliceAt, hu, hdesc, Instr.slice, g1, hE]; split <;> rfl
              refine ⟨_, hrun, ?_⟩
              split at h
              · rename_i hbl hbz
                have hhm := Nat.le_of_ble_eq_true hbl
                have hz : ie.size = z := Nat.eq_of_beq_eq_true hbz
                by_cases e0 : l = 0
                · subst e0
                  simp at h; subst h
                  simp only [VRel]
                  refine ⟨s, cap', hs, hc, htot, ?_⟩
                  simp [Spot.add]
                · simp only [e0, if_false] at h
                  by_cases e1 : l = m
                  · simp only [e1, if_true] at h
                    simp at h; subst h
                    simp only [VRel]
                    have : hh - l = 0 := by omega
                    refine ⟨_, cap' - l, by omega, by rw [this], by omega, by omega⟩
                  · simp [e1] at h; subst h
                    simp only [VRel]
                    have hne : ¬ cap' = l := by omega
                    refine ⟨s, cap' - l, hs, by omega, ?_, by rw [if_neg hne, Spot.add]⟩
                    rw [← hz] at htot ⊢
                    have : l * ie.size + (cap' - l) * ie.size = cap' * ie.size := by rw [← Nat.add_mul]; congr 1; omega
                    omega
              · cases h
          | ro =>
            simp only [VRel] at hx; obtain ⟨A, cap', hc, rfl, hA, hlc⟩ := hx
            obtain ⟨g1, g2, g3, g4, g5, g6⟩ := dbounds_sound (c := c) (ρ := ρ) (w := w) (isSlice := true) hb h1 h2 h3 cap' hc
            cases mx with
            | some mv => simp at h
            | none =>
              have hm := g5 rfl
              subst hm
              simp only [Option.isNone_none, if_true] at g1
              simp only at h
              have hrun : (Instr.sliceAt t (.slice (some A) len cap') lo' hi' mx').run c.P w =
                  .ok (.slice (some (if cap' = l then A else A.add (l * ie.size))) (hh - l) (cap' - l)) w := by
                simp [Instr.sliceAt, hu, hdesc, Instr.slice, g1, hE]
                split <;> rfl
              refine ⟨_, hrun, ?_⟩
              split at h
              · rename_i hbl
                have hhm := Nat.le_of_ble_eq_true hbl
                by_cases e1 : l = m
                · simp only [e1, if_true] at h
                  simp at h; subst h
                  simp only [VRel]
                  have : hh - l = 0 := by omega
                  refine ⟨_, cap' - l, by omega, by rw [this], by omega, by omega⟩
                · simp [e1] at h; subst h
                  simp only [VRel]
                  have hne : ¬ cap' = l := by omega
                  refine ⟨_, cap' - l, by omega, by rw [if_neg hne], fun _ => ?_, by omega⟩
                  obtain ⟨s, hs, rfl⟩ := hA (by omega)
                  exact ⟨s, hs, by rw [Spot.add]⟩
              · cases h
      · cases h
    · cases h
end Go.DM
