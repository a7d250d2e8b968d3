/-
  A call seen in a part of the memory: what a function gives where only the listed blocks are known (and are only read), it gives in every memory that has them.
-/
import Derived.Test.YtijeeiemklahiaaGreatDoorDmRow
import Derived.Test.YtijeeiemklahiaaGreatDoorDmTab
namespace Go.DM

mutual
/-- Do all places of a value lie in the listed blocks? -/
def refIn (D : Nat → Bool) : DVal → Bool
  | .ptr (some (b, _)) => D b
  | .slice (some (b, _)) _ _ _ => D b
  | .map (some r) => D r
  | .func _ a b => refsIn D a && refsIn D b
  | .view (some (b, _)) _ => D b
  | .agg cs => refsIn D cs
  | .tuple cs => refsIn D cs
  | _ => true
def refsIn (D : Nat → Bool) : List DVal → Bool
  | [] => true
  | d :: ds => refIn D d && refsIn D ds
end

def partRen (ρ : Ren) (D : Nat → Bool) : Ren := fun i => if D i = true then ρ i else none

theorem partRen_some {ρ : Ren} {D : Nat → Bool} {i : Nat} {s : Spot} (h : partRen ρ D i = some s) : D i = true ∧ ρ i = some s := by
  unfold partRen at h
  split at h
  · rename_i hd; exact ⟨hd, h⟩
  · cases h
theorem partRen_at {ρ : Ren} {D : Nat → Bool} {i : Nat} (h : D i = true) : partRen ρ D i = ρ i := by unfold partRen; rw [if_pos h]

mutual
theorem refIn_rel {ρ : Ren} {D : Nat → Bool} : ∀ (d : DVal) (v : Value), refIn D d = true → VRel ρ d v → VRel (partRen ρ D) d v
  | .bool _, _, _, h => by simpa only [VRel] using h
  | .int _ _, _, _, h => by simpa only [VRel] using h
  | .str _, _, _, h => by simpa only [VRel] using h
  | .ptr none, _, _, h => by simpa only [VRel] using h
  | .ptr (some (b, o)), _, hd, h => by
    simp only [VRel] at h ⊢
    obtain ⟨s, h1, h2⟩ := h
    exact ⟨s, by rw [partRen_at (by simpa only [refIn] using hd)]; exact h1, h2⟩
  | .slice none _ _ _, _, _, h => by simpa only [VRel] using h
  | .slice (some (b, o)) _ _ .exact, _, hd, h => by
    simp only [VRel] at h ⊢
    obtain ⟨s, h1, h2⟩ := h
    exact ⟨s, by rw [partRen_at (by simpa only [refIn] using hd)]; exact h1, h2⟩
  | .slice (some (b, o)) _ _ (.grow _), _, hd, h => by
    simp only [VRel] at h ⊢
    obtain ⟨s, c, h1, h2⟩ := h
    exact ⟨s, c, by rw [partRen_at (by simpa only [refIn] using hd)]; exact h1, h2⟩
  | .slice (some (b, o)) _ _ .ro, _, hd, h => by
    simp only [VRel] at h ⊢
    obtain ⟨A, c, h1, h2, h3, h4⟩ := h
    exact ⟨A, c, h1, h2, fun hp => let ⟨s, x, y⟩ := h3 hp; ⟨s, by rw [partRen_at (by simpa only [refIn] using hd)]; exact x, y⟩, h4⟩
  | .map none, _, _, h => by simpa only [VRel] using h
  | .map (some r), _, hd, h => by
    simp only [VRel] at h ⊢
    obtain ⟨s, h1, h2⟩ := h
    exact ⟨s, by rw [partRen_at (by simpa only [refIn] using hd)]; exact h1, h2⟩
  | .func _ a b, _, hd, h => by
    simp only [VRel] at h ⊢
    simp only [refIn, Bool.and_eq_true] at hd
    obtain ⟨a', b', h1, h2, h3⟩ := h
    exact ⟨a', b', h1, refsIn_rel a _ hd.1 h2, refsIn_rel b _ hd.2 h3⟩
  | .nilFunc, _, _, h => by simpa only [VRel] using h
  | .nilIface, _, _, h => by simpa only [VRel] using h
  | .view none _, _, _, h => by simpa only [VRel] using h
  | .view (some (b, o)) _, _, hd, h => by
    simp only [VRel] at h ⊢
    obtain ⟨A, c, h1, h2⟩ := h
    exact ⟨A, c, h1, fun hp => let ⟨s, x, y⟩ := h2 hp; ⟨s, by rw [partRen_at (by simpa only [refIn] using hd)]; exact x, y⟩⟩
  | .agg cs, _, hd, h => by
    simp only [VRel] at h ⊢
    obtain ⟨cs', h1, h2⟩ := h
    exact ⟨cs', h1, refsIn_rel cs _ (by simpa only [refIn] using hd) h2⟩
  | .tuple cs, _, hd, h => by
    simp only [VRel] at h ⊢
    obtain ⟨cs', h1, h2⟩ := h
    exact ⟨cs', h1, refsIn_rel cs _ (by simpa only [refIn] using hd) h2⟩
theorem refsIn_rel {ρ : Ren} {D : Nat → Bool} : ∀ (ds : List DVal) (vs : List Value), refsIn D ds = true → VsRel ρ ds vs → VsRel (partRen ρ D) ds vs
  | [], _, _, h => by simpa only [VsRel] using h
  | d :: ds, _, hd, h => by
    simp only [VsRel] at h ⊢
    simp only [refsIn, Bool.and_eq_true] at hd
    obtain ⟨v, vs', h1, h2, h3⟩ := h
    exact ⟨v, vs', h1, refIn_rel d v hd.1 h2, refsIn_rel ds vs' hd.2 h3⟩
end

/-- May a block be seen in the part? -/
def seenIn (D : Nat → Bool) : DObj → Prop
  | .ro cs => refsIn D cs = true
  | .dead => True
  | _ => False

theorem sub_call {c : Ctx} {f : FuncId} {args : List DVal} {D : Nat → Bool} {st st' : DMem} {v : DVal} {m : DMem}
    (hcall : CallTo c f args st v st') (hgs : ∀ g, c.glob g = true → D g = true) (hsize : ∀ i, st.size ≤ i → st.get i = none)
    (hD : ∀ i, D i = true → i < st.size ∧ ∃ o, st.get i = some o ∧ m.get i = some o ∧ seenIn D o)
    (hargs : refsIn D args = true) (hv : plain v = true) : CallTo c f args m v m := by
  intro ρ w A hm hg hA
  have hms : MRel (partRen ρ D) st w := by
    refine ⟨hsize, ?_, ?_, ?_, ?_⟩
    · intro b s hb; exact (hD b (partRen_some hb).1).1
    · intro b s hb; exact hm.old b s (partRen_some hb).2
    · intro b s hb
      obtain ⟨h1, h2⟩ := partRen_some hb
      obtain ⟨_, o, h3, h4, h5⟩ := hD b h1
      obtain ⟨o', k1, k2⟩ := hm.blk b s h2
      rw [h4] at k1; cases k1
      refine ⟨o, h3, ?_⟩
      cases o with
      | ro cs =>
        obtain ⟨row, e, fz, g1, g2, g3, g5, g6⟩ := k2
        exact ⟨row, e, fz, g1, g2, g3, refsIn_rel _ _ h5 g5, g6⟩
      | dead => trivial
      | _ => exact h5.elim
    · intro b b' s s' hne hb hb' hal _
      obtain ⟨_, o, h3, _, h5⟩ := hD b (partRen_some hb).1
      unfold alive at hal; rw [h3] at hal
      cases o <;> first | exact hal.elim | exact h5.elim
  have hgs' : GOk c (partRen ρ D) := by
    intro g hg'
    obtain ⟨t, ht⟩ := hg g hg'
    exact ⟨t, by rw [partRen_at (hgs g hg')]; exact ht⟩
  obtain ⟨r1, r2⟩ := hcall _ w A hms hgs' (refsIn_rel _ _ hargs hA)
  refine ⟨r1, r2.mono ?_⟩
  rintro ex w' ⟨V', ρ', rfl, hV', hP⟩
  have hnt : ∀ B, ¬ Touched (partRen ρ D) st st' B := by
    rintro B ⟨i, x, hx, _, hc⟩
    refine hc ?_
    obtain ⟨_, o, h3, _, h5⟩ := hD i (partRen_some hx).1
    cases o with
    | ro cs => exact ext_ro hP.ext h3
    | dead => exact ext_dead hP.ext h3
    | _ => exact h5.elim
  have hsame : ∀ B, B < w.heap.size → w'.heap[B]? = w.heap[B]? := fun B hB => hP.kept.same B hB (hnt B)
  refine ⟨V', ρ, rfl, plain_rel _ _ hv hV', Ren.le_refl _, ?_, Ext.refl _, fun _ _ h => .inl h, fun _ _ h _ => .inl h, ?_⟩
  · exact ⟨hm.wf, hm.fresh, fun i x hx => Nat.lt_of_lt_of_le (hm.old i x hx) hP.kept.size,
      fun i x hx => let ⟨o1, k1, k2⟩ := hm.blk i x hx; ⟨o1, k1, k2.world (hsame _ (hm.old i x hx))⟩, hm.apart⟩
  · exact ⟨hP.kept.size, hP.kept.os, hP.kept.output, hP.kept.tape, fun B hB _ => hsame B hB,
      fun B row e fz hB hrow => ⟨row, fz, by rw [hsame B hB]; exact hrow, rfl, fun _ _ => rfl⟩⟩
end Go.DM
