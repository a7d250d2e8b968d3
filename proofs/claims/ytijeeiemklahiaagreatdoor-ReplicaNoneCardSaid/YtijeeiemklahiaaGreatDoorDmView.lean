/-
  A call seen in a small memory: what a function gives where only its last argument's cells, and the listed blocks, are known, it gives in every memory that has the same.
-/
import Derived.Test.YtijeeiemklahiaaGreatDoorDmOb
namespace Go.DM
noncomputable section

mutual
/-- A value without a place in memory. -/
def plain : DVal → Bool
  | .bool _ | .int _ _ | .str _ => true
  | .agg cs => plains cs
  | .tuple cs => plains cs
  | _ => false
def plains : List DVal → Bool
  | [] => true
  | d :: ds => plain d && plains ds
end

mutual
theorem plain_rel {ρ ρ' : Ren} : ∀ (d : DVal) (v : Value), plain d = true → VRel ρ d v → VRel ρ' d v
  | .bool _, _, _, h => by simpa only [VRel] using h
  | .int _ _, _, _, h => by simpa only [VRel] using h
  | .str _, _, _, h => by simpa only [VRel] using h
  | .agg cs, v, hp, h => by
    simp only [VRel] at h ⊢
    obtain ⟨cs', h1, h2⟩ := h
    exact ⟨cs', h1, plains_rel cs _ (by simpa only [plain] using hp) h2⟩
  | .ptr _, _, hp, _ => by simp [plain] at hp
  | .slice .., _, hp, _ => by simp [plain] at hp
  | .map _, _, hp, _ => by simp [plain] at hp
  | .func .., _, hp, _ => by simp [plain] at hp
  | .nilFunc, _, hp, _ => by simp [plain] at hp
  | .nilIface, _, hp, _ => by simp [plain] at hp
  | .view .., _, hp, _ => by simp [plain] at hp
  | .tuple cs, v, hp, h => by
    simp only [VRel] at h ⊢
    obtain ⟨cs', h1, h2⟩ := h
    exact ⟨cs', h1, plains_rel cs _ (by simpa only [plain] using hp) h2⟩
theorem plains_rel {ρ ρ' : Ren} : ∀ (ds : List DVal) (vs : List Value), plains ds = true → VsRel ρ ds vs → VsRel ρ' ds vs
  | [], _, _, h => by simpa only [VsRel] using h
  | d :: ds, vs, hp, h => by
    simp only [plains, Bool.and_eq_true] at hp
    simp only [VsRel] at h ⊢
    obtain ⟨v, vs', h1, h2, h3⟩ := h
    exact ⟨v, vs', h1, plain_rel d v hp.1 h2, plains_rel ds vs' hp.2 h3⟩
end

theorem plains_all : ∀ {l : List DVal}, plains l = true → ∀ x ∈ l, plain x = true
  | [], _, x, hx => by simp at hx
  | d :: ds, h, x, hx => by
    simp only [plains, Bool.and_eq_true] at h
    rcases List.mem_cons.1 hx with rfl | hx
    · exact h.1
    · exact plains_all h.2 x hx

/-- What the small memory knows of a block: the same, or nothing. -/
def Sees (m : DMem) (s : DMem) (b : Nat) : Prop :=
  s.get b = some .dead ∨ ∃ cs, s.get b = some (.ro cs) ∧ m.get b = some (.ro cs) ∧ plains cs = true

/-- Has a block of the small memory been left alone? -/
def stillB (s s' : DMem) (b : Nat) : Bool :=
  match s.get b, s'.get b with
  | some .dead, some .dead => true
  | some (.ro _), some (.ro _) => true
  | some (.cells _ _ v), some (.cells _ _ v') => Nat.beq v v'
  | _, _ => false

theorem still_of {s s' : DMem} {b : Nat} (hx : Ext s s') (h : stillB s s' b = true) : s'.get b = s.get b := by
  unfold stillB at h
  split at h
  · rename_i h1 h2; rw [h1, h2]
  · rename_i c c' h1 h2
    obtain ⟨o', g1, g2⟩ := hx.obj b _ h1
    rcases g2 with g2 | g2
    · rw [g1, h1, g2]
    · simp [later] at g2
  · rename_i c e v c' e' v' h1 h2
    obtain ⟨o', g1, g2⟩ := hx.obj b _ h1
    rw [h2] at g1
    have g1' := Option.some.inj g1
    subst g1'
    rcases g2 with g2 | g2
    · rw [h2, h1, g2]
    · simp only [later] at g2
      have := Nat.eq_of_beq_eq_true h
      omega
  · cases h

theorem ext_ro {s s' : DMem} (hx : Ext s s') {b : Nat} {c : List DVal} (h : s.get b = some (.ro c)) : s'.get b = s.get b := by
  obtain ⟨o', g1, g2⟩ := hx.obj b _ h
  rcases g2 with g2 | g2
  · rw [g1, h, g2]
  · simp [later] at g2
theorem ext_dead {s s' : DMem} (hx : Ext s s') {b : Nat} (h : s.get b = some .dead) : s'.get b = s.get b := by
  obtain ⟨o', g1, g2⟩ := hx.obj b _ h
  rcases g2 with g2 | g2
  · rw [g1, h, g2]
  · simp [later] at g2

/-- The view: the listed blocks as they lie, and block 'q' as a part of block 'b' from 'o' on. -/
def viewRen (ρ : Ren) (gs : List Nat) (q : Nat) (s : Spot) : Ren := fun i =>
  if i = q then some s else if gs.contains i then ρ i else none

theorem view_call {c : Ctx} {f : FuncId} {pre : List DVal} {q n : Nat} {bs : List DVal} {gs : List Nat} {st st' : DMem} {v : DVal} {m : DMem} {b o cap : Nat} {md : Md}
    (hcall : CallTo c f (pre ++ [.slice (some (q, 0)) n n .ro]) st v st')
    (hgs : ∀ g, c.glob g = true → g ∈ gs) (_hglob : ∀ g, g ∈ gs → c.glob g = true) (hq : q ∉ gs)
    (hsize : ∀ i, st.size ≤ i → st.get i = none) (hlow : ∀ g ∈ gs, g < st.size) (hqs : q < st.size)
    (hbs : st.get q = some (.ro bs)) (hsee : ∀ g ∈ gs, Sees m st g)
    (hpre : plains pre = true) (hpl : plains bs = true) (hv : plain v = true)
    (hb : b ∉ gs) (hr : rcells m b o bs.length = some bs) (_hbn : bs.length ≤ n) (hn : n ≤ cap) (hpos : 0 < n)
    (hcell : bs.all isCell = true) :
    CallTo c f (pre ++ [.slice (some (b, o)) n cap md]) m v m := by
  intro ρ w A hm hg hA
  -- the slice's place
  obtain ⟨B0, hB0⟩ : ∃ l, A.toList = l := ⟨_, rfl⟩
  have hlen : A.toList.length = pre.length + 1 := by have := hA.length; simpa using this.symm
  have hpreA : VsRel ρ pre (A.toList.take pre.length) := by
    have := hA.take pre.length; simpa using this
  obtain ⟨V, hV1, hV2⟩ := hA.get pre.length (.slice (some (b, o)) n cap md) (by simp)
  have hsplit : A.toList = A.toList.take pre.length ++ [V] := by
    apply List.ext_getElem?
    intro i
    have htl : (A.toList.take pre.length).length = pre.length := by rw [List.length_take, hlen]; omega
    rcases Nat.lt_or_ge i pre.length with hi | hi
    · rw [List.getElem?_append_left (by rw [htl]; exact hi), List.getElem?_take_of_lt hi]
    · rw [List.getElem?_append_right (by rw [htl]; exact hi), htl]
      rcases Nat.eq_or_lt_of_le hi with hi2 | hi2
      · subst hi2
        rw [hV1]; simp
      · rw [List.getElem?_eq_none (by rw [hlen]; exact hi2), List.getElem?_eq_none (by simp; omega)]
  have hptr : ∃ s cap', ρ b = some s ∧ cap ≤ cap' ∧ V = .slice (some (s.at_ o)) n cap' := by
    cases md with
    | exact => simp only [VRel] at hV2; obtain ⟨s, h1, h2⟩ := hV2; exact ⟨s, cap, h1, Nat.le_refl _, h2⟩
    | grow z => simp only [VRel] at hV2; obtain ⟨s, cap', h1, h2, _, h3⟩ := hV2; exact ⟨s, cap', h1, h2, h3⟩
    | ro =>
      simp only [VRel] at hV2
      obtain ⟨A', cap', h1, h2, h3, _⟩ := hV2
      obtain ⟨s, h4, h5⟩ := h3 (by omega)
      exact ⟨s, cap', h4, h1, by rw [h2, h5]⟩
  obtain ⟨s, cap', hρb, hcap, rfl⟩ := hptr
  -- the block
  obtain ⟨cs, row, e', fz, g1, g2, g3, g5, hle, hr, hkb⟩ : ∃ cs row e' fz, w.heap[s.blk]? = some (.cells row e' fz) ∧ cs.length ≤ s.tot ∧ s.base + s.tot ≤ row.size ∧
      VsRel ρ cs ((row.toList.drop s.base).take cs.length) ∧ o + bs.length ≤ cs.length ∧ (cs.drop o).take bs.length = bs ∧ known m b := by
    obtain ⟨ob, hob, hrel⟩ := hm.blk b s hρb
    unfold rcells at hr
    rw [hob] at hr
    cases ob with
    | map es ver => simp at hr
    | dead => simp at hr
    | cells cs e ver =>
      simp only at hr
      cases hble : Nat.ble (o + bs.length) cs.length with
      | false => rw [hble] at hr; simp at hr
      | true =>
        rw [hble] at hr
        simp only [Option.some.injEq] at hr
        obtain ⟨row, e', fz, g1, g2, g3, g4, g5, g6⟩ := hrel
        exact ⟨cs, row, e', fz, g1, g2, g3, g5, Nat.le_of_ble_eq_true hble, hr, by unfold known; rw [hob]; trivial⟩
    | ro cs =>
      simp only at hr
      cases hble : Nat.ble (o + bs.length) cs.length with
      | false => rw [hble] at hr; simp at hr
      | true =>
        rw [hble] at hr
        simp only [Option.some.injEq] at hr
        obtain ⟨row, e', fz, g1, g2, g3, g5, g6⟩ := hrel
        exact ⟨cs, row, e', fz, g1, g2, g3, g5, Nat.le_of_ble_eq_true hble, hr, by unfold known; rw [hob]; trivial⟩
  let s' : Spot := ⟨s.blk, s.base + o, bs.length⟩
  let ρs := viewRen ρ gs q s'
  have hρq : ρs q = some s' := by simp [ρs, viewRen]
  have hρg : ∀ g ∈ gs, ρs g = ρ g := by
    intro g hg'
    have hne : g ≠ q := fun h => hq (h ▸ hg')
    simp [ρs, viewRen, hne, hg']
  have hdom : ∀ i x, ρs i = some x → (i = q ∧ x = s') ∨ (i ∈ gs ∧ ρ i = some x) := by
    intro i x hx
    simp only [ρs, viewRen] at hx
    by_cases hi : i = q
    · rw [if_pos hi] at hx; exact .inl ⟨hi, (Option.some.inj hx).symm⟩
    · rw [if_neg hi] at hx
      by_cases hc : gs.contains i = true
      · rw [if_pos hc] at hx; exact .inr ⟨by simpa using hc, hx⟩
      · rw [if_neg hc] at hx; cases hx
  have hsub : VsRel ρ bs ((row.toList.drop s'.base).take bs.length) := by
    have h1 := (g5.drop o).take bs.length
    rw [hr] at h1
    have h2 : (((row.toList.drop s.base).take cs.length).drop o).take bs.length = (row.toList.drop s'.base).take bs.length := by
      apply List.ext_getElem?
      intro i
      rw [drop_take_get, drop_take_get, drop_take_get]
      by_cases hi : i < bs.length
      · rw [if_pos hi, if_pos hi, if_pos (by omega)]
        congr 1
        show s.base + (o + i) = s.base + o + i
        omega
      · rw [if_neg hi, if_neg hi]
    rwa [h2] at h1
  have hla : ∀ g ∈ gs, alive st g → alive m g := by
    intro g hg' hals
    rcases hsee g hg' with hd | ⟨cs1, h1, h2, h3⟩
    · unfold alive at hals; rw [hd] at hals; exact hals.elim
    · unfold alive at hals; rw [h1] at hals; exact hals.elim
  have hlk : ∀ g ∈ gs, known st g → known m g := by
    intro g hg' hals
    rcases hsee g hg' with hd | ⟨cs1, h1, h2, h3⟩
    · unfold known at hals; rw [hd] at hals; exact hals.elim
    · unfold known; rw [h2]; trivial
  have hms : MRel ρs st w := by
    refine ⟨hsize, ?_, ?_, ?_, ?_⟩
    · intro i x hx
      rcases hdom i x hx with ⟨rfl, _⟩ | ⟨hi, _⟩
      · exact hqs
      · exact hlow i hi
    · intro i x hx
      rcases hdom i x hx with ⟨_, rfl⟩ | ⟨_, hx'⟩
      · exact hm.old b s hρb
      · exact hm.old i x hx'
    · intro i x hx
      rcases hdom i x hx with ⟨rfl, rfl⟩ | ⟨hi, hx'⟩
      · refine ⟨_, hbs, row, e', fz, g1, Nat.le_refl _, ?_, plains_rel _ _ hpl hsub, hcell⟩
        show s.base + o + bs.length ≤ row.size
        omega
      · rcases hsee i hi with hd | ⟨cs1, h1, h2, h3⟩
        · exact ⟨_, hd, trivial⟩
        · obtain ⟨o1, k1, k2⟩ := hm.blk i x hx'
          rw [h2] at k1
          have k1' := Option.some.inj k1
          subst k1'
          obtain ⟨row1, e3, fz1, j1, j2, j3, j5, j6⟩ := k2
          exact ⟨_, h1, row1, e3, fz1, j1, j2, j3, plains_rel _ _ h3 j5, j6⟩
    · intro i i' x x' hne hx hx' hal hal'
      rcases hdom i x hx with ⟨rfl, rfl⟩ | ⟨hi, hx1⟩
      · unfold alive at hal; rw [hbs] at hal; exact hal.elim
      · rcases hdom i' x' hx' with ⟨rfl, rfl⟩ | ⟨hi', hx2⟩
        · rcases hm.apart i b x s (fun h => hb (h ▸ hi)) hx1 hρb (hla i hi hal) hkb with h | h | h
          · exact .inl h
          · exact .inr (.inl (by show x.base + x.tot ≤ s.base + o; omega))
          · exact .inr (.inr (by show s.base + o + bs.length ≤ x.base; omega))
        · exact hm.apart i i' x x' hne hx1 hx2 (hla i hi hal) (hlk i' hi' hal')
  have hgs' : GOk c ρs := by
    intro g hg'
    obtain ⟨t, ht⟩ := hg g hg'
    exact ⟨t, by rw [hρg g (hgs g hg')]; exact ht⟩
  have hAs : VsRel ρs (pre ++ [.slice (some (q, 0)) n n .ro]) A.toList := by
    rw [hsplit]
    refine (plains_rel _ _ hpre hpreA).append (.cons ?_ .nil)
    simp only [VRel]
    refine ⟨s.at_ o, cap', by omega, rfl, fun _ => ⟨s', hρq, ?_⟩, Nat.le_refl _⟩
    simp [Spot.at_, s']
  obtain ⟨r1, r2⟩ := hcall ρs w A hms hgs' hAs
  refine ⟨r1, r2.mono ?_⟩
  rintro ex w' ⟨V', ρ', rfl, hV', hP⟩
  have hnt : ∀ B, ¬ Touched ρs st st' B := by
    rintro B ⟨i, x, hx, _, hc⟩
    refine hc ?_
    rcases hdom i x hx with ⟨rfl, _⟩ | ⟨h, _⟩
    · exact ext_ro hP.ext hbs
    · rcases hsee i h with hd | ⟨cs1, h1, _⟩
      · exact ext_dead hP.ext hd
      · exact ext_ro hP.ext h1
  have hsame : ∀ B, B < w.heap.size → w'.heap[B]? = w.heap[B]? := fun B hB => hP.kept.same B hB (hnt B)
  refine ⟨V', ρ, rfl, plain_rel _ _ hv hV', Ren.le_refl _, ?_, Ext.refl _, fun _ _ h => .inl h, fun _ _ h _ => .inl h, ?_⟩
  · exact ⟨hm.wf, hm.fresh, fun i x hx => Nat.lt_of_lt_of_le (hm.old i x hx) hP.kept.size,
      fun i x hx => let ⟨o1, k1, k2⟩ := hm.blk i x hx; ⟨o1, k1, k2.world (hsame _ (hm.old i x hx))⟩, hm.apart⟩
  · exact ⟨hP.kept.size, hP.kept.os, hP.kept.output, hP.kept.tape, fun B hB _ => hsame B hB,
      fun B row e fz hB hrow => ⟨row, fz, by rw [hsame B hB]; exact hrow, rfl, fun _ _ => rfl⟩⟩

/-- The same for a call whose arguments have no place in memory. -/
theorem view_plain {c : Ctx} {f : FuncId} {args : List DVal} {gs : List Nat} {st st' : DMem} {v : DVal} {m : DMem}
    (hcall : CallTo c f args st v st') (hgs : ∀ g, c.glob g = true → g ∈ gs)
    (hsize : ∀ i, st.size ≤ i → st.get i = none) (hlow : ∀ g ∈ gs, g < st.size) (hsee : ∀ g ∈ gs, Sees m st g)
    (hpl : plains args = true) (hv : plain v = true) : CallTo c f args m v m := by
  intro ρ w A hm hg hA
  let ρs : Ren := fun i => if gs.contains i then ρ i else none
  have hρg : ∀ g ∈ gs, ρs g = ρ g := by intro g hg'; simp [ρs, hg']
  have hdom : ∀ i x, ρs i = some x → i ∈ gs ∧ ρ i = some x := by
    intro i x hx
    simp only [ρs] at hx
    by_cases hc : gs.contains i = true
    · rw [if_pos hc] at hx; exact ⟨by simpa using hc, hx⟩
    · rw [if_neg hc] at hx; cases hx
  have hl : ∀ g ∈ gs, alive st g → alive m g := by
    intro g hg' hals
    rcases hsee g hg' with hd | ⟨cs1, h1, h2, h3⟩
    · unfold alive at hals; rw [hd] at hals; exact hals.elim
    · unfold alive at hals; rw [h1] at hals; exact hals.elim
  have hlk : ∀ g ∈ gs, known st g → known m g := by
    intro g hg' hals
    rcases hsee g hg' with hd | ⟨cs1, h1, h2, h3⟩
    · unfold known at hals; rw [hd] at hals; exact hals.elim
    · unfold known; rw [h2]; trivial
  have hms : MRel ρs st w := by
    refine ⟨hsize, fun i x hx => hlow i (hdom i x hx).1, fun i x hx => hm.old i x (hdom i x hx).2, ?_, ?_⟩
    · intro i x hx
      obtain ⟨hi, hx'⟩ := hdom i x hx
      rcases hsee i hi with hd | ⟨cs1, h1, h2, h3⟩
      · exact ⟨_, hd, trivial⟩
      · obtain ⟨o1, k1, k2⟩ := hm.blk i x hx'
        rw [h2] at k1
        have k1' := Option.some.inj k1
        subst k1'
        obtain ⟨row1, e3, fz1, j1, j2, j3, j5, j6⟩ := k2
        exact ⟨_, h1, row1, e3, fz1, j1, j2, j3, plains_rel _ _ h3 j5, j6⟩
    · intro i i' x x' hne hx hx' hal hal'
      exact hm.apart i i' x x' hne (hdom i x hx).2 (hdom i' x' hx').2 (hl i (hdom i x hx).1 hal) (hlk i' (hdom i' x' hx').1 hal')
  have hgs' : GOk c ρs := by
    intro g hg'
    obtain ⟨t, ht⟩ := hg g hg'
    exact ⟨t, by rw [hρg g (hgs g hg')]; exact ht⟩
  obtain ⟨r1, r2⟩ := hcall ρs w A hms hgs' (plains_rel _ _ hpl hA)
  refine ⟨r1, r2.mono ?_⟩
  rintro ex w' ⟨V', ρ', rfl, hV', hP⟩
  have hnt : ∀ B, ¬ Touched ρs st st' B := by
    rintro B ⟨i, x, hx, _, hc⟩
    refine hc ?_
    rcases hsee i (hdom i x hx).1 with hd | ⟨cs1, h1, _⟩
    · exact ext_dead hP.ext hd
    · exact ext_ro hP.ext h1
  have hsame : ∀ B, B < w.heap.size → w'.heap[B]? = w.heap[B]? := fun B hB => hP.kept.same B hB (hnt B)
  refine ⟨V', ρ, rfl, plain_rel _ _ hv hV', Ren.le_refl _, ?_, Ext.refl _, fun _ _ h => .inl h, fun _ _ h _ => .inl h, ?_⟩
  · exact ⟨hm.wf, hm.fresh, fun i x hx => Nat.lt_of_lt_of_le (hm.old i x hx) hP.kept.size,
      fun i x hx => let ⟨o1, k1, k2⟩ := hm.blk i x hx; ⟨o1, k1, k2.world (hsame _ (hm.old i x hx))⟩, hm.apart⟩
  · exact ⟨hP.kept.size, hP.kept.os, hP.kept.output, hP.kept.tape, fun B hB _ => hsame B hB,
      fun B row e fz hB hrow => ⟨row, fz, by rw [hsame B hB]; exact hrow, rfl, fun _ _ => rfl⟩⟩

end
end Go.DM
