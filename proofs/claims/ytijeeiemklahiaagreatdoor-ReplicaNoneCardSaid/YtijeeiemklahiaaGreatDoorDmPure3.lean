/-
  A deterministic machine over Go's code: parts, aggregates, the least and the greatest, equality.
-/
import Derived.Test.YtijeeiemklahiaaGreatDoorDmPure2
namespace Go.DM

theorem toList_extract' (cs : Array Value) (a b : Nat) : (cs.extract a b).toList = (cs.toList.drop a).take (b - a) := by
  apply List.ext_getElem?
  intro i
  rw [drop_take_get]
  simp only [Array.getElem?_toList, Array.getElem?_extract]
  by_cases h : i < b - a
  · rw [if_pos h]
    split
    · rfl
    · rename_i h2; symm; apply Array.getElem?_eq_none; omega
  · rw [if_neg h, if_neg (by omega)]

theorem dpart_sound {c : Ctx} (ok : CtxOk c) {ρ : Ren} {w : World} {t : TypeId} {i : TI} (ht : c.ty t = some i) {cs : List DVal} {cs' : Array Value} (hr : VsRel ρ cs cs'.toList) {off : Nat} {d : DVal}
    (h : dpart i cs off = some d) : PureTo c ρ w (part t cs' off) d := by
  unfold PureTo dpart at *
  have hT := ok.ty t i ht
  by_cases ha : i.isAgg = true
  · rw [if_pos ha] at h; simp at h; subst h
    refine ⟨.agg (cs'.extract off (off + i.size)), by simp [part, hT.run_isAgg, ha, hT.run_sizeOf], ?_⟩
    simp only [VRel]
    refine ⟨_, rfl, ?_⟩
    rw [toList_extract', Nat.add_sub_cancel_left]
    exact (hr.drop _).take _
  · rw [if_neg ha] at h
    obtain ⟨v, hv, hrel⟩ := hr.get off d h
    refine ⟨v, ?_, hrel⟩
    have : cs'[off]? = some v := by simpa using hv
    simp [part, hT.run_isAgg, ha, this]

theorem run_mapM_list {α β : Type} (P : Program) (w : World) (f : α → Sem β) (g : α → β) : ∀ l : List α, (∀ a ∈ l, (f a).run P w = .ok (g a) w) → (l.mapM f).run P w = .ok (l.map g) w
  | [], _ => by simp
  | a :: l, h => by
    have ih := run_mapM_list P w f g l (fun x hx => h x (by simp [hx]))
    simp [List.mapM_cons, h a (by simp), ih]

theorem run_mapM_array {α β : Type} (P : Program) (w : World) (f : α → Sem β) (g : α → β) (xs : Array α) (h : ∀ a ∈ xs.toList, (f a).run P w = .ok (g a) w) : (xs.mapM f).run P w = .ok (xs.map g) w := by
  rw [Array.mapM_eq_mapM_toList, Sem.run_map, run_mapM_list P w f g xs.toList h]
  simp only [Result.andThen_ok]
  congr 1
  apply Array.ext'
  simp

theorem foldl_splice : ∀ (l : List Value) (off k : Nat) (cells : Array Value), off + k + l.length ≤ cells.size →
    ((l.zipIdx k).foldl (fun (cs : Array Value) (p : Value × Nat) => cs.setIfInBounds (off + p.2) p.1) cells).toList = splice cells.toList (off + k) l
  | [], off, k, cells, h => by
    simp only [List.zipIdx_nil, List.foldl_nil]
    apply List.ext_getElem?; intro i
    rw [splice_get _ _ _ (by simpa using h), if_neg (by simp)]
  | v :: l, off, k, cells, h => by
    simp only [List.length_cons] at h
    simp only [List.zipIdx_cons, List.foldl_cons]
    rw [foldl_splice l off (k + 1) _ (by simp; omega), toList_setIfInBounds _ _ _ (by omega), show off + (k + 1) = off + k + 1 by omega,
      splice_splice_one _ _ _ _ (by simp; omega)]

theorem dfill_sound {ρ : Ren} {place : Nat → Option (Nat × Nat)} : ∀ {parts : List (Nat × DVal)} {cs : List DVal} {r : List DVal} {cells : Array Value} {parts' : List (Nat × Value)},
    dfill place cs parts = some r → VsRel ρ cs cells.toList → parts.length = parts'.length →
    (∀ (k : Nat) (p : Nat × DVal) (q : Nat × Value), parts[k]? = some p → parts'[k]? = some q → p.1 = q.1 ∧ VRel ρ p.2 q.2 ∧ p.2.cells.all isCell = true) →
    ∃ R : Array Value, Instr.fill place cells parts' = some R ∧ VsRel ρ r R.toList
  | [], cs, r, cells, parts', h, hr, hl, hp => by
    simp only [dfill] at h; cases h
    cases parts' with
    | nil => exact ⟨cells, rfl, hr⟩
    | cons => simp at hl
  | (i, v) :: parts, cs, r, cells, parts', h, hr, hl, hp => by
    cases parts' with
    | nil => simp at hl
    | cons q parts' =>
      obtain ⟨j, v'⟩ := q
      obtain ⟨e1, e2, e3⟩ := hp 0 (i, v) (j, v') (by simp) (by simp)
      simp only at e1 e2 e3; subst e1
      simp only [dfill] at h
      cases hpl : place i with
      | none => rw [hpl] at h; cases h
      | some os =>
        obtain ⟨off, size⟩ := os
        rw [hpl] at h; simp only at h
        split at h
        · cases h
        · rename_i hc
          have hc1 : v.cells.length = size := by
            rcases Nat.decEq v.cells.length size with h' | h'
            · exact absurd (.inl h') hc
            · exact h'
          have hc2 : off + v.cells.length ≤ cs.length := by
            rcases Nat.lt_or_ge cs.length (off + v.cells.length) with h' | h'
            · exact absurd (.inr h') hc
            · exact h'
          have hcells := e2.cells e3
          have hlv := hcells.length
          have hlc := hr.length
          simp only [Array.length_toList] at hlv hlc
          have hfold : (v'.cells.zipIdx.foldl (fun cs (x : Value × Nat) => cs.setIfInBounds (off + x.2) x.1) cells).toList = splice cells.toList off v'.cells.toList := by
            have := foldl_splice v'.cells.toList off 0 cells (by simp; omega)
            simp only [Nat.add_zero] at this
            rw [← this, ← Array.foldl_toList, Array.toList_zipIdx]
          have hr' : VsRel ρ (splice cs off v.cells) (v'.cells.zipIdx.foldl (fun cs (x : Value × Nat) => cs.setIfInBounds (off + x.2) x.1) cells).toList := by
            rw [hfold]; exact hr.splice off hcells
          obtain ⟨R, hR1, hR2⟩ := dfill_sound (parts' := parts') h hr' (by simpa using hl) (fun k p q hk hq => hp (k + 1) p q (by simpa using hk) (by simpa using hq))
          refine ⟨R, ?_, hR2⟩
          simp only [Instr.fill, hpl]
          have hn : ¬ (v'.cells.size ≠ size ∨ off + v'.cells.size > cells.size) := by omega
          simp only [Bool.or_eq_true, decide_eq_true_eq]
          rw [if_neg hn]
          exact hR1

theorem sizes_sound {c : Ctx} (ok : CtxOk c) (w : World) : ∀ {fs : List Field} {ps : List (Nat × Nat)}, sizes c fs = some ps →
    ∃ g : Field → Nat × Nat, fs.map g = ps ∧ ∀ f ∈ fs, (do pure (f.offset, ← sizeOf f.type) : Sem (Nat × Nat)).run c.P w = .ok (g f) w
  | [], ps, h => by simp [sizes] at h; subst h; exact ⟨fun _ => (0, 0), rfl, by simp⟩
  | f :: fs, ps, h => by
    simp only [sizes] at h
    split at h
    · rename_i i r h1 h2
      simp at h; subst h
      obtain ⟨g, g1, g2⟩ := sizes_sound ok w h2
      have hg : ∀ f ∈ fs, ∃ i, c.ty f.type = some i := by
        clear g1 g2
        induction fs generalizing r with
        | nil => simp
        | cons a fs ih =>
          simp only [sizes] at h2
          split at h2
          · rename_i i' r' k1 k2
            intro f hf
            simp at hf
            rcases hf with rfl | hf
            · exact ⟨_, k1⟩
            · exact ih _ k2 f hf
          · cases h2
      refine ⟨fun x => (x.offset, ((c.ty x.type).map (·.size)).getD 0), ?_, ?_⟩
      · simp only [List.map_cons, h1, Option.map_some, Option.getD_some]
        congr 1
        rw [← g1]
        apply List.map_congr_left
        intro x hx
        obtain ⟨ix, hix⟩ := hg x hx
        have e := g2 x hx
        have e' := (ok.ty _ _ hix).run_sizeOf w
        simp [e'] at e
        simp [hix, ← e]
      · intro x hx
        have : ∃ i, c.ty x.type = some i := by
          simp at hx
          rcases hx with rfl | hx
          · exact ⟨_, h1⟩
          · exact hg x hx
        obtain ⟨ix, hix⟩ := this
        simp [(ok.ty _ _ hix).run_sizeOf w, hix]
    · cases h

theorem devp_rel {ρ ev g} : ∀ {xs : List (Nat × Operand)} {ds : List (Nat × DVal)}, devp ev xs = some ds → ERel ρ ev g (xs.map (·.2)) →
    ds.length = (xs.map fun p => (p.1, g p.2)).length ∧ ∀ (k : Nat) (p : Nat × DVal) (q : Nat × Value), ds[k]? = some p → (xs.map fun p => (p.1, g p.2))[k]? = some q → p.1 = q.1 ∧ VRel ρ p.2 q.2
  | [], ds, h, _ => by simp [devp] at h; subst h; simp
  | (i, x) :: xs, ds, h, he => by
    simp only [devp] at h
    split at h
    · rename_i d ds' h1 h2
      simp at h; subst h
      obtain ⟨g1, g2⟩ := devp_rel h2 (he.sub (by simp; intro y a hb; exact .inr ⟨a, hb⟩))
      refine ⟨by simpa using g1, ?_⟩
      intro k p q hk hq
      cases k with
      | zero =>
        simp at hk hq; subst hk hq
        exact ⟨rfl, he x (by simp) d h1⟩
      | succ k => exact g2 k p q (by simpa using hk) (by simpa using hq)
    · cases h

theorem dbuild_sound {c : Ctx} (ok : CtxOk c) {ρ : Ren} {w : World} {t : TypeId} {parts : List (Nat × DVal)} {d : DVal} (h : dbuild c t parts = some d) {parts' : Array (Nat × Value)}
    (hl : parts.length = parts'.toList.length) (hp : ∀ (k : Nat) (p : Nat × DVal) (q : Nat × Value), parts[k]? = some p → parts'.toList[k]? = some q → p.1 = q.1 ∧ VRel ρ p.2 q.2)
    : PureTo c ρ w (Instr.build t parts') d := by
  unfold PureTo
  unfold dbuild at h
  cases ht : c.ty t with
  | none => rw [ht] at h; cases h
  | some i =>
    rw [ht] at h; simp only at h
    have hT := ok.ty t i ht
    split at h
    · cases h
    rename_i hcell0
    have hcell : ∀ p ∈ parts, p.2.cells.all isCell = true := by
      intro p hp1
      exact List.all_eq_true.1 hcell0 p hp1
    have hp' : ∀ (k : Nat) (p : Nat × DVal) (q : Nat × Value), parts[k]? = some p → parts'.toList[k]? = some q → p.1 = q.1 ∧ VRel ρ p.2 q.2 ∧ p.2.cells.all isCell = true := fun k p q hk hq =>
      ⟨(hp k p q hk hq).1, (hp k p q hk hq).2, hcell p (List.mem_of_getElem? hk)⟩
    obtain ⟨z, dz, hz, _⟩ := hT.run_zero w ρ
    have hzc := hT.cells_size w ρ hz
    split at h
    · rename_i fs hdesc
      split at h
      · cases h
      · rename_i ps hps
        simp only [Option.map_eq_some_iff] at h
        obtain ⟨r, hr, rfl⟩ := h
        obtain ⟨g, g1, g2⟩ := sizes_sound ok w hps
        have hm := run_mapM_array c.P w (fun f : Field => (do pure (f.offset, ← sizeOf f.type) : Sem (Nat × Nat))) g fs g2
        have hplace : (fun k : Nat => ps[k]?) = (fun k : Nat => (fs.map g)[k]?) := by
          funext k; rw [← g1]; simp
        obtain ⟨R, hR1, hR2⟩ := dfill_sound (parts' := parts'.toList) hr hzc hl hp'
        refine ⟨.agg R, ?_, by simp only [VRel]; exact ⟨R, rfl, hR2⟩⟩
        simp only [Instr.build, Sem.run_bind, hz, Result.andThen_ok, hT.run_underlying, hdesc, hm]
        rw [hplace] at hR1
        rw [hR1]; rfl
    · rename_i n e hdesc
      split at h
      · cases h
      · rename_i ie hie
        simp only [Option.map_eq_some_iff] at h
        obtain ⟨r, hr, rfl⟩ := h
        obtain ⟨R, hR1, hR2⟩ := dfill_sound (parts' := parts'.toList) hr hzc hl hp'
        refine ⟨.agg R, ?_, by simp only [VRel]; exact ⟨R, rfl, hR2⟩⟩
        simp [Instr.build, hz, hT.run_underlying, hdesc, (ok.ty e ie hie).run_sizeOf, hR1]
    · cases h

theorem dmin_sound {c : Ctx} {ρ : Ren} {w : World} {ds : List DVal} {d : DVal} (h : dmin ds = some d) {vs : Array Value} (hr : VsRel ρ ds vs.toList) (tys : Array TypeId) (t : TypeId) :
    PureTo c ρ w (Builtin.min_ tys t vs) d := by
  unfold PureTo
  have key : ∀ (ds : List DVal) (vs : List Value) (k : IntKind) (x : Int) (d : DVal), VsRel ρ ds vs →
      ds.foldlM (fun a b => match a, b with
        | .int k x, .int k' y => if k = k' then some (.int k (if y < x then y else x)) else none
        | _, _ => none) (.int k x) = some d → ∃ V, (vs.foldlM Builtin.min2 (.int k x)).run c.P w = .ok V w ∧ VRel ρ d V := by
    intro ds
    induction ds with
    | nil => intro vs k x d hr h; simp only [VsRel] at hr; subst hr; simp at h; subst h; exact ⟨.int k x, by simp, by simp [VRel]⟩
    | cons b ds ih =>
      intro vs k x d hr h
      simp only [VsRel] at hr; obtain ⟨v, vs', rfl, h2, h3⟩ := hr
      simp only [List.foldlM_cons] at h
      cases b <;> (first | (simp at h; done) | skip)
      rename_i k' y
      have hv := h2.int_inv; subst hv
      by_cases hk : k = k'
      · simp only [hk, if_true] at h
        obtain ⟨V, g1, g2⟩ := ih vs' k' _ d h3 (by simpa using h)
        refine ⟨V, ?_, g2⟩
        simp [List.foldlM_cons, Builtin.min2, hk, g1]
      · simp [hk] at h
  unfold dmin at h
  split at h
  · rename_i k x rest
    simp only [VsRel] at hr
    obtain ⟨v, vs', e1, h2, h3⟩ := hr
    have hv := h2.int_inv; subst hv
    obtain ⟨V, g1, g2⟩ := key rest vs' k x d h3 h
    exact ⟨V, by simp [Builtin.min_, e1, g1], g2⟩
  · cases h

theorem dmax_sound {c : Ctx} {ρ : Ren} {w : World} {ds : List DVal} {d : DVal} (h : dmax ds = some d) {vs : Array Value} (hr : VsRel ρ ds vs.toList) (tys : Array TypeId) (t : TypeId) :
    PureTo c ρ w (Builtin.max_ tys t vs) d := by
  unfold PureTo
  have key : ∀ (ds : List DVal) (vs : List Value) (k : IntKind) (x : Int) (d : DVal), VsRel ρ ds vs →
      ds.foldlM (fun a b => match a, b with
        | .int k x, .int k' y => if k = k' then some (.int k (if y > x then y else x)) else none
        | _, _ => none) (.int k x) = some d → ∃ V, (vs.foldlM Builtin.max2 (.int k x)).run c.P w = .ok V w ∧ VRel ρ d V := by
    intro ds
    induction ds with
    | nil => intro vs k x d hr h; simp only [VsRel] at hr; subst hr; simp at h; subst h; exact ⟨.int k x, by simp, by simp [VRel]⟩
    | cons b ds ih =>
      intro vs k x d hr h
      simp only [VsRel] at hr; obtain ⟨v, vs', rfl, h2, h3⟩ := hr
      simp only [List.foldlM_cons] at h
      cases b <;> (first | (simp at h; done) | skip)
      rename_i k' y
      have hv := h2.int_inv; subst hv
      by_cases hk : k = k'
      · simp only [hk, if_true] at h
        obtain ⟨V, g1, g2⟩ := ih vs' k' _ d h3 (by simpa using h)
        refine ⟨V, ?_, g2⟩
        simp [List.foldlM_cons, Builtin.max2, hk, g1]
      · simp [hk] at h
  unfold dmax at h
  split at h
  · rename_i k x rest
    simp only [VsRel] at hr
    obtain ⟨v, vs', e1, h2, h3⟩ := hr
    have hv := h2.int_inv; subst hv
    obtain ⟨V, g1, g2⟩ := key rest vs' k x d h3 h
    exact ⟨V, by simp [Builtin.max_, e1, g1], g2⟩
  · cases h
end Go.DM
