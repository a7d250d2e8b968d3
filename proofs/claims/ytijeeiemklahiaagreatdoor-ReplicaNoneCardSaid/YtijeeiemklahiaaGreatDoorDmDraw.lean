/-
  A deterministic machine over Go's code: regions that draw their order.
-/
import Derived.Test.YtijeeiemklahiaaGreatDoorDmCode
namespace Go.DM

theorem pendOk_spec {m : DMem} {pre : Nat} : ∀ {pend : List (Nat × Nat × Nat)}, pendOk m pre pend = true → ∀ x ∈ pend, pre.testBit x.1 = true ∨ m.ver x.2.1 = some x.2.2
  | [], _, x, hx => by simp at hx
  | (j, b, v) :: ps, h, x, hx => by
    simp only [pendOk] at h
    simp only [List.mem_cons] at hx
    split at h
    · rename_i ht
      rcases hx with rfl | hx
      · exact .inl ht
      · exact pendOk_spec h x hx
    · split at h
      · cases h
      · rename_i v' hv
        split at h
        · rename_i he
          rcases hx with rfl | hx
          · right; rw [hv, Nat.eq_of_beq_eq_true he]
          · exact pendOk_spec h x hx
        · cases h

/-- What one step of the run over an order comes to. -/
structure TrStep (c : Ctx) (call : Callee) (ops : Array Oper) (clo : T Nat) (ord : List Nat) (st : Nat → DSt) (at_ : Nat → Option Nat) (pend : List (Nat × Nat × Nat)) (k i : Nat) (o : Oper) : Prop where
  op : ops[i]? = some o
  step : dstep c call ops o (st k) = some (st (k + 1), at_ k)
  heavy : isHeavy o.op = true → (∀ x ∈ pend, ((clo.get i).getD 0).testBit x.1 = true ∨ (st (k + 1)).m.ver x.2.1 = some x.2.2) ∧
    ∀ k' j o' b, k' < k → ord[k']? = some j → ops[j]? = some o' → isHeavy o'.op = false → at_ k' = some b → ((clo.get i).getD 0).testBit j = true ∨ (st (k + 1)).m.ver b = (st (k' + 1)).m.ver b
  light : isHeavy o.op = false → ∀ b, at_ k = some b → ∃ v, (st (k + 1)).m.ver b = some v

theorem dgo_trace {c : Ctx} {call : Callee} {ops : Array Oper} {clo : T Nat} : ∀ {ord : List Nat} {pend : List (Nat × Nat × Nat)} {s s' : DSt}, dgo c call ops clo ord pend s = some s' →
    ∃ (st : Nat → DSt) (at_ : Nat → Option Nat), st 0 = s ∧ st ord.length = s' ∧ ∀ k i, ord[k]? = some i → ∃ o, TrStep c call ops clo ord st at_ pend k i o
  | [], pend, s, s', h => by
    simp only [dgo] at h; cases h
    exact ⟨fun _ => s, fun _ => none, rfl, rfl, by simp⟩
  | i :: is, pend, s, s', h => by
    simp only [dgo] at h
    cases ho : ops[i]? with
    | none => rw [ho] at h; cases h
    | some o =>
      rw [ho] at h; simp only at h
      cases hstep : dstep c call ops o s with
      | none => rw [hstep] at h; cases h
      | some r =>
        obtain ⟨s1, at0⟩ := r
        rw [hstep] at h; simp only at h
        -- the rest, over a list of what was looked at
        have build : ∀ pend', dgo c call ops clo is pend' s1 = some s' → (isHeavy o.op = true → ∀ x ∈ pend, ((clo.get i).getD 0).testBit x.1 = true ∨ s1.m.ver x.2.1 = some x.2.2) →
            (∀ x ∈ pend, x ∈ pend') → (isHeavy o.op = false → ∀ b, at0 = some b → ∃ v, s1.m.ver b = some v ∧ (i, b, v) ∈ pend') →
            ∃ (st : Nat → DSt) (at_ : Nat → Option Nat), st 0 = s ∧ st (i :: is).length = s' ∧ ∀ k i', (i :: is)[k]? = some i' → ∃ o, TrStep c call ops clo (i :: is) st at_ pend k i' o := by
          intro pend' hgo hheavy hsub hlight
          obtain ⟨st, at_, h0, h1, h2⟩ := dgo_trace hgo
          refine ⟨fun k => match k with | 0 => s | k + 1 => st k, fun k => match k with | 0 => at0 | k + 1 => at_ k, rfl, by simpa using h1, ?_⟩
          intro k i' hk
          cases k with
          | zero =>
            simp at hk; subst hk
            refine ⟨o, ho, by simp only; rw [h0]; exact hstep, fun hh => ⟨?_, ?_⟩, ?_⟩
            · simp only; rw [h0]; exact hheavy hh
            · intro k' _ _ _ hlt; omega
            · intro hl b hb
              obtain ⟨v, hv, _⟩ := hlight hl b hb
              exact ⟨v, by simp only; rw [h0]; exact hv⟩
          | succ k =>
            simp only [List.getElem?_cons_succ] at hk
            obtain ⟨o2, t⟩ := h2 k i' hk
            refine ⟨o2, t.op, t.step, fun hh => ⟨?_, ?_⟩, fun hl b hb => t.light hl b hb⟩
            · intro x hx; exact (t.heavy hh).1 x (hsub x hx)
            · intro k' j o' b hlt hj ho' hl hb
              cases k' with
              | zero =>
                simp at hj; subst hj
                rw [ho] at ho'; cases ho'
                obtain ⟨v, hv, hmem⟩ := hlight hl b hb
                rcases (t.heavy hh).1 _ hmem with h3 | h3
                · exact .inl h3
                · right; simp only; rw [h3, h0, hv]
              | succ k' =>
                simp only [List.getElem?_cons_succ] at hj
                exact (t.heavy hh).2 k' j o' b (by omega) hj ho' hl hb
        split at h
        · rename_i hh
          split at h
          · rename_i hp
            exact build pend h (fun _ => pendOk_spec hp) (fun _ hx => hx) (fun hl => by rw [hh] at hl; cases hl)
          · cases h
        · rename_i hl
          split at h
          · rename_i b
            split at h
            · rename_i v hv
              exact build _ h (fun hh => by rw [hl] at hh; cases hh) (fun _ hx => List.mem_cons_of_mem _ hx)
                (fun _ b' hb' => by cases hb'; exact ⟨v, hv, List.mem_cons_self ..⟩)
            · cases h
          · exact build pend h (fun hh => by rw [hl] at hh; cases hh) (fun _ hx => hx) (fun _ b' hb' => by cases hb')

theorem light_dheavy {c : Ctx} {ev : Operand → Option DVal} {m : DMem} {op : Op} (h : isHeavy op = false) : dheavy c ev m op = none := by
  cases op with
  | store => simp [isHeavy] at h
  | mapUpdate => simp [isHeavy] at h
  | insert => simp [isHeavy] at h
  | convert s d x =>
    simp only [isHeavy] at h
    simp only [dheavy]
    split
    · rw [h]
    · rfl
  | call cl =>
    obtain ⟨callee, args, tys⟩ := cl
    cases callee with
    | value f => simp [isHeavy] at h
    | invoke r n => rfl
    | builtin b => cases b <;> first | rfl | (simp [isHeavy] at h)
  | _ => rfl

theorem light_dtarget {ev : Operand → Option DVal} {op : Op} (h : isHeavy op = false) : dtarget ev op = none := by
  cases op with
  | call cl =>
    obtain ⟨callee, args, tys⟩ := cl
    cases callee with
    | value f => simp [isHeavy] at h
    | invoke r n => rfl
    | builtin b => rfl
  | _ => rfl

/-- A light step: three ways. -/
theorem light_step {c : Ctx} {call : Callee} {ops : Array Oper} {o : Oper} {s s' : DSt} {at_ : Option Nat} (h : dstep c call ops o s = some (s', at_)) (hl : isHeavy o.op = false) :
    (dwanted ops s.fr o = false ∧ s' = ⟨dput s.fr o.dst dundef, s.m⟩ ∧ at_ = none) ∨
    (dwanted ops s.fr o = true ∧ ∃ v, s'.fr = dput s.fr o.dst v ∧
      ((dpure c (dev c.glob s.fr) o.op = some v ∧ s'.m = s.m ∧ at_ = none) ∨
       (∃ b, dread c (dev c.glob s.fr) s.m o.op = some (v, b) ∧ s'.m = s.m ∧ at_ = some b) ∨
       (∃ ob, dalloc c (dev c.glob s.fr) s.m.size o.op = some (v, ob) ∧ s'.m = s.m.alloc ob ∧ at_ = some s.m.size))) := by
  rw [dstep_eq] at h
  split at h
  · rename_i hw; cases h; exact .inl ⟨hw, rfl, rfl⟩
  · rename_i hw
    right
    refine ⟨hw, ?_⟩
    split at h
    · rename_i r hr
      cases h
      unfold dexec at hr
      split at hr
      · rename_i v hp; cases hr; exact ⟨v, rfl, .inl ⟨hp, rfl, rfl⟩⟩
      · split at hr
        · rename_i v b hp; cases hr; exact ⟨v, rfl, .inr (.inl ⟨b, hp, rfl, rfl⟩)⟩
        · split at hr
          · rename_i v ob hp; cases hr; exact ⟨v, rfl, .inr (.inr ⟨ob, hp, rfl, rfl⟩)⟩
          · rw [light_dheavy hl, light_dtarget hl] at hr; cases hr
    · cases h

/-- What a reading operation gives hangs on the block alone. -/
theorem rcells_congr {m m' : DMem} {b : Nat} (h : m'.get b = m.get b) (o n : Nat) : rcells m' b o n = rcells m b o n := by
  unfold rcells; rw [h]

theorem dread_congr {c : Ctx} {ev : Operand → Option DVal} {m m' : DMem} {op : Op} {v : DVal} {b : Nat} (h : dread c ev m op = some (v, b)) (hb : m'.get b = m.get b) : dread c ev m' op = some (v, b) := by
  cases op with
  | load t x =>
    simp only [dread] at h ⊢
    split at h
    · rename_i i b' o ht hx
      have : b' = b := by
        by_cases ha : i.isAgg = true
        · rw [if_pos ha] at h
          simp only [Option.map_eq_some_iff] at h
          obtain ⟨_, _, e⟩ := h; cases e; rfl
        · rw [if_neg ha] at h
          split at h
          · cases h; rfl
          · cases h
      subst this
      simp only [rcells_congr hb]; exact h
    · cases h
  | lookup t x ix okk =>
    simp only [dread] at h ⊢
    split at h
    · rename_i kt et z1 z2 z3 r k ht hx hk
      have : r = b := by
        split at h
        · split at h
          · cases h; rfl
          · cases h; rfl
          · cases h
        · cases h
      subst this
      simp only [hb]; exact h
    · cases h
  | convert src dst x =>
    simp only [dread] at h ⊢
    split at h
    · rename_i e z1 z2 z3 y1 y2 y3 b' o len cap md h1 h2 hx
      have : b' = b := by
        split at h
        · split at h
          · cases h; rfl
          · cases h
        · cases h
      subst this
      simp only [rcells_congr hb]; exact h
    · cases h
  | call cl =>
    obtain ⟨callee, args, tys⟩ := cl
    cases callee with
    | value f => simp [dread] at h
    | invoke r n => simp [dread] at h
    | builtin bi =>
      cases bi <;> simp only [dread] at h ⊢ <;> (first | (cases h; done) | skip)
      split at h
      · rename_i r t hds htys
        have : r = b := by
          split at h
          · cases h; rfl
          · cases h
        subst this
        simp only [hb]; exact h
      · cases h
  | _ => simp [dread] at h

/-- A world with a block more, of which the machine knew ahead. -/
theorem MRel.add {ρ : Ren} {m : DMem} {w : World} (hr : MRel ρ m w) {b : Nat} (hb : ρ b = none) (hlt : b < m.size) {ob : DObj} (hob : m.get b = some ob) {O : Obj} {s : Spot} {k : Nat} (hs : s.blk = w.heap.size)
    (hB : BlkRel (ρ.add b s) s { w with heap := w.heap.push O, drawn := k } ob) : MRel (ρ.add b s) m { w with heap := w.heap.push O, drawn := k } := by
  have hle : ρ.le (ρ.add b s) := Ren.le_add hb
  have hold : ∀ i, i < w.heap.size → (w.heap.push O)[i]? = w.heap[i]? := fun i hi => by rw [push_get, if_neg (by omega)]
  refine ⟨hr.wf, ?_, ?_, ?_, ?_⟩
  · intro i x hx
    unfold Ren.add at hx
    split at hx
    · omega
    · exact hr.fresh i x hx
  · intro i x hx
    unfold Ren.add at hx
    simp only [Array.size_push]
    split at hx
    · cases hx; omega
    · have := hr.old i x hx; omega
  · intro i x hx
    by_cases e : i = b
    · subst e
      have : x = s := by simp [Ren.add] at hx; exact hx.symm
      subst this
      exact ⟨ob, hob, hB⟩
    · have hx' : ρ i = some x := by simpa [Ren.add, e] using hx
      obtain ⟨oi, h1, h2⟩ := hr.blk i x hx'
      exact ⟨oi, h1, (h2.mono hle).world (hold _ (hr.old i x hx'))⟩
  · intro i j x y hne hx hy a1 a2
    by_cases e : i = b
    · have e' : j ≠ b := fun z => hne (e.trans z.symm)
      have : x = s := by simp [Ren.add, e] at hx; exact hx.symm
      subst this
      have hy' : ρ j = some y := by simpa [Ren.add, e'] using hy
      have := hr.old j y hy'
      left; omega
    · have hx' : ρ i = some x := by simpa [Ren.add, e] using hx
      by_cases e' : j = b
      · have : y = s := by simp [Ren.add, e'] at hy; exact hy.symm
        subst this
        have := hr.old i x hx'
        left; omega
      · have hy' : ρ j = some y := by simpa [Ren.add, e'] using hy
        exact hr.apart i j x y hne hx' hy' a1 a2

/-- The machine knows of more blocks. -/
theorem MRel.grow {ρ : Ren} {m m' : DMem} {w : World} (hr : MRel ρ m w) (hsz : m.size ≤ m'.size) (hget : ∀ b, b < m.size → m'.get b = m.get b) (hwf : ∀ b, m'.size ≤ b → m'.get b = none) : MRel ρ m' w :=
  ⟨hwf, fun b s hs => Nat.lt_of_lt_of_le (hr.fresh b s hs) hsz, hr.old, fun b s hs => by
      obtain ⟨o, h1, h2⟩ := hr.blk b s hs
      exact ⟨o, by rw [hget b (hr.fresh b s hs), h1], h2⟩,
    fun b b' s s' hne h1 h2 a1 a2 => hr.apart b b' s s' hne h1 h2 ((alive_of_get (hget b (hr.fresh b s h1))).1 a1) ((known_of_get (hget b' (hr.fresh b' s' h2))).1 a2)⟩

/-- The same of what has come about since a beginning. -/
theorem Post.grow {ρ ρ' : Ren} {m m1 m' : DMem} {w w' : World} (h0 : MRel ρ m w) (h : Post ρ m w m1 ρ' w') (hsz : m1.size ≤ m'.size) (hget : ∀ b, b < m1.size → m'.get b = m1.get b) (hwf : ∀ b, m'.size ≤ b → m'.get b = none) :
    Post ρ m w m' ρ' w' := by
  have hch : ∀ b s, ρ b = some s → (Changed m m1 b ↔ Changed m m' b) := by
    intro b s hb
    have := h0.fresh b s hb
    unfold Changed
    rw [hget b (Nat.lt_of_lt_of_le this h.ext.size)]
  have hwr : ∀ B o, Wr ρ m m1 B o ↔ Wr ρ m m' B o := by
    intro B o
    constructor
    · rintro ⟨b, s, h1, h2, h3, h4, h5⟩; exact ⟨b, s, h1, h2, h3, h4, (hch b s h1).1 h5⟩
    · rintro ⟨b, s, h1, h2, h3, h4, h5⟩; exact ⟨b, s, h1, h2, h3, h4, (hch b s h1).2 h5⟩
  have hto : ∀ B, Touched ρ m m1 B ↔ Touched ρ m m' B := by
    intro B
    constructor
    · rintro ⟨b, s, h1, h2, h5⟩; exact ⟨b, s, h1, h2, (hch b s h1).1 h5⟩
    · rintro ⟨b, s, h1, h2, h5⟩; exact ⟨b, s, h1, h2, (hch b s h1).2 h5⟩
  refine ⟨h.le, h.rel.grow hsz hget hwf, ⟨Nat.le_trans h.ext.size hsz, ?_⟩, h.dom, ?_, ?_⟩
  · intro b o hb
    obtain ⟨o', h1, h2⟩ := h.ext.obj b o hb
    have hlt : b < m1.size := by
      rcases Nat.lt_or_ge b m1.size with hh | hh
      · exact hh
      · rw [h.rel.wf b hh] at h1; cases h1
    exact ⟨o', by rw [hget b hlt, h1], h2⟩
  · intro b s hb hs
    rcases h.cover b s hb hs with h1 | ⟨b0, s0, h1, h2, h3, h4, h5⟩
    · exact .inl h1
    · exact .inr ⟨b0, s0, h1, h2, h3, h4, (hch b0 s0 h1).1 h5⟩
  · refine ⟨h.kept.size, h.kept.os, h.kept.output, h.kept.tape, fun B hB hn => h.kept.same B hB (fun ht => hn ((hto B).1 ht)), ?_⟩
    intro B row e fz hB hrow
    obtain ⟨row', fz', g1, g2, g3⟩ := h.kept.cells B row e fz hB hrow
    exact ⟨row', fz', g1, g2, fun o ho => g3 o (fun hw => ho ((hwr B o).1 hw))⟩

/-- A block more in the world, since a beginning. -/
theorem Post.add {ρ ρ' : Ren} {m m' : DMem} {w w' : World} (h : Post ρ m w m' ρ' w') {b : Nat} (hb : ρ' b = none) (hlt : b < m'.size) (hnew : m.size ≤ b) {ob : DObj} (hob : m'.get b = some ob) {O : Obj} {s : Spot} {k : Nat} (hs : s.blk = w'.heap.size)
    (hB : BlkRel (ρ'.add b s) s { w' with heap := w'.heap.push O, drawn := k } ob) : Post ρ m w m' (ρ'.add b s) { w' with heap := w'.heap.push O, drawn := k } := by
  have hold : ∀ i, i < w'.heap.size → (w'.heap.push O)[i]? = w'.heap[i]? := fun i hi => by rw [push_get, if_neg (by omega)]
  refine ⟨Ren.le_trans h.le (Ren.le_add hb), h.rel.add hb hlt hob hs hB, h.ext, ?_, ?_, ?_⟩
  · intro i x hx
    by_cases e : i = b
    · right; omega
    · exact h.dom i x (by simpa [Ren.add, e] using hx)
  · intro i x hx hlt'
    by_cases e : i = b
    · have : x = s := by simp [Ren.add, e] at hx; exact hx.symm
      subst this
      have := h.kept.size
      omega
    · exact h.cover i x (by simpa [Ren.add, e] using hx) hlt'
  · have hsz := h.kept.size
    refine ⟨by simp; omega, h.kept.os, h.kept.output, h.kept.tape, ?_, ?_⟩
    · intro B hB hn
      show (w'.heap.push O)[B]? = _
      rw [hold B (by omega)]
      exact h.kept.same B hB hn
    · intro B row e fz hB hrow
      obtain ⟨row', fz', g1, g2, g3⟩ := h.kept.cells B row e fz hB hrow
      exact ⟨row', fz', by show (w'.heap.push O)[B]? = _; rw [hold B (by omega), g1], g2, g3⟩

end Go.DM
