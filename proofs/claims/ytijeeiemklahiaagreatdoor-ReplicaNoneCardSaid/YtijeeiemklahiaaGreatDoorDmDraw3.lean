/-
  A deterministic machine over Go's code: regions that draw their order are sound.
-/
import Derived.Test.YtijeeiemklahiaaGreatDoorDmDraw2
namespace Go.DM
noncomputable section

/-- Light steps alone: the blocks that were there are as they were. -/
structure Stage (m m' : DMem) : Prop where
  size : m.size ≤ m'.size
  get : ∀ b, b < m.size → m'.get b = m.get b
  wf : (∀ b, m.size ≤ b → m.get b = none) → ∀ b, m'.size ≤ b → m'.get b = none

theorem Stage.refl (m : DMem) : Stage m m := ⟨Nat.le_refl _, fun _ _ => rfl, fun h => h⟩
theorem Stage.trans {m m' m'' : DMem} (h : Stage m m') (h' : Stage m' m'') : Stage m m'' :=
  ⟨Nat.le_trans h.size h'.size, fun b hb => by rw [h'.get b (Nat.lt_of_lt_of_le hb h.size), h.get b hb], fun hw => h'.wf (h.wf hw)⟩
theorem Stage.alloc (m : DMem) (o : DObj) : Stage m (m.alloc o) :=
  ⟨by simp [DMem.alloc], fun b hb => by rw [DMem.get_alloc, if_neg (by omega)], fun hw b hb => by
    simp only [DMem.alloc] at hb
    rw [DMem.get_alloc, if_neg (by omega)]; exact hw b (by omega)⟩
theorem Stage.ext {m m' : DMem} (h : Stage m m') (hw : ∀ b, m.size ≤ b → m.get b = none) : Ext m m' :=
  ⟨h.size, fun b o ho => by
    have hb : b < m.size := by
      rcases Nat.lt_or_ge b m.size with hh | hh
      · exact hh
      · rw [hw b hh] at ho; cases ho
    exact ⟨o, by rw [h.get b hb, ho], .inl rfl⟩⟩

theorem light_stage {c : Ctx} {call : Callee} {ops : Array Oper} {o : Oper} {s s' : DSt} {at_ : Option Nat} (h : dstep c call ops o s = some (s', at_)) (hl : isHeavy o.op = false) : Stage s.m s'.m := by
  rcases light_step h hl with ⟨_, rfl, _⟩ | ⟨_, v, _, ⟨_, e, _⟩ | ⟨b, _, e, _⟩ | ⟨ob, _, e, _⟩⟩
  · exact Stage.refl _
  · rw [e]; exact Stage.refl _
  · rw [e]; exact Stage.refl _
  · rw [e]; exact Stage.alloc _ _

/-- What a step puts. -/
def stepVal (c : Ctx) (call : Callee) (ops : Array Oper) (o : Oper) (s : DSt) : DVal :=
  match dwanted ops s.fr o with
  | false => dundef
  | true => match dexec c call (dev c.glob s.fr) s.m o.op with
    | some r => r.v
    | none => dundef

theorem dstep_val {c : Ctx} {call : Callee} {ops : Array Oper} {o : Oper} {s s' : DSt} {at_ : Option Nat} (h : dstep c call ops o s = some (s', at_)) : s'.fr = dput s.fr o.dst (stepVal c call ops o s) := by
  rw [dstep_eq] at h
  unfold stepVal
  split at h
  · rename_i hw; cases h; simp only [hw]
  · rename_i hw
    split at h
    · rename_i r hr; cases h; simp only [hw, hr]
    · cases h

/-- The data of a run over an order. -/
structure Run (c : Ctx) (call : Callee) (ops : Array Oper) (ord : List Nat) (clo : T Nat) (st : Nat → DSt) (at_ : Nat → Option Nat) (dst : Nat → Option Nat) (val : Nat → DVal) : Prop where
  od : Ord ops ord clo
  tr : ∀ (k i : Nat), ord[k]? = some i → ∃ o, TrStep c call ops clo ord st at_ [] k i o
  dst : ∀ (k i : Nat) (o : Oper), ord[k]? = some i → ops[i]? = some o → dst k = o.dst
  fr : ∀ (k i : Nat) (o : Oper), ord[k]? = some i → ops[i]? = some o → (st (k + 1)).fr = dput (st k).fr o.dst (val k)
  val : ∀ (k i : Nat) (o : Oper), ord[k]? = some i → ops[i]? = some o → val k = stepVal c call ops o (st k)

section run
variable {c : Ctx} {call : Callee} {ops : Array Oper} {ord : List Nat} {clo : T Nat} {st : Nat → DSt} {at_ : Nat → Option Nat} {dst : Nat → Option Nat} {val : Nat → DVal}

theorem Run.at_lt (R : Run c call ops ord clo st at_ dst val) {k : Nat} (h : k < ops.size) : ∃ i o, ord[k]? = some i ∧ ops[i]? = some o ∧ TrStep c call ops clo ord st at_ [] k i o := by
  have hk : k < ord.length := by rw [R.od.len]; exact h
  obtain ⟨o, t⟩ := R.tr k ord[k] (List.getElem?_eq_getElem hk)
  exact ⟨ord[k], o, List.getElem?_eq_getElem hk, t.op, t⟩

theorem Run.fr_eq (R : Run c call ops ord clo st at_ dst val) : ∀ k, k ≤ ops.size → (st k).fr = frOf dst val (st 0).fr (fun _ => true) k
  | 0, _ => rfl
  | k + 1, h => by
    obtain ⟨i, o, h1, h2, t⟩ := R.at_lt (k := k) (by omega)
    rw [R.fr k i o h1 h2, Run.fr_eq R k (by omega)]
    simp [frOf, R.dst k i o h1 h2]

/-- From a place on, the next heavy one. -/
theorem Run.next_heavy (R : Run c call ops ord clo st at_ dst val) : ∀ (d k : Nat), k + d = ops.size → ∃ q, k ≤ q ∧ q ≤ ops.size ∧ (∀ j i o, k ≤ j → j < q → ord[j]? = some i → ops[i]? = some o → isHeavy o.op = false) ∧
    (q < ops.size → ∃ i o, ord[q]? = some i ∧ ops[i]? = some o ∧ isHeavy o.op = true)
  | 0, k, h => ⟨k, Nat.le_refl _, by omega, fun _ _ _ _ _ => by omega, fun hh => by omega⟩
  | d + 1, k, h => by
    obtain ⟨i, o, h1, h2, t⟩ := R.at_lt (k := k) (by omega)
    cases hh : isHeavy o.op with
    | true => exact ⟨k, Nat.le_refl _, by omega, fun _ _ _ _ _ => by omega, fun _ => ⟨i, o, h1, h2, hh⟩⟩
    | false =>
      obtain ⟨q, q1, q2, q3, q4⟩ := Run.next_heavy R d (k + 1) (by omega)
      refine ⟨q, by omega, q2, ?_, q4⟩
      intro j i' o' hj hjq hi ho
      by_cases e : j = k
      · subst e
        rw [h1] at hi; cases hi
        rw [h2] at ho; cases ho
        exact hh
      · exact q3 j i' o' (by omega) hjq hi ho

theorem Run.stage (R : Run c call ops ord clo st at_ dst val) : ∀ (d k : Nat), k + d ≤ ops.size → (∀ j i o, k ≤ j → j < k + d → ord[j]? = some i → ops[i]? = some o → isHeavy o.op = false) → Stage (st k).m (st (k + d)).m
  | 0, k, _, _ => Stage.refl _
  | d + 1, k, h, hl => by
    have ih := Run.stage R d k (by omega) (fun j i o h1 h2 => hl j i o h1 (by omega))
    obtain ⟨i, o, h1, h2, t⟩ := R.at_lt (k := k + d) (by omega)
    exact ih.trans (light_stage t.step (hl (k + d) i o (by omega) (by omega) h1 h2))
end run

/-- What holds when some operations have been done. -/
structure Inv (c : Ctx) (ops : Array Oper) (ord : List Nat) (st : Nat → DSt) (at_ : Nat → Option Nat) (dst : Nat → Option Nat) (val : Nat → DVal) (ρ0 : Ren) (m0 : DMem) (w0 : World) (listed : Array Bool) (a : Act) (w : World) (q : Nat) (ρ : Ren) : Prop where
  size : listed.size = ops.size
  closed : ∀ i o, listed.getD i false = true → ops[i]? = some o → ∀ p ∈ predsOf o, listed.getD p false = true
  qn : q ≤ ops.size
  front : ∀ k i o, ord[k]? = some i → ops[i]? = some o → k < q → isHeavy o.op = true → listed.getD i false = true
  behind : ∀ k i, ord[k]? = some i → q ≤ k → listed.getD i false = false
  next : q < ops.size → ∃ i o, ord[q]? = some i ∧ ops[i]? = some o ∧ isHeavy o.op = true
  post : Post ρ0 m0 w0 (st q).m ρ w
  ext : ∀ k, k < q → Ext (st k).m (st (k + 1)).m
  wf : ∀ k, k ≤ q → ∀ b, (st k).m.size ≤ b → (st k).m.get b = none
  free : ∀ k i, k < q → ord[k]? = some i → listed.getD i false = false → (st k).m.size < (st (k + 1)).m.size → ρ (st k).m.size = none
  fr : FrRel ρ (frOf dst val (st 0).fr (fun k => match ord[k]? with | some i => listed.getD i false | none => false) ops.size) a.tmps
  defers : a.defers = []
  glob : GOk c ρ

theorem getD_set (l : Array Bool) (i j : Nat) (hi : i < l.size) : (l.setIfInBounds i true).getD j false = if j = i then true else l.getD j false := by
  rw [Array.getD_eq_getD_getElem?, Array.getD_eq_getD_getElem?]
  by_cases h : i = j
  · subst h; simp [hi]
  · rw [Array.getElem?_setIfInBounds_ne h, if_neg (Ne.symm h)]

theorem ready_iff {ops : Array Oper} {listed : Array Bool} (hs : listed.size = ops.size) {i : Nat} : i ∈ Region.ready .any ops listed ↔ listed.getD i false = false ∧ ∃ o, ops[i]? = some o ∧ ∀ p ∈ predsOf o, listed.getD p false = true := by
  rw [mem_ready]
  constructor
  · rintro ⟨h1, o, ho, h2⟩
    have hi : i < listed.size := by rw [hs]; exact (Array.getElem?_eq_some_iff.1 ho).1
    refine ⟨?_, o, ho, ?_⟩
    · rw [Array.getD_eq_getD_getElem?, Array.getElem?_eq_getElem hi] at h1 ⊢; exact h1
    · intro p hp
      simp only [predsOf, List.mem_map, List.mem_filter, Array.mem_toList_iff] at hp
      obtain ⟨e, ⟨he, hb⟩, rfl⟩ := hp
      exact h2 e he hb
  · rintro ⟨h1, o, ho, h2⟩
    have hi : i < listed.size := by rw [hs]; exact (Array.getElem?_eq_some_iff.1 ho).1
    refine ⟨?_, o, ho, ?_⟩
    · rw [Array.getD_eq_getD_getElem?, Array.getElem?_eq_getElem hi] at h1 ⊢; exact h1
    · intro e he hb
      refine h2 _ ?_
      simp only [predsOf, List.mem_map, List.mem_filter, Array.mem_toList_iff]
      exact ⟨e, ⟨he, hb⟩, rfl⟩

section inv
variable {c : Ctx} {call : Callee} {ops : Array Oper} {ord : List Nat} {clo : T Nat} {st : Nat → DSt} {at_ : Nat → Option Nat} {dst : Nat → Option Nat} {val : Nat → DVal}
  {ρ0 : Ren} {m0 : DMem} {w0 : World} {listed : Array Bool} {a : Act} {w : World} {q : Nat} {ρ : Ren}

/-- At a ready operation's names the slots are as the machine had them. -/
theorem Inv.at_names (R : Run c call ops ord clo st at_ dst val) (I : Inv c ops ord st at_ dst val ρ0 m0 w0 listed a w q ρ) {k i : Nat} {o : Oper} (hk : ord[k]? = some i) (ho : ops[i]? = some o) (hun : listed.getD i false = false) (hp : ∀ p ∈ predsOf o, listed.getD p false = true) :
    ∀ t ∈ namesOf ops o, TRel ρ (st k).fr a.tmps t := by
  intro t ht
  have hkn : k < ops.size := by rw [← R.od.len]; exact (List.getElem?_eq_some_iff.1 hk).1
  have hag : (frOf dst val (st 0).fr (fun k => match ord[k]? with | some i => listed.getD i false | none => false) ops.size).get? t = (st k).fr.get? t := by
    rw [R.fr_eq k (by omega), ← frOf_upto dst val (st 0).fr k ops.size (by omega)]
    refine frOf_agree dst val _ _ _ t ops.size ?_
    intro j hj hd
    obtain ⟨i', o', h1, h2, _⟩ := R.at_lt hj
    rw [R.dst j i' o' h1 h2] at hd
    simp only [h1]
    by_cases e : i' = i
    · subst e
      have : j = k := R.od.uniq h1 hk
      subst this
      rw [hun]; simp
    · rcases R.od.names i i' o o' t ho h2 e hd ht with hb | hb
      · have h3 := R.od.before_listed I.closed hk ho hp hb
        obtain ⟨k', h4, h5⟩ := R.od.before_pos hk hb
        have : j = k' := R.od.uniq h1 h5
        subst this
        rw [h3]; simp [h4]
      · obtain ⟨k', h4, h5⟩ := R.od.before_pos h1 hb
        have : k = k' := R.od.uniq hk h5
        subst this
        have h3 : listed.getD i' false = false := by
          cases h6 : listed.getD i' false with
          | false => rfl
          | true =>
            have := R.od.before_listed I.closed h1 h2 (I.closed i' o' h6 h2) hb
            rw [hun] at this; cases this
        rw [h3]; simp; omega
  have := I.fr t
  unfold TRel at this ⊢
  rw [hag] at this
  exact this

/-- The slots behind one operation more. -/
theorem Inv.fr_next (R : Run c call ops ord clo st at_ dst val) (I : Inv c ops ord st at_ dst val ρ0 m0 w0 listed a w q ρ) {k i : Nat} {o : Oper} (hk : ord[k]? = some i) (ho : ops[i]? = some o) (hun : listed.getD i false = false) (hp : ∀ p ∈ predsOf o, listed.getD p false = true)
    {ρ' : Ren} (hle : ρ.le ρ') {V : Value} (hV : VRel ρ' (val k) V) :
    FrRel ρ' (frOf dst val (st 0).fr (fun k => match ord[k]? with | some i' => (listed.setIfInBounds i true).getD i' false | none => false) ops.size) (a.put o.dst V).tmps := by
  have hkn : k < ops.size := by rw [← R.od.len]; exact (List.getElem?_eq_some_iff.1 hk).1
  have hi : i < listed.size := by rw [I.size]; exact (Array.getElem?_eq_some_iff.1 ho).1
  have heq : ∀ t, (frOf dst val (st 0).fr (fun k => match ord[k]? with | some i' => (listed.setIfInBounds i true).getD i' false | none => false) ops.size).get? t =
      (dput (frOf dst val (st 0).fr (fun k => match ord[k]? with | some i => listed.getD i false | none => false) ops.size) o.dst (val k)).get? t := by
    intro t
    rw [dput_get, frOf_n]
    by_cases hd : o.dst = some t
    · rw [if_pos hd]
      have h1 : (frOf dst val (st 0).fr (fun k => match ord[k]? with | some i' => (listed.setIfInBounds i true).getD i' false | none => false) ops.size).get? t = (st (k + 1)).fr.get? t := by
        rw [R.fr_eq (k + 1) (by omega), ← frOf_upto dst val (st 0).fr (k + 1) ops.size (by omega)]
        refine frOf_agree dst val _ _ _ t ops.size ?_
        intro j hj hdj
        obtain ⟨i', o', h1, h2, _⟩ := R.at_lt hj
        rw [R.dst j i' o' h1 h2] at hdj
        simp only [h1, getD_set _ _ _ hi]
        by_cases e : i' = i
        · subst e
          have : j = k := R.od.uniq h1 hk
          subst this
          simp
        · rw [if_neg e]
          have ht : t ∈ namesOf ops o := by simp [namesOf, hd]
          rcases R.od.names i i' o o' t ho h2 e hdj ht with hb | hb
          · have h3 := R.od.before_listed I.closed hk ho hp hb
            obtain ⟨k', h4, h5⟩ := R.od.before_pos hk hb
            have : j = k' := R.od.uniq h1 h5
            subst this
            rw [h3]; simp; omega
          · obtain ⟨k', h4, h5⟩ := R.od.before_pos h1 hb
            have : k = k' := R.od.uniq hk h5
            subst this
            have h3 : listed.getD i' false = false := by
              cases h6 : listed.getD i' false with
              | false => rfl
              | true =>
                have := R.od.before_listed I.closed h1 h2 (I.closed i' o' h6 h2) hb
                rw [hun] at this; cases this
            rw [h3]; simp; omega
      rw [h1, R.fr k i o hk ho, dput_get, if_pos hd, R.fr_eq k (by omega), frOf_n]
    · rw [if_neg hd]
      refine frOf_agree dst val _ _ _ t ops.size ?_
      intro j hj hdj
      obtain ⟨i', o', h1, h2, _⟩ := R.at_lt hj
      rw [R.dst j i' o' h1 h2] at hdj
      simp only [h1, getD_set _ _ _ hi]
      by_cases e : i' = i
      · subst e
        rw [ho] at h2; cases h2
        exact absurd hdj hd
      · rw [if_neg e]
  intro t
  have := put_fr (I.fr.mono hle) o.dst hV t
  unfold TRel at this ⊢
  rw [heq t]
  exact this

/-- A block at which a light operation looked, or which it made, is as it was. -/
theorem Inv.same_block (R : Run c call ops ord clo st at_ dst val) (I : Inv c ops ord st at_ dst val ρ0 m0 w0 listed a w q ρ) {k i : Nat} {o : Oper} (hk : ord[k]? = some i) (ho : ops[i]? = some o) (hun : listed.getD i false = false) (hl : isHeavy o.op = false) (hkq : k < q) {b : Nat} (hb : at_ k = some b) :
    (st q).m.get b = (st (k + 1)).m.get b := by
  obtain ⟨o', t⟩ := R.tr k i hk
  have : o' = o := by have := t.op; rw [ho] at this; cases this; rfl
  subst this
  obtain ⟨v, hv⟩ := t.light hl b hb
  have key : ∀ d, k + 1 + d ≤ q → (st (k + 1 + d)).m.get b = (st (k + 1)).m.get b := by
    intro d
    induction d with
    | zero => intro _; rfl
    | succ d ih =>
      intro hd
      have ih := ih (by omega)
      obtain ⟨o1, ho1⟩ : ∃ o1, (st (k + 1)).m.get b = some o1 := by
        unfold DMem.ver at hv
        split at hv
        · exact ⟨_, by assumption⟩
        · exact ⟨_, by assumption⟩
        · exact ⟨_, by assumption⟩
        · cases hv
      obtain ⟨i2, o2, h1, h2, t2⟩ := R.at_lt (k := k + 1 + d) (by have := I.qn; omega)
      cases hh : isHeavy o2.op with
      | false =>
        have hs := light_stage t2.step hh
        have hlt : b < (st (k + 1 + d)).m.size := by
          rcases Nat.lt_or_ge b (st (k + 1 + d)).m.size with x | x
          · exact x
          · have := I.wf (k + 1 + d) (by omega) b x
            rw [ih, ho1] at this; cases this
        have := hs.get b hlt
        rw [show k + 1 + (d + 1) = k + 1 + d + 1 by omega, this, ih]
      | true =>
        have hlisted := I.front (k + 1 + d) i2 o2 h1 h2 (by omega) hh
        rcases (t2.heavy hh).2 k i o' b (by omega) hk ho hl hb with hbf | hver
        · have hbf' : before clo i i2 = true := hbf
          have := R.od.before_listed I.closed h1 h2 (I.closed i2 o2 hlisted h2) hbf'
          rw [hun] at this; cases this
        · rw [hv] at hver
          obtain ⟨o3, g1, g2⟩ := (I.ext (k + 1 + d) (by omega)).obj b o1 (by rw [ih, ho1])
          rw [show k + 1 + (d + 1) = k + 1 + d + 1 by omega, g1, ho1]
          rcases g2 with rfl | g2
          · rfl
          · exfalso
            unfold DMem.ver at hv hver
            rw [ho1] at hv
            rw [g1] at hver
            cases o1 <;> cases o3 <;> simp [later] at * <;> omega
  have := key (q - (k + 1)) (by omega)
  rwa [show k + 1 + (q - (k + 1)) = q by omega] at this

end inv
end
end Go.DM
