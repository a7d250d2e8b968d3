/-
  A deterministic machine over Go's code: regions that draw their order are sound; so are all calls.
-/
import Derived.Test.YtijeeiemklahiaaGreatDoorDmDraw3
namespace Go.DM

theorem names_operand {ops : Array Oper} {o : Oper} {t : Nat} (h : Operand.tmp t ∈ o.op.operands.toList) : t ∈ namesOf ops o := by
  unfold namesOf
  simp only [List.mem_append, List.mem_filterMap]
  exact .inl (.inr ⟨.tmp t, h, rfl⟩)

theorem names_guard {ops : Array Oper} {o : Oper} {g t : Nat} {w : Bool} (h : o.guard = some (g, w)) (ht : ((ops[g]?).bind (·.dst)) = some t) : t ∈ namesOf ops o := by
  unfold namesOf
  simp only [List.mem_append]
  right
  rw [h]
  simp [ht]

theorem countP_lt {α : Type} {p p' : α → Bool} (hsub : ∀ x, p' x = true → p x = true) {i : α} (h1 : p i = true) (h2 : p' i = false) : ∀ l : List α, i ∈ l → l.countP p' < l.countP p
  | [], h => by simp at h
  | x :: l, h => by
    have hle : l.countP p' ≤ l.countP p := List.countP_mono_left (fun x _ hx => hsub x hx)
    simp only [List.mem_cons] at h
    rw [List.countP_cons, List.countP_cons]
    rcases h with rfl | h
    · rw [h1, h2]; simp; omega
    · have ih := countP_lt hsub h1 h2 l h
      by_cases hx : p' x = true
      · rw [hx, hsub x hx]; simp; omega
      · have : p' x = false := by simpa using hx
        rw [this]; simp; split <;> omega

section
variable {c : Ctx} {call : Callee} {ops : Array Oper} {ord : List Nat} {clo : T Nat} {st : Nat → DSt} {at_ : Nat → Option Nat} {dst : Nat → Option Nat} {val : Nat → DVal}
  {ρ0 : Ren} {w0 : World} {Q : Exit → Act → World → Prop}

/-- One operation, whichever is ready. -/
theorem draw_step (ok : CtxOk c) (hcall : CallSound c call) (R : Run c call ops ord clo st at_ dst val) (h0 : MRel ρ0 (st 0).m w0) {listed : Array Bool} {a : Act} {w : World} {q : Nat} {ρ : Ren} (I : Inv c ops ord st at_ dst val ρ0 (st 0).m w0 listed a w q ρ) {i : Nat} (hi : i ∈ Region.ready .any ops listed)
    {K : Act → World → Prop} (hK : ∀ a' w' q' ρ', Inv c ops ord st at_ dst val ρ0 (st 0).m w0 (listed.setIfInBounds i true) a' w' q' ρ' → K a' w') : wpOp c.P ops Q i K a w := by
  obtain ⟨hun, o, ho, hp⟩ := (ready_iff I.size).1 hi
  have hin : i < ops.size := (Array.getElem?_eq_some_iff.1 ho).1
  have hil : i < listed.size := by rw [I.size]; exact hin
  obtain ⟨k, hkn, hk⟩ := R.od.at_pos hin
  obtain ⟨o', t⟩ := R.tr k i hk
  have hoo : o' = o := by have := t.op; rw [ho] at this; cases this; rfl
  subst hoo
  have hnames := I.at_names R hk ho hun hp
  have hval := R.val k i o' hk ho
  have hwant : dwanted ops (st k).fr o' = Region.wanted o' (yielded ops a.tmps) := dwanted_eq fun g w t hg ht => hnames t (names_guard hg ht)
  have hER : ERel ρ (dev c.glob (st k).fr) a.eval o'.op.operands.toList := dev_rel I.glob fun t ht => hnames t (names_operand ht)
  have hclosed' : ∀ i1 o1, (listed.setIfInBounds i true).getD i1 false = true → ops[i1]? = some o1 → ∀ p ∈ predsOf o1, (listed.setIfInBounds i true).getD p false = true := by
    intro i1 o1 h1 h2 p hpp
    rw [getD_set _ _ _ hil] at h1 ⊢
    by_cases e : i1 = i
    · subst e
      rw [ho] at h2; cases h2
      split
      · rfl
      · exact hp p hpp
    · rw [if_neg e] at h1
      split
      · rfl
      · exact I.closed i1 o1 h1 h2 p hpp
  have hnotq : ∀ iq, q < k → ord[q]? = some iq → (∀ oq, ops[iq]? = some oq → isHeavy oq.op = true) → False := by
    intro iq hlt hiq hheavy
    have hmem : iq ∈ ord.take k := List.mem_of_getElem? (by rw [List.getElem?_take, if_pos hlt]; exact hiq)
    obtain ⟨oq, hoq⟩ := R.od.op q iq hiq
    have hb := R.od.early k i hk iq hmem oq hoq (hheavy oq hoq)
    have := R.od.before_listed I.closed hk ho hp hb
    rw [I.behind q iq hiq (Nat.le_refl _)] at this; cases this
  have hmono : ∀ d j, j + d ≤ q → (st j).m.size ≤ (st (j + d)).m.size := by
    intro d
    induction d with
    | zero => intro j _; exact Nat.le_refl _
    | succ d ih =>
      intro j hj
      exact Nat.le_trans (ih j (by omega)) (I.ext (j + d) (by omega)).size
  have hmono' : ∀ j j', j ≤ j' → j' ≤ q → (st j).m.size ≤ (st j').m.size := by
    intro j j' h1 h2
    have := hmono (j' - j) j (by omega)
    rwa [show j + (j' - j) = j' by omega] at this
  cases hheavy : isHeavy o'.op with
  | true =>
    -- the next heavy one
    have hkq : k = q := by
      rcases Nat.lt_trichotomy k q with h1 | h1 | h1
      · have := I.front k i o' hk ho h1 hheavy
        rw [hun] at this; cases this
      · exact h1
      · exfalso
        obtain ⟨iq, oq, g1, g2, g3⟩ := I.next (by omega)
        exact hnotq iq h1 g1 (fun o2 h2 => by rw [g2] at h2; cases h2; exact g3)
    subst hkq
    obtain ⟨q', q1, q2, q3, q4⟩ := R.next_heavy (ops.size - (k + 1)) (k + 1) (by omega)
    have hstage := R.stage (q' - (k + 1)) (k + 1) (by omega) (fun j i o h1 h2 => q3 j i o h1 (by omega))
    rw [show k + 1 + (q' - (k + 1)) = q' by omega] at hstage
    have fin : ∀ V ρ' w', VRel ρ' (val k) V → Post ρ (st k).m w (st (k + 1)).m ρ' w' → K (a.put o'.dst V) w' := by
      intro V ρ' w' hV hpost
      have hp1 := Post.trans h0 I.post hpost
      have hwf' : ∀ b, (st q').m.size ≤ b → (st q').m.get b = none := hstage.wf hpost.rel.wf
      refine hK _ _ q' ρ' ⟨by simp [I.size], hclosed', q2, ?_, ?_, q4, Post.grow h0 hp1 hstage.size hstage.get hwf', ?_, ?_, ?_, I.fr_next R hk ho hun hp hpost.le hV, by rw [put_defers]; exact I.defers, I.glob.mono hpost.le⟩
      · intro k1 i1 o1 h1 h2 h3 h4
        rw [getD_set _ _ _ hil]
        split
        · rfl
        · rename_i hne
          rcases Nat.lt_trichotomy k1 k with h5 | h5 | h5
          · exact I.front k1 i1 o1 h1 h2 h5 h4
          · subst h5; rw [hk] at h1; cases h1; exact absurd rfl hne
          · have := q3 k1 i1 o1 (by omega) h3 h1 h2
            rw [h4] at this; cases this
      · intro k1 i1 h1 h2
        rw [getD_set _ _ _ hil]
        have hne : i1 ≠ i := fun e => by
          subst e
          have := R.od.uniq h1 hk
          omega
        rw [if_neg hne]
        exact I.behind k1 i1 h1 (by omega)
      · intro j hj
        rcases Nat.lt_trichotomy j k with h5 | h5 | h5
        · exact I.ext j h5
        · subst h5; exact hpost.ext
        · have hs1 := R.stage (j - (k + 1)) (k + 1) (by omega) (fun j' i o h1 h2 => q3 j' i o h1 (by omega))
          rw [show k + 1 + (j - (k + 1)) = j by omega] at hs1
          obtain ⟨ij, oj, g1, g2, g3⟩ := R.at_lt (k := j) (by omega)
          exact (light_stage g3.step (q3 j ij oj (by omega) hj g1 g2)).ext (hs1.wf hpost.rel.wf)
      · intro j hj
        rcases Nat.lt_or_ge k j with h5 | h5
        · have hs1 := R.stage (j - (k + 1)) (k + 1) (by omega) (fun j' i o h1 h2 => q3 j' i o h1 (by omega))
          rw [show k + 1 + (j - (k + 1)) = j by omega] at hs1
          exact hs1.wf hpost.rel.wf
        · exact I.wf j h5
      · intro k1 i1 h1 h2 h3 h4
        rw [getD_set _ _ _ hil] at h3
        have hne : i1 ≠ i := fun e => by subst e; simp at h3
        rw [if_neg hne] at h3
        rcases Nat.lt_trichotomy k1 k with h5 | h5 | h5
        · have := I.free k1 i1 h5 h2 h3 h4
          cases hx : ρ' (st k1).m.size with
          | none => rfl
          | some s =>
            rcases hpost.dom _ s hx with h6 | h6
            · rw [this] at h6; cases h6
            · have := hmono' (k1 + 1) k (by omega) (Nat.le_refl _)
              omega
        · subst h5; rw [hk] at h2; cases h2; exact absurd rfl hne
        · cases hx : ρ' (st k1).m.size with
          | none => rfl
          | some s =>
            have h6 := hpost.rel.fresh _ s hx
            have hs1 := R.stage (k1 - (k + 1)) (k + 1) (by omega) (fun j' i o h1 h2 => q3 j' i o h1 (by omega))
            rw [show k + 1 + (k1 - (k + 1)) = k1 by omega] at hs1
            have := hs1.size
            omega
    unfold wpOp
    simp only [ho]
    have hstep := t.step
    rw [dstep_eq] at hstep
    unfold stepVal at hval
    split at hstep
    · rename_i hw
      rw [← hwant, hw]
      simp only [Bool.false_eq_true, if_false]
      rw [hw] at hval
      simp only [Option.some.injEq, Prod.mk.injEq] at hstep
      have hm : (st (k + 1)).m = (st k).m := by rw [← hstep.1]
      refine fin undef ρ w (by rw [hval]; exact undef_rel ρ) ?_
      rw [hm]; exact Post.refl I.post.rel
    · rename_i hw
      rw [← hwant, hw]
      simp only [if_true]
      rw [hw] at hval
      split at hstep
      · rename_i r hr
        simp only [hr] at hval
        simp only [Option.some.injEq, Prod.mk.injEq] at hstep
        have hm : (st (k + 1)).m = r.m := by rw [← hstep.1]
        refine .inl (dexec_sound ok hcall I.post.rel I.glob hr hER _ _ ?_)
        intro V ρ' w' hV hpp
        exact fin V ρ' w' (by rw [hval]; exact hV) (by rw [hm]; exact hpp)
      · cases hstep
  | false =>
    have hkq : k < q := by
      rcases Nat.lt_trichotomy k q with h1 | h1 | h1
      · exact h1
      · exfalso
        obtain ⟨iq, oq, g1, g2, g3⟩ := I.next (by omega)
        rw [← h1] at g1
        rw [hk] at g1; cases g1
        rw [ho] at g2; cases g2
        rw [hheavy] at g3; cases g3
      · exfalso
        obtain ⟨iq, oq, g1, g2, g3⟩ := I.next (by omega)
        exact hnotq iq h1 g1 (fun o2 h2 => by rw [g2] at h2; cases h2; exact g3)
    have fin : ∀ V ρ' w', ρ.le ρ' → VRel ρ' (val k) V → Post ρ0 (st 0).m w0 (st q).m ρ' w' → (∀ b, ρ b = none → b ≠ (st k).m.size → ρ' b = none) → ((st (k + 1)).m.size = (st k).m.size → ρ' = ρ) → K (a.put o'.dst V) w' := by
      intro V ρ' w' hle hV hpost hfree hsame
      refine hK _ _ q ρ' ⟨by simp [I.size], hclosed', I.qn, ?_, ?_, I.next, hpost, I.ext, I.wf, ?_, I.fr_next R hk ho hun hp hle hV, by rw [put_defers]; exact I.defers, I.glob.mono hle⟩
      · intro k1 i1 o1 h1 h2 h3 h4
        rw [getD_set _ _ _ hil]
        split
        · rfl
        · exact I.front k1 i1 o1 h1 h2 h3 h4
      · intro k1 i1 h1 h2
        rw [getD_set _ _ _ hil]
        have hne : i1 ≠ i := fun e => by
          subst e
          have := R.od.uniq h1 hk
          omega
        rw [if_neg hne]
        exact I.behind k1 i1 h1 h2
      · intro k1 i1 h1 h2 h3 h4
        rw [getD_set _ _ _ hil] at h3
        have hne : i1 ≠ i := fun e => by subst e; simp at h3
        rw [if_neg hne] at h3
        have hn := I.free k1 i1 h1 h2 h3 h4
        by_cases hgrow : (st (k + 1)).m.size = (st k).m.size
        · rw [hsame hgrow]; exact hn
        · refine hfree _ hn ?_
          rcases Nat.lt_trichotomy k1 k with h5 | h5 | h5
          · have := hmono' (k1 + 1) k (by omega) (by omega); omega
          · subst h5; rw [hk] at h2; cases h2; exact absurd rfl hne
          · have h6 := hmono' (k + 1) k1 (by omega) (by omega)
            have := (light_stage t.step hheavy).size
            omega
    unfold wpOp
    simp only [ho]
    unfold stepVal at hval
    rcases light_step t.step hheavy with ⟨hw, hs, _⟩ | ⟨hw, v, hfr, hcase⟩
    · rw [← hwant, hw]
      simp only [Bool.false_eq_true, if_false]
      rw [hw] at hval
      exact fin undef ρ w (Ren.le_refl _) (by rw [hval]; exact undef_rel ρ) I.post (fun b hb _ => hb) (fun _ => rfl)
    · rw [← hwant, hw]
      simp only [if_true]
      rw [hw] at hval
      rcases hcase with ⟨hd, hm, _⟩ | ⟨b, hd, hm, hb⟩ | ⟨ob, hd, hm, hb⟩
      · obtain ⟨V, g1, g2⟩ := dpure_sound ok w hd hER
        have hv : val k = v := by rw [hval]; simp only [dexec, hd]
        refine .inl ?_
        simp only [Oper.wp, g1, Oper.upon]
        exact fin V ρ w (Ren.le_refl _) (by rw [hv]; exact g2) I.post (fun b hb _ => hb) (fun _ => rfl)
      · have hsb := I.same_block R hk ho hun hheavy hkq hb
        rw [hm] at hsb
        have hd' := dread_congr hd hsb
        obtain ⟨V, g1, g2⟩ := dread_sound ok I.post.rel hd' hER
        have hv : val k = v := by
          rw [hval]
          have hnp : dpure c (dev c.glob (st k).fr) o'.op = none := by
            have hstep := t.step
            cases hpu : dpure c (dev c.glob (st k).fr) o'.op with
            | none => rfl
            | some v' =>
              rw [dstep_eq] at hstep
              rw [hw] at hstep
              simp only [dexec, hpu] at hstep
              simp only [Option.some.injEq, Prod.mk.injEq] at hstep
              rw [hb] at hstep; cases hstep.2
          simp only [dexec, hnp, hd]
        refine .inl ?_
        simp only [Oper.wp, g1, Oper.upon]
        exact fin V ρ w (Ren.le_refl _) (by rw [hv]; exact g2) I.post (fun b hb _ => hb) (fun _ => rfl)
      · have hsb := I.same_block R hk ho hun hheavy hkq hb
        have hob : (st q).m.get (st k).m.size = some ob := by rw [hsb, hm, DMem.get_alloc, if_pos rfl]
        have hsz : (st (k + 1)).m.size = (st k).m.size + 1 := by rw [hm]; rfl
        have hn : ρ (st k).m.size = none := I.free k i hkq hk hun (by omega)
        have hA := dalloc_sound ok (ρ := ρ) w hd hER hn
        obtain ⟨V, O, sp, kk, g1, g2, g3, g4⟩ := hA.to
        have hv : val k = v := by
          rw [hval]
          have hstep := t.step
          rw [dstep_eq] at hstep
          rw [hw] at hstep
          have hnp : dpure c (dev c.glob (st k).fr) o'.op = none := by
            cases hpu : dpure c (dev c.glob (st k).fr) o'.op with
            | none => rfl
            | some v' =>
              simp only [dexec, hpu] at hstep
              simp only [Option.some.injEq, Prod.mk.injEq] at hstep
              rw [hb] at hstep; cases hstep.2
          have hnr : dread c (dev c.glob (st k).fr) (st k).m o'.op = none := by
            cases hpu : dread c (dev c.glob (st k).fr) (st k).m o'.op with
            | none => rfl
            | some r =>
              obtain ⟨v', b'⟩ := r
              simp only [dexec, hnp, hpu] at hstep
              simp only [Option.some.injEq, Prod.mk.injEq] at hstep
              have := hstep.1
              rw [← this] at hsz
              simp at hsz
          simp only [dexec, hnp, hnr, hd]
        refine .inl ?_
        simp only [Oper.wp, g1, Oper.upon]
        have hlt : (st k).m.size < (st q).m.size := by
          have := hmono' (k + 1) q (by omega) (Nat.le_refl _); omega
        refine fin V _ _ (Ren.le_add hn) (by rw [hv]; exact g3) (Post.add I.post hn hlt (hmono' 0 k (by omega) (by omega)) hob g2 g4) ?_ (fun h => by omega)
        intro b hb1 hb2
        simp [Ren.add, hb2, hb1]

theorem any_sound (ok : CtxOk c) (hcall : CallSound c call) (R : Run c call ops ord clo st at_ dst val) (h0 : MRel ρ0 (st 0).m w0) (hQ : ∀ ρ a w, StRel ρ (st ops.size) a w → Post ρ0 (st 0).m w0 (st ops.size).m ρ w → Q .normal a w) :
    ∀ (fuel : Nat) (listed : Array Bool) (a : Act) (w : World) (q : Nat) (ρ : Ren), Inv c ops ord st at_ dst val ρ0 (st 0).m w0 listed a w q ρ → (List.range ops.size).countP (fun i => !listed.getD i false) ≤ fuel →
      wpAny c.P .any ops Q fuel listed a w := by
  have done : ∀ (listed : Array Bool) (a : Act) (w : World) (q : Nat) (ρ : Ren), Inv c ops ord st at_ dst val ρ0 (st 0).m w0 listed a w q ρ → Region.ready .any ops listed = [] → Q .normal a w := by
    intro listed a w q ρ I hr
    have hall : ∀ (k i : Nat), ord[k]? = some i → listed.getD i false = true := by
      intro k
      induction k using Nat.strongRecOn with
      | _ k ih =>
        intro i hk
        cases hl : listed.getD i false with
        | true => rfl
        | false =>
          obtain ⟨o, ho⟩ := R.od.op k i hk
          have : i ∈ Region.ready .any ops listed := by
            rw [ready_iff I.size]
            refine ⟨hl, o, ho, ?_⟩
            intro p hp
            obtain ⟨k', h1, h2⟩ := R.od.pos (R.od.topo k i o hk ho p hp)
            exact ih k' h1 p h2
          rw [hr] at this; simp at this
    have hq : q = ops.size := by
      rcases Nat.lt_or_ge q ops.size with h | h
      · obtain ⟨i, o, g1, _⟩ := I.next h
        have := hall q i g1
        rw [I.behind q i g1 (Nat.le_refl _)] at this; cases this
      · have := I.qn; omega
    subst hq
    refine hQ ρ a w ⟨I.post.rel, ?_, I.defers⟩ I.post
    rw [R.fr_eq ops.size (Nat.le_refl _)]
    have : ∀ t, (frOf dst val (st 0).fr (fun k => match ord[k]? with | some i => listed.getD i false | none => false) ops.size).get? t = (frOf dst val (st 0).fr (fun _ => true) ops.size).get? t := by
      intro t
      refine frOf_agree _ _ _ _ _ t _ ?_
      intro j hj _
      obtain ⟨i, o, g1, _⟩ := R.at_lt hj
      simp only [g1]
      exact hall j i g1
    intro t
    have h6 := I.fr t
    unfold TRel at h6 ⊢
    rw [← this t]
    exact h6
  intro fuel
  induction fuel with
  | zero =>
    intro listed a w q ρ I hc
    have hr : Region.ready .any ops listed = [] := by
      cases h : Region.ready .any ops listed with
      | nil => rfl
      | cons i l =>
        have hi : i ∈ Region.ready .any ops listed := by rw [h]; simp
        obtain ⟨h1, o, ho, _⟩ := (ready_iff I.size).1 hi
        have hin : i < ops.size := (Array.getElem?_eq_some_iff.1 ho).1
        have : 0 < (List.range ops.size).countP (fun i => !listed.getD i false) := by
          rw [List.countP_pos_iff]
          exact ⟨i, by simpa using hin, by rw [h1]; rfl⟩
        omega
    exact ⟨hr, done listed a w q ρ I hr⟩
  | succ fuel ih =>
    intro listed a w q ρ I hc
    refine ⟨done listed a w q ρ I, ?_⟩
    intro i hi
    refine draw_step ok hcall R h0 I hi ?_
    intro a' w' q' ρ' I'
    refine ih _ a' w' q' ρ' I' ?_
    obtain ⟨h1, o, ho, _⟩ := (ready_iff I.size).1 hi
    have hin : i < ops.size := (Array.getElem?_eq_some_iff.1 ho).1
    have hil : i < listed.size := by rw [I.size]; exact hin
    have := countP_lt (p := fun i => !listed.getD i false) (p' := fun j => !(listed.setIfInBounds i true).getD j false) (i := i) (by
      intro x hx
      rw [getD_set _ _ _ hil] at hx
      split at hx
      · simp at hx
      · exact hx) (by rw [h1]; rfl) (by rw [getD_set _ _ _ hil]; simp) (List.range ops.size) (by simpa using hin)
    omega
end

/-- A region that draws its order. -/
theorem region_draw {c : Ctx} (ok : CtxOk c) {call : Callee} (hcall : CallSound c call) {id : Nat} {ops : Array Oper} {s s' : DSt} (h : dregion c call ops true s = some s') : CodeTo c (.region id ops true) s .normal s' := by
  simp only [dregion] at h
  split at h
  · rename_i hord
    generalize hclo : closure ops (orderGo ops ops.size 0) .leaf = clo at *
    generalize horde : orderGo ops ops.size 0 = ord at *
    have od := okOrder_spec hord
    obtain ⟨st, at_, h0, h1, h2⟩ := dgo_trace h
    rw [od.len] at h1
    let dst : Nat → Option Nat := fun k => ((ord[k]?).bind (ops[·]?)).bind (·.dst)
    let val : Nat → DVal := fun k => match (ord[k]?).bind (ops[·]?) with | some o => stepVal c call ops o (st k) | none => dundef
    have R : Run c call ops ord clo st at_ dst val := by
      refine ⟨od, h2, ?_, ?_, ?_⟩
      · intro k i o hk ho; simp only [dst, hk, Option.bind_some, ho]
      · intro k i o hk ho
        obtain ⟨o', t⟩ := h2 k i hk
        have : o' = o := by have := t.op; rw [ho] at this; cases this; rfl
        subst this
        rw [dstep_val t.step]
        simp only [val, hk, Option.bind_some, ho]
      · intro k i o hk ho; simp only [val, hk, Option.bind_some, ho]
    intro ρ a w hs hg
    refine wp_region_any ok.mixed ?_
    have hm0 : MRel ρ (st 0).m w := by rw [h0]; exact hs.mem
    obtain ⟨q, q1, q2, q3, q4⟩ := R.next_heavy ops.size 0 (by omega)
    have hstage := R.stage q 0 (by omega) (fun j i o h1 h2 => q3 j i o h1 (by omega))
    rw [Nat.zero_add] at hstage
    refine any_sound ok hcall R hm0 ?_ ops.size _ a _ q ρ ⟨by simp, ?_, q2, ?_, ?_, q4, ?_, ?_, ?_, ?_, ?_, hs.defers, hg⟩ ?_
    · intro ρ' a' w' hst hp
      refine ⟨ρ', .normal, by rw [← h1]; exact hst, ?_⟩
      rw [← h1, ← h0]; exact hp
    · intro i o hl
      simp only [Array.getD_eq_getD_getElem?, Array.getElem?_replicate] at hl
      split at hl <;> simp at hl
    · intro k i o hk ho hlt hh
      have := q3 k i o (by omega) hlt hk ho
      rw [hh] at this; cases this
    · intro k i hk _
      rw [Array.getD_eq_getD_getElem?, Array.getElem?_replicate]; split <;> rfl
    · exact Post.grow hm0 (Post.drawn hm0 _) hstage.size hstage.get (hstage.wf hm0.wf)
    · intro k hk
      have hs1 := R.stage k 0 (by omega) (fun j i o h1 h2 => q3 j i o h1 (by omega))
      rw [Nat.zero_add] at hs1
      obtain ⟨i, o, g1, g2, g3⟩ := R.at_lt (k := k) (by omega)
      exact (light_stage g3.step (q3 k i o (by omega) hk g1 g2)).ext (hs1.wf hm0.wf)
    · intro k hk
      have hs1 := R.stage k 0 (by omega) (fun j i o h1 h2 => q3 j i o h1 (by omega))
      rw [Nat.zero_add] at hs1
      exact hs1.wf hm0.wf
    · intro k i hk _ _ _
      cases hx : ρ (st k).m.size with
      | none => rfl
      | some sp =>
        have hs1 := R.stage k 0 (by omega) (fun j i o h1 h2 => q3 j i o h1 (by omega))
        rw [Nat.zero_add] at hs1
        have := hm0.fresh _ sp hx
        have := hs1.size
        omega
    · have : frOf dst val (st 0).fr (fun k => match ord[k]? with | some i => (Array.replicate ops.size false).getD i false | none => false) ops.size = (st 0).fr := by
        have hz : ∀ n, n ≤ ops.size → frOf dst val (st 0).fr (fun k => match ord[k]? with | some i => (Array.replicate ops.size false).getD i false | none => false) n = (st 0).fr := by
          intro n
          induction n with
          | zero => intro _; rfl
          | succ n ih =>
            intro hn
            obtain ⟨i, o, g1, _⟩ := R.at_lt (k := n) (by omega)
            simp only [frOf, g1]
            rw [if_neg (by rw [Array.getD_eq_getD_getElem?, Array.getElem?_replicate]; split <;> simp)]
            have := ih (by omega)
            simpa using this
        exact hz ops.size (Nat.le_refl _)
      have h5 : FrRel ρ (st 0).fr a.tmps := by rw [h0]; exact hs.fr
      exact Eq.mp (congrArg (fun l => FrRel ρ l a.tmps) this.symm) h5
    · have := List.countP_le_length (p := fun i => !(Array.replicate ops.size false).getD i false) (l := List.range ops.size)
      simpa using this
  · cases h

theorem region_sound {c : Ctx} (ok : CtxOk c) (hpre : PreOk c) (call : Callee) (hcall : CallSound c call) : RegionSound c call := by
  intro id ops draw s s' h
  cases draw with
  | false => exact region_plain ok hpre hcall h
  | true => exact region_draw ok hcall h


end Go.DM
