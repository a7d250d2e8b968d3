/-
  A deterministic machine over Go's code: regions in the text's order, and code.
-/
import Derived.Test.YtijeeiemklahiaaGreatDoorDmOp7
namespace Go.DM
noncomputable section

/-- The slots agree at a temporary. -/
def TRel (ρ : Ren) (fr : Fr) (tmps : Array Value) (t : Nat) : Prop :=
  match fr.get? t, tmps[t]? with
  | some d, some v => VRel ρ d v
  | none, none => True
  | _, _ => False

def FrRel (ρ : Ren) (fr : Fr) (tmps : Array Value) : Prop := ∀ t, TRel ρ fr tmps t

theorem FrRel.mono {ρ ρ' : Ren} (h : ρ.le ρ') {fr : Fr} {tmps : Array Value} (hr : FrRel ρ fr tmps) : FrRel ρ' fr tmps := by
  intro t
  have := hr t
  unfold TRel at this ⊢
  cases hf : fr.get? t with
  | none =>
    rw [hf] at this
    cases hv : tmps[t]? with
    | none => trivial
    | some v => rw [hv] at this; exact this.elim
  | some d =>
    rw [hf] at this
    cases hv : tmps[t]? with
    | none => rw [hv] at this; exact this.elim
    | some v => rw [hv] at this; exact VRel.mono h _ _ this

structure StRel (ρ : Ren) (s : DSt) (a : Act) (w : World) : Prop where
  mem : MRel ρ s.m w
  fr : FrRel ρ s.fr a.tmps
  defers : a.defers = []

theorem VRel.bool_eq {ρ : Ren} {d : DVal} {b : Bool} (h : VRel ρ d (.bool b)) : d = .bool b := by
  cases d with
  | bool b' => simp only [VRel] at h; cases h; rfl
  | int => simp only [VRel] at h; cases h
  | str => simp only [VRel] at h; obtain ⟨_, _, e⟩ := h; cases e
  | ptr p =>
    cases p with
    | none => simp only [VRel] at h; cases h
    | some p => obtain ⟨b, o⟩ := p; simp only [VRel] at h; obtain ⟨_, _, e⟩ := h; cases e
  | slice p len cap md =>
    cases p with
    | none => simp only [VRel] at h; obtain ⟨_, _, e⟩ := h; cases e
    | some p => obtain ⟨A, c, e, _⟩ := h.slice_inv; cases e
  | map r =>
    cases r with
    | none => simp only [VRel] at h; cases h
    | some r => simp only [VRel] at h; obtain ⟨_, _, e⟩ := h; cases e
  | func => simp only [VRel] at h; obtain ⟨_, _, e, _⟩ := h; cases e
  | nilFunc => simp only [VRel] at h; cases h
  | nilIface => simp only [VRel] at h; cases h
  | view => obtain ⟨_, _, e⟩ := h.view_inv; cases e
  | agg => simp only [VRel] at h; obtain ⟨_, e, _⟩ := h; cases e
  | tuple => simp only [VRel] at h; obtain ⟨_, e, _⟩ := h; cases e

theorem Fr.put_eq (fr : Fr) (k : Nat) (v : DVal) : fr.put k v = match Nat.blt k fr.n with
  | true => ⟨fr.t.set k v, fr.n⟩
  | false => fr := rfl

theorem Fr.get?_put (fr : Fr) (d : Nat) (v : DVal) (t : Nat) : (fr.put d v).get? t = if d = t then (if t < fr.n then some v else none) else fr.get? t := by
  rw [Fr.put_eq]
  split
  · rename_i h
    have hd : d < fr.n := Nat.le_of_ble_eq_true h
    unfold Fr.get?
    simp only [T.get_set]
    by_cases e : d = t
    · subst e
      simp [h, hd]
    · have e' : ¬ t = d := fun x => e x.symm
      simp [e, e']
  · rename_i h
    have hd : ¬ d < fr.n := fun hh => by
      have : Nat.blt d fr.n = true := Nat.ble_eq_true_of_le hh
      rw [this] at h; cases h
    by_cases e : d = t
    · subst e
      rw [if_pos rfl, if_neg hd]
      unfold Fr.get?
      rw [h]
    · rw [if_neg e]

theorem Fr.n_put (fr : Fr) (d : Nat) (v : DVal) : (fr.put d v).n = fr.n := by rw [Fr.put_eq]; split <;> rfl

theorem Fr.get?_none {fr : Fr} {t : Nat} (h : fr.n ≤ t) : fr.get? t = none := by
  unfold Fr.get?
  have : Nat.blt t fr.n = false := by
    cases hb : Nat.blt t fr.n with
    | false => rfl
    | true => have : t < fr.n := Nat.le_of_ble_eq_true hb; omega
  rw [this]

theorem Fr.get?_args : ∀ (args : List DVal) (t : T DVal) (k j : Nat), (Fr.args t k args).get j = if k ≤ j ∧ j < k + args.length then args[j - k]? else t.get j
  | [], t, k, j => by simp [Fr.args]; intro h1 h2; omega
  | v :: vs, t, k, j => by
    simp only [Fr.args, Fr.get?_args vs, T.get_set, List.length_cons]
    by_cases h1 : k + 1 ≤ j ∧ j < k + 1 + vs.length
    · rw [if_pos h1, if_pos (by omega), show j - k = (j - (k + 1)) + 1 by omega]; simp
    · rw [if_neg h1]
      by_cases h2 : j = k
      · subst h2; simp
      · rw [if_neg h2, if_neg (by omega)]

theorem Fr.get?_init (args : List DVal) (n t : Nat) : (Fr.init args n).get? t = (args ++ List.replicate (n - args.length) dundef)[t]? := by
  unfold Fr.get? Fr.init
  simp only [Fr.get?_args]
  by_cases h : t < args.length + (n - args.length)
  · have : Nat.blt t (args.length + (n - args.length)) = true := Nat.ble_eq_true_of_le h
    rw [this]
    by_cases h2 : t < args.length
    · rw [if_pos (by omega), List.getElem?_append_left h2]
      simp [h2]
    · rw [if_neg (by omega), List.getElem?_append_right (by omega)]
      simp only [T.get_leaf]
      rw [List.getElem?_replicate, if_pos (by omega)]
  · have : Nat.blt t (args.length + (n - args.length)) = false := by
      cases hb : Nat.blt t (args.length + (n - args.length)) with
      | false => rfl
      | true => have : t < args.length + (n - args.length) := Nat.le_of_ble_eq_true hb; omega
    rw [this]
    symm; apply List.getElem?_eq_none; simp; omega

theorem FrRel.init {ρ : Ren} {args : List DVal} {n : Nat} {tmps : Array Value} (h : VsRel ρ (args ++ List.replicate (n - args.length) dundef) tmps.toList) : FrRel ρ (Fr.init args n) tmps := by
  intro t
  unfold TRel
  rw [Fr.get?_init]
  have hl := h.length
  simp only [Array.length_toList] at hl
  by_cases ht : t < (args ++ List.replicate (n - args.length) dundef).length
  · rw [List.getElem?_eq_getElem ht, Array.getElem?_eq_getElem (by omega)]
    obtain ⟨v, hv, hr⟩ := h.get t _ (List.getElem?_eq_getElem ht)
    simp only [Array.getElem?_toList] at hv
    rw [Array.getElem?_eq_getElem (by omega)] at hv
    cases hv
    exact hr
  · rw [List.getElem?_eq_none (by omega), Array.getElem?_eq_none (by omega)]; trivial

theorem FrRel.getD {ρ : Ren} {fr : Fr} {tmps : Array Value} {t : Nat} (ht : TRel ρ fr tmps t) : VRel ρ (fr.getD t) (tmps.getD t undef) := by
  unfold TRel at ht
  unfold Fr.getD
  cases hf : fr.get? t with
  | none =>
    rw [hf] at ht
    cases hv : tmps[t]? with
    | none => rw [Array.getD_eq_getD_getElem?, hv]; exact undef_rel ρ
    | some v => rw [hv] at ht; exact ht.elim
  | some d =>
    rw [hf] at ht
    cases hv : tmps[t]? with
    | none => rw [hv] at ht; exact ht.elim
    | some v => rw [hv] at ht; rw [Array.getD_eq_getD_getElem?, hv]; exact ht

theorem dyielded_eq {ρ : Ren} {ops : Array Oper} {fr : Fr} {tmps : Array Value} {j : Nat} (h : ∀ t, ((ops[j]?).bind (·.dst)) = some t → TRel ρ fr tmps t) : dyielded ops fr j = yielded ops tmps j := by
  unfold dyielded yielded
  cases ho : ops[j]? with
  | none => rfl
  | some o =>
    simp only [Option.bind_some]
    cases hd : o.dst with
    | none => rfl
    | some t =>
      have ht := h t (by rw [ho]; exact hd)
      unfold TRel at ht
      simp only [Option.bind_some]
      cases hf : fr.get? t with
      | none =>
        rw [hf] at ht
        cases hv : tmps[t]? with
        | none => rfl
        | some v => rw [hv] at ht; exact ht.elim
      | some d =>
        rw [hf] at ht
        cases hv : tmps[t]? with
        | none => rw [hv] at ht; exact ht.elim
        | some v =>
          rw [hv] at ht
          simp only at ht
          cases d with
          | bool b => simp only [VRel] at ht; subst ht; rfl
          | _ =>
            cases v with
            | bool b => exact absurd ht.bool_eq (by simp)
            | _ => rfl

theorem dwanted_eq {ρ : Ren} {ops : Array Oper} {fr : Fr} {tmps : Array Value} {o : Oper} (h : ∀ g w t, o.guard = some (g, w) → ((ops[g]?).bind (·.dst)) = some t → TRel ρ fr tmps t) :
    dwanted ops fr o = Region.wanted o (yielded ops tmps) := by
  unfold dwanted Region.wanted
  cases hg : o.guard with
  | none => rfl
  | some gw =>
    obtain ⟨g, want⟩ := gw
    simp only
    rw [dyielded_eq (fun t ht => h g want t hg ht)]
    cases yielded ops tmps g with
    | none => rfl
    | some b => cases b <;> cases want <;> rfl

theorem dev_rel {c : Ctx} {ρ : Ren} {fr : Fr} {a : Act} (hg : GOk c ρ) {xs : List Operand} (h : ∀ t, Operand.tmp t ∈ xs → TRel ρ fr a.tmps t) : ERel ρ (dev c.glob fr) a.eval xs := by
  intro x hx d hd
  cases x with
  | tmp t =>
    simp only [dev] at hd; cases hd
    exact FrRel.getD (h t hx)
  | const v => simp only [dev] at hd; exact ofConst_rel ρ v d hd
  | global g =>
    simp only [dev] at hd
    split at hd
    · rename_i hgl
      cases hd
      obtain ⟨t, ht⟩ := hg g hgl
      simp only [VRel, Act.eval]
      exact ⟨_, ht, rfl⟩
    · cases hd
  | func f =>
    simp only [dev] at hd; cases hd
    simp only [Act.eval, VRel]
    exact ⟨#[], #[], rfl, .nil, .nil⟩

theorem put_fr {ρ : Ren} {fr : Fr} {a : Act} (h : FrRel ρ fr a.tmps) (dst : Option Nat) {v : DVal} {V : Value} (hv : VRel ρ v V) : FrRel ρ (dput fr dst v) (a.put dst V).tmps := by
  cases dst with
  | none => exact h
  | some d =>
    intro t
    have ht := h t
    unfold TRel at ht ⊢
    simp only [dput, Act.put, Fr.get?_put]
    by_cases e : d = t
    · subst e
      rw [if_pos rfl]
      by_cases hlt : d < fr.n
      · rw [if_pos hlt]
        have hsz : d < a.tmps.size := by
          rcases Nat.lt_or_ge d a.tmps.size with h1 | h1
          · exact h1
          · exfalso
            rw [Array.getElem?_eq_none h1] at ht
            have : ∃ x, fr.get? d = some x := by
              unfold Fr.get?
              have : Nat.blt d fr.n = true := Nat.ble_eq_true_of_le hlt
              rw [this]
              cases fr.t.get d with
              | none => exact ⟨_, rfl⟩
              | some x => exact ⟨_, rfl⟩
            obtain ⟨x, hx⟩ := this
            rw [hx] at ht; exact ht
        simp [hsz, hv]
      · rw [if_neg hlt]
        rw [Fr.get?_none (by omega)] at ht
        have : ¬ d < a.tmps.size := fun h1 => by rw [Array.getElem?_eq_getElem h1] at ht; exact ht
        simp [this]
    · rw [if_neg e, Array.getElem?_setIfInBounds_ne e]
      exact ht

theorem put_defers (a : Act) (dst : Option Nat) (V : Value) : (a.put dst V).defers = a.defers := by cases dst <;> rfl


/-- One operation of a region. -/
theorem dstep_sound {c : Ctx} (ok : CtxOk c) {call : Callee} (hcall : CallSound c call) {ops : Array Oper} {i : Nat} {o : Oper} (ho : ops[i]? = some o) {s s' : DSt} {at_ : Option Nat} (h : dstep c call ops o s = some (s', at_)) {ρ : Ren} {a : Act} {w : World}
    (hs : StRel ρ s a w) (hg : GOk c ρ) {K : Act → World → Prop} {Q : Exit → Act → World → Prop} (hK : ∀ ρ' a' w', StRel ρ' s' a' w' → Post ρ s.m w s'.m ρ' w' → K a' w') :
    wpOp c.P ops Q i K a w := by
  rw [dstep_eq] at h
  have hw := dwanted_eq (ρ := ρ) (ops := ops) (fr := s.fr) (tmps := a.tmps) (o := o) (fun g w t _ _ => hs.fr t)
  unfold wpOp
  simp only [ho]
  split at h
  · rename_i hd
    cases h
    rw [← hw, hd]
    simp only [Bool.false_eq_true, if_false]
    exact hK ρ _ w ⟨hs.mem, put_fr hs.fr _ (undef_rel ρ), by rw [put_defers]; exact hs.defers⟩ (Post.refl hs.mem)
  · rename_i hd
    rw [← hw, hd]
    simp only [if_true]
    split at h
    · rename_i r hr
      cases h
      refine .inl (dexec_sound ok hcall hs.mem hg hr (dev_rel hg fun t _ => hs.fr t) _ _ ?_)
      intro V ρ' w' hV hp
      exact hK ρ' _ w' ⟨hp.rel, put_fr (hs.fr.mono hp.le) _ hV, by rw [put_defers]; exact hs.defers⟩ hp
    · cases h

def RegTo (c : Ctx) (s s' : DSt) (ops : Array Oper) (l : List Nat) : Prop :=
  ∀ ρ a w, StRel ρ s a w → GOk c ρ → ∀ Q : Exit → Act → World → Prop, (∀ ρ' a' w', StRel ρ' s' a' w' → Post ρ s.m w s'.m ρ' w' → Q .normal a' w') → wpOps c.P ops Q l a w

/-- A world's relation does not hang on what is owed. -/
theorem MRel.same {ρ : Ren} {m m' : DMem} {w : World} (h : MRel ρ m w) (ht : m'.t = m.t) (hs : m'.size = m.size) : MRel ρ m' w := by
  have hg : ∀ b, m'.get b = m.get b := fun b => by unfold DMem.get; rw [ht]
  exact ⟨fun b hb => by rw [hg]; exact h.wf b (by omega), fun b s hb => by rw [hs]; exact h.fresh b s hb, h.old,
    fun b s hb => by obtain ⟨o, h1, h2⟩ := h.blk b s hb; exact ⟨o, by rw [hg, h1], h2⟩,
    fun b b' s s' hne h1 h2 a1 a2 => h.apart b b' s s' hne h1 h2 ((alive_of_get (hg b)).1 a1) ((known_of_get (hg b')).1 a2)⟩

theorem Post.same {ρ : Ren} {m m' : DMem} {w : World} (h : MRel ρ m w) (ht : m'.t = m.t) (hs : m'.size = m.size) : Post ρ m w m' ρ w := by
  have hg : ∀ b, m'.get b = m.get b := fun b => by unfold DMem.get; rw [ht]
  refine ⟨Ren.le_refl _, h.same ht hs, ⟨by omega, fun b o hb => ⟨o, by rw [hg, hb], .inl rfl⟩⟩, fun _ _ h => .inl h, fun _ _ h _ => .inl h, ?_⟩
  exact ⟨Nat.le_refl _, rfl, rfl, rfl, fun _ _ _ => rfl, fun B row e fz _ h => ⟨row, fz, h, rfl, fun _ _ => rfl⟩⟩

theorem FrRel.put_same {ρ : Ren} {fr : Fr} {tmps : Array Value} (h : FrRel ρ fr tmps) (d : Nat) : FrRel ρ (fr.put d (fr.getD d)) tmps := by
  intro t
  have ht := h t
  unfold TRel at ht ⊢
  rw [Fr.get?_put]
  by_cases e : d = t
  · subst e
    by_cases hn : d < fr.n
    · obtain ⟨v, hv⟩ : ∃ v, fr.get? d = some v := by
        unfold Fr.get?
        rw [show Nat.blt d fr.n = true from Nat.ble_eq_true_of_le hn]
        simp only
        cases fr.t.get d with
        | none => exact ⟨_, rfl⟩
        | some v => exact ⟨_, rfl⟩
      rw [if_pos rfl, if_pos hn]
      have : fr.getD d = v := by unfold Fr.getD; rw [hv]
      rw [this]
      rw [hv] at ht
      exact ht
    · rw [if_pos rfl, if_neg hn]
      rw [Fr.get?_none (by omega)] at ht
      exact ht
  · rw [if_neg e]; exact ht

theorem dhint_sound {c : Ctx} {call : Callee} (hcall : CallSound c call) {o : Oper} {s s' : DSt} (h : dhint c call o s = some s') {ρ : Ren} {a : Act} {w : World} (hs : StRel ρ s a w) : StRel ρ s' a w ∧ Post ρ s.m w s'.m ρ w := by
  unfold dhint at h
  split at h
  · cases h; exact ⟨hs, Post.refl hs.mem⟩
  · split at h
    · cases h
    · rename_i v hv d hd
      obtain ⟨fr, m⟩ := s
      simp only at h
      split at h
      · rename_i u m' hu
        cases h
        obtain ⟨h0, h1, h2, h3⟩ := hcall.owe _ _ _ _ _ hu
        cases h1
        rw [← h0]
        exact ⟨⟨hs.mem.same h2 h3, hs.fr.put_same d, hs.defers⟩, Post.same hs.mem h2 h3⟩
      · cases h

theorem dexec_any {c : Ctx} {call : Callee} {ev : Operand → Option DVal} {m : DMem} {op : Op} {r : Did} (h : dexec c noCall ev m op = some r) : dexec c call ev m op = some r := by
  unfold dexec at h ⊢
  cases h1 : dpure c ev op with
  | some v => rw [h1] at h; exact h
  | none =>
    rw [h1] at h
    simp only at h ⊢
    cases h2 : dread c ev m op with
    | some p => rw [h2] at h; exact h
    | none =>
      rw [h2] at h
      simp only at h ⊢
      cases h3 : dalloc c ev m.size op with
      | some p => rw [h3] at h; exact h
      | none =>
        rw [h3] at h
        simp only at h ⊢
        cases h4 : dheavy c ev m op with
        | some p => rw [h4] at h; exact h
        | none =>
          rw [h4] at h
          simp only at h ⊢
          cases h5 : dtarget ev op with
          | none => rw [h5] at h; cases h
          | some p => rw [h5] at h; simp [noCall] at h

/-- What is owed for the operations that are not reckoned. -/
def PreOk (c : Ctx) : Prop := ∀ o p ev m v P, c.pre o = some p → p ev m = some (v, P) → P → ∃ a, dexec c noCall ev m o.op = some ⟨v, m, a⟩

theorem dnext_sound {c : Ctx} (ok : CtxOk c) (hpre : PreOk c) {call : Callee} (hcall : CallSound c call) {ops : Array Oper} {i : Nat} {o : Oper} (ho : ops[i]? = some o) {s s' : DSt} (h : dnext c call ops o s = some s') {ρ : Ren} {a : Act} {w : World}
    (hs : StRel ρ s a w) (hg : GOk c ρ) {K : Act → World → Prop} {Q : Exit → Act → World → Prop} (hK : ∀ ρ' a' w', StRel ρ' s' a' w' → Post ρ s.m w s'.m ρ' w' → K a' w') :
    wpOp c.P ops Q i K a w := by
  unfold dnext at h
  cases hp : c.pre o with
  | none =>
    rw [hp] at h
    simp only at h
    split at h
    · rename_i s1 at_ h1
      refine dstep_sound ok hcall ho h1 hs hg ?_
      intro ρ1 a1 w1 hs1 hp1
      obtain ⟨hs1', hp1'⟩ := dhint_sound hcall h hs1
      exact hK ρ1 a1 w1 hs1' (Post.trans hs.mem hp1 hp1')
    · cases h
  | some p =>
    rw [hp] at h
    obtain ⟨fr, m⟩ := s
    simp only at h
    split at h
    · rename_i hd
      have h1 : dstep c call ops o ⟨fr, m⟩ = some (⟨dput fr o.dst dundef, m⟩, none) := by rw [dstep_eq]; simp only [hd]
      cases h
      exact dstep_sound ok hcall ho h1 hs hg hK
    · rename_i hd
      split at h
      · cases h
      · rename_i v P hv
        split at h
        · rename_i u m' hu
          cases h
          obtain ⟨hP, h1, h2, h3⟩ := hcall.owe _ _ _ _ _ hu
          cases h1
          obtain ⟨at_, h0⟩ := hpre _ _ _ _ _ _ hp hv hP
          have hx : dstep c call ops o ⟨fr, m⟩ = some (⟨dput fr o.dst v, m⟩, at_) := by rw [dstep_eq]; simp only [hd, dexec_any h0]
          refine dstep_sound ok hcall ho hx hs hg ?_
          intro ρ1 a1 w1 hs1 hp1
          exact hK ρ1 a1 w1 ⟨hs1.mem.same h2 h3, hs1.fr, hs1.defers⟩ (Post.trans hs.mem hp1 (Post.same hs1.mem h2 h3))
        · cases h

theorem dseq_sound {c : Ctx} (ok : CtxOk c) (hpre : PreOk c) {call : Callee} (hcall : CallSound c call) {ops : Array Oper} : ∀ (n k : Nat) (s s' : DSt), k + n = ops.size → dseq c call ops (ops.toList.drop k) s = some s' → RegTo c s s' ops (List.range' k n)
  | 0, k, s, s', hk, h => by
    rw [List.drop_eq_nil_of_le (by simp; omega)] at h
    simp only [dseq] at h; cases h
    intro ρ a w hs hg Q hQ
    simp only [List.range'_zero, wpOps]
    exact hQ ρ a w hs (Post.refl hs.mem)
  | n + 1, k, s, s', hk, h => by
    have hlt : k < ops.size := by omega
    have hd : ops.toList.drop k = ops[k] :: ops.toList.drop (k + 1) := by
      rw [List.drop_eq_getElem_cons (by simpa using hlt)]; simp
    rw [hd] at h
    simp only [dseq] at h
    split at h
    · rename_i s1 h1
      have ih := dseq_sound ok hpre hcall n (k + 1) s1 s' (by omega) h
      intro ρ a w hs hg Q hQ
      rw [List.range'_succ, wpOps_cons]
      refine dnext_sound ok hpre hcall (Array.getElem?_eq_getElem hlt) h1 hs hg ?_
      intro ρ1 a1 w1 hs1 hp1
      refine ih ρ1 a1 w1 hs1 (hg.mono hp1.le) Q ?_
      intro ρ2 a2 w2 hs2 hp2
      exact hQ ρ2 a2 w2 hs2 (Post.trans hs.mem hp1 hp2)
    · cases h

inductive ExitRel : DExit → Exit → Prop
  | normal : ExitRel .normal .normal
  | exit (id : Nat) : ExitRel (.exit id) (.exit id)
  | ret : ExitRel .ret .ret

def CodeTo (c : Ctx) (code : Code) (s : DSt) (e : DExit) (s' : DSt) : Prop :=
  ∀ ρ a w, StRel ρ s a w → GOk c ρ → code.wp c.P (fun e' a' w' => ∃ ρ', ExitRel e e' ∧ StRel ρ' s' a' w' ∧ Post ρ s.m w s'.m ρ' w') a w

def RegionSound (c : Ctx) (call : Callee) : Prop := ∀ (id : Nat) (ops : Array Oper) (draw : Bool) (s s' : DSt), dregion c call ops draw s = some s' → CodeTo c (.region id ops draw) s .normal s'

theorem loop_sound {c : Ctx} {b : Code} {body : DSt → Option (DExit × DSt)} (hbody : ∀ s e s', body s = some (e, s') → CodeTo c b s e s') :
    ∀ (n : Nat) (s s' : DSt) (e : DExit), loopN body n s = some (e, s') → ∀ ρ a w, StRel ρ s a w → GOk c ρ → ∀ (fb : Frame) (k : List Item) (cs : List Frame),
      ∃ e' a' w', (∃ ρ', ExitRel e e' ∧ StRel ρ' s' a' w' ∧ Post ρ s.m w s'.m ρ' w') ∧ Arrives c.P (lone (fb.at a (.code b :: .inLoop b :: k)) cs w) fb k cs e' a' w' := by
  intro n
  induction n with
  | zero => intro s s' e h; simp [loopN] at h
  | succ n ih =>
    intro s s' e h ρ a w hs hg fb k cs
    simp only [loopN] at h
    split at h
    · rename_i s1 h1
      obtain ⟨e1, a1, w1, ⟨ρ1, hx, hs1, hp1⟩, harr⟩ := hbody s .normal s1 h1 ρ a w hs hg fb (.inLoop b :: k) cs
      cases hx
      obtain ⟨e2, a2, w2, ⟨ρ2, hx2, hs2, hp2⟩, harr2⟩ := ih s1 s' e h ρ1 a1 w1 hs1 (hg.mono hp1.le) fb k cs
      exact ⟨e2, a2, w2, ⟨ρ2, hx2, hs2, Post.trans hs.mem hp1 hp2⟩, .of_steps (Steps.trans harr (.one step_inLoop)) harr2⟩
    · rename_i hne
      obtain ⟨e1, a1, w1, ⟨ρ1, hx, hs1, hp1⟩, harr⟩ := hbody s e s' h ρ a w hs hg fb (.inLoop b :: k) cs
      refine ⟨e1, a1, w1, ⟨ρ1, hx, hs1, hp1⟩, ?_⟩
      cases hx with
      | normal => exact absurd h (hne s')
      | exit id => exact .pass (x := .inLoop b) rfl (fun _ _ => .inl (by simp)) harr
      | ret => exact .pass (x := .inLoop b) rfl (fun _ _ => .inl (by simp)) harr

/-- What is owed for the loops that are not run. -/
def LpOk (c : Ctx) : Prop := ∀ b g s e s' P, c.lp b = some g → g s = some (e, s', P) → P → CodeTo c (.loop b) s e s'

theorem CodeTo.same {c : Ctx} {code : Code} {s s' : DSt} {e : DExit} {m' : DMem} (h : CodeTo c code s e s') (ht : m'.t = s'.m.t) (hs : m'.size = s'.m.size) : CodeTo c code s e ⟨s'.fr, m'⟩ := by
  intro ρ a w h1 hg
  refine wp_mono (h ρ a w h1 hg) ?_
  rintro e1 a1 w1 ⟨ρ1, hx, hs1, hp1⟩
  exact ⟨ρ1, hx, ⟨hs1.mem.same ht hs, hs1.fr, hs1.defers⟩, Post.trans h1.mem hp1 (Post.same hs1.mem ht hs)⟩

theorem dcode_sound {c : Ctx} {call : Callee} (hcall : CallSound c call) (hlp : LpOk c) (hreg : RegionSound c call) (fuel : Nat) : ∀ (code : Code) (s : DSt) (e : DExit) (s' : DSt), dcode c call fuel code s = some (e, s') → CodeTo c code s e s' := by
  intro code
  induction code with
  | skip =>
    intro s e s' h; simp only [dcode] at h; cases h
    intro ρ a w hs hg
    exact wp_skip ⟨ρ, .normal, hs, Post.refl hs.mem⟩
  | label l =>
    intro s e s' h; simp only [dcode] at h; cases h
    intro ρ a w hs hg
    exact wp_label ⟨ρ, .normal, hs, Post.refl hs.mem⟩
  | region id ops draw =>
    intro s e s' h; simp only [dcode] at h
    split at h
    · rename_i s1 h1; cases h; exact hreg id ops draw s s' h1
    · cases h
  | seq x y ihx ihy =>
    intro s e s' h; simp only [dcode] at h
    split at h
    · rename_i s1 h1
      intro ρ a w hs hg
      refine wp_seq (wp_mono (ihx s .normal s1 h1 ρ a w hs hg) ?_)
      rintro e1 a1 w1 ⟨ρ1, hx, hs1, hp1⟩
      cases hx
      refine wp_mono (ihy s1 e s' h ρ1 a1 w1 hs1 (hg.mono hp1.le)) ?_
      rintro e2 a2 w2 ⟨ρ2, hx2, hs2, hp2⟩
      exact ⟨ρ2, hx2, hs2, Post.trans hs.mem hp1 hp2⟩
    · rename_i hne
      intro ρ a w hs hg
      refine wp_seq (wp_mono (ihx s e s' h ρ a w hs hg) ?_)
      rintro e1 a1 w1 ⟨ρ1, hx, hs1, hp1⟩
      cases hx with
      | normal => exact absurd h (hne s')
      | exit id => exact ⟨ρ1, .exit id, hs1, hp1⟩
      | ret => exact ⟨ρ1, .ret, hs1, hp1⟩
  | cond q x y ihx ihy =>
    intro s e s' h; simp only [dcode] at h
    intro ρ a w hs hg
    have he : ERel ρ (dev c.glob s.fr) a.eval [q] := dev_rel hg fun t _ => hs.fr t
    split at h
    · rename_i hq
      exact wp_cond_true (he q (by simp) _ hq).bool_inv (ihx s e s' h ρ a w hs hg)
    · rename_i hq
      exact wp_cond_false (he q (by simp) _ hq).bool_inv (ihy s e s' h ρ a w hs hg)
    · cases h
  | block id b ih =>
    intro s e s' h; simp only [dcode] at h
    intro ρ a w hs hg
    split at h
    · rename_i i s1 h1
      refine wp_block (wp_mono (ih s (.exit i) s1 h1 ρ a w hs hg) ?_)
      rintro e1 a1 w1 ⟨ρ1, hx, hs1, hp1⟩
      cases hx
      simp only [Exit.inBlock]
      split at h
      · rename_i hi
        cases h
        rw [if_pos (by simpa using hi)]
        exact ⟨ρ1, .normal, hs1, hp1⟩
      · rename_i hi
        cases h
        rw [if_neg (by simpa using hi)]
        exact ⟨ρ1, .exit i, hs1, hp1⟩
    · rename_i hne
      refine wp_block (wp_mono (ih s e s' h ρ a w hs hg) ?_)
      rintro e1 a1 w1 ⟨ρ1, hx, hs1, hp1⟩
      cases hx with
      | normal => exact ⟨ρ1, .normal, hs1, hp1⟩
      | exit i => exact absurd h (hne i s')
      | ret => exact ⟨ρ1, .ret, hs1, hp1⟩
  | loop b ih =>
    intro s e s' h; simp only [dcode] at h
    split at h
    case h_2 g hg' =>
      split at h
      · cases h
      · rename_i e1 s1 P h1
        split at h
        · rename_i u m' hu
          cases h
          obtain ⟨hP, _, h2, h3⟩ := hcall.owe _ _ _ _ _ hu
          exact (hlp b g s e s1 P hg' h1 hP).same h2 h3
        · cases h
    intro ρ a w hs hg fb k cs
    obtain ⟨e', a', w', hq, harr⟩ := loop_sound ih fuel s s' e h ρ a w hs hg fb k cs
    exact ⟨e', a', w', hq, .of_steps (.one step_loop) harr⟩
  | scope b ih =>
    intro s e s' h; simp only [dcode] at h
    intro ρ a w hs hg
    refine wp_scope_straight (wp_mono (ih s e s' h ρ a w hs hg) ?_)
    rintro e1 a1 w1 ⟨ρ1, hx, hs1, hp1⟩
    cases hx with
    | normal => exact ⟨ρ1, .normal, hs1, hp1⟩
    | exit i => exact ⟨ρ1, .exit i, hs1, hp1⟩
    | ret => exact ⟨ρ1, .ret, hs1, hp1⟩
  | exit id =>
    intro s e s' h; simp only [dcode] at h; cases h
    intro ρ a w hs hg
    exact wp_exit ⟨ρ, .exit id, hs, Post.refl hs.mem⟩
  | ret =>
    intro s e s' h; simp only [dcode] at h; cases h
    intro ρ a w hs hg
    exact wp_ret ⟨ρ, .ret, hs, Post.refl hs.mem⟩
  | goto l => intro s e s' h; simp [dcode] at h
  | refuse why => intro s e s' h; simp [dcode] at h
  | rangeFunc f ps x y _ _ => intro s e s' h; simp [dcode] at h

theorem dresult_sound {c : Ctx} (ok : CtxOk c) {ρ : Ren} {s : DSt} {a : Act} {w : World} (hs : StRel ρ s a w) {r : ResultVar} {v : DVal} (h : dresult c s r = some v) :
    ∃ V, ((match r with
      | .tmp t => pure (a.tmps.getD t undef)
      | .cell x t => do loadVar t (← asAddr (a.tmps.getD x undef)) : Sem Value)).run c.P w = .ok V w ∧ VRel ρ v V := by
  have hget : ∀ t, VRel ρ (s.fr.getD t) (a.tmps.getD t undef) := fun t => FrRel.getD (hs.fr t)
  cases r with
  | tmp t =>
    simp only [dresult] at h; cases h
    exact ⟨_, by simp, hget t⟩
  | cell x t =>
    simp only [dresult] at h
    split at h
    · rename_i i b o ht hx
      have hr := hget x
      rw [hx] at hr
      obtain ⟨sp, hsp, hv⟩ := hr.ptr_inv
      have hT := ok.ty t i ht
      by_cases ha : i.isAgg = true
      · rw [if_pos ha] at h
        simp only [Option.map_eq_some_iff] at h
        obtain ⟨cs, hcs, rfl⟩ := h
        obtain ⟨vs, g1, g2⟩ := run_loadCells_rel c.P hs.mem hsp hcs
        refine ⟨.agg vs.toArray, ?_, by simp only [VRel]; exact ⟨_, rfl, by simpa using g1⟩⟩
        simp only [hv, asAddr, Sem.run_bind, Sem.run_pure, Result.andThen_ok]
        simp [loadVar, hT.run_isAgg, ha, hT.run_sizeOf, g2]
      · rw [if_neg ha] at h
        split at h
        · rename_i v' hcs
          cases h
          obtain ⟨_, _, vs, g1, g2, g3⟩ := rcells_sound hs.mem hsp hcs
          obtain ⟨V, hV, hrel⟩ := g1.get 0 v (by simp)
          have hc := g3 0 V hV
          simp only [Spot.add, Nat.add_zero] at hc
          refine ⟨V, ?_, hrel⟩
          simp only [hv, asAddr, Sem.run_bind, Sem.run_pure, Result.andThen_ok]
          simp [loadVar, hT.run_isAgg, ha, hc]
        · cases h
    · cases h

theorem run_mapM_rel {P : Program} {w : World} {ρ : Ren} {α : Type} (f : α → Sem Value) (q : α → Option DVal) : ∀ (l : List α) (ds : List DVal),
    (∀ a ∈ l, ∀ d, q a = some d → ∃ V, (f a).run P w = .ok V w ∧ VRel ρ d V) → l.mapM q = some ds → ∃ vs, (l.mapM f).run P w = .ok vs w ∧ VsRel ρ ds vs
  | [], ds, _, h => by simp at h; subst h; exact ⟨[], by simp, .nil⟩
  | a :: l, ds, hf, h => by
    simp only [List.mapM_cons] at h
    cases hq : q a with
    | none => rw [hq] at h; simp at h
    | some d =>
      rw [hq] at h
      cases hl : l.mapM q with
      | none => rw [hl] at h; simp at h
      | some ds' =>
        rw [hl] at h; simp at h; subst h
        obtain ⟨V, g1, g2⟩ := hf a (by simp) d hq
        obtain ⟨vs, k1, k2⟩ := run_mapM_rel f q l ds' (fun x hx => hf x (by simp [hx])) hl
        exact ⟨V :: vs, by simp [List.mapM_cons, g1, k1], .cons g2 k2⟩

theorem dresults_mapM (c : Ctx) (s : DSt) : ∀ (l : List ResultVar) (vs : List DVal), dresults c s l = some vs → l.mapM (dresult c s) = some vs
  | [], vs, h => by simp [dresults] at h; subst h; rfl
  | r :: l, vs, h => by
    simp only [dresults] at h
    split at h
    · rename_i v vs' h1 h2
      cases h
      simp [List.mapM_cons, h1, dresults_mapM c s l vs' h2]
    · cases h

theorem tup_rel {ρ : Ren} {ds : List DVal} {vs : Array Value} (h : VsRel ρ ds vs.toList) : VRel ρ (tup ds) (if hs : vs.size = 1 then vs[0] else .tuple vs) := by
  have hl := h.length
  simp only [Array.length_toList] at hl
  by_cases h1 : vs.size = 1
  · rw [dif_pos h1]
    match ds, hl with
    | [d], _ =>
      simp only [tup]
      obtain ⟨v, hv, hr⟩ := h.get 0 d (by simp)
      have : vs[0]? = some v := by simpa using hv
      rw [Array.getElem?_eq_getElem (by omega)] at this
      cases this; exact hr
    | [], hl => simp at hl; omega
    | _ :: _ :: _, hl => simp at hl; omega
  · rw [dif_neg h1]
    match ds, hl with
    | [d], hl => simp at hl; omega
    | [], _ => simp only [tup, VRel]; exact ⟨vs, rfl, h⟩
    | _ :: _ :: _, _ => simp only [tup, VRel]; exact ⟨vs, rfl, h⟩

theorem replicate_undef (ρ : Ren) : ∀ n, VsRel ρ (List.replicate n dundef) (List.replicate n undef)
  | 0 => .nil
  | n + 1 => .cons (undef_rel ρ) (replicate_undef ρ n)

/-- A function's body. -/
theorem dbody_sound {c : Ctx} (ok : CtxOk c) {call : Callee} (hcall : CallSound c call) (hlp : LpOk c) (hreg : RegionSound c call) {fuel : Nat} {f : FuncId} {fn : Func} (hf : c.P.funcs[f]? = some fn) {args : List DVal} {m m' : DMem} {v : DVal} (h : dbody c call fuel fn args m = some (v, m')) :
    ∀ (ρ : Ren) (w : World) (A : Array Value), MRel ρ m w → GOk c ρ → VsRel ρ args A.toList →
    Calls c.P f A w fun e w' => ∃ V ρ', e = .returned V ∧ VRel ρ' v V ∧ Post ρ m w m' ρ' w' := by
  intro ρ w A hr hg ha
  unfold dbody at h
  split at h
  · cases h
  · rename_i code hb
    have hl := ha.length
    simp only [Array.length_toList] at hl
    have hst : StRel ρ ⟨Fr.init args fn.ntmps, m⟩ { tmps := A ++ Array.replicate (fn.ntmps - A.size) undef, defers := [] } w :=
      ⟨hr, FrRel.init (by
        simp only [Array.toList_append, Array.toList_replicate]
        rw [hl]
        exact ha.append (replicate_undef ρ _)), rfl⟩
    have key : ∀ (e : DExit) (s : DSt), dcode c call fuel code ⟨Fr.init args fn.ntmps, m⟩ = some (e, s) → (e = .normal ∨ e = .ret) →
        (match dresults c s fn.results.toList with | some vs => some (tup vs, s.m) | none => none) = some (v, m') →
        Calls c.P f A w fun e w' => ∃ V ρ', e = .returned V ∧ VRel ρ' v V ∧ Post ρ m w m' ρ' w' := by
      intro e s hcode he hres
      split at hres
      · rename_i vs hvs
        cases hres
        refine calls_of_wp hf hb (wp_mono (dcode_sound hcall hlp hreg fuel code _ e s hcode ρ _ w hst hg) ?_)
        rintro e1 a1 w1 ⟨ρ1, hx, hs1, hp1⟩
        obtain ⟨VS, k1, k2⟩ := run_mapM_rel (P := c.P) (w := w1) (ρ := ρ1) (fun r : ResultVar => match r with
            | .tmp t => pure (a1.tmps.getD t undef)
            | .cell x t => do loadVar t (← asAddr (a1.tmps.getD x undef))) (dresult c s) fn.results.toList vs
          (fun r _ d hd => dresult_sound ok hs1 hd) (dresults_mapM c s _ _ hvs)
        have hrun : (results fn a1.tmps).run c.P w1 = .ok (if hs : VS.toArray.size = 1 then VS.toArray[0] else .tuple VS.toArray) w1 := by
          unfold results
          rw [Array.mapM_eq_mapM_toList]
          simp only [Sem.run_bind, Sem.run_map]
          erw [k1]
          simp
        have hrel := tup_rel (vs := VS.toArray) (by simpa using k2)
        rcases he with rfl | rfl <;> cases hx <;> exact ⟨hs1.defers, _, hrun, _, ρ1, rfl, hrel, hp1⟩
      · cases hres
    split at h
    · rename_i s hcode; exact key .normal s hcode (.inl rfl) h
    · rename_i s hcode; exact key .ret s hcode (.inr rfl) h
    · cases h

theorem region_plain {c : Ctx} (ok : CtxOk c) (hpre : PreOk c) {call : Callee} (hcall : CallSound c call) {id : Nat} {ops : Array Oper} {s s' : DSt} (h : dregion c call ops false s = some s') : CodeTo c (.region id ops false) s .normal s' := by
  simp only [dregion] at h
  intro ρ a w hs hg
  refine wp_region ?_
  rw [List.range_eq_range']
  exact dseq_sound ok hpre hcall ops.size 0 s s' (by omega) (by simpa using h) ρ a w hs hg _ (fun ρ' a' w' h1 h2 => ⟨ρ', .normal, h1, h2⟩)

end
end Go.DM
