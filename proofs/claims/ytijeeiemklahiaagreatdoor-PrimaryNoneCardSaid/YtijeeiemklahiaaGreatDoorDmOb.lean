/-
  A deterministic machine over Go's code: calls that stand on what is proved later. What such a call owes is laid into the memory's list 'ob'; who has all that a run owes has the run's contract.
-/
import Derived.Test.YtijeeiemklahiaaGreatDoorDmDraw4
namespace Go.DM

def Ok (m : DMem) : Prop := ∀ p ∈ m.ob, p

/-- Nothing that was owed is forgotten. -/
def Owes (m m' : DMem) : Prop := ∀ p ∈ m.ob, p ∈ m'.ob

theorem Owes.refl (m : DMem) : Owes m m := fun _ h => h
theorem Owes.trans {a b c : DMem} (h : Owes a b) (h' : Owes b c) : Owes a c := fun p hp => h' p (h p hp)
theorem Owes.ok {a b : DMem} (h : Owes a b) (hb : Ok b) : Ok a := fun p hp => hb p (h p hp)
theorem Owes.of_eq {a b : DMem} (h : b.ob = a.ob) : Owes a b := fun p hp => by rw [h]; exact hp

theorem ob_put (m : DMem) (b : Nat) (o : DObj) : (m.put b o).ob = m.ob := rfl
theorem ob_alloc (m : DMem) (o : DObj) : (m.alloc o).ob = m.ob := rfl

theorem ob_wcells {m m' : DMem} {b o : Nat} {vs : List DVal} (h : wcells m b o vs = some m') : m'.ob = m.ob := by
  unfold wcells at h
  split at h
  · split at h
    · cases h; rfl
    · cases h
  · cases h

theorem ob_wmaybe {m m' : DMem} {a : Option (Nat × Nat)} {off : Nat} {vs : List DVal} (h : wmaybe m a off vs = some m') : m'.ob = m.ob := by
  unfold wmaybe at h
  split at h
  · cases h; rfl
  · exact ob_wcells h
  · cases h

theorem ob_dgrow {e : TypeId} {ie : TI} {a : Option (Nat × Nat)} {len cap : Nat} {md : Md} {n : Nat} {new : List DVal} {m m' : DMem} {v : DVal} (h : dgrow e ie a len cap md n new m = some (v, m')) : m'.ob = m.ob := by
  unfold dgrow at h
  split at h
  · simp only [Option.map_eq_some_iff] at h
    obtain ⟨m1, h1, h2⟩ := h
    cases h2
    exact ob_wmaybe h1
  · split at h
    · split at h
      · cases h
      · split at h
        · cases h; rfl
        · split at h
          · split at h
            · cases h; rfl
            · cases h
          · cases h
        · cases h
    · cases h

theorem ob_dappend {c : Ctx} {tys : List TypeId} {args : List DVal} {m m' : DMem} {v : DVal} (h : dappend c tys args m = some (v, m')) : m'.ob = m.ob := by
  unfold dappend at h
  split at h
  · split at h
    · split at h
      · cases h
      · split at h
        · exact ob_dgrow h
        · cases h
    · cases h
  · cases h

theorem ob_dcopy {c : Ctx} {tys : List TypeId} {args : List DVal} {m m' : DMem} {v : DVal} (h : dcopy c tys args m = some (v, m')) : m'.ob = m.ob := by
  unfold dcopy at h
  split at h
  · split at h
    · split at h
      · cases h
      · split at h
        · cases h
        · simp only [Option.map_eq_some_iff] at h
          obtain ⟨m1, h1, h2⟩ := h
          cases h2
          exact ob_wmaybe h1
    · cases h
  · cases h

theorem ob_map {c : Ctx} {ev : Operand → Option DVal} {m m' : DMem} {t : TypeId} {x k vv : Operand} {v : DVal} (h : (match c.ty t, ev x, ev k, ev vv with
      | some ⟨.map kt _, _, _, _⟩, some (.map (some r)), some k, some v =>
        match keyOk c kt k, m.get r with
        | true, some (.map es ver) => match dins k v es with
          | some es' => some (dundef, m.put r (.map es' (ver + 1)))
          | none => none
        | _, _ => none
      | _, _, _, _ => none) = some (v, m')) : m'.ob = m.ob := by
  split at h
  · split at h
    · split at h
      · cases h; rfl
      · cases h
    · cases h
  · cases h

theorem ob_dheavy {c : Ctx} {ev : Operand → Option DVal} {m m' : DMem} {op : Op} {v : DVal} (h : dheavy c ev m op = some (v, m')) : m'.ob = m.ob := by
  cases op with
  | store t x vv =>
    simp only [dheavy] at h
    split at h
    · split at h
      · simp only [Option.map_eq_some_iff] at h
        obtain ⟨m1, h1, h2⟩ := h
        cases h2
        exact ob_wcells h1
      · cases h
    · cases h
  | mapUpdate t x k vv => exact ob_map h
  | insert t x k vv => exact ob_map h
  | convert s d x =>
    simp only [dheavy] at h
    split at h
    · split at h
      · cases h; rfl
      · cases h
    · cases h
  | call cl =>
    obtain ⟨callee, args, tys⟩ := cl
    cases callee with
    | builtin b =>
      cases b with
      | append =>
        simp only [dheavy] at h
        split at h
        · exact ob_dappend h
        · cases h
      | copy =>
        simp only [dheavy] at h
        split at h
        · exact ob_dcopy h
        · cases h
      | _ => simp [dheavy] at h
    | _ => simp [dheavy] at h
  | _ => simp [dheavy] at h

/-- Two callees, of which the second one does the same wherever all is had that is owed. -/
def Pair (call callG : Callee) : Prop := ∀ f args m v m', call f args m = some (v, m') → Owes m m' ∧ (Ok m' → callG f args m = some (v, m'))

variable {c : Ctx} {call callG : Callee}

theorem pair_dexec (hp : Pair call callG) {ev : Operand → Option DVal} {m : DMem} {op : Op} {r : Did} (h : dexec c call ev m op = some r) :
    Owes m r.m ∧ (Ok r.m → dexec c callG ev m op = some r) := by
  unfold dexec at h ⊢
  cases h1 : dpure c ev op with
  | some v => rw [h1] at h; cases h; exact ⟨Owes.refl _, fun _ => rfl⟩
  | none =>
    rw [h1] at h
    simp only at h ⊢
    cases h2 : dread c ev m op with
    | some p => rw [h2] at h; obtain ⟨v, b⟩ := p; cases h; exact ⟨Owes.refl _, fun _ => rfl⟩
    | none =>
      rw [h2] at h
      simp only at h ⊢
      cases h3 : dalloc c ev m.size op with
      | some p => rw [h3] at h; obtain ⟨v, o⟩ := p; cases h; exact ⟨Owes.of_eq rfl, fun _ => rfl⟩
      | none =>
        rw [h3] at h
        simp only at h ⊢
        cases h4 : dheavy c ev m op with
        | some p => rw [h4] at h; obtain ⟨v, m1⟩ := p; cases h; exact ⟨Owes.of_eq (ob_dheavy h4), fun _ => rfl⟩
        | none =>
          rw [h4] at h
          simp only at h ⊢
          cases h5 : dtarget ev op with
          | none => rw [h5] at h; cases h
          | some p =>
            rw [h5] at h
            obtain ⟨f, as⟩ := p
            simp only [Option.map_eq_some_iff] at h ⊢
            obtain ⟨⟨v, m1⟩, h6, h7⟩ := h
            cases h7
            obtain ⟨g1, g2⟩ := hp _ _ _ _ _ h6
            exact ⟨g1, fun ho => ⟨(v, m1), g2 ho, rfl⟩⟩

theorem pair_dstep (hp : Pair call callG) {ops : Array Oper} {o : Oper} {s s' : DSt} {a : Option Nat} (h : dstep c call ops o s = some (s', a)) :
    Owes s.m s'.m ∧ (Ok s'.m → dstep c callG ops o s = some (s', a)) := by
  rw [dstep_eq] at h ⊢
  cases hw : dwanted ops s.fr o with
  | false => rw [hw] at h; cases h; exact ⟨Owes.refl _, fun _ => rfl⟩
  | true =>
    rw [hw] at h
    simp only at h ⊢
    cases hx : dexec c call (dev c.glob s.fr) s.m o.op with
    | none => rw [hx] at h; cases h
    | some r =>
      rw [hx] at h
      cases h
      obtain ⟨g1, g2⟩ := pair_dexec hp hx
      exact ⟨g1, fun ho => by rw [g2 ho]⟩

theorem pair_dhint (hp : Pair call callG) {o : Oper} {s s' : DSt} (h : dhint c call o s = some s') : Owes s.m s'.m ∧ (Ok s'.m → dhint c callG o s = some s') := by
  unfold dhint at h ⊢
  cases hh : c.hint o with
  | none => rw [hh] at h; cases h; exact ⟨Owes.refl _, fun _ => rfl⟩
  | some v =>
    rw [hh] at h
    simp only at h ⊢
    cases hd : o.dst with
    | none => rw [hd] at h; cases h
    | some d =>
      rw [hd] at h
      obtain ⟨fr, m⟩ := s
      simp only at h ⊢
      cases hu : call none [fr.getD d, v] m with
      | none => rw [hu] at h; cases h
      | some p =>
        obtain ⟨u, m'⟩ := p
        rw [hu] at h; cases h
        obtain ⟨g1, g2⟩ := hp _ _ _ _ _ hu
        exact ⟨g1, fun hk => by rw [g2 hk]⟩

theorem pair_dseq (hp : Pair call callG) {ops : Array Oper} : ∀ {l : List Oper} {s s' : DSt}, dseq c call ops l s = some s' → Owes s.m s'.m ∧ (Ok s'.m → dseq c callG ops l s = some s')
  | [], s, s', h => by simp only [dseq] at h; cases h; exact ⟨Owes.refl _, fun _ => rfl⟩
  | o :: l, s, s', h => by
    simp only [dseq] at h ⊢
    cases h1 : dstep c call ops o s with
    | none => rw [h1] at h; cases h
    | some p =>
      obtain ⟨s1, a⟩ := p
      rw [h1] at h
      obtain ⟨g1, g2⟩ := pair_dstep hp h1
      simp only at h
      cases hh : dhint c call o s1 with
      | none => rw [hh] at h; cases h
      | some s2 =>
        rw [hh] at h
        obtain ⟨j1, j2⟩ := pair_dhint hp hh
        obtain ⟨k1, k2⟩ := pair_dseq hp h
        exact ⟨(g1.trans j1).trans k1, fun ho => by rw [g2 (j1.ok (k1.ok ho))]; simp only [j2 (k1.ok ho)]; exact k2 ho⟩

theorem pair_dgo (hp : Pair call callG) {ops : Array Oper} {clo : T Nat} : ∀ {l : List Nat} {pend : List (Nat × Nat × Nat)} {s s' : DSt}, dgo c call ops clo l pend s = some s' → Owes s.m s'.m ∧ (Ok s'.m → dgo c callG ops clo l pend s = some s')
  | [], _, s, s', h => by simp only [dgo] at h; cases h; exact ⟨Owes.refl _, fun _ => rfl⟩
  | i :: l, pend, s, s', h => by
    simp only [dgo] at h ⊢
    cases ho : ops[i]? with
    | none => rw [ho] at h; cases h
    | some o =>
      rw [ho] at h
      simp only at h ⊢
      cases h1 : dstep c call ops o s with
      | none => rw [h1] at h; cases h
      | some p =>
        obtain ⟨s1, a⟩ := p
        rw [h1] at h
        simp only at h
        obtain ⟨g1, g2⟩ := pair_dstep hp h1
        have fin : ∀ {pend'}, dgo c call ops clo l pend' s1 = some s' → Owes s.m s'.m ∧ (Ok s'.m → dstep c callG ops o s = some (s1, a) ∧ dgo c callG ops clo l pend' s1 = some s') := by
          intro pend' h'
          obtain ⟨k1, k2⟩ := pair_dgo hp h'
          exact ⟨g1.trans k1, fun hk => ⟨g2 (k1.ok hk), k2 hk⟩⟩
        cases hh : isHeavy o.op with
        | true =>
          rw [hh] at h
          simp only at h
          cases hpk : pendOk s1.m ((clo.get i).getD 0) pend with
          | false => rw [hpk] at h; cases h
          | true =>
            rw [hpk] at h
            obtain ⟨k1, k2⟩ := fin h
            exact ⟨k1, fun hk => by obtain ⟨e1, e2⟩ := k2 hk; rw [e1]; simp only [hpk]; exact e2⟩
        | false =>
          rw [hh] at h
          simp only at h
          cases a with
          | none =>
            obtain ⟨k1, k2⟩ := fin h
            exact ⟨k1, fun hk => by obtain ⟨e1, e2⟩ := k2 hk; rw [e1]; exact e2⟩
          | some b =>
            simp only at h
            cases hv : s1.m.ver b with
            | none => rw [hv] at h; cases h
            | some v =>
              rw [hv] at h
              obtain ⟨k1, k2⟩ := fin h
              exact ⟨k1, fun hk => by obtain ⟨e1, e2⟩ := k2 hk; rw [e1]; simp only [hv]; exact e2⟩

theorem pair_dregion (hp : Pair call callG) {ops : Array Oper} {draw : Bool} {s s' : DSt} (h : dregion c call ops draw s = some s') : Owes s.m s'.m ∧ (Ok s'.m → dregion c callG ops draw s = some s') := by
  unfold dregion at h ⊢
  cases draw with
  | false => exact pair_dseq hp h
  | true =>
    simp only at h ⊢
    cases hk : okOrder ops (orderGo ops ops.size 0) (closure ops (orderGo ops ops.size 0) .leaf) with
    | false => rw [hk] at h; cases h
    | true => rw [hk] at h; exact pair_dgo hp h

theorem pair_loop {b bG : DSt → Option (DExit × DSt)} (hb : ∀ s e s', b s = some (e, s') → Owes s.m s'.m ∧ (Ok s'.m → bG s = some (e, s'))) :
    ∀ {n : Nat} {s s' : DSt} {e : DExit}, loopN b n s = some (e, s') → Owes s.m s'.m ∧ (Ok s'.m → loopN bG n s = some (e, s'))
  | 0, s, s', e, h => by simp [loopN] at h
  | n + 1, s, s', e, h => by
    simp only [loopN] at h ⊢
    cases h1 : b s with
    | none => rw [h1] at h; cases h
    | some p =>
      obtain ⟨x, s1⟩ := p
      rw [h1] at h
      obtain ⟨g1, g2⟩ := hb _ _ _ h1
      cases x with
      | normal =>
        simp only at h
        obtain ⟨k1, k2⟩ := pair_loop hb h
        exact ⟨g1.trans k1, fun hk => by rw [g2 (k1.ok hk)]; exact k2 hk⟩
      | exit i => simp only at h; cases h; exact ⟨g1, fun hk => by rw [g2 hk]⟩
      | ret => simp only at h; cases h; exact ⟨g1, fun hk => by rw [g2 hk]⟩

theorem pair_dcode (hp : Pair call callG) {fuel : Nat} : ∀ (code : Code) {s s' : DSt} {e : DExit}, dcode c call fuel code s = some (e, s') → Owes s.m s'.m ∧ (Ok s'.m → dcode c callG fuel code s = some (e, s')) := by
  intro code
  induction code with
  | skip => intro s s' e h; simp only [dcode] at h ⊢; cases h; exact ⟨Owes.refl _, fun _ => rfl⟩
  | label l => intro s s' e h; simp only [dcode] at h ⊢; cases h; exact ⟨Owes.refl _, fun _ => rfl⟩
  | exit id => intro s s' e h; simp only [dcode] at h ⊢; cases h; exact ⟨Owes.refl _, fun _ => rfl⟩
  | ret => intro s s' e h; simp only [dcode] at h ⊢; cases h; exact ⟨Owes.refl _, fun _ => rfl⟩
  | region id ops draw =>
    intro s s' e h
    simp only [dcode] at h ⊢
    cases h1 : dregion c call ops draw s with
    | none => rw [h1] at h; cases h
    | some s1 =>
      rw [h1] at h; cases h
      obtain ⟨g1, g2⟩ := pair_dregion hp h1
      exact ⟨g1, fun hk => by rw [g2 hk]⟩
  | seq a b iha ihb =>
    intro s s' e h
    simp only [dcode] at h ⊢
    cases h1 : dcode c call fuel a s with
    | none => rw [h1] at h; cases h
    | some p =>
      obtain ⟨x, s1⟩ := p
      rw [h1] at h
      obtain ⟨g1, g2⟩ := iha h1
      cases x with
      | normal =>
        simp only at h
        obtain ⟨k1, k2⟩ := ihb h
        exact ⟨g1.trans k1, fun hk => by rw [g2 (k1.ok hk)]; exact k2 hk⟩
      | exit i => simp only at h; cases h; exact ⟨g1, fun hk => by rw [g2 hk]⟩
      | ret => simp only at h; cases h; exact ⟨g1, fun hk => by rw [g2 hk]⟩
  | cond q a b iha ihb =>
    intro s s' e h
    simp only [dcode] at h ⊢
    split at h
    · exact iha h
    · exact ihb h
    · cases h
  | block id b ih =>
    intro s s' e h
    simp only [dcode] at h ⊢
    cases h1 : dcode c call fuel b s with
    | none => rw [h1] at h; cases h
    | some p =>
      obtain ⟨x, s1⟩ := p
      rw [h1] at h
      obtain ⟨g1, g2⟩ := ih h1
      cases x with
      | normal => simp only at h; cases h; exact ⟨g1, fun hk => by rw [g2 hk]⟩
      | ret => simp only at h; cases h; exact ⟨g1, fun hk => by rw [g2 hk]⟩
      | exit i =>
        simp only at h
        cases hi : i == id with
        | true => rw [hi] at h; cases h; exact ⟨g1, fun hk => by rw [g2 hk]; simp only [hi]⟩
        | false => rw [hi] at h; cases h; exact ⟨g1, fun hk => by rw [g2 hk]; simp only [hi]⟩
  | loop b ih =>
    intro s s' e h
    simp only [dcode] at h ⊢
    exact pair_loop (fun _ _ _ h' => ih h') h
  | scope b ih => intro s s' e h; simp only [dcode] at h ⊢; exact ih h
  | _ => intro s s' e h; simp [dcode] at h

theorem pair_dbody (hp : Pair call callG) {fuel : Nat} {fn : Func} {args : List DVal} {m m' : DMem} {v : DVal} (h : dbody c call fuel fn args m = some (v, m')) :
    Owes m m' ∧ (Ok m' → dbody c callG fuel fn args m = some (v, m')) := by
  unfold dbody at h ⊢
  cases hb : fn.body with
  | none => rw [hb] at h; cases h
  | some code =>
    rw [hb] at h
    simp only at h ⊢
    cases h1 : dcode c call fuel code ⟨Fr.init args fn.ntmps, m⟩ with
    | none => rw [h1] at h; cases h
    | some p =>
      obtain ⟨x, s1⟩ := p
      rw [h1] at h
      obtain ⟨g1, g2⟩ := pair_dcode hp code h1
      cases x with
      | exit i => cases h
      | normal =>
        simp only at h
        cases hr : dresults c s1 fn.results.toList with
        | none => rw [hr] at h; cases h
        | some vs => rw [hr] at h; cases h; exact ⟨g1, fun hk => by rw [g2 hk]; simp only [hr]⟩
      | ret =>
        simp only at h
        cases hr : dresults c s1 fn.results.toList with
        | none => rw [hr] at h; cases h
        | some vs => rw [hr] at h; cases h; exact ⟨g1, fun hk => by rw [g2 hk]; simp only [hr]⟩

open Classical in
/-- The machine in which a call that stands on what is proved later is there just where all is had that is owed. -/
noncomputable def dcallG (c : Ctx) : Nat → Callee
  | 0, _, _, _ => none
  | n + 1, f, args, m =>
    match f with
    | none => match dowe args m with
      | some (v, m') => if Ok m' then some (v, m') else none
      | none => none
    | some f => match c.orc f with
      | some g => match g args m with
        | some (v, m') => if Ok m' then some (v, m') else none
        | none => none
      | none => match c.fn f with
        | some fn => dbody c (dcallG c n) n fn args m
        | none => none

theorem dowe_owes {args : List DVal} {m m' : DMem} {v : DVal} (h : dowe args m = some (v, m')) : Owes m m' := by
  unfold dowe at h
  split at h
  · cases h; intro p hp; exact List.mem_cons_of_mem _ hp
  · cases h

/-- Calls that owe something. -/
structure FnsOb (c : Ctx) : Prop where
  fn : ∀ f fn, c.fn f = some fn → c.P.funcs[f]? = some fn ∧ ∀ A w, (callFunc f A).run c.P w = .ok (.enter f A) w
  orc : ∀ f g, c.orc f = some g → ∀ args m v m', g args m = some (v, m') → Owes m m' ∧ (Ok m' → CallTo c f args m v m')

theorem pair_dcall (fok : FnsOb c) : ∀ n, Pair (dcall c n) (dcallG c n)
  | 0 => fun f args m v m' h => by cases h
  | n + 1 => fun f args m v m' h => by
    unfold dcall at h
    unfold dcallG
    cases f with
    | none =>
      simp only at h ⊢
      exact ⟨dowe_owes h, fun hk => by rw [h]; simp only [if_pos hk]⟩
    | some f =>
      simp only at h ⊢
      cases ho : c.orc f with
      | some g =>
        rw [ho] at h
        simp only at h ⊢
        obtain ⟨h1, _⟩ := fok.orc f g ho args m v m' h
        exact ⟨h1, fun hk => by rw [h]; simp only [if_pos hk]⟩
      | none =>
        rw [ho] at h
        simp only at h ⊢
        cases hf : c.fn f with
        | none => rw [hf] at h; cases h
        | some fn => rw [hf] at h; exact pair_dbody (pair_dcall fok n) h

theorem dcallG_sound (ok : CtxOk c) (fok : FnsOb c) : ∀ n, CallSound c (dcallG c n)
  | 0 => ⟨fun f args m v m' h => by (cases h), fun v v' m u m' h => by (cases h)⟩
  | n + 1 => by
    refine ⟨fun f args m v m' h => ?_, fun v v' m u m' h => ?_⟩
    · unfold dcallG at h
      simp only at h
      cases ho : c.orc f with
      | some g =>
        rw [ho] at h
        simp only at h
        cases hg : g args m with
        | none => rw [hg] at h; cases h
        | some p =>
          obtain ⟨v1, m1⟩ := p
          rw [hg] at h
          simp only at h
          split at h
          · rename_i hk
            cases h
            exact (fok.orc f g ho args m _ _ hg).2 hk
          · cases h
      | none =>
        rw [ho] at h
        simp only at h
        cases hf : c.fn f with
        | none => rw [hf] at h; cases h
        | some fn =>
          rw [hf] at h
          obtain ⟨h1, h2⟩ := fok.fn f fn hf
          intro ρ w A hm hg hA
          exact ⟨h2 A w, dbody_sound ok (region_sound ok _ (dcallG_sound ok fok n)) h1 h ρ w A hm hg hA⟩
    · unfold dcallG at h
      simp only [dowe] at h
      split at h
      · rename_i hk
        cases h
        exact ⟨(hk _ (List.mem_cons_self ..)).symm, rfl, rfl⟩
      · cases h

/-- WHO HAS ALL THAT A RUN OWES, HAS THE RUN. -/
theorem machine_owes (ok : CtxOk c) (fok : FnsOb c) {n : Nat} {f : FuncId} {args : List DVal} {m m' : DMem} {v : DVal} (h : dcall c n (some f) args m = some (v, m')) :
    Owes m m' ∧ (Ok m' → CallTo c f args m v m') := by
  obtain ⟨h1, h2⟩ := pair_dcall fok n _ _ _ _ _ h
  exact ⟨h1, fun hk => (dcallG_sound ok fok n).fn _ _ _ _ _ (h2 hk)⟩

end Go.DM
