/-
  A deterministic machine over Go's code: calls that stand on what is proved later. What such a call owes is laid into the memory's list 'ob'; who has all that a run owes has the run's contract.
-/
import Derived.Test.YtijeeiemklahiaaGreatDoorDmDraw4
namespace Go.DM
noncomputable section

def Ok (m : DMem) : Prop := ∀ p ∈ m.ob, p

/-- Nothing that was owed is forgotten. -/
def Owes (m m' : DMem) : Prop := ∀ p ∈ m.ob, p ∈ m'.ob

theorem Owes.refl (m : DMem) : Owes m m := fun _ h => h
theorem Owes.trans {a b c : DMem} (h : Owes a b) (h' : Owes b c) : Owes a c := fun p hp => h' p (h p hp)
theorem Owes.ok {a b : DMem} (h : Owes a b) (hb : Ok b) : Ok a := fun p hp => hb p (h p hp)
theorem Owes.of_eq {a b : DMem} (h : b.ob = a.ob) : Owes a b := fun p hp => by rw [h]; exact hp

theorem ob_put (m : DMem) (b : Nat) (o : DObj) : (m.put b o).ob = m.ob := rfl
theorem ob_alloc (m : DMem) (o : DObj) : (m.alloc o).ob = m.ob := rfl

theorem ob_wcells {m m' : DMem} {b o : Nat} {vs : List DVal} (h : wcells m b o vs = some m') : m'.ob = m.ob := by
  unfold wcells at h
  split at h
  · split at h
    · cases h; rfl
    · cases h
  · cases h

theorem ob_wmaybe {m m' : DMem} {a : Option (Nat × Nat)} {off : Nat} {vs : List DVal} (h : wmaybe m a off vs = some m') : m'.ob = m.ob := by
  unfold wmaybe at h
  split at h
  · cases h; rfl
  · exact ob_wcells h
  · cases h

theorem ob_dgrow {e : TypeId} {ie : TI} {a : Option (Nat × Nat)} {len cap : Nat} {md : Md} {n : Nat} {new : List DVal} {m m' : DMem} {v : DVal} (h : dgrow e ie a len cap md n new m = some (v, m')) : m'.ob = m.ob := by
  unfold dgrow at h
  split at h
  · simp only [Option.map_eq_some_iff] at h
    obtain ⟨m1, h1, h2⟩ := h
    cases h2
    exact ob_wmaybe h1
  · split at h
    · split at h
      · cases h
      · split at h
        · cases h; rfl
        · split at h
          · split at h
            · cases h; rfl
            · cases h
          · cases h
        · cases h
    · cases h

theorem ob_dappend {c : Ctx} {tys : List TypeId} {args : List DVal} {m m' : DMem} {v : DVal} (h : dappend c tys args m = some (v, m')) : m'.ob = m.ob := by
  unfold dappend at h
  split at h
  · split at h
    · split at h
      · cases h
      · split at h
        · exact ob_dgrow h
        · cases h
    · cases h
  · cases h

theorem ob_dcopy {c : Ctx} {tys : List TypeId} {args : List DVal} {m m' : DMem} {v : DVal} (h : dcopy c tys args m = some (v, m')) : m'.ob = m.ob := by
  unfold dcopy at h
  split at h
  · split at h
    · split at h
      · cases h
      · split at h
        · cases h
        · simp only [Option.map_eq_some_iff] at h
          obtain ⟨m1, h1, h2⟩ := h
          cases h2
          exact ob_wmaybe h1
    · cases h
  · cases h

theorem ob_map {c : Ctx} {ev : Operand → Option DVal} {m m' : DMem} {t : TypeId} {x k vv : Operand} {v : DVal} (h : (match c.ty t, ev x, ev k, ev vv with
      | some ⟨.map kt _, _, _, _⟩, some (.map (some r)), some k, some v =>
        match keyOk c kt k, m.get r with
        | true, some (.map es ver) => match dins k v es with
          | some es' => some (dundef, m.put r (.map es' (ver + 1)))
          | none => none
        | _, _ => none
      | _, _, _, _ => none) = some (v, m')) : m'.ob = m.ob := by
  split at h
  · split at h
    · split at h
      · cases h; rfl
      · cases h
    · cases h
  · cases h

theorem ob_dheavy {c : Ctx} {ev : Operand → Option DVal} {m m' : DMem} {op : Op} {v : DVal} (h : dheavy c ev m op = some (v, m')) : m'.ob = m.ob := by
  cases op with
  | store t x vv =>
    simp only [dheavy] at h
    split at h
    · split at h
      · simp only [Option.map_eq_some_iff] at h
        obtain ⟨m1, h1, h2⟩ := h
        cases h2
        exact ob_wcells h1
      · cases h
    · cases h
  | mapUpdate t x k vv => exact ob_map h
  | insert t x k vv => exact ob_map h
  | convert s d x =>
    simp only [dheavy] at h
    split at h
    · split at h
      · cases h; rfl
      · cases h
    · cases h
  | call cl =>
    obtain ⟨callee, args, tys⟩ := cl
    cases callee with
    | builtin b =>
      cases b with
      | append =>
        simp only [dheavy] at h
        split at h
        · exact ob_dappend h
        · cases h
      | copy =>
        simp only [dheavy] at h
        split at h
        · exact ob_dcopy h
        · cases h
      | _ => simp [dheavy] at h
    | _ => simp [dheavy] at h
  | _ => simp [dheavy] at h

/-- Two callees, of which the second one does the same wherever all is had that is owed. -/
def Pair (call callG : Callee) : Prop := ∀ f args m v m', call f args m = some (v, m') → Owes m m' ∧ (Ok m' → callG f args m = some (v, m'))

variable {c : Ctx} {call callG : Callee}

theorem pair_dexec (hp : Pair call callG) {ev : Operand → Option DVal} {m : DMem} {op : Op} {r : Did} (h : dexec c call ev m op = some r) :
    Owes m r.m ∧ (Ok r.m → dexec c callG ev m op = some r) := by
  unfold dexec at h ⊢
  cases h1 : dpure c ev op with
  | some v => rw [h1] at h; cases h; exact ⟨Owes.refl _, fun _ => rfl⟩
  | none =>
    rw [h1] at h
    simp only at h ⊢
    cases h2 : dread c ev m op with
    | some p => rw [h2] at h; obtain ⟨v, b⟩ := p; cases h; exact ⟨Owes.refl _, fun _ => rfl⟩
    | none =>
      rw [h2] at h
      simp only at h ⊢
      cases h3 : dalloc c ev m.size op with
      | some p => rw [h3] at h; obtain ⟨v, o⟩ := p; cases h; exact ⟨Owes.of_eq rfl, fun _ => rfl⟩
      | none =>
        rw [h3] at h
        simp only at h ⊢
        cases h4 : dheavy c ev m op with
        | some p => rw [h4] at h; obtain ⟨v, m1⟩ := p; cases h; exact ⟨Owes.of_eq (ob_dheavy h4), fun _ => rfl⟩
        | none =>
          rw [h4] at h
          simp only at h ⊢
          cases h5 : dtarget ev op with
          | none => rw [h5] at h; cases h
          | some p =>
            rw [h5] at h
            obtain ⟨f, as⟩ := p
            simp only [Option.map_eq_some_iff] at h ⊢
            obtain ⟨⟨v, m1⟩, h6, h7⟩ := h
            cases h7
            obtain ⟨g1, g2⟩ := hp _ _ _ _ _ h6
            exact ⟨g1, fun ho => ⟨(v, m1), g2 ho, rfl⟩⟩

theorem pair_dstep (hp : Pair call callG) {ops : Array Oper} {o : Oper} {s s' : DSt} {a : Option Nat} (h : dstep c call ops o s = some (s', a)) :
    Owes s.m s'.m ∧ (Ok s'.m → dstep c callG ops o s = some (s', a)) := by
  rw [dstep_eq] at h ⊢
  cases hw : dwanted ops s.fr o with
  | false => rw [hw] at h; cases h; exact ⟨Owes.refl _, fun _ => rfl⟩
  | true =>
    rw [hw] at h
    simp only at h ⊢
    cases hx : dexec c call (dev c.glob s.fr) s.m o.op with
    | none => rw [hx] at h; cases h
    | some r =>
      rw [hx] at h
      cases h
      obtain ⟨g1, g2⟩ := pair_dexec hp hx
      exact ⟨g1, fun ho => by rw [g2 ho]⟩

theorem pair_dhint (hp : Pair call callG) {o : Oper} {s s' : DSt} (h : dhint c call o s = some s') : Owes s.m s'.m ∧ (Ok s'.m → dhint c callG o s = some s') := by
  unfold dhint at h ⊢
  cases hh : c.hint o with
  | none => rw [hh] at h; cases h; exact ⟨Owes.refl _, fun _ => rfl⟩
  | some v =>
    rw [hh] at h
    simp only at h ⊢
    cases hd : o.dst with
    | none => rw [hd] at h; cases h
    | some d =>
      rw [hd] at h
      obtain ⟨fr, m⟩ := s
      simp only at h ⊢
      cases hu : call (.owe (fr.getD d = v)) [v] m with
      | none => rw [hu] at h; cases h
      | some p =>
        obtain ⟨u, m'⟩ := p
        rw [hu] at h; cases h
        obtain ⟨g1, g2⟩ := hp _ _ _ _ _ hu
        exact ⟨g1, fun hk => by rw [g2 hk]⟩

theorem pair_dnext (hp : Pair call callG) {ops : Array Oper} {o : Oper} {s s' : DSt} (h : dnext c call ops o s = some s') : Owes s.m s'.m ∧ (Ok s'.m → dnext c callG ops o s = some s') := by
  unfold dnext at h ⊢
  cases hq : c.pre o with
  | none =>
    rw [hq] at h
    simp only at h ⊢
    cases h1 : dstep c call ops o s with
    | none => rw [h1] at h; cases h
    | some p =>
      obtain ⟨s1, a⟩ := p
      rw [h1] at h
      simp only at h
      obtain ⟨g1, g2⟩ := pair_dstep hp h1
      obtain ⟨j1, j2⟩ := pair_dhint hp h
      exact ⟨g1.trans j1, fun hk => by rw [g2 (j1.ok hk)]; exact j2 hk⟩
  | some v =>
    rw [hq] at h
    obtain ⟨fr, m⟩ := s
    simp only at h ⊢
    cases hd : dwanted ops fr o with
    | false => rw [hd] at h; cases h; exact ⟨Owes.refl _, fun _ => rfl⟩
    | true =>
      rw [hd] at h
      simp only at h ⊢
      cases hv : v (dev c.glob fr) m with
      | none => rw [hv] at h; cases h
      | some y =>
        rw [hv] at h
        simp only at h ⊢
        obtain ⟨y, P⟩ := y
        simp only at h ⊢
        cases hu : call (.owe P) [y] m with
        | none => rw [hu] at h; cases h
        | some p =>
          obtain ⟨u, m'⟩ := p
          rw [hu] at h; cases h
          obtain ⟨g1, g2⟩ := hp _ _ _ _ _ hu
          exact ⟨g1, fun hk => by rw [g2 hk]⟩

theorem pair_dseq (hp : Pair call callG) {ops : Array Oper} : ∀ {l : List Oper} {s s' : DSt}, dseq c call ops l s = some s' → Owes s.m s'.m ∧ (Ok s'.m → dseq c callG ops l s = some s')
  | [], s, s', h => by simp only [dseq] at h; cases h; exact ⟨Owes.refl _, fun _ => rfl⟩
  | o :: l, s, s', h => by
    simp only [dseq] at h ⊢
    cases h1 : dnext c call ops o s with
    | none => rw [h1] at h; cases h
    | some s1 =>
      rw [h1] at h
      obtain ⟨g1, g2⟩ := pair_dnext hp h1
      obtain ⟨k1, k2⟩ := pair_dseq hp h
      exact ⟨g1.trans k1, fun ho => by rw [g2 (k1.ok ho)]; exact k2 ho⟩

theorem pair_dgo (hp : Pair call callG) {ops : Array Oper} {clo : T Nat} : ∀ {l : List Nat} {pend : List (Nat × Nat × Nat)} {s s' : DSt}, dgo c call ops clo l pend s = some s' → Owes s.m s'.m ∧ (Ok s'.m → dgo c callG ops clo l pend s = some s')
  | [], _, s, s', h => by simp only [dgo] at h; cases h; exact ⟨Owes.refl _, fun _ => rfl⟩
  | i :: l, pend, s, s', h => by
    simp only [dgo] at h ⊢
    cases ho : ops[i]? with
    | none => rw [ho] at h; cases h
    | some o =>
      rw [ho] at h
      simp only at h ⊢
      cases h1 : dstep c call ops o s with
      | none => rw [h1] at h; cases h
      | some p =>
        obtain ⟨s1, a⟩ := p
        rw [h1] at h
        simp only at h
        obtain ⟨g1, g2⟩ := pair_dstep hp h1
        have fin : ∀ {pend'}, dgo c call ops clo l pend' s1 = some s' → Owes s.m s'.m ∧ (Ok s'.m → dstep c callG ops o s = some (s1, a) ∧ dgo c callG ops clo l pend' s1 = some s') := by
          intro pend' h'
          obtain ⟨k1, k2⟩ := pair_dgo hp h'
          exact ⟨g1.trans k1, fun hk => ⟨g2 (k1.ok hk), k2 hk⟩⟩
        cases hh : isHeavy o.op with
        | true =>
          rw [hh] at h
          simp only at h
          cases hpk : pendOk s1.m ((clo.get i).getD 0) pend with
          | false => rw [hpk] at h; cases h
          | true =>
            rw [hpk] at h
            obtain ⟨k1, k2⟩ := fin h
            exact ⟨k1, fun hk => by obtain ⟨e1, e2⟩ := k2 hk; rw [e1]; simp only [hpk]; exact e2⟩
        | false =>
          rw [hh] at h
          simp only at h
          cases a with
          | none =>
            obtain ⟨k1, k2⟩ := fin h
            exact ⟨k1, fun hk => by obtain ⟨e1, e2⟩ := k2 hk; rw [e1]; exact e2⟩
          | some b =>
            simp only at h
            cases hv : s1.m.ver b with
            | none => rw [hv] at h; cases h
            | some v =>
              rw [hv] at h
              obtain ⟨k1, k2⟩ := fin h
              exact ⟨k1, fun hk => by obtain ⟨e1, e2⟩ := k2 hk; rw [e1]; simp only [hv]; exact e2⟩

theorem pair_dregion (hp : Pair call callG) {ops : Array Oper} {draw : Bool} {s s' : DSt} (h : dregion c call ops draw s = some s') : Owes s.m s'.m ∧ (Ok s'.m → dregion c callG ops draw s = some s') := by
  unfold dregion at h ⊢
  cases draw with
  | false => exact pair_dseq hp h
  | true =>
    simp only at h ⊢
    cases hk : okOrder ops (orderGo ops ops.size 0) (closure ops (orderGo ops ops.size 0) .leaf) with
    | false => rw [hk] at h; cases h
    | true => rw [hk] at h; exact pair_dgo hp h

theorem pair_loop {b bG : DSt → Option (DExit × DSt)} (hb : ∀ s e s', b s = some (e, s') → Owes s.m s'.m ∧ (Ok s'.m → bG s = some (e, s'))) :
    ∀ {n : Nat} {s s' : DSt} {e : DExit}, loopN b n s = some (e, s') → Owes s.m s'.m ∧ (Ok s'.m → loopN bG n s = some (e, s'))
  | 0, s, s', e, h => by simp [loopN] at h
  | n + 1, s, s', e, h => by
    simp only [loopN] at h ⊢
    cases h1 : b s with
    | none => rw [h1] at h; cases h
    | some p =>
      obtain ⟨x, s1⟩ := p
      rw [h1] at h
      obtain ⟨g1, g2⟩ := hb _ _ _ h1
      cases x with
      | normal =>
        simp only at h
        obtain ⟨k1, k2⟩ := pair_loop hb h
        exact ⟨g1.trans k1, fun hk => by rw [g2 (k1.ok hk)]; exact k2 hk⟩
      | exit i => simp only at h; cases h; exact ⟨g1, fun hk => by rw [g2 hk]⟩
      | ret => simp only at h; cases h; exact ⟨g1, fun hk => by rw [g2 hk]⟩

/-- The loops that are not run forget nothing that was owed. -/
def LpOwes (c : Ctx) : Prop := ∀ b g s e s' P, c.lp b = some g → g s = some (e, s', P) → Owes s.m s'.m

theorem pair_dcode (hp : Pair call callG) (hlo : LpOwes c) {fuel : Nat} : ∀ (code : Code) {s s' : DSt} {e : DExit}, dcode c call fuel code s = some (e, s') → Owes s.m s'.m ∧ (Ok s'.m → dcode c callG fuel code s = some (e, s')) := by
  intro code
  induction code with
  | skip => intro s s' e h; simp only [dcode] at h ⊢; cases h; exact ⟨Owes.refl _, fun _ => rfl⟩
  | label l => intro s s' e h; simp only [dcode] at h ⊢; cases h; exact ⟨Owes.refl _, fun _ => rfl⟩
  | exit id => intro s s' e h; simp only [dcode] at h ⊢; cases h; exact ⟨Owes.refl _, fun _ => rfl⟩
  | ret => intro s s' e h; simp only [dcode] at h ⊢; cases h; exact ⟨Owes.refl _, fun _ => rfl⟩
  | region id ops draw =>
    intro s s' e h
    simp only [dcode] at h ⊢
    cases h1 : dregion c call ops draw s with
    | none => rw [h1] at h; cases h
    | some s1 =>
      rw [h1] at h; cases h
      obtain ⟨g1, g2⟩ := pair_dregion hp h1
      exact ⟨g1, fun hk => by rw [g2 hk]⟩
  | seq a b iha ihb =>
    intro s s' e h
    simp only [dcode] at h ⊢
    cases h1 : dcode c call fuel a s with
    | none => rw [h1] at h; cases h
    | some p =>
      obtain ⟨x, s1⟩ := p
      rw [h1] at h
      obtain ⟨g1, g2⟩ := iha h1
      cases x with
      | normal =>
        simp only at h
        obtain ⟨k1, k2⟩ := ihb h
        exact ⟨g1.trans k1, fun hk => by rw [g2 (k1.ok hk)]; exact k2 hk⟩
      | exit i => simp only at h; cases h; exact ⟨g1, fun hk => by rw [g2 hk]⟩
      | ret => simp only at h; cases h; exact ⟨g1, fun hk => by rw [g2 hk]⟩
  | cond q a b iha ihb =>
    intro s s' e h
    simp only [dcode] at h ⊢
    split at h
    · exact iha h
    · exact ihb h
    · cases h
  | block id b ih =>
    intro s s' e h
    simp only [dcode] at h ⊢
    cases h1 : dcode c call fuel b s with
    | none => rw [h1] at h; cases h
    | some p =>
      obtain ⟨x, s1⟩ := p
      rw [h1] at h
      obtain ⟨g1, g2⟩ := ih h1
      cases x with
      | normal => simp only at h; cases h; exact ⟨g1, fun hk => by rw [g2 hk]⟩
      | ret => simp only at h; cases h; exact ⟨g1, fun hk => by rw [g2 hk]⟩
      | exit i =>
        simp only at h
        cases hi : i == id with
        | true => rw [hi] at h; cases h; exact ⟨g1, fun hk => by rw [g2 hk]; simp only [hi]⟩
        | false => rw [hi] at h; cases h; exact ⟨g1, fun hk => by rw [g2 hk]; simp only [hi]⟩
  | loop b ih =>
    intro s s' e h
    simp only [dcode] at h ⊢
    cases hl : c.lp b with
    | none => rw [hl] at h; exact pair_loop (fun _ _ _ h' => ih h') h
    | some g =>
      rw [hl] at h
      simp only at h ⊢
      cases hg : g s with
      | none => rw [hg] at h; cases h
      | some p =>
        obtain ⟨e1, s1, P⟩ := p
        rw [hg] at h
        simp only at h ⊢
        cases hu : call (.owe P) [dundef] s1.m with
        | none => rw [hu] at h; cases h
        | some q =>
          obtain ⟨u, m'⟩ := q
          rw [hu] at h; cases h
          obtain ⟨g1, g2⟩ := hp _ _ _ _ _ hu
          exact ⟨(hlo _ _ _ _ _ _ hl hg).trans g1, fun hk => by rw [g2 hk]⟩
  | scope b ih => intro s s' e h; simp only [dcode] at h ⊢; exact ih h
  | _ => intro s s' e h; simp [dcode] at h

theorem pair_dbody (hp : Pair call callG) (hlo : LpOwes c) {fuel : Nat} {fn : Func} {args : List DVal} {m m' : DMem} {v : DVal} (h : dbody c call fuel fn args m = some (v, m')) :
    Owes m m' ∧ (Ok m' → dbody c callG fuel fn args m = some (v, m')) := by
  unfold dbody at h ⊢
  cases hb : fn.body with
  | none => rw [hb] at h; cases h
  | some code =>
    rw [hb] at h
    simp only at h ⊢
    cases h1 : dcode c call fuel code ⟨Fr.init args fn.ntmps, m⟩ with
    | none => rw [h1] at h; cases h
    | some p =>
      obtain ⟨x, s1⟩ := p
      rw [h1] at h
      obtain ⟨g1, g2⟩ := pair_dcode hp hlo code h1
      cases x with
      | exit i => cases h
      | normal =>
        simp only at h
        cases hr : dresults c s1 fn.results.toList with
        | none => rw [hr] at h; cases h
        | some vs => rw [hr] at h; cases h; exact ⟨g1, fun hk => by rw [g2 hk]; simp only [hr]⟩
      | ret =>
        simp only at h
        cases hr : dresults c s1 fn.results.toList with
        | none => rw [hr] at h; cases h
        | some vs => rw [hr] at h; cases h; exact ⟨g1, fun hk => by rw [g2 hk]; simp only [hr]⟩

open Classical in
/-- The machine in which a call that stands on what is proved later is there just where all is had that is owed. -/
def dcallG (c : Ctx) : Nat → Callee
  | 0, _, _, _ => none
  | n + 1, f, args, m =>
    match f with
    | .owe P => match dowe P args m with
      | some (v, m') => if Ok m' then some (v, m') else none
      | none => none
    | .fn f => match c.orc f with
      | some g => match g args m with
        | some (v, m') => if Ok m' then some (v, m') else none
        | none => none
      | none => match c.fn f with
        | some fn => dbody c (dcallG c n) n fn args m
        | none => none

theorem dowe_owes {P : Prop} {args : List DVal} {m m' : DMem} {v : DVal} (h : dowe P args m = some (v, m')) : Owes m m' := by
  unfold dowe at h
  split at h
  · cases h; intro p hp; exact List.mem_cons_of_mem _ hp
  · cases h

/-- Calls that owe something. -/
structure FnsOb (c : Ctx) : Prop where
  fn : ∀ f fn, c.fn f = some fn → c.P.funcs[f]? = some fn ∧ ∀ A w, (callFunc f A).run c.P w = .ok (.enter f A) w
  orc : ∀ f g, c.orc f = some g → ∀ args m v m', g args m = some (v, m') → Owes m m' ∧ (Ok m' → CallTo c f args m v m')
  lp : LpOk c
  lo : LpOwes c
  pre : PreOk c

theorem pair_dcall (fok : FnsOb c) : ∀ n, Pair (dcall c n) (dcallG c n)
  | 0 => fun f args m v m' h => by cases h
  | n + 1 => fun f args m v m' h => by
    unfold dcall at h
    unfold dcallG
    cases f with
    | owe P =>
      simp only at h ⊢
      exact ⟨dowe_owes h, fun hk => by rw [h]; simp only [if_pos hk]⟩
    | fn f =>
      simp only at h ⊢
      cases ho : c.orc f with
      | some g =>
        rw [ho] at h
        simp only at h ⊢
        obtain ⟨h1, _⟩ := fok.orc f g ho args m v m' h
        exact ⟨h1, fun hk => by rw [h]; simp only [if_pos hk]⟩
      | none =>
        rw [ho] at h
        simp only at h ⊢
        cases hf : c.fn f with
        | none => rw [hf] at h; cases h
        | some fn => rw [hf] at h; exact pair_dbody (pair_dcall fok n) fok.lo h

theorem dcallG_sound (ok : CtxOk c) (fok : FnsOb c) : ∀ n, CallSound c (dcallG c n)
  | 0 => ⟨fun f args m v m' h => by (cases h), fun P args m u m' h => by (cases h)⟩
  | n + 1 => by
    refine ⟨fun f args m v m' h => ?_, fun P args m u m' h => ?_⟩
    · unfold dcallG at h
      simp only at h
      cases ho : c.orc f with
      | some g =>
        rw [ho] at h
        simp only at h
        cases hg : g args m with
        | none => rw [hg] at h; cases h
        | some p =>
          obtain ⟨v1, m1⟩ := p
          rw [hg] at h
          simp only at h
          split at h
          · rename_i hk
            cases h
            exact (fok.orc f g ho args m _ _ hg).2 hk
          · cases h
      | none =>
        rw [ho] at h
        simp only at h
        cases hf : c.fn f with
        | none => rw [hf] at h; cases h
        | some fn =>
          rw [hf] at h
          obtain ⟨h1, h2⟩ := fok.fn f fn hf
          intro ρ w A hm hg hA
          exact ⟨h2 A w, dbody_sound ok (dcallG_sound ok fok n) fok.lp (region_sound ok fok.pre _ (dcallG_sound ok fok n)) h1 h ρ w A hm hg hA⟩
    · unfold dcallG at h
      simp only [dowe] at h
      split at h
      · rename_i hd
        split at hd
        · cases hd
          split at h
          · rename_i hk
            cases h
            exact ⟨hk _ (List.mem_cons_self ..), rfl, rfl, rfl⟩
          · cases h
        · cases hd
      · cases h

/-- WHO HAS ALL THAT A RUN OWES, HAS THE RUN. -/
theorem machine_owes (ok : CtxOk c) (fok : FnsOb c) {n : Nat} {f : FuncId} {args : List DVal} {m m' : DMem} {v : DVal} (h : dcall c n (.fn f) args m = some (v, m')) :
    Owes m m' ∧ (Ok m' → CallTo c f args m v m') := by
  obtain ⟨h1, h2⟩ := pair_dcall fok n _ _ _ _ _ h
  exact ⟨h1, fun hk => (dcallG_sound ok fok n).fn _ _ _ _ _ (h2 hk)⟩

/-- The same of a piece of code. -/
theorem code_owes (ok : CtxOk c) (fok : FnsOb c) {n fuel : Nat} {code : Code} {s s' : DSt} {e : DExit} (h : dcode c (dcall c n) fuel code s = some (e, s')) : Owes s.m s'.m ∧ (Ok s'.m → CodeTo c code s e s') := by
  obtain ⟨h1, h2⟩ := pair_dcode (pair_dcall fok n) fok.lo code h
  exact ⟨h1, fun hk => dcode_sound (dcallG_sound ok fok n) fok.lp (region_sound ok fok.pre _ (dcallG_sound ok fok n)) fuel code s e s' (h2 hk)⟩

/-- Frames that agree. -/
def FrEq (a b : Fr) : Prop := ∀ t, a.get? t = b.get? t

theorem CodeTo.from {code : Code} {s s0 s' : DSt} {e : DExit} (h : CodeTo c code s e s') (hf : FrEq s0.fr s.fr) (ht : s.m.t = s0.m.t) (hz : s.m.size = s0.m.size) : CodeTo c code s0 e s' := by
  intro ρ a w hs hg
  have h1 : StRel ρ s a w := ⟨hs.mem.same ht hz, fun t => by
    have := hs.fr t
    unfold TRel at this ⊢
    rw [← hf t]; exact this, hs.defers⟩
  refine wp_mono (h ρ a w h1 hg) ?_
  rintro e1 a1 w1 ⟨ρ1, hx, hs1, hp1⟩
  exact ⟨ρ1, hx, hs1, Post.trans hs.mem (Post.same hs.mem ht hz) hp1⟩

theorem CodeTo.to {code : Code} {s s0 s' : DSt} {e : DExit} (h : CodeTo c code s e s0) (hf : FrEq s0.fr s'.fr) (ht : s'.m.t = s0.m.t) (hz : s'.m.size = s0.m.size) : CodeTo c code s e s' := by
  intro ρ a w hs hg
  refine wp_mono (h ρ a w hs hg) ?_
  rintro e1 a1 w1 ⟨ρ1, hx, hs1, hp1⟩
  exact ⟨ρ1, hx, ⟨hs1.mem.same ht hz, fun t => by
    have := hs1.fr t
    unfold TRel at this ⊢
    rw [← hf t]; exact this, hs1.defers⟩, Post.trans hs.mem hp1 (Post.same hs1.mem ht hz)⟩

/-- What a loop comes to, from its body's head on. -/
def LoopTo (c : Ctx) (b : Code) (s : DSt) (e : DExit) (s' : DSt) : Prop :=
  ∀ ρ a w, StRel ρ s a w → GOk c ρ → ∀ (fb : Frame) (k : List Item) (cs : List Frame),
      ∃ e' a' w', (∃ ρ', ExitRel e e' ∧ StRel ρ' s' a' w' ∧ Post ρ s.m w s'.m ρ' w') ∧ Arrives c.P (lone (fb.at a (.code b :: .inLoop b :: k)) cs w) fb k cs e' a' w'

/-- One round of a loop. -/
theorem LoopTo.round {b : Code} {s s1 s' : DSt} {e : DExit} (h : CodeTo c b s .normal s1) (h' : LoopTo c b s1 e s') : LoopTo c b s e s' := by
  intro ρ a w hs hg fb k cs
  obtain ⟨e1, a1, w1, ⟨ρ1, hx, hs1, hp1⟩, harr⟩ := h ρ a w hs hg fb (.inLoop b :: k) cs
  cases hx
  obtain ⟨e2, a2, w2, ⟨ρ2, hx2, hs2, hp2⟩, harr2⟩ := h' ρ1 a1 w1 hs1 (hg.mono hp1.le) fb k cs
  exact ⟨e2, a2, w2, ⟨ρ2, hx2, hs2, Post.trans hs.mem hp1 hp2⟩, .of_steps (Steps.trans harr (.one step_inLoop)) harr2⟩
/-- A loop's last round. -/
theorem LoopTo.last {b : Code} {s s' : DSt} {e : DExit} (h : CodeTo c b s e s') (he : e ≠ .normal) : LoopTo c b s e s' := by
  intro ρ a w hs hg fb k cs
  obtain ⟨e1, a1, w1, ⟨ρ1, hx, hs1, hp1⟩, harr⟩ := h ρ a w hs hg fb (.inLoop b :: k) cs
  refine ⟨e1, a1, w1, ⟨ρ1, hx, hs1, hp1⟩, ?_⟩
  cases hx with
  | normal => exact absurd rfl he
  | exit id => exact .pass (x := .inLoop b) rfl (fun _ _ => .inl (by simp)) harr
  | ret => exact .pass (x := .inLoop b) rfl (fun _ _ => .inl (by simp)) harr
theorem LoopTo.code {b : Code} {s s' : DSt} {e : DExit} (h : LoopTo c b s e s') : CodeTo c (.loop b) s e s' := by
  intro ρ a w hs hg fb k cs
  obtain ⟨e', a', w', hq, harr⟩ := h ρ a w hs hg fb k cs
  exact ⟨e', a', w', hq, .of_steps (.one step_loop) harr⟩

/-- A loop whose rounds are counted. 'J' is what else stands in the frame. -/
theorem LoopTo.count {b : Code} {J : Type} {S : Nat → J → DSt} {e : DExit} {E : J → DSt} {n : Nat} (hb : ∀ i, i < n → ∀ j, ∃ j', CodeTo c b (S i j) .normal (S (i + 1) j')) (hl : ∀ j, ∃ j', CodeTo c b (S n j) e (E j')) (he : e ≠ .normal) :
    ∀ d i, i + d = n → ∀ j, ∃ j', LoopTo c b (S i j) e (E j')
  | 0, i, h, j => by
    obtain rfl : i = n := by omega
    obtain ⟨j', h'⟩ := hl j
    exact ⟨j', .last h' he⟩
  | d + 1, i, h, j => by
    obtain ⟨j1, h1⟩ := hb i (by omega) j
    obtain ⟨j', h'⟩ := LoopTo.count hb hl he d (i + 1) (by omega) j1
    exact ⟨j', .round h1 h'⟩

/-- The region that a piece of code begins with. -/
def headReg : Code → Option Nat
  | .region i _ _ => some i
  | .seq a _ => headReg a
  | .block _ b => headReg b
  | .scope b => headReg b
  | .loop b => headReg b
  | _ => none
/-- A loop's body by the region that it begins with. -/
def loopAt (id : Nat) (code : Code) : Option Code :=
  match code with
  | .seq a b => match loopAt id a with
    | some r => some r
    | none => loopAt id b
  | .cond _ a b => match loopAt id a with
    | some r => some r
    | none => loopAt id b
  | .block _ b => loopAt id b
  | .scope b => loopAt id b
  | .loop b => match headReg b with
    | some i => match Nat.beq i id with
      | true => some b
      | false => loopAt id b
    | none => loopAt id b
  | _ => none
/-- Values that are laid, by their slots. -/
def lookD : List (Nat × DVal) → Nat → Option DVal
  | [], _ => none
  | x :: l, d => match Nat.beq d x.1 with
    | true => some x.2
    | false => lookD l d
def hintD (l : List (Nat × DVal)) : Oper → Option DVal := fun o => match o.dst with
  | some d => lookD l d
  | none => none
/-- What a piece of code came to: the exit, some slots, how many, the memory, what is owed. -/
def resC (ks : List Nat) : Option (DExit × DSt) → Option (DExit × List DVal × Nat × T DObj × Nat × List Prop)
  | some (e, s) => some (e, ks.map s.fr.getD, s.fr.n, s.m.t, s.m.size, s.m.ob)
  | none => none
theorem resC_facts {ks : List Nat} {r : Option (DExit × DSt)} {e : DExit} {vs : List DVal} {n : Nat} {t : T DObj} {z : Nat} {ob : List Prop} (h : resC ks r = some (e, vs, n, t, z, ob)) :
    ∃ s, r = some (e, s) ∧ ks.map s.fr.getD = vs ∧ s.fr.n = n ∧ s.m.t = t ∧ s.m.size = z ∧ s.m.ob = ob := by
  unfold resC at h
  split at h
  · rename_i e' s
    simp only [Option.some.injEq, Prod.mk.injEq] at h
    obtain ⟨rfl, h1, h2, h3, h4, h5⟩ := h
    exact ⟨s, rfl, h1, h2, h3, h4, h5⟩
  · cases h
def resB : Option (DVal × DMem) → Option (Bool × List Prop)
  | some (.bool b, m) => some (b, m.ob)
  | _ => none
theorem resB_facts {r : Option (DVal × DMem)} {b : Bool} {l : List Prop} (h : resB r = some (b, l)) (hl : ∀ p ∈ l, p) : ∃ m, r = some (.bool b, m) ∧ Ok m := by
  unfold resB at h
  split at h
  · rename_i b' m
    simp only [Option.some.injEq, Prod.mk.injEq] at h
    obtain ⟨rfl, rfl⟩ := h
    exact ⟨m, rfl, hl⟩
  · cases h

/-- An element's place, its index unreckoned. -/
def softIx (ty : TypeId → Option TI) (op : Op) (ev : Operand → Option DVal) (_ : DMem) : Option (DVal × Prop) :=
  match op with
  | .indexAddr t x ix => match ty t with
    | some ⟨.slice e, _, _, _⟩ => match ty e, ev x, ev ix with
      | some ie, some (.view (some (b, o)) len), some (.int _ (.ofNat i)) => some (.ptr (some (b, o + i * ie.size)), i < len)
      | some ie, some (.slice (some (b, o)) len _ _), some (.int _ (.ofNat i)) => some (.ptr (some (b, o + i * ie.size)), i < len)
      | _, _, _ => none
    | _ => none
  | _ => none
theorem softIx_ok {ev : Operand → Option DVal} {m : DMem} {op : Op} {v : DVal} {P : Prop} (h : softIx c.ty op ev m = some (v, P)) (hP : P) : ∃ a, dexec c noCall ev m op = some ⟨v, m, a⟩ := by
  unfold softIx at h
  split at h
  · rename_i t x ix
    split at h
    · rename_i e z1 z2 z3 ht
      split at h
      · rename_i ie b o len k i hie hx hi
        cases h
        refine ⟨none, ?_⟩
        have : dpure c ev (.indexAddr t x ix) = some (.ptr (some (b, o + i * ie.size))) := by
          simp only [dpure, ht, hx, hi, hie]
          rw [if_pos ⟨by simp, by simpa using hP⟩]; rfl
        unfold dexec; rw [this]
      · rename_i ie b o len cp md k i hie hx hi
        cases h
        refine ⟨none, ?_⟩
        have : dpure c ev (.indexAddr t x ix) = some (.ptr (some (b, o + i * ie.size))) := by
          simp only [dpure, ht, hx, hi, hie]
          rw [if_pos ⟨by simp, by simpa using hP⟩]; rfl
        unfold dexec; rw [this]
      · cases h
    · cases h
  · cases h

/-- A cell's value, its place unreckoned. -/
def softLd (ty : TypeId → Option TI) (v : DVal) (op : Op) (ev : Operand → Option DVal) (m : DMem) : Option (DVal × Prop) :=
  match op with
  | .load t x => match ty t with
    | some i => match i.isAgg, ev x with
      | false, some (.ptr (some (b, o))) => match m.get b with
        | some (.ro c) => some (v, c[o]? = some v)
        | some (.cells c _ _) => some (v, c[o]? = some v)
        | _ => none
      | _, _ => none
    | none => none
  | _ => none
theorem softLd_ok {ev : Operand → Option DVal} {m : DMem} {op : Op} {v0 v : DVal} {P : Prop} (h : softLd c.ty v0 op ev m = some (v, P)) (hP : P) : ∃ a, dexec c noCall ev m op = some ⟨v, m, a⟩ := by
  unfold softLd at h
  split at h
  · rename_i t x
    split at h
    · rename_i i ht
      split at h
      · rename_i b o hagg hx
        have one : ∀ {cs : List DVal} {v : DVal}, cs[o]? = some v → Nat.ble (o + 1) cs.length = true ∧ (cs.drop o).take 1 = [v] := by
          intro cs v hv
          have hlt : o < cs.length := (List.getElem?_eq_some_iff.1 hv).1
          refine ⟨Nat.ble_eq_true_of_le hlt, ?_⟩
          rw [List.drop_eq_getElem_cons hlt, List.take_succ_cons, List.take_zero]
          have := (List.getElem?_eq_some_iff.1 hv).2
          rw [this]
        split at h
        · rename_i cs hm
          cases h
          obtain ⟨h1, h2⟩ := one hP
          refine ⟨some b, ?_⟩
          have hr : dread c ev m (.load t x) = some (v0, b) := by
            simp only [dread, ht, hx, hagg, Bool.false_eq_true, if_false]
            unfold rcells
            simp only [hm, h1, h2]
          have hp : dpure c ev (.load t x) = none := rfl
          unfold dexec; rw [hp]; simp only [hr]
        · rename_i cs e ver hm
          cases h
          obtain ⟨h1, h2⟩ := one hP
          refine ⟨some b, ?_⟩
          have hr : dread c ev m (.load t x) = some (v0, b) := by
            simp only [dread, ht, hx, hagg, Bool.false_eq_true, if_false]
            unfold rcells
            simp only [hm, h1, h2]
          have hp : dpure c ev (.load t x) = none := rfl
          unfold dexec; rw [hp]; simp only [hr]
        · cases h
      · cases h
    · cases h
  · cases h

/-- A frame by its slots. -/
def ofFn (n : Nat) (f : Nat → DVal) : Fr := ⟨List.rec (motive := fun _ => T DVal) .leaf (fun k _ t => t.set k (f k)) (List.range n), n⟩
theorem ofFn_get {n : Nat} {f : Nat → DVal} (t : Nat) : (ofFn n f).get? t = if t < n then some (f t) else none := by
  have key : ∀ l : List Nat, ((List.rec (motive := fun _ => T DVal) .leaf (fun k _ t => t.set k (f k)) l : T DVal).get t) = if t ∈ l then some (f t) else none := by
    intro l
    induction l with
    | nil => rfl
    | cons a l ih =>
      show (T.set _ a (f a)).get t = _
      rw [T.get_set, ih]
      by_cases h : t = a
      · subst h; simp
      · simp [h]
  unfold Fr.get? ofFn
  simp only [key, List.mem_range]
  by_cases h : t < n
  · rw [show Nat.blt t n = true from Nat.ble_eq_true_of_le h, if_pos h]
  · have : Nat.blt t n = false := by
      cases hb : Nat.blt t n with
      | false => rfl
      | true => exact absurd (Nat.le_of_ble_eq_true hb) h
    rw [this, if_neg h]
/-- A frame of which some slots are told is that one with the others as they are. -/
theorem frEq_ofFn {fr : Fr} {n : Nat} {f : Nat → DVal} (hn : fr.n = n) (hf : ∀ t, t < n → f t = fr.getD t) : FrEq fr (ofFn n f) := by
  intro t
  rw [ofFn_get]
  by_cases h : t < n
  · rw [if_pos h, hf t h]
    unfold Fr.getD Fr.get?
    rw [show Nat.blt t fr.n = true from Nat.ble_eq_true_of_le (by omega)]
    simp only
    cases fr.t.get t <;> rfl
  · rw [if_neg h]; exact Fr.get?_none (by omega)
end
end Go.DM
