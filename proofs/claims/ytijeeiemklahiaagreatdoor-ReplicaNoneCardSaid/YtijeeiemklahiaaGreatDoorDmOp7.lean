/-
  A deterministic machine over Go's code: the law of the operations that write, and of one operation.
-/
import Derived.Test.YtijeeiemklahiaaGreatDoorDmOp6
namespace Go.DM
noncomputable section

theorem undef_rel (ρ : Ren) : VRel ρ dundef undef := by simp only [dundef, undef, VRel]; exact ⟨#[], rfl, .nil⟩

theorem dheavy_sound {c : Ctx} (ok : CtxOk c) {ρ : Ren} {m m' : DMem} {w : World} (hr : MRel ρ m w) {ev : Operand → Option DVal} {g : Operand → Value} {o : Oper} {v : DVal} (h : dheavy c ev m o.op = some (v, m'))
    (he : ERel ρ ev g o.op.operands.toList) : HeavyTo c ρ m w (execOp g o) v m' := by
  obtain ⟨dst, op, type, pos, after, guard⟩ := o
  simp only at h he ⊢
  have mapCase : ∀ (t : TypeId) (x k vv : Operand), (∀ y ∈ [x, k, vv], ∀ d, ev y = some d → VRel ρ d (g y)) →
      (match c.ty t, ev x, ev k, ev vv with
      | some ⟨.map kt _, _, _, _⟩, some (.map (some r)), some k, some v =>
        match keyOk c kt k, m.get r with
        | true, some (.map es ver) => match dins k v es with
          | some es' => some (dundef, m.put r (.map es' (ver + 1)))
          | none => none
        | _, _ => none
      | _, _, _, _ => none) = some (v, m') → ∃ w', (Instr.mapUpdate t (g x) (g k) (g vv)).run c.P w = .ok () w' ∧ v = dundef ∧ Post ρ m w m' ρ w' := by
    intro t x k vv hee h
    split at h
    · rename_i kt et z1 z2 z3 r kd vd ht hx hk hv
      split at h
      · rename_i es ver hkey hm
        split at h
        · rename_i es' hins
          cases h
          obtain ⟨w', g1, g2⟩ := mapUpdate_sound ok hr ht (hee x (by simp) _ hx) (hee k (by simp) _ hk) (hee vv (by simp) _ hv) hkey hm hins
          exact ⟨w', g1, rfl, g2⟩
        · cases h
      · cases h
    · cases h
  cases op with
  | store t x vv =>
    simp only [dheavy] at h
    split at h
    · rename_i i b o v' ht hx hv
      split at h
      · rename_i hc
        simp only [Option.map_eq_some_iff] at h
        obtain ⟨m1, hw, hh⟩ := h
        cases hh
        obtain ⟨s, hs, hxv⟩ := (he x (by simp [Op.operands]) _ hx).ptr_inv
        have hvr := (he vv (by simp [Op.operands]) _ hv).cells hc.2
        obtain ⟨w', g1, g2⟩ := wcells_sound (P := c.P) hr hs hw hvr hc.2
        have hl := hvr.length
        simp only [Array.length_toList] at hl
        refine ⟨.skip, undef, ρ, w', ?_, .inr ⟨rfl, rfl⟩, undef_rel ρ, g2⟩
        have hsz : (g vv).cells.size = i.size := by omega
        simp [execOp, Instr.storeAt, hxv, Instr.sureAddr, storeVar, (ok.ty _ _ ht).run_sizeOf, hsz, g1]
      · cases h
    · cases h
  | mapUpdate t x k vv =>
    simp only [dheavy] at h
    obtain ⟨w', g1, rfl, g2⟩ := mapCase t x k vv (fun y hy d hd => he y (by simp [Op.operands] at hy ⊢; exact hy) d hd) h
    exact ⟨.skip, undef, ρ, w', by simp [execOp, g1], .inr ⟨rfl, rfl⟩, undef_rel ρ, g2⟩
  | insert t x k vv =>
    simp only [dheavy] at h
    obtain ⟨w', g1, rfl, g2⟩ := mapCase t x k vv (fun y hy d hd => he y (by simp [Op.operands] at hy ⊢; exact hy) d hd) h
    exact ⟨.skip, undef, ρ, w', by simp [execOp, g1], .inr ⟨rfl, rfl⟩, undef_rel ρ, g2⟩
  | convert src dst' x =>
    simp only [dheavy] at h
    split at h
    · rename_i e z1 z2 z3 b o len cap md h1 hx
      split at h
      · rename_i y1 y2 y3 cs el ver cp hsd hie hmb
        cases h
        have hsd : src = dst' := Nat.eq_of_beq_eq_true hsd
        subst hsd
        have hxr := he x (by simp [Op.operands]) _ hx
        obtain ⟨s, cap', hs, hxv⟩ := hxr.slice_at (by omega)
        have u1 := (ok.ty _ _ h1).run_underlying w
        have u3 := (ok.ty _ _ hie).run_underlying w
        simp only at u1 u3
        obtain ⟨row, e', fz, g1, g2, g3, g4, g5, g6⟩ := hr.alive_spot hs hmb
        have hB := hr.old b s hs
        -- the row's mark
        obtain ⟨fz', hfz, hworld⟩ : ∃ fz' : Nat × Nat, (fz'.1 = fz'.2 ∨ row.size ≤ fz'.1) ∧ w.freeze ⟨s.blk, row.size, none⟩ 1 = setObjW w s.blk (.cells row e' fz') := by
          obtain ⟨lo, hi⟩ := fz
          refine ⟨if lo == hi then (row.size, row.size + 1) else (min lo row.size, max hi (row.size + 1)), ?_, ?_⟩
          · by_cases hlh : lo = hi
            · subst hlh; simp
            · have : ¬ ((lo == hi) = true) := by simpa using hlh
              rw [if_neg this]
              simp only at g4 ⊢
              right; omega
          · simp only [World.freeze, Nat.one_ne_zero, if_false, setObjW]
            congr 1
            apply Array.ext_getElem?
            intro i
            rw [Array.getElem?_modify]
            by_cases hi' : s.blk = i
            · subst hi'
              simp only [if_true]
              rw [g1]
              simp [hB]
            · simp [hi', Array.getElem?_setIfInBounds_ne hi']
        refine ⟨.value (g x), g x, ρ, setObjW w s.blk (.cells row e' fz'), ?_, .inl rfl, hxr, ?_⟩
        · simp only [execOp, convert, Sem.run_bind, u1, Result.andThen_ok, hxv, beq_self_eq_true, u3, markStringish, run_shape, World.shape?, Spot.at_, g1, run_freeze, Sem.run_pure]
          rw [hworld]
        · refine Post.put hr hs hmb (by unfold alive; rw [hmb]; trivial) (by simp [later]) _ ?_ ?_ ?_
          · exact ⟨row, e', fz', by rw [setObjW_get hB, if_pos rfl], g2, g3, hfz, g5, g6⟩
          · intro row2 e2 fz2 hh
            rw [g1] at hh; cases hh
            exact ⟨row, fz', rfl, rfl, .inr hfz, fun _ _ => rfl⟩
          · intro es ck hh; rw [g1] at hh; cases hh
      · cases h
    · cases h
  | call cl =>
    obtain ⟨callee, args, tys⟩ := cl
    cases callee with
    | value f => simp [dheavy] at h
    | invoke r m => simp [dheavy] at h
    | builtin bi =>
      have hargs : ∀ {ds}, devs ev args.toList = some ds → VsRel ρ ds (args.map g).toList := by
        intro ds hds
        have := devs_rel hds (he.sub (by intro y hy; simp [Op.operands, Call.operands] at hy ⊢; simp [hy]))
        simpa using this
      cases bi <;> simp only [dheavy] at h <;> (first | (cases h; done) | skip)
      case append =>
        split at h
        · rename_i as has
          obtain ⟨V, ρ', w', g1, g2, g3⟩ := dappend_sound ok hr h (hargs has) rfl type
          exact ⟨.value V, V, ρ', w', by simp [execOp, resolve, invoke, builtin, g1], .inl rfl, g2, g3⟩
        · cases h
      case copy =>
        split at h
        · rename_i as has
          obtain ⟨V, w', g1, g2, g3⟩ := dcopy_sound ok hr h (hargs has) rfl type
          exact ⟨.value V, V, ρ, w', by simp [execOp, resolve, invoke, builtin, g1], .inl rfl, g2, g3⟩
        · cases h
  | _ => simp [dheavy] at h

/-- A call of the machine's is one of the model's. -/
def GOk (c : Ctx) (ρ : Ren) : Prop := ∀ g, c.glob g = true → ∃ tot, ρ g = some ⟨g, 0, tot⟩

theorem GOk.mono {c : Ctx} {ρ ρ' : Ren} (h : GOk c ρ) (hle : ρ.le ρ') : GOk c ρ' := fun g hg => let ⟨t, ht⟩ := h g hg; ⟨t, hle _ _ ht⟩

def CallTo (c : Ctx) (f : FuncId) (args : List DVal) (m : DMem) (v : DVal) (m' : DMem) : Prop :=
  ∀ (ρ : Ren) (w : World) (A : Array Value), MRel ρ m w → GOk c ρ → VsRel ρ args A.toList →
    (callFunc f A).run c.P w = .ok (.enter f A) w ∧
    Calls c.P f A w fun e w' => ∃ V ρ', e = .returned V ∧ VRel ρ' v V ∧ Post ρ m w m' ρ' w'

structure CallSound (c : Ctx) (call : Callee) : Prop where
  fn : ∀ f args m v m', call (.fn f) args m = some (v, m') → CallTo c f args m v m'
  owe : ∀ P args m u m', call (.owe P) args m = some (u, m') → P ∧ args = [u] ∧ m'.t = m.t ∧ m'.size = m.size

theorem dtarget_run {c : Ctx} {ρ : Ren} {ev : Operand → Option DVal} {g : Operand → Value} {o : Oper} {f : FuncId} {as : List DVal} (h : dtarget ev o.op = some (f, as))
    (he : ERel ρ ev g o.op.operands.toList) : ∃ A : Array Value, VsRel ρ as A.toList ∧ ∀ w, (execOp g o).run c.P w = (callFunc f A).run c.P w := by
  obtain ⟨dst, op, type, pos, after, guard⟩ := o
  simp only at h he ⊢
  cases op with
  | call cl =>
    obtain ⟨callee, args, tys⟩ := cl
    cases callee with
    | builtin b => simp [dtarget] at h
    | invoke r m => simp [dtarget] at h
    | value fo =>
      simp only [dtarget] at h
      split at h
      · rename_i gf first captured as' hf has
        cases h
        have hfr := he fo (by simp [Op.operands, Call.operands]) _ hf
        simp only [VRel] at hfr
        obtain ⟨a', b', hfv, h1, h2⟩ := hfr
        have hargs := devs_rel has (he.sub (by intro y hy; simp [Op.operands, Call.operands] at hy ⊢; simp [hy]))
        refine ⟨a' ++ args.map g ++ b', ?_, ?_⟩
        · simp only [Array.toList_append]
          exact (h1.append (by simpa using hargs)).append h2
        · intro w
          simp [execOp, resolve, hfv, Deferred.ofValue, invoke]
      · cases h
  | _ => simp [dtarget] at h

/-- One operation: what the model does. -/
def OpTo (c : Ctx) (ρ : Ren) (m : DMem) (w : World) (o : Oper) (a : Act) (v : DVal) (m' : DMem) : Prop :=
  ∀ (next : Act → World → Prop) (Q : Exit → Act → World → Prop),
    (∀ V ρ' w', VRel ρ' v V → Post ρ m w m' ρ' w' → next (a.put o.dst V) w') → o.wp c.P a w next Q

theorem opTo_pure {c : Ctx} {ρ : Ren} {m : DMem} {w : World} (hr : MRel ρ m w) {o : Oper} {a : Act} {v : DVal} (h : ∃ V, (execOp a.eval o).run c.P w = .ok (.value V) w ∧ VRel ρ v V) : OpTo c ρ m w o a v m := by
  intro next Q hn
  obtain ⟨V, h1, h2⟩ := h
  simp only [Oper.wp, h1, Oper.upon]
  exact hn V ρ w h2 (Post.refl hr)

theorem opTo_alloc {c : Ctx} {ρ : Ren} {m : DMem} {w : World} (hr : MRel ρ m w) {o : Oper} {a : Act} {v : DVal} {ob : DObj} (h : AllocTo c ρ w m.size (execOp a.eval o) v ob) : OpTo c ρ m w o a v (m.alloc ob) := by
  intro next Q hn
  obtain ⟨V, O, sp, k, h1, h2, h3, h4⟩ := h.to
  simp only [Oper.wp, h1, Oper.upon]
  refine hn V _ _ h3 ?_
  have hp := Post.alloc (hr.drawn k) ob O sp h2 h4
  exact Post.trans hr (Post.drawn hr k) hp

theorem opTo_heavy {c : Ctx} {ρ : Ren} {m m' : DMem} {w : World} {o : Oper} {a : Act} {v : DVal} (h : HeavyTo c ρ m w (execOp a.eval o) v m') : OpTo c ρ m w o a v m' := by
  intro next Q hn
  obtain ⟨N, V, ρ', w', h1, h2, h3, h4⟩ := h
  rcases h2 with rfl | ⟨rfl, rfl⟩
  · simp only [Oper.wp, h1, Oper.upon]; exact hn V ρ' w' h3 h4
  · simp only [Oper.wp, h1, Oper.upon]; exact hn undef ρ' w' h3 h4

theorem opTo_call {c : Ctx} {ρ : Ren} {m m' : DMem} {w : World} (hr : MRel ρ m w) (hg : GOk c ρ) {ev : Operand → Option DVal} {o : Oper} {a : Act} {f : FuncId} {as : List DVal} (h : dtarget ev o.op = some (f, as))
    (he : ERel ρ ev a.eval o.op.operands.toList) {v : DVal} (hc : CallTo c f as m v m') : OpTo c ρ m w o a v m' := by
  intro next Q hn
  obtain ⟨A, h1, h2⟩ := dtarget_run (c := c) h he
  obtain ⟨h3, h4⟩ := hc ρ w A hr hg h1
  simp only [Oper.wp, h2, h3, Oper.upon]
  refine h4.mono ?_
  rintro e w' ⟨V, ρ', rfl, h5, h6⟩
  exact hn V ρ' w' h5 h6

/-- One operation. -/
theorem dexec_sound {c : Ctx} (ok : CtxOk c) {call : Callee} (hcall : CallSound c call) {ρ : Ren} {m : DMem} {w : World} (hr : MRel ρ m w) (hg : GOk c ρ) {ev : Operand → Option DVal} {o : Oper} {a : Act} {r : Did}
    (h : dexec c call ev m o.op = some r) (he : ERel ρ ev a.eval o.op.operands.toList) : OpTo c ρ m w o a r.v r.m := by
  unfold dexec at h
  split at h
  · rename_i v hp
    cases h
    exact opTo_pure hr (dpure_sound ok w hp he)
  · split at h
    · rename_i v b hp
      cases h
      exact opTo_pure hr (dread_sound ok hr hp he)
    · split at h
      · rename_i v ob hp
        cases h
        exact opTo_alloc hr (dalloc_sound ok w hp he hr.none_at)
      · split at h
        · rename_i v m' hp
          cases h
          exact opTo_heavy (dheavy_sound ok hr hp he)
        · split at h
          · rename_i f as hp
            simp only [Option.map_eq_some_iff] at h
            obtain ⟨⟨v, m'⟩, hq, rfl⟩ := h
            exact opTo_call hr hg hp he (hcall.fn f as m v m' hq)
          · cases h
end
end Go.DM
