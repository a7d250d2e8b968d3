/-
  A deterministic machine over Go's code: the operations that touch no memory.
-/
import Derived.Test.YtijeeiemklahiaaGreatDoorDmMem
namespace Go.DM
noncomputable section

structure TyOk (P : Program) (t : TypeId) (i : TI) : Prop where
  und : P.underlying t = some i.desc
  info : ∃ info z d, P.info? t = some info ∧ info.size = i.size ∧ info.bytes = i.bytes ∧ info.zero = some z ∧ ofConst z = some d ∧ d.cells = i.zero ∧
    (i.isAgg = true → ∃ cs, d = .agg cs) ∧ (i.isAgg = false → d.cells = [d])
  zlen : i.zero.length = i.size
  zcell : i.zero.all isCell = true

section ty
variable {P : Program} {t : TypeId} {i : TI} (w : World)
theorem TyOk.run_underlying (h : TyOk P t i) : (underlying t).run P w = .ok i.desc w := by simp [underlying, h.und]
theorem TyOk.run_sizeOf (h : TyOk P t i) : (sizeOf t).run P w = .ok i.size w := by
  obtain ⟨info, z, d, h1, h2, _⟩ := h.info; simp [sizeOf, typeInfo, h1, h2]
theorem TyOk.run_bytes (h : TyOk P t i) : ∃ info : TypeInfo, (typeInfo t).run P w = .ok info w ∧ info.size = i.size ∧ info.bytes = i.bytes := by
  obtain ⟨info, z, d, h1, h2, h3, _⟩ := h.info; exact ⟨info, by simp [typeInfo, h1], h2, h3⟩
theorem TyOk.run_zero (h : TyOk P t i) (ρ : Ren) : ∃ z d, (zeroValue t).run P w = .ok z w ∧ VRel ρ d z ∧ d.cells = i.zero ∧ (i.isAgg = true → ∃ cs, d = .agg cs) ∧ (i.isAgg = false → d.cells = [d]) := by
  obtain ⟨info, z, d, h1, h2, h3, h4, h5, h6, h7⟩ := h.info
  exact ⟨z, d, by simp [zeroValue, typeInfo, h1, h4], ofConst_rel ρ z d h5, h6, h7⟩
theorem TyOk.run_isAgg (h : TyOk P t i) : (isAgg t).run P w = .ok i.isAgg w := by
  simp only [isAgg, Sem.run_bind, h.run_underlying, Result.andThen_ok, TI.isAgg]
  split <;> simp_all
theorem TyOk.cells_size (h : TyOk P t i) (ρ : Ren) {z : Value} (hz : (zeroValue t).run P w = .ok z w) : VsRel ρ i.zero z.cells.toList := by
  obtain ⟨info, z', d, h1, h2, h3, h4, h5, h6, h7⟩ := h.info
  have : z = z' := by simp [zeroValue, typeInfo, h1, h4] at hz; exact hz.symm
  subst this
  rw [← h6]
  exact (ofConst_rel ρ z d h5).cells (by rw [h6]; exact h.zcell)
end ty

structure CtxOk (c : Ctx) : Prop where
  ty : ∀ t i, c.ty t = some i → TyOk c.P t i
  mixed : c.P.follows .mixedOrders = true
  deep : 20 ≤ c.P.depth

def ERel (ρ : Ren) (ev : Operand → Option DVal) (g : Operand → Value) (xs : List Operand) : Prop := ∀ x ∈ xs, ∀ d, ev x = some d → VRel ρ d (g x)

theorem ERel.sub {ρ ev g xs ys} (h : ERel ρ ev g xs) (hs : ∀ y ∈ ys, y ∈ xs) : ERel ρ ev g ys := fun y hy => h y (hs y hy)

theorem devs_rel {ρ ev g} : ∀ {xs : List Operand} {ds : List DVal}, devs ev xs = some ds → ERel ρ ev g xs → VsRel ρ ds (xs.map g)
  | [], ds, h, _ => by simp [devs] at h; subst h; simpa using VsRel.nil
  | x :: xs, ds, h, he => by
    simp only [devs] at h
    split at h
    · rename_i d ds' h1 h2
      simp at h; subst h
      exact .cons (he x (by simp) d h1) (devs_rel h2 (he.sub (by simp; intro y hy; exact .inr hy)))
    · simp at h

theorem oev_rel {ρ ev g} {x : Option Operand} {d : Option DVal} (h : oev ev x = some d) (he : ERel ρ ev g x.toList) :
    match d with
    | none => x = none
    | some d => ∃ y, x = some y ∧ VRel ρ d (g y) := by
  cases x with
  | none => simp [oev] at h; subst h; rfl
  | some x =>
    simp only [oev, Option.map_eq_some_iff] at h
    obtain ⟨d', h1, rfl⟩ := h
    exact ⟨x, rfl, he x (by simp) d' h1⟩

/-- What an operation without memory comes to. -/
def PureTo (c : Ctx) (ρ : Ren) (w : World) (s : Sem Value) (d : DVal) : Prop := ∃ V, s.run c.P w = .ok V w ∧ VRel ρ d V

theorem dint_sound {c : Ctx} {ρ : Ren} {w : World} {op : BinOp} {k : IntKind} {a b : Int} {d : DVal} (h : dint op k a b = some d) (t : TypeId) :
    PureTo c ρ w (binOp op t (.int k a) (.int k b)) d := by
  unfold PureTo
  cases op <;> simp only [dint] at h <;> (try split at h) <;> simp at h <;> (try subst h) <;>
    simp_all [binOp, Op.intArith, Op.intDiv, Op.intBits, Op.intCmp, VRel]

theorem dshift_sound {c : Ctx} {ρ : Ren} {w : World} {op : BinOp} {k k' : IntKind} {a b : Int} {d : DVal} (h : dshift op k a b = some d) (t : TypeId) :
    PureTo c ρ w (binOp op t (.int k a) (.int k' b)) d := by
  unfold PureTo
  unfold dshift at h
  by_cases hb : b < 0
  · rw [if_pos hb] at h; cases h
  · rw [if_neg hb] at h
    cases op <;> simp at h <;> subst h <;> simp [binOp, Op.shift, VRel, hb]

def ORel (ρ : Ren) (d : Option DVal) (v : Option Value) : Prop :=
  match d with
  | none => v = none
  | some d => ∃ u, v = some u ∧ VRel ρ d u

theorem oev_orel {ρ ev g} {x : Option Operand} {d : Option DVal} (h : oev ev x = some d) (he : ERel ρ ev g x.toList) : ORel ρ d (x.map g) := by
  have := oev_rel h he
  cases d with
  | none => simp only at this; subst this; rfl
  | some d => obtain ⟨y, rfl, hy⟩ := this; exact ⟨g y, rfl, hy⟩

theorem dbounds_sound {c : Ctx} {ρ : Ren} {w : World} {isSlice : Bool} {len cap : Nat} {lo hi mx : Option DVal} {l h m : Nat} (hd : dbounds len cap lo hi mx = some (l, h, m))
    {lo' hi' mx' : Option Value} (h1 : ORel ρ lo lo') (h2 : ORel ρ hi hi') (h3 : ORel ρ mx mx') (cap' : Nat) (hcap : cap ≤ cap') :
    (Instr.sliceBounds isSlice len cap' lo' hi' mx').run c.P w = .ok (l, h, if mx.isNone then cap' else m) w ∧ l ≤ h ∧ (mx.isSome → h ≤ m ∧ m ≤ cap) ∧ (hi.isSome → h ≤ cap) ∧ (mx = none → m = cap) ∧ (hi = none → h = len) := by
  have asn : ∀ {v : DVal} {V : Value} {most n : Nat}, asNat v most = some n → VRel ρ v V → ∃ k, V = .int k n ∧ n ≤ most := by
    intro v V most n ha hv
    unfold asNat at ha
    split at ha
    · rename_i k n'
      split at ha
      · rename_i hb
        simp at ha; subst ha
        simp only [VRel] at hv; subst hv
        exact ⟨k, by rw [Int.toNat_of_nonneg hb.1], by omega⟩
      · cases ha
    · cases ha
  have sb : ∀ (k : IntKind) (n y : Nat) (code : BoundsCode), n ≤ y → (Instr.sliceBound (.int k n) y code).run c.P w = .ok n w := by
    intro k n y code hn
    have : (n : Int) ≤ y := by omega
    simp [Instr.sliceBound, asIntOf, this]
  unfold dbounds at hd
  cases mx with
  | none =>
    simp only [ORel] at h3; subst h3
    simp only [optAsNat] at hd
    cases hi with
    | none =>
      simp only [ORel] at h2; subst h2
      simp only at hd
      cases lo with
      | none =>
        simp only [ORel] at h1; subst h1
        simp only at hd; simp at hd
        obtain ⟨rfl, rfl, rfl⟩ := hd
        simp [Instr.sliceBounds]
      | some lo =>
        obtain ⟨v, rfl, hv⟩ := h1
        simp only at hd
        cases ha : asNat lo len with
        | none => rw [ha] at hd; cases hd
        | some q =>
          rw [ha] at hd; simp at hd; obtain ⟨rfl, rfl, rfl⟩ := hd
          obtain ⟨k, rfl, hle⟩ := asn ha hv
          simp [Instr.sliceBounds, sb k _ _ _ hle, hle]
    | some hi =>
      obtain ⟨v, rfl, hv⟩ := h2
      simp only at hd
      cases hb : asNat hi cap with
      | none => rw [hb] at hd; cases hd
      | some q2 =>
        obtain ⟨k2, rfl, hle2⟩ := asn hb hv
        rw [hb] at hd; simp only at hd
        cases lo with
        | none =>
          simp only [ORel] at h1; subst h1
          simp only at hd; simp at hd
          obtain ⟨rfl, rfl, rfl⟩ := hd
          have : q2 ≤ cap' := by omega
          simp [Instr.sliceBounds, sb k2 _ _ _ this, hle2]
        | some lo =>
          obtain ⟨v1, rfl, hv1⟩ := h1
          simp only at hd
          cases ha : asNat lo q2 with
          | none => rw [ha] at hd; cases hd
          | some q =>
            rw [ha] at hd; simp at hd; obtain ⟨rfl, rfl, rfl⟩ := hd
            obtain ⟨k, rfl, hle⟩ := asn ha hv1
            have : q2 ≤ cap' := by omega
            simp [Instr.sliceBounds, sb k2 _ _ _ this, sb k _ _ _ hle, hle, hle2]
  | some mx =>
    obtain ⟨vm, rfl, hvm⟩ := h3
    simp only [optAsNat] at hd
    cases hc : asNat mx cap with
    | none => rw [hc] at hd; cases hd
    | some q3 =>
      obtain ⟨k3, rfl, hle3⟩ := asn hc hvm
      rw [hc] at hd; simp only at hd
      have hq3 : q3 ≤ cap' := by omega
      cases hi with
      | none => simp at hd
      | some hi =>
        obtain ⟨v, rfl, hv⟩ := h2
        simp only at hd
        cases hb : asNat hi q3 with
        | none => rw [hb] at hd; cases hd
        | some q2 =>
          obtain ⟨k2, rfl, hle2⟩ := asn hb hv
          rw [hb] at hd; simp only at hd
          cases lo with
          | none =>
            simp only [ORel] at h1; subst h1
            simp only at hd; simp at hd
            obtain ⟨rfl, rfl, rfl⟩ := hd
            have : q2 ≤ cap := by omega
            simp [Instr.sliceBounds, sb k3 _ _ _ hq3, sb k2 _ _ _ hle2, hle2, hle3, this]
          | some lo =>
            obtain ⟨v1, rfl, hv1⟩ := h1
            simp only at hd
            cases ha : asNat lo q2 with
            | none => rw [ha] at hd; cases hd
            | some q =>
              rw [ha] at hd; simp at hd; obtain ⟨rfl, rfl, rfl⟩ := hd
              obtain ⟨k, rfl, hle⟩ := asn ha hv1
              have : q2 ≤ cap := by omega
              simp [Instr.sliceBounds, sb k3 _ _ _ hq3, sb k2 _ _ _ hle2, sb k _ _ _ hle, hle, hle2, hle3, this]

end
end Go.DM
