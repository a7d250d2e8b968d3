/-
  What a row's condition lays of package-level variables that hold numbers alone: their cells. And a law's call, from the world's side.
-/
import Derived.Test.YtijeeiemklahiaaGreatDoorDmArg
namespace Go.DM
open Go.ChangeShapes Go.WideShapes Go.RowKit

mutual
/-- The cells of a datum of numbers. -/
def flatV {H : Type} : DataW H → List Value
  | .lit (.int k n) => [.int k n]
  | .lit (.bool b) => [.bool b]
  | .agg ps => flatVs ps
  | _ => []
def flatVs {H : Type} : List (DataW H) → List Value
  | [] => []
  | d :: ds => flatV d ++ flatVs ds
end

def noSl : List CK → Bool
  | [] => true
  | .bool :: ks => noSl ks
  | .int _ :: ks => noSl ks
  | _ :: _ => false

theorem noSl_append : ∀ {a b : List CK}, noSl (a ++ b) = true → noSl a = true ∧ noSl b = true
  | [], _, h => ⟨rfl, h⟩
  | .bool :: a, b, h => by have := noSl_append (a := a) (b := b) (by simpa [noSl] using h); exact ⟨by simpa [noSl] using this.1, this.2⟩
  | .int _ :: a, b, h => by have := noSl_append (a := a) (b := b) (by simpa [noSl] using h); exact ⟨by simpa [noSl] using this.1, this.2⟩
  | .str :: a, b, h => by simp [noSl] at h
  | .sl _ :: a, b, h => by simp [noSl] at h

theorem noSl_rep {l : List CK} : ∀ {n : Nat}, noSl (List.replicate n l).flatten = true → n = 0 ∨ noSl l = true
  | 0, _ => .inl rfl
  | n + 1, h => by rw [List.replicate_succ, List.flatten_cons] at h; exact .inr (noSl_append h).1

theorem mapM_cons_some {α β : Type} {f : α → Option β} {a : α} {l : List α} {xs : List β} (h : (a :: l).mapM f = some xs) : ∃ b bs, f a = some b ∧ l.mapM f = some bs ∧ xs = b :: bs := by
  rw [List.mapM_cons] at h
  cases hx : f a with
  | none => rw [hx] at h; simp at h
  | some b =>
    rw [hx] at h
    cases hl : l.mapM f with
    | none => rw [hl] at h; simp at h
    | some bs => rw [hl] at h; simp at h; exact ⟨b, bs, rfl, rfl, h.symm⟩

section
variable {H : Type} {enc : TypeId × Value → H} {P : Program} {w : World} {base : Nat} {spare : Nat → Bool} {held : Bool}

theorem flat_rep {cs : List Value} {e : TypeId} {k fuel : Nat} (ih : ∀ (cs : List Value) (d : DataW H) (ps : List MemPlace), DataW.trod enc P w base spare held fuel e cs = some (d, ps) → cs = flatV d) :
    ∀ (n s : Nat) (xs : List (DataW H × List MemPlace)), (List.range' s n).mapM (fun i => DataW.trod enc P w base spare held fuel e ((cs.drop (i * k)).take k)) = some xs → (cs.drop (s * k)).take (n * k) = flatVs (xs.map (·.1))
  | 0, s, xs, h => by simp at h; subst h; simp [flatVs]
  | n + 1, s, xs, h => by
    rw [List.range'_succ] at h
    obtain ⟨⟨d, p⟩, bs, h1, h2, rfl⟩ := mapM_cons_some h
    have e1 := ih _ _ _ h1
    have e2 := flat_rep ih n (s + 1) bs h2
    have : (cs.drop (s * k)).take ((n + 1) * k) = (cs.drop (s * k)).take k ++ (cs.drop ((s + 1) * k)).take (n * k) := by
      rw [show (n + 1) * k = k + n * k by rw [Nat.succ_mul]; omega, List.take_add, List.drop_drop, show (s + 1) * k = s * k + k by rw [Nat.succ_mul]]
    rw [this, e1, e2]
    simp [flatVs]

theorem flat_fs {cs : List Value} {g fuel tot : Nat} (ih : ∀ (t : TypeId) (cs : List Value) (d : DataW H) (ps : List MemPlace), DataW.trod enc P w base spare held fuel t cs = some (d, ps) → ∀ (g : Nat) (ks : List CK), kindsOf P g t = some ks → noSl ks = true → cs = flatV d) (hcs : cs.length = tot) :
    ∀ (fs : List Field) (off : Nat) (ks : List CK) (xs : List (DataW H × List MemPlace)), kindsFs P (kindsOf P g) fs off tot = some ks → noSl ks = true →
      fs.mapM (fun fd => DataW.trod enc P w base spare held fuel fd.type ((cs.drop fd.offset).take (P.cellsOf fd.type))) = some xs → cs.drop off = flatVs (xs.map (·.1))
  | [], off, ks, xs, hk, _, h => by
    simp only [kindsFs] at hk
    split at hk
    · rename_i hb
      have := Nat.eq_of_beq_eq_true hb
      simp at h; subst h
      simp only [flatVs, List.map_nil]
      exact List.drop_eq_nil_of_le (by omega)
    · cases hk
  | fd :: fs, off, ks, xs, hk, hn, h => by
    simp only [kindsFs] at hk
    split at hk
    · rename_i l hl
      split at hk
      · rename_i r hb hr
        cases hk
        simp only [Bool.and_eq_true] at hb
        have e1 := Nat.eq_of_beq_eq_true hb.1
        have e2 := Nat.eq_of_beq_eq_true hb.2
        obtain ⟨n1, n2⟩ := noSl_append hn
        obtain ⟨⟨d, p⟩, bs, h1, h2, rfl⟩ := mapM_cons_some h
        have hf := ih _ _ _ _ h1 _ _ hl n1
        have hr' := flat_fs ih hcs fs (off + l.length) r bs hr n2 h2
        rw [e1, ← e2] at hf
        have : cs.drop off = (cs.drop off).take l.length ++ cs.drop (off + l.length) := by
          rw [← List.drop_drop, List.take_append_drop]
        rw [this, hf, hr']
        simp [flatVs]
      · cases hk
    · cases hk

/-- What numbers read as is what they are. -/
theorem trod_flat : ∀ (fuel : Nat) (t : TypeId) (cs : List Value) (d : DataW H) (ps : List MemPlace), DataW.trod enc P w base spare held fuel t cs = some (d, ps) → ∀ (g : Nat) (ks : List CK), kindsOf P g t = some ks → noSl ks = true → cs = flatV d
  | 0, t, cs, d, ps, h, g, ks, hk, _ => by simp [DataW.trod] at h
  | fuel + 1, t, cs, d, ps, h, g, ks, hk, hns => by
    cases g with
    | zero => simp [kindsOf] at hk
    | succ g =>
      simp only [kindsOf] at hk
      simp only [DataW.trod] at h
      cases hu : P.underlying t with
      | none => rw [hu] at hk; cases hk
      | some desc =>
        rw [hu] at hk h
        cases desc with
        | bool =>
          rcases cs with _ | ⟨v, _ | ⟨v2, tl⟩⟩
          · simp at h
          · cases v <;> simp at h
            obtain ⟨rfl, _⟩ := h
            simp [flatV]
          · simp at h
        | int k =>
          rcases cs with _ | ⟨v, _ | ⟨v2, tl⟩⟩
          · simp at h
          · cases v <;> simp at h
            obtain ⟨⟨rfl, _⟩, rfl, _⟩ := h
            simp [flatV]
          · simp at h
        | string => cases hk; simp [noSl] at hns
        | slice e => cases hk; simp [noSl] at hns
        | struct fs =>
          simp only at hk
          have h' : (if cs.length = P.cellsOf t then (fs.toList.mapM fun f => DataW.trod enc P w base spare held fuel f.type ((cs.drop f.offset).take (P.cellsOf f.type))).map fun xs => (DataW.agg (xs.map (·.1)), xs.flatMap (·.2)) else none) = some (d, ps) := by
            simpa using h
          split at h'
          · rename_i hlen
            simp only [Option.map_eq_some_iff] at h'
            obtain ⟨xs, hx, he⟩ := h'
            cases he
            have := flat_fs (P := P) (enc := enc) (w := w) (base := base) (spare := spare) (held := held) (fuel := fuel) (cs := cs) (trod_flat fuel) hlen fs.toList 0 ks xs hk hns hx
            simpa [flatV] using this
          · cases h'
        | array n e =>
          simp only at hk
          split at hk
          · rename_i l hl
            split at hk
            · rename_i hb
              cases hk
              simp only [Bool.and_eq_true] at hb
              have e1 := Nat.eq_of_beq_eq_true hb.1
              have e2 := Nat.eq_of_beq_eq_true hb.2
              have h' : (if cs.length = P.cellsOf t then ((List.range n).mapM fun i => DataW.trod enc P w base spare held fuel e ((cs.drop (i * P.cellsOf e)).take (P.cellsOf e))).map fun xs => (DataW.agg (xs.map (·.1)), xs.flatMap (·.2)) else none) = some (d, ps) := by
                simpa using h
              split at h'
              · rename_i hlen
                simp only [Option.map_eq_some_iff] at h'
                obtain ⟨xs, hx, he⟩ := h'
                cases he
                rcases noSl_rep hns with rfl | hnl
                · have : cs = [] := List.length_eq_zero_iff.1 (by rw [hlen, ← e2]; simp)
                  subst this
                  simp at hx; subst hx; simp [flatV, flatVs]
                · rw [List.range_eq_range'] at hx
                  have := flat_rep (cs := cs) (k := P.cellsOf e) (fun cs d ps h => trod_flat fuel e cs d ps h g l hl hnl) n 0 xs hx
                  rw [Nat.zero_mul, List.drop_zero, List.take_of_length_le (by rw [← e1, e2]; omega)] at this
                  simpa [flatV] using this
              · cases h'
            · cases hk
          · cases hk
        | _ => cases hk
end

/-- A listed variable of numbers: its block. -/
theorem laid_cells {P : Program} {w : World} {l : List (String × DataW Unit)} (h : laidMet P l w) {name : String} {D : DataW Unit} (hm : (name, D) ∈ l) {g : Nat} {t : TypeId} {ks : List CK}
    (hg : P.globalNamed name = some g) (hty : (P.globals[g]?).map (·.type) = some t) (hk : kindsOf P 10 t = some ks) (hn : noSl ks = true) (hpos : 0 < (flatV D).length) :
    ∃ u, w.heap[g]? = some (.cells (flatV D).toArray u (0, 0)) := by
  obtain ⟨ps, hv, _, hc⟩ := h
  obtain ⟨g', t', cs, fuel, p, k1, k2, k3, k4, k5⟩ := laidVars_sub hv _ _ hm
  obtain rfl := Option.some.inj (hg.symm.trans k1)
  obtain rfl := Option.some.inj (hty.symm.trans k2)
  have ecs : cs.toList = flatV D := trod_flat _ _ _ _ _ k4 _ _ hk hn
  have hsz : 0 < cs.size := by
    have := congrArg List.length ecs
    simp at this
    omega
  obtain ⟨⟨c, u, hc1⟩, _⟩ := hc g 0 (k5 _ (by
    unfold MemPlace.row
    refine List.mem_map.2 ⟨0, by simpa using hsz, rfl⟩))
  unfold World.var? at k3
  rw [hg] at k3
  simp only [Option.bind_some, hc1, Option.some.injEq] at k3
  subst k3
  exact ⟨u, by rw [hc1, ← ecs]⟩

theorem ro_table {ρ : Ren} {w : World} {g : Nat} {cs : List DVal} {vs : List Value} {u : TypeId} (h : w.heap[g]? = some (.cells vs.toArray u (0, 0))) (hr : VsRel ρ cs vs) (hc : cs.all isCell = true) :
    BlkRel ρ ⟨g, 0, cs.length⟩ w (.ro cs) :=
  ro_row h (by simpa using hr.length.symm) (by simpa using hr) hc

/-- A call that gave true where nothing was known but to be read. -/
theorem law_true {c : Ctx} {f : FuncId} {args : List DVal} {L : List (Nat × Spot × DObj)} {n : Nat} {m' : DMem} {w : World} {A : Array Value} (h : CallTo c f args (stOf L n) (.bool true) m')
    (hst : ∀ i s o, (i, s, o) ∈ L → still o) (hm : MRel (renOf L) (stOf L n) w) (hg : GOk c (renOf L)) (hA : VsRel (renOf L) args A.toList) :
    Calls c.P f A w fun ex w' => ex = .returned (.bool true) ∧ Below w.heap.size w w' := by
  refine (h _ w A hm hg hA).2.mono ?_
  rintro ex w' ⟨V, ρ', rfl, hV, hP⟩
  simp only [VRel] at hV
  subst hV
  refine ⟨rfl, hP.kept.os, hP.kept.tape, hP.kept.output, hP.kept.size, fun B hB => hP.kept.same B hB ?_⟩
  rintro ⟨b, s, hb, _, hc⟩
  apply hc
  unfold renOf at hb
  cases hl : L.lookup b with
  | none => rw [hl] at hb; cases hb
  | some x =>
    obtain ⟨s', o⟩ := x
    have ho := hst _ _ _ (lookup_mem hl)
    have hget : (stOf L n).get b = some o := by rw [stOf_get, hl]; rfl
    cases o with
    | ro cs => exact ext_ro hP.ext hget
    | dead => exact ext_dead hP.ext hget
    | _ => exact ho.elim

def eqDV : List DVal → List Value → Bool
  | [], [] => true
  | .int k n :: ds, .int k' n' :: vs => decide (k = k') && decide (n = n') && eqDV ds vs
  | _, _ => false
theorem eqDV_rel (ρ : Ren) : ∀ {ds : List DVal} {vs : List Value}, eqDV ds vs = true → VsRel ρ ds vs
  | [], [], _ => .nil
  | .int k n :: ds, .int k' n' :: vs, h => by
    simp only [eqDV, Bool.and_eq_true, decide_eq_true_eq] at h
    obtain ⟨⟨rfl, rfl⟩, h⟩ := h
    exact .cons (by simp only [VRel]) (eqDV_rel ρ h)
  | [], _ :: _, h => by simp [eqDV] at h
  | .int .. :: _, [], h => by simp [eqDV] at h
  | d :: _, v :: _, h => by
    cases d <;> cases v <;> first | (simp [eqDV] at h; done) | skip
    simp only [eqDV, Bool.and_eq_true, decide_eq_true_eq] at h
    obtain ⟨⟨rfl, rfl⟩, h⟩ := h
    exact .cons (by simp only [VRel]) (eqDV_rel ρ h)
  | .bool _ :: _, [], h => by simp [eqDV] at h
  | .str _ :: _, [], h => by simp [eqDV] at h
  | .ptr _ :: _, [], h => by simp [eqDV] at h
  | .slice .. :: _, [], h => by simp [eqDV] at h
  | .map _ :: _, [], h => by simp [eqDV] at h
  | .func .. :: _, [], h => by simp [eqDV] at h
  | .nilFunc :: _, [], h => by simp [eqDV] at h
  | .nilIface :: _, [], h => by simp [eqDV] at h
  | .view .. :: _, [], h => by simp [eqDV] at h
  | .agg _ :: _, [], h => by simp [eqDV] at h
  | .tuple _ :: _, [], h => by simp [eqDV] at h

def isAggT (P : Program) (t : TypeId) : Bool :=
  match P.underlying t with
  | some (.struct _) | some (.array _ _) => true
  | _ => false

/-- An argument that is a struct or an array. -/
theorem open_cells {H : Type} {enc : TypeId × Value → H} {P : Program} {w : World} {r : Reach} {b0 base : Nat} {spare : Nat → Bool} {held : Bool} {t : TypeId} {v : Value} {d : DataW H} {ps : List MemPlace} {g : Nat} {ks : List CK}
    (ha : isAggT P t = true) (hval : Value.okWide P w r b0 t v) (hd : DataW.Trod enc P w base spare held t v d ps) (hk : kindsOf P g t = some ks) :
    ∃ (B : Nat → Bool) (X : Nat → Int) (N : Nat → Nat) (S : Nat → List UInt8), ∀ ρ, VRel ρ (.agg (mkCells B X N S 0 ks)) v := by
  obtain ⟨fuel, hf⟩ := hd
  obtain ⟨B, X, N, S, h⟩ := fits_rel 0 (trod_fits _ _ _ _ _ hf _ _ hk)
  have : ∃ cs, v = .agg cs := by
    unfold isAggT at ha
    unfold Value.okWide at hval
    split at ha
    · rename_i h1; rw [h1] at hval; obtain ⟨cs, h2, _⟩ := hval; exact ⟨cs, h2⟩
    · rename_i h1; rw [h1] at hval; obtain ⟨cs, h2, _⟩ := hval; exact ⟨cs, h2⟩
    · cases ha
  obtain ⟨cs, rfl⟩ := this
  refine ⟨B, X, N, S, fun ρ => ?_⟩
  simp only [VRel]
  exact ⟨cs, rfl, h ρ⟩
end Go.DM
