/-
  From the machine to a row: the world at the call's begin, and what a call that leaves all old memory alone says of it.
-/
import Derived.Test.YtijeeiemklahiaaGreatDoorDmCtx
import Derived.Lib.LaidTab
import Derived.ProofKit
import Derived.LaidMore
import Derived.Stop.Joined
namespace Go.DM
noncomputable section
open Go.ChangeShapes Go.WideShapes Go.RowKit

/-- Nothing that the machine knew was changed: all old memory is as it was. -/
theorem Post.below {ρ ρ' : Ren} {m m' : DMem} {w w' : World} (hP : Post ρ m w m' ρ' w') (h : ∀ b s, ρ b = some s → stillB m m' b = true) : Below w.heap.size w w' := by
  refine ⟨hP.kept.os, hP.kept.tape, hP.kept.output, hP.kept.size, fun B hB => hP.kept.same B hB ?_⟩
  rintro ⟨b, s, hb, _, hc⟩
  exact hc (still_of hP.ext (h b s hb))

theorem TrodAll_stays {H : Type} {enc : TypeId × Value → H} {P : Program} (hl : laidOutB P = true) {W W' : World} (hb : Below W.heap.size W W') :
    ∀ {ts : List TypeId} {vs : List Value} {ds : List (DataW H)} {ps : List MemPlace}, (∀ t ∈ ts, P.readableRec t = true ∧ t < P.types.size) →
      DataW.TrodAll enc P W 0 (fun _ => true) true ts vs ds ps → (∀ x ∈ ps, x.block < W.heap.size) →
      DataW.TrodAll enc P W' 0 (fun b => decide (b < W.heap.size)) true ts vs ds ps
  | [], [], [], _, _, h, _ => h
  | t :: ts, v :: vs, d :: ds, ps, hr, h, hlt => by
    obtain ⟨p, q, h1, h2, rfl⟩ := h
    refine ⟨p, q, Below.trod hl (hr t (by simp)).1 (hr t (by simp)).2 h1 hb (fun x hx => hlt x (by simp [hx])), ?_, rfl⟩
    exact TrodAll_stays hl hb (fun t ht => hr t (by simp [ht])) h2 (fun x hx => hlt x (by simp [hx]))
  | [], _ :: _, _, _, _, h, _ => h.elim
  | [], [], _ :: _, _, _, h, _ => h.elim
  | _ :: _, [], _, _, _, h, _ => h.elim
  | _ :: _, _ :: _, [], _, _, h, _ => h.elim

/-- THE ROW's POST, where the call gave true and left all old memory alone. -/
theorem post_true {H : Type} {enc : TypeId × Value → H} {P : Program} {f : Func} {s : ChangeSpec} {W W' : World} {args : Array Value} {ds gs : List (DataW H)} {before : List MemPlace} {tb : TypeId}
    (hl : laidOutB P = true) (hr : ∀ t ∈ f.params.toList, P.readableRec t = true ∧ t < P.types.size) (hres : f.resultTypes = #[tb]) (htb : P.underlying tb = some .bool) (hv : s.vars = [])
    (hW : DataW.Whole enc P f.params.toList s.vars false W args.toList ds gs before)
    (hfn : s.fn H (ds ++ gs) = { results := [.lit (.bool true)], args := ds }) (hb : Below W.heap.size W W') : s.post enc P f false true false false W args (.bool true) W' := by
  have hW' := hW
  have hlt : ∀ x ∈ before, x.block < W.heap.size := fun x hx => hW'.lt x hx
  obtain ⟨p, q, hA, hV, rfl, hfz, hnd⟩ := hW
  rw [hv] at hV
  obtain ⟨rfl, rfl⟩ := trodVars_none hV
  refine ⟨ds, [], p ++ [], [], p, [], hW', ?_, ?_, ?_, hb.frame _, fun h => by cases h⟩
  · rw [hfn, hres]; exact trodAll_mk1 (shut_bool htb true)
  · rw [hfn]; exact TrodAll_stays hl hb hr hA (fun x hx => hlt x (by simpa using hx))
  · rw [hfn, hv]; rfl

theorem laidVars_sub {P : Program} {w : World} : ∀ {l : List (String × DataW Unit)} {ps : List MemPlace}, DataW.LaidVars P w l ps → ∀ n d, (n, d) ∈ l →
    ∃ g t cs fuel p, P.globalNamed n = some g ∧ (P.globals[g]?).map (·.type) = some t ∧ w.var? P n = some cs ∧ DataW.trod (fun _ => ()) P w 0 (fun _ => true) false fuel t cs.toList = some (d, p) ∧ ∀ x ∈ MemPlace.row ⟨g, 0, none⟩ cs.size, x ∈ ps
  | [], _, _, _, _, hm => by cases hm
  | (n', d') :: r, ps, h, n, d, hm => by
    obtain ⟨g, t, cs, fuel, p, q, h1, h2, h3, h4, h5, rfl⟩ := h
    rcases List.mem_cons.1 hm with e | e
    · cases e
      exact ⟨g, t, cs, fuel, p, h1, h2, h3, h4, fun x hx => by simp [hx]⟩
    · obtain ⟨g', t', cs', fuel', p', k1, k2, k3, k4, k5⟩ := laidVars_sub h5 n d e
      exact ⟨g', t', cs', fuel', p', k1, k2, k3, k4, fun x hx => by simp [k5 x hx]⟩

/-- A listed table of integers: its block. -/
theorem laid_tab {P : Program} {w : World} {l : List (String × DataW Unit)} (h : laidMet P l w) {name : String} {k : IntKind} {zs : List Int} (hm : (name, Lib.tabData k zs) ∈ l) {g : Nat} {t e : TypeId} {n : Nat}
    (hg : P.globalNamed name = some g) (hty : (P.globals[g]?).map (·.type) = some t) (ht : P.underlying t = some (.array n e)) (he : P.underlying e = some (.int k)) (hce : P.cellsOf e = 1) (hct : P.cellsOf t = n) (hpos : 0 < zs.length) :
    ∃ u, w.heap[g]? = some (.cells (zs.map fun z => Value.int k z).toArray u (0, 0)) := by
  obtain ⟨ps, hv, _, hc⟩ := h
  obtain ⟨g', t', cs, fuel, p, k1, k2, k3, k4, k5⟩ := laidVars_sub hv _ _ hm
  obtain rfl := Option.some.inj (hg.symm.trans k1)
  obtain rfl := Option.some.inj (hty.symm.trans k2)
  have ecs := Lib.cells_of_tab ht he hce hct k4
  have hsz : 0 < cs.size := by
    have := congrArg List.length ecs
    simp at this
    omega
  obtain ⟨⟨c, u, hc1⟩, _⟩ := hc g 0 (k5 _ (by
    unfold MemPlace.row
    refine List.mem_map.2 ⟨0, by simpa using hsz, rfl⟩))
  unfold World.var? at k3
  rw [hg] at k3
  simp only [Option.bind_some, hc1, Option.some.injEq] at k3
  subst k3
  exact ⟨u, by rw [hc1, ← ecs]⟩

theorem lookup_mem {α : Type} {l : List (Nat × α)} {i : Nat} {x : α} (h : l.lookup i = some x) : (i, x) ∈ l := by
  induction l with
  | nil => cases h
  | cons p l ih =>
    obtain ⟨j, y⟩ := p
    simp only [List.lookup] at h
    split at h
    · rename_i hb
      have : i = j := by simpa using hb
      subst this; cases h; simp
    · exact List.mem_cons_of_mem _ (ih h)

/-- A start: what is known of the world's memory, and is only read. -/
def stOf (L : List (Nat × Spot × DObj)) (n : Nat) : DMem := ⟨List.rec (motive := fun _ => T DObj) .leaf (fun x _ t => t.set x.1 x.2.2) L, n, []⟩
def renOf (L : List (Nat × Spot × DObj)) : Ren := fun i => (L.lookup i).map (·.1)

theorem stOf_get : ∀ (L : List (Nat × Spot × DObj)) (n i : Nat), (stOf L n).get i = (L.lookup i).map (·.2)
  | [], _, _ => rfl
  | (j, s, o) :: L, n, i => by
    show (T.set (stOf L n).t j o).get i = _
    rw [T.get_set]
    by_cases h : i = j
    · subst h; simp [List.lookup]
    · have : (i == j) = false := by simpa using h
      simp only [List.lookup, this, if_neg h]
      exact stOf_get L n i

def still : DObj → Prop
  | .ro _ | .dead => True
  | _ => False

theorem start_of {L : List (Nat × Spot × DObj)} {n : Nat} {w : World}
    (h : ∀ i s o, (i, s, o) ∈ L → i < n ∧ s.blk < w.heap.size ∧ BlkRel (renOf L) s w o ∧ still o) : MRel (renOf L) (stOf L n) w := by
  have hr : ∀ i s, renOf L i = some s → ∃ o, (i, s, o) ∈ L ∧ (stOf L n).get i = some o := by
    intro i s hi
    unfold renOf at hi
    cases hl : L.lookup i with
    | none => rw [hl] at hi; cases hi
    | some x =>
      rw [hl] at hi; obtain ⟨s', o⟩ := x; cases hi
      exact ⟨o, lookup_mem hl, by rw [stOf_get, hl]; rfl⟩
  refine ⟨?_, ?_, ?_, ?_, ?_⟩
  · intro b hb
    rw [stOf_get]
    cases hl : L.lookup b with
    | none => rfl
    | some x =>
      obtain ⟨s', o⟩ := x
      have := (h _ _ _ (lookup_mem hl)).1
      exact absurd this (by show ¬ b < (stOf L n).size; omega)
  · intro b s hb
    obtain ⟨o, h1, _⟩ := hr b s hb
    exact (h _ _ _ h1).1
  · intro b s hb
    obtain ⟨o, h1, _⟩ := hr b s hb
    exact (h _ _ _ h1).2.1
  · intro b s hb
    obtain ⟨o, h1, h2⟩ := hr b s hb
    exact ⟨o, h2, (h _ _ _ h1).2.2.1⟩
  · intro b b' s s' _ hb _ hal _
    obtain ⟨o, h1, h2⟩ := hr b s hb
    have := (h _ _ _ h1).2.2.2
    unfold alive at hal; rw [h2] at hal
    cases o <;> first | exact hal.elim | exact this.elim

/-- A world's row, as it is read alone. -/
theorem ro_row {ρ : Ren} {w : World} {g : Nat} {cs : List DVal} {row : Array Value} {u : TypeId} {fz : Nat × Nat} (h : w.heap[g]? = some (.cells row u fz)) (hs : row.size = cs.length) (hr : VsRel ρ cs row.toList) (hc : cs.all isCell = true) :
    BlkRel ρ ⟨g, 0, cs.length⟩ w (.ro cs) := by
  refine ⟨row, u, fz, h, Nat.le_refl _, by show 0 + cs.length ≤ row.size; omega, ?_, hc⟩
  have : (row.toList.drop 0).take cs.length = row.toList := by
    rw [List.drop_zero, List.take_of_length_le (by simp; omega)]
  rw [this]; exact hr

theorem ints_rel (ρ : Ren) (k : IntKind) : ∀ zs : List Int, VsRel ρ (zs.map fun z => .int k z) (zs.map fun z => .int k z)
  | [] => .nil
  | z :: zs => .cons (by simp only [VRel]) (ints_rel ρ k zs)

theorem ints_cells (k : IntKind) : ∀ zs : List Int, (zs.map fun z => (DVal.int k z)).all isCell = true
  | [] => rfl
  | z :: zs => by simp only [List.map_cons, List.all_cons, isCell, Bool.true_and]; exact ints_cells k zs

/-- A slice argument of which only the length is wanted. -/
theorem slice_arg {P : Program} {W : World} {base : Nat} {t e : TypeId} {V : Value} (ht : P.underlying t = some (.slice e)) (hok : Value.okWide P W .any base t V) :
    V = .slice none 0 0 ∨ ∃ A n cap, V = .slice (some A) n cap ∧ n ≤ cap ∧ A.spot = none ∧ A.block < W.heap.size := by
  simp only [Value.okWide, ht, Cell.okWide] at hok
  cases V with
  | slice a n cap =>
    cases a with
    | none =>
      cases n with
      | zero => cases cap with
        | zero => exact .inl rfl
        | succ c => simp [Cell.ok, ht] at hok
      | succ n => simp [Cell.ok, ht] at hok
    | some A =>
      simp only [Cell.ok, ht] at hok
      obtain ⟨h1, _, _, h2, row, cells, h3, _⟩ := hok
      refine .inr ⟨A, n, cap, rfl, h1, h2, ?_⟩
      unfold World.shape? at h3
      rcases Nat.lt_or_ge A.block W.heap.size with h | h
      · exact h
      · rw [Array.getElem?_eq_none h] at h3; simp at h3
  | _ => simp [Cell.ok, ht] at hok

end
end Go.DM
