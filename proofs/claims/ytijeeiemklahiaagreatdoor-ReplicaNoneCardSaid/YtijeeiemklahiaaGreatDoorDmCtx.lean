/-
  The machine's tables: types out of the program, functions out of a list.
-/
import Derived.Test.YtijeeiemklahiaaGreatDoorDmView
import Derived.Test.YtijeeiemklahiaaGreatDoorDmFast3
namespace Go.DM
noncomputable section

def zok (d : TypeDesc) (z : DVal) : Bool :=
  match d with
  | .struct _ | .array _ _ => match z with
    | .agg _ => true
    | _ => false
  | _ => isCell z

/-- A type's row out of the program. -/
def tyOf (P : Program) (t : TypeId) : Option TI :=
  match P.underlying t, P.info? t with
  | some d, some i => match i.zero with
    | some z => match ofConst z with
      | some zd => match Nat.beq zd.cells.length i.size && zd.cells.all isCell && zok d zd with
        | true => some ⟨d, i.size, i.bytes, zd.cells⟩
        | false => none
      | none => none
    | none => none
  | _, _ => none

theorem tyOf_ok {P : Program} {t : TypeId} {i : TI} (h : tyOf P t = some i) : TyOk P t i := by
  unfold tyOf at h
  split at h
  · rename_i d info hd hinfo
    split at h
    · rename_i z hz
      split at h
      · rename_i zd hzd
        split at h
        · rename_i hc
          simp only [Option.some.injEq] at h
          subst h
          simp only [Bool.and_eq_true] at hc
          obtain ⟨⟨h1, h2⟩, h3⟩ := hc
          refine ⟨hd, ⟨info, z, zd, hinfo, rfl, rfl, hz, hzd, rfl, ?_, ?_⟩, Nat.eq_of_beq_eq_true h1, h2⟩
          · intro ha
            unfold TI.isAgg at ha
            unfold zok at h3
            simp only at ha
            split at ha
            · simp only at h3; split at h3
              · exact ⟨_, rfl⟩
              · cases h3
            · simp only at h3; split at h3
              · exact ⟨_, rfl⟩
              · cases h3
            · cases ha
          · intro ha
            have hcell : isCell zd = true := by
              unfold TI.isAgg at ha
              unfold zok at h3
              simp only at ha
              split at ha
              · cases ha
              · cases ha
              · rename_i n1 n2
                split at h3
                · exact absurd rfl (n1 _)
                · exact absurd rfl (n2 _ _)
                · exact h3
            cases zd <;> first | rfl | (simp [isCell] at hcell)
        · cases h
      · cases h
    · cases h
  · cases h

/-- A tree out of a list. -/
def buildT {α : Type} (l : List (Nat × α)) : T α := List.rec (motive := fun _ => T α) .leaf (fun x _ t => t.set x.1 x.2) l

theorem buildT_mem {α : Type} : ∀ (l : List (Nat × α)) (k : Nat) (x : α), (buildT l).get k = some x → (k, x) ∈ l
  | [], k, x, h => by cases h
  | (j, y) :: l, k, x, h => by
    have h' : ((buildT l).set j y).get k = some x := h
    rw [T.get_set] at h'
    by_cases e : k = j
    · rw [if_pos e] at h'; subst e; cases h'; simp
    · rw [if_neg e] at h'; exact List.mem_cons_of_mem _ (buildT_mem l k x h')

def GoodFn (P : Program) (x : Nat × Func) : Prop :=
  P.funcs[x.1]? = some x.2 ∧ ∀ (A : Array Value) (w : World), (callFunc x.1 A).run P w = .ok (.enter x.1 A) w

def GoodFns (P : Program) : List (Nat × Func) → Prop
  | [] => True
  | x :: l => GoodFn P x ∧ GoodFns P l

theorem GoodFns.mem {P : Program} : ∀ {l : List (Nat × Func)}, GoodFns P l → ∀ x ∈ l, GoodFn P x
  | [], _, x, hx => by simp at hx
  | y :: l, h, x, hx => by
    rcases List.mem_cons.1 hx with rfl | hx
    · exact h.1
    · exact h.2.mem x hx

end
end Go.DM
