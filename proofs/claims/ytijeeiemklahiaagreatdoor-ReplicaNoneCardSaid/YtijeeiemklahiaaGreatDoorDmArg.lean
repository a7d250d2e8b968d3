/-
  Arguments: the cells of a value that can be read, by its type; as the machine may take them.
-/
import Derived.Test.YtijeeiemklahiaaGreatDoorDmRow
namespace Go.DM

/-- What a cell is. -/
inductive CK where
  | bool
  | int (k : IntKind)
  | str
  | sl (e : TypeId)

def kindsFs (P : Program) (kd : TypeId → Option (List CK)) : List Field → Nat → Nat → Option (List CK)
  | [], off, tot => match Nat.beq off tot with
    | true => some []
    | false => none
  | fd :: fs, off, tot =>
    match kd fd.type with
    | some l => match Nat.beq fd.offset off && Nat.beq l.length (P.cellsOf fd.type), kindsFs P kd fs (off + l.length) tot with
      | true, some r => some (l ++ r)
      | _, _ => none
    | none => none
/-- The cells of a type of numbers, strings and slices. -/
def kindsOf (P : Program) : Nat → TypeId → Option (List CK)
  | 0, _ => none
  | f + 1, t =>
    match P.underlying t with
    | some .bool => some [.bool]
    | some (.int k) => some [.int k]
    | some .string => some [.str]
    | some (.slice e) => some [.sl e]
    | some (.struct fs) => kindsFs P (kindsOf P f) fs.toList 0 (P.cellsOf t)
    | some (.array n e) =>
      match kindsOf P f e with
      | some l => match Nat.beq l.length (P.cellsOf e) && Nat.beq (n * l.length) (P.cellsOf t) with
        | true => some (List.replicate n l).flatten
        | false => none
      | none => none
    | _ => none

def FitsOne : CK → Value → Prop
  | .bool, v => ∃ b, v = .bool b
  | .int k, v => ∃ n, v = .int k n ∧ (Lit.int k n).wf = true
  | .str, v => ∃ s : ByteArray, v = .string s ∧ s.size ≤ maxLen
  | .sl _, v => v = .slice none 0 0 ∨ ∃ a n cap, v = .slice (some a) n cap ∧ n ≤ cap ∧ cap ≤ maxLen

def Fits : List CK → List Value → Prop
  | [], vs => vs = []
  | k :: ks, vs => ∃ v vs', vs = v :: vs' ∧ FitsOne k v ∧ Fits ks vs'

theorem Fits.append : ∀ {ks ls : List CK} {vs ws : List Value}, Fits ks vs → Fits ls ws → Fits (ks ++ ls) (vs ++ ws)
  | [], _, _, _, h, h' => by simp only [Fits] at h; subst h; simpa using h'
  | k :: ks, _, _, _, ⟨v, vs', rfl, h1, h2⟩, h' => ⟨v, vs' ++ _, rfl, h1, h2.append h'⟩

theorem Fits.length : ∀ {ks : List CK} {vs : List Value}, Fits ks vs → ks.length = vs.length
  | [], _, h => by simp only [Fits] at h; subst h; rfl
  | k :: ks, _, ⟨v, vs', rfl, _, h2⟩ => by simp [h2.length]

theorem mapM_mem {α β : Type} {f : α → Option β} : ∀ {l : List α} {xs : List β}, l.mapM f = some xs → ∀ a ∈ l, ∃ b, f a = some b
  | [], _, _, a, ha => by simp at ha
  | x :: l, xs, h, a, ha => by
    rw [List.mapM_cons] at h
    cases hx : f x with
    | none => rw [hx] at h; simp at h
    | some b =>
      rw [hx] at h
      cases hl : l.mapM f with
      | none => rw [hl] at h; simp at h
      | some bs =>
        rcases List.mem_cons.1 ha with rfl | ha
        · exact ⟨b, hx⟩
        · exact mapM_mem hl a ha

theorem fits_rep {cs : List Value} {l : List CK} {k : Nat} (hk : l.length = k) : ∀ (n off : Nat), (∀ i, i < n → Fits l ((cs.drop (off + i * k)).take k)) → off + n * k ≤ cs.length → Fits (List.replicate n l).flatten ((cs.drop off).take (n * k))
  | 0, off, _, _ => by simp [Fits]
  | n + 1, off, h, hle => by
    have h0 := h 0 (by omega)
    simp only [Nat.zero_mul, Nat.add_zero] at h0
    have hn := fits_rep hk n (off + k) (fun i hi => by
      have := h (i + 1) (by omega)
      rwa [show off + (i + 1) * k = off + k + i * k by rw [Nat.succ_mul]; omega] at this) (by rw [Nat.succ_mul] at hle; omega)
    have : (cs.drop off).take ((n + 1) * k) = (cs.drop off).take k ++ (cs.drop (off + k)).take (n * k) := by
      rw [show (n + 1) * k = k + n * k by rw [Nat.succ_mul]; omega, List.take_add, List.drop_drop]
    rw [this, List.replicate_succ, List.flatten_cons]
    exact h0.append hn

section
variable {H : Type} {enc : TypeId × Value → H} {P : Program} {w : World} {base : Nat} {spare : Nat → Bool} {held : Bool}

theorem fits_fs {cs : List Value} {g : Nat} {fuel : Nat} {tot : Nat} (ih : ∀ (t : TypeId) (cs : List Value) (d : DataW H) (ps : List MemPlace), DataW.trod enc P w base spare held fuel t cs = some (d, ps) → ∀ (g : Nat) (ks : List CK), kindsOf P g t = some ks → Fits ks cs) (hcs : cs.length = tot) :
    ∀ (fs : List Field) (off : Nat) (ks : List CK), kindsFs P (kindsOf P g) fs off tot = some ks → (∀ fd ∈ fs, ∃ y, DataW.trod enc P w base spare held fuel fd.type ((cs.drop fd.offset).take (P.cellsOf fd.type)) = some y) → Fits ks (cs.drop off)
  | [], off, ks, hk, _ => by
    simp only [kindsFs] at hk
    split at hk
    · rename_i hb
      cases hk
      have := Nat.eq_of_beq_eq_true hb
      simp only [Fits]
      rw [List.drop_eq_nil_of_le (by omega)]
    · cases hk
  | fd :: fs, off, ks, hk, h => by
    simp only [kindsFs] at hk
    split at hk
    · rename_i l hl
      split at hk
      · rename_i r hb hr
        cases hk
        simp only [Bool.and_eq_true] at hb
        have e1 := Nat.eq_of_beq_eq_true hb.1
        have e2 := Nat.eq_of_beq_eq_true hb.2
        obtain ⟨⟨d, ps⟩, hy⟩ := h fd (by simp)
        have hf := ih _ _ _ _ hy _ _ hl
        have hr' := fits_fs ih hcs fs (off + l.length) r hr (fun x hx => h x (by simp [hx]))
        rw [e1, ← e2] at hf
        have : cs.drop off = (cs.drop off).take l.length ++ cs.drop (off + l.length) := by
          rw [← List.drop_drop, List.take_append_drop]
        rw [this]
        exact hf.append hr'
      · cases hk
    · cases hk

/-- What can be read fits its type. -/
theorem trod_fits : ∀ (fuel : Nat) (t : TypeId) (cs : List Value) (d : DataW H) (ps : List MemPlace), DataW.trod enc P w base spare held fuel t cs = some (d, ps) → ∀ (g : Nat) (ks : List CK), kindsOf P g t = some ks → Fits ks cs
  | 0, t, cs, d, ps, h, g, ks, hk => by simp [DataW.trod] at h
  | fuel + 1, t, cs, d, ps, h, g, ks, hk => by
    cases g with
    | zero => simp [kindsOf] at hk
    | succ g =>
      simp only [kindsOf] at hk
      simp only [DataW.trod] at h
      cases hu : P.underlying t with
      | none => rw [hu] at hk; cases hk
      | some desc =>
        rw [hu] at hk h
        have one : ∀ {k : CK}, (∃ v, cs = [v] ∧ FitsOne k v) → Fits [k] cs := by
          rintro k ⟨v, rfl, hv⟩; exact ⟨v, [], rfl, hv, rfl⟩
        cases desc with
        | bool =>
          cases hk
          refine one ?_
          rcases cs with _ | ⟨v, _ | ⟨v2, tl⟩⟩
          · simp at h
          · cases v <;> simp at h
            exact ⟨_, rfl, _, rfl⟩
          · simp at h
        | int k =>
          cases hk
          refine one ?_
          rcases cs with _ | ⟨v, _ | ⟨v2, tl⟩⟩
          · simp at h
          · cases v <;> simp at h
            obtain ⟨⟨rfl, hw⟩, _⟩ := h
            exact ⟨_, rfl, _, rfl, hw⟩
          · simp at h
        | string =>
          cases hk
          refine one ?_
          rcases cs with _ | ⟨v, _ | ⟨v2, tl⟩⟩
          · simp at h
          · cases v <;> simp at h
            exact ⟨_, rfl, _, rfl, h.1⟩
          · simp at h
        | slice e =>
          cases hk
          refine one ?_
          rcases cs with _ | ⟨v, _ | ⟨v2, tl⟩⟩
          · simp at h
          · cases v with
            | slice a len cap =>
              cases a with
              | none =>
                cases len with
                | zero => cases cap with
                  | zero => exact ⟨_, rfl, .inl rfl⟩
                  | succ c => simp at h
                | succ n => simp at h
              | some a =>
                simp only at h
                split at h
                · rename_i hc; exact ⟨_, rfl, .inr ⟨a, len, cap, rfl, hc.2.1, hc.2.2⟩⟩
                · cases h
            | _ => simp at h
          · simp at h
        | struct fs =>
          simp only at h
          have h' : (if cs.length = P.cellsOf t then (fs.toList.mapM fun f => DataW.trod enc P w base spare held fuel f.type ((cs.drop f.offset).take (P.cellsOf f.type))).map fun xs => (DataW.agg (xs.map (·.1)), xs.flatMap (·.2)) else none) = some (d, ps) := by
            simpa using h
          split at h'
          · rename_i hlen
            simp only [Option.map_eq_some_iff] at h'
            obtain ⟨xs, hx, _⟩ := h'
            have := fits_fs (P := P) (enc := enc) (w := w) (base := base) (spare := spare) (held := held) (fuel := fuel) (cs := cs) (trod_fits fuel) hlen fs.toList 0 ks hk (fun fd hfd => mapM_mem hx fd hfd)
            simpa using this
          · cases h'
        | array n e =>
          simp only at hk
          split at hk
          · rename_i l hl
            split at hk
            · rename_i hb
              cases hk
              simp only [Bool.and_eq_true] at hb
              have e1 := Nat.eq_of_beq_eq_true hb.1
              have e2 := Nat.eq_of_beq_eq_true hb.2
              have h' : (if cs.length = P.cellsOf t then ((List.range n).mapM fun i => DataW.trod enc P w base spare held fuel e ((cs.drop (i * P.cellsOf e)).take (P.cellsOf e))).map fun xs => (DataW.agg (xs.map (·.1)), xs.flatMap (·.2)) else none) = some (d, ps) := by
                simpa using h
              split at h'
              · rename_i hlen
                simp only [Option.map_eq_some_iff] at h'
                obtain ⟨xs, hx, _⟩ := h'
                have := fits_rep (cs := cs) (l := l) (k := P.cellsOf e) e1 n 0 (fun i hi => by
                  obtain ⟨⟨d1, p1⟩, hy⟩ := mapM_mem hx i (List.mem_range.2 hi)
                  simpa using trod_fits fuel _ _ _ _ hy _ _ hl) (by rw [← e1, e2]; omega)
                rw [List.drop_zero, List.take_of_length_le (by rw [← e1, e2]; omega)] at this
                exact this
              · cases h'
            · cases hk
          · cases hk
        | _ => cases hk
end

/-- A cell, as the machine may take it: a slice by its length alone. -/
def mkOne (B : Nat → Bool) (X : Nat → Int) (N : Nat → Nat) (S : Nat → List UInt8) (j : Nat) : CK → DVal
  | .bool => .bool (B j)
  | .int k => .int k (X j)
  | .str => .str (S j)
  | .sl _ => .view none (N j)
def mkCells (B : Nat → Bool) (X : Nat → Int) (N : Nat → Nat) (S : Nat → List UInt8) : Nat → List CK → List DVal
  | _, [] => []
  | j, k :: ks => mkOne B X N S j k :: mkCells B X N S (j + 1) ks

theorem mkOne_congr {B B' : Nat → Bool} {X X' : Nat → Int} {N N' : Nat → Nat} {S S' : Nat → List UInt8} {j : Nat} (h1 : B j = B' j) (h2 : X j = X' j) (h3 : N j = N' j) (h4 : S j = S' j) (k : CK) : mkOne B X N S j k = mkOne B' X' N' S' j k := by
  cases k <;> simp [mkOne, h1, h2, h3, h4]
theorem mkCells_congr {B B' : Nat → Bool} {X X' : Nat → Int} {N N' : Nat → Nat} {S S' : Nat → List UInt8} : ∀ (ks : List CK) (j : Nat), (∀ i, j ≤ i → B i = B' i ∧ X i = X' i ∧ N i = N' i ∧ S i = S' i) → mkCells B X N S j ks = mkCells B' X' N' S' j ks
  | [], _, _ => rfl
  | k :: ks, j, h => by
    obtain ⟨h1, h2, h3, h4⟩ := h j (Nat.le_refl _)
    simp only [mkCells]
    rw [mkOne_congr h1 h2 h3 h4, mkCells_congr ks (j + 1) (fun i hi => h i (by omega))]

/-- Values that fit lie as the machine's cells do. -/
theorem fits_rel : ∀ {ks : List CK} {vs : List Value} (j : Nat), Fits ks vs → ∃ (B : Nat → Bool) (X : Nat → Int) (N : Nat → Nat) (S : Nat → List UInt8), (∀ ρ, VsRel ρ (mkCells B X N S j ks) vs)
  | [], vs, j, h => by
    simp only [Fits] at h; subst h
    exact ⟨fun _ => false, fun _ => 0, fun _ => 0, fun _ => [], fun _ => .nil⟩
  | k :: ks, vs, j, h => by
    obtain ⟨v, vs', rfl, h1, h2⟩ := h
    obtain ⟨B, X, N, S, ih⟩ := fits_rel (j + 1) h2
    have step : ∀ (B' : Nat → Bool) (X' : Nat → Int) (N' : Nat → Nat) (S' : Nat → List UInt8), (∀ i, j + 1 ≤ i → B i = B' i ∧ X i = X' i ∧ N i = N' i ∧ S i = S' i) → (∀ ρ, VRel ρ (mkOne B' X' N' S' j k) v) →
        ∃ (B : Nat → Bool) (X : Nat → Int) (N : Nat → Nat) (S : Nat → List UInt8), (∀ ρ, VsRel ρ (mkCells B X N S j (k :: ks)) (v :: vs')) := by
      intro B' X' N' S' he hv
      refine ⟨B', X', N', S', fun ρ => ?_⟩
      simp only [mkCells]
      rw [← mkCells_congr ks (j + 1) he]
      exact .cons (hv ρ) (ih ρ)
    have ne : ∀ {i}, j + 1 ≤ i → i ≠ j := fun h e => by omega
    cases k with
    | bool =>
      obtain ⟨b, rfl⟩ := h1
      refine step (fun i => if i = j then b else B i) X N S (fun i hi => ⟨by rw [if_neg (ne hi)], rfl, rfl, rfl⟩) (fun ρ => ?_)
      simp [mkOne, VRel]
    | int k =>
      obtain ⟨n, rfl, _⟩ := h1
      refine step B (fun i => if i = j then n else X i) N S (fun i hi => ⟨rfl, by rw [if_neg (ne hi)], rfl, rfl⟩) (fun ρ => ?_)
      simp [mkOne, VRel]
    | str =>
      obtain ⟨s, rfl, _⟩ := h1
      refine step B X N (fun i => if i = j then s.data.toList else S i) (fun i hi => ⟨rfl, rfl, rfl, by rw [if_neg (ne hi)]⟩) (fun ρ => ?_)
      simp only [mkOne, VRel, if_true]
      exact ⟨s, rfl, rfl⟩
    | sl e =>
      obtain ⟨a, n, cap, rfl⟩ : ∃ a n cap, v = .slice a n cap := by
        rcases h1 with rfl | ⟨a, n, cap, rfl, _⟩
        · exact ⟨_, _, _, rfl⟩
        · exact ⟨_, _, _, rfl⟩
      refine step B X (fun i => if i = j then n else N i) S (fun i hi => ⟨rfl, rfl, by rw [if_neg (ne hi)], rfl⟩) (fun ρ => ?_)
      simp only [mkOne, VRel, if_true]
      exact ⟨_, _, rfl⟩
end Go.DM
