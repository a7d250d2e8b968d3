/-
  EpochNil: the machine's runs.
-/
import Derived.Test.YtcghhpcmajheoaaGreatDoorDmHash
import Derived.Test.YtcghhpcmajheoaaGreatDoorDmRow
namespace Go.DM
noncomputable section
open Go.Proofs
set_option maxRecDepth 1000000
def cG4 : List DVal := [.int .u8 0, .int .u8 1, .int .u8 28, .int .u8 2, .int .u8 29, .int .u8 14, .int .u8 24, .int .u8 3, .int .u8 30, .int .u8 22, .int .u8 20, .int .u8 15, .int .u8 25, .int .u8 17, .int .u8 4, .int .u8 8, .int .u8 31, .int .u8 27, .int .u8 13, .int .u8 23, .int .u8 21, .int .u8 19, .int .u8 16, .int .u8 7, .int .u8 26, .int .u8 12, .int .u8 18, .int .u8 6, .int .u8 11, .int .u8 5, .int .u8 10, .int .u8 9]
def cG5 : List DVal := [.int .u8 0, .int .u8 1, .int .u8 56, .int .u8 2, .int .u8 57, .int .u8 49, .int .u8 28, .int .u8 3, .int .u8 61, .int .u8 58, .int .u8 42, .int .u8 50, .int .u8 38, .int .u8 29, .int .u8 17, .int .u8 4, .int .u8 62, .int .u8 47, .int .u8 59, .int .u8 36, .int .u8 45, .int .u8 43, .int .u8 51, .int .u8 22, .int .u8 53, .int .u8 39, .int .u8 33, .int .u8 30, .int .u8 24, .int .u8 18, .int .u8 12, .int .u8 5, .int .u8 63, .int .u8 55, .int .u8 48, .int .u8 27, .int .u8 60, .int .u8 41, .int .u8 37, .int .u8 16, .int .u8 46, .int .u8 35, .int .u8 44, .int .u8 21, .int .u8 52, .int .u8 32, .int .u8 23, .int .u8 11, .int .u8 54, .int .u8 26, .int .u8 40, .int .u8 15, .int .u8 34, .int .u8 20, .int .u8 31, .int .u8 10, .int .u8 25, .int .u8 14, .int .u8 19, .int .u8 9, .int .u8 13, .int .u8 8, .int .u8 7, .int .u8 6]
def glE (g : Nat) : Bool := Nat.beq g 0 || Nat.beq g 1 || Nat.beq g 2 || Nat.beq g 3
theorem glE_mem {g : Nat} (h : glE g = true) : g ∈ [0, 1, 2, 3] := by
  simp only [glE, Bool.or_eq_true] at h
  rcases h with ((h | h) | h) | h <;> simp [Nat.eq_of_beq_eq_true h]
theorem glH_glE (g : Nat) (h : glH g = true) : glE g = true := by
  simp only [glH, glE, Bool.or_eq_true] at h ⊢
  exact .inl (.inl h)
def tG : T DObj := T.set (T.set (T.set (T.set .leaf 0 (.cells cG0 183 0)) 1 (.cells cG2 204 0)) 2 (.cells cG4 25 0)) 3 (.cells cG5 219 0)
def stG : DMem := ⟨tG, 4⟩
def stE : DMem := ⟨T.set tG 4 .dead, 5⟩
theorem stG_none (i : Nat) (h : 4 ≤ i) : stG.get i = none := by
  show tG.get i = none
  unfold tG
  rw [T.get_set, T.get_set, T.get_set, T.get_set, if_neg (by omega), if_neg (by omega), if_neg (by omega), if_neg (by omega)]; rfl
theorem stE_none (i : Nat) (h : 5 ≤ i) : stE.get i = none := by
  show (T.set tG 4 .dead).get i = none
  rw [T.get_set, if_neg (by omega)]; exact stG_none i (by omega)
def okTrue (g : List Nat) (st : DMem) : Option (DVal × DMem) → Bool
  | some (.bool true, m) => g.all fun b => stillB st m b
  | _ => false
theorem okTrue_facts {g : List Nat} {st : DMem} {r : Option (DVal × DMem)} (h : okTrue g st r = true) : ∃ m, r = some (.bool true, m) ∧ ∀ b ∈ g, stillB st m b = true := by
  unfold okTrue at h
  split at h
  · rename_i m
    exact ⟨m, rfl, by simpa using h⟩
  · cases h
def orcA (f : FuncId) : Option (List DVal → DMem → Option (DVal × DMem)) :=
  match Nat.beq f 65 with
  | true => some sumOrc
  | false => none
theorem orcA_ok (f : FuncId) (g : List DVal → DMem → Option (DVal × DMem)) (hf : orcA f = some g) (args : List DVal) (m : DMem) (v : DVal) (m' : DMem) (h : g args m = some (v, m')) : CallTo (ctxOf glE orcA) f args m v m' := by
  unfold orcA at hf
  split at hf
  · rename_i hb
    have := Nat.eq_of_beq_eq_true hb
    subst this
    cases hf
    exact sumOrc_ok glH_glE args m v m' h
  · cases hf

/-- AWAKE: true, whatever the hash. -/
theorem awake_run : okTrue [0, 1, 2, 3] stG (kcall true (ctxOf glE orcA) 1000 4 [] stG) = true := by kernel_rfl

def awakeOrc (args : List DVal) (m : DMem) : Option (DVal × DMem) :=
  match args with
  | [] => match hasG m 0 cG0 && hasG m 1 cG2 && hasG m 2 cG4 && hasG m 3 cG5 with
    | true => some (.bool true, m)
    | false => none
  | _ => none
theorem awakeOrc_ok {orc : FuncId → Option (List DVal → DMem → Option (DVal × DMem))} (args : List DVal) (m : DMem) (v : DVal) (m' : DMem) (h : awakeOrc args m = some (v, m')) : CallTo (ctxOf glE orc) 4 args m v m' := by
  unfold awakeOrc at h
  split at h
  · split at h
    · rename_i hc
      simp only [Option.some.injEq, Prod.mk.injEq] at h
      obtain ⟨rfl, rfl⟩ := h
      simp only [Bool.and_eq_true] at hc
      obtain ⟨⟨⟨h0, h2⟩, h4⟩, h5⟩ := hc
      obtain ⟨m2, e1, e2⟩ := okTrue_facts awake_run
      have key := view_plain (gs := [0, 1, 2, 3]) (m := m) (ctxOf_run orcA_ok e1) (fun g hg => glE_mem hg) stG_none
        (by intro g hg; simp at hg; rcases hg with rfl | rfl | rfl | rfl <;> (show _ < 4; omega))
        (by
          intro g hg
          simp at hg
          rcases hg with rfl | rfl | rfl | rfl
          · obtain ⟨⟨e, v, h⟩, hpl⟩ := hasG_get h0; exact .inr ⟨cG0, 183, 0, e, v, rfl, h, hpl⟩
          · obtain ⟨⟨e, v, h⟩, hpl⟩ := hasG_get h2; exact .inr ⟨cG2, 204, 0, e, v, rfl, h, hpl⟩
          · obtain ⟨⟨e, v, h⟩, hpl⟩ := hasG_get h4; exact .inr ⟨cG4, 25, 0, e, v, rfl, h, hpl⟩
          · obtain ⟨⟨e, v, h⟩, hpl⟩ := hasG_get h5; exact .inr ⟨cG5, 219, 0, e, v, rfl, h, hpl⟩)
        e2 rfl rfl
      exact fun ρ w A h1 h2 h3 => key ρ w A h1 h2 h3
    · cases h
  · cases h

def orcE (f : FuncId) : Option (List DVal → DMem → Option (DVal × DMem)) :=
  match Nat.beq f 4 with
  | true => some awakeOrc
  | false => none
theorem orcE_ok (f : FuncId) (g : List DVal → DMem → Option (DVal × DMem)) (hf : orcE f = some g) (args : List DVal) (m : DMem) (v : DVal) (m' : DMem) (h : g args m = some (v, m')) : CallTo (ctxOf glE orcE) f args m v m' := by
  unfold orcE at hf
  split at hf
  · rename_i hb
    have := Nat.eq_of_beq_eq_true hb
    subst this
    cases hf
    exact awakeOrc_ok args m v m' h
  · cases hf

def lawRun (d : DVal) (e : Int) : Option (DVal × DMem) := kcall true (ctxOf glE orcE) 1000 3 [d, .int .i64 e] stE
def lawShort (e : Int) : Bool := okTrue [0, 1, 2, 3, 4] stE (lawRun (.slice none 0 0 .exact) e) && (List.range 102).all fun n => okTrue [0, 1, 2, 3, 4] stE (lawRun (.slice (some (4, 0)) n n .ro) e)
theorem law_neg (x : Nat) : lawShort (.negSucc x) = true := by kernel_rfl
theorem law_zero : lawShort (.ofNat 0) = true := by kernel_rfl
theorem law_one : lawShort (.ofNat 1) = true := by kernel_rfl
theorem law_pos (x : Nat) : lawShort (.ofNat (x + 2)) = true := by kernel_rfl
theorem law_short (e : Int) : lawShort e = true := by
  cases e with
  | negSucc x => exact law_neg x
  | ofNat x =>
    match x with
    | 0 => exact law_zero
    | 1 => exact law_one
    | x + 2 => exact law_pos x
theorem law_nil (e : Int) : okTrue [0, 1, 2, 3, 4] stE (lawRun (.slice none 0 0 .exact) e) = true := by
  have := law_short e
  simp only [lawShort, Bool.and_eq_true] at this
  exact this.1
theorem law_few (e : Int) : ((List.range 102).all fun n => okTrue [0, 1, 2, 3, 4] stE (lawRun (.slice (some (4, 0)) n n .ro) e)) = true := by
  have := law_short e
  simp only [lawShort, Bool.and_eq_true] at this
  exact this.2
theorem law_many (e : Int) (k : Nat) : okTrue [0, 1, 2, 3, 4] stE (lawRun (.slice (some (4, 0)) (k + 102) (k + 102) .ro) e) = true := by kernel_rfl
theorem law_run (e : Int) (n : Nat) : okTrue [0, 1, 2, 3, 4] stE (lawRun (.slice (some (4, 0)) n n .ro) e) = true := by
  rcases Nat.lt_or_ge n 102 with h | h
  · have := law_few e
    rw [List.all_eq_true] at this
    exact this n (List.mem_range.2 h)
  · obtain ⟨k, rfl⟩ : ∃ k, n = k + 102 := ⟨n - 102, by omega⟩
    exact law_many e k

def gsE : List (Nat × List DVal) := [(0, cG0), (1, cG2), (2, cG4), (3, cG5)]
theorem gsE_mem {g : Nat} {cs : List DVal} (h : (g, cs) ∈ gsE) : g = 0 ∧ cs = cG0 ∨ g = 1 ∧ cs = cG2 ∨ g = 2 ∧ cs = cG4 ∨ g = 3 ∧ cs = cG5 := by
  simpa [gsE] using h
theorem startE_ok {sp : Option Spot} {w : World}
    (hw : ∀ g cs, (g, cs) ∈ gsE → ∃ row u, w.heap[g]? = some (.cells row u (0, 0)) ∧ row.size = cs.length ∧ ∀ ρ, VsRel ρ cs row.toList)
    (hsp : ∀ s, sp = some s → s.blk < w.heap.size) : MRel (startRen gsE 4 sp) stE w ∧ GOk (ctxOf glE orcE) (startRen gsE 4 sp) := by
  refine ⟨start_rel stE_none (show 4 < 5 by omega) rfl ?_ hw hsp, ?_⟩
  · intro g cs h
    rcases gsE_mem h with ⟨rfl, rfl⟩ | ⟨rfl, rfl⟩ | ⟨rfl, rfl⟩ | ⟨rfl, rfl⟩
    · exact ⟨(show 0 < 5 by omega), ⟨183, 0, rfl⟩, rfl⟩
    · exact ⟨(show 1 < 5 by omega), ⟨204, 0, rfl⟩, rfl⟩
    · exact ⟨(show 2 < 5 by omega), ⟨25, 0, rfl⟩, rfl⟩
    · exact ⟨(show 3 < 5 by omega), ⟨219, 0, rfl⟩, rfl⟩
  · intro g hg
    have := glE_mem hg
    simp at this
    rcases this with rfl | rfl | rfl | rfl <;> exact ⟨_, rfl⟩

/-- THE LAW's CALL, in every world that holds the tables. -/
theorem law_calls {w : World} {V : Value} {e : Int}
    (hw : ∀ g cs, (g, cs) ∈ gsE → ∃ row u, w.heap[g]? = some (.cells row u (0, 0)) ∧ row.size = cs.length ∧ ∀ ρ, VsRel ρ cs row.toList)
    (hV : V = .slice none 0 0 ∨ ∃ A n cap, V = .slice (some A) n cap ∧ n ≤ cap ∧ A.spot = none ∧ A.block < w.heap.size) :
    Calls Tryz.prog 3 #[V, .int .i64 e] w fun ex w' => ex = .returned (.bool true) ∧ Go.RowKit.Below w.heap.size w w' := by
  have main : ∀ (d : DVal) (sp : Option Spot), (∀ s, sp = some s → s.blk < w.heap.size) → VRel (startRen gsE 4 sp) d V → okTrue [0, 1, 2, 3, 4] stE (lawRun d e) = true →
      Calls Tryz.prog 3 #[V, .int .i64 e] w fun ex w' => ex = .returned (.bool true) ∧ Go.RowKit.Below w.heap.size w w' := by
    intro d sp hsp hd hrun
    obtain ⟨m2, e1, e2⟩ := okTrue_facts hrun
    obtain ⟨hm, hg⟩ := startE_ok hw hsp
    obtain ⟨_, hc⟩ := ctxOf_run orcE_ok e1 _ w #[V, .int .i64 e] hm hg (.cons hd (.cons (by simp only [VRel]) .nil))
    refine hc.mono ?_
    rintro ex w' ⟨V', ρ', rfl, hV', hP⟩
    simp only [VRel] at hV'
    subst hV'
    refine ⟨rfl, hP.below fun b s hb => e2 b ?_⟩
    unfold startRen at hb
    split at hb
    · rename_i h; subst h; simp
    · split at hb
      · rename_i cs hl
        rcases gsE_mem (lookup_mem hl) with ⟨rfl, _⟩ | ⟨rfl, _⟩ | ⟨rfl, _⟩ | ⟨rfl, _⟩ <;> simp
      · cases hb
  rcases hV with rfl | ⟨A, n, cap, rfl, hn, hspot, hA⟩
  · exact main (.slice none 0 0 .exact) none (fun _ h => by cases h) (by simp only [VRel]; exact ⟨trivial, trivial, trivial⟩) (law_nil e)
  · refine main (.slice (some (4, 0)) n n .ro) (some ⟨A.block, A.off, 0⟩) (fun s h => by cases h; exact hA) ?_ (law_run e n)
    simp only [VRel]
    refine ⟨A, cap, hn, rfl, fun _ => ⟨⟨A.block, A.off, 0⟩, by simp [startRen], ?_⟩, Nat.le_refl _⟩
    obtain ⟨b, off, spot⟩ := A
    simp only at hspot
    subst hspot
    rfl

end
end Go.DM
