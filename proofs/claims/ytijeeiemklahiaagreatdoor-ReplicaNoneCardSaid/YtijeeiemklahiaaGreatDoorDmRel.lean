/-
  A deterministic machine over Go's code: how its states lie in the model's worlds.
-/
import Derived.Test.YtijeeiemklahiaaGreatDoorDmRun
import Derived.Laws.Sem
import Derived.Laws.Cells
import Derived.Laws.Entries
import Derived.Laws.IdiomCopy
namespace Go.DM
noncomputable section

structure Spot where
  blk : Nat
  base : Nat
  tot : Nat

abbrev Ren := Nat → Option Spot

def Ren.le (ρ ρ' : Ren) : Prop := ∀ b s, ρ b = some s → ρ' b = some s

theorem Ren.le_refl (ρ : Ren) : ρ.le ρ := fun _ _ h => h
theorem Ren.le_trans {ρ ρ' ρ'' : Ren} (h : ρ.le ρ') (h' : ρ'.le ρ'') : ρ.le ρ'' := fun b s x => h' b s (h b s x)

def Spot.at_ (s : Spot) (o : Nat) : Addr := ⟨s.blk, s.base + o, .none⟩

mutual
def VRel (ρ : Ren) : DVal → Value → Prop
  | .bool b, v => v = .bool b
  | .int k n, v => v = .int k n
  | .str l, v => ∃ s : ByteArray, s.data.toList = l ∧ v = .string s
  | .ptr .none, v => v = .pointer .none
  | .ptr (some (b, o)), v => ∃ s, ρ b = some s ∧ v = .pointer (some (s.at_ o))
  | .slice .none len cap _, v => len = 0 ∧ cap = 0 ∧ v = .slice .none 0 0
  | .slice (some (b, o)) len cap .exact, v => ∃ s, ρ b = some s ∧ v = .slice (some (s.at_ o)) len cap
  | .slice (some (b, o)) len cap (.grow z), v => ∃ s cap', ρ b = some s ∧ cap ≤ cap' ∧ o + cap' * z ≤ s.tot ∧ v = .slice (some (s.at_ o)) len cap'
  | .slice (some (b, o)) len cap .ro, v => ∃ A cap', cap ≤ cap' ∧ v = .slice (some A) len cap' ∧ (0 < cap → ∃ s, ρ b = some s ∧ A = s.at_ o) ∧ len ≤ cap
  | .map .none, v => v = .map .none
  | .map (some r), v => ∃ s, ρ r = some s ∧ v = .map (some s.blk)
  | .func fn a b, v => ∃ a' b', v = .func fn a' b' ∧ VsRel ρ a a'.toList ∧ VsRel ρ b b'.toList
  | .nilFunc, v => v = .nilFunc
  | .nilIface, v => v = .nilIface
  | .view .none n, v => ∃ A cap, v = .slice A n cap
  | .view (some (b, o)) n, v => ∃ A cap, v = .slice A n cap ∧ (0 < n → ∃ s, ρ b = some s ∧ A = some (s.at_ o))
  | .agg cs, v => ∃ cs', v = .agg cs' ∧ VsRel ρ cs cs'.toList
  | .tuple cs, v => ∃ cs', v = .tuple cs' ∧ VsRel ρ cs cs'.toList
def VsRel (ρ : Ren) : List DVal → List Value → Prop
  | [], vs => vs = []
  | d :: ds, vs => ∃ v vs', vs = v :: vs' ∧ VRel ρ d v ∧ VsRel ρ ds vs'
end

mutual
theorem VRel.mono {ρ ρ' : Ren} (h : ρ.le ρ') : ∀ (d : DVal) (v : Value), VRel ρ d v → VRel ρ' d v
  | .bool _, _, r => by simpa only [VRel] using r
  | .int _ _, _, r => by simpa only [VRel] using r
  | .str _, _, r => by simpa only [VRel] using r
  | .ptr .none, _, r => by simpa only [VRel] using r
  | .ptr (some (b, o)), _, r => by
    simp only [VRel] at r ⊢; obtain ⟨s, h1, h2⟩ := r; exact ⟨s, h _ _ h1, h2⟩
  | .slice .none _ _ _, _, r => by simpa only [VRel] using r
  | .slice (some (b, o)) _ _ .exact, _, r => by
    simp only [VRel] at r ⊢; obtain ⟨s, h1, h2⟩ := r; exact ⟨s, h _ _ h1, h2⟩
  | .slice (some (b, o)) _ _ (.grow _), _, r => by
    simp only [VRel] at r ⊢; obtain ⟨s, c, h1, h2⟩ := r; exact ⟨s, c, h _ _ h1, h2⟩
  | .slice (some (b, o)) _ _ .ro, _, r => by
    simp only [VRel] at r ⊢; obtain ⟨A, c, h1, h2, h3, h4⟩ := r
    exact ⟨A, c, h1, h2, fun hp => let ⟨s, x, y⟩ := h3 hp; ⟨s, h _ _ x, y⟩, h4⟩
  | .map .none, _, r => by simpa only [VRel] using r
  | .map (some _), _, r => by
    simp only [VRel] at r ⊢; obtain ⟨s, h1, h2⟩ := r; exact ⟨s, h _ _ h1, h2⟩
  | .func _ a b, _, r => by
    simp only [VRel] at r ⊢; obtain ⟨a', b', h1, h2, h3⟩ := r
    exact ⟨a', b', h1, VsRel.mono h a _ h2, VsRel.mono h b _ h3⟩
  | .nilFunc, _, r => by simpa only [VRel] using r
  | .nilIface, _, r => by simpa only [VRel] using r
  | .view .none _, _, r => by simpa only [VRel] using r
  | .view (some (b, o)) _, _, r => by
    simp only [VRel] at r ⊢; obtain ⟨A, c, h1, h2⟩ := r
    exact ⟨A, c, h1, fun hp => let ⟨s, x, y⟩ := h2 hp; ⟨s, h _ _ x, y⟩⟩
  | .agg cs, _, r => by
    simp only [VRel] at r ⊢; obtain ⟨a', h1, h2⟩ := r; exact ⟨a', h1, VsRel.mono h cs _ h2⟩
  | .tuple cs, _, r => by
    simp only [VRel] at r ⊢; obtain ⟨a', h1, h2⟩ := r; exact ⟨a', h1, VsRel.mono h cs _ h2⟩
theorem VsRel.mono {ρ ρ' : Ren} (h : ρ.le ρ') : ∀ (ds : List DVal) (vs : List Value), VsRel ρ ds vs → VsRel ρ' ds vs
  | [], _, r => by simpa only [VsRel] using r
  | d :: ds, _, r => by
    simp only [VsRel] at r ⊢; obtain ⟨v, vs', h1, h2, h3⟩ := r
    exact ⟨v, vs', h1, VRel.mono h d v h2, VsRel.mono h ds vs' h3⟩
end

section lists
variable {ρ : Ren}

theorem VsRel.nil : VsRel ρ [] [] := by simp only [VsRel]
theorem VsRel.cons {d v ds vs} (h : VRel ρ d v) (h' : VsRel ρ ds vs) : VsRel ρ (d :: ds) (v :: vs) := by
  simp only [VsRel]; exact ⟨v, vs, rfl, h, h'⟩
theorem VsRel.cons_iff {d v ds vs} : VsRel ρ (d :: ds) (v :: vs) ↔ VRel ρ d v ∧ VsRel ρ ds vs := by
  constructor
  · intro h; simp only [VsRel] at h; obtain ⟨v', vs', h1, h2, h3⟩ := h; cases h1; exact ⟨h2, h3⟩
  · rintro ⟨h, h'⟩; exact .cons h h'
theorem VsRel.not_nil {d ds} (h : VsRel ρ (d :: ds) []) : False := by
  simp only [VsRel] at h; obtain ⟨v, vs, h1, _⟩ := h; cases h1

theorem VsRel.length : ∀ {ds : List DVal} {vs : List Value}, VsRel ρ ds vs → ds.length = vs.length
  | [], vs, h => by simp only [VsRel] at h; subst h; rfl
  | d :: ds, vs, h => by
    simp only [VsRel] at h; obtain ⟨v, vs', rfl, _, h3⟩ := h; simp [VsRel.length h3]

theorem VsRel.get : ∀ {ds : List DVal} {vs : List Value}, VsRel ρ ds vs → ∀ (i : Nat) (d : DVal), ds[i]? = some d → ∃ v, vs[i]? = some v ∧ VRel ρ d v
  | [], vs, h, i, d, hd => by simp at hd
  | d0 :: ds, vs, h, i, d, hd => by
    simp only [VsRel] at h; obtain ⟨v, vs', rfl, h2, h3⟩ := h
    cases i with
    | zero => simp at hd; subst hd; exact ⟨v, by simp, h2⟩
    | succ i => simp at hd; obtain ⟨u, hu, hr⟩ := VsRel.get h3 i d hd; exact ⟨u, by simpa using hu, hr⟩

theorem VsRel.of_get : ∀ {ds : List DVal} {vs : List Value}, ds.length = vs.length → (∀ (i : Nat) (d : DVal) (v : Value), ds[i]? = some d → vs[i]? = some v → VRel ρ d v) → VsRel ρ ds vs
  | [], [], _, _ => .nil
  | [], _ :: _, h, _ => by simp at h
  | _ :: _, [], h, _ => by simp at h
  | d :: ds, v :: vs, h, r => .cons (r 0 d v (by simp) (by simp)) (VsRel.of_get (by simpa using h) fun i d v hd hv => r (i + 1) d v (by simpa using hd) (by simpa using hv))

theorem VsRel.append : ∀ {ds es : List DVal} {vs ws : List Value}, VsRel ρ ds vs → VsRel ρ es ws → VsRel ρ (ds ++ es) (vs ++ ws)
  | [], es, vs, ws, h, h' => by simp only [VsRel] at h; subst h; simpa using h'
  | d :: ds, es, vs, ws, h, h' => by
    simp only [VsRel] at h; obtain ⟨v, vs', rfl, h2, h3⟩ := h
    exact .cons h2 (VsRel.append h3 h')

theorem VsRel.take : ∀ (n : Nat) {ds : List DVal} {vs : List Value}, VsRel ρ ds vs → VsRel ρ (ds.take n) (vs.take n)
  | 0, ds, vs, _ => by simpa using VsRel.nil
  | n + 1, [], vs, h => by simp only [VsRel] at h; subst h; simpa using VsRel.nil
  | n + 1, d :: ds, vs, h => by
    simp only [VsRel] at h; obtain ⟨v, vs', rfl, h2, h3⟩ := h
    simpa using VsRel.cons h2 (VsRel.take n h3)

theorem VsRel.drop : ∀ (n : Nat) {ds : List DVal} {vs : List Value}, VsRel ρ ds vs → VsRel ρ (ds.drop n) (vs.drop n)
  | 0, ds, vs, h => by simpa using h
  | n + 1, [], vs, h => by simp only [VsRel] at h; subst h; simpa using VsRel.nil
  | n + 1, d :: ds, vs, h => by
    simp only [VsRel] at h; obtain ⟨v, vs', rfl, h2, h3⟩ := h
    simpa using VsRel.drop n h3

theorem VsRel.set : ∀ (n : Nat) {ds : List DVal} {vs : List Value} {d v}, VsRel ρ ds vs → VRel ρ d v → VsRel ρ (ds.set n d) (vs.set n v)
  | n, [], vs, d, v, h, hr => by simp only [VsRel] at h; subst h; simpa using VsRel.nil
  | 0, d0 :: ds, vs, d, v, h, hr => by
    simp only [VsRel] at h; obtain ⟨v0, vs', rfl, h2, h3⟩ := h
    simpa using VsRel.cons hr h3
  | n + 1, d0 :: ds, vs, d, v, h, hr => by
    simp only [VsRel] at h; obtain ⟨v0, vs', rfl, h2, h3⟩ := h
    simpa using VsRel.cons h2 (VsRel.set n h3 hr)

theorem VsRel.splice : ∀ (n : Nat) {ds : List DVal} {vs : List Value} {xs : List DVal} {ys : List Value}, VsRel ρ ds vs → VsRel ρ xs ys → VsRel ρ (splice ds n xs) (splice vs n ys)
  | 0, ds, vs, xs, ys, h, hr => by
    simp only [Go.DM.splice]; rw [hr.length]; exact hr.append (h.drop _)
  | n + 1, [], vs, xs, ys, h, hr => by simp only [VsRel] at h; subst h; simpa [Go.DM.splice] using VsRel.nil
  | n + 1, d0 :: ds, vs, xs, ys, h, hr => by
    simp only [VsRel] at h; obtain ⟨v0, vs', rfl, h2, h3⟩ := h
    simpa [Go.DM.splice] using VsRel.cons h2 (VsRel.splice n h3 hr)

theorem VsRel.map_same {α : Type} (f : α → DVal) (g : α → Value) (hfg : ∀ a, VRel ρ (f a) (g a)) : ∀ l : List α, VsRel ρ (l.map f) (l.map g)
  | [] => by simpa using VsRel.nil
  | a :: l => by simpa using VsRel.cons (hfg a) (VsRel.map_same f g hfg l)
end lists

theorem VRel.oneCell {ρ d v} (h : VRel ρ d v) (hd : isCell d = true) : v.oneCell' = true := by
  cases d with
  | agg => simp [isCell] at hd
  | tuple => simp [isCell] at hd
  | bool => simp only [VRel] at h; subst h; rfl
  | int => simp only [VRel] at h; subst h; rfl
  | str => simp only [VRel] at h; obtain ⟨s, _, rfl⟩ := h; rfl
  | ptr a =>
    cases a with
    | none => simp only [VRel] at h; subst h; rfl
    | some p => obtain ⟨b, o⟩ := p; simp only [VRel] at h; obtain ⟨s, _, rfl⟩ := h; rfl
  | slice a len cap md =>
    cases a with
    | none => simp only [VRel] at h; obtain ⟨_, _, rfl⟩ := h; rfl
    | some p =>
      obtain ⟨b, o⟩ := p
      cases md with
      | exact => simp only [VRel] at h; obtain ⟨s, _, rfl⟩ := h; rfl
      | grow z => simp only [VRel] at h; obtain ⟨s, _, _, _, _, rfl⟩ := h; rfl
      | ro => simp only [VRel] at h; obtain ⟨A, _, _, rfl, _⟩ := h; rfl
  | map r =>
    cases r with
    | none => simp only [VRel] at h; subst h; rfl
    | some r => simp only [VRel] at h; obtain ⟨s, _, rfl⟩ := h; rfl
  | func => simp only [VRel] at h; obtain ⟨a, b, rfl, _⟩ := h; rfl
  | nilFunc => simp only [VRel] at h; subst h; rfl
  | nilIface => simp only [VRel] at h; subst h; rfl
  | view a =>
    cases a with
    | none => simp only [VRel] at h; obtain ⟨a, c, rfl⟩ := h; rfl
    | some p => obtain ⟨b, o⟩ := p; simp only [VRel] at h; obtain ⟨a, c, rfl, _⟩ := h; rfl

/-- The cells of a value lie as the value does. -/
theorem VRel.cells {ρ d v} (h : VRel ρ d v) (hd : d.cells.all isCell = true) : VsRel ρ d.cells v.cells.toList := by
  cases d with
  | agg cs => simp only [VRel] at h; obtain ⟨cs', rfl, h2⟩ := h; simpa [DVal.cells, Value.cells] using h2
  | tuple => simp [DVal.cells, isCell] at hd
  | _ =>
    have h1 := VRel.oneCell h (by simpa [DVal.cells] using hd)
    have : v.cells = #[v] := by cases v <;> simp [Value.cells, Value.oneCell'] at *
    rw [this]; exact .cons h .nil

mutual
theorem ofConst_rel (ρ : Ren) : ∀ (v : Value) (d : DVal), ofConst v = some d → VRel ρ d v
  | .bool b, d, h => by simp [ofConst] at h; subst h; simp [VRel]
  | .int k n, d, h => by simp [ofConst] at h; subst h; simp [VRel]
  | .string s, d, h => by simp [ofConst] at h; subst h; simp only [VRel]; exact ⟨s, rfl, rfl⟩
  | .pointer .none, d, h => by simp [ofConst] at h; subst h; simp [VRel]
  | .pointer (some _), d, h => by simp [ofConst] at h
  | .slice .none 0 0, d, h => by simp [ofConst] at h; subst h; simp [VRel]
  | .slice .none 0 (_ + 1), d, h => by simp [ofConst] at h
  | .slice .none (_ + 1) _, d, h => by simp [ofConst] at h
  | .slice (some _) _ _, d, h => by simp [ofConst] at h
  | .map .none, d, h => by simp [ofConst] at h; subst h; simp [VRel]
  | .map (some _), d, h => by simp [ofConst] at h
  | .nilFunc, d, h => by simp [ofConst] at h; subst h; simp [VRel]
  | .nilIface, d, h => by simp [ofConst] at h; subst h; simp [VRel]
  | .agg ⟨cs⟩, d, h => by
    simp only [ofConst, Option.map_eq_some_iff] at h
    obtain ⟨ds, h1, rfl⟩ := h
    simp only [VRel]; exact ⟨⟨cs⟩, rfl, ofConsts_rel ρ cs ds h1⟩
  | .tuple ⟨cs⟩, d, h => by
    simp only [ofConst, Option.map_eq_some_iff] at h
    obtain ⟨ds, h1, rfl⟩ := h
    simp only [VRel]; exact ⟨⟨cs⟩, rfl, ofConsts_rel ρ cs ds h1⟩
  | .float .., d, h => by simp [ofConst] at h
  | .complex .., d, h => by simp [ofConst] at h
  | .chan _, d, h => by simp [ofConst] at h
  | .func .., d, h => by simp [ofConst] at h
  | .iface .., d, h => by simp [ofConst] at h
theorem ofConsts_rel (ρ : Ren) : ∀ (vs : List Value) (ds : List DVal), ofConsts vs = some ds → VsRel ρ ds vs
  | [], ds, h => by simp [ofConsts] at h; subst h; exact .nil
  | v :: vs, ds, h => by
    simp only [ofConsts] at h
    split at h
    · rename_i d ds' h1 h2
      simp at h; subst h
      exact .cons (ofConst_rel ρ v d h1) (ofConsts_rel ρ vs ds' h2)
    · simp at h
end

/-- A map's entries. -/
def EsRel (ρ : Ren) : List (DVal × DVal) → List MapEntry → Prop
  | [], es => es = []
  | (k, v) :: ds, es => ∃ e es', es = e :: es' ∧ VRel ρ k e.key ∧ VRel ρ v e.val ∧ EsRel ρ ds es'

theorem EsRel.mono {ρ ρ' : Ren} (h : ρ.le ρ') : ∀ (ds : List (DVal × DVal)) (es : List MapEntry), EsRel ρ ds es → EsRel ρ' ds es
  | [], _, r => r
  | (_, _) :: ds, _, ⟨e, es', h1, h2, h3, h4⟩ => ⟨e, es', h1, VRel.mono h _ _ h2, VRel.mono h _ _ h3, EsRel.mono h ds es' h4⟩

theorem EsRel.length {ρ : Ren} : ∀ {ds : List (DVal × DVal)} {es : List MapEntry}, EsRel ρ ds es → ds.length = es.length
  | [], _, r => by simp only [EsRel] at r; subst r; rfl
  | (k, v) :: ds, _, ⟨e, es', h1, h2, h3, h4⟩ => by subst h1; simp [EsRel.length h4]

/-- How one block lies. -/
def BlkRel (ρ : Ren) (s : Spot) (w : World) : DObj → Prop
  | .cells cs _ _ => ∃ row e fz, w.heap[s.blk]? = some (.cells row e fz) ∧ cs.length ≤ s.tot ∧ s.base + s.tot ≤ row.size ∧
      (fz.1 = fz.2 ∨ row.size ≤ fz.1) ∧ VsRel ρ cs ((row.toList.drop s.base).take cs.length) ∧ (cs.all isCell = true)
  | .map es _ => ∃ es' ck, w.heap[s.blk]? = some (.map es' ck) ∧ EsRel ρ es es'.toList ∧ s.base = 0 ∧ s.tot = 1
  | .ro cs => ∃ row e fz, w.heap[s.blk]? = some (.cells row e fz) ∧ cs.length ≤ s.tot ∧ s.base + s.tot ≤ row.size ∧
      VsRel ρ cs ((row.toList.drop s.base).take cs.length) ∧ (cs.all isCell = true)
  | .dead => True

/-- Is something known of a block? -/
def known (m : DMem) (b : Nat) : Prop :=
  match m.get b with
  | some (.cells ..) | some (.map ..) | some (.ro ..) => True
  | _ => False

def alive (m : DMem) (b : Nat) : Prop :=
  match m.get b with
  | some (.cells ..) | some (.map ..) => True
  | _ => False

theorem alive.known {m : DMem} {b : Nat} (h : alive m b) : known m b := by
  unfold alive at h; unfold Go.DM.known
  split at h <;> simp_all

structure MRel (ρ : Ren) (m : DMem) (w : World) : Prop where
  wf : ∀ b, m.size ≤ b → m.get b = .none
  fresh : ∀ b s, ρ b = some s → b < m.size
  old : ∀ b s, ρ b = some s → s.blk < w.heap.size
  blk : ∀ b s, ρ b = some s → ∃ o, m.get b = some o ∧ BlkRel ρ s w o
  apart : ∀ b b' s s', b ≠ b' → ρ b = some s → ρ b' = some s' → alive m b → known m b' →
    s.blk ≠ s'.blk ∨ s.base + s.tot ≤ s'.base ∨ s'.base + s'.tot ≤ s.base

/-- A block's later state. -/
def later : DObj → DObj → Prop
  | .cells _ _ v, .cells _ _ v' => v < v'
  | .map _ v, .map _ v' => v < v'
  | .cells .., .dead => True
  | .map .., .dead => True
  | _, _ => False

theorem later_trans {a b c : DObj} (h : later a b) (h' : later b c) : later a c := by
  cases a <;> cases b <;> cases c <;> simp [later] at * <;> omega
theorem later_irrefl {a : DObj} (h : later a a) : False := by cases a <;> simp [later] at h

structure Ext (m m' : DMem) : Prop where
  size : m.size ≤ m'.size
  obj : ∀ b o, m.get b = some o → ∃ o', m'.get b = some o' ∧ (o' = o ∨ later o o')

theorem Ext.refl (m : DMem) : Ext m m := ⟨Nat.le_refl _, fun _ o h => ⟨o, h, .inl rfl⟩⟩
theorem Ext.trans {m m' m'' : DMem} (h : Ext m m') (h' : Ext m' m'') : Ext m m'' :=
  ⟨Nat.le_trans h.size h'.size, fun b o ho => by
    obtain ⟨o1, h1, e1⟩ := h.obj b o ho
    obtain ⟨o2, h2, e2⟩ := h'.obj b o1 h1
    refine ⟨o2, h2, ?_⟩
    rcases e1 with rfl | e1
    · exact e2
    · rcases e2 with rfl | e2
      · exact .inr e1
      · exact .inr (later_trans e1 e2)⟩

/-- Has a block of 'm' been changed in 'm''? -/
def Changed (m m' : DMem) (b : Nat) : Prop := m'.get b ≠ m.get b

theorem Ext.changed {m m' m'' : DMem} (h : Ext m m') (h' : Ext m' m'') {b : Nat} (hb : ∃ o, m.get b = some o) (hc : Changed m m' b ∨ Changed m' m'' b) : Changed m m'' b := by
  obtain ⟨o, ho⟩ := hb
  obtain ⟨o1, h1, e1⟩ := h.obj b o ho
  obtain ⟨o2, h2, e2⟩ := h'.obj b o1 h1
  intro heq
  rw [ho, h2] at heq
  have heq' : o2 = o := by simpa using heq
  rcases e1 with e1 | e1
  · rcases e2 with e2 | e2
    · rcases hc with hc | hc
      · exact hc (by rw [h1, ho, e1])
      · exact hc (by rw [h2, h1, e2])
    · rw [heq', e1] at e2; exact later_irrefl e2
  · rcases e2 with e2 | e2
    · rw [← e2, heq'] at e1; exact later_irrefl e1
    · rw [heq'] at e2; exact later_irrefl (later_trans e1 e2)

def Wr (ρ : Ren) (m m' : DMem) (B o : Nat) : Prop := ∃ b s, ρ b = some s ∧ s.blk = B ∧ s.base ≤ o ∧ o < s.base + s.tot ∧ Changed m m' b
def Touched (ρ : Ren) (m m' : DMem) (B : Nat) : Prop := ∃ b s, ρ b = some s ∧ s.blk = B ∧ Changed m m' b

structure Kept (ρ : Ren) (m m' : DMem) (w w' : World) : Prop where
  size : w.heap.size ≤ w'.heap.size
  os : w'.os = w.os
  output : w'.output = w.output
  tape : w'.tape = w.tape
  same : ∀ B, B < w.heap.size → ¬ Touched ρ m m' B → w'.heap[B]? = w.heap[B]?
  cells : ∀ B row e fz, B < w.heap.size → w.heap[B]? = some (.cells row e fz) → ∃ row' fz', w'.heap[B]? = some (.cells row' e fz') ∧ row'.size = row.size ∧
    ∀ o, ¬ Wr ρ m m' B o → row'[o]? = row[o]?

structure Post (ρ : Ren) (m : DMem) (w : World) (m' : DMem) (ρ' : Ren) (w' : World) : Prop where
  le : ρ.le ρ'
  rel : MRel ρ' m' w'
  ext : Ext m m'
  dom : ∀ b s, ρ' b = some s → ρ b = some s ∨ m.size ≤ b
  cover : ∀ b s, ρ' b = some s → s.blk < w.heap.size → ρ b = some s ∨
    ∃ b0 s0, ρ b0 = some s0 ∧ s0.blk = s.blk ∧ s0.base ≤ s.base ∧ s.base + s.tot ≤ s0.base + s0.tot ∧ Changed m m' b0
  kept : Kept ρ m m' w w'

theorem Kept.refl (ρ : Ren) (m : DMem) (w : World) : Kept ρ m m w w :=
  ⟨Nat.le_refl _, rfl, rfl, rfl, fun _ _ _ => rfl, fun _ row _ fz _ h => ⟨row, fz, h, rfl, fun _ _ => rfl⟩⟩

theorem Post.refl {ρ : Ren} {m : DMem} {w : World} (h : MRel ρ m w) : Post ρ m w m ρ w :=
  ⟨Ren.le_refl _, h, Ext.refl _, fun _ _ h => .inl h, fun _ _ h _ => .inl h, Kept.refl _ _ _⟩

theorem Post.trans {ρ ρ' ρ'' : Ren} {m m' m'' : DMem} {w w' w'' : World} (h0 : MRel ρ m w) (h : Post ρ m w m' ρ' w') (h' : Post ρ' m' w' m'' ρ'' w'') :
    Post ρ m w m'' ρ'' w'' := by
  have hget : ∀ b s, ρ b = some s → ∃ o, m.get b = some o := fun b s hb => let ⟨o, ho, _⟩ := h0.blk b s hb; ⟨o, ho⟩
  have hch1 : ∀ b s, ρ b = some s → Changed m m' b → Changed m m'' b := fun b s hb hc => h.ext.changed h'.ext (hget b s hb) (.inl hc)
  have hch2 : ∀ b s, ρ b = some s → Changed m' m'' b → Changed m m'' b := fun b s hb hc => h.ext.changed h'.ext (hget b s hb) (.inr hc)
  have htouch : ∀ B, B < w.heap.size → Touched ρ' m' m'' B → Touched ρ m m'' B := by
    rintro B hB ⟨b, s, hb, rfl, hc⟩
    rcases h.cover b s hb hB with hb' | ⟨b0, s0, h1, h2, _, _, h5⟩
    · exact ⟨b, s, hb', rfl, hch2 b s hb' hc⟩
    · exact ⟨b0, s0, h1, h2, hch1 b0 s0 h1 h5⟩
  have htouch1 : ∀ B, Touched ρ m m' B → Touched ρ m m'' B := by
    rintro B ⟨b, s, hb, rfl, hc⟩; exact ⟨b, s, hb, rfl, hch1 b s hb hc⟩
  have hwr : ∀ B o, B < w.heap.size → Wr ρ' m' m'' B o → Wr ρ m m'' B o := by
    rintro B o hB ⟨b, s, hb, rfl, ho1, ho2, hc⟩
    rcases h.cover b s hb hB with hb' | ⟨b0, s0, h1, h2, h3, h4, h5⟩
    · exact ⟨b, s, hb', rfl, ho1, ho2, hch2 b s hb' hc⟩
    · exact ⟨b0, s0, h1, h2, by omega, by omega, hch1 b0 s0 h1 h5⟩
  have hwr1 : ∀ B o, Wr ρ m m' B o → Wr ρ m m'' B o := by
    rintro B o ⟨b, s, hb, rfl, ho1, ho2, hc⟩; exact ⟨b, s, hb, rfl, ho1, ho2, hch1 b s hb hc⟩
  refine ⟨Ren.le_trans h.le h'.le, h'.rel, h.ext.trans h'.ext, ?_, ?_, ?_⟩
  · intro b s hb
    rcases h'.dom b s hb with hb' | hb'
    · exact h.dom b s hb'
    · exact .inr (Nat.le_trans h.ext.size hb')
  · intro b s hb hs
    rcases h'.cover b s hb (Nat.lt_of_lt_of_le hs h.kept.size) with hb' | ⟨b0, s0, h1, h2, h3, h4, h5⟩
    · rcases h.cover b s hb' hs with hb'' | ⟨b0, s0, h1, h2, h3, h4, h5⟩
      · exact .inl hb''
      · exact .inr ⟨b0, s0, h1, h2, h3, h4, hch1 b0 s0 h1 h5⟩
    · rcases h.cover b0 s0 h1 (by omega) with hb'' | ⟨b1, s1, g1, g2, g3, g4, g5⟩
      · exact .inr ⟨b0, s0, hb'', h2, h3, h4, hch2 b0 s0 hb'' h5⟩
      · exact .inr ⟨b1, s1, g1, by omega, by omega, by omega, hch1 b1 s1 g1 g5⟩
  · refine ⟨Nat.le_trans h.kept.size h'.kept.size, h'.kept.os.trans h.kept.os, h'.kept.output.trans h.kept.output, h'.kept.tape.trans h.kept.tape, ?_, ?_⟩
    · intro B hB hn
      rw [h'.kept.same B (Nat.lt_of_lt_of_le hB h.kept.size) (fun ht => hn (htouch B hB ht)), h.kept.same B hB (fun ht => hn (htouch1 B ht))]
    · intro B row e fz hB hrow
      obtain ⟨row1, fz1, g1, g2, g3⟩ := h.kept.cells B row e fz hB hrow
      obtain ⟨row2, fz2, k1, k2, k3⟩ := h'.kept.cells B row1 e fz1 (Nat.lt_of_lt_of_le hB h.kept.size) g1
      exact ⟨row2, fz2, k1, k2.trans g2, fun o ho => by
        rw [k3 o (fun hw => ho (hwr B o hB hw)), g3 o (fun hw => ho (hwr1 B o hw))]⟩

end
end Go.DM
