/-
  The machine laid out for the kernel: operations.
-/
import Derived.Test.YtijeeiemklahiaaGreatDoorDmFast
namespace Go.DM
noncomputable section

def kget (fr : Fr) : Nat → DVal :=
  Fr.rec (motive := fun _ => Nat → DVal) (fun tr n t => Bool.rec dundef (Option.rec dundef (fun v => v) (T.get tr t)) (Nat.blt t n)) fr

theorem kget_eq (fr : Fr) (t : Nat) : kget fr t = fr.getD t := by
  obtain ⟨tr, n⟩ := fr
  show (Bool.rec dundef (Option.rec dundef (fun v => v) (T.get tr t)) (Nat.blt t n) : DVal) = _
  unfold Fr.getD Fr.get?
  simp only
  cases Nat.blt t n with
  | false => rfl
  | true => cases T.get tr t <;> rfl

def kconst (v : Value) : Option DVal :=
  match v with
  | .int k n => some (.int k n)
  | .bool b => some (.bool b)
  | v => ofConst v

theorem kconst_eq (v : Value) : kconst v = ofConst v := by
  cases v <;> first | rfl | simp [kconst, ofConst]

def kev (x : Operand) : (Nat → Bool) → Fr → Option DVal :=
  Operand.rec (motive := fun _ => (Nat → Bool) → Fr → Option DVal) (fun t _ fr => some (kget fr t)) (fun v _ _ => kconst v)
    (fun g gl _ => Bool.rec none (some (.ptr (some (g, 0)))) (gl g)) (fun f _ _ => some (.func (.func f) [] [])) x

theorem kev_eq (x : Operand) (gl : Nat → Bool) (fr : Fr) : kev x gl fr = dev gl fr x := by
  cases x with
  | tmp t => show some (kget fr t) = some (fr.getD t); rw [kget_eq]
  | const v => exact kconst_eq v
  | global g =>
    show (Bool.rec none (some (.ptr (some (g, 0)))) (gl g) : Option DVal) = match gl g with | true => some (.ptr (some (g, 0))) | false => none
    cases gl g <;> rfl
  | func f => rfl

def kput (fr : Fr) : Nat → DVal → Fr :=
  Fr.rec (motive := fun _ => Nat → DVal → Fr) (fun tr n k v => Bool.rec ⟨tr, n⟩ ⟨T.set tr k v, n⟩ (Nat.blt k n)) fr

theorem kput_eq (fr : Fr) (k : Nat) (v : DVal) : kput fr k v = fr.put k v := by
  obtain ⟨tr, n⟩ := fr
  show (Bool.rec ⟨tr, n⟩ ⟨T.set tr k v, n⟩ (Nat.blt k n) : Fr) = match Nat.blt k n with | true => ⟨tr.set k v, n⟩ | false => ⟨tr, n⟩
  cases Nat.blt k n <;> rfl

def kdid (o : Option DVal) (m : DMem) : Option Did := Option.rec none (fun v => some ⟨v, m, none⟩) o

theorem dexec_pure {c : Ctx} {call : Callee} {ev : Operand → Option DVal} {m : DMem} {op : Op} (h1 : dread c ev m op = none) (h2 : dalloc c ev m.size op = none)
    (h3 : dheavy c ev m op = none) (h4 : dtarget ev op = none) : dexec c call ev m op = kdid (dpure c ev op) m := by
  unfold dexec kdid
  cases dpure c ev op with
  | some v => rfl
  | none => simp only [h1, h2, h3, h4]

theorem dexec_read {c : Ctx} {call : Callee} {ev : Operand → Option DVal} {m : DMem} {op : Op} (h1 : dpure c ev op = none) (h2 : dalloc c ev m.size op = none)
    (h3 : dheavy c ev m op = none) (h4 : dtarget ev op = none) : dexec c call ev m op = Option.rec none (fun r => some ⟨r.1, m, some r.2⟩) (dread c ev m op) := by
  unfold dexec
  rw [h1]
  cases dread c ev m op with
  | some v => rfl
  | none => simp only [h2, h3, h4]

theorem dexec_heavy {c : Ctx} {call : Callee} {ev : Operand → Option DVal} {m : DMem} {op : Op} (h1 : dpure c ev op = none) (h2 : dread c ev m op = none)
    (h3 : dalloc c ev m.size op = none) (h4 : dtarget ev op = none) : dexec c call ev m op = Option.rec none (fun r => some ⟨r.1, r.2, none⟩) (dheavy c ev m op) := by
  unfold dexec
  rw [h1, h2, h3]
  cases dheavy c ev m op with
  | some v => rfl
  | none => simp only [h4]

theorem dexec_call {c : Ctx} {call : Callee} {ev : Operand → Option DVal} {m : DMem} {op : Op} (h1 : dpure c ev op = none) (h2 : dread c ev m op = none)
    (h3 : dalloc c ev m.size op = none) (h4 : dheavy c ev m op = none) : dexec c call ev m op = Option.rec none (fun r => (call (.fn r.1) r.2 m).map fun r => ⟨r.1, r.2, none⟩) (dtarget ev op) := by
  unfold dexec
  rw [h1, h2, h3, h4]
  cases dtarget ev op with
  | some v => rfl
  | none => rfl

def kfield (v : DVal) : TI → Nat → Ctx → Option DVal :=
  match v with
  | .ptr (some (b, o)) => fun i f c => match i.desc with
    | .struct fs => match fs[f]? with
      | some fd => match c.ty fd.type with
        | some i => Bool.rec (some (.ptr (some (b, Nat.add o fd.offset)))) none (Nat.beq i.size 0)
        | none => none
      | none => none
    | _ => none
  | _ => fun _ _ _ => none

/-- An index below a bound, as a natural. -/
def kix (i : Int) (n : Nat) : Option Nat :=
  Int.rec (motive := fun _ => Option Nat) (fun x => Bool.rec none (some x) (Nat.blt x n)) (fun _ => none) i

def kindex (v : DVal) : DVal → TI → Ctx → Option DVal :=
  match v with
  | .ptr (some (b, o)) => fun ix i c => match i.desc, ix with
    | .array n e, .int _ j => match c.ty e with
      | some ie => Option.rec none (fun x => some (.ptr (some (b, Nat.add o (Nat.mul x ie.size))))) (kix j n)
      | none => none
    | _, _ => none
  | .slice (some (b, o)) len _ _ => fun ix i c => match i.desc, ix with
    | .slice e, .int _ j => match c.ty e with
      | some ie => Option.rec none (fun x => some (.ptr (some (b, Nat.add o (Nat.mul x ie.size))))) (kix j len)
      | none => none
    | _, _ => none
  | .view (some (b, o)) len => fun ix i c => match i.desc, ix with
    | .slice e, .int _ j => match c.ty e with
      | some ie => Option.rec none (fun x => some (.ptr (some (b, Nat.add o (Nat.mul x ie.size))))) (kix j len)
      | none => none
    | _, _ => none
  | _ => fun _ _ _ => none

theorem kix_eq {i : Int} {n : Nat} {α : Type} (f : Nat → Option α) : (Option.rec none f (kix i n) : Option α) = if 0 ≤ i ∧ i < n then f i.toNat else none := by
  cases i with
  | negSucc x => rw [if_neg (by simp)]; rfl
  | ofNat x =>
    show (Option.rec none f (Bool.rec none (some x) (Nat.blt x n)) : Option α) = _
    cases hb : Nat.blt x n with
    | true =>
      have : x < n := Nat.le_of_ble_eq_true hb
      rw [if_pos ⟨by simp, by simpa using this⟩]; rfl
    | false =>
      rw [if_neg]
      intro ⟨_, h⟩
      have : x < n := by simpa using h
      have : Nat.blt x n = true := Nat.ble_eq_true_of_le this
      rw [this] at hb; cases hb

theorem krec_ite {α : Type} (n : Nat) (a b : α) : (Bool.rec a b (Nat.beq n 0) : α) = if n = 0 then b else a := by
  cases n <;> rfl

/-- A read of some cells as a value of a type. -/
def kload (v : DVal) : TI → DMem → Option Did :=
  match v with
  | .ptr (some (b, o)) => fun i m =>
    match i.isAgg with
    | true => Option.rec none (fun cs => some ⟨.agg cs, m, some b⟩) (rcells m b o i.size)
    | false => match m.get b with
      | some (.cells c _ _) => Option.rec none (fun v => some ⟨v, m, some b⟩) c[o]?
      | some (.ro c) => Option.rec none (fun v => some ⟨v, m, some b⟩) c[o]?
      | _ => none
  | _ => fun _ _ => none

theorem rcells_one (m : DMem) (b o : Nat) : (match rcells m b o 1 with | some [v] => some (v, b) | _ => none) =
    match m.get b with
      | some (.cells c _ _) => (match c[o]? with | some v => some (v, b) | none => none)
      | some (.ro c) => (match c[o]? with | some v => some (v, b) | none => none)
      | _ => none := by
  unfold rcells
  cases hm : m.get b with
  | none => rfl
  | some ob =>
    cases ob with
    | cells c e ver =>
      simp only
      cases hb : Nat.ble (o + 1) c.length with
      | true =>
        have hle : o + 1 ≤ c.length := Nat.le_of_ble_eq_true hb
        have e1 : (c.drop o).take 1 = [c[o]] := by
          rw [List.drop_eq_getElem_cons (by omega)]; rfl
        simp only [e1, List.getElem?_eq_getElem (show o < c.length by omega)]
      | false =>
        have : c.length ≤ o := by
          rcases Nat.lt_or_ge o c.length with h | h
          · rw [Nat.ble_eq_true_of_le (show o + 1 ≤ c.length by omega)] at hb; cases hb
          · exact h
        rw [List.getElem?_eq_none this]
    | ro c =>
      simp only
      cases hb : Nat.ble (o + 1) c.length with
      | true =>
        have hle : o + 1 ≤ c.length := Nat.le_of_ble_eq_true hb
        have e1 : (c.drop o).take 1 = [c[o]] := by
          rw [List.drop_eq_getElem_cons (by omega)]; rfl
        simp only [e1, List.getElem?_eq_getElem (show o < c.length by omega)]
      | false =>
        have : c.length ≤ o := by
          rcases Nat.lt_or_ge o c.length with h | h
          · rw [Nat.ble_eq_true_of_le (show o + 1 ≤ c.length by omega)] at hb; cases hb
          · exact h
        rw [List.getElem?_eq_none this]
    | map _ _ => rfl
    | dead => rfl

def kexec (z : Bool) (op : Op) : Ctx → Callee → Fr → DMem → Option Did :=
  match op with
  | .move x => fun c _ fr m => kdid (kev x c.glob fr) m
  | .assign x => fun c _ fr m => kdid (kev x c.glob fr) m
  | .nilCheck x => fun c _ fr m => match kev x c.glob fr with
    | some (.ptr (some a)) => some ⟨.ptr (some a), m, none⟩
    | some (.func (.func f) a b) => some ⟨.func (.func f) a b, m, none⟩
    | _ => none
  | .binOp op t x y _ => fun c _ fr m => Option.rec none (fun a => Option.rec none (fun b => kdid (kbin a b z c op t) m) (kev y c.glob fr)) (kev x c.glob fr)
  | .fieldAddr s x f => fun c _ fr m => Option.rec none (fun i => Option.rec none (fun v => kdid (kfield v i f c) m) (kev x c.glob fr)) (c.ty s)
  | .indexAddr t x ix => fun c _ fr m => Option.rec none (fun i => Option.rec none (fun v => Option.rec none (fun j => kdid (kindex v j i c) m) (kev ix c.glob fr)) (kev x c.glob fr)) (c.ty t)
  | .load t x => fun c _ fr m => Option.rec none (fun i => Option.rec none (fun v => kload v i m) (kev x c.glob fr)) (c.ty t)
  | .store t x v => fun c _ fr m => Option.rec none (fun r => some ⟨r.1, r.2, none⟩) (dheavy c (fun x => kev x c.glob fr) m (.store t x v))
  | .call ⟨.value f, as, _⟩ => fun c call fr m => match kev f c.glob fr, devs (fun x => kev x c.glob fr) as.toList with
    | some (.func (.func g) first captured), some as => Option.rec none (fun r => some ⟨r.1, r.2, none⟩) (call (.fn g) (first ++ as ++ captured) m)
    | _, _ => none
  | .slice t x lo hi mx => fun c _ fr m => match kev x c.glob fr, oev (fun x => kev x c.glob fr) lo, oev (fun x => kev x c.glob fr) hi, oev (fun x => kev x c.glob fr) mx with
    | some v, some l, some h, some u => kdid (kslice v c t l h u) m
    | _, _, _, _ => none
  | .extract t ix => fun c _ fr m => kdid (dpure c (fun x => kev x c.glob fr) (.extract t ix)) m
  | op => fun c call fr m => dexec c call (fun x => kev x c.glob fr) m op

theorem kev_fun (gl : Nat → Bool) (fr : Fr) : (fun x => kev x gl fr) = dev gl fr := funext fun x => kev_eq x gl fr

theorem kexec_eq (z : Bool) (c : Ctx) (call : Callee) (fr : Fr) (m : DMem) (op : Op) : kexec z op c call fr m = dexec c call (dev c.glob fr) m op := by
  cases op with
  | move x =>
    rw [dexec_pure rfl rfl rfl rfl]; show kdid (kev x c.glob fr) m = _; rw [kev_eq]; rfl
  | assign x =>
    rw [dexec_pure rfl rfl rfl rfl]; show kdid (kev x c.glob fr) m = _; rw [kev_eq]; rfl
  | nilCheck x =>
    rw [dexec_pure rfl rfl rfl rfl]
    simp only [kexec, kev_eq, dpure]
    cases dev c.glob fr x with
    | none => rfl
    | some v =>
      cases v with
      | ptr p => cases p <;> rfl
      | func fn a b => cases fn <;> rfl
      | _ => rfl
  | binOp op t x y yt =>
    rw [dexec_pure rfl rfl rfl rfl]
    simp only [kexec, kev_eq, dpure, kbin_eq]
    cases dev c.glob fr x with
    | none => rfl
    | some a => cases dev c.glob fr y <;> rfl
  | fieldAddr s x f =>
    rw [dexec_pure rfl rfl rfl rfl]
    simp only [kexec, kev_eq, dpure]
    cases c.ty s with
    | none => rfl
    | some i =>
      cases hx : dev c.glob fr x with
      | none =>
        show none = kdid (match (some i : Option TI), (none : Option DVal) with | some ⟨.struct fs, _, _, _⟩, some (.ptr (some (b, o))) => _ | _, _ => none) m
        obtain ⟨d, _, _, _⟩ := i; cases d <;> rfl
      | some v =>
        show kdid (kfield v i f c) m = _
        congr 1
        obtain ⟨d, s1, s2, s3⟩ := i
        cases v with
        | ptr p =>
          rcases p with _ | ⟨b, o⟩
          · cases d <;> rfl
          · cases d with
            | struct fs =>
              simp only [kfield, krec_ite]
              cases fs[f]? with
              | none => rfl
              | some fd =>
                simp only
                cases c.ty fd.type with
                | none => rfl
                | some i => rfl
            | _ => rfl
        | _ => cases d <;> rfl
  | indexAddr t x ix =>
    rw [dexec_pure rfl rfl rfl rfl]
    simp only [kexec, kev_eq, dpure]
    cases c.ty t with
    | none => rfl
    | some i =>
      obtain ⟨d, s1, s2, s3⟩ := i
      cases hx : dev c.glob fr x with
      | none => cases d <;> rfl
      | some v =>
        cases hix : dev c.glob fr ix with
        | none =>
          cases v with
          | ptr p => rcases p with _ | ⟨b, o⟩ <;> cases d <;> rfl
          | slice a len cap md => rcases a with _ | ⟨b, o⟩ <;> cases d <;> rfl
          | view a len => rcases a with _ | ⟨b, o⟩ <;> cases d <;> rfl
          | _ => cases d <;> rfl
        | some j =>
          show kdid (kindex v j ⟨d, s1, s2, s3⟩ c) m = _
          congr 1
          cases v with
          | ptr p =>
            rcases p with _ | ⟨b, o⟩
            · cases d <;> rfl
            · cases d with
              | array n e =>
                cases j with
                | int kk jj =>
                  simp only [kindex]
                  cases c.ty e with
                  | none => rfl
                  | some ie =>
                    simp only
                    rw [kix_eq]; rfl
                | _ => rfl
              | _ => cases j <;> rfl
          | slice a len cap md =>
            rcases a with _ | ⟨b, o⟩
            · cases d <;> rfl
            · cases d with
              | slice e =>
                cases j with
                | int kk jj =>
                  simp only [kindex]
                  cases c.ty e with
                  | none => rfl
                  | some ie =>
                    simp only
                    rw [kix_eq]; rfl
                | _ => rfl
              | _ => cases j <;> rfl
          | view a len =>
            rcases a with _ | ⟨b, o⟩
            · cases d <;> rfl
            · cases d with
              | slice e =>
                cases j with
                | int kk jj =>
                  simp only [kindex]
                  cases c.ty e with
                  | none => rfl
                  | some ie =>
                    simp only
                    rw [kix_eq]; rfl
                | _ => rfl
              | _ => cases j <;> rfl
          | _ => cases d <;> rfl
  | load t x =>
    rw [dexec_read rfl rfl rfl rfl]
    simp only [kexec, kev_eq, dread]
    cases c.ty t with
    | none => rfl
    | some i =>
      cases hx : dev c.glob fr x with
      | none => rfl
      | some v =>
        cases v with
        | ptr p =>
          rcases p with _ | ⟨b, o⟩
          · rfl
          · simp only [kload]
            cases hi : i.isAgg with
            | true =>
              simp only [if_true]
              cases rcells m b o i.size <;> rfl
            | false =>
              simp only [Bool.false_eq_true, if_false]
              refine Eq.trans ?_ (congrArg (fun z : Option (DVal × Nat) => (Option.rec none (fun r => some ⟨r.1, m, some r.2⟩) z : Option Did)) (rcells_one m b o).symm)
              cases m.get b with
              | none => rfl
              | some ob =>
                cases ob with
                | cells cs e ver => simp only; cases cs[o]? <;> rfl
                | ro cs => simp only; cases cs[o]? <;> rfl
                | _ => rfl
        | _ => rfl
  | store t x v =>
    rw [dexec_heavy rfl rfl rfl rfl]
    simp only [kexec, kev_fun]
  | slice t x lo hi mx =>
    rw [dexec_pure rfl rfl rfl rfl]
    simp only [kexec, kev_eq, dpure, kslice_eq]
    cases dev c.glob fr x with
    | none => rfl
    | some v => cases oev (dev c.glob fr) lo with
      | none => rfl
      | some l => cases oev (dev c.glob fr) hi with
        | none => rfl
        | some h => cases oev (dev c.glob fr) mx <;> rfl
  | extract t ix =>
    rw [dexec_pure rfl rfl rfl rfl]
    simp only [kexec, kev_fun]
  | call cl =>
    obtain ⟨cal, args, tys⟩ := cl
    cases cal with
    | value f =>
      rw [dexec_call rfl rfl rfl rfl]
      simp only [kexec, kev_eq, dtarget]
      cases dev c.glob fr f with
      | none => rfl
      | some v =>
        cases v with
        | func fn a b =>
          cases fn with
          | func g =>
            cases devs (dev c.glob fr) args.toList with
            | none => rfl
            | some as =>
              show (Option.rec none (fun r => some ⟨r.1, r.2, none⟩) (call (.fn g) (a ++ as ++ b) m) : Option Did) = (call (.fn g) (a ++ as ++ b) m).map fun r => ⟨r.1, r.2, none⟩
              cases call (.fn g) (a ++ as ++ b) m <;> rfl
          | _ => rfl
        | _ => rfl
    | _ => simp only [kexec, kev_fun]
  | _ => simp only [kexec, kev_fun]

end
end Go.DM
