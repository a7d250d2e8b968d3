/-
  A deterministic machine over Go's code: how it runs.
-/
import Derived.Test.YtijeeiemklahiaaGreatDoorDmDefs
namespace Go.DM
noncomputable section

def dput (fr : Fr) (dst : Option Nat) (v : DVal) : Fr :=
  match dst with
  | some d => fr.put d v
  | none => fr

def dyielded (ops : Array Oper) (fr : Fr) (j : Nat) : Option Bool :=
  match ops[j]? with
  | some o => match o.dst with
    | some t => match fr.get? t with
      | some (.bool b) => some b
      | _ => none
    | none => none
  | none => none

def dwanted (ops : Array Oper) (fr : Fr) (o : Oper) : Bool :=
  match o.guard with
  | none => true
  | some (j, want) => match dyielded ops fr j with
    | some b => b == want
    | none => false

/-- One operation. -/
def dstep (c : Ctx) (call : Callee) (ops : Array Oper) (o : Oper) (s : DSt) : Option (DSt × Option Nat) :=
  match s with
  | ⟨fr, m⟩ => match dwanted ops fr o with
    | false => some (⟨dput fr o.dst dundef, m⟩, none)
    | true => match dexec c call (dev c.glob fr) m o.op with
      | some ⟨v, m', at_⟩ => some (⟨dput fr o.dst v, m'⟩, at_)
      | none => none

theorem dstep_eq (c : Ctx) (call : Callee) (ops : Array Oper) (o : Oper) (s : DSt) : dstep c call ops o s =
    match dwanted ops s.fr o with
    | false => some (⟨dput s.fr o.dst dundef, s.m⟩, none)
    | true => match dexec c call (dev c.glob s.fr) s.m o.op with
      | some r => some (⟨dput s.fr o.dst r.v, r.m⟩, r.at_)
      | none => none := by
  obtain ⟨fr, m⟩ := s
  unfold dstep
  simp only
  cases dwanted ops fr o with
  | false => rfl
  | true => cases dexec c call (dev c.glob fr) m o.op <;> rfl

/-- A value laid in the place of one that was reckoned. -/
def dhint (c : Ctx) (call : Callee) (o : Oper) (s : DSt) : Option DSt :=
  match c.hint o with
  | none => some s
  | some v => match o.dst with
    | none => none
    | some d => match s with
      | ⟨fr, m⟩ => match call (.owe (fr.getD d = v)) [v] m with
        | some (u, m') => some ⟨fr.put d u, m'⟩
        | none => none

/-- No function is called. -/
def noCall : Callee := fun _ _ _ => none

/-- One operation, and what is laid in its value's place. -/
def dnext (c : Ctx) (call : Callee) (ops : Array Oper) (o : Oper) (s : DSt) : Option DSt :=
  match c.pre o with
  | none => match dstep c call ops o s with
    | some (s', _) => dhint c call o s'
    | none => none
  | some p => match s with
    | ⟨fr, m⟩ => match dwanted ops fr o with
      | false => some ⟨dput fr o.dst dundef, m⟩
      | true => match p (dev c.glob fr) m with
        | none => none
        | some (v, P) => match call (.owe P) [v] m with
          | some (u, m') => some ⟨dput fr o.dst u, m'⟩
          | none => none

/-- A region in the text's order. -/
def dseq (c : Ctx) (call : Callee) (ops : Array Oper) : List Oper → DSt → Option DSt
  | [], s => some s
  | o :: os, s => match dnext c call ops o s with
    | some s' => dseq c call ops os s'
    | none => none

def isHeavy : Op → Bool
  | .store .. | .mapUpdate .. | .insert .. | .call ⟨.builtin .append, _, _⟩ | .call ⟨.builtin .copy, _, _⟩ => true
  | .call ⟨.value _, _, _⟩ => true
  | .convert s d _ => Nat.beq s d
  | _ => false

/-- The operations that stand ahead of one, as a number's bits. -/
def predsOf (o : Oper) : List Nat := (o.after.toList.filter (Region.binds .any)).map (·.on)

def closure (ops : Array Oper) : List Nat → T Nat → T Nat
  | [], t => t
  | i :: is, t => match ops[i]? with
    | some o => closure ops is (t.set i ((predsOf o).foldl (fun s p => s ||| 2 ^ p ||| (t.get p).getD 0) 0))
    | none => closure ops is t

def readyL (ops : Array Oper) (listed : Nat) (heavy : Bool) (i : Nat) : Bool :=
  match ops[i]? with
  | some o => !listed.testBit i && (heavy || !isHeavy o.op) && (predsOf o).all fun p => listed.testBit p
  | none => false

/-- An order: what is light as early as may be. -/
def orderGo (ops : Array Oper) : Nat → Nat → List Nat
  | 0, _ => []
  | n + 1, listed =>
    match (List.range ops.size).find? (readyL ops listed false) with
    | some i => i :: orderGo ops n (listed ||| 2 ^ i)
    | none => match (List.range ops.size).find? (readyL ops listed true) with
      | some i => i :: orderGo ops n (listed ||| 2 ^ i)
      | none => []

def namesOf (ops : Array Oper) (o : Oper) : List Nat :=
  o.dst.toList ++ (o.op.operands.toList.filterMap fun | .tmp t => some t | _ => none) ++
    (match o.guard with
     | some (g, _) => ((ops[g]?).bind (·.dst)).toList
     | none => [])

def before (clo : T Nat) (i j : Nat) : Bool := ((clo.get j).getD 0).testBit i

/-- Is an order one over which the run may be reckoned? -/
def okOrder (ops : Array Oper) (ord : List Nat) (clo : T Nat) : Bool :=
  (ord.length == ops.size) &&
  (List.range ops.size).all (fun i => ord.contains i) &&
  (ord.zipIdx.all fun (i, k) => match ops[i]? with
    | none => false
    | some o =>
      !(ord.take k).contains i &&
      (predsOf o).all (fun p => (ord.take k).contains p) &&
      (clo.get i == some ((predsOf o).foldl (fun s p => s ||| 2 ^ p ||| (clo.get p).getD 0) 0)) &&
      ((ord.take k).all fun h => match ops[h]? with
        | some oh => !isHeavy oh.op || before clo h i
        | none => false)) &&
  ((List.range ops.size).all fun j => match ops[j]? with
    | none => false
    | some oj => (List.range ops.size).all fun i => i == j || match ops[i]? with
      | none => false
      | some oi => match oi.dst with
        | none => true
        | some d => !(namesOf ops oj).contains d || before clo i j || before clo j i)

def DMem.ver (m : DMem) (b : Nat) : Option Nat :=
  match m.get b with
  | some (.cells _ _ v) => some v
  | some (.map _ v) => some v
  | some (.ro _) => some 0
  | _ => none

/-- Behind a heavy operation: what was looked at and is not bound to be ahead of it, has not been written. -/
def pendOk (m : DMem) (pre : Nat) : List (Nat × Nat × Nat) → Bool
  | [] => true
  | (j, b, v) :: ps =>
    match pre.testBit j with
    | true => pendOk m pre ps
    | false => match m.ver b with
      | none => false
      | some v' => match Nat.beq v' v with
        | true => pendOk m pre ps
        | false => false

def dgo (c : Ctx) (call : Callee) (ops : Array Oper) (clo : T Nat) : List Nat → List (Nat × Nat × Nat) → DSt → Option DSt
  | [], _, s => some s
  | i :: is, pend, s =>
    match ops[i]? with
    | none => none
    | some o =>
      match dstep c call ops o s with
      | none => none
      | some (s', at_) =>
        match isHeavy o.op with
        | true => match pendOk s'.m ((clo.get i).getD 0) pend with
          | true => dgo c call ops clo is pend s'
          | false => none
        | false => match at_ with
          | some b => match s'.m.ver b with
            | some v => dgo c call ops clo is ((i, b, v) :: pend) s'
            | none => none
          | none => dgo c call ops clo is pend s'

def dregion (c : Ctx) (call : Callee) (ops : Array Oper) (draw : Bool) (s : DSt) : Option DSt :=
  match draw with
  | false => dseq c call ops ops.toList s
  | true =>
    match okOrder ops (orderGo ops ops.size 0) (closure ops (orderGo ops ops.size 0) .leaf) with
    | true => dgo c call ops (closure ops (orderGo ops ops.size 0) .leaf) (orderGo ops ops.size 0) [] s
    | false => none

def loopN (body : DSt → Option (DExit × DSt)) : Nat → DSt → Option (DExit × DSt)
  | 0, _ => none
  | n + 1, s => match body s with
    | some (.normal, s') => loopN body n s'
    | r => r

def dcode (c : Ctx) (call : Callee) (fuel : Nat) : Code → DSt → Option (DExit × DSt)
  | .skip, s | .label _, s => some (.normal, s)
  | .region _ ops draw, s => match dregion c call ops draw s with
    | some s' => some (.normal, s')
    | none => none
  | .seq a b, s => match dcode c call fuel a s with
    | some (.normal, s') => dcode c call fuel b s'
    | r => r
  | .cond q a b, s => match dev c.glob s.fr q with
    | some (.bool true) => dcode c call fuel a s
    | some (.bool false) => dcode c call fuel b s
    | _ => none
  | .block id b, s => match dcode c call fuel b s with
    | some (.exit i, s') => match i == id with
      | true => some (.normal, s')
      | false => some (.exit i, s')
    | r => r
  | .loop b, s => match c.lp b with
    | none => loopN (dcode c call fuel b) fuel s
    | some g => match g s with
      | none => none
      | some (e, s', P) => match call (.owe P) [dundef] s'.m with
        | some (_, m') => some (e, ⟨s'.fr, m'⟩)
        | none => none
  | .scope b, s => dcode c call fuel b s
  | .exit id, s => some (.exit id, s)
  | .ret, s => some (.ret, s)
  | _, _ => none

def dresult (c : Ctx) (s : DSt) : ResultVar → Option DVal
  | .tmp t => some (s.fr.getD t)
  | .cell a t => match c.ty t, s.fr.getD a with
    | some i, .ptr (some (b, o)) =>
      if i.isAgg then (rcells s.m b o i.size).map .agg
      else match rcells s.m b o 1 with
        | some [v] => some v
        | _ => none
    | _, _ => none

def dresults (c : Ctx) (s : DSt) : List ResultVar → Option (List DVal)
  | [] => some []
  | r :: rs => match dresult c s r, dresults c s rs with
    | some v, some vs => some (v :: vs)
    | _, _ => none

def tup : List DVal → DVal
  | [v] => v
  | vs => .tuple vs

def dbody (c : Ctx) (call : Callee) (fuel : Nat) (fn : Func) (args : List DVal) (m : DMem) : Option (DVal × DMem) :=
  match fn.body with
  | none => none
  | some code =>
    match dcode c call fuel code ⟨Fr.init args fn.ntmps, m⟩ with
    | some (.normal, s) | some (.ret, s) => match dresults c s fn.results.toList with
      | some vs => some (tup vs, s.m)
      | none => none
    | _ => none

def dowe (P : Prop) (args : List DVal) (m : DMem) : Option (DVal × DMem) :=
  match args with
  | [v] => some (v, ⟨m.t, m.size, P :: m.ob⟩)
  | _ => none

def dcall (c : Ctx) : Nat → Callee
  | 0, _, _, _ => none
  | n + 1, f, args, m =>
    match f with
    | .owe P => dowe P args m
    | .fn f => match c.orc f with
      | some g => g args m
      | none => match c.fn f with
        | some fn => dbody c (dcall c n) n fn args m
        | none => none

end
end Go.DM
