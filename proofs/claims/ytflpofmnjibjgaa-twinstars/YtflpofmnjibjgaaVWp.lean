/- V: the rules by which code is walked over trees. -/
import Derived.Test.YtflpofmnjibjgaaVDefs
set_option linter.unusedVariables false
set_option linter.unusedSimpArgs false
namespace Go.V

/-- how an argument is handed over: lent for the time of the call; made common for good; given away; to be written and handed back. -/
inductive Mode where
  | val | frz | own | io
  deriving DecidableEq, Inhabited

def lend1 : AV → Q AV
  | .lit x => .ret (.lit x)
  | .slc o e rows => if o then .ret (.slc false e (shrRows rows)) else .ret (.slc false e rows)
  | .box o cs => if o then .ret (.box false (shrCells cs)) else .ret (.box false cs)
  | .clo f cs => match cs with | [] => .ret (.clo f []) | _ => .fail
  | .dead => .ret .dead
  | .view r hs lo len _ => .deep r hs fun v =>
      match v with
      | .slc _ e rows => .ret (.slc false e (shrRows ((rows.drop lo).take len)))
      | _ => .fail
  | .ref r hs i c =>
      if i = 0 ∧ c = 0 then .deep r hs fun v =>
        match v with
        | .box _ cs => .ret (.box false (shrCells cs))
        | _ => .fail
      else .fail
  | .gone => .fail
  | .mref _ _ => .fail
  | .agg _ => .fail
  | .map _ _ => .fail
  | .tup _ => .fail
  | .held => .fail
def lendL : List AV → Q (List AV)
  | [] => .ret []
  | c :: cs => (lend1 c).bind fun x => (lendL cs).bind fun l => .ret (x :: l)
def lendA : AV → Q AV
  | .agg cs => (lendL cs).bind fun l => .ret (.agg l)
  | v => lend1 v
def lendQ (x : Operand) : Q AV :=
  match x with
  | .tmp t => .deep t [] lendA
  | x => (opnd x).bind lendA

/-- what is taken for a while. -/
def holdQ (x : Operand) : Q (AV × List Put) := (opnd x).bind fun v =>
  match v with
  | .view r hs lo len _ => .deep r hs fun w =>
      match w with
      | .slc o e rows => if o = true ∧ lo = 0 ∧ len = rows.length then .ret (.slc true e rows, [⟨r, hs, .held⟩]) else .fail
      | _ => .fail
  | .ref r hs i c => .deep r hs fun w =>
      match w with
      | .box o cs => if o = true ∧ i = 0 ∧ c = 0 then .ret (.box true cs, [⟨r, hs, .held⟩]) else .fail
      | _ => .fail
  | .lit x => .ret (.lit x, [])
  | _ => .fail

def argQ (m : Mode) (x : Operand) : Q (AV × List Put) :=
  match m with
  | .val => .ret (.gone, [])
  | .frz => take true x
  | .own => take false x
  | .io => holdQ x

/-- where what was taken for a while goes back to. -/
def backOf (m : Mode) (ps : List Put) : Option (Nat × Hops) :=
  match m, ps with
  | .io, [p] => some (p.r, p.hs)
  | _, _ => none

def pinsOk (pins : List (Nat × Hops)) (ps : List Put) : Bool := ps.all fun p => pins.all fun b => apart1 b.1 b.2 p

def takeArgs : List Mode → List Operand → List (Nat × Hops) → Slots → Option (List AV × List (Option (Nat × Hops)) × Slots)
  | [], [], _, σ => some ([], [], σ)
  | m :: ms, x :: xs, pins, σ => ((argQ m x).run σ).bind fun v =>
    if pinsOk pins v.2 then (putAll v.2 σ).bind fun σ₁ => (takeArgs ms xs ((backOf m v.2).toList ++ pins) σ₁).bind fun r => some (v.1 :: r.1, backOf m v.2 :: r.2.1, r.2.2) else none
  | _, _, _, _ => none

def lendArgs (σ : Slots) : List Mode → List Operand → List AV → Option (List AV)
  | [], [], [] => some []
  | m :: ms, x :: xs, v :: vs => (if m = .val then (lendQ x).run σ else some v).bind fun u => (lendArgs σ ms xs vs).bind fun l => some (u :: l)
  | _, _, _ => none

def isHeld : Option AV → Bool
  | some .held => true
  | _ => false
def AV.laid : AV → Bool
  | .slc .. | .box .. => true
  | _ => false

/-- what was taken for a while is laid back. -/
def restore : List (Option (Nat × Hops)) → List AV → Slots → Option Slots
  | [], [], σ => some σ
  | none :: bs, _ :: os, σ => restore bs os σ
  | some b :: bs, o :: os, σ => if isHeld ((pk σ b.1).get b.2) = true ∧ o.laid = true then (Put.to ⟨b.1, b.2, o⟩ σ).bind (restore bs os) else none
  | _, _, _ => none

mutual
/-- holds nothing common? -/
def AV.lone : AV → Bool
  | .slc o _ rows => o && loneR rows
  | .box o cs => o && loneL cs
  | .map o _ => o
  | .agg cs => loneL cs
  | .tup cs => loneL cs
  | _ => true
def loneL : List AV → Bool
  | [] => true
  | c :: cs => c.lone && loneL cs
def loneR : List (List AV) → Bool
  | [] => true
  | r :: rs => loneL r && loneR rs
end

mutual
/-- names nothing? -/
def AV.pure : AV → Bool
  | .ref .. | .view .. | .mref .. => false
  | .agg cs => pureL cs
  | .tup cs => pureL cs
  | .clo _ cs => pureL cs
  | _ => true
def pureL : List AV → Bool
  | [] => true
  | c :: cs => c.pure && pureL cs
end

def yieldedV (ops : Array Oper) (σ : Slots) (j : Nat) : Option (Option Bool) :=
  match (ops[j]?).bind (·.dst) with
  | some d => match pk σ d with
    | .lit (.bool b) => some (some b)
    | .lit _ => some none
    | _ => none
  | none => some none

def wantedV (ops : Array Oper) (σ : Slots) (o : Oper) : Option Bool :=
  match o.guard with
  | none => some true
  | some (j, want) => (yieldedV ops σ j).map fun y => y == some want

def setDst (o : Oper) (v : AV) (σ : Slots) : Option Slots :=
  match o.dst with
  | some d => Put.to ⟨d, [], v⟩ σ
  | none => some σ

/-- the policies of a region: by place, share what is stored (or: leave a source's rows as they are); how arguments are handed over; 'us': of each operation which ones it has no order to; 'ord': the order of the walk; 'puts': those that write more than their own slot; 'rsh': calls whose answer is made common. -/
structure Pol where
  share : List Nat := []
  modes : List (Nat × List Mode) := []
  us : List (List Nat) := []
  ord : List Nat := []
  puts : List Nat := []
  rsh : List Nat := []
  deriving Inhabited

/-- a call's answer, as it is or made common. -/
def Pol.res (pol : Pol) (i : Nat) (v : AV) : AV := if pol.rsh.contains i then v.shr else v

structure Env where
  P : Program
  T : TypeId → TI
  C : FuncId → List AV → AV → List AV → Prop

def isCall (o : Op) : Option (Operand × List Operand) :=
  match o with
  | .call { callee := .value f, args, .. } => some (f, args.toList)
  | _ => none

/-- one operation that is no call of a function. -/
def stepF (E : Env) (pol : Pol) (i : Nat) (o : Oper) (σ : Slots) : Option Slots :=
  ((evM E.P E.T (pol.share.contains i) o.op).run σ).bind fun r => setDst o r.1 r.2

/-- one operation, then what follows. -/
def vop (E : Env) (ops : Array Oper) (pol : Pol) (i : Nat) (o : Oper) (σ : Slots) (K : Slots → Prop) : Prop :=
  match wantedV ops σ o with
  | none => False
  | some false => ∃ σ', setDst o (.lit undef) σ = some σ' ∧ K σ'
  | some true =>
    match isCall o.op with
    | some (f, args) =>
      ∃ g ms as bs σ₁ as' res outs σ₂ σ₃, (opnd f).run σ = some (.clo g []) ∧ ms = (pol.modes.lookup i).getD (args.map fun _ => .val) ∧
        takeArgs ms args [] σ = some (as, bs, σ₁) ∧ lendArgs σ₁ ms args as = some as' ∧
        E.C g as' res outs ∧ outs.length = as'.length ∧ (ms.contains .val = true → res.lone = true ∧ loneL outs = true) ∧ (pol.res i res).pure = true ∧
        restore bs outs σ₁ = some σ₂ ∧ setDst o (pol.res i res) σ₂ = some σ₃ ∧ K σ₃
    | none => ∃ σ', stepF E pol i o σ = some σ' ∧ K σ'

def vops (E : Env) (ops : Array Oper) (pol : Pol) : Nat → List Oper → Slots → (Slots → Prop) → Prop
  | _, [], σ, K => K σ
  | i, o :: os, σ, K => vop E ops pol i o σ fun σ' => vops E ops pol (i + 1) os σ' K

theorem vops_step {E : Env} {ops : Array Oper} {pol : Pol} {i : Nat} {o : Oper} {os : List Oper} {σ σ' : Slots} {K : Slots → Prop}
    (hw : wantedV ops σ o = some true) (hc : isCall o.op = none) (h : stepF E pol i o σ = some σ') (hk : vops E ops pol (i + 1) os σ' K) :
    vops E ops pol i (o :: os) σ K := by
  simp only [vops, vop, hw, hc]; exact ⟨σ', h, hk⟩

theorem vops_skip {E : Env} {ops : Array Oper} {pol : Pol} {i : Nat} {o : Oper} {os : List Oper} {σ σ' : Slots} {K : Slots → Prop}
    (hw : wantedV ops σ o = some false) (h : setDst o (.lit undef) σ = some σ') (hk : vops E ops pol (i + 1) os σ' K) :
    vops E ops pol i (o :: os) σ K := by
  simp only [vops, vop, hw]; exact ⟨σ', h, hk⟩

/-- a query that looks at none of the slots 'D'. -/
def Q.runD {α : Type} (D : List Nat) (σ : Slots) : Q α → Option α
  | .ret a => some a
  | .fail => none
  | .slot t k => if D.contains t then none else (k ((pk σ t).sh t)).runD D σ
  | .cells r hs i c n k => if D.contains r then none else (cellsAt σ r hs i c n).bind fun l => (k l).runD D σ
  | .deep r hs k => if D.contains r then none else ((pk σ r).get hs).bind fun a => (k a).runD D σ

/-- what an operation comes to that writes nothing and looks at none of 'D'. -/
def M.runD {α : Type} (D : List Nat) (σ : Slots) : M α → Option α
  | .ret a => some a
  | .fail => none
  | .step q k => (q.runD D σ).bind fun r => if r.2.isEmpty then (k r.1).runD D σ else none

def wantedD (D : List Nat) (ops : Array Oper) (σ : Slots) (o : Oper) : Option Bool :=
  match o.guard with
  | none => some true
  | some (j, want) =>
    match (ops[j]?).bind (·.dst) with
    | some d => if D.contains d then none else (yieldedV ops σ j).map fun y => y == some want
    | none => (yieldedV ops σ j).map fun y => y == some want

/-- arguments that are all lent. -/
def lendAllD (D : List Nat) (σ : Slots) : List Operand → Option (List AV)
  | [] => some []
  | x :: xs => ((lendQ x).runD D σ).bind fun u => (lendAllD D σ xs).bind fun l => some (u :: l)

/-- an operation that writes nothing but its own slot and looks at none of 'D'. -/
def vstill (E : Env) (ops : Array Oper) (pol : Pol) (D : List Nat) (i : Nat) (o : Oper) (σ : Slots) (K : AV → Prop) : Prop :=
  match wantedD D ops σ o with
  | none => False
  | some false => K (.lit undef)
  | some true =>
    match isCall o.op with
    | some (f, args) =>
      ∃ g us outs res, (opnd f).runD D σ = some (.clo g []) ∧ pol.modes.lookup i = none ∧ lendAllD D σ args = some us ∧ E.C g us res outs ∧ outs.length = us.length ∧
        (res.lone = true ∧ loneL outs = true) ∧ (pol.res i res).pure = true ∧ K (pol.res i res)
    | none => ∃ v, (evM E.P E.T (pol.share.contains i) o.op).runD D σ = some v ∧ K v

def setD (o : Oper) (v : AV) (σ : Slots) : Slots :=
  match o.dst with
  | some d => (d, v) :: σ
  | none => σ

def freeDst (D : List Nat) (o : Oper) (σ : Slots) : Bool :=
  match o.dst with
  | some d => !(pk σ d).node && !D.contains d
  | none => true

def dsts (ops : Array Oper) (U : List Nat) : List Nat := U.filterMap fun k => (ops[k]?).bind (·.dst)

def un (pol : Pol) (i j : Nat) : Bool := (pol.us.getD i []).contains j
def bar (pol : Pol) (i : Nat) : Bool := (pol.us.getD i []).isEmpty
def isPut (pol : Pol) (i : Nat) : Bool := pol.puts.contains i
/-- the slots of all that an operation has no order to. -/
def near (ops : Array Oper) (pol : Pol) (i : Nat) : List Nat := dsts ops (pol.us.getD i [])
/-- the slots of all that are not ahead of an operation. -/
def wide (ops : Array Oper) (pol : Pol) (i : Nat) : List Nat := dsts ops ((List.range ops.size).filter fun j => decide (i ≤ j) || un pol i j)

/-- an operation that writes none of 'D', looks at none of them. -/
def M.runP {α : Type} (D : List Nat) : M α → Slots → Option (α × Slots)
  | .ret a, σ => some (a, σ)
  | .fail, _ => none
  | .step q k, σ => (q.runD D σ).bind fun r => if (r.2.all fun p => !D.contains p.r) then (putAll r.2 σ).bind fun σ₁ => (k r.1).runP D σ₁ else none

def dstOff (D : List Nat) (o : Oper) : Bool :=
  match o.dst with
  | some d => !D.contains d
  | none => true

def takeArgsD (D : List Nat) : List Mode → List Operand → List (Nat × Hops) → Slots → Option (List AV × List (Option (Nat × Hops)) × Slots)
  | [], [], _, σ => some ([], [], σ)
  | m :: ms, x :: xs, pins, σ => ((argQ m x).runD D σ).bind fun v =>
    if pinsOk pins v.2 = true ∧ (v.2.all fun p => !D.contains p.r) = true then (putAll v.2 σ).bind fun σ₁ => (takeArgsD D ms xs ((backOf m v.2).toList ++ pins) σ₁).bind fun r => some (v.1 :: r.1, backOf m v.2 :: r.2.1, r.2.2) else none
  | _, _, _, _ => none

def lendArgsD (D : List Nat) (σ : Slots) : List Mode → List Operand → List AV → Option (List AV)
  | [], [], [] => some []
  | m :: ms, x :: xs, v :: vs => (if m = .val then (lendQ x).runD D σ else some v).bind fun u => (lendArgsD D σ ms xs vs).bind fun l => some (u :: l)
  | _, _, _ => none

def offBacks (D : List Nat) (bs : List (Option (Nat × Hops))) : Bool := bs.all fun b => match b with | some b => !D.contains b.1 | none => true

/-- an operation that may write more than its own slot. -/
def vput (E : Env) (ops : Array Oper) (pol : Pol) (D : List Nat) (i : Nat) (o : Oper) (σ : Slots) (K : Slots → Prop) : Prop :=
  match wantedD D ops σ o with
  | none => False
  | some false => dstOff D o = true ∧ ∃ σ', setDst o (.lit undef) σ = some σ' ∧ K σ'
  | some true =>
    match isCall o.op with
    | some (f, args) =>
      dstOff D o = true ∧ ∃ g ms as bs σ₁ as' res outs σ₂ σ₃, (opnd f).runD D σ = some (.clo g []) ∧ ms = (pol.modes.lookup i).getD (args.map fun _ => .val) ∧
        takeArgsD D ms args [] σ = some (as, bs, σ₁) ∧ lendArgsD D σ₁ ms args as = some as' ∧
        E.C g as' res outs ∧ outs.length = as'.length ∧ (ms.contains .val = true → res.lone = true ∧ loneL outs = true) ∧ (pol.res i res).pure = true ∧
        offBacks D bs = true ∧ restore bs outs σ₁ = some σ₂ ∧ setDst o (pol.res i res) σ₂ = some σ₃ ∧ K σ₃
    | none => dstOff D o = true ∧ ∃ v σ₁ σ', (evM E.P E.T (pol.share.contains i) o.op).runP D σ = some (v, σ₁) ∧ setDst o v σ₁ = some σ' ∧ K σ'

/-- an operation that is there already gives the same behind one that writes. -/
def Again (E : Env) (ops : Array Oper) (pol : Pol) (i j : Nat) (v : AV) (σ σ' : Slots) : Prop :=
  un pol i j = true → ∃ o, ops[j]? = some o ∧ (∀ d, o.dst = some d → pk σ d = v ∧ pk σ' d = v) ∧ vstill E ops pol (wide ops pol j) j o σ' fun u => u = v

/-- the walk of a region that draws its order. -/
def vdops (E : Env) (ops : Array Oper) (pol : Pol) : List Nat → List (Nat × AV) → Slots → (Slots → Prop) → Prop
  | [], _, σ, K => K σ
  | i :: is, done, σ, K =>
    match ops[i]? with
    | none => False
    | some o =>
      if bar pol i then vop E ops pol i o σ fun σ' => vdops E ops pol is done σ' K
      else if isPut pol i then vput E ops pol (near ops pol i) i o σ fun σ' => (∀ x ∈ done, Again E ops pol i x.1 x.2 σ σ') ∧ vdops E ops pol is done σ' K
      else vstill E ops pol (near ops pol i) i o σ fun v => freeDst (near ops pol i) o σ = true ∧ vdops E ops pol is ((i, v) :: done) (setD o v σ) K

def pairAll (r : Nat → Nat → Bool) : List Nat → Bool
  | [] => true
  | a :: l => l.all (r a) && pairAll r l

/-- are the operations that are not in 'us' ordered? is the walk's order one that may be? -/
def ordOk (ops : Array Oper) (pol : Pol) : Bool :=
  ((List.range ops.size).all fun i => match ops[i]? with
    | none => true
    | some o => (o.after.toList.all fun e => !Region.binds .any e || decide (e.on < i)) &&
      (List.range i).all fun j => (un pol i j == un pol j i) &&
        (un pol i j || o.after.toList.any fun e => Region.binds .any e && (e.on == j || (decide (j < e.on) && !un pol e.on j)))) &&
  pol.ord.length == ops.size && (pol.ord.all fun i => decide (i < ops.size)) && ((List.range ops.size).all fun i => pol.ord.contains i) &&
  pairAll (fun a b => a != b && (decide (a < b) || un pol a b) && (!isPut pol a || !un pol a b)) pol.ord &&
  (pol.puts.all fun a => (pol.us.getD a []).all fun b => !isPut pol b)

mutual
def AV.rooted (keep : List Nat) : AV → AV
  | .ref r hs i c => if keep.contains r then .ref r hs i c else .dead
  | .view r hs lo len e => if keep.contains r then .view r hs lo len e else .dead
  | .mref r hs => if keep.contains r then .mref r hs else .dead
  | .agg cs => .agg (rootedL keep cs)
  | .tup cs => .tup (rootedL keep cs)
  | .clo f cs => .clo f (rootedL keep cs)
  | a => a
def rootedL (keep : List Nat) : List AV → List AV
  | [] => []
  | c :: cs => c.rooted keep :: rootedL keep cs
end

def clean (keep : List Nat) (σ : Slots) : Slots := keep.map fun t => (t, (pk σ t).rooted keep)

inductive Ex where
  | normal | exit (id : Nat) | ret
  deriving DecidableEq

def vloop (step : (Ex → Slots → Prop) → Slots → Prop) (Q : Ex → Slots → Prop) : Nat → Slots → Prop
  | 0, _ => False
  | n + 1, σ => step (fun x σ' => match x with | .normal => vloop step Q n σ' | x => Q x σ') σ

/-- 'pols': of each region its policy; 'keep': the slots that count from region to region. -/
def vwp (E : Env) (pols : Nat → Pol) (keep : List Nat) : Code → (Ex → Slots → Prop) → Slots → Prop
  | .skip, Q, σ => Q .normal σ
  | .label _, Q, σ => Q .normal σ
  | .region id ops false, Q, σ => vops E ops (pols id) 0 ops.toList σ fun σ' => Q .normal (clean keep σ')
  | .region id ops true, Q, σ => ordOk ops (pols id) = true ∧ vdops E ops (pols id) (pols id).ord [] σ fun σ' => Q .normal (clean keep σ')
  | .seq a b, Q, σ => vwp E pols keep a (fun x σ' => match x with | .normal => vwp E pols keep b Q σ' | x => Q x σ') σ
  | .cond c a b, Q, σ => ∃ t, (opnd c).run σ = some (.lit (.bool t)) ∧ (if t then vwp E pols keep a Q σ else vwp E pols keep b Q σ)
  | .block id b, Q, σ => vwp E pols keep b (fun x σ' => match x with | .exit j => if j = id then Q .normal σ' else Q x σ' | x => Q x σ') σ
  | .loop b, Q, σ => ∃ n, vloop (vwp E pols keep b) Q n σ
  | .scope b, Q, σ => vwp E pols keep b Q σ
  | .exit id, Q, σ => Q (.exit id) σ
  | .ret, Q, σ => Q .ret σ
  | _, _, _ => False

end Go.V
