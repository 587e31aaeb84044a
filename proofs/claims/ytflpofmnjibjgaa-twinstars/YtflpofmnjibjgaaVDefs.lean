/- V: an abstract semantics of the model's code over trees: the definitions. -/
import Derived.Calls
import Derived.KernelRfl
import Derived.Laws.Sem
import Derived.Laws.Cells
import Derived.Laws.World
set_option linter.unusedVariables false
set_option linter.unusedSimpArgs false
namespace Go.V

inductive TD where
  | int (k : IntKind) | bool | str
  | ptr (e : TypeId) | slice (e : TypeId) | array (n : Nat) (e : TypeId)
  | struct (fs : List (Nat × TypeId))
  | map (k e : TypeId)
  | other
  deriving Inhabited

structure TI where
  size : Nat
  bytes : Nat
  zero : List Value
  d : TD
  deriving Inhabited

abbrev Hops := List (Nat × Nat)

inductive AV where
  | lit (x : Value)
  | slc (o : Bool) (e : Nat) (rows : List (List AV))
  | box (o : Bool) (cells : List AV)
  | map (o : Bool) (es : List (Value × AV))
  | agg (cells : List AV)
  | tup (vs : List AV)
  | clo (f : FuncId) (caps : List AV)
  | ref (r : Nat) (hs : Hops) (i c : Nat)
  | view (r : Nat) (hs : Hops) (lo len e : Nat)
  | mref (r : Nat) (hs : Hops)
  | dead
  | gone
  | held
  deriving Inhabited

/-- a row of memory: is it its holder's own, how many cells an element has, the elements. -/
def AV.arr : AV → Option (Bool × Nat × List (List AV))
  | .slc o e rows => some (o, e, rows)
  | .box o cs => some (o, cs.length, [cs])
  | _ => none

def cellOf (rows : List (List AV)) (h : Nat × Nat) : Option AV := (rows[h.1]?).bind (·[h.2]?)

/-- one step into a node. -/
def AV.kid (a : AV) (h : Nat × Nat) : Option AV := a.arr.bind fun x => cellOf x.2.2 h

def AV.get : AV → Hops → Option AV
  | a, [] => some a
  | a, h :: hs => (a.kid h).bind (·.get hs)

def modCell (f : AV → AV) (h : Nat × Nat) (rows : List (List AV)) : List (List AV) := rows.modify h.1 (·.modify h.2 f)

def AV.modKid (f : AV → AV) (h : Nat × Nat) : AV → AV
  | .slc o e rows => .slc o e (modCell f h rows)
  | .box o cs => .box o (if h.1 = 0 then cs.modify h.2 f else cs)
  | a => a

def AV.put (a : AV) : Hops → AV → AV
  | [], v => v
  | h :: hs, v => a.modKid (fun x => x.put hs v) h

/-- may what lies there be written? -/
def AV.owned (a : AV) : Hops → Bool
  | [] => true
  | h :: hs => (match a.arr with | some x => x.1 | none => false) && (match a.kid h with | some x => x.owned hs | none => false)

/-- is it more than a plain word? -/
def AV.node : AV → Bool
  | .slc .. | .box .. | .map .. | .agg .. | .tup .. | .held => true
  | _ => false

mutual
/-- does it hold memory of its own? -/
def AV.owns : AV → Bool
  | .slc o _ _ => o
  | .box o _ => o
  | .map o _ => o
  | .agg cs => ownsL cs
  | .tup cs => ownsL cs
  | _ => false
def ownsL : List AV → Bool
  | [] => false
  | c :: cs => c.owns || ownsL cs
end

/-- what is told of a value that lies at a place: what it owns is told by the place. -/
def AV.sh1 (r : Nat) (hs : Hops) : AV → AV
  | .slc o e rows => if o then .view r hs 0 rows.length e else .slc o e rows
  | .box o cs => if o then .ref r hs 0 0 else .box o cs
  | .map o es => if o then .mref r hs else .map o es
  | .held => .dead
  | a => a
/-- the parts of an aggregate: what they own is not told. -/
def AV.part : AV → AV
  | .slc o e rows => if o then .dead else .slc o e rows
  | .box o cs => if o then .dead else .box o cs
  | .map o es => if o then .dead else .map o es
  | .agg _ => .gone
  | .tup _ => .gone
  | .held => .dead
  | a => a
def AV.sh (r : Nat) : AV → AV
  | .agg cs => .agg (cs.map AV.part)
  | .tup _ => .gone
  | a => a.sh1 r []

/-- the same of a cell of memory: no place is kept there. -/
def AV.shm (r : Nat) (hs : Hops) : AV → AV
  | .slc o e rows => if o then .view r hs 0 rows.length e else .slc o e rows
  | .box o cs => if o then .ref r hs 0 0 else .box o cs
  | .map o es => if o then .mref r hs else .map o es
  | .lit x => .lit x
  | .clo f [] => .clo f []
  | .dead => .dead
  | _ => .gone
def shmL (r : Nat) (hs : Hops) (i : Nat) : Nat → List AV → List AV
  | _, [] => []
  | j, c :: cs => c.shm r (hs ++ [(i, j)]) :: shmL r hs i (j + 1) cs

structure Put where
  r : Nat
  hs : Hops
  v : AV
  deriving Inhabited

inductive Q (α : Type) where
  | ret (a : α)
  | fail
  | slot (t : Nat) (k : AV → Q α)
  | cells (r : Nat) (hs : Hops) (i c n : Nat) (k : List AV → Q α)
  | deep (r : Nat) (hs : Hops) (k : AV → Q α)

def Q.bind {α β : Type} : Q α → (α → Q β) → Q β
  | .ret a, f => f a
  | .fail, _ => .fail
  | .slot t k, f => .slot t fun v => (k v).bind f
  | .cells r hs i c n k, f => .cells r hs i c n fun v => (k v).bind f
  | .deep r hs k, f => .deep r hs fun v => (k v).bind f

instance : Monad Q where
  pure := Q.ret
  bind := Q.bind

/-- what the slots hold: the first row of a slot counts; one without a row holds nothing that is known. -/
abbrev Slots := List (Nat × AV)

def pk : Slots → Nat → AV
  | [], _ => .gone
  | (u, v) :: σ, t => if u = t then v else pk σ t

def AV.row (a : AV) (i : Nat) : Option (List AV) := a.arr.bind fun x => x.2.2[i]?

def cellsAt (σ : Slots) (r : Nat) (hs : Hops) (i c n : Nat) : Option (List AV) :=
  ((pk σ r).get hs).bind fun a => (a.row i).bind fun row =>
    if c + n ≤ row.length then some (shmL r hs i c ((row.drop c).take n)) else none

def Q.run {α : Type} (σ : Slots) : Q α → Option α
  | .ret a => some a
  | .fail => none
  | .slot t k => (k ((pk σ t).sh t)).run σ
  | .cells r hs i c n k => (cellsAt σ r hs i c n).bind fun l => (k l).run σ
  | .deep r hs k => ((pk σ r).get hs).bind fun a => (k a).run σ

inductive Ask where
  | slot (t : Nat)
  | cells (r : Nat) (hs : Hops) (i c n : Nat)
  | deep (r : Nat) (hs : Hops)

def Q.log {α : Type} (σ : Slots) : Q α → List Ask
  | .ret _ => []
  | .fail => []
  | .slot t k => .slot t :: (k ((pk σ t).sh t)).log σ
  | .cells r hs i c n k => .cells r hs i c n :: ((cellsAt σ r hs i c n).map fun l => (k l).log σ).getD []
  | .deep r hs k => .deep r hs :: (((pk σ r).get hs).map fun a => (k a).log σ).getD []

/-- places that run through a place, whatever the rows. -/
def Hops.through : Hops → Hops → Bool
  | [], _ => true
  | h :: hs, g :: gs => h.2 == g.2 && Hops.through hs gs
  | _ :: _, [] => false

mutual
def AV.kill (r : Nat) (hs : Hops) : AV → AV
  | .ref r' hs' i c => if r' == r && Hops.through hs hs' then .dead else .ref r' hs' i c
  | .view r' hs' lo len e => if r' == r && Hops.through hs hs' then .dead else .view r' hs' lo len e
  | .mref r' hs' => if r' == r && Hops.through hs hs' then .dead else .mref r' hs'
  | .agg cs => .agg (killL r hs cs)
  | .tup cs => .tup (killL r hs cs)
  | .clo f cs => .clo f (killL r hs cs)
  | a => a
def killL (r : Nat) (hs : Hops) : List AV → List AV
  | [] => []
  | c :: cs => c.kill r hs :: killL r hs cs
end

def killAll (r : Nat) (hs : Hops) : Slots → Slots
  | [] => []
  | (t, v) :: σ => (t, v.kill r hs) :: killAll r hs σ

/-- one write: what the place held is gone, and whatever ran through it. -/
def Put.to (p : Put) (σ : Slots) : Option Slots :=
  ((pk σ p.r).get p.hs).bind fun old =>
    if (pk σ p.r).owned p.hs then
      if old.node then some ((p.r, ((pk σ p.r).put p.hs (p.v.kill p.r p.hs))) :: killAll p.r p.hs σ) else some ((p.r, (pk σ p.r).put p.hs p.v) :: σ)
    else none

def putAll : List Put → Slots → Option Slots
  | [], σ => some σ
  | p :: ps, σ => (p.to σ).bind (putAll ps)

/-! the operations -/

def plain : Value → Bool
  | .bool _ | .int _ _ | .string _ | .pointer none | .slice none 0 0 | .map none | .nilFunc => true
  | .tuple vs => vs.isEmpty
  | _ => false

def constAV : Value → Q AV
  | .agg cs => if cs.toList.all plain then .ret (.agg (cs.toList.map .lit)) else .fail
  | v => if plain v then .ret (.lit v) else .fail

def opnd : Operand → Q AV
  | .tmp t => .slot t .ret
  | .const v => constAV v
  | .func f => .ret (.clo f [])
  | .global _ => .fail

def asLit : AV → Q Value
  | .lit v => .ret v
  | _ => .fail

def evS (P : Program) : Sem Value → Option Value
  | .pure v => some v
  | .program k => evS P (k P)
  | _ => none

def ofS (P : Program) (s : Sem Value) : Q AV :=
  match evS P s with
  | some v => if plain v then .ret (.lit v) else .fail
  | none => .fail

mutual
def AV.shr : AV → AV
  | .slc _ e rows => .slc false e (shrRows rows)
  | .box _ cs => .box false (shrCells cs)
  | .agg cs => .agg (shrCells cs)
  | .tup cs => .tup (shrCells cs)
  | .lit x => .lit x
  | .clo f cs => .clo f cs
  | .gone => .gone
  | _ => .dead
def shrCells : List AV → List AV
  | [] => []
  | c :: cs => c.shr :: shrCells cs
def shrRows : List (List AV) → List (List AV)
  | [] => []
  | r :: rs => shrCells r :: shrRows rs
end

/-- places that have nothing to do with each other. -/
def apart1 (r : Nat) (hs : Hops) (p : Put) : Bool := !(p.r == r && (Hops.through hs p.hs || Hops.through p.hs hs))
def apartAll (ps qs : List Put) : Bool := ps.all fun p => qs.all fun q => apart1 p.r p.hs q

def guardQ (b : Bool) : Q Unit := if b then .ret () else .fail

/-- what is to be stored: what it names is taken from its place (share: made common for good). -/
def absorb1 (share : Bool) : AV → Q (AV × List Put)
  | .lit x => .ret (.lit x, [])
  | .slc o e rows => if o then .fail else .ret (.slc o e rows, [])
  | .box o cs => if o then .fail else .ret (.box o cs, [])
  | .clo f cs => .ret (.clo f cs, [])
  | .dead => .ret (.dead, [])
  | .gone => .fail
  | .view r hs lo len _ => .deep r hs fun v =>
      match v with
      | .slc o e rows =>
        if o then
          (if share then .ret (.slc false e (shrRows ((rows.drop lo).take len)), [⟨r, hs, .slc false e (shrRows rows)⟩])
           else .ret (.slc true e ((rows.drop lo).take len), [⟨r, hs, .dead⟩]))
        else .fail
      | _ => .fail
  | .ref r hs i c =>
      if i = 0 ∧ c = 0 then .deep r hs fun v =>
        match v with
        | .box o cs =>
          if o then (if share then .ret (.box false (shrCells cs), [⟨r, hs, .box false (shrCells cs)⟩]) else .ret (.box true cs, [⟨r, hs, .dead⟩])) else .fail
        | _ => .fail
      else .fail
  | .mref r hs => .deep r hs fun v =>
      match v with
      | .map o es => if o && !share then .ret (.map true es, [⟨r, hs, .dead⟩]) else .fail
      | _ => .fail
  | .agg _ => .fail
  | .map _ _ => .fail
  | .tup _ => .fail
  | .held => .fail
def absorbL (share : Bool) : List AV → Q (List AV × List Put)
  | [] => .ret ([], [])
  | c :: cs => (absorb1 share c).bind fun x => (absorbL share cs).bind fun l => if apartAll x.2 l.2 then .ret (x.1 :: l.1, x.2 ++ l.2) else .fail
def absorb (share : Bool) (a : AV) : Q (AV × List Put) :=
  match a with
  | .agg cs => (absorbL share cs).bind fun l => .ret (.agg l.1, l.2)
  | a => absorb1 share a

def asRef : AV → Q (Nat × Hops × Nat × Nat)
  | .ref r hs i c => .ret (r, hs, i, c)
  | _ => .fail

def AV.cellsOf : AV → List AV
  | .agg cs => cs
  | v => [v]

def AV.free : AV → Bool
  | .ref .. | .view .. | .mref .. | .agg .. | .tup .. | .held => false
  | _ => true

def AV.free2 : AV → Bool
  | .agg cs => cs.all AV.free
  | a => a.free

/-- what a variable's own slot holds is taken whole; else as it is named. -/
def take (share : Bool) (x : Operand) : Q (AV × List Put) :=
  match x with
  | .tmp t => .slot t fun v =>
    match v with
    | .agg _ => .deep t [] fun a =>
      match a with
      | .agg cs => if ownsL cs then (if !cs.all AV.free then .fail else .ret (if share then .agg (shrCells cs) else .agg cs, [⟨t, [], .gone⟩])) else absorb share (.agg cs)
      | _ => .fail
    | v => absorb share v
  | x => (opnd x).bind fun v => absorb share v

/-- 'x = y' of a variable: what a temporary owns moves; what a variable owns moves; a part of something is named. -/
def evAssign (x : Operand) : Q (AV × List Put) :=
  match x with
  | .tmp t => .slot t fun v =>
    match v with
    | .view r hs lo len e => if hs.isEmpty then absorb false (.view r hs lo len e) else .ret (.view r hs lo len e, [])
    | .ref r hs i c => if r == t then absorb false (.ref r hs i c) else .ret (.ref r hs i c, [])
    | .mref r hs => absorb false (.mref r hs)
    | .agg _ => take false (.tmp t)
    | v => .ret (v, [])
  | x => (opnd x).bind fun v => .ret (v, [])

/-- a temporary that holds several answers is taken whole. -/
def evMove (x : Operand) : Q (AV × List Put) :=
  match x with
  | .tmp t => .slot t fun v =>
    match v with
    | .gone => .deep t [] fun a =>
      match a with
      | .tup vs => if ownsL vs then .ret (.tup vs, [⟨t, [], .gone⟩]) else .ret (.tup vs, [])
      | _ => .ret (.gone, [])
    | v => .ret (v, [])
  | x => (opnd x).bind fun v => .ret (v, [])

def idx : AV → Q Int
  | .lit (.int _ n) => .ret n
  | _ => .fail

def room : Nat := 4294967296

def boundQ (d : Int) : Option AV → Q Int
  | some v => idx v
  | none => .ret d

/-- the bounds of a cut: from, to. -/
def sliceLoHi (n : Nat) (lo hi : Option AV) : Q (Nat × Nat) :=
  (boundQ n hi).bind fun h => (boundQ 0 lo).bind fun l => if 0 ≤ l ∧ l ≤ h ∧ h ≤ n then .ret (l.toNat, h.toNat) else .fail

def opt (x : Option Operand) : Q (Option AV) :=
  match x with
  | some o => (opnd o).bind fun v => .ret (some v)
  | none => .ret none

def TI.ok (ti : TI) : Bool := match ti.d with | .other => false | _ => true

/-- may it lie in one cell? -/
def AV.word : AV → Bool
  | .agg _ | .tup _ | .gone | .held => false
  | .lit x => x.oneCell'
  | _ => true

def AV.flat : AV → Bool
  | .agg _ => false
  | .tup _ => false
  | _ => true

def aggT (ti : TI) : Bool := match ti.d with | .struct _ | .array _ _ => true | _ => false

/-- parts laid into a row of cells. -/
def fillAt (cells : List AV) : List (Option (Nat × Nat) × AV) → Option (List AV)
  | [] => some cells
  | (some (off, n), v) :: rest =>
    if v.cellsOf.length = n ∧ off + n ≤ cells.length ∧ v.cellsOf.all AV.word then fillAt (cells.take off ++ v.cellsOf ++ cells.drop (off + n)) rest else none
  | (none, _) :: _ => none

def slcish : AV → Bool
  | .view .. | .slc .. => true
  | _ => false
def nilish : AV → Bool
  | .lit (.slice none _ _) => true
  | _ => false

def evLen (T : TypeId → TI) (t : TypeId) (v : AV) : Q (AV × List Put) :=
  match (T t).d with
  | .slice _ =>
    match v with
    | .view _ _ _ n _ => .ret (.lit (.int .i64 n), [])
    | .slc _ _ rows => .ret (.lit (.int .i64 rows.length), [])
    | .lit (.slice none n _) => .ret (.lit (.int .i64 n), [])
    | _ => .fail
  | .str =>
    match v with
    | .lit (.string s) => .ret (.lit (.int .i64 s.size), [])
    | _ => .fail
  | _ => .fail

def evSlice (T : TypeId → TI) (t : TypeId) (v : AV) (l h m : Option AV) : Q (AV × List Put) :=
  match (T t).d with
  | .slice el =>
    match m with
    | none =>
      match v with
      | .view r hs a n e => (sliceLoHi n l h).bind fun q => if e = (T el).size ∧ (T el).ok then .ret (.view r hs (a + q.1) (q.2 - q.1) e, []) else .fail
      | .slc o e rows => (sliceLoHi rows.length l h).bind fun q => if o = false ∧ e = (T el).size ∧ (T el).ok then .ret (.slc false e ((rows.drop q.1).take (q.2 - q.1)), []) else .fail
      | .lit (.slice none 0 0) => (sliceLoHi 0 l h).bind fun _ => if (T el).ok then .ret (.lit (.slice none 0 0), []) else .fail
      | _ => .fail
    | some mv => (idx mv).bind fun k =>
      match h with
      | some hv => (idx hv).bind fun j =>
        match l with
        | none => if k = 0 ∧ j = 0 ∧ 0 < (T el).size ∧ (T el).ok then (if slcish v then .ret (.slc true (T el).size [], []) else if nilish v then .ret (v, []) else .fail) else .fail
        | some _ => .fail
      | none => .fail
  | .str =>
    match v, m with
    | .lit (.string s), none => (sliceLoHi s.size l h).bind fun q => .ret (.lit (.string (s.extract q.1 q.2)), [])
    | _, _ => .fail
  | _ => .fail

/-- slices held against nil; else words. -/
def evBin (P : Program) (T : TypeId → TI) (op : BinOp) (t : TypeId) (x y : Operand) (a b : AV) : Q (AV × List Put) :=
  if (nilish a && (nilish b || slcish b)) || (slcish a && nilish b) then
    match (T t).d, op with
    | .slice _, .eql => .ret (.lit (.bool (nilish a && nilish b)), [])
    | .slice _, .neq => .ret (.lit (.bool !(nilish a && nilish b)), [])
    | _, _ => .fail
  else (asLit a).bind fun u => (asLit b).bind fun v => (ofS P (do Go.eqGuard op t x y u v; Go.binOp op t u v)).bind fun z => .ret (z, [])

/-- an operation's answer and writes; its own slot is not among them. 'pol': share what is stored; take the source's rows as they are. -/
def evOp (P : Program) (T : TypeId → TI) (pol : Bool) : Op → Q (AV × List Put)
  | .move x => evMove x
  | .assign x => evAssign x
  | .pick c a b => do
    let cv ← opnd c
    match cv with
    | .lit (.bool t) => do let v ← opnd (if t then a else b); pure (v, [])
    | _ => .fail
  | .alloc t => do
    guardQ (decide (0 < (T t).size) && (T t).ok)
    pure (.box true ((T t).zero.map .lit), [])
  | .box t x => do
    let (v, ps) ← take pol x
    guardQ (v.cellsOf.length == (T t).size && decide (0 < (T t).size) && v.cellsOf.all AV.word && (T t).ok)
    pure (.box true v.cellsOf, ps)
  | .load t a => do
    let v ← opnd a
    let (r, hs, i, c) ← asRef v
    guardQ (T t).ok
    .cells r hs i c (T t).size fun l =>
      if aggT (T t) then .ret (.agg l, []) else match l with | [x] => .ret (x, []) | _ => .fail
  | .store t a x => (opnd a).bind fun u => (asRef u).bind fun q => (take pol x).bind fun y =>
    if y.1.cellsOf.length = (T t).size ∧ y.1.cellsOf.all AV.word ∧ (T t).ok ∧ (y.2.all fun p => !(p.r == q.1 && Hops.through p.hs q.2.1)) then
      .ret (.lit (.tuple #[]), y.2 ++ y.1.cellsOf.zipIdx.map fun z => ⟨q.1, q.2.1 ++ [(q.2.2.1, q.2.2.2 + z.2)], z.1⟩)
    else .fail
  | .nilCheck x => do
    let v ← opnd x
    match v with
    | .ref r hs i c => pure (.ref r hs i c, [])
    | .clo f cs => pure (.clo f cs, [])
    | _ => .fail
  | .binOp op t x y _ => (opnd x).bind fun a => (opnd y).bind fun b => evBin P T op t x y a b
  | .unOp op _ x => do
    let a ← opnd x
    let a ← asLit a
    let v ← ofS P (Op.unary op a)
    pure (v, [])
  | .convert s d x => do
    let a ← opnd x
    let a ← asLit a
    let v ← ofS P (Go.convert s d a)
    pure (v, [])
  | .makeSlice t l c => (opnd l).bind fun x => (idx x).bind fun n => (opnd c).bind fun y => (idx y).bind fun m =>
    match (T t).d with
    | .slice el =>
      if 0 ≤ n ∧ n ≤ m ∧ m * (T el).bytes ≤ (room : Int) ∧ (0 < (T el).size ∧ 0 < (T el).bytes) ∧ (T el).ok then
        .ret (.slc true (T el).size (List.replicate n.toNat ((T el).zero.map .lit)), [])
      else .fail
    | _ => .fail
  | .slice t x lo hi mx => (opnd x).bind fun v => (opt lo).bind fun l => (opt hi).bind fun h => (opt mx).bind fun m => evSlice T t v l h m
  | .fieldAddr s x f => (opnd x).bind fun v => (asRef v).bind fun q =>
    match (T s).d with
    | .struct fs =>
      match fs[f]? with
      | some ft => if 0 < (T ft.2).size ∧ (T ft.2).ok then .ret (.ref q.1 q.2.1 q.2.2.1 (q.2.2.2 + ft.1), []) else .fail
      | none => .fail
    | _ => .fail
  | .field s x f => (opnd x).bind fun v =>
    match (T s).d with
    | .struct fs =>
      match v with
      | .agg cs =>
        match fs[f]? with
        | some ft =>
          if ft.1 + (T ft.2).size ≤ cs.length ∧ (T ft.2).ok then
            (if aggT (T ft.2) then .ret (.agg ((cs.drop ft.1).take (T ft.2).size), []) else
              match cs[ft.1]? with
              | some y => .ret (y, [])
              | none => .fail)
          else .fail
        | none => .fail
      | _ => .fail
    | _ => .fail
  | .indexAddr t x i => (opnd x).bind fun v => (opnd i).bind fun j => (idx j).bind fun n =>
    match (T t).d with
    | .slice el =>
      match v with
      | .view r hs lo len e => if 0 ≤ n ∧ n < (len : Int) ∧ e = (T el).size ∧ (T el).ok then .ret (.ref r hs (lo + n.toNat) 0, []) else .fail
      | .slc _ e rows =>
        match x with
        | .tmp s => if 0 ≤ n ∧ n < (rows.length : Int) ∧ e = (T el).size ∧ (T el).ok then .ret (.ref s [] n.toNat 0, []) else .fail
        | _ => .fail
      | _ => .fail
    | .array len el =>
      match v with
      | .ref r hs a c => if 0 ≤ n ∧ n < (len : Int) ∧ (T el).ok then .ret (.ref r hs a (c + n.toNat * (T el).size), []) else .fail
      | _ => .fail
    | _ => .fail
  | .index t x i => (opnd x).bind fun v => (opnd i).bind fun j => (idx j).bind fun n =>
    match (T t).d with
    | .array len el =>
      match v with
      | .agg cs =>
        if 0 ≤ n ∧ n < (len : Int) ∧ (T el).size = 1 ∧ (T el).ok ∧ aggT (T el) = false then
          match cs[n.toNat]? with
          | some y => .ret (y, [])
          | none => .fail
        else .fail
      | _ => .fail
    | .str =>
      match v with
      | .lit (.string s) =>
        if 0 ≤ n then
          match s[n.toNat]? with
          | some b => .ret (.lit (.int .u8 b.toNat), [])
          | none => .fail
        else .fail
      | _ => .fail
    | _ => .fail
  | .extract t j =>
    match t with
    | .tmp s => .deep s [] fun
        | .tup vs =>
          match vs[j]? with
          | some v => if v.free2 then (if v.owns then .ret (v, [⟨s, [], .tup (vs.set j .gone)⟩]) else .ret (v, [])) else .fail
          | none => .fail
        | _ => .fail
    | _ => .fail
  | .makeFunc fn first caps =>
    match fn with
    | .func f => if first = #[] ∧ caps = #[] then .ret (.clo f [], []) else .fail
    | _ => .fail
  | .call c =>
    match c.callee with
    | .builtin .len =>
      match c.args.toList, c.argTypes.toList with
      | [x], [t] => (opnd x).bind fun v => evLen T t v
      | _, _ => .fail
    | .builtin .min =>
      match c.args.toList with
      | [x, y] => (opnd x).bind fun a => (opnd y).bind fun b => (asLit a).bind fun a => (asLit b).bind fun b => (ofS P (Builtin.min2 a b)).bind fun z => .ret (z, [])
      | _ => .fail
    | .builtin .max =>
      match c.args.toList with
      | [x, y] => (opnd x).bind fun a => (opnd y).bind fun b => (asLit a).bind fun a => (asLit b).bind fun b => (ofS P (Builtin.max2 a b)).bind fun z => .ret (z, [])
      | _ => .fail
    | _ => .fail
  | _ => .fail

/-- operations that take several things, one after the other. -/
inductive M (α : Type) where
  | ret (a : α)
  | fail
  | step (q : Q (AV × List Put)) (k : AV → M α)

def M.run {α : Type} : M α → Slots → Option (α × Slots)
  | .ret a, σ => some (a, σ)
  | .fail, _ => none
  | .step q k, σ => (q.run σ).bind fun r => (putAll r.2 σ).bind fun σ₁ => (k r.1).run σ₁

def takesM (pol : Bool) : List Operand → (List AV → M AV) → M AV
  | [], k => k []
  | x :: xs, k => .step (take pol x) fun v => takesM pol xs fun l => k (v :: l)

/-- what a literal of a struct, of an array, of a slice comes to. -/
def evBuild (T : TypeId → TI) (t : TypeId) (l : List (Nat × AV)) : M AV :=
  match (T t).d with
  | .struct fs =>
    match fillAt ((T t).zero.map .lit) (l.map fun x => ((fs[x.1]?).map fun f => (f.1, (T f.2).size), x.2)) with
    | some cs => if (fs.all fun f => (T f.2).ok) && cs.all AV.free && (T t).ok then .ret (.agg cs) else .fail
    | none => .fail
  | .array _ e =>
    match fillAt ((T t).zero.map .lit) (l.map fun x => (some (x.1 * (T e).size, (T e).size), x.2)) with
    | some cs => if (T e).ok && cs.all AV.free && (T t).ok then .ret (.agg cs) else .fail
    | none => .fail
  | _ => .fail

def evBuildSlice (T : TypeId → TI) (t : TypeId) (n : Nat) (l : List (Nat × AV)) : M AV :=
  match (T t).d with
  | .slice el =>
    if l.map (·.1) = List.range n ∧ (l.all fun x => x.2.cellsOf.length == (T el).size && x.2.cellsOf.all AV.word) ∧ 0 < (T el).size ∧ n * (T el).size ≤ 1000000 ∧ (T el).ok
    then .ret (.slc true (T el).size (l.map fun x => x.2.cellsOf)) else .fail
  | _ => .fail

def wordRows (rows : List (List AV)) : Bool := rows.all (·.all AV.word)
def bareRows (rows : List (List AV)) : Bool := rows.all (·.all fun c => !c.owns)

/-- the rows that a source of an append or a copy has; 'move': they are taken. -/
def srcQ (move : Bool) (e : Nat) (x : Operand) : Q (AV × List Put) := (opnd x).bind fun v =>
  match v with
  | .lit (.slice none _ _) => .ret (.slc false e [], [])
  | .slc o e' rows => if o = false ∧ e' = e ∧ wordRows rows then .ret (.slc false e rows, []) else .fail
  | .view r hs lo len _ => .deep r hs fun v =>
      match v with
      | .slc o e' rows =>
        if o = true ∧ e' = e ∧ wordRows ((rows.drop lo).take len) then
          (if move then .ret (.slc true e ((rows.drop lo).take len), [⟨r, hs, .dead⟩])
           else if bareRows ((rows.drop lo).take len) then .ret (.slc false e ((rows.drop lo).take len), []) else .fail)
        else .fail
      | _ => .fail
  | .lit (.string s) => if e = 1 then .ret (.slc false 1 (s.data.toList.map fun b => [.lit (.int .u8 b.toNat)]), []) else .fail
  | _ => .fail

def appendTo (ti : TI) (s x : AV) : M AV :=
  match x with
  | .slc _ _ new =>
    match s with
    | .lit (.slice none 0 0) =>
      if new.isEmpty then .ret (.lit (.slice none 0 0))
      else if new.length * ti.bytes ≤ room ∧ 0 < ti.bytes then .ret (.slc true ti.size new) else .fail
    | .slc o e old => if o = true ∧ e = ti.size ∧ (old.length + new.length) * ti.bytes ≤ room ∧ 0 < ti.bytes then .ret (.slc true e (old ++ new)) else .fail
    | _ => .fail
  | _ => .fail

def srcT (T : TypeId → TI) (t : TypeId) : Bool := match (T t).d with | .slice _ => true | .str => true | _ => false

def evAppend (T : TypeId → TI) (move : Bool) (t t' : TypeId) (s x : Operand) : M AV :=
  match (T t).d with
  | .slice el =>
    if srcT T t' ∧ 0 < (T el).size ∧ (T el).ok then
      .step ((opnd s).bind fun v => absorb false v) fun a => .step (srcQ move (T el).size x) fun b => appendTo (T el) a b
    else .fail
  | _ => .fail

def isAppend (o : Op) : Option (TypeId × TypeId × Operand × Operand) :=
  match o with
  | .call { callee := .builtin .append, args, argTypes, .. } =>
    match args.toList, argTypes.toList with
    | [s, x], [t, t'] => some (t, t', s, x)
    | _, _ => none
  | _ => none

def evM (P : Program) (T : TypeId → TI) (pol : Bool) (op : Op) : M AV :=
  match op with
  | .build t parts => takesM pol (parts.toList.map (·.2)) fun l => evBuild T t ((parts.toList.map (·.1)).zip l)
  | .buildSlice t n parts => takesM pol (parts.toList.map (·.2)) fun l => evBuildSlice T t n ((parts.toList.map (·.1)).zip l)
  | op =>
    match isAppend op with
    | some (t, t', s, x) => evAppend T (!pol) t t' s x
    | none => .step (evOp P T pol op) .ret

end Go.V
