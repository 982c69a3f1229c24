/- The abstract machine: a heap of numbered blocks, the operations on it, and the evaluator of the model's code over it (definitions alone).
   The evaluator of the model's code over the abstract heap, in the style of continuations (definitions alone).
   The relation between the abstract machine and the model's worlds, and what the operations on memory do to it.
   The relation of an abstract heap to a world, and that reads, writes and new blocks keep it.
   The operations of the model do what the abstract machine says: the plain ones, loads, stores, new variables.
   The operations, further: stores, new variables, addresses, parts. -/
import Derived.WalkKit
import Derived.Deep.AppendSrc
import Derived.Deep.MidRow
namespace Go.Arm

/-! ## a finite map by a trie -/
inductive Tr (α : Type) where
  | leaf : Tr α
  | node : Tr α → Option α → Tr α → Tr α

def Tr.get {α : Type} : Tr α → Nat → Option α
  | .leaf, _ => none
  | .node l v r, i => match i with
    | 0 => v
    | i + 1 => if i % 2 = 0 then l.get (i / 2) else r.get (i / 2)

def Tr.set {α : Type} : Nat → Tr α → Nat → Option α → Tr α
  | 0, t, _, _ => t
  | f + 1, .leaf, i, x => match i with
    | 0 => .node .leaf x .leaf
    | i + 1 => if i % 2 = 0 then .node (Tr.set f .leaf (i / 2) x) none .leaf else .node .leaf none (Tr.set f .leaf (i / 2) x)
  | f + 1, .node l v r, i, x => match i with
    | 0 => .node l x r
    | i + 1 => if i % 2 = 0 then .node (Tr.set f l (i / 2) x) v r else .node l v (Tr.set f r (i / 2) x)

/-! ## blocks, heaps -/
inductive Blk where
  /-- cells of an element type; may they be written; may what is appended lie behind them in place -/
  | cells (cs : List Value) (elem : TypeId) (own : Bool) (loose : Bool)
  | map (es : List MapEntry) (clock : Nat)
  /-- a range over a function that is under way: whose, which, what its body takes -/
  | loop (f r : Nat) (vals : List Value)
  /-- a number that is set aside for a block that is not made yet -/
  | hole

structure H where
  tr : Tr Blk
  next : Nat

def H.get (h : H) (b : Nat) : Option Blk := if b < h.next then h.tr.get b else none
def H.put (h : H) (b : Nat) (x : Option Blk) : H := ⟨Tr.set (b + 1) h.tr b x, h.next⟩
/-- a new block, under the next number -/
def H.new (h : H) (x : Blk) : H := ⟨Tr.set (h.next + 1) h.tr h.next (some x), h.next + 1⟩
/-- a number is set aside -/
def H.skip (h : H) : H := ⟨Tr.set (h.next + 1) h.tr h.next none, h.next + 1⟩

/-! ## values -/
abbrev ptr (b o : Nat) : Value := .pointer (some ⟨b, o, none⟩)
abbrev junk : Value := .tuple #[]

def asI (k : IntKind) : Value → Option Int
  | .int k' n => if k' = k then some n else none
  | _ => none
def asB : Value → Option Bool
  | .bool b => some b
  | _ => none
def asS : Value → Option ByteArray
  | .string s => some s
  | _ => none
def asP : Value → Option (Nat × Nat)
  | .pointer (some ⟨b, o, none⟩) => some (b, o)
  | _ => none

/-- one cell, no aggregate -/
def one : Value → Bool
  | .agg _ | .tuple _ => false
  | _ => true

/-- a value without addresses (of a scalar kind) -/
def lit : Value → Bool
  | .bool _ | .int .. | .float .. | .complex .. | .string _ => true
  | _ => false

/-- a constant: nothing in it leads to memory -/
def closed : Value → Bool
  | .bool _ | .int .. | .float .. | .complex .. | .string _ | .pointer none | .slice none 0 0 | .map none | .nilFunc | .nilIface => true
  | .agg cs => cs.toList.all fun v => match v with
    | .bool _ | .int .. | .float .. | .complex .. | .string _ | .pointer none | .slice none 0 0 | .map none | .nilFunc | .nilIface => true
    | _ => false
  | .func (.func _) a b => a.isEmpty && b.isEmpty
  | .tuple cs => cs.toList.all fun v => match v with
    | .bool _ | .int .. | .float .. | .complex .. | .string _ | .pointer none | .slice none 0 0 | .map none | .nilFunc | .nilIface => true
    | .agg ds => ds.toList.all fun u => match u with
      | .bool _ | .int .. | .float .. | .complex .. | .string _ | .pointer none | .slice none 0 0 | .map none | .nilFunc | .nilIface => true
      | _ => false
    | _ => false
  | _ => false

/-- bytes as they are printed -/
def bs (l : List Nat) : ByteArray := ⟨⟨l.map UInt8.ofNat⟩⟩

/-! ## memory -/
def cellAt (h : H) (b o : Nat) : Option Value :=
  match h.get b with
  | some (.cells cs _ _ _) => cs[o]?
  | _ => none

def ldI (k : IntKind) (h : H) (b o : Nat) : Option Int := (cellAt h b o).bind (asI k)
def ldB (h : H) (b o : Nat) : Option Bool := (cellAt h b o).bind asB
def ldS (h : H) (b o : Nat) : Option ByteArray := (cellAt h b o).bind asS
def ldV (h : H) (b o : Nat) : Option Value := (cellAt h b o).bind fun v => if one v then some v else none

/-- cells from a place on -/
def cellsAt (h : H) (b o n : Nat) : Option (List Value) :=
  match h.get b with
  | some (.cells cs _ _ _) => if o + n ≤ cs.length then some ((cs.drop o).take n) else none
  | _ => none
def ldA (n : Nat) (h : H) (b o : Nat) : Option Value := (cellsAt h b o n).map fun l => .agg ⟨l⟩

def setAt : List Value → Nat → List Value → List Value
  | cs, _, [] => cs
  | cs, o, v :: vs => setAt (cs.set o v) (o + 1) vs

/-- cells are written -/
def stC (h : H) (b o : Nat) (vs : List Value) : Option H :=
  match h.get b with
  | some (.cells cs e true l) => if o + vs.length ≤ cs.length && vs.all one then some (h.put b (some (.cells (setAt cs o vs) e true l))) else none
  | _ => none
def stV (size : Nat) (h : H) (b o : Nat) (v : Value) : Option H :=
  if v.cells.size = size then stC h b o v.cells.toList else none

/-- cells, all of them such as lie in memory -/
def oneL (vs : List Value) : Option (List Value) := if vs.all one then some vs else none

/-! ## slices -/
def lenV : Value → Option Nat
  | .slice _ n _ => some n
  | _ => none
def capV : Value → Option Nat
  | .slice _ _ c => some c
  | _ => none
/-- the place of an element -/
def idx (esz : Nat) : Value → Int → Option (Nat × Nat)
  | .slice (some ⟨b, o, none⟩) n _, i => if 0 ≤ i ∧ i < n then some (b, o + i.toNat * esz) else none
  | _, _ => none
/-- what is loose is of the type that is asked -/
def okE (h : H) (b : Nat) (e : TypeId) : Bool :=
  match h.get b with
  | some (.cells _ e' _ loose) => !loose || e' == e
  | _ => false
/-- x[l:h], x[l:h:m] -/
def slV (e : TypeId) (esz : Nat) (hp : H) (x : Value) (lo : Option Int) (hi : Option Int) (mx : Option Int) : Option Value :=
  match x with
  | .slice none 0 0 => if (lo.getD 0 = 0 ∧ hi.getD 0 = 0 ∧ mx.getD 0 = 0) then some (.slice none 0 0) else none
  | .slice (some ⟨b, o, none⟩) n c =>
    let l := lo.getD 0
    let h := hi.getD n
    let m := mx.getD c
    if 0 ≤ l ∧ l ≤ h ∧ h ≤ m ∧ m ≤ c ∧ (decide (l = 0) || mx.isSome || okE hp b e) = true then some (.slice (some ⟨b, o + l.toNat * esz, none⟩) (h - l).toNat (m - l).toNat) else none
  | _ => none
def slS (s : ByteArray) (lo : Option Int) (hi : Option Int) : Option ByteArray :=
  let l := lo.getD 0
  let h := hi.getD s.size
  if 0 ≤ l ∧ l ≤ h ∧ h ≤ s.size then some (s.extract l.toNat h.toNat) else none
def byteAt (s : ByteArray) (i : Int) : Option Int :=
  if 0 ≤ i then (s[i.toNat]?).map fun b => (b.toNat : Int) else none

/-- the cells of what is appended or copied -/
def srcC (esz : Nat) (h : H) : Value → Option (Nat × List Value)
  | .slice none 0 0 => some (0, [])
  | .slice (some ⟨b, o, none⟩) n _ => (cellsAt h b o (n * esz)).map fun l => (n, l)
  | .string s => if esz = 1 then some (s.size, s.data.toList.map fun b => .int .u8 b.toNat) else none
  | _ => none

def roomy : Nat := 2 ^ 40

/-- append: in place within the known capacity, else a new block (and what was open behind is closed) -/
def appA (esz bytes : Nat) (e : TypeId) (h : H) (s x : Value) : Option (Value × H) :=
  (srcC esz h x).bind fun (m, new) =>
  match s with
  | .slice none 0 0 =>
    if m = 0 then some (s, h)
    else if m * (bytes + 1) ≤ roomy && new.all one && esz ≠ 0 then some (.slice (some ⟨h.next, 0, none⟩) m m, h.new (.cells new e true true)) else none
  | .slice (some ⟨b, o, none⟩) n c =>
    if n + m ≤ c then (if m = 0 then some (s, h) else (stC h b (o + n * esz) new).map fun h' => (.slice (some ⟨b, o, none⟩) (n + m) c, h'))
    else if ¬ ((n + m) * (bytes + 1) ≤ roomy ∧ esz ≠ 0 ∧ new.all one = true) then none
    else match h.get b with
      | some (.cells cs e' own loose) =>
        if o + n * esz ≤ cs.length ∧ e' = e then
          let vs := (cs.drop o).take (n * esz) ++ new
          if loose = true ∧ o + c * esz = cs.length then
            if own then some (.slice (some ⟨h.next, 0, none⟩) (n + m) (n + m), (h.put b none).new (.cells vs e true true)) else none
          else some (.slice (some ⟨h.next, 0, none⟩) (n + m) (n + m), h.new (.cells vs e true true))
        else none
      | _ => none
  | _ => none

def copyA (esz : Nat) (h : H) (d s : Value) : Option (Int × H) :=
  (lenV d).bind fun dn => (srcC esz h s).bind fun (m, l) =>
    let n := Nat.min m dn
    match d with
    | .slice none 0 0 => some (0, h)
    | .slice (some ⟨b, o, none⟩) _ _ => if n = 0 then some (0, h) else (stC h b o (l.take (n * esz))).map fun h' => ((n : Int), h')
    | _ => none

def rep (n : Nat) (z : List Value) : List Value := (List.range n).flatMap fun _ => z

def mkS (bytes : Nat) (e : TypeId) (zero : List Value) (h : H) (l c : Int) : Option (Value × H) :=
  if 0 ≤ l ∧ l ≤ c ∧ c * (bytes + 1) ≤ roomy then
    if zero.all one then some (.slice (some ⟨h.next, 0, none⟩) l.toNat c.toNat, h.new (.cells (rep c.toNat zero) e true false)) else none
  else none

def bytesOfCells : List Value → Option (List UInt8)
  | [] => some []
  | .int .u8 n :: l => (bytesOfCells l).map fun r => UInt8.ofNat n.toNat :: r
  | _ => none
/-- string(b) -/
def strOf (h : H) : Value → Option ByteArray
  | .slice none 0 0 => some ByteArray.empty
  | .slice (some ⟨b, o, none⟩) n _ => ((cellsAt h b o n).bind bytesOfCells).map fun l => ⟨⟨l⟩⟩
  | _ => none
/-- []byte(s) -/
def bytesOf (e : TypeId) (h : H) (s : ByteArray) : Option (Value × H) :=
  if s.size ≤ roomy then some (.slice (some ⟨h.next, 0, none⟩) s.size s.size, h.new (.cells (s.data.toList.map fun b => .int .u8 b.toNat) e true true)) else none

/-! ## equality of cells -/
def feq (k : FloatKind) (a b : Nat) : Bool := Op.floatEq k a b
def eq1 : Value → Value → Option Bool
  | .bool a, .bool b => some (a == b)
  | .int k a, .int k' b => if k = k' then some (a == b) else none
  | .float k a, .float k' b => if k = k' then some (feq k a b) else none
  | .complex k a b, .complex k' c d => if k = k' then some (feq k a c && feq k b d) else none
  | .string a, .string b => some (a == b)
  | _, _ => none
/-- is it nil? of an address, a slice, a map, a function, an interface value -/
def nilT : Nat → Value → Option Bool
  | 0, .pointer a => some a.isNone
  | 1, .slice a _ _ => some a.isNone
  | 2, .map a => some a.isNone
  | 3, .nilFunc => some true
  | 3, .func .. => some false
  | 4, .nilIface => some true
  | 4, .iface .. => some false
  | _, _ => none

/-! ## maps -/
def mapOf (h : H) : Value → Option (Nat × List MapEntry × Nat)
  | .map (some r) => match h.get r with
    | some (.map es clock) => some (r, es, clock)
    | _ => none
  | _ => none
def entSt (h : H) (m : Value) (stamp : Int) (v : Value) : Option H :=
  (mapOf h m).bind fun (r, es, clock) => (es.findIdx? fun e => (e.born : Int) == stamp).map fun i =>
    h.put r (some (.map (es.modify i fun e => { e with val := v }) clock))
def lenM (h : H) (m : Value) : Option Nat :=
  match m with
  | .map none => some 0
  | _ => (mapOf h m).map fun (_, es, _) => es.length
def clrM (h : H) (m : Value) : Option H :=
  match m with
  | .map none => some h
  | _ => (mapOf h m).map fun (r, _, clock) => h.put r (some (.map [] clock))

/-! ## whole numbers -/
def iand (k : IntKind) (x y : Int) : Int := k.wrap ((BitVec.ofInt k.bits x &&& BitVec.ofInt k.bits y).toNat : Int)
def ior (k : IntKind) (x y : Int) : Int := k.wrap ((BitVec.ofInt k.bits x ||| BitVec.ofInt k.bits y).toNat : Int)
def ixor (k : IntKind) (x y : Int) : Int := k.wrap ((BitVec.ofInt k.bits x ^^^ BitVec.ofInt k.bits y).toNat : Int)
def iandn (k : IntKind) (x y : Int) : Int := k.wrap ((BitVec.ofInt k.bits x &&& ~~~ (BitVec.ofInt k.bits y)).toNat : Int)
def ishl (k : IntKind) (x y : Int) : Int := k.wrap (x * 2 ^ (min y.toNat k.bits))
def ishr (k : IntKind) (x y : Int) : Int := x.fdiv (2 ^ (min y.toNat k.bits))
def inot (k : IntKind) (n : Int) : Int := ixor k (if k.signed then -1 else k.max) n
def f2i (k : IntKind) : Value → Option Int
  | .float s b => match (s.decode b).toInt .zero with
    | some n => if k.min ≤ n ∧ n ≤ k.max then some n else none
    | none => none
  | _ => none

/-- what a computation without memory comes to -/
def pure? {α : Type} : Sem α → Option α
  | .pure a => some a
  | _ => none
/-- floats and complex numbers -/
def fop (op : BinOp) (x y : Value) : Option Value :=
  match x, y with
  | .float .., .float .. | .complex .., .complex .. => (pure? (Go.binOp op 0 x y)).bind fun v => if lit v then some v else none
  | _, _ => none
def fneg (x : Value) : Option Value :=
  match x with
  | .float .. | .complex .. => (pure? (Op.unary .neg x)).bind fun v => if lit v then some v else none
  | _ => none
def realV : Value → Option Value
  | .complex k re _ => some (.float k re)
  | _ => none
def imagV : Value → Option Value
  | .complex k _ im => some (.float k im)
  | _ => none
def cplxV : Value → Value → Option Value
  | .float k a, .float k' b => if k = k' then some (.complex k a b) else none
  | _, _ => none
def seq (a b : ByteArray) : Bool := a.toList == b.toList
def slt (a b : ByteArray) : Bool := Op.bytesLess a.toList b.toList

/-- a part of an aggregate -/
def partV (agg : Bool) (off size : Nat) : Value → Option Value
  | .agg cs => if agg then (if off + size ≤ cs.toList.length then some (.agg ⟨(cs.toList.drop off).take size⟩) else none) else cs.toList[off]?
  | _ => none

end Go.Arm
namespace Go.Arm

/-! ## types -/
inductive Ty where
  | bool | int (k : IntKind) | float | complex | string
  | ptr | slice (e : Nat) | array (n e : Nat) | map (k e : Nat)
  /-- of each field: its offset, its type -/
  | struct (fs : List (Nat × Nat))
  | func | iface | tuple (ts : List Nat) | other

/-- a type: its cells, its bytes, its zero value's cells, what it is; may it be compared; may it be a map's key -/
structure TI where
  size : Nat
  bytes : Nat
  zero : List Value
  ty : Ty
  eq : Bool
  key : Bool

inductive Ex where
  | normal | exit (id : Nat) | goto (l : Nat) | ret
instance : DecidableEq Ex
  | .normal, .normal => isTrue rfl
  | .ret, .ret => isTrue rfl
  | .exit a, .exit b => if h : a = b then isTrue (congrArg Ex.exit h) else isFalse fun e => h (Ex.exit.inj e)
  | .goto a, .goto b => if h : a = b then isTrue (congrArg Ex.goto h) else isFalse fun e => h (Ex.goto.inj e)
  | .normal, .exit _ => isFalse nofun
  | .normal, .goto _ => isFalse nofun
  | .normal, .ret => isFalse nofun
  | .exit _, .normal => isFalse nofun
  | .exit _, .goto _ => isFalse nofun
  | .exit _, .ret => isFalse nofun
  | .goto _, .normal => isFalse nofun
  | .goto _, .exit _ => isFalse nofun
  | .goto _, .ret => isFalse nofun
  | .ret, .normal => isFalse nofun
  | .ret, .exit _ => isFalse nofun
  | .ret, .goto _ => isFalse nofun

/-- a loop: the slots that it takes, and for each way out which, and the slots that it leaves. A slot stands with its kind: 0 for an address, 1 for whatever, else the type's number and 2. -/
structure LoopAnn where
  live : List (Nat × Nat)
  outs : List (Ex × List (Nat × Nat))
/-- of a function: the slots that are kept where ways meet, by the number of the region that stands next; its loops, by that of their first region -/
structure Ann where
  masks : Tr (List Nat)
  loops : Tr LoopAnn

abbrev CF := Nat → List Value → H → Option (Value × H)
abbrev LF := Nat → Nat → List Value → H → Option (Nat × List Value × H)

structure Env where
  tys : Tr TI
  fns : Tr Func
  sums : Tr (List Value → H → Option (Value × H))
  anns : Tr Ann
  /-- how many package-level variables are known -/
  ng : Nat

/-! ## slots -/
def lget : List Value → Nat → Value
  | [], _ => junk
  | v :: _, 0 => v
  | _ :: l, n + 1 => lget l n

variable {R : Type}

def plainT : Ty → Bool
  | .tuple _ | .other => false
  | _ => true

/-- a type's zero value -/
def zeroV (i : TI) : Value :=
  match i.ty, i.zero with
  | .struct _, z => .agg ⟨z⟩
  | .array .., z => .agg ⟨z⟩
  | _, [z] => z
  | _, _ => junk

/-- a value of a scalar type in its own form -/
def src1 (E : Env) (t : Nat) (v : Value) (K : Value → Option R) : Option R :=
  match E.tys.get t with
  | some i => match i.ty with
    | .int k => (asI k v).bind fun n => K (.int k n)
    | .bool => (asB v).bind fun b => K (.bool b)
    | .string => (asS v).bind fun s => K (.string s)
    | _ => K v
  | none => none
def tup : Value → Option (List Value)
  | .tuple vs => some vs.toList
  | _ => none
def tup2 : Value → Option (Value × Value)
  | .tuple ⟨[a, b]⟩ => some (a, b)
  | _ => none
def tup3 : Value → Option (Value × Value × Value)
  | .tuple ⟨[a, b, c]⟩ => some (a, b, c)
  | _ => none
def src (E : Env) (t : Nat) (v : Value) (K : Value → Option R) : Option R :=
  match E.tys.get t with
  | some i => match i.ty with
    | .tuple [a, b] => (tup2 v).bind fun p => src1 E a p.1 fun x => src1 E b p.2 fun y => K (.tuple #[x, y])
    | .tuple [a, b, c] => (tup3 v).bind fun p => src1 E a p.1 fun x => src1 E b p.2.1 fun y => src1 E c p.2.2 fun z => K (.tuple #[x, y, z])
    | _ => src1 E t v K
  | none => none

def srcL (E : Env) : List (Option Nat) → List Value → Nat → List Value → (List Value → Option R) → Option R
  | [], _, _, acc, K => K acc.reverse
  | some t :: ts, vs, i, acc, K => src1 E t (lget vs i) fun v' => srcL E ts vs (i + 1) (v' :: acc) K
  | none :: ts, vs, i, acc, K => srcL E ts vs (i + 1) (lget vs i :: acc) K

/-! ## more on slots -/
def lset : List Value → Nat → Value → List Value
  | [], _, _ => []
  | _ :: l, 0, v => v :: l
  | x :: l, n + 1, v => x :: lset l n v
def putD (tm : List Value) : Option Tmp → Value → List Value
  | some d, v => lset tm d v
  | none, _ => tm
def opv (E : Env) (tm : List Value) : Operand → Value
  | .tmp t => lget tm t
  | .const v => if closed v then v else junk
  | .global g => if g < E.ng then ptr g 0 else junk
  | .func f => .func (.func f) #[] #[]
def keep (live : List Nat) : List Value → Nat → List Value
  | [], _ => []
  | v :: l, i => (if live.elem i then v else junk) :: keep live l (i + 1)

/-! ## equality by type, maps -/
def isAggT : Ty → Bool
  | .struct _ | .array .. => true
  | _ => false
/-- a part of a type -/
def partT (E : Env) (t off : Nat) (v : Value) : Option Value :=
  match E.tys.get t with
  | some i => partV (isAggT i.ty) off i.size v
  | none => none
def eqT (E : Env) : Nat → Nat → Value → Value → Option Bool
  | 0, _, _, _ => none
  | f + 1, t, x, y => match E.tys.get t with
    | some i => match i.ty, x, y with
      | .bool, .bool a, .bool b => some (a == b)
      | .int _, .int k a, .int k' b => if k = k' then some (a == b) else none
      | .float, .float k a, .float k' b => if k = k' then some (feq k a b) else none
      | .complex, .complex k a b, .complex k' c d => if k = k' then some (feq k a c && feq k b d) else none
      | .string, .string a, .string b => some (seq a b)
      | .struct fs, .agg xs, .agg ys => if i.eq then
          fs.foldr (fun p acc => ((partT E p.2 p.1 (.agg xs)).bind fun u => (partT E p.2 p.1 (.agg ys)).bind fun v => eqT E f p.2 u v).bind fun b => acc.map fun c => b && c) (some true)
        else none
      | .array n e, .agg xs, .agg ys => if i.eq then match E.tys.get e with
          | some j => (List.range n).foldr (fun k acc => ((partT E e (k * j.size) (.agg xs)).bind fun u => (partT E e (k * j.size) (.agg ys)).bind fun v => eqT E f e u v).bind fun b => acc.map fun c => b && c) (some true)
          | none => none
        else none
      | _, _, _ => none
    | none => none
def findE (E : Env) (kt : Nat) (k : Value) : List MapEntry → Nat → Option (Option (Nat × MapEntry))
  | [], _ => some none
  | e :: es, i => (eqT E 8 kt k e.key).bind fun b => if b then some (some (i, e)) else findE E kt k es (i + 1)
/-- a key of plain cells -/
def litK : Value → Bool
  | .agg cs => cs.toList.all lit
  | v => lit v
def keyV (E : Env) (kt : Nat) (k : Value) : Bool := litK k && (eqT E 8 kt k k).isSome
/-- equality of values, as far as it is asked -/
def veq1 : Value → Value → Bool
  | .bool a, .bool b => a == b
  | .int k a, .int k' b => decide (k = k') && a == b
  | .float k a, .float k' b => decide (k = k') && a == b
  | .complex k a b, .complex k' c d => decide (k = k') && a == c && b == d
  | .string a, .string b => decide (a = b)
  | .pointer a, .pointer b => decide (a = b)
  | .slice a n c, .slice b m d => decide (a = b) && n == m && c == d
  | .map a, .map b => decide (a = b)
  | .nilFunc, .nilFunc => true
  | .nilIface, .nilIface => true
  | .func (.func f) a b, .func (.func g) c d => f == g && a.isEmpty && b.isEmpty && c.isEmpty && d.isEmpty
  | _, _ => false
def veqL : List Value → List Value → Bool
  | [], [] => true
  | x :: xs, y :: ys => veq1 x y && veqL xs ys
  | _, _ => false
def veq : Value → Value → Bool
  | .agg a, .agg b => veqL a.toList b.toList
  | .tuple a, .tuple b => veqL a.toList b.toList
  | x, y => veq1 x y
def lookM (E : Env) (kt : Nat) (h : H) (m k : Value) : Option (Option Value) :=
  if keyV E kt k then
    match m with
    | .map none => some none
    | _ => (mapOf h m).bind fun p => (findE E kt k p.2.1 0).map fun r => r.map fun q => q.2.val
  else none
def setM (E : Env) (kt : Nat) (h : H) (m k v : Value) : Option H :=
  if keyV E kt k then
    (mapOf h m).bind fun p => (findE E kt k p.2.1 0).bind fun x => match x with
      | some (i, e) => if veq k e.key then some (h.put p.1 (some (.map (p.2.1.modify i fun e => { e with key := k, val := v }) p.2.2))) else none
      | none => some (h.put p.1 (some (.map (p.2.1 ++ [{ key := k, val := v, born := p.2.2 }]) (p.2.2 + 1))))
  else none
/-- the entry of a key, made where there is none: its value, its stamp -/
def entM (E : Env) (kt : Nat) (h : H) (m k zero : Value) : Option (Value × Int × H) :=
  if keyV E kt k then
    (mapOf h m).bind fun p => (findE E kt k p.2.1 0).bind fun x => match x with
      | some (i, e) => if veq k e.key then some (e.val, (e.born : Int), h.put p.1 (some (.map (p.2.1.modify i fun e => { e with key := k }) p.2.2))) else none
      | none => some (zero, (p.2.2 : Int), h.put p.1 (some (.map (p.2.1 ++ [{ key := k, val := zero, born := p.2.2 }]) (p.2.2 + 1))))
  else none
def delM (E : Env) (kt : Nat) (h : H) (m k : Value) : Option H :=
  if keyV E kt k then
    match m with
    | .map none => some h
    | _ => (mapOf h m).bind fun p => (findE E kt k p.2.1 0).map fun x => match x with
      | some (i, _) => h.put p.1 (some (.map (p.2.1.eraseIdx i) p.2.2))
      | none => h.put p.1 (some (.map p.2.1 p.2.2))
  else none

/-! ## operations -/
def binI (op : BinOp) (k : IntKind) (x y : Int) (K : Value → Option R) : Option R :=
  match op with
  | .add => K (.int k (k.wrap (x + y)))
  | .sub => K (.int k (k.wrap (x - y)))
  | .mul => K (.int k (k.wrap (x * y)))
  | .quo => cond (decide (y = 0)) none (K (.int k (k.wrap (x.tdiv y))))
  | .rem => cond (decide (y = 0)) none (K (.int k (x.tmod y)))
  | .and => K (.int k (iand k x y))
  | .or => K (.int k (ior k x y))
  | .xor => K (.int k (ixor k x y))
  | .andNot => K (.int k (iandn k x y))
  | .shl => cond (decide (y < 0)) none (K (.int k (ishl k x y)))
  | .shr => cond (decide (y < 0)) none (K (.int k (ishr k x y)))
  | .eql => K (.bool (x == y))
  | .neq => K (.bool (x != y))
  | .lss => K (.bool (decide (x < y)))
  | .leq => K (.bool (decide (x ≤ y)))
  | .gtr => K (.bool (decide (x > y)))
  | .geq => K (.bool (decide (x ≥ y)))
def isShift : BinOp → Bool
  | .shl | .shr => true
  | _ => false
def isNilC (k : Nat) : Operand → Bool
  | .const v => match nilT k v with
    | some b => b && closed v
    | none => false
  | _ => false
def nilK (E : Env) (k : Nat) (op : BinOp) (x y : Operand) (tm : List Value) (K : Value → Option R) : Option R :=
  if isNilC k y then (nilT k (opv E tm x)).bind fun b => match op with
    | .eql => K (.bool b)
    | .neq => K (.bool (!b))
    | _ => none
  else if isNilC k x then (nilT k (opv E tm y)).bind fun b => match op with
    | .eql => K (.bool b)
    | .neq => K (.bool (!b))
    | _ => none
  else none

def binK (E : Env) (op : BinOp) (xt : Nat) (x y : Operand) (tm : List Value) (K : Value → Option R) : Option R :=
  match E.tys.get xt with
  | none => none
  | some i => match i.ty with
    | .int k => match opv E tm x, opv E tm y with
      | .int k1 a, .int k2 b => if k1 = k ∧ (isShift op = true ∨ k2 = k) then binI op k a b K else none
      | _, _ => none
    | .bool => match opv E tm x, opv E tm y with
      | .bool a, .bool b => match op with
        | .eql => K (.bool (a == b))
        | .neq => K (.bool (!(a == b)))
        | _ => none
      | _, _ => none
    | .string => match opv E tm x, opv E tm y with
      | .string a, .string b => match op with
        | .add => cond (decide (roomy < a.size + b.size)) none (K (.string (a ++ b)))
        | .eql => K (.bool (seq a b))
        | .neq => K (.bool (!(seq a b)))
        | .lss => K (.bool (slt a b))
        | .leq => K (.bool (slt a b || seq a b))
        | .gtr => K (.bool (!(slt a b || seq a b)))
        | .geq => K (.bool (!(slt a b)))
        | _ => none
      | _, _ => none
    | .float | .complex => (fop op (opv E tm x) (opv E tm y)).bind fun v => match op with
      | .add | .sub | .mul | .quo => K v
      | _ => (asB v).bind fun b => K (.bool b)
    | .struct _ | .array .. => (eqT E 8 xt (opv E tm x) (opv E tm y)).bind fun b => match op with
      | .eql => K (.bool b)
      | .neq => K (.bool (!b))
      | _ => none
    | .ptr => nilK E 0 op x y tm K
    | .slice _ => nilK E 1 op x y tm K
    | .map .. => nilK E 2 op x y tm K
    | .func => nilK E 3 op x y tm K
    | .iface => nilK E 4 op x y tm K
    | _ => none

def unK (E : Env) (op : UnOp) (t : Nat) (x : Operand) (tm : List Value) (K : Value → Option R) : Option R :=
  match E.tys.get t with
  | none => none
  | some i => match i.ty, op, opv E tm x with
    | .int k, .neg, .int k1 n => if k1 = k then K (.int k (k.wrap (0 - n))) else none
    | .int k, .xor, .int k1 n => if k1 = k then K (.int k (inot k n)) else none
    | .bool, .not, .bool b => K (.bool (!b))
    | .float, .neg, v => (fneg v).bind K
    | .complex, .neg, v => (fneg v).bind K
    | _, _, _ => none

/-- is a type a slice of bytes? -/
def isBytes (E : Env) (t : Nat) : Option Nat :=
  match E.tys.get t with
  | some { ty := .slice e, .. } => match E.tys.get e with
    | some { ty := .int .u8, .. } => some e
    | _ => none
  | _ => none

def convK (E : Env) (s d : Nat) (x : Operand) (tm : List Value) (h : H) (K : Value → H → Option R) : Option R :=
  match E.tys.get s, E.tys.get d with
  | some i, some j => match i.ty, j.ty with
    | .int _, .int k => match opv E tm x with
      | .int _ n => K (.int k (k.wrap n)) h
      | _ => none
    | .int _, .float => match opv E tm x with
      | .int _ n => if j.bytes = 8 then K (.float .f64 (FloatKind.f64.nearest n)) h else none
      | _ => none
    | .float, .int k => (f2i k (opv E tm x)).bind fun n => K (.int k n) h
    | .string, .string => (asS (opv E tm x)).bind fun s => K (.string s) h
    | .slice _, .string => match isBytes E s with
      | some _ => (strOf h (opv E tm x)).bind fun r => K (.string r) h
      | none => none
    | .string, .slice _ => match isBytes E d, opv E tm x with
      | some e, .string r => (bytesOf e h r).bind fun p => K p.1 p.2
      | _, _ => none
    | _, _ => none
  | _, _ => none

/-- the cells of a struct or an array with parts -/
def placesF (E : Env) : List (Nat × Nat) → Option (List (Nat × Nat))
  | [] => some []
  | p :: l => match E.tys.get p.2 with
    | some i => (placesF E l).map fun r => (p.1, i.size) :: r
    | none => none
def places (E : Env) (t : Nat) : Option (List (Nat × Nat)) :=
  match E.tys.get t with
  | some { ty := .struct fs, .. } => placesF E fs
  | some { ty := .array n e, .. } => match E.tys.get e with
    | some i => some ((List.range n).map fun k => (k * i.size, i.size))
    | none => none
  | _ => none
def fillL (pl : List (Nat × Nat)) (cells : List Value) : List (Nat × Value) → Option (List Value)
  | [] => some cells
  | (i, v) :: rest => match pl[i]? with
    | some (off, size) => if v.cells.size = size ∧ off + size ≤ cells.length ∧ v.cells.toList.all one = true then fillL pl (setAt cells off v.cells.toList) rest else none
    | none => none
def bldT (E : Env) (t : Nat) (parts : List (Nat × Value)) : Option Value :=
  match E.tys.get t, places E t with
  | some i, some pl => (fillL pl i.zero parts).map fun l => .agg ⟨l⟩
  | _, _ => none
def bldS (E : Env) (t len : Nat) (parts : List (Nat × Value)) : Option (List Value) :=
  match E.tys.get t with
  | some { ty := .slice e, .. } => match E.tys.get e with
    | some i => if len * i.size ≤ 2 ^ 20 ∧ i.zero.isEmpty = false then
        (fillL ((List.range len).map fun k => (k * i.size, i.size)) (rep len i.zero) parts).bind fun l => if l.all one then some l else none
      else none
    | none => none
  | _ => none

def optI (E : Env) (tm : List Value) : Option Operand → Option (Option Int)
  | none => some none
  | some x => match opv E tm x with
    | .int _ n => some (some n)
    | _ => none

def optM (E : Env) (tm : List Value) (hi : Option Operand) : Option Operand → Option (Option Int)
  | none => some none
  | some x => match hi with
    | none => none
    | some _ => optI E tm (some x)

/-- the slice of an array's memory -/
def slP (esz n b o : Nat) (lo hi mx : Option Int) : Option Value :=
  let l := lo.getD 0
  let h := hi.getD n
  let m := mx.getD n
  if 0 ≤ l ∧ l ≤ h ∧ h ≤ m ∧ m ≤ n then some (.slice (some ⟨b, o + l.toNat * esz, none⟩) (h - l).toNat (m - l).toNat) else none

/-- may a type's value be appended? -/
def srcT (E : Env) (u : Nat) : Bool :=
  match E.tys.get u with
  | some { ty := .slice _, .. } => true
  | some { ty := .string, .. } => true
  | _ => false

def biK (E : Env) (b : Builtin) (args : List Operand) (ts : List Nat) (rt : Nat) (tm : List Value) (h : H) (K : Value → H → Option R) : Option R :=
  match b, args, ts with
  | .len, [x], [t] => match E.tys.get t with
    | some i => match i.ty with
      | .string => match opv E tm x with
        | .string s => K (.int .i64 (s.size : Nat)) h
        | _ => none
      | .array n _ => K (.int .i64 (n : Nat)) h
      | .slice _ => (lenV (opv E tm x)).bind fun n => K (.int .i64 (n : Nat)) h
      | .map .. => (lenM h (opv E tm x)).bind fun n => K (.int .i64 (n : Nat)) h
      | _ => none
    | none => none
  | .append, [s, x], [t, u] => match E.tys.get t with
    | some { ty := .slice e, .. } => match E.tys.get e with
      | some i => if srcT E u = false then none else (appA i.size i.bytes e h (opv E tm s) (opv E tm x)).bind fun p => K p.1 p.2
      | none => none
    | _ => none
  | .copy, [d, s], t :: _ => match E.tys.get t with
    | some { ty := .slice e, .. } => match E.tys.get e with
      | some i => (copyA i.size h (opv E tm d) (opv E tm s)).bind fun p => K (.int .i64 p.1) p.2
      | none => none
    | _ => none
  | .real, [x], _ => (realV (opv E tm x)).bind fun v => K v h
  | .imag, [x], _ => (imagV (opv E tm x)).bind fun v => K v h
  | .complex, [x, y], _ => (cplxV (opv E tm x) (opv E tm y)).bind fun v => K v h
  | .max, [x, y], _ => match opv E tm x, opv E tm y with
    | .int k a, .int _ c => K (.int k (cond (decide (c > a)) c a)) h
    | _, _ => none
  | .min, [x, y], _ => match opv E tm x, opv E tm y with
    | .int k a, .int _ c => K (.int k (cond (decide (c < a)) c a)) h
    | _, _ => none
  | .delete, [m, k], t :: _ => match E.tys.get t with
    | some { ty := .map kt _, .. } => (delM E kt h (opv E tm m) (opv E tm k)).bind fun h' => K junk h'
    | _ => none
  | .clear, [m], [t] => match E.tys.get t with
    | some { ty := .map .., .. } => (clrM h (opv E tm m)).bind fun h' => K junk h'
    | _ => none
  | _, _, _ => let _ := rt; none

/-- the key of a range over a function -/
def rngKey : Nat := 2000000
/-- a round of a range over a function -/
def yieldV (L : LF) (l : Nat) (args : List Value) (h : H) : Option (Value × H) :=
  match h.get l with
  | some (.loop f r vals) => (L f (rngKey + r) (vals ++ args) (h.put l (some .hole))).bind fun p =>
      if p.1 = 0 then some (.bool true, p.2.2.put l (some (.loop f r vals))) else none
  | _ => none
/-- a call of a function value -/
def callV (C : CF) (L : LF) (f : Value) (args : List Value) (h : H) : Option (Value × H) :=
  match f with
  | .func (.func g) a b => C g (a.toList ++ args ++ b.toList) h
  | .func (.yield l) ⟨[]⟩ ⟨[]⟩ => yieldV L l args h
  | _ => none

def stepK (E : Env) (C : CF) (L : LF) (o : Oper) (tm : List Value) (h : H) (K : Value → H → Option R) : Option R :=
  match o.op with
  | .move x | .assign x => K (opv E tm x) h
  | .pick c a b => match opv E tm c with
    | .bool t => cond t (K (opv E tm a) h) (K (opv E tm b) h)
    | _ => none
  | .alloc e => match E.tys.get e with
    | some i => if i.zero.all one && !i.zero.isEmpty then K (ptr h.next 0) (h.new (.cells i.zero e true false)) else none
    | none => none
  | .box e x => match E.tys.get e with
    | some i => match i.ty with
      | .struct _ | .array .. => (oneL (opv E tm x).cells.toList).bind fun l => K (ptr h.next 0) (h.new (.cells l e true false))
      | _ => cond (one (opv E tm x)) (K (ptr h.next 0) (h.new (.cells [opv E tm x] e true false))) none
    | none => none
  | .build t ps => (bldT E t (ps.toList.map fun p => (p.1, opv E tm p.2))).bind fun v => K v h
  | .buildSlice t n ps => match E.tys.get t with
    | some { ty := .slice e, .. } => (bldS E t n (ps.toList.map fun p => (p.1, opv E tm p.2))).bind fun l => K (.slice (some ⟨h.next, 0, none⟩) n n) (h.new (.cells l e true false))
    | _ => none
  | .load t a => (asP (opv E tm a)).bind fun p => match E.tys.get t with
    | some i => match i.ty with
      | .int k => (ldI k h p.1 p.2).bind fun n => K (.int k n) h
      | .bool => (ldB h p.1 p.2).bind fun b => K (.bool b) h
      | .string => (ldS h p.1 p.2).bind fun s => K (.string s) h
      | .struct _ | .array .. => (ldA i.size h p.1 p.2).bind fun v => K v h
      | .other => none
      | _ => (ldV h p.1 p.2).bind fun v => K v h
    | none => none
  | .store t a x => (asP (opv E tm a)).bind fun p => match E.tys.get t with
    | some i => (stV i.size h p.1 p.2 (opv E tm x)).bind fun h' => K junk h'
    | none => none
  | .nilCheck x => (asP (opv E tm x)).bind fun p => K (ptr p.1 p.2) h
  | .binOp op xt x y _ => binK E op xt x y tm fun v => K v h
  | .unOp op t x => unK E op t x tm fun v => K v h
  | .convert s d x => convK E s d x tm h K
  | .makeInterface t x => match E.tys.get t with
    | some i => match i.ty with
      | .iface => none
      | _ => K (.iface t (opv E tm x)) h
    | none => none
  | .makeFunc fn a b => match fn with
    | .func f => K (.func (.func f) ⟨a.toList.map (opv E tm)⟩ ⟨b.toList.map (opv E tm)⟩) h
    | _ => none
  | .makeMap t r => match E.tys.get t with
    | some { ty := .map .., .. } => match r with
      | none => K (.map (some h.next)) (h.new (.map [] 0))
      | some x => match opv E tm x with
        | .int _ _ => K (.map (some h.next)) (h.new (.map [] 0))
        | _ => none
    | _ => none
  | .makeSlice t l c => match E.tys.get t, opv E tm l, opv E tm c with
    | some { ty := .slice e, .. }, .int _ a, .int _ b => match E.tys.get e with
      | some i => if i.zero.isEmpty = false then (mkS i.bytes e i.zero h a b).bind fun p => K p.1 p.2 else none
      | none => none
    | _, _, _ => none
  | .slice t x lo hi mx => match E.tys.get t, optI E tm lo, optI E tm hi, optM E tm hi mx with
    | some i, some l, some r, some m => match i.ty with
      | .string => match opv E tm x with
        | .string s => match mx with
          | none => (slS s l r).bind fun s' => K (.string s') h
          | some _ => none
        | _ => none
      | .slice e => match E.tys.get e with
        | some j => (slV e j.size h (opv E tm x) l r m).bind fun v => K v h
        | none => none
      | .array n e => match E.tys.get e with
        | some j => (asP (opv E tm x)).bind fun p => (slP j.size n p.1 p.2 l r m).bind fun v => K v h
        | none => none
      | _ => none
    | _, _, _, _ => none
  | .fieldAddr t x f => match E.tys.get t with
    | some { ty := .struct fs, .. } => match fs[f]? with
      | some (off, ft) => match E.tys.get ft with
        | some i => if i.size = 0 then none else (asP (opv E tm x)).bind fun p => K (ptr p.1 (p.2 + off)) h
        | none => none
      | none => none
    | _ => none
  | .field t x f => match E.tys.get t with
    | some { ty := .struct fs, .. } => match fs[f]? with
      | some (off, ft) => match E.tys.get ft with
        | some i => (partV (match i.ty with | .struct _ | .array .. => true | _ => false) off i.size (opv E tm x)).bind fun v => src1 E ft v fun v' => K v' h
        | none => none
      | none => none
    | _ => none
  | .indexAddr t x ix => match E.tys.get t, opv E tm ix with
    | some i, .int _ j => match i.ty with
      | .array n e => match E.tys.get e with
        | some q => (asP (opv E tm x)).bind fun p => cond (decide (0 ≤ j) && decide (j < (n : Nat))) (K (ptr p.1 (p.2 + j.toNat * q.size)) h) none
        | none => none
      | .slice e => match E.tys.get e with
        | some q => (idx q.size (opv E tm x) j).bind fun p => K (ptr p.1 p.2) h
        | none => none
      | _ => none
    | _, _ => none
  | .index t x ix => match E.tys.get t, opv E tm ix with
    | some i, .int _ j => match i.ty with
      | .string => match opv E tm x with
        | .string s => (byteAt s j).bind fun n => K (.int .u8 n) h
        | _ => none
      | .array n e => match E.tys.get e with
        | some q => cond (decide (0 ≤ j) && decide (j < (n : Nat))) ((partV (match q.ty with | .struct _ | .array .. => true | _ => false) (j.toNat * q.size) q.size (opv E tm x)).bind fun v => src1 E e v fun v' => K v' h) none
        | none => none
      | _ => none
    | _, _ => none
  | .lookup t x ix ok => match E.tys.get t with
    | some { ty := .map kt e, .. } => match E.tys.get e with
      | some i => if plainT i.ty = false then none else (lookM E kt h (opv E tm x) (opv E tm ix)).bind fun r =>
        src1 E e (r.getD (zeroV i)) fun v => if ok then K (.tuple #[v, .bool r.isSome]) h else K v h
      | none => none
    | _ => none
  | .mapUpdate t m k x | .insert t m k x => match E.tys.get t with
    | some { ty := .map kt _, .. } => (setM E kt h (opv E tm m) (opv E tm k) (opv E tm x)).bind fun h' => K junk h'
    | _ => none
  | .mapEntry t m k => match E.tys.get t with
    | some { ty := .map kt e, .. } => match E.tys.get e with
      | some i => if plainT i.ty = false then none else (entM E kt h (opv E tm m) (opv E tm k) (zeroV i)).bind fun p =>
        src1 E e p.1 fun v => K (.tuple #[v, .int .i64 p.2.1]) p.2.2
      | none => none
    | _ => none
  | .entryStore _ m s x => match opv E tm s with
    | .int _ n => (entSt h (opv E tm m) n (opv E tm x)).bind fun h' => K junk h'
    | _ => none
  | .extract x i => match opv E tm x with
    | .tuple vs => match vs.toList[i]? with
      | some v => K v h
      | none => none
    | _ => none
  | .call c => match c.callee with
    | .builtin b => biK E b c.args.toList c.argTypes.toList o.type tm h K
    | .value f => (callV C L (opv E tm f) (c.args.toList.map (opv E tm)) h).bind fun p => src E o.type p.1 fun v => K v p.2
    | .invoke .. => none
  | _ => none

/-- a block that floats -/
def floatK (E : Env) (o : Oper) (id : Nat) (tm : List Value) (K : Value → Blk → Option R) : Option R :=
  match o.op with
  | .alloc e => match E.tys.get e with
    | some i => if i.zero.all one && !i.zero.isEmpty then K (ptr id 0) (.cells i.zero e true false) else none
    | none => none
  | .box e x => match E.tys.get e with
    | some i => match i.ty with
      | .struct _ | .array .. => (oneL (opv E tm x).cells.toList).bind fun l => K (ptr id 0) (.cells l e true false)
      | _ => cond (one (opv E tm x)) (K (ptr id 0) (.cells [opv E tm x] e true false)) none
    | none => none
  | .buildSlice t n ps => match E.tys.get t with
    | some { ty := .slice e, .. } => (bldS E t n (ps.toList.map fun p => (p.1, opv E tm p.2))).bind fun l => K (.slice (some ⟨id, 0, none⟩) n n) (.cells l e true false)
    | _ => none
  | _ => none

/-! ## regions -/
/-- the slot of a guard's operation -/
def gslot (all : List Oper) (j : Nat) : Option Tmp := (all[j]?).bind (·.dst)
/-- up to the pick on a slot, with it -/
def cutPick (g : Tmp) : List Oper → Option (List Oper × Tmp × List Oper)
  | [] => none
  | o :: r => match o.op, o.dst with
    | .pick (.tmp c) _ _, some d => if c = g then some ([o], d, r) else (cutPick g r).map fun p => (o :: p.1, p.2.1, p.2.2)
    | _, _ => (cutPick g r).map fun p => (o :: p.1, p.2.1, p.2.2)
def dropD : List Oper → List Value → List Value
  | [], tm => tm
  | o :: r, tm => dropD r (putD tm o.dst junk)

/-- what is known of the slots of guards: which value; none: surely unset -/
def setKn (kn : List (Tmp × Option Bool)) : Option Tmp → List (Tmp × Option Bool)
  | some d => kn.filter fun p => !(p.1 == d)
  | none => kn
def offKn (kn : List (Tmp × Option Bool)) : Option Tmp → List (Tmp × Option Bool)
  | some d => (d, none) :: setKn kn (some d)
  | none => kn
def dropKn : List Oper → List (Tmp × Option Bool) → List (Tmp × Option Bool)
  | [], kn => kn
  | o :: r, kn => dropKn r (setKn kn o.dst)

def opsK (E : Env) (C : CF) (L : LF) (all : List Oper) : Nat → {R : Type} → List Oper → List (Tmp × Option Bool) → List Value → H → (List Value → H → Option R) → Option R
  | 0, _, _, _, _, _, _ => none
  | _ + 1, _, [], _, tm, h, K => K tm h
  | f + 1, R, o :: rest, kn, tm, h, K =>
    match o.guard with
    | none => stepK E C L o tm h fun v h' => opsK E C L all f (R := R) rest (setKn kn o.dst) (putD tm o.dst v) h' K
    | some (j, want) => match gslot all j with
      | none => none
      | some g => match kn.lookup g with
        | some (some b) => if b == want then stepK E C L o tm h fun v h' => opsK E C L all f (R := R) rest (setKn kn o.dst) (putD tm o.dst v) h' K
          else opsK E C L all f (R := R) rest (offKn kn o.dst) (putD tm o.dst junk) h K
        | some none => opsK E C L all f (R := R) rest (offKn kn o.dst) (putD tm o.dst junk) h K
        | none => match cutPick g (o :: rest), lget tm g with
          | some (grp, d, after), .bool b =>
            (cond b
              (opsK E C L all f (R := Bool × H) grp ((g, some true) :: kn) (lset tm g (.bool true)) h fun tm' h' => (asB (lget tm' d)).bind fun r => some (r, h'))
              (opsK E C L all f (R := Bool × H) grp ((g, some false) :: kn) (lset tm g (.bool false)) h fun tm' h' => (asB (lget tm' d)).bind fun r => some (r, h'))).bind fun p =>
                opsK E C L all f (R := R) after (dropKn grp kn) (lset (dropD grp tm) d (.bool p.1)) p.2 K
          | _, _ => none

/-- what an operation is: 0 nothing with memory, 1 it reads, 2 it makes a block that floats, 3 it acts -/
def cls : Op → Nat
  | .load .. | .lookup .. => 1
  | .convert .. => 1
  | .slice .. => 1
  | .alloc _ | .box .. | .buildSlice .. => 2
  | .call { callee := .builtin b, .. } => match b with
    | .len => 1
    | .real | .imag | .complex | .max | .min => 0
    | _ => 3
  | .move _ | .assign _ | .pick .. | .nilCheck _ | .binOp .. | .unOp .. | .build .. | .makeInterface .. | .makeFunc .. | .fieldAddr .. | .field .. | .indexAddr .. | .index .. | .extract .. => 0
  | _ => 3

/-- before masks of a region -/
def befMask (acc : List Nat) (o : Oper) : Nat :=
  o.after.toList.foldl (fun s e => match e.ground with
    | .textOnly _ => s
    | .gcOnly _ => s
    | _ => s ||| 2 ^ e.on ||| acc.getD e.on 0) 0
def befsGo : List Oper → List Nat → List Nat
  | [], acc => acc
  | o :: r, acc => befsGo r (acc ++ [befMask acc o])
def befs (all : List Oper) : List Nat := befsGo all []
/-- the slots that an operation looks at or writes -/
def tmpOf : Operand → Option Tmp
  | .tmp t => some t
  | _ => none
def looks (o : Oper) : List Tmp := o.op.operands.toList.filterMap tmpOf
def clash (o p : Oper) : Bool :=
  (match o.dst with
   | some d => p.dst == some d || (looks p).elem d
   | none => false) ||
  (match p.dst with
   | some d => (looks o).elem d
   | none => false)
def tmpsOk : List Oper → List Nat → List Oper → Nat → Bool
  | [], _, _, _ => true
  | o :: r, bf, prev, j => decide (bf.getD j 0 < 2 ^ j) && (prev.zipIdx.all fun p => (bf.getD j 0).testBit p.2 || !clash o p.1) && tmpsOk r bf (prev ++ [o]) (j + 1)
def effs : List Oper → Nat → List Nat
  | [], _ => []
  | o :: r, i => if cls o.op = 3 then i :: effs r (i + 1) else effs r (i + 1)
def chain (bf : List Nat) : List Nat → Bool
  | a :: b :: r => (bf.getD b 0).testBit a && chain bf (b :: r)
  | _ => true
def guardsOk (all : List Oper) (bf : List Nat) : List Oper → Nat → Bool
  | [], _ => true
  | o :: r, i => (match o.guard with
    | none => true
    | some (j, _) => (bf.getD i 0).testBit j && (match gslot all j with
      | some g => (all.filter fun p => p.dst == some g).length == 1
      | none => false)) && guardsOk all bf r (i + 1)
/-- how many blocks that float stand ahead -/
def fnum (all : List Oper) (i : Nat) : Nat := ((all.take i).filter fun o => cls o.op == 2).length
/-- numbers are set aside -/
def holes : Nat → H → H
  | 0, h => h
  | n + 1, h => holes n (h.new .hole)
/-- a region that draws its order may be gone through in the text's order -/
def drawOk (all : List Oper) : Bool :=
  let bf := befs all
  chain bf (effs all 0) && tmpsOk all bf [] 0 && guardsOk all bf all 0

structure DrawSt where
  /-- heaps behind 0, 1, .. acts, the last one first -/
  hist : List H
  /-- floats that are not laid yet: the operation, its number, its block -/
  flo : List (Nat × Nat × Blk)
  /-- reads that are to be held again behind later acts: up to how many acts, in which heap, is it the same -/
  again : List (Nat × (H → Option Bool))

def layF (m : Nat) (all : Bool) : List (Nat × Nat × Blk) → H → H × List (Nat × Nat × Blk)
  | [], h => (h, [])
  | (i, id, b) :: r, h => if all || m.testBit i then layF m all r (h.put id (some b)) else
      let p := layF m all r h
      (p.1, (i, id, b) :: p.2)
def chk (n : Nat) (h : H) (K : Option R) : List (Nat × (H → Option Bool)) → Option R
  | [] => K
  | (m, f) :: r => if n ≤ m then (f h).bind fun b => cond b (chk n h K r) none else chk n h K r
def chkH (f : H → Option Bool) (K : Option R) : List H → Option R
  | [] => K
  | h :: r => (f h).bind fun b => cond b (chkH f K r) none

/-- it reads, and makes nothing -/
def readOk (E : Env) (o : Oper) : Bool :=
  match o.op with
  | .convert _ d _ => match E.tys.get d with
    | some { ty := .slice _, .. } => false
    | some _ => true
    | none => false
  | _ => true

def drawK (E : Env) (C : CF) (L : LF) (all : List Oper) (bf ef : List Nat) (base : Nat) : List Oper → Nat → List (Tmp × Option Bool) → List Value → H → DrawSt → (List Value → H → Option R) → Option R
  | [], _, _, tm, h, st, K => K tm (layF 0 true st.flo h).1
  | o :: rest, i, kn, tm, h, st, K =>
    let go (kn : List (Tmp × Option Bool)) (tm : List Value) : Option R :=
      match cls o.op with
      | 0 => stepK E C L o tm h fun v h' => drawK E C L all bf ef base rest (i + 1) (setKn kn o.dst) (putD tm o.dst v) h' st K
      | 1 => if readOk E o = false then none else stepK E C L o tm h fun v _ =>
        let f : H → Option Bool := fun g => stepK E C L o tm g fun v' _ => some (veq v v')
        let lo := (ef.filter fun e => (bf.getD i 0).testBit e).length
        let hi := (ef.filter fun e => !(bf.getD e 0).testBit i).length
        let k0 := (ef.filter fun e => e < i).length
        chkH f (drawK E C L all bf ef base rest (i + 1) (setKn kn o.dst) (putD tm o.dst v) h { st with again := if k0 < hi then (hi, f) :: st.again else st.again } K) (st.hist.take (k0 - lo))
      | 2 => floatK E o (base + fnum all i) tm fun v b => drawK E C L all bf ef base rest (i + 1) (setKn kn o.dst) (putD tm o.dst v) h { st with flo := st.flo ++ [(i, base + fnum all i, b)] } K
      | _ =>
        let p := layF (bf.getD i 0) false st.flo h
        stepK E C L o tm p.1 fun v h' =>
          let k := (ef.filter fun e => e < i).length + 1
          chk k h' (drawK E C L all bf ef base rest (i + 1) (setKn kn o.dst) (putD tm o.dst v) h' { st with hist := h :: st.hist, flo := p.2 } K) st.again
    let skip (kn : List (Tmp × Option Bool)) (tm : List Value) : Option R := drawK E C L all bf ef base rest (i + 1) (offKn kn o.dst) (putD tm o.dst junk) h st K
    match o.guard with
    | none => go kn tm
    | some (j, want) => match gslot all j with
      | none => none
      | some g => match kn.lookup g with
        | some (some b) => if b == want then go kn tm else skip kn tm
        | some none => skip kn tm
        | none => match lget tm g with
          | .bool b => cond b
              (if want then go ((g, some true) :: kn) (lset tm g (.bool true)) else skip ((g, some true) :: kn) (lset tm g (.bool true)))
              (if want then skip ((g, some false) :: kn) (lset tm g (.bool false)) else go ((g, some false) :: kn) (lset tm g (.bool false)))
          | _ => none

/-! ## code -/
/-- the number of the region that stands first -/
def first : Code → Option Nat
  | .region id _ _ => some id
  | .seq a _ => first a
  | .block _ b => first b
  | .loop b => first b
  | .scope b => first b
  | _ => none
def maskAt (A : Ann) (c : Code) (tm : List Value) : List Value :=
  match (first c).bind A.masks.get with
  | some live => keep live tm 0
  | none => tm


/-- a slot's value in its own form -/
def canon1 (E : Env) (kd : Nat) (v : Value) (K : Value → Option R) : Option R :=
  match kd with
  | 0 => (asP v).bind fun p => K (ptr p.1 p.2)
  | 1 => K v
  | t + 2 => src1 E t v K
def canonL (E : Env) : List (Nat × Nat) → List Value → Nat → List Value → (List Value → Option R) → Option R
  | [], _, _, acc, K => K acc.reverse
  | s :: ss, vs, i, acc, K => canon1 E s.2 (lget vs i) fun v' => canonL E ss vs (i + 1) (v' :: acc) K
def scatter (n : Nat) (ss : List (Nat × Nat)) (vs : List Value) : List Value :=
  (ss.zip vs).foldl (fun tm p => lset tm p.1.1 p.2) (List.replicate n junk)
def gather (ss : List (Nat × Nat)) (tm : List Value) : List Value := ss.map fun s => lget tm s.1

def dispK (E : Env) (len : Nat) : List (Ex × List (Nat × Nat)) → Nat → Nat → List Value → H → (Ex → List Value → H → Option R) → Option R
  | [], _, _, _, _, _ => none
  | [o], _, _, vs, h, K => canonL E o.2 vs 0 [] fun vs' => K o.1 (scatter len o.2 vs') h
  | o :: o' :: os, i, k, vs, h, K => cond (k == i) (canonL E o.2 vs 0 [] fun vs' => K o.1 (scatter len o.2 vs') h) (dispK E len (o' :: os) (i + 1) k vs h K)

/-- the key of what stands behind a label -/
def lblKey : Nat := 1000000
/-- is there no range over a function in it? -/
def noRange : Code → Bool
  | .seq a b => noRange a && noRange b
  | .cond _ a b => noRange a && noRange b
  | .block _ b => noRange b
  | .scope b => noRange b
  | .loop b => noRange b
  | .rangeFunc .. => false
  | _ => true
/-- a function is ranged over -/
def rngV (C : CF) (f : Value) (l : Nat) (h : H) : Option (Value × H) :=
  match f with
  | .func (.func q) a b => C q (a.toList ++ [.func (.yield l) #[] #[]] ++ b.toList) h
  | _ => none
def isLoop : Option Blk → Bool
  | some (.loop ..) => true
  | _ => false

def codeK (E : Env) (C : CF) (L : LF) (f : Nat) (A : Ann) : Code → {R : Type} → List Value → H → (Ex → List Value → H → Option R) → Option R
  | .skip, _, tm, h, K => K .normal tm h
  | .region _ ops draw, _, tm, h, K =>
    if draw then (if drawOk ops.toList then drawK E C L ops.toList (befs ops.toList) (effs ops.toList 0) h.next ops.toList 0 [] tm (holes (fnum ops.toList ops.toList.length) h) ⟨[], [], []⟩ fun tm' h' => K .normal tm' h' else none)
    else opsK E C L ops.toList (ops.toList.length + ops.toList.length + 2) ops.toList [] tm h fun tm' h' => K .normal tm' h'
  | .seq a b, R, tm, h, K => codeK E C L f A a (R := R) tm h fun ex tm' h' => match ex with
    | .normal => codeK E C L f A b (R := R) (match a with | .region .. => tm' | _ => maskAt A b tm') h' K
    | .exit i => K (.exit i) tm' h'
    | .goto l => K (.goto l) tm' h'
    | .ret => K .ret tm' h'
  | .cond c a b, R, tm, h, K => match opv E tm c with
    | .bool t => cond t (codeK E C L f A a (R := R) tm h K) (codeK E C L f A b (R := R) tm h K)
    | _ => none
  | .block id b, R, tm, h, K => codeK E C L f A b (R := R) tm h fun ex tm' h' => match ex with
    | .exit i => if i = id then K .normal tm' h' else K (.exit i) tm' h'
    | .normal => K .normal tm' h'
    | .goto l => K (.goto l) tm' h'
    | .ret => K .ret tm' h'
  | .loop b, _, tm, h, K => match (first b).bind A.loops.get, first b with
    | some la, some r => (L f r (gather la.live tm) h).bind fun p => dispK E tm.length la.outs 0 p.1 p.2.1 p.2.2 K
    | _, _ => none
  | .scope b, R, tm, h, K => codeK E C L f A b (R := R) tm h fun ex tm' h' => match ex with
    | .goto l => if (findLabel b l).isSome then (match A.loops.get (lblKey + l) with
        | some la => (L f (lblKey + l) (gather la.live tm') h').bind fun p => dispK E tm'.length la.outs 0 p.1 p.2.1 p.2.2 K
        | none => none) else K (.goto l) tm' h'
    | .normal => K .normal tm' h'
    | .exit i => K (.exit i) tm' h'
    | .ret => K .ret tm' h'
  | .rangeFunc g _ x y, _, tm, h, K => match first x with
    | some r => cond (noRange x && noRange y) ((rngV C (opv E tm g) h.next (h.new (.loop f r tm))).bind fun p =>
        cond (isLoop (p.2.get h.next)) (K .normal tm (p.2.put h.next none)) none) none
    | none => none
  | .exit id, _, tm, h, K => K (.exit id) tm h
  | .label _, _, tm, h, K => K .normal tm h
  | .goto l, _, tm, h, K => K (.goto l) tm h
  | .ret, _, tm, h, K => K .ret tm h
  | _, _, _, _, _ => none

/-- a result -/
def resV (E : Env) (tm : List Value) (h : H) : ResultVar → Option Value
  | .tmp t => some (lget tm t)
  | .cell a t => (asP (lget tm a)).bind fun p => match E.tys.get t with
      | some i => match i.ty with
        | .struct _ | .array .. => ldA i.size h p.1 p.2
        | .int k => (ldI k h p.1 p.2).map (.int k)
        | .bool => (ldB h p.1 p.2).map .bool
        | .string => (ldS h p.1 p.2).map .string
        | _ => ldV h p.1 p.2
      | none => none
/-- the results -/
def resK (E : Env) (fn : Func) (tm : List Value) (h : H) : Option (Value × H) :=
  match fn.results.toList with
  | [] => some (junk, h)
  | [r] => (resV E tm h r).bind fun v => some (v, h)
  | [r, s] => (resV E tm h r).bind fun v => (resV E tm h s).bind fun u => some (.tuple #[v, u], h)
  | [r, s, t] => (resV E tm h r).bind fun v => (resV E tm h s).bind fun u => (resV E tm h t).bind fun x => some (.tuple #[v, u, x], h)
  | _ => none

def noAnn : Ann := ⟨.leaf, .leaf⟩
def annOf (E : Env) (f : Nat) : Ann := match E.anns.get f with | some A => A | none => noAnn

def fnK (E : Env) (C : CF) (L : LF) (f : Nat) (fn : Func) (args : List Value) (h : H) : Option (Value × H) :=
  match fn.body with
  | none => none
  | some c => srcL E (fn.params.toList.map some ++ List.replicate fn.nfree none) args 0 [] fun vs =>
      codeK E C L f (annOf E f) c (R := Value × H) (vs ++ List.replicate (fn.ntmps - (fn.params.size + fn.nfree)) junk) h fun ex tm h' => match ex with
        | .normal => resK E fn tm h'
        | .ret => resK E fn tm h'
        | _ => none

/-- the loop that begins with a region -/
def findLoop (r : Nat) : Code → Option Code
  | .seq a b => (findLoop r a).orElse fun _ => findLoop r b
  | .cond _ a b => (findLoop r a).orElse fun _ => findLoop r b
  | .block _ b => findLoop r b
  | .scope b => findLoop r b
  | .loop b => if first b = some r then some b else findLoop r b
  | .rangeFunc _ _ a b => (findLoop r a).orElse fun _ => findLoop r b
  | _ => none
/-- the scope that holds a label -/
def findScope (l : Nat) : Code → Option Code
  | .seq a b => (findScope l a).orElse fun _ => findScope l b
  | .cond _ a b => (findScope l a).orElse fun _ => findScope l b
  | .block _ b => findScope l b
  | .scope b => if (findLabel b l).isSome then some b else findScope l b
  | .loop b => findScope l b
  | .rangeFunc _ _ a b => (findScope l a).orElse fun _ => findScope l b
  | _ => none
def outOf (ex : Ex) (tm : List Value) (h : H) : List (Ex × List (Nat × Nat)) → Nat → Option (Nat × List Value × H)
  | [], _ => none
  | o :: os, k => if o.1 = ex then some (k, gather o.2 tm, h) else outOf ex tm h os (k + 1)

def lpK (E : Env) (C : CF) (L : LF) (f r : Nat) (fn : Func) (b : Code) (la : LoopAnn) (args : List Value) (h : H) : Option (Nat × List Value × H) :=
  canonL E la.live args 0 [] fun vs =>
  codeK E C L f (annOf E f) b (R := Nat × List Value × H) (scatter fn.ntmps la.live vs) h fun ex tm h' => match ex with
    | .normal => L f r (gather la.live tm) h'
    | .exit i => outOf (.exit i) tm h' la.outs 0
    | .goto i => outOf (.goto i) tm h' la.outs 0
    | .ret => outOf .ret tm h' la.outs 0

/-- what stands behind a label, in its scope -/
def lbK (E : Env) (C : CF) (L : LF) (f : Nat) (fn : Func) (b rest : Code) (la : LoopAnn) (args : List Value) (h : H) : Option (Nat × List Value × H) :=
  canonL E la.live args 0 [] fun vs =>
  codeK E C L f (annOf E f) rest (R := Nat × List Value × H) (scatter fn.ntmps la.live vs) h fun ex tm h' => match ex with
    | .goto l => if (findLabel b l).isSome then (match (annOf E f).loops.get (lblKey + l) with
        | some lb => if lb.outs = la.outs then L f (lblKey + l) (gather lb.live tm) h' else none
        | none => none) else outOf (.goto l) tm h' la.outs 0
    | .normal => outOf .normal tm h' la.outs 0
    | .exit i => outOf (.exit i) tm h' la.outs 0
    | .ret => outOf .ret tm h' la.outs 0
/-- the range over a function that begins with a region -/
def findRange (r : Nat) : Code → Option (Array Tmp × Code × Code)
  | .seq a b => (findRange r a).orElse fun _ => findRange r b
  | .cond _ a b => (findRange r a).orElse fun _ => findRange r b
  | .block _ b => findRange r b
  | .scope b => findRange r b
  | .loop b => findRange r b
  | .rangeFunc _ ps x y => if first x = some r then some (ps, x, y) else (findRange r x).orElse fun _ => findRange r y
  | _ => none
def setP : List Tmp → List Value → List Value → List Value
  | p :: ps, x :: xs, tm => setP ps xs (lset tm p x)
  | _, _, tm => tm
def rdK (E : Env) (C : CF) (L : LF) (f : Nat) (fn : Func) (ps : Array Tmp) (x y : Code) (args : List Value) (h : H) : Option (Nat × List Value × H) :=
  cond (noRange x && noRange y && Nat.beq args.length (fn.ntmps + ps.size)) (
    codeK E C L f (annOf E f) x (R := Nat × List Value × H) (setP ps.toList ((List.range ps.size).map fun j => lget args (fn.ntmps + j)) ((List.range fn.ntmps).map (lget args))) h fun ex tm h' => match ex with
      | .normal => codeK E C L f (annOf E f) y (R := Nat × List Value × H) (maskAt (annOf E f) y tm) h' fun ex2 _ h2 => match ex2 with
        | .normal => some (0, [], h2)
        | _ => none
      | _ => none) none
/-- a loop, a label, a round -/
def lpN (E : Env) (C : CF) (L : LF) (f r : Nat) (fn : Func) (args : List Value) (h : H) : Option (Nat × List Value × H) :=
  match fn.body, (annOf E f).loops.get r with
  | some c, some la =>
    if r < lblKey then (findLoop r c).bind fun b => lpK E C L f r fn b la args h
    else (findScope (r - lblKey) c).bind fun b => (findLabel b (r - lblKey)).bind fun rest => lbK E C L f fn b rest la args h
  | some c, none => if rngKey ≤ r then (findRange (r - rngKey) c).bind fun q => rdK E C L f fn q.1 q.2.1 q.2.2 args h else none
  | _, _ => none

def evalN (E : Env) : Nat → CF × LF
  | 0 => (fun _ _ _ => none, fun _ _ _ _ => none)
  | n + 1 =>
    (fun f args h => match E.sums.get f with
      | some g => g args h
      | none => match E.fns.get f with
        | some fn => fnK E (evalN E n).1 (evalN E n).2 f fn args h
        | none => none,
     fun f r args h => match E.fns.get f with
      | some fn => lpN E (evalN E n).1 (evalN E n).2 f r fn args h
      | none => none)

end Go.Arm
namespace Go.Arm
open Go.RowKit (Below)

/-! ## the trie -/
theorem Tr.get_set_same {α : Type} : ∀ (f : Nat) (t : Tr α) (i : Nat) (x : Option α), i < f → (Tr.set f t i x).get i = x := by
  intro f
  induction f with
  | zero => intro t i x h; omega
  | succ f ih =>
    intro t i x h
    cases t with
    | leaf =>
      cases i with
      | zero => simp [Tr.set, Tr.get]
      | succ i =>
        simp only [Tr.set]
        by_cases h2 : i % 2 = 0
        · simp only [h2, if_true, Tr.get]; exact ih _ _ _ (by omega)
        · simp only [h2, if_false, Tr.get]; exact ih _ _ _ (by omega)
    | node l v r =>
      cases i with
      | zero => simp [Tr.set, Tr.get]
      | succ i =>
        simp only [Tr.set]
        by_cases h2 : i % 2 = 0
        · simp only [h2, if_true, Tr.get]; exact ih _ _ _ (by omega)
        · simp only [h2, if_false, Tr.get]; exact ih _ _ _ (by omega)

theorem Tr.get_leaf {α : Type} (j : Nat) : (Tr.leaf : Tr α).get j = none := rfl

theorem Tr.get_set_ne {α : Type} : ∀ (f : Nat) (t : Tr α) (i j : Nat) (x : Option α), j ≠ i → (Tr.set f t i x).get j = t.get j := by
  intro f
  induction f with
  | zero => intro t i j x _; rfl
  | succ f ih =>
    intro t i j x h
    cases t with
    | leaf =>
      cases i with
      | zero =>
        cases j with
        | zero => omega
        | succ j => simp only [Tr.set, Tr.get]; split <;> rfl
      | succ i =>
        simp only [Tr.set]
        by_cases h2 : i % 2 = 0
        · simp only [h2, if_true]
          cases j with
          | zero => simp [Tr.get]
          | succ j =>
            simp only [Tr.get]
            by_cases h3 : j % 2 = 0
            · simp only [h3, if_true]; rw [ih _ _ _ _ (by omega)]; rfl
            · simp only [h3, if_false]
        · simp only [h2, if_false]
          cases j with
          | zero => simp [Tr.get]
          | succ j =>
            simp only [Tr.get]
            by_cases h3 : j % 2 = 0
            · simp only [h3, if_true]
            · simp only [h3, if_false]; rw [ih _ _ _ _ (by omega)]; rfl
    | node l v r =>
      cases i with
      | zero =>
        cases j with
        | zero => omega
        | succ j => simp only [Tr.set, Tr.get]
      | succ i =>
        simp only [Tr.set]
        by_cases h2 : i % 2 = 0
        · simp only [h2, if_true]
          cases j with
          | zero => simp [Tr.get]
          | succ j =>
            simp only [Tr.get]
            by_cases h3 : j % 2 = 0
            · simp only [h3, if_true]; rw [ih _ _ _ _ (by omega)]
            · simp only [h3, if_false]
        · simp only [h2, if_false]
          cases j with
          | zero => simp [Tr.get]
          | succ j =>
            simp only [Tr.get]
            by_cases h3 : j % 2 = 0
            · simp only [h3, if_true]
            · simp only [h3, if_false]; rw [ih _ _ _ _ (by omega)]

theorem H.get_lt {h : H} {b : Nat} {x : Blk} (e : h.get b = some x) : b < h.next := by
  unfold H.get at e
  split at e
  · assumption
  · cases e
theorem H.get_put_same (h : H) (b : Nat) (x : Option Blk) (hb : b < h.next) : (h.put b x).get b = x := by
  unfold H.get H.put
  simp only [hb, if_true]
  exact Tr.get_set_same _ _ _ _ (by omega)
theorem H.get_put_ne (h : H) (b c : Nat) (x : Option Blk) (hc : c ≠ b) : (h.put b x).get c = h.get c := by
  unfold H.get H.put
  simp only [Tr.get_set_ne _ _ _ _ _ hc]
theorem H.next_put (h : H) (b : Nat) (x : Option Blk) : (h.put b x).next = h.next := rfl
theorem H.get_new_same (h : H) (x : Blk) : (h.new x).get h.next = some x := by
  unfold H.get H.new
  simp only [Nat.lt_succ_self, if_true]
  exact Tr.get_set_same _ _ _ _ (by omega)
theorem H.get_new_ne (h : H) (c : Nat) (x : Blk) (hc : c ≠ h.next) : (h.new x).get c = h.get c := by
  unfold H.get H.new
  simp only [Tr.get_set_ne _ _ _ _ _ hc]
  by_cases h1 : c < h.next
  · simp [h1, show c < h.next + 1 by omega]
  · simp [h1, show ¬ c < h.next + 1 by omega]
theorem H.get_new_old {h : H} {c : Nat} {x y : Blk} (e : h.get c = some y) : (h.new x).get c = some y := by
  rw [H.get_new_ne _ _ _ (by have := H.get_lt e; omega)]; exact e
theorem H.next_new (h : H) (x : Blk) : (h.new x).next = h.next + 1 := rfl
theorem H.get_skip (h : H) (c : Nat) : (h.skip).get c = h.get c := by
  unfold H.get H.skip
  by_cases h1 : c = h.next
  · subst h1
    simp only [Nat.lt_succ_self, if_true, Nat.lt_irrefl, if_false]
    exact Tr.get_set_same _ _ _ _ (by omega)
  · simp only [Tr.get_set_ne _ _ _ _ _ h1]
    by_cases h2 : c < h.next
    · simp [h2, show c < h.next + 1 by omega]
    · simp [h2, show ¬ c < h.next + 1 by omega]
theorem H.next_skip (h : H) : h.skip.next = h.next + 1 := rfl

/-! ## where the abstract blocks lie -/
structure BE where
  blk : Nat
  off : Nat
  size : Nat
  /-- up to where the block's memory is its own -/
  rend : Nat
  esz : Nat
  loose : Bool

abbrev Beta := Nat → Option BE
def Beta.le (β β' : Beta) : Prop := ∀ b x, β b = some x → β' b = some x
theorem Beta.le_refl (β : Beta) : β.le β := fun _ _ h => h
theorem Beta.le_trans {a b c : Beta} (h : a.le b) (k : b.le c) : a.le c := fun _ _ e => k _ _ (h _ _ e)

/-- the capacity that a slice really has -/
def CapOK (x : BE) (o c c' : Nat) : Prop := c' = c ∨ (x.loose = true ∧ o + c * x.esz = x.size ∧ c ≤ c' ∧ x.off + o + c' * x.esz = x.rend)

inductive VR (β : Beta) : Value → Value → Prop
  | junk (v : Value) : VR β (.tuple #[]) v
  | clit (v : Value) (h : lit v = true) : VR β v v
  | pnil : VR β (.pointer none) (.pointer none)
  | cptr (b o : Nat) (x : BE) (h : β b = some x) : VR β (.pointer (some ⟨b, o, none⟩)) (.pointer (some ⟨x.blk, x.off + o, none⟩))
  | snil : VR β (.slice none 0 0) (.slice none 0 0)
  | slice (b o n c c' : Nat) (x : BE) (h : β b = some x) (hn : n ≤ c) (hc : CapOK x o c c') : VR β (.slice (some ⟨b, o, none⟩) n c) (.slice (some ⟨x.blk, x.off + o, none⟩) n c')
  | sempty (a a' : Addr) (h : a.spot = none) : VR β (.slice (some a) 0 0) (.slice (some a') 0 0)
  | mnil : VR β (.map none) (.map none)
  | map (b : Nat) (x : BE) (h : β b = some x) : VR β (.map (some b)) (.map (some x.blk))
  | func (f : Nat) (a b a' b' : Array Value) (ha : a.size = a'.size) (hb : b.size = b'.size)
      (hva : ∀ (i : Nat) (u u' : Value), a[i]? = some u → a'[i]? = some u' → VR β u u') (hvb : ∀ (i : Nat) (u u' : Value), b[i]? = some u → b'[i]? = some u' → VR β u u') :
      VR β (.func (.func f) a b) (.func (.func f) a' b')
  | yield (l : Nat) (x : BE) (h : β l = some x) : VR β (.func (.yield l) #[] #[]) (.func (.yield x.blk) #[] #[])
  | fnil : VR β .nilFunc .nilFunc
  | iface (t : TypeId) (v v' : Value) (h : VR β v v') : VR β (.iface t v) (.iface t v')
  | inil : VR β .nilIface .nilIface
  | agg (a a' : Array Value) (ha : a.size = a'.size) (hv : ∀ (i : Nat) (u u' : Value), a[i]? = some u → a'[i]? = some u' → VR β u u') : VR β (.agg a) (.agg a')
  | tuple (a a' : Array Value) (ha : a.size = a'.size) (hv : ∀ (i : Nat) (u u' : Value), a[i]? = some u → a'[i]? = some u' → VR β u u') : VR β (.tuple a) (.tuple a')

theorem VR.mono {β β' : Beta} (hle : β.le β') {v v' : Value} (h : VR β v v') : VR β' v v' := by
  induction h with
  | junk v => exact .junk v
  | clit v h => exact .clit v h
  | pnil => exact .pnil
  | cptr b o x h => exact .cptr b o x (hle _ _ h)
  | snil => exact .snil
  | slice b o n c c' x h hn hc => exact .slice b o n c c' x (hle _ _ h) hn hc
  | sempty a a' h => exact .sempty a a' h
  | mnil => exact .mnil
  | map b x h => exact .map b x (hle _ _ h)
  | func f a b a' b' ha hb _ _ iha ihb => exact .func f a b a' b' ha hb iha ihb
  | yield l x h => exact .yield l x (hle _ _ h)
  | fnil => exact .fnil
  | iface t v v' _ ih => exact .iface t v v' ih
  | inil => exact .inil
  | agg a a' ha _ ih => exact .agg a a' ha ih
  | tuple a a' ha _ ih => exact .tuple a a' ha ih

/-- lists of values -/
def VL (β : Beta) (l l' : List Value) : Prop := l.length = l'.length ∧ ∀ (i : Nat) (u u' : Value), l[i]? = some u → l'[i]? = some u' → VR β u u'
theorem VL.mono {β β' : Beta} (hle : β.le β') {l l' : List Value} (h : VL β l l') : VL β' l l' := ⟨h.1, fun i u u' a b => (h.2 i u u' a b).mono hle⟩
theorem VL.nil (β : Beta) : VL β [] [] := ⟨rfl, by simp⟩
theorem VL.cons {β : Beta} {v v' : Value} {l l' : List Value} (h : VR β v v') (k : VL β l l') : VL β (v :: l) (v' :: l') := by
  refine ⟨by simp [k.1], fun i u u' a b => ?_⟩
  cases i with
  | zero => simp at a b; subst a; subst b; exact h
  | succ i => exact k.2 i u u' (by simpa using a) (by simpa using b)
theorem VL.head {β : Beta} {v v' : Value} {l l' : List Value} (h : VL β (v :: l) (v' :: l')) : VR β v v' := h.2 0 v v' rfl rfl
theorem VL.tail {β : Beta} {v v' : Value} {l l' : List Value} (h : VL β (v :: l) (v' :: l')) : VL β l l' :=
  ⟨by simpa using h.1, fun i u u' a b => h.2 (i + 1) u u' (by simpa using a) (by simpa using b)⟩
theorem VL.cases_cons {β : Beta} {v : Value} {l l' : List Value} (h : VL β (v :: l) l') : ∃ v' t, l' = v' :: t ∧ VR β v v' ∧ VL β l t := by
  cases l' with
  | nil => simp [VL] at h
  | cons v' t => exact ⟨v', t, rfl, h.head, h.tail⟩
theorem VL.cases_nil {β : Beta} {l' : List Value} (h : VL β [] l') : l' = [] := by
  have := h.1
  simp at this
  exact List.length_eq_zero_iff.1 this.symm
theorem VL.append {β : Beta} {a a' b b' : List Value} (h : VL β a a') (k : VL β b b') : VL β (a ++ b) (a' ++ b') := by
  induction a generalizing a' with
  | nil => rw [h.cases_nil]; exact k
  | cons v l ih =>
    obtain ⟨v', t, rfl, hv, ht⟩ := h.cases_cons
    exact .cons hv (ih ht)
theorem VL.drop {β : Beta} {a a' : List Value} (n : Nat) (h : VL β a a') : VL β (a.drop n) (a'.drop n) := by
  induction n generalizing a a' with
  | zero => exact h
  | succ n ih =>
    cases a with
    | nil => rw [h.cases_nil]; exact .nil β
    | cons v l => obtain ⟨v', t, rfl, _, ht⟩ := h.cases_cons; exact ih ht
theorem VL.take {β : Beta} {a a' : List Value} (n : Nat) (h : VL β a a') : VL β (a.take n) (a'.take n) := by
  induction n generalizing a a' with
  | zero => exact .nil β
  | succ n ih =>
    cases a with
    | nil => rw [h.cases_nil]; exact .nil β
    | cons v l => obtain ⟨v', t, rfl, hv, ht⟩ := h.cases_cons; exact .cons hv (ih ht)

theorem VL.of_agg {β : Beta} {a a' : Array Value} (ha : a.size = a'.size) (hv : ∀ (i : Nat) (u u' : Value), a[i]? = some u → a'[i]? = some u' → VR β u u') : VL β a.toList a'.toList :=
  ⟨by simpa using ha, fun i u u' x y => hv i u u' (by simpa using x) (by simpa using y)⟩
theorem VL.agg {β : Beta} {l l' : List Value} (h : VL β l l') : VR β (.agg ⟨l⟩) (.agg ⟨l'⟩) :=
  .agg _ _ (by simpa using h.1) (fun i u u' x y => h.2 i u u' (by simpa using x) (by simpa using y))

/-! ## inversions -/
theorem VR.lit_inv {β : Beta} {v v' : Value} (h : VR β v v') (hl : Arm.lit v = true) : v' = v := by
  cases h <;> first | rfl | (simp [Arm.lit] at hl)
theorem VR.int_inv {β : Beta} {k : IntKind} {n : Int} {v' : Value} (h : VR β (.int k n) v') : v' = .int k n := h.lit_inv rfl
theorem VR.bool_inv {β : Beta} {b : Bool} {v' : Value} (h : VR β (.bool b) v') : v' = .bool b := h.lit_inv rfl
theorem VR.str_inv {β : Beta} {s : ByteArray} {v' : Value} (h : VR β (.string s) v') : v' = .string s := h.lit_inv rfl
theorem VR.ptr_inv {β : Beta} {b o : Nat} {v' : Value} (h : VR β (Arm.ptr b o) v') : ∃ x, β b = some x ∧ v' = Arm.ptr x.blk (x.off + o) := by
  cases h with
  | clit _ h => simp [Arm.lit] at h
  | cptr _ _ x h => exact ⟨x, h, rfl⟩
theorem VR.agg_inv {β : Beta} {a : Array Value} {v' : Value} (h : VR β (.agg a) v') : ∃ a', v' = .agg a' ∧ VL β a.toList a'.toList := by
  cases h with
  | clit _ h => simp [Arm.lit] at h
  | agg _ a' ha hv => exact ⟨a', rfl, .of_agg ha hv⟩
theorem VR.tuple_inv {β : Beta} {a : Array Value} {v' : Value} (h : VR β (.tuple a) v') (hne : a ≠ #[]) : ∃ a', v' = .tuple a' ∧ VL β a.toList a'.toList := by
  cases h with
  | junk v => exact absurd rfl hne
  | clit _ h => simp [Arm.lit] at h
  | tuple _ a' ha hv => exact ⟨a', rfl, .of_agg ha hv⟩

theorem VR.one {β : Beta} {v v' : Value} (h : VR β v v') (ho : Arm.one v = true) : Arm.one v' = true := by
  cases h <;> first | rfl | (simp [Arm.one] at ho) | skip
  rename_i hl
  cases v <;> simp_all [Arm.lit, Arm.one]

/-- the cells of related values -/
theorem VR.cells {β : Beta} {v v' : Value} (h : VR β v v') (hj : v ≠ .tuple #[]) : VL β v.cells.toList v'.cells.toList := by
  cases h with
  | agg a a' ha hv => exact .of_agg ha hv
  | junk v => exact absurd rfl hj
  | clit v hl => cases v <;> first | (simp [Arm.lit] at hl; done) | exact .cons (.clit _ hl) (.nil β)
  | pnil => exact .cons .pnil (.nil β)
  | cptr b o x h => exact .cons (.cptr b o x h) (.nil β)
  | snil => exact .cons .snil (.nil β)
  | slice b o n c c' x h hn hc => exact .cons (.slice b o n c c' x h hn hc) (.nil β)
  | sempty a a' h => exact .cons (.sempty a a' h) (.nil β)
  | mnil => exact .cons .mnil (.nil β)
  | map b x h => exact .cons (.map b x h) (.nil β)
  | func f a b a' b' ha hb hva hvb => exact .cons (.func f a b a' b' ha hb hva hvb) (.nil β)
  | yield l x h => exact .cons (.yield l x h) (.nil β)
  | fnil => exact .cons .fnil (.nil β)
  | iface t v v' h => exact .cons (.iface t v v' h) (.nil β)
  | inil => exact .cons .inil (.nil β)
  | tuple a a' ha hv => exact .cons (.tuple a a' ha hv) (.nil β)

/-- constants are related to themselves -/
theorem VR.closed (β : Beta) {v : Value} (h : Arm.closed v = true) : VR β v v := by
  have h1 : ∀ u : Value, (match u with
    | .bool _ | .int .. | .float .. | .complex .. | .string _ | .pointer none | .slice none 0 0 | .map none | .nilFunc | .nilIface => true
    | _ => false) = true → VR β u u := by
    intro u hu
    split at hu <;> first | exact .clit _ rfl | exact .pnil | exact .snil | exact .mnil | exact .fnil | exact .inil | (cases hu)
  unfold Arm.closed at h
  split at h <;> first | exact .clit _ rfl | exact .pnil | exact .snil | exact .mnil | exact .fnil | exact .inil | skip
  · rename_i cs
    refine .agg _ _ rfl fun i u u' a b => ?_
    rw [a] at b; cases b
    rw [List.all_eq_true] at h
    exact h1 u (h u (by have := Array.mem_of_getElem? a; simpa using this))
  · simp only [Bool.and_eq_true, Array.isEmpty_iff] at h
    obtain ⟨rfl, rfl⟩ := h
    exact .func _ _ _ _ _ rfl rfl (by simp) (by simp)
  · rename_i cs
    refine .tuple _ _ rfl fun i u u' a b => ?_
    rw [a] at b; cases b
    rw [List.all_eq_true] at h
    have h2 := h u (by have := Array.mem_of_getElem? a; simpa using this)
    split at h2 <;> first | exact .clit _ rfl | exact .pnil | exact .snil | exact .mnil | exact .fnil | exact .inil | skip
    · rename_i ds
      refine .agg _ _ rfl fun j x x' c d => ?_
      rw [c] at d; cases d
      rw [List.all_eq_true] at h2
      exact h1 x (h2 x (by have := Array.mem_of_getElem? c; simpa using this))
    · cases h2
  · cases h

end Go.Arm
namespace Go.Arm

theorem one_eq (v : Value) : one v = v.oneCell' := by cases v <;> rfl

def Blk.own : Blk → Bool
  | .cells _ _ o _ => o
  | .hole => true
  | _ => true

/-- the memory that may be written; the numbers that are set aside, whose blocks are made already; those whose blocks are not -/
structure Sc where
  mem : Nat → Prop
  held : Nat → Prop
  hol : Nat → Prop
instance : CoeFun Sc (fun _ => Nat → Prop) := ⟨Sc.mem⟩

/-- entries of maps -/
def EL (β : Beta) (l l' : List MapEntry) : Prop :=
  l.length = l'.length ∧ ∀ (i : Nat) (e e' : MapEntry), l[i]? = some e → l'[i]? = some e' → VR β e.key e'.key ∧ VR β e.val e'.val ∧ e.born = e'.born
theorem EL.mono {β β' : Beta} (hle : β.le β') {l l' : List MapEntry} (h : EL β l l') : EL β' l l' :=
  ⟨h.1, fun i e e' a b => let ⟨x, y, z⟩ := h.2 i e e' a b; ⟨x.mono hle, y.mono hle, z⟩⟩

/-- a block lies where it is said to lie -/
def BlkOK (E : Env) (β : Beta) (S : Sc) (w : World) (x : BE) : Blk → Prop
  | .cells cs e own loose => x.size = cs.length ∧ x.off + x.size ≤ x.rend ∧ x.loose = loose ∧
      (loose = true → ∃ i, E.tys.get e = some i ∧ x.esz = i.size) ∧
      (∀ (i : Nat) (v : Value), cs[i]? = some v → ∃ v', w.cell? ⟨x.blk, x.off + i, none⟩ = some v' ∧ VR β v v') ∧
      (own = true → S x.blk ∧ (∀ j, x.off ≤ j → j < x.rend → (w.cell? ⟨x.blk, j, none⟩).isSome = true ∧ w.frozen? ⟨x.blk, j, none⟩ = false))
  | .map es clock => S x.blk ∧ ∃ es', w.heap[x.blk]? = some (.map es' clock) ∧ EL β es es'.toList
  | .loop f r vals => S x.blk ∧ ∃ rc : Loop, w.heap[x.blk]? = some (.loop rc) ∧ rc.state = .ready ∧ rc.pending = none ∧ (∀ i, VR β (lget vals i) (rc.tmps.getD i undef)) ∧ vals.length ≤ rc.tmps.size ∧
      ∃ fn c, E.fns.get f = some fn ∧ fn.body = some c ∧ findRange r c = some (rc.params, rc.assign, rc.body) ∧ vals.length = fn.ntmps
  | .hole => False

/-- nothing outside of S has turned -/
structure Fr (S : Sc) (w w' : World) : Prop where
  os : w'.os = w.os
  tape : w'.tape = w.tape
  output : w'.output = w.output
  size : w.heap.size ≤ w'.heap.size
  keep : ∀ k, ¬ S k → w'.heap[k]? = w.heap[k]?
theorem Fr.refl (S : Sc) (w : World) : Fr S w w := ⟨rfl, rfl, rfl, Nat.le_refl _, fun _ _ => rfl⟩
theorem Fr.trans {S : Sc} {a b c : World} (h : Fr S a b) (k : Fr S b c) : Fr S a c :=
  ⟨k.os.trans h.os, k.tape.trans h.tape, k.output.trans h.output, Nat.le_trans h.size k.size, fun i hi => (k.keep i hi).trans (h.keep i hi)⟩

/-- an abstract heap, a world; S: the memory that may be written -/
structure RH (E : Env) (β : Beta) (h : H) (S : Sc) (w : World) : Prop where
  glob : ∀ g, g < E.ng → ∃ x, β g = some x ∧ x.blk = g ∧ x.off = 0
  up : ∀ k, w.heap.size ≤ k → S k
  fresh : ∀ b, h.next ≤ b → β b = none
  lt : ∀ b x, β b = some x → x.blk < w.heap.size
  blk : ∀ b k, h.get b = some k → k ≠ .hole → ∃ x, β b = some x ∧ BlkOK E β S w x k
  disj : ∀ b c k l x y, h.get b = some k → h.get c = some l → b ≠ c → k.own = true → β b = some x → β c = some y → x.blk ≠ y.blk
  hol : ∀ b, S.hol b → h.get b = some .hole ∧ β b = none
  held : ∀ b, S.held b → h.get b = some .hole

/-! ## worlds with the same heap -/
theorem cell?_heap {w w' : World} (e : w'.heap = w.heap) (a : Addr) : w'.cell? a = w.cell? a := by simp [World.cell?, e]
theorem frozen?_heap {w w' : World} (e : w'.heap = w.heap) (a : Addr) : w'.frozen? a = w.frozen? a := by simp [World.frozen?, e]
theorem BlkOK.of_heap {E : Env} {β : Beta} {S : Sc} {w w' : World} (e : w'.heap = w.heap) {x : BE} {k : Blk} (h : BlkOK E β S w x k) : BlkOK E β S w' x k := by
  cases k with
  | cells cs t own loose =>
    obtain ⟨h1, h2, h3, h4, h5, h6⟩ := h
    refine ⟨h1, h2, h3, h4, fun i v hv => ?_, fun ho => ⟨(h6 ho).1, fun j ha hb => ?_⟩⟩
    · rw [cell?_heap e]; exact h5 i v hv
    · rw [cell?_heap e, frozen?_heap e]; exact (h6 ho).2 j ha hb
  | map es clock => obtain ⟨h1, es', h2, h3⟩ := h; exact ⟨h1, es', by rw [e]; exact h2, h3⟩
  | loop f r vs => obtain ⟨h1, rc, h2, h3⟩ := h; exact ⟨h1, rc, by rw [e]; exact h2, h3⟩
  | hole => exact h
theorem RH.of_heap {E : Env} {β : Beta} {h : H} {S : Sc} {w w' : World} (e : w'.heap = w.heap) (f : Fr S w w') (r : RH E β h S w) : RH E β h S w' :=
  ⟨r.glob, by rw [e]; exact r.up, r.fresh, by rw [e]; exact r.lt, fun b k hb hh => let ⟨x, hx, hk⟩ := r.blk b k hb hh; ⟨x, hx, hk.of_heap e⟩, r.disj, r.hol, r.held⟩
theorem Fr.drew (S : Sc) (w : World) : Fr S w w.drew := ⟨rfl, rfl, rfl, Nat.le_refl _, fun _ _ => rfl⟩
theorem RH.drew {E : Env} {β : Beta} {h : H} {S : Sc} {w : World} (r : RH E β h S w) : RH E β h S w.drew := RH.of_heap (w := w) rfl (Fr.drew S w) r

/-- a block keeps its place in whatever world keeps its memory -/
theorem BlkOK.keep {E : Env} {β β' : Beta} {S S' : Sc} {w w' : World} (hle : β.le β') {x : BE} {k : Blk} (hS : S x.blk → S' x.blk) (e : w'.heap[x.blk]? = w.heap[x.blk]?) (h : BlkOK E β S w x k) : BlkOK E β' S' w' x k := by
  have ec : ∀ j, w'.cell? ⟨x.blk, j, none⟩ = w.cell? ⟨x.blk, j, none⟩ := fun j => by simp [World.cell?, e]
  have ef : ∀ j, w'.frozen? ⟨x.blk, j, none⟩ = w.frozen? ⟨x.blk, j, none⟩ := fun j => by simp [World.frozen?, e]
  cases k with
  | cells cs t own loose =>
    obtain ⟨h1, h2, h3, h4, h5, h6⟩ := h
    refine ⟨h1, h2, h3, h4, fun i v hv => ?_, fun ho => ⟨hS (h6 ho).1, fun j ha hb => ?_⟩⟩
    · obtain ⟨v', hv', hr⟩ := h5 i v hv
      exact ⟨v', by rw [ec]; exact hv', hr.mono hle⟩
    · rw [ec, ef]; exact (h6 ho).2 j ha hb
  | map es clock => obtain ⟨h1, es', h2, h3⟩ := h; exact ⟨hS h1, es', by rw [e]; exact h2, h3.mono hle⟩
  | loop f r vs => obtain ⟨h1, rc, h2, h3, h4, h5, h6⟩ := h; exact ⟨hS h1, rc, by rw [e]; exact h2, h3, h4, fun i => (h5 i).mono hle, h6⟩
  | hole => exact h

/-! ## reads -/
theorem RH.cellAt {E : Env} {β : Beta} {h : H} {S : Sc} {w : World} (r : RH E β h S w) {b o : Nat} {v : Value} (e : cellAt h b o = some v) {x : BE} (hx : β b = some x) :
    ∃ v', w.cell? ⟨x.blk, x.off + o, none⟩ = some v' ∧ VR β v v' := by
  unfold Arm.cellAt at e
  split at e
  · rename_i cs t own loose hg
    obtain ⟨y, hy, hk⟩ := r.blk b _ hg (by simp)
    rw [hx] at hy; cases hy
    exact hk.2.2.2.2.1 o v e
  · cases e

theorem RH.cellsAt {E : Env} {β : Beta} {h : H} {S : Sc} {w : World} (r : RH E β h S w) {b o n : Nat} {l : List Value} (e : cellsAt h b o n = some l) {x : BE} (hx : β b = some x) :
    l.length = n ∧ ∃ l' : List Value, l'.length = n ∧ VL β l l' ∧ ∀ (j : Nat) (v : Value), l'[j]? = some v → w.cell? ⟨x.blk, x.off + o + j, none⟩ = some v := by
  unfold Arm.cellsAt at e
  split at e
  · rename_i cs t own loose hg
    split at e
    · rename_i hle
      cases e
      obtain ⟨y, hy, hk⟩ := r.blk b _ hg (by simp)
      rw [hx] at hy; cases hy
      have h5 := hk.2.2.2.2.1
      have hlen : ((cs.drop o).take n).length = n := by simp; omega
      refine ⟨hlen, ?_⟩
      -- the real cells, one by one
      have key : ∀ m, m ≤ n → ∃ l' : List Value, l'.length = m ∧ VL β ((cs.drop o).take m) l' ∧ ∀ (j : Nat) (v : Value), l'[j]? = some v → w.cell? ⟨x.blk, x.off + o + j, none⟩ = some v := by
        intro m
        induction m with
        | zero => intro _; exact ⟨[], rfl, .nil β, by simp⟩
        | succ m ih =>
          intro hm
          obtain ⟨l', hl, hv, hc⟩ := ih (by omega)
          have hlt : o + m < cs.length := by omega
          obtain ⟨v', hv', hr⟩ := h5 (o + m) cs[o + m] (List.getElem?_eq_getElem hlt)
          refine ⟨l' ++ [v'], by simp [hl], ?_, fun j v hj => ?_⟩
          · have : (cs.drop o).take (m + 1) = (cs.drop o).take m ++ [cs[o + m]] := by
              rw [List.take_succ_eq_append_getElem (by simp; omega)]; simp
            rw [this]
            exact hv.append (.cons hr (.nil β))
          · by_cases hjm : j < m
            · exact hc j v (by rw [List.getElem?_append_left (by omega)] at hj; exact hj)
            · have : j = m := by
                have := (List.getElem?_eq_some_iff.1 hj).1
                simp [hl] at this; omega
              subst this
              rw [List.getElem?_append_right (by omega)] at hj
              simp [hl] at hj
              subst hj
              rw [show x.off + o + j = x.off + (o + j) by omega]; exact hv'
      exact key n (Nat.le_refl _)
    · cases e
  · cases e

/-! ## writes -/
theorem setAt_length (vs : List Value) : ∀ (cs : List Value) (o : Nat), (setAt cs o vs).length = cs.length := by
  induction vs with
  | nil => intro cs o; rfl
  | cons v vs ih => intro cs o; simp [setAt, ih]
theorem setAt_get (vs : List Value) : ∀ (cs : List Value) (o i : Nat), o + vs.length ≤ cs.length → (setAt cs o vs)[i]? = if o ≤ i ∧ i < o + vs.length then vs[i - o]? else cs[i]? := by
  induction vs with
  | nil => intro cs o i _; simp [setAt]; intro h1 h2; omega
  | cons v vs ih =>
    intro cs o i h
    simp only [List.length_cons] at h
    rw [setAt, ih _ _ _ (by simp; omega)]
    by_cases hi : i = o
    · subst hi
      rw [if_neg (by omega), if_pos (by simp)]
      simp [show i < cs.length by omega]
    · by_cases h2 : o + 1 ≤ i ∧ i < o + 1 + vs.length
      · rw [if_pos h2, if_pos (by simp; omega), show i - o = (i - (o + 1)) + 1 by omega]; simp
      · rw [if_neg h2, if_neg (by simp; omega)]
        simp [Ne.symm hi]

theorem heap_setCells (w : World) (b : Nat) : ∀ (vs : List Value) (o k : Nat), k ≠ b → (w.setCells b o vs).heap[k]? = w.heap[k]? := by
  intro vs
  induction vs generalizing w with
  | nil => intro o k _; rfl
  | cons v vs ih =>
    intro o k hk
    rw [World.setCells, ih _ _ _ hk]
    simp only [World.setCell, Array.getElem?_modify]
    rw [if_neg (by simpa using Ne.symm hk)]
theorem size_setCells (w : World) (b : Nat) : ∀ (vs : List Value) (o : Nat), (w.setCells b o vs).heap.size = w.heap.size := by
  intro vs
  induction vs generalizing w with
  | nil => intro o; rfl
  | cons v vs ih => intro o; rw [World.setCells, ih]; simp [World.setCell]
theorem rest_setCells (w : World) (b : Nat) : ∀ (vs : List Value) (o : Nat), (w.setCells b o vs).os = w.os ∧ (w.setCells b o vs).tape = w.tape ∧ (w.setCells b o vs).output = w.output := by
  intro vs
  induction vs generalizing w with
  | nil => intro o; exact ⟨rfl, rfl, rfl⟩
  | cons v vs ih => intro o; rw [World.setCells]; exact ih _ _
theorem Fr.setCells {S : Sc} (w : World) (b : Nat) (hb : S b) (vs : List Value) (o : Nat) : Fr S w (w.setCells b o vs) :=
  ⟨(rest_setCells w b vs o).1, (rest_setCells w b vs o).2.1, (rest_setCells w b vs o).2.2, by rw [size_setCells]; exact Nat.le_refl _, fun k hk => heap_setCells w b vs o k (fun e => hk (e ▸ hb))⟩

/-- what a write asks of the real memory, and what it leaves -/
theorem RH.stC {E : Env} {β : Beta} {h h' : H} {S : Sc} {w : World} (r : RH E β h S w) {b o : Nat} {vs vs' : List Value} (e : stC h b o vs = some h') (hv : VL β vs vs') {x : BE} (hx : β b = some x) :
    (∀ j, j < vs'.length → (w.cell? ⟨x.blk, x.off + o + j, none⟩).isSome = true) ∧ (∀ j, j < vs'.length → w.frozen? ⟨x.blk, x.off + o + j, none⟩ = false) ∧
    (∀ u ∈ vs', u.oneCell' = true) ∧ S x.blk ∧ RH E β h' S (w.setCells x.blk (x.off + o) vs') := by
  unfold Arm.stC at e
  split at e
  · rename_i cs t loose hg
    split at e
    · rename_i hcond
      simp only [Bool.and_eq_true, decide_eq_true_eq] at hcond
      obtain ⟨hle, hone⟩ := hcond
      cases e
      obtain ⟨y, hy, hk⟩ := r.blk b _ hg (by simp)
      rw [hx] at hy; cases hy
      obtain ⟨h1, h2, h3, h4, h5, h6⟩ := hk
      obtain ⟨hS, hreg⟩ := h6 rfl
      have hl := hv.1
      have hin : ∀ j, j < vs'.length → (w.cell? ⟨x.blk, x.off + o + j, none⟩).isSome = true := fun j hj => (hreg (x.off + o + j) (by omega) (by omega)).1
      refine ⟨hin, fun j hj => (hreg (x.off + o + j) (by omega) (by omega)).2, ?_, hS, ?_⟩
      · intro u hu
        obtain ⟨i, hi⟩ := List.getElem?_of_mem hu
        have hlt : i < vs.length := by rw [hl]; exact (List.getElem?_eq_some_iff.1 hi).1
        rw [← one_eq]
        refine (hv.2 i vs[i] u (List.getElem?_eq_getElem hlt) hi).one ?_
        rw [List.all_eq_true] at hone
        exact hone _ (List.getElem_mem hlt)
      · refine ⟨r.glob, by rw [size_setCells]; exact r.up, r.fresh, by rw [size_setCells]; exact r.lt, ?_, ?_, fun c hc => ?_, fun c hc => ?_⟩
        · intro c k hc hh
          by_cases hcb : c = b
          · subst hcb
            rw [H.get_put_same _ _ _ (H.get_lt hg)] at hc
            cases hc
            refine ⟨x, hx, by rw [setAt_length]; exact h1, h2, h3, h4, fun i v hi => ?_, fun _ => ⟨hS, fun j ha hb => ?_⟩⟩
            · rw [setAt_get vs cs o i hle] at hi
              split at hi
              · rename_i hr
                have hlt : i - o < vs'.length := by omega
                refine ⟨vs'[i - o], ?_, hv.2 (i - o) v _ hi (List.getElem?_eq_getElem hlt)⟩
                have := World.cell?_setCells_in x.blk vs' (x.off + o) w hin (i - o) hlt
                rwa [show x.off + o + (i - o) = x.off + i by omega] at this
              · rename_i hr
                obtain ⟨v', hv', hvr⟩ := h5 i v hi
                refine ⟨v', ?_, hvr⟩
                rw [World.cell?_setCells_out]
                · exact hv'
                · intro _ _; simp only; omega
            · rw [World.frozen?_setCells]
              refine ⟨?_, (hreg j ha hb).2⟩
              by_cases hr : x.off + o ≤ j ∧ j < x.off + o + vs'.length
              · have := World.cell?_setCells_in x.blk vs' (x.off + o) w hin (j - (x.off + o)) (by omega)
                rw [show x.off + o + (j - (x.off + o)) = j by omega] at this
                rw [this]; rfl
              · rw [World.cell?_setCells_out]
                · exact (hreg j ha hb).1
                · intro _ _; simp only; omega
          · rw [H.get_put_ne _ _ _ _ hcb] at hc
            obtain ⟨y, hy, hk⟩ := r.blk c k hc hh
            refine ⟨y, hy, hk.keep (Beta.le_refl β) (fun s => s) (heap_setCells w x.blk vs' _ y.blk ?_)⟩
            exact (r.disj b c _ k x y hg hc (Ne.symm hcb) rfl hx hy).symm
        · intro c d k l y z hc hd hne hown hy hz
          by_cases hcb : c = b
          · subst hcb
            rw [H.get_put_ne _ _ _ _ (Ne.symm hne)] at hd
            exact r.disj c d _ l y z hg hd hne rfl hy hz
          · rw [H.get_put_ne _ _ _ _ hcb] at hc
            by_cases hdb : d = b
            · subst hdb; exact r.disj c d k _ y z hc hg hne hown hy hz
            · rw [H.get_put_ne _ _ _ _ hdb] at hd
              exact r.disj c d k l y z hc hd hne hown hy hz
        · have h1 := r.hol c hc
          have hcb : c ≠ b := fun e => by subst e; rw [hg] at h1; cases h1.1
          exact ⟨by rw [H.get_put_ne _ _ _ _ hcb]; exact h1.1, h1.2⟩
        · have h1 := r.held c hc
          have hcb : c ≠ b := fun e => by subst e; rw [hg] at h1; cases h1
          rw [H.get_put_ne _ _ _ _ hcb]; exact h1
    · cases e
  · cases e

/-! ## new blocks -/
def Beta.set (β : Beta) (b : Nat) (x : BE) : Beta := fun c => if c = b then some x else β c
theorem Beta.set_same (β : Beta) (b : Nat) (x : BE) : β.set b x b = some x := by simp [Beta.set]
theorem Beta.set_ne (β : Beta) (b c : Nat) (x : BE) (h : c ≠ b) : β.set b x c = β c := by simp [Beta.set, h]
theorem Beta.le_set {β : Beta} {b : Nat} (x : BE) (h : β b = none) : β.le (β.set b x) := fun c y e => by
  by_cases hc : c = b
  · subst hc; rw [h] at e; cases e
  · rw [Beta.set_ne _ _ _ _ hc]; exact e

theorem heap_alloc_old (w : World) (o : Obj) (k : Nat) (h : k < w.heap.size) : (w.alloc o).heap[k]? = w.heap[k]? := Go.RowKit.Below.heap_alloc w o k h
theorem size_alloc (w : World) (o : Obj) : (w.alloc o).heap.size = w.heap.size + 1 := by
  show (w.heap.push o).size = _
  simp
theorem heap_alloc_at (w : World) (o : Obj) : (w.alloc o).heap[w.heap.size]? = some o := by
  show (w.heap.push o)[w.heap.size]? = _
  simp
theorem Fr.alloc {S : Sc} (w : World) (o : Obj) (hS : ∀ k, w.heap.size ≤ k → S k) : Fr S w (w.alloc o) :=
  ⟨rfl, rfl, rfl, by rw [size_alloc]; omega, fun k hk => heap_alloc_old w o k (by
    rcases Nat.lt_or_ge k w.heap.size with h | h
    · exact h
    · exact absurd (hS k h) hk)⟩

/-- a block is added under a number that is free -/
theorem RH.add {E : Env} {β : Beta} {h h' : H} {S : Sc} {w : World} (r : RH E β h S w) (id : Nat) (k : Blk) (x : BE) (o : Obj)
    (hnh : h.get id = none) (hid : β id = none) (hn : id < h'.next) (hnx : h.next ≤ h'.next) (hget : ∀ c, h'.get c = if c = id then some k else h.get c)
    (hx : x.blk = w.heap.size) (hok : BlkOK E (β.set id x) S (w.alloc o) x k) : RH E (β.set id x) h' S (w.alloc o) := by
  refine ⟨fun g hg => ?_, fun c hc => r.up c (by rw [size_alloc] at hc; omega), fun c hc => ?_, fun c y hy => ?_, fun c l hc hh => ?_, ?_, fun c hc => ?_, fun c hc => ?_⟩
  · obtain ⟨y, hy, h1, h2⟩ := r.glob g hg
    exact ⟨y, Beta.le_set x hid g y hy, h1, h2⟩
  · rw [Beta.set_ne _ _ _ _ (by omega)]; exact r.fresh c (by omega)
  · by_cases hcb : c = id
    · subst hcb; rw [Beta.set_same] at hy; cases hy; rw [hx, size_alloc]; omega
    · rw [Beta.set_ne _ _ _ _ hcb] at hy
      have := r.lt c y hy
      rw [size_alloc]; omega
  · rw [hget] at hc
    split at hc
    · rename_i e; subst e; cases hc
      exact ⟨x, Beta.set_same _ _ _, hok⟩
    · rename_i hne
      obtain ⟨y, hy, hk⟩ := r.blk c l hc hh
      refine ⟨y, by rw [Beta.set_ne _ _ _ _ hne]; exact hy, hk.keep (Beta.le_set x hid) (fun s => s) (heap_alloc_old _ _ _ (r.lt c y hy))⟩
  · intro c d k' l y z hc hd hne hown hy hz
    rw [hget] at hc hd
    by_cases hcb : c = id
    · subst hcb
      rw [Beta.set_same] at hy; cases hy
      rw [if_neg (Ne.symm hne)] at hd
      rw [Beta.set_ne _ _ _ _ (Ne.symm hne)] at hz
      have := r.lt d z hz
      omega
    · rw [if_neg hcb] at hc
      rw [Beta.set_ne _ _ _ _ hcb] at hy
      by_cases hdb : d = id
      · subst hdb
        rw [Beta.set_same] at hz; cases hz
        have := r.lt c y hy
        omega
      · rw [if_neg hdb] at hd
        rw [Beta.set_ne _ _ _ _ hdb] at hz
        exact r.disj c d k' l y z hc hd hne hown hy hz
  · have h1 := r.hol c hc
    have hne : c ≠ id := fun e => by subst e; rw [hnh] at h1; cases h1.1
    rw [hget, if_neg hne, Beta.set_ne _ _ _ _ hne]
    exact h1
  · have h1 := r.held c hc
    have hne : c ≠ id := fun e => by subst e; rw [hnh] at h1; cases h1
    rw [hget, if_neg hne]
    exact h1

theorem H.get_next (h : H) : h.get h.next = none := by simp [H.get]
theorem get_new (h : H) (k : Blk) (c : Nat) : (h.new k).get c = if c = h.next then some k else h.get c := by
  by_cases hc : c = h.next
  · subst hc; simp [H.get_new_same]
  · simp [hc, H.get_new_ne]

/-- cells in a new block, that are the call's own -/
theorem BlkOK.newCells {E : Env} {β : Beta} {S : Sc} {w : World} {id : Nat} {cs cs' : List Value} {e e' : TypeId} (hS : S w.heap.size) (hβ : β id = none) (hv : VL β cs cs') :
    BlkOK E (β.set id ⟨w.heap.size, 0, cs.length, cs.length, 0, false⟩) S (w.alloc (.cells cs'.toArray e')) ⟨w.heap.size, 0, cs.length, cs.length, 0, false⟩ (.cells cs e true false) := by
  have hc : ∀ j, (w.alloc (.cells cs'.toArray e')).cell? ⟨w.heap.size, j, none⟩ = cs'[j]? := fun j => by
    rw [World.cell?_alloc_at _ _ _ _ rfl]; simp
  refine ⟨rfl, by simp, rfl, (by intro h; cases h), fun i v hi => ?_, fun _ => ⟨hS, fun j _ hj => ?_⟩⟩
  · have hlt : i < cs'.length := by rw [← hv.1]; exact (List.getElem?_eq_some_iff.1 hi).1
    exact ⟨cs'[i], by rw [Nat.zero_add, hc]; exact List.getElem?_eq_getElem hlt, (hv.2 i v _ hi (List.getElem?_eq_getElem hlt)).mono (Beta.le_set _ hβ)⟩
  · simp only at hj
    rw [hc, List.getElem?_eq_getElem (by rw [← hv.1]; exact hj)]
    refine ⟨rfl, ?_⟩
    unfold World.frozen?
    rw [heap_alloc_at]
    simp

theorem RH.newCells {E : Env} {β : Beta} {h : H} {S : Sc} {w : World} (r : RH E β h S w) {cs cs' : List Value} (e e' : TypeId) (hv : VL β cs cs') :
    ∃ x, x.blk = w.heap.size ∧ x.off = 0 ∧ x.loose = false ∧ RH E (β.set h.next x) (h.new (.cells cs e true false)) S (w.alloc (.cells cs'.toArray e')) :=
  ⟨⟨w.heap.size, 0, cs.length, cs.length, 0, false⟩, rfl, rfl, rfl, r.add h.next _ _ _ (H.get_next h) (r.fresh _ (Nat.le_refl _)) (by simp [H.next_new]) (by simp [H.next_new]) (get_new h _) rfl
    (BlkOK.newCells (r.up _ (Nat.le_refl _)) (r.fresh _ (Nat.le_refl _)) hv)⟩

end Go.Arm
namespace Go.Arm

/-- is it a struct or an array? -/
def aggT : Ty → Bool
  | .struct _ | .array .. => true
  | _ => false
/-- is it one cell? -/
def cellT : Ty → Bool
  | .struct _ | .array .. | .tuple _ | .other => false
  | _ => true
def UndOK (P : Program) (t : Nat) : Ty → Prop
  | .bool => P.underlying t = some .bool
  | .int k => P.underlying t = some (.int k)
  | .float => P.underlying t = some (.float .f64)
  | .complex => P.underlying t = some (.complex .f64)
  | .string => P.underlying t = some .string
  | .ptr => ∃ e, P.underlying t = some (.pointer e)
  | .slice e => P.underlying t = some (.slice e)
  | .array n e => P.underlying t = some (.array n e)
  | .map k e => P.underlying t = some (.map k e)
  | .struct fs => ∃ a, P.underlying t = some (.struct a) ∧ a.toList.map (fun f => (f.offset, f.type)) = fs
  | .func => ∃ a b c, P.underlying t = some (.func a b c)
  | .iface => ∃ a, P.underlying t = some (.interface a)
  | .tuple ts => P.underlying t = some (.tuple ⟨ts⟩)
  | .other => False

structure TyOK (P : Program) (t : Nat) (i : TI) : Prop where
  inf : ∃ f, P.info? t = some f ∧ f.size = i.size ∧ f.bytes = i.bytes ∧ (i.zero.isEmpty = false → ∃ z, f.zero = some z ∧ z.cells = ⟨i.zero⟩)
  cl : ∀ v ∈ i.zero, closed v = true
  zv : (cellT i.ty = true ∨ aggT i.ty = true) → ∀ f, P.info? t = some f → ∃ z, f.zero = some z ∧ (zeroV i = junk ∨ z = zeroV i)
  zs : i.zero.length = i.size
  sz1 : cellT i.ty = true → i.size = 1
  und : UndOK P t i.ty
  eq : i.eq = true → aggT i.ty = true → P.stoodInHeld t = false ∧ P.eqGuardType P.depth t = false ∧ ∀ a : Array Field, P.underlying t = some (.struct a) → ∀ f ∈ a.toList, f.name ≠ "_"

structure EnvOK (P : Program) (E : Env) : Prop where
  tys : ∀ t i, E.tys.get t = some i → TyOK P t i
  fns : ∀ f fn, E.fns.get f = some fn → P.funcs[f]? = some fn ∧ (fn.name == "runtime.NumGoroutine") = false ∧ fn.body.isSome = true
  mixed : P.follows .mixedOrders = true

/-- slots -/
def TmR (β : Beta) (tm : List Value) (a : Act) : Prop := ∀ i, VR β (lget tm i) (a.tmps.getD i undef)
theorem TmR.mono {β β' : Beta} (hle : β.le β') {tm : List Value} {a : Act} (h : TmR β tm a) : TmR β' tm a := fun i => (h i).mono hle

theorem lget_lset (tm : List Value) (d : Nat) (v : Value) (i : Nat) : lget (lset tm d v) i = if i = d ∧ d < tm.length then v else lget tm i := by
  induction tm generalizing d i with
  | nil => simp [lset]
  | cons x l ih =>
    cases d with
    | zero => cases i <;> simp [lset, lget]
    | succ d =>
      cases i with
      | zero => simp [lset, lget]
      | succ i => simp [lset, lget, ih]
theorem lset_length (tm : List Value) (d : Nat) (v : Value) : (lset tm d v).length = tm.length := by
  induction tm generalizing d with
  | nil => rfl
  | cons x l ih => cases d <;> simp [lset, ih]
theorem lget_ge (tm : List Value) (i : Nat) (h : tm.length ≤ i) : lget tm i = junk := by
  induction tm generalizing i with
  | nil => rfl
  | cons x l ih =>
    cases i with
    | zero => simp at h
    | succ i => simp only [lget]; exact ih i (by simpa using h)

theorem getD_put (a : Act) (d : Tmp) (v : Value) (i : Nat) : (a.put (some d) v).tmps.getD i undef = if i = d ∧ d < a.tmps.size then v else a.tmps.getD i undef := by
  simp only [Act.put]
  by_cases h : i = d
  · subst h
    by_cases h2 : i < a.tmps.size
    · simp [h2]
    · simp [h2]
  · simp [h, Ne.symm h]

/-- the real slots are no fewer -/
def TmS (tm : List Value) (a : Act) : Prop := tm.length ≤ a.tmps.size
theorem TmR.put {β : Beta} {tm : List Value} {a : Act} {v v' : Value} (h : TmR β tm a) (hs : TmS tm a) (d : Option Tmp) (hv : VR β v v') : TmR β (putD tm d v) (a.put d v') := by
  cases d with
  | none => exact h
  | some d =>
    intro i
    rw [putD, lget_lset, getD_put]
    by_cases h1 : i = d ∧ d < tm.length
    · rw [if_pos h1, if_pos ⟨h1.1, Nat.lt_of_lt_of_le h1.2 hs⟩]; exact hv
    · rw [if_neg h1]
      by_cases h2 : i = d ∧ d < a.tmps.size
      · rw [if_pos h2, lget_ge tm i (by rcases Nat.lt_or_ge i tm.length with h3 | h3; exact absurd ⟨h2.1, h2.1 ▸ h3⟩ h1; exact h3)]; exact .junk _
      · rw [if_neg h2]; exact h i
theorem TmR.putJ {β : Beta} {tm : List Value} {a : Act} (h : TmR β tm a) (hs : TmS tm a) (d : Option Tmp) (v' : Value) : TmR β (putD tm d junk) (a.put d v') := h.put hs d (.junk v')
theorem TmS.put {tm : List Value} {a : Act} (hs : TmS tm a) (d : Option Tmp) (v v' : Value) : TmS (putD tm d v) (a.put d v') := by
  cases d with
  | none => exact hs
  | some d => unfold TmS at *; simp only [putD, lset_length, Act.put, Array.size_setIfInBounds]; exact hs

theorem opv_rel {E : Env} {β : Beta} {h : H} {S : Sc} {w : World} (r : RH E β h S w) {tm : List Value} {a : Act} (ht : TmR β tm a) (x : Operand) : VR β (opv E tm x) (a.eval x) := by
  cases x with
  | tmp t => exact ht t
  | const v =>
    simp only [opv]
    split
    · rename_i hc; exact .closed β hc
    · exact .junk _
  | global g =>
    simp only [opv]
    split
    · rename_i hg
      obtain ⟨x, hx, h1, h2⟩ := r.glob g hg
      have := VR.cptr g 0 x hx
      rw [h1, h2] at this
      exact this
    · exact .junk _
  | func f => exact .func f _ _ _ _ rfl rfl (by simp) (by simp)

/-- what an operation comes to -/
def Res (E : Env) (P : Program) (s : Sem Next) (v : Value) (h' : H) (β : Beta) (S : Sc) (w : World) : Prop :=
  ∃ β' w', β.le β' ∧ RH E β' h' S w' ∧ Fr S w w' ∧ ((∃ v', s.run P w = .ok (.value v') w' ∧ VR β' v v') ∨ (s.run P w = .ok .skip w' ∧ v = junk))

def Sim (E : Env) (P : Program) (o : Oper) (tm : List Value) (h : H) (v : Value) (h' : H) : Prop :=
  ∀ β S w (a : Act), TmR β tm a → RH E β h S w → Res E P (execOp a.eval o) v h' β S w

theorem Res.same {E : Env} {P : Program} {s : Sem Next} {v v' : Value} {h : H} {β : Beta} {S : Sc} {w : World} (r : RH E β h S w)
    (e : s.run P w = .ok (.value v') w) (hv : VR β v v') : Res E P s v h β S w := ⟨β, w, Beta.le_refl β, r, Fr.refl S w, .inl ⟨v', e, hv⟩⟩

variable {R : Type} {E : Env} {P : Program} {C : CF} {L : LF} {o : Oper} {tm : List Value} {h : H} {K : Value → H → Option R} {res : R}

theorem sim_move (x : Operand) (ho : o.op = .move x ∨ o.op = .assign x) : Sim E P o tm h (opv E tm x) h := fun β S w a ht r =>
  Res.same r (v' := a.eval x) (by rcases ho with e | e <;> simp [execOp, e]) (opv_rel r ht x)

theorem asP_some {v : Value} {b q : Nat} (e : asP v = some (b, q)) : v = ptr b q := by
  unfold asP at e
  split at e
  · cases e; rfl
  · cases e

theorem sim_nilCheck {x : Operand} (ho : o.op = .nilCheck x) {b q : Nat} (e : asP (opv E tm x) = some (b, q)) : Sim E P o tm h (ptr b q) h := fun β S w a ht r => by
  have hv := opv_rel r ht x
  rw [asP_some e] at hv
  obtain ⟨y, hy, hp⟩ := hv.ptr_inv
  exact Res.same r (v' := ptr y.blk (y.off + q)) (by simp [execOp, ho, hp]) (.cptr b q y hy)

theorem runI {t : Nat} {f : TypeInfo} (hi : P.info? t = some f) (w : World) : (sizeOf t).run P w = .ok f.size w := by simp [sizeOf, typeInfo, hi]

theorem run_isAgg {t : Nat} {i : TI} (hok : TyOK P t i) (w : World) : (isAgg t).run P w = .ok (aggT i.ty) w := by
  have hu := hok.und
  cases hty : i.ty with
  | other => rw [hty] at hu; exact hu.elim
  | struct fs => rw [hty] at hu; obtain ⟨a, h1, _⟩ := hu; simp [isAgg, run_underlying h1, aggT]
  | ptr => rw [hty] at hu; obtain ⟨a, h1⟩ := hu; simp [isAgg, run_underlying h1, aggT]
  | func => rw [hty] at hu; obtain ⟨a, b, c, h1⟩ := hu; simp [isAgg, run_underlying h1, aggT]
  | iface => rw [hty] at hu; obtain ⟨a, h1⟩ := hu; simp [isAgg, run_underlying h1, aggT]
  | _ => rw [hty] at hu; simp [isAgg, run_underlying (show P.underlying t = some _ from hu), aggT]

theorem run_loadVar_one {t : Nat} {i : TI} (hok : TyOK P t i) (ha : aggT i.ty = false) {w : World} {p : Addr} {v : Value} (hc : w.cell? p = some v) :
    (loadVar t p).run P w = .ok v w := by
  simp only [loadVar, Sem.run_bind, run_isAgg hok, ha, Result.andThen_ok, Bool.false_eq_true, if_false]
  rw [run_load]
  simp [hc]

theorem run_loadVar_agg {t : Nat} {i : TI} (hok : TyOK P t i) (ha : aggT i.ty = true) {w : World} {b q : Nat} {l : List Value} (hl : l.length = i.size)
    (hc : ∀ (j : Nat) (v : Value), l[j]? = some v → w.cell? ⟨b, q + j, none⟩ = some v) : (loadVar t ⟨b, q, none⟩).run P w = .ok (.agg ⟨l⟩) w := by
  obtain ⟨f, hf, hs, _⟩ := hok.inf
  have hadd : ∀ j, (⟨b, q, none⟩ : Addr).add j = ⟨b, q + j, none⟩ := fun j => by unfold Addr.add; split <;> simp_all
  have hl2 := run_loadCells_list (P := P) w ⟨b, q, none⟩ l (fun j v hv => by rw [hadd]; exact hc j v hv)
  simp only [loadVar, Sem.run_bind, run_isAgg hok, ha, Result.andThen_ok, if_true, runI hf, hs, ← hl, hl2, Sem.run_pure]

theorem sim_load (hE : EnvOK P E) {t : Nat} {x : Operand} (ho : o.op = .load t x) (hk : stepK E C L o tm h K = some res) : ∃ v h', K v h' = some res ∧ Sim E P o tm h v h' := by
  simp only [stepK, ho] at hk
  obtain ⟨⟨b, q⟩, hp, hk⟩ := Option.bind_eq_some_iff.1 hk
  cases hi : E.tys.get t with
  | none => simp [hi] at hk
  | some i =>
    simp only [hi] at hk
    have hok := hE.tys t i hi
    -- one cell
    have one1 : aggT i.ty = false → ∀ v, cellAt h b q = some v → Sim E P o tm h v h := by
      intro ha v hv β S w a ht r
      have hx := opv_rel r ht x
      rw [asP_some hp] at hx
      obtain ⟨y, hy, hpe⟩ := hx.ptr_inv
      obtain ⟨v', hc, hvr⟩ := r.cellAt hv hy
      exact Res.same r (v' := v') (by simp [execOp, ho, Instr.loadAt, Instr.sureAddr, hpe, run_loadVar_one hok ha hc]) hvr
    have agg1 : aggT i.ty = true → ∀ l, cellsAt h b q i.size = some l → Sim E P o tm h (.agg ⟨l⟩) h := by
      intro ha l hv β S w a ht r
      have hx := opv_rel r ht x
      rw [asP_some hp] at hx
      obtain ⟨y, hy, hpe⟩ := hx.ptr_inv
      obtain ⟨_, l', hl', hvl, hc⟩ := r.cellsAt hv hy
      exact Res.same r (v' := .agg ⟨l'⟩) (by simp [execOp, ho, Instr.loadAt, Instr.sureAddr, hpe, run_loadVar_agg hok ha hl' hc]) hvl.agg
    have vcase : aggT i.ty = false → ((ldV h b q).bind fun v => K v h) = some res → ∃ v h', K v h' = some res ∧ Sim E P o tm h v h' := by
      intro ha hk
      obtain ⟨v, hv, hk⟩ := Option.bind_eq_some_iff.1 hk
      unfold ldV at hv
      obtain ⟨u, hu, hv⟩ := Option.bind_eq_some_iff.1 hv
      split at hv
      · cases hv; exact ⟨_, _, hk, one1 ha _ hu⟩
      · cases hv
    cases hty : i.ty with
    | int k =>
      simp only [hty] at hk
      obtain ⟨n, hn, hk⟩ := Option.bind_eq_some_iff.1 hk
      obtain ⟨u, hu, hn⟩ := Option.bind_eq_some_iff.1 hn
      unfold asI at hn
      split at hn
      · split at hn
        · rename_i hkk; cases hn; subst hkk
          exact ⟨_, _, hk, one1 (by simp [hty, aggT]) _ hu⟩
        · cases hn
      · cases hn
    | bool =>
      simp only [hty] at hk
      obtain ⟨n, hn, hk⟩ := Option.bind_eq_some_iff.1 hk
      obtain ⟨u, hu, hn⟩ := Option.bind_eq_some_iff.1 hn
      unfold asB at hn
      split at hn
      · cases hn; exact ⟨_, _, hk, one1 (by simp [hty, aggT]) _ hu⟩
      · cases hn
    | string =>
      simp only [hty] at hk
      obtain ⟨n, hn, hk⟩ := Option.bind_eq_some_iff.1 hk
      obtain ⟨u, hu, hn⟩ := Option.bind_eq_some_iff.1 hn
      unfold asS at hn
      split at hn
      · cases hn; exact ⟨_, _, hk, one1 (by simp [hty, aggT]) _ hu⟩
      · cases hn
    | struct fs =>
      simp only [hty] at hk
      obtain ⟨v, hv, hk⟩ := Option.bind_eq_some_iff.1 hk
      unfold ldA at hv
      obtain ⟨l, hl, hv⟩ := Option.map_eq_some_iff.1 hv
      subst hv
      exact ⟨_, _, hk, agg1 (by simp [hty, aggT]) l hl⟩
    | array n e =>
      simp only [hty] at hk
      obtain ⟨v, hv, hk⟩ := Option.bind_eq_some_iff.1 hk
      unfold ldA at hv
      obtain ⟨l, hl, hv⟩ := Option.map_eq_some_iff.1 hv
      subst hv
      exact ⟨_, _, hk, agg1 (by simp [hty, aggT]) l hl⟩
    | float => simp only [hty] at hk; exact vcase (by simp [hty, aggT]) hk
    | complex => simp only [hty] at hk; exact vcase (by simp [hty, aggT]) hk
    | ptr => simp only [hty] at hk; exact vcase (by simp [hty, aggT]) hk
    | slice e => simp only [hty] at hk; exact vcase (by simp [hty, aggT]) hk
    | map k e => simp only [hty] at hk; exact vcase (by simp [hty, aggT]) hk
    | func => simp only [hty] at hk; exact vcase (by simp [hty, aggT]) hk
    | iface => simp only [hty] at hk; exact vcase (by simp [hty, aggT]) hk
    | tuple ts => simp only [hty] at hk; exact vcase (by simp [hty, aggT]) hk
    | other => simp [hty] at hk

end Go.Arm
namespace Go.Arm
variable {R : Type} {E : Env} {P : Program} {C : CF} {L : LF} {o : Oper} {tm : List Value} {h : H} {K : Value → H → Option R} {res : R}

/-- a value that fits is no junk -/
theorem VR.cells' {β : Beta} {v v' : Value} (h : VR β v v') (hc : ∀ u ∈ v.cells.toList, Arm.one u = true) : VL β v.cells.toList v'.cells.toList :=
  h.cells (fun e => by
    subst e
    have := hc (.tuple #[]) (by simp [Value.cells])
    simp [Arm.one] at this)

theorem stC_one {h h' : H} {b q : Nat} {vs : List Value} (e : stC h b q vs = some h') : ∀ u ∈ vs, one u = true := by
  unfold stC at e
  split at e
  · split at e
    · rename_i hc
      simp only [Bool.and_eq_true, List.all_eq_true] at hc
      exact hc.2
    · cases e
  · cases e

theorem sim_store (hE : EnvOK P E) {t : Nat} {x y : Operand} (ho : o.op = .store t x y) (hk : stepK E C L o tm h K = some res) : ∃ v h', K v h' = some res ∧ Sim E P o tm h v h' := by
  simp only [stepK, ho] at hk
  obtain ⟨⟨b, q⟩, hp, hk⟩ := Option.bind_eq_some_iff.1 hk
  cases hi : E.tys.get t with
  | none => simp [hi] at hk
  | some i =>
    simp only [hi] at hk
    obtain ⟨h', hst, hk⟩ := Option.bind_eq_some_iff.1 hk
    refine ⟨_, _, hk, fun β S w a ht r => ?_⟩
    have hok := hE.tys t i hi
    obtain ⟨f, hf, hs, _⟩ := hok.inf
    unfold stV at hst
    split at hst
    · rename_i hsz
      have hx := opv_rel r ht x
      rw [asP_some hp] at hx
      obtain ⟨z, hz, hpe⟩ := hx.ptr_inv
      have hv := opv_rel r ht y
      have hvl := hv.cells' (stC_one hst)
      obtain ⟨hc, hfz, h1, hS, r'⟩ := r.stC hst hvl hz
      have hsz' : (a.eval y).cells.size = f.size := by rw [hs, ← hsz]; have := hvl.1; simpa using this.symm
      have hrun := run_storeCells_cells (P := P) z.blk (z.off + q) (a.eval y).cells.toList 0 w (by simpa using hc) (by simpa using hfz) h1
      refine ⟨β, _, Beta.le_refl β, r', Fr.setCells w z.blk hS _ _, .inr ⟨?_, rfl⟩⟩
      simp only [execOp, ho, Instr.storeAt, hpe, Instr.sureAddr, storeVar, Sem.run_bind, Sem.run_pure, Result.andThen_ok, runI hf]
      simp only [hsz', ne_eq, not_true_eq_false, if_false]
      rw [show (storeCells ⟨z.blk, z.off + q, none⟩ (a.eval y).cells.toList).run P w = _ from hrun]
      rfl
    · cases hst

theorem Res.new {s : Sem Next} {β : Beta} {S : Sc} {w : World} (r : RH E β h S w) {cs cs' : List Value} (e : TypeId) (hv : VL β cs cs')
    (hs : s.run P w = .ok (.value (ptr w.heap.size 0)) (w.alloc (.cells ⟨cs'⟩ e))) : Res E P s (ptr h.next 0) (h.new (.cells cs e true false)) β S w := by
  obtain ⟨x, hx, hx0, _, r'⟩ := r.newCells e e hv
  refine ⟨β.set h.next x, _, Beta.le_set x (r.fresh _ (Nat.le_refl _)), r', Fr.alloc w _ r.up, .inl ⟨_, hs, ?_⟩⟩
  have := VR.cptr (β := β.set h.next x) h.next 0 x (Beta.set_same _ _ _)
  rw [hx, hx0] at this
  exact this

theorem VL.refl_closed (β : Beta) {l : List Value} (h : ∀ v ∈ l, closed v = true) : VL β l l :=
  ⟨rfl, fun i u u' a b => by rw [a] at b; cases b; exact .closed β (h u (List.mem_of_getElem? a))⟩

theorem sim_alloc (hE : EnvOK P E) {e : Nat} (ho : o.op = .alloc e) (hk : stepK E C L o tm h K = some res) : ∃ v h', K v h' = some res ∧ Sim E P o tm h v h' := by
  simp only [stepK, ho] at hk
  cases hi : E.tys.get e with
  | none => simp [hi] at hk
  | some i =>
    simp only [hi] at hk
    split at hk
    · rename_i hc
      simp only [Bool.and_eq_true, Bool.not_eq_true'] at hc
      refine ⟨_, _, hk, fun β S w a ht r => ?_⟩
      have hok := hE.tys e i hi
      obtain ⟨f, hf, hs, _, hz⟩ := hok.inf
      obtain ⟨z, hz1, hz2⟩ := hz hc.2
      refine Res.new r e (VL.refl_closed β hok.cl) ?_
      simp [execOp, ho, Instr.alloc, zeroValue, typeInfo, hf, hz1, newVar, newRow, hz2]
    · cases hk

theorem run_box {e : TypeId} {v : Value} (w : World) : (Instr.box e v).run P w = .ok (ptr w.heap.size 0) (w.alloc (.cells v.cells e)) := by
  simp [Instr.box, newVar, newRow]

theorem oneL_some {l l' : List Value} (e : oneL l = some l') : l' = l ∧ ∀ u ∈ l, one u = true := by
  unfold oneL at e
  split at e
  · rename_i h; cases e; exact ⟨rfl, by simpa [List.all_eq_true] using h⟩
  · cases e

theorem cells_one {v : Value} (h : one v = true) : v.cells.toList = [v] := by
  cases v <;> first | rfl | (simp [one] at h)

theorem sim_box {e : Nat} {x : Operand} (ho : o.op = .box e x) (hk : stepK E C L o tm h K = some res) : ∃ v h', K v h' = some res ∧ Sim E P o tm h v h' := by
  simp only [stepK, ho] at hk
  cases hi : E.tys.get e with
  | none => simp [hi] at hk
  | some i =>
    simp only [hi] at hk
    have base : ∀ l, (opv E tm x).cells.toList = l → (∀ u ∈ l, one u = true) → Sim E P o tm h (ptr h.next 0) (h.new (.cells l e true false)) := by
      intro l hl h1 β S w a ht r
      subst hl
      refine Res.new r e ((opv_rel r ht x).cells' h1) ?_
      simp only [execOp, ho, Sem.run_bind, run_box, Result.andThen_ok, Sem.run_pure]
    have agg1 : ((oneL (opv E tm x).cells.toList).bind fun l => K (ptr h.next 0) (h.new (.cells l e true false))) = some res → ∃ v h', K v h' = some res ∧ Sim E P o tm h v h' := by
      intro hk
      obtain ⟨l, hl, hk⟩ := Option.bind_eq_some_iff.1 hk
      obtain ⟨rfl, h1⟩ := oneL_some hl
      exact ⟨_, _, hk, base _ rfl h1⟩
    have one1 : cond (one (opv E tm x)) (K (ptr h.next 0) (h.new (.cells [opv E tm x] e true false))) none = some res → ∃ v h', K v h' = some res ∧ Sim E P o tm h v h' := by
      intro hk
      cases h1 : one (opv E tm x) with
      | false => simp [h1] at hk
      | true => simp only [h1, cond_true] at hk; exact ⟨_, _, hk, base _ (cells_one h1) (by simpa using h1)⟩
    split at hk
    · exact agg1 hk
    · exact agg1 hk
    · exact one1 hk

/-! ### addresses -/
theorem add_eq (b q n : Nat) : (⟨b, q, none⟩ : Addr).add n = ⟨b, q + n, none⟩ := by unfold Addr.add; split <;> simp_all

theorem sim_fieldAddr (hE : EnvOK P E) {t f : Nat} {x : Operand} (ho : o.op = .fieldAddr t x f) (hk : stepK E C L o tm h K = some res) : ∃ v h', K v h' = some res ∧ Sim E P o tm h v h' := by
  simp only [stepK, ho] at hk
  split at hk
  · rename_i i sz by_ ze fs hi
    split at hk
    · rename_i off ft hfs
      split at hk
      · rename_i j hj
        split at hk
        · cases hk
        · rename_i hsz
          obtain ⟨⟨b, q⟩, hp, hk⟩ := Option.bind_eq_some_iff.1 hk
          refine ⟨_, _, hk, fun β S w a ht r => ?_⟩
          have hx := opv_rel r ht x
          rw [asP_some hp] at hx
          obtain ⟨z, hz, hpe⟩ := hx.ptr_inv
          obtain ⟨fl, hu, hfl⟩ := (hE.tys t _ hi).und
          obtain ⟨g, hg, hgs, _⟩ := (hE.tys ft j hj).inf
          have hfg : ∃ fd : Field, fl[f]? = some fd ∧ fd.offset = off ∧ fd.type = ft := by
            rw [← hfl, List.getElem?_map] at hfs
            obtain ⟨fd, h1, h2⟩ := Option.map_eq_some_iff.1 hfs
            cases h2
            exact ⟨fd, by simpa using h1, rfl, rfl⟩
          obtain ⟨fd, hfd, rfl, rfl⟩ := hfg
          refine Res.same r (v' := ptr z.blk (z.off + (q + fd.offset))) ?_ (.cptr b (q + fd.offset) z hz)
          simp [execOp, ho, Instr.fieldAt, run_underlying hu, hfd, hpe, Instr.sureAddr, fieldPlace, runI hg, hgs, hsz, add_eq, Nat.add_assoc]
      · cases hk
    · cases hk
  · cases hk

theorem cond_some {α : Type} {b : Bool} {x : Option α} {r : α} (h : cond b x none = some r) : b = true ∧ x = some r := by
  cases b
  · simp at h
  · exact ⟨rfl, h⟩

theorem run_asIntOf (k : IntKind) (n : Int) (w : World) : (asIntOf (.int k n)).run P w = .ok (k, n) w := rfl

theorem idx_some {esz : Nat} {v : Value} {i : Int} {b q : Nat} (e : idx esz v i = some (b, q)) : ∃ q0 n c, v = .slice (some ⟨b, q0, none⟩) n c ∧ 0 ≤ i ∧ i < n ∧ q = q0 + i.toNat * esz := by
  unfold idx at e
  split at e
  · rename_i b' q' n c j
    split at e
    · rename_i hc; cases e; exact ⟨_, _, _, rfl, hc.1, hc.2, rfl⟩
    · cases e
  · cases e

theorem VR.slice_inv {β : Beta} {b q n c : Nat} {v' : Value} (h : VR β (.slice (some ⟨b, q, none⟩) n c) v') (hn : 0 < n) :
    ∃ x c', β b = some x ∧ n ≤ c ∧ CapOK x q c c' ∧ v' = .slice (some ⟨x.blk, x.off + q, none⟩) n c' := by
  cases h with
  | clit _ h => simp [Arm.lit] at h
  | slice _ _ _ _ c' x h hn' hc => exact ⟨x, c', h, hn', hc, rfl⟩
  | sempty _ _ _ => omega

theorem sim_indexAddr (hE : EnvOK P E) {t : Nat} {x y : Operand} (ho : o.op = .indexAddr t x y) (hk : stepK E C L o tm h K = some res) : ∃ v h', K v h' = some res ∧ Sim E P o tm h v h' := by
  simp only [stepK, ho] at hk
  split at hk
  · rename_i i k j hi hy
    split at hk
    · rename_i n e hty
      split at hk
      · rename_i q0 hq
        obtain ⟨⟨b, q⟩, hp, hk⟩ := Option.bind_eq_some_iff.1 hk
        obtain ⟨hc, hk⟩ := cond_some hk
        simp only [Bool.and_eq_true, decide_eq_true_eq] at hc
        refine ⟨_, _, hk, fun β S w a ht r => ?_⟩
        have hx := opv_rel r ht x
        rw [asP_some hp] at hx
        obtain ⟨z, hz, hpe⟩ := hx.ptr_inv
        have hyv := opv_rel r ht y
        rw [hy] at hyv
        have hye := hyv.int_inv
        have hu := (hE.tys t _ hi).und
        rw [hty] at hu
        obtain ⟨g, hg, hgs, _⟩ := (hE.tys e q0 hq).inf
        refine Res.same r (v' := ptr z.blk (z.off + (q + j.toNat * q0.size))) ?_ (.cptr b _ z hz)
        simp [execOp, ho, Instr.indexAt, hye, run_asIntOf, run_underlying (show P.underlying t = some (.array n e) from hu), hpe, Instr.sureAddr, hc.1, hc.2, runI hg, hgs, add_eq, Nat.add_assoc]
      · cases hk
    · rename_i e hty
      split at hk
      · rename_i q0 hq
        obtain ⟨⟨b, q⟩, hp, hk⟩ := Option.bind_eq_some_iff.1 hk
        refine ⟨_, _, hk, fun β S w a ht r => ?_⟩
        obtain ⟨q1, n, c, hv, h0, hlt, rfl⟩ := idx_some hp
        have hx := opv_rel r ht x
        rw [hv] at hx
        obtain ⟨z, c', hz, _, _, hxe⟩ := hx.slice_inv (by omega)
        have hyv := opv_rel r ht y
        rw [hy] at hyv
        have hye := hyv.int_inv
        have hu := (hE.tys t _ hi).und
        rw [hty] at hu
        obtain ⟨g, hg, hgs, _⟩ := (hE.tys e q0 hq).inf
        refine Res.same r (v' := ptr z.blk (z.off + (q1 + j.toNat * q0.size))) ?_ (.cptr b _ z hz)
        simp [execOp, ho, Instr.indexAt, hye, run_asIntOf, run_underlying (show P.underlying t = some (.slice e) from hu), hxe, h0, hlt, runI hg, hgs, add_eq, Nat.add_assoc]
      · cases hk
    · cases hk
  · cases hk

/-! ### parts -/
theorem sim_extract {x : Operand} {n : Nat} (ho : o.op = .extract x n) (hk : stepK E C L o tm h K = some res) : ∃ v h', K v h' = some res ∧ Sim E P o tm h v h' := by
  simp only [stepK, ho] at hk
  split at hk
  · rename_i vs hx
    split at hk
    · rename_i v hv
      refine ⟨_, _, hk, fun β S w a ht r => ?_⟩
      have hxv := opv_rel r ht x
      rw [hx] at hxv
      obtain ⟨vs', he, hvl⟩ := hxv.tuple_inv (by rintro rfl; simp at hv)
      have hlt : n < vs'.toList.length := by rw [← hvl.1]; exact (List.getElem?_eq_some_iff.1 hv).1
      have hg : vs'[n]? = some vs'.toList[n] := by simp
      refine Res.same r (v' := vs'.toList[n]) ?_ (hvl.2 n v _ hv (List.getElem?_eq_getElem hlt))
      simp only [execOp, ho, he, Instr.extract, hg, Sem.run_bind, Sem.run_pure, Result.andThen_ok]
    · cases hk
  · cases hk

theorem sim_makeInterface (hE : EnvOK P E) {t : Nat} {x : Operand} (ho : o.op = .makeInterface t x) (hu : ∃ i, E.tys.get t = some i ∧ (i.ty matches .iface → False)) : Sim E P o tm h (.iface t (opv E tm x)) h := by
  intro β S w a ht r
  obtain ⟨i, hi, hni⟩ := hu
  have hok := (hE.tys t i hi).und
  refine Res.same r (v' := .iface t (a.eval x)) ?_ (.iface t _ _ (opv_rel r ht x))
  cases hty : i.ty with
  | iface => rw [hty] at hni; simp at hni
  | other => rw [hty] at hok; exact hok.elim
  | struct fs => rw [hty] at hok; obtain ⟨z, h1, _⟩ := hok; simp [execOp, ho, Instr.makeInterface, run_underlying h1]
  | ptr => rw [hty] at hok; obtain ⟨z, h1⟩ := hok; simp [execOp, ho, Instr.makeInterface, run_underlying h1]
  | func => rw [hty] at hok; obtain ⟨z, y, x, h1⟩ := hok; simp [execOp, ho, Instr.makeInterface, run_underlying h1]
  | _ => rw [hty] at hok; simp [execOp, ho, Instr.makeInterface, run_underlying (show P.underlying t = some _ from hok)]

theorem map_rel {β : Beta} {S : Sc} {w : World} (r : RH E β h S w) {a : Act} (ht : TmR β tm a) (l : List Operand) : VL β (l.map (opv E tm)) (l.map a.eval) := by
  induction l with
  | nil => exact .nil β
  | cons x l ih => exact .cons (opv_rel r ht x) ih

theorem VL.func {β : Beta} {f : Nat} {a b a' b' : List Value} (ha : VL β a a') (hb : VL β b b') : VR β (.func (.func f) ⟨a⟩ ⟨b⟩) (.func (.func f) ⟨a'⟩ ⟨b'⟩) :=
  .func f _ _ _ _ (by simpa using ha.1) (by simpa using hb.1) (fun i u u' x y => ha.2 i u u' (by simpa using x) (by simpa using y)) (fun i u u' x y => hb.2 i u u' (by simpa using x) (by simpa using y))

theorem sim_makeFunc {fn : Fn} {x y : Array Operand} (ho : o.op = .makeFunc fn x y) (hk : stepK E C L o tm h K = some res) : ∃ v h', K v h' = some res ∧ Sim E P o tm h v h' := by
  simp only [stepK, ho] at hk
  split at hk
  · rename_i f
    refine ⟨_, _, hk, fun β S w a ht r => ?_⟩
    refine Res.same r (v' := .func (.func f) ⟨x.toList.map a.eval⟩ ⟨y.toList.map a.eval⟩) ?_ (VL.func (map_rel r ht _) (map_rel r ht _))
    have hx : x.map a.eval = ⟨x.toList.map a.eval⟩ := by apply Array.ext'; simp
    have hy : y.map a.eval = ⟨y.toList.map a.eval⟩ := by apply Array.ext'; simp
    simp only [execOp, ho, Instr.makeFunc, hx, hy, Sem.run_bind, Sem.run_pure, Result.andThen_ok]
  · cases hk

theorem BlkOK.newMap {β : Beta} {S : Sc} {w : World} {id : Nat} (hS : S w.heap.size) : BlkOK E (β.set id ⟨w.heap.size, 0, 0, 0, 0, false⟩) S (w.alloc (.map #[] 0)) ⟨w.heap.size, 0, 0, 0, 0, false⟩ (.map [] 0) :=
  ⟨hS, #[], heap_alloc_at _ _, rfl, by simp⟩

theorem sim_makeMap (hE : EnvOK P E) {t : Nat} {x : Option Operand} (ho : o.op = .makeMap t x) (hk : stepK E C L o tm h K = some res) : ∃ v h', K v h' = some res ∧ Sim E P o tm h v h' := by
  simp only [stepK, ho] at hk
  have base : (∀ (a : Act) (β : Beta) S w, TmR β tm a → RH E β h S w → (execOp a.eval o).run P w = .ok (.value (.map (some w.heap.size))) (w.alloc (.map #[] 0))) → Sim E P o tm h (.map (some h.next)) (h.new (.map [] 0)) := by
    intro hrun β S w a ht r
    have hf := r.fresh _ (Nat.le_refl _)
    refine ⟨β.set h.next ⟨w.heap.size, 0, 0, 0, 0, false⟩, _, Beta.le_set _ hf, r.add h.next _ _ _ (H.get_next h) hf (by simp [H.next_new]) (by simp [H.next_new]) (get_new h _) rfl (BlkOK.newMap (r.up _ (Nat.le_refl _))), Fr.alloc w _ r.up, .inl ⟨_, hrun a β S w ht r, ?_⟩⟩
    exact VR.map h.next ⟨w.heap.size, 0, 0, 0, 0, false⟩ (Beta.set_same _ _ _)
  split at hk
  case h_2 => cases hk
  rename_i sz by_ ze kt et hi
  have hm : ∃ k e, P.underlying t = some (.map k e) := ⟨_, _, (hE.tys t _ hi).und⟩
  split at hk
  · exact ⟨_, _, hk, base fun a β S w _ _ => by simp [execOp, ho, Instr.makeMap]⟩
  · rename_i y
    split at hk
    · rename_i k n hy
      refine ⟨_, _, hk, base fun a β S w ht r => ?_⟩
      have hyv := opv_rel r ht y
      rw [hy] at hyv
      obtain ⟨kk, e, hu⟩ := hm
      simp [execOp, ho, Instr.makeMap, hyv.int_inv, run_underlying hu, asInt, run_asIntOf]
    · cases hk

end Go.Arm
