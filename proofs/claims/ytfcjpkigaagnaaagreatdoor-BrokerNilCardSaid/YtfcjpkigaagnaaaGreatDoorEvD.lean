/- PART EvD of a proof by an evaluator of the model that is proved sound. -/
import GoSem.Step
import Derived.Orders
set_option linter.unusedVariables false
set_option linter.unusedSimpArgs false
namespace Go.Ev
open Go

/-- Finite maps on numbers. -/
inductive T (α : Type) where
  | leaf
  | node (l : T α) (v : Option α) (r : T α)
noncomputable def T.get {α : Type} (t : T α) : Nat → Option α :=
  T.rec (motive := fun _ => Nat → Option α) (fun _ => none)
    (fun _ v _ ihl ihr i => Nat.rec (motive := fun _ => Option α) v
      (fun j _ => Bool.rec (motive := fun _ => Option α) (ihr (Nat.div j 2)) (ihl (Nat.div j 2)) (Nat.beq (Nat.mod j 2) 0)) i) t
noncomputable def T.setF {α : Type} (f : Nat) : T α → Nat → α → T α :=
  Nat.rec (motive := fun _ => T α → Nat → α → T α) (fun t _ _ => t)
    (fun _ ih t i x => T.rec (motive := fun _ => T α)
      (Nat.rec (motive := fun _ => T α) (.node .leaf (some x) .leaf)
        (fun j _ => Bool.rec (motive := fun _ => T α) (.node .leaf none (ih .leaf (Nat.div j 2) x)) (.node (ih .leaf (Nat.div j 2) x) none .leaf) (Nat.beq (Nat.mod j 2) 0)) i)
      (fun l v r _ _ => Nat.rec (motive := fun _ => T α) (.node l (some x) r)
        (fun j _ => Bool.rec (motive := fun _ => T α) (.node l v (ih r (Nat.div j 2) x)) (.node (ih l (Nat.div j 2) x) v r) (Nat.beq (Nat.mod j 2) 0)) i) t) f
noncomputable def T.set {α : Type} (t : T α) (i : Nat) (x : α) : T α := T.setF (Nat.succ i) t i x

inductive AObj where
  | cells (c : List Value) (elem : TypeId)
  | map (es : List MapEntry) (clock : Nat)
  | iter (m : Option Nat) (since : Nat) (seen : List Nat) (stepped : Nat)
  | dead
  deriving Inhabited

/-- What may be looked at: nothing within these ranges; nothing but these, where they are given. -/
structure Mask where
  deny : List (Nat × Nat)
  only : Option (List Nat)
structure St where
  heap : T AObj
  next : Nat
  low : Nat
  mask : Mask

def E (α : Type) : Type := St → Option (α × St)
def E.bind {α β : Type} (m : E α) (f : α → E β) : E β := fun s => match m s with
  | none => none
  | some (a, s) => f a s
instance : Monad E := { pure := fun a s => some (a, s), bind := E.bind }
def fail {α : Type} : E α := fun _ => none
instance {α : Type} : Inhabited (E α) := ⟨fail⟩
def opt {α : Type} : Option α → E α
  | some a => fun s => some (a, s)
  | none => fun _ => none
def denied : List (Nat × Nat) → Nat → Bool
  | [], _ => false
  | (a, b) :: l, x => (Nat.ble a x && Nat.ble (Nat.succ x) b) || denied l x
def among : List Nat → Nat → Bool
  | [], _ => false
  | a :: l, x => Nat.beq a x || among l x
def masked (m : Mask) (x : Nat) : Bool :=
  denied m.deny x || (match m.only with | none => false | some l => !among l x)
noncomputable def rd (x : Nat) : E AObj := fun s =>
  bif masked s.mask x then none else
  match s.heap.get x with
  | none => none
  | some o => match o with
    | .dead => none
    | o => some (o, s)
noncomputable def wr (x : Nat) (o : AObj) : E Unit := fun s =>
  bif Nat.ble x 4095 || masked s.mask x then none else
  match s.heap.get x with
  | none => none
  | some o' => match o' with
    | .dead => none
    | _ => some ((), { heap := s.heap.set x o, next := s.next, low := Nat.min s.low x, mask := s.mask })
noncomputable def nw (o : AObj) : E Nat := fun s => some (s.next, { heap := s.heap.set s.next o, next := Nat.succ s.next, low := s.low, mask := s.mask })

def flat : Value → Bool
  | .bool _ | .int .. | .string _ | .float .. | .complex .. | .pointer none | .slice none 0 0 | .map none | .nilFunc | .nilIface => true
  | _ => false
def wrapK (k : IntKind) (n : Int) : Int :=
  match k with
  | .u8 => Int.emod n (.ofNat 256)
  | .u16 => Int.emod n (.ofNat 65536)
  | .u32 => Int.emod n (.ofNat 4294967296)
  | .u64 => Int.emod n (.ofNat 18446744073709551616)
  | .i8 => match Int.emod n (.ofNat 256) with | .ofNat m => bif Nat.blt m 128 then .ofNat m else Int.sub (.ofNat m) (.ofNat 256) | m => m
  | .i16 => match Int.emod n (.ofNat 65536) with | .ofNat m => bif Nat.blt m 32768 then .ofNat m else Int.sub (.ofNat m) (.ofNat 65536) | m => m
  | .i32 => match Int.emod n (.ofNat 4294967296) with | .ofNat m => bif Nat.blt m 2147483648 then .ofNat m else Int.sub (.ofNat m) (.ofNat 4294967296) | m => m
  | .i64 => match Int.emod n (.ofNat 18446744073709551616) with | .ofNat m => bif Nat.blt m 9223372036854775808 then .ofNat m else Int.sub (.ofNat m) (.ofNat 18446744073709551616) | m => m
def eqI : Int → Int → Bool
  | .ofNat a, .ofNat b => Nat.beq a b
  | .negSucc a, .negSucc b => Nat.beq a b
  | _, _ => false
def ltI : Int → Int → Bool
  | .ofNat a, .ofNat b => Nat.blt a b
  | .negSucc a, .negSucc b => Nat.blt b a
  | .negSucc _, .ofNat _ => true
  | .ofNat _, .negSucc _ => false
def leI : Int → Int → Bool
  | .ofNat a, .ofNat b => Nat.ble a b
  | .negSucc a, .negSucc b => Nat.ble b a
  | .negSucc _, .ofNat _ => true
  | .ofNat _, .negSucc _ => false
def kNum : IntKind → Nat
  | .i8 => 0 | .i16 => 1 | .i32 => 2 | .i64 => 3 | .u8 => 4 | .u16 => 5 | .u32 => 6 | .u64 => 7
def kBits : IntKind → Nat
  | .i8 => 8 | .i16 => 16 | .i32 => 32 | .i64 => 64 | .u8 => 8 | .u16 => 16 | .u32 => 32 | .u64 => 64
def kMod : IntKind → Nat
  | .i8 => 256 | .i16 => 65536 | .i32 => 4294967296 | .i64 => 18446744073709551616 | .u8 => 256 | .u16 => 65536 | .u32 => 4294967296 | .u64 => 18446744073709551616
def fastSame (op : BinOp) (k : IntKind) (x y : Int) : Option Value :=
  match op with
  | .add => some (.int k (wrapK k (Int.add x y)))
  | .sub => some (.int k (wrapK k (Int.sub x y)))
  | .mul => some (.int k (wrapK k (Int.mul x y)))
  | .eql => some (.bool (eqI x y))
  | .neq => some (.bool (Bool.not (eqI x y)))
  | .lss => some (.bool (ltI x y))
  | .leq => some (.bool (leI x y))
  | .gtr => some (.bool (ltI y x))
  | .geq => some (.bool (leI y x))
  | .and => match x, y with | .ofNat a, .ofNat b => some (.int k (wrapK k (.ofNat (Nat.land (Nat.mod a (kMod k)) (Nat.mod b (kMod k)))))) | _, _ => none
  | .or => match x, y with | .ofNat a, .ofNat b => some (.int k (wrapK k (.ofNat (Nat.lor (Nat.mod a (kMod k)) (Nat.mod b (kMod k)))))) | _, _ => none
  | .xor => match x, y with | .ofNat a, .ofNat b => some (.int k (wrapK k (.ofNat (Nat.xor (Nat.mod a (kMod k)) (Nat.mod b (kMod k)))))) | _, _ => none
  | _ => none
def fastInt (op : BinOp) (k : IntKind) (x : Int) (k' : IntKind) (y : Int) : Option Value :=
  match op with
  | .shr => match x, y with
    | .ofNat a, .ofNat b => some (.int k (.ofNat (Nat.shiftRight a (Nat.min b (kBits k)))))
    | _, _ => none
  | .shl => match x, y with
    | .ofNat a, .ofNat b => some (.int k (wrapK k (.ofNat (Nat.shiftLeft a (Nat.min b (kBits k))))))
    | _, _ => none
  | op => bif Nat.beq (kNum k) (kNum k') then fastSame op k x y else none
/-- A value without an address, or a row of such. -/
def flatC (v : Value) : Bool :=
  match v with
  | .agg cs => cs.toList.all flat
  | v => flat v

/-- What a computation that looks at the program alone gives. -/
def evalPure {α : Type} (P : Program) : Sem α → Option α
  | .pure a => some a
  | .program k => evalPure P (k P)
  | _ => none
def isAgg? (P : Program) (t : TypeId) : Option Bool :=
  match P.underlying t with
  | none => none
  | some d => match d with
    | .struct _ | .array _ _ => some true
    | _ => some false
def size? (P : Program) (t : TypeId) : Option Nat := (P.info? t).map (·.size)
def zero? (P : Program) (t : TypeId) : Option Value := (P.info? t).bind (·.zero)
def sliceElem? (P : Program) (t : TypeId) : Option TypeId :=
  match P.underlying t with
  | some (.slice e) => some e
  | _ => none
def take? (c : List Value) (off n : Nat) : Option (List Value) :=
  bif Nat.ble (off + n) c.length then some ((c.drop off).take n) else none
def put? (c : List Value) (off : Nat) (x : List Value) : Option (List Value) :=
  bif Nat.ble (off + x.length) c.length then some (c.take off ++ x ++ c.drop (off + x.length)) else none
/-- The value of one cell. -/
def one : Value → Bool
  | .agg _ | .tuple _ | .chan none => false
  | _ => true

noncomputable def rdCells (x : Nat) : E (List Value × TypeId) := do
  match ← rd x with
  | .cells c e => pure (c, e)
  | _ => fail
noncomputable def rdMap (x : Nat) : E (List MapEntry × Nat) := do
  match ← rd x with
  | .map es k => pure (es, k)
  | _ => fail
/-- An address: its object, and its place within. -/
def place : Value → Option (Nat × Nat)
  | .pointer (some ⟨x, off, none⟩) => some (x, off)
  | _ => none
def ptr (x off : Nat) : Value := .pointer (some ⟨x, off, none⟩)

/-- A value without an address that a computation gives that looks at the program alone. -/
def pureVal (o : Option Value) : E Value :=
  match o with
  | none => fail
  | some v => bif flat v then pure v else fail
abbrev Arm := Program → (FuncId → List Value → E Value) → (Operand → Value) → E Value

noncomputable def doLoad (P : Program) (t : TypeId) (v : Value) : E Value := do
  let (x, off) ← opt (place v)
  let (c, _) ← rdCells x
  match isAgg? P t with
  | none => fail
  | some b => match b with
    | true => do pure (.agg (← opt ((size? P t).bind (take? c off))).toArray)
    | false => opt c[off]?
noncomputable def doStore (P : Program) (t : TypeId) (a v : Value) : E Value := do
  let (x, off) ← opt (place a)
  let (c, e) ← rdCells x
  match size? P t with
  | none => fail
  | some z =>
    bif Nat.beq v.cells.size z && v.cells.toList.all one then do
      wr x (.cells (← opt (put? c off v.cells.toList)) e)
      pure undef
    else fail
noncomputable def newCells (e : TypeId) (c : List Value) : E Value := do pure (ptr (← nw (.cells c e)) 0)

noncomputable def srcCells (size : Nat) : Value → E (Nat × List Value)
  | .slice a n _ => bif Nat.beq n 0 then pure (0, []) else
    match a with
    | some ⟨x, off, none⟩ => do
      let (c, _) ← rdCells x
      pure (n, ← opt (take? c off (n * size)))
    | _ => fail
  | .string s => bif Nat.beq size 1 then pure (s.size, s.data.toList.map fun b => .int .u8 b.toNat) else fail
  | _ => fail
def notInt (P : Program) (ts : Array TypeId) : Bool :=
  match ts[1]? with
  | none => true
  | some xt => match P.underlying xt with
    | none => false
    | some (.int _) => false
    | _ => true
noncomputable def doAppend (P : Program) (ts : Array TypeId) (s x : Value) : E Value :=
  match s with
  | .slice base n k => do
    let st ← opt ts[0]?
    let e ← opt (sliceElem? P st)
    let i ← opt (P.info? e)
    let zero ← opt i.zero
    bif !(notInt P ts) || Nat.beq i.size 0 || Nat.beq i.bytes 0 || Nat.ble 1000 i.bytes || !(Nat.beq zero.cells.size i.size) then fail else do
    let (m, new) ← srcCells i.size x
    bif Nat.beq m 0 then pure (.slice base n k) else
    bif Nat.ble 1000000 (n + m) || !(new.all one) then fail else do
    let old ← (match base with
      | none => bif Nat.beq n 0 then pure [] else fail
      | some ⟨y, off, none⟩ => do
        let (c, _) ← rdCells y
        bif Nat.beq k i.size then do
          let old ← opt (take? c off (n * i.size))
          wr y .dead
          pure old
        else fail
      | some _ => bif Nat.beq n 0 then pure [] else fail)
    let y ← nw (.cells (old ++ new) e)
    pure (.slice (some ⟨y, 0, none⟩) (n + m) i.size)
  | _ => fail
def keyKind (d : TypeDesc) : Bool :=
  match d with
  | .int _ | .string | .bool => true
  | _ => false
def mapTypes? (P : Program) (t : TypeId) : Option (TypeDesc × TypeId) :=
  match P.underlying t with
  | some (.map k e) => match P.underlying k with
    | none => none
    | some d => bif keyKind d then some (d, e) else none
  | _ => none
noncomputable def entries (m : Value) : E (List MapEntry) :=
  match m with
  | .map none => pure []
  | .map (some r) => do pure (← rdMap r).1
  | _ => fail
def keyVal (v : Value) : Bool :=
  match v with
  | .int .. | .string _ | .bool _ => true
  | _ => false
noncomputable def armLookup (t : TypeId) (m k : Operand) (ok : Bool) : Arm := fun P _ ρ => do
  let (kind, e) ← opt (mapTypes? P t)
  let es ← entries (ρ m)
  let found ← opt (bif keyVal (ρ k) then Instr.findNow kind (ρ k) es 0 else none)
  match found with
  | some (_, v) => pure (bif ok then .tuple #[v, .bool true] else v)
  | none => do
    let v ← opt (zero? P e)
    bif flatC v then pure (bif ok then .tuple #[v, .bool false] else v) else fail
noncomputable def armMapUpdate (t : TypeId) (m k v : Operand) : Arm := fun P _ ρ => do
  let (kind, _) ← opt (mapTypes? P t)
  match ρ m with
  | .map (some r) => do
    let (es, clock) ← rdMap r
    let found ← opt (bif keyVal (ρ k) then Instr.findNow kind (ρ k) es 0 else none)
    match found with
    | some (i, _) => wr r (.map (es.modify i fun e => { e with key := ρ k, val := ρ v }) clock)
    | none => wr r (.map (es ++ [{ key := ρ k, val := ρ v, born := clock }]) (Nat.succ clock))
    pure undef
  | _ => fail
noncomputable def doDelete (P : Program) (ts : Array TypeId) (m k : Value) : E Value := do
  let t ← opt ts[0]?
  let (kind, _) ← opt (mapTypes? P t)
  match m with
  | .map (some r) => do
    let (es, clock) ← rdMap r
    let found ← opt (bif keyVal k then Instr.findNow kind k es 0 else none)
    match found with
    | some (i, _) => wr r (.map (es.eraseIdx i) clock)
    | none => wr r (.map es clock)
    pure (.tuple #[])
  | _ => fail
noncomputable def doLen (P : Program) (ts : Array TypeId) (x : Value) : E Value := do
  let t ← opt ts[0]?
  let d ← opt (P.underlying t)
  match d, x with
  | .string, .string s => pure (goInt s.size)
  | .array n _, _ => pure (goInt n)
  | .slice _, .slice _ n _ => pure (goInt n)
  | .map _ _, m => do pure (goInt (← entries m).length)
  | _, _ => fail
def bytesOf? : List Value → Option (List UInt8)
  | [] => some []
  | v :: l => match v with
    | .int .u8 n => (bytesOf? l).map (UInt8.ofNat n.toNat :: ·)
    | _ => none
def isByte (P : Program) (e : TypeId) : Bool :=
  match P.underlying e with
  | some (.int .u8) => true
  | _ => false
noncomputable def armConvert (s d : TypeId) (x : Operand) : Arm := fun P _ ρ =>
  match ρ x with
  | .slice a n k => do
    let us ← opt (P.underlying s)
    let ud ← opt (P.underlying d)
    match us, ud with
    | .slice e, .string =>
      bif !(isByte P e) then fail else
      bif Nat.beq n 0 then pure (.string ⟨#[]⟩) else
      match a with
      | some ⟨y, off, none⟩ => do
        let (c, _) ← rdCells y
        let b ← opt (take? c off n)
        pure (.string ⟨(← opt (bytesOf? b)).toArray⟩)
      | _ => fail
    | .slice _, .slice e =>
      bif !(Nat.beq s d && isByte P e) || Nat.beq n 0 then fail else
      match a with
      | some ⟨y, off, none⟩ => do
        let _ ← rdCells y
        bif Nat.ble y 4095 then fail else pure (.slice a n k)
      | _ => fail
    | _, _ => fail
  | .string b => do
    let _ ← opt (P.underlying s)
    let ud ← opt (P.underlying d)
    match ud with
    | .slice e =>
      bif !(isByte P e) then fail else do
      let y ← nw (.cells (b.data.toList.map fun b => .int .u8 b.toNat) e)
      pure (.slice (some ⟨y, 0, none⟩) b.size 1)
    | _ => pureVal (evalPure P (convert s d (.string b)))
  | .int k n => pureVal (evalPure P (convert s d (.int k n)))
  | _ => fail
def isNil : Value → Option Bool
  | .pointer a => some a.isNone
  | .slice a _ _ => some a.isNone
  | .map a => some a.isNone
  | .nilFunc | .nilIface => some true
  | .func .. | .iface .. => some false
  | _ => none
def nilKind (d : TypeDesc) (v : Value) : Bool :=
  match d, v with
  | .pointer _, .pointer _ => true
  | .slice _, .slice .. => true
  | .map .., .map _ => true
  | .func .., .nilFunc => true
  | .func .., .func .. => true
  | .interface _, .nilIface => true
  | .interface _, .iface .. => true
  | _, _ => false
def notNilI (v : Value) : Bool :=
  match v with
  | .nilIface => false
  | _ => true
noncomputable def nilEq (P : Program) (op : BinOp) (t : TypeId) (a b : Value) : E Value := do
  let d ← opt (P.underlying t)
  let p ← opt (isNil a)
  let q ← opt (isNil b)
  bif !(nilKind d a && nilKind d b && (xor p q || (p && q && notNilI a))) then fail else
  match op with
  | .eql => pure (.bool (p == q))
  | .neq => pure (.bool (!(p == q)))
  | _ => fail
def isConst (x : Operand) : Bool :=
  match x with
  | .const _ => true
  | _ => false
/-- Two values that interface values hold: are they the same? -/
def sameHeld? (P : Program) (a : TypeId) (u : Value) (b : TypeId) (v : Value) : Option Bool :=
  bif Nat.beq a b then
    (match u, v with
    | .int k m, .int k' n => bif Nat.beq (kNum k) (kNum k') then
        (match P.info? a, P.underlying a with
        | some i, some (.int _) => bif i.comparable then some (eqI m n) else none
        | _, _ => none) else none
    | _, _ => none)
  else some false
def ifaceEq? (P : Program) (op : BinOp) (t : TypeId) (r : Bool) : Option Value :=
  match P.underlying t with
  | some (.interface _) => (match op with
    | .eql => some (.bool r)
    | .neq => some (.bool (!r))
    | _ => none)
  | _ => none
noncomputable def armBin (op : BinOp) (t : TypeId) (x y : Operand) : Arm := fun P _ ρ =>
  match ρ x, ρ y with
  | .int k m, .int k' n => (match fastInt op k m k' n with
    | some v => pure v
    | none => pureVal (evalPure P (binOp op t (.int k m) (.int k' n))))
  | .string a, .string b => pureVal (evalPure P (binOp op t (.string a) (.string b)))
  | .bool a, .bool b => pureVal (evalPure P (binOp op t (.bool a) (.bool b)))
  | .float k a, .float k' b => pureVal (evalPure P (binOp op t (.float k a) (.float k' b)))
  | .complex k a b, .complex k' c d => pureVal (evalPure P (binOp op t (.complex k a b) (.complex k' c d)))
  | .nilIface, .nilIface => bif isConst x || isConst y then opt (ifaceEq? P op t true) else fail
  | .iface a u, .iface b v => do
    let r ← opt (sameHeld? P a u b v)
    opt (ifaceEq? P op t r)
  | a, b => nilEq P op t a b
def field? (P : Program) (t : TypeId) (i : Nat) : Option (Nat × Nat) :=
  match P.underlying t with
  | some (.struct fs) => (fs[i]?).bind fun f => (size? P f.type).map (f.offset, ·)
  | _ => none
noncomputable def armFieldAddr (t : TypeId) (x : Operand) (f : Nat) : Arm := fun P _ ρ => do
  let (y, o) ← opt (place (ρ x))
  let (off, z) ← opt (field? P t f)
  bif Nat.beq z 0 then fail else pure (ptr y (o + off))
def index? (i : Value) (n : Nat) : Option Nat :=
  match i with
  | .int _ (.ofNat i) => bif Nat.ble (Nat.succ i) n then some i else none
  | _ => none
noncomputable def armIndexAddr (t : TypeId) (x i : Operand) : Arm := fun P _ ρ => do
  let d ← opt (P.underlying t)
  match d, ρ x with
  | .slice e, .slice (some ⟨y, o, none⟩) n _ => do
    let i ← opt (index? (ρ i) n)
    let z ← opt (size? P e)
    pure (ptr y (o + i * z))
  | .array n e, v => do
    let (y, o) ← opt (place v)
    let i ← opt (index? (ρ i) n)
    let z ← opt (size? P e)
    pure (ptr y (o + i * z))
  | _, _ => fail
def bound? (d : Nat) (m : Nat) : Option Value → Option Nat
  | none => bif Nat.ble d m then some d else none
  | some v => match v with
    | .int _ (.ofNat n) => bif Nat.ble n m then some n else none
    | _ => none
noncomputable def armSlice (t : TypeId) (x : Operand) (lo hi mx : Option Operand) : Arm := fun P _ ρ => do
  match mx with
  | some m => do
    let d ← opt (P.underlying t)
    match d, ρ x with
    | .slice e, .slice base n k => do
      let z ← opt (size? P e)
      let c ← opt (bound? n n (some (ρ m)))
      let h ← opt (bif hi.isSome then bound? n c (hi.map ρ) else none)
      let l ← opt (bound? 0 h (lo.map ρ))
      match base with
      | none => pure (.slice none 0 0)
      | some ⟨y, o, none⟩ => bif Nat.beq l c then pure (.slice (some ⟨y, o, some 0⟩) 0 1) else bif Nat.beq z k then pure (.slice (some ⟨y, o + l * z, none⟩) (h - l) z) else fail
      | _ => fail
    | _, _ => fail
  | none =>
  let d ← opt (P.underlying t)
  match d, ρ x with
  | .string, .string s => do
    let h ← opt (bound? s.size s.size (hi.map ρ))
    let l ← opt (bound? 0 h (lo.map ρ))
    pure (.string (s.extract l h))
  | .slice e, .slice base n k => do
    let h ← opt (bound? n n (hi.map ρ))
    let l ← opt (bound? 0 h (lo.map ρ))
    let z ← opt (size? P e)
    match base with
    | none => pure (.slice none 0 0)
    | some ⟨y, o, none⟩ => bif Nat.beq z k then pure (.slice (some ⟨y, o + l * z, none⟩) (h - l) z) else fail
    | _ => fail
  | .array n e, v => do
    let (y, o) ← opt (place v)
    let h ← opt (bound? n n (hi.map ρ))
    let l ← opt (bound? 0 h (lo.map ρ))
    let z ← opt (size? P e)
    let (c, _) ← rdCells y
    bif Nat.beq h n && Nat.ble (o + n * z) c.length then pure (.slice (some ⟨y, o + l * z, none⟩) (h - l) z) else fail
  | _, _ => fail
noncomputable def armMakeSlice (t : TypeId) (n k : Operand) : Arm := fun P _ ρ => do
  let e ← opt (sliceElem? P t)
  let i ← opt (P.info? e)
  let z ← opt i.zero
  match ρ n, ρ k with
  | .int _ (.ofNat n), .int _ (.ofNat k) =>
    bif Nat.ble n k && Nat.ble k 1000000 && Nat.ble i.bytes 1000 && Nat.beq z.cells.size i.size && z.cells.toList.all flat then do
      let y ← nw (.cells (List.replicate k z.cells.toList).flatten e)
      pure (.slice (some ⟨y, 0, none⟩) n i.size)
    else fail
  | _, _ => fail
noncomputable def armNext (x : Operand) (isString : Bool) : Arm := fun _ _ ρ => do
  let (r, o) ← opt (place (ρ x))
  bif isString || !(Nat.beq o 0) then fail else
  match ← rd r with
  | .iter none _ _ _ => pure (.tuple #[.bool false])
  | .iter (some m) since seen last => do
    let (es, clock) ← rdMap m
    bif !seen.isEmpty && !es.isEmpty && es.all (fun e => Nat.ble last e.born) then fail else
    match (es.filter fun e => !(among seen e.born)).filter (fun e => Nat.ble (Nat.succ e.born) since), (es.filter fun e => !(among seen e.born)).filter (fun e => Nat.ble since e.born) with
    | [], [] => pure (.tuple #[.bool false])
    | [e], [] => bif !(flat e.key) then fail else do
      wr r (.iter (some m) since (seen ++ [e.born]) clock)
      pure (.tuple #[.bool true, e.key, e.val])
    | _, _ => fail
  | _ => fail
noncomputable def armRange (t : TypeId) (x : Operand) : Arm := fun P _ ρ => do
  let d ← opt (P.underlying t)
  match d, ρ x with
  | .map _ _, .map none => do pure (ptr (← nw (.iter none 0 [] 0)) 0)
  | .map _ _, .map (some m) => do
    let (_, clock) ← rdMap m
    pure (ptr (← nw (.iter (some m) clock [] clock)) 0)
  | _, _ => fail
noncomputable def armEntry (x : Operand) : Arm := fun _ _ ρ => do
  let (r, o) ← opt (place (ρ x))
  bif !(Nat.beq o 0) then fail else
  match ← rd r with
  | .iter (some m) _ seen stepped => do
    let st ← opt seen.getLast?
    let (es, clock) ← rdMap m
    bif !(Nat.beq clock stepped) then fail else do
    let e ← opt (es.find? fun e => Nat.beq e.born st)
    bif flat e.key then pure (.tuple #[e.key, e.val]) else fail
  | _ => fail
noncomputable def armMove (x : Operand) : Arm := fun _ _ ρ s => some (ρ x, s)
noncomputable def armPick (c a b : Operand) : Arm := fun _ _ ρ =>
  match ρ c with
  | .bool t => pure (bif t then ρ a else ρ b)
  | _ => fail
noncomputable def armAlloc (e : TypeId) : Arm := fun P _ _ => do
  let v ← opt (zero? P e)
  bif v.cells.toList.all flat then newCells e v.cells.toList else fail
noncomputable def armBox (e : TypeId) (v : Operand) : Arm := fun _ _ ρ => bif (ρ v).cells.toList.all one then newCells e (ρ v).cells.toList else fail
def notJunk (v : Value) : Bool :=
  match v with
  | .chan none => false
  | _ => true
def places? (P : Program) (t : TypeId) : Option (Nat → Option (Nat × Nat)) :=
  match P.underlying t with
  | some (.struct fs) => (evalPure P (fs.mapM fun f => do pure (f.offset, ← sizeOf f.type))).map fun ps => (ps[·]?)
  | some (.array _ e) => (size? P e).map fun z => fun i => some (i * z, z)
  | _ => none
noncomputable def armBuild (t : TypeId) (ps : Array (Nat × Operand)) : Arm := fun P _ ρ => do
  let v ← opt (zero? P t)
  let pl ← opt (places? P t)
  bif v.cells.toList.all flat && ps.toList.all (fun p => notJunk (ρ p.2)) then do
    let cells ← opt (Instr.fill pl v.cells (ps.toList.map fun (i, x) => (i, ρ x)))
    pure (.agg cells)
  else fail
def zeros (P : Program) (e : TypeId) (n z : Nat) : Option (List Value) :=
  match zero? P e with
  | none => none
  | some v => bif Nat.beq v.cells.size z && v.cells.toList.all flat then some (List.replicate n v.cells.toList).flatten else none
noncomputable def armBuildSlice (t : TypeId) (n : Nat) (ps : Array (Nat × Operand)) : Arm := fun P _ ρ => do
  let e ← opt (sliceElem? P t)
  let z ← opt (size? P e)
  let zero ← opt (bif Nat.beq (n * z) 0 then some [] else zeros P e n z)
  bif Nat.ble 1000000 (n * z) || !(ps.toList.all (fun p => notJunk (ρ p.2))) then fail else do
  let cells ← opt (Instr.fill (fun i => some (i * z, z)) zero.toArray (ps.toList.map fun (i, x) => (i, ρ x)))
  let y ← nw (.cells cells.toList e)
  pure (.slice (some ⟨y, 0, none⟩) n z)
noncomputable def armLoad (t : TypeId) (a : Operand) : Arm := fun P _ ρ => doLoad P t (ρ a)
noncomputable def armStore (t : TypeId) (a v : Operand) : Arm := fun P _ ρ => doStore P t (ρ a) (ρ v)
noncomputable def armNilCheck (x : Operand) : Arm := fun _ _ ρ =>
  match ρ x with
  | .pointer (some a) => pure (.pointer (some a))
  | .func (.func f) a b => pure (.func (.func f) a b)
  | .iface t v => pure (.iface t v)
  | _ => fail
noncomputable def armUn (op : UnOp) (x : Operand) : Arm := fun P _ ρ =>
  match ρ x with
  | .int k n => pureVal (evalPure P (Op.unary op (.int k n)))
  | .bool b => pureVal (evalPure P (Op.unary op (.bool b)))
  | _ => fail
noncomputable def armMakeInterface (t : TypeId) (x : Operand) : Arm := fun P _ ρ =>
  match P.underlying t with
  | none => fail
  | some (.interface _) => fail
  | _ => pure (.iface t (ρ x))
noncomputable def armMakeFunc (fn : Fn) (a b : Array Operand) : Arm := fun _ _ ρ s => some (.func fn (a.map ρ) (b.map ρ), s)
noncomputable def armMakeMap (t : TypeId) (h : Option Operand) : Arm := fun P _ ρ => do
  match h with
  | none => pure (.map (some (← nw (.map [] 0))))
  | some h => match P.underlying t, ρ h with
    | some (.map _ _), .int _ _ => do pure (.map (some (← nw (.map [] 0))))
    | _, _ => fail
def part? (P : Program) (t : TypeId) (cs : Array Value) (off : Nat) : Option Value :=
  match isAgg? P t with
  | none => none
  | some true => (size? P t).map fun z => .agg (cs.extract off (off + z))
  | some false => cs[off]?
noncomputable def armField (t : TypeId) (x : Operand) (f : Nat) : Arm := fun P _ ρ =>
  match ρ x, P.underlying t with
  | .agg cs, some (.struct fs) => opt ((fs[f]?).bind fun f => part? P f.type cs f.offset)
  | _, _ => fail
noncomputable def armIndex (t : TypeId) (x i : Operand) : Arm := fun P _ ρ =>
  match ρ x, P.underlying t with
  | .agg cs, some (.array n e) => do
    let i ← opt (index? (ρ i) n)
    let z ← opt (size? P e)
    opt (part? P e cs (i * z))
  | .string s, some .string => do
    let i ← opt (index? (ρ i) s.size)
    let b ← opt s.data[i]?
    pure (.int .u8 b.toNat)
  | _, _ => fail
noncomputable def armTypeAssert (x : Operand) (a : TypeId) (ok : Bool) : Arm := fun P _ ρ =>
  match ρ x, P.underlying a with
  | .iface _ _, none => fail
  | .iface _ _, some (.interface _) => fail
  | .iface t v, _ => bif Nat.beq t a then pure (bif ok then .tuple #[v, .bool true] else v) else fail
  | _, _ => fail
noncomputable def armExtract (t : Operand) (i : Nat) : Arm := fun _ _ ρ =>
  match ρ t with
  | .tuple vs => opt vs[i]?
  | _ => fail
noncomputable def armCallV (f : Operand) (as : Array Operand) : Arm := fun _ call ρ =>
  match ρ f with
  | .func (.func g) first captured => call g (first.toList ++ as.toList.map ρ ++ captured.toList)
  | _ => fail
/-- The method that an interface value's type has: its function, and the element's type where the value is read behind a pointer. -/
def invoked? (P : Program) (t : TypeId) (name : String) : Option (FuncId × Option TypeId) :=
  match P.info? t with
  | none => none
  | some i => match i.methods.toList.find? (·.name == name) with
    | none => none
    | some m => match m.path.toList with
      | _ :: _ => none
      | [] => match m.func with
        | none => none
        | some (f, p) => match P.underlying t with
          | none => none
          | some d => match d, p with
            | .pointer e, false => some (f, some e)
            | .pointer _, true => some (f, none)
            | _, false => some (f, none)
            | _, true => none
noncomputable def armInvoke (x : Operand) (name : String) (as : Array Operand) : Arm := fun P call ρ =>
  match ρ x with
  | .iface t v => do
    let (f, e) ← opt (invoked? P t name)
    match e with
    | none => call f (v :: as.toList.map ρ)
    | some e => do
      let u ← doLoad P e v
      call f (u :: as.toList.map ρ)
  | _ => fail
noncomputable def armBuiltin (b : Builtin) (as : Array Operand) (ts : Array TypeId) : Arm := fun P _ ρ =>
  match b, as.toList.map ρ with
  | .append, [a, b] => doAppend P ts a b
  | .delete, [a, b] => doDelete P ts a b
  | .len, [a] => doLen P ts a
  | .max, l => bif l.all flat then pureVal (evalPure P (Builtin.max_ #[] 0 l.toArray)) else fail
  | .min, l => bif l.all flat then pureVal (evalPure P (Builtin.min_ #[] 0 l.toArray)) else fail
  | _, _ => fail
noncomputable def armCall (c : Call) : Arm :=
  Callee.rec (motive := fun _ => Array Operand → Array TypeId → Arm) (fun f as _ => armCallV f as) (fun x name as _ => armInvoke x name as) (fun b as ts => armBuiltin b as ts) c.callee c.args c.argTypes
def armNone : Arm := fun _ _ _ _ => none
noncomputable def armOf (o : Op) : Arm :=
  Op.rec (motive := fun _ => Arm) armMove armMove armPick armAlloc armBox armBuild armBuildSlice armMapUpdate armLoad armStore
    (fun _ => armNone) (fun _ => armNone) armNilCheck (fun op t x y _ => armBin op t x y) (fun op _ x => armUn op x) armConvert (fun _ _ => armNone) armMakeInterface armMakeFunc armMakeMap
    (fun _ _ => armNone) armMakeSlice armSlice armFieldAddr armField armIndexAddr armIndex armLookup armMapUpdate (fun _ _ _ => armNone) (fun _ _ _ _ => armNone)
    armRange armNext armEntry (fun x _ a ok => armTypeAssert x a ok) armExtract armCall (fun _ => armNone) (fun _ => armNone) (fun _ => armNone) (fun _ _ => armNone) (fun _ _ _ => armNone) (fun _ _ => armNone) o

abbrev Regs := T Value
noncomputable def getR (r : Regs) (t : Nat) : Value := Option.rec (motive := fun _ => Value) undef (fun v => v) (r.get t)
noncomputable def ev (r : Regs) (x : Operand) : Value :=
  Operand.rec (motive := fun _ => Value) (fun t => getR r t) (fun v => bif flatC v then v else .chan none) (fun g => bif Nat.ble g 4095 then ptr g 0 else .chan none) (fun f => .func (.func f) #[] #[]) x

noncomputable def wanted (all : List Oper) (o : Oper) (r : Regs) : Option Bool :=
  match o.guard with
  | none => some true
  | some (j, want) => match (all[j]?).bind (·.dst) with
    | none => some false
    | some d => match getR r d with
      | .bool b => some (b == want)
      | .chan _ => none
      | _ => some false
noncomputable def putR (n : Nat) (r : Regs) (d : Option Tmp) (v : Value) : Option Regs :=
  match d with
  | none => some r
  | some t => bif Nat.ble (Nat.succ t) n then some (r.set t v) else none

noncomputable def evalOps (P : Program) (call : FuncId → List Value → E Value) (n : Nat) (all : List Oper) (l : List Oper) : Regs → E Regs :=
  List.rec (motive := fun _ => Regs → E Regs) (fun r s => some (r, s))
    (fun o _ ih r s =>
      match wanted all o r with
      | none => none
      | some false => (match putR n r o.dst undef with
        | none => none
        | some r => ih r s)
      | some true => match armOf o.op P call (ev r) s with
        | none => none
        | some (v, s) => match putR n r o.dst v with
          | none => none
          | some r => ih r s) l

/-- What an operation of a region that draws its order has done: its range of new objects, what it might look at, what of the elder objects it has written. -/
inductive Wrote where
  | none
  | some (l : List Nat)
  | all (lo up : Nat)
structure Done where
  fro : Nat
  upto : Nat
  deny : List (Nat × Nat)
  only : Option (List Nat)
  wrote : Wrote
def idsOf : Value → List Nat
  | .pointer (some a) => [a.block]
  | .slice (some a) _ _ => [a.block]
  | .map (some r) => [r]
  | _ => []
noncomputable def opIds (o : Op) (ρ : Operand → Value) : Option (List Nat) :=
  match o with
  | .load _ a | .store _ a _ => some (idsOf (ρ a))
  | .lookup _ m _ _ | .mapUpdate _ m _ _ | .insert _ m _ _ | .range _ m | .convert _ _ m => some (idsOf (ρ m))
  | .call { callee := .builtin _, args, .. } => some (args.toList.flatMap fun x => idsOf (ρ x))
  | .slice _ x _ _ _ => (match ρ x with | .pointer (some a) => some [a.block] | _ => some [])
  | .call _ | .next .. | .entry _ => none
  | _ => some []
def denyOf (before : Nat) : Nat → List Done → Option (List (Nat × Nat))
  | _, [] => some []
  | i, d :: l =>
    match denyOf before (Nat.succ i) l with
    | none => none
    | some r =>
      bif before.testBit i then some r else
      let r := bif Nat.ble (Nat.succ d.fro) d.upto then (d.fro, d.upto) :: r else r
      match d.wrote with
      | .none => some r
      | .some l => some (l.map (fun x => (x, Nat.succ x)) ++ r)
      | .all lo up => some ((lo, up) :: r)
/-- May a later operation write this, beside those that it does not follow? -/
def unseen (before : Nat) (w : Wrote) : Nat → List Done → Bool
  | _, [] => true
  | i, d :: l => unseen before w (Nat.succ i) l && (before.testBit i || (match w with
    | .none => true
    | .some xs => xs.all fun x => masked ⟨d.deny, d.only⟩ x
    | .all lo up => match d.only with | some l => l.all (fun x => denied d.deny x || !(Nat.ble lo x && Nat.ble (Nat.succ x) up)) | none => false))
noncomputable def withMask {α : Type} (m : E α) (deny : List (Nat × Nat)) (only : Option (List Nat)) : E (α × Nat × Nat × Nat) := fun s =>
  match s.mask.only with
  | some _ => none
  | none =>
    match m { heap := s.heap, next := s.next, low := s.next, mask := ⟨deny ++ s.mask.deny, only⟩ } with
    | none => none
    | some (a, s1) => some ((a, s.next, s1.next, s1.low), { heap := s1.heap, next := s1.next, low := Nat.min s.low s1.low, mask := s.mask })
def wroteOf (lo up : Nat) (only : Option (List Nat)) : Wrote :=
  bif Nat.ble (Nat.succ lo) up then (match only with | some l => .some l | none => .all lo up) else .none
noncomputable def evalDraw (P : Program) (call : FuncId → List Value → E Value) (n : Nat) (all : List Oper) : List (Oper × Nat) → List Done → Regs → E Regs
  | [], _, r => pure r
  | (o, b) :: rest, done, r =>
    match wanted all o r with
    | none => fail
    | some false => (match putR n r o.dst undef with
      | none => fail
      | some r => evalDraw P call n all rest (done ++ [⟨0, 0, [], some [], .none⟩]) r)
    | some true =>
      match (match opIds o.op (ev r) with | some [] => some [] | _ => denyOf b 0 done) with
      | none => fail
      | some deny => do
        let (v, fro, upto, w) ← withMask (armOf o.op P call (ev r)) deny (opIds o.op (ev r))
        bif unseen b (wroteOf w fro (opIds o.op (ev r))) 0 done then
          (match putR n r o.dst v with
          | none => fail
          | some r' => evalDraw P call n all rest (done ++ [⟨fro, upto, deny, opIds o.op (ev r), wroteOf w fro (opIds o.op (ev r))⟩]) r')
        else fail
/-- The names of a region's operations let their order be open. -/
def pairsOk (ops : Array Oper) : List (Oper × Nat) → List Oper → Bool
  | [], _ => true
  | (o, b) :: rest, done => (done.zipIdx.all fun (d, i) => b.testBit i || d.apart ops o) && (match o.guard with | none => true | some (j, _) => b.testBit j) && (o.after.toList.all fun e => !Region.binds .any e || Nat.blt e.on done.length) && pairsOk ops rest (done ++ [o])
def befs (ops : Array Oper) : List (Oper × Nat) := ops.toList.zip (Region.before ops).toList

inductive Ex where
  | normal
  | exit (id : Nat)
  | goto (l : Nat)
  | ret

noncomputable def loopIter (body : Regs → E (Ex × Regs)) (k : Nat) : Regs → E (Ex × Regs) :=
  Nat.rec (motive := fun _ => Regs → E (Ex × Regs)) (fun _ _ => none)
    (fun _ ih r s => match body r s with
      | none => none
      | some ((e, r), s) => match e with
        | .normal => ih r s
        | e => some ((e, r), s)) k
noncomputable def scopeIter (ev : Code → Regs → E (Ex × Regs)) (c : Code) (k : Nat) : Code → Regs → E (Ex × Regs) :=
  Nat.rec (motive := fun _ => Code → Regs → E (Ex × Regs)) (fun _ _ _ => none)
    (fun _ ih cur r s => match ev cur r s with
      | none => none
      | some ((e, r), s) => match e with
        | .goto l => (match findLabel c l with
          | some rest => ih rest r s
          | none => some ((.goto l, r), s))
        | e => some ((e, r), s)) k
noncomputable def resultsOf (P : Program) (r : Regs) : List ResultVar → E (List Value)
  | [] => pure []
  | .tmp t :: l => do
    let vs ← resultsOf P r l
    pure (getR r t :: vs)
  | .cell a t :: l => do
    let v ← doLoad P t (getR r a)
    let vs ← resultsOf P r l
    pure (v :: vs)
def theResult : List Value → Value
  | [v] => v
  | l => .tuple l.toArray
noncomputable def load (l : List Value) (i : Nat) (r : Regs) : Regs :=
  match l with
  | [] => r
  | v :: l => load l (Nat.succ i) (r.set i v)
abbrev Nats := FuncId → Option (List Value → E Value)
abbrev CRun := Nat → Code → Regs → E (Ex × Regs)
noncomputable def enter (P : Program) (nat : Nats) (code : CRun) (f : FuncId) (args : List Value) : E Value :=
  match nat f with
  | some g => g args
  | none =>
    match P.funcs[f]? with
    | none => fail
    | some fn =>
      match fn.body with
      | none => fail
      | some c => do
        match ← code (Nat.max args.length fn.ntmps) c (load args 0 .leaf) with
        | (.normal, r) => do pure (theResult (← resultsOf P r fn.results.toList))
        | (.ret, r) => do pure (theResult (← resultsOf P r fn.results.toList))
        | _ => fail
abbrev CArm := Program → Nats → Nat → CRun → Nat → Regs → E (Ex × Regs)
def cSkip : CArm := fun _ _ _ _ _ r s => some ((.normal, r), s)
noncomputable def cRegion (ops : Array Oper) (draw : Bool) : CArm := fun P nat _ ih n r => do
  match draw with
  | true =>
    bif pairsOk ops (befs ops) [] then do
      let r ← evalDraw P (enter P nat ih) n ops.toList (befs ops) [] r
      pure (.normal, r)
    else fail
  | false => do
    let r ← evalOps P (enter P nat ih) n ops.toList ops.toList r
    pure (.normal, r)
noncomputable def cSeq (a b : Code) : CArm := fun _ _ _ ih n r s =>
  match ih n a r s with
  | none => none
  | some ((e, r), s) => match e with
    | .normal => ih n b r s
    | e => some ((e, r), s)
noncomputable def cCond (c : Operand) (a b : Code) : CArm := fun _ _ _ ih n r s =>
  match ev r c with
  | .bool t => Bool.rec (motive := fun _ => Option ((Ex × Regs) × St)) (ih n b r s) (ih n a r s) t
  | _ => none
noncomputable def cBlock (id : Nat) (c : Code) : CArm := fun _ _ _ ih n r s =>
  match ih n c r s with
  | none => none
  | some ((e, r), s) => match e with
    | .exit i => some ((bif Nat.beq i id then .normal else .exit i, r), s)
    | e => some ((e, r), s)
noncomputable def cLoop (c : Code) : CArm := fun _ _ k ih n r => loopIter (ih n c) k r
noncomputable def cScope (c : Code) : CArm := fun _ _ k ih n r => scopeIter (ih n) c k c r
def cExit (e : Ex) : CArm := fun _ _ _ _ _ r s => some ((e, r), s)
def cNone : CArm := fun _ _ _ _ _ _ _ => none
noncomputable def armOfCode (c : Code) : CArm :=
  Code.rec (motive := fun _ => CArm) cSkip (fun _ ops d => cRegion ops d) (fun a b _ _ => cSeq a b) (fun c a b _ _ => cCond c a b) (fun id c _ => cBlock id c) (fun c _ => cLoop c)
    (fun _ _ _ _ _ _ => cNone) (fun id => cExit (.exit id)) (fun c _ => cScope c) (fun _ => cSkip) (fun l => cExit (.goto l)) (cExit .ret) (fun _ => cNone) c
noncomputable def evalCode (P : Program) (nat : Nats) (k : Nat) : CRun :=
  Nat.rec (motive := fun _ => CRun) (fun _ _ _ _ => none) (fun k ih n c r => armOfCode c P nat k ih n r) k
noncomputable def evalCall (P : Program) (nat : Nats) (k : Nat) : FuncId → List Value → E Value := enter P nat (evalCode P nat k)
end Go.Ev
