/- The canonical interpreter: what it does. -/
import GoSem.Machine.Frame
import Derived.Laws.Sem
import Derived.Laws.World
/-
  THE CANONICAL INTERPRETER: what a call of a Go function comes to, worked out over a small heap of its own, with no tape: a growing append always makes a new block (whose room is not known: 'fam'), a region whose order is open is run in the order of its rows, with a look whether any other order could differ.
  No theorem here but that forcing a value changes nothing.
-/
namespace Go.Can

/-! ### forcing: the same value, its numbers and lists written out (for the kernel's run) -/
def fN {R : Type} (n : Nat) (k : Nat → R) : R := match n with | 0 => k 0 | m + 1 => k (Nat.succ m)
def fI {R : Type} (n : Int) (k : Int → R) : R := match n with | .ofNat m => fN m fun m => k (.ofNat m) | .negSucc m => fN m fun m => k (.negSucc m)
def fB {R : Type} (b : Bool) (k : Bool → R) : R := match b with | true => k true | false => k false
def fL {α R : Type} : List α → (List α → R) → R
  | [], k => k []
  | x :: l, k => fL l fun l => k (x :: l)
def fV {R : Type} (v : Value) (k : Value → R) : R :=
  match v with
  | .int i n => fI n fun n => k (.int i n)
  | .bool b => fB b fun b => k (.bool b)
  | .pointer (some ⟨b, o, none⟩) => fN b fun b => fN o fun o => k (.pointer (some ⟨b, o, none⟩))
  | .slice none l c => fN l fun l => fN c fun c => k (.slice none l c)
  | .slice (some ⟨b, o, none⟩) l c => fN b fun b => fN o fun o => fN l fun l => fN c fun c => k (.slice (some ⟨b, o, none⟩) l c)
  | .agg a => fL a.toList fun l => k (.agg ⟨l⟩)
  | .tuple a => fL a.toList fun l => k (.tuple ⟨l⟩)
  | .func f x c => fL x.toList fun x => fL c.toList fun c => k (.func f ⟨x⟩ ⟨c⟩)
  | v => k v

theorem fN_eq {R : Type} (n : Nat) (k : Nat → R) : fN n k = k n := by cases n <;> rfl
theorem fI_eq {R : Type} (n : Int) (k : Int → R) : fI n k = k n := by cases n <;> simp [fI, fN_eq]
theorem fB_eq {R : Type} (b : Bool) (k : Bool → R) : fB b k = k b := by cases b <;> rfl
theorem fL_eq {α R : Type} (l : List α) (k : List α → R) : fL l k = k l := by
  induction l generalizing k with
  | nil => rfl
  | cons x l ih => simp [fL, ih]
theorem fV_eq {R : Type} (v : Value) (k : Value → R) : fV v k = k v := by
  unfold fV
  split <;> simp [fI_eq, fN_eq, fB_eq, fL_eq]

/-! ### a map from numbers, by their binary digits -/
inductive T (α : Type) where
  | nil
  | node (l : T α) (v : Option α) (r : T α)
  deriving Inhabited

def T.getF {α : Type} : Nat → T α → Nat → Option α
  | 0, _, _ => none
  | _ + 1, .nil, _ => none
  | n + 1, .node l v r, p => match Nat.beq p 1 with
    | true => v
    | false => match Nat.beq (Nat.mod p 2) 0 with
      | true => T.getF n l (Nat.div p 2)
      | false => T.getF n r (Nat.div p 2)
def T.setK {α R : Type} : Nat → T α → Nat → α → (T α → R) → R
  | 0, t, _, _, k => k t
  | n + 1, .nil, p, x, k => match Nat.beq p 1 with
    | true => k (.node .nil (some x) .nil)
    | false => match Nat.beq (Nat.mod p 2) 0 with
      | true => T.setK n .nil (Nat.div p 2) x fun l => k (.node l none .nil)
      | false => T.setK n .nil (Nat.div p 2) x fun r => k (.node .nil none r)
  | n + 1, .node l v r, p, x, k => match Nat.beq p 1 with
    | true => k (.node l (some x) r)
    | false => match Nat.beq (Nat.mod p 2) 0 with
      | true => T.setK n l (Nat.div p 2) x fun l => k (.node l v r)
      | false => T.setK n r (Nat.div p 2) x fun r => k (.node l v r)
/-- keys below 2^24 -/
def T.get {α : Type} (t : T α) (i : Nat) : Option α := T.getF 24 t (Nat.succ i)
def T.put {α R : Type} (t : T α) (i : Nat) (x : α) (k : T α → R) : R := T.setK 24 t (Nat.succ i) x k

/-! ### the state -/
inductive CO where
  | cells (c : List Value) (elem : TypeId)
  | map (es : List MapEntry) (clock : Nat)
  | siter (s : ByteArray) (pos : Nat)
  | miter (m : Option Nat) (since : Nat) (seen : List Nat) (stepped : Nat)
  | loop (state : LoopState) (pending : Option Code) (fn : Nat) (tmps : T Value) (n : Nat) (params : Array Tmp) (assign body : Code) (defers : Nat)
  | defr (isOpen : Bool)
  deriving Inhabited
/-- 'fam': none: the block is as large as it looks. some f: it was made by an append that may have found room: it may be one block with others of its family, at its place 'vsh' in the family's row; 'esz': cells of an element. -/
structure Blk where
  obj : CO
  fam : Option Nat
  vsh : Nat
  esz : Nat
  deriving Inhabited
structure Fam where
  owner : Nat
  lim : Nat
  deriving Inhabited
structure St where
  heap : T Blk
  next : Nat
  fams : T Fam
  nfam : Nat
  deriving Inhabited

/-- what is known of a type -/
structure TI where
  u : TypeDesc
  size : Nat
  bytes : Nat
  zero : Value
  /-- may two values of it be compared by 'eqV' -/
  plain : Bool
  deriving Inhabited
def isAggD : TypeDesc → Bool
  | .struct _ => true
  | .array _ _ => true
  | _ => false
structure Env where
  ti : Nat → Option TI
  fn : Nat → Option Func
  meth : Nat → String → Option Nat

/-- may it be stored into a cell? ('.chan ..' is the canonical run's word for a value of which it knows nothing) -/
def one : Value → Bool
  | .agg _ => false
  | .tuple _ => false
  | .chan _ => false
  | _ => true
/-- is it known of the value how many cells it has? -/
def data : Value → Bool
  | .chan _ => false
  | _ => true
/-- has a constant no address in it? -/
def closed : Nat → Value → Bool
  | 0, _ => false
  | _ + 1, .bool _ => true
  | _ + 1, .int _ _ => true
  | _ + 1, .string _ => true
  | _ + 1, .pointer none => true
  | _ + 1, .slice none _ _ => true
  | _ + 1, .map none => true
  | _ + 1, .nilFunc => true
  | _ + 1, .nilIface => true
  | n + 1, .iface _ v => closed n v
  | n + 1, .agg a => closedL n a.toList
  | n + 1, .tuple a => closedL n a.toList
  | n + 1, .func (.func _) x c => closedL n x.toList && closedL n c.toList
  | _, _ => false
  where
  closedL (n : Nat) : List Value → Bool
    | [] => true
    | v :: l => closed n v && closedL n l

/-! ### memory -/
def readable (s : St) (id : Nat) (b : Blk) (o : Nat) : Bool :=
  match b.fam with
  | none => true
  | some f => match s.fams.get f with
    | some fm => Nat.beq fm.owner id || Nat.blt (b.vsh + o) fm.lim
    | none => false
def cell (s : St) (b o : Nat) : Option Value :=
  match s.heap.get b with
  | none => none
  | some k => match k.obj with
    | .cells c _ => match readable s b k o with
      | true => c[o]?
      | false => none
    | _ => none
def setL {R : Type} : List Value → Nat → Value → (List Value → R) → R
  | [], _, _, k => k []
  | x :: l, i, v, k => match i with
    | 0 => k (v :: l)
    | i + 1 => setL l i v fun l => k (x :: l)
def setBlk (s : St) (b : Nat) (k : Blk) : Option St := s.heap.put b k fun h => some ⟨h, s.next, s.fams, s.nfam⟩
def setFam (s : St) (f : Nat) (k : Fam) : Option St := s.fams.put f k fun h => some ⟨s.heap, s.next, h, s.nfam⟩
def setCell (s : St) (b o : Nat) (v : Value) : Option St :=
  match one v with
  | false => none
  | true => match s.heap.get b with
    | none => none
    | some k => match k.obj with
      | .cells c e => match Nat.blt o c.length with
        | false => none
        | true => setL c o v fun c => match setBlk s b ⟨.cells c e, k.fam, k.vsh, k.esz⟩ with
          | none => none
          | some s => match k.fam with
            | none => some s
            | some f => match s.fams.get f with
              | none => none
              | some fm => match Nat.beq fm.owner b with
                | false => none
                | true => fN (min fm.lim (k.vsh + o)) fun l => setFam s f ⟨b, l⟩
      | _ => none
def loadN (s : St) (b : Nat) : Nat → Nat → Option (List Value)
  | _, 0 => some []
  | o, n + 1 => match cell s b o with
    | none => none
    | some v => match loadN s b (Nat.succ o) n with
      | none => none
      | some l => some (v :: l)
def storeN (s : St) (b : Nat) : Nat → List Value → Option St
  | _, [] => some s
  | o, v :: l => match setCell s b o v with
    | none => none
    | some s => storeN s b (Nat.succ o) l
def new (s : St) (o : CO) : Option (Nat × St) :=
  fN s.next fun id => s.heap.put id ⟨o, none, 0, 0⟩ fun h => fN (Nat.succ id) fun n => some (id, ⟨h, n, s.fams, s.nfam⟩)
/-- a new row of a family -/
def newOpen (s : St) (c : List Value) (e f vsh esz : Nat) : Option (Nat × St) :=
  fN s.next fun id => s.heap.put id ⟨.cells c e, some f, vsh, esz⟩ fun h => fN (Nat.succ id) fun n => some (id, ⟨h, n, s.fams, s.nfam⟩)
def setObj (s : St) (b : Nat) (o : CO) : Option St :=
  match s.heap.get b with
  | none => none
  | some k => match k.fam with
    | none => setBlk s b ⟨o, none, k.vsh, k.esz⟩
    | some _ => none
def getMap (s : St) (r : Nat) : Option (List MapEntry × Nat) :=
  match s.heap.get r with
  | some ⟨.map es c, _, _, _⟩ => some (es, c)
  | _ => none

def loadVar (E : Env) (s : St) (t : TypeId) (a : Value) : Option Value :=
  match a with
  | .pointer (some ⟨b, o, none⟩) => match E.ti t with
    | none => none
    | some ti => match isAggD ti.u with
      | true => match loadN s b o ti.size with
        | none => none
        | some l => some (.agg ⟨l⟩)
      | false => cell s b o
  | _ => none
def storeVar (E : Env) (s : St) (t : TypeId) (a v : Value) : Option St :=
  match a with
  | .pointer (some ⟨b, o, none⟩) => match E.ti t with
    | none => none
    | some ti => match Nat.beq v.cells.size ti.size with
      | true => storeN s b o v.cells.toList
      | false => none
  | _ => none

/-! ### operations -/
def partV (E : Env) (t : TypeId) (cs : List Value) (off : Nat) : Option Value :=
  match E.ti t with
  | none => none
  | some ti => match isAggD ti.u with
    | true => some (.agg ⟨(cs.drop off).take ti.size⟩)
    | false => cs[off]?
/-- is a cell of the kind of another? -/
def fit1 : Value → Value → Bool
  | .bool _, .bool _ => true
  | .int j _, .int k _ => decide (j = k)
  | .string _, .string _ => true
  | _, _ => false
def fits : List Value → List Value → Bool
  | [], [] => true
  | z :: zs, x :: xs => match fit1 z x with
    | true => fits zs xs
    | false => false
  | _, _ => false
/-- are two plain values equal? -/
def eqV : Nat → Value → Value → Option Bool
  | 0, _, _ => none
  | _ + 1, .bool a, .bool b => some (a == b)
  | _ + 1, .int j a, .int k b => if j = k then some (a == b) else none
  | _ + 1, .string a, .string b => some (a == b)
  | n + 1, .agg a, .agg b => eqL n a.toList b.toList
  | _, _, _ => none
  where
  eqL (n : Nat) : List Value → List Value → Option Bool
    | [], [] => some true
    | x :: a, y :: b => match eqV n x y with
      | some true => eqL n a b
      | r => r
    | _, _ => none

inductive Nx where
  | value (v : Value)
  | enter (f : Nat) (args : List Value)
  | round (l f : Nat) (tmps : T Value) (n : Nat) (assign body : Code) (defers : Nat)

end Go.Can

/-
  THE CANONICAL INTERPRETER, second part: one operation.
-/
namespace Go.Can

def val (s : St) (v : Value) : Option (Nx × St) := fV v fun v => some (.value v, s)

def bnd (v : Value) (y : Nat) : Option Nat :=
  match v with
  | .int _ i => match decide (0 ≤ i), decide (i ≤ (y : Int)) with
    | true, true => fN i.toNat fun n => some n
    | _, _ => none
  | _ => none
/-- low, high, max of a slice expression; 'max' is none where none is given -/
def bounds3 (len cap : Nat) (lo hi mx : Option Value) : Option (Nat × Nat × Nat) :=
  match (match mx with | some v => bnd v cap | none => some cap) with
  | none => none
  | some m => match (match hi with | some v => bnd v m | none => (match mx with | some _ => none | none => some len)) with
    | none => none
    | some h => match (match lo with | some v => bnd v h | none => some 0) with
      | none => none
      | some l => some (l, h, m)

def intBin (op : BinOp) (k : IntKind) (a b : Int) : Option Value :=
  match op with
  | .add => some (.int k (k.wrap (a + b)))
  | .sub => some (.int k (k.wrap (a - b)))
  | .mul => some (.int k (k.wrap (a * b)))
  | .quo => match decide (b = 0) with | true => none | false => some (.int k (k.wrap (a.tdiv b)))
  | .rem => match decide (b = 0) with | true => none | false => some (.int k (a.tmod b))
  | .and => some (.int k (k.wrap (BitVec.ofInt k.bits a &&& BitVec.ofInt k.bits b).toNat))
  | .or => some (.int k (k.wrap (BitVec.ofInt k.bits a ||| BitVec.ofInt k.bits b).toNat))
  | .xor => some (.int k (k.wrap (BitVec.ofInt k.bits a ^^^ BitVec.ofInt k.bits b).toNat))
  | .andNot => some (.int k (k.wrap (BitVec.ofInt k.bits a &&& ~~~(BitVec.ofInt k.bits b)).toNat))
  | .eql => some (.bool (a == b))
  | .neq => some (.bool (a != b))
  | .lss => some (.bool (a < b))
  | .leq => some (.bool (a ≤ b))
  | .gtr => some (.bool (a > b))
  | .geq => some (.bool (a ≥ b))
  | _ => none
def strBin (op : BinOp) (a b : ByteArray) : Option Value :=
  let eq := a.toList == b.toList
  let lt := Op.bytesLess a.toList b.toList
  match op with
  | .add => match decide (((a.size + b.size : Nat) : Int) > IntKind.i64.max) with | true => none | false => some (.string (a ++ b))
  | .eql => some (.bool eq)
  | .neq => some (.bool !eq)
  | .lss => some (.bool lt)
  | .leq => some (.bool (lt || eq))
  | .gtr => some (.bool !(lt || eq))
  | .geq => some (.bool !lt)
  | _ => none
/-- equality of what is neither a number nor a string, at a type that is told by its outer form -/
def eqT (E : Env) (t : TypeId) (x y : Value) : Option Bool :=
  match E.ti t with
  | none => none
  | some ti => match ti.u, x, y with
    | .bool, .bool a, .bool b => some (a == b)
    | .pointer _, .pointer none, .pointer b => some b.isNone
    | .pointer _, .pointer (some _), .pointer none => some false
    | .slice _, .slice none _ _, .slice b _ _ => some b.isNone
    | .slice _, .slice (some _) _ _, .slice none _ _ => some false
    | .map _ _, .map none, .map b => some b.isNone
    | .map _ _, .map (some _), .map none => some false
    | .func _ _ _, .nilFunc, .nilFunc => some true
    | .func _ _ _, .nilFunc, .func _ _ _ => some false
    | .func _ _ _, .func _ _ _, .nilFunc => some false
    | .interface _, .nilIface, .iface _ _ => some false
    | .interface _, .iface _ _, .nilIface => some false
    | .struct _, .agg a, .agg b => match ti.plain && fits ti.zero.cells.toList a.toList && fits ti.zero.cells.toList b.toList with
      | true => eqV 3 (.agg a) (.agg b)
      | false => none
    | .array _ _, .agg a, .agg b => match ti.plain && fits ti.zero.cells.toList a.toList && fits ti.zero.cells.toList b.toList with
      | true => eqV 3 (.agg a) (.agg b)
      | false => none
    | _, _, _ => none
def binV (E : Env) (op : BinOp) (t : TypeId) (x y : Value) : Option Value :=
  match x, y with
  | .int k a, .int k' b => match op with
    | .shl => match decide (b < 0) with | true => none | false => some (.int k (k.wrap (a * 2 ^ (min b.toNat k.bits))))
    | .shr => match decide (b < 0) with | true => none | false => some (.int k (a.fdiv (2 ^ (min b.toNat k.bits))))
    | op => match decide (k = k') with | true => intBin op k a b | false => none
  | .string a, .string b => strBin op a b
  | x, y => match op with
    | .eql => match eqT E t x y with | some b => some (.bool b) | none => none
    | .neq => match eqT E t x y with | some b => some (.bool !b) | none => none
    | _ => none
/-- the key of a map: a number, a string, a bool, or a plain struct -/
def keyOK (E : Env) (t : TypeId) (k : Value) : Bool :=
  match E.ti t with
  | none => false
  | some ti => match ti.u, k with
    | .int _, .int _ _ => true
    | .string, .string _ => true
    | .bool, .bool _ => true
    | .struct _, .agg a => ti.plain && fits ti.zero.cells.toList a.toList
    | .array _ _, .agg a => ti.plain && fits ti.zero.cells.toList a.toList
    | _, _ => false
def keyEq (E : Env) (t : TypeId) (x y : Value) : Option Bool :=
  match E.ti t with
  | none => none
  | some ti => match ti.u, x, y with
    | .int _, .int j a, .int k b => match decide (j = k) with
      | true => some (a == b)
      | false => none
    | .string, .string a, .string b => some (a == b)
    | .bool, .bool a, .bool b => some (a == b)
    | .struct _, .agg a, .agg b => match fits ti.zero.cells.toList b.toList with
      | true => eqV 3 (.agg a) (.agg b)
      | false => none
    | .array _ _, .agg a, .agg b => match fits ti.zero.cells.toList b.toList with
      | true => eqV 3 (.agg a) (.agg b)
      | false => none
    | _, _, _ => none
def findE (E : Env) (t : TypeId) (k : Value) : List MapEntry → Nat → Option (Option (Nat × Value))
  | [], _ => some none
  | e :: es, i => match keyEq E t k e.key with
    | some true => some (some (i, e.val))
    | some false => findE E t k es (Nat.succ i)
    | none => none
def lookRes (ok : Bool) (z : Value) : Option (Nat × Value) → Value
  | some (_, v) => match ok with
    | true => .tuple #[v, .bool true]
    | false => v
  | none => match ok with
    | true => .tuple #[z, .bool false]
    | false => z
def setEntry {R : Type} : List MapEntry → Nat → Value → Value → (List MapEntry → R) → R
  | [], _, _, _, k => k []
  | e :: es, i, key, v, k => match i with
    | 0 => k (⟨key, v, e.born⟩ :: es)
    | i + 1 => setEntry es i key v fun es => k (e :: es)
def addEntry {R : Type} : List MapEntry → MapEntry → (List MapEntry → R) → R
  | [], x, k => k [x]
  | e :: es, x, k => addEntry es x fun es => k (e :: es)
def mapPut (E : Env) (s : St) (t : TypeId) (m key v : Value) : Option St :=
  match E.ti t with
  | some ⟨.map kt _, _, _, _, _⟩ => match m, keyOK E kt key with
    | .map (some r), true => match getMap s r with
      | none => none
      | some (es, clock) => match findE E kt key es 0 with
        | none => none
        | some (some (i, _)) => setEntry es i key v fun es => setObj s r (.map es clock)
        | some none => addEntry es ⟨key, v, clock⟩ fun es => fN (Nat.succ clock) fun c => setObj s r (.map es c)
    | _, _ => none
  | _ => none

def strCells : List UInt8 → List Value
  | [] => []
  | b :: l => .int .u8 b.toNat :: strCells l
/-- what is appended: how many elements, and their cells -/
def appendX (s : St) (z : Nat) (x : Value) : Option (Nat × List Value) :=
  match x with
  | .slice (some ⟨b, o, none⟩) n _ => match loadN s b o (n * z) with
    | none => none
    | some l => some (n, l)
  | .slice none n _ => match Nat.beq n 0 with
    | true => some (0, [])
    | false => none
  | .string t => match Nat.beq z 1 with
    | true => some (t.size, strCells t.data.toList)
    | false => none
  | _ => none
/-- a new block of a new family -/
def openFresh (s : St) (all : List Value) (e z : Nat) : Option (Nat × St) :=
  match setFam s s.nfam ⟨s.next, 0⟩ with
  | none => none
  | some s1 => match newOpen s1 all e s.nfam 0 z with
    | none => none
    | some (id, s2) => fN (Nat.succ s2.nfam) fun nf => some (id, ⟨s2.heap, s2.next, s2.fams, nf⟩)
def openTail (s : St) (all : List Value) (e f v z lim : Nat) : Option (Nat × St) :=
  match setFam s f ⟨s.next, lim⟩ with
  | none => none
  | some s1 => newOpen s1 all e f v z
/-- append where there is no room -/
def grow (s : St) (e z : Nat) (base : Option Addr) (len cap _ : Nat) (new : List Value) : Option (Nat × St) :=
  match base with
  | none => match Nat.beq len 0 with
    | true => openFresh s new e z
    | false => none
  | some ⟨b, o, none⟩ => match s.heap.get b with
    | none => none
    | some k => match k.obj with
      | .cells c _ => match loadN s b o (len * z) with
        | none => none
        | some old => fL (old ++ new) fun all => match k.fam with
          | none => openFresh s all e z
          | some f => match Nat.beq k.esz z with
            | false => none
            | true => match Nat.beq (o + cap * z) c.length with
              | false => openFresh s all e z
              | true => match s.fams.get f with
                | none => none
                | some fm => match Nat.beq fm.owner b && new.all one with
                  | false => none
                  | true => fN (k.vsh + o) fun v => fN (min fm.lim (v + len * z)) fun lim => openTail s all e f v z lim
      | _ => none
  | _ => none
/-- append: the slice and the state -/
def append (E : Env) (s : St) (st : TypeId) (sl x : Value) : Option (Value × St) :=
  match E.ti st with
  | none => none
  | some ti => match ti.u with
    | .slice elem => match E.ti elem with
      | none => none
      | some te => match sl with
        | .slice base len cap => match appendX s te.size x with
          | none => none
          | some (n, new) => fN (len + n) fun need => match Nat.ble need cap with
            | true => match base with
              | some ⟨b, o, none⟩ => match storeN s b (o + len * te.size) new with
                | none => none
                | some s => some (.slice base need cap, s)
              | none => match Nat.beq need 0 with
                | true => some (.slice none need cap, s)
                | false => none
              | _ => none
            | false => match Nat.beq te.size 0 || Nat.ble (2 ^ 40) ((need + cap + 2) * 8 * (te.bytes + 1)) with
              | true => none
              | false => match grow s elem te.size base len cap need new with
                | none => none
                | some (id, s) => some (.slice (some ⟨id, 0, none⟩) need need, s)
        | _ => none
    | _ => none

def fillL (places : Nat → Option (Nat × Nat)) (cells : Array Value) (parts : List (Nat × Value)) : Option (List Value) :=
  match parts.all fun p => data p.2 with
  | false => none
  | true => match Instr.fill places cells parts with
    | none => none
    | some c => fL c.toList fun l => some l
def places (E : Env) : List Field → Option (List (Nat × Nat))
  | [] => some []
  | f :: fs => match E.ti f.type with
    | none => none
    | some ti => match places E fs with
      | none => none
      | some l => some ((f.offset, ti.size) :: l)
def reps (z : List Value) : Nat → List Value
  | 0 => []
  | n + 1 => z ++ reps z n
def evs (ev : Operand → Value) : List Operand → List Value
  | [] => []
  | x :: l => ev x :: evs ev l

def callF (E : Env) (f : Nat) (args : List Value) (s : St) : Option (Nx × St) :=
  match E.fn f with
  | none => none
  | some _ => fL args fun args => some (.enter f args, s)

def minI : Int → List Value → Option Int
  | m, [] => some m
  | m, .int _ y :: l => minI (if y < m then y else m) l
  | _, _ => none
def maxI : Int → List Value → Option Int
  | m, [] => some m
  | m, .int _ y :: l => maxI (if m < y then y else m) l
  | _, _ => none

/-- the builtins -/
def builtin (E : Env) (b : Builtin) (at_ : Array TypeId) (args : List Value) (s : St) : Option (Nx × St) :=
  match b with
  | .len => match args with
    | [.slice _ n _] => (match at_[0]? with | some t => (match E.ti t with | some ⟨.slice _, _, _, _, _⟩ => val s (goInt n) | _ => none) | none => none)
    | [.string z] => (match at_[0]? with | some t => (match E.ti t with | some ⟨.string, _, _, _, _⟩ => val s (goInt z.size) | _ => none) | none => none)
    | [.map none] => (match at_[0]? with | some t => (match E.ti t with | some ⟨.map _ _, _, _, _, _⟩ => val s (goInt 0) | _ => none) | none => none)
    | [.map (some r)] => (match at_[0]? with | some t => (match E.ti t with | some ⟨.map _ _, _, _, _, _⟩ => (match getMap s r with | some (es, _) => val s (goInt es.length) | none => none) | _ => none) | none => none)
    | _ => none
  | .append => match args with
    | [sl, x] => (match at_[0]?, at_[1]? with
      | some t, some u => (match E.ti u with
        | some ⟨.int _, _, _, _, _⟩ => none
        | some _ => (match append E s t sl x with | none => none | some (v, s) => val s v)
        | none => none)
      | _, _ => none)
    | _ => none
  | .copy => match args with
    | [.slice base dl _, x] => (match at_[0]? with
      | some t => (match E.ti t with
        | some ⟨.slice elem, _, _, _, _⟩ => (match E.ti elem with
          | some te => (match x with
            | .slice (some ⟨b, o, none⟩) n _ => fN (min n dl) fun m => (match loadN s b o (m * te.size) with
              | none => none
              | some l => (match base with
                | some ⟨d, p, none⟩ => (match storeN s d p l with | some s => val s (goInt m) | none => none)
                | none => val s (goInt m)
                | _ => none))
            | .slice none n _ => (match Nat.beq n 0 with | true => val s (goInt 0) | false => none)
            | _ => none)
          | none => none)
        | _ => none)
      | none => none)
    | _ => none
  | .min => match args with
    | .int k x :: l => (match minI x l with | some m => val s (.int k m) | none => none)
    | _ => none
  | .max => match args with
    | .int k x :: l => (match maxI x l with | some m => val s (.int k m) | none => none)
    | _ => none
  | _ => none

def bindParams : List (Tmp × Value) → Nat → T Value → Option (T Value)
  | [], _, t => some t
  | p :: l, n, t => match Nat.blt p.1 n with
    | true => fV p.2 fun v => t.put p.1 v fun t => bindParams l n t
    | false => none
/-- one operation -/
def exec (E : Env) (ev : Operand → Value) (o : Oper) (s : St) : Option (Nx × St) :=
  match o.op with
  | .move x => val s (ev x)
  | .assign x => val s (ev x)
  | .pick c a b => match ev c with
    | .bool true => val s (ev a)
    | .bool false => val s (ev b)
    | _ => none
  | .alloc e => match E.ti e with
    | none => none
    | some ti => fL ti.zero.cells.toList fun l => match new s (.cells l e) with
      | none => none
      | some (id, s) => some (.value (.pointer (some ⟨id, 0, none⟩)), s)
  | .box e x => match data (ev x) with
    | false => none
    | true => fL (ev x).cells.toList fun l => match new s (.cells l e) with
      | none => none
      | some (id, s) => some (.value (.pointer (some ⟨id, 0, none⟩)), s)
  | .build t parts => match E.ti t with
    | none => none
    | some ti => match ti.u with
      | .struct fields => match places E fields.toList with
        | none => none
        | some pl => match fillL (pl[·]?) ti.zero.cells (parts.toList.map fun p => (p.1, ev p.2)) with
          | none => none
          | some l => some (.value (.agg ⟨l⟩), s)
      | .array _ elem => match E.ti elem with
        | none => none
        | some te => match fillL (fun i => some (i * te.size, te.size)) ti.zero.cells (parts.toList.map fun p => (p.1, ev p.2)) with
          | none => none
          | some l => some (.value (.agg ⟨l⟩), s)
      | _ => none
  | .buildSlice t len parts => match E.ti t with
    | some ⟨.slice elem, _, _, _, _⟩ => match E.ti elem with
      | none => none
      | some te => match Nat.ble (len * te.size) 65536, Nat.beq te.zero.cells.size te.size with
        | true, true => match fillL (fun i => some (i * te.size, te.size)) ⟨reps te.zero.cells.toList len⟩ (parts.toList.map fun p => (p.1, ev p.2)) with
          | none => none
          | some l => match new s (.cells l elem) with
            | none => none
            | some (id, s) => some (.value (.slice (some ⟨id, 0, none⟩) len len), s)
        | _, _ => none
    | _ => none
  | .load t a => match loadVar E s t (ev a) with
    | none => none
    | some v => some (.value v, s)
  | .store t a x => match storeVar E s t (ev a) (ev x) with
    | none => none
    | some s => some (.value undef, s)
  | .nilCheck x => match ev x with
    | .pointer (some a) => some (.value (.pointer (some a)), s)
    | .func (.func f) y c => some (.value (.func (.func f) y c), s)
    | _ => none
  | .binOp op t x y _ => match binV E op t (ev x) (ev y) with
    | none => none
    | some v => val s v
  | .unOp op _ x => match op, ev x with
    | .neg, .int k n => val s (.int k (k.wrap (0 - n)))
    | .not, .bool b => val s (.bool !b)
    | .xor, .int k n => (match intBin .xor k (if k.signed then -1 else k.max) n with | some v => val s v | none => none)
    | _, _ => none
  | .convert src dst x => match E.ti src, E.ti dst with
    | some a, some b => match a.u, b.u, ev x with
      | .int _, .int k, .int _ n => val s (.int k (k.wrap n))
      | .string, .string, .string z => val s (.string z)
      | _, _, _ => none
    | _, _ => none
  | .makeInterface t x => match E.ti t with
    | none => none
    | some ti => match ti.u with
      | .interface _ => none
      | _ => some (.value (.iface t (ev x)), s)
  | .makeFunc fn first cap => match fn with
    | .func g => val s (.func (.func g) ⟨evs ev first.toList⟩ ⟨evs ev cap.toList⟩)
    | _ => none
  | .makeMap _ r => match r with
    | none => match new s (.map [] 0) with
      | none => none
      | some (id, s) => some (.value (.map (some id)), s)
    | some _ => none
  | .makeSlice t l c => match E.ti t with
    | some ⟨.slice elem, _, _, _, _⟩ => match E.ti elem with
      | none => none
      | some te => match ev l, ev c with
        | .int _ l, .int _ c => match decide (0 ≤ l), decide (l ≤ c), decide (c ≤ 65536), Nat.ble te.bytes 65536, Nat.beq te.zero.cells.size te.size with
          | true, true, true, true, true => fL (reps te.zero.cells.toList c.toNat) fun cs => match new s (.cells cs elem) with
            | none => none
            | some (id, s) => val s (.slice (some ⟨id, 0, none⟩) l.toNat c.toNat)
          | _, _, _, _, _ => none
        | _, _ => none
    | _ => none
  | .slice t x lo hi mx => match E.ti t with
    | none => none
    | some ti => match ti.u, ev x with
      | .string, .string z => match mx with
        | some _ => none
        | none => match bounds3 z.size z.size (lo.map ev) (hi.map ev) none with
          | none => none
          | some (l, h, _) => val s (.string (z.extract l h))
      | .slice elem, .slice none len cap => match bounds3 len cap (lo.map ev) (hi.map ev) (mx.map ev) with
        | none => none
        | some (l, h, m) => match E.ti elem with
          | none => none
          | some _ => val s (.slice none (h - l) (m - l))
      | .slice elem, .slice (some ⟨b, o, none⟩) len cap => match bounds3 len cap (lo.map ev) (hi.map ev) (mx.map ev) with
        | none => none
        | some (l, h, m) => match E.ti elem with
          | none => none
          | some te => match s.heap.get b with
            | none => none
            | some k => match k.fam with
              | none => val s (.slice (some ⟨b, (if m = l then o else o + l * te.size), none⟩) (h - l) (m - l))
              | some _ => match Nat.beq k.esz te.size && Nat.ble h m with
                | true => val s (.slice (some ⟨b, (match mx with | some _ => (if m = l then o else o + l * te.size) | none => o + l * te.size), none⟩) (h - l) (m - l))
                | false => none
      | .array n elem, .pointer (some ⟨b, o, none⟩) => match bounds3 n n (lo.map ev) (hi.map ev) (mx.map ev) with
        | none => none
        | some (l, h, m) => match E.ti elem with
          | none => none
          | some te => val s (.slice (some ⟨b, (if m = l then o else o + l * te.size), none⟩) (h - l) (m - l))
      | _, _ => none
  | .fieldAddr t x f => match E.ti t with
    | none => none
    | some ti => match ti.u, ev x with
      | .struct fields, .pointer (some ⟨b, o, none⟩) => match fields[f]? with
        | none => none
        | some fd => match E.ti fd.type with
          | none => none
          | some tf => match Nat.beq tf.size 0 with
            | true => none
            | false => val s (.pointer (some ⟨b, o + fd.offset, none⟩))
      | _, _ => none
  | .field t x f => match E.ti t with
    | none => none
    | some ti => match ti.u, ev x with
      | .struct fields, .agg cs => match fields[f]? with
        | none => none
        | some fd => match partV E fd.type cs.toList fd.offset with
          | none => none
          | some v => val s v
      | _, _ => none
  | .indexAddr t x ix => match E.ti t, ev ix with
    | some ti, .int _ i => match ti.u, ev x with
      | .array len elem, .pointer (some ⟨b, o, none⟩) => match E.ti elem, decide (0 ≤ i), decide (i < (len : Int)) with
        | some te, true, true => val s (.pointer (some ⟨b, o + i.toNat * te.size, none⟩))
        | _, _, _ => none
      | .slice elem, .slice (some ⟨b, o, none⟩) len _ => match E.ti elem, decide (0 ≤ i), decide (i < (len : Int)) with
        | some te, true, true => val s (.pointer (some ⟨b, o + i.toNat * te.size, none⟩))
        | _, _, _ => none
      | _, _ => none
    | _, _ => none
  | .index t x ix => match E.ti t, ev ix with
    | some ti, .int _ i => match ti.u, ev x with
      | .array len elem, .agg cs => match E.ti elem, decide (0 ≤ i), decide (i < (len : Int)) with
        | some te, true, true => match partV E elem cs.toList (i.toNat * te.size) with
          | none => none
          | some v => val s v
        | _, _, _ => none
      | .string, .string z => match (if 0 ≤ i then z[i.toNat]? else none) with
        | some b => val s (.int .u8 b.toNat)
        | none => none
      | _, _ => none
    | _, _ => none
  | .lookup t x ix ok => match E.ti t with
    | some ⟨.map kt elem, _, _, _, _⟩ => match E.ti elem with
      | none => none
      | some te => match (match ev x with | .map none => some [] | .map (some r) => (match getMap s r with | some (es, _) => some es | none => none) | _ => none) with
        | none => none
        | some es => match (match keyOK E kt (ev ix) with | true => findE E kt (ev ix) es 0 | false => none) with
          | none => none
          | some r => val s (lookRes ok te.zero r)
    | _ => none
  | .mapUpdate t m k x => match mapPut E s t (ev m) (ev k) (ev x) with
    | none => none
    | some s => some (.value undef, s)
  | .insert t m k x => match mapPut E s t (ev m) (ev k) (ev x) with
    | none => none
    | some s => some (.value undef, s)
  | .mapEntry t m k => match E.ti t with
    | some ⟨.map kt elem, _, _, _, _⟩ => match E.ti elem with
      | none => none
      | some te => match ev m, keyOK E kt (ev k) with
        | .map (some r), true => match getMap s r with
          | none => none
          | some (es, clock) => match findE E kt (ev k) es 0 with
            | none => none
            | some (some (i, v)) => match es[i]? with
              | none => none
              | some e => setEntry es i (ev k) v fun es => match setObj s r (.map es clock) with
                | none => none
                | some s => val s (.tuple #[v, goInt e.born])
            | some none => addEntry es ⟨ev k, te.zero, clock⟩ fun es => fN (Nat.succ clock) fun c => match setObj s r (.map es c) with
              | none => none
              | some s => val s (.tuple #[te.zero, goInt clock])
        | _, _ => none
    | _ => none
  | .entryStore _ m st x => match ev m, ev st with
    | .map (some r), .int _ born => match getMap s r with
      | none => none
      | some (es, clock) => match es.findIdx? (fun e => (e.born : Int) == born) with
        | none => none
        | some i => match es[i]? with
          | none => none
          | some e => setEntry es i e.key (ev x) fun es => match setObj s r (.map es clock) with
            | none => none
            | some s => some (.value undef, s)
    | _, _ => none
  | .extract t i => match ev t with
    | .tuple vs => match vs[i]? with
      | some v => val s v
      | none => none
    | _ => none
  | .typeAssert x _ asserted ok => match E.ti asserted with
    | none => none
    | some ti => match ti.u, ev x with
      | .interface _, _ => none
      | _, .iface t v => match Nat.beq t asserted, ok with
        | true, true => val s (.tuple #[v, .bool true])
        | true, false => val s v
        | false, true => val s (.tuple #[ti.zero, .bool false])
        | false, false => none
      | _, .nilIface => match ok with
        | true => val s (.tuple #[ti.zero, .bool false])
        | false => none
      | _, _ => none
  | .call c => match c.callee with
    | .builtin b => builtin E b c.argTypes (evs ev c.args.toList) s
    | .invoke _ _ => none
    | .value f => match ev f with
      | .func (.func g) first cap => callF E g (first.toList ++ evs ev c.args.toList ++ cap.toList) s
      | .func (.yield l) first _ => match s.heap.get l with
        | some ⟨.loop _ _ fn tmps n params as body d, _, _, _⟩ =>
          match Nat.beq (first.size + c.args.size) params.size with
          | true => match bindParams (params.toList.zip (first.toList ++ evs ev c.args.toList)) n tmps with
            | none => none
            | some tmps => some (.round l fn tmps n as body d, s)
          | false => none
        | _ => none
      | _ => none
  | _ => none

end Go.Can

/-
  THE CANONICAL INTERPRETER, third part: code, calls, rounds.
-/
namespace Go.Can

inductive Ex where
  | normal
  | exit (id : Nat)
  | ret
structure A where
  tmps : T Value
  n : Nat
  marks : List Nat
def A.ev (a : A) : Operand → Value
  | .tmp t => (a.tmps.get t).getD undef
  | .const v => match closed 4 v with
    | true => v
    | false => .chan (some 0)
  | .global _ => .chan (some 0)
  | .func f => .func (.func f) #[] #[]
def A.put {R : Type} (a : A) (d : Option Tmp) (v : Value) (k : A → Option R) : Option R :=
  match d with
  | none => k a
  | some d => match Nat.blt d a.n with
    | true => a.tmps.put d v fun t => k ⟨t, a.n, a.marks⟩
    | false => none
/-- is the guard of an operation met? none: not known -/
def wanted (ops : List Oper) (a : A) (o : Oper) : Option Bool :=
  match o.guard with
  | none => some true
  | some (g, b) => match ops[g]? with
    | none => none
    | some og => match og.dst with
      | none => none
      | some d => match a.tmps.get d with
        | some (.bool c) => match c, b with
          | true, true => some true
          | false, false => some true
          | true, false => some false
          | false, true => some false
        | some (.tuple _) => some false
        | none => some false
        | _ => none

/-! ### a region whose order is open -/
def quiet (o : Op) : Bool :=
  match o with
  | .move _ | .assign _ | .pick .. | .load .. | .nilCheck _ | .binOp .. | .unOp .. | .fieldAddr .. | .field .. | .indexAddr .. | .index .. | .lookup .. | .extract .. | .slice .. | .build .. | .makeInterface .. | .makeFunc .. | .typeAssert .. | .convert .. => true
  | .call c => match c.callee with
    | .builtin .len => true
    | .builtin .min => true
    | .builtin .max => true
    | _ => false
  | _ => false
/-- of each operation: none: quiet; some m: the m-th that is not -/
def louds : List Oper → Nat → List (Option Nat)
  | [], _ => []
  | o :: l, m => match quiet o.op with
    | true => none :: louds l m
    | false => some m :: louds l (Nat.succ m)
def binds (e : Edge) : Bool := Region.binds .any e
/-- how many of the loud ones are surely done when an operation becomes ready -/
def lbOf (ld : List (Option Nat)) (lbs : List Nat) : List Edge → Nat
  | [] => 0
  | e :: es => match binds e with
    | false => lbOf ld lbs es
    | true => max (match ld[e.on]? with
        | some (some m) => Nat.succ m
        | _ => (lbs[e.on]?).getD 0) (lbOf ld lbs es)
/-- the lower bounds, in the rows' order; every edge that binds goes backward -/
def lbs (ld : List (Option Nat)) : List Oper → List Nat → Option (List Nat)
  | [], acc => some acc
  | o :: l, acc => match o.after.toList.all fun e => !binds e || Nat.blt e.on acc.length with
    | false => none
    | true => fN (lbOf ld acc o.after.toList) fun x => fL (acc ++ [x]) fun acc => lbs ld l acc
/-- the upper bounds: an operation is surely done before the loud one with this number; 'all': those behind, with their numbers, and their upper bounds -/
def ubOf (ld : List (Option Nat)) (i M : Nat) : List (Nat × Oper × Nat) → Nat
  | [] => M
  | (j, o, u) :: l => match o.after.toList.any fun e => binds e && Nat.beq e.on i with
    | false => ubOf ld i M l
    | true => min (match ld[j]? with
        | some (some m) => m
        | _ => u) (ubOf ld i M l)
def ubs (ld : List (Option Nat)) (M : Nat) : Nat → List Oper → List (Nat × Oper × Nat)
  | _, [] => []
  | i, o :: l => match ubs ld M (Nat.succ i) l with
    | r => fN (ubOf ld i M r) fun u => (i, o, u) :: r
/-- the operands that are temporaries of the region itself lie behind an edge; nothing is assigned twice, and nothing is read that is assigned elsewhere -/
def readsOK (ops : List Oper) (o : Oper) (i : Nat) : Bool :=
  o.op.operands.toList.all fun x => match x with
    | .tmp t => ops.zipIdx.all fun p => match p.1.dst with
      | some d => match Nat.beq d t with
        | false => true
        | true => (o.after.toList.any fun e => binds e && Nat.beq e.on p.2) || (p.1.after.toList.any fun e => binds e && Nat.beq e.on i)
      | none => true
    | _ => true
def guardOK (o : Oper) : Bool :=
  match o.guard with
  | none => true
  | some (g, _) => o.after.toList.any fun e => binds e && Nat.beq e.on g
def dstsOK : List Oper → Bool
  | [] => true
  | o :: l => (match o.dst with
    | some d => l.all fun p => match p.dst with | some e => !Nat.beq d e | none => true
    | none => true) && dstsOK l

def veq : Nat → Value → Value → Bool
  | 0, _, _ => false
  | _ + 1, .bool a, .bool b => a == b
  | _ + 1, .int j a, .int k b => decide (j = k) && a == b
  | _ + 1, .string a, .string b => decide (a = b)
  | _ + 1, .pointer a, .pointer b => decide (a = b)
  | _ + 1, .slice a l c, .slice b m d => decide (a = b) && Nat.beq l m && Nat.beq c d
  | _ + 1, .map a, .map b => decide (a = b)
  | _ + 1, .nilFunc, .nilFunc => true
  | _ + 1, .nilIface, .nilIface => true
  | n + 1, .iface t a, .iface u b => Nat.beq t u && veq n a b
  | n + 1, .func f x c, .func g y d => decide (f = g) && veqL n x.toList y.toList && veqL n c.toList d.toList
  | n + 1, .agg a, .agg b => veqL n a.toList b.toList
  | n + 1, .tuple a, .tuple b => veqL n a.toList b.toList
  | _, _, _ => false
  where
  veqL (n : Nat) : List Value → List Value → Bool
    | [], [] => true
    | x :: a, y :: b => veq n x y && veqL n a b
    | _, _ => false

/-- do the quiet operations give at each stage at which they may stand what they gave? and were the operands of the loud ones what they are in the end? -/
def quietAt (E : Env) (a : A) (o : Oper) (v : Value) : List St → Bool
  | [] => true
  | s :: l => (match exec E a.ev o s with
    | some (.value w, _) => veq 4 w v
    | _ => false) && quietAt E a o v l
def rangeOf {α : Type} (l : List α) (lo hi : Nat) : List α := (l.drop lo).take (Nat.succ hi - lo)
/-- the states ahead of the loud operations, and the last -/
def stagesOf : List Oper → List (A × St) → St → List St
  | o :: l, p :: q, s => match quiet o.op with
    | true => stagesOf l q s
    | false => p.2 :: stagesOf l q s
  | _, _, s => [s]
def drawOK (E : Env) (ops : List Oper) (snaps : List (A × St)) (a : A) (s : St) : Bool :=
  match louds ops 0, stagesOf ops snaps s with
  | ld, stages => match lbs ld ops [] with
    | none => false
    | some lb => match ubs ld (stages.length - 1) 0 ops with
      | ub => Nat.beq snaps.length ops.length && dstsOK ops && ub.all fun p => readsOK ops p.2.1 p.1 && guardOK p.2.1 && match ld[p.1]?, lb[p.1]?, snaps[p.1]? with
          | some (some m), some b, _ => Nat.ble m b
          | some none, some b, some sn => match wanted ops sn.1 p.2.1 with
            | some false => true
            | some true => match p.2.1.dst with
              | some d => quietAt E sn.1 p.2.1 ((a.tmps.get d).getD undef) (rangeOf stages b p.2.2)
              | none => false
            | none => false
          | _, _, _ => false

inductive Rq where
  | code (ro : Option Nat) (fn : Nat) (c : Code) (a : A)
  /-- the operations that are left; 'acc': what stood ahead of each operation, the last first (of a region whose order is open) -/
  | ops (all : List Oper) (l : List Oper) (a : A) (acc : List (A × St)) (draw : Bool)
  | nx (x : Nx)
  | call (f : Nat) (args : List Value)
  | round (l f : Nat) (tmps : T Value) (n : Nat) (assign body : Code)
inductive Rs where
  | ex (e : Ex) (a : A)
  | acc (a : A) (snaps : List (A × St))
  | val (v : Value)

def startTmps : List Value → Nat → T Value → Option (T Value)
  | [], _, t => some t
  | v :: l, i, t => t.put i v fun t => startTmps l (Nat.succ i) t
def resultsV (E : Env) (s : St) (a : A) : List ResultVar → Option (List Value)
  | [] => some []
  | r :: l => match (match r with
      | .tmp t => some ((a.tmps.get t).getD undef)
      | .cell x t => loadVar E s t ((a.tmps.get x).getD undef)) with
    | none => none
    | some v => match resultsV E s a l with
      | none => none
      | some vs => some (v :: vs)
def closeMarks (s : St) : List Nat → Option St
  | [] => some s
  | m :: l => match s.heap.get m with
    | some ⟨.defr true, _, _, _⟩ => match setObj s m (.defr false) with
      | none => none
      | some s => closeMarks s l
    | _ => none
def setLoop (s : St) (l : Nat) (from_ to_ : LoopState) (pending : Option Code) : Option St :=
  match s.heap.get l with
  | some ⟨.loop st _ fn tmps n ps as b d, _, _, _⟩ => match decide (st = from_) with
    | true => setObj s l (.loop to_ pending fn tmps n ps as b d)
    | false => none
  | _ => none

def go (E : Env) : Nat → Rq → St → Option (Rs × St)
  | 0, _, _ => none
  | n + 1, .code ro fn c a, s => match c with
    | .skip => some (.ex .normal a, s)
    | .label _ => some (.ex .normal a, s)
    | .ret => some (.ex .ret a, s)
    | .exit id => some (.ex (.exit id) a, s)
    | .scope b => go E n (.code ro fn b a) s
    | .seq x y => match go E n (.code ro fn x a) s with
      | some (.ex .normal a, s) => go E n (.code ro fn y a) s
      | r => r
    | .cond c x y => match a.ev c with
      | .bool true => go E n (.code ro fn x a) s
      | .bool false => go E n (.code ro fn y a) s
      | _ => none
    | .block id b => match go E n (.code ro fn b a) s with
      | some (.ex (.exit i) a, s) => match Nat.beq i id with
        | true => some (.ex .normal a, s)
        | false => some (.ex (.exit i) a, s)
      | r => r
    | .loop b => match go E n (.code ro fn b a) s with
      | some (.ex .normal a, s) => go E n (.code ro fn (.loop b) a) s
      | r => r
    | .region _ ops draw => match go E n (.ops ops.toList ops.toList a [] draw) s with
      | some (.acc a acc, s) => match draw with
        | false => some (.ex .normal a, s)
        | true => match drawOK E ops.toList acc.reverse a s with
          | true => some (.ex .normal a, s)
          | false => none
      | _ => none
    | .rangeFunc f params assign body => match a.ev f with
      | .func (.func g) first cap => match (match ro with
          | some l => (match s.heap.get l with | some ⟨.loop _ _ _ _ _ _ _ _ d, _, _, _⟩ => some (d, a.marks, s) | _ => none)
          | none => (match new s (.defr true) with | some (r, s) => some (r, r :: a.marks, s) | none => none)) with
        | none => none
        | some (d, marks, s) => match new s (.loop .ready none fn a.tmps a.n params assign body d) with
          | none => none
          | some (l, s) => match E.fn g with
            | none => none
            | some _ => match go E n (.call g (first.toList ++ [.func (.yield l) #[] #[]] ++ cap.toList)) s with
              | some (.val _, s) => match s.heap.get l with
                | some ⟨.loop st pending fn' t n' ps as b d, _, _, _⟩ => match decide (st = .busy) with
                  | true => none
                  | false => match setObj s l (.loop .exhausted pending fn' t n' ps as b d) with
                    | none => none
                    | some s => match pending with
                      | none => some (.ex .normal ⟨a.tmps, a.n, marks⟩, s)
                      | some (.exit id) => some (.ex (.exit id) ⟨a.tmps, a.n, marks⟩, s)
                      | some .ret => some (.ex .ret ⟨a.tmps, a.n, marks⟩, s)
                      | some _ => none
                | _ => none
              | _ => none
      | _ => none
    | _ => none
  | n + 1, .ops all l a0 acc draw, s0 => match l with
    | [] => some (.acc a0 acc, s0)
    | o :: l => match wanted all a0 o with
      | none => none
      | some false => a0.put o.dst undef fun a => go E n (.ops all l a (match draw with | true => (a0, s0) :: acc | false => acc) draw) s0
      | some true => match exec E a0.ev o s0 with
        | none => none
        | some (x, s') => match go E n (.nx x) s' with
          | some (.val v, s') => a0.put o.dst v fun a => go E n (.ops all l a (match draw with | true => (a0, s0) :: acc | false => acc) draw) s'
          | _ => none
  | n + 1, .nx x, s => match x with
    | .value v => some (.val v, s)
    | .enter f args => go E n (.call f args) s
    | .round l f t m as b _ => go E n (.round l f t m as b) s
  | n + 1, .call f args, s => match E.fn f with
    | none => none
    | some fn => match fn.body with
      | none => none
      | some c => match startTmps args 0 .nil with
        | none => none
        | some t => match Nat.ble args.length fn.ntmps && Nat.blt fn.ntmps 65536 with
          | false => none
          | true => match go E n (.code none f c ⟨t, fn.ntmps, []⟩) s with
            | some (.ex (.exit _) _, _) => none
            | some (.ex _ a, s) => match closeMarks s a.marks with
              | none => none
              | some s => match resultsV E s a fn.results.toList with
                | none => none
                | some [v] => some (.val v, s)
                | some vs => some (.val (.tuple ⟨vs⟩), s)
            | _ => none
  | n + 1, .round l f t m as b, s => match go E n (.code (some l) f as ⟨t, m, []⟩) s with
    | some (.ex .normal a, s) => match s.heap.get l with
      | some ⟨.loop .ready p _ _ _ _ _ _ _, _, _, _⟩ => match setLoop s l .ready .busy p with
        | none => none
        | some s => match go E n (.code (some l) f b a) s with
          | some (.ex e _, s) => match e with
            | .normal => match setLoop s l .busy .ready none with
              | none => none
              | some s => some (.val (.bool true), s)
            | .ret => match setLoop s l .busy .done (some .ret) with
              | none => none
              | some s => some (.val (.bool false), s)
            | .exit id => match setLoop s l .busy .done (some (.exit id)) with
              | none => none
              | some s => some (.val (.bool false), s)
          | _ => none
      | _ => none
    | _ => none

end Go.Can

/-
  THE CANONICAL INTERPRETER'S SOUNDNESS, first part: what it means that a real world looks like a canonical state.
-/
namespace Go.Can

/-! ### lists, place by place -/
inductive F2 {α β : Type} (R : α → β → Prop) : List α → List β → Prop where
  | nil : F2 R [] []
  | cons {x y l m} : R x y → F2 R l m → F2 R (x :: l) (y :: m)
namespace F2
variable {α β : Type} {R S : α → β → Prop}
theorem mono (h : ∀ x y, R x y → S x y) {l m} (hl : F2 R l m) : F2 S l m := by
  induction hl with
  | nil => exact .nil
  | cons hx _ ih => exact .cons (h _ _ hx) ih
theorem length {l : List α} {m : List β} (h : F2 R l m) : l.length = m.length := by
  induction h with
  | nil => rfl
  | cons _ _ ih => simp [ih]
theorem append {l l' : List α} {m m' : List β} (h : F2 R l m) (h' : F2 R l' m') : F2 R (l ++ l') (m ++ m') := by
  induction h with
  | nil => exact h'
  | cons hx _ ih => exact .cons hx ih
theorem get {l : List α} {m : List β} (h : F2 R l m) : ∀ (i : Nat) (x : α), l[i]? = some x → ∃ y, m[i]? = some y ∧ R x y := by
  induction h with
  | nil => intro i x hx; simp at hx
  | @cons x y l m hx _ ih =>
    intro i z hz
    cases i with
    | zero => simp at hz; subst hz; exact ⟨y, by simp, hx⟩
    | succ i => simp at hz; obtain ⟨u, hu, hr⟩ := ih i z hz; exact ⟨u, by simpa using hu, hr⟩
theorem get' {l : List α} {m : List β} (h : F2 R l m) (i : Nat) {x : α} {y : β} (hx : l[i]? = some x) (hy : m[i]? = some y) : R x y := by
  obtain ⟨u, hu, hr⟩ := h.get i x hx
  rw [hy] at hu
  cases hu
  exact hr
theorem none {l : List α} {m : List β} (h : F2 R l m) {i : Nat} (hx : l[i]? = none) : m[i]? = none := by
  rw [List.getElem?_eq_none_iff] at *
  rw [← h.length]; exact hx
theorem of_get : ∀ {l : List α} {m : List β}, l.length = m.length → (∀ (i : Nat) (x : α) (y : β), l[i]? = some x → m[i]? = some y → R x y) → F2 R l m
  | [], [], _, _ => .nil
  | [], _ :: _, h, _ => by simp at h
  | _ :: _, [], h, _ => by simp at h
  | x :: l, y :: m, h, k => .cons (k 0 x y rfl rfl) (of_get (by simpa using h) fun i u v hu hv => k (i + 1) u v (by simpa using hu) (by simpa using hv))
theorem drop {l : List α} {m : List β} (h : F2 R l m) (n : Nat) : F2 R (l.drop n) (m.drop n) := by
  induction h generalizing n with
  | nil => simpa using F2.nil
  | cons hx hl ih => cases n with
    | zero => exact .cons hx hl
    | succ n => simpa using ih n
theorem take {l : List α} {m : List β} (h : F2 R l m) (n : Nat) : F2 R (l.take n) (m.take n) := by
  induction h generalizing n with
  | nil => simpa using F2.nil
  | cons hx hl ih => cases n with
    | zero => simpa using F2.nil
    | succ n => simpa using F2.cons hx (ih n)
theorem map_same {γ δ : Type} {Q : γ → δ → Prop} {f : α → γ} {g : β → δ} {l : List α} {m : List β} (h : F2 R l m) (k : ∀ x y, R x y → Q (f x) (g y)) : F2 Q (l.map f) (m.map g) := by
  induction h with
  | nil => exact .nil
  | cons hx _ ih => exact .cons (k _ _ hx) ih
theorem refl {R : α → α → Prop} : ∀ (l : List α), (∀ x ∈ l, R x x) → F2 R l l
  | [], _ => .nil
  | x :: l, h => .cons (h x (by simp)) (refl l fun y hy => h y (by simp [hy]))
end F2

/-! ### the map from numbers -/
def T.setF {α : Type} : Nat → T α → Nat → α → T α
  | 0, t, _, _ => t
  | n + 1, .nil, p, x => if p = 1 then .node .nil (some x) .nil else if p % 2 = 0 then .node (T.setF n .nil (p / 2) x) none .nil else .node .nil none (T.setF n .nil (p / 2) x)
  | n + 1, .node l v r, p, x => if p = 1 then .node l (some x) r else if p % 2 = 0 then .node (T.setF n l (p / 2) x) v r else .node l v (T.setF n r (p / 2) x)
theorem beq_dec (p q : Nat) : Nat.beq p q = decide (p = q) := by rw [Bool.eq_iff_iff]; simp
theorem T.setK_eq {α R : Type} (n : Nat) : ∀ (t : T α) (p : Nat) (x : α) (k : T α → R), T.setK n t p x k = k (T.setF n t p x) := by
  induction n with
  | zero => intro t p x k; rfl
  | succ n ih =>
    intro t p x k
    have hpm : Nat.mod p 2 = p % 2 := rfl
    have hpd : Nat.div p 2 = p / 2 := rfl
    cases t with
    | nil =>
      simp only [T.setK, T.setF, beq_dec, hpm, hpd]
      by_cases h1 : p = 1
      · simp [h1]
      · by_cases h2 : p % 2 = 0
        · simp [h1, h2, ih]
        · simp [h1, h2, ih]
    | node l v r =>
      simp only [T.setK, T.setF, beq_dec, hpm, hpd]
      by_cases h1 : p = 1
      · simp [h1]
      · by_cases h2 : p % 2 = 0
        · simp [h1, h2, ih]
        · simp [h1, h2, ih]
theorem T.getF_nil {α : Type} (n p : Nat) : T.getF n (T.nil : T α) p = none := by cases n <;> rfl
theorem T.getF_node {α : Type} (n : Nat) (l : T α) (v : Option α) (r : T α) (p : Nat) : T.getF (n + 1) (.node l v r) p = if p = 1 then v else if p % 2 = 0 then T.getF n l (p / 2) else T.getF n r (p / 2) := by
  have hpm : Nat.mod p 2 = p % 2 := rfl
  have hpd : Nat.div p 2 = p / 2 := rfl
  simp only [T.getF, beq_dec, hpm, hpd]
  by_cases h1 : p = 1
  · simp [h1]
  · by_cases h2 : p % 2 = 0 <;> simp [h1, h2]
theorem T.getF_setF_ne {α : Type} : ∀ (n : Nat) (t : T α) (p q : Nat) (x : α), p ≠ q → 0 < p → 0 < q → T.getF n (T.setF n t p x) q = T.getF n t q := by
  intro n
  induction n with
  | zero => intro t p q x _ _ _; rfl
  | succ n ih =>
    intro t p q x hne hp hq
    have key : ∀ u : T α, p ≠ 1 → q ≠ 1 → p % 2 = q % 2 → T.getF n (T.setF n u (p / 2) x) (q / 2) = T.getF n u (q / 2) := fun u h1 h2 h3 => ih u (p / 2) (q / 2) x (by omega) (by omega) (by omega)
    cases t with
    | nil =>
      simp only [T.setF]
      by_cases h1 : p = 1
      · have : q ≠ 1 := fun h => hne (by omega)
        simp [h1, T.getF_node, this, T.getF_nil]
      · by_cases h2 : p % 2 = 0
        · by_cases h3 : q = 1
          · simp [h1, h2, h3, T.getF_node, T.getF_nil]
          · by_cases h4 : q % 2 = 0
            · simp [h1, h2, h3, h4, T.getF_node, T.getF_nil, key .nil h1 h3 (by omega)]
            · simp [h1, h2, h3, h4, T.getF_node, T.getF_nil]
        · by_cases h3 : q = 1
          · simp [h1, h2, h3, T.getF_node, T.getF_nil]
          · by_cases h4 : q % 2 = 0
            · simp [h1, h2, h3, h4, T.getF_node, T.getF_nil]
            · simp [h1, h2, h3, h4, T.getF_node, T.getF_nil, key .nil h1 h3 (by omega)]
    | node l v r =>
      simp only [T.setF]
      by_cases h1 : p = 1
      · have : q ≠ 1 := fun h => hne (by omega)
        simp [h1, T.getF_node, this]
      · by_cases h2 : p % 2 = 0
        · by_cases h3 : q = 1
          · simp [h1, h2, h3, T.getF_node]
          · by_cases h4 : q % 2 = 0
            · simp [h1, h2, h3, h4, T.getF_node, key l h1 h3 (by omega)]
            · simp [h1, h2, h3, h4, T.getF_node]
        · by_cases h3 : q = 1
          · simp [h1, h2, h3, T.getF_node]
          · by_cases h4 : q % 2 = 0
            · simp [h1, h2, h3, h4, T.getF_node]
            · simp [h1, h2, h3, h4, T.getF_node, key r h1 h3 (by omega)]
theorem T.getF_setF_same {α : Type} : ∀ (n : Nat) (t : T α) (p : Nat) (x : α), 0 < p → p < 2 ^ n → T.getF n (T.setF n t p x) p = some x := by
  intro n
  induction n with
  | zero => intro t p x h0 h; simp at h; omega
  | succ n ih =>
    intro t p x h0 h
    have h' : p / 2 < 2 ^ n := by rw [Nat.pow_succ] at h; omega
    cases t with
    | nil =>
      simp only [T.setF]
      by_cases h1 : p = 1
      · simp [h1, T.getF_node]
      · by_cases h2 : p % 2 = 0 <;> simp [h1, h2, T.getF_node, ih _ (p / 2) x (by omega) h']
    | node l v r =>
      simp only [T.setF]
      by_cases h1 : p = 1
      · simp [h1, T.getF_node]
      · by_cases h2 : p % 2 = 0 <;> simp [h1, h2, T.getF_node, ih _ (p / 2) x (by omega) h']
theorem T.getF_setF_some {α : Type} : ∀ (n : Nat) (t : T α) (p : Nat) (x y : α), 0 < p → T.getF n (T.setF n t p x) p = some y → y = x := by
  intro n
  induction n with
  | zero => intro t p x y _ h; cases h
  | succ n ih =>
    intro t p x y h0 h
    cases t with
    | nil =>
      simp only [T.setF] at h
      by_cases h1 : p = 1
      · simp [h1, T.getF_node] at h; exact h.symm
      · by_cases h2 : p % 2 = 0
        · simp [h1, h2, T.getF_node] at h; exact ih _ (p / 2) x y (by omega) h
        · simp [h1, h2, T.getF_node] at h; exact ih _ (p / 2) x y (by omega) h
    | node l v r =>
      simp only [T.setF] at h
      by_cases h1 : p = 1
      · simp [h1, T.getF_node] at h; exact h.symm
      · by_cases h2 : p % 2 = 0
        · simp [h1, h2, T.getF_node] at h; exact ih _ (p / 2) x y (by omega) h
        · simp [h1, h2, T.getF_node] at h; exact ih _ (p / 2) x y (by omega) h
/-- what 'put' lays -/
def T.upd {α : Type} (t : T α) (i : Nat) (x : α) : T α := T.setF 24 t (i + 1) x
theorem T.put_eq {α R : Type} (t : T α) (i : Nat) (x : α) (k : T α → R) : t.put i x k = k (t.upd i x) := T.setK_eq ..
theorem T.get_upd_ne {α : Type} (t : T α) {i j : Nat} (x : α) (h : i ≠ j) : (t.upd i x).get j = t.get j := T.getF_setF_ne 24 t (i + 1) (j + 1) x (by omega) (by omega) (by omega)
theorem T.get_upd_same {α : Type} (t : T α) {i : Nat} (x : α) (h : i < 16777215) : (t.upd i x).get i = some x := T.getF_setF_same 24 t (i + 1) x (by omega) (by omega)
theorem T.get_upd_some {α : Type} (t : T α) {i : Nat} {x y : α} (h : (t.upd i x).get i = some y) : y = x := T.getF_setF_some 24 t (i + 1) x y (by omega) h
theorem T.get_nil {α : Type} (i : Nat) : (T.nil : T α).get i = none := T.getF_nil ..

end Go.Can

/-
  THE CANONICAL INTERPRETER'S SOUNDNESS, second part: values, blocks, worlds.
-/
namespace Go.Can

/-- where a canonical block lies: the real block, from its cell 'sh' on; 'end1': its cells; 'end2': the real block's cells from 'sh' on -/
structure RB where
  blk : Nat
  sh : Nat
  fam : Option Nat
  vsh : Nat
  esz : Nat
  end1 : Nat
  end2 : Nat
abbrev Ren := Nat → Option RB
def Ren.le (ρ ρ' : Ren) : Prop := ∀ b x, ρ b = some x → ρ' b = some x
theorem Ren.le.refl (ρ : Ren) : ρ.le ρ := fun _ _ h => h
theorem Ren.le.trans {a b c : Ren} (h : a.le b) (k : b.le c) : a.le c := fun x y e => k x y (h x y e)

/-- a value of which the canonical run knows nothing -/
def junk : Value := .chan (some 0)

inductive FnR (ρ : Ren) : Fn → Fn → Prop where
  | same (f : Nat) : FnR ρ (.func f) (.func f)
  | yield {l r} : ρ l = some r → FnR ρ (.yield l) (.yield r.blk)

/-- the canonical value 'v' stands for the real value 'w' -/
inductive VR (ρ : Ren) : Value → Value → Prop where
  | junk (w : Value) : VR ρ (.chan (some 0)) w
  | bool (b : Bool) : VR ρ (.bool b) (.bool b)
  | int (k : IntKind) (n : Int) : VR ρ (.int k n) (.int k n)
  | string (s : ByteArray) : VR ρ (.string s) (.string s)
  | nilp : VR ρ (.pointer none) (.pointer none)
  | ptr {b o r} : ρ b = some r → VR ρ (.pointer (some ⟨b, o, none⟩)) (.pointer (some ⟨r.blk, r.sh + o, none⟩))
  | nils (l c : Nat) : VR ρ (.slice none l c) (.slice none l c)
  | slice {b o r l c} : ρ b = some r → VR ρ (.slice (some ⟨b, o, none⟩) l c) (.slice (some ⟨r.blk, r.sh + o, none⟩) l c)
  | tail {b o r l c c2 f} : ρ b = some r → r.fam = some f → o + c * r.esz = r.end1 → o + c2 * r.esz = r.end2 → VR ρ (.slice (some ⟨b, o, none⟩) l c) (.slice (some ⟨r.blk, r.sh + o, none⟩) l c2)
  | empty {b o o2 r f} : ρ b = some r → r.fam = some f → VR ρ (.slice (some ⟨b, o, none⟩) 0 0) (.slice (some ⟨r.blk, o2, none⟩) 0 0)
  | nilm : VR ρ (.map none) (.map none)
  | map {b r} : ρ b = some r → VR ρ (.map (some b)) (.map (some r.blk))
  | nilf : VR ρ .nilFunc .nilFunc
  | nili : VR ρ .nilIface .nilIface
  | func {f g : Fn} {x c y d : Array Value} : FnR ρ f g → x.size = y.size → (∀ (i : Nat) u v, x[i]? = some u → y[i]? = some v → VR ρ u v) → c.size = d.size → (∀ (i : Nat) u v, c[i]? = some u → d[i]? = some v → VR ρ u v) → VR ρ (.func f x c) (.func g y d)
  | iface {t v w} : VR ρ v w → VR ρ (.iface t v) (.iface t w)
  | agg {x y : Array Value} : x.size = y.size → (∀ (i : Nat) u v, x[i]? = some u → y[i]? = some v → VR ρ u v) → VR ρ (.agg x) (.agg y)
  | tuple {x y : Array Value} : x.size = y.size → (∀ (i : Nat) u v, x[i]? = some u → y[i]? = some v → VR ρ u v) → VR ρ (.tuple x) (.tuple y)

theorem FnR.mono {ρ ρ' : Ren} (h : ρ.le ρ') {f g} (k : FnR ρ f g) : FnR ρ' f g := by
  cases k with
  | same f => exact .same f
  | yield e => exact .yield (h _ _ e)
theorem VR.mono {ρ ρ' : Ren} (h : ρ.le ρ') {v w} (k : VR ρ v w) : VR ρ' v w := by
  induction k with
  | junk w => exact .junk w
  | bool b => exact .bool b
  | int k n => exact .int k n
  | string s => exact .string s
  | nilp => exact .nilp
  | ptr e => exact .ptr (h _ _ e)
  | nils l c => exact .nils l c
  | slice e => exact .slice (h _ _ e)
  | tail e f a b => exact .tail (h _ _ e) f a b
  | empty e f => exact .empty (h _ _ e) f
  | nilm => exact .nilm
  | map e => exact .map (h _ _ e)
  | nilf => exact .nilf
  | nili => exact .nili
  | func f a _ b _ i1 i2 => exact .func (f.mono h) a i1 b i2
  | iface _ ih => exact .iface ih
  | agg a _ i => exact .agg a i
  | tuple a _ i => exact .tuple a i

abbrev VL (ρ : Ren) := F2 (VR ρ)
theorem VL.mono {ρ ρ' : Ren} (h : ρ.le ρ') {l m} (k : VL ρ l m) : VL ρ' l m := F2.mono (fun _ _ => VR.mono h) k
theorem vl_of_arr {ρ : Ren} {x y : Array Value} (h : x.size = y.size) (k : ∀ (i : Nat) u v, x[i]? = some u → y[i]? = some v → VR ρ u v) : VL ρ x.toList y.toList :=
  F2.of_get (by simpa using h) fun i u v hu hv => k i u v (by simpa using hu) (by simpa using hv)
theorem arr_of_vl {ρ : Ren} {x y : Array Value} (h : VL ρ x.toList y.toList) : x.size = y.size ∧ ∀ (i : Nat) u v, x[i]? = some u → y[i]? = some v → VR ρ u v :=
  ⟨by simpa using h.length, fun i u v hu hv => h.get' i (by simpa using hu) (by simpa using hv)⟩
theorem VR.agg' {ρ : Ren} {x y : Array Value} (h : VL ρ x.toList y.toList) : VR ρ (.agg x) (.agg y) := .agg (arr_of_vl h).1 (arr_of_vl h).2
theorem VR.tuple' {ρ : Ren} {x y : Array Value} (h : VL ρ x.toList y.toList) : VR ρ (.tuple x) (.tuple y) := .tuple (arr_of_vl h).1 (arr_of_vl h).2
theorem VR.undef {ρ : Ren} : VR ρ undef undef := .tuple rfl fun i u v hu _ => by simp at hu

/-! ### inversions -/
section
variable {ρ : Ren} {w : Value}
theorem VR.bool_inv {b} (h : VR ρ (.bool b) w) : w = .bool b := by cases h; rfl
theorem VR.int_inv {k n} (h : VR ρ (.int k n) w) : w = .int k n := by cases h; rfl
theorem VR.string_inv {s} (h : VR ρ (.string s) w) : w = .string s := by cases h; rfl
theorem VR.nilp_inv (h : VR ρ (.pointer none) w) : w = .pointer none := by cases h; rfl
theorem VR.ptr_inv {b o} (h : VR ρ (.pointer (some ⟨b, o, none⟩)) w) : ∃ r, ρ b = some r ∧ w = .pointer (some ⟨r.blk, r.sh + o, none⟩) := by
  cases h with | ptr e => exact ⟨_, e, rfl⟩
theorem VR.nils_inv {l c} (h : VR ρ (.slice none l c) w) : w = .slice none l c := by cases h; rfl
theorem VR.map_inv {b} (h : VR ρ (.map (some b)) w) : ∃ r, ρ b = some r ∧ w = .map (some r.blk) := by
  cases h with | map e => exact ⟨_, e, rfl⟩
theorem VR.nilm_inv (h : VR ρ (.map none) w) : w = .map none := by cases h; rfl
theorem VR.agg_inv {x} (h : VR ρ (.agg x) w) : ∃ y, w = .agg y ∧ VL ρ x.toList y.toList := by
  cases h with | agg a b => exact ⟨_, rfl, vl_of_arr a b⟩
theorem VR.tuple_inv {x} (h : VR ρ (.tuple x) w) : ∃ y, w = .tuple y ∧ VL ρ x.toList y.toList := by
  cases h with | tuple a b => exact ⟨_, rfl, vl_of_arr a b⟩
theorem VR.iface_inv {t v} (h : VR ρ (.iface t v) w) : ∃ u, w = .iface t u ∧ VR ρ v u := by
  cases h with | iface k => exact ⟨_, rfl, k⟩
theorem VR.func_inv {f x c} (h : VR ρ (.func f x c) w) : ∃ g y d, w = .func g y d ∧ FnR ρ f g ∧ VL ρ x.toList y.toList ∧ VL ρ c.toList d.toList := by
  cases h with | func k a b c d => exact ⟨_, _, _, rfl, k, vl_of_arr a b, vl_of_arr c d⟩
theorem VR.slice_inv {b o l c} (h : VR ρ (.slice (some ⟨b, o, none⟩) l c) w) : ∃ r o2 c2, ρ b = some r ∧ w = .slice (some ⟨r.blk, o2, none⟩) l c2 ∧
    ((o2 = r.sh + o ∧ c2 = c) ∨ (o2 = r.sh + o ∧ (∃ f, r.fam = some f) ∧ o + c * r.esz = r.end1 ∧ o + c2 * r.esz = r.end2) ∨ (l = 0 ∧ c = 0 ∧ c2 = 0 ∧ ∃ f, r.fam = some f)) := by
  cases h with
  | slice e => exact ⟨_, _, _, e, rfl, .inl ⟨rfl, rfl⟩⟩
  | tail e f a b => exact ⟨_, _, _, e, rfl, .inr (.inl ⟨rfl, ⟨_, f⟩, a, b⟩)⟩
  | empty e f => exact ⟨_, _, _, e, rfl, .inr (.inr ⟨rfl, rfl, rfl, _, f⟩)⟩
end
theorem one_oneCell {ρ : Ren} {v w : Value} (h : VR ρ v w) (ho : one v = true) : w.oneCell' = true := by
  cases h <;> first | rfl | (simp [one] at ho)

/-! ### blocks -/
def TR (ρ : Ren) (t : T Value) (n : Nat) (tmps : Array Value) : Prop := tmps.size = n ∧ n < 65536 ∧ ∀ i, VR ρ ((t.get i).getD undef) (tmps.getD i undef)
def ER (ρ : Ren) (x y : MapEntry) : Prop := VR ρ x.key y.key ∧ VR ρ x.val y.val ∧ x.born = y.born
/-- the canonical block's content stands for the real block -/
def OR (ρ : Ren) (s : St) (w : World) (b : Nat) (k : Blk) (r : RB) : Prop :=
  match k.obj with
  | .cells c _ => ∃ c2 e2 fr, w.heap[r.blk]? = some (.cells c2 e2 fr) ∧ c.length = r.end1 ∧ r.end1 ≤ r.end2 ∧ c2.size = r.sh + r.end2 ∧ (r.fam = none → r.sh = 0 ∧ r.end2 = r.end1) ∧
      (∀ o, o < c2.size → ¬ (fr.1 ≤ o ∧ o < fr.2)) ∧ ∀ i v, c[i]? = some v → readable s b k i = true → ∃ u, c2[r.sh + i]? = some u ∧ VR ρ v u
  | .map es clk => ∃ es2, w.heap[r.blk]? = some (.map es2 clk) ∧ F2 (ER ρ) es es2.toList
  | .siter z p => w.heap[r.blk]? = some (.stringIter z p)
  | .miter m since seen st => ∃ m2, w.heap[r.blk]? = some (.mapIter m2 since ⟨seen⟩ st) ∧ (match m with | none => m2 = none | some x => ∃ q, ρ x = some q ∧ m2 = some q.blk)
  | .loop st pend fn tmps n ps as bd d => ∃ t2 q, ρ d = some q ∧ w.heap[r.blk]? = some (.loop { state := st, pending := pend, fn := fn, tmps := t2, params := ps, assign := as, body := bd, defers := q.blk }) ∧ TR ρ tmps n t2
  | .defr o => w.heap[r.blk]? = some (.deferred (if o then some [] else none))

structure HR (ρ : Ren) (s : St) (w : World) : Prop where
  dom : ∀ b r, ρ b = some r → b < s.next
  top : ∀ b r, ρ b = some r → r.blk < w.heap.size
  fam : ∀ b r f, ρ b = some r → r.fam = some f → f < s.nfam ∧ 0 < r.esz ∧ r.end1 ≤ r.end2
  inj : ∀ b c r q, ρ b = some r → ρ c = some q → r.blk = q.blk → b = c ∨ ∃ f, r.fam = some f ∧ q.fam = some f ∧ r.sh + q.vsh = q.sh + r.vsh
  live : ∀ b k, s.heap.get b = some k → ∃ r, ρ b = some r ∧ k.fam = r.fam ∧ k.vsh = r.vsh ∧ k.esz = r.esz ∧ OR ρ s w b k r

/-- from one world to a later one: nothing but what 'ρ' knows has turned -/
structure Ev (ρ : Ren) (w : World) (ρ' : Ren) (w' : World) : Prop where
  le : ρ.le ρ'
  new : ∀ b r, ρ' b = some r → w.heap.size ≤ r.blk ∨ ∃ c q, ρ c = some q ∧ q.blk = r.blk
  os : w'.os = w.os
  tape : w'.tape = w.tape
  output : w'.output = w.output
  size : w.heap.size ≤ w'.heap.size
  keep : ∀ k, k < w.heap.size → (∀ b r, ρ b = some r → r.blk ≠ k) → w'.heap[k]? = w.heap[k]?
theorem Ev.refl (ρ : Ren) (w : World) : Ev ρ w ρ w := ⟨.refl ρ, fun b r h => .inr ⟨b, r, h, rfl⟩, rfl, rfl, rfl, Nat.le_refl _, fun _ _ _ => rfl⟩
theorem Ev.trans {ρ ρ1 ρ2 : Ren} {w w1 w2 : World} (h : Ev ρ w ρ1 w1) (k : Ev ρ1 w1 ρ2 w2) : Ev ρ w ρ2 w2 where
  le := h.le.trans k.le
  new := fun b r e => by
    rcases k.new b r e with h1 | ⟨c, q, hc, hq⟩
    · exact .inl (Nat.le_trans h.size h1)
    · rcases h.new c q hc with h2 | ⟨d, p, hd, hp⟩
      · exact .inl (hq ▸ h2)
      · exact .inr ⟨d, p, hd, hp.trans hq⟩
  os := k.os.trans h.os
  tape := k.tape.trans h.tape
  output := k.output.trans h.output
  size := Nat.le_trans h.size k.size
  keep := fun i hi hn => by
    rw [k.keep i (Nat.lt_of_lt_of_le hi h.size) fun b r e he => ?_]
    · exact h.keep i hi hn
    · rcases h.new b r e with h1 | ⟨c, q, hc, hq⟩
      · omega
      · exact hn c q hc (hq.trans he)
/-- a draw turns nothing -/
theorem Ev.drew (ρ : Ren) (w : World) : Ev ρ w ρ { w with drawn := w.drawn + 1 } := ⟨.refl ρ, fun b r h => .inr ⟨b, r, h, rfl⟩, rfl, rfl, rfl, Nat.le_refl _, fun _ _ _ => rfl⟩
theorem OR.drew {ρ s} {w : World} {b k r} (h : OR ρ s w b k r) : OR ρ s { w with drawn := w.drawn + 1 } b k r := h
theorem HR.drew {ρ s} {w : World} (h : HR ρ s w) : HR ρ s { w with drawn := w.drawn + 1 } := ⟨h.dom, h.top, h.fam, h.inj, h.live⟩

theorem TR.mono {ρ ρ' : Ren} (h : ρ.le ρ') {t n tmps} (k : TR ρ t n tmps) : TR ρ' t n tmps := ⟨k.1, k.2.1, fun i => (k.2.2 i).mono h⟩
theorem ER.mono {ρ ρ' : Ren} (h : ρ.le ρ') {x y} (k : ER ρ x y) : ER ρ' x y := ⟨k.1.mono h, k.2.1.mono h, k.2.2⟩
/-- a block's content, told of a later map, of a state in which less can be read, of a world in which the block stands as it stood -/
theorem OR.mono {ρ ρ' : Ren} {s s' : St} {w w' : World} {b : Nat} {k : Blk} {r : RB} (h : OR ρ s w b k r) (le : ρ.le ρ') (hr : ∀ i, readable s' b k i = true → readable s b k i = true)
    (hw : w'.heap[r.blk]? = w.heap[r.blk]?) : OR ρ' s' w' b k r := by
  unfold OR at *
  split at h
  · obtain ⟨c2, e2, fr, h1, h2, h3, h4, h5, h6, h7⟩ := h
    exact ⟨c2, e2, fr, hw.trans h1, h2, h3, h4, h5, h6, fun i v hv hrd => by obtain ⟨u, hu, hvr⟩ := h7 i v hv (hr i hrd); exact ⟨u, hu, hvr.mono le⟩⟩
  · obtain ⟨es2, h1, h2⟩ := h
    exact ⟨es2, hw.trans h1, h2.mono fun _ _ => ER.mono le⟩
  · exact hw.trans h
  · obtain ⟨m2, h1, h2⟩ := h
    refine ⟨m2, hw.trans h1, ?_⟩
    split at h2
    · exact h2
    · obtain ⟨q, hq, e⟩ := h2; exact ⟨q, le _ _ hq, e⟩
  · obtain ⟨t2, q, h1, h2, h3⟩ := h
    exact ⟨t2, q, le _ _ h1, hw.trans h2, h3.mono le⟩
  · exact hw.trans h

end Go.Can

/-
  THE CANONICAL INTERPRETER'S SOUNDNESS, third part: reading, storing, new blocks.
-/
namespace Go.Can

theorem setL_eq {R : Type} : ∀ (l : List Value) (i : Nat) (v : Value) (k : List Value → R), setL l i v k = k (l.set i v)
  | [], i, v, k => by simp [setL]
  | x :: l, 0, v, k => by simp [setL]
  | x :: l, i + 1, v, k => by simp [setL, setL_eq l i v]
theorem beq_true {a b : Nat} : Nat.beq a b = true ↔ a = b := by rw [beq_dec]; simp
theorem beq_false {a b : Nat} : Nat.beq a b = false ↔ a ≠ b := by rw [beq_dec]; simp
theorem blt_true {a b : Nat} : Nat.blt a b = true ↔ a < b := by simp [Nat.blt, Nat.ble_eq, Nat.succ_le_iff]
theorem blt_false {a b : Nat} : Nat.blt a b = false ↔ ¬ a < b := by rw [← blt_true]; cases Nat.blt a b <;> simp
theorem ble_true {a b : Nat} : Nat.ble a b = true ↔ a ≤ b := by rw [Nat.ble_eq]
theorem ble_false {a b : Nat} : Nat.ble a b = false ↔ ¬ a ≤ b := by rw [← ble_true]; cases Nat.ble a b <;> simp

theorem cell?_of {w : World} {k o : Nat} {c : Array Value} {e fr} {u : Value} (h : w.heap[k]? = some (.cells c e fr)) (hu : c[o]? = some u) : w.cell? ⟨k, o, none⟩ = some u := by
  simp [World.cell?, h, hu]
theorem frozen?_of {w : World} {k o : Nat} {c : Array Value} {e} {fr : Nat × Nat} (h : w.heap[k]? = some (.cells c e fr)) (hf : ¬ (fr.1 ≤ o ∧ o < fr.2)) : w.frozen? ⟨k, o, none⟩ = false := by
  obtain ⟨lo, hi⟩ := fr
  simp only [World.frozen?, h]
  simpa using hf
theorem heap_setCell_same {w : World} {k o : Nat} {c : Array Value} {e fr} (u : Value) (h : w.heap[k]? = some (.cells c e fr)) : (w.setCell ⟨k, o, none⟩ u).heap[k]? = some (.cells (c.setIfInBounds o u) e fr) := by
  simp [World.setCell, Array.getElem?_modify, h]
theorem heap_setCell_ne {w : World} {k o j : Nat} (u : Value) (h : j ≠ k) : (w.setCell ⟨k, o, none⟩ u).heap[j]? = w.heap[j]? := by
  simp only [World.setCell, Array.getElem?_modify]
  rw [if_neg (by omega)]
theorem size_setCell {w : World} {a : Addr} (u : Value) : (w.setCell a u).heap.size = w.heap.size := by simp [World.setCell]

theorem cell_ok {ρ s w b o v r} (h : HR ρ s w) (hr : ρ b = some r) (hc : cell s b o = some v) : ∃ u, w.cell? ⟨r.blk, r.sh + o, none⟩ = some u ∧ VR ρ v u := by
  unfold cell at hc
  split at hc
  · cases hc
  · rename_i k hk
    split at hc
    · rename_i c e hobj
      split at hc
      · rename_i hrd
        obtain ⟨q, hq, _, _, _, hor⟩ := h.live b k hk
        rw [hr] at hq; cases hq
        simp only [OR, hobj] at hor
        obtain ⟨c2, e2, fr, h1, _, _, _, _, _, h7⟩ := hor
        obtain ⟨u, hu, hvr⟩ := h7 o v hc hrd
        exact ⟨u, cell?_of h1 hu, hvr⟩
      · cases hc
    · cases hc

theorem setBlk_some {s s' : St} {b : Nat} {k : Blk} (h : setBlk s b k = some s') : s' = ⟨s.heap.upd b k, s.next, s.fams, s.nfam⟩ := by
  unfold setBlk at h; rw [T.put_eq] at h; cases h; rfl
theorem setFam_some {s s' : St} {f : Nat} {k : Fam} (h : setFam s f k = some s') : s' = ⟨s.heap, s.next, s.fams.upd f k, s.nfam⟩ := by
  unfold setFam at h; rw [T.put_eq] at h; cases h; rfl

theorem setCell_inv {s s' : St} {b o : Nat} {v : Value} (h : setCell s b o v = some s') :
    one v = true ∧ ∃ k c e, s.heap.get b = some k ∧ k.obj = .cells c e ∧ o < c.length ∧ s'.next = s.next ∧ s'.nfam = s.nfam ∧
      s'.heap = s.heap.upd b ⟨.cells (c.set o v) e, k.fam, k.vsh, k.esz⟩ ∧ ((k.fam = none ∧ s'.fams = s.fams) ∨
      ∃ f fm, k.fam = some f ∧ s.fams.get f = some fm ∧ fm.owner = b ∧ s'.fams = s.fams.upd f ⟨b, min fm.lim (k.vsh + o)⟩) := by
  unfold setCell at h
  split at h
  · cases h
  · rename_i hone
    split at h
    · cases h
    · rename_i k hk
      split at h
      · rename_i c e hobj
        split at h
        · cases h
        · rename_i hlt
          rw [setL_eq] at h
          split at h
          · cases h
          · rename_i s1 h1
            have e1 := setBlk_some h1
            subst e1
            refine ⟨hone, k, c, e, hk, hobj, blt_true.1 hlt, ?_⟩
            split at h
            · rename_i hf
              cases h
              exact ⟨rfl, rfl, rfl, .inl ⟨hf, rfl⟩⟩
            · rename_i f hf
              split at h
              · cases h
              · rename_i fm hfm
                split at h
                · cases h
                · rename_i how
                  rw [fN_eq] at h
                  have e2 := setFam_some h
                  subst e2
                  exact ⟨rfl, rfl, rfl, .inr ⟨f, fm, hf, hfm, beq_true.1 how, rfl⟩⟩
      · cases h

/-- a store -/
theorem setCell_ok {ρ s s' w b o v r u} (h : HR ρ s w) (hr : ρ b = some r) (hc : setCell s b o v = some s') (hv : VR ρ v u) :
    u.oneCell' = true ∧ (∃ x, w.cell? ⟨r.blk, r.sh + o, none⟩ = some x) ∧ w.frozen? ⟨r.blk, r.sh + o, none⟩ = false ∧
      HR ρ s' (w.setCell ⟨r.blk, r.sh + o, none⟩ u) ∧ Ev ρ w ρ (w.setCell ⟨r.blk, r.sh + o, none⟩ u) := by
  obtain ⟨hone, k, c, e, hk, hobj, hlt, hn, hnf, hheap, hfam⟩ := setCell_inv hc
  obtain ⟨q, hq, hkf, hkv, hke, hor⟩ := h.live b k hk
  rw [hr] at hq; cases hq
  have hor' := hor
  simp only [OR, hobj] at hor'
  obtain ⟨c2, e2, fr, h1, h2, h3, h4, h5, h6, h7⟩ := hor'
  have hin : r.sh + o < c2.size := by omega
  have hnew := heap_setCell_same (w := w) (k := r.blk) (o := r.sh + o) u h1
  refine ⟨one_oneCell hv hone, ⟨c2[r.sh + o], cell?_of h1 (Array.getElem?_eq_getElem hin)⟩, frozen?_of h1 (h6 _ hin), ?_, ?_⟩
  · refine ⟨fun x y e => by rw [hn]; exact h.dom x y e, fun x y e => by rw [size_setCell]; exact h.top x y e, fun x y f e g => by rw [hnf]; exact h.fam x y f e g, h.inj, ?_⟩
    intro b' k' hk'
    rw [hheap] at hk'
    by_cases hbb : b' = b
    · subst hbb
      have e1 := T.get_upd_some _ hk'
      subst e1
      refine ⟨r, hr, hkf, hkv, hke, ?_⟩
      simp only [OR]
      refine ⟨c2.setIfInBounds (r.sh + o) u, e2, fr, hnew, by simpa using h2, h3, by simpa using h4, h5, by simpa using h6, ?_⟩
      intro i x hx hrd
      rw [List.getElem?_set] at hx
      by_cases hio : o = i
      · subst hio
        simp [hlt] at hx
        subst hx
        exact ⟨u, by simp [hin], hv⟩
      · rw [if_neg hio] at hx
        obtain ⟨y, hy, hxy⟩ := h7 i x hx (by
          unfold readable at hrd ⊢
          rcases hfam with ⟨hf, _⟩ | ⟨f, fm, hf, hfm, how, _⟩
          · rw [hf]
          · simp [hf, hfm, how])
        exact ⟨y, by rw [Array.getElem?_setIfInBounds_ne (by omega)]; exact hy, hxy⟩
    · rw [T.get_upd_ne _ _ (Ne.symm hbb)] at hk'
      obtain ⟨r', hr', hf', hv', he', hor''⟩ := h.live b' k' hk'
      refine ⟨r', hr', hf', hv', he', ?_⟩
      have hrd : ∀ i, readable s' b' k' i = true → readable s b' k' i = true ∧ (∀ f fm, k.fam = some f → k'.fam = some f → s.fams.get f = some fm → k'.vsh + i < k.vsh + o) := by
        intro i hi
        unfold readable at hi ⊢
        rcases hfam with ⟨hf, hfs⟩ | ⟨f, fm, hf, hfm, how, hfs⟩
        · rw [hfs] at hi
          exact ⟨hi, fun f fm hh => by rw [hf] at hh; cases hh⟩
        · cases hkf' : k'.fam with
          | none => exact ⟨rfl, fun f' fm' _ hh => by cases hh⟩
          | some f' =>
            rw [hkf', hfs] at hi
            by_cases hff : f = f'
            · subst hff
              simp only at hi ⊢
              cases hg : (s.fams.upd f ⟨b, min fm.lim (k.vsh + o)⟩).get f with
              | none => rw [hg] at hi; cases hi
              | some y =>
                rw [hg] at hi
                have := T.get_upd_some _ hg
                subst this
                simp only [Bool.or_eq_true, beq_true, blt_true] at hi
                rcases hi with hi | hi
                · exact absurd hi.symm hbb
                · rw [hfm]
                  simp only [Bool.or_eq_true, beq_true, blt_true]
                  exact ⟨.inr (by omega), fun _ _ _ _ _ => by omega⟩
            · simp only at hi ⊢
              rw [T.get_upd_ne _ _ hff] at hi
              exact ⟨hi, fun f1 fm1 h1 h2 => by rw [hf] at h1; cases h1; cases h2; exact absurd rfl hff⟩
      by_cases hblk : r'.blk = r.blk
      · rcases h.inj b' b r' r hr' hr hblk with h0 | ⟨f, hf1, hf2, hsh⟩
        · exact absurd h0 hbb
        · unfold OR at hor'' ⊢
          rw [hblk] at hor'' ⊢
          have hnone := h1
          split at hor''
          · obtain ⟨c3, e3, fr3, g1, g2, g3, g4, g5, g6, g7⟩ := hor''
            rw [h1] at g1
            cases g1
            refine ⟨c2.setIfInBounds (r.sh + o) u, e2, fr, hnew, g2, g3, by simpa using g4, g5, by simpa using g6, ?_⟩
            intro i x hx hi
            obtain ⟨hi1, hi2⟩ := hrd i hi
            obtain ⟨y, hy, hxy⟩ := g7 i x hx hi1
            refine ⟨y, ?_, hxy⟩
            rw [Array.getElem?_setIfInBounds_ne]
            · exact hy
            · intro hh
              have hkff : k.fam = some f := hkf.trans hf2
              rcases hfam with ⟨h0, _⟩ | ⟨f0, fm0, hf0, hfm0, _, _⟩
              · rw [h0] at hkff; cases hkff
              · rw [hf0] at hkff; cases hkff
                have := hi2 f fm0 hf0 (hf'.trans hf1) hfm0
                rw [hv', hkv] at this
                omega
          · obtain ⟨es2, g1, _⟩ := hor''; rw [h1] at g1; cases g1
          · rw [h1] at hor''; cases hor''
          · obtain ⟨m2, g1, _⟩ := hor''; rw [h1] at g1; cases g1
          · obtain ⟨t2, q, _, g1, _⟩ := hor''; rw [h1] at g1; cases g1
          · rw [h1] at hor''; cases hor''
      · exact hor''.mono (.refl ρ) (fun i hi => (hrd i hi).1) (heap_setCell_ne u hblk)
  · exact ⟨.refl ρ, fun x y e => .inr ⟨x, y, e, rfl⟩, rfl, rfl, rfl, by rw [size_setCell]; exact Nat.le_refl _, fun j _ hj => heap_setCell_ne u (fun hh => hj b r hr hh.symm)⟩

end Go.Can
