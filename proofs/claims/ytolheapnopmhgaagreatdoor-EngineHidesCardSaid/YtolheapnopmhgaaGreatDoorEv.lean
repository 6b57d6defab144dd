/- A run of the program on values whose addresses are numbered from nought: what is reckoned by the kernel. -/
import Derived.Test.YtolheapnopmhgaaGreatDoorConf
import Derived.KernelRfl
set_option linter.all false
namespace Go.Proofs.YtolheapnopmhgaaGreatDoor
open Go

/-! Tables. -/
inductive Tr (α : Type) where
  | nil
  | node (v : Option α) (l r : Tr α)

noncomputable def Tr.get {α : Type} (t : Tr α) : Nat → Option α :=
  Tr.rec (motive := fun _ => Nat → Option α) (fun _ => none)
    (fun v _ _ gl gr i => Nat.rec (motive := fun _ => Option α) v (fun i _ => Bool.rec (gr (Nat.div i 2)) (gl (Nat.div i 2)) (Nat.beq (Nat.mod i 2) 0)) i) t
noncomputable def Tr.path {α : Type} (x : α) (d : Nat) : Nat → Tr α :=
  Nat.rec (motive := fun _ => Nat → Tr α) (fun _ => .nil)
    (fun _ p i => Nat.rec (motive := fun _ => Tr α) (.node (some x) .nil .nil) (fun i _ => Bool.rec (.node none .nil (p (Nat.div i 2))) (.node none (p (Nat.div i 2)) .nil) (Nat.beq (Nat.mod i 2) 0)) i) d
noncomputable def Tr.put {α : Type} (t : Tr α) (i : Nat) (x : α) : Tr α :=
  Tr.rec (motive := fun _ => Nat → Tr α) (fun i => Tr.path x (Nat.succ i) i)
    (fun v l r pl pr i => Nat.rec (motive := fun _ => Tr α) (.node (some x) l r) (fun i _ => Bool.rec (.node v l (pr (Nat.div i 2))) (.node v (pl (Nat.div i 2)) r) (Nat.beq (Nat.mod i 2) 0)) i) t i
noncomputable def Tr.lay {α : Type} (l : List α) : Tr α → Nat → Tr α :=
  List.rec (motive := fun _ => Tr α → Nat → Tr α) (fun t _ => t) (fun x _ g t i => g (t.put i x) (Nat.succ i)) l
/-- n entries of one behind those of another. -/
noncomputable def Tr.cpy {α : Type} (s : Tr α) (n : Nat) : Nat → Tr α → Nat → Option (Tr α) :=
  Nat.rec (motive := fun _ => Nat → Tr α → Nat → Option (Tr α)) (fun _ t _ => some t)
    (fun _ g i t j => Option.rec none (fun x => g (Nat.succ i) (t.put j x) (Nat.succ j)) (s.get i)) n

noncomputable def ob {α β : Type} (o : Option α) (f : α → Option β) : Option β := Option.rec none f o
noncomputable def om {α β : Type} (o : Option α) (f : α → β) : Option β := Option.rec none (fun x => some (f x)) o
noncomputable def guardO {α : Type} (b : Bool) (o : Option α) : Option α := Bool.rec none o b
noncomputable def nthL {α : Type} (l : List α) : Nat → Option α := List.rec (motive := fun _ => Nat → Option α) (fun _ => none) (fun x _ g i => Nat.rec (some x) (fun i _ => g i) i) l

/-! Values. -/
inductive V where
  | b (x : Bool)
  | i (k : IntKind) (n : Int)
  | s (x : ByteArray)
  | pn
  | p (j off : Nat)
  | sn
  /-- c: the capacity; none: to the end of what there is, at least. -/
  | sl (j off len : Nat) (c : Option Nat)
  /-- What is left of such a slice behind l of its parts: nothing. -/
  | se (j off l : Nat)
  | mn
  | m (j : Nat)
  | f (fn : Fn) (first captured : List V)
  | fn
  /-- n cells, from off on. -/
  | agg (t : Tr V) (off n : Nat)
  | tup (l : List V)
  /-- A whole number that isn't looked into. -/
  | y (k : Nat)
  /-- A cell that isn't looked into. -/
  | z (k : Nat)
  deriving Inhabited

noncomputable def isCell : V → Bool
  | .agg _ _ _ => false
  | .tup _ => false
  | _ => true
/-- How many cells a value has. -/
noncomputable def V.size : V → Nat
  | .agg _ _ n => n
  | _ => 1
/-- A value's cells are laid into a table. -/
noncomputable def V.into (v : V) (t : Tr V) (i : Nat) : Option (Tr V) := match v with
  | .agg c off n => c.cpy n off t i
  | .tup _ => none
  | v => some (t.put i v)
/-- A value's cells, as a table. -/
noncomputable def V.own (v : V) : Option (Tr V) := match v with
  | .agg c off n => Nat.rec (some c) (fun _ _ => c.cpy n off .nil 0) off
  | .tup _ => none
  | v => some (.node (some v) .nil .nil)

/-- A value that is written in the program. -/
noncomputable def ofOne : Value → Option V
  | .bool x => some (.b x)
  | .int k n => some (.i k n)
  | .string s => some (.s s)
  | .pointer none => some .pn
  | .slice none 0 0 => some .sn
  | .map none => some .mn
  | .nilFunc => some .fn
  | _ => none
noncomputable def ofCells : List Value → Option (List V)
  | [] => some []
  | v :: l => ob (ofOne v) fun x => om (ofCells l) fun r => x :: r
noncomputable def ofV : Value → Option V
  | .agg cs => om (ofCells cs.toList) fun l => .agg (Tr.lay l .nil 0) 0 l.length
  | v => ofOne v

inductive O where
  | dead
  /-- n cells, in parts of sz; ro: what may be read alone. -/
  | cells (ro : Bool) (n sz : Nat) (t : Tr V)
  | map (es : List (V × V × Nat)) (clock : Nat)
  | iter (m : Option Nat) (since : Nat) (seen : List Nat) (stepped : Nat)
  | loop (st : LoopState) (pending : Option Code) (t : Tr V) (params : Array Tmp) (asg body : Code) (dfr : Nat)
  | defs (closed : Bool)

structure H where
  t : Tr O
  n : Nat

noncomputable def H.new (h : H) (o : O) : H := ⟨h.t.put h.n o, Nat.succ h.n⟩
noncomputable def H.set (h : H) (j : Nat) (o : O) : H := ⟨h.t.put j o, h.n⟩

/-- What is put off: the mark of a loop over a function; a call. -/
inductive AD where
  | mark (j : Nat)
  | call (g : Nat) (args : List V)

/-- Slots, and what is put off. -/
structure A where
  t : Tr V
  d : List AD

structure Ctx where
  P : Program
  /-- Where a variable of the program's lies. -/
  G : Nat → Option Nat
  /-- What is known of what isn't looked into. -/
  bin : BinOp → V → V → Option V
  /-- Regions of so many operations, whose first one fills such a slot, aren't taken in the text's order. -/
  odd : List (Nat × Nat)
  /-- Calls whose result is known, and that leave alone what is there. -/
  known : Nat → List V → H → Option V

section
variable (C : Ctx)

noncomputable def A.ev (a : A) : Operand → Option V
  | .tmp t => a.t.get t
  | .const v => ofV v
  | .global g => om (C.G g) fun j => .p j 0
  | .func f => some (.f (.func f) [] [])
noncomputable def noTup : V → Option V
  | .tup _ => none
  | v => some v
/-- An operand that is no row of results. -/
noncomputable def A.ev1 (a : A) (x : Operand) : Option V := ob (a.ev C x) noTup
noncomputable def A.put (a : A) (d : Option Tmp) (v : V) : A := Option.rec a (fun d => ⟨a.t.put d v, a.d⟩) d
noncomputable def evs (a : A) (l : List Operand) : Option (List V) :=
  List.rec (some []) (fun x _ g => ob (a.ev C x) fun v => om g fun r => v :: r) l
noncomputable def evs1 (a : A) (l : List Operand) : Option (List V) :=
  List.rec (some []) (fun x _ g => ob (a.ev1 C x) fun v => om g fun r => v :: r) l
noncomputable def evParts (a : A) (l : List (Nat × Operand)) : Option (List (Nat × V)) :=
  List.rec (some []) (fun x _ g => ob (a.ev1 C x.2) fun v => om g fun r => (x.1, v) :: r) l
noncomputable def optV (a : A) (x : Option Operand) : Option (Option V) := Option.rec (some none) (fun x => om (a.ev1 C x) some) x

/-! Types. -/
noncomputable def sizeT (t : TypeId) : Option Nat := (C.P.info? t).map (·.size)
noncomputable def bytesT (t : TypeId) : Option Nat := (C.P.info? t).map (·.bytes)
noncomputable def aggT (t : TypeId) : Option Bool := match C.P.underlying t with
  | some (.struct _) => some true
  | some (.array _ _) => some true
  | some _ => some false
  | none => none
noncomputable def zeroT (t : TypeId) : Option V := ob (C.P.info? t) fun i => ob i.zero ofV
noncomputable def elemT (t : TypeId) : Option TypeId := match C.P.underlying t with
  | some (.slice e) => some e
  | _ => none
/-- A struct's field: where, how many cells. -/
noncomputable def fieldT (s : TypeId) (i : Nat) : Option (Nat × Nat × TypeId) := match C.P.underlying s with
  | some (.struct fs) => ob (nthL fs.toList i) fun f => om (sizeT C f.type) fun n => (f.offset, n, f.type)
  | _ => none

/-- The part of a table that is a variable of a type. -/
noncomputable def viewB (t : TypeId) (c : Tr V) (off n : Nat) (agg : Bool) : Option V :=
  Bool.rec (guardO (Nat.blt off n) (c.get off)) (ob (sizeT C t) fun k => guardO (Nat.ble (off + k) n) (some (.agg c off k))) agg
noncomputable def loadO (t : TypeId) (off : Nat) : O → Option V
  | .cells _ n _ c => ob (aggT C t) (viewB C t c off n)
  | _ => none
noncomputable def loadV (h : H) (t : TypeId) (j off : Nat) : Option V := ob (h.t.get j) (loadO C t off)
noncomputable def qLoad (h : H) (t : TypeId) : V → Option V
  | .p j off => loadV C h t j off
  | _ => none
/-- Cells are written. -/
noncomputable def writeO (h : H) (j off : Nat) (v : V) : O → Option H
  | .cells ro n sz c => guardO (!ro && Nat.ble (off + v.size) n) (Bool.rec (om (v.into c off) fun c => h.set j (.cells false n sz c)) (om v.own fun c => h.set j (.cells false n sz c)) (Nat.beq off 0 && Nat.beq v.size n))
  | _ => none
noncomputable def storeV (h : H) (t : TypeId) (j off : Nat) (v : V) : Option H :=
  ob (sizeT C t) fun n => guardO (Nat.beq v.size n) (ob (h.t.get j) (writeO h j off v))
/-- Many cells of a table, into a block. -/
noncomputable def copyO (h : H) (j off n : Nat) (s : Tr V) (so : Nat) : O → Option H
  | .cells ro m sz c => guardO (!ro && Nat.ble (off + n) m) (om (s.cpy n so c off) fun c => h.set j (.cells false m sz c))
  | _ => none

/-- A part of a value. -/
noncomputable def partV (t : TypeId) (c : Tr V) (off n : Nat) (at_ : Nat) : Option V :=
  ob (aggT C t) fun a => Bool.rec (guardO (Nat.blt at_ n) (c.get (off + at_))) (ob (sizeT C t) fun k => guardO (Nat.ble (at_ + k) n) (some (.agg c (off + at_) k))) a

/-! Whether two values are the same. -/
noncomputable def kN : IntKind → Nat
  | .i8 => 0
  | .i16 => 1
  | .i32 => 2
  | .i64 => 3
  | .u8 => 4
  | .u16 => 5
  | .u32 => 6
  | .u64 => 7
noncomputable def eqI : Int → Int → Bool
  | .ofNat a, .ofNat b => Nat.beq a b
  | .negSucc a, .negSucc b => Nat.beq a b
  | _, _ => false
noncomputable def ltI : Int → Int → Bool
  | .ofNat a, .ofNat b => Nat.blt a b
  | .negSucc _, .ofNat _ => true
  | .ofNat _, .negSucc _ => false
  | .negSucc a, .negSucc b => Nat.blt b a
noncomputable def eqBy : List UInt8 → List UInt8 → Bool
  | [], [] => true
  | a :: l, b :: r => Nat.beq a.toNat b.toNat && eqBy l r
  | _, _ => false
noncomputable def eqS (a b : ByteArray) : Bool := eqBy a.data.toList b.data.toList
noncomputable def eqFields (rec : TypeId → V → V → Option Bool) (a : Tr V) (ao an : Nat) (b : Tr V) (bo bn : Nat) (l : List Field) : Option Bool :=
  List.rec (some true) (fun f _ g => Bool.rec (ob (partV C f.type a ao an f.offset) fun p => ob (partV C f.type b bo bn f.offset) fun q => ob (rec f.type p q) fun r => Bool.rec (some false) g r) g (f.name == "_")) l
noncomputable def eqPtr (e : TypeId) (j o j' o' : Nat) : Option Bool := ob (sizeT C e) fun n => guardO (!Nat.beq n 0 && Nat.beq j j') (some (Nat.beq o o'))
noncomputable def eqInt : V → V → Option Bool
  | .i k p, .i k' q => guardO (Nat.beq (kN k) (kN k')) (some (eqI p q))
  | .y p, .y q => guardO (Nat.beq p q) (some true)
  | _, _ => none
noncomputable def eqPt (e : TypeId) : V → V → Option Bool
  | .pn, .pn => some true
  | .pn, .p _ _ => some false
  | .p _ _, .pn => some false
  | .p j o, .p j' o' => eqPtr C e j o j' o'
  | _, _ => none
noncomputable def eqSl : V → V → Option Bool
  | .sn, .sn => some true
  | .sl _ _ _ _, .sn => some false
  | .se _ _ _, .sn => some false
  | _, _ => none
noncomputable def eqMp : V → V → Option Bool
  | .mn, .mn => some true
  | .m _, .mn => some false
  | _, _ => none
noncomputable def eqFc : V → V → Option Bool
  | .fn, .fn => some true
  | .f _ _ _, .fn => some false
  | _, _ => none
noncomputable def eqStr : V → V → Option Bool
  | .s p, .s q => some (eqS p q)
  | _, _ => none
noncomputable def eqBool : V → V → Option Bool
  | .b p, .b q => some (Bool.rec (!q) q p)
  | _, _ => none
noncomputable def eqSt (rec : TypeId → V → V → Option Bool) (t : TypeId) (fs : List Field) : V → V → Option Bool
  | .agg a ao an, .agg b bo bn => guardO (!C.P.stoodInHeld t) (eqFields C rec a ao an b bo bn fs)
  | _, _ => none
noncomputable def eqU (rec : TypeId → V → V → Option Bool) (t : TypeId) (x y : V) : TypeDesc → Option Bool
  | .bool => eqBool x y
  | .int _ => eqInt x y
  | .string => eqStr x y
  | .pointer e => eqPt C e x y
  | .slice _ => eqSl x y
  | .map _ _ => eqMp x y
  | .func _ _ _ => eqFc x y
  | .struct fs => eqSt C rec t fs.toList x y
  | _ => none
noncomputable def eqV (d : Nat) : TypeId → V → V → Option Bool :=
  Nat.rec (motive := fun _ => TypeId → V → V → Option Bool) (fun _ _ _ => none) (fun _ rec t x y => ob (C.P.underlying t) (eqU C rec t x y)) d

noncomputable def wrapN (k : IntKind) (big : Nat) : Int → Int
  | .ofNat m => Bool.rec (IntKind.wrap k (.ofNat m)) (.ofNat m) (Nat.blt m big)
  | .negSucc m => IntKind.wrap k (.negSucc m)
noncomputable def wrapI : IntKind → Int → Int
  | .i64, n => wrapN .i64 9223372036854775808 n
  | .u8, n => wrapN .u8 256 n
  | k, n => IntKind.wrap k n

noncomputable def binI (op : BinOp) (k : IntKind) (a b : Int) : Option V := match op with
  | .add => some (.i k (wrapI k (Int.add a b)))
  | .sub => some (.i k (wrapI k (Int.sub a b)))
  | .mul => some (.i k (wrapI k (Int.mul a b)))
  | .quo => guardO (!eqI b 0) (some (.i k (wrapI k (Int.tdiv a b))))
  | .rem => guardO (!eqI b 0) (some (.i k (Int.tmod a b)))
  | .and => some (.i k (k.wrap (BitVec.ofInt k.bits a &&& BitVec.ofInt k.bits b).toNat))
  | .or => some (.i k (k.wrap (BitVec.ofInt k.bits a ||| BitVec.ofInt k.bits b).toNat))
  | .xor => some (.i k (k.wrap (BitVec.ofInt k.bits a ^^^ BitVec.ofInt k.bits b).toNat))
  | .andNot => some (.i k (k.wrap (BitVec.ofInt k.bits a &&& ~~~BitVec.ofInt k.bits b).toNat))
  | .eql => some (.b (eqI a b))
  | .neq => some (.b (!eqI a b))
  | .lss => some (.b (ltI a b))
  | .leq => some (.b (!ltI b a))
  | .gtr => some (.b (ltI b a))
  | .geq => some (.b (!ltI a b))
  | _ => none
noncomputable def shiftI (op : BinOp) (k : IntKind) (a : Int) (b : Int) : Option V :=
  guardO (!ltI b 0) (match op with
  | .shl => some (.i k (k.wrap (a * 2 ^ min b.toNat k.bits)))
  | .shr => some (.i k (a.fdiv (2 ^ min b.toNat k.bits)))
  | _ => none)
noncomputable def isShift : BinOp → Bool
  | .shl => true
  | .shr => true
  | _ => false
noncomputable def binS (op : BinOp) (a b : ByteArray) : Option V := match op with
  | .eql => some (.b (eqS a b))
  | .neq => some (.b (!eqS a b))
  | .lss => some (.b (Op.bytesLess a.toList b.toList))
  | .leq => some (.b (Op.bytesLess a.toList b.toList || eqS a b))
  | .gtr => some (.b (!(Op.bytesLess a.toList b.toList || eqS a b)))
  | .geq => some (.b (!Op.bytesLess a.toList b.toList))
  | _ => none
noncomputable def grdB (t : TypeId) : V → Bool
  | .agg _ _ _ => !C.P.eqGuardType C.P.depth t
  | .z _ => false
  | .tup _ => false
  | _ => true
noncomputable def binO (op : BinOp) (r : Option Bool) : Option V := match op with
  | .eql => om r .b
  | .neq => om r fun r => .b (!r)
  | _ => none
noncomputable def binE (op : BinOp) (t : TypeId) (x y : V) : Option V := guardO (grdB C t x) (binO op (eqV C 40 t x y))
noncomputable def binR (op : BinOp) (k : IntKind) (a : Int) : V → Option V
  | .i k' b => Bool.rec (guardO (Nat.beq (kN k) (kN k')) (binI op k a b)) (shiftI op k a b) (isShift op)
  | y => C.bin op (.i k a) y
noncomputable def binT (op : BinOp) (a : ByteArray) : V → Option V
  | .s b => binS op a b
  | _ => none
noncomputable def selfI : BinOp → Option V
  | .eql => some (.b true)
  | .neq => some (.b false)
  | .leq => some (.b true)
  | .geq => some (.b true)
  | .lss => some (.b false)
  | .gtr => some (.b false)
  | _ => none
noncomputable def binYY (op : BinOp) (k : Nat) : V → Option V
  | .y q => guardO (Nat.beq k q) (selfI op)
  | _ => none
noncomputable def binY (op : BinOp) (k : Nat) (y : V) : Option V := Option.rec (binYY op k y) some (C.bin op (.y k) y)
noncomputable def isCells : O → Bool
  | .cells ro _ _ _ => !ro
  | _ => false
noncomputable def ptrE (h : H) (e : TypeId) (j o j' o' : Nat) : Option Bool :=
  Bool.rec (ob (sizeT C e) fun n => ob (h.t.get j) fun a => ob (h.t.get j') fun b => guardO (!Nat.beq n 0 && isCells a && isCells b) (some false)) (eqPtr C e j o j' o') (Nat.beq j j')
noncomputable def ptrU (h : H) (j o j' o' : Nat) : TypeDesc → Option Bool
  | .pointer e => ptrE C h e j o j' o'
  | _ => none
noncomputable def binQ (h : H) (op : BinOp) (t : TypeId) (j o : Nat) : V → Option V
  | .p j' o' => binO op (ob (C.P.underlying t) (ptrU C h j o j' o'))
  | y => binE C op t (.p j o) y
noncomputable def binV (h : H) (op : BinOp) (t : TypeId) (x y : V) : Option V := match x with
  | .p j o => binQ C h op t j o y
  | .i k a => binR C op k a y
  | .s a => binT op a y
  | .y k => binY C op k y
  | x => binE C op t x y

noncomputable def unV : UnOp → V → Option V
  | .not, .b p => some (.b (!p))
  | .neg, .i k n => some (.i k (wrapI k (Int.sub 0 n)))
  | .xor, .i k n => binI .xor k (if k.signed then -1 else k.max) n
  | _, _ => none

noncomputable def convI (k : IntKind) : V → Option V
  | .i _ n => some (.i k (wrapI k n))
  | _ => none
noncomputable def convS : V → Option V
  | .s s => some (.s s)
  | _ => none
noncomputable def convU (x : V) : TypeDesc → Option V
  | .int k => convI k x
  | .string => convS x
  | _ => none
noncomputable def convV (src dst : TypeId) (x : V) : Option V := ob (C.P.underlying src) fun _ => ob (C.P.underlying dst) (convU x)

noncomputable def natI : Int → Option Nat
  | .ofNat n => some n
  | _ => none
noncomputable def natOf : V → Option Nat
  | .i _ n => natI n
  | _ => none

noncomputable def lenOfV : V → Option Nat
  | .sn => some 0
  | .sl _ _ n _ => some n
  | .se _ _ _ => some 0
  | _ => none

/-- The table in which n cells of a slice lie, and where. -/
noncomputable def firstO (off n : Nat) : O → Option (Tr V × Nat)
  | .cells _ m _ c => guardO (Nat.ble (off + n) m) (some (c, off))
  | _ => none
noncomputable def firstV (h : H) (n : Nat) : V → Option (Tr V × Nat)
  | .sn => guardO (Nat.beq n 0) (some (.nil, 0))
  | .se _ _ _ => guardO (Nat.beq n 0) (some (.nil, 0))
  | .sl j off _ _ => ob (h.t.get j) (firstO off n)
  | _ => none

/-! A slice that grows. -/
noncomputable def freshS (h : H) (sz len : Nat) (t : Tr V) : V × H := (.sl h.n 0 len none, h.new (.cells false (len * sz) sz t))
noncomputable def growS (h : H) (sz off len n : Nat) (t : Tr V) (s : Tr V) (so : Nat) : Option (V × H) :=
  ob (Nat.rec (some t) (fun _ _ => t.cpy (len * sz) off .nil 0) off) fun old => om (s.cpy (n * sz) so old (len * sz)) fun t => freshS h sz (len + n) t
noncomputable def appO (h : H) (sz j off len n : Nat) (s : Tr V) (so : Nat) (c : Option Nat) : O → Option (V × H)
  | .cells ro m z t => guardO (!ro && Nat.beq z sz && Nat.beq (Nat.mod off sz) 0 && Nat.ble (off + len * sz) m) (Option.rec
      (Bool.rec (growS (h.set j .dead) sz off len n t s so) (om (copyO h j (off + len * sz) (n * sz) s so (.cells ro m z t)) fun h => (.sl j off (len + n) none, h)) (Nat.ble (off + (len + n) * sz) m))
      (fun c => Bool.rec (growS h sz off len n t s so) (om (copyO h j (off + len * sz) (n * sz) s so (.cells ro m z t)) fun h => (.sl j off (len + n) (some c), h)) (Nat.ble (len + n) c)) c)
  | _ => none
noncomputable def seO (h : H) (sz j off n : Nat) (s : Tr V) (so : Nat) : O → Option (V × H)
  | .cells ro _ z _ => guardO (!ro && Nat.beq z sz && Nat.beq (Nat.mod off sz) 0) (om (s.cpy (n * sz) so .nil 0) (freshS (h.set j .dead) sz n))
  | _ => none
noncomputable def appK (h : H) (sz n : Nat) (s : Tr V) (so : Nat) : V → Option (V × H)
  | .sn => Bool.rec (om (s.cpy (n * sz) so .nil 0) (freshS h sz n)) (some (.sn, h)) (Nat.beq n 0)
  | .se j off l => Bool.rec (ob (h.t.get j) (seO h sz j off n s so)) (some (.se j off l, h)) (Nat.beq n 0)
  | .sl j off len c => guardO (Nat.ble (len + n) 1048576) (ob (h.t.get j) (appO h sz j off len n s so c))
  | _ => none
noncomputable def appendV (h : H) (e : TypeId) (s x : V) : Option (V × H) :=
  ob (sizeT C e) fun sz => ob (bytesT C e) fun by_ => ob (lenOfV x) fun n =>
    ob (zeroT C e) fun z => guardO (!(Nat.beq sz 0 || Nat.beq by_ 0 || Nat.blt 1048576 by_ || Nat.blt 1048576 n) && Nat.beq z.size sz) (ob (firstV h (n * sz) x) fun q => appK h sz n q.1 q.2 s)

/-! A slice of a slice. -/
noncomputable def boundV (y : Nat) (v : V) : Option Nat := ob (natOf v) fun n => guardO (Nat.ble n y) (some n)
noncomputable def boundO (y dflt : Nat) (o : Option V) : Option Nat := Option.rec (some dflt) (boundV y) o
noncomputable def atS (sz j off m l r : Nat) : V := .sl j (Bool.rec (off + l * sz) off (Nat.beq m l)) (r - l) (some (m - l))
noncomputable def sliceX (sz j off len c : Nat) (lo hi mx : Option V) : Option V :=
  ob (boundO c c mx) fun m => guardO (!(mx.isSome && hi.isNone)) (ob (boundO m len hi) fun r => om (boundO r 0 lo) fun l => atS sz j off m l r)
noncomputable def sliceO (sz j off len : Nat) (lo hi mx : Option V) : O → Option V
  | .cells _ n s _ => guardO (Nat.beq s sz && !Nat.beq sz 0 && Nat.ble off n) (Option.rec
      (ob (boundO ((n - off) / sz) len hi) fun r => guardO (Nat.ble (off + r * sz) n) (om (boundO r 0 lo) fun l => Bool.rec (.sl j (off + l * sz) (r - l) none) (.se j off l) (Nat.beq l r && !Nat.beq l 0)))
      (fun v => ob (boundV ((n - off) / sz) v) fun m => ob (ob hi (boundV m)) fun r => om (boundO r 0 lo) fun l => atS sz j off m l r) mx)
  | _ => none
noncomputable def nought (o : Option V) : Bool := Option.rec true (fun v => Option.rec false (fun n => Nat.beq n 0) (natOf v)) o
noncomputable def sliceS (h : H) (sz : Nat) (lo hi mx : Option V) : V → Option V
  | .sn => guardO (nought lo && nought hi && mx.isNone) (some .sn)
  | .se j off l => guardO (nought lo && nought hi && mx.isNone) (some (.se j off l))
  | .sl j off len c => Option.rec (ob (h.t.get j) (sliceO sz j off len lo hi mx)) (fun c => sliceX sz j off len c lo hi mx) c
  | _ => none
noncomputable def sliceA (n sz : Nat) (lo hi mx : Option V) : V → Option V
  | .p j off => sliceX sz j off n n lo hi mx
  | _ => none
noncomputable def sliceU (h : H) (x : V) (lo hi mx : Option V) : TypeDesc → Option V
  | .slice e => ob (sizeT C e) fun sz => sliceS h sz lo hi mx x
  | .array n e => ob (sizeT C e) fun sz => sliceA n sz lo hi mx x
  | _ => none
noncomputable def sliceV (h : H) (t : TypeId) (x : V) (lo hi mx : Option V) : Option V := ob (C.P.underlying t) (sliceU C h x lo hi mx)

/-! Maps. -/
noncomputable def flatB : V → Bool
  | .i _ _ => true
  | .y _ => true
  | .b _ => true
  | .s _ => true
  | _ => false
noncomputable def keyFs (rec : TypeId → V → Bool) (c : Tr V) (off n : Nat) (l : List Field) : Bool :=
  List.rec true (fun f _ g => (f.name == "_" || Option.rec false (rec f.type) (partV C f.type c off n f.offset)) && g) l
noncomputable def keySt (rec : TypeId → V → Bool) (fs : List Field) : V → Bool
  | .agg c off n => keyFs C rec c off n fs
  | _ => false
noncomputable def keyU (rec : TypeId → V → Bool) (v : V) : TypeDesc → Bool
  | .struct fs => keySt C rec fs.toList v
  | .array _ _ => false
  | .interface _ => false
  | _ => flatB v
noncomputable def keyB (d : Nat) : TypeId → V → Bool :=
  Nat.rec (motive := fun _ => TypeId → V → Bool) (fun _ _ => false) (fun _ rec t v => Option.rec false (keyU C rec v) (C.P.underlying t)) d
noncomputable def findV (t : TypeId) (k : V) (l : List (V × V × Nat)) : Nat → Option (Option (Nat × V × V × Nat)) :=
  List.rec (motive := fun _ => Nat → Option (Option (Nat × V × V × Nat))) (fun _ => some none)
    (fun e _ g i => ob (eqV C 40 t k e.1) fun r => Bool.rec (g (Nat.succ i)) (some (some (i, e))) r) l
/-- Flat values that are the same. -/
noncomputable def sameOne : V → V → Bool
  | .i k a, .i k' b => Nat.beq (kN k) (kN k') && eqI a b
  | .y a, .y b => Nat.beq a b
  | .b a, .b b => Bool.rec (!b) b a
  | .s a, .s b => eqS a b
  | _, _ => false
noncomputable def sameAll (a : Tr V) (b : Tr V) (n : Nat) : Nat → Nat → Bool :=
  Nat.rec (motive := fun _ => Nat → Nat → Bool) (fun _ _ => true)
    (fun _ g i j => Option.rec false (fun x => Option.rec false (fun y => sameOne x y) (b.get j)) (a.get i) && g (Nat.succ i) (Nat.succ j)) n
noncomputable def sameKey : V → V → Bool
  | .agg a ao an, .agg b bo bn => Nat.beq an bn && sameAll a b an ao bo
  | a, b => sameOne a b
noncomputable def setAt {α : Type} : List α → Nat → α → List α
  | [], _, _ => []
  | _ :: l, 0, x => x :: l
  | y :: l, n + 1, x => y :: setAt l n x
noncomputable def dropAt {α : Type} : List α → Nat → List α
  | [], _ => []
  | _ :: l, 0 => l
  | y :: l, n + 1 => y :: dropAt l n
/-- A map's entries, and its clock. -/
noncomputable def mapO : O → Option (List (V × V × Nat) × Nat)
  | .map es c => some (es, c)
  | _ => none
noncomputable def mapOf (h : H) : V → Option (List (V × V × Nat) × Nat)
  | .mn => some ([], 0)
  | .m j => ob (h.t.get j) mapO
  | _ => none
noncomputable def mapT (t : TypeId) : Option (TypeId × TypeId) := match C.P.underlying t with
  | some (.map k e) => some (k, e)
  | _ => none

/-! What an operation yields that does nothing. -/
noncomputable def qPick (x y : Option V) : V → Option V
  | .b p => Bool.rec y x p
  | _ => none
/-- Parts are laid into a table. -/
noncomputable def layParts (place : Nat → Option (Nat × Nat)) (l : List (Nat × V)) : Tr V → Option (Tr V) :=
  List.rec (motive := fun _ => Tr V → Option (Tr V)) some (fun x _ g t => ob (place x.1) fun q => guardO (Nat.beq x.2.size q.2) (ob (x.2.into t q.1) g)) l
noncomputable def placeT (s : TypeId) (n i : Nat) : Option (Nat × Nat) := ob (fieldT C s i) fun f => guardO (Nat.ble (f.1 + f.2.1) n) (some (f.1, f.2.1))
noncomputable def placeA (sz n i : Nat) : Option (Nat × Nat) := guardO (Nat.ble (i * sz + sz) n) (some (i * sz, sz))
noncomputable def sizesB (l : List Field) : Bool := List.rec true (fun f _ g => (sizeT C f.type).isSome && g) l
noncomputable def qBuildZ (t : TypeId) (ps : List (Nat × V)) (c : Tr V) (n : Nat) : TypeDesc → Option V
  | .struct fs => guardO (sizesB C fs.toList) (om (layParts (placeT C t n) ps c) fun c => .agg c 0 n)
  | .array _ e => ob (sizeT C e) fun sz => om (layParts (placeA sz n) ps c) fun c => .agg c 0 n
  | _ => none
noncomputable def qBuild (t : TypeId) (ps : List (Nat × V)) : V → Option V
  | .agg c 0 n => ob (C.P.underlying t) (qBuildZ C t ps c n)
  | _ => none
noncomputable def qNil : V → Option V
  | .p j off => some (.p j off)
  | .f (.func g) l c => some (.f (.func g) l c)
  | .f (.yield g) l c => some (.f (.yield g) l c)
  | _ => none
noncomputable def qFieldA (s : TypeId) (i : Nat) : V → Option V
  | .p j off => ob (fieldT C s i) fun f => guardO (!Nat.beq f.2.1 0) (some (.p j (off + f.1)))
  | _ => none
noncomputable def qField (s : TypeId) (i : Nat) : V → Option V
  | .agg c off n => ob (fieldT C s i) fun f => partV C f.2.2 c off n f.1
  | _ => none
noncomputable def idxS (n sz : Nat) : V → Option V
  | .sl j off len _ => guardO (Nat.blt n len) (some (.p j (off + n * sz)))
  | _ => none
noncomputable def idxA (n len sz : Nat) : V → Option V
  | .p j off => guardO (Nat.blt n len) (some (.p j (off + n * sz)))
  | _ => none
noncomputable def idxU (n : Nat) (x : V) : TypeDesc → Option V
  | .slice e => ob (sizeT C e) fun sz => idxS n sz x
  | .array len e => ob (sizeT C e) fun sz => idxA n len sz x
  | _ => none
noncomputable def qIndexA (t : TypeId) (n : Nat) (x : V) : Option V := ob (C.P.underlying t) (idxU C n x)
noncomputable def ixA (e : TypeId) (n len : Nat) : V → Option V
  | .agg c off k => guardO (Nat.blt n len) (ob (sizeT C e) fun sz => partV C e c off k (n * sz))
  | _ => none
noncomputable def ixS (n : Nat) : V → Option V
  | .s s => om (nthL s.data.toList n) fun b => .i .u8 (.ofNat b.toNat)
  | _ => none
noncomputable def ixU (n : Nat) (x : V) : TypeDesc → Option V
  | .array len e => ixA C e n len x
  | .string => ixS n x
  | _ => none
noncomputable def qIndex (t : TypeId) (n : Nat) (x : V) : Option V := ob (C.P.underlying t) (ixU C n x)
noncomputable def qFound (ok : Bool) (z : V) (r : Option (Nat × V × V × Nat)) : V :=
  Option.rec (Bool.rec z (.tup [z, .b false]) ok) (fun e => Bool.rec e.2.2.1 (.tup [e.2.2.1, .b true]) ok) r
noncomputable def qLookup (h : H) (t : TypeId) (ok : Bool) (m k : V) : Option V :=
  ob (mapT C t) fun q => ob (zeroT C q.2) fun z => guardO (keyB C 40 q.1 k) (ob (mapOf h m) fun es => om (findV C q.1 k es.1 0) (qFound ok z))
noncomputable def qExtract (i : Nat) : V → Option V
  | .tup l => nthL l i
  | _ => none
noncomputable def lenStr : V → Option V
  | .s s => some (.i .i64 (.ofNat s.size))
  | _ => none
noncomputable def lenU (h : H) (x : V) : TypeDesc → Option V
  | .array n _ => some (.i .i64 (.ofNat n))
  | .slice _ => om (lenOfV x) fun n => .i .i64 (.ofNat n)
  | .map _ _ => om (mapOf h x) fun es => .i .i64 (.ofNat es.1.length)
  | .string => lenStr x
  | _ => none
noncomputable def qLen (h : H) (t : TypeId) (x : V) : Option V := ob (C.P.underlying t) (lenU h x)
noncomputable def capU (x : V) : TypeDesc → Option V
  | .slice _ => (match x with
    | .sn => some (.i .i64 (.ofNat 0))
    | .sl _ _ _ (some c) => some (.i .i64 (.ofNat c))
    | _ => none)
  | _ => none
noncomputable def qMin : V → V → Option V
  | .i k x, .i _ y => some (.i k (Bool.rec x y (ltI y x)))
  | _, _ => none
noncomputable def qMax : V → V → Option V
  | .i k x, .i _ y => some (.i k (Bool.rec x y (ltI x y)))
  | _, _ => none
noncomputable def qBlt (h : H) (b : Builtin) (ts : List TypeId) : List V → Option V
  | [x] => (match b, ts with
    | .len, t :: _ => qLen C h t x
    | .cap, t :: _ => ob (C.P.underlying t) (capU x)
    | _, _ => none)
  | [x, y] => (match b with
    | .min => qMin x y
    | .max => qMax x y
    | _ => none)
  | _ => none
noncomputable def isS : V → Bool
  | .agg _ _ _ => false
  | .tup _ => false
  | .f _ _ _ => false
  | _ => true
noncomputable def allS (l : List V) : Bool := List.rec true (fun v _ g => isS v && g) l
noncomputable def okFn : Fn → Bool
  | .func _ => true
  | _ => false
noncomputable def qCallee (a : A) (h : H) (c : Call) : Callee → Option V
  | .builtin b => ob (evs1 C a c.args.toList) (qBlt C h b c.argTypes.toList)
  | _ => none
noncomputable def quietO (a : A) (h : H) : Op → Option V
  | .move x => a.ev C x
  | .pick c x y => ob (a.ev1 C c) (qPick (a.ev C x) (a.ev C y))
  | .build t parts => ob (evParts C a parts.toList) fun ps => ob (zeroT C t) (qBuild C t ps)
  | .load t x => ob (a.ev1 C x) (qLoad C h t)
  | .nilCheck x => ob (a.ev1 C x) qNil
  | .binOp op t x y _ => ob (a.ev1 C x) fun p => ob (a.ev1 C y) (binV C h op t p)
  | .unOp op _ x => ob (a.ev1 C x) (unV op)
  | .convert s d x => ob (a.ev1 C x) (convV C s d)
  | .makeFunc fn first cap => ob (evs C a first.toList) fun l => ob (evs C a cap.toList) fun c => guardO (allS l && allS c && okFn fn) (some (.f fn l c))
  | .slice t x lo hi mx => ob (a.ev1 C x) fun p => ob (optV C a lo) fun l => ob (optV C a hi) fun r => ob (optV C a mx) (sliceV C h t p l r)
  | .fieldAddr s x i => ob (a.ev1 C x) (qFieldA C s i)
  | .field s x i => ob (a.ev1 C x) (qField C s i)
  | .indexAddr t x ix => ob (a.ev1 C x) fun p => ob (a.ev1 C ix) fun n => ob (natOf n) fun n => qIndexA C t n p
  | .index t x ix => ob (a.ev1 C x) fun p => ob (a.ev1 C ix) fun n => ob (natOf n) fun n => qIndex C t n p
  | .lookup t x k ok => ob (a.ev1 C x) fun m => ob (a.ev1 C k) (qLookup C h t ok m)
  | .extract x i => ob (a.ev C x) (qExtract i)
  | .call c => qCallee C a h c c.callee
  | _ => none
noncomputable def quietV (a : A) (h : H) (o : Oper) : Option V := quietO C a h o.op

/-! What an operation does that is no call and no step of an iterator. -/
/-- What lies in a new block, and what leads there. -/
structure Mk where
  o : O
  at_ : Nat → V
noncomputable def boxV (z : V) : Option Mk := om z.own fun c => ⟨.cells false z.size 1 c, fun j => .p j 0⟩
/-- Are all parts told, one behind the other? -/
noncomputable def covers : List (Nat × V) → Nat → Nat → Bool
  | [], i, n => Nat.beq i n
  | x :: l, i, n => Nat.beq x.1 i && covers l (Nat.succ i) n
/-- A value's cells, over and over. -/
noncomputable def timesZ (z : V) (sz n : Nat) : Nat → Tr V → Option (Tr V) :=
  Nat.rec (motive := fun _ => Nat → Tr V → Option (Tr V)) (fun _ t => some t) (fun _ g i t => ob (z.into t i) (g (i + sz))) n
noncomputable def aSlice (n sz : Nat) (z : V) (ps : List (Nat × V)) : Option Mk :=
  guardO (Nat.ble (n * sz) 65536 && Nat.beq z.size sz) (ob (Bool.rec (timesZ z sz n 0 .nil) (some .nil) (covers ps 0 n)) fun c =>
    om (layParts (placeA sz (n * sz)) ps c) fun c => ⟨.cells false (n * sz) sz c, fun j => .sl j 0 n (some n)⟩)
noncomputable def aBuildSlice (t : TypeId) (n : Nat) (ps : List (Nat × V)) : Option Mk :=
  ob (elemT C t) fun e => ob (sizeT C e) fun sz => ob (zeroT C e) fun z => aSlice n sz z ps
noncomputable def aMake (sz by_ : Nat) (z : V) (n m : Nat) : Option Mk :=
  guardO (Nat.ble n m && Nat.ble (m * by_) 1048576 && Nat.ble m 1048576 && Nat.beq z.size sz) (om (timesZ z sz m 0 .nil) fun c => ⟨.cells false (m * sz) sz c, fun j => .sl j 0 n (some m)⟩)
noncomputable def aMakeSlice (t : TypeId) (x y : V) : Option Mk :=
  ob (elemT C t) fun e => ob (sizeT C e) fun sz => ob (bytesT C e) fun by_ => ob (zeroT C e) fun z => ob (natOf x) fun n => ob (natOf y) fun m => aMake sz by_ z n m
noncomputable def unit (h : Option H) : Option (V × H) := om h fun h => (.tup [], h)
noncomputable def aStore (h : H) (t : TypeId) (z : V) : V → Option (V × H)
  | .p j off => unit (storeV C h t j off z)
  | _ => none
noncomputable def putMap (h : H) (j : Nat) (es : List (V × V × Nat)) (clock : Nat) (k y : V) (r : Option (Nat × V × V × Nat)) : Option H :=
  Option.rec (some (h.set j (.map (es ++ [(k, y, clock)]) (Nat.succ clock)))) (fun e => guardO (sameKey k e.2.1) (some (h.set j (.map (setAt es e.1 (k, y, e.2.2.2)) clock)))) r
noncomputable def aMapPut (h : H) (t : TypeId) (k y : V) : V → Option (V × H)
  | .m j => ob (mapT C t) fun q => guardO (keyB C 40 q.1 k) (ob (ob (h.t.get j) mapO) fun es => ob (findV C q.1 k es.1 0) fun r => unit (putMap h j es.1 es.2 k y r))
  | _ => none
noncomputable def entMap (h : H) (j : Nat) (es : List (V × V × Nat)) (clock : Nat) (k z : V) (r : Option (Nat × V × V × Nat)) : Option (V × H) :=
  Option.rec (some (.tup [z, .i .i64 (.ofNat clock)], h.set j (.map (es ++ [(k, z, clock)]) (Nat.succ clock))))
    (fun e => guardO (sameKey k e.2.1) (some (.tup [e.2.2.1, .i .i64 (.ofNat e.2.2.2)], h.set j (.map (setAt es e.1 (k, e.2.2.1, e.2.2.2)) clock)))) r
noncomputable def aMapEntry (h : H) (t : TypeId) (k : V) : V → Option (V × H)
  | .m j => ob (mapT C t) fun q => ob (zeroT C q.2) fun z => guardO (keyB C 40 q.1 k) (ob (ob (h.t.get j) mapO) fun es => ob (findV C q.1 k es.1 0) (entMap h j es.1 es.2 k z))
  | _ => none
noncomputable def aEntryStore (h : H) (n : Nat) (y : V) : V → Option (V × H)
  | .m j => ob (ob (h.t.get j) mapO) fun es => ob (es.1.findIdx? fun e => Nat.beq e.2.2 n) fun i => om (nthL es.1 i) fun e => (.tup [], h.set j (.map (setAt es.1 i (e.1, y, e.2.2)) es.2))
  | _ => none
noncomputable def rangeM (h : H) : V → Option (V × H)
  | .mn => some (.p h.n 0, h.new (.iter none 0 [] 0))
  | .m j => om (ob (h.t.get j) mapO) fun es => (.p h.n 0, h.new (.iter (some j) es.2 [] es.2))
  | _ => none
noncomputable def aRange (h : H) (t : TypeId) (x : V) : Option (V × H) := ob (mapT C t) fun _ => rangeM h x
noncomputable def entO (h : H) : O → Option V
  | .iter (some j) _ seen stepped => ob (ob (h.t.get j) mapO) fun es => guardO (Nat.beq es.2 stepped) (ob seen.getLast? fun b => om (es.1.find? fun e => Nat.beq e.2.2 b) fun e => .tup [e.1, e.2.1])
  | _ => none
noncomputable def aEntry (h : H) : V → Option (V × H)
  | .p r 0 => om (ob (h.t.get r) (entO h)) fun v => (v, h)
  | _ => none
noncomputable def copyD (h : H) (n sz : Nat) (s : Tr V) (so : Nat) : V → Option (V × H)
  | .sl j off _ _ => om (ob (h.t.get j) (copyO h j off (n * sz) s so)) fun h => (.i .i64 (.ofNat n), h)
  | _ => some (.i .i64 (.ofNat n), h)
noncomputable def aCopy (h : H) (t : TypeId) (d s : V) : Option (V × H) :=
  ob (elemT C t) fun e => ob (sizeT C e) fun sz => ob (lenOfV d) fun n => ob (lenOfV s) fun m => ob (firstV h (Nat.min m n * sz) s) fun q => copyD h (Nat.min m n) sz q.1 q.2 d
noncomputable def clearZ (h : H) (j off n sz : Nat) (z : V) : Option (V × H) :=
  guardO (Nat.beq z.size sz) (ob (timesZ z sz n 0 .nil) fun c => unit (ob (h.t.get j) (copyO h j off (n * sz) c 0)))
noncomputable def aClear (h : H) (t : TypeId) : V → Option (V × H)
  | .mn => some (.tup [], h)
  | .sn => some (.tup [], h)
  | .se _ _ _ => some (.tup [], h)
  | .m j => om (ob (h.t.get j) mapO) fun es => (.tup [], h.set j (.map [] es.2))
  | .sl j off n _ => ob (elemT C t) fun e => ob (zeroT C e) fun z => ob (sizeT C e) fun sz => clearZ h j off n sz z
  | _ => none
noncomputable def delM (kt : TypeId) (h : H) (k : V) : V → Option (V × H)
  | .mn => some (.tup [], h)
  | .m j => ob (ob (h.t.get j) mapO) fun es => om (findV C kt k es.1 0) fun r => Option.rec (.tup [], h) (fun e => (.tup [], h.set j (.map (dropAt es.1 e.1) es.2))) r
  | _ => none
noncomputable def aDelete (h : H) (t : TypeId) (k m : V) : Option (V × H) :=
  ob (mapT C t) fun q => guardO (keyB C 40 q.1 k) (delM C q.1 h k m)
noncomputable def aBlt (h : H) (b : Builtin) (ts : List TypeId) : List V → Option (V × H)
  | [x] => (match b, ts with
    | .clear, t :: _ => ob (C.P.underlying t) fun _ => aClear C h t x
    | _, _ => none)
  | [x, y] => (match b, ts with
    | .append, t :: t' :: _ => ob (elemT C t') fun _ => ob (elemT C t) fun e => appendV C h e x y
    | .copy, t :: _ => aCopy C h t x y
    | .delete, t :: _ => aDelete C h t y x
    | _, _ => none)
  | _ => none
noncomputable def aCallee (a : A) (h : H) (c : Call) : Callee → Option (V × H)
  | .builtin b => ob (evs1 C a c.args.toList) (aBlt C h b c.argTypes.toList)
  | _ => none
/-- What makes a block, and does nothing else. -/
noncomputable def mkO (a : A) : Op → Option Mk
  | .alloc t => ob (zeroT C t) boxV
  | .box _ x => ob (a.ev1 C x) boxV
  | .buildSlice t n parts => ob (evParts C a parts.toList) (aBuildSlice C t n)
  | .makeMap _ r => Option.rec (some ⟨.map [] 0, fun j => .m j⟩) (fun _ => none) r
  | .makeSlice t l c => ob (a.ev1 C l) fun x => ob (a.ev1 C c) (aMakeSlice C t x)
  | _ => none
noncomputable def mkV (a : A) (o : Oper) : Option Mk := mkO C a o.op
noncomputable def actO (a : A) (h : H) : Op → Option (V × H)
  | .assign x => om (a.ev C x) fun v => (v, h)
  | .store t x y => ob (a.ev1 C y) fun z => ob (a.ev1 C x) (aStore C h t z)
  | .mapUpdate t x k y => ob (a.ev1 C x) fun m => ob (a.ev1 C k) fun k => ob (a.ev1 C y) fun y => aMapPut C h t k y m
  | .insert t x k y => ob (a.ev1 C x) fun m => ob (a.ev1 C k) fun k => ob (a.ev1 C y) fun y => aMapPut C h t k y m
  | .mapEntry t x k => ob (a.ev1 C x) fun m => ob (a.ev1 C k) fun k => aMapEntry C h t k m
  | .entryStore _ x st y => ob (a.ev1 C x) fun m => ob (a.ev1 C st) fun st => ob (natOf st) fun n => ob (a.ev1 C y) fun y => aEntryStore h n y m
  | .range t x => ob (a.ev1 C x) (aRange C h t)
  | .entry x => ob (a.ev1 C x) (aEntry h)
  | .call c => aCallee C a h c c.callee
  | _ => none
noncomputable def actV (a : A) (h : H) (o : Oper) : Option (V × H) := actO C a h o.op

/-! Orders. -/
noncomputable def quietB (b : Builtin) : Bool := match b with
  | .len => true
  | .cap => true
  | .min => true
  | .max => true
  | _ => false
noncomputable def isQuiet (o : Oper) : Bool := o.dst.isSome && match o.op with
  | .move _ => true
  | .pick _ _ _ => true
  | .build _ _ => true
  | .load _ _ => true
  | .nilCheck _ => true
  | .binOp _ _ _ _ _ => true
  | .unOp _ _ _ => true
  | .convert _ _ _ => true
  | .makeFunc _ _ _ => true
  | .slice _ _ _ _ _ => true
  | .fieldAddr _ _ _ => true
  | .field _ _ _ => true
  | .indexAddr _ _ _ => true
  | .index _ _ _ => true
  | .lookup _ _ _ _ => true
  | .extract _ _ => true
  | .call c => match c.callee with
    | .builtin b => quietB b
    | _ => false
  | _ => false
noncomputable def isMk (o : Oper) : Bool := o.dst.isSome && match o.op with
  | .alloc _ => true
  | .box _ _ => true
  | .buildSlice _ _ _ => true
  | .makeMap _ _ => true
  | .makeSlice _ _ _ => true
  | _ => false
noncomputable def opAt (ops : Array Oper) (i : Nat) : Option Oper := nthL ops.toList i
noncomputable def qtOf (ops : Array Oper) (i : Nat) : Bool := Option.rec false (fun o => isQuiet o || isMk o) (opAt ops i)
noncomputable def readyB (ops : Array Oper) (seen : List Nat) (i : Nat) : Bool :=
  Option.rec false (fun o => o.after.toList.all fun e => !Region.binds .any e || seen.any (Nat.beq e.on)) (opAt ops i)
/-- What only reads goes first. -/
noncomputable def ordGo (ops : Array Oper) : Nat → List Nat → List Nat → List Nat
  | 0, _, _ => []
  | n + 1, seen, rest => match rest.find? fun i => qtOf ops i && readyB ops seen i with
    | some i => i :: ordGo ops n (i :: seen) (rest.filter fun j => !Nat.beq j i)
    | none => match rest.find? fun i => readyB ops seen i with
      | some i => i :: ordGo ops n (i :: seen) (rest.filter fun j => !Nat.beq j i)
      | none => []
noncomputable def oddB (odd : List (Nat × Nat)) (ops : Array Oper) : Bool := odd.any fun q => Nat.beq q.1 ops.size && Option.rec false (fun o => Option.rec false (fun d => Nat.beq d q.2) o.dst) (opAt ops 0)
noncomputable def ordOf (odd : List (Nat × Nat)) (ops : Array Oper) : List Nat := Bool.rec (List.range ops.size) (ordGo ops ops.size [] (List.range ops.size)) (oddB odd ops)
noncomputable def aheadOf (i : Nat) : List Nat → List Nat
  | [] => []
  | j :: l => bif Nat.beq j i then [] else j :: aheadOf i l
/-- What an operation that acts must leave as it is. -/
noncomputable def stOf (odd : List (Nat × Nat)) (ops : Array Oper) (i : Nat) : List Nat :=
  Bool.rec ((aheadOf i (ordOf odd ops)).filter fun k => qtOf ops k && !(maskAt ops i).testBit k) [] (qtOf ops i)
noncomputable def planB (odd : List (Nat × Nat)) (ops : Array Oper) : Bool := confB ops (qtOf ops) (stOf odd ops) (ordOf odd ops)
/-- All regions of some code are such, and all slots below a bound. -/
noncomputable def dstsB (N : Nat) (ops : Array Oper) : Bool := ops.toList.all fun o => Option.rec true (fun d => Nat.blt d N) o.dst
noncomputable def codeOk (odd : List (Nat × Nat)) (N : Nat) (c : Code) : Bool := match c with
  | .region _ ops draw => dstsB N ops && (!draw || planB odd ops)
  | .seq a b => codeOk odd N a && codeOk odd N b
  | .cond _ a b => codeOk odd N a && codeOk odd N b
  | .block _ b => codeOk odd N b
  | .loop b => codeOk odd N b
  | .rangeFunc _ ps a b => ps.toList.all (fun d => Nat.blt d N) && codeOk odd N a && codeOk odd N b
  | .scope b => codeOk odd N b
  | _ => true

/-! The way through the code. -/
abbrev K := Exit → A → H → Bool
abbrev KV := V → H → Bool
/-- (The scope about it, for a jump; the code; the round.) -/
abbrev Ih := Option Code → Code → Option Nat → A → H → K → Bool

/-- A call's results. -/
noncomputable def resOne (t : Tr V) (h : H) : ResultVar → Option V
  | .tmp x => ob (t.get x) noTup
  | .cell x ty => ob (t.get x) (qLoad C h ty)
noncomputable def resV (t : Tr V) (h : H) : List ResultVar → Option (List V)
  | [] => some []
  | r :: l => ob (resOne C t h r) fun v => om (resV t h l) fun vs => v :: vs
noncomputable def resOf : List V → V
  | [v] => v
  | l => .tup l
noncomputable def isOpen : Option O → Bool
  | some (.defs false) => true
  | _ => false
/-- What was put off is done. -/
noncomputable def outD (fn : Func) (k : H → Bool) : Exit → A → H → Bool
  | .normal, a, h => a.d.isEmpty && (resV C a.t h fn.results.toList).isSome && k h
  | .ret, a, h => a.d.isEmpty && (resV C a.t h fn.results.toList).isSome && k h
  | _, _, _ => false
noncomputable def inD (ih : Ih) (args : List V) (h : H) (k : H → Bool) (fn : Func) : Bool :=
  match fn.body with
  | some c => Nat.ble args.length fn.ntmps && ih none c none ⟨Tr.lay args .nil 0, []⟩ h (outD C fn k)
  | none => false
noncomputable def callD (ih : Ih) (args : List V) (h : H) (k : H → Bool) : Option Func → Bool
  | some fn => inD C ih args h k fn
  | none => false
noncomputable def leave (ih : Ih) (fn : Func) (t : Tr V) : List AD → H → KV → Bool
  | [], h, k => match resV C t h fn.results.toList with
    | some l => k (resOf l) h
    | none => false
  | .mark j :: ds, h, k => isOpen (h.t.get j) && leave ih fn t ds (h.set j (.defs true)) k
  | .call g args :: ds, h, k => callD C ih args h (fun h => leave ih fn t ds h k) C.P.funcs[g]?
noncomputable def outV (ih : Ih) (fn : Func) (k : KV) : Exit → A → H → Bool
  | .normal, a, h => leave C ih fn a.t a.d h k
  | .ret, a, h => leave C ih fn a.t a.d h k
  | _, _, _ => false
noncomputable def inF (ih : Ih) (args : List V) (h : H) (k : KV) (fn : Func) : Bool :=
  match fn.body with
  | some c => Nat.ble args.length fn.ntmps && ih none c none ⟨Tr.lay args .nil 0, []⟩ h (outV C ih fn k)
  | none => false
noncomputable def callG (ih : Ih) (args : List V) (h : H) (k : KV) : Option Func → Bool
  | some fn => inF C ih args h k fn
  | none => false
noncomputable def callF (ih : Ih) (f : FuncId) (args : List V) (h : H) (k : KV) : Bool := Option.rec (callG C ih args h k C.P.funcs[f]?) (fun v => k v h) (C.known f args h)

noncomputable def setAll : List (Tmp × V) → Tr V → Tr V
  | [], t => t
  | x :: l, t => setAll l (t.put x.1 x.2)

/-- A round of a loop over a function. -/
noncomputable def endR (l : Nat) (j : Option Code) (h : H) (k : KV) : Option O → Bool
  | some (.loop _ _ t ps asg body dfr) => k (.b j.isNone) (h.set l (.loop (if j.isNone then .ready else .done) j t ps asg body dfr))
  | _ => false
noncomputable def outR (l : Nat) (k : KV) : K
  | .normal, _, h => endR l none h k (h.t.get l)
  | .ret, _, h => endR l (some .ret) h k (h.t.get l)
  | .exit id, _, h => endR l (some (.exit id)) h k (h.t.get l)
  | .goto g, _, h => endR l (some (.goto g)) h k (h.t.get l)
  | _, _, _ => false
noncomputable def bodyR (ih : Ih) (l : Nat) (bd : Code) (a : A) (h : H) (k : KV) : Option O → Bool
  | some (.loop .ready pd t ps asg body dfr) => ih none bd (some l) a (h.set l (.loop .busy pd t ps asg body dfr)) (outR l k)
  | _ => false
noncomputable def midR (ih : Ih) (l : Nat) (bd : Code) (k : KV) : K
  | .normal, a, h => bodyR ih l bd a h k (h.t.get l)
  | _, _, _ => false
noncomputable def roundV (ih : Ih) (l : Nat) (args : List V) (h : H) (k : KV) : Option O → Bool
  | some (.loop _ _ t ps asg bd _) => Nat.beq args.length ps.size && ih none asg (some l) ⟨setAll (ps.toList.zip args) t, []⟩ h (midR ih l bd k)
  | _ => false

noncomputable def callV (ih : Ih) (args : List V) (h : H) (k : KV) : V → Bool
  | .f (.func g) first cap => callF C ih g (first ++ args ++ cap) h k
  | .f (.yield l) [] _ => roundV ih l args h k (h.t.get l)
  | _ => false

/-- Steps of an iterator over a map: whatever comes next. -/
noncomputable def nextM (h : H) (r m since : Nat) (seen : List Nat) (last : Nat) (k : KV) : Option O → Bool
  | some (.map es clock) =>
    (seen.isEmpty || es.isEmpty || !(es.all fun e => Nat.ble last e.2.2)) &&
    ((es.filter fun e => !(seen.any fun b => Nat.beq b e.2.2)).any (fun e => Nat.blt e.2.2 since) || k (.tup [.b false]) h) &&
    (es.filter fun e => !(seen.any fun b => Nat.beq b e.2.2)).all fun e => k (.tup [.b true, e.1, e.2.1]) (h.set r (.iter (some m) since (seen ++ [e.2.2]) clock))
  | _ => false
noncomputable def nextO (h : H) (r : Nat) (k : KV) : Option O → Bool
  | some (.iter none _ _ _) => k (.tup [.b false]) h
  | some (.iter (some m) since seen last) => nextM h r m since seen last k (h.t.get m)
  | _ => false
noncomputable def nextV (h : H) (k : KV) : V → Bool
  | .p r 0 => nextO h r k (h.t.get r)
  | _ => false

noncomputable def guardX (want : Bool) : Option V → Option Bool
  | some (.b x) => some (x == want)
  | some (.y _) => some false
  | some (.z _) => none
  | some _ => some false
  | none => none
noncomputable def guardV (ops : Array Oper) (a : A) (o : Oper) : Option Bool := match o.guard with
  | none => some true
  | some q => Option.rec (some false) (fun d => guardX q.2 (a.t.get d)) (ob (opAt ops q.1) (·.dst))

/-- Whether values are the same, to the sign. -/
noncomputable def sameL (rec : V → V → Bool) : List V → List V → Bool
  | [], [] => true
  | x :: l, y :: r => rec x y && sameL rec l r
  | _, _ => false
noncomputable def sameT (rec : V → V → Bool) (a b : Tr V) (n : Nat) : Nat → Nat → Bool :=
  Nat.rec (motive := fun _ => Nat → Nat → Bool) (fun _ _ => true)
    (fun _ g i j => Option.rec false (fun x => Option.rec false (fun y => rec x y) (b.get j)) (a.get i) && g (Nat.succ i) (Nat.succ j)) n
noncomputable def sameN : Nat → V → V → Bool
  | 0, _, _ => false
  | d + 1, x, y => match x, y with
    | .b x, .b y => x == y
    | .i k n, .i k' n' => Nat.beq (kN k) (kN k') && eqI n n'
    | .s x, .s y => eqS x y
    | .pn, .pn => true
    | .p j o, .p j' o' => Nat.beq j j' && Nat.beq o o'
    | .sn, .sn => true
    | .sl j o l c, .sl j' o' l' c' => Nat.beq j j' && Nat.beq o o' && Nat.beq l l' && c == c'
    | .se j o l, .se j' o' l' => Nat.beq j j' && Nat.beq o o' && Nat.beq l l'
    | .mn, .mn => true
    | .m j, .m j' => Nat.beq j j'
    | .f g l c, .f g' l' c' => g == g' && sameL (sameN d) l l' && sameL (sameN d) c c'
    | .fn, .fn => true
    | .agg a ao an, .agg b bo bn => Nat.beq an bn && sameT (sameN d) a b an ao bo
    | .tup l, .tup l' => sameL (sameN d) l l'
    | .y k, .y k' => Nat.beq k k'
    | .z k, .z k' => Nat.beq k k'
    | _, _ => false
noncomputable def sameV : V → V → Bool := sameN 5
/-- Does a block still hold what was laid there? -/
noncomputable def sameO : O → O → Bool
  | .cells ro n sz t, .cells ro' n' sz' t' => !ro && !ro' && Nat.beq n n' && Nat.beq sz sz' && sameT sameV t t' n 0 0
  | .map [] c, .map [] c' => Nat.beq c c'
  | _, _ => false
noncomputable def blkOf : V → Option Nat
  | .p j _ => some j
  | .sl j _ _ _ => some j
  | .m j => some j
  | _ => none
/-- Does an operation still yield what its slot holds? -/
noncomputable def stabM (h : H) (v : V) (q : Mk) (j : Nat) : Bool := sameV v (q.at_ j) && Option.rec false (sameO q.o) (h.t.get j)
noncomputable def stabG (a : A) (h : H) (o : Oper) (v : V) : Option Bool → Bool
  | some true => Bool.rec (Option.rec false (fun q => Option.rec false (stabM h v q) (blkOf v)) (mkV C a o)) (Option.rec false (sameV v) (quietV C a h o)) (isQuiet o)
  | some false => sameV v (.tup [])
  | none => false
noncomputable def stabO (ops : Array Oper) (a : A) (h : H) (o : Oper) : Bool := Option.rec false (fun v => stabG C a h o v (guardV ops a o)) (ob o.dst a.t.get)
noncomputable def stabV (ops : Array Oper) (a : A) (h : H) (l : List Nat) : Bool :=
  List.rec true (fun k _ g => Option.rec false (stabO C ops a h) (opAt ops k) && g) l

noncomputable def actK (k : KV) : Option (V × H) → Bool
  | some x => k x.1 x.2
  | none => false
noncomputable def callK (ih : Ih) (a : A) (h : H) (c : Call) (k : KV) (f : V) : Bool := match evs C a c.args.toList with
  | some args => callV C ih args h k f
  | none => false
noncomputable def optK {α : Type} (k : α → Bool) : Option α → Bool
  | some x => k x
  | none => false
noncomputable def evCall (ih : Ih) (a : A) (h : H) (o : Oper) (c : Call) (k : KV) : Bool := match c.callee with
  | .value f => optK (callK C ih a h c k) (a.ev C f)
  | .builtin _ => actK k (actV C a h o)
  | _ => false
noncomputable def evDefer (a : A) (h : H) (o : Oper) (c : Call) (k : A → H → Bool) : Option V → Bool
  | some (.f (.func g) first cap) => optK (fun args => k (A.put ⟨a.t, .call g (first ++ args ++ cap) :: a.d⟩ o.dst (.tup [])) h) (evs C a c.args.toList)
  | _ => false
noncomputable def evDef (a : A) (h : H) (o : Oper) (c : Call) (k : A → H → Bool) : Bool := match c.callee with
  | .value f => evDefer C a h o c k (a.ev C f)
  | _ => false
noncomputable def evAct (ih : Ih) (a : A) (h : H) (o : Oper) (k : A → H → Bool) : Bool := match o.op with
  | .call c => evCall C ih a h o c fun v h => k (a.put o.dst v) h
  | .defer c => evDef C a h o c k
  | .next x s => !s && optK (nextV h fun v h => k (a.put o.dst v) h) (a.ev C x)
  | _ => actK (fun v h => k (a.put o.dst v) h) (actV C a h o)
noncomputable def isNo {α : Type} (o : Option α) : Bool := Option.rec true (fun _ => false) o
noncomputable def evMk (a : A) (h : H) (o : Oper) (k : A → H → Bool) (q : Mk) : Bool := isNo (h.t.get h.n) && k (a.put o.dst (q.at_ h.n)) (h.new q.o)
noncomputable def evDo (ih : Ih) (ops : Array Oper) (a : A) (h : H) (o : Oper) (k : A → H → Bool) (S : List Nat) : Bool :=
  Bool.rec (Bool.rec (evAct C ih a h o fun a h => stabV C ops a h S && k a h) (Option.rec false (evMk a h o k) (mkV C a o)) (isMk o)) (Option.rec false (fun v => k (a.put o.dst v) h) (quietV C a h o)) (isQuiet o)
noncomputable def evOp (ih : Ih) (ops : Array Oper) (a : A) (h : H) (o : Oper) (k : A → H → Bool) (S : List Nat) : Option Bool → Bool
  | some true => evDo C ih ops a h o k S
  | some false => stabV C ops (a.put o.dst (.tup [])) h S && k (a.put o.dst (.tup [])) h
  | none => false
noncomputable def evOps (ih : Ih) (ops : Array Oper) (S : Nat → List Nat) (k : K) (l : List Nat) : A → H → Bool :=
  List.rec (motive := fun _ => A → H → Bool) (fun a h => k .normal a h)
    (fun i _ g a h => Option.rec false (fun o => evOp C ih ops a h o g (S i) (guardV ops a o)) (opAt ops i)) l

noncomputable def stSeq (ih : Ih) (y : Code) (r : Option Nat) (k : K) : K
  | .normal, a, h => ih none y r a h k
  | e, a, h => k e a h
noncomputable def stCond (ih : Ih) (x y : Code) (r : Option Nat) (a : A) (h : H) (k : K) : Option V → Bool
  | some (.b p) => bif p then ih none x r a h k else ih none y r a h k
  | _ => false
noncomputable def stBlock (id : Nat) (k : K) : K
  | .exit i, a, h => bif Nat.beq i id then k .normal a h else k (.exit i) a h
  | e, a, h => k e a h
noncomputable def stRegion (ih : Ih) (ops : Array Oper) (r : Option Nat) (a : A) (h : H) (k : K) (draw : Bool) : Bool :=
  (r.isNone || noDefer ops) && Bool.rec (evOps C ih ops (fun _ => []) k (List.range ops.size) a h) (evOps C ih ops (stOf C.odd ops) k (ordOf C.odd ops) a h) draw
noncomputable def pdK (ih : Ih) (r : Option Nat) (a : A) (h : H) (k : K) : Option Code → Bool
  | none => k .normal a h
  | some c => ih none c r a h k
noncomputable def endL (ih : Ih) (r : Option Nat) (l : Nat) (a : A) (h : H) (k : K) : Option O → Bool
  | some (.loop st pd t ps asg body dfr) => match st with
    | .busy => false
    | _ => pdK ih r a (h.set l (.loop .exhausted pd t ps asg body dfr)) k pd
  | _ => false
noncomputable def runL (ih : Ih) (r : Option Nat) (g : FuncId) (first cap : List V) (ps : Array Tmp) (asg body : Code) (a : A) (ds : List AD) (dfr : Nat) (h : H) (k : K) : Bool :=
  callF C ih g (first ++ [.f (.yield h.n) [] []] ++ cap) (h.new (.loop .ready none a.t ps asg body dfr)) fun _ h' => endL ih r h.n ⟨a.t, ds⟩ h' k (h'.t.get h.n)
noncomputable def dfrOf : Option O → Option Nat
  | some (.loop _ _ _ _ _ _ d) => some d
  | _ => none
noncomputable def stRange (ih : Ih) (r : Option Nat) (ps : Array Tmp) (asg body : Code) (a : A) (h : H) (k : K) : Option V → Bool
  | some (.f (.func g) first cap) => match r with
    | none => runL C ih r g first cap ps asg body a (.mark h.n :: a.d) h.n (h.new (.defs false)) k
    | some l₀ => optK (fun dfr => runL C ih r g first cap ps asg body a a.d dfr h k) (dfrOf (h.t.get l₀))
  | _ => false
noncomputable def stGoto (ih : Ih) (body : Code) (r : Option Nat) (l : Nat) (a : A) (h : H) (k : K) : Option Code → Bool
  | some rest => ih (some body) rest r a h k
  | none => k (.goto l) a h
noncomputable def stScope (ih : Ih) (body : Code) (r : Option Nat) (k : K) : K
  | .goto l, a, h => stGoto ih body r l a h k (findLabel body l)
  | e, a, h => k e a h
noncomputable def stepN (ih : Ih) (r : Option Nat) (a : A) (h : H) (k : K) (c : Code) : Bool := match c with
  | .skip => k .normal a h
  | .label _ => k .normal a h
  | .seq x y => ih none x r a h (stSeq ih y r k)
  | .cond c x y => stCond ih x y r a h k (a.ev C c)
  | .block id body => ih none body r a h (stBlock id k)
  | .loop body => ih none body r a h (stSeq ih (.loop body) r k)
  | .exit id => k (.exit id) a h
  | .goto l => k (.goto l) a h
  | .ret => k .ret a h
  | .scope body => ih (some body) body r a h k
  | .region _ ops draw => stRegion C ih ops r a h k draw
  | .rangeFunc f ps asg body => stRange C ih r ps asg body a h k (a.ev C f)
  | .refuse _ => false
noncomputable def stepE (ih : Ih) : Ih := fun m c r a h k => Option.rec (stepN C ih r a h k c) (fun body => ih none c r a h (stScope ih body r k)) m

noncomputable def evC (n : Nat) : Ih := Nat.rec (motive := fun _ => Ih) (fun _ _ _ _ _ _ => false) (fun _ ih => stepE C ih) n

/-- A call from nothing. -/
noncomputable def runF (n : Nat) (f : FuncId) (args : List V) (h : H) (k : KV) : Bool := callF C (evC C n) f args h k
end
end Go.Proofs.YtolheapnopmhgaaGreatDoor
