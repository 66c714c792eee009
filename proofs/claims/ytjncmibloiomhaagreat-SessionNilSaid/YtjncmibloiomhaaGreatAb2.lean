/-
  The evaluator: the model's own code, run in one order over the abstract heap. What it does not know it refuses ('none').
-/
import Derived.Test.YtjncmibloiomhaaGreatAb1
namespace Go.Ab

/-! ### values -/
noncomputable def evT (tm : List Value) : Operand → Value
  | .tmp t => tm.getD t undef
  | .const v => v
  | .global _ => undef
  | .func f => .func (.func f) #[] #[]

/-- a value without an address -/
noncomputable def plain0 : Value → Bool
  | .bool _ | .int _ _ | .string _ | .pointer none | .slice none 0 0 | .map none | .nilFunc | .nilIface => true
  | _ => false
noncomputable def plainV : Value → Bool
  | .agg c => c.toList.all plain0
  | .tuple c => c.toList.all plain0
  | .func (.func _) a b => a.toList.isEmpty && b.toList.isEmpty
  | v => plain0 v
noncomputable def okOperand : Operand → Bool
  | .tmp _ => true
  | .const v => plainV v
  | .global _ => false
  | .func _ => true

/-- are two values the same (what it does not know is not) -/
noncomputable def sameA (a b : Addr) : Bool := Nat.beq a.block b.block && Nat.beq a.off b.off && decide (a.spot = b.spot)
noncomputable def sameL (f : Value → Value → Bool) : List Value → List Value → Bool
  | [], [] => true
  | a :: x, b :: y => f a b && sameL f x y
  | _, _ => false
noncomputable def same : Nat → Value → Value → Bool
  | 0, _, _ => false
  | n + 1, v, u =>
    match v, u with
    | .bool a, .bool b => a == b
    | .int j a, .int k b => decide (j = k) && decide (a = b)
    | .string a, .string b => decide (a.data.toList = b.data.toList)
    | .pointer none, .pointer none => true
    | .pointer (some a), .pointer (some b) => sameA a b
    | .slice none l c, .slice none l' c' => Nat.beq l l' && Nat.beq c c'
    | .slice (some a) l c, .slice (some b) l' c' => sameA a b && Nat.beq l l' && Nat.beq c c'
    | .map none, .map none => true
    | .map (some a), .map (some b) => Nat.beq a b
    | .nilFunc, .nilFunc => true
    | .nilIface, .nilIface => true
    | .iface t x, .iface t' y => Nat.beq t t' && same n x y
    | .func f a b, .func f' a' b' => decide (f = f') && sameL (same n) a.toList a'.toList && sameL (same n) b.toList b'.toList
    | .agg a, .agg b => sameL (same n) a.toList b.toList
    | .tuple a, .tuple b => sameL (same n) a.toList b.toList
    | _, _ => false

/-! ### types -/
noncomputable def isAggT (P : Program) (t : TypeId) : Option Bool :=
  match P.underlying t with
  | some (.struct _) => some true
  | some (.array _ _) => some true
  | some _ => some false
  | none => none
noncomputable def sizeT (P : Program) (t : TypeId) : Option Nat :=
  match P.info? t with
  | some i => some i.size
  | none => none
noncomputable def bytesT (P : Program) (t : TypeId) : Option Nat :=
  match P.info? t with
  | some i => some i.bytes
  | none => none
noncomputable def zeroT (P : Program) (t : TypeId) : Option Value :=
  match P.info? t with
  | some i => match i.zero with
    | some v => if plainV v = true then some v else none
    | none => none
  | none => none

/-! ### numbers and strings -/
noncomputable def wrapA : IntKind → Int → Int
  | .i64, n => let m := n.emod 18446744073709551616; if m ≥ 9223372036854775808 then m - 18446744073709551616 else m
  | .u64, n => n.emod 18446744073709551616
  | .i32, n => let m := n.emod 4294967296; if m ≥ 2147483648 then m - 4294967296 else m
  | .u32, n => n.emod 4294967296
  | .i16, n => let m := n.emod 65536; if m ≥ 32768 then m - 65536 else m
  | .u16, n => n.emod 65536
  | .i8, n => let m := n.emod 256; if m ≥ 128 then m - 256 else m
  | .u8, n => n.emod 256

noncomputable def bitsA (op : BinOp) (k : IntKind) (x y : Int) : Option Value :=
  let a := BitVec.ofInt k.bits x
  let b := BitVec.ofInt k.bits y
  match op with
  | .and => some (.int k (wrapA k (a &&& b).toNat))
  | .or => some (.int k (wrapA k (a ||| b).toNat))
  | .xor => some (.int k (wrapA k (a ^^^ b).toNat))
  | .andNot => some (.int k (wrapA k (a &&& ~~~b).toNat))
  | _ => none

noncomputable def shiftA (op : BinOp) (k : IntKind) (x y : Int) : Option Value :=
  match y with
  | .negSucc _ => none
  | .ofNat y =>
    match op with
    | .shl => some (.int k (wrapA k (x * ((2 ^ min y k.bits : Nat) : Int))))
    | .shr => some (.int k (x.fdiv ((2 ^ min y k.bits : Nat) : Int)))
    | _ => none

noncomputable def intA (op : BinOp) (k : IntKind) (x y : Int) : Option Value :=
  match op with
  | .add => some (.int k (wrapA k (x + y)))
  | .sub => some (.int k (wrapA k (x - y)))
  | .mul => some (.int k (wrapA k (x * y)))
  | .quo => if y = 0 then none else some (.int k (wrapA k (x.tdiv y)))
  | .rem => if y = 0 then none else some (.int k (x.tmod y))
  | .and | .or | .xor | .andNot => bitsA op k x y
  | .eql => some (.bool (decide (x = y)))
  | .neq => some (.bool (!decide (x = y)))
  | .lss => some (.bool (decide (x < y)))
  | .leq => some (.bool (decide (x ≤ y)))
  | .gtr => some (.bool (decide (x > y)))
  | .geq => some (.bool (decide (x ≥ y)))
  | _ => none

noncomputable def strA (op : BinOp) (x y : ByteArray) : Option Value :=
  match op with
  | .add => if x.data.toList.length + y.data.toList.length ≤ 9223372036854775807 then some (.string ⟨⟨x.data.toList ++ y.data.toList⟩⟩) else none
  | .eql => some (.bool (decide (x.data.toList = y.data.toList)))
  | .neq => some (.bool (!decide (x.data.toList = y.data.toList)))
  | _ => none

noncomputable def litEq : Lit → Lit → Bool
  | .bool a, .bool b => a == b
  | .int j a, .int k b => decide (j = k) && decide (a = b)
  | .float j a, .float k b => decide (j = k) && decide (a = b)
  | .string a, .string b => decide (a = b)
  | .nil, .nil => true
  | _, _ => false
noncomputable def litsEq : List Lit → List Lit → Bool
  | [], [] => true
  | a :: x, b :: y => litEq a b && litsEq x y
  | _, _ => false
/-- '==' on two values of type t -/
noncomputable def eqA (P : Program) (t : TypeId) (x y : Value) : Option Bool :=
    match P.underlying t, x, y with
    | some .bool, .bool a, .bool b => some (a == b)
    | some (.int _), .int k a, .int k' b => if k = k' then some (decide (a = b)) else none
    | some .string, .string a, .string b => some (decide (a.data.toList = b.data.toList))
    | some (.pointer _), .pointer none, .pointer b => some b.isNone
    | some (.pointer _), .pointer (some _), .pointer none => some false
    | some (.pointer e), .pointer (some a), .pointer (some b) =>
      match sizeT P e with
      | some (_ + 1) => if a.block = b.block ∧ a.spot = none ∧ b.spot = none then some (Nat.beq a.off b.off) else none
      | _ => none
    | some (.interface _), .nilIface, .nilIface => some true
    | some (.interface _), .nilIface, .iface _ _ => some false
    | some (.interface _), .iface _ _, .nilIface => some false
    | some (.slice _), .slice none _ _, .slice b _ _ => some b.isNone
    | some (.slice _), .slice (some _) _ _, .slice none _ _ => some false
    | some (.map _ _), .map none, .map b => some b.isNone
    | some (.map _ _), .map (some _), .map none => some false
    | some (.func _ _ _), .nilFunc, .nilFunc => some true
    | some (.func _ _ _), .nilFunc, .func _ _ _ => some false
    | some (.func _ _ _), .func _ _ _, .nilFunc => some false
    | some (.struct _), .agg xs, .agg ys =>
      if P.keyTypeAt 8 t = true ∧ xs.toList.all plain0 = true ∧ ys.toList.all plain0 = true then
        match P.keyLits 8 t xs.toList, P.keyLits 8 t ys.toList with
        | some a, some b => if (Value.agg xs).formed P t = true ∧ (Value.agg ys).formed P t = true then some (litsEq a b) else none
        | _, _ => none
      else none
    | some (.array _ _), .agg xs, .agg ys =>
      if P.keyTypeAt 8 t = true ∧ xs.toList.all plain0 = true ∧ ys.toList.all plain0 = true then
        match P.keyLits 8 t xs.toList, P.keyLits 8 t ys.toList with
        | some a, some b => if (Value.agg xs).formed P t = true ∧ (Value.agg ys).formed P t = true then some (litsEq a b) else none
        | _, _ => none
      else none
    | _, _, _ => none

noncomputable def eqGuardA (P : Program) (t : TypeId) (x y : Operand) (a b : Value) : Bool :=
  match a, b with
  | .nilIface, .nilIface => match x, y with
    | .const _, _ => true
    | _, .const _ => true
    | _, _ => false
  | .agg _, .agg _ => !(P.eqGuardType P.depth t)
  | _, _ => true

noncomputable def isEq : BinOp → Bool
  | .eql | .neq => true
  | _ => false

noncomputable def binA (P : Program) (op : BinOp) (t : TypeId) (x y : Operand) (a b : Value) : Option Value :=
  match a, b with
  | .int k a, .int k' b =>
    match op with
    | .shl | .shr => shiftA op k a b
    | _ => if k = k' then intA op k a b else none
  | .string a, .string b => strA op a b
  | a, b =>
    match op with
    | .eql => if eqGuardA P t x y a b = true then (match eqA P t a b with | some r => some (.bool r) | none => none) else none
    | .neq => if eqGuardA P t x y a b = true then (match eqA P t a b with | some r => some (.bool (!r)) | none => none) else none
    | _ => none

noncomputable def unA (op : UnOp) (x : Value) : Option Value :=
  match op, x with
  | .neg, .int k n => some (.int k (wrapA k (0 - n)))
  | .xor, .int k n => bitsA .xor k (if k.signed = true then -1 else k.max) n
  | .not, .bool b => some (.bool (!b))
  | _, _ => none

/-! ### cells -/
/-- so many cells from a place on -/
noncomputable def cut (c : List Value) (off n : Nat) : Option (List Value) :=
  if off + n ≤ c.length then some ((c.drop off).take n) else none
/-- other cells from a place on -/
noncomputable def lay (c : List Value) (off : Nat) (vs : List Value) : List Value := c.take off ++ vs ++ c.drop (off + vs.length)
noncomputable def one : Value → Bool
  | .agg _ | .tuple _ => false
  | _ => true
noncomputable def partA (P : Program) (t : TypeId) (cs : List Value) (off : Nat) : Option Value :=
  match isAggT P t, sizeT P t with
  | some true, some n => match cut cs off n with
    | some l => some (.agg ⟨l⟩)
    | none => none
  | some false, some _ => cs[off]?
  | _, _ => none
noncomputable def fillA (place : Nat → Option (Nat × Nat)) : List (Nat × Value) → List Value → Option (List Value)
  | [], cs => some cs
  | (i, v) :: rest, cs =>
    match place i with
    | none => none
    | some (off, size) => if v.cells.toList.length = size ∧ off + size ≤ cs.length then fillA place rest (lay cs off v.cells.toList) else none
noncomputable def repeatL (l : List Value) : Nat → List Value
  | 0 => []
  | n + 1 => l ++ repeatL l n
noncomputable def fieldsA (P : Program) (t : TypeId) : Option (List Field) :=
  match P.underlying t with
  | some (.struct fs) => some fs.toList
  | _ => none
noncomputable def placesA (P : Program) : List Field → Option (List (Nat × Nat))
  | [] => some []
  | f :: fs => match sizeT P f.type, placesA P fs with
    | some n, some r => some ((f.offset, n) :: r)
    | _, _ => none
noncomputable def partsOf (e : Operand → Value) (parts : Array (Nat × Operand)) : List (Nat × Value) := parts.toList.map fun p => (p.1, e p.2)

noncomputable def buildA (P : Program) (t : TypeId) (ps : List (Nat × Value)) : Option Value :=
  match zeroT P t with
  | none => none
  | some z =>
    match P.underlying t with
    | some (.struct fs) => match placesA P fs.toList with
      | some pl => match fillA (fun i => pl[i]?) ps z.cells.toList with
        | some cs => some (.agg ⟨cs⟩)
        | none => none
      | none => none
    | some (.array _ el) => match sizeT P el with
      | some n => match fillA (fun i => some (i * n, n)) ps z.cells.toList with
        | some cs => some (.agg ⟨cs⟩)
        | none => none
      | none => none
    | _ => none

/-! ### slices and places -/
noncomputable def natOf : Value → Option Nat
  | .int _ (.ofNat n) => some n
  | _ => none
/-- the three bounds of a slice expression: its own length, what is sure of its capacity -/
noncomputable def boundsA (len cap : Nat) (capSure : Bool) (lo hi mx : Option Value) : Option (Nat × Nat × Nat × Bool) :=
  match mx with
  | some m => match natOf m, hi with
    | some m, some h => match natOf h with
      | some h => match (match lo with | some l => natOf l | none => some 0) with
        | some l => if m ≤ cap ∧ h ≤ m ∧ l ≤ h then some (l, h, m, true) else none
        | none => none
      | none => none
    | _, _ => none
  | none => match (match hi with | some h => natOf h | none => some len) with
    | some h => match (match lo with | some l => natOf l | none => some 0) with
      | some l => if h ≤ cap ∧ l ≤ h then some (l, h, cap, capSure) else none
      | none => none
    | none => none
noncomputable def spotOf (sure : Bool) (z : Nat) : Option Nat := bif sure then none else some z
noncomputable def sliceA (P : Program) (t : TypeId) (x : Value) (lo hi mx : Option Value) : Option Value :=
  match P.underlying t, x with
  | some (.array n el), .pointer (some a) => match sizeT P el, boundsA n n true lo hi mx with
    | some s, some (l, h, m, sure) => if a.spot = none then some (.slice (some ⟨a.block, a.off + l * s, spotOf sure s⟩) (h - l) (m - l)) else none
    | _, _ => none
  | some .string, .string s => match mx, boundsA s.data.toList.length s.data.toList.length true lo hi none with
    | none, some (l, h, _, _) => some (.string ⟨⟨(s.data.toList.drop l).take (h - l)⟩⟩)
    | _, _ => none
  | some (.slice el), .slice none 0 0 => match sizeT P el, boundsA 0 0 true lo hi mx with
    | some _, some _ => some (.slice none 0 0)
    | _, _ => none
  | some (.slice el), .slice (some a) n c => match sizeT P el, boundsA n c a.spot.isNone lo hi mx with
    | some s, some (l, h, m, sure) => if sure = true ∨ a.spot = some s then some (.slice (some ⟨a.block, a.off + l * s, spotOf sure s⟩) (h - l) (m - l)) else none
    | _, _ => none
  | _, _ => none
noncomputable def fieldAddrA (P : Program) (t : TypeId) (x : Value) (i : Nat) : Option Value :=
  match fieldsA P t, x with
  | some fs, .pointer (some a) => match fs[i]? with
    | some f => match sizeT P f.type with
      | some (_ + 1) => if a.spot = none then some (.pointer (some ⟨a.block, a.off + f.offset, none⟩)) else none
      | _ => none
    | none => none
  | _, _ => none
noncomputable def indexAddrA (P : Program) (t : TypeId) (x i : Value) : Option Value :=
  match P.underlying t, x, natOf i with
  | some (.array n el), .pointer (some a), some i => match sizeT P el with
    | some s => if i < n ∧ a.spot = none then some (.pointer (some ⟨a.block, a.off + i * s, none⟩)) else none
    | none => none
  | some (.slice el), .slice (some a) n c, some i => match sizeT P el with
    | some s => if i < n ∧ n ≤ c then some (.pointer (some ⟨a.block, a.off + i * s, none⟩)) else none
    | none => none
  | _, _, _ => none
noncomputable def fieldA (P : Program) (t : TypeId) (x : Value) (i : Nat) : Option Value :=
  match fieldsA P t, x with
  | some fs, .agg cs => match fs[i]? with
    | some f => partA P f.type cs.toList f.offset
    | none => none
  | _, _ => none
noncomputable def indexA (P : Program) (t : TypeId) (x i : Value) : Option Value :=
  match P.underlying t, x, natOf i with
  | some (.array n el), .agg cs, some i => match sizeT P el with
    | some s => if i < n then partA P el cs.toList (i * s) else none
    | none => none
  | some .string, .string s, some i => match s.data.toList[i]? with
    | some b => some (.int .u8 b.toNat)
    | none => none
  | _, _, _ => none
noncomputable def minFrom (most : Bool) (k : IntKind) : Int → List Value → Option Value
  | a, [] => some (.int k a)
  | a, .int _ b :: r => minFrom most k (bif most then (if b > a then b else a) else (if b < a then b else a)) r
  | _, _ => none
noncomputable def minA (most : Bool) : List Value → Option Value
  | .int k a :: r => minFrom most k a r
  | _ => none

/-! ### operations that touch no memory -/
noncomputable def pureOp (P : Program) (op : Op) (e : Operand → Value) : Option Value :=
  match op with
  | .move x | .assign x => some (e x)
  | .pick c a b => match e c with
    | .bool t => some (bif t then e a else e b)
    | _ => none
  | .nilCheck x => match e x with
    | .pointer (some a) => some (.pointer (some a))
    | .iface t v => some (.iface t v)
    | .func (.func f) a b => some (.func (.func f) a b)
    | .func (.yield l) a b => some (.func (.yield l) a b)
    | _ => none
  | .binOp o t x y _ => binA P o t x y (e x) (e y)
  | .unOp o _ x => unA o (e x)
  | .convert s d x =>
    match P.underlying s, P.underlying d, e x with
    | some _, some (.int k), .int _ n => some (.int k (wrapA k n))
    | some _, some .string, .string s => some (.string s)
    | _, _, _ => none
  | .build t ps => buildA P t (partsOf e ps)
  | .makeInterface t x => match P.underlying t with
    | some (.interface _) => none
    | some _ => some (.iface t (e x))
    | none => none
  | .makeFunc fn a b => match fn with
    | .func f => some (.func (.func f) ⟨a.toList.map e⟩ ⟨b.toList.map e⟩)
    | _ => none
  | .slice t x lo hi mx => sliceA P t (e x) (lo.map e) (hi.map e) (mx.map e)
  | .fieldAddr t x i => fieldAddrA P t (e x) i
  | .field t x i => fieldA P t (e x) i
  | .indexAddr t x i => indexAddrA P t (e x) (e i)
  | .index t x i => indexA P t (e x) (e i)
  | .sliceToArrayPointer t x => match P.underlying t, e x with
    | some (.array (n + 1) _), .slice (some a) l c => if n + 1 ≤ l ∧ l ≤ c then some (.pointer (some ⟨a.block, a.off, none⟩)) else none
    | _, _ => none
  | .extract x i => match e x with
    | .tuple vs => vs.toList[i]?
    | _ => none
  | .typeAssert x _ t ok => match P.underlying t, e x with
    | some (.interface _), _ => none
    | some _, .iface t' v => if t' = t then some (bif ok then .tuple #[v, .bool true] else v) else none
    | _, _ => none
  | .call c => match c.callee with
    | .builtin .len => match c.argTypes.toList, c.args.toList with
      | t :: _, x :: _ => match P.underlying t, e x with
        | some .string, .string s => some (.int .i64 s.data.toList.length)
        | some (.array n _), _ => some (.int .i64 n)
        | some (.slice _), .slice _ n _ => some (.int .i64 n)
        | _, _ => none
      | _, _ => none
    | .builtin .cap => match c.argTypes.toList, c.args.toList with
      | t :: _, x :: _ => match P.underlying t, e x with
        | some (.slice _), .slice none _ 0 => some (.int .i64 0)
        | some (.slice _), .slice (some a) _ n => if a.spot = none then some (.int .i64 n) else none
        | _, _ => none
      | _, _ => none
    | .builtin .max => minA true (c.args.toList.map e)
    | .builtin .min => minA false (c.args.toList.map e)
    | _ => none
  | _ => none

/-! ### operations that lay a new block -/
noncomputable def ptrTo (i : Nat) : Value := .pointer (some ⟨i, 0, none⟩)
noncomputable def allocOp (P : Program) (op : Op) (e : Operand → Value) : Option (AObj × (Nat → Value)) :=
  match op with
  | .alloc t => match zeroT P t with
    | some z => some (.cells z.cells.toList false, ptrTo)
    | none => none
  | .box _ x => some (.cells (e x).cells.toList false, ptrTo)
  | .buildSlice t len ps => match P.underlying t with
    | some (.slice el) => match sizeT P el, zeroT P el with
      | some s, some z =>
        if len * s ≤ 16777216 ∧ z.cells.toList.length = s then
          match fillA (fun i => some (i * s, s)) (partsOf e ps) (repeatL z.cells.toList len) with
          | some cs => some (.cells cs false, fun i => .slice (some ⟨i, 0, none⟩) len len)
          | none => none
        else none
      | _, _ => none
    | _ => none
  | .makeSlice t l c => match P.underlying t with
    | some (.slice el) => match sizeT P el, zeroT P el, bytesT P el, natOf (e l), natOf (e c) with
      | some s, some z, some b, some l, some c =>
        if l ≤ c ∧ b * c ≤ 281474976710656 ∧ c ≤ 9223372036854775807 ∧ z.cells.toList.length = s then some (.cells (repeatL z.cells.toList c) false, fun i => .slice (some ⟨i, 0, none⟩) l c) else none
      | _, _, _, _, _ => none
    | _ => none
  | .makeMap _ none => some (.map [] 0, fun i => .map (some i))
  | .convert s d x =>
    match P.underlying s, P.underlying d, e x with
    | some _, some (.slice el), .string b => match P.underlying el with
      | some (.int .u8) => some (.cells (b.data.toList.map fun b => .int .u8 b.toNat) false, fun i => .slice (some ⟨i, 0, some 1⟩) b.data.toList.length b.data.toList.length)
      | _ => none
    | _, _, _ => none
  | _ => none

/-! ### operations that read memory -/
noncomputable def keyKind (P : Program) (t : TypeId) : Option TypeDesc :=
  match P.underlying t with
  | some (.int k) => some (.int k)
  | some .string => some .string
  | some .bool => some .bool
  | _ => none
noncomputable def sameKey (d : TypeDesc) (k u : Value) : Option Bool :=
  match d, k, u with
  | .int _, .int j a, .int j' b => if j = j' then some (decide (a = b)) else none
  | .string, .string a, .string b => some (decide (a.data.toList = b.data.toList))
  | .bool, .bool a, .bool b => some (a == b)
  | _, _, _ => none
/-- the place and the value of a key -/
noncomputable def findA (d : TypeDesc) (k : Value) : List MapEntry → Nat → Option (Option (Nat × Value))
  | [], _ => some none
  | x :: es, i => match sameKey d k x.key with
    | some true => some (some (i, x.val))
    | some false => findA d k es (i + 1)
    | none => none
noncomputable def isKeyOf (d : TypeDesc) (k : Value) : Bool :=
  match d, k with
  | .int _, .int _ _ => true
  | .string, .string _ => true
  | .bool, .bool _ => true
  | _, _ => false
/-- a map's key type, its element's type, its entries and its clock -/
noncomputable def mapA (P : Program) (t : TypeId) (m : Value) (H : AHeap) : Option (TypeDesc × TypeId × List MapEntry × Nat) :=
  match P.underlying t, m with
  | some (.map kt el), .map none => match keyKind P kt with
    | some d => some (d, el, [], 0)
    | none => none
  | some (.map kt el), .map (some r) => match keyKind P kt, H.get r with
    | some d, some (.map es clock) => some (d, el, es, clock)
    | _, _ => none
  | _, _ => none
noncomputable def bytesOf : List Value → Option (List UInt8)
  | [] => some []
  | .int .u8 (.ofNat n) :: r => match bytesOf r with
    | some l => some (UInt8.ofNat n :: l)
    | none => none
  | _ => none
noncomputable def loadA (P : Program) (t : TypeId) (x : Value) (H : AHeap) : Option Value :=
  match x with
  | .pointer (some ⟨b, o, none⟩) => match H.get b with
    | some (.cells c _) => partA P t c o
    | _ => none
  | _ => none
noncomputable def readOp (P : Program) (op : Op) (e : Operand → Value) (H : AHeap) : Option Value :=
  match op with
  | .load t x => loadA P t (e x) H
  | .lookup t m k ok => match mapA P t (e m) H with
    | some (d, el, es, _) => if isKeyOf d (e k) = true then
        match findA d (e k) es 0, zeroT P el with
        | some (some (_, v)), _ => some (bif ok then .tuple #[v, .bool true] else v)
        | some none, some z => some (bif ok then .tuple #[z, .bool false] else z)
        | _, _ => none
      else none
    | none => none
  | .convert s d x =>
    match P.underlying s, P.underlying d, e x with
    | some (.slice el), some .string, .slice none 0 0 => match P.underlying el with
      | some (.int .u8) => some (.string ⟨⟨[]⟩⟩)
      | _ => none
    | some (.slice el), some .string, .slice (some a) n c => match P.underlying el, H.get a.block with
      | some (.int .u8), some (.cells cs _) => if n ≤ c then
          match cut cs a.off n with
          | some l => match bytesOf l with
            | some l => some (.string ⟨⟨l⟩⟩)
            | none => none
          | none => none
        else none
      | _, _ => none
    | _, _, _ => none
  | .call c => match c.callee with
    | .builtin .len => match c.argTypes.toList, c.args.toList with
      | t :: _, x :: _ => match P.underlying t, e x with
        | some (.map _ _), .map none => some (.int .i64 0)
        | some (.map _ _), .map (some r) => match H.get r with
          | some (.map es _) => some (.int .i64 es.length)
          | _ => none
        | _, _ => none
      | _, _ => none
    | _ => none
  | _ => none

/-! ### operations that change memory -/
inductive Upd where
  | nop
  | put (i : Nat) (o : AObj)
  | new (o : AObj) (kill : Option Nat)
noncomputable def Upd.app : Upd → AHeap → AHeap
  | .nop, H => H
  | .put i o, H => H.put i (some o)
  | .new o none, H => H.new o
  | .new o (some j), H => (H.put j none).new o

/-- the cells that an append or a copy takes -/
noncomputable def srcA (s : Nat) (x : Value) (n : Nat) (H : AHeap) : Option (List Value) :=
  match x with
  | .string b => if n ≤ b.data.toList.length then some ((b.data.toList.take n).map fun b => .int .u8 b.toNat) else none
  | .slice none 0 0 => if n = 0 then some [] else none
  | .slice (some a) l c => if n ≤ l ∧ l ≤ c then
      (if n * s = 0 then some [] else match H.get a.block with
      | some (.cells cs _) => cut cs a.off (n * s)
      | _ => none)
    else none
  | _ => none
noncomputable def lenA : Value → Option Nat
  | .slice none 0 0 => some 0
  | .slice (some _) n _ => some n
  | .string s => some s.data.toList.length
  | _ => none
noncomputable def goI (n : Nat) : Value := .int .i64 n
noncomputable def modL {α : Type} (f : α → α) : List α → Nat → List α
  | [], _ => []
  | x :: r, 0 => f x :: r
  | x :: r, i + 1 => x :: modL f r i
noncomputable def delL {α : Type} : List α → Nat → List α
  | [], _ => []
  | _ :: r, 0 => r
  | x :: r, i + 1 => x :: delL r i

/-- what an append takes: of another slice or of a string; so many zeros -/
noncomputable def newA (P : Program) (sz by_ : Nat) (z : List Value) (tx : TypeId) (x : Value) (H : AHeap) : Option (Nat × List Value) :=
  match P.underlying tx with
  | some (.int _) => match natOf x with
    | some n => if n * by_ ≤ 281474976710656 ∧ n ≤ 9223372036854775807 then some (n, repeatL z n) else none
    | none => none
  | some _ => match lenA x with
    | some n => match srcA sz x n H with
      | some l => some (n, l)
      | none => none
    | none => none
  | none => none
noncomputable def appendA (P : Program) (t tx : TypeId) (s x : Value) (H : AHeap) : Option (Upd × (Nat → Value)) :=
  match P.underlying t with
  | some (.slice el) =>
    match sizeT P el, bytesT P el, zeroT P el with
    | some sz, some by_, some z =>
      match newA P sz by_ z.cells.toList tx x H with
      | none => none
      | some (n, new) =>
        if z.cells.toList.length = sz ∧ new.length = n * sz ∧ new.all one = true then
          match s with
          | .slice none 0 0 =>
            if n = 0 then some (.nop, fun _ => .slice none 0 0)
            else if (n + 1024) * (by_ + 1) * 4 ≤ 281474976710656 then some (.new (.cells new false) none, fun i => .slice (some ⟨i, 0, some sz⟩) n n) else none
          | .slice (some a) l c =>
            if l ≤ c then
              if l + n ≤ c then
                (if n * sz = 0 then some (.nop, fun _ => .slice (some a) (l + n) c)
                else match H.get a.block with
                  | some (.cells cs false) => if a.off + l * sz + n * sz ≤ cs.length then some (.put a.block (.cells (lay cs (a.off + l * sz) new) false), fun _ => .slice (some a) (l + n) c) else none
                  | _ => none)
              else if (l + n + 1024) * (by_ + 1) * 4 ≤ 281474976710656 then
                match (if l * sz = 0 then some [] else match H.get a.block with | some (.cells cs _) => cut cs a.off (l * sz) | _ => none) with
                | some old => match a.spot with
                  | none => some (.new (.cells (old ++ new) false) none, fun i => .slice (some ⟨i, 0, some sz⟩) (l + n) (l + n))
                  | some z => match H.get a.block with
                    | some (.cells _ false) => if z = sz then some (.new (.cells (old ++ new) false) (some a.block), fun i => .slice (some ⟨i, 0, some sz⟩) (l + n) (l + n)) else none
                    | _ => none
                | none => none
              else none
            else none
          | _ => none
        else none
    | _, _, _ => none
  | _ => none

noncomputable def copyA (P : Program) (t : TypeId) (d x : Value) (H : AHeap) : Option (Upd × (Nat → Value)) :=
  match P.underlying t with
  | some (.slice el) => match sizeT P el, lenA d, lenA x with
    | some sz, some m, some k =>
      match srcA sz x (min k m) H with
      | none => none
      | some new => match d with
        | .slice none 0 0 => some (.nop, fun _ => goI 0)
        | .slice (some a) l c => if l ≤ c ∧ new.length = min k m * sz ∧ new.all one = true then
            (if min k m * sz = 0 then some (.nop, fun _ => goI (min k m))
            else match H.get a.block with
              | some (.cells cs false) => if a.off + min k m * sz ≤ cs.length then some (.put a.block (.cells (lay cs a.off new) false), fun _ => goI (min k m)) else none
              | _ => none)
          else none
        | _ => none
    | _, _, _ => none
  | _ => none

noncomputable def effOp (P : Program) (op : Op) (e : Operand → Value) (H : AHeap) : Option (Upd × (Nat → Value)) :=
  match op with
  | .store t a v => match e a, sizeT P t with
    | .pointer (some ⟨b, o, none⟩), some n => if (e v).cells.toList.length = n ∧ (e v).cells.toList.all one = true then
        match H.get b with
        | some (.cells c false) => if o + n ≤ c.length then some (.put b (.cells (lay c o (e v).cells.toList) false), fun _ => undef) else none
        | _ => none
      else none
    | _, _ => none
  | .mapUpdate t m k v | .insert t m k v => match mapA P t (e m) H, e m with
    | some (d, _, es, clock), .map (some r) => if isKeyOf d (e k) = true then
        match findA d (e k) es 0 with
        | some (some (i, _)) => some (.put r (.map (modL (fun x => { x with key := e k, val := e v }) es i) clock), fun _ => undef)
        | some none => some (.put r (.map (es ++ [{ key := e k, val := e v, born := clock }]) (clock + 1)), fun _ => undef)
        | none => none
      else none
    | _, _ => none
  | .call c => match c.callee, c.argTypes.toList, c.args.toList with
    | .builtin .append, t :: tx :: _, s :: x :: _ => appendA P t tx (e s) (e x) H
    | .builtin .copy, t :: _, d :: x :: _ => copyA P t (e d) (e x) H
    | .builtin .delete, t :: _, m :: k :: _ => match mapA P t (e m) H, e m with
      | some (d, _, es, clock), .map (some r) => if isKeyOf d (e k) = true then
          match findA d (e k) es 0 with
          | some (some (i, _)) => some (.put r (.map (delL es i) clock), fun _ => .tuple #[])
          | some none => some (.put r (.map es clock), fun _ => .tuple #[])
          | none => none
        else none
      | some (d, _, _, _), .map none => if isKeyOf d (e k) = true then some (.nop, fun _ => .tuple #[]) else none
      | _, _ => none
    | .builtin .clear, t :: _, x :: _ => match P.underlying t, e x with
      | some _, .map none => some (.nop, fun _ => .tuple #[])
      | some _, .slice none _ _ => some (.nop, fun _ => .tuple #[])
      | some _, .slice (some _) 0 _ => some (.nop, fun _ => .tuple #[])
      | some _, .map (some r) => match H.get r with
        | some (.map _ clock) => some (.put r (.map [] clock), fun _ => .tuple #[])
        | _ => none
      | some (.slice el), .slice (some a) n c => match sizeT P el, zeroT P el, H.get a.block with
        | some s, some z, some (.cells cs false) =>
          if n ≤ c ∧ z.cells.toList.length = s ∧ a.off + n * s ≤ cs.length ∧ z.cells.toList.all one = true then some (.put a.block (.cells (lay cs a.off (repeatL z.cells.toList n)) false), fun _ => .tuple #[]) else none
        | _, _, _ => none
      | _, _ => none
    | _, _, _ => none
  | _ => none

/-! ### which operation is which -/
inductive Cls where
  | pur
  | alloc
  | read
  | eff
  deriving DecidableEq
noncomputable def cls (P : Program) (o : Op) : Cls :=
  match o with
  | .move _ | .assign _ | .pick .. | .nilCheck _ | .binOp .. | .unOp .. | .build .. | .makeInterface .. | .makeFunc .. | .slice .. | .fieldAddr .. | .field .. | .indexAddr .. | .index ..
  | .sliceToArrayPointer .. | .extract .. | .typeAssert .. => .pur
  | .alloc _ | .box .. | .buildSlice .. | .makeSlice .. | .makeMap .. => .alloc
  | .load .. | .lookup .. => .read
  | .convert s d _ => match P.underlying s, P.underlying d with
    | some (.slice _), _ => .read
    | _, some (.slice _) => .alloc
    | _, _ => .pur
  | .call c => match c.callee with
    | .builtin .len => match c.argTypes.toList with
      | t :: _ => match P.underlying t with
        | some (.map _ _) => .read
        | _ => .pur
      | _ => .pur
    | .builtin .cap | .builtin .max | .builtin .min => .pur
    | _ => .eff
  | _ => .eff

/-- what is called -/
inductive Tgt where
  | fn (f : FuncId)
  | yield (l : Nat)
noncomputable def callOp (P : Program) (op : Op) (e : Operand → Value) : Option (Tgt × List Value) :=
  match op with
  | .call c => match c.callee with
    | .value f => match e f with
      | .func (.func g) a b => some (.fn g, a.toList ++ c.args.toList.map e ++ b.toList)
      | .func (.yield l) a _ => some (.yield l, a.toList ++ c.args.toList.map e)
      | _ => none
    | .invoke r name => match e r with
      | .iface t v => match P.info? t, P.underlying t with
        | some i, some (.pointer _) => match i.methods.toList.find? (fun m => m.name == name) with
          | some m => match m.func with
            | some (g, true) => if m.path.toList.isEmpty = true then some (.fn g, v :: c.args.toList.map e) else none
            | _ => none
          | none => none
        | _, _ => none
      | _ => none
    | _ => none
  | _ => none

end Go.Ab
