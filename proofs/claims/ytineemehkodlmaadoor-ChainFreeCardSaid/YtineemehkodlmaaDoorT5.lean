/- Abstract values and contracts of calls of the program: a part of the logic in which the claim is proved; it states nothing of the program by itself. -/
import Derived.Test.YtineemehkodlmaaDoorT4
import Derived.Laws.BytesArg
set_option linter.all false
namespace Go.Mc

inductive Ix where
  | slice (e : TypeId) (sz : Nat)
  | array (n : Nat) (e : TypeId) (sz : Nat)
  | str
def ixk (P : Program) (t : TypeId) : Option Ix :=
  match P.underlying t with
  | some (.slice e) => (tsz P e).map (.slice e)
  | some (.array n e) => (tsz P e).map (.array n e)
  | some .string => some .str
  | _ => none
def intk (P : Program) (t : TypeId) : Option IntKind :=
  match P.underlying t with
  | some (.int k) => some k
  | _ => none

/-! the leaves of a plain value, for '==' -/
mutual
def AV.leaves : AV → List AV
  | .node _ as => AV.leavesL as
  | .arr _ as => AV.leavesL as
  | a => [a]
def AV.leavesL : List AV → List AV
  | [] => []
  | a :: as => AV.leaves a ++ AV.leavesL as
end

def iand (k : IntKind) (a b : Int) : Int := k.wrap (BitVec.ofInt k.bits a &&& BitVec.ofInt k.bits b).toNat
def ior (k : IntKind) (a b : Int) : Int := k.wrap (BitVec.ofInt k.bits a ||| BitVec.ofInt k.bits b).toNat
def ixor (k : IntKind) (a b : Int) : Int := k.wrap (BitVec.ofInt k.bits a ^^^ BitVec.ofInt k.bits b).toNat
def iandNot (k : IntKind) (a b : Int) : Int := k.wrap (BitVec.ofInt k.bits a &&& ~~~ BitVec.ofInt k.bits b).toNat
def inot (k : IntKind) (n : Int) : Int := k.wrap (BitVec.ofInt k.bits (if k.signed then -1 else k.max) ^^^ BitVec.ofInt k.bits n).toNat
def ishl (k : IntKind) (a b : Int) : Int := k.wrap (a * 2 ^ (min b.toNat k.bits))
def ishr (k : IntKind) (a b : Int) : Int := a.fdiv (2 ^ (min b.toNat k.bits))

def intBin (op : BinOp) (k : IntKind) (a b : Int) : Option (Prop × AV) :=
  match op with
  | .add => some (True, .v (.int k (k.wrap (a + b))))
  | .sub => some (True, .v (.int k (k.wrap (a - b))))
  | .mul => some (True, .v (.int k (k.wrap (a * b))))
  | .quo => some (b ≠ 0, .v (.int k (k.wrap (a.tdiv b))))
  | .rem => some (b ≠ 0, .v (.int k (a.tmod b)))
  | .and => some (True, .v (.int k (iand k a b)))
  | .or => some (True, .v (.int k (ior k a b)))
  | .xor => some (True, .v (.int k (ixor k a b)))
  | .andNot => some (True, .v (.int k (iandNot k a b)))
  | .eql => some (True, .v (.bool (a == b)))
  | .neq => some (True, .v (.bool (a != b)))
  | .lss => some (True, .v (.bool (decide (a < b))))
  | .leq => some (True, .v (.bool (decide (a ≤ b))))
  | .gtr => some (True, .v (.bool (decide (a > b))))
  | .geq => some (True, .v (.bool (decide (a ≥ b))))
  | _ => none
def intShift (op : BinOp) (k : IntKind) (a b : Int) : Option (Prop × AV) :=
  match op with
  | .shl => some (0 ≤ b, .v (.int k (ishl k a b)))
  | .shr => some (0 ≤ b, .v (.int k (ishr k a b)))
  | _ => none
def isShift : BinOp → Bool
  | .shl | .shr => true
  | _ => false
def strBin (op : BinOp) (a b : ByteArray) : Option (Prop × AV) :=
  match op with
  | .eql => some (True, .v (.bool (a.toList == b.toList)))
  | .neq => some (True, .v (.bool (!(a.toList == b.toList))))
  | .lss => some (True, .v (.bool (Op.bytesLess a.toList b.toList)))
  | .gtr => some (True, .v (.bool (!(Op.bytesLess a.toList b.toList || a.toList == b.toList))))
  | .add => some (a.size + b.size ≤ 9223372036854775807, .v (.string (a ++ b)))
  | _ => none

def binAV (op : BinOp) (x y : AV) : Option (Prop × AV) :=
  match x, y with
  | .v (.int k a), .v (.int k' b) => if isShift op then intShift op k a b else if k = k' then intBin op k a b else none
  | .v (.string a), .v (.string b) => strBin op a b
  | _, _ => none

theorem run_intBin {P : Program} {w : World} {op : BinOp} {k : IntKind} {a b : Int} {p : Prop} {r : AV} (h : intBin op k a b = some (p, r)) (hp : p) :
    ∃ v, r = .v v ∧ v.oneCell' = true ∧ ∀ t, (Go.binOp op t (.int k a) (.int k b)).run P w = .ok v w := by
  cases op <;> simp only [intBin, Option.some.injEq, Prod.mk.injEq, reduceCtorEq] at h <;> obtain ⟨rfl, rfl⟩ := h <;> refine ⟨_, rfl, rfl, fun t => ?_⟩ <;>
    simp [Go.binOp, Op.intArith, Op.intDiv, Op.intBits, Op.intCmp, iand, ior, ixor, iandNot, pure, hp]
theorem run_intShift {P : Program} {w : World} {op : BinOp} {k k' : IntKind} {a b : Int} {p : Prop} {r : AV} (h : intShift op k a b = some (p, r)) (hp : p) :
    ∃ v, r = .v v ∧ v.oneCell' = true ∧ ∀ t, (Go.binOp op t (.int k a) (.int k' b)).run P w = .ok v w := by
  cases op <;> simp only [intShift, Option.some.injEq, Prod.mk.injEq, reduceCtorEq] at h <;> obtain ⟨rfl, rfl⟩ := h <;> refine ⟨_, rfl, rfl, fun t => ?_⟩ <;>
    simp [Go.binOp, Op.shift, ishl, ishr, pure, Int.not_lt.2 hp]
theorem run_strBin {P : Program} {w : World} {op : BinOp} {a b : ByteArray} {p : Prop} {r : AV} (h : strBin op a b = some (p, r)) (hp : p) :
    ∃ v, r = .v v ∧ v.oneCell' = true ∧ ∀ t, (Go.binOp op t (.string a) (.string b)).run P w = .ok v w := by
  cases op <;> simp only [strBin, Option.some.injEq, Prod.mk.injEq, reduceCtorEq] at h <;> obtain ⟨rfl, rfl⟩ := h <;> refine ⟨_, rfl, rfl, fun t => ?_⟩ <;>
    simp [Go.binOp, Op.stringOp, pure]
  omega

section
variable (E : Prg)

def lopLoad (H : List Blk) (t : TypeId) : AV → Option (Prop × AV)
  | .ptr k p off => match H[k]? with
    | some (.obj c) => match sub p c 0 with
      | some (o, x) => some (o = off ∧ Fits E.P t x, x)
      | none => none
    | some (.froz c) => match sub p c 0 with
      | some (o, x) => some (o = off ∧ Fits E.P t x, x)
      | none => none
    | _ => none
  | .cptr x => some (Fits E.P t x, x)
  | _ => none

def lopFieldAddr (s : TypeId) (f : Nat) (x : AV) : Option (Prop × AV) :=
  match fld E.P s f with
  | some (_, o, sz) => match x with
    | .ptr k p off => some (sz ≠ 0, .ptr k (p ++ [f]) (off + o))
    | .cptr (.node ws as) => some (sz ≠ 0 ∧ (ws.take f).sum = o ∧ f < as.length, .cptr (as.getD f .undef))
    | _ => none
  | none => none

def lopField (s : TypeId) (f : Nat) (x : AV) : Option (Prop × AV) :=
  match fld E.P s f with
  | some (t, o, _) => match x with
    | .node ws as => some (Fits E.P t (as.getD f .undef) ∧ (ws.take f).sum = o ∧ f < as.length, as.getD f .undef)
    | _ => none
  | none => none

def lopIndexAddr (t : TypeId) (x i : AV) : Option (Prop × AV) :=
  match i with
  | .v (.int _ j) => match ixk E.P t with
    | some (.array n _ sz) => match x with
      | .ptr k p off => some (0 ≤ j ∧ j < n, .ptr k (p ++ [j.toNat]) (off + j.toNat * sz))
      | .cptr (.arr s as) => some (0 ≤ j ∧ j < n ∧ s = sz ∧ as.length = n, .cptr (as.getD j.toNat .undef))
      | _ => none
    | some (.slice _ sz) => match x with
      | .sl s as _ => some (0 ≤ j ∧ j < as.length ∧ s = sz, .cptr (as.getD j.toNat .undef))
      | .sla s as _ => some (0 ≤ j ∧ j < as.length ∧ s = sz, .cptr (as.getD j.toNat .undef))
      | .asl k p off s len => some (0 ≤ j ∧ j < len ∧ s = sz, .ptr k (p ++ [j.toNat]) (off + j.toNat * sz))
      | _ => none
    | _ => none
  | _ => none

def sbyte (s : ByteArray) (n : Nat) : Int := ((s.data.toList.getD n 0).toNat : Int)

def lopIndex (t : TypeId) (x i : AV) : Option (Prop × AV) :=
  match i with
  | .v (.int _ j) => match ixk E.P t with
    | some (.array n e _) => match x with
      | .arr s as => some (0 ≤ j ∧ j < n ∧ as.length = n ∧ tsz E.P e = some s ∧ Fits E.P e (as.getD j.toNat .undef), as.getD j.toNat .undef)
      | _ => none
    | some .str => match x with
      | .v (.string s) => some (0 ≤ j ∧ j < s.size, .v (.int .u8 (sbyte s j.toNat)))
      | _ => none
    | _ => none
  | _ => none

def lopUn (op : UnOp) (x : AV) : Option (Prop × AV) :=
  match op, x with
  | .not, .v (.bool b) => some (True, .v (.bool !b))
  | .neg, .v (.int k n) => some (True, .v (.int k (k.wrap (0 - n))))
  | .xor, .v (.int k n) => some (True, .v (.int k (inot k n)))
  | _, _ => none

/-- a byte -/
def u8 (b : UInt8) : AV := .v (.int .u8 b.toNat)
def numAV : AV → Int
  | .v (.int _ n) => n
  | _ => 0
def allB (as : List AV) : Prop := ∀ a ∈ as, a = .v (.int .u8 (numAV a))
def strAV (as : List AV) : ByteArray := strOfNums (as.map numAV)

def lopConvert (d : TypeId) (s : TypeId) (x : AV) : Option (Prop × AV) :=
  match x with
  | .v (.int _ n) => match intk E.P d with
    | some k => some (E.P.underlying s ≠ none, .v (.int k (k.wrap n)))
    | none => none
  | .v (.string b) => match ixk E.P d with
    | some .str => some (E.P.underlying s ≠ none, .v (.string b))
    | _ => none
  | .sl sz as _ => match ixk E.P s, ixk E.P d with
    | some (.slice e _), some .str => some (E.P.underlying e = some (.int .u8) ∧ sz = 1 ∧ allB as, .v (.string (strAV as)))
    | _, _ => none
  | .sla sz as _ => match ixk E.P s, ixk E.P d with
    | some (.slice e _), some .str => some (E.P.underlying e = some (.int .u8) ∧ sz = 1 ∧ allB as, .v (.string (strAV as)))
    | _, _ => none
  | _ => none

def lopPick (c a b : AV) : Option (Prop × AV) :=
  match c with
  | .v (.bool t) => some (True, if t then a else b)
  | _ => none

def lopNil (x : AV) : Option (Prop × AV) :=
  match x with
  | .ptr k p off => some (True, .ptr k p off)
  | .cptr a => some (True, .cptr a)
  | .clo f fs cs => some (True, .clo f fs cs)
  | _ => none

def lopExtract (x : AV) (i : Nat) : Option (Prop × AV) :=
  match x with
  | .tup as => some (i < as.length, as.getD i .undef)
  | _ => none

def lopLen (t : TypeId) (x : AV) : Option (Prop × AV) :=
  match ixk E.P t with
  | some (.slice _ _) => match x with
    | .sl _ as _ => some (True, .v (.int .i64 as.length))
    | .sla _ as _ => some (True, .v (.int .i64 as.length))
    | .asl _ _ _ _ len => some (True, .v (.int .i64 len))
    | _ => none
  | some (.array n _ _) => some (True, .v (.int .i64 n))
  | some .str => match x with
    | .v (.string s) => some (True, .v (.int .i64 s.size))
    | _ => none
  | _ => none

/-- a bound of a slice expression -/
def bnd (d : Nat) : Option AV → Option Int
  | none => some d
  | some (.v (.int _ j)) => some j
  | some _ => none

def lopSlice (H : List Blk) (t : TypeId) (x : AV) (lo hi mx : Option AV) : Option (Prop × AV) :=
  match ixk E.P t with
  | some (.slice _ sz) => match x with
    | .sl s as cl => match bnd 0 lo, bnd as.length hi, mx with
      | some l, some h, none => some (0 ≤ l ∧ l ≤ h ∧ h ≤ as.length ∧ s = sz, .sl sz ((as.take h.toNat).drop l.toNat) (cl && hi.isNone))
      | some l, some h, some (.v (.int _ m)) => some (0 ≤ l ∧ l ≤ h ∧ h ≤ m ∧ m ≤ as.length ∧ s = sz, .sl sz ((as.take h.toNat).drop l.toNat) (m == h))
      | _, _, _ => none
    | .sla s as _ => match bnd 0 lo, bnd as.length hi, mx with
      | some l, some h, none => some (0 ≤ l ∧ l ≤ h ∧ h ≤ as.length ∧ s = sz, .sl sz ((as.take h.toNat).drop l.toNat) false)
      | some l, some h, some (.v (.int _ m)) => some (0 ≤ l ∧ l ≤ h ∧ h ≤ m ∧ m ≤ as.length ∧ s = sz, .sl sz ((as.take h.toNat).drop l.toNat) (m == h))
      | _, _, _ => none
    | _ => none
  | some (.array n _ sz) => match x with
    | .ptr k p off => match H[k]? with
      | some (.froz c) => match sub p c 0 with
        | some (o, .arr s as) => match bnd 0 lo, bnd n hi, mx with
          | some l, some h, none => some (0 ≤ l ∧ l ≤ h ∧ h ≤ n ∧ s = sz ∧ as.length = n ∧ o = off, .sl sz ((as.take h.toNat).drop l.toNat) hi.isNone)
          | _, _, _ => none
        | _ => none
      | some (.obj _) => match lo, hi, mx with
        | none, none, none => some (True, .asl k p off sz n)
        | _, _, _ => none
      | _ => none
    | .cptr (.arr s as) => match bnd 0 lo, bnd n hi, mx with
      | some l, some h, none => some (0 ≤ l ∧ l ≤ h ∧ h ≤ n ∧ s = sz ∧ as.length = n, .sl sz ((as.take h.toNat).drop l.toNat) hi.isNone)
      | _, _, _ => none
    | _ => none
  | some .str => match x with
    | .v (.string s) => match bnd 0 lo, bnd s.size hi, mx with
      | some l, some h, none => some (0 ≤ l ∧ l ≤ h ∧ h ≤ s.size, .v (.string (s.extract l.toNat h.toNat)))
      | _, _, _ => none
    | _ => none
  | none => none

/-- parts of an aggregate, one after the other -/
def fillN (ws : List Nat) (as : List AV) : List (Nat × AV) → Option (Prop × List AV)
  | [] => some (True, as)
  | (i, a) :: r => match fillN ws (as.set i a) r with
    | some (p, bs) => some ((i < as.length ∧ a.stor = true ∧ a.wd = ws.getD i 0) ∧ p, bs)
    | none => none
def fillU (sz : Nat) (as : List AV) : List (Nat × AV) → Option (Prop × List AV)
  | [] => some (True, as)
  | (i, a) :: r => match fillU sz (as.set i a) r with
    | some (p, bs) => some ((i < as.length ∧ a.stor = true ∧ a.wd = sz) ∧ p, bs)
    | none => none
/-- an aggregate out of its zero and some parts -/
def lopBuild (t : TypeId) (parts : List (Nat × AV)) : Option (Prop × AV) :=
  match E.zv t with
  | some (.node ws as) => match fillN ws as parts with
    | some (p, bs) => some (p, .node ws bs)
    | none => none
  | some (.arr sz as) => match fillU sz as parts with
    | some (p, bs) => some (p, .arr sz bs)
    | none => none
  | _ => none

def lopMinMax (mx : Bool) (x y : AV) : Option (Prop × AV) :=
  match x, y with
  | .v (.int k a), .v (.int _ b) => some (True, .v (.int k (if mx then (if b > a then b else a) else (if b < a then b else a))))
  | _, _ => none
end
end Go.Mc
