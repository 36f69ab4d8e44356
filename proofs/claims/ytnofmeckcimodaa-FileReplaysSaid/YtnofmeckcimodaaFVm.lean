/- A symbolic machine for the model's code, and what it shows of this seat's functions. No conditions. -/
import Derived.Calls
import Derived.KernelRfl
set_option linter.unusedVariables false
set_option linter.unusedSimpArgs false
namespace Go.BB
open Go

inductive Ty where
 | int (k : IntKind) | bool | str | unit
 | pair (a b : Ty)
 | slice (t : Ty)
 deriving DecidableEq

def Ty.den : Ty → Type
 | .int _ => Int | .bool => Bool | .str => ByteArray | .unit => Unit
 | .pair a b => a.den × b.den
 | .slice t => List t.den

def Ty.sz : Ty → Nat
 | .int _ | .bool | .str | .slice _ => 1
 | .unit => 0
 | .pair a b => Nat.add a.sz b.sz

def Ty.zero : (t : Ty) → t.den
 | .int _ => (0 : Int) | .bool => false | .str => ByteArray.empty | .unit => ()
 | .pair a b => (a.zero, b.zero)
 | .slice _ => []

def Ty.flat : Ty → Bool
 | .pair a b => match a.flat with | true => b.flat | false => false
 | .slice _ => false
 | _ => true
inductive MapK where
 | map (k v : Ty) | mapS (k t : Ty)
 | deep (a b e c : Ty)
 deriving DecidableEq
abbrev dT (a b e c : Ty) : Ty := .pair a (.pair b (.pair (.slice e) c))
def MapK.den : MapK → Type
 | .map k v => List (k.den × v.den)
 | .mapS k t => List (k.den × List t.den)
 | .deep a b e c => List (dT a b e c).den
def MapK.flat : MapK → Bool
 | .map k v => match k.flat with | true => v.flat | false => false
 | .mapS k t => match k.flat with | true => t.flat | false => false
 | .deep _ _ _ _ => false
def MapK.isDeep : MapK → Bool | .deep _ _ _ _ => true | _ => false
structure ObjK where
 u : Unit := ()
abbrev ObjK.K (_ : ObjK) : Type := MapK
abbrev ObjK.den (_ : ObjK) (k : MapK) : Type := k.den
def ObjK.deq (_ : ObjK) : DecidableEq MapK := inferInstance

def Ty.isAgg : Ty → Bool
 | .pair _ _ => true
 | .unit => true
 | _ => false
inductive Sh where
 | val (t : Ty) | fn (g : Nat) | nil | own (t : Ty) | sub (t : Ty) | map (k : MapK)
 | rop (t : Ty)
 | arrp (n : Nat) (t : Ty)
 | ptr (b : Sh)
 | unit | cons (a b : Sh)
def Sh.den : Sh → Type
 | .val t => t.den | .fn _ => Unit | .nil => Unit | .own t => List t.den | .sub t => List t.den × Nat | .map k => k.den | .rop t => t.den | .arrp _ t => List t.den
 | .ptr b => b.den | .unit => Unit | .cons a b => a.den × b.den
def Sh.sz : Sh → Nat
 | .val t => t.sz | .unit => 0 | .cons a b => Nat.add a.sz b.sz | _ => 1
def Sh.wid : Sh → Nat
 | .own _ => 1 | .sub _ => 1 | .map _ => 1 | .arrp _ _ => 1 | .ptr b => Nat.add b.wid 1 | .cons a b => Nat.add a.wid b.wid | _ => 0
def Sh.isAgg : Sh → Bool
 | .val t => t.isAgg | .unit => true | .cons _ _ => true | _ => false
def Sh.flat : Sh → Bool
 | .val t => t.flat | .own t => t.flat | .sub t => t.flat | .map k => k.flat | .arrp _ t => t.flat | .ptr b => b.flat
 | .cons a b => match a.flat with | true => b.flat | false => false
 | .rop _ => false
 | _ => true
def widP (pin : Option Nat) (sh : Sh) : Nat :=
 match pin with
 | none => sh.wid
 | some _ => match sh with | .sub _ => 0 | .map _ => 0 | .ptr b => b.wid | sh => sh.wid
inductive C where
 | sc (v : Value)
 | ro (t : Ty) (xs : List t.den)
 | own (i : Nat)
 | sub (i lo n : Nat)
 | ptr (i off : Nat)
 | rptr (i idx off : Nat)
 | rop (t : Ty) (x : t.den) (off : Nat)
 | obj (i : Nat)
 | gi (h : Nat)
 | arr (i n : Nat)
 | it (j : Nat)
 | mayb (e : Bool)
 | dptr (i sz idx off : Nat)

inductive T where
 | one (c : C)
 | ag (cs : List C)
inductive S where
 | t (x : T)
 | tup (xs : List T)

inductive Blk (O : ObjK) where
 | row (t : Ty) (xs : List t.den)
 | fro (t : Ty) (xs : List t.den)
 | box (cs : List C)
 | obj (k : O.K) (x : O.den k)
 | hol (kt t : Ty) (es : List (kt.den × List t.den)) (n : Option Nat) (j h : Nat)
 | rng (k : O.K) (x : O.den k) (h : Nat)
 | rngH (kt t : Ty) (es : List (kt.den × List t.den)) (n : Nat) (h : Nat)
 | hoD (a b e c : Ty) (xs : List (dT a b e c).den) (n j : Nat)
 | itr (i h : Nat)
 | dead

structure St (O : ObjK) where
 sl : List (Nat × S)
 bk : List (Nat × Blk O)

def br {α : Type} (b : Bool) (x y : α) : α := cond b x y
def bd {α β : Type} (o : Option α) (f : α → Option β) : Option β := o.bind f
noncomputable def agree {α : Type} (x y : Option α) : Option α := @ite _ (x = y) (Classical.propDecidable _) x none
noncomputable def mayB {α : Type} (e : Bool) (x y : Option α) : Option α := match e with | true => agree x y | false => y
def cat {α : Type} (xs ys : List α) : List α := xs ++ ys
def maxI (a b : Int) : Int := if b > a then b else a
def minI (a b : Int) : Int := if b < a then b else a
def splice {α : Type} (zs ys : List α) (lo n : Nat) : List α := zs.take lo ++ ys.take n ++ zs.drop (lo + Nat.min ys.length n)
def look {α : Type} : List (Nat × α) → Nat → Option α
 | [], _ => none
 | (j, x) :: ps, i => match Nat.beq j i with | true => some x | false => look ps i
def capp {α : Type} : List α → List α → List α
 | [], ys => ys
 | x :: xs, ys => x :: capp xs ys
def ctake {α : Type} : Nat → List α → List α
 | 0, _ => []
 | _ + 1, [] => []
 | n + 1, x :: xs => x :: ctake n xs
def cdrop {α : Type} : Nat → List α → List α
 | 0, xs => xs
 | _ + 1, [] => []
 | n + 1, _ :: xs => cdrop n xs
def clen {α : Type} : List α → Nat
 | [] => 0
 | _ :: xs => Nat.add (clen xs) 1
def forceL {α A : Type} : List α → (List α → A) → A
 | [], k => k []
 | x :: xs, k => forceL xs fun ys => k (x :: ys)
def forceM {α : Type} {A : Type 1} : List α → (List α → A) → A
 | [], k => k []
 | x :: xs, k => forceM xs fun ys => k (x :: ys)
def forceN {A : Type} (n : Nat) (k : Nat → A) : A := match n with | 0 => k 0 | m + 1 => k (Nat.succ m)
def memN (i : Nat) : List Nat → Bool
 | [] => false
 | x :: xs => match Nat.beq x i with | true => true | false => memN i xs

def cellsOf : (t : Ty) → t.den → List C
 | .int k, n => [.sc (.int k n)]
 | .bool, b => [.sc (.bool b)]
 | .str, s => [.sc (.string s)]
 | .unit, _ => []
 | .pair a b, x => capp (cellsOf a x.1) (cellsOf b x.2)
 | .slice t, xs => [.ro t xs]

def tOf (t : Ty) (x : t.den) : T :=
 match t, x with
 | .pair a b, x => .ag (cellsOf (.pair a b) x)
 | .unit, _ => .ag []
 | .int k, x => .one (.sc (.int k x))
 | .bool, x => .one (.sc (.bool x))
 | .str, x => .one (.sc (.string x))
 | .slice t, x => .one (.ro t x)

def T.cells : T → List C
 | .one c => [c]
 | .ag cs => cs

structure Wr (O : ObjK) where
 sl : List (Nat × S) := []
 bk : List (Nat × Blk O) := []

inductive RM (O : ObjK) : Type 1 where
 | wr (w : Wr O)
 | call {α : Type} (o : Option α) (f : α → Wr O)
 | fail
 | rslot (t : Nat) (k : Option S → RM O)
 | rblk (i : Nat) (k : Option (Blk O) → RM O)
 | guard (b : Bool) (k : RM O)

def RM.ev {O : ObjK} {R : Type} (σ : St O) : RM O → (Wr O → Option R) → Option R
 | .wr w, k => k w
 | .call o f, k => bd o fun a => k (f a)
 | .fail, _ => none
 | .rslot t f, k => (f (look σ.sl t)).ev σ k
 | .rblk i f, k => (f (look σ.bk i)).ev σ k
 | .guard b m, k => br b (m.ev σ k) none

inductive Loc where
 | slot (t : Nat) | blk (i : Nat)
 deriving DecidableEq

inductive Sub where
 | other
 | slice (e : Nat)
 | map (k e : Nat)
 | ptr (e : Nat)
 | struct (fs : List (Nat × Nat))
 | arr (n e : Nat)

structure TI where
 ty : Option Ty
 agg : Bool
 size : Nat
 bytes : Nat
 zero : List Value
 eq : Bool
 key : Bool
 sub : Sub

inductive PK (O : ObjK) where
 | val (t : Ty) | fn (g : Nat) | row (t : Ty) | obj (k : O.K) | box (b : Sh) | rop (t : Ty)
def PK.den {O : ObjK} : PK O → Type
 | .val t => t.den | .fn _ => Unit | .row t => List t.den × Nat | .obj k => O.den k | .box b => b.den | .rop t => t.den
def PK.upd {O : ObjK} : PK O → Type
 | .val _ => Unit | .fn _ => Unit | .row t => List t.den | .obj k => O.den k | .box b => b.den | .rop _ => Unit
def PK.sh {O : ObjK} : PK O → Sh
 | .val t => .val t | .fn g => .fn g | .row t => .sub t | .obj k => .map k | .box b => .ptr b | .rop t => .rop t
def dens {O : ObjK} : List (PK O) → Type
 | [] => Unit
 | p :: ps => p.den × dens ps
def upds {O : ObjK} : List (PK O) → Type
 | [] => Unit
 | p :: ps => p.upd × upds ps
inductive RK (O : ObjK) where
 | val (t : Ty) | own (t : Ty) | sub (t : Ty) | obj (k : O.K) | box (b : Sh)
def RK.den {O : ObjK} : RK O → Type
 | .val t => t.den | .own t => List t.den | .sub t => List t.den × Nat | .obj k => O.den k | .box b => b.den
def RK.sh {O : ObjK} : RK O → Sh
 | .val t => .val t | .own t => .own t | .sub t => .sub t | .obj k => .map k | .box b => .ptr b
def RK.wid {O : ObjK} : RK O → Nat
 | .box b => Nat.add b.wid 1 | _ => 1
def rdens {O : ObjK} : List (RK O) → Type
 | [] => Unit
 | p :: ps => p.den × rdens ps
def RK.flat {O : ObjK} : RK O → Bool
 | .val t => t.flat
 | .own t => t.flat
 | .sub t => t.flat
 | .obj k => MapK.flat k
 | .box b => b.flat
def flats {O : ObjK} : List (RK O) → Bool
 | [] => true
 | r :: rs => match r.flat with | true => flats rs | false => false
def flatR {O : ObjK} : List (PK O) → Bool
 | [] => true
 | .row t :: ps => match t.flat with | true => flatR ps | false => false
 | .obj k :: ps => match MapK.flat k with | true => flatR ps | false => false
 | .box b :: ps => match b.flat with | true => flatR ps | false => false
 | _ :: ps => flatR ps

def T.isAg : T → Bool
 | .one _ => false
 | .ag _ => true
def beqB : Bool → Bool → Bool | true, b => b | false, true => false | false, false => true
structure Ctr (O : ObjK) where
 ins : List (PK O)
 outs : List (RK O)
 F : dens ins → Option (rdens outs × upds ins)

structure Cfg (O : ObjK) where
 N : Nat
 tt : List (Nat × TI)
 Γ : List (Nat × Ctr O)
 dp : List Nat := []
 fu : List (Nat × Nat) := []

section ops
variable {O : ObjK}
def wordOf (g : Nat) : Value := match g with | 0 => .slice none 0 0 | _ + 1 => .func (.func g) #[] #[]
def unpackSh (nb : Nat) : (sh : Sh) → sh.den → List C × List (Nat × Blk O)
 | .val t, x => (cellsOf t x, [])
 | .fn g, _ => ([.sc (wordOf g)], [])
 | .rop t, x => ([.rop t x 0], [])
 | .nil, _ => ([.sc (.slice none 0 0)], [])
 | .own t, x => ([.own nb], [(nb, .row t x)])
 | .sub t, x => ([.sub nb 0 x.2], [(nb, .row t x.1)])
 | .map k, x => ([.obj nb], [(nb, .obj k x)])
 | .arrp n t, x => ([.arr nb n], [(nb, .row t x)])
 | .ptr b, x => let r := unpackSh (Nat.add nb 1) b x; ([.ptr nb 0], (nb, .box r.1) :: r.2)
 | .unit, _ => ([], [])
 | .cons a b, x => let r := unpackSh nb a x.1; let s := unpackSh (Nat.add nb a.wid) b x.2; (capp r.1 s.1, capp r.2 s.2)

def constT : Value → T
 | .agg cs => .ag (cs.toList.map .sc)
 | v => .one (.sc v)
def evS (x : Operand) (k : S → RM O) : RM O :=
 match x with
 | .tmp t => .rslot t fun s => match s with | some s => k s | none => .fail
 | .const v => k (.t (constT v))
 | .func f => k (.t (.one (.sc (.func (.func f) #[] #[]))))
 | .global _ => .fail
def evT (x : Operand) (k : T → RM O) : RM O := evS x fun s => match s with | .t x => k x | _ => .fail
def evC (x : Operand) (k : C → RM O) : RM O := evT x fun s => match s with | .one c => k c | _ => .fail
def evV (x : Operand) (k : Value → RM O) : RM O := evC x fun s => match s with | .sc c => k c | _ => .fail
def evI (x : Operand) (k : Int → RM O) : RM O := evV x fun s => match s with | .int _ n => k n | _ => .fail

def castV (t : Ty) (s : (t : Ty) × t.den) : Option t.den := if h : s.1 = t then some (h ▸ s.2) else none
def castL (t : Ty) (s : (t : Ty) × List t.den) : Option (List t.den) := if h : s.1 = t then some (h ▸ s.2) else none
def rowAny (b : Option (Blk O)) : Option ((t : Ty) × List t.den) :=
 match b with | some (.row t xs) => some ⟨t, xs⟩ | some (.fro t xs) => some ⟨t, xs⟩ | _ => none
def rowAs (t : Ty) (b : Option (Blk O)) : Option (List t.den) :=
 match b with | some (.row t' xs) => castL t ⟨t', xs⟩ | some (.fro t' xs) => castL t ⟨t', xs⟩ | _ => none
def rowW (t : Ty) (b : Option (Blk O)) : Option (List t.den) :=
 match b with | some (.row t' xs) => castL t ⟨t', xs⟩ | _ => none
def fresh (nb : Nat) (k : RM O) : RM O := match Nat.ble 64 nb with
 | true => .rblk nb fun b => match b with | none => k | some _ => .fail
 | false => .fail
def freshes (nb : Nat) : Nat → RM O → RM O
 | 0, k => k
 | n + 1, k => fresh nb (freshes (Nat.add nb 1) n k)

def fzOk : List (Nat × Blk O) → Bool
 | [] => true
 | (i, .fro _ _) :: fz => match Nat.ble 64 i with | true => fzOk fz | false => false
 | _ :: _ => false
def ofCells : (t : Ty) → List C → (t.den → List (Nat × Blk O) → RM O) → RM O
 | .int kd, cs, k => match cs with | [.sc (.int k' n)] => if kd = k' then k n [] else .fail | _ => .fail
 | .bool, cs, k => match cs with | [.sc (.bool b)] => k b [] | _ => .fail
 | .str, cs, k => match cs with | [.sc (.string b)] => k b [] | _ => .fail
 | .unit, cs, k => match cs with | [] => k () [] | _ => .fail
 | .pair a b, cs, k => ofCells a (ctake a.sz cs) fun x f => ofCells b (cdrop a.sz cs) fun y g => k (x, y) (capp f g)
 | .slice t, cs, k =>
  match cs with
  | [.ro t' xs] => match castL t ⟨t', xs⟩ with | some xs => k xs [] | none => .fail
  | [.own i] => .rblk i fun b => match rowAs t b with | some xs => k xs [(i, .fro t xs)] | none => .fail
  | [.sub i lo n] => .rblk i fun b => match rowAs t b with | some xs => k ((xs.drop lo).take n) [(i, .fro t xs)] | none => .fail
  | [.sc (.slice none 0 0)] => k [] []
  | _ => .fail
def sliceOf (t : Ty) (c : C) (k : List t.den → RM O) : RM O := ofCells (.slice t) [c] fun xs _ => k xs
def lenOf (c : C) (k : Nat → RM O) : RM O :=
 match c with
 | .ro _ xs => k xs.length
 | .own i => .rblk i fun b => match rowAny b with | some s => k s.2.length | none => .fail
 | .sub i _ n => .rblk i fun b => match rowAny b with | some _ => k n | none => .fail
 | .sc (.slice none 0 0) => k 0
 | _ => .fail

def setCells : (t : Ty) → t.den → Nat → (t' : Ty) → t'.den → Option t.den
 | t, x, off, t', y =>
  if h : off = 0 ∧ t' = t then some (h.2 ▸ y) else
  match t, x with
  | .pair a b, x =>
   if off < a.sz then (setCells a x.1 off t' y).map fun z => (z, x.2)
   else (setCells b x.2 (Nat.sub off a.sz) t' y).map fun z => (x.1, z)
  | _, _ => none
def canSet : (t : Ty) → Nat → Ty → Bool
 | t, off, t' => if off = 0 ∧ t' = t then true else
  match t with
  | .pair a b => if off < a.sz then canSet a off t' else canSet b (Nat.sub off a.sz) t'
  | _ => false
def putD (t : Ty) (x : t.den) (off : Nat) (t' : Ty) (y : t'.den) : t.den := match setCells t x off t' y with | some z => z | none => x
def setC (t : Ty) (x : t.den) (off : Nat) (t' : Ty) (y : t'.den) : Option t.den := match Nat.ble 8 t.sz with
 | true => (match canSet t off t' with | true => some (putD t x off t' y) | false => none)
 | false => setCells t x off t' y
def T.ofList (agg : Bool) (cs : List C) : Option T :=
 match agg with | true => some (.ag cs) | false => match cs with | [c] => some (.one c) | _ => none
def part (agg : Bool) (off size : Nat) (cs : List C) (k : T → RM O) : RM O :=
 match Nat.ble (Nat.add off size) (clen cs) with
 | true => forceM (ctake size (cdrop off cs)) fun cs => match T.ofList agg cs with | some t => k t | none => .fail
 | false => .fail
def putAt (off : Nat) (new cs : List C) : List C := capp (ctake off cs) (capp new (cdrop (Nat.add off (clen new)) cs))
def okC : C → Bool
 | .sc (.agg _) => false
 | .sc (.tuple _) => false
 | _ => true
def okCs : List C → Bool
 | [] => true
 | c :: cs => match okC c with | true => okCs cs | false => false

def putS (dst : Option Tmp) (s : S) : List (Nat × S) := match dst with | some d => [(d, s)] | none => []
def undefS : S := .t (.one (.sc undef))
def ret1 (dst : Option Tmp) (t : T) : RM O := .wr { sl := putS dst (.t t) }
def retV (dst : Option Tmp) (v : Value) : RM O := ret1 dst (.one (.sc v))

def binI (op : BinOp) (k : IntKind) (a b : Int) : Bool × Value :=
 match op with
 | .add => (true, .int k (k.wrap (a + b)))
 | .sub => (true, .int k (k.wrap (a - b)))
 | .mul => (true, .int k (k.wrap (a * b)))
 | .quo => (!decide (b = 0), .int k (k.wrap (a.tdiv b)))
 | .rem => (!decide (b = 0), .int k (a.tmod b))
 | .and => (true, .int k (k.wrap ((BitVec.ofInt k.bits a &&& BitVec.ofInt k.bits b).toNat)))
 | .or => (true, .int k (k.wrap ((BitVec.ofInt k.bits a ||| BitVec.ofInt k.bits b).toNat)))
 | .xor => (true, .int k (k.wrap ((BitVec.ofInt k.bits a ^^^ BitVec.ofInt k.bits b).toNat)))
 | .andNot => (true, .int k (k.wrap ((BitVec.ofInt k.bits a &&& ~~~ BitVec.ofInt k.bits b).toNat)))
 | .eql => (true, .bool (a == b))
 | .neq => (true, .bool (a != b))
 | .lss => (true, .bool (decide (a < b)))
 | .leq => (true, .bool (decide (a ≤ b)))
 | .gtr => (true, .bool (decide (a > b)))
 | .geq => (true, .bool (decide (a ≥ b)))
 | .shl => (decide (0 ≤ b), .int k (k.wrap (a * 2 ^ (min b.toNat k.bits))))
 | .shr => (decide (0 ≤ b), .int k (a.fdiv (2 ^ (min b.toNat k.bits))))
def isShift : BinOp → Bool | .shl | .shr => true | _ => false
def binV (op : BinOp) (x y : Value) : Option (Bool × Value) :=
 match x, y with
 | .int k a, .int k' b => match isShift op with
  | true => some (binI op k a b)
  | false => if k = k' then some (binI op k a b) else none
 | .bool a, .bool b => match op with
  | .eql => some (true, .bool (a == b)) | .neq => some (true, .bool (!(a == b))) | _ => none
 | .string a, .string b => match op with
  | .eql => some (true, .bool (a.toList == b.toList)) | .neq => some (true, .bool (!(a.toList == b.toList)))
  | .add => some (decide (((a.size + b.size : Nat) : Int) ≤ 9223372036854775807), .string (a ++ b)) | _ => none
 | _, _ => none
def eqTy : (t : Ty) → List C → List C → Option Bool
 | .int k, xs, ys => match xs, ys with
  | [.sc (.int k1 a)], [.sc (.int k2 b)] => if k1 = k then (if k2 = k then some (a == b) else none) else none
  | _, _ => none
 | .bool, xs, ys => match xs, ys with | [.sc (.bool a)], [.sc (.bool b)] => some (a == b) | _, _ => none
 | .str, xs, ys => match xs, ys with | [.sc (.string a)], [.sc (.string b)] => some (a.toList == b.toList) | _, _ => none
 | .pair a b, xs, ys => match eqTy a (ctake a.sz xs) (ctake a.sz ys) with
  | some r => (match eqTy b (cdrop a.sz xs) (cdrop a.sz ys) with | some s => some (r && s) | none => none)
  | none => none
 | .unit, xs, ys => match xs, ys with | [], [] => some true | _, _ => none
 | .slice _, _, _ => none
def unV (op : UnOp) (x : Value) : Option Value :=
 match op, x with
 | .not, .bool b => some (.bool (!b))
 | .neg, .int k n => some (.int k (k.wrap (0 - n)))
 | _, _ => none
def bytesOf (xs : List Int) : ByteArray := xs.foldl (fun s n => s.push (UInt8.ofNat n.toNat)) ByteArray.empty

def eqI (a b : Int) : Bool := a == b
def eqO (a b : Bool) : Bool := a == b
def eqS (a b : ByteArray) : Bool := a.toList == b.toList
def eqD : (t : Ty) → t.den → t.den → Bool
 | .int _, a, b => eqI a b
 | .bool, a, b => eqO a b
 | .str, a, b => eqS a b
 | .unit, _, _ => true
 | .pair a b, x, y => eqD a x.1 y.1 && eqD b x.2 y.2
 | .slice _, _, _ => false
def mget {K V : Type} (eq : K → K → Bool) : List (K × V) → K → Option V
 | [], _ => none
 | p :: m, k => match eq p.1 k with | true => some p.2 | false => mget eq m k
def mset {K V : Type} (eq : K → K → Bool) : List (K × V) → K → V → List (K × V)
 | [], k, v => [(k, v)]
 | p :: m, k, v => match eq p.1 k with | true => (p.1, v) :: m | false => p :: mset eq m k v
def mdel {K V : Type} (eq : K → K → Bool) : List (K × V) → K → List (K × V)
 | [], _ => []
 | p :: m, k => match eq p.1 k with | true => m | false => p :: mdel eq m k
def mgetD {K V : Type} (eq : K → K → Bool) (m : List (K × V)) (k : K) (z : V) : V := match mget eq m k with | some v => v | none => z
def mhas {K V : Type} (eq : K → K → Bool) (m : List (K × V)) (k : K) : Bool := match mget eq m k with | some _ => true | none => false
def midx {K V : Type} (eq : K → K → Bool) : List (K × V) → K → Option Nat
 | [], _ => none
 | p :: m, k => match eq p.1 k with | true => some 0 | false => (midx eq m k).map (· + 1)
def mput {K V : Type} (m : List (K × V)) (n : Option Nat) (v : V) : List (K × V) := match n with
 | none => m
 | some k => match m[k]? with | some p => m.set k (p.1, v) | none => m
def mval {K V : Type} (m : List (K × List V)) (n : Option Nat) : List V := match n with
 | none => []
 | some k => match m[k]? with | some p => p.2 | none => []
def ment {K V : Type} (eq : K → K → Bool) (m : List (K × List V)) (k : K) : List (K × List V) := match midx eq m k with
 | some _ => m
 | none => m ++ [(k, [])]
def isSm (n : Option Nat) : Bool := match n with | some _ => true | none => false
def castS (kt t : Ty) (s : (k : MapK) × k.den) : Option (List (kt.den × List t.den)) := if h : s.1 = .mapS kt t then some (show (MapK.mapS kt t).den from h ▸ s.2) else none
def mlen : (k : MapK) → k.den → Nat
 | .map _ _, m => List.length m
 | .mapS _ _, m => List.length m
 | .deep _ _ _ _, m => List.length m
def castD (a b e c : Ty) (s : (k : MapK) × k.den) : Option (List (dT a b e c).den) := if h : s.1 = .deep a b e c then some (show (MapK.deep a b e c).den from h ▸ s.2) else none
def dwith {a b e c : Ty} (x : (dT a b e c).den) (ys : List e.den) : (dT a b e c).den := (x.1, x.2.1, ys, x.2.2.2)
def dput {a b e c : Ty} (xs : List (dT a b e c).den) (n : Nat) (ys : List e.den) : List (dT a b e c).den := match xs[n]? with
 | some x => xs.set n (dwith x ys) | none => xs
def dsl {a b e c : Ty} (x : (dT a b e c).den) : List e.den := x.2.2.1
def dget {a b e c : Ty} (xs : List (dT a b e c).den) (n : Nat) : List e.den := match xs[n]? with
 | some x => dsl x | none => []
def castM (kt vt : Ty) (s : (k : MapK) × k.den) : Option (List (kt.den × vt.den)) := if h : s.1 = .map kt vt then some (show (MapK.map kt vt).den from h ▸ s.2) else none

def getTI (cfg : Cfg O) (t : Nat) (k : TI → RM O) : RM O := match look cfg.tt t with | some i => k i | none => .fail
def elemTI (cfg : Cfg O) (t : Nat) (k : Ty → TI → RM O) : RM O :=
 getTI cfg t fun ti => match ti.sub with
  | .slice e => getTI cfg e fun ei => match ei.ty with
   | some ty => match Nat.blt 0 ty.sz with | true => k ty ei | false => .fail
   | none => .fail
  | _ => .fail
def mapTI (cfg : Cfg O) (t : Nat) (k : Ty → Ty → RM O) : RM O :=
 getTI cfg t fun ti => match ti.sub with
  | .map kt et => getTI cfg kt fun ki => match ki.key with
   | true => match ki.ty with
    | some kty => getTI cfg et fun ei => match ei.ty with
     | some ety => k kty ety
     | none => .fail
    | none => .fail
   | false => .fail
  | _ => .fail
def fieldTI (cfg : Cfg O) (t f : Nat) (k : Nat → TI → RM O) : RM O :=
 getTI cfg t fun ti => match ti.sub with
  | .struct fs => match fs[f]? with
   | some p => getTI cfg p.1 fun fi => k p.2 fi
   | none => .fail
  | _ => .fail

def arrTI (cfg : Cfg O) (t : Nat) (k : Nat → Ty → TI → RM O) : RM O := getTI cfg t fun ti => match ti.sub with
 | .arr n e => getTI cfg e fun ei => match ei.ty with
  | some ty => match Nat.blt 0 ty.sz with
   | true => (match Nat.ble n 16777216 with | true => k n ty ei | false => .fail)
   | false => .fail
  | none => .fail
 | _ => .fail
def arrParts (ty : Ty) : Nat → List C → (List ty.den → List (Nat × Blk O) → RM O) → RM O
 | 0, cs, k => match cs with | [] => k [] [] | _ => .fail
 | n + 1, cs, k => ofCells ty (ctake ty.sz cs) fun a f => arrParts ty n (cdrop ty.sz cs) fun as g => k (a :: as) (capp f g)
def cellsN (ty : Ty) (xs : List ty.den) (k : Nat) : Nat → List C
 | 0 => []
 | n + 1 => capp (cellsOf ty (xs.getD k ty.zero)) (cellsN ty xs (Nat.add k 1) n)
def opIndex (cfg : Cfg O) (dst : Option Tmp) (t : Nat) (x ix : Operand) : RM O := arrTI cfg t fun n ty _ => evT x fun v => match v with
 | .ag cs => evI ix fun i => arrParts ty n cs fun xs fz => match fz with
  | [] => .guard (decide (0 ≤ i)) (.guard (decide (i < (n : Int))) (ret1 dst (tOf ty (xs.getD i.toNat ty.zero))))
  | _ => .fail
 | _ => .fail
def newArr (cfg : Cfg O) (nb : Nat) (dst : Option Tmp) (t : Nat) (cs : List C) : RM O := arrTI cfg t fun n ty _ => arrParts ty n cs fun xs fz => match fz with
 | [] => fresh nb (.wr { sl := putS dst (.t (.one (.arr nb n))), bk := [(nb, .row ty xs)] })
 | _ => .fail
def isArr : Sub → Bool | .arr _ _ => true | _ => false
def offBy (lo : Nat) : Option Nat → Nat
 | none => lo
 | some l => match lo with | 0 => l | _ => lo + l
def opPick (dst : Option Tmp) (c a b : Operand) : RM O := evV c fun v => match v with
 | .bool v => match v with
  | true => evS a fun s => .wr { sl := putS dst s }
  | false => evS b fun s => .wr { sl := putS dst s }
 | _ => .fail
def opNilEq (cfg : Cfg O) (dst : Option Tmp) (op : BinOp) (t : Nat) (c : C) : RM O :=
 match op with
 | .eql => getTI cfg t fun ti => match ti.sub with
  | .slice _ => match c with
   | .ro _ xs => ret1 dst (.one (.mayb xs.isEmpty))
   | _ => .fail
  | _ => .fail
 | _ => .fail
def opNilP (cfg : Cfg O) (dst : Option Tmp) (op : BinOp) (t : Nat) (c : C) : RM O := getTI cfg t fun ti => match ti.sub with
 | .ptr _ => match c with
  | .ptr i _ => .rblk i fun b => match b with
   | some (.box _) => match op with | .eql => retV dst (.bool false) | .neq => retV dst (.bool true) | _ => .fail
   | _ => .fail
  | .rop _ _ _ => match op with | .eql => retV dst (.bool false) | .neq => retV dst (.bool true) | _ => .fail
  | _ => .fail
 | _ => .fail
def opBin (cfg : Cfg O) (dst : Option Tmp) (op : BinOp) (t : Nat) (x y : Operand) : RM O :=
 evT x fun x => evT y fun y => match x, y with
  | .one (.sc x), .one (.sc y) => match binV op x y with
   | some r => match x with
    | .bool _ => getTI cfg t fun ti => match ti.ty with
     | some .bool => .guard r.1 (retV dst r.2)
     | _ => .fail
    | _ => .guard r.1 (retV dst r.2)
   | none => .fail
  | .ag xs, .ag ys => getTI cfg t fun ti => match ti.eq with
   | true => match ti.ty with
    | some ty => match op, eqTy ty xs ys with
     | .eql, some b => retV dst (.bool b) | .neq, some b => retV dst (.bool (!b)) | _, _ => .fail
    | none => .fail
   | false => .fail
  | .one c, .one (.sc (.slice none 0 0)) => opNilEq cfg dst op t c
  | .one c, .one (.sc (.pointer none)) => opNilP cfg dst op t c
  | _, _ => .fail
def opUn (dst : Option Tmp) (op : UnOp) (x : Operand) : RM O :=
 evV x fun x => match unV op x with | some v => retV dst v | none => .fail
def opConv (cfg : Cfg O) (dst : Option Tmp) (src to : Nat) (x : Operand) : RM O := evC x fun c => getTI cfg src fun _ => getTI cfg to fun di =>
 match di.ty with
 | some (.int k) => match c with | .sc (.int _ n) => retV dst (.int k (k.wrap n)) | _ => .fail
 | some .str => match c with
  | .sc (.string s) => retV dst (.string s)
  | _ => elemTI cfg src fun ty _ => match ty with
   | .int .u8 => sliceOf (.int .u8) c fun xs => retV dst (.string (bytesOf xs))
   | _ => .fail
 | _ => .fail
def opBox (nb : Nat) (dst : Option Tmp) (x : Operand) : RM O :=
 evT x fun t => match okCs t.cells with
  | true => forceM t.cells fun cs => fresh nb (.wr { sl := putS dst (.t (.one (.ptr nb 0))), bk := [(nb, .box cs)] })
  | false => .fail
def opAlloc (cfg : Cfg O) (nb : Nat) (dst : Option Tmp) (e : Nat) : RM O :=
 getTI cfg e fun ti => forceM (ti.zero.map .sc) fun cs => fresh nb (.wr { sl := putS dst (.t (.one (.ptr nb 0))), bk := [(nb, .box cs)] })
def opLoad (cfg : Cfg O) (dst : Option Tmp) (t : Nat) (a : Operand) : RM O := getTI cfg t fun ti => evC a fun c => match c with
 | .ptr i off => .rblk i fun b => match b with
  | some (.box cs) => part ti.agg off ti.size cs (ret1 dst)
  | _ => .fail
 | .rptr i idx off => .rblk i fun b => match rowAny b with
  | some s => part ti.agg off ti.size (cellsOf s.1 (s.2.getD idx s.1.zero)) (ret1 dst)
  | none => .fail
 | .rop t x off => part ti.agg off ti.size (cellsOf t x) (ret1 dst)
 | _ => .fail
def opStore (cfg : Cfg O) (dst : Option Tmp) (t : Nat) (a x : Operand) : RM O := getTI cfg t fun ti => evC a fun c => evT x fun v =>
 match c with
 | .ptr i off => .rblk i fun b => match b with
  | some (.box cs) => match Nat.beq (clen v.cells) ti.size with
   | true => match Nat.ble (Nat.add off ti.size) (clen cs) with
    | true => match okCs v.cells with
     | true => forceM (putAt off v.cells cs) fun cs => .wr { sl := putS dst undefS, bk := [(i, .box cs)] }
     | false => .fail
    | false => .fail
   | false => .fail
  | _ => .fail
 | .rptr i idx off => match ti.ty with
  | some ty => ofCells ty v.cells fun y fz => .rblk i fun b => match b with
   | some (.row t' xs) => match setC t' (xs.getD idx t'.zero) off ty y with
    | some z => match memN i (fz.map (·.1)) with
     | true => .fail
     | false => match fzOk fz with
      | true => .wr { sl := putS dst undefS, bk := (i, .row t' (xs.set idx z)) :: fz }
      | false => .fail
    | none => .fail
   | _ => .fail
  | none => .fail
 | _ => .fail
def opFieldAddr (cfg : Cfg O) (dst : Option Tmp) (s : Nat) (a : Operand) (f : Nat) : RM O := fieldTI cfg s f fun off fi =>
 match Nat.beq fi.size 0 with
 | true => .fail
 | false => evC a fun c => match c with
  | .ptr i o' => .rblk i fun b => match b with | some (.box _) => ret1 dst (.one (.ptr i (Nat.add o' off))) | _ => .fail
  | .rptr i idx o' => .rblk i fun b => match rowAny b with | some _ => ret1 dst (.one (.rptr i idx (Nat.add o' off))) | none => .fail
  | .rop t x o' => ret1 dst (.one (.rop t x (Nat.add o' off)))
  | _ => .fail
def opField (cfg : Cfg O) (dst : Option Tmp) (s : Nat) (x : Operand) (f : Nat) : RM O := fieldTI cfg s f fun off fi =>
 evT x fun v => match v with
  | .ag cs => part fi.agg off fi.size cs (ret1 dst)
  | _ => .fail
def opIndexArr (cfg : Cfg O) (dst : Option Tmp) (t : Nat) (x ix : Operand) : RM O := arrTI cfg t fun n ty _ => evC x fun c => evI ix fun i => match c with
 | .arr b m => match Nat.beq n m with
  | true => .rblk b fun bl => match rowAs ty bl with
   | some _ => .guard (decide (0 ≤ i)) (.guard (decide (i < (n : Int))) (ret1 dst (.one (.rptr b i.toNat 0))))
   | none => .fail
  | false => .fail
 | _ => .fail
def opIndexAddr (cfg : Cfg O) (dst : Option Tmp) (t : Nat) (x ix : Operand) : RM O := elemTI cfg t fun ety _ => evC x fun c => evI ix fun i => match c with
 | .ro ty xs => match decEq ty ety with
  | .isTrue _ => .guard (decide (0 ≤ i)) (.guard (decide (i < (xs.length : Int))) (ret1 dst (.one (.rop ty (xs.getD i.toNat ty.zero) 0))))
  | .isFalse _ => .fail
 | .own b => .rblk b fun bl => match rowAs ety bl with
  | some xs => .guard (decide (0 ≤ i)) (.guard (decide (i < (xs.length : Int))) (ret1 dst (.one (.rptr b i.toNat 0))))
  | none => .fail
 | .sub b lo n => .rblk b fun bl => match rowAs ety bl with
  | some _ => .guard (decide (0 ≤ i)) (.guard (decide (i < (n : Int))) (ret1 dst (.one (.rptr b (offBy lo (some i.toNat)) 0))))
  | none => .fail
 | _ => .fail
def opExtract (dst : Option Tmp) (x : Operand) (n : Nat) : RM O := evS x fun s => match s with
 | .tup ts => match ts[n]? with | some t => ret1 dst t | none => .fail
 | _ => .fail
def LIM : Nat := 140737488355328
def opMakeSlice (cfg : Cfg O) (nb : Nat) (dst : Option Tmp) (t : Nat) (l c : Operand) : RM O :=
 evI l fun l => evI c fun c => elemTI cfg t fun ty ei =>
  .guard (decide (0 ≤ l)) (.guard (decide (l ≤ c)) (.guard (decide (c.toNat * ei.bytes ≤ LIM)) (.guard (decide (c.toNat ≤ LIM))
   (fresh nb (.wr { sl := putS dst (.t (.one (.own nb))), bk := [(nb, .row ty (List.replicate l.toNat ty.zero))] })))))
def litParts (ty : Ty) : List (Nat × Operand) → Nat → (List ty.den → List (Nat × Blk O) → RM O) → RM O
 | [], _, k => k [] []
 | p :: ps, j, k => match Nat.beq p.1 j with
  | true => evT p.2 fun v => ofCells ty v.cells fun a f => litParts ty ps (Nat.add j 1) fun as g => k (a :: as) (capp f g)
  | false => .fail
def opBuildSlice (cfg : Cfg O) (nb : Nat) (dst : Option Tmp) (t n : Nat) (parts : Array (Nat × Operand)) : RM O := elemTI cfg t fun ty _ =>
 match Nat.beq n (clen parts.toList) with
 | true => match Nat.ble (Nat.mul n ty.sz) 16777216 with
  | true => litParts ty parts.toList 0 fun xs fz => match fzOk fz with
   | true => fresh nb (.wr { sl := putS dst (.t (.one (.own nb))), bk := (nb, .row ty xs) :: fz })
   | false => .fail
  | false => .fail
 | false => .fail
def fillParts (cfg : Cfg O) (s : Nat) : List (Nat × Operand) → List C → (List C → RM O) → RM O
 | [], cs, k => k cs
 | p :: ps, cs, k => fieldTI cfg s p.1 fun off fi => evT p.2 fun v =>
  match Nat.beq (clen v.cells) fi.size with
  | true => match Nat.ble (Nat.add off fi.size) (clen cs) with
   | true => match okCs v.cells with
    | true => forceM (putAt off v.cells cs) fun cs => fillParts cfg s ps cs k
    | false => .fail
   | false => .fail
  | false => .fail
def fillArr (size : Nat) : List (Nat × Operand) → List C → (List C → RM O) → RM O
 | [], cs, k => k cs
 | p :: ps, cs, k => evT p.2 fun v =>
  match Nat.beq (clen v.cells) size with
  | true => match Nat.ble (Nat.add (Nat.mul p.1 size) size) (clen cs) with
   | true => match okCs v.cells with
    | true => forceM (putAt (Nat.mul p.1 size) v.cells cs) fun cs => fillArr size ps cs k
    | false => .fail
   | false => .fail
  | false => .fail
def opBuild (cfg : Cfg O) (dst : Option Tmp) (s : Nat) (parts : Array (Nat × Operand)) : RM O := getTI cfg s fun ti => match ti.sub with
 | .struct _ => forceM (ti.zero.map .sc) fun cs => fillParts cfg s parts.toList cs fun cs => ret1 dst (.ag cs)
 | _ => .fail
def bound (b : Option Operand) (k : Option Int → RM O) : RM O := match b with | some x => evI x fun n => k (some n) | none => k none
def cutLH (lo hi : Option Int) (n m : Nat) (k : Option Nat → Nat → RM O) : RM O :=
 match lo, hi with
 | none, none => k none n
 | none, some h => .guard (decide (0 ≤ h)) (.guard (decide (h ≤ (m : Int))) (k none h.toNat))
 | some l, none => .guard (decide (0 ≤ l)) (.guard (decide (l ≤ (n : Int))) (k (some l.toNat) (n - l.toNat)))
 | some l, some h => .guard (decide (0 ≤ l)) (.guard (decide (l ≤ h)) (.guard (decide (h ≤ (m : Int))) (k (some l.toNat) (h.toNat - l.toNat))))
def cutL {α : Type} (xs : List α) (l : Option Nat) (n : Nat) : List α := match l with | none => xs.take n | some l => (xs.drop l).take n
def opSliceArr (cfg : Cfg O) (dst : Option Tmp) (t : Nat) (x : Operand) (lo hi : Option Operand) : RM O := arrTI cfg t fun n ty _ => evC x fun c => bound lo fun lo => bound hi fun hi => match c with
 | .arr b m => match Nat.beq n m with
  | true => .rblk b fun bl => match rowAs ty bl with
   | some _ => cutLH lo hi n n fun l k => ret1 dst (.one (.sub b (offBy 0 l) k))
   | none => .fail
  | false => .fail
 | _ => .fail
def opSlice (cfg : Cfg O) (dst : Option Tmp) (t : Nat) (x : Operand) (lo hi : Option Operand) : RM O := elemTI cfg t fun ety _ => evC x fun c => bound lo fun lo => bound hi fun hi => match c with
 | .ro ty xs => match decEq ty ety with
  | .isTrue _ => cutLH lo hi xs.length xs.length fun l n =>
    ret1 dst (.one (.ro ty (cutL xs l n)))
  | .isFalse _ => .fail
 | .own b => .rblk b fun bl => match rowAs ety bl with
  | some xs => cutLH lo hi xs.length xs.length fun l n => ret1 dst (.one (.sub b (offBy 0 l) n))
  | none => .fail
 | .sub b lo' n => .rblk b fun bl => match rowAs ety bl with
  | some xs => cutLH lo hi n (xs.length - lo') fun l n => ret1 dst (.one (.sub b (offBy lo' l) n))
  | none => .fail
 | .sc (.slice none 0 0) => cutLH lo hi 0 0 fun _ _ => ret1 dst (.one (.sc (.slice none 0 0)))
 | _ => .fail
def opNil (dst : Option Tmp) (x : Operand) : RM O := evC x fun c => match c with
 | .ptr i off => .rblk i fun b => match b with | some (.box _) => ret1 dst (.one (.ptr i off)) | _ => .fail
 | .rptr i idx off => .rblk i fun b => match rowAny b with | some _ => ret1 dst (.one (.rptr i idx off)) | none => .fail
 | .rop t x off => ret1 dst (.one (.rop t x off))
 | _ => .fail
def opBoxA (cfg : Cfg O) (nb : Nat) (dst : Option Tmp) (t : Nat) (x : Operand) : RM O := match look cfg.tt t with
 | some ti => match isArr ti.sub with
  | true => evT x fun v => match v with | .ag cs => newArr cfg nb dst t cs | _ => .fail
  | false => opBox nb dst x
 | none => opBox nb dst x
def opAllocA (cfg : Cfg O) (nb : Nat) (dst : Option Tmp) (e : Nat) : RM O := getTI cfg e fun ti => match isArr ti.sub with
 | true => newArr cfg nb dst e (ti.zero.map .sc)
 | false => opAlloc cfg nb dst e
def opLoadA (cfg : Cfg O) (dst : Option Tmp) (t : Nat) (a : Operand) : RM O := evC a fun c => match c with
 | .arr i n => arrTI cfg t fun n' ty ei => match Nat.beq n' n with
  | true => .rblk i fun b => match rowAs ty b with
   | some xs => getTI cfg t fun ti => match Nat.beq (Nat.mul n ei.size) ti.size with
    | true => forceM (cellsN ty xs 0 n) fun cs => ret1 dst (.ag cs)
    | false => .fail
   | none => .fail
  | false => .fail
 | _ => opLoad cfg dst t a
def opStoreA (cfg : Cfg O) (dst : Option Tmp) (t : Nat) (a x : Operand) : RM O := evC a fun c => match c with
 | .arr i n => evT x fun v => arrTI cfg t fun n' ty ei => match Nat.beq n' n with
  | true => match v with
   | .ag cs => arrParts ty n cs fun xs fz => match fz with
    | [] => .rblk i fun b => match rowW ty b with
     | some _ => getTI cfg t fun ti => match Nat.beq (Nat.mul n ei.size) ti.size with
      | true => .wr { sl := putS dst undefS, bk := [(i, .row ty xs)] }
      | false => .fail
     | none => .fail
    | _ => .fail
   | _ => .fail
  | false => .fail
 | _ => opStore cfg dst t a x
def opIndexAddrA (cfg : Cfg O) (dst : Option Tmp) (t : Nat) (x ix : Operand) : RM O := getTI cfg t fun ti => match isArr ti.sub with
 | true => opIndexArr cfg dst t x ix
 | false => opIndexAddr cfg dst t x ix
def opBuildA (cfg : Cfg O) (dst : Option Tmp) (s : Nat) (parts : Array (Nat × Operand)) : RM O := getTI cfg s fun ti => match ti.sub with
 | .arr _ e => getTI cfg e fun ei => forceM (ti.zero.map .sc) fun cs => fillArr ei.size parts.toList cs fun cs => ret1 dst (.ag cs)
 | _ => opBuild cfg dst s parts
def opSliceA (cfg : Cfg O) (dst : Option Tmp) (t : Nat) (x : Operand) (lo hi : Option Operand) : RM O := getTI cfg t fun ti => match isArr ti.sub with
 | true => opSliceArr cfg dst t x lo hi
 | false => opSlice cfg dst t x lo hi
def opNilA (dst : Option Tmp) (x : Operand) : RM O := evC x fun c => match c with
 | .arr i n => .rblk i fun b => match rowAny b with | some _ => ret1 dst (.one (.arr i n)) | none => .fail
 | _ => opNil dst x

def fnOf : Value → Option Nat
 | .func (.func g) a b => match a.toList, b.toList with | [], [] => some g | _, _ => none
 | _ => none
def codeOf (v : Value) : Option Nat := match v with
 | .slice none 0 0 => some 0
 | v => match fnOf v with | some (g + 1) => some (g + 1) | _ => none
def packRM : (sh : Sh) → List C → (sh.den → List (Nat × Blk O) → List Nat → RM O) → RM O
 | .val t, cs, k => ofCells t cs fun x fz => k x fz []
 | .fn g, cs, k => match cs with
  | [.sc v] => (match codeOf v with | some g' => (match Nat.beq g g' with | true => k () [] [] | false => .fail) | none => .fail)
  | _ => .fail
 | .rop t, cs, k => match cs with
  | [.rop t' x off] => (match off with
   | 0 => (match castV t ⟨t', x⟩ with | some x => k x [] [] | none => .fail)
   | _ + 1 => .fail)
  | [.ptr i off] => (match off with
   | 0 => .rblk i fun bl => match bl with
    | some (.box cs) => ofCells t cs fun x fz => k x ((i, .box cs) :: fz) []
    | _ => .fail
   | _ + 1 => .fail)
  | _ => .fail
 | .nil, cs, k => match cs with | [.sc (.slice none 0 0)] => k () [] [] | _ => .fail
 | .own t, cs, k => match cs with
  | [.own i] => .rblk i fun b => match rowW t b with | some xs => k xs [] [i] | none => .fail
  | [.sc (.slice none 0 0)] => (match Nat.blt 0 t.sz with | true => k [] [] [] | false => .fail)
  | _ => .fail
 | .sub t, cs, k => match cs with
  | [.sub i lo n] => (match lo with
   | 0 => .rblk i fun b => match rowW t b with | some xs => k (xs, n) [] [i] | none => .fail
   | _ + 1 => .fail)
  | [.own i] => .rblk i fun b => match rowW t b with | some xs => k (xs, xs.length) [] [i] | none => .fail
  | _ => .fail
 | .map kk, cs, k => match cs with
  | [.obj i] => .rblk i fun b => match b with
   | some (.obj k' y) => (match O.deq k' kk with | .isTrue h => k (h ▸ y) [] [i] | .isFalse _ => .fail)
   | _ => .fail
  | _ => .fail
 | .ptr b, cs, k => match cs with
  | [.ptr i off] => (match off with
   | 0 => .rblk i fun bl => match bl with
    | some (.box cs) => packRM b cs fun x fz ids => k x fz (i :: ids)
    | _ => .fail
   | _ + 1 => .fail)
  | _ => .fail
 | .arrp _ _, _, _ => .fail
 | .unit, cs, k => match cs with | [] => k () [] [] | _ => .fail
 | .cons a b, cs, k => packRM a (ctake a.sz cs) fun x fz ids => packRM b (cdrop a.sz cs) fun y fz' ids' => k (x, y) (capp fz fz') (capp ids ids')
def ofCellsD (t : Ty) (cs : List C) (k : t.den → List (Nat × Blk O) → RM O) : RM O := match t, k with
 | .slice u, k => match cs with
  | [.obj i] => .rblk i fun bl => match bl with
   | some (.obj (.deep a b e c) y) => match castL u ⟨dT a b e c, y⟩ with
    | some xs => k xs [(i, .obj (.deep a b e c) y)]
    | none => .fail
   | some (.hoD a b e c xs n j) => .rblk j fun bj => match rowW e bj with
    | some ys => match castL u ⟨dT a b e c, dput xs n ys⟩ with
     | some zs => k zs [(i, .hoD a b e c xs n j), (j, .row e ys)]
     | none => .fail
    | none => .fail
   | _ => .fail
  | cs => ofCells (.slice u) cs k
 | t, k => ofCells t cs k
def gather : (ps : List (PK O)) → List Operand → (dens ps → List Nat → List Nat → List (Nat × Blk O) → RM O) → RM O
 | [], [], k => k () [] [] []
 | .val t :: ps, x :: xs, k => evT x fun v => match beqB (T.isAg v) t.isAgg with
  | true => ofCellsD t v.cells fun a f => gather ps xs fun as ids is g => k (a, as) ids is (capp f g)
  | false => .fail
 | .fn g :: ps, x :: xs, k => evV x fun v => match codeOf v with
  | some g' => (match Nat.beq g g' with | true => gather ps xs fun as ids is f => k ((), as) ids is f | false => .fail)
  | none => .fail
 | .rop t :: ps, x :: xs, k => evC x fun c => packRM (.rop t) [c] fun y fz ids => gather ps xs fun as ids' is f => k (y, as) (capp ids ids') is (capp fz f)
 | .row t :: ps, x :: xs, k => evC x fun c => packRM (.sub t) [c] fun y fz ids => gather ps xs fun as ids' is f => k (y, as) (capp ids ids') is (capp fz f)
 | .obj kk :: ps, x :: xs, k => evC x fun c => packRM (.map kk) [c] fun y fz ids => gather ps xs fun as ids' is f => k (y, as) (capp ids ids') is (capp fz f)
 | .box b :: ps, x :: xs, k => evC x fun c => match c with
  | .ptr i off => (match off with
   | 0 => .rblk i fun bl => match bl with
    | some (.box cs) => packRM b cs fun y fz is => gather ps xs fun as ids is' f => k (y, as) (i :: ids) (capp is is') (capp fz f)
    | _ => .fail
   | _ + 1 => .fail)
  | _ => .fail
 | _, _, _ => .fail
def updN : List (PK O) → Nat
 | [] => 0
 | .box b :: ps => Nat.add b.wid (updN ps)
 | _ :: ps => updN ps
def updW (nb : Nat) : (ps : List (PK O)) → upds ps → List Nat → List (Nat × Blk O)
 | [], _, _ => []
 | .val _ :: ps, u, ids => updW nb ps u.2 ids
 | .fn _ :: ps, u, ids => updW nb ps u.2 ids
 | .rop _ :: ps, u, ids => updW nb ps u.2 ids
 | .row t :: ps, u, ids => match ids with
  | i :: ids => (i, .row t u.1) :: updW nb ps u.2 ids
  | [] => []
 | .obj k :: ps, u, ids => match ids with
  | i :: ids => (i, .obj k u.1) :: updW nb ps u.2 ids
  | [] => []
 | .box b :: ps, u, ids => match ids with
  | i :: ids => let r := unpackSh nb b u.1; (i, .box r.1) :: capp r.2 (updW (Nat.add nb b.wid) ps u.2 ids)
  | [] => []
def resN : List (RK O) → Nat
 | [] => 0
 | r :: rs => Nat.add r.wid (resN rs)
def resW (nb : Nat) : (rs : List (RK O)) → rdens rs → List T × List (Nat × Blk O)
 | [], _ => ([], [])
 | .val t :: rs, x => let r := resW (Nat.add nb 1) rs x.2; (tOf t x.1 :: r.1, r.2)
 | .own t :: rs, x => let r := resW (Nat.add nb 1) rs x.2; (.one (.own nb) :: r.1, (nb, .row t x.1) :: r.2)
 | .sub t :: rs, x => let r := resW (Nat.add nb 1) rs x.2; (.one (.sub nb 0 x.1.2) :: r.1, (nb, .row t x.1.1) :: r.2)
 | .obj k :: rs, x => let r := resW (Nat.add nb 1) rs x.2; (.one (.obj nb) :: r.1, (nb, .obj k x.1) :: r.2)
 | .box b :: rs, x => let s := unpackSh (Nat.add nb 1) b x.1; let r := resW (Nat.add nb (Nat.add b.wid 1)) rs x.2; (.one (.ptr nb 0) :: r.1, (nb, .box s.1) :: capp s.2 r.2)
def deads : List Nat → List (Nat × Blk O)
 | [] => []
 | i :: is => (i, .dead) :: deads is
def resS : List T → S
 | [t] => .t t
 | ts => .tup ts
def nodupN : List Nat → Bool
 | [] => true
 | x :: xs => match memN x xs with | true => false | false => nodupN xs
def disjN : List Nat → List Nat → Bool
 | [], _ => true
 | x :: xs, ys => match memN x ys with | true => false | false => disjN xs ys
def bothFlat (rs : List (RK O)) (ps : List (PK O)) : Bool := match flats rs with | true => flatR ps | false => false
def callF (cfg : Cfg O) (nb : Nat) (dst : Option Tmp) (g : Nat) (args : List Operand) : RM O :=
 match look cfg.Γ g with
 | none => .fail
 | some c => gather c.ins args fun as ids is fz =>
  match nodupN (capp ids is) with
  | true => match disjN (fz.map (·.1)) (capp ids is) with
   | true => match bothFlat c.outs c.ins with
    | true => freshes nb (Nat.add (resN c.outs) (updN c.ins)) (.call (c.F as) fun r =>
     { sl := putS dst (resS (resW nb c.outs r.1).1), bk := capp (resW nb c.outs r.1).2 (capp (updW (Nat.add nb (resN c.outs)) c.ins r.2 ids) (deads is)) })
    | false => match fzOk fz with
     | true => freshes nb (Nat.add (resN c.outs) (updN c.ins)) (.call (c.F as) fun r =>
      { sl := putS dst (resS (resW nb c.outs r.1).1), bk := capp (resW nb c.outs r.1).2 (capp (updW (Nat.add nb (resN c.outs)) c.ins r.2 ids) (capp (deads is) fz)) })
     | false => .fail
   | false => .fail
  | false => .fail

def opMakeMap (cfg : Cfg O) (nb : Nat) (dst : Option Tmp) (t : Nat) (r : Option Operand) : RM O := bound r fun _ => mapTI cfg t fun kt vt => match vt with
 | .slice u => match Nat.blt 0 u.sz with
  | true => fresh nb (.wr { sl := putS dst (.t (.one (.obj nb))), bk := [(nb, .obj (.mapS kt u) [])] })
  | false => .fail
 | vt => fresh nb (.wr { sl := putS dst (.t (.one (.obj nb))), bk := [(nb, .obj (.map kt vt) [])] })
def mapAt (cfg : Cfg O) (t : Nat) (m x : Operand) (k : Nat → (kt vt : Ty) → List (kt.den × vt.den) → kt.den → RM O) (k2 : Nat → (kt u : Ty) → List (kt.den × List u.den) → kt.den → RM O) : RM O := evC m fun c => match c with
 | .obj i => mapTI cfg t fun kt vt => evT x fun xv => match beqB (T.isAg xv) kt.isAgg with
  | true => ofCells kt xv.cells fun key _ => .rblk i fun b => match b with
   | some (.obj kk y) => match castM kt vt ⟨kk, y⟩ with
    | some es => k i kt vt es key
    | none => match vt with
     | .slice u => match castS kt u ⟨kk, y⟩ with
      | some es => k2 i kt u es key
      | none => .fail
     | _ => .fail
   | _ => .fail
  | false => .fail
 | _ => .fail
def opLookup (cfg : Cfg O) (nb : Nat) (dst : Option Tmp) (t : Nat) (m x : Operand) (ok : Bool) : RM O := mapAt cfg t m x (fun _ kt vt es key => match ok with
 | true => .wr { sl := putS dst (.tup [tOf vt (mgetD (eqD kt) es key vt.zero), .one (.sc (.bool (mhas (eqD kt) es key)))]) }
 | false => ret1 dst (tOf vt (mgetD (eqD kt) es key vt.zero))) fun i kt u es key => match ok with
  | true => .fail
  | false => fresh nb (fresh (Nat.add nb 1) (.wr { sl := putS dst (.t (.one (.own nb))), bk := [(nb, .row u (mval es (midx (eqD kt) es key))), (Nat.add nb 1, .dead), (i, .hol kt u es (midx (eqD kt) es key) nb (Nat.add nb 1))] }))
def opMapEntry (cfg : Cfg O) (nb : Nat) (dst : Option Tmp) (t : Nat) (m x : Operand) : RM O := mapAt cfg t m x (fun _ _ _ _ _ => .fail) fun i kt u es key =>
 fresh nb (fresh (Nat.add nb 1) (.wr { sl := putS dst (.tup [.one (.own nb), .one (.gi (Nat.add nb 1))]), bk := [(nb, .row u (mval (ment (eqD kt) es key) (midx (eqD kt) (ment (eqD kt) es key) key))), (Nat.add nb 1, .dead),
  (i, .hol kt u (ment (eqD kt) es key) (midx (eqD kt) (ment (eqD kt) es key) key) nb (Nat.add nb 1))] }))
def opEntryStore (dst : Option Tmp) (m s x : Operand) : RM O := evC m fun c => match c with
 | .obj i => evC s fun c => match c with
  | .gi h => evC x fun c => match c with
   | .own j' => .rblk i fun b => match b with
    | some (.hol kt u es n _ hs) => match Nat.beq h hs with
     | true => .rblk j' fun bl => match rowW u bl with
      | some xs => match Nat.ble 64 j' with
       | true => .guard (isSm n) (.wr { sl := putS dst undefS, bk := [(i, .obj (.mapS kt u) (mput es n xs)), (j', .dead)] })
       | false => .fail
      | none => .fail
     | false => .fail
    | _ => .fail
   | _ => .fail
  | _ => .fail
 | _ => .fail
def isIx (a : Option Nat) (n : Nat) : Bool := match a with | some k => Nat.beq k n | none => false
def opMapUpR (cfg : Cfg O) (dst : Option Tmp) (t i : Nat) (kk : MapK) (e : kk.den) (h : Nat) (x y : Operand) : RM O := mapTI cfg t fun kt vt => evT x fun xv => match beqB (T.isAg xv) kt.isAgg with
 | true => ofCells kt xv.cells fun key _ => match castM kt vt ⟨kk, e⟩ with
  | some es => evT y fun yv => match beqB (T.isAg yv) vt.isAgg with
   | true => ofCells vt yv.cells fun val fz => match memN i (fz.map (·.1)) with
    | true => .fail
    | false => match fzOk fz with
     | true => .guard (mhas (eqD kt) es key) (.wr { sl := putS dst undefS, bk := (i, .rng (.map kt vt) (mset (eqD kt) es key val) h) :: fz })
     | false => .fail
   | false => .fail
  | none => .fail
 | false => .fail
def opMapUpH (cfg : Cfg O) (dst : Option Tmp) (t i : Nat) (k0 t0 : Ty) (e : List (k0.den × List t0.den)) (n h : Nat) (x y : Operand) : RM O := mapTI cfg t fun kt vt => match vt with
 | .slice u => evT x fun xv => match beqB (T.isAg xv) kt.isAgg with
  | true => ofCells kt xv.cells fun key _ => match castS kt u ⟨.mapS k0 t0, e⟩ with
   | some es => evC y fun c => match c with
    | .own j => .rblk j fun bl => match rowW u bl with
     | some xs => match Nat.ble 64 j with
      | true => .guard (isIx (midx (eqD kt) es key) n) (.wr { sl := putS dst undefS, bk := [(i, .rng (.mapS kt u) (mput es (some n) xs) h), (j, .dead)] })
      | false => .fail
     | none => .fail
    | _ => .fail
   | none => .fail
  | false => .fail
 | _ => .fail
def opMapUpdate (cfg : Cfg O) (dst : Option Tmp) (t : Nat) (m x y : Operand) : RM O := mapAt cfg t m x (fun i kt vt es key => evT y fun yv => match beqB (T.isAg yv) vt.isAgg with
 | true => ofCells vt yv.cells fun val fz => match memN i (fz.map (·.1)) with
  | true => .fail
  | false => match fzOk fz with
   | true => .wr { sl := putS dst undefS, bk := (i, .obj (.map kt vt) (mset (eqD kt) es key val)) :: fz }
   | false => .fail
 | false => .fail) fun _ _ _ _ _ => .fail
def opMapUpdateA (cfg : Cfg O) (dst : Option Tmp) (t : Nat) (m x y : Operand) : RM O := evC m fun c => match c with
 | .obj i => .rblk i fun b => match b with
  | some (.rng kk e h) => opMapUpR cfg dst t i kk e h x y
  | some (.rngH k0 t0 e n h) => opMapUpH cfg dst t i k0 t0 e n h x y
  | _ => opMapUpdate cfg dst t m x y
 | _ => .fail
def opRange (cfg : Cfg O) (nb : Nat) (dst : Option Tmp) (t : Nat) (x : Operand) : RM O := getTI cfg t fun ti => match ti.sub with
 | .map _ _ => evC x fun c => match c with
  | .obj i => .rblk i fun b => match b with
   | some (.obj k y) => match MapK.isDeep k with
    | true => .fail
    | false => fresh nb (fresh (Nat.add nb 1) (.wr { sl := putS dst (.t (.one (.it nb))), bk := [(nb, .itr i (Nat.add nb 1)), (Nat.add nb 1, .dead), (i, .rng k y (Nat.add nb 1))] }))
   | _ => .fail
  | _ => .fail
 | _ => .fail
def opDelete (cfg : Cfg O) (dst : Option Tmp) (t : Nat) (m x : Operand) : RM O := mapAt cfg t m x (fun i kt vt es key =>
 .wr { sl := putS dst (.tup []), bk := [(i, .obj (.map kt vt) (mdel (eqD kt) es key))] }) fun _ _ _ _ _ => .fail

def opLen (cfg : Cfg O) (dst : Option Tmp) (t : Nat) (x : Operand) : RM O := evC x fun c => getTI cfg t fun ti => match ti.sub with
 | .slice _ => lenOf c fun n => retV dst (.int .i64 n)
 | .map _ _ => match c with
  | .obj i => .rblk i fun b => match b with
   | some (.obj kk y) => match MapK.isDeep kk with
    | true => .fail
    | false => retV dst (.int .i64 (mlen kk y))
   | _ => .fail
  | _ => .fail
 | _ => match ti.ty with
  | some .str => match c with | .sc (.string s) => retV dst (.int .i64 s.size) | _ => .fail
  | _ => .fail
def opCap (cfg : Cfg O) (dst : Option Tmp) (t : Nat) (x : Operand) : RM O := evC x fun c => getTI cfg t fun ti => match ti.sub with
 | .slice _ => match c with | .sc (.slice none 0 0) => retV dst (.int .i64 0) | _ => .fail
 | _ => .fail
def opMax (dst : Option Tmp) (x y : Operand) : RM O := evV x fun x => evV y fun y => match x, y with
 | .int k a, .int _ b => retV dst (.int k (maxI a b))
 | _, _ => .fail
def opMin (dst : Option Tmp) (x y : Operand) : RM O := evV x fun x => evV y fun y => match x, y with
 | .int k a, .int _ b => retV dst (.int k (minI a b))
 | _, _ => .fail
def opAppend (cfg : Cfg O) (nb : Nat) (dst : Option Tmp) (t : Nat) (x y : Operand) : RM O := elemTI cfg t fun ty ei =>
 evC x fun cx => evC y fun cy => sliceOf ty cy fun ys => match cx with
  | .own i => .rblk i fun b => match (match Nat.ble 64 i with | true => rowW ty b | false => none) with
   | some xs => .guard (decide ((xs.length + ys.length) * ei.bytes ≤ LIM)) (.guard (decide (xs.length + ys.length ≤ LIM))
     (fresh nb (.wr { sl := putS dst (.t (.one (.own nb))), bk := [(nb, .row ty (cat xs ys)), (i, .dead)] })))
   | none => .fail
  | .sc (.slice none 0 0) => .guard (decide (ys.length * ei.bytes ≤ LIM)) (.guard (decide (ys.length ≤ LIM))
    (fresh nb (.wr { sl := putS dst (.t (.one (.own nb))), bk := [(nb, .row ty ys)] })))
  | _ => .fail
def opAppendZ (cfg : Cfg O) (nb : Nat) (dst : Option Tmp) (t t' : Nat) (x y : Operand) : RM O := elemTI cfg t fun ty ei => getTI cfg t' fun ti => match ti.ty with
 | some (.int _) => evC x fun cx => evI y fun n => match cx with
  | .sc (.slice none 0 0) => .guard (decide (0 < n)) (.guard (decide (n.toNat * ei.bytes ≤ LIM)) (.guard (decide (n.toNat ≤ LIM))
    (fresh nb (.wr { sl := putS dst (.t (.one (.own nb))), bk := [(nb, .row ty (List.replicate n.toNat ty.zero))] }))))
  | _ => .fail
 | _ => .fail
def opCopy (cfg : Cfg O) (dst : Option Tmp) (t : Nat) (x y : Operand) : RM O := elemTI cfg t fun ty _ =>
 evC x fun cx => evC y fun cy => sliceOf ty cy fun ys => match cx with
  | .own i => .rblk i fun b => match rowW ty b with
   | some xs => .wr { sl := putS dst (.t (.one (.sc (.int .i64 (Nat.min ys.length xs.length : Nat))))), bk := [(i, .row ty (splice xs ys 0 xs.length))] }
   | none => .fail
  | .sub i lo n => .rblk i fun b => match rowW ty b with
   | some xs => .wr { sl := putS dst (.t (.one (.sc (.int .i64 (Nat.min ys.length n : Nat))))), bk := [(i, .row ty (splice xs ys lo n))] }
   | none => .fail
  | _ => .fail
def opCall (cfg : Cfg O) (nb : Nat) (dst : Option Tmp) (c : Call) : RM O :=
 match c.callee with
 | .value (.func g) => callF cfg nb dst g c.args.toList
 | .value (.tmp t) => evV (.tmp t) fun v => match fnOf v with
  | some g => callF cfg nb dst g c.args.toList
  | none => .fail
 | .builtin b => match b, c.args.toList, c.argTypes.toList with
  | .len, [x], [t] => opLen cfg dst t x
  | .cap, [x], [t] => opCap cfg dst t x
  | .max, [x, y], _ => opMax dst x y
  | .min, [x, y], _ => opMin dst x y
  | .append, [x, y], [t, t'] => match Nat.beq t t' with | true => opAppend cfg nb dst t x y | false => opAppendZ cfg nb dst t t' x y
  | .copy, [x, y], [t, t'] => match Nat.beq t t' with | true => opCopy cfg dst t x y | false => .fail
  | .delete, [x, y], [t, _] => opDelete cfg dst t x y
  | _, _, _ => .fail
 | _ => .fail

def opLenD (cfg : Cfg O) (nb : Nat) (dst : Option Tmp) (c : Call) : RM O := match c.callee, c.args.toList, c.argTypes.toList with
 | .builtin .len, [x], [t] => evC x fun d => match d with
  | .obj i => .rblk i fun bl => match bl with
   | some (.obj (.deep _ _ _ _) xs) => getTI cfg t fun ti => match ti.sub with | .slice _ => retV dst (.int .i64 (List.length xs)) | _ => .fail
   | some (.hoD _ _ _ _ xs _ _) => getTI cfg t fun ti => match ti.sub with | .slice _ => retV dst (.int .i64 xs.length) | _ => .fail
   | _ => opCall cfg nb dst c
  | _ => opCall cfg nb dst c
 | .builtin .append, [x, y], [t, t'] => match Nat.beq t t' with
  | true => evC y fun d => match d with
   | .obj j => .rblk j fun bl => match bl with
    | some (.obj (.deep a b e c) ys) => elemTI cfg t fun ty ei => match decEq (dT a b e c) ty with
     | .isTrue _ => evC x fun d => match d with
      | .obj i => .rblk i fun bl => match bl with
       | some (.obj kk y) => match castD a b e c ⟨kk, y⟩ with
        | some xs => match Nat.ble 64 i, Nat.ble 64 j, Nat.beq i j with
         | true, true, false => .guard (decide ((xs.length + List.length ys) * ei.bytes ≤ LIM)) (.guard (decide (xs.length + List.length ys ≤ LIM))
          (fresh nb (.wr { sl := putS dst (.t (.one (.obj nb))), bk := [(nb, .obj (.deep a b e c) (cat xs ys)), (i, .dead), (j, .dead)] })))
         | _, _, _ => .fail
        | none => .fail
       | _ => .fail
      | _ => .fail
     | .isFalse _ => .fail
    | _ => .fail
   | _ => opCall cfg nb dst c
  | false => opCall cfg nb dst c
 | _, _, _ => opCall cfg nb dst c
def opBuildSliceD (cfg : Cfg O) (nb : Nat) (dst : Option Tmp) (t n : Nat) (parts : Array (Nat × Operand)) : RM O := match memN t cfg.dp, parts.toList with
 | true, [(0, x)] => match Nat.beq n 1 with
  | true => elemTI cfg t fun ty _ => match ty with
   | .pair a (.pair b (.pair (.slice e) c)) => match Nat.ble (dT a b e c).sz 16777216, Nat.blt 0 e.sz with
    | true, true => evT x fun v => match v with
     | .ag vs => match ctake 1 (cdrop b.sz (cdrop a.sz vs)) with
      | [.own i] => .rblk i fun bl => match rowW e bl with
       | some ys => ofCells a (ctake a.sz vs) fun x1 f1 => ofCells b (ctake b.sz (cdrop a.sz vs)) fun x2 f2 => ofCells c (cdrop 1 (cdrop b.sz (cdrop a.sz vs))) fun x4 f4 =>
        match fzOk (capp f1 (capp f2 f4)), memN i ((capp f1 (capp f2 f4)).map (·.1)), Nat.ble 64 i with
        | true, false, true => fresh nb (.wr { sl := putS dst (.t (.one (.obj nb))), bk := (nb, .obj (.deep a b e c) [(x1, x2, ys, x4)]) :: (i, .dead) :: capp f1 (capp f2 f4) })
        | _, _, _ => .fail
       | none => .fail
      | _ => .fail
     | _ => .fail
    | _, _ => .fail
   | _ => .fail
  | false => .fail
 | _, _ => opBuildSlice cfg nb dst t n parts
def opIndexAddrD (cfg : Cfg O) (dst : Option Tmp) (t : Nat) (x ix : Operand) : RM O := evC x fun d => match d with
 | .obj i => elemTI cfg t fun ty _ => evI ix fun n => .rblk i fun bl => match bl with
  | some (.obj (.deep a b e c) xs) => match decEq (dT a b e c) ty with
   | .isTrue _ => .guard (decide (0 ≤ n)) (.guard (decide (n < (List.length xs : Int))) (ret1 dst (.one (.dptr i (dT a b e c).sz n.toNat 0))))
   | .isFalse _ => .fail
  | some (.hoD a b e c xs _ _) => match decEq (dT a b e c) ty with
   | .isTrue _ => .guard (decide (0 ≤ n)) (.guard (decide (n < (xs.length : Int))) (ret1 dst (.one (.dptr i (dT a b e c).sz n.toNat 0))))
   | .isFalse _ => .fail
  | _ => .fail
 | _ => opIndexAddrA cfg dst t x ix
def opFieldAddrD (cfg : Cfg O) (dst : Option Tmp) (s : Nat) (a : Operand) (f : Nat) : RM O := evC a fun d => match d with
 | .dptr i sz idx o' => fieldTI cfg s f fun off fi => match Nat.beq fi.size 0 with
  | true => .fail
  | false => .rblk i fun bl => match bl with
   | some (.obj _ _) => ret1 dst (.one (.dptr i sz idx (Nat.add o' off)))
   | some (.hoD _ _ _ _ _ _ _) => ret1 dst (.one (.dptr i sz idx (Nat.add o' off)))
   | _ => .fail
 | _ => opFieldAddr cfg dst s a f
def opLoadD (cfg : Cfg O) (nb : Nat) (dst : Option Tmp) (t : Nat) (a : Operand) : RM O := evC a fun d => match d with
 | .dptr i sz idx off => getTI cfg t fun ti => match ti.agg, Nat.beq ti.size 1 with
  | false, true => .rblk i fun bl => match bl with
   | some (.obj (.deep a b e c) xs) => match Nat.beq off (Nat.add a.sz b.sz), Nat.beq sz (dT a b e c).sz with
    | true, true => fresh nb (.wr { sl := putS dst (.t (.one (.own nb))), bk := [(nb, .row e (dget xs idx)), (i, .hoD a b e c xs idx nb)] })
    | _, _ => .fail
   | some (.hoD a b e c _ n j) => match Nat.beq off (Nat.add a.sz b.sz), Nat.beq sz (dT a b e c).sz with
    | true, true => .guard (decide (idx = n)) (ret1 dst (.one (.own j)))
    | _, _ => .fail
   | _ => .fail
  | _, _ => .fail
 | _ => opLoadA cfg dst t a

def opRM (cfg : Cfg O) (nb : Nat) (o : Oper) : RM O :=
 match o.op with
 | .move x => evS x fun s => .wr { sl := putS o.dst s }
 | .assign x => evS x fun s => .wr { sl := putS o.dst s }
 | .pick c a b => opPick o.dst c a b
 | .binOp op t x y _ => opBin cfg o.dst op t x y
 | .unOp op _ x => opUn o.dst op x
 | .convert src to x => opConv cfg o.dst src to x
 | .box t x => opBoxA cfg nb o.dst t x
 | .alloc e => opAllocA cfg nb o.dst e
 | .load t a => opLoadD cfg nb o.dst t a
 | .store t a x => opStoreA cfg o.dst t a x
 | .fieldAddr s a f => opFieldAddrD cfg o.dst s a f
 | .field s x f => opField cfg o.dst s x f
 | .indexAddr t x ix => opIndexAddrD cfg o.dst t x ix
 | .index t x ix => opIndex cfg o.dst t x ix
 | .range t x => opRange cfg nb o.dst t x
 | .extract x n => opExtract o.dst x n
 | .makeSlice t l c => opMakeSlice cfg nb o.dst t l c
 | .buildSlice t n parts => opBuildSliceD cfg nb o.dst t n parts
 | .build s parts => opBuildA cfg o.dst s parts
 | .slice t x lo hi none => opSliceA cfg o.dst t x lo hi
 | .nilCheck x => opNilA o.dst x
 | .call c => opLenD cfg nb o.dst c
 | .makeMap t r => opMakeMap cfg nb o.dst t r
 | .lookup t m x ok => opLookup cfg nb o.dst t m x ok
 | .mapEntry t m x => opMapEntry cfg nb o.dst t m x
 | .entryStore _ m s x => opEntryStore o.dst m s x
 | .mapUpdate t m x y => opMapUpdateA cfg o.dst t m x y
 | _ => .fail
end ops

section code
variable {O : ObjK}
def St.app (σ : St O) (w : Wr O) : St O := { sl := capp w.sl σ.sl, bk := capp w.bk σ.bk }
def St.force {A : Type} (σ : St O) (k : St O → A) : A := match σ with | ⟨sl, bk⟩ => forceL sl fun sl => forceL bk fun bk => k ⟨sl, bk⟩
def Wr.force {A : Type} (σ : Wr O) (k : Wr O → A) : A := match σ with | ⟨sl, bk⟩ => forceL sl fun sl => forceL bk fun bk => k ⟨sl, bk⟩
noncomputable def onCond {R : Type} (σ : St O) (t : Nat) (k : Bool → St O → Option R) : Option R :=
 match look σ.sl t with
 | some (.t (.one (.mayb e))) => mayB e (k true ⟨(t, .t (.one (.sc (.bool true)))) :: σ.sl, σ.bk⟩) (k false ⟨(t, .t (.one (.sc (.bool false)))) :: σ.sl, σ.bk⟩)
 | some (.t (.one (.sc (.bool b)))) =>
  br b (k true ⟨(t, .t (.one (.sc (.bool true)))) :: σ.sl, σ.bk⟩) (k false ⟨(t, .t (.one (.sc (.bool false)))) :: σ.sl, σ.bk⟩)
 | _ => none
def onSlot {R : Type} (σ : St O) (t : Nat) (k : Bool → St O → Option R) : Option R :=
 match look σ.sl t with
 | some (.t (.one (.sc (.bool b)))) =>
  br b (k true ⟨(t, .t (.one (.sc (.bool true)))) :: σ.sl, σ.bk⟩) (k false ⟨(t, .t (.one (.sc (.bool false)))) :: σ.sl, σ.bk⟩)
 | _ => none

def Loc.bit : Loc → Nat
 | .slot t => Nat.pow 2 (Nat.mul 2 t)
 | .blk i => Nat.pow 2 (Nat.succ (Nat.mul 2 i))
def RM.reads {A : Type} (σ : St O) : RM O → Nat → (Nat → A) → A
 | .rslot t f, acc, k => (f (look σ.sl t)).reads σ (Nat.lor acc (Loc.slot t).bit) k
 | .rblk i f, acc, k => (f (look σ.bk i)).reads σ (Nat.lor acc (Loc.blk i).bit) k
 | .guard _ m, acc, k => m.reads σ acc k
 | .wr _, acc, k => k acc
 | .call _ _, acc, k => k acc
 | .fail, acc, k => k acc
def slBits {A : Type} : List (Nat × S) → Nat → (Nat → A) → A
 | [], acc, k => k acc
 | (i, _) :: ps, acc, k => slBits ps (Nat.lor acc (Loc.slot i).bit) k
def bkBits {A : Type} : List (Nat × Blk O) → Nat → (Nat → A) → A
 | [], acc, k => k acc
 | (i, _) :: ps, acc, k => bkBits ps (Nat.lor acc (Loc.blk i).bit) k
structure Log where
 rd : Nat
 wr : Nat

def dstOk (N : Nat) : Option Tmp → Bool
 | none => true
 | some d => Nat.blt d N
def doOp {R : Type} (cfg : Cfg O) (nb : Nat) (o : Oper) (pre : Nat) (σ : St O) (k : St O → Log → Option R) : Option R :=
 match dstOk cfg.N o.dst with
 | false => none
 | true => (opRM cfg nb o).ev σ fun w => w.force fun w => (opRM cfg nb o).reads σ pre fun rd => forceN rd fun rd => slBits w.sl 0 fun b => bkBits w.bk b fun b => forceN b fun b => (σ.app w).force fun σ => k σ ⟨rd, b⟩
def pickOp {R : Type} (cfg : Cfg O) (nb : Nat) (o : Oper) (pre : Nat) (σ : St O) (k : St O → Log → Option R) : Option R :=
 match o.op with
 | .pick (.tmp c) _ _ => onSlot σ c fun _ σ => doOp cfg nb o pre σ k
 | _ => doOp cfg nb o pre σ k
def skipOp {R : Type} (cfg : Cfg O) (o : Oper) (g : Nat) (σ : St O) (k : St O → Log → Option R) : Option R :=
 match dstOk cfg.N o.dst with
 | false => none
 | true => slBits (putS o.dst undefS) 0 fun b => forceN b fun b => (σ.app { sl := putS o.dst undefS }).force fun σ => k σ ⟨(Loc.slot g).bit, b⟩
def runOp {R : Type} (cfg : Cfg O) (nb : Nat) (all : List Oper) (o : Oper) (σ : St O) (k : St O → Log → Option R) : Option R :=
 match o.guard with
 | none => pickOp cfg nb o 0 σ k
 | some (j, want) => match (all[j]?).bind (·.dst) with
  | none => none
  | some g => match look σ.sl g with
   | some (.t (.one (.sc (.tuple _)))) => skipOp cfg o g σ k
   | _ => onSlot σ g fun b σ => match beqB b want with
    | true => pickOp cfg nb o (Loc.slot g).bit σ k
    | false => skipOp cfg o g σ k

def runOps {R : Type} (cfg : Cfg O) (all : List Oper) : List Oper → Nat → St O → List Log → (St O → List Log → Option R) → Option R
 | [], _, σ, lg, k => k σ lg
 | o :: os, nb, σ, lg, k => runOp cfg nb all o σ fun σ l => runOps cfg all os (Nat.add nb 8) σ (l :: lg) k

def callOf (o : Oper) : Option (Nat × List Operand × Tmp) := match o.op, o.dst with
 | .call c, some d => match c.callee with | .value (.func g) => some (g, c.args.toList, d) | _ => none
 | _, _ => none
def inFu : List (Nat × Nat) → Nat → Nat → Bool
 | [], _, _ => false
 | p :: l, g1, g2 => match Nat.beq p.1 g1, Nat.beq p.2 g2 with | true, true => true | _, _ => inFu l g1 g2
def fuOf (cfg : Cfg O) (o1 o2 : Oper) : Option (Nat × Operand × Tmp × Nat × Tmp) := match callOf o1, callOf o2 with
 | some (g1, [x], d1), some (g2, [.tmp t], d2) => match Nat.beq t d1, inFu cfg.fu g1 g2 with
  | true, true => some (g1, x, d1, g2, d2)
  | _, _ => none
 | _, _ => none
def fuseF (c1 c2 : Ctr O) (k : (t tr : Ty) → (List t.den → Option tr.den) → RM O) : RM O := match c1, c2 with
 | ⟨[.val (.slice t)], [.own u], F1⟩, ⟨[.val (.slice u')], [.val tr], F2⟩ => match decEq u u', tr.flat with
  | .isTrue h, true => k t tr fun xs => bd (F1 (xs, ())) fun r => bd (F2 (h ▸ r.1.1, ())) fun s => some s.1.1
  | _, _ => .fail
 | _, _ => .fail
def fuseRM (cfg : Cfg O) (nb : Nat) (p : Nat × Operand × Tmp × Nat × Tmp) : RM O := match look cfg.Γ p.1, look cfg.Γ p.2.2.2.1 with
 | some c1, some c2 => fuseF c1 c2 fun t tr F => evC p.2.1 fun c => ofCellsD (.slice t) [c] fun xs _ => fresh nb (.call (F xs) fun y =>
  { sl := [(p.2.2.2.2, .t (tOf tr y)), (p.2.2.1, .t (.one (.own nb)))], bk := [(nb, .dead)] })
 | _, _ => .fail
def fuseOp {R : Type} (cfg : Cfg O) (nb : Nat) (all : List Oper) (o1 o2 : Oper) (p : Nat × Operand × Tmp × Nat × Tmp) (σ : St O) (k : St O → Option R) : Option R :=
 match Nat.blt p.2.2.1 cfg.N, Nat.blt p.2.2.2.2 cfg.N with
 | true, true => match o1.guard, o2.guard with
  | none, none => (fuseRM cfg nb p).ev σ fun w => w.force fun w => (σ.app w).force k
  | some (j, want), some (j', want') => match Nat.beq j j', beqB want want', (all[j]?).bind (·.dst) with
   | true, true, some g => match Nat.beq g p.2.2.1 with
    | false => onSlot σ g fun b σ => match beqB b want with
     | true => (fuseRM cfg nb p).ev σ fun w => w.force fun w => (σ.app w).force k
     | false => (σ.app { sl := [(p.2.2.2.2, undefS), (p.2.2.1, undefS)] }).force k
    | true => none
   | _, _, _ => none
  | _, _ => none
 | _, _ => none
def runOpsF {R : Type} (cfg : Cfg O) (all : List Oper) : List Oper → Nat → St O → (St O → Option R) → Option R
 | [], _, σ, k => k σ
 | [o], nb, σ, k => runOp cfg nb all o σ fun σ _ => k σ
 | o1 :: o2 :: os, nb, σ, k => match fuOf cfg o1 o2 with
  | some p => fuseOp cfg nb all o1 o2 p σ fun σ => runOpsF cfg all os (Nat.add nb 16) σ k
  | none => runOp cfg nb all o1 σ fun σ _ => runOpsF cfg all (o2 :: os) (Nat.add nb 8) σ k

def bindsAny : Ground → Bool
 | .textOnly _ => false
 | .gcOnly _ => false
 | _ => true
def edgeBits {A : Type} (acc : List Nat) (n : Nat) : List Edge → Nat → (Nat → A) → A
 | [], b, k => k b
 | e :: es, b, k => match bindsAny e.ground with
  | true => match Nat.blt e.on n with
   | true => match acc[Nat.sub (Nat.sub n 1) e.on]? with
    | some c => edgeBits acc n es (Nat.lor b (Nat.lor (Nat.pow 2 e.on) c)) k
    | none => edgeBits acc n es b k
   | false => edgeBits acc n es b k
  | false => edgeBits acc n es b k
def befores {A : Type} : List Oper → Nat → List Nat → (List Nat → A) → A
 | [], _, acc, k => k acc
 | o :: os, n, acc, k => edgeBits acc n o.after.toList 0 fun b => forceN b fun b => befores os (Nat.add n 1) (b :: acc) k
def backs1 (n : Nat) : List Edge → Bool
 | [] => true
 | e :: es => match bindsAny e.ground with
  | true => match Nat.blt e.on n with | true => backs1 n es | false => false
  | false => backs1 n es
def backs : List Oper → Nat → Bool
 | [], _ => true
 | o :: os, n => match backs1 n o.after.toList with | true => backs os (Nat.add n 1) | false => false
def apart (x y : Log) : Bool := match Nat.beq (Nat.land x.wr (Nat.lor y.rd y.wr)) 0 with | true => Nat.beq (Nat.land x.rd y.wr) 0 | false => false
def chkOne (bef : Nat) (y : Log) : List Log → Bool
 | [] => true
 | x :: xs => match Nat.beq (Nat.land (Nat.shiftRight bef (clen xs)) 1) 1 with
  | true => chkOne bef y xs
  | false => match apart x y with | true => chkOne bef y xs | false => false
def chkAll : List Nat → List Log → Bool
 | b :: bs, y :: ys => match chkOne b y ys with | true => chkAll bs ys | false => false
 | [], [] => true
 | _, _ => false

abbrev Tm := List (Nat × Option Nat × Sh)
inductive An (O : ObjK) where
 | no
 | seq (a b : An O)
 | cond (a b : An O)
 | block (a : An O)
 | loop (tm : Tm) (a : An O)
 | rloop (L : Nat) (tm : Tm)
 | cut (tm : Tm) (a b : An O)

def sdens : Tm → Type
 | [] => Unit
 | s :: ss => s.2.2.den × sdens ss
def valOf {R : Type} (σ : St O) : (t : Ty) → List C → (t.den → List Nat → Option R) → Option R
 | .int kd, cs, k => match cs with | [.sc (.int k' n)] => if kd = k' then k n [] else none | _ => none
 | .bool, cs, k => match cs with | [.sc (.bool b)] => k b [] | _ => none
 | .str, cs, k => match cs with | [.sc (.string b)] => k b [] | _ => none
 | .unit, cs, k => match cs with | [] => k () [] | _ => none
 | .pair a b, cs, k => valOf σ a (ctake a.sz cs) fun x i => valOf σ b (cdrop a.sz cs) fun y j => k (x, y) (capp i j)
 | .slice t, cs, k =>
  match cs with
  | [.ro t' xs] => match castL t ⟨t', xs⟩ with | some xs => k xs [] | none => none
  | [.own i] => match rowAs t (look σ.bk i) with | some xs => k xs [i] | none => none
  | [.sub i lo n] => match rowAs t (look σ.bk i) with | some xs => k ((xs.drop lo).take n) [i] | none => none
  | [.sc (.slice none 0 0)] => k [] []
  | _ => none

def somes : List (Option Nat) → List Nat
 | [] => []
 | none :: xs => somes xs
 | some i :: xs => i :: somes xs
def labOk (pin : Option Nat) (i : Nat) : Bool := match pin with
 | some j => (match Nat.beq i j with | true => Nat.blt j 64 | false => false)
 | none => Nat.ble 64 i
def packSh {R : Type} (σ : St O) (pin : Option Nat) : (sh : Sh) → List C → (sh.den → List Nat → List (Option Nat) → Option R) → Option R
 | .val t, cs, k => valOf σ t cs fun x rd => k x rd []
 | .fn g, cs, k => match cs with
  | [.sc v] => (match codeOf v with | some g' => (match Nat.beq g g' with | true => k () [] [] | false => none) | none => none)
  | _ => none
 | .rop t, cs, k => match cs with
  | [.rop t' x off] => (match off with
   | 0 => (match castV t ⟨t', x⟩ with | some x => k x [] [] | none => none)
   | _ + 1 => none)
  | _ => none
 | .nil, cs, k => match cs with | [.sc (.slice none 0 0)] => k () [] [] | _ => none
 | .own t, cs, k => match cs with
  | [.own i] => match labOk pin i with
   | true => (match rowW t (look σ.bk i) with | some xs => k xs [] [some i] | none => none)
   | false => none
  | [.sc (.slice none 0 0)] => (match pin with | none => (match Nat.blt 0 t.sz with | true => k [] [] [none] | false => none) | some _ => none)
  | _ => none
 | .sub t, cs, k => match cs with
  | [.sub i lo n] => (match lo with
   | 0 => match labOk pin i with
    | true => (match rowW t (look σ.bk i) with | some xs => k (xs, n) [] [some i] | none => none)
    | false => none
   | _ + 1 => none)
  | [.own i] => match labOk pin i with
   | true => (match rowW t (look σ.bk i) with | some xs => k (xs, xs.length) [] [some i] | none => none)
   | false => none
  | _ => none
 | .map kk, cs, k => match cs with
  | [.obj i] => match labOk pin i with
   | true => (match look σ.bk i with
    | some (.obj k' y) => (match O.deq k' kk with | .isTrue h => k (h ▸ y) [] [some i] | .isFalse _ => none)
    | _ => none)
   | false => none
  | [.sc (.slice none 0 0)] => (match pin with
   | none => (match kk, k with | .deep _ _ e _, k => (match Nat.blt 0 e.sz with | true => k [] [] [none] | false => none) | _, _ => none)
   | some _ => none)
  | _ => none
 | .arrp n t, cs, k => match cs with
  | [.arr i m] => match labOk pin i with
   | true => (match Nat.beq n m with
    | true => (match rowW t (look σ.bk i) with | some xs => k xs [] [some i] | none => none)
    | false => none)
   | false => none
  | _ => none
 | .ptr b, cs, k => match cs with
  | [.ptr i off] => (match off with
   | 0 => match labOk pin i with
    | true => (match look σ.bk i with
     | some (.box cs) => packSh σ none b cs fun x rd ids => k x rd (some i :: ids)
     | _ => none)
    | false => none
   | _ + 1 => none)
  | _ => none
 | .unit, cs, k => match cs with | [] => k () [] [] | _ => none
 | .cons a b, cs, k => packSh σ none a (ctake a.sz cs) fun x rd ids => packSh σ none b (cdrop a.sz cs) fun y rd' ids' => k (x, y) (capp rd rd') (capp ids ids')
def unpackP (pin : Option Nat) (nb : Nat) (sh : Sh) (x : sh.den) : List C × List (Nat × Blk O) :=
 match pin with
 | none => unpackSh nb sh x
 | some j => match sh, x with
  | .sub t, x => ([.sub j 0 x.2], [(j, .row t x.1)])
  | .map k, x => ([.obj j], [(j, .obj k x)])
  | .ptr b, x => let r := unpackSh nb b x; ([.ptr j 0], (j, .box r.1) :: r.2)
  | sh, x => unpackSh nb sh x
def labs (nb : Nat) : Nat → List Nat
 | 0 => []
 | n + 1 => nb :: labs (Nat.add nb 1) n
def labsP (pin : Option Nat) (nb : Nat) (sh : Sh) : List Nat :=
 match pin with
 | none => labs nb sh.wid
 | some j => match sh with
  | .sub _ => [j]
  | .map _ => [j]
  | .ptr b => j :: labs nb b.wid
  | sh => labs nb sh.wid
def packT {R : Type} (σ : St O) (pin : Option Nat) (sh : Sh) (s : S) (k : sh.den → List Nat → List (Option Nat) → Option R) : Option R :=
 match s with
 | .t x => match beqB (T.isAg x) sh.isAgg with | true => packSh σ pin sh x.cells k | false => none
 | .tup _ => none
def unpackT (isAgg : Bool) (cs : List C) : T := match isAgg with | true => .ag cs | false => match cs with | [c] => .one c | _ => .ag cs
def packL {R : Type} (σ : St O) : (tm : Tm) → (sdens tm → List Nat → List (Option Nat) → Option R) → Option R
 | [], k => k () [] []
 | s :: ss, k => match look σ.sl s.1 with
  | some x => packT σ s.2.1 s.2.2 x fun a rd i => packL σ ss fun as rds is => k (a, as) (capp rd rds) (capp i is)
  | none => none
def closeL : List (Nat × Blk O) → St O → St O
 | [], σ => σ
 | (i, .hol _ _ _ _ _ _) :: bs, σ => closeL bs (match look σ.bk i with
  | some (.hol kt u es n j _) => match Nat.ble 64 j with
   | true => match rowW u (look σ.bk j) with
    | some xs => ⟨σ.sl, (i, .obj (.mapS kt u) (mput es n xs)) :: (j, .dead) :: σ.bk⟩
    | none => σ
   | false => σ
  | _ => σ)
 | _ :: bs, σ => closeL bs σ
def St.close (σ : St O) : St O := closeL σ.bk σ
def pack0 {R : Type} (σ : St O) (tm : Tm) (k : sdens tm → Option R) : Option R :=
 packL σ tm fun x rd ids => match nodupN (somes ids) with
  | true => (match disjN rd (somes ids) with | true => k x | false => none)
  | false => none
def pack {R : Type} (σ : St O) (tm : Tm) (k : sdens tm → Option R) : Option R := σ.close.force fun σ => pack0 σ tm k
def unpack (nb : Nat) : (tm : Tm) → sdens tm → List (Nat × S) × List (Nat × Blk O)
 | [], _ => ([], [])
 | s :: ss, x => let a := unpackP s.2.1 nb s.2.2 x.1; let r := unpack (Nat.add nb (widP s.2.1 s.2.2)) ss x.2; ((s.1, .t (unpackT s.2.2.isAgg a.1)) :: r.1, capp a.2 r.2)
def widths : Tm → Nat
 | [] => 64
 | s :: ss => Nat.add (widP s.2.1 s.2.2) (widths ss)
def unpackSt (tm : Tm) (x : sdens tm) : St O :=
 let r := unpack 64 tm x; ⟨r.1, r.2⟩

noncomputable def allOf {R : Type} (is : List Nat) (f : Nat → Option R) : Option R := @dite _ (∃ r, ∀ i ∈ is, f i = some r) (Classical.propDecidable _) (fun h => some (Classical.choose h)) (fun _ => none)
noncomputable def rngN {X R : Type} (step : Nat → (X → Option R) → X → Option R) (fin : X → Option R) : Nat → List Nat → X → Option R
 | _, [], x => fin x
 | 0, _ :: _, _ => none
 | n + 1, i :: is, x => allOf (i :: is) fun j => step j (rngN step fin n ((i :: is).erase j)) x
def tmLabs (nb : Nat) : Tm → List Nat
 | [] => []
 | s :: ss => capp (labsP s.2.1 nb s.2.2) (tmLabs (Nat.add nb (widP s.2.1 s.2.2)) ss)
def labAt (L : Nat) : List Nat → List (Option Nat) → Option Nat
 | l :: ls, i :: is => match Nat.beq l L with | true => i | false => labAt L ls is
 | _, _ => none
def packAt {R : Type} (σ : St O) (tm : Tm) (L i : Nat) (k : sdens tm → List Nat → Option R) : Option R :=
 packL σ tm fun x rd ids => match nodupN (somes ids) with
  | true => (match disjN rd (somes ids) with
   | true => (match labAt L (tmLabs 64 tm) ids with
    | some j => (match Nat.beq i j with | true => k x (somes ids) | false => none)
    | none => none)
   | false => none)
  | false => none
def rngIn {R : Type} (σ : St O) (tm : Tm) (L ti : Nat) (k : Nat → sdens tm → Option R) : Option R :=
 match look σ.sl ti with
 | some (.t (.one (.it j))) => match look σ.bk j with
  | some (.itr i h) => match look σ.bk i with
   | some (.rng kk y h') => match Nat.beq h h' with
    | true => (⟨σ.sl, (i, .obj kk y) :: σ.bk⟩ : St O).force fun σ => packAt σ tm L i fun x ids => match memN j ids with
     | false => k (mlen kk y) x
     | true => none
    | false => none
   | _ => none
  | _ => none
 | _ => none
def rngNext {R : Type} (σ : St O) (tm : Tm) (L ti : Nat) (k : sdens tm → Option R) : Option R :=
 match look σ.sl ti with
 | some (.t (.one (.it j))) => match Nat.beq j 61 with
  | true => match look σ.bk L with
   | some (.rng kk y h) => match Nat.beq h 63 with
    | true => (⟨σ.sl, (L, .obj kk y) :: σ.bk⟩ : St O).force fun σ => packAt σ tm L L fun x _ => k x
    | false => none
   | _ => none
  | false => none
 | _ => none
def rngEnt {R : Type} (σ : St O) (L ti pr i : Nat) (k : St O → Option R) : Option R :=
 match look σ.bk L, look σ.bk 61, look σ.bk 63 with
 | some (.obj kk y), none, none => match kk, y with
  | .map kt vt, m => (⟨(pr, .tup [tOf kt (List.getD m i (kt.zero, vt.zero)).1, tOf vt (List.getD m i (kt.zero, vt.zero)).2]) :: (ti, .t (.one (.it 61))) :: σ.sl, (L, .rng (.map kt vt) m 63) :: (61, .dead) :: (63, .dead) :: σ.bk⟩ : St O).force k
  | .mapS kt t, m => (⟨(pr, .tup [tOf kt (List.getD m i (kt.zero, [])).1, .one (.ro t (List.getD m i (kt.zero, [])).2)]) :: (ti, .t (.one (.it 61))) :: σ.sl, (L, .rngH kt t m i 63) :: (61, .dead) :: (63, .dead) :: σ.bk⟩ : St O).force k
  | .deep _ _ _ _, _ => none
 | _, _, _ => none
def rngOps (o1 o2 : List Oper) (c : Operand) : Option (Tmp × Tmp × Tmp × Tmp × List Oper) :=
 match o1, o2, c with
 | [a, b], e :: rest, .tmp m' => match a.op, a.dst, a.guard, b.op, b.dst, b.guard with
  | .next (.tmp ti) false, some nx, none, .extract (.tmp nx') 0, some m, none => match e.op, e.dst, e.guard with
   | .entry (.tmp ti'), some pr, none => match Nat.beq nx nx', Nat.beq m m', Nat.beq ti ti' with
    | true, true, true => some (ti, nx, m, pr, rest)
    | _, _, _ => none
   | _, _, _ => none
  | _, _, _, _, _, _ => none
 | _, _, _ => none
def notIn (tm : Tm) : List Nat → Bool
 | [] => true
 | x :: xs => match memN x (tm.map (·.1)) with | true => false | false => notIn tm xs
def allLt (N : Nat) : List Nat → Bool
 | [] => true
 | x :: xs => match Nat.blt x N with | true => allLt N xs | false => false
def rngOk (N L : Nat) (tm : Tm) (ti nx m pr : Nat) : Bool :=
 match notIn tm [ti, nx, m, pr] with
 | true => match allLt N [ti, nx, m, pr] with
  | true => match nodupN [ti, nx, m, pr] with
   | true => Nat.ble 64 L
   | false => false
  | false => false
 | false => false
def rangeL : Nat → List Nat := List.range
def loopN {X R : Type} (step : (X → Option R) → X → Option R) : Nat → X → Option R
 | 0, _ => none
 | n + 1, x => step (loopN step n) x

noncomputable def run (cfg : Cfg O) (K : Nat) : Code → An O → {R : Type} → Nat → St O → (kn : Nat → St O → Option R) → (ke : Nat → Nat → St O → Option R) → (kr : St O → Option R) → Option R
 | .skip, _, _, nx, σ, kn, _, _ => kn nx σ
 | .label _, _, _, nx, σ, kn, _, _ => kn nx σ
 | .scope a, an, _, nx, σ, kn, ke, kr => run cfg K a an nx σ kn ke kr
 | .region _ ops draw, _, _, nx, σ, kn, _, _ => match cfg.fu, draw with
  | _ :: _, false => runOpsF cfg ops.toList ops.toList nx σ fun σ' => kn (Nat.add nx 1024) σ'
  | _, draw => runOps cfg ops.toList ops.toList nx σ [] fun σ' lg => match draw with
   | true => (match backs ops.toList 0 with
    | true => befores ops.toList 0 [] fun bs => match chkAll bs lg with
     | true => kn (Nat.add nx 1024) σ'
     | false => none
    | false => none)
   | false => kn (Nat.add nx 1024) σ'
 | .seq a b, an, _, nx, σ, kn, ke, kr => match an with
  | .seq x y => run cfg K a x nx σ (fun nx σ => run cfg K b y nx σ kn ke kr) ke kr
  | .cut tm x y =>
   bd (run cfg K a x (R := sdens tm ⊕ _) nx σ (fun _ σ => pack σ tm fun l => some (.inl l)) (fun i nx σ => (ke i nx σ).map .inr) (fun σ => (kr σ).map .inr)) fun r =>
    match r with | .inl l => (unpackSt tm l).force fun σ => run cfg K b y (widths tm) σ kn ke kr | .inr r => some r
  | _ => run cfg K a .no nx σ (fun nx σ => run cfg K b .no nx σ kn ke kr) ke kr
 | .cond c a b, an, _, nx, σ, kn, ke, kr =>
  match c with
  | .tmp t => onCond σ t fun v σ => match v with
   | true => run cfg K a (match an with | .cond x _ => x | _ => .no) nx σ kn ke kr
   | false => run cfg K b (match an with | .cond _ y => y | _ => .no) nx σ kn ke kr
  | _ => none
 | .block id a, an, _, nx, σ, kn, ke, kr =>
  run cfg K a (match an with | .block x => x | _ => .no) nx σ kn (fun i nx σ => match Nat.beq i id with | true => kn nx σ | false => ke i nx σ) kr
 | .loop a, an, _, _, σ, _, ke, kr => match an with
  | .loop tm x => pack σ tm fun l => loopN (fun rec l => (unpackSt tm l).force fun σ => run cfg K a x (widths tm) σ (fun _ σ => pack σ tm rec) ke kr) K l
  | .rloop L tm => match a with
   | .seq (.region _ ops1 d1) (.seq (.cond c .skip (.exit out)) (.block nxt (.seq (.region _ ops2 d2) body))) => match d1, d2, rngOps ops1.toList ops2.toList c with
    | false, false, some (ti, nx, m, pr, rest) => match rngOk cfg.N L tm ti nx m pr with
     | true => rngIn σ tm L ti fun n l => rngN (fun i rec l => (unpackSt tm l).force fun σ => rngEnt σ L ti pr i fun σ => runOps cfg ops2.toList rest (Nat.add (widths tm) 8) σ [] fun σ _ =>
       run cfg K body .no (Nat.add (widths tm) 1024) σ (fun _ σ => rngNext σ tm L ti rec) (fun i _ σ => match Nat.beq i nxt with | true => rngNext σ tm L ti rec | false => none) (fun _ => none))
      (fun l => (unpackSt tm l).force fun σ => ke out (widths tm) σ) n (rangeL n) l
     | false => none
    | _, _, _ => none
   | _ => none
  | _ => none
 | .exit i, _, _, nx, σ, _, ke, _ => ke i nx σ
 | .ret, _, _, _, σ, _, _, kr => kr σ
 | _, _, _, _, _, _, _, _ => none

def isRng : Code → Bool
 | .seq (.region _ ops _) _ => match ops.toList with
  | [a, _] => match a.op with | .next _ false => true | _ => false
  | _ => false
 | _ => false
def annot : Code → List Tm → An O × List Tm
 | .seq a b, ts => let x := annot a ts; let y := annot b x.2; (.seq x.1 y.1, y.2)
 | .cond _ a b, ts => let x := annot a ts; let y := annot b x.2; (.cond x.1 y.1, y.2)
 | .block _ a, ts => let x := annot a ts; (.block x.1, x.2)
 | .scope a, ts => annot a ts
 | .loop a, ts => match ts with
  | t :: ts => match isRng a with
   | true => (match t with
    | (L, _, _) :: tm => (.rloop L tm, ts)
    | [] => (.no, ts))
   | false => let x := annot a ts; (.loop t x.1, x.2)
  | [] => (.no, [])
 | _, ts => (.no, ts)

def initS (j nb : Nat) : (ps : List (PK O)) → dens ps → List (Nat × S) × List (Nat × Blk O)
 | [], _ => ([], [])
 | .val t :: ps, x => let r := initS (Nat.add j 1) nb ps x.2; ((j, .t (tOf t x.1)) :: r.1, r.2)
 | .rop t :: ps, x => let r := initS (Nat.add j 1) nb ps x.2; ((j, .t (.one (.rop t x.1 0))) :: r.1, r.2)
 | .fn g :: ps, x => let r := initS (Nat.add j 1) nb ps x.2; ((j, .t (.one (.sc (wordOf g)))) :: r.1, r.2)
 | .row t :: ps, x => let r := initS (Nat.add j 1) nb ps x.2; ((j, .t (.one (.sub j 0 x.1.2))) :: r.1, (j, .row t x.1.1) :: r.2)
 | .obj k :: ps, x => let r := initS (Nat.add j 1) nb ps x.2; ((j, .t (.one (.obj j))) :: r.1, (j, .obj k x.1) :: r.2)
 | .box b :: ps, x => let u := unpackSh nb b x.1; let r := initS (Nat.add j 1) (Nat.add nb b.wid) ps x.2; ((j, .t (.one (.ptr j 0))) :: r.1, (j, .box u.1) :: capp u.2 r.2)
def initSt (ps : List (PK O)) (x : dens ps) : St O := let r := initS 0 64 ps x; ⟨r.1, r.2⟩

def cellOf {R : Type} (tt : List (Nat × TI)) (σ : St O) (t : Nat) (s : Option S) (k : T → Option R) : Option R :=
 match s with
 | some (.t (.one (.ptr i off))) => match look σ.bk i with
  | some (.box cs) => match look tt t with
   | some ti => match Nat.ble (Nat.add off ti.size) (clen cs) with
    | true => forceL (ctake ti.size (cdrop off cs)) fun cs => match T.ofList ti.agg cs with
     | some x => k x
     | none => none
    | false => none
   | none => none
  | _ => none
 | some (.t (.one (.arr i n))) => match look tt t with
  | some ti => match ti.sub with
   | .arr n' e => match Nat.beq n n' with
    | true => (match look tt e with
     | some ei => match ei.ty with
      | some ty => match rowAs ty (look σ.bk i) with
       | some xs => match Nat.beq (Nat.mul n ei.size) ti.size with
        | true => forceL (cellsN ty xs 0 n) fun cs => k (.ag cs)
        | false => none
       | none => none
      | none => none
     | none => none)
    | false => none
   | _ => none
  | none => none
 | _ => none
def fins {R : Type} (tt : List (Nat × TI)) (σ : St O) : (rs : List (RK O)) → List ResultVar → (rdens rs → List Nat → List Nat → Option R) → Option R
 | [], [], k => k () [] []
 | r :: rs, .tmp v :: vs, k => match look σ.sl v with
  | some (.t x) => fins1 σ r x fun a rd ow => fins tt σ rs vs fun as rds ows => k (a, as) (capp rd rds) (capp ow ows)
  | _ => none
 | r :: rs, .cell v t :: vs, k => cellOf tt σ t (look σ.sl v) fun x => fins1 σ r x fun a rd ow => fins tt σ rs vs fun as rds ows => k (a, as) (capp rd rds) (capp ow ows)
 | _, _, _ => none
where fins1 (σ : St O) (r : RK O) (x : T) (k : r.den → List Nat → List Nat → Option R) : Option R :=
 match r, k with
 | .val t, k => match beqB (T.isAg x) t.isAgg with
  | true => valOf σ t x.cells fun a rd => k a rd []
  | false => none
 | .own t, k => match x with
  | .one (.own i) => match rowW t (look σ.bk i) with | some xs => k xs [] [i] | none => none
  | .one (.sub i lo n) => (match lo with
   | 0 => match rowW t (look σ.bk i) with | some xs => br (decide (0 < xs.length)) (k (xs.take n) [] [i]) none | none => none
   | _ + 1 => none)
  | .one (.sc (.slice none 0 0)) => (match Nat.blt 0 t.sz with | true => k [] [] [] | false => none)
  | _ => none
 | .sub t, k => match x with
  | .one (.sub i lo n) => (match lo with
   | 0 => match rowW t (look σ.bk i) with | some xs => k (xs, n) [] [i] | none => none
   | _ + 1 => none)
  | _ => none
 | .obj kk, k => match x with
  | .one c => packSh σ none (.map kk) [c] fun y rd ids => k y rd (somes ids)
  | _ => none
 | .box b, k => match x with
  | .one c => packSh σ none (.ptr b) [c] fun y rd ids => k y rd (somes ids)
  | _ => none
def finU {R : Type} (σ : St O) (j : Nat) : (ps : List (PK O)) → (upds ps → List Nat → List Nat → Option R) → Option R
 | [], k => k () [] []
 | .val _ :: ps, k => finU σ (Nat.add j 1) ps fun u rd is => k ((), u) rd is
 | .fn _ :: ps, k => finU σ (Nat.add j 1) ps fun u rd is => k ((), u) rd is
 | .rop _ :: ps, k => finU σ (Nat.add j 1) ps fun u rd is => k ((), u) rd is
 | .row t :: ps, k => match rowW t (look σ.bk j) with
  | some xs => finU σ (Nat.add j 1) ps fun u rd is => k (xs, u) rd is
  | none => none
 | .obj kk :: ps, k => match look σ.bk j with
  | some (.obj k' y) => match O.deq k' kk with
   | .isTrue h => finU σ (Nat.add j 1) ps fun u rd is => k (h ▸ y, u) rd is
   | .isFalse _ => none
  | _ => none
 | .box b :: ps, k => match look σ.bk j with
  | some (.box cs) => packSh σ none b cs fun y rd is => finU σ (Nat.add j 1) ps fun u rd' is' => k (y, u) (capp rd rd') (capp (somes is) is')
  | _ => none
def parIds (j : Nat) : List (PK O) → List Nat
 | [] => []
 | .row _ :: ps => j :: parIds (Nat.add j 1) ps
 | .obj _ :: ps => j :: parIds (Nat.add j 1) ps
 | .box _ :: ps => j :: parIds (Nat.add j 1) ps
 | _ :: ps => parIds (Nat.add j 1) ps

def finish0 (tt : List (Nat × TI)) (ps : List (PK O)) (rs : List (RK O)) (vs : List ResultVar) (σ : St O) : Option (rdens rs × upds ps) :=
 fins tt σ rs vs fun r rd ow => finU σ 0 ps fun u rd' is => match nodupN (capp ow (capp (parIds 0 ps) is)) with
  | true => match disjN (capp rd rd') (capp ow (capp (parIds 0 ps) is)) with
   | true => some (r, u)
   | false => none
  | false => none

def finish (tt : List (Nat × TI)) (ps : List (PK O)) (rs : List (RK O)) (vs : List ResultVar) (σ : St O) : Option (rdens rs × upds ps) := σ.close.force fun σ => finish0 tt ps rs vs σ
noncomputable def runF (cfg : Cfg O) (K : Nat) (f : Func) (tms : List Tm) (ps : List (PK O)) (rs : List (RK O)) (x : dens ps) : Option (rdens rs × upds ps) :=
 match f.body with
 | some c => (initSt ps x).force fun σ => run { cfg with N := f.ntmps } K c (annot c tms).1 (Nat.add 64 (updN ps)) σ (fun _ => finish cfg.tt ps rs f.results.toList) (fun _ _ _ => none) (finish cfg.tt ps rs f.results.toList)
 | none => none
end code
end Go.BB
