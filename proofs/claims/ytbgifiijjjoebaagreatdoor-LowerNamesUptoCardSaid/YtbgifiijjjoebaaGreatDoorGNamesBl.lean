/- A machine for closed runs: it runs code over memory of its own, and is run by the kernel. No conditions. -/
import GoSem.Dispatch
import Derived.Control
import Derived.KernelRfl
import Derived.Deep.MidRow
namespace Go.Proofs.YtbgifiijjjoebaaGreatDoor.Cm
open Go

inductive Bp where
 | h
 | o (p : Bp)
 | i (p : Bp)
noncomputable def Bp.inc (p : Bp) : Bp := Bp.rec (.o .h) (fun p _ => .i p) (fun _ ih => .o ih) p
noncomputable def bpB (p : Bp) : Bp → Bool := Bp.rec (fun q => Bp.rec true (fun _ _ => false) (fun _ _ => false) q) (fun _ ih q => Bp.rec false (fun q _ => ih q) (fun _ _ => false) q) (fun _ ih q => Bp.rec false (fun _ _ => false) (fun q _ => ih q) q) p
noncomputable def toBK (_ : Nat) (ih : Nat → Bp) (n : Nat) : Bp := Nat.rec .h (fun k _ => Bool.rec (.i (ih (Nat.div k 2))) (.o (ih (Nat.div k 2))) (Nat.beq (Nat.mod k 2) 0)) n
noncomputable def toB (n : Nat) : Bp := Nat.rec (fun _ => .h) toBK n n
inductive Tr (α : Type) where
 | e
 | n (l : Tr α) (v : Option α) (r : Tr α)
noncomputable def Tr.lf {α : Type} (t : Tr α) : Tr α := Tr.rec .e (fun l _ _ _ _ => l) t
noncomputable def Tr.rt {α : Type} (t : Tr α) : Tr α := Tr.rec .e (fun _ _ r _ _ => r) t
noncomputable def Tr.vl {α : Type} (t : Tr α) : Option α := Tr.rec none (fun _ v _ _ _ => v) t
noncomputable def Tr.get {α : Type} (t : Tr α) (k : Bp) : Option α := Bp.rec Tr.vl (fun _ ih t => ih t.lf) (fun _ ih t => ih t.rt) k t
noncomputable def Tr.upd {α : Type} (t : Tr α) (k : Bp) (x : Option α) : Tr α := Bp.rec (fun t => .n t.lf x t.rt) (fun _ ih t => .n (ih t.lf) t.vl t.rt) (fun _ ih t => .n t.lf t.vl (ih t.rt)) k t
noncomputable def oror {α : Type} (x y : Option α) : Option α := Option.rec y (fun x => some x) x
noncomputable def omin {α : Type} (x y : Option α) : Option α := Option.rec y (fun _ => none) x
noncomputable def Tr.uni {α : Type} (a b : Tr α) : Tr α := Tr.rec (fun a => a) (fun _ v _ ihl ihr a => .n (ihl a.lf) (oror v a.vl) (ihr a.rt)) b a
noncomputable def Tr.dif {α : Type} (a b : Tr α) : Tr α := Tr.rec (fun a => a) (fun _ v _ ihl ihr a => .n (ihl a.lf) (omin v a.vl) (ihr a.rt)) b a

inductive CV where
 | i (k : IntKind) (n : Int)
 | b (x : Bool)
 | s (l : List Nat)
 | np
 | p (k : Bp) (o : Nat)
 | nl
 | sl (k : Bp) (o n c : Nat)
 | st (k : Bp) (o n es : Nat)
 | nm
 | m (k : Bp)
 | nf
 | f (n : FuncId) (ks : List (Bp × Nat))
 | u
inductive AV where
 | c (x : CV)
 | g (cs : List CV)
inductive SV where
 | c (x : CV)
 | g (cs : List CV)
 | t (xs : List AV)
 | u
 | k
inductive Ob where
 | x (tail : Bool) (T : TypeId) (sz : Nat) (cs : Tr CV)
 | m (es : List (CV × AV))
 | it (k : Bp) (n : Nat) (rem : List Nat) (la : Option Nat)
inductive Ex where
 | normal | exit (id : Nat) | ret
inductive Rs (α : Type) where
 | one (a : α)
 | two (a b : α)
 | no (w : List String)
noncomputable def app2 {α : Type} (x y : Rs α) : Rs α := match x, y with
 | .one a, .one b => .two a b
 | .no w, _ => .no w
 | _, .no w => .no w
 | _, _ => .no ["many"]
noncomputable def bnd {α β : Type} (x : Rs α) (h : α → Rs β) : Rs β := Rs.rec (fun a => h a) (fun a b => app2 (h a) (h b)) (fun w => .no w) x
noncomputable def tagR {α : Type} (s : String) (x : Rs α) : Rs α := Rs.rec (fun a => .one a) (fun a b => .two a b) (fun w => .no (s :: w)) x
abbrev Mm := Tr Ob
inductive SL where
 | nil
 | cons (k : Nat) (v : SV) (r : SL)
structure Fm where
 k : Nat
 l : SL
 r : Tr SV
structure Rt where
 v : SV
 m : Mm
 c : Bp
abbrev Res := Rs Rt

def cCV : Value → Option CV
 | .int k n => some (.i k n)
 | .bool x => some (.b x)
 | .string s => if s.size ≤ 1048576 then some (.s (s.data.toList.map UInt8.toNat)) else none
 | .slice none 0 0 => some .nl
 | .pointer none => some .np
 | .nilFunc => some .nf
 | .map none => some .nm
 | _ => none
noncomputable def cons? {α : Type} (x : Option α) (y : Option (List α)) : Option (List α) := match x with
 | some x => (match y with
  | some y => some (x :: y)
  | none => none)
 | none => none
noncomputable def cCVs (l : List Value) : Option (List CV) := List.rec (some []) (fun v _ ih => cons? (cCV v) ih) l
def ofO (x : Option CV) : SV := match x with
 | some x => .c x
 | none => .u
def ofG (x : Option (List CV)) : SV := match x with
 | some x => .g x
 | none => .u
noncomputable def cSV : Value → SV
 | .agg cs => ofG (cCVs cs.toList)
 | v => ofO (cCV v)
def gd (x : Option SV) : SV := match x with
 | some x => x
 | none => .u
noncomputable def bitB (m t : Nat) : Bool := Nat.beq (Nat.mod (Nat.shiftRight m t) 2) 1
noncomputable def fbas (k : Nat) (r : Tr SV) (t : Nat) : SV := Bool.rec .u (gd (r.get (toB t))) (bitB k t)
noncomputable def fgetL (k : Nat) (r : Tr SV) (t : Nat) (l : SL) : SV := SL.rec (fbas k r t) (fun j v _ ih => Bool.rec ih v (Nat.beq j t)) l
noncomputable def Fm.get (f : Fm) (t : Nat) : SV := fgetL f.k f.r t f.l
noncomputable def flushT (k : Nat) (r : Tr SV) (l : SL) : Tr SV := SL.rec r (fun j v _ ih => Bool.rec ih (ih.upd (toB j) (some v)) (bitB k j)) l
noncomputable def Fm.flush (f : Fm) : Fm := ⟨f.k, .nil, flushT f.k f.r f.l⟩
noncomputable def ev (f : Fm) (x : Operand) : SV := Operand.rec (fun t => f.get t) (fun v => cSV v) (fun _ => .u) (fun n => .c (.f n [])) x
def cellsOf (x : SV) : Option (List CV) := match x with
 | .c x => some [x]
 | .g cs => some cs
 | _ => none
def asC (x : SV) : Option CV := match x with
 | .c x => some x
 | _ => none
def cP (x : CV) : Option (Bp × Nat) := match x with
 | .p k o => some (k, o)
 | _ => none
def asP (x : SV) : Option (Bp × Nat) := match x with
 | .c x => cP x
 | _ => none
def cB (x : CV) : Option Bool := match x with
 | .b t => some t
 | _ => none
def asB (x : SV) : Option Bool := match x with
 | .c x => cB x
 | _ => none
def iN (n : Int) : Option Nat := match n with
 | .ofNat a => some a
 | _ => none
def cN (x : CV) : Option Nat := match x with
 | .i _ n => iN n
 | _ => none
def asN (x : SV) : Option Nat := match x with
 | .c x => cN x
 | _ => none
def asM (x : SV) : Option Bp := match x with
 | .c (.m k) => some k
 | _ => none

def rowB : TypeDesc → Bool
 | .struct _ | .array _ _ => true
 | _ => false
def lyt (P : Program) (t : TypeId) : Option (Bool × Nat) :=
 match P.info? t, P.underlying t with
 | some i, some d => some (rowB d, i.size)
 | _, _ => none
noncomputable def zeroC (P : Program) (T : TypeId) : Option (List CV) := ((P.info? T).bind (·.zero)).bind fun z => cCVs z.cells.toList
def fldP (P : Program) (T : TypeId) (i : Nat) : Option (Nat × Nat) :=
 match P.underlying T with
 | some (.struct fs) => match fs[i]? with
  | some f => match P.info? f.type with
   | some j => if j.size = 0 then none else some (f.offset, j.size)
   | none => none
  | none => none
 | _ => none
def fldV (P : Program) (T : TypeId) (i : Nat) : Option (Nat × Bool × Nat) :=
 match P.underlying T with
 | some (.struct fs) => match fs[i]? with
  | some f => match lyt P f.type with
   | some (g, n) => some (f.offset, g, n)
   | none => none
  | none => none
 | _ => none
def offP (P : Program) (T : TypeId) : Option (List (Nat × Nat)) := match P.underlying T with
 | some (.struct fs) => fs.toList.mapM (fun f => (P.info? f.type).map fun i => (f.offset, i.size))
 | _ => none
structure Elt where
 e : TypeId
 s : Nat
 y : Nat
noncomputable def Elt.ok (e : Elt) : Bool := Nat.blt 0 e.s && Nat.ble e.y 1048576 && Nat.ble e.s 1048576
def eltP (P : Program) (T : TypeId) : Option Elt :=
 match P.underlying T with
 | some (.slice e) => match P.info? e with
  | some i => match i.zero with
   | some z => if z.cells.size = i.size then some ⟨e, i.size, i.bytes⟩ else none
   | none => none
  | none => none
 | _ => none
def arrP (P : Program) (T : TypeId) : Option (Nat × Nat) :=
 match P.underlying T with
 | some (.array n e) => match P.info? e with
  | some i => some (n, i.size)
  | none => none
 | _ => none
def intP (P : Program) (t : TypeId) : Option IntKind := match P.underlying t with
 | some (.int k) => some k
 | _ => none
def strP (P : Program) (t : TypeId) : Bool := match P.underlying t with
 | some .string => true
 | _ => false
def bytP (P : Program) (t : TypeId) : Bool := match P.underlying t with
 | some (.slice e) => match P.underlying e with
  | some (.int .u8) => true
  | _ => false
 | _ => false
def sliB (P : Program) (t : TypeId) : Bool := match P.underlying t with
 | some (.slice _) => true
 | some .string => true
 | _ => false
def ptrP (P : Program) (t : TypeId) : Option (TypeId × Nat) := match P.underlying t with
 | some (.pointer e) => (match P.info? e with
  | some i => some (e, i.size)
  | none => none)
 | _ => none
def unsP (P : Program) (t : TypeId) : Bool := match P.underlying t with
 | some .unsafePointer => true
 | _ => false
def nlP (P : Program) (t : TypeId) : Nat := match P.underlying t with
 | some (.pointer _) => 1
 | some (.func ..) => 2
 | some (.map ..) => 3
 | some (.slice _) => 4
 | some .bool => 5
 | _ => 0
def twoP (P : Program) (t : TypeId) : Option (IntKind × IntKind) := match P.underlying t with
 | some (.struct fs) => match fs.toList with
  | [f, g] => match P.underlying f.type, P.underlying g.type, P.info? f.type, P.info? g.type with
   | some (.int k), some (.int k'), some i, some j => if f.name ≠ "_" ∧ g.name ≠ "_" ∧ i.size = 1 ∧ j.size = 1 ∧ f.offset = 0 ∧ g.offset = 1 ∧ i.desc.isRow = false ∧ j.desc.isRow = false ∧ P.stoodInHeld t = false then some (k, k') else none
   | _, _, _, _ => none
  | _ => none
 | _ => none

noncomputable def setL (cs : Tr CV) (o : Nat) (l : List CV) : Tr CV :=
 List.rec (fun cs _ => cs) (fun x _ ih cs o => ih (cs.upd (toB o) (some x)) (Nat.add o 1)) l cs o
noncomputable def getN (cs : Tr CV) (o n : Nat) : Option (List CV) :=
 Nat.rec (fun _ => some []) (fun _ ih o => cons? (cs.get (toB o)) (ih (Nat.add o 1))) n o
noncomputable def ldX (o n : Nat) (ob : Option Ob) : Option (List CV) := match ob with
 | some (.x _ _ sz cs) => Bool.casesOn (Nat.ble (Nat.add o n) sz) none (getN cs o n)
 | _ => none
noncomputable def ldC (m : Mm) (k : Bp) (o n : Nat) : Option (List CV) := ldX o n (m.get k)
noncomputable def stX (m : Mm) (k : Bp) (o : Nat) (l : List CV) (ob : Option Ob) : Option Mm := match ob with
 | some (.x tl T sz cs) => Bool.casesOn (Nat.ble (Nat.add o l.length) sz) none (some (m.upd k (some (.x tl T sz (setL cs o l)))))
 | _ => none
noncomputable def stC (m : Mm) (k : Bp) (o : Nat) (l : List CV) : Option Mm := stX m k o l (m.get k)
noncomputable def newT (l : List CV) : Tr CV := setL .e 0 l
noncomputable def rep (z : List CV) (n : Nat) : List CV := Nat.rec [] (fun _ ih => z ++ ih) n

def kN (k : IntKind) : Nat := match k with
 | .i8 => 0 | .i16 => 1 | .i32 => 2 | .i64 => 3 | .u8 => 4 | .u16 => 5 | .u32 => 6 | .u64 => 7
def bB (a b : Bool) : Bool := bif a then b else !b
def shB (op : BinOp) : Bool := match op with
 | .shl | .shr => true
 | _ => false
def ieq (a b : Int) : Bool := match a, b with
 | .ofNat a, .ofNat b => Nat.beq a b
 | .negSucc a, .negSucc b => Nat.beq a b
 | _, _ => false
def ilt (a b : Int) : Bool := match a, b with
 | .ofNat a, .ofNat b => Nat.blt a b
 | .negSucc a, .negSucc b => Nat.blt b a
 | .negSucc _, .ofNat _ => true
 | .ofNat _, .negSucc _ => false
noncomputable def lseq (a b : List Nat) : Bool :=
 List.rec (fun b => match b with | [] => true | _ => false) (fun x _ ih b => match b with
  | [] => false
  | y :: r => bif Nat.beq x y then ih r else false) a b
noncomputable def llt (a b : List Nat) : Bool :=
 List.rec (fun b => match b with | [] => false | _ => true) (fun x _ ih b => match b with
  | [] => false
  | y :: r => bif Nat.blt x y then true else bif Nat.beq x y then ih r else false) a b
def bvK (op : BinOp) (k : IntKind) (x y : Int) : Int :=
 let a := BitVec.ofInt k.bits x
 let b := BitVec.ofInt k.bits y
 match op with
 | .and => k.wrap (a &&& b).toNat
 | .or => k.wrap (a ||| b).toNat
 | .xor => k.wrap (a ^^^ b).toNat
 | _ => k.wrap (a &&& ~~~b).toNat
def shN (k : IntKind) (y : Nat) : Nat := bif Nat.ble y k.bits then y else k.bits
def shlF (k : IntKind) (x : Int) (y : Option Nat) : Option CV := match y with
 | some y => some (.i k (k.wrap (x * 2 ^ shN k y)))
 | none => none
def shrF (k : IntKind) (x : Int) (y : Option Nat) : Option CV := match y with
 | some y => some (.i k (x.fdiv (2 ^ shN k y)))
 | none => none
def intF (op : BinOp) (k : IntKind) (x y : Int) : Option CV := match op with
 | .add => some (.i k (k.wrap (x + y)))
 | .sub => some (.i k (k.wrap (x - y)))
 | .mul => some (.i k (k.wrap (x * y)))
 | .quo => bif ieq y 0 then none else some (.i k (k.wrap (x.tdiv y)))
 | .rem => bif ieq y 0 then none else some (.i k (x.tmod y))
 | .and | .or | .xor | .andNot => some (.i k (bvK op k x y))
 | .eql => some (.b (ieq x y))
 | .neq => some (.b (!ieq x y))
 | .lss => some (.b (ilt x y))
 | .leq => some (.b (!ilt y x))
 | .gtr => some (.b (ilt y x))
 | .geq => some (.b (!ilt x y))
 | .shl => shlF k x (iN y)
 | .shr => shrF k x (iN y)
noncomputable def strF (op : BinOp) (x y : List Nat) : Option CV := match op with
 | .add => bif Nat.ble (Nat.add x.length y.length) 1048576 then some (.s (x ++ y)) else none
 | .eql => some (.b (lseq x y))
 | .neq => some (.b (!lseq x y))
 | .lss => some (.b (llt x y))
 | .leq => some (.b (llt x y || lseq x y))
 | .gtr => some (.b (!(llt x y || lseq x y)))
 | .geq => some (.b (!llt x y))
 | _ => none
def nlC (x : CV) : Nat × Bool := match x with
 | .np => (1, true)
 | .p _ _ => (1, false)
 | .nf => (2, true)
 | .f _ _ => (2, false)
 | .nm => (3, true)
 | .m _ => (3, false)
 | .nl => (4, true)
 | .sl _ _ _ _ => (4, false)
 | .st _ _ _ _ => (4, false)
 | _ => (0, false)
def eqF (op : BinOp) (b : Bool) : Option CV := match op with
 | .eql => some (.b b)
 | .neq => some (.b (!b))
 | _ => none
def nlF (op : BinOp) (p : Nat) (x y : Nat × Bool) : Option CV := bif Nat.blt 0 p && Nat.beq x.1 p && Nat.beq y.1 p && (x.2 || y.2) && (y.2 || Nat.blt p 4) then eqF op (x.2 && y.2) else none
noncomputable def binC (P : Program) (op : BinOp) (t : TypeId) (x y : CV) : Option CV := match x, y with
 | .i k a, .i j b => bif Nat.beq (kN k) (kN j) || shB op then intF op k a b else none
 | .s a, .s b => strF op a b
 | .b a, .b b => bif Nat.beq (nlP P t) 5 then eqF op (bB a b) else none
 | a, b => nlF op (nlP P t) (nlC a) (nlC b)
def twoF (op : BinOp) (p : Option (IntKind × IntKind)) (xs ys : List CV) : Option CV := match p, xs, ys with
 | some p, [.i i a, .i j b], [.i i' a', .i j' b'] => bif Nat.beq (kN i) (kN p.1) && Nat.beq (kN i') (kN p.1) && Nat.beq (kN j) (kN p.2) && Nat.beq (kN j') (kN p.2) then eqF op (ieq a a' && ieq b b') else none
 | _, _, _ => none
noncomputable def binF (P : Program) (op : BinOp) (t : TypeId) (x y : SV) : Option CV := match x, y with
 | .c a, .c b => binC P op t a b
 | .g a, .g b => twoF op (twoP P t) a b
 | _, _ => none
def unC (op : UnOp) (x : CV) : Option CV := match op, x with
 | .not, .b x => some (.b !x)
 | .neg, .i k x => some (.i k (k.wrap (0 - x)))
 | .xor, .i k x => some (.i k (bvK .xor k (if k.signed then -1 else k.max) x))
 | _, _ => none

def ok (r : SV) (m : Mm) (c : Bp) : Res := .one ⟨r, m, c⟩
def okO (m : Mm) (c : Bp) (x : Option CV) : Res := match x with
 | some x => .one ⟨.c x, m, c⟩
 | none => .no []
def okS (m : Mm) (c : Bp) (x : Option SV) : Res := match x with
 | some x => .one ⟨x, m, c⟩
 | none => .no []
def okR (x : Option Rt) : Res := match x with
 | some x => .one x
 | none => .no []
def okM (r : SV) (c : Bp) (x : Option Mm) : Res := match x with
 | some m => .one ⟨r, m, c⟩
 | none => .no []
noncomputable def okN (tl : Bool) (T : TypeId) (r : SV) (m : Mm) (c : Bp) (l : List CV) : Res := .one ⟨r, m.upd c (some (.x tl T l.length (newT l))), c.inc⟩
def ofL (g : Bool) (l : Option (List CV)) : Option SV := match l with
 | some l => (match g with
  | true => some (.g l)
  | false => (match l with
   | [x] => some (.c x)
   | _ => none))
 | none => none

noncomputable def srcL (n : Nat) (l : Option (List CV)) : Option (Nat × List CV) := match l with
 | some l => some (n, l)
 | none => none
def u8s (l : List Nat) : List CV := l.map fun x : Nat => CV.i .u8 (Int.ofNat x)
noncomputable def srcC (m : Mm) (es : Nat) (x : CV) : Option (Nat × List CV) := match x with
 | .nl => some (0, [])
 | .sl k o n _ => srcL n (ldC m k o (Nat.mul n es))
 | .st k o n _ => srcL n (ldC m k o (Nat.mul n es))
 | .s l => bif Nat.beq es 1 then some (l.length, u8s l) else none
 | _ => none
noncomputable def srcF (m : Mm) (es : Nat) (x : SV) : Option (Nat × List CV) := match x with
 | .c x => srcC m es x
 | _ => none
noncomputable def grow (m : Mm) (c : Bp) (T : TypeId) (n' es : Nat) (l : List CV) (old : Option (List CV)) : Option Rt := match old with
 | some old => some ⟨.c (.st c 0 n' es), m.upd c (some (.x true T (Nat.mul n' es) (newT (old ++ l)))), c.inc⟩
 | none => none
noncomputable def appT (m : Mm) (c : Bp) (e : Elt) (k : Bp) (o n n' : Nat) (l : List CV) (ob : Option Ob) : Option Rt := match ob with
 | some (.x tl T sz cs) => bif Nat.ble (Nat.add o (Nat.mul (Nat.add n n') e.s)) sz then some ⟨.c (.st k o (Nat.add n n') e.s), m.upd k (some (.x tl T sz (setL cs (Nat.add o (Nat.mul n e.s)) l))), c⟩
   else bif Nat.beq o 0 && Nat.beq (Nat.mul n e.s) sz && Nat.beq T e.e && Nat.ble n 1048576 then some ⟨.c (.st c 0 (Nat.add n n') e.s), (m.upd k none).upd c (some (.x true e.e (Nat.mul (Nat.add n n') e.s) (setL cs sz l))), c.inc⟩ else none
 | _ => none
noncomputable def appI (c k : Bp) (o n cap : Nat) (m : Option Mm) : Option Rt := match m with
 | some m => some ⟨.c (.sl k o n cap), m, c⟩
 | none => none
noncomputable def appC (m : Mm) (c : Bp) (e : Elt) (n' : Nat) (l : List CV) (s : CV) : Option Rt := match s with
 | .nl => bif Nat.beq n' 0 then some ⟨.c .nl, m, c⟩ else grow m c e.e n' e.s l (some [])
 | .sl k o n cap => bif Nat.ble (Nat.add n n') cap then appI c k o (Nat.add n n') cap (stC m k (Nat.add o (Nat.mul n e.s)) l) else bif Nat.ble cap 1048576 then grow m c e.e (Nat.add n n') e.s l (ldC m k o (Nat.mul n e.s)) else none
 | .st k o n es => bif Nat.beq es e.s then appT m c e k o n n' l (m.get k) else none
 | _ => none
noncomputable def appS (m : Mm) (c : Bp) (e : Elt) (n' : Nat) (l : List CV) (s : SV) : Option Rt := match s with
 | .c s => appC m c e n' l s
 | _ => none
noncomputable def appF (m : Mm) (c : Bp) (e : Elt) (s : SV) (x : Option (Nat × List CV)) : Res := match x with
 | some x => bif e.ok && Nat.ble x.1 1048576 then okR (appS m c e x.1 x.2 s) else .no []
 | none => .no []
def copN (m' : Option Mm) (c : Bp) (n : Nat) : Res := okM (.c (.i .i64 (Int.ofNat n))) c m'
noncomputable def copG (m : Mm) (c : Bp) (es : Nat) (k : Bp) (o n : Nat) (l : List CV) : Res := bif Nat.beq n 0 then ok (.c (.i .i64 0)) m c else copN (stC m k o (l.take (Nat.mul n es))) c n
def mn (a b : Nat) : Nat := bif Nat.ble a b then a else b
noncomputable def copC (m : Mm) (c : Bp) (es n' : Nat) (l : List CV) (s : CV) : Res := match s with
 | .nl => ok (.c (.i .i64 0)) m c
 | .sl k o n _ => copG m c es k o (mn n n') l
 | .st k o n _ => copG m c es k o (mn n n') l
 | _ => .no []
noncomputable def copF (m : Mm) (c : Bp) (es : Nat) (s : Option CV) (x : Option (Nat × List CV)) : Res := match s, x with
 | some s, some x => copC m c es x.1 x.2 s
 | _, _ => .no []
def num (d : Nat) (v : Option SV) : Option Nat := match v with
 | none => some d
 | some v => asN v
def slA (k : Bp) (o es : Nat) (a b d : Option Nat) (cap : Nat) : Option SV := match a, b, d with
 | some a, some b, some d => bif Nat.ble a b && Nat.ble b d && Nat.ble d cap then some (.c (.sl k (bif Nat.beq a d then o else Nat.add o (Nat.mul a es)) (Nat.sub b a) (Nat.sub d a))) else none
 | _, _, _ => none
def slT (k : Bp) (o n es : Nat) (a b : Option Nat) : Option SV := match a, b with
 | some a, some b => bif Nat.ble a b && Nat.ble b n && Nat.blt a n then some (.c (.st k (Nat.add o (Nat.mul a es)) (Nat.sub b a) es)) else none
 | _, _ => none
def slS (l : List Nat) (a b : Option Nat) : Option SV := match a, b with
 | some a, some b => bif Nat.ble a b && Nat.ble b l.length then some (.c (.s ((l.take b).drop a))) else none
 | _, _ => none
def slN (a b d : Option Nat) : Option SV := match a, b, d with
 | some a, some b, some d => bif Nat.beq (a + b + d) 0 then some (.c .nl) else none
 | _, _, _ => none
def slE (k : Bp) (o n : Nat) (lo hi mx : Option SV) (e : Option Elt) (cap : Nat) : Option SV := match e with
 | some e => slA k o e.s (num 0 lo) (num n hi) (num cap mx) cap
 | none => none
def slP (k : Bp) (o : Nat) (lo hi mx : Option SV) (e : Option (Nat × Nat)) : Option SV := match e with
 | some e => bif Nat.ble e.1 1048576 then slA k o e.2 (num 0 lo) (num e.1 hi) (num e.1 mx) e.1 else none
 | none => none
def slX (k : Bp) (o n es : Nat) (lo hi mx : Option SV) : Option SV := match mx with
 | none => slT k o n es (num 0 lo) (num n hi)
 | some d => slA k o es (num 0 lo) (num n hi) (asN d) n
def sliceC (P : Program) (T : TypeId) (lo hi mx : Option SV) (x : CV) : Option SV := match x with
 | .s l => (match mx with
  | none => bif strP P T then slS l (num 0 lo) (num l.length hi) else none
  | some _ => none)
 | .nl => (match eltP P T with
  | some _ => slN (num 0 lo) (num 0 hi) (num 0 mx)
  | none => none)
 | .sl k o n cap => slE k o n lo hi mx (eltP P T) cap
 | .st k o n es => (match eltP P T with
  | some e => bif Nat.beq es e.s then slX k o n es lo hi mx else none
  | none => none)
 | .p k o => slP k o lo hi mx (arrP P T)
 | _ => none
noncomputable def fillS (n : Nat) (cs : Tr CV) (ih : Tr CV → Option (Tr CV)) (q : Option (Nat × Nat)) (ys : Option (List CV)) : Option (Tr CV) := match q, ys with
 | some q, some ys => bif Nat.beq ys.length q.2 && Nat.ble (Nat.add q.1 q.2) n then ih (setL cs q.1 ys) else none
 | _, _ => none
noncomputable def fillF (pl : Nat → Option (Nat × Nat)) (n : Nat) (cs : Tr CV) (ps : List (Nat × SV)) : Option (Tr CV) :=
 List.rec (fun cs => some cs) (fun p _ ih cs => fillS n cs ih (pl p.1) (cellsOf p.2)) ps cs
def c8n (x : Option Nat) : Option Nat := match x with
 | some n => bif Nat.blt n 256 then some n else none
 | none => none
def c8 (x : CV) : Option Nat := match x with
 | .i k n => bif Nat.beq (kN k) 4 then c8n (iN n) else none
 | _ => none
noncomputable def bytesF (l : List CV) : Option (List Nat) :=
 List.rec (some []) (fun x _ ih => cons? (c8 x) ih) l

noncomputable def kEq (x y : CV) : Option Bool := match x, y with
 | .i k a, .i j b => bif Nat.beq (kN k) (kN j) then some (ieq a b) else none
 | .s a, .s b => some (lseq a b)
 | _, _ => none
def suc? (x : Option Nat) : Option Nat := match x with
 | some n => some (Nat.add n 1)
 | none => none
noncomputable def lookS (ih : Option Nat) (b : Option Bool) : Option Nat := match b with
 | some true => some 0
 | some false => suc? ih
 | none => none
noncomputable def look (es : List (CV × AV)) (d : CV) : Option Nat := List.rec (some 0) (fun p _ ih => lookS ih (kEq d p.1)) es
def kOk (k : Option IntKind) (d : CV) : Bool := match k, d with
 | some k, .i j _ => Nat.beq (kN k) (kN j)
 | none, .s _ => true
 | _, _ => false
def keyP (P : Program) (T : TypeId) : Option (Option IntKind) := match P.underlying T with
 | some (.map k _) => match P.underlying k with
  | some (.int k) => some (some k)
  | some .string => some none
  | _ => none
 | _ => none
noncomputable def zAV (v : Value) : Option AV := match v with
 | .agg cs => (cCVs cs.toList).bind fun l => some (.g l)
 | v => (cCV v).bind fun x => some (.c x)
noncomputable def mapZ (P : Program) (T : TypeId) : Option AV := match P.underlying T with
 | some (.map _ e) => ((P.info? e).bind (·.zero)).bind zAV
 | _ => none
def toA (x : SV) : Option AV := match x with
 | .c x => some (.c x)
 | .g xs => some (.g xs)
 | _ => none
def toR (x : AV) : SV := match x with
 | .c x => .c x
 | .g cs => .g cs
noncomputable def evs (f : Fm) (l : List Operand) : List SV := List.rec [] (fun x _ ih => ev f x :: ih) l
noncomputable def obM (ob : Option Ob) : Option (List (CV × AV)) := match ob with
 | some (.m es) => some es
 | _ => none

abbrev CallF := FuncId → List SV → Mm → Bp → Res
abbrev Opf := Program → CallF → Fm → Mm → Bp → Res
noncomputable def oMove (x : Operand) : Opf := fun _ _ f m c => .one ⟨ev f x, m, c⟩
def pickF (x y : SV) (t : Option Bool) (m : Mm) (c : Bp) : Res := match t with
 | some t => .one ⟨Bool.casesOn t y x, m, c⟩
 | none => .no []
noncomputable def oPick (x y z : Operand) : Opf := fun _ _ f m c => pickF (ev f y) (ev f z) (asB (ev f x)) m c
noncomputable def allocF (T : TypeId) (m : Mm) (c : Bp) (z : Option (List CV)) : Res := match z with
 | some l => okN false T (.c (.p c 0)) m c l
 | none => .no []
noncomputable def oAlloc (T : TypeId) : Opf := fun P _ _ m c => allocF T m c (zeroC P T)
noncomputable def oBox (T : TypeId) (x : Operand) : Opf := fun _ _ f m c => allocF T m c (cellsOf (ev f x))
noncomputable def evp (f : Fm) (ps : List (Nat × Operand)) : List (Nat × SV) := List.rec [] (fun p _ ih => (p.1, ev f p.2) :: ih) ps
noncomputable def bldG (n : Nat) (cs : Option (Tr CV)) : Option SV := match cs with
 | some cs => ofL true (getN cs 0 n)
 | none => none
noncomputable def buildF (ps : List (Nat × SV)) (offs : Option (List (Nat × Nat))) (z : Option (List CV)) : Option SV := match offs, z with
 | some offs, some z => bldG z.length (fillF (fun i => offs[i]?) z.length (newT z) ps)
 | _, _ => none
noncomputable def oBuild (T : TypeId) (ps : Array (Nat × Operand)) : Opf := fun P _ f m c => okS m c (buildF (evp f ps.toList) (offP P T) (zeroC P T))
noncomputable def bsT (m : Mm) (c : Bp) (T : TypeId) (len es : Nat) (cs : Option (Tr CV)) : Res := match cs with
 | some cs => .one ⟨.c (.sl c 0 len len), m.upd c (some (.x false T (Nat.mul len es) cs)), c.inc⟩
 | none => .no []
noncomputable def bsZ (len : Nat) (ps : List (Nat × SV)) (m : Mm) (c : Bp) (e : Elt) (z : Option (List CV)) : Res := match z with
 | some z => bif e.ok && Nat.beq z.length e.s && Nat.ble (Nat.mul len e.s) 16777216 then bsT m c e.e len e.s (fillF (fun i => some (Nat.mul i e.s, e.s)) (Nat.mul len e.s) (newT (rep z len)) ps) else .no []
 | none => .no []
noncomputable def bsF (P : Program) (len : Nat) (ps : List (Nat × SV)) (m : Mm) (c : Bp) (e : Option Elt) : Res := match e with
 | some e => bsZ len ps m c e (zeroC P e.e)
 | none => .no []
noncomputable def oBuildSlice (T : TypeId) (len : Nat) (ps : Array (Nat × Operand)) : Opf := fun P _ f m c => bsF P len (evp f ps.toList) m c (eltP P T)
noncomputable def ldF (m : Mm) (c : Bp) (l : Option (Bool × Nat)) (x : Option (Bp × Nat)) : Res := match l, x with
 | some l, some x => okS m c (ofL l.1 (ldC m x.1 x.2 l.2))
 | _, _ => .no []
noncomputable def oLoad (t : TypeId) (x : Operand) : Opf := fun P _ f m c => ldF m c (lyt P t) (asP (ev f x))
noncomputable def stF (m : Mm) (c : Bp) (t : Option (Bool × Nat)) (x : Option (Bp × Nat)) (l : Option (List CV)) : Res := match t, x, l with
 | some t, some x, some l => bif Nat.beq l.length t.2 then okM .u c (stC m x.1 x.2 l) else .no []
 | _, _, _ => .no []
noncomputable def oStore (t : TypeId) (x y : Operand) : Opf := fun P _ f m c => stF m c (lyt P t) (asP (ev f x)) (cellsOf (ev f y))
noncomputable def oNil (x : Operand) : Opf := fun _ _ f m c => okS m c (match ev f x with
 | .c (.p k o) => some (.c (.p k o))
 | .c (.f n ks) => some (.c (.f n ks))
 | _ => none)
noncomputable def oBin (op : BinOp) (t : TypeId) (x y : Operand) (_ : TypeId) : Opf := fun P _ f m c => okO m c (binF P op t (ev f x) (ev f y))
noncomputable def unS (op : UnOp) (x : Option CV) : Option CV := match x with
 | some x => unC op x
 | none => none
noncomputable def oUn (op : UnOp) (_ : TypeId) (x : Operand) : Opf := fun _ _ f m c => okO m c (unS op (asC (ev f x)))
def convI (n : Int) (k : Option IntKind) : Option CV := match k with
 | some k => some (.i k (k.wrap n))
 | none => none
def ik (P : Program) (t : TypeId) : Bool := match P.underlying t with
 | some _ => true
 | none => false
noncomputable def okB (_ : Program) (_ : TypeId) (m : Mm) (c : Bp) (l : List Nat) (e : Option Elt) : Res := match e with
 | some e => bif Nat.ble l.length 1048576 then okN true e.e (.c (.st c 0 l.length 1)) m c (u8s l) else .no []
 | none => .no []
noncomputable def convB (l : Option (Nat × List CV)) : Option CV := match l with
 | some l => (match bytesF l.2 with
  | some l => bif Nat.ble l.length 1048576 then some (.s l) else none
  | none => none)
 | none => none
noncomputable def lieB (P : Program) (o : Nat) (q : TypeId × Nat) (ob : Option Ob) : Bool := match ob with
 | some (.x tl T sz _) => bif tl then false else (bif Nat.blt o sz then (bif Nat.beq q.2 0 then true else liesAt P P.depth T (sz / P.cellsOf T) o q.1 1) else false)
 | _ => false
noncomputable def inB (o : Nat) (ob : Option Ob) : Bool := match ob with
 | some (.x _ _ sz _) => Nat.blt o sz
 | _ => false
noncomputable def convP (P : Program) (m : Mm) (k : Bp) (o : Nat) (a b : Option (TypeId × Nat)) (ua ub : Bool) : Bool := match a, b with
 | some a, none => ub && Nat.blt 0 a.2 && inB o (m.get k)
 | none, some b => ua && lieB P o b (m.get k)
 | _, _ => false
def sm1 (x : Option (TypeId × Nat)) : Bool := match x with
 | some _ => true
 | none => false
noncomputable def convC (P : Program) (t u : TypeId) (m : Mm) (c : Bp) (x : CV) : Res := match x with
 | .i _ n => okO m c (convI n (bif ik P t then intP P u else none))
 | .s l => bif strP P t then (bif strP P u then .one ⟨.c (.s l), m, c⟩ else bif bytP P u then okB P u m c l (eltP P u) else .no []) else .no []
 | .np => bif sm1 (ptrP P t) && unsP P u || unsP P t && sm1 (ptrP P u) then .one ⟨.c .np, m, c⟩ else .no []
 | .p k o => bif convP P m k o (ptrP P t) (ptrP P u) (unsP P t) (unsP P u) then .one ⟨.c (.p k o), m, c⟩ else .no []
 | x => bif bytP P t && strP P u then okO m c (convB (srcC m 1 x)) else .no []
noncomputable def convS (P : Program) (t u : TypeId) (m : Mm) (c : Bp) (x : Option CV) : Res := match x with
 | some x => convC P t u m c x
 | none => .no []
noncomputable def oConv (t u : TypeId) (x : Operand) : Opf := fun P _ f m c => convS P t u m c (asC (ev f x))
noncomputable def mkZ (m : Mm) (c : Bp) (e : Elt) (a b : Nat) (z : Option (List CV)) : Res := match z with
 | some z => bif e.ok && Nat.beq z.length e.s && Nat.beq a b && Nat.ble b 1048576 then .one ⟨.c (.sl c 0 a b), m.upd c (some (.x false e.e (Nat.mul b e.s) (newT (rep z b)))), c.inc⟩ else .no []
 | none => .no []
noncomputable def mkF (P : Program) (m : Mm) (c : Bp) (e : Option Elt) (a b : Option Nat) : Res := match e, a, b with
 | some e, some a, some b => mkZ m c e a b (zeroC P e.e)
 | _, _, _ => .no []
noncomputable def oMakeSlice (T : TypeId) (l q : Operand) : Opf := fun P _ f m c => mkF P m c (eltP P T) (asN (ev f l)) (asN (ev f q))
noncomputable def evo (f : Fm) (x : Option Operand) : Option SV := match x with
 | some x => some (ev f x)
 | none => none
def mxB (hi mx : Option SV) : Bool := match hi, mx with
 | none, some _ => false
 | _, _ => true
noncomputable def sliceS (P : Program) (T : TypeId) (lo hi mx : Option SV) (x : Option CV) : Option SV := match x with
 | some x => bif mxB hi mx then sliceC P T lo hi mx x else none
 | none => none
noncomputable def oSlice (T : TypeId) (x : Operand) (lo hi mx : Option Operand) : Opf := fun P _ f m c => okS m c (sliceS P T (evo f lo) (evo f hi) (evo f mx) (asC (ev f x)))
noncomputable def fldF (m : Mm) (c : Bp) (x : Option (Bp × Nat)) (q : Option (Nat × Nat)) : Res := match x, q with
 | some x, some q => .one ⟨.c (.p x.1 (Nat.add x.2 q.1)), m, c⟩
 | _, _ => .no []
noncomputable def oFieldAddr (T : TypeId) (x : Operand) (i : Nat) : Opf := fun P _ f m c => fldF m c (asP (ev f x)) (fldP P T i)
def asG (x : SV) : Option (List CV) := match x with
 | .g l => some l
 | _ => none
noncomputable def fvF (l : Option (List CV)) (q : Option (Nat × Bool × Nat)) : Option SV := match l, q with
 | some l, some q => bif Nat.ble (Nat.add q.1 q.2.2) l.length then ofL q.2.1 (some ((l.drop q.1).take q.2.2)) else none
 | _, _ => none
noncomputable def oField (T : TypeId) (x : Operand) (i : Nat) : Opf := fun P _ f m c => okS m c (fvF (asG (ev f x)) (fldV P T i))
def ixA (k : Bp) (o n es i : Nat) : Option SV := bif Nat.blt i n then some (.c (.p k (Nat.add o (Nat.mul i es)))) else none
noncomputable def ixC (P : Program) (T : TypeId) (i : Nat) (x : CV) : Option SV := match x with
 | .sl k o n _ => (match eltP P T with
  | some e => ixA k o n e.s i
  | none => none)
 | .st k o n es => (match eltP P T with
  | some e => bif Nat.beq es e.s then ixA k o n e.s i else none
  | none => none)
 | .p k o => (match arrP P T with
  | some e => ixA k o e.1 e.2 i
  | none => none)
 | _ => none
noncomputable def ixF (P : Program) (T : TypeId) (x : Option CV) (i : Option Nat) : Option SV := match x, i with
 | some x, some i => ixC P T i x
 | _, _ => none
noncomputable def oIndexAddr (T : TypeId) (x y : Operand) : Opf := fun P _ f m c => okS m c (ixF P T (asC (ev f x)) (asN (ev f y)))
def strN (x : Option Nat) : Option CV := match x with
 | some n => some (.i .u8 (Int.ofNat n))
 | none => none
noncomputable def sixF (x : Option CV) (i : Option Nat) : Option CV := match x, i with
 | some (.s l), some i => strN (l[i]?)
 | _, _ => none
noncomputable def oIndex (T : TypeId) (x y : Operand) : Opf := fun P _ f m c => okO m c (bif strP P T then sixF (asC (ev f x)) (asN (ev f y)) else none)
noncomputable def extrF (j : Nat) (x : SV) : Option SV := match x with
 | .t xs => (match xs[j]? with
  | some x => some (toR x)
  | none => none)
 | _ => none
noncomputable def oExtract (x : Operand) (j : Nat) : Opf := fun _ _ f m c => okS m c (extrF j (ev f x))
noncomputable def capsF (f : Fm) (l : List Operand) : Option (List (Bp × Nat)) := List.rec (some []) (fun x _ ih => cons? (asP (ev f x)) ih) l
def funF (n : FuncId) (ks : Option (List (Bp × Nat))) : Option SV := match ks with
 | some ks => some (.c (.f n ks))
 | none => none
noncomputable def oMakeFunc (fn : Fn) (fi cap : Array Operand) : Opf := fun _ _ f m c => match fn with
 | .func n => okS m c (bif Nat.beq fi.toList.length 0 then funF n (capsF f cap.toList) else none)
 | _ => .no []
def sm2 (x : Option (Option IntKind)) : Bool := match x with
 | some _ => true
 | none => false
def sm3 (x : Option Nat) : Bool := match x with
 | some _ => true
 | none => false
noncomputable def resB (f : Fm) (r : Option Operand) : Bool := match r with
 | none => true
 | some x => sm3 (asN (ev f x))
noncomputable def oMakeMap (T : TypeId) (r : Option Operand) : Opf := fun P _ f m c => bif resB f r && sm2 (keyP P T) then .one ⟨.c (.m c), m.upd c (some (.m [])), c.inc⟩ else .no []
def lkR (comma : Bool) (v : AV) (b : Bool) : SV := Bool.casesOn comma (toR v) (.t [v, .c (.b b)])
def lkV (comma : Bool) (z : AV) (p : Option (CV × AV)) : SV := match p with
 | some p => lkR comma p.2 true
 | none => lkR comma z false
def lkI (comma : Bool) (z : AV) (es : List (CV × AV)) (i : Option Nat) : Option SV := match i with
 | some i => some (lkV comma z (es[i]?))
 | none => none
noncomputable def lkE (comma : Bool) (d : CV) (z : AV) (es : Option (List (CV × AV))) : Option SV := match es with
 | some es => lkI comma z es (look es d)
 | none => none
noncomputable def lkC (m : Mm) (comma : Bool) (x d : CV) (z : AV) : Option SV := match x with
 | .m k => lkE comma d z (obM (m.get k))
 | .nm => some (lkR comma z false)
 | _ => none
noncomputable def lkF (m : Mm) (comma : Bool) (k : Option (Option IntKind)) (x d : Option CV) (z : Option AV) : Option SV := match k, x, d, z with
 | some k, some x, some d, some z => bif kOk k d then lkC m comma x d z else none
 | _, _, _, _ => none
noncomputable def oLookup (T : TypeId) (x y : Operand) (comma : Bool) : Opf := fun P _ f m c => okS m c (lkF m comma (keyP P T) (asC (ev f x)) (asC (ev f y)) (mapZ P T))
noncomputable def muI (m : Mm) (k : Bp) (d : CV) (v : AV) (es : List (CV × AV)) (i : Option Nat) : Option Mm := match i with
 | some i => some (m.upd k (some (.m (bif Nat.blt i es.length then es.set i (d, v) else es ++ [(d, v)]))))
 | none => none
noncomputable def muE (m : Mm) (k : Bp) (d : CV) (v : AV) (es : Option (List (CV × AV))) : Option Mm := match es with
 | some es => muI m k d v es (look es d)
 | none => none
noncomputable def muF (m : Mm) (q : Option (Option IntKind)) (x : Option Bp) (d : Option CV) (v : Option AV) : Option Mm := match q, x, d, v with
 | some q, some k, some d, some v => bif kOk q d then muE m k d v (obM (m.get k)) else none
 | _, _, _, _ => none
noncomputable def oMapUpdate (T : TypeId) (x y z : Operand) : Opf := fun P _ f m c => okM .u c (muF m (keyP P T) (asM (ev f x)) (asC (ev f y)) (toA (ev f z)))
noncomputable def meP (m : Mm) (c k : Bp) (d : CV) (z : AV) (es : List (CV × AV)) (i : Nat) (p : Option (CV × AV)) : Res := match p with
 | some p => .one ⟨.t [p.2, .c (.i .i64 (Int.ofNat i))], m.upd k (some (.m (es.set i (d, p.2)))), c⟩
 | none => .one ⟨.t [z, .c (.i .i64 (Int.ofNat i))], m.upd k (some (.m (es ++ [(d, z)]))), c⟩
noncomputable def meI (m : Mm) (c k : Bp) (d : CV) (z : AV) (es : List (CV × AV)) (i : Option Nat) : Res := match i with
 | some i => bif Nat.ble i 1048576 then meP m c k d z es i (es[i]?) else .no []
 | none => .no []
noncomputable def meE (m : Mm) (c k : Bp) (d : CV) (z : AV) (es : Option (List (CV × AV))) : Res := match es with
 | some es => meI m c k d z es (look es d)
 | none => .no []
noncomputable def meF (m : Mm) (c : Bp) (q : Option (Option IntKind)) (x : Option Bp) (d : Option CV) (z : Option AV) : Res := match q, x, d, z with
 | some q, some k, some d, some z => bif kOk q d then meE m c k d z (obM (m.get k)) else .no []
 | _, _, _, _ => .no []
noncomputable def oMapEntry (T : TypeId) (x y : Operand) : Opf := fun P _ f m c => meF m c (keyP P T) (asM (ev f x)) (asC (ev f y)) (mapZ P T)
noncomputable def esP (m : Mm) (k : Bp) (es : List (CV × AV)) (i : Nat) (v : AV) (p : Option (CV × AV)) : Option Mm := match p with
 | some p => some (m.upd k (some (.m (es.set i (p.1, v)))))
 | none => none
noncomputable def esE (m : Mm) (k : Bp) (i : Nat) (v : AV) (es : Option (List (CV × AV))) : Option Mm := match es with
 | some es => esP m k es i v (es[i]?)
 | none => none
def i64N (x : Option CV) : Option Nat := match x with
 | some (.i k n) => bif Nat.beq (kN k) 3 then iN n else none
 | _ => none
noncomputable def esF (m : Mm) (x : Option Bp) (i : Option Nat) (v : Option AV) : Option Mm := match x, i, v with
 | some k, some i, some v => esE m k i v (obM (m.get k))
 | _, _, _ => none
noncomputable def oEntryStore (_ : TypeId) (x y z : Operand) : Opf := fun _ _ f m c => okM .u c (esF m (asM (ev f x)) (i64N (asC (ev f y))) (toA (ev f z)))
noncomputable def rgE (m : Mm) (c k : Bp) (es : Option (List (CV × AV))) : Res := match es with
 | some es => .one ⟨.c (.p c 0), m.upd c (some (.it k es.length (List.range es.length) none)), c.inc⟩
 | none => .no []
noncomputable def rgF (m : Mm) (c : Bp) (x : Option Bp) : Res := match x with
 | some k => rgE m c k (obM (m.get k))
 | none => .no []
noncomputable def oRange (T : TypeId) (x : Operand) : Opf := fun P _ f m c => bif sm2 (keyP P T) then rgF m c (asM (ev f x)) else .no []
noncomputable def nxP (m : Mm) (c k q : Bp) (n : Nat) (es : List (CV × AV)) (i : Nat) (r : List Nat) : Res := match es[i]? with
 | some p => .one ⟨.t [.c (.b true), .c p.1, p.2], m.upd k (some (.it q n r (some i))), c⟩
 | none => .no []
noncomputable def nxR (m : Mm) (c k q : Bp) (n : Nat) (r : List Nat) (es : List (CV × AV)) : Res := match r with
 | [] => .one ⟨.t [.c (.b false)], m.upd k none, c⟩
 | [i] => nxP m c k q n es i []
 | [i, j] => app2 (nxP m c k q n es i [j]) (nxP m c k q n es j [i])
 | _ => .no ["next"]
noncomputable def nxE (m : Mm) (c k q : Bp) (n : Nat) (r : List Nat) (es : Option (List (CV × AV))) : Res := match es with
 | some es => bif Nat.beq es.length n then nxR m c k q n r es else .no []
 | none => .no []
noncomputable def nxO (m : Mm) (c k : Bp) (ob : Option Ob) : Res := match ob with
 | some (.it q n r _) => nxE m c k q n r (obM (m.get q))
 | _ => .no []
noncomputable def nxF (m : Mm) (c : Bp) (x : Option (Bp × Nat)) : Res := match x with
 | some x => bif Nat.beq x.2 0 then nxO m c x.1 (m.get x.1) else .no []
 | none => .no []
noncomputable def enE (n i : Nat) (es : Option (List (CV × AV))) : Option SV := match es with
 | some es => bif Nat.beq es.length n then (match es[i]? with
  | some p => some (.t [.c p.1, p.2])
  | none => none) else none
 | none => none
noncomputable def enO (m : Mm) (ob : Option Ob) : Option SV := match ob with
 | some (.it q n _ (some i)) => enE n i (obM (m.get q))
 | _ => none
noncomputable def enF (m : Mm) (x : Option (Bp × Nat)) : Option SV := match x with
 | some x => bif Nat.beq x.2 0 then enO m (m.get x.1) else none
 | none => none
noncomputable def oNext (x : Operand) (s : Bool) : Opf := fun _ _ f m c => bif s then .no [] else nxF m c (asP (ev f x))
noncomputable def oEntry (x : Operand) : Opf := fun _ _ f m c => okS m c (enF m (asP (ev f x)))
noncomputable def mlen (es : Option (List (CV × AV))) : Option Nat := match es with
 | some es => some es.length
 | none => none
noncomputable def lenC (m : Mm) (x : CV) : Option Nat := match x with
 | .nl => some 0
 | .sl _ _ n _ => some n
 | .st _ _ n _ => some n
 | .s l => some l.length
 | .nm => some 0
 | .m k => mlen (obM (m.get k))
 | _ => none
def capC (x : CV) : Option Nat := match x with
 | .nl => some 0
 | .sl _ _ _ n => some n
 | _ => none
def natO (m : Mm) (c : Bp) (x : Option Nat) : Res := match x with
 | some n => .one ⟨.c (.i .i64 (Int.ofNat n)), m, c⟩
 | none => .no []
noncomputable def maxF (mx : Bool) (x y : Option CV) : Option CV := match x, y with
 | some (.i k a), some (.i _ b) => some (.i k (bif (bif mx then ilt a b else ilt b a) then b else a))
 | _, _ => none
def lenP (P : Program) (ts : List TypeId) : Nat := match ts with
 | [t] => (match P.underlying t with
  | some (.slice _) => 1
  | some .string => 2
  | some (.map ..) => 3
  | _ => 0)
 | _ => 0
def lenK (x : CV) : Nat := match x with
 | .nl | .sl _ _ _ _ | .st _ _ _ _ => 1
 | .s _ => 2
 | .nm | .m _ => 3
 | _ => 4
noncomputable def lenS (m : Mm) (p : Nat) (x : Option CV) : Option Nat := match x with
 | some x => bif Nat.beq (lenK x) p then lenC m x else none
 | none => none
def capS (p : Nat) (x : Option CV) : Option Nat := match x with
 | some x => bif Nat.beq p 1 then capC x else none
 | none => none
noncomputable def bLen (p : Nat) (xs : List SV) (m : Mm) (c : Bp) : Res := match xs with
 | [x] => natO m c (lenS m p (asC x))
 | _ => .no []
noncomputable def bCap (p : Nat) (xs : List SV) (m : Mm) (c : Bp) : Res := match xs with
 | [x] => natO m c (capS p (asC x))
 | _ => .no []
noncomputable def bApp (e : Option Elt) (xs : List SV) (m : Mm) (c : Bp) : Res := match e, xs with
 | some e, [s, x] => appF m c e s (srcF m e.s x)
 | _, _ => .no []
noncomputable def bCop (e : Option Elt) (xs : List SV) (m : Mm) (c : Bp) : Res := match e, xs with
 | some e, [s, x] => copF m c e.s (asC s) (srcF m e.s x)
 | _, _ => .no []
noncomputable def bMax (mx : Bool) (xs : List SV) (m : Mm) (c : Bp) : Res := match xs with
 | [x, y] => okO m c (maxF mx (asC x) (asC y))
 | _ => .no []
def elt1 (P : Program) (ts : List TypeId) : Option Elt := match ts with
 | [t, u] => bif sliB P u then eltP P t else none
 | _ => none
noncomputable def bltF (b : Builtin) (ts : List TypeId) (xs : List SV) (P : Program) (m : Mm) (c : Bp) : Res := match b with
 | .len => bLen (lenP P ts) xs m c
 | .cap => bCap (lenP P ts) xs m c
 | .append => bApp (elt1 P ts) xs m c
 | .copy => bCop (elt1 P ts) xs m c
 | .max => bMax true xs m c
 | .min => bMax false xs m c
 | _ => .no ["builtin"]
noncomputable def clF (call : CallF) (xs : List SV) (m : Mm) (c : Bp) (fv : SV) : Res := match fv with
 | .c (.f n ks) => call n (xs ++ ks.map fun p => .c (.p p.1 p.2)) m c
 | _ => .no ["value"]
noncomputable def calF (q : Callee) (xs : List SV) (ts : List TypeId) : Opf := fun P call f m c => match q with
 | .builtin b => bltF b ts xs P m c
 | .value g => clF call xs m c (ev f g)
 | .invoke _ _ => .no ["invoke"]
noncomputable def oCall (q : Call) : Opf := fun P call f m c => calF q.callee (evs f q.args.toList) q.argTypes.toList P call f m c
def oNo (s : String) : Opf := fun _ _ _ _ _ => .no [s]
noncomputable def opF (o : Op) : Opf := match o with
 | .move x => oMove x
 | .assign x => oMove x
 | .pick c a b => oPick c a b
 | .alloc T => oAlloc T
 | .box T x => oBox T x
 | .build T ps => oBuild T ps
 | .buildSlice T n ps => oBuildSlice T n ps
 | .insert _ _ _ _ => oNo "insert"
 | .load t x => oLoad t x
 | .store t x y => oStore t x y
 | .ready _ => oNo "ready"
 | .waits _ => oNo "waits"
 | .nilCheck x => oNil x
 | .binOp op t x y u => oBin op t x y u
 | .unOp op t x => oUn op t x
 | .convert t u x => oConv t u x
 | .sliceToArrayPointer _ _ => oNo "sliceToArray"
 | .makeInterface _ _ => oNo "iface"
 | .makeFunc fn a b => oMakeFunc fn a b
 | .makeMap t r => oMakeMap t r
 | .makeChan _ _ => oNo "chan"
 | .makeSlice t a b => oMakeSlice t a b
 | .slice t x a b d => oSlice t x a b d
 | .fieldAddr t x i => oFieldAddr t x i
 | .field t x i => oField t x i
 | .indexAddr t x y => oIndexAddr t x y
 | .index t x y => oIndex t x y
 | .lookup t x y b => oLookup t x y b
 | .mapUpdate t x y z => oMapUpdate t x y z
 | .mapEntry t x y => oMapEntry t x y
 | .entryStore t x y z => oEntryStore t x y z
 | .range t x => oRange t x
 | .next x b => oNext x b
 | .entry x => oEntry x
 | .typeAssert _ _ _ _ => oNo "typeAssert"
 | .extract x j => oExtract x j
 | .call q => oCall q
 | .go _ => oNo "go"
 | .defer _ => oNo "defer"
 | .panic _ => oNo "panic"
 | .send _ _ => oNo "send"
 | .recv _ _ _ => oNo "recv"
 | .select _ _ => oNo "select"

structure Mk where
 s : Nat
 d : Nat
def Mk.see (k : Mk) (occ : Nat) : Mk := ⟨Nat.lor k.s occ, Nat.lor k.d (Nat.land k.s occ)⟩
def occX (a : Nat) (x : Operand) : Nat := match x with
 | .tmp t => Nat.lor a (Nat.shiftLeft 1 t)
 | _ => a
def occT (t : Option Nat) (a : Nat) : Nat := match t with
 | some t => Nat.lor a (Nat.shiftLeft 1 t)
 | none => a
noncomputable def occO (a : Nat) (o : Oper) : Nat := occT o.dst (List.rec (fun a => a) (fun x _ ih a => ih (occX a x)) o.op.operands.toList a)
noncomputable def occR (l : List Oper) : Nat := List.rec (fun a => a) (fun o _ ih a => ih (occO a o)) l 0
noncomputable def mkC (c : Code) : Mk → Mk := Code.rec (fun k => k) (fun _ ops _ k => k.see (occR ops.toList)) (fun _ _ iha ihb k => ihb (iha k)) (fun x _ _ iha ihb k => ihb (iha (k.see (occX 0 x)))) (fun _ _ ih k => ih k) (fun _ ih k => ih k) (fun _ _ _ _ _ _ k => k) (fun _ k => k) (fun _ ih k => ih k) (fun _ k => k) (fun _ k => k) (fun k => k) (fun _ k => k) c
def occV (a : Nat) (v : ResultVar) : Nat := match v with
 | .tmp t => Nat.lor a (Nat.shiftLeft 1 t)
 | .cell t _ => Nat.lor a (Nat.shiftLeft 1 t)
noncomputable def mkV (l : List ResultVar) : Nat := List.rec (fun a => a) (fun v _ ih a => ih (occV a v)) l 0
noncomputable def mskF (cd : Code) (rs : List ResultVar) (n : Nat) : Nat := ((mkC cd ⟨Nat.sub (Nat.shiftLeft 1 n) 1, 0⟩).see (mkV rs)).d

noncomputable def lB {α : Type} (f : α → α → Bool) (a b : List α) : Bool :=
 List.rec (fun b => match b with | [] => true | _ => false) (fun x _ ih b => match b with
  | [] => false
  | y :: r => bif f x y then ih r else false) a b
def oB {α : Type} (f : α → α → Bool) (a b : Option α) : Bool := match a, b with
 | none, none => true
 | some a, some b => f a b
 | _, _ => false
noncomputable def cvB (x y : CV) : Bool := match x, y with
 | .i k a, .i j b => Nat.beq (kN k) (kN j) && ieq a b
 | .b a, .b b => bB a b
 | .s a, .s b => lB Nat.beq a b
 | .np, .np => true
 | .p k o, .p j q => bpB k j && Nat.beq o q
 | .nl, .nl => true
 | .sl k o n c, .sl j q i d => bpB k j && Nat.beq o q && Nat.beq n i && Nat.beq c d
 | .st k o n c, .st j q i d => bpB k j && Nat.beq o q && Nat.beq n i && Nat.beq c d
 | .nm, .nm => true
 | .m k, .m j => bpB k j
 | .nf, .nf => true
 | .f n l, .f i r => Nat.beq n i && lB (fun a b : Bp × Nat => bpB a.1 b.1 && Nat.beq a.2 b.2) l r
 | .u, .u => true
 | _, _ => false
noncomputable def avB (x y : AV) : Bool := match x, y with
 | .c a, .c b => cvB a b
 | .g a, .g b => lB cvB a b
 | _, _ => false
noncomputable def svB (x y : SV) : Bool := match x, y with
 | .c a, .c b => cvB a b
 | .g a, .g b => lB cvB a b
 | .t a, .t b => lB avB a b
 | .u, .u => true
 | .k, .k => true
 | _, _ => false
noncomputable def trB {α : Type} (f : α → α → Bool) (a b : Tr α) : Bool :=
 Tr.rec (fun b => match b with | .e => true | _ => false) (fun _ v _ ihl ihr b => match b with
  | .e => false
  | .n l w r => bif oB f v w then (bif ihl l then ihr r else false) else false) a b
noncomputable def enB (a b : CV × AV) : Bool := cvB a.1 b.1 && avB a.2 b.2
noncomputable def obB (x y : Ob) : Bool := match x, y with
 | .x t T n cs, .x u U k ds => bB t u && Nat.beq T U && Nat.beq n k && trB cvB cs ds
 | .m a, .m b => lB enB a b
 | .it k a r x, .it j b s y => bpB k j && Nat.beq a b && lB Nat.beq r s && oB Nat.beq x y
 | _, _ => false
noncomputable def rtB (x y : Rt) : Bool := svB x.v y.v && bpB x.c y.c && trB obB x.m y.m

noncomputable def bpN (p : Bp) : Nat := Bp.rec 1 (fun _ ih => Nat.mul 2 ih) (fun _ ih => Nat.add (Nat.mul 2 ih) 1) p
noncomputable def nltK (n : Nat) (k : Bp) (_ : List Bp) (ih : Bool) : Bool := bif Nat.blt (bpN k) n then ih else false
noncomputable def nltB (N : Bp) (l : List Bp) : Bool := List.rec true (nltK (bpN N)) l
def nmC (x : CV) (r : List Bp) : List Bp := match x with
 | .p k _ => k :: r
 | .sl k _ _ _ => k :: r
 | .st k _ _ _ => k :: r
 | .m k => k :: r
 | .f _ ks => ks.map (·.1) ++ r
 | _ => r
noncomputable def nmL (l : List CV) (r : List Bp) : List Bp := List.rec r (fun x _ ih => nmC x ih) l
noncomputable def nmA (x : AV) (r : List Bp) : List Bp := match x with
 | .c x => nmC x r
 | .g l => nmL l r
noncomputable def nmS (x : SV) (r : List Bp) : List Bp := match x with
 | .c x => nmC x r
 | .g l => nmL l r
 | .t xs => List.rec r (fun x _ ih => nmA x ih) xs
 | _ => r
noncomputable def nmT (t : Tr CV) (r : List Bp) : List Bp := Tr.rec (fun r => r) (fun _ v _ ihl ihr r => ihl (match v with | some x => nmC x (ihr r) | none => ihr r)) t r
noncomputable def nmE (es : List (CV × AV)) (r : List Bp) : List Bp := List.rec r (fun e _ ih => nmA e.2 ih) es
noncomputable def nmO (ob : Ob) (r : List Bp) : List Bp := match ob with
 | .x _ _ _ cs => nmT cs r
 | .m es => nmE es r
 | .it k _ _ _ => k :: r
noncomputable def rch1 (m acc : Mm) (ih : Mm → List Bp → Mm) (k : Bp) (r : List Bp) : Mm := match acc.get k with
 | some _ => ih acc r
 | none => (match m.get k with
  | some ob => ih (acc.upd k (some ob)) (nmO ob r)
  | none => ih acc r)
noncomputable def rchS (m : Mm) (_ : Nat) (ih : Mm → List Bp → Mm) (acc : Mm) (l : List Bp) : Mm := match l with
 | [] => acc
 | k :: r => rch1 m acc ih k r
noncomputable def rch (m : Mm) (n : Nat) (l : List Bp) : Mm := Nat.rec (fun acc _ => acc) (rchS m) n .e l

structure St where
 f : Fm
 m : Mm
 c : Bp
abbrev Out := Rs (Ex × St)
noncomputable def put (f : Fm) (d : Option Nat) (r : SV) : Fm := Option.rec f (fun t => ⟨f.k, .cons t r f.l, f.r⟩) d
noncomputable def nextK (d : Option Nat) (ih : St → Out) (f : Fm) (r : Rt) : Out := ih ⟨put f d r.v, r.m, r.c⟩
noncomputable def runK (P : Program) (call : CallF) (o : Oper) (ih : St → Out) (S : St) : Out := bnd (opF o.op P call S.f S.m S.c) (nextK o.dst ih S.f)
noncomputable def grdV (w : Bool) (x : SV) : Option Bool := match x with
 | .c (.b x) => some (bB x w)
 | .k => some false
 | _ => none
noncomputable def grdK (P : Program) (call : CallF) (o : Oper) (ih : St → Out) (S : St) (g : Option Bool) : Out := match g with
 | some true => runK P call o ih S
 | some false => ih ⟨put S.f o.dst .k, S.m, S.c⟩
 | none => .no ["guard"]
def dstA (ops : Array Oper) (j : Nat) : Option Nat := (ops[j]?).bind (·.dst)
noncomputable def grdT (f : Fm) (w : Bool) (t : Option Nat) : Option Bool := match t with
 | some t => grdV w (f.get t)
 | none => none
noncomputable def consK (P : Program) (call : CallF) (ops : Array Oper) (o : Oper) (_ : List Oper) (ih : St → Out) (S : St) : Out :=
 Option.rec (runK P call o ih S) (fun g => grdK P call o ih S (grdT S.f g.2 (dstA ops g.1))) o.guard
noncomputable def endK (S : St) : Out := .one (.normal, ⟨S.f.flush, S.m, S.c⟩)
noncomputable def seqF (P : Program) (call : CallF) (ops : Array Oper) (l : List Oper) : St → Out := List.rec endK (consK P call ops) l

structure Al where
 b : Nat
 k : Bp
 ob : Ob
structure Qs where
 o : Oper
 f : Fm
 b : Nat
 a : Nat
 v : SV
structure Hs where
 m : Mm
 j : Nat
 l : Nat
structure Dr where
 S : St
 l : Nat
 am : Nat
 j : Nat
 h : List Hs
 al : List Al
 q : List Qs
noncomputable def subB (a b : Nat) : Bool := Nat.beq (Nat.land a b) a
noncomputable def disB (a b : Nat) : Bool := Nat.beq (Nat.land a b) 0
noncomputable def view (m : Mm) (j : Nat) (al : List Al) (a : Nat) : Mm :=
 List.rec m (fun x _ ih => bif subB x.b a && disB x.b j then ih.upd x.k (some x.ob) else ih) al
def oneR (r : Res) : Option Rt := match r with
 | .one r => some r
 | _ => none
noncomputable def sameV (v : SV) (r : Option Rt) : Bool := match r with
 | some r => svB v r.v
 | none => false
noncomputable def hisB (P : Program) (call : CallF) (o : Oper) (f : Fm) (c : Bp) (al : List Al) (a lm : Nat) (v : SV) (h : List Hs) : Bool :=
 List.rec true (fun x _ ih => bif subB (Nat.land a lm) x.l then (bif sameV v (oneR (opF o.op P call f (view x.m x.j al a) c)) then ih else false) else ih) h
noncomputable def reB (P : Program) (call : CallF) (m : Mm) (j : Nat) (c : Bp) (al : List Al) (a : Nat) (q : List Qs) : Bool :=
 List.rec true (fun x _ ih => bif subB x.b a then ih else (bif sameV x.v (oneR (opF x.o.op P call x.f (view m j al x.a) c)) then ih else false)) q
def bltC (b : Builtin) : Nat := match b with
 | .len | .cap => 1
 | .max | .min => 0
 | _ => 3
def calC (q : Callee) : Nat := match q with
 | .builtin b => bltC b
 | _ => 3
def opC (P : Program) (o : Op) : Nat := match o with
 | .move _ | .assign _ | .pick _ _ _ | .build _ _ | .nilCheck _ | .binOp _ _ _ _ _ | .unOp _ _ _ | .slice _ _ _ _ _ | .fieldAddr _ _ _ | .field _ _ _ | .indexAddr _ _ _ | .index _ _ _ | .extract _ _ | .makeFunc _ _ _ => 0
 | .convert _ u _ => bif bytP P u then 2 else 1
 | .load _ _ | .lookup _ _ _ _ | .entry _ => 1
 | .alloc _ | .box _ _ | .buildSlice _ _ _ | .makeMap _ _ | .makeSlice _ _ _ => 2
 | .call q => calC q.callee
 | _ => 3
noncomputable def dNext (D : Dr) (o : Oper) (v : SV) : Dr := ⟨⟨put D.S.f o.dst v, D.S.m, D.S.c⟩, D.l, D.am, D.j, D.h, D.al, D.q⟩
noncomputable def dPure (D : Dr) (o : Oper) (ih : Dr → Out) (r : Option Rt) : Out := match r with
 | some r => ih (dNext D o r.v)
 | none => .no ["pure"]
noncomputable def dRead (P : Program) (call : CallF) (D : Dr) (o : Oper) (b a : Nat) (ih : Dr → Out) (r : Option Rt) : Out := match r with
 | some r => bif (bif nltB D.S.c (nmS r.v []) then hisB P call o D.S.f D.S.c D.al a D.l r.v D.h else false) then ih ⟨⟨put D.S.f o.dst r.v, D.S.m, D.S.c⟩, D.l, D.am, D.j, D.h, D.al, ⟨o, D.S.f, b, a, r.v⟩ :: D.q⟩ else .no ["his"]
 | none => .no ["read"]
noncomputable def dAllO (D : Dr) (o : Oper) (b : Nat) (ih : Dr → Out) (r : Rt) (ob : Option Ob) : Out := match ob with
 | some ob => bif Nat.blt (bpN D.S.c) (bpN r.c) then ih ⟨⟨put D.S.f o.dst r.v, D.S.m, r.c⟩, D.l, Nat.lor D.am b, D.j, D.h, ⟨b, D.S.c, ob⟩ :: D.al, D.q⟩ else .no ["allc"]
 | none => .no ["allo"]
noncomputable def dAll (D : Dr) (o : Oper) (b : Nat) (ih : Dr → Out) (r : Option Rt) : Out := match r with
 | some r => dAllO D o b ih r (r.m.get D.S.c)
 | none => .no ["all"]
noncomputable def dLoud (P : Program) (call : CallF) (D : Dr) (o : Oper) (b a : Nat) (ih : Dr → Out) (r : Option Rt) : Out := match r with
 | some r => bif (bif Nat.ble (bpN D.S.c) (bpN r.c) then reB P call r.m (Nat.lor D.j (Nat.land a D.am)) r.c D.al a D.q else false) then ih ⟨⟨put D.S.f o.dst r.v, r.m, r.c⟩, Nat.lor D.l b, D.am, Nat.lor D.j (Nat.land a D.am), ⟨D.S.m, D.j, D.l⟩ :: D.h, D.al, D.q⟩ else .no ["re"]
 | none => .no ["loud"]
noncomputable def dCls (P : Program) (call : CallF) (o : Oper) (b a : Nat) (ih : Dr → Out) (D : Dr) (k : Nat) : Out := match k with
 | 0 => dPure D o ih (oneR (opF o.op P call D.S.f .e D.S.c))
 | 1 => dRead P call D o b a ih (oneR (opF o.op P call D.S.f (view D.S.m D.j D.al a) D.S.c))
 | 2 => dAll D o b ih (oneR (opF o.op P call D.S.f .e D.S.c))
 | _ => bif subB D.l a then dLoud P call D o b a ih (oneR (opF o.op P call D.S.f (view D.S.m D.j D.al a) D.S.c)) else .no [o.pos, "order"]
noncomputable def dGrd (P : Program) (call : CallF) (o : Oper) (b a : Nat) (ih : Dr → Out) (D : Dr) (g : Option Bool) : Out := match g with
 | some true => dCls P call o b a ih D (opC P o.op)
 | some false => ih (dNext D o .k)
 | none => .no ["dguard"]
noncomputable def ancE (bs : List Nat) (e : Edge) (a : Nat) : Nat := bif Region.binds .any e then Nat.lor a (Nat.lor (Nat.shiftLeft 1 e.on) (bs.getD e.on 0)) else a
noncomputable def ancO (bs : List Nat) (o : Oper) : Nat := List.rec (fun a => a) (fun e _ ih a => ih (ancE bs e a)) o.after.toList 0
noncomputable def ancs (l : List Oper) : List Nat := List.rec (fun bs => bs) (fun o _ ih bs => ih (bs ++ [ancO bs o])) l []
noncomputable def dCons (P : Program) (call : CallF) (ops : Array Oper) (o : Oper) (_ : List Oper) (ih : Nat → List Nat → Dr → Out) (i : Nat) (bs : List Nat) (D : Dr) : Out :=
 dGrd P call o (Nat.shiftLeft 1 i) (bs.headD 0) (ih (Nat.add i 1) bs.tail) D (match o.guard with
  | none => some true
  | some g => grdT D.S.f g.2 (dstA ops g.1))
noncomputable def dEnd (_ : Nat) (_ : List Nat) (D : Dr) : Out := .one (.normal, ⟨D.S.f.flush, view D.S.m D.j D.al D.am, D.S.c⟩)
def tmpsO (o : Oper) : List Nat := o.op.operands.toList.filterMap fun x => match x with | .tmp t => some t | _ => none
noncomputable def ltB (t : Nat) (l : List Nat) : Bool := List.rec false (fun x _ ih => bif Nat.beq x t then true else ih) l
noncomputable def rdsO (ops : Array Oper) (o : Oper) : List Nat := match o.guard with
 | some g => (match dstA ops g.1 with
  | some t => t :: tmpsO o
  | none => tmpsO o)
 | none => tmpsO o
noncomputable def sltB (d : Option Nat) (rs : List Nat) (d' : Option Nat) (rs' : List Nat) : Bool :=
 (match d with
 | some t => !(ltB t rs') && (match d' with
  | some u => !(Nat.beq t u)
  | none => true)
 | none => true) && (match d' with
 | some u => !(ltB u rs)
 | none => true)
noncomputable def pairB (ops : Array Oper) (bs : List Nat) (i j : Nat) : Bool := match ops[i]?, ops[j]? with
 | some o, some q => bitB (bs.getD j 0) i || sltB o.dst (rdsO ops o) q.dst (rdsO ops q)
 | _, _ => true
noncomputable def dOk (ops : Array Oper) (bs : List Nat) : Bool :=
 (List.range ops.size).all fun j => (match ops[j]? with
  | some o => o.after.toList.all fun e => !Region.binds .any e || Nat.blt e.on j
  | none => true) && (List.range j).all fun i => pairB ops bs i j
noncomputable def drawF (P : Program) (call : CallF) (ops : Array Oper) (S : St) : Out :=
 bif dOk ops (ancs ops.toList) then List.rec dEnd (dCons P call ops) ops.toList 0 (ancs ops.toList) ⟨S, 0, 0, 0, [], [], []⟩ else .no ["dOk"]

def ltO (n : Nat) (d : Option Nat) : Bool := match d with
 | some t => Nat.blt t n
 | none => true
noncomputable def dsR (n : Nat) (l : List Oper) : Bool := List.rec true (fun o _ ih => bif ltO n o.dst then ih else false) l
noncomputable def dsC (n : Nat) (c : Code) : Bool := Code.rec true (fun _ ops _ => dsR n ops.toList) (fun _ _ a b => bif a then b else false) (fun _ _ _ a b => bif a then b else false) (fun _ _ a => a) (fun _ a => a) (fun _ _ _ _ _ _ => false) (fun _ => true) (fun _ a => a) (fun _ => true) (fun _ => true) true (fun _ => true) c

abbrev Cdf := Program → CallF → (Code → St → Out) → St → Out
noncomputable def kSeq (b : Code) (ih : Code → St → Out) (r : Ex × St) : Out := match r.1 with
 | .normal => ih b r.2
 | e => .one (e, r.2)
noncomputable def kBlk (id : Nat) (r : Ex × St) : Out := match r.1 with
 | .exit j => bif Nat.beq j id then .one (.normal, r.2) else .one (.exit j, r.2)
 | e => .one (e, r.2)
noncomputable def kCond (a b : Code) (ih : Code → St → Out) (S : St) (t : Option Bool) : Out := match t with
 | some true => ih a S
 | some false => ih b S
 | none => .no ["cond"]
noncomputable def cReg (_ : Nat) (ops : Array Oper) (d : Bool) : Cdf := fun P call _ S => Bool.rec (seqF P call ops ops.toList S) (drawF P call ops S) d
noncomputable def cSeq (a b : Code) : Cdf := fun _ _ ih S => bnd (ih a S) (kSeq b ih)
noncomputable def cCond (x : Operand) (a b : Code) : Cdf := fun _ _ ih S => kCond a b ih S (asB (ev S.f x))
noncomputable def cBlk (id : Nat) (a : Code) : Cdf := fun _ _ ih S => bnd (ih a S) (kBlk id)
noncomputable def cLoop (a : Code) : Cdf := fun _ _ ih S => bnd (ih a S) (kSeq (.loop a) ih)
def cEnd (e : Ex) : Cdf := fun _ _ _ S => .one (e, S)
noncomputable def cScope (a : Code) : Cdf := fun _ _ ih S => ih a S
def cNo (s : String) : Cdf := fun _ _ _ _ => .no [s]
noncomputable def cdF (c : Code) : Cdf := match c with
 | .skip => cEnd .normal
 | .region id ops d => cReg id ops d
 | .seq a b => cSeq a b
 | .cond x a b => cCond x a b
 | .block id a => cBlk id a
 | .loop a => cLoop a
 | .rangeFunc _ _ _ _ => cNo "rangeFunc"
 | .exit id => cEnd (.exit id)
 | .scope a => cScope a
 | .label _ => cEnd .normal
 | .goto _ => cNo "goto"
 | .ret => cEnd .ret
 | .refuse _ => cNo "refuse"
noncomputable def resC (m : Mm) (l : Option (Bool × Nat)) (x : Option (Bp × Nat)) : Option AV := match l, x with
 | some l, some x => (match ofL l.1 (ldC m x.1 x.2 l.2) with
  | some v => toA v
  | none => none)
 | _, _ => none
noncomputable def resF (P : Program) (S : St) (v : ResultVar) : Option AV := match v with
 | .tmp t => toA (S.f.get t)
 | .cell t T => resC S.m (lyt P T) (asP (S.f.get t))
noncomputable def resFs (P : Program) (S : St) (l : List ResultVar) : Option (List AV) :=
 List.rec (some []) (fun v _ ih => cons? (resF P S v) ih) l
def oneV (l : List AV) : SV := match l with
 | [x] => toR x
 | xs => .t xs
noncomputable def atS (xs : List SV) (m : Mm) (c : Bp) : Res := match xs with
 | [x, .c v] => (match asP x with
  | some x => okM (.t []) c (stC m x.1 x.2 [v])
  | none => .no [])
 | _ => .no []
noncomputable def ptB (x : CV) : Bool := match x with
 | .np | .p _ _ => true
 | _ => false
noncomputable def atL (xs : List SV) (m : Mm) (c : Bp) : Res := match xs with
 | [x] => (match asP x with
  | some x => (match ofL false (ldC m x.1 x.2 1) with
   | some (.c y) => bif ptB y then .one ⟨.c y, m, c⟩ else .no []
   | _ => .no [])
  | none => .no [])
 | _ => .no []
noncomputable def ptEq (x y : CV) : Option Bool := match x, y with
 | .np, .np => some true
 | .np, .p _ _ => some false
 | .p _ _, .np => some false
 | .p k o, .p j q => bif bpB k j then some (Nat.beq o q) else none
 | _, _ => none
noncomputable def atC (xs : List SV) (m : Mm) (c : Bp) : Res := match xs with
 | [x, .c w, .c v] => (match asP x with
  | some x => (match ofL false (ldC m x.1 x.2 1) with
   | some (.c y) => (match ptEq y w with
    | some true => okM (.c (.b true)) c (stC m x.1 x.2 [v])
    | some false => .one ⟨.c (.b false), m, c⟩
    | none => .no [])
   | _ => .no [])
  | none => .no [])
 | _ => .no []
noncomputable def extF (nm : String) (xs : List SV) (m : Mm) (c : Bp) : Res :=
 bif nm == "sync/atomic.StorePointer" then atS xs m c
 else bif nm == "sync/atomic.LoadPointer" then atL xs m c
 else bif nm == "sync/atomic.CompareAndSwapPointer" then atC xs m c
 else .no ["extern"]
noncomputable def begL (l : List SV) : SL :=
 List.rec (fun s _ => s) (fun x _ ih s i => ih (.cons i x s) (Nat.add i 1)) l .nil 0
noncomputable def begF (cd : Code) (rs : List ResultVar) (l : List SV) : Fm := ⟨mskF cd rs l.length, begL l, .e⟩
def retV (S : St) (x : Option (List AV)) : Res := match x with
 | some xs => .one ⟨oneV xs, S.m, S.c⟩
 | none => .no ["res"]
noncomputable def retK (P : Program) (rs : List ResultVar) (r : Ex × St) : Res := match r.1 with
 | .exit _ => .no ["exit"]
 | _ => retV r.2 (resFs P r.2 rs)
noncomputable def gc (ks : List Bp) (r : Rt) : Rt := ⟨r.v, rch r.m 10000 (nmS r.v ks), r.c⟩
noncomputable def isoJ (m mr : Mm) (r : Rt) : Res := .one ⟨r.v, (m.dif mr).uni r.m, r.c⟩
noncomputable def isoK (m mr : Mm) (ks : List Bp) (r : Res) : Res := Rs.rec (fun r => isoJ m mr (gc ks r)) (fun r s => bif rtB (gc ks r) (gc ks s) then isoJ m mr (gc ks r) else .no ["iso"]) (fun w => .no w) r
noncomputable def nmX (l : List SV) : List Bp := List.rec [] (fun x _ ih => nmS x ih) l
noncomputable def isoF (P : Program) (ih : Code → St → Out) (fn : Func) (cd : Code) (args : List SV) (m : Mm) (c : Bp) (mr : Mm) : Res :=
 isoK m mr (nmX args) (bnd (ih cd ⟨begF cd fn.results.toList args, mr, c⟩) (retK P fn.results.toList))
noncomputable def bodyK (P : Program) (fk : String → Bool) (ih : Code → St → Out) (fn : Func) (args : List SV) (m : Mm) (c : Bp) (cd : Option Code) : Res := match cd with
 | some cd => bif dsC fn.ntmps cd && Nat.ble args.length fn.ntmps then (bif fk fn.name then isoF P ih fn cd args m c (rch m 10000 (nmX args)) else bnd (ih cd ⟨begF cd fn.results.toList args, m, c⟩) (retK P fn.results.toList)) else .no ["ds"]
 | none => extF fn.name args m c
noncomputable def fnK (P : Program) (fk : String → Bool) (ih : Code → St → Out) (args : List SV) (m : Mm) (c : Bp) (fn : Option Func) : Res := match fn with
 | some fn => tagR fn.name (bodyK P fk ih fn args m c fn.body)
 | none => .no ["fn"]
noncomputable def callS (P : Program) (fk : String → Bool) (ih : Code → St → Out) : CallF := fun n args m c => fnK P fk ih args m c (P.funcs[n]?)
noncomputable def execS (P : Program) (fk : String → Bool) (_ : Nat) (ih : Code → St → Out) (cd : Code) (S : St) : Out := cdF cd P (callS P fk ih) ih S
noncomputable def exec (P : Program) (fk : String → Bool) (n : Nat) : Code → St → Out :=
 Nat.rec (fun _ _ => .no ["fuel"]) (execS P fk) n
noncomputable def run (P : Program) (fk : String → Bool) (n : Nat) (f : FuncId) : Res := callS P fk (exec P fk n) f [] .e .h
def isTv (r : Rt) : Bool := match r.v with
 | .c (.b true) => true
 | _ => false
noncomputable def isT (r : Res) : Bool := match r with
 | .one r => isTv r
 | .two r s => isTv r && isTv s
 | .no _ => false
end Go.Proofs.YtbgifiijjjoebaaGreatDoor.Cm
