/- Plain laws of limbs: lists of numbers below 2^32, the least first, and what they say. No program in sight. No conditions. Linear terms, in plain words: lists of (variable, coefficient), their canonical form, values, order. No program here. Values of terms, in plain words. No program here. -/
import Init
namespace Go.Proofs.YtbgifiijjjoebaaGreatDoor

def nth (l : List Nat) (k : Nat) : Nat := l.getD k 0
theorem nth_eq (l : List Nat) (k : Nat) (h : k < l.length) : nth l k = l[k] := by simp [nth, h]
def nv : List Nat → Nat
 | [] => 0
 | x :: r => x + 4294967296 * nv r
def limF : Nat → Nat → List Nat
 | 0, _ => []
 | f + 1, n => if n = 0 then [] else n % 4294967296 :: limF f (n / 4294967296)
def lim (n : Nat) : List Nat := limF n n
structure Z where
 neg : Bool
 mag : List Nat
def Z.v (z : Z) : Int := if z.neg then -(nv z.mag : Int) else nv z.mag
def cz (x : Int) : Z := ⟨decide (x < 0), lim x.natAbs⟩
def Z.ok (z : Z) : Bool := if z.mag.length = 0 then !z.neg else nth z.mag (z.mag.length - 1) != 0
end Go.Proofs.YtbgifiijjjoebaaGreatDoor

namespace Go.Proofs.YtbgifiijjjoebaaGreatDoor

structure T where
 ps : List (Int × Z)
 k : Z

def vl (ps : List (Int × Z)) : List (Int × Int) := ps.map fun p => (p.1, p.2.v)
def lay : List (Int × Int) → Int × Int → List (Int × Int)
 | [], p => [p]
 | q :: l, p => if q.1 < p.1 then q :: lay l p else if q.1 = p.1 then (q.1, q.2 + p.2) :: l else p :: q :: l
end Go.Proofs.YtbgifiijjjoebaaGreatDoor

namespace Go.Proofs.YtbgifiijjjoebaaGreatDoor

def lk : List (Int × Z) → Int → Option Int
 | [], _ => none
 | p :: l, x => if p.1 = x then some p.2.v else lk l x
def ix : List (Int × Z) → Int → Option Nat
 | [], _ => none
 | p :: l, x => if p.1 = x then some 0 else (ix l x).map (· + 1)
def ev (f : Int → Int) : List (Int × Int) → Int
 | [] => 0
 | p :: l => p.2 * f p.1 + ev f l
def fv (vals : List (Int × Z)) (x : Int) : Int := (lk vals x).getD 0
end Go.Proofs.YtbgifiijjjoebaaGreatDoor
