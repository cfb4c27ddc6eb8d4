/- An int's bounds. No conditions. Parts, values, terms in memory. No conditions. Contracts of package zint. No conditions. A region that draws its order, walked by a relation of what is done so far, the slots, and the world; the last few operations late. No conditions. -/
import Derived.Test.YtbgifiijjjoebaaGreatDoorGNamesAb
import Derived.OrdersHeld
import Derived.Test.YtbgifiijjjoebaaGreatDoorGNamesAa
namespace Go.Proofs.YtbgifiijjjoebaaGreatDoor
open Go.RowKit

def i64 (x : Int) : Prop := -9223372036854775808 ≤ x ∧ x ≤ 9223372036854775807
end Go.Proofs.YtbgifiijjjoebaaGreatDoor

namespace Go.Proofs.YtbgifiijjjoebaaGreatDoor
open Go.RowKit

def EP (w : World) (X : Nat → Prop) (cs : List Value) (p : Int × Z) : Prop := ∃ A c, cs = [.int .i64 p.1, .bool p.2.neg, .slice A p.2.mag.length c] ∧ i64 p.1 ∧ Nl w X A c p.2.mag
instance : Stab EP := ⟨fun ⟨A, c, h, i, k⟩ kp => ⟨A, c, h, i, k.keep kp⟩, fun ⟨A, c, h, i, k⟩ kp => ⟨A, c, h, i, k.widen kp⟩, fun ⟨A, c, h, _, _⟩ => by subst h; simp [Value.oneCell']⟩
abbrev Pl (w : World) (X : Nat → Prop) (A : Option Addr) (c : Nat) (l : List (Int × Z)) : Prop := Sl 3 EP w X A c l
end Go.Proofs.YtbgifiijjjoebaaGreatDoor

namespace Go.Proofs.YtbgifiijjjoebaaGreatDoor
open Go.RowKit

set_option maxHeartbeats 400000 in
theorem zvalid_c {v : Value} {z : Z} {w : World} {X : Nat → Prop} (h : Zi w X v z) :
  Calls Tryz.prog 80 #[v] w fun e w' => e = .returned (.bool z.ok) ∧ Ext w w' := by
 obtain ⟨A, c, rfl, h⟩ := h
 have hm := h.2.1; have hl := h.1
 simp only [maxLen] at hm
 rcases Nat.eq_zero_or_pos z.mag.length with h0 | h0
 ·have hok : z.ok = !z.neg := by unfold Z.ok; rw [if_pos h0]
  have h1 : (((z.mag.length : Nat) : Int) == 0) = true := by simp [h0]
  have Hok := Lib.hid hok; clear hok h0
  go_enter Tryz.func80, Tryz.ntmps80
  go_wp2_with fail
  go_ret
  exact ⟨ret_bool Hok.out.symm, xt⟩
 ·have hok : z.ok = (nth z.mag (z.mag.length - 1) != 0) := by unfold Z.ok; rw [if_neg (by omega)]
  have h1 : (((z.mag.length : Nat) : Int) == 0) = false := beq_eq_false_iff_ne.2 (by omega)
  have Hok := Lib.hid hok; clear hok
  obtain ⟨b, o, rfl, hX, hcell, _⟩ := h.at_ (k := z.mag.length - 1) (by omega); have hc1 := hcell (z.mag.length - 1) (by omega); have hlt := World.block_lt_of_cell? _ _ hc1; clear hcell
  go_enter Tryz.func80, Tryz.ntmps80
  go_wp2_with fail
  go_ret
  refine ⟨ret_bool ?_, xt⟩; rw [Hok.out, Bool.eq_iff_iff, bne_iff_ne, bne_iff_ne]
  omega

end Go.Proofs.YtbgifiijjjoebaaGreatDoor

namespace Go.Proofs.YtbgifiijjjoebaaGreatDoor
open Go.RowKit

section
variable {P : Program} {ops : Array Oper} {Q : Exit → Act → World → Prop} {md : Region.Mode}
def setL (L : Nat → Bool) (i : Nat) : Nat → Bool := fun k => if k = i then true else L k
end

end Go.Proofs.YtbgifiijjjoebaaGreatDoor
