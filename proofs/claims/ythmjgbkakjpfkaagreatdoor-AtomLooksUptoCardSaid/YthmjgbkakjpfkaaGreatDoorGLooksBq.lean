/- Atoms in the new words. No conditions. -/
import Derived.Test.YthmjgbkakjpfkaaGreatDoorGLooksBm
import Derived.Test.YthmjgbkakjpfkaaGreatDoorGLooksAz
namespace Go.Proofs.YthmjgbkakjpfkaaGreatDoor
open Go.RowKit

def dA (a : Ar) : List D := .i .i64 a.kd :: (dZ a.d ++ dT a.t)
def gA (f : Bool) (a : Ar) : SV := .g [.i .i64 a.kd, .b a.d.neg, .l f (dN a.d.mag), .l f (a.t.ps.map dP), .b a.t.k.neg, .l f (dN a.t.k.mag)]
def aA (f : Bool) (a : Ar) : AV := .g [.i .i64 a.kd, .b a.d.neg, .l f (dN a.d.mag), .l f (a.t.ps.map dP), .b a.t.k.neg, .l f (dN a.t.k.mag)]
theorem ed_a {w : World} {X : Nat → Prop} {cs : List Value} {a : Ar} : ED w X cs (dA a) ↔ ∃ D c A e C f, cs = [.int .i64 a.kd, .bool a.d.neg, .slice D a.d.mag.length c, .slice A a.t.ps.length e, .bool a.t.k.neg, .slice C a.t.k.mag.length f] ∧ i64 a.kd ∧ Nl w X D c a.d.mag ∧ Pl w X A e a.t.ps ∧ Nl w X C f a.t.k.mag := by
  constructor
  · intro h
    cases h with
    | cons h1 h2 =>
      cases h2 with
      | cons h2 h3 =>
        cases h3 with
        | cons h3 h4 =>
          obtain ⟨D, c, rfl, g3⟩ := rp_n.1 h3
          obtain ⟨A, e, C, f, rfl, h5, h6⟩ := ed_t.1 h4
          cases h2
          cases h1 with
          | i h1 h2 =>
            simp only [z_min] at h1 h2
            exact ⟨D, c, A, e, C, f, rfl, ⟨h1, h2⟩, g3, h5, h6⟩
  · rintro ⟨D, c, A, e, C, f, rfl, hi, h3, h5, h6⟩
    exact .cons (.i (by simp only [z_min]; exact hi.1) (by simp only [z_min]; exact hi.2)) (.cons .b (.cons (rp_n.2 ⟨D, c, rfl, h3⟩) (ed_t.2 ⟨A, e, C, f, rfl, h5, h6⟩)))
theorem relD_a {w : World} {X : Nat → Prop} {v : Value} {a : Ar} : RelD w X v (.g (dA a)) ↔ Av w X v a := by
  constructor
  · rintro ⟨vs, rfl, h⟩
    obtain ⟨D, c, A, e, C, f, e1, h⟩ := ed_a.1 h
    exact ⟨D, c, A, e, C, f, agg_list e1, h⟩
  · rintro ⟨D, c, A, e, C, f, rfl, h⟩
    exact ⟨_, rfl, ed_a.2 ⟨D, c, A, e, C, f, rfl, h⟩⟩
theorem ok_a {a : Ar} (h : ∀ d ∈ dA a, D.Ok d) : i64 a.kd ∧ Lb a.d.mag ∧ a.t.lb := by
  have h1 := ok_i.1 (h _ (List.mem_cons_self ..))
  simp only [z_min] at h1
  exact ⟨h1, ok_z fun d hd => h d (List.mem_cons_of_mem _ (List.mem_append_left _ hd)), ok_t fun d hd => h d (List.mem_cons_of_mem _ (List.mem_append_right _ hd))⟩
attribute [go_sem] dA gA aA
end Go.Proofs.YthmjgbkakjpfkaaGreatDoor
