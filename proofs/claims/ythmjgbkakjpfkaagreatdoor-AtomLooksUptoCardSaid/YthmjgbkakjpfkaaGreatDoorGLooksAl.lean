/- zint.Abs, DivMod by one limb, Int64. No conditions. -/
import Derived.Test.YthmjgbkakjpfkaaGreatDoorGLooksAd
import Derived.Test.YthmjgbkakjpfkaaGreatDoorGLooksAk
import Derived.Test.YthmjgbkakjpfkaaGreatDoorGLooksAg
import Derived.Test.YthmjgbkakjpfkaaGreatDoorGLooksAc
import Derived.RegionTactic
import Derived.ChangeAlike
namespace Go.Proofs.YthmjgbkakjpfkaaGreatDoor
open Go.RowKit

theorem x_named {Q : Exit → Act → World → Prop} {e : Exit} {a : Act} {w : World} (h : ∀ V, V = w → Q e a V) : Q e a w := h w rfl

set_option maxHeartbeats 400000 in
theorem zabs_c {v : Value} {z : Z} {w : World} {X : Nat → Prop} (h : Zi w X v z) (hL : z.mag.length ≤ 4398046511104) :
    Calls Tryz.prog 12 #[v] w fun e w' => ∃ r, e = .returned r ∧ Zi w' (w.heap.size ≤ ·) r (cz (z.v.natAbs : Nat)) ∧ Ext w w' := by
  have ez : ((z.v.natAbs : Nat) : Int) = Z.v ⟨false, z.mag⟩ := by rw [natAbs_v]; rfl
  rw [ez]
  clear ez
  obtain ⟨A, c, rfl, h⟩ := h
  go_enter Tryz.func12, Tryz.ntmps12
  go_wp2_with fail
  refine (made_c (h.ext xt) hL).mono ?_
  rintro e w1 ⟨r, rfl, ⟨A1, c1, rfl, h1⟩, hx⟩
  have hc := hx.cells
  go_wp2_with fail
  (refine bodyPost_ret (v := ?_) ?_ rfl ?_; rotate_left; (simp only [results, Tryz.results12]; go_simp; (first | done | with_reducible rfl)))
  exact ⟨_, rfl, ⟨A1, c1, rfl, (h1.keep kpt).widen (fun b hb _ => by first | omega | (dsimp only at hb ⊢; omega) | (dsimp only at hb; omega) | (simp only [wsz] at hb ⊢; omega) | (simp only [wsz] at hb; omega))⟩, xt⟩

end Go.Proofs.YthmjgbkakjpfkaaGreatDoor
