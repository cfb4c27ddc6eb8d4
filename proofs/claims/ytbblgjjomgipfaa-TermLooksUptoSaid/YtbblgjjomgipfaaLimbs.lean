/- term.Limbs, riddleref05.Limbs, Vars; riddlelaw05.ints. No conditions. -/
import Derived.Test.YtbblgjjomgipfaaRN
import Derived.Test.YtbblgjjomgipfaaNorm
import Derived.Test.YtbblgjjomgipfaaVars
namespace Go.Proofs.Ytbblgjjomgipfaa
open Go.RowKit Go.Shelf

/-- The greatest number of limbs. -/
def mxl (n : Nat) : List (Int × Z) → Nat
  | [] => n
  | p :: l => mxl (max n (zl p.2.v)) l
def T.limbs (t : T) : Nat := mxl (zl t.nf.k.v) t.nf.ps
theorem mxl_step {n : Nat} {l : List (Int × Z)} {k : Nat} (h : k < l.length) : mxl n (l.drop k) = mxl (max n (zl (pth l k).2.v)) (l.drop (k + 1)) := by
  rw [drop_pth l k h]; rfl

set_option maxHeartbeats 1600000 in
theorem tlimbs_c {v : Value} {t : T} {w : World} {X : Nat → Prop} {N : Nat} (h : Tv w X v t) (hN : N ≤ 1073741824) (hs : t.sz N) :
    Calls Try.prog 45 #[v] w fun e w' => e = .returned (.int .i64 (t.limbs : Nat)) ∧ Ext w w' := by
  have htv := h
  have hsz := nf_sz hs h.lb
  obtain ⟨TA, tc, TB, td, rfl, h1, h2⟩ := h
  obtain ⟨tn, htn⟩ : ∃ tn, tn = t.nf := ⟨_, rfl⟩
  have hnorm := fun W (h : Ext w W) => tnorm_c (htv.ext h) (N := N) (by omega) hs
  have hlb : t.limbs = mxl (zl tn.k.v) tn.ps := by rw [htn]; rfl
  rw [← htn] at hnorm hsz
  rw [hlb]
  clear hlb htn
  obtain ⟨s1, s2, s3⟩ := hsz
  obtain ⟨R, hR⟩ : ∃ R, R = mxl (zl tn.k.v) tn.ps := ⟨_, rfl⟩
  rw [← hR]
  have HR := Lib.hid hR; clear hR
  go_enter Try.func45, Try.ntmps45
  go_wp2_with fail
  refine (hnorm _ (by repeat (first | with_reducible assumption | with_reducible exact Ext.refl _ | with_reducible refine Ext.drewN ?_ _ | with_reducible refine Ext.drew ?_ | with_reducible refine Ext.alloc ?_ _ | (with_reducible refine Ext.setCell ?_ ?_ _; rotate_left; (first | exact Nat.le_refl _ | (dsimp only; omega) | (simp only [wsz]; omega))) | (with_reducible refine Ext.trans ?_ (by with_reducible assumption))))).mono ?_
  clear hnorm
  rintro e w1 ⟨r1, rfl, ⟨A1, c1, B1, d1, rfl, h3, h4⟩, hx⟩
  (have b1 := Box.ext (g := w.heap.size) (by repeat (first | with_reducible assumption | with_reducible exact Box.new _ _ _ | (with_reducible refine Box.new_at _ _ _ ?_; (simp only [wsz]; done)) | with_reducible refine Box.drewN ?_ _ | with_reducible refine Box.drew ?_ | with_reducible refine Box.alloc ?_ _ | with_reducible apply Box.drewN | with_reducible apply Box.drew | with_reducible apply Box.alloc | with_reducible refine Box.set_ ?_ _ _ | (with_reducible refine Box.far ?_ ?_ _; rotate_left; (simp only [ne_eq]; omega)) | (with_reducible refine Box.ext ?_ (by with_reducible assumption)) | (refine Box.new_at _ _ _ ?_; simp only [wsz]; done))) hx; have b1r := b1.rules; have b1l := b1.lt)
  (have hs1 := Ext.size hx; (try simp only [wsz] at hs1))
  have hxw1 : Ext w w1 := (by repeat (first | with_reducible assumption | with_reducible exact Ext.refl _ | with_reducible refine Ext.drewN ?_ _ | with_reducible refine Ext.drew ?_ | with_reducible refine Ext.alloc ?_ _ | (with_reducible refine Ext.setCell ?_ ?_ _; rotate_left; (first | exact Nat.le_refl _ | (dsimp only; omega) | (simp only [wsz]; omega))) | (with_reducible refine Ext.trans ?_ (by with_reducible assumption))))
  have kp : Kp (w.heap.size + 1 ≤ ·) w1 (((w1.setCell ⟨w.heap.size, 0, none⟩ (.slice A1 tn.ps.length c1)).setCell ⟨w.heap.size, 1, none⟩ (.bool tn.k.neg)).setCell ⟨w.heap.size, 2, none⟩ (.slice B1 tn.k.mag.length d1)) :=
    (((Kp.refl w1).setCell (by simp only; omega) _).setCell (by simp only; omega) _).setCell (by simp only; omega) _
  have h3' := Pl.keep (h3.widen (Y := (w.heap.size + 1 ≤ ·)) fun c hc _ => by simp only [wsz] at hc; omega) kp
  have h4' := Nl.keep (h4.widen (Y := (w.heap.size + 1 ≤ ·)) fun c hc _ => by simp only [wsz] at hc; omega) kp
  have b1s := ((b1.set_ 0 (.slice A1 tn.ps.length c1)).set_ 1 (.bool tn.k.neg)).set_ 2 (.slice B1 tn.k.mag.length d1)
  have hEs : Ext w (((w1.setCell ⟨w.heap.size, 0, none⟩ (.slice A1 tn.ps.length c1)).setCell ⟨w.heap.size, 1, none⟩ (.bool tn.k.neg)).setCell ⟨w.heap.size, 2, none⟩ (.slice B1 tn.k.mag.length d1)) := ((hxw1.setCell (Nat.le_refl _) _).setCell (Nat.le_refl _) _).setCell (Nat.le_refl _) _
  go_wp2_with fail
  refine (zlimbs_c (z := tn.k) ⟨_, _, rfl, h4'⟩ (by omega)).mono ?_
  rintro e W ⟨rfl, hx2⟩
  have b1t := b1s.ext hx2
  have b1r' := b1t.rules
  have b1l' := b1t.lt
  have hE : Ext w W := hEs.trans hx2
  have hP : Pl W (w.heap.size + 1 ≤ ·) A1 c1 tn.ps := h3'.ext hx2
  clear b1r h3 h4 h3' h4' kp b1s b1 hx2 hEs
  go_wp2_with fail
  go_loopw [3, 14] (fun nv iv wr => ∃ k n : Nat, k ≤ tn.ps.length ∧ iv = .int .i64 k ∧ nv = .int .i64 n ∧ Hid (mxl n (tn.ps.drop k) = R) ∧ Ext W wr) (fun _ iv _ => tn.ps.length - (intOf iv).toNat)
  case atStart => exact ⟨0, zl tn.k.v, Nat.zero_le _, rfl, rfl, Lib.hid HR.out.symm, Ext.refl _⟩
  case round =>
    obtain ⟨k, n, hk, rfl, rfl, hm, hxr⟩ := hrel
    by_cases hlt : k < tn.ps.length
    · obtain ⟨b, o, B', d', rfl, hX, hc0, hc1, hc2, hi, hN2⟩ := (hP.ext hxr).at_ hlt
      have hb := World.block_lt_of_cell? _ _ hc0
      have kl : (k : Int) < (tn.ps.length : Int) := by omega
      have hmx : ((max n (zl (pth tn.ps k).2.v) : Nat) : Int) = max (n : Int) (zl (pth tn.ps k).2.v : Nat) := by omega
      have HM := Lib.hid hmx; clear hmx
      go_wp2_with fail
      refine (zlimbs_c (z := (pth tn.ps k).2) ⟨_, _, rfl, hN2.ext (by repeat (first | with_reducible assumption | with_reducible exact Ext.refl _ | with_reducible refine Ext.drewN ?_ _ | with_reducible refine Ext.drew ?_ | with_reducible refine Ext.alloc ?_ _ | (with_reducible refine Ext.setCell ?_ ?_ _; rotate_left; (first | exact Nat.le_refl _ | (dsimp only; omega) | (simp only [wsz]; omega))) | (with_reducible refine Ext.trans ?_ (by with_reducible assumption))))⟩ (Nat.le_trans (s2 _ (pth_mem hlt)) (by omega))).mono ?_
      rintro e w2 ⟨rfl, hx2⟩
      go_wp2_with fail
      go_roundw
      case rel => exact ⟨k + 1, max n (zl (pth tn.ps k).2.v), by omega, by go_num, by rw [HM.out], Lib.hid (by rw [← hm.out, mxl_step hlt]), hxr.trans (by repeat (first | with_reducible assumption | with_reducible exact Ext.refl _ | with_reducible refine Ext.drewN ?_ _ | with_reducible refine Ext.drew ?_ | with_reducible refine Ext.alloc ?_ _ | (with_reducible refine Ext.setCell ?_ ?_ _; rotate_left; (first | exact Nat.le_refl _ | (dsimp only; omega) | (simp only [wsz]; omega))) | (with_reducible refine Ext.trans ?_ (by with_reducible assumption))))⟩
      case measure => simp [intOf] <;> omega
    · obtain rfl : k = tn.ps.length := by omega
      go_wp2_with fail
      go_ret
      refine ⟨ret_int ?_, hE.trans hxr⟩
      have := hm.out
      rw [List.drop_length] at this
      rw [← this]; rfl

end Go.Proofs.Ytbblgjjomgipfaa
