/- term.Order. No conditions. -/
import Derived.Test.YtbblgjjomgipfaaCompare
import Derived.Test.YtbblgjjomgipfaaLate
namespace Go.Proofs.Ytbblgjjomgipfaa
open Go.RowKit Go.Shelf

/-- Two terms compared. -/
def ordT (a b : T) : Int := if cmpL a.nf.ps b.nf.ps = 0 then cmpI a.k.v b.k.v else cmpL a.nf.ps b.nf.ps

set_option maxHeartbeats 1600000 in
theorem torder_c {av bv : Value} {a b : T} {w : World} {X Y : Nat → Prop} {N : Nat} (ha : Tv w X av a) (hb : Tv w Y bv b) (hN : N ≤ 1073741824) (sa : a.sz N) (sb : b.sz N) :
    Calls Try.prog 43 #[av, bv] w fun e w' => e = .returned (.int .i64 (ordT a b)) ∧ Ext w w' := by
  have hav := ha; have hbv := hb
  obtain ⟨A, c, AK, d, rfl, ha1, ha2⟩ := ha
  obtain ⟨B, c', BK, d', rfl, hb1, hb2⟩ := hb
  have hka : a.nf.k = cz a.k.v := rfl
  have hkb : b.nf.k = cz b.k.v := rfl
  obtain ⟨an, han⟩ : ∃ an, an = a.nf := ⟨_, rfl⟩
  obtain ⟨bn, hbn⟩ : ∃ bn, bn = b.nf := ⟨_, rfl⟩
  obtain ⟨r, hr⟩ : ∃ r, r = ordT a b := ⟨_, rfl⟩
  have hna := fun W (h : Ext w W) => tnorm_c (hav.ext h) (N := N) (by omega) sa
  have hnb := fun W (h : Ext w W) => tnorm_c (hbv.ext h) (N := N) (by omega) sb
  unfold ordT at hr
  rw [← han, ← hbn] at hr
  rw [← han] at hna hka
  rw [← hbn] at hnb hkb
  have HR := Lib.hid hr; have HA := Lib.hid hka; have HB := Lib.hid hkb
  have hgoal := Lib.hid (show ordT a b = r by rw [hr]; unfold ordT; rw [han, hbn])
  rw [hgoal.out]
  clear hr hka hkb han hbn hgoal
  go_enter Try.func43, Try.ntmps43
  go_wp2_with fail
  refine wp_named fun W hW => ?_
  have b2 : Box W (w.heap.size) 27 #[.slice A a.ps.length c, .bool a.k.neg, .slice AK a.k.mag.length d] := by rw [hW]; exact (by repeat (first | with_reducible assumption | with_reducible exact Box.new _ _ _ | (with_reducible refine Box.new_at _ _ _ ?_; (simp only [wsz]; done)) | with_reducible refine Box.drewN ?_ _ | with_reducible refine Box.drew ?_ | with_reducible refine Box.alloc ?_ _ | with_reducible apply Box.drewN | with_reducible apply Box.drew | with_reducible apply Box.alloc | with_reducible refine Box.set_ ?_ _ _ | (with_reducible refine Box.far ?_ ?_ _; rotate_left; (simp only [ne_eq]; omega)) | (with_reducible refine Box.ext ?_ (by with_reducible assumption)) | (refine Box.new_at _ _ _ ?_; simp only [wsz]; done)))
  have b3 : Box W (w.heap.size + 1) 27 #[.slice B b.ps.length c', .bool b.k.neg, .slice BK b.k.mag.length d'] := by rw [hW]; exact (by repeat (first | with_reducible assumption | with_reducible exact Box.new _ _ _ | (with_reducible refine Box.new_at _ _ _ ?_; (simp only [wsz]; done)) | with_reducible refine Box.drewN ?_ _ | with_reducible refine Box.drew ?_ | with_reducible refine Box.alloc ?_ _ | with_reducible apply Box.drewN | with_reducible apply Box.drew | with_reducible apply Box.alloc | with_reducible refine Box.set_ ?_ _ _ | (with_reducible refine Box.far ?_ ?_ _; rotate_left; (simp only [ne_eq]; omega)) | (with_reducible refine Box.ext ?_ (by with_reducible assumption)) | (refine Box.new_at _ _ _ ?_; simp only [wsz]; done)))
  have hE : Ext w W := by rw [hW]; exact (by repeat (first | with_reducible assumption | with_reducible exact Ext.refl _ | with_reducible refine Ext.drewN ?_ _ | with_reducible refine Ext.drew ?_ | with_reducible refine Ext.alloc ?_ _ | (with_reducible refine Ext.setCell ?_ ?_ _; rotate_left; (first | exact Nat.le_refl _ | (dsimp only; omega) | (simp only [wsz]; omega))) | (with_reducible refine Ext.trans ?_ (by with_reducible assumption))))
  have hWs : w.heap.size + 2 ≤ W.heap.size := by rw [hW]; simp
  clear hW
  have b2r := b2.rules
  have b3r := b3.rules
  have b2l := b2.lt
  have b3l := b3.lt
  refine wp_region_late [(0, true), (2, true), (1, false), (3, false)] [4, 5] rfl (by kernel_rfl) (by intro _ _ d _ _ h; cases d <;> exact h) ?_
  (repeat (refine sh_take (v := ?_) rfl rfl ?_ ?_; rotate_left; (intro w' hx'; have hc' := hx'.cells.1; (try simp only [wcd] at hc'); go_simp; (first | done | with_reducible rfl)); (try simp only [Act.put, List.setIfInBounds_toArray, List.set_cons_zero, List.set_cons_succ])))
  (refine sh_loud rfl rfl fun K hK => ?_; go_simp)
  refine (hna _ (hE.trans (by repeat (first | with_reducible assumption | with_reducible exact Ext.refl _ | with_reducible refine Ext.drewN ?_ _ | with_reducible refine Ext.drew ?_ | with_reducible refine Ext.alloc ?_ _ | (with_reducible refine Ext.setCell ?_ ?_ _; rotate_left; (first | exact Nat.le_refl _ | (dsimp only; omega) | (simp only [wsz]; omega))) | (with_reducible refine Ext.trans ?_ (by with_reducible assumption)))))).mono ?_
  rintro e w1 ⟨r1, rfl, ⟨A1, c1, B1, d1, rfl, h1, h2⟩, hx1⟩
  (have hs1 := Ext.size hx1; (try simp only [wsz] at hs1))
  (refine hK _ _ (by repeat (first | with_reducible assumption | with_reducible exact Ext.refl _ | with_reducible refine Ext.drewN ?_ _ | with_reducible refine Ext.drew ?_ | with_reducible refine Ext.alloc ?_ _ | (with_reducible refine Ext.setCell ?_ ?_ _; rotate_left; (first | exact Nat.le_refl _ | (dsimp only; omega) | (simp only [wsz]; omega))) | (with_reducible refine Ext.trans ?_ (by with_reducible assumption)))) ?_; clear hK K; (try simp only [Act.put, List.setIfInBounds_toArray, List.set_cons_zero, List.set_cons_succ]))
  (refine sh_loud rfl rfl fun K hK => ?_; go_simp)
  refine (hnb _ (hE.trans (by repeat (first | with_reducible assumption | with_reducible exact Ext.refl _ | with_reducible refine Ext.drewN ?_ _ | with_reducible refine Ext.drew ?_ | with_reducible refine Ext.alloc ?_ _ | (with_reducible refine Ext.setCell ?_ ?_ _; rotate_left; (first | exact Nat.le_refl _ | (dsimp only; omega) | (simp only [wsz]; omega))) | (with_reducible refine Ext.trans ?_ (by with_reducible assumption)))))).mono ?_
  rintro e w2 ⟨r2, rfl, ⟨A2, c2, B2, d2, rfl, h3, h4⟩, hx2⟩
  (have hs2 := Ext.size hx2; (try simp only [wsz] at hs2))
  have b2' := (b2.drew.ext hx1).ext hx2
  have b3' := (b3.drew.ext hx1).ext hx2
  have b2r' := b2'.rules
  have b3r' := b3'.rules
  have b2l' := b2'.lt
  have b3l' := b3'.lt
  clear b2r b3r
  (refine hK _ _ (by repeat (first | with_reducible assumption | with_reducible exact Ext.refl _ | with_reducible refine Ext.drewN ?_ _ | with_reducible refine Ext.drew ?_ | with_reducible refine Ext.alloc ?_ _ | (with_reducible refine Ext.setCell ?_ ?_ _; rotate_left; (first | exact Nat.le_refl _ | (dsimp only; omega) | (simp only [wsz]; omega))) | (with_reducible refine Ext.trans ?_ (by with_reducible assumption)))) ?_; clear hK K; (try simp only [Act.put, List.setIfInBounds_toArray, List.set_cons_zero, List.set_cons_succ]))
  refine sh_done ?_
  (refine sh_late rfl rfl fun K hK => ?_; go_simp; refine hK _ _ ?_; clear hK K)
  (refine sh_late rfl rfl fun K hK => ?_; go_simp; refine hK _ _ ?_; clear hK K)
  refine sh_end ?_
  have hE2 : Ext w w2 := (hE.trans (Ext.drew (Ext.refl _))).trans (hx1.trans hx2)
  clear b2r' b3r' b2l b3l
  obtain ⟨S, hS⟩ : ∃ S, S = ((((((w2.setCell ⟨w.heap.size, 0, none⟩ (.slice A1 an.ps.length c1)).setCell ⟨w.heap.size, 1, none⟩ (.bool an.k.neg)).setCell ⟨w.heap.size, 2, none⟩ (.slice B1 an.k.mag.length d1)).setCell ⟨w.heap.size + 1, 0, none⟩ (.slice A2 bn.ps.length c2)).setCell ⟨w.heap.size + 1, 1, none⟩ (.bool bn.k.neg)).setCell ⟨w.heap.size + 1, 2, none⟩ (.slice B2 bn.k.mag.length d2)) := ⟨_, rfl⟩
  have b2s : Box S (w.heap.size) 27 #[.slice A1 an.ps.length c1, .bool an.k.neg, .slice B1 an.k.mag.length d1] := by
    rw [hS]; exact ((((((b2'.set_ 0 _).set_ 1 _).set_ 2 _).far (by simp only [ne_eq]; omega) _).far (by simp only [ne_eq]; omega) _).far (by simp only [ne_eq]; omega) _)
  have b3s : Box S (w.heap.size + 1) 27 #[.slice A2 bn.ps.length c2, .bool bn.k.neg, .slice B2 bn.k.mag.length d2] := by
    rw [hS]; exact ((((((b3'.far (by simp only [ne_eq]; omega) _).far (by simp only [ne_eq]; omega) _).far (by simp only [ne_eq]; omega) _).set_ 0 _).set_ 1 _).set_ 2 _)
  have kpS : Kp (w.heap.size + 2 ≤ ·) w2 S := by
    rw [hS]; exact ((((((Kp.refl w2).setCell (by simp only; omega) _).setCell (by simp only; omega) _).setCell (by simp only; omega) _).setCell (by simp only; omega) _).setCell (by simp only; omega) _).setCell (by simp only; omega) _
  have hES : Ext w S := by
    rw [hS]; exact ((((((hE2.setCell (by simp only; omega) _).setCell (by simp only; omega) _).setCell (by simp only; omega) _).setCell (by simp only; omega) _).setCell (by simp only; omega) _).setCell (by simp only; omega) _)
  rw [← hS]
  clear hS
  have h1s : Pl S (w.heap.size + 2 ≤ ·) A1 c1 an.ps := Pl.keep ((h1.ext hx2).widen fun b hb _ => by simp only [World.size_drew] at hb; omega) kpS
  have h2s : Nl S (w.heap.size + 2 ≤ ·) B1 d1 an.k.mag := Nl.keep ((h2.ext hx2).widen fun b hb _ => by simp only [World.size_drew] at hb; omega) kpS
  have h3s : Pl S (w.heap.size + 2 ≤ ·) A2 c2 bn.ps := Pl.keep (h3.widen fun b hb _ => by omega) kpS
  have h4s : Nl S (w.heap.size + 2 ≤ ·) B2 d2 bn.k.mag := Nl.keep (h4.widen fun b hb _ => by omega) kpS
  have b2r := b2s.rules
  have b3r := b3s.rules
  have b2l := b2s.lt
  have b3l := b3s.lt
  by_cases h0 : cmpL an.ps bn.ps = 0
  · have hr : r = cmpI a.k.v b.k.v := by rw [HR.out, if_pos h0]
    have HR2 := Lib.hid hr
    have H0 := Lib.hid h0
    clear h0 hr
    go_wp2_with fail
    refine (cmpf_c h1s h3s).mono ?_
    rw [H0.out]
    rintro e w3 ⟨rfl, hx3⟩
    have b2t := b2s.ext hx3
    have b3t := b3s.ext hx3
    have b2tr := b2t.rules
    have b3tr := b3t.rules
    clear b2r b3r
    go_wp2_with fail
    refine (zcmp_c (x := an.k) (y := bn.k) ⟨_, _, rfl, h2s.ext hx3⟩ ⟨_, _, rfl, h4s.ext hx3⟩).mono ?_
    rw [HA.out, HB.out, cz_v, cz_v, ← HR2.out]
    rintro e w4 ⟨rfl, hx4⟩
    go_wp2_with fail
    go_ret
    exact ⟨rfl, (hES.trans hx3).trans hx4⟩
  · have hr : r = cmpL an.ps bn.ps := by rw [HR.out, if_neg h0]
    have hne : (r != 0) = true := by rw [bne_iff_ne, hr]; exact h0
    have HR2 := Lib.hid hr
    clear h0 hr
    go_wp2_with fail
    refine (cmpf_c h1s h3s).mono ?_
    rw [← HR2.out]
    rintro e w3 ⟨rfl, hx3⟩
    go_wp2_with fail
    go_ret
    exact ⟨rfl, hES.trans hx3⟩

end Go.Proofs.Ytbblgjjomgipfaa
