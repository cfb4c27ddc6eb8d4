/- riddlelaw05.TermEvals. No conditions. -/
import Derived.Test.YtbblgjjomgipfaaLawKit
import Derived.Test.YtbblgjjomgipfaaRE
namespace Go.Proofs.Ytbblgjjomgipfaa
open Go.RowKit Go.Shelf

set_option maxHeartbeats 400000 in
theorem reval_yes {v : Value} {t : T} {w : World} {X Y : Nat → Prop} {A : Option Addr} {c : Nat} {vals : List (Int × Z)} {N : Nat} (h : Tv w X v t) (hv : Pl w Y A c vals) (hN : N ≤ 1073741824) (hs : t.sz N) (hvs : ∀ p ∈ vals, p.2.mag.length ≤ N) (hc : cov vals (cn (vl t.ps)) = true) :
    Calls Try.prog 22 #[v, .slice A vals.length c] w fun e w' => ∃ B d, e = .returned (.tuple #[.agg #[.bool (cz (t.k.v + ev (fv vals) (vl t.ps))).neg, .slice B (cz (t.k.v + ev (fv vals) (vl t.ps))).mag.length d], .int .i64 0]) ∧
      Nl w' (w.heap.size ≤ ·) B d (cz (t.k.v + ev (fv vals) (vl t.ps))).mag ∧ Ext w w' :=
  (reval5_c h hv hN hs hvs).mono fun e w' ⟨h1, h2⟩ => by
    unfold EvR at h1
    rw [if_pos hc] at h1
    obtain ⟨r, rfl, B, d, rfl, h3⟩ := h1
    exact ⟨B, d, rfl, h3, h2⟩
set_option maxHeartbeats 400000 in
theorem reval_no {v : Value} {t : T} {w : World} {X Y : Nat → Prop} {A : Option Addr} {c : Nat} {vals : List (Int × Z)} {N : Nat} (h : Tv w X v t) (hv : Pl w Y A c vals) (hN : N ≤ 1073741824) (hs : t.sz N) (hvs : ∀ p ∈ vals, p.2.mag.length ≤ N) (hc : cov vals (cn (vl t.ps)) = false) :
    Calls Try.prog 22 #[v, .slice A vals.length c] w fun e w' => e = .returned (.tuple #[.agg #[.bool false, .slice none 0 0], .int .i64 170]) ∧ Ext w w' :=
  (reval5_c h hv hN hs hvs).mono fun e w' ⟨h1, h2⟩ => by
    unfold EvR at h1
    rw [if_neg (by rw [hc]; simp)] at h1
    exact ⟨h1, h2⟩
theorem is_self (z : Z) (h : z.ok = true) : (z.ok && decide (z.v = z.v)) = true := by rw [h]; simp
theorem ok_cz (x : Int) : (cz x).ok = true := (ok_iff (lb_lim _)).2 (by rw [cz_v])

set_option maxHeartbeats 1600000 in
theorem lawevals_c {v1 : Value} {t : T} {A : Option Addr} {c : Nat} {vals : List (Int × Z)} {w : World} {X1 X4 : Nat → Prop} {N : Nat} (h1 : Tv w X1 v1 t) (h4 : Pl w X4 A c vals)
    (hN : N ≤ 2097152) (_h2N : 2 ≤ N) (s1 : t.sz N) (s4 : ∀ p ∈ vals, p.2.mag.length ≤ N) (_s5 : vals.length ≤ N) :
    Calls Try.prog 4 #[v1, .slice A vals.length c] w fun e w' => e = .returned (.bool true) ∧ Ext w w' := by
  have ht := h1
  have hsz : zl (t.k.v + ev (fv vals) (vl t.ps)) ≤ 3 * N + 1 := ev_sz h1.lb s1 h4.lb s4
  obtain ⟨TA, tc, TB, td, rfl, h11, h12⟩ := h1
  go_enter Try.func4, Try.ntmps4
  go_wp2_with fail
  refine (awake_c _).mono ?_
  rintro e W ⟨rfl, hx⟩
  (have b2 := Box.ext (g := w.heap.size) (by repeat (first | with_reducible assumption | with_reducible exact Box.new _ _ _ | (with_reducible refine Box.new_at _ _ _ ?_; (simp only [wsz]; done)) | with_reducible refine Box.drewN ?_ _ | with_reducible refine Box.drew ?_ | with_reducible refine Box.alloc ?_ _ | with_reducible apply Box.drewN | with_reducible apply Box.drew | with_reducible apply Box.alloc | with_reducible refine Box.set_ ?_ _ _ | (with_reducible refine Box.far ?_ ?_ _; rotate_left; (simp only [ne_eq]; omega)) | (with_reducible refine Box.ext ?_ (by with_reducible assumption)) | (refine Box.new_at _ _ _ ?_; simp only [wsz]; done))) hx; have b2r := b2.rules; have b2l := b2.lt)
  have hE : Ext w W := (by repeat (first | with_reducible assumption | with_reducible exact Ext.refl _ | with_reducible refine Ext.drewN ?_ _ | with_reducible refine Ext.drew ?_ | with_reducible refine Ext.alloc ?_ _ | (with_reducible refine Ext.setCell ?_ ?_ _; rotate_left; (first | exact Nat.le_refl _ | (dsimp only; omega) | (simp only [wsz]; omega))) | (with_reducible refine Ext.trans ?_ (by with_reducible assumption))))
  clear hx
  rcases hc : cov vals (cn (vl t.ps)) with _ | _
  · go_wp2_with fail
    refine (teval_no (N := N) (ht.ext hE) (h4.ext hE) (by omega) s1 s4 hc).mono ?_
    rintro e w1 ⟨rfl, hx1⟩
    have b2' := b2.ext hx1
    have b2r' := b2'.rules
    have b2l' := b2'.lt
    clear b2r
    go_wp2_with fail
    refine (reval_no (N := N) (ht.ext (hE.trans (by repeat (first | with_reducible assumption | with_reducible exact Ext.refl _ | with_reducible refine Ext.drewN ?_ _ | with_reducible refine Ext.drew ?_ | with_reducible refine Ext.alloc ?_ _ | (with_reducible refine Ext.setCell ?_ ?_ _; rotate_left; (first | exact Nat.le_refl _ | (dsimp only; omega) | (simp only [wsz]; omega))) | (with_reducible refine Ext.trans ?_ (by with_reducible assumption)))))) (h4.ext (hE.trans (by repeat (first | with_reducible assumption | with_reducible exact Ext.refl _ | with_reducible refine Ext.drewN ?_ _ | with_reducible refine Ext.drew ?_ | with_reducible refine Ext.alloc ?_ _ | (with_reducible refine Ext.setCell ?_ ?_ _; rotate_left; (first | exact Nat.le_refl _ | (dsimp only; omega) | (simp only [wsz]; omega))) | (with_reducible refine Ext.trans ?_ (by with_reducible assumption)))))) (by omega) s1 s4 hc).mono ?_
    rintro e w2 ⟨rfl, hx2⟩
    have b6 := Box.ext (g := w1.heap.size) (Box.new_at _ _ _ rfl) hx2
    have b6r := b6.rules
    have b6l := b6.lt
    clear b2r'
    go_wp2_with fail
    refine (ris_c (x := ⟨false, []⟩) (y := ⟨false, []⟩) (zero_zi _ (fun _ => True)) (zero_zi _ (fun _ => True)) (Nat.zero_le _) (Nat.zero_le _)).mono ?_
    rw [is_self ⟨false, []⟩ rfl]
    rintro e w3 ⟨rfl, hx3⟩
    go_wp2_with fail
    go_ret
    exact ⟨rfl, hE.trans (by repeat (first | with_reducible assumption | with_reducible exact Ext.refl _ | with_reducible refine Ext.drewN ?_ _ | with_reducible refine Ext.drew ?_ | with_reducible refine Ext.alloc ?_ _ | (with_reducible refine Ext.setCell ?_ ?_ _; rotate_left; (first | exact Nat.le_refl _ | (dsimp only; omega) | (simp only [wsz]; omega))) | (with_reducible refine Ext.trans ?_ (by with_reducible assumption))))⟩
  · obtain ⟨S, hS⟩ : ∃ S, S = t.k.v + ev (fv vals) (vl t.ps) := ⟨_, rfl⟩
    rw [← hS] at hsz
    have HS := Lib.hid hS
    clear hS
    go_wp2_with fail
    refine (teval_yes (N := N) (ht.ext hE) (h4.ext hE) (by omega) s1 s4 hc).mono ?_
    rw [← HS.out]
    rintro e w1 ⟨B1, d1, rfl, hN1, hx1⟩
    have b2' := b2.ext hx1
    have b2r' := b2'.rules
    have b2l' := b2'.lt
    clear b2r
    go_wp2_with fail
    refine (reval_yes (N := N) (ht.ext (hE.trans (by repeat (first | with_reducible assumption | with_reducible exact Ext.refl _ | with_reducible refine Ext.drewN ?_ _ | with_reducible refine Ext.drew ?_ | with_reducible refine Ext.alloc ?_ _ | (with_reducible refine Ext.setCell ?_ ?_ _; rotate_left; (first | exact Nat.le_refl _ | (dsimp only; omega) | (simp only [wsz]; omega))) | (with_reducible refine Ext.trans ?_ (by with_reducible assumption)))))) (h4.ext (hE.trans (by repeat (first | with_reducible assumption | with_reducible exact Ext.refl _ | with_reducible refine Ext.drewN ?_ _ | with_reducible refine Ext.drew ?_ | with_reducible refine Ext.alloc ?_ _ | (with_reducible refine Ext.setCell ?_ ?_ _; rotate_left; (first | exact Nat.le_refl _ | (dsimp only; omega) | (simp only [wsz]; omega))) | (with_reducible refine Ext.trans ?_ (by with_reducible assumption)))))) (by omega) s1 s4 hc).mono ?_
    rw [← HS.out]
    rintro e w2 ⟨B2, d2, rfl, hN2, hx2⟩
    have b6 := Box.ext (g := w1.heap.size) (Box.new_at _ _ _ rfl) hx2
    have b6r := b6.rules
    have b6l := b6.lt
    clear b2r'
    go_wp2_with fail
    refine (ris_c (x := cz S) (y := cz S) ⟨_, _, rfl, hN1.ext (by repeat (first | with_reducible assumption | with_reducible exact Ext.refl _ | with_reducible refine Ext.drewN ?_ _ | with_reducible refine Ext.drew ?_ | with_reducible refine Ext.alloc ?_ _ | (with_reducible refine Ext.setCell ?_ ?_ _; rotate_left; (first | exact Nat.le_refl _ | (dsimp only; omega) | (simp only [wsz]; omega))) | (with_reducible refine Ext.trans ?_ (by with_reducible assumption))))⟩ ⟨_, _, rfl, hN2.ext (by repeat (first | with_reducible assumption | with_reducible exact Ext.refl _ | with_reducible refine Ext.drewN ?_ _ | with_reducible refine Ext.drew ?_ | with_reducible refine Ext.alloc ?_ _ | (with_reducible refine Ext.setCell ?_ ?_ _; rotate_left; (first | exact Nat.le_refl _ | (dsimp only; omega) | (simp only [wsz]; omega))) | (with_reducible refine Ext.trans ?_ (by with_reducible assumption))))⟩ (by rw [cz_len]; omega) (by rw [cz_len]; omega)).mono ?_
    rw [is_self _ (ok_cz S)]
    rintro e w3 ⟨rfl, hx3⟩
    go_wp2_with fail
    go_ret
    exact ⟨rfl, hE.trans (by repeat (first | with_reducible assumption | with_reducible exact Ext.refl _ | with_reducible refine Ext.drewN ?_ _ | with_reducible refine Ext.drew ?_ | with_reducible refine Ext.alloc ?_ _ | (with_reducible refine Ext.setCell ?_ ?_ _; rotate_left; (first | exact Nat.le_refl _ | (dsimp only; omega) | (simp only [wsz]; omega))) | (with_reducible refine Ext.trans ?_ (by with_reducible assumption))))⟩

end Go.Proofs.Ytbblgjjomgipfaa
