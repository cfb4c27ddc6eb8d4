/- zint.Cmp makes blocks and draws, and does nothing else: for the library's sort. No conditions. slices.CompactFunc at numbers. No conditions. -/
import Derived.Test.YtpkfjbljhneenaaGreatGDoesAf
import Derived.Test.YtpkfjbljhneenaaGreatGDoesAm
import Derived.Test.YtpkfjbljhneenaaGreatGDoesAj
import Derived.Shelf.SlSortCmp.NoneTotal
import Derived.Test.YtpkfjbljhneenaaGreatGDoesAl
namespace Go.Proofs.YtpkfjbljhneenaaGreat
open Go.RowKit Go.Sort

def Grw (w w' : World) : Prop := Ext w w' ∧ w.drawn ≤ w'.drawn
theorem Grw.refl (w : World) : Grw w w := ⟨Ext.refl w, Nat.le_refl _⟩
theorem Grw.trans {a b c : World} (h : Grw a b) (k : Grw b c) : Grw a c := ⟨h.1.trans k.1, Nat.le_trans h.2 k.2⟩
theorem Grw.drew {a w : World} (h : Grw a w) : Grw a w.drew := ⟨h.1.drew, Nat.le_trans h.2 (Nat.le_succ _)⟩
theorem Grw.drewN {a w : World} (h : Grw a w) (n : Nat) : Grw a (w.drewN n) := ⟨h.1.drewN n, Nat.le_trans h.2 (Nat.le_add_right _ _)⟩
theorem Grw.alloc {a w : World} (h : Grw a w) (o : Obj) : Grw a (w.alloc o) := ⟨h.1.alloc o, h.2⟩
theorem Grw.setCell {a w : World} (h : Grw a w) {p : Addr} (hp : a.heap.size ≤ p.block) (u : Value) : Grw a (w.setCell p u) := ⟨h.1.setCell hp u, h.2⟩
theorem Grw.grow {w w' : World} (h : Grw w w') : ∃ q os', w' = Sort.grow (w.drewN q) os' := by
 obtain ⟨h1, h2⟩ := h; refine ⟨w'.drawn - w.drawn, w'.heap.extract w.heap.size w'.heap.size, ?_⟩
 have hos := h1.os; have ht := h1.tape; have ho := h1.output; have hs := h1.size
 have hb := h1.block; obtain ⟨hp, tp, dr, os, out⟩ := w; obtain ⟨hp', tp', dr', os', out'⟩ := w'; simp only at hos ht ho hs h2 hb
 subst hos; subst ht; subst ho
 simp only [Sort.grow, World.drewN]
 congr 1
 ·apply Array.ext_getElem?
  intro i; rw [Array.getElem?_append]
  split
  ·rename_i hi
   exact hb i hi
  ·rename_i hi
   rw [Array.getElem?_extract]
   by_cases h3 : i < hp'.size
   ·rw [if_pos (by omega)]
    congr 1
    omega
   ·rw [if_neg (by omega), Array.getElem?_eq_none (by omega)]
 ·omega

set_option maxHeartbeats 400000 in
theorem cmp_g {A B : Option Addr} {c d : Nat} {a b : List Nat} {w : World} {X Y : Nat → Prop} (ha : Nl w X A c a) (hb : Nl w Y B d b) :
  Calls Tryz.prog 69 #[.slice A a.length c, .slice B b.length d] w fun e w' => e = .returned (.int .i64 (cmpN (nv a) (nv b))) ∧ Grw w w' := by
 go_enter Tryz.func69, Tryz.ntmps69
 go_wp2_with fail
 refine (bare_c ha).mono ?_; rintro e w1 ⟨A1, c1, rfl, h1, rfl⟩
 go_wp2_with fail
 refine (bare_c hb).mono ?_; rintro e w1 ⟨B1, d1, rfl, h2, rfl⟩; obtain ⟨la, hla⟩ : ∃ la, la = lim (nv a) := ⟨_, rfl⟩; obtain ⟨lb, hlb⟩ : ∃ lb, lb = lim (nv b) := ⟨_, rfl⟩
 have hva : nv la = nv a := by rw [hla, nv_lim]
 have hvb : nv lb = nv b := by rw [hlb, nv_lim]
 rw [← hla] at h1 ⊢; rw [← hlb] at h2 ⊢
 have Hla := Lib.hid hla; have Hlb := Lib.hid hlb; have Hva := Lib.hid hva; have Hvb := Lib.hid hvb
 clear hla hlb hva hvb
 have hm1 := h1.2.1; have hm2 := h2.2.1; have hl1 := h1.1; have hl2 := h2.1
 simp only [maxLen] at hm1 hm2
 by_cases hlen : la.length = lb.length
 ·have hn : (((la.length : Nat) : Int) != ((lb.length : Nat) : Int)) = false := by simp [hlen]
  have Hlen := Lib.hid hlen
  have hl3 : la.length ≤ lb.length := by omega
  clear hlen
  go_wp2
  go_loopw [5] (fun i wr => ∃ k : Nat, k ≤ la.length ∧ i = .int .i64 ((k : Int) - 1) ∧ la.drop k = lb.drop k ∧ Grw w wr) (fun i _ => (intOf i + 1).toNat)
  case atStart => exact ⟨la.length, Nat.le_refl _, rfl, by rw [List.drop_length, Hlen.out, List.drop_length], Grw.refl _⟩
  case round =>
   obtain ⟨k, hk, rfl, hd, hx⟩ := hrel
   have Hd := Lib.hid hd; clear hd
   rcases Nat.eq_zero_or_pos k with h0 | h0
   ·subst h0
    go_wp2
    go_ret
    refine ⟨ret_int ?_, hx⟩; have := Hd.out; simp only [List.drop_zero] at this; rw [← Hva.out, ← Hvb.out, this, cmpN_eq rfl]
   ·obtain ⟨j, rfl⟩ : ∃ j, k = j + 1 := ⟨k - 1, by omega⟩; obtain ⟨b1, o1, rfl, _, hc1, hb1⟩ := (h1.ext hx.1).at_ (k := j) (by omega); obtain ⟨b2, o2, rfl, _, hc2, hb2⟩ := (h2.ext hx.1).at_ (k := j) (by omega); have c1' := hc1 j (by omega); have c2' := hc2 j (by omega); clear hc1 hc2
    have ej : (((j + 1 : Nat) : Int) - 1) = (j : Int) := by omega
    rw [ej]; clear ej
    have i1 : (j : Int) < (la.length : Int) := by omega
    have i2 : (j : Int) < (lb.length : Int) := by omega
    have i3 : nth la j < nth lb j ∨ nth la j = nth lb j ∨ nth lb j < nth la j := by omega
    rcases i3 with i3 | i3 | i3
    ·have i4 : ((nth la j : Nat) : Int) < ((nth lb j : Nat) : Int) := by omega
     go_wp2
     go_quiet (fail)
     go_wp2
     go_ret
     exact ⟨ret_int (by rw [← Hva.out, ← Hvb.out, cmpN_lt (nv_lt_at h1.lb (by omega) (by omega) Hd.out i3)]), (by repeat (first | with_reducible assumption | with_reducible exact Grw.refl _ | with_reducible refine Grw.drewN ?_ _ | with_reducible refine Grw.drew ?_ | with_reducible refine Grw.alloc ?_ _ | (with_reducible refine Grw.setCell ?_ ?_ _; rotate_left; (first | exact Nat.le_refl _ | (dsimp only; omega) | (simp only [wsz]; omega))) | (with_reducible refine Grw.trans ?_ (by with_reducible assumption))))⟩
    ·have I3 := Lib.hid i3
     have i4 : ¬ ((nth la j : Nat) : Int) < ((nth lb j : Nat) : Int) := by omega
     have i5 : ¬ ((nth lb j : Nat) : Int) < ((nth la j : Nat) : Int) := by omega
     clear i3
     go_wp2
     go_quiet (fail)
     go_wp2
     go_quiet (fail)
     go_wp2
     go_roundw
     case rel => exact ⟨j, by omega, by go_num, drop_eq_step (by omega) (by omega) Hd.out I3.out, (by repeat (first | with_reducible assumption | with_reducible exact Grw.refl _ | with_reducible refine Grw.drewN ?_ _ | with_reducible refine Grw.drew ?_ | with_reducible refine Grw.alloc ?_ _ | (with_reducible refine Grw.setCell ?_ ?_ _; rotate_left; (first | exact Nat.le_refl _ | (dsimp only; omega) | (simp only [wsz]; omega))) | (with_reducible refine Grw.trans ?_ (by with_reducible assumption))))⟩
     case measure => simp [intOf] <;> omega
    ·have i4 : ¬ ((nth la j : Nat) : Int) < ((nth lb j : Nat) : Int) := by omega
     have i5 : ((nth lb j : Nat) : Int) < ((nth la j : Nat) : Int) := by omega
     go_wp2
     go_quiet (fail)
     go_wp2
     go_quiet (fail)
     go_wp2
     go_ret
     exact ⟨ret_int (by rw [← Hva.out, ← Hvb.out, cmpN_gt (nv_lt_at h2.lb (by omega) (by omega) Hd.out.symm i3)]), (by repeat (first | with_reducible assumption | with_reducible exact Grw.refl _ | with_reducible refine Grw.drewN ?_ _ | with_reducible refine Grw.drew ?_ | with_reducible refine Grw.alloc ?_ _ | (with_reducible refine Grw.setCell ?_ ?_ _; rotate_left; (first | exact Nat.le_refl _ | (dsimp only; omega) | (simp only [wsz]; omega))) | (with_reducible refine Grw.trans ?_ (by with_reducible assumption))))⟩
 ·have hn : (((la.length : Nat) : Int) != ((lb.length : Nat) : Int)) = true := by rw [bne_iff_ne]; omega
  rcases Nat.lt_or_gt_of_ne hlen with hlt | hlt
  ·have i4 : ((la.length : Nat) : Int) < ((lb.length : Nat) : Int) := by omega
   have hlt' : nv a < nv b := nv_lt_of_len (by rw [← Hla.out, ← Hlb.out]; exact hlt)
   go_wp2
   go_ret
   exact ⟨ret_int (by rw [cmpN_lt hlt']), Grw.refl _⟩
  ·have i4 : ¬ ((la.length : Nat) : Int) < ((lb.length : Nat) : Int) := by omega
   have hlt' : nv b < nv a := nv_lt_of_len (by rw [← Hla.out, ← Hlb.out]; exact hlt)
   go_wp2
   go_ret
   exact ⟨ret_int (by rw [cmpN_gt hlt']), Grw.refl _⟩

set_option maxHeartbeats 400000 in
theorem zsign_g {v : Value} {z : Z} {w : World} {X : Nat → Prop} (h : Zi w X v z) :
  Calls Tryz.prog 59 #[v] w fun e w' => e = .returned (.int .i64 (sgn z.v)) ∧ Grw w w' := by
 obtain ⟨A, c, rfl, h⟩ := h
 have hm := h.2.1; have hl := h.1
 simp only [maxLen] at hm
 have fin : ∀ k, k < z.mag.length → nth z.mag k ≠ 0 → sgn z.v = if z.neg then -1 else 1 := by
  intro k hk h0; have h1 := nv_pos_of h0; unfold sgn Z.v
  cases z.neg
  ·simp only [Bool.false_eq_true, if_false]; exact cmpI_gt (by omega)
  ·simp only [if_true]; exact cmpI_lt (by omega)
 have fin0 : (∀ k, k < z.mag.length → nth z.mag k = 0) → sgn z.v = 0 := by
  intro hz; have h1 := nv_zero_of hz; unfold sgn Z.v; rw [h1]; exact cmpI_eq (by split <;> rfl)
 have Fin := Lib.hid fin; have Fin0 := Lib.hid fin0; clear fin fin0
 go_enter Tryz.func59, Tryz.ntmps59
 go_wp2_with fail
 go_loop [8] (fun iv => ∃ k : Nat, k ≤ z.mag.length ∧ iv = .int .i64 k ∧ ∀ j, j < k → nth z.mag j = 0) (fun iv => z.mag.length - (intOf iv).toNat)
 case atStart => exact ⟨0, Nat.zero_le _, rfl, fun j h => by omega⟩
 case round =>
  obtain ⟨k, hk, rfl, hz⟩ := hrel
  have Hz := Lib.hid hz; clear hz
  by_cases hlt : k < z.mag.length
  ·obtain ⟨b, o, rfl, hX, hcell, _⟩ := h.at_ hlt; have hc1 := hcell k hlt; have hb := World.block_lt_of_cell? _ _ hc1; clear hcell
   by_cases hn : nth z.mag k = 0
   ·have hn' : (((nth z.mag k : Nat) : Int) == 0) = true := by simp [hn]
    go_wp2_with fail
    go_round
    case rel =>
     refine ⟨k + 1, by omega, by go_num, fun j hj => ?_⟩
     rcases Nat.lt_or_ge j k with h1 | h1
     ·exact Hz.out j h1
     ·have : j = k := by omega
      subst this; exact hn
    case measure => simp [intOf] <;> omega
   ·have hn' : (((nth z.mag k : Nat) : Int) == 0) = false := beq_eq_false_iff_ne.2 (by omega); have hs := Fin.out k hlt hn
    have Hs := Lib.hid hs; clear hs
    rcases hneg : z.neg with _ | _
    ·rw [hneg] at Hs
     go_wp2_with fail
     go_ret
     exact ⟨ret_int Hs.out.symm, (by repeat (first | with_reducible assumption | with_reducible exact Grw.refl _ | with_reducible refine Grw.drewN ?_ _ | with_reducible refine Grw.drew ?_ | with_reducible refine Grw.alloc ?_ _ | (with_reducible refine Grw.setCell ?_ ?_ _; rotate_left; (first | exact Nat.le_refl _ | (dsimp only; omega) | (simp only [wsz]; omega))) | (with_reducible refine Grw.trans ?_ (by with_reducible assumption))))⟩
    ·rw [hneg] at Hs
     go_wp2_with fail
     go_ret
     exact ⟨ret_int Hs.out.symm, (by repeat (first | with_reducible assumption | with_reducible exact Grw.refl _ | with_reducible refine Grw.drewN ?_ _ | with_reducible refine Grw.drew ?_ | with_reducible refine Grw.alloc ?_ _ | (with_reducible refine Grw.setCell ?_ ?_ _; rotate_left; (first | exact Nat.le_refl _ | (dsimp only; omega) | (simp only [wsz]; omega))) | (with_reducible refine Grw.trans ?_ (by with_reducible assumption))))⟩
  ·obtain rfl : k = z.mag.length := by omega
   go_wp2_with fail
   go_ret
   exact ⟨ret_int (Fin0.out Hz.out).symm, (by repeat (first | with_reducible assumption | with_reducible exact Grw.refl _ | with_reducible refine Grw.drewN ?_ _ | with_reducible refine Grw.drew ?_ | with_reducible refine Grw.alloc ?_ _ | (with_reducible refine Grw.setCell ?_ ?_ _; rotate_left; (first | exact Nat.le_refl _ | (dsimp only; omega) | (simp only [wsz]; omega))) | (with_reducible refine Grw.trans ?_ (by with_reducible assumption))))⟩

set_option maxHeartbeats 800000 in
theorem zcmp_g {u v : Value} {x y : Z} {w : World} {X Y : Nat → Prop} (hx : Zi w X u x) (hy : Zi w Y v y) :
  Calls Tryz.prog 66 #[u, v] w fun e w' => e = .returned (.int .i64 (cmpI x.v y.v)) ∧ Grw w w' := by
 obtain ⟨A, c, rfl, h1⟩ := hx; obtain ⟨B, d, rfl, h2⟩ := hy
 have hs1 := fun (W : World) (h : Nl W X A c x.mag) => zsign_g (v := .agg #[.bool x.neg, .slice A x.mag.length c]) (z := x) ⟨A, c, rfl, h⟩
 have hs2 := fun (W : World) (h : Nl W Y B d y.mag) => zsign_g (v := .agg #[.bool y.neg, .slice B y.mag.length d]) (z := y) ⟨B, d, rfl, h⟩
 have hlt := @sgn_lt x.v y.v; have hgt := @sgn_lt y.v x.v; have heq := @cmp_mags x y; have b1 := sgn_bd x.v; have b2 := sgn_bd y.v; generalize sgn x.v = s at *; generalize sgn y.v = t at *
 have Hs1 := Lib.hid hs1; have Hs2 := Lib.hid hs2; have Hlt := Lib.hid hlt; have Hgt := Lib.hid hgt; have Heq := Lib.hid heq
 clear hs1 hs2 hlt hgt heq; obtain ⟨b1, b1'⟩ := b1; obtain ⟨b2, b2'⟩ := b2
 go_enter Tryz.func66, Tryz.ntmps66
 go_wp2_with fail
 refine wp_region_seq 5 [(0, true), (2, true), (1, false), (3, false), (4, false), (5, false)] rfl (by kernel_rfl) (by intro _ _ d _ _ h; cases d <;> exact h) ?_
 (repeat (refine sq_take (v := ?_) rfl rfl ?_ ?_; rotate_left; exact tk2; (try simp only [pt])))
 (refine sq_loud rfl rfl fun K hK => ?_; go_simp)
 refine (Hs1.out _ (h1.ext xt)).mono ?_; rintro e w1 ⟨rfl, hgx⟩; have hx := hgx.1
 (refine hK _ _ xt ?_; clear hK K; (try simp only [pt]))
 (refine sq_loud rfl rfl fun K hK => ?_; go_simp)
 refine (Hs2.out _ (h2.ext xt)).mono ?_; rintro e w2 ⟨rfl, hgx2⟩; have hx2 := hgx2.1
 (refine hK _ _ xt ?_; clear hK K; (try simp only [pt]))
 replace hx := hx.trans hx2
 clear hx2
 (refine sq_loud rfl rfl fun K hK => ?_; go_simp)
 (refine hK _ _ xt ?_; clear hK K; (try simp only [pt]))
 (refine sq_last rfl rfl fun K hK => ?_; go_simp; refine hK _ _ ?_; clear hK K)
 have hc := hx.cells
 have hw : ∀ W, Ext w2 W → Ext w W := fun W h => Ext.trans xt h
 have hgw : ∀ W, Grw w2 W → Grw w W := fun W h => Grw.trans (by repeat (first | with_reducible assumption | with_reducible exact Grw.refl _ | with_reducible refine Grw.drewN ?_ _ | with_reducible refine Grw.drew ?_ | with_reducible refine Grw.alloc ?_ _ | (with_reducible refine Grw.setCell ?_ ?_ _; rotate_left; (first | exact Nat.le_refl _ | (dsimp only; omega) | (simp only [wsz]; omega))) | (with_reducible refine Grw.trans ?_ (by with_reducible assumption)))) h
 rcases Int.lt_trichotomy s t with hst | hst | hst
 ·have hne : (s != t) = true := by rw [bne_iff_ne]; omega
  have hcm := Lib.hid (cmpI_lt (Hlt.out hst))
  go_wp2_with fail
  all_goals
   go_ret
   exact ⟨ret_int (by rw [hcm.out] <;> omega), hgw _ (by repeat (first | with_reducible assumption | with_reducible exact Grw.refl _ | with_reducible refine Grw.drewN ?_ _ | with_reducible refine Grw.drew ?_ | with_reducible refine Grw.alloc ?_ _ | (with_reducible refine Grw.setCell ?_ ?_ _; rotate_left; (first | exact Nat.le_refl _ | (dsimp only; omega) | (simp only [wsz]; omega))) | (with_reducible refine Grw.trans ?_ (by with_reducible assumption))))⟩
 ·have hne : (s != t) = false := by simp [hst]
  have Hst := Lib.hid hst; clear hst
  by_cases h0 : s < 0
  ·have hcm := Lib.hid ((Heq.out Hst.out).1 h0)
   go_wp2_with fail
   refine (cmp_g (h2.ext (hw _ xt)) (h1.ext (hw _ xt))).mono ?_; rintro e w3 ⟨rfl, hgx3⟩; have hx3 := hgx3.1
   go_wp2_with fail
   go_ret
   exact ⟨ret_int hcm.out.symm, hgw _ (by repeat (first | with_reducible assumption | with_reducible exact Grw.refl _ | with_reducible refine Grw.drewN ?_ _ | with_reducible refine Grw.drew ?_ | with_reducible refine Grw.alloc ?_ _ | (with_reducible refine Grw.setCell ?_ ?_ _; rotate_left; (first | exact Nat.le_refl _ | (dsimp only; omega) | (simp only [wsz]; omega))) | (with_reducible refine Grw.trans ?_ (by with_reducible assumption))))⟩
  ·have hcm := Lib.hid ((Heq.out Hst.out).2 (by omega))
   go_wp2_with fail
   refine (cmp_g (h1.ext (hw _ xt)) (h2.ext (hw _ xt))).mono ?_; rintro e w3 ⟨rfl, hgx3⟩; have hx3 := hgx3.1
   go_wp2_with fail
   go_ret
   exact ⟨ret_int hcm.out.symm, hgw _ (by repeat (first | with_reducible assumption | with_reducible exact Grw.refl _ | with_reducible refine Grw.drewN ?_ _ | with_reducible refine Grw.drew ?_ | with_reducible refine Grw.alloc ?_ _ | (with_reducible refine Grw.setCell ?_ ?_ _; rotate_left; (first | exact Nat.le_refl _ | (dsimp only; omega) | (simp only [wsz]; omega))) | (with_reducible refine Grw.trans ?_ (by with_reducible assumption))))⟩
 ·have hne : (s != t) = true := by rw [bne_iff_ne]; omega
  have hcm := Lib.hid (cmpI_gt (Hgt.out hst))
  go_wp2_with fail
  all_goals
   go_ret
   exact ⟨ret_int (by rw [hcm.out] <;> omega), hgw _ (by repeat (first | with_reducible assumption | with_reducible exact Grw.refl _ | with_reducible refine Grw.drewN ?_ _ | with_reducible refine Grw.drew ?_ | with_reducible refine Grw.alloc ?_ _ | (with_reducible refine Grw.setCell ?_ ?_ _; rotate_left; (first | exact Nat.le_refl _ | (dsimp only; omega) | (simp only [wsz]; omega))) | (with_reducible refine Grw.trans ?_ (by with_reducible assumption))))⟩

open Go.Shelf
abbrev Ez := Z × (Option Addr × Nat)
def encz (x : Ez) : List Value := [.bool x.1.neg, .slice x.2.1 x.1.mag.length x.2.2]
abbrev EzAt (w : World) (Y : Nat → Prop) : Type := { x : Ez // Nl w Y x.2.1 x.2.2 x.1.mag }
instance (w : World) (Y : Nat → Prop) : Inhabited (EzAt w Y) := ⟨⟨(⟨false, []⟩, (none, 0)), Sl.nil0 _ _ _⟩⟩
def encA {w : World} {Y : Nat → Prop} (x : EzAt w Y) : List Value := encz x.1

theorem flz_els {w : World} {Y : Nat → Prop} : ∀ {l : List Z} {xs : List Value}, Fl 2 EZ w Y xs l → ∃ els : List (EzAt w Y), els.map (fun x => x.1.1) = l ∧ xs = els.flatMap encA
 | [], xs, h => ⟨[], rfl, by have := h.1; simp at this; simp [this]⟩
 | p :: l, xs, h => by
  obtain ⟨A, c, h1, h3⟩ := h.2 0 (by simp); simp only [Nat.zero_mul, List.drop_zero, List.getElem_cons_zero] at h1 h3
  have hlen : xs.length = 2 + l.length * 2 := by rw [h.1, List.length_cons, Nat.add_mul]; omega
  obtain ⟨els, e1, e2⟩ := flz_els (l := l) (xs := xs.drop 2) ⟨by rw [List.length_drop]; omega, fun i hi => by
   have := h.2 (i + 1) (by simp; omega); rw [List.drop_drop]; rw [Nat.add_mul, Nat.one_mul, Nat.add_comm] at this
   exact this⟩
  refine ⟨⟨(p, (A, c)), h3⟩ :: els, by simp [e1], ?_⟩; rw [List.flatMap_cons, ← e2]
  show xs = [.bool p.neg, .slice A p.mag.length c] ++ xs.drop 2
  rw [← h1, List.take_append_drop]
theorem flz_of_els {w w' : World} {Y X : Nat → Prop} : ∀ {els : List (EzAt w Y)}, (∀ x ∈ els, Nl w' X x.1.2.1 x.1.2.2 x.1.1.mag) → Fl 2 EZ w' X (els.flatMap encA) (els.map fun x => x.1.1)
 | [], _ => Fl.nil _ _
 | x :: els, h => by
  have h1 := flz_of_els (els := els) fun y hy => h y (by simp [hy])
  have h4 : Fl 2 EZ w' X (encA x) [x.1.1] := Fl.one ⟨x.1.2.1, x.1.2.2, rfl, h x (by simp)⟩ rfl; have := h4.append h1
  simpa using this
theorem flatz_at {w : World} {Y : Nat → Prop} : ∀ (els : List (EzAt w Y)) (t : Nat), (els.flatMap encA)[t]? = if t < els.length * 2 then some (encA els.toArray[t / 2]!)[t % 2]! else none
 | [], t => by simp
 | x :: els, t => by
  rw [List.flatMap_cons]; have hl : (encA x).length = 2 := rfl
  by_cases h : t < 2
  ·rw [List.getElem?_append_left (by omega), if_pos (by simp; omega)]
   have h1 : t / 2 = 0 := by omega
   have h2 : t % 2 = t := by omega
   rw [h1, h2]; simp only [List.size_toArray, List.length_cons, Nat.zero_lt_succ, getElem!_pos, List.getElem_toArray, List.getElem_cons_zero]; rw [List.getElem?_eq_getElem (by omega), getElem!_pos (encA x) t (by omega)]
  ·rw [List.getElem?_append_right (by omega), hl, flatz_at els (t - 2)]
   have e1 : t / 2 = (t - 2) / 2 + 1 := by omega
   have e2 : t % 2 = (t - 2) % 2 := by omega
   rw [e1, e2]
   by_cases h3 : t - 2 < els.length * 2
   ·rw [if_pos h3, if_pos (by simp; omega)]
    have h4 : (t - 2) / 2 < els.length := by omega
    congr 2
    rw [getElem!_pos els.toArray _ (by simpa using h4), getElem!_pos (x :: els).toArray _ (by simp; omega)]; simp
   ·rw [if_neg h3, if_neg (by simp; omega)]
theorem flatz_list {w : World} {Y : Nat → Prop} (els : List (EzAt w Y)) : (flatK encA 2 els.toArray).toList = els.flatMap encA := by
 apply List.ext_getElem?
 intro t; rw [flatz_at]
 by_cases h : t < els.length * 2
 ·rw [if_pos h, Array.getElem?_toList, Array.getElem?_eq_getElem (by simpa using h), ← get_flatK encA 2 els.toArray t (by simpa using h), getElem!_pos _ t (by simpa using h)]
 ·rw [if_neg h, List.getElem?_eq_none (by simp; omega)]
theorem takez_put (cur F : Array Value) (h : F.size ≤ cur.size) : (putCells id 0 F cur).toList.take F.size = F.toList := by
 apply List.ext_getElem?
 intro j
 by_cases hj : j < F.size
 ·rw [List.getElem?_take_of_lt hj, Array.getElem?_toList]; simp [putCells, hj, show j < cur.size by omega]
 ·rw [List.getElem?_take_eq_none (by omega), List.getElem?_eq_none (by simp; omega)]
theorem heapz_put {w : World} {g n : Nat} {os : Array Obj} {cur : Array Value} {e : TypeId} {fr : Nat × Nat} (F : Array Value) (hb : w.heap[g]? = some (.cells cur e fr)) :
  (grow (putRow id (Sort.ahead w n) g 0 F) os).heap[g]? = some (.cells (putCells id 0 F cur) e fr) := by
 have hg : g < w.heap.size := (Array.getElem?_eq_some_iff.1 hb).1; rw [heap_grow_old _ _ (by simpa using hg)]; simp [putRow, mapBlock, Sort.ahead, Array.getElem?_modify, hb, onCells]
theorem grownz_put {w : World} {g n : Nat} {os : Array Obj} (F : Array Value) : w.grownBy (grow (putRow id (Sort.ahead w n) g 0 F) os) (some g) := by
 refine ⟨rfl, rfl, rfl, by simp, fun k hk hne => ?_⟩; rw [heap_grow_old _ _ (by simpa using hk)]
 have : g ≠ k := fun e => hne (by rw [e])
 simp [putRow, mapBlock, Sort.ahead, Array.getElem?_modify, this]

def cfZ {w : World} {Y : Nat → Prop} (x y : EzAt w Y) : Int := cmpI x.1.1.v y.1.1.v
theorem lt_cfZ {w : World} {Y : Nat → Prop} (x y : EzAt w Y) : ltOf cfZ x y = decide (x.1.1.v < y.1.1.v) := by
 unfold ltOf cfZ; rw [show (decide (cmpI x.1.1.v y.1.1.v < 0)) = decide (x.1.1.v < y.1.1.v) from by congr 1; exact propext cmpI_neg]
theorem swo_Z {w : World} {Y : Nat → Prop} : SWO (ltOf (cfZ (w := w) (Y := Y))) where
 irrefl x := by rw [lt_cfZ]; simp
 trans x y z h1 h2 := by rw [lt_cfZ] at *; simp at *; omega
 ntrans x y z h1 h2 := by rw [lt_cfZ] at *; simp at *; omega

theorem sortz_c {w : World} {Zp : Nat → Prop} {base : Nat} {A : Option Addr} {n c : Nat} {l : List Z} (h : Own 2 EZ w Zp base 25 (.slice A n c) l) (hn : l.length < 4611686018427387904) :
  Calls Tryz.prog 119 #[.slice A n c, .func (.func 66) #[] #[]] w fun e w' => e = .returned (.tuple #[]) ∧
   ∃ l', l'.Perm l ∧ l'.Pairwise (fun p q => ¬ q.v < p.v) ∧ Own 2 EZ w' Zp base 25 (.slice A n c) l' ∧ w.grownBy w' (Value.ownBlock (.slice A n c)) := by
 obtain ⟨xs, h1, h2⟩ := h
 rcases h1.2 with ⟨hv, hl⟩ | ⟨g, cap, cur, hv, hb, hg, hnc, hcm, hcs, htake⟩
 ·injection hv with e1 e2 e3
  subst e1; subst e2; subst e3
  have h0 : l = [] := List.eq_nil_of_length_eq_zero hl; subst h0; have hcon := AnyF.slices_SortFunc_none Tryz.laySortZ none 0 (.func (.func 66) #[] #[]) w; refine hcon.mono ?_; rintro e w' ⟨rfl, rfl⟩; exact ⟨rfl, [], .refl _, .nil, ⟨xs, h1, h2⟩, World.grownBy.refl _ _⟩
 ·injection hv with e1 e2 e3
  subst e1; subst e2; subst e3
  have hX : (fun b => Zp b ∧ Value.ownBlock (.slice (some ⟨g, 0, none⟩) l.length c) ≠ some b) = fun b => Zp b ∧ b ≠ g := by
   funext b
   apply propext
   constructor
   ·rintro ⟨h3, h4⟩; exact ⟨h3, fun e => h4 (by rw [e]; rfl)⟩
   ·rintro ⟨h3, h4⟩; exact ⟨h3, fun e => h4 (Option.some.inj e).symm⟩
  rw [hX] at h2; obtain ⟨els, e1, e2⟩ := flz_els h2
  have hlen : els.length = l.length := by rw [← e1, List.length_map]
  have hglt := lt_of_some hg
  have hH : HoldsK encA 2 w g 0 els.toArray := by
   intro j hj
   have hj' : j < els.length * 2 := by simpa using hj
   refine ⟨?_, by simp [World.frozen?, hg]⟩
   have h3 : xs[j]? = some (flatK encA 2 els.toArray)[j]! := by
    rw [e2, ← flatz_list, Array.getElem?_toList, Array.getElem?_eq_getElem hj, getElem!_pos _ j hj]
   have h4 := h1.cells (g := g) rfl j _ h3
   simpa [Addr.add_lit] using h4
  have eg : ∀ args w, (callFunc 66 args).run Tryz.prog w = .ok (.enter 66 args) w := enters_of Tryz.func66 (by kernel_rfl) rfl
  have hkeep : ∀ (m : Nat) (os : Array Obj) (dk : Array (EzAt w fun b => Zp b ∧ b ≠ g)), Kp (fun b => b ≠ g) w (sortWorldK encA 2 w g 0 m dk os) := fun m os dk => by
   have hgr := grownz_put (w := w) (g := g) (n := m) (os := os) (flatK encA 2 dk)
   exact fun b hb hl => hgr.block b hl (fun e => hb (Option.some.inj e))
  have hcmp : CmpLays Tryz.prog 66 #[] (encA (w := w) (Y := fun b => Zp b ∧ b ≠ g)) 2 cfZ g 0 els.toArray.size w := fun m os dk _ x y =>
   (zcmp_g (x := x.1.1) (y := y.1.1) ⟨_, _, rfl, x.2.keep ((hkeep m os dk).imp fun b hb => hb.2)⟩ ⟨_, _, rfl, y.2.keep ((hkeep m os dk).imp fun b hb => hb.2)⟩).mono fun _ _ ⟨he, hgw⟩ => ⟨he, hgw.grow⟩
  have hcon := AnyQ.slices_SortFunc Tryz.laySortZ 2 Tryz.isAgg25 Tryz.sizeOf25 encA (fun _ => rfl) (fun x v hv => by simp [encA, encz] at hv; rcases hv with rfl | rfl <;> rfl) cfZ swo_Z 66 #[] g 0 c els.toArray w eg hcmp hH hglt (by rw [List.size_toArray]; omega)
  change Calls Tryz.prog 119 _ _ _ at hcon
  have ea : (#[.slice (some ⟨g, 0, none⟩) l.length c, .func (.func 66) #[] #[]] : Array Value) = #[.slice (some ⟨g, 0, none⟩) els.toArray.size c, .func (.func 66) #[] #[]] := by
   rw [List.size_toArray, hlen]
  rw [ea]; refine hcon.mono ?_; rintro e w' ⟨rfl, d', n, os, hp, hs, rfl⟩; obtain ⟨p1, _, p2⟩ := hp; have p0 : d'.size = els.toArray.size := p1
  have p1' : d'.size = l.length := by rw [p0, List.size_toArray, hlen]
  have p3 : d'.toList.Perm els := by
   have x1 : d'.extract 0 els.toArray.size = d' := by rw [← p0]; simp
   have x2 : els.toArray.extract 0 els.toArray.size = els.toArray := by simp
   have p4 : (d'.extract 0 els.toArray.size).toList.Perm (els.toArray.extract 0 els.toArray.size).toList := p2; rw [x1, x2] at p4; exact p4
  have pL : (d'.toList.map fun x => x.1.1).length = l.length := by rw [List.length_map]; exact p1'
  have hd : d' = d'.toList.toArray := by simp
  have hgr := grownz_put (w := w) (g := g) (n := n) (os := os) (flatK encA 2 d'); refine ⟨rfl, d'.toList.map (fun x => x.1.1), by rw [← e1]; exact p3.map _, ?_, ?_, hgr⟩
  ·rw [List.pairwise_map, List.pairwise_iff_getElem]; intro i j hi hj hij; have := hs i j (Nat.zero_le _) hij (by rw [← p0]; exact hj); rw [lt_cfZ] at this; rw [getElem!_pos d' i (by simpa using hi), getElem!_pos d' j (by simpa using hj)] at this
   simpa using this
  ·refine ⟨d'.toList.flatMap encA, ⟨?_, .inr ⟨g, c, _, ?_, hb, heapz_put _ hg, ?_, hcm, ?_, ?_⟩⟩, ?_⟩
   ·have x1 := congrArg List.length (flatz_list d'.toList); simp only [Array.length_toList, size_flatK, List.size_toArray] at x1; rw [← x1, List.length_map, Array.length_toList]
   ·rw [pL]
   ·rw [pL]; exact hnc
   ·simp [putCells, hcs]
   ·have x1 : (flatK encA 2 d').size = (d'.toList.map fun x => x.1.1).length * 2 := by simp
    rw [← x1, takez_put _ _ (by rw [size_flatK, p1', hcs]; exact Nat.mul_le_mul_right _ hnc)]
    conv => lhs; rw [hd]
    exact flatz_list _
   ·have hX2 : (fun b => Zp b ∧ Value.ownBlock (.slice (some ⟨g, 0, none⟩) l.length c) ≠ some b) = fun b => Zp b ∧ b ≠ g := hX
    rw [hX2]
    exact flz_of_els fun x _ => x.2.keep (fun b hb hl => hgr.block b hl (fun e => hb.2 (Option.some.inj e)))

end Go.Proofs.YtpkfjbljhneenaaGreat

namespace Go.Proofs.YtpkfjbljhneenaaGreat
open Go.RowKit Go.Shelf

def ddk (l : List Z) (k : Nat) : List Z := (List.range k).filterMap fun j => if j ≠ 0 ∧ (zth l j).v = (zth l (j - 1)).v then none else some (zth l j)
theorem ddk_hit {l : List Z} {k : Nat} (h0 : k ≠ 0) (h : (zth l k).v = (zth l (k - 1)).v) : ddk l (k + 1) = ddk l k := by
  rw [ddk, List.range_succ, List.filterMap_append, ddk, List.filterMap_cons, if_pos ⟨h0, h⟩]; simp
theorem ddk_keep {l : List Z} {k : Nat} (h : k = 0 ∨ (zth l k).v ≠ (zth l (k - 1)).v) : ddk l (k + 1) = ddk l k ++ [zth l k] := by
  rw [ddk, List.range_succ, List.filterMap_append, ddk, List.filterMap_cons, if_neg (by rcases h with h | h <;> simp [h])]; simp
theorem ddk_take {l : List Z} : ∀ {k : Nat}, k ≤ l.length → (∀ j, 0 < j → j < k → (zth l j).v ≠ (zth l (j - 1)).v) → ddk l k = l.take k
  | 0, _, _ => rfl
  | k + 1, hk, h => by
    rw [ddk_keep, ddk_take (by omega) (fun j h0 h1 => h j h0 (by omega)), take_zth l k (by omega)]
    rcases Nat.eq_zero_or_pos k with h0 | h0
    · exact .inl h0
    · exact .inr (h k h0 (by omega))
theorem ddk_len (l : List Z) (k : Nat) : (ddk l k).length ≤ k := by
  have := List.length_filterMap_le (fun j => if j ≠ 0 ∧ (zth l j).v = (zth l (j - 1)).v then none else some (zth l j)) (List.range k)
  rwa [List.length_range] at this

set_option maxHeartbeats 400000 in
theorem same_c {u v : Value} {x y : Z} {w : World} {X Y : Nat → Prop} (hx : Zi w X u x) (hy : Zi w Y v y) :
    Calls Tryz.prog 121 #[u, v] w fun e w' => e = .returned (.bool (cmpI x.v y.v == 0)) ∧ Ext w w' := by
  have hx0 := hx; have hy0 := hy
  have hc := fun (V : World) (hV : Ext w V) => zcmp_c (hx0.ext hV) (hy0.ext hV)
  obtain ⟨A, c, rfl, _⟩ := hx; obtain ⟨B, d, rfl, _⟩ := hy
  go_enter Tryz.func121, Tryz.ntmps121
  go_wp2_with fail
  refine (hc _ xt).mono ?_; rintro e w1 ⟨rfl, hx1⟩
  go_wp2_with fail
  go_ret
  exact ⟨rfl, Ext.trans xt hx1⟩

theorem zown_at {w : World} {Zp : Nat → Prop} {base g n c k : Nat} {e : TypeId} {l : List Z} (h : Own 2 EZ w Zp base e (.slice (some ⟨g, 0, none⟩) n c) l) (hk : k < l.length) :
    ∃ B d, w.cell? ⟨g, k * 2, none⟩ = some (.bool (zth l k).neg) ∧ w.cell? ⟨g, k * 2 + 1, none⟩ = some (.slice B (zth l k).mag.length d) ∧ Nl w (fun b => Zp b ∧ b ≠ g) B d (zth l k).mag := by
  obtain ⟨xs, h1, h2⟩ := h; obtain ⟨B, d, hcs, hN⟩ := h2.2 k hk; rw [← zth_eq l k hk] at hcs hN
  have hc : ∀ j u, xs[j]? = some u → w.cell? ⟨g, j, none⟩ = some u := fun j u hj => by
    have := h1.cells (g := g) rfl j u hj
    simpa [Addr.add_lit] using this
  have e0 := hc _ _ (nth_of_slice (l := [.bool (zth l k).neg, .slice B (zth l k).mag.length d]) hcs 0 (by simp)); have e1 := hc _ _ (nth_of_slice (l := [.bool (zth l k).neg, .slice B (zth l k).mag.length d]) hcs 1 (by simp)); exact ⟨B, d, e0, e1, hN.widen fun b hb _ => ⟨hb.1, fun e => hb.2 (by rw [e]; rfl)⟩⟩
theorem zown_put {w : World} {Zp : Nat → Prop} {base g n c k : Nat} {e : TypeId} {l : List Z} {z : Z} {B : Option Addr} {d : Nat} (h : Own 2 EZ w Zp base e (.slice (some ⟨g, 0, none⟩) n c) l) (hk : k < l.length)
    (hN : Nl w (fun b => Zp b ∧ b ≠ g) B d z.mag) :
    Own 2 EZ ((w.setCell ⟨g, k * 2, none⟩ (.bool z.neg)).setCell ⟨g, k * 2 + 1, none⟩ (.slice B z.mag.length d)) Zp base e (.slice (some ⟨g, 0, none⟩) n c) (l.set k z) := by
  have p0 := Own.put h (k := k) (r := 0) (u := .bool z.neg) (a' := ⟨z.neg, l[k].mag⟩) hk (by omega) (by
    rintro cs ⟨A', c', rfl, hN'⟩ _
    exact ⟨A', c', rfl, hN'⟩)
  have h1 : k < (l.set k (⟨z.neg, l[k].mag⟩ : Z)).length := by rw [List.length_set]; exact hk
  have p1 := Own.put p0 (k := k) (r := 1) (u := .slice B z.mag.length d) (a' := z) h1 (by omega) (by
    rw [List.getElem_set_self]; rintro cs ⟨A', c', rfl, hN'⟩ _
    exact ⟨B, d, rfl, hN.keep ((Kp.refl w).setCell (fun h => h.2 rfl) _)⟩)
  rw [List.set_set] at p1; exact p1
theorem zset_take (r : List Z) (i : Nat) (p : Z) (h : i < r.length) : (r.set i p).take (i + 1) = r.take i ++ [p] := by
  rw [List.take_succ_eq_append_getElem (by rw [List.length_set]; exact h), List.getElem_set_self]
  congr 1
  apply List.ext_getElem?
  intro k
  by_cases hk : k < i
  · rw [List.getElem?_take_of_lt hk, List.getElem?_take_of_lt hk, List.getElem?_set_ne (by omega)]
  · rw [List.getElem?_take_eq_none (by omega), List.getElem?_take_eq_none (by omega)]
theorem zset_drop (r : List Z) (i j : Nat) (p : Z) (h : i < j) : (r.set i p).drop j = r.drop j := by
  apply List.ext_getElem?
  intro k; rw [List.getElem?_drop, List.getElem?_drop, List.getElem?_set_ne (by omega)]
theorem zth_drop {r l : List Z} {i j : Nat} (h : r.drop i = l.drop i) (hij : i ≤ j) : zth r j = zth l j := by
  unfold zth; rw [List.getD_eq_getElem?_getD, List.getD_eq_getElem?_getD]; have := congrArg (fun x => x[j - i]?) h; simp only [List.getElem?_drop, show i + (j - i) = j from by omega] at this; rw [this]
theorem zero_one2 (m : Nat) : ∀ v ∈ (Builtin.zeroCells (Value.cells (.agg #[.bool false, .slice none 0 0])) m).toList, v.oneCell' = true := by
  intro v hv; simp only [Builtin.zeroCells, Array.toList_map, List.mem_map] at hv; obtain ⟨i, _, rfl⟩ := hv; have hsz : (Value.cells (.agg #[.bool false, .slice none 0 0])).size = 2 := rfl; rw [hsz]; have : i % 2 < 2 := Nat.mod_lt _ (by omega)
  rcases (by omega : i % 2 = 0 ∨ i % 2 = 1) with e | e <;> rw [e] <;> rfl

set_option maxHeartbeats 1600000 in
theorem compact_c {w : World} {Zp : Nat → Prop} {base : Nat} {v : Value} {l : List Z} (hO : Own 2 EZ w Zp base 25 v l) (hL : l.length ≤ 1099511627776) :
    Calls Tryz.prog 120 #[v, .func (.func 121) #[] #[]] w fun e w' => ∃ v', e = .returned v' ∧ Own 2 EZ w' Zp base 25 v' (ddk l l.length) ∧ w.grownBy w' v.ownBlock := by
  obtain ⟨A, c, rfl, hs⟩ := Own.sl hO (by omega) (X := fun c => Zp c ∨ base ≤ c) (fun c hc => hc); have hs : Zs w (fun c => Zp c ∨ base ≤ c) A c l := hs
  have hcl := hs.1; have hcm := hs.2.1
  simp only [maxLen] at hcm
  have eg : ∀ args w, (callFunc 121 args).run Tryz.prog w = .ok (.enter 121 args) w := enters_of Tryz.func121 (by kernel_rfl) rfl
  by_cases hshort : l.length < 2
  · have hd : ddk l l.length = l := by
      rw [ddk_take (Nat.le_refl _) (fun j h0 h1 => by omega), List.take_length]
    have h2 : (l.length : Int) < 2 := by omega
    have hd' := Lib.hid hd; clear hd
    go_enter Tryz.func120, Tryz.ntmps120
    go_wp2_with fail
    go_ret
    exact ⟨_, rfl, by rw [hd'.out]; exact hO, World.grownBy.refl _ _⟩
  · have h2 : ¬ (l.length : Int) < 2 := by omega
    obtain ⟨g, o, _, _, rfl, _⟩ := hs.at_ (k := 0) (by omega); obtain ⟨rfl, -, hbb, hbw⟩ := hO.adr
    go_enter Tryz.func120, Tryz.ntmps120
    go_wp2_with fail
    go_loopw [5] (fun iv wr => ∃ i : Nat, iv = .int .i64 i ∧ 0 < i ∧ i ≤ l.length ∧ Hid (∀ j, 0 < j → j < i → (zth l j).v ≠ (zth l (j - 1)).v) ∧ Own 2 EZ wr Zp base 25 (.slice (some ⟨g, 0, none⟩) l.length c) l ∧ Ext w wr) (fun iv _ => l.length - (intOf iv).toNat)
    case atStart => exact ⟨1, rfl, by omega, by omega, Lib.hid fun j _ _ => by omega, hO, xt⟩
    case round =>
      obtain ⟨i, rfl, h0, hi, hno, hOr, hx⟩ := hrel
      by_cases hlt : i < l.length
      · obtain ⟨B, d, q0, q1, hN⟩ := zown_at hOr hlt; obtain ⟨i', hi'⟩ : ∃ i', i = i' + 1 := ⟨i - 1, by omega⟩; obtain ⟨B', d', q0', q1', hN'⟩ := zown_at hOr (k := i') (by omega); have hgw := World.block_lt_of_cell? _ _ q0; have hgw : g < wr.heap.size := hgw
        have il : (i : Int) < (l.length : Int) := by omega
        have il2 : (i' : Int) < (l.length : Int) := by omega
        have iw := w64n (n := i') (by omega); have iw2 := w64n (n := i) (by omega)
        have hcall := fun (V : World) (hV : Ext wr V) => same_c (x := zth l i) (y := zth l i') ⟨_, _, rfl, hN.ext hV⟩ ⟨_, _, rfl, hN'.ext hV⟩
        have ei : (i : Int) - 1 = (i' : Int) := by omega
        have Hi := Lib.hid hi'; clear hi'
        have hx0 := hx
        by_cases hv : (zth l i).v = (zth l i').v
        · have e1 : (cmpI (zth l i).v (zth l i').v == 0) = true := by rw [cmpI_eq hv]; rfl
          rw [e1] at hcall
          have Hv := Lib.hid hv; clear hv e1
          go_wp2_with fail
          refine wp_region_seq 11 [(0, true), (1, true), (2, true), (3, true), (4, true), (5, true), (6, true), (7, true), (8, true), (9, true), (10, false)] rfl (by kernel_rfl) (by intro _ _ d _ _ h; cases d <;> exact h) ?_
          (repeat (refine sq_take (v := ?_) rfl rfl ?_ ?_; rotate_left; exact tk2; (try simp only [pt])))
          (refine sq_loud rfl rfl fun K hK => ?_; go_simp)
          refine (hcall _ xt).mono ?_; rintro e w1 ⟨rfl, hx1⟩
          (refine hK _ _ xt ?_; clear hK K; (try simp only [pt]))
          refine sq_done ?_; have hOw := hOr.ext (w' := w1) xt; have hxw := hx0.trans (show Ext wr w1 from xt); clear hOr hx hcall hx1
          go_wp2_with fail
          have hHi := Hi.out
          have hst : Hid (l.take i = ddk l (i + 1)) := Lib.hid (by
            rw [ddk_hit (by omega) (by rw [show i - 1 = i' from by omega]; exact Hv.out), ddk_take hi hno.out])
          clear hHi q0 q1 q0' q1' hN hN'
          go_loopw [5, 7] (fun iv kv wz => ∃ a k : Nat, ∃ r : List Z, iv = .int .i64 a ∧ kv = .int .i64 k ∧ 0 < k ∧ a < i + k ∧ i + k ≤ l.length ∧ Hid (r.length = l.length) ∧ Hid (r.take a = ddk l (i + k)) ∧ Hid (r.drop (i + k - 1) = l.drop (i + k - 1)) ∧
            Own 2 EZ wz Zp base 25 (.slice (some ⟨g, 0, none⟩) l.length c) r ∧ w.grownBy wz (some g)) (fun _ kv _ => l.length - (intOf kv).toNat)
          case atStart => exact ⟨i, 1, l, rfl, rfl, by omega, by omega, by omega, Lib.hid rfl, hst, Lib.hid rfl, hOw, ext_then hxw (World.grownBy.refl _ _)⟩
          case round =>
            obtain ⟨a, k, r, rfl, rfl, hk0, hak, hk, hrl, hrt, hrd, hOz, hgz⟩ := hrel
            by_cases hkl : i + k < l.length
            · obtain ⟨m, hm⟩ : ∃ m, k = m + 1 := ⟨k - 1, by omega⟩
              have ek : (k : Int) - 1 = (m : Int) := by omega
              have e1 : zth r (i + k) = zth l (i + k) := zth_drop hrd.out (by omega); have e2 : zth r (i + m) = zth l (i + m) := zth_drop hrd.out (by omega); obtain ⟨B, d, q0, q1, hN⟩ := zown_at hOz (k := i + k) (by rw [hrl.out]; omega); obtain ⟨B', d', q0', q1', hN'⟩ := zown_at hOz (k := i + m) (by rw [hrl.out]; omega); rw [e1] at q0 q1 hN; rw [e2] at q0' q1' hN'; rw [Nat.add_mul] at q0 q1 q0' q1'
              have Hm := Lib.hid hm; clear hm e1 e2
              have hgw := World.block_lt_of_cell? _ _ q0; have hgw : g < wr.heap.size := hgw
              have kl : (k : Int) < ((l.length - i : Nat) : Int) := by omega
              have ml : (m : Int) < ((l.length - i : Nat) : Int) := by have := Hm.out; omega
              have al : (a : Int) < (l.length : Int) := by omega
              have kw := w64n (n := k) (by omega); have mw := w64n (n := m) (by have := Hm.out; omega); have aw := w64n (n := a) (by omega)
              have hcall := fun (V : World) (hV : Ext wr V) => same_c (x := zth l (i + k)) (y := zth l (i + m)) ⟨_, _, rfl, hN.ext hV⟩ ⟨_, _, rfl, hN'.ext hV⟩
              have hki : i + k - 1 = i + m := by have := Hm.out; omega
              have Hki := Lib.hid hki; clear hki
              by_cases hv : (zth l (i + k)).v = (zth l (i + m)).v
              · have e1 : (cmpI (zth l (i + k)).v (zth l (i + m)).v == 0) = true := by rw [cmpI_eq hv]; rfl
                rw [e1] at hcall
                have Hv := Lib.hid hv; clear hv e1
                go_wp2_with fail
                refine wp_region_seq 12 [(0, true), (1, true), (2, true), (3, true), (4, true), (5, true), (6, true), (7, true), (8, true), (9, true), (10, false), (11, true)] rfl (by kernel_rfl) (by intro _ _ d _ _ h; cases d <;> exact h) ?_
                (repeat (refine sq_take (v := ?_) rfl rfl ?_ ?_; rotate_left; exact tk2; (try simp only [pt])))
                (refine sq_loud rfl rfl fun K hK => ?_; go_simp)
                refine (hcall _ xt).mono ?_; rintro e w1 ⟨rfl, hx1⟩
                (refine hK _ _ xt ?_; clear hK K; (try simp only [pt]))
                (repeat (refine sq_take (v := ?_) rfl rfl ?_ ?_; rotate_left; exact tk2; (try simp only [pt])))
                refine sq_done ?_
                go_wp2_with fail
                go_roundw
                case rel =>
                  refine ⟨a, k + 1, r, rfl, by go_num, by omega, by omega, by omega, hrl, Lib.hid ?_, Lib.hid ?_, hOz.ext xt, grown_then hgz xt⟩
                  · rw [← Nat.add_assoc, ddk_hit (by omega) (by rw [Hki.out]; exact Hv.out)]; exact hrt.out
                  · have h1 := congrArg (List.drop 1) hrd.out; rw [List.drop_drop, List.drop_drop] at h1; rw [show i + (k + 1) - 1 = i + k - 1 + 1 from by omega]; exact h1
                case measure => simp [intOf] <;> omega
              · have e1 : (cmpI (zth l (i + k)).v (zth l (i + m)).v == 0) = false := by
                  rw [beq_eq_false_iff_ne]; exact fun h => hv (cmpI_zero.1 h)
                rw [e1] at hcall
                have Hv := Lib.hid hv; clear hv e1
                go_wp2_with fail
                refine wp_region_seq 12 [(0, true), (1, true), (2, true), (3, true), (4, true), (5, true), (6, true), (7, true), (8, true), (9, true), (10, false), (11, true)] rfl (by kernel_rfl) (by intro _ _ d _ _ h; cases d <;> exact h) ?_
                (repeat (refine sq_take (v := ?_) rfl rfl ?_ ?_; rotate_left; exact tk2; (try simp only [pt])))
                (refine sq_loud rfl rfl fun K hK => ?_; go_simp)
                refine (hcall _ xt).mono ?_; rintro e w1 ⟨rfl, hx1⟩
                (refine hK _ _ xt ?_; clear hK K; (try simp only [pt]))
                (repeat (refine sq_take (v := ?_) rfl rfl ?_ ?_; rotate_left; exact tk2; (try simp only [pt])))
                refine sq_done ?_; have hxx : Ext wr w1 := Ext.trans xt hx1; have hO3 := hOz.ext hxx
                have har : a < r.length := by rw [hrl.out]; omega
                obtain ⟨B3, d3, p0, p1, _⟩ := zown_at hO3 har
                have hfz := fun o => Own.frz hO3 o
                have q3 := (hxx.cells.1 g _ hgw).trans q0; have q4 := (hxx.cells.1 g _ hgw).trans q1; have hgw1 := hO3.adr.2.2.2; have p3 := zown_put hO3 har (hN.ext hxx); have P3 := Lib.hid p3; clear p3 hO3 q0 q1 q0' q1' hN hN' hcall
                go_wp2_with fail
                trace_state
                go_roundw
                case rel =>
                  refine ⟨a + 1, k + 1, r.set a (zth l (i + k)), by go_num, by go_num, by omega, by omega, by omega, Lib.hid (by rw [List.length_set]; exact hrl.out), Lib.hid ?_, Lib.hid ?_, P3.out, ?_⟩
                  · rw [zset_take r a _ har, hrt.out, ← Nat.add_assoc, ddk_keep (.inr (by rw [Hki.out]; exact Hv.out))]
                  · rw [zset_drop r a _ _ (by omega)]; have h1 := congrArg (List.drop 1) hrd.out; rw [List.drop_drop, List.drop_drop] at h1; rw [show i + (k + 1) - 1 = i + k - 1 + 1 from by omega]; exact h1
                  · exact grownBy_store (grownBy_store (grown_then hgz hxx) _ _) _ _
                case measure => simp [intOf] <;> omega
            · obtain hik : i + k = l.length := by omega
              have kl : ¬ (k : Int) < ((l.length - i : Nat) : Int) := by omega
              have al : (a : Int) < (l.length : Int) := by omega
              have ac : (a : Int) ≤ (c : Int) := by omega
              have al2 : a < l.length := by omega
              have aw := w64n (n := a) (by omega)
              have hki := Lib.hid hik; clear hik
              obtain ⟨w4, hrun, hO4, hg4⟩ := Own.clear ety_z hOz (k := a) (by rw [hrl.out]; exact al2) zero_one2 (c - a); rw [hrl.out] at hrun; rw [hrt.out, hki.out] at hO4
              go_wp2_with (first
                | (at_builtin
                   refine wpList_clear (.tmp 61) rfl rfl rfl hrun ?_)
                | fail)
              go_ret
              exact ⟨_, rfl, hO4, grown_both hgz hg4⟩
        · have e1 : (cmpI (zth l i).v (zth l i').v == 0) = false := by
            rw [beq_eq_false_iff_ne]; exact fun h => hv (cmpI_zero.1 h)
          rw [e1] at hcall
          have Hv := Lib.hid hv; clear hv e1
          go_wp2_with fail
          refine wp_region_seq 11 [(0, true), (1, true), (2, true), (3, true), (4, true), (5, true), (6, true), (7, true), (8, true), (9, true), (10, false)] rfl (by kernel_rfl) (by intro _ _ d _ _ h; cases d <;> exact h) ?_
          (repeat (refine sq_take (v := ?_) rfl rfl ?_ ?_; rotate_left; exact tk2; (try simp only [pt])))
          (refine sq_loud rfl rfl fun K hK => ?_; go_simp)
          refine (hcall _ xt).mono ?_; rintro e w1 ⟨rfl, hx1⟩
          (refine hK _ _ xt ?_; clear hK K; (try simp only [pt]))
          refine sq_done ?_
          go_wp2_with fail
          go_roundw
          case rel =>
            refine ⟨i + 1, by go_num, by omega, by omega, Lib.hid fun j hj0 hj => ?_, hOr.ext xt, hx0.trans xt⟩
            by_cases e : j = i
            · subst e; have := Hi.out; rw [show j - 1 = i' from by omega]; exact Hv.out
            · exact hno.out j hj0 (by omega)
          case measure => simp [intOf] <;> omega
      · obtain rfl : i = l.length := by omega
        go_wp2_with fail
        go_ret
        refine ⟨_, rfl, ?_, ext_then hx (World.grownBy.refl _ _)⟩; rw [ddk_take (Nat.le_refl _) hno.out, List.take_length]; exact hOr

end Go.Proofs.YtpkfjbljhneenaaGreat
