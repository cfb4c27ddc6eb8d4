/- riddleref05.Add, Scale, Sub, Coef, Without, Put. No conditions. -/
import Derived.Test.YtbblgjjomgipfaaRN
import Derived.Test.YtbblgjjomgipfaaWith
namespace Go.Proofs.Ytbblgjjomgipfaa
open Go.RowKit Go.Shelf

/-- The world gets a name, inside a list of operations. -/
theorem wpl_named {P : Program} {ops : Array Oper} {Q : Exit → Act → World → Prop} {l : List Oper} {a : Act} {w : World} (h : ∀ W, W = w → wpList P ops Q l a W) : wpList P ops Q l a w := h w rfl
/-- append(l, m...) of parts. -/
theorem wpList_appps {w : World} {ops : Array Oper} {rest : List Oper} {o : Oper} {a : Act} {Q : Exit → Act → World → Prop} (s x : Operand) {Zp X : Nat → Prop} {base : Nat} {v : Value} {l m : List (Int × Z)} {A : Option Addr} {c : Nat}
    (h : Own 3 EP w Zp base 69 v l) (hm : Pl w X A c m) (hX : ∀ b, X b → b < w.heap.size → Zp b ∧ v.ownBlock ≠ some b) (hl : l.length + m.length ≤ 2199023255552) (hbase : base ≤ w.heap.size)
    (hgd : o.guard = none) (ho : o.op = .call { callee := .builtin .append, args := #[s, x], argTypes := #[22, 22] }) (hs : a.eval s = v) (hx : a.eval x = .slice A m.length c)
    (H : ∀ v' w', Own 3 EP w' Zp base 69 v' (l ++ m) → w.grownBy w' v.ownBlock → (v'.ownBlock = v.ownBlock ∨ v'.ownBlock = some w.heap.size) → wpList Try.prog ops Q rest (a.put o.dst v') w') :
    wpList Try.prog ops Q (o :: rest) a w := by
  obtain ⟨ys, hf, hfc⟩ := (hm.widen (Y := fun b => Zp b ∧ v.ownBlock ≠ some b) hX).flat
  exact wpList_app ety_p s x h hf (fun h0 => by
    obtain ⟨b, o, hA, _, hc⟩ := hfc h0
    exact ⟨b, o, hA, hc⟩) (by omega) (by simp only [maxLen]; omega) hbase hgd ho hs hx H

theorem nf_two (a b : T) : (⟨a.ps ++ b.ps, cz (a.k.v + b.k.v)⟩ : T).nf = ct (vl a.ps ++ vl b.ps) (a.k.v + b.k.v) := by
  show ct (vl (a.ps ++ b.ps)) (cz (a.k.v + b.k.v)).v = _
  rw [vl_append, cz_v]

set_option maxHeartbeats 1600000 in
theorem radd5_c {av bv : Value} {a b : T} {w : World} {X Y : Nat → Prop} {N : Nat} (ha : Tv w X av a) (hb : Tv w Y bv b) (hN : N ≤ 4294967296) (sa : a.sz N) (sb : b.sz N) :
    Calls Try.prog 35 #[av, bv] w fun e w' => ∃ r, e = .returned r ∧ Tv w' (w.heap.size ≤ ·) r (ct (vl a.ps ++ vl b.ps) (a.k.v + b.k.v)) ∧ Ext w w' := by
  have la := ha.lb; have lb := hb.lb
  obtain ⟨A, c, AK, d, rfl, ha1, ha2⟩ := ha
  obtain ⟨B, c', BK, d', rfl, hb1, hb2⟩ := hb
  obtain ⟨sa1, sa2, sa3⟩ := sa
  obtain ⟨sb1, sb2, sb3⟩ := sb
  have ha1 := ha1.below; have hb1 := hb1.below
  go_enter Try.func35, Try.ntmps35
  go_wp2_with (first
    | (at_builtin
       refine wpl_named fun W hW => ?_
       have b2 : Box W w.heap.size 27 #[.slice A a.ps.length c, .bool a.k.neg, .slice AK a.k.mag.length d] := by rw [hW]; exact (by repeat (first | with_reducible assumption | with_reducible exact Box.new _ _ _ | (with_reducible refine Box.new_at _ _ _ ?_; (simp only [wsz]; done)) | with_reducible refine Box.drewN ?_ _ | with_reducible refine Box.drew ?_ | with_reducible refine Box.alloc ?_ _ | with_reducible apply Box.drewN | with_reducible apply Box.drew | with_reducible apply Box.alloc | with_reducible refine Box.set_ ?_ _ _ | (with_reducible refine Box.far ?_ ?_ _; rotate_left; (simp only [ne_eq]; omega)) | (with_reducible refine Box.ext ?_ (by with_reducible assumption)) | (refine Box.new_at _ _ _ ?_; simp only [wsz]; done)))
       have b3 : Box W (w.heap.size + 1) 27 #[.slice B b.ps.length c', .bool b.k.neg, .slice BK b.k.mag.length d'] := by rw [hW]; exact (by repeat (first | with_reducible assumption | with_reducible exact Box.new _ _ _ | (with_reducible refine Box.new_at _ _ _ ?_; (simp only [wsz]; done)) | with_reducible refine Box.drewN ?_ _ | with_reducible refine Box.drew ?_ | with_reducible refine Box.alloc ?_ _ | with_reducible apply Box.drewN | with_reducible apply Box.drew | with_reducible apply Box.alloc | with_reducible refine Box.set_ ?_ _ _ | (with_reducible refine Box.far ?_ ?_ _; rotate_left; (simp only [ne_eq]; omega)) | (with_reducible refine Box.ext ?_ (by with_reducible assumption)) | (refine Box.new_at _ _ _ ?_; simp only [wsz]; done)))
       have b4 : Box W (w.heap.size + 1 + 1) 27 #[.slice none 0 0, .bool false, .slice none 0 0] := by rw [hW]; exact (by repeat (first | with_reducible assumption | with_reducible exact Box.new _ _ _ | (with_reducible refine Box.new_at _ _ _ ?_; (simp only [wsz]; done)) | with_reducible refine Box.drewN ?_ _ | with_reducible refine Box.drew ?_ | with_reducible refine Box.alloc ?_ _ | with_reducible apply Box.drewN | with_reducible apply Box.drew | with_reducible apply Box.alloc | with_reducible refine Box.set_ ?_ _ _ | (with_reducible refine Box.far ?_ ?_ _; rotate_left; (simp only [ne_eq]; omega)) | (with_reducible refine Box.ext ?_ (by with_reducible assumption)) | (refine Box.new_at _ _ _ ?_; simp only [wsz]; done)))
       have hE : Ext w W := by rw [hW]; exact (by repeat (first | with_reducible assumption | with_reducible exact Ext.refl _ | with_reducible refine Ext.drewN ?_ _ | with_reducible refine Ext.drew ?_ | with_reducible refine Ext.alloc ?_ _ | (with_reducible refine Ext.setCell ?_ ?_ _; rotate_left; (first | exact Nat.le_refl _ | (dsimp only; omega) | (simp only [wsz]; omega))) | (with_reducible refine Ext.trans ?_ (by with_reducible assumption))))
       clear hW
       have b4l := b4.lt
       (refine wpList_appps (l := []) (.tmp 6) (.tmp 8) (Own.nil W (· < w.heap.size) W.heap.size 69) (ha1.ext hE) (fun q hq _ => ⟨hq, by simp [Value.ownBlock]⟩) (by simp only [List.length_nil]; omega) (Nat.le_refl _) rfl rfl rfl rfl ?_)
       intro v1 w1 hO1 hg1 hv1
       have hx1 : Ext W w1 := (Ext.refl W).grown hg1 (by simp [Value.ownBlock])
       have hE1 : Ext w w1 := hE.trans hx1
       have c2 := b2.ext hx1
       have c3 := b3.ext hx1
       have c4 := b4.ext hx1
       have c3r := c3.rules
       have c3l := c3.lt
       rw [List.nil_append] at hO1
       have hrow1 := hO1.row)
    | (at_builtin
       (refine wpList_appps (.tmp 10) (.tmp 12) hO1 (hb1.ext hE1) (fun q hq _ => ⟨hq, fun e => by have := (hrow1 _ e).1; have := hE.size; omega⟩) (by omega) (by have := hx1.size; omega) rfl rfl rfl rfl ?_)
       intro v2 w2 hO2 hg2 hv2
       have hx2 : Ext W w2 := hx1.grown hg2 (fun k hk => (hrow1 _ hk).1)
       have hE2 : Ext w w2 := hE.trans hx2
       have e2 := b2.ext hx2
       have e3 := b3.ext hx2
       have e4 := b4.ext hx2
       have e2r := e2.rules; have e2l := e2.lt
       have e3r := e3.rules; have e3l := e3.lt
       clear c3r)
    | fail)
  obtain ⟨A2, c2, rfl, hP2⟩ := Own.sl hO2 (by omega) (X := fun _ => True) (fun _ _ => trivial)
  have hP2 : Pl w2 (fun _ => True) A2 c2 (a.ps ++ b.ps) := hP2
  refine (raddz_c (x := a.k) (y := b.k) ⟨_, _, rfl, ha2.ext (hE2.trans (by repeat (first | with_reducible assumption | with_reducible exact Ext.refl _ | with_reducible refine Ext.drewN ?_ _ | with_reducible refine Ext.drew ?_ | with_reducible refine Ext.alloc ?_ _ | (with_reducible refine Ext.setCell ?_ ?_ _; rotate_left; (first | exact Nat.le_refl _ | (dsimp only; omega) | (simp only [wsz]; omega))) | (with_reducible refine Ext.trans ?_ (by with_reducible assumption)))))⟩ ⟨_, _, rfl, hb2.ext (hE2.trans (by repeat (first | with_reducible assumption | with_reducible exact Ext.refl _ | with_reducible refine Ext.drewN ?_ _ | with_reducible refine Ext.drew ?_ | with_reducible refine Ext.alloc ?_ _ | (with_reducible refine Ext.setCell ?_ ?_ _; rotate_left; (first | exact Nat.le_refl _ | (dsimp only; omega) | (simp only [wsz]; omega))) | (with_reducible refine Ext.trans ?_ (by with_reducible assumption)))))⟩ (by omega) (by omega)).mono ?_
  rintro e w3 ⟨r3, rfl, ⟨A3, c3, rfl, hK3⟩, hx3⟩
  have f4 := e4.ext hx3
  have hE3 : Ext w w3 := hE2.trans hx3
  clear e2r e3r
  go_wp2_with fail
  refine (rnorm5_c (t := ⟨a.ps ++ b.ps, cz (a.k.v + b.k.v)⟩) (N := 2 * N + 1) ⟨_, _, _, _, by simp only [List.length_append], (hP2.ext hx3).ext (by repeat (first | with_reducible assumption | with_reducible exact Ext.refl _ | with_reducible refine Ext.drewN ?_ _ | with_reducible refine Ext.drew ?_ | with_reducible refine Ext.alloc ?_ _ | (with_reducible refine Ext.setCell ?_ ?_ _; rotate_left; (first | exact Nat.le_refl _ | (dsimp only; omega) | (simp only [wsz]; omega))) | (with_reducible refine Ext.trans ?_ (by with_reducible assumption)))), (hK3.widen (Y := fun _ => True) fun _ _ _ => trivial).ext (by repeat (first | with_reducible assumption | with_reducible exact Ext.refl _ | with_reducible refine Ext.drewN ?_ _ | with_reducible refine Ext.drew ?_ | with_reducible refine Ext.alloc ?_ _ | (with_reducible refine Ext.setCell ?_ ?_ _; rotate_left; (first | exact Nat.le_refl _ | (dsimp only; omega) | (simp only [wsz]; omega))) | (with_reducible refine Ext.trans ?_ (by with_reducible assumption))))⟩ (by omega) ⟨?_, ?_, ?_⟩).mono ?_
  · rw [List.length_append]; omega
  · intro p hp
    rcases List.mem_append.1 hp with hp | hp
    · have := sa2 p hp; omega
    · have := sb2 p hp; omega
  · show (cz (a.k.v + b.k.v)).mag.length ≤ _
    rw [cz_len]
    have := zl_add (x := a.k.v) (y := b.k.v) (k := N) (Nat.le_trans (zl_of la.2) sa3) (Nat.le_trans (zl_of lb.2) sb3)
    omega
  rw [nf_two]
  rintro e w4 ⟨r4, rfl, ⟨A4, c4, B4, d4, rfl, h41, h42⟩, hx4⟩
  have g4 := f4.ext hx4
  have g4r := g4.rules
  have g4l := g4.lt
  have hE4 : Ext w w4 := hE3.trans hx4
  have hs3 := hE3.size
  have hs2 := (hx2.trans hx3).size
  go_wp2_with fail
  (refine bodyPost_ret (v := ?_) ?_ rfl ?_; rotate_left; (simp only [results, Try.results35]; go_simp; (first | done | with_reducible rfl)))
  refine ⟨_, rfl, ⟨_, _, _, _, rfl, (Pl.keep (h41.widen (Y := fun c => w.heap.size + 1 + 1 < c) fun c hc _ => by omega) (by repeat (first | with_reducible exact Kp.refl _ | with_reducible refine Kp.drewN ?_ _ | with_reducible refine Kp.drew ?_ | with_reducible refine Kp.alloc ?_ _ | (with_reducible refine Kp.setCell ?_ ?_ _; rotate_left; (first | (dsimp only; omega) | (simp only [wsz]; omega))) | (with_reducible exact Kp.of_ext (by with_reducible assumption)) | (with_reducible refine Kp.ext ?_ (by with_reducible assumption))))).widen fun c hc _ => by omega, (Nl.keep (h42.widen (Y := fun c => w.heap.size + 1 + 1 < c) fun c hc _ => by omega) (by repeat (first | with_reducible exact Kp.refl _ | with_reducible refine Kp.drewN ?_ _ | with_reducible refine Kp.drew ?_ | with_reducible refine Kp.alloc ?_ _ | (with_reducible refine Kp.setCell ?_ ?_ _; rotate_left; (first | (dsimp only; omega) | (simp only [wsz]; omega))) | (with_reducible exact Kp.of_ext (by with_reducible assumption)) | (with_reducible refine Kp.ext ?_ (by with_reducible assumption))))).widen fun c hc _ => by omega⟩, ?_⟩
  exact ((hE4.setCell (by simp only; omega) _).setCell (by simp only; omega) _).setCell (by simp only; omega) _

end Go.Proofs.Ytbblgjjomgipfaa
