/- riddlelaw05.TermReckons. No conditions. -/
import Derived.Test.YtbblgjjomgipfaaAwake
import Derived.Test.YtbblgjjomgipfaaRD
import Derived.Test.YtbblgjjomgipfaaRO
import Derived.Test.YtbblgjjomgipfaaStays
import Derived.Test.YtbblgjjomgipfaaLawStands
namespace Go.Proofs.Ytbblgjjomgipfaa
open Go.RowKit Go.Shelf

theorem Box.below {w w' : World} {B g : Nat} {t : TypeId} {cs : Array Value} (h : Box w g t cs) (hb : Below B w w') (hg : g < B) : Box w' g t cs := (hb.block g hg).trans h
theorem LentV.below {w w' : World} {n B : Nat} {r : Value} {t : T} (h : LentV w (· < n) r t) (hb : Below B w w') (hn : n ≤ B) : LentV w' (· < n) r t := h.keep fun b hX _ => hb.block b (Nat.lt_of_lt_of_le hX hn)

/-- What is known of a law's answers. -/
theorem reck_facts {t u : T} {k : Z} {x : Int} {N : Nat} (lt : t.lb) (lu : u.lb) (lk : Lb k.mag) (h2N : 2 ≤ N) (s1 : t.sz N) (s2 : u.sz N) (s3 : k.mag.length ≤ N) :
    ((ct (vl t.ps ++ vl u.ps) (t.k.v + u.k.v)).valid = true ∧ (ct (vl t.ps ++ vl u.ps) (t.k.v + u.k.v)).sz (6 * N)) ∧
    ((ct (vl t.ps ++ sc (-1) (vl u.ps)) (t.k.v - u.k.v)).valid = true ∧ (ct (vl t.ps ++ sc (-1) (vl u.ps)) (t.k.v - u.k.v)).sz (6 * N)) ∧
    ((ct (sc k.v (vl t.ps)) (k.v * t.k.v)).valid = true ∧ (ct (sc k.v (vl t.ps)) (k.v * t.k.v)).sz (6 * N)) ∧
    ((t.wo x).nf.valid = true ∧ (t.wo x).nf.sz (6 * N)) ∧ ((t.put x u).valid = true ∧ (t.put x u).sz (6 * N)) ∧ zl (cf (vl t.ps) x) ≤ 6 * N := by
  have zt := zl_vl lt.1 s1.2.1
  have zu := zl_vl lu.1 s2.2.1
  have kt := Nat.le_trans (zl_of lt.2) s1.2.2
  have ku := Nat.le_trans (zl_of lu.2) s2.2.2
  have kk := Nat.le_trans (zl_of lk) s3
  have l1 := s1.1; have l2 := s2.1
  have hcl : zl (cf (vl t.ps) x) ≤ N + N := by
    have := zl_cf zt x
    rw [vl_len] at this
    omega
  have e1 := zl_one
  refine ⟨⟨ct_valid _ _, ?_⟩, ⟨ct_valid _ _, ?_⟩, ⟨ct_valid _ _, ?_⟩, ⟨ct_valid _ _, ?_⟩, ⟨ct_valid _ _, ?_⟩, by omega⟩
  · refine (ct_sz (N := N + N) (M := N + 1) (by rw [List.length_append, vl_len, vl_len]; omega) (fun p hp => ?_) ?_).mono (by omega)
    · rcases List.mem_append.1 hp with h | h
      · have := zt p h; omega
      · have := zu p h; omega
    · have := zl_add (x := t.k.v) (y := u.k.v) (k := N) kt ku; omega
  · refine (ct_sz (N := N + N) (M := N + 1) (by rw [List.length_append, sc_len, vl_len, vl_len]; omega) (fun p hp => ?_) ?_).mono (by omega)
    · rcases List.mem_append.1 hp with h | h
      · have := zt p h; omega
      · obtain ⟨q, hq, rfl⟩ := List.mem_map.1 h
        have := zu q hq
        have := zl_mul (-1) q.2
        show zl (-1 * q.2) ≤ _
        omega
    · have := zl_mul (-1) u.k.v
      have := zl_add (x := t.k.v) (y := -1 * u.k.v) (k := N + 1) (by omega) (by omega)
      rw [show t.k.v - u.k.v = t.k.v + -1 * u.k.v from by omega]
      omega
  · refine (ct_sz (N := N) (M := N + N) (by rw [sc_len, vl_len]; omega) (fun p hp => ?_) ?_).mono (by omega)
    · obtain ⟨q, hq, rfl⟩ := List.mem_map.1 hp
      have := zt q hq
      have := zl_mul k.v q.2
      show zl (k.v * q.2) ≤ _
      omega
    · have := zl_mul k.v t.k.v; omega
  · exact (nf_sz (T.wo_sz (x := x) s1) ⟨fun p hp => lt.1 p (wo_sub hp), lt.2⟩).mono (by omega)
  · refine (ct_sz (N := N + N) (M := N + N + N) (by rw [List.length_append, sc_len, vl_len]; have := cn_len (vl (wo x t.ps)); rw [vl_len] at this; have := wo_len x t.ps; omega) (fun p hp => ?_) ?_).mono (by omega)
    · rcases List.mem_append.1 hp with h | h
      · have := zl_cn (l := vl (wo x t.ps)) (N := N) (zl_vl (fun p hp => lt.1 p (wo_sub hp)) fun p hp => s1.2.1 p (wo_sub hp)) p h
        rw [vl_len] at this
        have := wo_len x t.ps
        omega
      · obtain ⟨q, hq, rfl⟩ := List.mem_map.1 h
        have := zu q hq
        have := zl_mul (cf (vl t.ps) x) q.2
        show zl (cf (vl t.ps) x * q.2) ≤ _
        omega
    · have := zl_mul (cf (vl t.ps) x) u.k.v
      have := zl_add (x := t.k.v) (y := cf (vl t.ps) x * u.k.v) (k := N + N + N) (by omega) (by omega)
      omega

set_option maxHeartbeats 6400000 in
theorem lawreckons_c {v1 v2 v3 : Value} {t u : T} {k : Z} {x : Int} {w : World} {X1 X2 X3 : Nat → Prop} {N : Nat} (h1 : Tv w X1 v1 t) (h2 : Tv w X2 v2 u) (h3 : Zi w X3 v3 k) (_hi : i64 x)
    (hN : N ≤ 2097152) (h2N : 2 ≤ N) (s1 : t.sz N) (s2 : u.sz N) (s3 : k.mag.length ≤ N) :
    Calls Try.prog 6 #[v1, v2, v3, .int .i64 x] w fun e w' => e = .returned (.bool true) ∧ Ext w w' := by
  have ht := h1; have hu := h2; have hk := h3
  obtain ⟨⟨va, za⟩, ⟨vs, zs⟩, ⟨vm, zm⟩, ⟨vo, zo⟩, ⟨vp, zp⟩, zc⟩ := reck_facts (x := x) h1.lb h2.lb h3.lb h2N s1 s2 s3
  have cadd := fun (W : World) (p q : Value) (Y1 Y2 : Nat → Prop) (k1 : Tv W Y1 p t) (k2 : Tv W Y2 q u) => tadd_f (N := N) k1 k2 (by omega) h2N s1 s2
  have csub := fun (W : World) (p q : Value) (Y1 Y2 : Nat → Prop) (k1 : Tv W Y1 p t) (k2 : Tv W Y2 q u) => tsub_f (N := N) k1 k2 (by omega) h2N s1 s2
  have cscale := fun (W : World) (p q : Value) (Y1 Y2 : Nat → Prop) (k1 : Zi W Y1 p k) (k2 : Tv W Y2 q t) => tscale_f (N := N) k1 k2 (by omega) s3 s1
  have ccoef := fun (W : World) (p : Value) (Y1 : Nat → Prop) (k1 : Tv W Y1 p t) => tcoef_c (N := N) (x := x) k1 (by omega) s1
  have cwo := fun (W : World) (p : Value) (Y1 : Nat → Prop) (k1 : Tv W Y1 p t) => twithout_f (N := N) (x := x) k1 (by omega) s1
  have cput := fun (W : World) (p q : Value) (Y1 Y2 : Nat → Prop) (k1 : Tv W Y1 p t) (k2 : Tv W Y2 q u) => tput_f (N := N) (x := x) k1 k2 (by omega) h2N s1 s2
  have radd := fun (W : World) (p q : Value) (Y1 Y2 : Nat → Prop) (k1 : Tv W Y1 p t) (k2 : Tv W Y2 q u) => radd5_c (N := N) k1 k2 (by omega) s1 s2
  have rsub := fun (W : World) (p q : Value) (Y1 Y2 : Nat → Prop) (k1 : Tv W Y1 p t) (k2 : Tv W Y2 q u) => rsub5_c (N := N) k1 k2 (by omega) s1 s2
  have rscale := fun (W : World) (p q : Value) (Y1 Y2 : Nat → Prop) (k1 : Zi W Y1 p k) (k2 : Tv W Y2 q t) => rscale5_c (N := N) k1 k2 (by omega) s3 s1
  have rcoef := fun (W : World) (p : Value) (Y1 : Nat → Prop) (k1 : Tv W Y1 p t) => rcoef5_c (N := N) (x := x) k1 (by omega) s1
  have rwo := fun (W : World) (p : Value) (Y1 : Nat → Prop) (k1 : Tv W Y1 p t) => rwithout5_c (N := N) (x := x) k1 (by omega) s1
  have rput := fun (W : World) (p q : Value) (Y1 Y2 : Nat → Prop) (k1 : Tv W Y1 p t) (k2 : Tv W Y2 q u) => rput5_c (N := N) (x := x) k1 k2 (by omega) s1 s2
  generalize ct (vl t.ps ++ vl u.ps) (t.k.v + u.k.v) = ta at va za cadd radd
  generalize ct (vl t.ps ++ sc (-1) (vl u.ps)) (t.k.v - u.k.v) = ts at vs zs csub rsub
  generalize ct (sc k.v (vl t.ps)) (k.v * t.k.v) = tm at vm zm cscale rscale
  generalize cf (vl t.ps) x = zx at zc ccoef rcoef
  generalize (t.wo x).nf = tw at vo zo cwo rwo
  generalize t.put x u = tp at vp zp cput rput
  have czl : (cz zx).mag.length ≤ 6 * N := by rw [cz_len]; exact zc
  have czo : (cz zx).ok = true := cz_ok _
  obtain ⟨zq, hzq⟩ : ∃ zq, zq = cz zx := ⟨_, rfl⟩
  rw [← hzq] at czl czo ccoef rcoef
  have CZO := Lib.hid czo
  clear hzq czo
  obtain ⟨A1, c1, B1, d1, rfl, h11, h12⟩ := h1
  obtain ⟨A2, c2, B2, d2, rfl, h21, h22⟩ := h2
  obtain ⟨A3, c3, rfl, h31⟩ := h3
  clear h11 h12 h21 h22 h31
  go_enter Try.func6, Try.ntmps6
  go_wp2_with fail
  refine (awake_c _).mono ?_
  rintro e W ⟨rfl, hx⟩
  (have b4 := Box.ext (g := w.heap.size) (by repeat (first | with_reducible assumption | with_reducible exact Box.new _ _ _ | (with_reducible refine Box.new_at _ _ _ ?_; (simp only [wsz]; done)) | with_reducible refine Box.drewN ?_ _ | with_reducible refine Box.drew ?_ | with_reducible refine Box.alloc ?_ _ | with_reducible apply Box.drewN | with_reducible apply Box.drew | with_reducible apply Box.alloc | with_reducible refine Box.set_ ?_ _ _ | (with_reducible refine Box.far ?_ ?_ _; rotate_left; (simp only [ne_eq]; omega)) | (with_reducible refine Box.ext ?_ (by with_reducible assumption)) | (refine Box.new_at _ _ _ ?_; simp only [wsz]; done))) hx; have b4r := b4.rules; have b4l := b4.lt)
  (have b5 := Box.ext (g := w.heap.size + 1) (by repeat (first | with_reducible assumption | with_reducible exact Box.new _ _ _ | (with_reducible refine Box.new_at _ _ _ ?_; (simp only [wsz]; done)) | with_reducible refine Box.drewN ?_ _ | with_reducible refine Box.drew ?_ | with_reducible refine Box.alloc ?_ _ | with_reducible apply Box.drewN | with_reducible apply Box.drew | with_reducible apply Box.alloc | with_reducible refine Box.set_ ?_ _ _ | (with_reducible refine Box.far ?_ ?_ _; rotate_left; (simp only [ne_eq]; omega)) | (with_reducible refine Box.ext ?_ (by with_reducible assumption)) | (refine Box.new_at _ _ _ ?_; simp only [wsz]; done))) hx; have b5r := b5.rules; have b5l := b5.lt)
  (have b6 := Box.ext (g := w.heap.size + 1 + 1) (by repeat (first | with_reducible assumption | with_reducible exact Box.new _ _ _ | (with_reducible refine Box.new_at _ _ _ ?_; (simp only [wsz]; done)) | with_reducible refine Box.drewN ?_ _ | with_reducible refine Box.drew ?_ | with_reducible refine Box.alloc ?_ _ | with_reducible apply Box.drewN | with_reducible apply Box.drew | with_reducible apply Box.alloc | with_reducible refine Box.set_ ?_ _ _ | (with_reducible refine Box.far ?_ ?_ _; rotate_left; (simp only [ne_eq]; omega)) | (with_reducible refine Box.ext ?_ (by with_reducible assumption)) | (refine Box.new_at _ _ _ ?_; simp only [wsz]; done))) hx; have b6r := b6.rules; have b6l := b6.lt)
  have hE : Ext w W := (by repeat (first | with_reducible assumption | with_reducible exact Ext.refl _ | with_reducible refine Ext.drewN ?_ _ | with_reducible refine Ext.drew ?_ | with_reducible refine Ext.alloc ?_ _ | (with_reducible refine Ext.setCell ?_ ?_ _; rotate_left; (first | exact Nat.le_refl _ | (dsimp only; omega) | (simp only [wsz]; omega))) | (with_reducible refine Ext.trans ?_ (by with_reducible assumption))))
  clear hx b5r b6r
  have hW3 : w.heap.size + 3 ≤ W.heap.size := by have := b6l; omega
  go_wp2_with fail
  refine (lent_c (ht.ext (hE.trans (by repeat (first | with_reducible assumption | with_reducible exact Ext.refl _ | with_reducible refine Ext.drewN ?_ _ | with_reducible refine Ext.drew ?_ | with_reducible refine Ext.alloc ?_ _ | (with_reducible refine Ext.setCell ?_ ?_ _; rotate_left; (first | exact Nat.le_refl _ | (dsimp only; omega) | (simp only [wsz]; omega))) | (with_reducible refine Ext.trans ?_ (by with_reducible assumption)))))) (by omega) s1).mono ?_
  rintro e w1 ⟨r1, rfl, hL1, hx1⟩
  have hM1 := hL1
  obtain ⟨g1, e1, C1, f1, rfl, -⟩ := hL1
  clear b4r
  have b4_1 := b4.ext hx1
  have b5_1 := b5.ext hx1
  have b6_1 := b6.ext hx1
  have hs1 := hx1.size
  have hE1 : Ext w w1 := hE.trans hx1
  have b5_1r := b5_1.rules; have b5_1l := b5_1.lt
  clear b4 b5 b6
  have ta1 := hM1.tv
  go_wp2_with fail
  refine (lent_c (hu.ext (hE.trans (by repeat (first | with_reducible assumption | with_reducible exact Ext.refl _ | with_reducible refine Ext.drewN ?_ _ | with_reducible refine Ext.drew ?_ | with_reducible refine Ext.alloc ?_ _ | (with_reducible refine Ext.setCell ?_ ?_ _; rotate_left; (first | exact Nat.le_refl _ | (dsimp only; omega) | (simp only [wsz]; omega))) | (with_reducible refine Ext.trans ?_ (by with_reducible assumption)))))) (by omega) s2).mono ?_
  rintro e w2 ⟨r2, rfl, hL2, hx2⟩
  have hM2 := hL2
  obtain ⟨g2, e2, C2, f2, rfl, -⟩ := hL2
  clear b5_1r
  have b4_2 := (b4_1.alloc _).ext hx2
  have b5_2 := (b5_1.alloc _).ext hx2
  have b6_2 := (b6_1.alloc _).ext hx2
  have b10_2 : Box w2 w1.heap.size 27 #[.slice (some ⟨g1, 0, none⟩) t.ps.length e1, .bool t.k.neg, .slice C1 t.k.mag.length f1] := Box.ext (Box.new_at _ _ _ rfl) hx2
  have hs2 : w1.heap.size + 1 ≤ w2.heap.size := by have := hx2.size; simpa only [wsz] using this
  have hE2 : Ext w w2 := (hE1.alloc _).trans hx2
  have b10_2r := b10_2.rules; have b10_2l := b10_2.lt
  clear b4_1 b5_1 b6_1
  have tb1 := hM2.tv
  replace ta1 := ta1.ext (((Ext.refl w1).alloc _).trans hx2)
  go_wp2_with fail
  refine (cadd _ _ _ _ _ (ta1.ext (by repeat (first | with_reducible assumption | with_reducible exact Ext.refl _ | with_reducible refine Ext.drewN ?_ _ | with_reducible refine Ext.drew ?_ | with_reducible refine Ext.alloc ?_ _ | (with_reducible refine Ext.setCell ?_ ?_ _; rotate_left; (first | exact Nat.le_refl _ | (dsimp only; omega) | (simp only [wsz]; omega))) | (with_reducible refine Ext.trans ?_ (by with_reducible assumption))))) (tb1.ext (by repeat (first | with_reducible assumption | with_reducible exact Ext.refl _ | with_reducible refine Ext.drewN ?_ _ | with_reducible refine Ext.drew ?_ | with_reducible refine Ext.alloc ?_ _ | (with_reducible refine Ext.setCell ?_ ?_ _; rotate_left; (first | exact Nat.le_refl _ | (dsimp only; omega) | (simp only [wsz]; omega))) | (with_reducible refine Ext.trans ?_ (by with_reducible assumption)))))).mono ?_
  rintro e w3 ⟨r3, rfl, hF3, hx3⟩
  have hB3 := hF3.bound
  obtain ⟨D3, e3, C3, f3, rfl, -⟩ := hF3
  clear b10_2r
  have b4_3 := (b4_2.alloc _).ext hx3
  have b5_3 := (b5_2.alloc _).ext hx3
  have b6_3 := (b6_2.alloc _).ext hx3
  have b10_3 := (b10_2.alloc _).ext hx3
  have b11_3 : Box w3 w2.heap.size 27 #[.slice (some ⟨g2, 0, none⟩) u.ps.length e2, .bool u.k.neg, .slice C2 u.k.mag.length f2] := Box.ext (Box.new_at _ _ _ rfl) hx3
  have hs3 : w2.heap.size + 1 ≤ w3.heap.size := by have := hx3.size; simpa only [wsz] using this
  have hE3 : Ext w w3 := (hE2.alloc _).trans hx3
  have b10_3r := b10_3.rules; have b10_3l := b10_3.lt
  have b11_3r := b11_3.rules; have b11_3l := b11_3.lt
  clear b4_2 b5_2 b6_2 b10_2
  replace ta1 := ta1.ext (((Ext.refl w2).alloc _).trans hx3)
  replace tb1 := tb1.ext (((Ext.refl w2).alloc _).trans hx3)
  go_wp2_with fail
  refine (csub _ _ _ _ _ (ta1.ext (by repeat (first | with_reducible assumption | with_reducible exact Ext.refl _ | with_reducible refine Ext.drewN ?_ _ | with_reducible refine Ext.drew ?_ | with_reducible refine Ext.alloc ?_ _ | (with_reducible refine Ext.setCell ?_ ?_ _; rotate_left; (first | exact Nat.le_refl _ | (dsimp only; omega) | (simp only [wsz]; omega))) | (with_reducible refine Ext.trans ?_ (by with_reducible assumption))))) (tb1.ext (by repeat (first | with_reducible assumption | with_reducible exact Ext.refl _ | with_reducible refine Ext.drewN ?_ _ | with_reducible refine Ext.drew ?_ | with_reducible refine Ext.alloc ?_ _ | (with_reducible refine Ext.setCell ?_ ?_ _; rotate_left; (first | exact Nat.le_refl _ | (dsimp only; omega) | (simp only [wsz]; omega))) | (with_reducible refine Ext.trans ?_ (by with_reducible assumption)))))).mono ?_
  rintro e w4 ⟨r4, rfl, hF4, hx4⟩
  have hB4 := hF4.bound
  obtain ⟨D4, e4, C4, f4, rfl, -⟩ := hF4
  clear b10_3r b11_3r
  have b4_4 := (b4_3.alloc _).ext hx4
  have b5_4 := (b5_3.alloc _).ext hx4
  have b6_4 := (b6_3.alloc _).ext hx4
  have b10_4 := (b10_3.alloc _).ext hx4
  have b11_4 := (b11_3.alloc _).ext hx4
  have b12_4 : Box w4 w3.heap.size 27 #[.slice D3 ta.ps.length e3, .bool ta.k.neg, .slice C3 ta.k.mag.length f3] := Box.ext (Box.new_at _ _ _ rfl) hx4
  have hs4 : w3.heap.size + 1 ≤ w4.heap.size := by have := hx4.size; simpa only [wsz] using this
  have hE4 : Ext w w4 := (hE3.alloc _).trans hx4
  have b6_4r := b6_4.rules; have b6_4l := b6_4.lt
  have b10_4r := b10_4.rules; have b10_4l := b10_4.lt
  clear b4_3 b5_3 b6_3 b10_3 b11_3
  replace ta1 := ta1.ext (((Ext.refl w3).alloc _).trans hx4)
  replace tb1 := tb1.ext (((Ext.refl w3).alloc _).trans hx4)
  go_wp2_with fail
  refine (cscale _ _ _ _ _ (hk.ext (hE4.alloc _)) (ta1.ext (by repeat (first | with_reducible assumption | with_reducible exact Ext.refl _ | with_reducible refine Ext.drewN ?_ _ | with_reducible refine Ext.drew ?_ | with_reducible refine Ext.alloc ?_ _ | (with_reducible refine Ext.setCell ?_ ?_ _; rotate_left; (first | exact Nat.le_refl _ | (dsimp only; omega) | (simp only [wsz]; omega))) | (with_reducible refine Ext.trans ?_ (by with_reducible assumption)))))).mono ?_
  rintro e w5 ⟨r5, rfl, hF5, hx5⟩
  have hB5 := hF5.bound
  obtain ⟨D5, e5, C5, f5, rfl, -⟩ := hF5
  clear b6_4r b10_4r
  have b4_5 := (b4_4.alloc _).ext hx5
  have b5_5 := (b5_4.alloc _).ext hx5
  have b6_5 := (b6_4.alloc _).ext hx5
  have b10_5 := (b10_4.alloc _).ext hx5
  have b11_5 := (b11_4.alloc _).ext hx5
  have b12_5 := (b12_4.alloc _).ext hx5
  have b13_5 : Box w5 w4.heap.size 27 #[.slice D4 ts.ps.length e4, .bool ts.k.neg, .slice C4 ts.k.mag.length f4] := Box.ext (Box.new_at _ _ _ rfl) hx5
  have hs5 : w4.heap.size + 1 ≤ w5.heap.size := by have := hx5.size; simpa only [wsz] using this
  have hE5 : Ext w w5 := (hE4.alloc _).trans hx5
  have b10_5r := b10_5.rules; have b10_5l := b10_5.lt
  clear b4_4 b5_4 b6_4 b10_4 b11_4 b12_4
  replace ta1 := ta1.ext (((Ext.refl w4).alloc _).trans hx5)
  replace tb1 := tb1.ext (((Ext.refl w4).alloc _).trans hx5)
  go_wp2_with fail
  refine (ccoef _ _ _ (ta1.ext (by repeat (first | with_reducible assumption | with_reducible exact Ext.refl _ | with_reducible refine Ext.drewN ?_ _ | with_reducible refine Ext.drew ?_ | with_reducible refine Ext.alloc ?_ _ | (with_reducible refine Ext.setCell ?_ ?_ _; rotate_left; (first | exact Nat.le_refl _ | (dsimp only; omega) | (simp only [wsz]; omega))) | (with_reducible refine Ext.trans ?_ (by with_reducible assumption)))))).mono ?_
  rintro e w6 ⟨r6, rfl, hZ6, hx6⟩
  have hY6 := hZ6
  obtain ⟨D6, e6, rfl, -⟩ := hZ6
  clear b10_5r
  have b4_6 := (b4_5.alloc _).ext hx6
  have b5_6 := (b5_5.alloc _).ext hx6
  have b6_6 := (b6_5.alloc _).ext hx6
  have b10_6 := (b10_5.alloc _).ext hx6
  have b11_6 := (b11_5.alloc _).ext hx6
  have b12_6 := (b12_5.alloc _).ext hx6
  have b13_6 := (b13_5.alloc _).ext hx6
  have b14_6 : Box w6 w5.heap.size 27 #[.slice D5 tm.ps.length e5, .bool tm.k.neg, .slice C5 tm.k.mag.length f5] := Box.ext (Box.new_at _ _ _ rfl) hx6
  have hs6 : w5.heap.size + 1 ≤ w6.heap.size := by have := hx6.size; simpa only [wsz] using this
  have hE6 : Ext w w6 := (hE5.alloc _).trans hx6
  have b10_6r := b10_6.rules; have b10_6l := b10_6.lt
  clear b4_5 b5_5 b6_5 b10_5 b11_5 b12_5 b13_5
  replace ta1 := ta1.ext (((Ext.refl w5).alloc _).trans hx6)
  replace tb1 := tb1.ext (((Ext.refl w5).alloc _).trans hx6)
  go_wp2_with fail
  refine (cwo _ _ _ (ta1.ext (by repeat (first | with_reducible assumption | with_reducible exact Ext.refl _ | with_reducible refine Ext.drewN ?_ _ | with_reducible refine Ext.drew ?_ | with_reducible refine Ext.alloc ?_ _ | (with_reducible refine Ext.setCell ?_ ?_ _; rotate_left; (first | exact Nat.le_refl _ | (dsimp only; omega) | (simp only [wsz]; omega))) | (with_reducible refine Ext.trans ?_ (by with_reducible assumption)))))).mono ?_
  rintro e w7 ⟨r7, rfl, hF7, hx7⟩
  have hB7 := hF7.bound
  obtain ⟨D7, e7, C7, f7, rfl, -⟩ := hF7
  clear b10_6r
  have b4_7 := (b4_6.alloc _).ext hx7
  have b5_7 := (b5_6.alloc _).ext hx7
  have b6_7 := (b6_6.alloc _).ext hx7
  have b10_7 := (b10_6.alloc _).ext hx7
  have b11_7 := (b11_6.alloc _).ext hx7
  have b12_7 := (b12_6.alloc _).ext hx7
  have b13_7 := (b13_6.alloc _).ext hx7
  have b14_7 := (b14_6.alloc _).ext hx7
  have b15_7 : Box w7 w6.heap.size 25 #[.bool zq.neg, .slice D6 zq.mag.length e6] := Box.ext (Box.new_at _ _ _ rfl) hx7
  have hs7 : w6.heap.size + 1 ≤ w7.heap.size := by have := hx7.size; simpa only [wsz] using this
  have hE7 : Ext w w7 := (hE6.alloc _).trans hx7
  have b10_7r := b10_7.rules; have b10_7l := b10_7.lt
  have b11_7r := b11_7.rules; have b11_7l := b11_7.lt
  clear b4_6 b5_6 b6_6 b10_6 b11_6 b12_6 b13_6 b14_6
  replace ta1 := ta1.ext (((Ext.refl w6).alloc _).trans hx7)
  replace tb1 := tb1.ext (((Ext.refl w6).alloc _).trans hx7)
  go_wp2_with fail
  refine (cput _ _ _ _ _ (ta1.ext (by repeat (first | with_reducible assumption | with_reducible exact Ext.refl _ | with_reducible refine Ext.drewN ?_ _ | with_reducible refine Ext.drew ?_ | with_reducible refine Ext.alloc ?_ _ | (with_reducible refine Ext.setCell ?_ ?_ _; rotate_left; (first | exact Nat.le_refl _ | (dsimp only; omega) | (simp only [wsz]; omega))) | (with_reducible refine Ext.trans ?_ (by with_reducible assumption))))) (tb1.ext (by repeat (first | with_reducible assumption | with_reducible exact Ext.refl _ | with_reducible refine Ext.drewN ?_ _ | with_reducible refine Ext.drew ?_ | with_reducible refine Ext.alloc ?_ _ | (with_reducible refine Ext.setCell ?_ ?_ _; rotate_left; (first | exact Nat.le_refl _ | (dsimp only; omega) | (simp only [wsz]; omega))) | (with_reducible refine Ext.trans ?_ (by with_reducible assumption)))))).mono ?_
  rintro e w8 ⟨r8, rfl, hF8, hx8⟩
  have hB8 := hF8.bound
  obtain ⟨D8, e8, C8, f8, rfl, -⟩ := hF8
  clear b10_7r b11_7r
  have b4_8 := (b4_7.alloc _).ext hx8
  have b5_8 := (b5_7.alloc _).ext hx8
  have b6_8 := (b6_7.alloc _).ext hx8
  have b10_8 := (b10_7.alloc _).ext hx8
  have b11_8 := (b11_7.alloc _).ext hx8
  have b12_8 := (b12_7.alloc _).ext hx8
  have b13_8 := (b13_7.alloc _).ext hx8
  have b14_8 := (b14_7.alloc _).ext hx8
  have b15_8 := (b15_7.alloc _).ext hx8
  have b16_8 : Box w8 w7.heap.size 27 #[.slice D7 tw.ps.length e7, .bool tw.k.neg, .slice C7 tw.k.mag.length f7] := Box.ext (Box.new_at _ _ _ rfl) hx8
  have hs8 : w7.heap.size + 1 ≤ w8.heap.size := by have := hx8.size; simpa only [wsz] using this
  have hE8 : Ext w w8 := (hE7.alloc _).trans hx8
  clear b4_7 b5_7 b6_7 b10_7 b11_7 b12_7 b13_7 b14_7 b15_7
  replace ta1 := ta1.ext (((Ext.refl w7).alloc _).trans hx8)
  replace tb1 := tb1.ext (((Ext.refl w7).alloc _).trans hx8)
  have y78 : Ext w7 w8 := ((Ext.refl _).alloc _).trans hx8
  have y68 : Ext w6 w8 := (((Ext.refl _).alloc _).trans hx7).trans y78
  have y58 : Ext w5 w8 := (((Ext.refl _).alloc _).trans hx6).trans y68
  have y48 : Ext w4 w8 := (((Ext.refl _).alloc _).trans hx5).trans y58
  have y38 : Ext w3 w8 := (((Ext.refl _).alloc _).trans hx4).trans y48
  have y28 : Ext w2 w8 := (((Ext.refl _).alloc _).trans hx3).trans y38
  have y18 : Ext w1 w8 := (((Ext.refl _).alloc _).trans hx2).trans y28
  have mA := (hM1.widen (Y := (· < w1.heap.size)) fun _ _ h => h).keep (.of_ext y18)
  have mB := (hM2.widen (Y := (· < w2.heap.size)) fun _ _ h => h).keep (.of_ext y28)
  have p3 := hB3.ext y38
  have p4 := hB4.ext y48
  have p5 := hB5.ext y58
  have p6 := hY6.ext y68
  have p7 := hB7.ext y78
  have p8 := hB8
  simp only [wsz] at p3 p4 p5 p7 p8
  clear hM1 hM2 hB3 hB4 hB5 hY6 hB7 hB8 y18 y28 y38 y48 y58 y68 y78 hx1 hx2 hx3 hx4 hx5 hx6 hx7 hx8 hE1 hE2 hE3 hE4 hE5 hE6 hE7 ta1 tb1 cadd csub cscale ccoef cwo cput
  go_wp2_with fail
  refine wp_named fun V hV => ?_
  have q4 : Box V w.heap.size 27 #[.slice A1 t.ps.length c1, .bool t.k.neg, .slice B1 t.k.mag.length d1] := by rw [hV]; exact b4_8.alloc _
  have q5 : Box V (w.heap.size + 1) 27 #[.slice A2 u.ps.length c2, .bool u.k.neg, .slice B2 u.k.mag.length d2] := by rw [hV]; exact b5_8.alloc _
  have q6 : Box V (w.heap.size + 1 + 1) 25 #[.bool k.neg, .slice A3 k.mag.length c3] := by rw [hV]; exact b6_8.alloc _
  have q10 : Box V w1.heap.size 27 #[.slice (some ⟨g1, 0, none⟩) t.ps.length e1, .bool t.k.neg, .slice C1 t.k.mag.length f1] := by rw [hV]; exact b10_8.alloc _
  have q11 : Box V w2.heap.size 27 #[.slice (some ⟨g2, 0, none⟩) u.ps.length e2, .bool u.k.neg, .slice C2 u.k.mag.length f2] := by rw [hV]; exact b11_8.alloc _
  have q12 : Box V w3.heap.size 27 #[.slice D3 ta.ps.length e3, .bool ta.k.neg, .slice C3 ta.k.mag.length f3] := by rw [hV]; exact b12_8.alloc _
  have q13 : Box V w4.heap.size 27 #[.slice D4 ts.ps.length e4, .bool ts.k.neg, .slice C4 ts.k.mag.length f4] := by rw [hV]; exact b13_8.alloc _
  have q14 : Box V w5.heap.size 27 #[.slice D5 tm.ps.length e5, .bool tm.k.neg, .slice C5 tm.k.mag.length f5] := by rw [hV]; exact b14_8.alloc _
  have q15 : Box V w6.heap.size 25 #[.bool zq.neg, .slice D6 zq.mag.length e6] := by rw [hV]; exact b15_8.alloc _
  have q16 : Box V w7.heap.size 27 #[.slice D7 tw.ps.length e7, .bool tw.k.neg, .slice C7 tw.k.mag.length f7] := by rw [hV]; exact b16_8.alloc _
  have q17 : Box V w8.heap.size 27 #[.slice D8 tp.ps.length e8, .bool tp.k.neg, .slice C8 tp.k.mag.length f8] := by rw [hV]; exact Box.new_at _ _ _ rfl
  have hEV : Ext w V := by rw [hV]; exact hE8.alloc _
  have h8V : Ext w8 V := by rw [hV]; exact (Ext.refl w8).alloc _
  clear hV hE8
  clear b4_8 b5_8 b6_8 b10_8 b11_8 b12_8 b13_8 b14_8 b15_8 b16_8
  replace mA := mA.keep (.of_ext h8V); replace mB := mB.keep (.of_ext h8V)
  replace p3 := p3.ext h8V; replace p4 := p4.ext h8V; replace p5 := p5.ext h8V; replace p6 := p6.ext h8V; replace p7 := p7.ext h8V; replace p8 := p8.ext h8V
  have q12r := q12.rules; have q12l := q12.lt
  have q4r := q4.rules; have q4l := q4.lt
  have q5r := q5.rules; have q5l := q5.lt
  refine wp_region_seq 41 [(0, true), (1, true), (2, true), (3, false), (4, false), (5, true), (6, true), (7, true), (8, true), (9, false), (10, false), (11, true), (12, true), (13, true), (14, true), (15, true), (16, false), (17, false), (18, true), (19, true), (20, true), (21, true), (22, true), (23, false), (24, false), (25, true), (26, true), (27, true), (28, true), (29, true), (30, false), (31, false), (32, true), (33, true), (34, true), (35, true), (36, true), (37, true), (38, false), (39, false), (40, true), (41, false)] rfl (by kernel_rfl) (by intro _ _ d _ _ h; cases d <;> exact h) ?_
  (repeat (first | (refine sq_take (v := ?_) rfl rfl ?_ ?_; rotate_left; (intro w' hx'; have hc' := hx'.cells.1; (try simp only [wcd] at hc'); go_simp; (first | done | with_reducible rfl)); (try simp only [Act.put, List.setIfInBounds_toArray, List.set_cons_zero, List.set_cons_succ])) | (refine sq_skip rfl rfl ?_; (try simp only [Act.put, List.setIfInBounds_toArray, List.set_cons_zero, List.set_cons_succ])) | (refine sq_noloud rfl rfl ?_; (try simp only [Act.put, List.setIfInBounds_toArray, List.set_cons_zero, List.set_cons_succ])) | (refine sq_takeg (v := ?_) rfl rfl ?_ ?_; rotate_left; (intro w' hx'; have hc' := hx'.cells.1; (try simp only [wcd] at hc'); go_simp; (first | done | with_reducible rfl)); (try simp only [Act.put, List.setIfInBounds_toArray, List.set_cons_zero, List.set_cons_succ]))))
  (refine sq_loud rfl rfl fun K hK => ?_; go_simp)
  refine (radd _ _ _ _ _ (ht.ext (hEV.trans (by repeat (first | with_reducible assumption | with_reducible exact Ext.refl _ | with_reducible refine Ext.drewN ?_ _ | with_reducible refine Ext.drew ?_ | with_reducible refine Ext.alloc ?_ _ | (with_reducible refine Ext.setCell ?_ ?_ _; rotate_left; (first | exact Nat.le_refl _ | (dsimp only; omega) | (simp only [wsz]; omega))) | (with_reducible refine Ext.trans ?_ (by with_reducible assumption)))))) (hu.ext (hEV.trans (by repeat (first | with_reducible assumption | with_reducible exact Ext.refl _ | with_reducible refine Ext.drewN ?_ _ | with_reducible refine Ext.drew ?_ | with_reducible refine Ext.alloc ?_ _ | (with_reducible refine Ext.setCell ?_ ?_ _; rotate_left; (first | exact Nat.le_refl _ | (dsimp only; omega) | (simp only [wsz]; omega))) | (with_reducible refine Ext.trans ?_ (by with_reducible assumption))))))).mono ?_
  rintro e V1 ⟨sv1, rfl, hT1, hV1⟩
  replace hEV := hEV.drew; replace q4 := q4.drew; replace q5 := q5.drew; replace q6 := q6.drew; replace q10 := q10.drew; replace q11 := q11.drew; replace q12 := q12.drew; replace q13 := q13.drew; replace q14 := q14.drew; replace q15 := q15.drew; replace q16 := q16.drew; replace q17 := q17.drew
  clear q12r q4r q5r
  (refine hK _ _ (by repeat (first | with_reducible assumption | with_reducible exact Ext.refl _ | with_reducible refine Ext.drewN ?_ _ | with_reducible refine Ext.drew ?_ | with_reducible refine Ext.alloc ?_ _ | (with_reducible refine Ext.setCell ?_ ?_ _; rotate_left; (first | exact Nat.le_refl _ | (dsimp only; omega) | (simp only [wsz]; omega))) | (with_reducible refine Ext.trans ?_ (by with_reducible assumption)))) ?_; clear hK K; (try simp only [Act.put, List.setIfInBounds_toArray, List.set_cons_zero, List.set_cons_succ]))
  (refine sq_loud rfl rfl fun K hK => ?_; go_simp)
  refine (rsame5_c (N := 6 * N) (p3.tvf.tv.ext (by repeat (first | with_reducible assumption | with_reducible exact Ext.refl _ | with_reducible refine Ext.drewN ?_ _ | with_reducible refine Ext.drew ?_ | with_reducible refine Ext.alloc ?_ _ | (with_reducible refine Ext.setCell ?_ ?_ _; rotate_left; (first | exact Nat.le_refl _ | (dsimp only; omega) | (simp only [wsz]; omega))) | (with_reducible refine Ext.trans ?_ (by with_reducible assumption))))) hT1 (by omega) za za va va (ord_self ta)).mono ?_
  rintro e V2 ⟨rfl, hV2⟩
  replace q4 := (q4.ext hV1).ext hV2
  replace q5 := (q5.ext hV1).ext hV2
  replace q6 := (q6.ext hV1).ext hV2
  replace q10 := (q10.ext hV1).ext hV2
  replace q11 := (q11.ext hV1).ext hV2
  replace q12 := (q12.ext hV1).ext hV2
  replace q13 := (q13.ext hV1).ext hV2
  replace q14 := (q14.ext hV1).ext hV2
  replace q15 := (q15.ext hV1).ext hV2
  replace q16 := (q16.ext hV1).ext hV2
  replace q17 := (q17.ext hV1).ext hV2
  have z2 := hV1.trans hV2
  have q13r := q13.rules; have q13l := q13.lt
  have q4r := q4.rules; have q4l := q4.lt
  have q5r := q5.rules; have q5l := q5.lt
  (refine hK _ _ (by repeat (first | with_reducible assumption | with_reducible exact Ext.refl _ | with_reducible refine Ext.drewN ?_ _ | with_reducible refine Ext.drew ?_ | with_reducible refine Ext.alloc ?_ _ | (with_reducible refine Ext.setCell ?_ ?_ _; rotate_left; (first | exact Nat.le_refl _ | (dsimp only; omega) | (simp only [wsz]; omega))) | (with_reducible refine Ext.trans ?_ (by with_reducible assumption)))) ?_; clear hK K; (try simp only [Act.put, List.setIfInBounds_toArray, List.set_cons_zero, List.set_cons_succ]))
  (repeat (first | (refine sq_take (v := ?_) rfl rfl ?_ ?_; rotate_left; (intro w' hx'; have hc' := hx'.cells.1; (try simp only [wcd] at hc'); go_simp; (first | done | with_reducible rfl)); (try simp only [Act.put, List.setIfInBounds_toArray, List.set_cons_zero, List.set_cons_succ])) | (refine sq_skip rfl rfl ?_; (try simp only [Act.put, List.setIfInBounds_toArray, List.set_cons_zero, List.set_cons_succ])) | (refine sq_noloud rfl rfl ?_; (try simp only [Act.put, List.setIfInBounds_toArray, List.set_cons_zero, List.set_cons_succ])) | (refine sq_takeg (v := ?_) rfl rfl ?_ ?_; rotate_left; (intro w' hx'; have hc' := hx'.cells.1; (try simp only [wcd] at hc'); go_simp; (first | done | with_reducible rfl)); (try simp only [Act.put, List.setIfInBounds_toArray, List.set_cons_zero, List.set_cons_succ]))))
  (refine sq_loudg rfl rfl fun K hK => ?_; go_simp)
  refine (rsub _ _ _ _ _ (ht.ext (hEV.trans (by repeat (first | with_reducible assumption | with_reducible exact Ext.refl _ | with_reducible refine Ext.drewN ?_ _ | with_reducible refine Ext.drew ?_ | with_reducible refine Ext.alloc ?_ _ | (with_reducible refine Ext.setCell ?_ ?_ _; rotate_left; (first | exact Nat.le_refl _ | (dsimp only; omega) | (simp only [wsz]; omega))) | (with_reducible refine Ext.trans ?_ (by with_reducible assumption)))))) (hu.ext (hEV.trans (by repeat (first | with_reducible assumption | with_reducible exact Ext.refl _ | with_reducible refine Ext.drewN ?_ _ | with_reducible refine Ext.drew ?_ | with_reducible refine Ext.alloc ?_ _ | (with_reducible refine Ext.setCell ?_ ?_ _; rotate_left; (first | exact Nat.le_refl _ | (dsimp only; omega) | (simp only [wsz]; omega))) | (with_reducible refine Ext.trans ?_ (by with_reducible assumption))))))).mono ?_
  rintro e V3 ⟨sv3, rfl, hT3, hV3⟩
  clear q13r q4r q5r
  (refine hK _ _ (by repeat (first | with_reducible assumption | with_reducible exact Ext.refl _ | with_reducible refine Ext.drewN ?_ _ | with_reducible refine Ext.drew ?_ | with_reducible refine Ext.alloc ?_ _ | (with_reducible refine Ext.setCell ?_ ?_ _; rotate_left; (first | exact Nat.le_refl _ | (dsimp only; omega) | (simp only [wsz]; omega))) | (with_reducible refine Ext.trans ?_ (by with_reducible assumption)))) ?_; clear hK K; (try simp only [Act.put, List.setIfInBounds_toArray, List.set_cons_zero, List.set_cons_succ]))
  (refine sq_loudg rfl rfl fun K hK => ?_; go_simp)
  refine (rsame5_c (N := 6 * N) (p4.tvf.tv.ext (by repeat (first | with_reducible assumption | with_reducible exact Ext.refl _ | with_reducible refine Ext.drewN ?_ _ | with_reducible refine Ext.drew ?_ | with_reducible refine Ext.alloc ?_ _ | (with_reducible refine Ext.setCell ?_ ?_ _; rotate_left; (first | exact Nat.le_refl _ | (dsimp only; omega) | (simp only [wsz]; omega))) | (with_reducible refine Ext.trans ?_ (by with_reducible assumption))))) hT3 (by omega) zs zs vs vs (ord_self ts)).mono ?_
  rintro e V4 ⟨rfl, hV4⟩
  replace q4 := (q4.ext hV3).ext hV4
  replace q5 := (q5.ext hV3).ext hV4
  replace q6 := (q6.ext hV3).ext hV4
  replace q10 := (q10.ext hV3).ext hV4
  replace q11 := (q11.ext hV3).ext hV4
  replace q12 := (q12.ext hV3).ext hV4
  replace q13 := (q13.ext hV3).ext hV4
  replace q14 := (q14.ext hV3).ext hV4
  replace q15 := (q15.ext hV3).ext hV4
  replace q16 := (q16.ext hV3).ext hV4
  replace q17 := (q17.ext hV3).ext hV4
  have z4 := hV3.trans hV4
  have q14r := q14.rules; have q14l := q14.lt
  have q6r := q6.rules; have q6l := q6.lt
  have q4r := q4.rules; have q4l := q4.lt
  (refine hK _ _ (by repeat (first | with_reducible assumption | with_reducible exact Ext.refl _ | with_reducible refine Ext.drewN ?_ _ | with_reducible refine Ext.drew ?_ | with_reducible refine Ext.alloc ?_ _ | (with_reducible refine Ext.setCell ?_ ?_ _; rotate_left; (first | exact Nat.le_refl _ | (dsimp only; omega) | (simp only [wsz]; omega))) | (with_reducible refine Ext.trans ?_ (by with_reducible assumption)))) ?_; clear hK K; (try simp only [Act.put, List.setIfInBounds_toArray, List.set_cons_zero, List.set_cons_succ]))
  (repeat (first | (refine sq_take (v := ?_) rfl rfl ?_ ?_; rotate_left; (intro w' hx'; have hc' := hx'.cells.1; (try simp only [wcd] at hc'); go_simp; (first | done | with_reducible rfl)); (try simp only [Act.put, List.setIfInBounds_toArray, List.set_cons_zero, List.set_cons_succ])) | (refine sq_skip rfl rfl ?_; (try simp only [Act.put, List.setIfInBounds_toArray, List.set_cons_zero, List.set_cons_succ])) | (refine sq_noloud rfl rfl ?_; (try simp only [Act.put, List.setIfInBounds_toArray, List.set_cons_zero, List.set_cons_succ])) | (refine sq_takeg (v := ?_) rfl rfl ?_ ?_; rotate_left; (intro w' hx'; have hc' := hx'.cells.1; (try simp only [wcd] at hc'); go_simp; (first | done | with_reducible rfl)); (try simp only [Act.put, List.setIfInBounds_toArray, List.set_cons_zero, List.set_cons_succ]))))
  (refine sq_loudg rfl rfl fun K hK => ?_; go_simp)
  refine (rscale _ _ _ _ _ (hk.ext (hEV.trans (by repeat (first | with_reducible assumption | with_reducible exact Ext.refl _ | with_reducible refine Ext.drewN ?_ _ | with_reducible refine Ext.drew ?_ | with_reducible refine Ext.alloc ?_ _ | (with_reducible refine Ext.setCell ?_ ?_ _; rotate_left; (first | exact Nat.le_refl _ | (dsimp only; omega) | (simp only [wsz]; omega))) | (with_reducible refine Ext.trans ?_ (by with_reducible assumption)))))) (ht.ext (hEV.trans (by repeat (first | with_reducible assumption | with_reducible exact Ext.refl _ | with_reducible refine Ext.drewN ?_ _ | with_reducible refine Ext.drew ?_ | with_reducible refine Ext.alloc ?_ _ | (with_reducible refine Ext.setCell ?_ ?_ _; rotate_left; (first | exact Nat.le_refl _ | (dsimp only; omega) | (simp only [wsz]; omega))) | (with_reducible refine Ext.trans ?_ (by with_reducible assumption))))))).mono ?_
  rintro e V5 ⟨sv5, rfl, hT5, hV5⟩
  clear q14r q6r q4r
  (refine hK _ _ (by repeat (first | with_reducible assumption | with_reducible exact Ext.refl _ | with_reducible refine Ext.drewN ?_ _ | with_reducible refine Ext.drew ?_ | with_reducible refine Ext.alloc ?_ _ | (with_reducible refine Ext.setCell ?_ ?_ _; rotate_left; (first | exact Nat.le_refl _ | (dsimp only; omega) | (simp only [wsz]; omega))) | (with_reducible refine Ext.trans ?_ (by with_reducible assumption)))) ?_; clear hK K; (try simp only [Act.put, List.setIfInBounds_toArray, List.set_cons_zero, List.set_cons_succ]))
  (refine sq_loudg rfl rfl fun K hK => ?_; go_simp)
  refine (rsame5_c (N := 6 * N) (p5.tvf.tv.ext (by repeat (first | with_reducible assumption | with_reducible exact Ext.refl _ | with_reducible refine Ext.drewN ?_ _ | with_reducible refine Ext.drew ?_ | with_reducible refine Ext.alloc ?_ _ | (with_reducible refine Ext.setCell ?_ ?_ _; rotate_left; (first | exact Nat.le_refl _ | (dsimp only; omega) | (simp only [wsz]; omega))) | (with_reducible refine Ext.trans ?_ (by with_reducible assumption))))) hT5 (by omega) zm zm vm vm (ord_self tm)).mono ?_
  rintro e V6 ⟨rfl, hV6⟩
  replace q4 := (q4.ext hV5).ext hV6
  replace q5 := (q5.ext hV5).ext hV6
  replace q6 := (q6.ext hV5).ext hV6
  replace q10 := (q10.ext hV5).ext hV6
  replace q11 := (q11.ext hV5).ext hV6
  replace q12 := (q12.ext hV5).ext hV6
  replace q13 := (q13.ext hV5).ext hV6
  replace q14 := (q14.ext hV5).ext hV6
  replace q15 := (q15.ext hV5).ext hV6
  replace q16 := (q16.ext hV5).ext hV6
  replace q17 := (q17.ext hV5).ext hV6
  have z6 := hV5.trans hV6
  have q15r := q15.rules; have q15l := q15.lt
  have q4r := q4.rules; have q4l := q4.lt
  (refine hK _ _ (by repeat (first | with_reducible assumption | with_reducible exact Ext.refl _ | with_reducible refine Ext.drewN ?_ _ | with_reducible refine Ext.drew ?_ | with_reducible refine Ext.alloc ?_ _ | (with_reducible refine Ext.setCell ?_ ?_ _; rotate_left; (first | exact Nat.le_refl _ | (dsimp only; omega) | (simp only [wsz]; omega))) | (with_reducible refine Ext.trans ?_ (by with_reducible assumption)))) ?_; clear hK K; (try simp only [Act.put, List.setIfInBounds_toArray, List.set_cons_zero, List.set_cons_succ]))
  (repeat (first | (refine sq_take (v := ?_) rfl rfl ?_ ?_; rotate_left; (intro w' hx'; have hc' := hx'.cells.1; (try simp only [wcd] at hc'); go_simp; (first | done | with_reducible rfl)); (try simp only [Act.put, List.setIfInBounds_toArray, List.set_cons_zero, List.set_cons_succ])) | (refine sq_skip rfl rfl ?_; (try simp only [Act.put, List.setIfInBounds_toArray, List.set_cons_zero, List.set_cons_succ])) | (refine sq_noloud rfl rfl ?_; (try simp only [Act.put, List.setIfInBounds_toArray, List.set_cons_zero, List.set_cons_succ])) | (refine sq_takeg (v := ?_) rfl rfl ?_ ?_; rotate_left; (intro w' hx'; have hc' := hx'.cells.1; (try simp only [wcd] at hc'); go_simp; (first | done | with_reducible rfl)); (try simp only [Act.put, List.setIfInBounds_toArray, List.set_cons_zero, List.set_cons_succ]))))
  (refine sq_loudg rfl rfl fun K hK => ?_; go_simp)
  refine (rcoef _ _ _ (ht.ext (hEV.trans (by repeat (first | with_reducible assumption | with_reducible exact Ext.refl _ | with_reducible refine Ext.drewN ?_ _ | with_reducible refine Ext.drew ?_ | with_reducible refine Ext.alloc ?_ _ | (with_reducible refine Ext.setCell ?_ ?_ _; rotate_left; (first | exact Nat.le_refl _ | (dsimp only; omega) | (simp only [wsz]; omega))) | (with_reducible refine Ext.trans ?_ (by with_reducible assumption))))))).mono ?_
  rintro e V7 ⟨sv7, rfl, hT7, hV7⟩
  clear q15r q4r
  (refine hK _ _ (by repeat (first | with_reducible assumption | with_reducible exact Ext.refl _ | with_reducible refine Ext.drewN ?_ _ | with_reducible refine Ext.drew ?_ | with_reducible refine Ext.alloc ?_ _ | (with_reducible refine Ext.setCell ?_ ?_ _; rotate_left; (first | exact Nat.le_refl _ | (dsimp only; omega) | (simp only [wsz]; omega))) | (with_reducible refine Ext.trans ?_ (by with_reducible assumption)))) ?_; clear hK K; (try simp only [Act.put, List.setIfInBounds_toArray, List.set_cons_zero, List.set_cons_succ]))
  (refine sq_loudg rfl rfl fun K hK => ?_; go_simp)
  refine (ris_c (p6.ext (by repeat (first | with_reducible assumption | with_reducible exact Ext.refl _ | with_reducible refine Ext.drewN ?_ _ | with_reducible refine Ext.drew ?_ | with_reducible refine Ext.alloc ?_ _ | (with_reducible refine Ext.setCell ?_ ?_ _; rotate_left; (first | exact Nat.le_refl _ | (dsimp only; omega) | (simp only [wsz]; omega))) | (with_reducible refine Ext.trans ?_ (by with_reducible assumption))))) hT7 (by omega) (by omega)).mono ?_
  rw [show (zq.ok && decide (zq.v = zq.v)) = true from by simp [CZO.out]]
  rintro e V8 ⟨rfl, hV8⟩
  replace q4 := (q4.ext hV7).ext hV8
  replace q5 := (q5.ext hV7).ext hV8
  replace q6 := (q6.ext hV7).ext hV8
  replace q10 := (q10.ext hV7).ext hV8
  replace q11 := (q11.ext hV7).ext hV8
  replace q12 := (q12.ext hV7).ext hV8
  replace q13 := (q13.ext hV7).ext hV8
  replace q14 := (q14.ext hV7).ext hV8
  replace q15 := (q15.ext hV7).ext hV8
  replace q16 := (q16.ext hV7).ext hV8
  replace q17 := (q17.ext hV7).ext hV8
  have z8 := hV7.trans hV8
  have q16r := q16.rules; have q16l := q16.lt
  have q4r := q4.rules; have q4l := q4.lt
  (refine hK _ _ (by repeat (first | with_reducible assumption | with_reducible exact Ext.refl _ | with_reducible refine Ext.drewN ?_ _ | with_reducible refine Ext.drew ?_ | with_reducible refine Ext.alloc ?_ _ | (with_reducible refine Ext.setCell ?_ ?_ _; rotate_left; (first | exact Nat.le_refl _ | (dsimp only; omega) | (simp only [wsz]; omega))) | (with_reducible refine Ext.trans ?_ (by with_reducible assumption)))) ?_; clear hK K; (try simp only [Act.put, List.setIfInBounds_toArray, List.set_cons_zero, List.set_cons_succ]))
  (repeat (first | (refine sq_take (v := ?_) rfl rfl ?_ ?_; rotate_left; (intro w' hx'; have hc' := hx'.cells.1; (try simp only [wcd] at hc'); go_simp; (first | done | with_reducible rfl)); (try simp only [Act.put, List.setIfInBounds_toArray, List.set_cons_zero, List.set_cons_succ])) | (refine sq_skip rfl rfl ?_; (try simp only [Act.put, List.setIfInBounds_toArray, List.set_cons_zero, List.set_cons_succ])) | (refine sq_noloud rfl rfl ?_; (try simp only [Act.put, List.setIfInBounds_toArray, List.set_cons_zero, List.set_cons_succ])) | (refine sq_takeg (v := ?_) rfl rfl ?_ ?_; rotate_left; (intro w' hx'; have hc' := hx'.cells.1; (try simp only [wcd] at hc'); go_simp; (first | done | with_reducible rfl)); (try simp only [Act.put, List.setIfInBounds_toArray, List.set_cons_zero, List.set_cons_succ]))))
  (refine sq_loudg rfl rfl fun K hK => ?_; go_simp)
  refine (rwo _ _ _ (ht.ext (hEV.trans (by repeat (first | with_reducible assumption | with_reducible exact Ext.refl _ | with_reducible refine Ext.drewN ?_ _ | with_reducible refine Ext.drew ?_ | with_reducible refine Ext.alloc ?_ _ | (with_reducible refine Ext.setCell ?_ ?_ _; rotate_left; (first | exact Nat.le_refl _ | (dsimp only; omega) | (simp only [wsz]; omega))) | (with_reducible refine Ext.trans ?_ (by with_reducible assumption))))))).mono ?_
  rintro e V9 ⟨sv9, rfl, hT9, hV9⟩
  clear q16r q4r
  (refine hK _ _ (by repeat (first | with_reducible assumption | with_reducible exact Ext.refl _ | with_reducible refine Ext.drewN ?_ _ | with_reducible refine Ext.drew ?_ | with_reducible refine Ext.alloc ?_ _ | (with_reducible refine Ext.setCell ?_ ?_ _; rotate_left; (first | exact Nat.le_refl _ | (dsimp only; omega) | (simp only [wsz]; omega))) | (with_reducible refine Ext.trans ?_ (by with_reducible assumption)))) ?_; clear hK K; (try simp only [Act.put, List.setIfInBounds_toArray, List.set_cons_zero, List.set_cons_succ]))
  (refine sq_loudg rfl rfl fun K hK => ?_; go_simp)
  refine (rsame5_c (N := 6 * N) (p7.tvf.tv.ext (by repeat (first | with_reducible assumption | with_reducible exact Ext.refl _ | with_reducible refine Ext.drewN ?_ _ | with_reducible refine Ext.drew ?_ | with_reducible refine Ext.alloc ?_ _ | (with_reducible refine Ext.setCell ?_ ?_ _; rotate_left; (first | exact Nat.le_refl _ | (dsimp only; omega) | (simp only [wsz]; omega))) | (with_reducible refine Ext.trans ?_ (by with_reducible assumption))))) hT9 (by omega) zo zo vo vo (ord_self tw)).mono ?_
  rintro e V10 ⟨rfl, hV10⟩
  replace q4 := (q4.ext hV9).ext hV10
  replace q5 := (q5.ext hV9).ext hV10
  replace q6 := (q6.ext hV9).ext hV10
  replace q10 := (q10.ext hV9).ext hV10
  replace q11 := (q11.ext hV9).ext hV10
  replace q12 := (q12.ext hV9).ext hV10
  replace q13 := (q13.ext hV9).ext hV10
  replace q14 := (q14.ext hV9).ext hV10
  replace q15 := (q15.ext hV9).ext hV10
  replace q16 := (q16.ext hV9).ext hV10
  replace q17 := (q17.ext hV9).ext hV10
  have z10 := hV9.trans hV10
  have q17r := q17.rules; have q17l := q17.lt
  have q4r := q4.rules; have q4l := q4.lt
  have q5r := q5.rules; have q5l := q5.lt
  (refine hK _ _ (by repeat (first | with_reducible assumption | with_reducible exact Ext.refl _ | with_reducible refine Ext.drewN ?_ _ | with_reducible refine Ext.drew ?_ | with_reducible refine Ext.alloc ?_ _ | (with_reducible refine Ext.setCell ?_ ?_ _; rotate_left; (first | exact Nat.le_refl _ | (dsimp only; omega) | (simp only [wsz]; omega))) | (with_reducible refine Ext.trans ?_ (by with_reducible assumption)))) ?_; clear hK K; (try simp only [Act.put, List.setIfInBounds_toArray, List.set_cons_zero, List.set_cons_succ]))
  (repeat (first | (refine sq_take (v := ?_) rfl rfl ?_ ?_; rotate_left; (intro w' hx'; have hc' := hx'.cells.1; (try simp only [wcd] at hc'); go_simp; (first | done | with_reducible rfl)); (try simp only [Act.put, List.setIfInBounds_toArray, List.set_cons_zero, List.set_cons_succ])) | (refine sq_skip rfl rfl ?_; (try simp only [Act.put, List.setIfInBounds_toArray, List.set_cons_zero, List.set_cons_succ])) | (refine sq_noloud rfl rfl ?_; (try simp only [Act.put, List.setIfInBounds_toArray, List.set_cons_zero, List.set_cons_succ])) | (refine sq_takeg (v := ?_) rfl rfl ?_ ?_; rotate_left; (intro w' hx'; have hc' := hx'.cells.1; (try simp only [wcd] at hc'); go_simp; (first | done | with_reducible rfl)); (try simp only [Act.put, List.setIfInBounds_toArray, List.set_cons_zero, List.set_cons_succ]))))
  (refine sq_loudg rfl rfl fun K hK => ?_; go_simp)
  refine (rput _ _ _ _ _ (ht.ext (hEV.trans (by repeat (first | with_reducible assumption | with_reducible exact Ext.refl _ | with_reducible refine Ext.drewN ?_ _ | with_reducible refine Ext.drew ?_ | with_reducible refine Ext.alloc ?_ _ | (with_reducible refine Ext.setCell ?_ ?_ _; rotate_left; (first | exact Nat.le_refl _ | (dsimp only; omega) | (simp only [wsz]; omega))) | (with_reducible refine Ext.trans ?_ (by with_reducible assumption)))))) (hu.ext (hEV.trans (by repeat (first | with_reducible assumption | with_reducible exact Ext.refl _ | with_reducible refine Ext.drewN ?_ _ | with_reducible refine Ext.drew ?_ | with_reducible refine Ext.alloc ?_ _ | (with_reducible refine Ext.setCell ?_ ?_ _; rotate_left; (first | exact Nat.le_refl _ | (dsimp only; omega) | (simp only [wsz]; omega))) | (with_reducible refine Ext.trans ?_ (by with_reducible assumption))))))).mono ?_
  rintro e V11 ⟨sv11, rfl, hT11, hV11⟩
  clear q17r q4r q5r
  (refine hK _ _ (by repeat (first | with_reducible assumption | with_reducible exact Ext.refl _ | with_reducible refine Ext.drewN ?_ _ | with_reducible refine Ext.drew ?_ | with_reducible refine Ext.alloc ?_ _ | (with_reducible refine Ext.setCell ?_ ?_ _; rotate_left; (first | exact Nat.le_refl _ | (dsimp only; omega) | (simp only [wsz]; omega))) | (with_reducible refine Ext.trans ?_ (by with_reducible assumption)))) ?_; clear hK K; (try simp only [Act.put, List.setIfInBounds_toArray, List.set_cons_zero, List.set_cons_succ]))
  (refine sq_loudg rfl rfl fun K hK => ?_; go_simp)
  refine (rsame5_c (N := 6 * N) (p8.tvf.tv.ext (by repeat (first | with_reducible assumption | with_reducible exact Ext.refl _ | with_reducible refine Ext.drewN ?_ _ | with_reducible refine Ext.drew ?_ | with_reducible refine Ext.alloc ?_ _ | (with_reducible refine Ext.setCell ?_ ?_ _; rotate_left; (first | exact Nat.le_refl _ | (dsimp only; omega) | (simp only [wsz]; omega))) | (with_reducible refine Ext.trans ?_ (by with_reducible assumption))))) hT11 (by omega) zp zp vp vp (ord_self tp)).mono ?_
  rintro e V12 ⟨rfl, hV12⟩
  replace q4 := (q4.ext hV11).ext hV12
  replace q5 := (q5.ext hV11).ext hV12
  replace q6 := (q6.ext hV11).ext hV12
  replace q10 := (q10.ext hV11).ext hV12
  replace q11 := (q11.ext hV11).ext hV12
  replace q12 := (q12.ext hV11).ext hV12
  replace q13 := (q13.ext hV11).ext hV12
  replace q14 := (q14.ext hV11).ext hV12
  replace q15 := (q15.ext hV11).ext hV12
  replace q16 := (q16.ext hV11).ext hV12
  replace q17 := (q17.ext hV11).ext hV12
  have z12 := hV11.trans hV12
  (refine hK _ _ (by repeat (first | with_reducible assumption | with_reducible exact Ext.refl _ | with_reducible refine Ext.drewN ?_ _ | with_reducible refine Ext.drew ?_ | with_reducible refine Ext.alloc ?_ _ | (with_reducible refine Ext.setCell ?_ ?_ _; rotate_left; (first | exact Nat.le_refl _ | (dsimp only; omega) | (simp only [wsz]; omega))) | (with_reducible refine Ext.trans ?_ (by with_reducible assumption)))) ?_; clear hK K; (try simp only [Act.put, List.setIfInBounds_toArray, List.set_cons_zero, List.set_cons_succ]))
  (repeat (first | (refine sq_take (v := ?_) rfl rfl ?_ ?_; rotate_left; (intro w' hx'; have hc' := hx'.cells.1; (try simp only [wcd] at hc'); go_simp; (first | done | with_reducible rfl)); (try simp only [Act.put, List.setIfInBounds_toArray, List.set_cons_zero, List.set_cons_succ])) | (refine sq_skip rfl rfl ?_; (try simp only [Act.put, List.setIfInBounds_toArray, List.set_cons_zero, List.set_cons_succ])) | (refine sq_noloud rfl rfl ?_; (try simp only [Act.put, List.setIfInBounds_toArray, List.set_cons_zero, List.set_cons_succ])) | (refine sq_takeg (v := ?_) rfl rfl ?_ ?_; rotate_left; (intro w' hx'; have hc' := hx'.cells.1; (try simp only [wcd] at hc'); go_simp; (first | done | with_reducible rfl)); (try simp only [Act.put, List.setIfInBounds_toArray, List.set_cons_zero, List.set_cons_succ]))))
  (refine sq_last rfl rfl fun K hK => ?_; go_simp; refine hK _ _ ?_; clear hK K)
  have hEU : Ext w V12 := ((((((hEV.trans z2).trans z4).trans z6).trans z8).trans z10).trans z12)
  have hVU : Ext V V12 := ((((((Ext.refl V).drew.trans z2).trans z4).trans z6).trans z8).trans z10).trans z12
  replace mA := mA.keep (.of_ext hVU); replace mB := mB.keep (.of_ext hVU)
  replace p3 := p3.ext hVU; replace p4 := p4.ext hVU; replace p5 := p5.ext hVU; replace p7 := p7.ext hVU; replace p8 := p8.ext hVU
  have hwV := hEU.size
  clear p6 z2 z4 z6 z8 z10 z12 hV1 hV2 hV3 hV4 hV5 hV6 hV7 hV8 hV9 hV10 hV11 hV12 hT1 hT3 hT5 hT7 hT9 hT11 radd rsub rscale rcoef rwo rput hEV hVU h8V q6 q15
  have q12r := q12.rules; have q12l := q12.lt
  go_wp2_with fail
  refine (over_c p3 (by omega) (by omega)).mono ?_
  rintro e U1 ⟨rfl, hb0, hk0⟩
  clear q12r q12l
  replace q4 := q4.below hb0 (by omega)
  replace q5 := q5.below hb0 (by omega)
  replace q10 := q10.below hb0 (by omega)
  replace q11 := q11.below hb0 (by omega)
  replace q13 := q13.keep (X := (w3.heap.size ≤ ·)) (by omega) hk0
  replace q14 := q14.keep (X := (w3.heap.size ≤ ·)) (by omega) hk0
  replace q16 := q16.keep (X := (w3.heap.size ≤ ·)) (by omega) hk0
  replace q17 := q17.keep (X := (w3.heap.size ≤ ·)) (by omega) hk0
  replace p4 := p4.keep (hk0.imp fun b hb => by omega)
  replace p5 := p5.keep (hk0.imp fun b hb => by omega)
  replace p7 := p7.keep (hk0.imp fun b hb => by omega)
  replace p8 := p8.keep (hk0.imp fun b hb => by omega)
  replace mA := mA.below hb0 (by omega); replace mB := mB.below hb0 (by omega)
  replace hEU : Ext w U1 := Below.trans hEU (Below.mono hb0 (by omega))
  clear q12 p3 hb0 hk0
  have q13r := q13.rules; have q13l := q13.lt
  go_wp2_with fail
  refine (over_c p4 (by omega) (by omega)).mono ?_
  rintro e U2 ⟨rfl, hb1, hk1⟩
  clear q13r q13l
  replace q4 := q4.below hb1 (by omega)
  replace q5 := q5.below hb1 (by omega)
  replace q10 := q10.below hb1 (by omega)
  replace q11 := q11.below hb1 (by omega)
  replace q14 := q14.keep (X := (w4.heap.size ≤ ·)) (by omega) hk1
  replace q16 := q16.keep (X := (w4.heap.size ≤ ·)) (by omega) hk1
  replace q17 := q17.keep (X := (w4.heap.size ≤ ·)) (by omega) hk1
  replace p5 := p5.keep (hk1.imp fun b hb => by omega)
  replace p7 := p7.keep (hk1.imp fun b hb => by omega)
  replace p8 := p8.keep (hk1.imp fun b hb => by omega)
  replace mA := mA.below hb1 (by omega); replace mB := mB.below hb1 (by omega)
  replace hEU : Ext w U2 := Below.trans hEU (Below.mono hb1 (by omega))
  clear q13 p4 hb1 hk1
  have q14r := q14.rules; have q14l := q14.lt
  go_wp2_with fail
  refine (over_c p5 (by omega) (by omega)).mono ?_
  rintro e U3 ⟨rfl, hb2, hk2⟩
  clear q14r q14l
  replace q4 := q4.below hb2 (by omega)
  replace q5 := q5.below hb2 (by omega)
  replace q10 := q10.below hb2 (by omega)
  replace q11 := q11.below hb2 (by omega)
  replace q16 := q16.keep (X := (w5.heap.size ≤ ·)) (by omega) hk2
  replace q17 := q17.keep (X := (w5.heap.size ≤ ·)) (by omega) hk2
  replace p7 := p7.keep (hk2.imp fun b hb => by omega)
  replace p8 := p8.keep (hk2.imp fun b hb => by omega)
  replace mA := mA.below hb2 (by omega); replace mB := mB.below hb2 (by omega)
  replace hEU : Ext w U3 := Below.trans hEU (Below.mono hb2 (by omega))
  clear q14 p5 hb2 hk2
  have q16r := q16.rules; have q16l := q16.lt
  go_wp2_with fail
  refine (over_c p7 (by omega) (by omega)).mono ?_
  rintro e U4 ⟨rfl, hb3, hk3⟩
  clear q16r q16l
  replace q4 := q4.below hb3 (by omega)
  replace q5 := q5.below hb3 (by omega)
  replace q10 := q10.below hb3 (by omega)
  replace q11 := q11.below hb3 (by omega)
  replace q17 := q17.keep (X := (w7.heap.size ≤ ·)) (by omega) hk3
  replace p8 := p8.keep (hk3.imp fun b hb => by omega)
  replace mA := mA.below hb3 (by omega); replace mB := mB.below hb3 (by omega)
  replace hEU : Ext w U4 := Below.trans hEU (Below.mono hb3 (by omega))
  clear q16 p7 hb3 hk3
  have q17r := q17.rules; have q17l := q17.lt
  go_wp2_with fail
  refine (over_c p8 (by omega) (by omega)).mono ?_
  rintro e U5 ⟨rfl, hb4, hk4⟩
  clear q17r q17l
  replace q4 := q4.below hb4 (by omega)
  replace q5 := q5.below hb4 (by omega)
  replace q10 := q10.below hb4 (by omega)
  replace q11 := q11.below hb4 (by omega)
  replace mA := mA.below hb4 (by omega); replace mB := mB.below hb4 (by omega)
  replace hEU : Ext w U5 := Below.trans hEU (Below.mono hb4 (by omega))
  clear q17 p8 hb4 hk4
  have q10r := q10.rules; have q10l := q10.lt
  go_wp2_with fail
  refine (tnorm_f (N := N) mA.tv (by omega) s1).mono ?_
  rintro e U6 ⟨r6, rfl, hF, hx6⟩
  clear q10r
  have q11l := q11.lt
  have hs56 := hx6.size
  replace q10 := q10.ext hx6; replace q11 := q11.ext hx6; replace q4 := q4.ext hx6; replace q5 := q5.ext hx6
  replace mA := mA.keep (.of_ext hx6); replace mB := mB.keep (.of_ext hx6)
  replace hEU := hEU.trans hx6
  go_wp2_with fail
  refine (over_c hF.bound (Nat.le_refl _) hx6.size).mono ?_
  rintro e U7 ⟨rfl, hb, hk⟩
  replace q10 := q10.below hb (by omega); replace q11 := q11.below hb (by omega); replace q4 := q4.below hb (by omega); replace q5 := q5.below hb (by omega)
  replace mA := mA.below hb (by omega); replace mB := mB.below hb (by omega)
  replace hEU : Ext w U7 := Below.trans hEU (Below.mono hb (by omega))
  clear hF hx6 hb hk q10l q11l
  have q10r := q10.rules; have q10l := q10.lt
  have q4r := q4.rules; have q4l := q4.lt
  go_wp2_with fail
  refine (stays_c (N := N) mA (ht.ext hEU) (by omega) s1).mono ?_
  rintro e U8 ⟨rfl, hx8⟩
  replace q11 := q11.ext hx8; replace q5 := q5.ext hx8
  replace mB := mB.keep (.of_ext hx8)
  replace hEU := hEU.trans hx8
  clear q10r q4r q10l q4l q10 q4
  have q11r := q11.rules; have q11l := q11.lt
  have q5r := q5.rules; have q5l := q5.lt
  go_wp2_with fail
  refine (stays_c (N := N) mB (hu.ext hEU) (by omega) s2).mono ?_
  rintro e U9 ⟨rfl, hx9⟩
  go_wp2_with fail
  go_ret
  exact ⟨rfl, hEU.trans (by repeat (first | with_reducible assumption | with_reducible exact Ext.refl _ | with_reducible refine Ext.drewN ?_ _ | with_reducible refine Ext.drew ?_ | with_reducible refine Ext.alloc ?_ _ | (with_reducible refine Ext.setCell ?_ ?_ _; rotate_left; (first | exact Nat.le_refl _ | (dsimp only; omega) | (simp only [wsz]; omega))) | (with_reducible refine Ext.trans ?_ (by with_reducible assumption))))⟩

end Go.Proofs.Ytbblgjjomgipfaa
