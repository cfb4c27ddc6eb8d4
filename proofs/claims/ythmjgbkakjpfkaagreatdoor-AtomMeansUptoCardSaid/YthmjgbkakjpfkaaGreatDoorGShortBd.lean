/- term.Add, Sub, Scale. No conditions. term.Without, term.Put. No conditions. riddleref05.Add, Scale, Sub, Coef, Without, Put. No conditions. -/
import Derived.Test.YthmjgbkakjpfkaaGreatDoorGShortAx
import Derived.Test.YthmjgbkakjpfkaaGreatDoorGShortAt
import Derived.Test.YthmjgbkakjpfkaaGreatDoorGShortAz
import Derived.Test.YthmjgbkakjpfkaaGreatDoorGShortAi
import Derived.Test.YthmjgbkakjpfkaaGreatDoorGShortBc
namespace Go.Proofs.YthmjgbkakjpfkaaGreatDoor
open Go.RowKit

theorem nf_add (a b : T) : ct (sc (cz 1).v (vl a.ps) ++ sc (cz 1).v (vl b.ps)) ((cz 1).v * a.k.v + (cz 1).v * b.k.v) = ct (vl a.ps ++ vl b.ps) (a.k.v + b.k.v) := by
  rw [cz_v, sc_one, sc_one, Int.one_mul, Int.one_mul]
theorem nf_sub (a b : T) : ct (sc (cz 1).v (vl a.ps) ++ sc (cz (-1)).v (vl b.ps)) ((cz 1).v * a.k.v + (cz (-1)).v * b.k.v) = ct (vl a.ps ++ sc (-1) (vl b.ps)) (a.k.v - b.k.v) := by
  rw [cz_v, cz_v, sc_one, Int.one_mul, show a.k.v + -1 * b.k.v = a.k.v - b.k.v from by omega]
theorem nf_scale (k : Z) (t : T) : ct (sc k.v (vl t.ps) ++ sc (Z.v ⟨false, []⟩) (vl [])) (k.v * t.k.v + Z.v ⟨false, []⟩ * Z.v ⟨false, []⟩) = ct (sc k.v (vl t.ps)) (k.v * t.k.v) := by
  refine ct_congr (fun x => ?_) ?_
  · rw [cf_append]; simp [vl, sc, cf]
  · simp [Z.v, nv]

set_option maxHeartbeats 800000 in
theorem tscale_f {kv v : Value} {k : Z} {t : T} {w : World} {X Y : Nat → Prop} {N : Nat} (hk : Zi w X kv k) (h : Tv w Y v t) (hN : N ≤ 34359738368) (sk : k.mag.length ≤ N) (s : t.sz N) :
    Calls Tryz.prog 42 #[kv, v] w fun e w' => ∃ r, e = .returned r ∧ TvF w' w.heap.size r (ct (sc k.v (vl t.ps)) (k.v * t.k.v)) ∧ Ext w w' := by
  obtain ⟨K, kc, rfl, hk⟩ := hk
  obtain ⟨A, c, B, d, rfl, h1, h2⟩ := h
  go_enter Tryz.func42, Tryz.ntmps42
  go_wp2_with fail
  refine (sum_c (k := k) (a := t) ⟨_, _, rfl, hk.ext (by repeat (first | with_reducible assumption | with_reducible exact Ext.refl _ | with_reducible refine Ext.drewN ?_ _ | with_reducible refine Ext.drew ?_ | with_reducible refine Ext.alloc ?_ _ | (with_reducible refine Ext.setCell ?_ ?_ _; rotate_left; (first | exact Nat.le_refl _ | (dsimp only; omega) | (simp only [wsz]; omega))) | (with_reducible refine Ext.trans ?_ (by with_reducible assumption))))⟩ ⟨_, _, _, _, rfl, h1.ext (by repeat (first | with_reducible assumption | with_reducible exact Ext.refl _ | with_reducible refine Ext.drewN ?_ _ | with_reducible refine Ext.drew ?_ | with_reducible refine Ext.alloc ?_ _ | (with_reducible refine Ext.setCell ?_ ?_ _; rotate_left; (first | exact Nat.le_refl _ | (dsimp only; omega) | (simp only [wsz]; omega))) | (with_reducible refine Ext.trans ?_ (by with_reducible assumption)))), h2.ext (by repeat (first | with_reducible assumption | with_reducible exact Ext.refl _ | with_reducible refine Ext.drewN ?_ _ | with_reducible refine Ext.drew ?_ | with_reducible refine Ext.alloc ?_ _ | (with_reducible refine Ext.setCell ?_ ?_ _; rotate_left; (first | exact Nat.le_refl _ | (dsimp only; omega) | (simp only [wsz]; omega))) | (with_reducible refine Ext.trans ?_ (by with_reducible assumption))))⟩ (zero_zi _ (fun _ => True)) (zero_tv _ (fun _ => True)) hN sk s (Nat.zero_le _) ⟨Nat.zero_le _, by simp, Nat.zero_le _⟩).mono ?_
  rw [nf_scale]
  rintro e w1 ⟨r, rfl, hF, hx⟩
  have hF3 := hF
  obtain ⟨A1, c1, B1, d1, rfl, -, -, -⟩ := hF
  have hc := hx.cells
  (have hs := Ext.size hx; (try simp only [wsz] at hs))
  go_wp2_with fail
  (refine bodyPost_ret (v := ?_) ?_ rfl ?_; rotate_left; (simp only [results, Tryz.results42]; go_simp; (first | done | with_reducible rfl)))
  exact ⟨_, rfl, (hF3.keep (by repeat (first | with_reducible exact Kp.refl _ | with_reducible refine Kp.drewN ?_ _ | with_reducible refine Kp.drew ?_ | with_reducible refine Kp.alloc ?_ _ | (with_reducible refine Kp.setCell ?_ ?_ _; rotate_left; (first | (dsimp only; omega) | (simp only [wsz]; omega))) | (with_reducible exact Kp.of_ext (by with_reducible assumption)) | (with_reducible refine Kp.ext ?_ (by with_reducible assumption))))).lower (by first | omega | (simp only [wsz]; omega)), (by repeat (first | with_reducible assumption | with_reducible exact Ext.refl _ | with_reducible refine Ext.drewN ?_ _ | with_reducible refine Ext.drew ?_ | with_reducible refine Ext.alloc ?_ _ | (with_reducible refine Ext.setCell ?_ ?_ _; rotate_left; (first | exact Nat.le_refl _ | (dsimp only; omega) | (simp only [wsz]; omega))) | (with_reducible refine Ext.trans ?_ (by with_reducible assumption))))⟩

theorem tscale_c {kv v : Value} {k : Z} {t : T} {w : World} {X Y : Nat → Prop} {N : Nat} (hk : Zi w X kv k) (h : Tv w Y v t) (hN : N ≤ 34359738368) (sk : k.mag.length ≤ N) (s : t.sz N) :
    Calls Tryz.prog 42 #[kv, v] w fun e w' => ∃ r, e = .returned r ∧ Tv w' (w.heap.size ≤ ·) r (ct (sc k.v (vl t.ps)) (k.v * t.k.v)) ∧ Ext w w' :=
  (tscale_f hk h hN sk s).mono fun _ _ ⟨r, e, h1, h2⟩ => ⟨r, e, h1.tv, h2⟩

theorem one_len (N : Nat) (h : 2 ≤ N) : (cz 1).mag.length ≤ N ∧ (cz (-1)).mag.length ≤ N := by
  rw [cz_len, cz_len]
  exact ⟨Nat.le_trans (zl_word (x := 1) (by omega)) h, Nat.le_trans (zl_word (x := -1) (by omega)) h⟩

set_option maxHeartbeats 800000 in
theorem tadd_f {av bv : Value} {a b : T} {w : World} {X Y : Nat → Prop} {N : Nat} (ha : Tv w X av a) (hb : Tv w Y bv b) (hN : N ≤ 34359738368) (h2N : 2 ≤ N) (sa : a.sz N) (sb : b.sz N) :
    Calls Tryz.prog 44 #[av, bv] w fun e w' => ∃ r, e = .returned r ∧ TvF w' w.heap.size r (ct (vl a.ps ++ vl b.ps) (a.k.v + b.k.v)) ∧ Ext w w' := by
  obtain ⟨A, c, AK, d, rfl, ha1, ha2⟩ := ha
  obtain ⟨B, c', BK, d', rfl, hb1, hb2⟩ := hb
  go_enter Tryz.func44, Tryz.ntmps44
  go_wp2_with fail
  refine wp_region_seq 5 [(1, true), (3, true), (0, false), (2, false), (4, false), (5, false)] rfl (by kernel_rfl) (by intro _ _ d _ _ h; cases d <;> exact h) ?_
  (repeat (refine sq_take (v := ?_) rfl rfl ?_ ?_; rotate_left; (intro w' hx'; have hc' := hx'.cells.1; (try simp only [wcd] at hc'); go_simp; (first | done | with_reducible rfl)); (try simp only [Act.put, List.setIfInBounds_toArray, List.set_cons_zero, List.set_cons_succ])))
  (refine sq_loud rfl rfl fun K hK => ?_; go_simp)
  refine (zof_c 1 (by omega) (by omega) _).mono ?_
  rintro e w1 ⟨r1, rfl, hz1, hx1⟩
  (have hs1 := Ext.size hx1; (try simp only [wsz] at hs1))
  (refine hK _ _ (by repeat (first | with_reducible assumption | with_reducible exact Ext.refl _ | with_reducible refine Ext.drewN ?_ _ | with_reducible refine Ext.drew ?_ | with_reducible refine Ext.alloc ?_ _ | (with_reducible refine Ext.setCell ?_ ?_ _; rotate_left; (first | exact Nat.le_refl _ | (dsimp only; omega) | (simp only [wsz]; omega))) | (with_reducible refine Ext.trans ?_ (by with_reducible assumption)))) ?_; clear hK K; (try simp only [Act.put, List.setIfInBounds_toArray, List.set_cons_zero, List.set_cons_succ]))
  (refine sq_loud rfl rfl fun K hK => ?_; go_simp)
  refine (zof_c 1 (by omega) (by omega) _).mono ?_
  rintro e w2 ⟨r2, rfl, hz2, hx2⟩
  (have hs2 := Ext.size hx2; (try simp only [wsz] at hs2))
  (refine hK _ _ (by repeat (first | with_reducible assumption | with_reducible exact Ext.refl _ | with_reducible refine Ext.drewN ?_ _ | with_reducible refine Ext.drew ?_ | with_reducible refine Ext.alloc ?_ _ | (with_reducible refine Ext.setCell ?_ ?_ _; rotate_left; (first | exact Nat.le_refl _ | (dsimp only; omega) | (simp only [wsz]; omega))) | (with_reducible refine Ext.trans ?_ (by with_reducible assumption)))) ?_; clear hK K; (try simp only [Act.put, List.setIfInBounds_toArray, List.set_cons_zero, List.set_cons_succ]))
  (refine sq_loud rfl rfl fun K hK => ?_; go_simp)
  refine (sum_c (a := a) (b := b) (hz1.ext hx2) ⟨_, _, _, _, rfl, ha1.ext (by repeat (first | with_reducible assumption | with_reducible exact Ext.refl _ | with_reducible refine Ext.drewN ?_ _ | with_reducible refine Ext.drew ?_ | with_reducible refine Ext.alloc ?_ _ | (with_reducible refine Ext.setCell ?_ ?_ _; rotate_left; (first | exact Nat.le_refl _ | (dsimp only; omega) | (simp only [wsz]; omega))) | (with_reducible refine Ext.trans ?_ (by with_reducible assumption)))), ha2.ext (by repeat (first | with_reducible assumption | with_reducible exact Ext.refl _ | with_reducible refine Ext.drewN ?_ _ | with_reducible refine Ext.drew ?_ | with_reducible refine Ext.alloc ?_ _ | (with_reducible refine Ext.setCell ?_ ?_ _; rotate_left; (first | exact Nat.le_refl _ | (dsimp only; omega) | (simp only [wsz]; omega))) | (with_reducible refine Ext.trans ?_ (by with_reducible assumption))))⟩ hz2 ⟨_, _, _, _, rfl, hb1.ext (by repeat (first | with_reducible assumption | with_reducible exact Ext.refl _ | with_reducible refine Ext.drewN ?_ _ | with_reducible refine Ext.drew ?_ | with_reducible refine Ext.alloc ?_ _ | (with_reducible refine Ext.setCell ?_ ?_ _; rotate_left; (first | exact Nat.le_refl _ | (dsimp only; omega) | (simp only [wsz]; omega))) | (with_reducible refine Ext.trans ?_ (by with_reducible assumption)))), hb2.ext (by repeat (first | with_reducible assumption | with_reducible exact Ext.refl _ | with_reducible refine Ext.drewN ?_ _ | with_reducible refine Ext.drew ?_ | with_reducible refine Ext.alloc ?_ _ | (with_reducible refine Ext.setCell ?_ ?_ _; rotate_left; (first | exact Nat.le_refl _ | (dsimp only; omega) | (simp only [wsz]; omega))) | (with_reducible refine Ext.trans ?_ (by with_reducible assumption))))⟩ hN (one_len N h2N).1 sa (one_len N h2N).1 sb).mono ?_
  rw [nf_add]
  rintro e w3 ⟨r, rfl, hF, hx3⟩
  have hF3 := hF
  obtain ⟨A1, c1, B1, d1, rfl, -, -, -⟩ := hF
  (have hs3 := Ext.size hx3; (try simp only [wsz] at hs3))
  have hb3 : Box w3 (w.heap.size + 1 + 1) 27 #[.slice none 0 0, .bool false, .slice none 0 0] := (by repeat (first | with_reducible assumption | with_reducible exact Box.new _ _ _ | (with_reducible refine Box.new_at _ _ _ ?_; (simp only [wsz]; done)) | with_reducible refine Box.drewN ?_ _ | with_reducible refine Box.drew ?_ | with_reducible refine Box.alloc ?_ _ | with_reducible apply Box.drewN | with_reducible apply Box.drew | with_reducible apply Box.alloc | with_reducible refine Box.set_ ?_ _ _ | (with_reducible refine Box.far ?_ ?_ _; rotate_left; (simp only [ne_eq]; omega)) | (with_reducible refine Box.ext ?_ (by with_reducible assumption)) | (refine Box.new_at _ _ _ ?_; simp only [wsz]; done)))
  have hb3r := hb3.rules
  have hb3l := hb3.lt
  (refine hK _ _ (by repeat (first | with_reducible assumption | with_reducible exact Ext.refl _ | with_reducible refine Ext.drewN ?_ _ | with_reducible refine Ext.drew ?_ | with_reducible refine Ext.alloc ?_ _ | (with_reducible refine Ext.setCell ?_ ?_ _; rotate_left; (first | exact Nat.le_refl _ | (dsimp only; omega) | (simp only [wsz]; omega))) | (with_reducible refine Ext.trans ?_ (by with_reducible assumption)))) ?_; clear hK K; (try simp only [Act.put, List.setIfInBounds_toArray, List.set_cons_zero, List.set_cons_succ]))
  (repeat (refine sq_take (v := ?_) rfl rfl ?_ ?_; rotate_left; (intro w' hx'; have hc' := hx'.cells.1; (try simp only [wcd] at hc'); go_simp; (first | done | with_reducible rfl)); (try simp only [Act.put, List.setIfInBounds_toArray, List.set_cons_zero, List.set_cons_succ])))
  (refine sq_last rfl rfl fun K hK => ?_; go_simp; refine hK _ _ ?_; clear hK K)
  go_wp2_with fail
  (refine bodyPost_ret (v := ?_) ?_ rfl ?_; rotate_left; (simp only [results, Tryz.results44]; go_simp; (first | done | with_reducible rfl)))
  exact ⟨_, rfl, (hF3.keep (by repeat (first | with_reducible exact Kp.refl _ | with_reducible refine Kp.drewN ?_ _ | with_reducible refine Kp.drew ?_ | with_reducible refine Kp.alloc ?_ _ | (with_reducible refine Kp.setCell ?_ ?_ _; rotate_left; (first | (dsimp only; omega) | (simp only [wsz]; omega))) | (with_reducible exact Kp.of_ext (by with_reducible assumption)) | (with_reducible refine Kp.ext ?_ (by with_reducible assumption))))).lower (by first | omega | (simp only [wsz]; omega)), (by repeat (first | with_reducible assumption | with_reducible exact Ext.refl _ | with_reducible refine Ext.drewN ?_ _ | with_reducible refine Ext.drew ?_ | with_reducible refine Ext.alloc ?_ _ | (with_reducible refine Ext.setCell ?_ ?_ _; rotate_left; (first | exact Nat.le_refl _ | (dsimp only; omega) | (simp only [wsz]; omega))) | (with_reducible refine Ext.trans ?_ (by with_reducible assumption))))⟩

theorem tadd_c {av bv : Value} {a b : T} {w : World} {X Y : Nat → Prop} {N : Nat} (ha : Tv w X av a) (hb : Tv w Y bv b) (hN : N ≤ 34359738368) (h2N : 2 ≤ N) (sa : a.sz N) (sb : b.sz N) :
    Calls Tryz.prog 44 #[av, bv] w fun e w' => ∃ r, e = .returned r ∧ Tv w' (w.heap.size ≤ ·) r (ct (vl a.ps ++ vl b.ps) (a.k.v + b.k.v)) ∧ Ext w w' :=
  (tadd_f ha hb hN h2N sa sb).mono fun _ _ ⟨r, e, h1, h2⟩ => ⟨r, e, h1.tv, h2⟩

set_option maxHeartbeats 800000 in
theorem tsub_f {av bv : Value} {a b : T} {w : World} {X Y : Nat → Prop} {N : Nat} (ha : Tv w X av a) (hb : Tv w Y bv b) (hN : N ≤ 34359738368) (h2N : 2 ≤ N) (sa : a.sz N) (sb : b.sz N) :
    Calls Tryz.prog 85 #[av, bv] w fun e w' => ∃ r, e = .returned r ∧ TvF w' w.heap.size r (ct (vl a.ps ++ sc (-1) (vl b.ps)) (a.k.v - b.k.v)) ∧ Ext w w' := by
  obtain ⟨A, c, AK, d, rfl, ha1, ha2⟩ := ha
  obtain ⟨B, c', BK, d', rfl, hb1, hb2⟩ := hb
  go_enter Tryz.func85, Tryz.ntmps85
  go_wp2_with fail
  refine wp_region_seq 5 [(1, true), (3, true), (0, false), (2, false), (4, false), (5, false)] rfl (by kernel_rfl) (by intro _ _ d _ _ h; cases d <;> exact h) ?_
  (repeat (refine sq_take (v := ?_) rfl rfl ?_ ?_; rotate_left; (intro w' hx'; have hc' := hx'.cells.1; (try simp only [wcd] at hc'); go_simp; (first | done | with_reducible rfl)); (try simp only [Act.put, List.setIfInBounds_toArray, List.set_cons_zero, List.set_cons_succ])))
  (refine sq_loud rfl rfl fun K hK => ?_; go_simp)
  refine (zof_c 1 (by omega) (by omega) _).mono ?_
  rintro e w1 ⟨r1, rfl, hz1, hx1⟩
  (have hs1 := Ext.size hx1; (try simp only [wsz] at hs1))
  (refine hK _ _ (by repeat (first | with_reducible assumption | with_reducible exact Ext.refl _ | with_reducible refine Ext.drewN ?_ _ | with_reducible refine Ext.drew ?_ | with_reducible refine Ext.alloc ?_ _ | (with_reducible refine Ext.setCell ?_ ?_ _; rotate_left; (first | exact Nat.le_refl _ | (dsimp only; omega) | (simp only [wsz]; omega))) | (with_reducible refine Ext.trans ?_ (by with_reducible assumption)))) ?_; clear hK K; (try simp only [Act.put, List.setIfInBounds_toArray, List.set_cons_zero, List.set_cons_succ]))
  (refine sq_loud rfl rfl fun K hK => ?_; go_simp)
  refine (zof_c (-1) (by omega) (by omega) _).mono ?_
  rintro e w2 ⟨r2, rfl, hz2, hx2⟩
  (have hs2 := Ext.size hx2; (try simp only [wsz] at hs2))
  (refine hK _ _ (by repeat (first | with_reducible assumption | with_reducible exact Ext.refl _ | with_reducible refine Ext.drewN ?_ _ | with_reducible refine Ext.drew ?_ | with_reducible refine Ext.alloc ?_ _ | (with_reducible refine Ext.setCell ?_ ?_ _; rotate_left; (first | exact Nat.le_refl _ | (dsimp only; omega) | (simp only [wsz]; omega))) | (with_reducible refine Ext.trans ?_ (by with_reducible assumption)))) ?_; clear hK K; (try simp only [Act.put, List.setIfInBounds_toArray, List.set_cons_zero, List.set_cons_succ]))
  (refine sq_loud rfl rfl fun K hK => ?_; go_simp)
  refine (sum_c (a := a) (b := b) (hz1.ext hx2) ⟨_, _, _, _, rfl, ha1.ext (by repeat (first | with_reducible assumption | with_reducible exact Ext.refl _ | with_reducible refine Ext.drewN ?_ _ | with_reducible refine Ext.drew ?_ | with_reducible refine Ext.alloc ?_ _ | (with_reducible refine Ext.setCell ?_ ?_ _; rotate_left; (first | exact Nat.le_refl _ | (dsimp only; omega) | (simp only [wsz]; omega))) | (with_reducible refine Ext.trans ?_ (by with_reducible assumption)))), ha2.ext (by repeat (first | with_reducible assumption | with_reducible exact Ext.refl _ | with_reducible refine Ext.drewN ?_ _ | with_reducible refine Ext.drew ?_ | with_reducible refine Ext.alloc ?_ _ | (with_reducible refine Ext.setCell ?_ ?_ _; rotate_left; (first | exact Nat.le_refl _ | (dsimp only; omega) | (simp only [wsz]; omega))) | (with_reducible refine Ext.trans ?_ (by with_reducible assumption))))⟩ hz2 ⟨_, _, _, _, rfl, hb1.ext (by repeat (first | with_reducible assumption | with_reducible exact Ext.refl _ | with_reducible refine Ext.drewN ?_ _ | with_reducible refine Ext.drew ?_ | with_reducible refine Ext.alloc ?_ _ | (with_reducible refine Ext.setCell ?_ ?_ _; rotate_left; (first | exact Nat.le_refl _ | (dsimp only; omega) | (simp only [wsz]; omega))) | (with_reducible refine Ext.trans ?_ (by with_reducible assumption)))), hb2.ext (by repeat (first | with_reducible assumption | with_reducible exact Ext.refl _ | with_reducible refine Ext.drewN ?_ _ | with_reducible refine Ext.drew ?_ | with_reducible refine Ext.alloc ?_ _ | (with_reducible refine Ext.setCell ?_ ?_ _; rotate_left; (first | exact Nat.le_refl _ | (dsimp only; omega) | (simp only [wsz]; omega))) | (with_reducible refine Ext.trans ?_ (by with_reducible assumption))))⟩ hN (one_len N h2N).1 sa (one_len N h2N).2 sb).mono ?_
  rw [nf_sub]
  rintro e w3 ⟨r, rfl, hF, hx3⟩
  have hF3 := hF
  obtain ⟨A1, c1, B1, d1, rfl, -, -, -⟩ := hF
  (have hs3 := Ext.size hx3; (try simp only [wsz] at hs3))
  have hb3 : Box w3 (w.heap.size + 1 + 1) 27 #[.slice none 0 0, .bool false, .slice none 0 0] := (by repeat (first | with_reducible assumption | with_reducible exact Box.new _ _ _ | (with_reducible refine Box.new_at _ _ _ ?_; (simp only [wsz]; done)) | with_reducible refine Box.drewN ?_ _ | with_reducible refine Box.drew ?_ | with_reducible refine Box.alloc ?_ _ | with_reducible apply Box.drewN | with_reducible apply Box.drew | with_reducible apply Box.alloc | with_reducible refine Box.set_ ?_ _ _ | (with_reducible refine Box.far ?_ ?_ _; rotate_left; (simp only [ne_eq]; omega)) | (with_reducible refine Box.ext ?_ (by with_reducible assumption)) | (refine Box.new_at _ _ _ ?_; simp only [wsz]; done)))
  have hb3r := hb3.rules
  have hb3l := hb3.lt
  (refine hK _ _ (by repeat (first | with_reducible assumption | with_reducible exact Ext.refl _ | with_reducible refine Ext.drewN ?_ _ | with_reducible refine Ext.drew ?_ | with_reducible refine Ext.alloc ?_ _ | (with_reducible refine Ext.setCell ?_ ?_ _; rotate_left; (first | exact Nat.le_refl _ | (dsimp only; omega) | (simp only [wsz]; omega))) | (with_reducible refine Ext.trans ?_ (by with_reducible assumption)))) ?_; clear hK K; (try simp only [Act.put, List.setIfInBounds_toArray, List.set_cons_zero, List.set_cons_succ]))
  (repeat (refine sq_take (v := ?_) rfl rfl ?_ ?_; rotate_left; (intro w' hx'; have hc' := hx'.cells.1; (try simp only [wcd] at hc'); go_simp; (first | done | with_reducible rfl)); (try simp only [Act.put, List.setIfInBounds_toArray, List.set_cons_zero, List.set_cons_succ])))
  (refine sq_last rfl rfl fun K hK => ?_; go_simp; refine hK _ _ ?_; clear hK K)
  go_wp2_with fail
  (refine bodyPost_ret (v := ?_) ?_ rfl ?_; rotate_left; (simp only [results, Tryz.results85]; go_simp; (first | done | with_reducible rfl)))
  exact ⟨_, rfl, (hF3.keep (by repeat (first | with_reducible exact Kp.refl _ | with_reducible refine Kp.drewN ?_ _ | with_reducible refine Kp.drew ?_ | with_reducible refine Kp.alloc ?_ _ | (with_reducible refine Kp.setCell ?_ ?_ _; rotate_left; (first | (dsimp only; omega) | (simp only [wsz]; omega))) | (with_reducible exact Kp.of_ext (by with_reducible assumption)) | (with_reducible refine Kp.ext ?_ (by with_reducible assumption))))).lower (by first | omega | (simp only [wsz]; omega)), (by repeat (first | with_reducible assumption | with_reducible exact Ext.refl _ | with_reducible refine Ext.drewN ?_ _ | with_reducible refine Ext.drew ?_ | with_reducible refine Ext.alloc ?_ _ | (with_reducible refine Ext.setCell ?_ ?_ _; rotate_left; (first | exact Nat.le_refl _ | (dsimp only; omega) | (simp only [wsz]; omega))) | (with_reducible refine Ext.trans ?_ (by with_reducible assumption))))⟩

theorem tsub_c {av bv : Value} {a b : T} {w : World} {X Y : Nat → Prop} {N : Nat} (ha : Tv w X av a) (hb : Tv w Y bv b) (hN : N ≤ 34359738368) (h2N : 2 ≤ N) (sa : a.sz N) (sb : b.sz N) :
    Calls Tryz.prog 85 #[av, bv] w fun e w' => ∃ r, e = .returned r ∧ Tv w' (w.heap.size ≤ ·) r (ct (vl a.ps ++ sc (-1) (vl b.ps)) (a.k.v - b.k.v)) ∧ Ext w w' :=
  (tsub_f ha hb hN h2N sa sb).mono fun _ _ ⟨r, e, h1, h2⟩ => ⟨r, e, h1.tv, h2⟩

end Go.Proofs.YthmjgbkakjpfkaaGreatDoor

namespace Go.Proofs.YthmjgbkakjpfkaaGreatDoor
open Go.RowKit Go.Shelf

theorem wo_sub {x : Int} {l : List (Int × Z)} {p : Int × Z} (h : p ∈ wo x l) : p ∈ l := (List.mem_filter.1 h).1
theorem wo_len (x : Int) (l : List (Int × Z)) : (wo x l).length ≤ l.length := List.length_filter_le _ _
/-- The term without a variable. -/
def T.wo (t : T) (x : Int) : T := ⟨Go.Proofs.YthmjgbkakjpfkaaGreatDoor.wo x t.ps, t.k⟩
theorem T.wo_sz {t : T} {x : Int} {N : Nat} (h : t.sz N) : (t.wo x).sz N := ⟨Nat.le_trans (wo_len x t.ps) h.1, fun p hp => h.2.1 p (wo_sub hp), h.2.2⟩

set_option maxHeartbeats 1600000 in
theorem twithout_f {v : Value} {t : T} {w : World} {X : Nat → Prop} {N : Nat} {x : Int} (h : Tv w X v t) (hN : N ≤ 1073741824) (hs : t.sz N) :
    Calls Tryz.prog 126 #[v, .int .i64 x] w fun e w' => ∃ r, e = .returned r ∧ TvF w' w.heap.size r (t.wo x).nf ∧ Ext w w' := by
  have hs2 := T.wo_sz (x := x) hs
  obtain ⟨A, c, B, d, rfl, h1, h2⟩ := h
  obtain ⟨s1, s2, s3⟩ := hs
  go_enter Tryz.func126, Tryz.ntmps126
  go_wp2_with fail
  refine wp_named fun W hW => ?_
  have b2 : Box W (w.heap.size) 27 #[.slice A t.ps.length c, .bool t.k.neg, .slice B t.k.mag.length d] := by rw [hW]; exact (by repeat (first | with_reducible assumption | with_reducible exact Box.new _ _ _ | (with_reducible refine Box.new_at _ _ _ ?_; (simp only [wsz]; done)) | with_reducible refine Box.drewN ?_ _ | with_reducible refine Box.drew ?_ | with_reducible refine Box.alloc ?_ _ | with_reducible apply Box.drewN | with_reducible apply Box.drew | with_reducible apply Box.alloc | with_reducible refine Box.set_ ?_ _ _ | (with_reducible refine Box.far ?_ ?_ _; rotate_left; (simp only [ne_eq]; omega)) | (with_reducible refine Box.ext ?_ (by with_reducible assumption)) | (refine Box.new_at _ _ _ ?_; simp only [wsz]; done)))
  have b3 : Box W (w.heap.size + 1) 3 #[.int .i64 x] := by rw [hW]; exact (by repeat (first | with_reducible assumption | with_reducible exact Box.new _ _ _ | (with_reducible refine Box.new_at _ _ _ ?_; (simp only [wsz]; done)) | with_reducible refine Box.drewN ?_ _ | with_reducible refine Box.drew ?_ | with_reducible refine Box.alloc ?_ _ | with_reducible apply Box.drewN | with_reducible apply Box.drew | with_reducible apply Box.alloc | with_reducible refine Box.set_ ?_ _ _ | (with_reducible refine Box.far ?_ ?_ _; rotate_left; (simp only [ne_eq]; omega)) | (with_reducible refine Box.ext ?_ (by with_reducible assumption)) | (refine Box.new_at _ _ _ ?_; simp only [wsz]; done)))
  have b4 : Box W (w.heap.size + 1 + 1) 27 #[.slice none 0 0, .bool false, .slice none 0 0] := by rw [hW]; exact (by repeat (first | with_reducible assumption | with_reducible exact Box.new _ _ _ | (with_reducible refine Box.new_at _ _ _ ?_; (simp only [wsz]; done)) | with_reducible refine Box.drewN ?_ _ | with_reducible refine Box.drew ?_ | with_reducible refine Box.alloc ?_ _ | with_reducible apply Box.drewN | with_reducible apply Box.drew | with_reducible apply Box.alloc | with_reducible refine Box.set_ ?_ _ _ | (with_reducible refine Box.far ?_ ?_ _; rotate_left; (simp only [ne_eq]; omega)) | (with_reducible refine Box.ext ?_ (by with_reducible assumption)) | (refine Box.new_at _ _ _ ?_; simp only [wsz]; done)))
  have hE : Ext w W := by rw [hW]; exact (by repeat (first | with_reducible assumption | with_reducible exact Ext.refl _ | with_reducible refine Ext.drewN ?_ _ | with_reducible refine Ext.drew ?_ | with_reducible refine Ext.alloc ?_ _ | (with_reducible refine Ext.setCell ?_ ?_ _; rotate_left; (first | exact Nat.le_refl _ | (dsimp only; omega) | (simp only [wsz]; omega))) | (with_reducible refine Ext.trans ?_ (by with_reducible assumption))))
  clear hW
  refine wp_region_oe [9] (.quiet 0 (.quiet 1 (.quiet 3 (.quiet 5 (.quiet 6 (.loud 2 (.loud 4 (.quiet 7 (.loud 8 (.late [9])))))))))) rfl (by kernel_rfl) (by intro _ _ d _ _ h; cases d <;> exact h) ?_
  obtain ⟨V, hV⟩ : ∃ V, V = W.drew := ⟨_, rfl⟩
  have hVx : Ext W V := by rw [hV]; exact (by repeat (first | with_reducible assumption | with_reducible exact Ext.refl _ | with_reducible refine Ext.drewN ?_ _ | with_reducible refine Ext.drew ?_ | with_reducible refine Ext.alloc ?_ _ | (with_reducible refine Ext.setCell ?_ ?_ _; rotate_left; (first | exact Nat.le_refl _ | (dsimp only; omega) | (simp only [wsz]; omega))) | (with_reducible refine Ext.trans ?_ (by with_reducible assumption))))
  rw [← hV]
  clear hV
  have b2V := b2.ext hVx
  have b3V := b3.ext hVx
  have b4V := b4.ext hVx
  have b2r := b2V.rules
  have b2l := b2V.lt
  have b3l := b3V.lt
  have b4l := b4V.lt
  have hEV := hE.trans hVx
  (repeat (refine oe_take (v := ?_) rfl rfl ?_ ?_; rotate_left; (intro w' hx'; have hc' := hx'.cells.1; (try simp only [wcd] at hc'); go_simp; (first | done | with_reducible rfl)); (try simp only [Act.put, List.setIfInBounds_toArray, List.set_cons_zero, List.set_cons_succ])))
  (refine oe_loud rfl rfl fun K hK => ?_; go_simp)
  refine (clonep_c (h1.below.ext hEV) (by omega)).mono ?_
  rintro e w1 ⟨v1, rfl, hO, -, hx1⟩
  have hO := hO.widen (Z' := fun b => b < V.heap.size) fun b hb _ => hb.2
  obtain ⟨A1, c1, rfl, hj⟩ := Own.sl hO (by omega) (X := fun _ => True) (fun _ _ => trivial)
  clear hj
  have hrow := hO.row
  (have hs1 := Ext.size hx1; (try simp only [wsz] at hs1))
  have b3' := b3V.ext hx1
  have hg3 : w1.cell? ⟨w.heap.size + 1, 0, none⟩ = some (.int .i64 x) := by rw [b3'.cell]; rfl
  refine hK _ _ (by repeat (first | with_reducible assumption | with_reducible exact Ext.refl _ | with_reducible refine Ext.drewN ?_ _ | with_reducible refine Ext.drew ?_ | with_reducible refine Ext.alloc ?_ _ | (with_reducible refine Ext.setCell ?_ ?_ _; rotate_left; (first | exact Nat.le_refl _ | (dsimp only; omega) | (simp only [wsz]; omega))) | (with_reducible refine Ext.trans ?_ (by with_reducible assumption)))) ?_
  clear hK K
  (try simp only [Act.put, List.setIfInBounds_toArray, List.set_cons_zero, List.set_cons_succ])
  (refine oe_loud rfl rfl fun K hK => ?_; go_simp)
  refine (delf_c hO hg3 b3'.lt (fun e => by have := (hrow _ e).1; omega) (by omega)).mono ?_
  rintro e w2 ⟨v2, rfl, hO2, hgr⟩
  obtain ⟨A2, c2, rfl, hP2⟩ := Own.sl hO2 (by omega) (X := fun _ => True) (fun _ _ => trivial)
  have hx2 : Ext V w2 := Ext.grown hx1 hgr fun k hk => (hrow k hk).1
  refine hK _ _ hx2 ?_
  clear hK K
  (try simp only [Act.put, List.setIfInBounds_toArray, List.set_cons_zero, List.set_cons_succ])
  (repeat (refine oe_take (v := ?_) rfl rfl ?_ ?_; rotate_left; (intro w' hx'; have hc' := hx'.cells.1; (try simp only [wcd] at hc'); go_simp; (first | done | with_reducible rfl)); (try simp only [Act.put, List.setIfInBounds_toArray, List.set_cons_zero, List.set_cons_succ])))
  (refine oe_loud rfl rfl fun K hK => ?_; go_simp)
  refine (tnorm_f (t := t.wo x) (N := N) ⟨_, _, _, _, rfl, hP2, (h2.widen (Y := fun _ => True) fun _ _ _ => trivial).ext (hEV.trans hx2)⟩ (by omega) hs2).mono ?_
  rintro e w3 ⟨r3, rfl, hF, hx3⟩
  have hF3 := hF
  obtain ⟨A3, c3, B3, d3, rfl, -, -, -⟩ := hF
  have hs2' := hx2.size
  have hs3 := hx3.size
  have hx3V := hx2.trans hx3
  refine hK _ _ hx3V ?_
  clear hK K
  (try simp only [Act.put, List.setIfInBounds_toArray, List.set_cons_zero, List.set_cons_succ])
  refine oe_late ?_
  have b4' := b4V.ext hx3V
  have b4r := b4'.rules
  have b4l' := b4'.lt
  clear b2r
  (refine sh_late rfl rfl fun K hK => ?_; go_simp; refine hK _ _ ?_; clear hK K)
  refine sh_end ?_
  have hE3 := hEV.trans hx3V
  go_wp2_with fail
  (refine bodyPost_ret (v := ?_) ?_ rfl ?_; rotate_left; (simp only [results, Tryz.results126]; go_simp; (first | done | with_reducible rfl)))
  refine ⟨_, rfl, (TvF.keep (TvF.lower (B' := w.heap.size + 1 + 1 + 1) hF3 (by omega)) (by repeat (first | with_reducible exact Kp.refl _ | with_reducible refine Kp.drewN ?_ _ | with_reducible refine Kp.drew ?_ | with_reducible refine Kp.alloc ?_ _ | (with_reducible refine Kp.setCell ?_ ?_ _; rotate_left; (first | (dsimp only; omega) | (simp only [wsz]; omega))) | (with_reducible exact Kp.of_ext (by with_reducible assumption)) | (with_reducible refine Kp.ext ?_ (by with_reducible assumption))))).lower (by omega), ?_⟩
  exact ((hE3.setCell (by simp only; omega) _).setCell (by simp only; omega) _).setCell (by simp only; omega) _

theorem twithout_c {v : Value} {t : T} {w : World} {X : Nat → Prop} {N : Nat} {x : Int} (h : Tv w X v t) (hN : N ≤ 1073741824) (hs : t.sz N) :
    Calls Tryz.prog 126 #[v, .int .i64 x] w fun e w' => ∃ r, e = .returned r ∧ Tv w' (w.heap.size ≤ ·) r (t.wo x).nf ∧ Ext w w' :=
  (twithout_f h hN hs).mono fun _ _ ⟨r, e, h1, h2⟩ => ⟨r, e, h1.tv, h2⟩

/-- A term with another one in a variable's place. -/
def T.put (t : T) (x : Int) (u : T) : T := ct (cn (vl (Go.Proofs.YthmjgbkakjpfkaaGreatDoor.wo x t.ps)) ++ sc (cf (vl t.ps) x) (vl u.ps)) (t.k.v + cf (vl t.ps) x * u.k.v)
theorem put_eq (t u : T) (x : Int) : ct (sc (cz 1).v (vl (t.wo x).nf.ps) ++ sc (cz (cf (vl t.ps) x)).v (vl u.ps)) ((cz 1).v * (t.wo x).nf.k.v + (cz (cf (vl t.ps) x)).v * u.k.v) = t.put x u := by
  have e1 : vl (t.wo x).nf.ps = cn (vl (wo x t.ps)) := vl_cl _
  have e2 : (t.wo x).nf.k.v = t.k.v := cz_v _
  rw [e1, e2, cz_v, cz_v, sc_one, Int.one_mul]
  rfl

set_option maxHeartbeats 1600000 in
theorem tput_f {v uv : Value} {t u : T} {w : World} {X Y : Nat → Prop} {N : Nat} {x : Int} (h : Tv w X v t) (hu : Tv w Y uv u) (hN : N ≤ 1073741824) (h2N : 2 ≤ N) (hs : t.sz N) (su : u.sz N) :
    Calls Tryz.prog 87 #[v, .int .i64 x, uv] w fun e w' => ∃ r, e = .returned r ∧ TvF w' w.heap.size r (t.put x u) ∧ Ext w w' := by
  have hlb := h.lb
  have hsn := nf_sz (T.wo_sz (x := x) hs) ⟨fun p hp => hlb.1 p (wo_sub hp), hlb.2⟩
  have hcl : zl (cf (vl t.ps) x) ≤ N + N := by
    have := zl_cf (zl_vl hlb.1 hs.2.1) x
    rw [vl_len] at this
    have := hs.1
    omega
  have htv := h; have huv := hu
  obtain ⟨A, c, B, d, rfl, h1, h2⟩ := h
  obtain ⟨UA, uc, UB, ud, rfl, u1, u2⟩ := hu
  go_enter Tryz.func87, Tryz.ntmps87
  go_wp2_with fail
  refine wp_named fun W hW => ?_
  have b3 : Box W (w.heap.size) 27 #[.slice A t.ps.length c, .bool t.k.neg, .slice B t.k.mag.length d] := by rw [hW]; exact (by repeat (first | with_reducible assumption | with_reducible exact Box.new _ _ _ | (with_reducible refine Box.new_at _ _ _ ?_; (simp only [wsz]; done)) | with_reducible refine Box.drewN ?_ _ | with_reducible refine Box.drew ?_ | with_reducible refine Box.alloc ?_ _ | with_reducible apply Box.drewN | with_reducible apply Box.drew | with_reducible apply Box.alloc | with_reducible refine Box.set_ ?_ _ _ | (with_reducible refine Box.far ?_ ?_ _; rotate_left; (simp only [ne_eq]; omega)) | (with_reducible refine Box.ext ?_ (by with_reducible assumption)) | (refine Box.new_at _ _ _ ?_; simp only [wsz]; done)))
  have b5 : Box W (w.heap.size + 1) 27 #[.slice UA u.ps.length uc, .bool u.k.neg, .slice UB u.k.mag.length ud] := by rw [hW]; exact (by repeat (first | with_reducible assumption | with_reducible exact Box.new _ _ _ | (with_reducible refine Box.new_at _ _ _ ?_; (simp only [wsz]; done)) | with_reducible refine Box.drewN ?_ _ | with_reducible refine Box.drew ?_ | with_reducible refine Box.alloc ?_ _ | with_reducible apply Box.drewN | with_reducible apply Box.drew | with_reducible apply Box.alloc | with_reducible refine Box.set_ ?_ _ _ | (with_reducible refine Box.far ?_ ?_ _; rotate_left; (simp only [ne_eq]; omega)) | (with_reducible refine Box.ext ?_ (by with_reducible assumption)) | (refine Box.new_at _ _ _ ?_; simp only [wsz]; done)))
  have b6 : Box W (w.heap.size + 1 + 1) 27 #[.slice none 0 0, .bool false, .slice none 0 0] := by rw [hW]; exact (by repeat (first | with_reducible assumption | with_reducible exact Box.new _ _ _ | (with_reducible refine Box.new_at _ _ _ ?_; (simp only [wsz]; done)) | with_reducible refine Box.drewN ?_ _ | with_reducible refine Box.drew ?_ | with_reducible refine Box.alloc ?_ _ | with_reducible apply Box.drewN | with_reducible apply Box.drew | with_reducible apply Box.alloc | with_reducible refine Box.set_ ?_ _ _ | (with_reducible refine Box.far ?_ ?_ _; rotate_left; (simp only [ne_eq]; omega)) | (with_reducible refine Box.ext ?_ (by with_reducible assumption)) | (refine Box.new_at _ _ _ ?_; simp only [wsz]; done)))
  have hE : Ext w W := by rw [hW]; exact (by repeat (first | with_reducible assumption | with_reducible exact Ext.refl _ | with_reducible refine Ext.drewN ?_ _ | with_reducible refine Ext.drew ?_ | with_reducible refine Ext.alloc ?_ _ | (with_reducible refine Ext.setCell ?_ ?_ _; rotate_left; (first | exact Nat.le_refl _ | (dsimp only; omega) | (simp only [wsz]; omega))) | (with_reducible refine Ext.trans ?_ (by with_reducible assumption))))
  clear hW
  have b3r := b3.rules
  have b5r := b5.rules
  have b3l := b3.lt
  have b5l := b5.lt
  have b6l := b6.lt
  refine wp_region_seq 9 [(1, true), (2, true), (4, true), (5, true), (7, true), (0, false), (3, false), (6, false), (8, false), (9, false)] rfl (by kernel_rfl) (by intro _ _ d _ _ h; cases d <;> exact h) ?_
  (repeat (refine sq_take (v := ?_) rfl rfl ?_ ?_; rotate_left; (intro w' hx'; have hc' := hx'.cells.1; (try simp only [wcd] at hc'); go_simp; (first | done | with_reducible rfl)); (try simp only [Act.put, List.setIfInBounds_toArray, List.set_cons_zero, List.set_cons_succ])))
  (refine sq_loud rfl rfl fun K hK => ?_; go_simp)
  refine (zof_c 1 (by omega) (by omega) _).mono ?_
  rintro e w1 ⟨r1, rfl, hz1, hx1⟩
  (refine hK _ _ (by repeat (first | with_reducible assumption | with_reducible exact Ext.refl _ | with_reducible refine Ext.drewN ?_ _ | with_reducible refine Ext.drew ?_ | with_reducible refine Ext.alloc ?_ _ | (with_reducible refine Ext.setCell ?_ ?_ _; rotate_left; (first | exact Nat.le_refl _ | (dsimp only; omega) | (simp only [wsz]; omega))) | (with_reducible refine Ext.trans ?_ (by with_reducible assumption)))) ?_; clear hK K; (try simp only [Act.put, List.setIfInBounds_toArray, List.set_cons_zero, List.set_cons_succ]))
  (refine sq_loud rfl rfl fun K hK => ?_; go_simp)
  refine (twithout_c (x := x) (htv.ext (hE.trans (by repeat (first | with_reducible assumption | with_reducible exact Ext.refl _ | with_reducible refine Ext.drewN ?_ _ | with_reducible refine Ext.drew ?_ | with_reducible refine Ext.alloc ?_ _ | (with_reducible refine Ext.setCell ?_ ?_ _; rotate_left; (first | exact Nat.le_refl _ | (dsimp only; omega) | (simp only [wsz]; omega))) | (with_reducible refine Ext.trans ?_ (by with_reducible assumption)))))) (by omega) hs).mono ?_
  rintro e w2 ⟨r2, rfl, ht2, hx2⟩
  (refine hK _ _ (by repeat (first | with_reducible assumption | with_reducible exact Ext.refl _ | with_reducible refine Ext.drewN ?_ _ | with_reducible refine Ext.drew ?_ | with_reducible refine Ext.alloc ?_ _ | (with_reducible refine Ext.setCell ?_ ?_ _; rotate_left; (first | exact Nat.le_refl _ | (dsimp only; omega) | (simp only [wsz]; omega))) | (with_reducible refine Ext.trans ?_ (by with_reducible assumption)))) ?_; clear hK K; (try simp only [Act.put, List.setIfInBounds_toArray, List.set_cons_zero, List.set_cons_succ]))
  (refine sq_loud rfl rfl fun K hK => ?_; go_simp)
  refine (tcoef_c (x := x) (htv.ext (hE.trans (by repeat (first | with_reducible assumption | with_reducible exact Ext.refl _ | with_reducible refine Ext.drewN ?_ _ | with_reducible refine Ext.drew ?_ | with_reducible refine Ext.alloc ?_ _ | (with_reducible refine Ext.setCell ?_ ?_ _; rotate_left; (first | exact Nat.le_refl _ | (dsimp only; omega) | (simp only [wsz]; omega))) | (with_reducible refine Ext.trans ?_ (by with_reducible assumption)))))) (by omega) hs).mono ?_
  rintro e w3 ⟨r3, rfl, hz3, hx3⟩
  (refine hK _ _ (by repeat (first | with_reducible assumption | with_reducible exact Ext.refl _ | with_reducible refine Ext.drewN ?_ _ | with_reducible refine Ext.drew ?_ | with_reducible refine Ext.alloc ?_ _ | (with_reducible refine Ext.setCell ?_ ?_ _; rotate_left; (first | exact Nat.le_refl _ | (dsimp only; omega) | (simp only [wsz]; omega))) | (with_reducible refine Ext.trans ?_ (by with_reducible assumption)))) ?_; clear hK K; (try simp only [Act.put, List.setIfInBounds_toArray, List.set_cons_zero, List.set_cons_succ]))
  (refine sq_loud rfl rfl fun K hK => ?_; go_simp)
  refine (sum_c (N := N + N) ((hz1.ext hx2).ext hx3) (ht2.ext hx3) hz3 (huv.ext (hE.trans (by repeat (first | with_reducible assumption | with_reducible exact Ext.refl _ | with_reducible refine Ext.drewN ?_ _ | with_reducible refine Ext.drew ?_ | with_reducible refine Ext.alloc ?_ _ | (with_reducible refine Ext.setCell ?_ ?_ _; rotate_left; (first | exact Nat.le_refl _ | (dsimp only; omega) | (simp only [wsz]; omega))) | (with_reducible refine Ext.trans ?_ (by with_reducible assumption)))))) (by omega) (Nat.le_trans (one_len N h2N).1 (by omega)) hsn (by rw [cz_len]; exact hcl) (su.mono (by omega))).mono ?_
  rw [put_eq]
  rintro e w4 ⟨r4, rfl, hF, hx4⟩
  have hF3 := hF
  obtain ⟨A4, c4, B4, d4, rfl, -, -, -⟩ := hF
  have b6' := (((b6.drew.ext hx1).ext hx2).ext hx3).ext hx4
  have b6r := b6'.rules
  have b6l' := b6'.lt
  have hs1 := hx1.size; have hs2 := hx2.size; have hs3 := hx3.size; have hs4 := hx4.size
  simp only [wsz] at hs1
  clear b3r b5r
  (refine hK _ _ (by repeat (first | with_reducible assumption | with_reducible exact Ext.refl _ | with_reducible refine Ext.drewN ?_ _ | with_reducible refine Ext.drew ?_ | with_reducible refine Ext.alloc ?_ _ | (with_reducible refine Ext.setCell ?_ ?_ _; rotate_left; (first | exact Nat.le_refl _ | (dsimp only; omega) | (simp only [wsz]; omega))) | (with_reducible refine Ext.trans ?_ (by with_reducible assumption)))) ?_; clear hK K; (try simp only [Act.put, List.setIfInBounds_toArray, List.set_cons_zero, List.set_cons_succ]))
  (repeat (refine sq_take (v := ?_) rfl rfl ?_ ?_; rotate_left; (intro w' hx'; have hc' := hx'.cells.1; (try simp only [wcd] at hc'); go_simp; (first | done | with_reducible rfl)); (try simp only [Act.put, List.setIfInBounds_toArray, List.set_cons_zero, List.set_cons_succ])))
  (refine sq_last rfl rfl fun K hK => ?_; go_simp; refine hK _ _ ?_; clear hK K)
  have hE4 : Ext w w4 := hE.trans (by repeat (first | with_reducible assumption | with_reducible exact Ext.refl _ | with_reducible refine Ext.drewN ?_ _ | with_reducible refine Ext.drew ?_ | with_reducible refine Ext.alloc ?_ _ | (with_reducible refine Ext.setCell ?_ ?_ _; rotate_left; (first | exact Nat.le_refl _ | (dsimp only; omega) | (simp only [wsz]; omega))) | (with_reducible refine Ext.trans ?_ (by with_reducible assumption))))
  go_wp2_with fail
  (refine bodyPost_ret (v := ?_) ?_ rfl ?_; rotate_left; (simp only [results, Tryz.results87]; go_simp; (first | done | with_reducible rfl)))
  refine ⟨_, rfl, (TvF.keep (TvF.lower (B' := w.heap.size + 1 + 1 + 1) hF3 (by omega)) (by repeat (first | with_reducible exact Kp.refl _ | with_reducible refine Kp.drewN ?_ _ | with_reducible refine Kp.drew ?_ | with_reducible refine Kp.alloc ?_ _ | (with_reducible refine Kp.setCell ?_ ?_ _; rotate_left; (first | (dsimp only; omega) | (simp only [wsz]; omega))) | (with_reducible exact Kp.of_ext (by with_reducible assumption)) | (with_reducible refine Kp.ext ?_ (by with_reducible assumption))))).lower (by omega), ?_⟩
  exact ((hE4.setCell (by simp only; omega) _).setCell (by simp only; omega) _).setCell (by simp only; omega) _

theorem tput_c {v uv : Value} {t u : T} {w : World} {X Y : Nat → Prop} {N : Nat} {x : Int} (h : Tv w X v t) (hu : Tv w Y uv u) (hN : N ≤ 1073741824) (h2N : 2 ≤ N) (hs : t.sz N) (su : u.sz N) :
    Calls Tryz.prog 87 #[v, .int .i64 x, uv] w fun e w' => ∃ r, e = .returned r ∧ Tv w' (w.heap.size ≤ ·) r (t.put x u) ∧ Ext w w' :=
  (tput_f h hu hN h2N hs su).mono fun _ _ ⟨r, e, h1, h2⟩ => ⟨r, e, h1.tv, h2⟩

end Go.Proofs.YthmjgbkakjpfkaaGreatDoor

namespace Go.Proofs.YthmjgbkakjpfkaaGreatDoor
open Go.RowKit Go.Shelf

/-- The world gets a name, inside a list of operations. -/
theorem wpl_named {P : Program} {ops : Array Oper} {Q : Exit → Act → World → Prop} {l : List Oper} {a : Act} {w : World} (h : ∀ W, W = w → wpList P ops Q l a W) : wpList P ops Q l a w := h w rfl
/-- append(l, m...) of parts. -/
theorem wpList_appps {w : World} {ops : Array Oper} {rest : List Oper} {o : Oper} {a : Act} {Q : Exit → Act → World → Prop} (s x : Operand) {Zp X : Nat → Prop} {base : Nat} {v : Value} {l m : List (Int × Z)} {A : Option Addr} {c : Nat}
    (h : Own 3 EP w Zp base 37 v l) (hm : Pl w X A c m) (hX : ∀ b, X b → b < w.heap.size → Zp b ∧ v.ownBlock ≠ some b) (hl : l.length + m.length ≤ 2199023255552) (hbase : base ≤ w.heap.size)
    (hgd : o.guard = none) (ho : o.op = .call { callee := .builtin .append, args := #[s, x], argTypes := #[25, 25] }) (hs : a.eval s = v) (hx : a.eval x = .slice A m.length c)
    (H : ∀ v' w', Own 3 EP w' Zp base 37 v' (l ++ m) → w.grownBy w' v.ownBlock → (v'.ownBlock = v.ownBlock ∨ v'.ownBlock = some w.heap.size) → wpList Tryz.prog ops Q rest (a.put o.dst v') w') :
    wpList Tryz.prog ops Q (o :: rest) a w := by
  obtain ⟨ys, hf, hfc⟩ := (hm.widen (Y := fun b => Zp b ∧ v.ownBlock ≠ some b) hX).flat
  exact wpList_app ety_p s x h hf (fun h0 => by
    obtain ⟨b, o, hA, _, hc⟩ := hfc h0
    exact ⟨b, o, hA, hc⟩) (by omega) (by simp only [maxLen]; omega) hbase hgd ho hs hx H

theorem nf_two (a b : T) : (⟨a.ps ++ b.ps, cz (a.k.v + b.k.v)⟩ : T).nf = ct (vl a.ps ++ vl b.ps) (a.k.v + b.k.v) := by
  show ct (vl (a.ps ++ b.ps)) (cz (a.k.v + b.k.v)).v = _
  rw [vl_append, cz_v]

set_option maxHeartbeats 1600000 in
theorem radd5_c {av bv : Value} {a b : T} {w : World} {X Y : Nat → Prop} {N : Nat} (ha : Tv w X av a) (hb : Tv w Y bv b) (hN : N ≤ 4294967296) (sa : a.sz N) (sb : b.sz N) :
    Calls Tryz.prog 128 #[av, bv] w fun e w' => ∃ r, e = .returned r ∧ Tv w' (w.heap.size ≤ ·) r (ct (vl a.ps ++ vl b.ps) (a.k.v + b.k.v)) ∧ Ext w w' := by
  have la := ha.lb; have lb := hb.lb
  obtain ⟨A, c, AK, d, rfl, ha1, ha2⟩ := ha
  obtain ⟨B, c', BK, d', rfl, hb1, hb2⟩ := hb
  obtain ⟨sa1, sa2, sa3⟩ := sa
  obtain ⟨sb1, sb2, sb3⟩ := sb
  have ha1 := ha1.below; have hb1 := hb1.below
  go_enter Tryz.func128, Tryz.ntmps128
  go_wp2_with (first
    | (at_builtin
       refine wpl_named fun W hW => ?_
       have b2 : Box W w.heap.size 27 #[.slice A a.ps.length c, .bool a.k.neg, .slice AK a.k.mag.length d] := by rw [hW]; exact (by repeat (first | with_reducible assumption | with_reducible exact Box.new _ _ _ | (with_reducible refine Box.new_at _ _ _ ?_; (simp only [wsz]; done)) | with_reducible refine Box.drewN ?_ _ | with_reducible refine Box.drew ?_ | with_reducible refine Box.alloc ?_ _ | with_reducible apply Box.drewN | with_reducible apply Box.drew | with_reducible apply Box.alloc | with_reducible refine Box.set_ ?_ _ _ | (with_reducible refine Box.far ?_ ?_ _; rotate_left; (simp only [ne_eq]; omega)) | (with_reducible refine Box.ext ?_ (by with_reducible assumption)) | (refine Box.new_at _ _ _ ?_; simp only [wsz]; done)))
       have b3 : Box W (w.heap.size + 1) 27 #[.slice B b.ps.length c', .bool b.k.neg, .slice BK b.k.mag.length d'] := by rw [hW]; exact (by repeat (first | with_reducible assumption | with_reducible exact Box.new _ _ _ | (with_reducible refine Box.new_at _ _ _ ?_; (simp only [wsz]; done)) | with_reducible refine Box.drewN ?_ _ | with_reducible refine Box.drew ?_ | with_reducible refine Box.alloc ?_ _ | with_reducible apply Box.drewN | with_reducible apply Box.drew | with_reducible apply Box.alloc | with_reducible refine Box.set_ ?_ _ _ | (with_reducible refine Box.far ?_ ?_ _; rotate_left; (simp only [ne_eq]; omega)) | (with_reducible refine Box.ext ?_ (by with_reducible assumption)) | (refine Box.new_at _ _ _ ?_; simp only [wsz]; done)))
       have b4 : Box W (w.heap.size + 1 + 1) 27 #[.slice none 0 0, .bool false, .slice none 0 0] := by rw [hW]; exact (by repeat (first | with_reducible assumption | with_reducible exact Box.new _ _ _ | (with_reducible refine Box.new_at _ _ _ ?_; (simp only [wsz]; done)) | with_reducible refine Box.drewN ?_ _ | with_reducible refine Box.drew ?_ | with_reducible refine Box.alloc ?_ _ | with_reducible apply Box.drewN | with_reducible apply Box.drew | with_reducible apply Box.alloc | with_reducible refine Box.set_ ?_ _ _ | (with_reducible refine Box.far ?_ ?_ _; rotate_left; (simp only [ne_eq]; omega)) | (with_reducible refine Box.ext ?_ (by with_reducible assumption)) | (refine Box.new_at _ _ _ ?_; simp only [wsz]; done)))
       have hE : Ext w W := by rw [hW]; exact (by repeat (first | with_reducible assumption | with_reducible exact Ext.refl _ | with_reducible refine Ext.drewN ?_ _ | with_reducible refine Ext.drew ?_ | with_reducible refine Ext.alloc ?_ _ | (with_reducible refine Ext.setCell ?_ ?_ _; rotate_left; (first | exact Nat.le_refl _ | (dsimp only; omega) | (simp only [wsz]; omega))) | (with_reducible refine Ext.trans ?_ (by with_reducible assumption))))
       clear hW
       have b4l := b4.lt
       (refine wpList_appps (l := []) (.tmp 6) (.tmp 8) (Own.nil W (· < w.heap.size) W.heap.size 37) (ha1.ext hE) (fun q hq _ => ⟨hq, by simp [Value.ownBlock]⟩) (by simp only [List.length_nil]; omega) (Nat.le_refl _) rfl rfl rfl rfl ?_)
       intro v1 w1 hO1 hg1 hv1
       have hx1 : Ext W w1 := (Ext.refl W).grown hg1 (by simp [Value.ownBlock])
       have hE1 : Ext w w1 := hE.trans hx1
       have c2 := b2.ext hx1
       have c3 := b3.ext hx1
       have c4 := b4.ext hx1
       have c3r := c3.rules
       have c3l := c3.lt
       rw [List.nil_append] at hO1
       have hrow1 := hO1.row)
    | (at_builtin
       (refine wpList_appps (.tmp 10) (.tmp 12) hO1 (hb1.ext hE1) (fun q hq _ => ⟨hq, fun e => by have := (hrow1 _ e).1; have := hE.size; omega⟩) (by omega) (by have := hx1.size; omega) rfl rfl rfl rfl ?_)
       intro v2 w2 hO2 hg2 hv2
       have hx2 : Ext W w2 := hx1.grown hg2 (fun k hk => (hrow1 _ hk).1)
       have hE2 : Ext w w2 := hE.trans hx2
       have e2 := b2.ext hx2
       have e3 := b3.ext hx2
       have e4 := b4.ext hx2
       have e2r := e2.rules; have e2l := e2.lt
       have e3r := e3.rules; have e3l := e3.lt
       clear c3r)
    | fail)
  obtain ⟨A2, c2, rfl, hP2⟩ := Own.sl hO2 (by omega) (X := fun _ => True) (fun _ _ => trivial)
  have hP2 : Pl w2 (fun _ => True) A2 c2 (a.ps ++ b.ps) := hP2
  refine (raddz_c (x := a.k) (y := b.k) ⟨_, _, rfl, ha2.ext (hE2.trans (by repeat (first | with_reducible assumption | with_reducible exact Ext.refl _ | with_reducible refine Ext.drewN ?_ _ | with_reducible refine Ext.drew ?_ | with_reducible refine Ext.alloc ?_ _ | (with_reducible refine Ext.setCell ?_ ?_ _; rotate_left; (first | exact Nat.le_refl _ | (dsimp only; omega) | (simp only [wsz]; omega))) | (with_reducible refine Ext.trans ?_ (by with_reducible assumption)))))⟩ ⟨_, _, rfl, hb2.ext (hE2.trans (by repeat (first | with_reducible assumption | with_reducible exact Ext.refl _ | with_reducible refine Ext.drewN ?_ _ | with_reducible refine Ext.drew ?_ | with_reducible refine Ext.alloc ?_ _ | (with_reducible refine Ext.setCell ?_ ?_ _; rotate_left; (first | exact Nat.le_refl _ | (dsimp only; omega) | (simp only [wsz]; omega))) | (with_reducible refine Ext.trans ?_ (by with_reducible assumption)))))⟩ (by omega) (by omega)).mono ?_
  rintro e w3 ⟨r3, rfl, ⟨A3, c3, rfl, hK3⟩, hx3⟩
  have f4 := e4.ext hx3
  have hE3 : Ext w w3 := hE2.trans hx3
  clear e2r e3r
  go_wp2_with fail
  refine (rnorm5_c (t := ⟨a.ps ++ b.ps, cz (a.k.v + b.k.v)⟩) (N := 2 * N + 1) ⟨_, _, _, _, by simp only [List.length_append], (hP2.ext hx3).ext (by repeat (first | with_reducible assumption | with_reducible exact Ext.refl _ | with_reducible refine Ext.drewN ?_ _ | with_reducible refine Ext.drew ?_ | with_reducible refine Ext.alloc ?_ _ | (with_reducible refine Ext.setCell ?_ ?_ _; rotate_left; (first | exact Nat.le_refl _ | (dsimp only; omega) | (simp only [wsz]; omega))) | (with_reducible refine Ext.trans ?_ (by with_reducible assumption)))), (hK3.widen (Y := fun _ => True) fun _ _ _ => trivial).ext (by repeat (first | with_reducible assumption | with_reducible exact Ext.refl _ | with_reducible refine Ext.drewN ?_ _ | with_reducible refine Ext.drew ?_ | with_reducible refine Ext.alloc ?_ _ | (with_reducible refine Ext.setCell ?_ ?_ _; rotate_left; (first | exact Nat.le_refl _ | (dsimp only; omega) | (simp only [wsz]; omega))) | (with_reducible refine Ext.trans ?_ (by with_reducible assumption))))⟩ (by omega) ⟨?_, ?_, ?_⟩).mono ?_
  · rw [List.length_append]; omega
  · intro p hp
    rcases List.mem_append.1 hp with hp | hp
    · have := sa2 p hp; omega
    · have := sb2 p hp; omega
  · show (cz (a.k.v + b.k.v)).mag.length ≤ _
    rw [cz_len]
    have := zl_add (x := a.k.v) (y := b.k.v) (k := N) (Nat.le_trans (zl_of la.2) sa3) (Nat.le_trans (zl_of lb.2) sb3)
    omega
  rw [nf_two]
  rintro e w4 ⟨r4, rfl, ⟨A4, c4, B4, d4, rfl, h41, h42⟩, hx4⟩
  have g4 := f4.ext hx4
  have g4r := g4.rules
  have g4l := g4.lt
  have hE4 : Ext w w4 := hE3.trans hx4
  have hs3 := hE3.size
  have hs2 := (hx2.trans hx3).size
  go_wp2_with fail
  (refine bodyPost_ret (v := ?_) ?_ rfl ?_; rotate_left; (simp only [results, Tryz.results128]; go_simp; (first | done | with_reducible rfl)))
  refine ⟨_, rfl, ⟨_, _, _, _, rfl, (Pl.keep (h41.widen (Y := fun c => w.heap.size + 1 + 1 < c) fun c hc _ => by omega) (by repeat (first | with_reducible exact Kp.refl _ | with_reducible refine Kp.drewN ?_ _ | with_reducible refine Kp.drew ?_ | with_reducible refine Kp.alloc ?_ _ | (with_reducible refine Kp.setCell ?_ ?_ _; rotate_left; (first | (dsimp only; omega) | (simp only [wsz]; omega))) | (with_reducible exact Kp.of_ext (by with_reducible assumption)) | (with_reducible refine Kp.ext ?_ (by with_reducible assumption))))).widen fun c hc _ => by omega, (Nl.keep (h42.widen (Y := fun c => w.heap.size + 1 + 1 < c) fun c hc _ => by omega) (by repeat (first | with_reducible exact Kp.refl _ | with_reducible refine Kp.drewN ?_ _ | with_reducible refine Kp.drew ?_ | with_reducible refine Kp.alloc ?_ _ | (with_reducible refine Kp.setCell ?_ ?_ _; rotate_left; (first | (dsimp only; omega) | (simp only [wsz]; omega))) | (with_reducible exact Kp.of_ext (by with_reducible assumption)) | (with_reducible refine Kp.ext ?_ (by with_reducible assumption))))).widen fun c hc _ => by omega⟩, ?_⟩
  exact ((hE4.setCell (by simp only; omega) _).setCell (by simp only; omega) _).setCell (by simp only; omega) _

end Go.Proofs.YthmjgbkakjpfkaaGreatDoor
