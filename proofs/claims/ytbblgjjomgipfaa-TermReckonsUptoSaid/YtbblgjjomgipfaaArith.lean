/- term.Add, Sub, Scale. No conditions. -/
import Derived.Test.YtbblgjjomgipfaaSum
import Derived.Test.YtbblgjjomgipfaaClone
namespace Go.Proofs.Ytbblgjjomgipfaa
open Go.RowKit

theorem nf_add (a b : T) : ct (sc (cz 1).v (vl a.ps) ++ sc (cz 1).v (vl b.ps)) ((cz 1).v * a.k.v + (cz 1).v * b.k.v) = ct (vl a.ps ++ vl b.ps) (a.k.v + b.k.v) := by
  rw [cz_v, sc_one, sc_one, Int.one_mul, Int.one_mul]
theorem nf_sub (a b : T) : ct (sc (cz 1).v (vl a.ps) ++ sc (cz (-1)).v (vl b.ps)) ((cz 1).v * a.k.v + (cz (-1)).v * b.k.v) = ct (vl a.ps ++ sc (-1) (vl b.ps)) (a.k.v - b.k.v) := by
  rw [cz_v, cz_v, sc_one, Int.one_mul, show a.k.v + -1 * b.k.v = a.k.v - b.k.v from by omega]
theorem nf_scale (k : Z) (t : T) : ct (sc k.v (vl t.ps) ++ sc (Z.v ⟨false, []⟩) (vl [])) (k.v * t.k.v + Z.v ⟨false, []⟩ * Z.v ⟨false, []⟩) = ct (sc k.v (vl t.ps)) (k.v * t.k.v) := by
  refine ct_congr (fun x => ?_) ?_
  · rw [cf_append]; simp [vl, sc, cf]
  · simp [Z.v, nv]

set_option maxHeartbeats 800000 in
theorem tscale_f {kv v : Value} {k : Z} {t : T} {w : World} {X Y : Nat → Prop} {N : Nat} (hk : Zi w X kv k) (h : Tv w Y v t) (hN : N ≤ 34359738368) (sk : k.mag.length ≤ N) (s : t.sz N) :
    Calls Try.prog 26 #[kv, v] w fun e w' => ∃ r, e = .returned r ∧ TvF w' w.heap.size r (ct (sc k.v (vl t.ps)) (k.v * t.k.v)) ∧ Ext w w' := by
  obtain ⟨K, kc, rfl, hk⟩ := hk
  obtain ⟨A, c, B, d, rfl, h1, h2⟩ := h
  go_enter Try.func26, Try.ntmps26
  go_wp2_with fail
  refine (sum_c (k := k) (a := t) ⟨_, _, rfl, hk.ext (by repeat (first | with_reducible assumption | with_reducible exact Ext.refl _ | with_reducible refine Ext.drewN ?_ _ | with_reducible refine Ext.drew ?_ | with_reducible refine Ext.alloc ?_ _ | (with_reducible refine Ext.setCell ?_ ?_ _; rotate_left; (first | exact Nat.le_refl _ | (dsimp only; omega) | (simp only [wsz]; omega))) | (with_reducible refine Ext.trans ?_ (by with_reducible assumption))))⟩ ⟨_, _, _, _, rfl, h1.ext (by repeat (first | with_reducible assumption | with_reducible exact Ext.refl _ | with_reducible refine Ext.drewN ?_ _ | with_reducible refine Ext.drew ?_ | with_reducible refine Ext.alloc ?_ _ | (with_reducible refine Ext.setCell ?_ ?_ _; rotate_left; (first | exact Nat.le_refl _ | (dsimp only; omega) | (simp only [wsz]; omega))) | (with_reducible refine Ext.trans ?_ (by with_reducible assumption)))), h2.ext (by repeat (first | with_reducible assumption | with_reducible exact Ext.refl _ | with_reducible refine Ext.drewN ?_ _ | with_reducible refine Ext.drew ?_ | with_reducible refine Ext.alloc ?_ _ | (with_reducible refine Ext.setCell ?_ ?_ _; rotate_left; (first | exact Nat.le_refl _ | (dsimp only; omega) | (simp only [wsz]; omega))) | (with_reducible refine Ext.trans ?_ (by with_reducible assumption))))⟩ (zero_zi _ (fun _ => True)) (zero_tv _ (fun _ => True)) hN sk s (Nat.zero_le _) ⟨Nat.zero_le _, by simp, Nat.zero_le _⟩).mono ?_
  rw [nf_scale]
  rintro e w1 ⟨r, rfl, hF, hx⟩
  have hF3 := hF
  obtain ⟨A1, c1, B1, d1, rfl, -, -, -⟩ := hF
  have hc := hx.cells
  (have hs := Ext.size hx; (try simp only [wsz] at hs))
  go_wp2_with fail
  (refine bodyPost_ret (v := ?_) ?_ rfl ?_; rotate_left; (simp only [results, Try.results26]; go_simp; (first | done | with_reducible rfl)))
  exact ⟨_, rfl, (hF3.keep (by repeat (first | with_reducible exact Kp.refl _ | with_reducible refine Kp.drewN ?_ _ | with_reducible refine Kp.drew ?_ | with_reducible refine Kp.alloc ?_ _ | (with_reducible refine Kp.setCell ?_ ?_ _; rotate_left; (first | (dsimp only; omega) | (simp only [wsz]; omega))) | (with_reducible exact Kp.of_ext (by with_reducible assumption)) | (with_reducible refine Kp.ext ?_ (by with_reducible assumption))))).lower (by first | omega | (simp only [wsz]; omega)), (by repeat (first | with_reducible assumption | with_reducible exact Ext.refl _ | with_reducible refine Ext.drewN ?_ _ | with_reducible refine Ext.drew ?_ | with_reducible refine Ext.alloc ?_ _ | (with_reducible refine Ext.setCell ?_ ?_ _; rotate_left; (first | exact Nat.le_refl _ | (dsimp only; omega) | (simp only [wsz]; omega))) | (with_reducible refine Ext.trans ?_ (by with_reducible assumption))))⟩

theorem tscale_c {kv v : Value} {k : Z} {t : T} {w : World} {X Y : Nat → Prop} {N : Nat} (hk : Zi w X kv k) (h : Tv w Y v t) (hN : N ≤ 34359738368) (sk : k.mag.length ≤ N) (s : t.sz N) :
    Calls Try.prog 26 #[kv, v] w fun e w' => ∃ r, e = .returned r ∧ Tv w' (w.heap.size ≤ ·) r (ct (sc k.v (vl t.ps)) (k.v * t.k.v)) ∧ Ext w w' :=
  (tscale_f hk h hN sk s).mono fun _ _ ⟨r, e, h1, h2⟩ => ⟨r, e, h1.tv, h2⟩

theorem one_len (N : Nat) (h : 2 ≤ N) : (cz 1).mag.length ≤ N ∧ (cz (-1)).mag.length ≤ N := by
  rw [cz_len, cz_len]
  exact ⟨Nat.le_trans (zl_word (x := 1) (by omega)) h, Nat.le_trans (zl_word (x := -1) (by omega)) h⟩

set_option maxHeartbeats 800000 in
theorem tadd_f {av bv : Value} {a b : T} {w : World} {X Y : Nat → Prop} {N : Nat} (ha : Tv w X av a) (hb : Tv w Y bv b) (hN : N ≤ 34359738368) (h2N : 2 ≤ N) (sa : a.sz N) (sb : b.sz N) :
    Calls Try.prog 24 #[av, bv] w fun e w' => ∃ r, e = .returned r ∧ TvF w' w.heap.size r (ct (vl a.ps ++ vl b.ps) (a.k.v + b.k.v)) ∧ Ext w w' := by
  obtain ⟨A, c, AK, d, rfl, ha1, ha2⟩ := ha
  obtain ⟨B, c', BK, d', rfl, hb1, hb2⟩ := hb
  go_enter Try.func24, Try.ntmps24
  go_wp2_with fail
  refine wp_region_seq 5 [(1, true), (3, true), (0, false), (2, false), (4, false), (5, false)] rfl (by kernel_rfl) (by intro _ _ d _ _ h; cases d <;> exact h) ?_
  (repeat (refine sq_take (v := ?_) rfl rfl ?_ ?_; rotate_left; (intro w' hx'; have hc' := hx'.cells.1; (try simp only [wcd] at hc'); go_simp; (first | done | with_reducible rfl)); (try simp only [Act.put, List.setIfInBounds_toArray, List.set_cons_zero, List.set_cons_succ])))
  (refine sq_loud rfl rfl fun K hK => ?_; go_simp)
  refine (zof_c 1 (by omega) (by omega) _).mono ?_
  rintro e w1 ⟨r1, rfl, hz1, hx1⟩
  (have hs1 := Ext.size hx1; (try simp only [wsz] at hs1))
  (refine hK _ _ (by repeat (first | with_reducible assumption | with_reducible exact Ext.refl _ | with_reducible refine Ext.drewN ?_ _ | with_reducible refine Ext.drew ?_ | with_reducible refine Ext.alloc ?_ _ | (with_reducible refine Ext.setCell ?_ ?_ _; rotate_left; (first | exact Nat.le_refl _ | (dsimp only; omega) | (simp only [wsz]; omega))) | (with_reducible refine Ext.trans ?_ (by with_reducible assumption)))) ?_; clear hK K; (try simp only [Act.put, List.setIfInBounds_toArray, List.set_cons_zero, List.set_cons_succ]))
  (refine sq_loud rfl rfl fun K hK => ?_; go_simp)
  refine (zof_c 1 (by omega) (by omega) _).mono ?_
  rintro e w2 ⟨r2, rfl, hz2, hx2⟩
  (have hs2 := Ext.size hx2; (try simp only [wsz] at hs2))
  (refine hK _ _ (by repeat (first | with_reducible assumption | with_reducible exact Ext.refl _ | with_reducible refine Ext.drewN ?_ _ | with_reducible refine Ext.drew ?_ | with_reducible refine Ext.alloc ?_ _ | (with_reducible refine Ext.setCell ?_ ?_ _; rotate_left; (first | exact Nat.le_refl _ | (dsimp only; omega) | (simp only [wsz]; omega))) | (with_reducible refine Ext.trans ?_ (by with_reducible assumption)))) ?_; clear hK K; (try simp only [Act.put, List.setIfInBounds_toArray, List.set_cons_zero, List.set_cons_succ]))
  (refine sq_loud rfl rfl fun K hK => ?_; go_simp)
  refine (sum_c (a := a) (b := b) (hz1.ext hx2) ⟨_, _, _, _, rfl, ha1.ext (by repeat (first | with_reducible assumption | with_reducible exact Ext.refl _ | with_reducible refine Ext.drewN ?_ _ | with_reducible refine Ext.drew ?_ | with_reducible refine Ext.alloc ?_ _ | (with_reducible refine Ext.setCell ?_ ?_ _; rotate_left; (first | exact Nat.le_refl _ | (dsimp only; omega) | (simp only [wsz]; omega))) | (with_reducible refine Ext.trans ?_ (by with_reducible assumption)))), ha2.ext (by repeat (first | with_reducible assumption | with_reducible exact Ext.refl _ | with_reducible refine Ext.drewN ?_ _ | with_reducible refine Ext.drew ?_ | with_reducible refine Ext.alloc ?_ _ | (with_reducible refine Ext.setCell ?_ ?_ _; rotate_left; (first | exact Nat.le_refl _ | (dsimp only; omega) | (simp only [wsz]; omega))) | (with_reducible refine Ext.trans ?_ (by with_reducible assumption))))⟩ hz2 ⟨_, _, _, _, rfl, hb1.ext (by repeat (first | with_reducible assumption | with_reducible exact Ext.refl _ | with_reducible refine Ext.drewN ?_ _ | with_reducible refine Ext.drew ?_ | with_reducible refine Ext.alloc ?_ _ | (with_reducible refine Ext.setCell ?_ ?_ _; rotate_left; (first | exact Nat.le_refl _ | (dsimp only; omega) | (simp only [wsz]; omega))) | (with_reducible refine Ext.trans ?_ (by with_reducible assumption)))), hb2.ext (by repeat (first | with_reducible assumption | with_reducible exact Ext.refl _ | with_reducible refine Ext.drewN ?_ _ | with_reducible refine Ext.drew ?_ | with_reducible refine Ext.alloc ?_ _ | (with_reducible refine Ext.setCell ?_ ?_ _; rotate_left; (first | exact Nat.le_refl _ | (dsimp only; omega) | (simp only [wsz]; omega))) | (with_reducible refine Ext.trans ?_ (by with_reducible assumption))))⟩ hN (one_len N h2N).1 sa (one_len N h2N).1 sb).mono ?_
  rw [nf_add]
  rintro e w3 ⟨r, rfl, hF, hx3⟩
  have hF3 := hF
  obtain ⟨A1, c1, B1, d1, rfl, -, -, -⟩ := hF
  (have hs3 := Ext.size hx3; (try simp only [wsz] at hs3))
  have hb3 : Box w3 (w.heap.size + 1 + 1) 27 #[.slice none 0 0, .bool false, .slice none 0 0] := (by repeat (first | with_reducible assumption | with_reducible exact Box.new _ _ _ | (with_reducible refine Box.new_at _ _ _ ?_; (simp only [wsz]; done)) | with_reducible refine Box.drewN ?_ _ | with_reducible refine Box.drew ?_ | with_reducible refine Box.alloc ?_ _ | with_reducible apply Box.drewN | with_reducible apply Box.drew | with_reducible apply Box.alloc | with_reducible refine Box.set_ ?_ _ _ | (with_reducible refine Box.far ?_ ?_ _; rotate_left; (simp only [ne_eq]; omega)) | (with_reducible refine Box.ext ?_ (by with_reducible assumption)) | (refine Box.new_at _ _ _ ?_; simp only [wsz]; done)))
  have hb3r := hb3.rules
  have hb3l := hb3.lt
  (refine hK _ _ (by repeat (first | with_reducible assumption | with_reducible exact Ext.refl _ | with_reducible refine Ext.drewN ?_ _ | with_reducible refine Ext.drew ?_ | with_reducible refine Ext.alloc ?_ _ | (with_reducible refine Ext.setCell ?_ ?_ _; rotate_left; (first | exact Nat.le_refl _ | (dsimp only; omega) | (simp only [wsz]; omega))) | (with_reducible refine Ext.trans ?_ (by with_reducible assumption)))) ?_; clear hK K; (try simp only [Act.put, List.setIfInBounds_toArray, List.set_cons_zero, List.set_cons_succ]))
  (repeat (refine sq_take (v := ?_) rfl rfl ?_ ?_; rotate_left; (intro w' hx'; have hc' := hx'.cells.1; (try simp only [wcd] at hc'); go_simp; (first | done | with_reducible rfl)); (try simp only [Act.put, List.setIfInBounds_toArray, List.set_cons_zero, List.set_cons_succ])))
  (refine sq_last rfl rfl fun K hK => ?_; go_simp; refine hK _ _ ?_; clear hK K)
  go_wp2_with fail
  (refine bodyPost_ret (v := ?_) ?_ rfl ?_; rotate_left; (simp only [results, Try.results24]; go_simp; (first | done | with_reducible rfl)))
  exact ⟨_, rfl, (hF3.keep (by repeat (first | with_reducible exact Kp.refl _ | with_reducible refine Kp.drewN ?_ _ | with_reducible refine Kp.drew ?_ | with_reducible refine Kp.alloc ?_ _ | (with_reducible refine Kp.setCell ?_ ?_ _; rotate_left; (first | (dsimp only; omega) | (simp only [wsz]; omega))) | (with_reducible exact Kp.of_ext (by with_reducible assumption)) | (with_reducible refine Kp.ext ?_ (by with_reducible assumption))))).lower (by first | omega | (simp only [wsz]; omega)), (by repeat (first | with_reducible assumption | with_reducible exact Ext.refl _ | with_reducible refine Ext.drewN ?_ _ | with_reducible refine Ext.drew ?_ | with_reducible refine Ext.alloc ?_ _ | (with_reducible refine Ext.setCell ?_ ?_ _; rotate_left; (first | exact Nat.le_refl _ | (dsimp only; omega) | (simp only [wsz]; omega))) | (with_reducible refine Ext.trans ?_ (by with_reducible assumption))))⟩

theorem tadd_c {av bv : Value} {a b : T} {w : World} {X Y : Nat → Prop} {N : Nat} (ha : Tv w X av a) (hb : Tv w Y bv b) (hN : N ≤ 34359738368) (h2N : 2 ≤ N) (sa : a.sz N) (sb : b.sz N) :
    Calls Try.prog 24 #[av, bv] w fun e w' => ∃ r, e = .returned r ∧ Tv w' (w.heap.size ≤ ·) r (ct (vl a.ps ++ vl b.ps) (a.k.v + b.k.v)) ∧ Ext w w' :=
  (tadd_f ha hb hN h2N sa sb).mono fun _ _ ⟨r, e, h1, h2⟩ => ⟨r, e, h1.tv, h2⟩

set_option maxHeartbeats 800000 in
theorem tsub_f {av bv : Value} {a b : T} {w : World} {X Y : Nat → Prop} {N : Nat} (ha : Tv w X av a) (hb : Tv w Y bv b) (hN : N ≤ 34359738368) (h2N : 2 ≤ N) (sa : a.sz N) (sb : b.sz N) :
    Calls Try.prog 25 #[av, bv] w fun e w' => ∃ r, e = .returned r ∧ TvF w' w.heap.size r (ct (vl a.ps ++ sc (-1) (vl b.ps)) (a.k.v - b.k.v)) ∧ Ext w w' := by
  obtain ⟨A, c, AK, d, rfl, ha1, ha2⟩ := ha
  obtain ⟨B, c', BK, d', rfl, hb1, hb2⟩ := hb
  go_enter Try.func25, Try.ntmps25
  go_wp2_with fail
  refine wp_region_seq 5 [(1, true), (3, true), (0, false), (2, false), (4, false), (5, false)] rfl (by kernel_rfl) (by intro _ _ d _ _ h; cases d <;> exact h) ?_
  (repeat (refine sq_take (v := ?_) rfl rfl ?_ ?_; rotate_left; (intro w' hx'; have hc' := hx'.cells.1; (try simp only [wcd] at hc'); go_simp; (first | done | with_reducible rfl)); (try simp only [Act.put, List.setIfInBounds_toArray, List.set_cons_zero, List.set_cons_succ])))
  (refine sq_loud rfl rfl fun K hK => ?_; go_simp)
  refine (zof_c 1 (by omega) (by omega) _).mono ?_
  rintro e w1 ⟨r1, rfl, hz1, hx1⟩
  (have hs1 := Ext.size hx1; (try simp only [wsz] at hs1))
  (refine hK _ _ (by repeat (first | with_reducible assumption | with_reducible exact Ext.refl _ | with_reducible refine Ext.drewN ?_ _ | with_reducible refine Ext.drew ?_ | with_reducible refine Ext.alloc ?_ _ | (with_reducible refine Ext.setCell ?_ ?_ _; rotate_left; (first | exact Nat.le_refl _ | (dsimp only; omega) | (simp only [wsz]; omega))) | (with_reducible refine Ext.trans ?_ (by with_reducible assumption)))) ?_; clear hK K; (try simp only [Act.put, List.setIfInBounds_toArray, List.set_cons_zero, List.set_cons_succ]))
  (refine sq_loud rfl rfl fun K hK => ?_; go_simp)
  refine (zof_c (-1) (by omega) (by omega) _).mono ?_
  rintro e w2 ⟨r2, rfl, hz2, hx2⟩
  (have hs2 := Ext.size hx2; (try simp only [wsz] at hs2))
  (refine hK _ _ (by repeat (first | with_reducible assumption | with_reducible exact Ext.refl _ | with_reducible refine Ext.drewN ?_ _ | with_reducible refine Ext.drew ?_ | with_reducible refine Ext.alloc ?_ _ | (with_reducible refine Ext.setCell ?_ ?_ _; rotate_left; (first | exact Nat.le_refl _ | (dsimp only; omega) | (simp only [wsz]; omega))) | (with_reducible refine Ext.trans ?_ (by with_reducible assumption)))) ?_; clear hK K; (try simp only [Act.put, List.setIfInBounds_toArray, List.set_cons_zero, List.set_cons_succ]))
  (refine sq_loud rfl rfl fun K hK => ?_; go_simp)
  refine (sum_c (a := a) (b := b) (hz1.ext hx2) ⟨_, _, _, _, rfl, ha1.ext (by repeat (first | with_reducible assumption | with_reducible exact Ext.refl _ | with_reducible refine Ext.drewN ?_ _ | with_reducible refine Ext.drew ?_ | with_reducible refine Ext.alloc ?_ _ | (with_reducible refine Ext.setCell ?_ ?_ _; rotate_left; (first | exact Nat.le_refl _ | (dsimp only; omega) | (simp only [wsz]; omega))) | (with_reducible refine Ext.trans ?_ (by with_reducible assumption)))), ha2.ext (by repeat (first | with_reducible assumption | with_reducible exact Ext.refl _ | with_reducible refine Ext.drewN ?_ _ | with_reducible refine Ext.drew ?_ | with_reducible refine Ext.alloc ?_ _ | (with_reducible refine Ext.setCell ?_ ?_ _; rotate_left; (first | exact Nat.le_refl _ | (dsimp only; omega) | (simp only [wsz]; omega))) | (with_reducible refine Ext.trans ?_ (by with_reducible assumption))))⟩ hz2 ⟨_, _, _, _, rfl, hb1.ext (by repeat (first | with_reducible assumption | with_reducible exact Ext.refl _ | with_reducible refine Ext.drewN ?_ _ | with_reducible refine Ext.drew ?_ | with_reducible refine Ext.alloc ?_ _ | (with_reducible refine Ext.setCell ?_ ?_ _; rotate_left; (first | exact Nat.le_refl _ | (dsimp only; omega) | (simp only [wsz]; omega))) | (with_reducible refine Ext.trans ?_ (by with_reducible assumption)))), hb2.ext (by repeat (first | with_reducible assumption | with_reducible exact Ext.refl _ | with_reducible refine Ext.drewN ?_ _ | with_reducible refine Ext.drew ?_ | with_reducible refine Ext.alloc ?_ _ | (with_reducible refine Ext.setCell ?_ ?_ _; rotate_left; (first | exact Nat.le_refl _ | (dsimp only; omega) | (simp only [wsz]; omega))) | (with_reducible refine Ext.trans ?_ (by with_reducible assumption))))⟩ hN (one_len N h2N).1 sa (one_len N h2N).2 sb).mono ?_
  rw [nf_sub]
  rintro e w3 ⟨r, rfl, hF, hx3⟩
  have hF3 := hF
  obtain ⟨A1, c1, B1, d1, rfl, -, -, -⟩ := hF
  (have hs3 := Ext.size hx3; (try simp only [wsz] at hs3))
  have hb3 : Box w3 (w.heap.size + 1 + 1) 27 #[.slice none 0 0, .bool false, .slice none 0 0] := (by repeat (first | with_reducible assumption | with_reducible exact Box.new _ _ _ | (with_reducible refine Box.new_at _ _ _ ?_; (simp only [wsz]; done)) | with_reducible refine Box.drewN ?_ _ | with_reducible refine Box.drew ?_ | with_reducible refine Box.alloc ?_ _ | with_reducible apply Box.drewN | with_reducible apply Box.drew | with_reducible apply Box.alloc | with_reducible refine Box.set_ ?_ _ _ | (with_reducible refine Box.far ?_ ?_ _; rotate_left; (simp only [ne_eq]; omega)) | (with_reducible refine Box.ext ?_ (by with_reducible assumption)) | (refine Box.new_at _ _ _ ?_; simp only [wsz]; done)))
  have hb3r := hb3.rules
  have hb3l := hb3.lt
  (refine hK _ _ (by repeat (first | with_reducible assumption | with_reducible exact Ext.refl _ | with_reducible refine Ext.drewN ?_ _ | with_reducible refine Ext.drew ?_ | with_reducible refine Ext.alloc ?_ _ | (with_reducible refine Ext.setCell ?_ ?_ _; rotate_left; (first | exact Nat.le_refl _ | (dsimp only; omega) | (simp only [wsz]; omega))) | (with_reducible refine Ext.trans ?_ (by with_reducible assumption)))) ?_; clear hK K; (try simp only [Act.put, List.setIfInBounds_toArray, List.set_cons_zero, List.set_cons_succ]))
  (repeat (refine sq_take (v := ?_) rfl rfl ?_ ?_; rotate_left; (intro w' hx'; have hc' := hx'.cells.1; (try simp only [wcd] at hc'); go_simp; (first | done | with_reducible rfl)); (try simp only [Act.put, List.setIfInBounds_toArray, List.set_cons_zero, List.set_cons_succ])))
  (refine sq_last rfl rfl fun K hK => ?_; go_simp; refine hK _ _ ?_; clear hK K)
  go_wp2_with fail
  (refine bodyPost_ret (v := ?_) ?_ rfl ?_; rotate_left; (simp only [results, Try.results25]; go_simp; (first | done | with_reducible rfl)))
  exact ⟨_, rfl, (hF3.keep (by repeat (first | with_reducible exact Kp.refl _ | with_reducible refine Kp.drewN ?_ _ | with_reducible refine Kp.drew ?_ | with_reducible refine Kp.alloc ?_ _ | (with_reducible refine Kp.setCell ?_ ?_ _; rotate_left; (first | (dsimp only; omega) | (simp only [wsz]; omega))) | (with_reducible exact Kp.of_ext (by with_reducible assumption)) | (with_reducible refine Kp.ext ?_ (by with_reducible assumption))))).lower (by first | omega | (simp only [wsz]; omega)), (by repeat (first | with_reducible assumption | with_reducible exact Ext.refl _ | with_reducible refine Ext.drewN ?_ _ | with_reducible refine Ext.drew ?_ | with_reducible refine Ext.alloc ?_ _ | (with_reducible refine Ext.setCell ?_ ?_ _; rotate_left; (first | exact Nat.le_refl _ | (dsimp only; omega) | (simp only [wsz]; omega))) | (with_reducible refine Ext.trans ?_ (by with_reducible assumption))))⟩

theorem tsub_c {av bv : Value} {a b : T} {w : World} {X Y : Nat → Prop} {N : Nat} (ha : Tv w X av a) (hb : Tv w Y bv b) (hN : N ≤ 34359738368) (h2N : 2 ≤ N) (sa : a.sz N) (sb : b.sz N) :
    Calls Try.prog 25 #[av, bv] w fun e w' => ∃ r, e = .returned r ∧ Tv w' (w.heap.size ≤ ·) r (ct (vl a.ps ++ sc (-1) (vl b.ps)) (a.k.v - b.k.v)) ∧ Ext w w' :=
  (tsub_f ha hb hN h2N sa sb).mono fun _ _ ⟨r, e, h1, h2⟩ => ⟨r, e, h1.tv, h2⟩

end Go.Proofs.Ytbblgjjomgipfaa
