/- term.Without, term.Put. No conditions. -/
import Derived.Test.YtbblgjjomgipfaaDel
import Derived.Test.YtbblgjjomgipfaaNorm
import Derived.Test.YtbblgjjomgipfaaCoef
import Derived.Test.YtbblgjjomgipfaaSum
import Derived.Test.YtbblgjjomgipfaaLate0
import Derived.Test.YtbblgjjomgipfaaArith
namespace Go.Proofs.Ytbblgjjomgipfaa
open Go.RowKit Go.Shelf

theorem wo_sub {x : Int} {l : List (Int × Z)} {p : Int × Z} (h : p ∈ wo x l) : p ∈ l := (List.mem_filter.1 h).1
theorem wo_len (x : Int) (l : List (Int × Z)) : (wo x l).length ≤ l.length := List.length_filter_le _ _
/-- The term without a variable. -/
def T.wo (t : T) (x : Int) : T := ⟨Go.Proofs.Ytbblgjjomgipfaa.wo x t.ps, t.k⟩
theorem T.wo_sz {t : T} {x : Int} {N : Nat} (h : t.sz N) : (t.wo x).sz N := ⟨Nat.le_trans (wo_len x t.ps) h.1, fun p hp => h.2.1 p (wo_sub hp), h.2.2⟩

set_option maxHeartbeats 1600000 in
theorem twithout_f {v : Value} {t : T} {w : World} {X : Nat → Prop} {N : Nat} {x : Int} (h : Tv w X v t) (hN : N ≤ 1073741824) (hs : t.sz N) :
    Calls Try.prog 33 #[v, .int .i64 x] w fun e w' => ∃ r, e = .returned r ∧ TvF w' w.heap.size r (t.wo x).nf ∧ Ext w w' := by
  have hs2 := T.wo_sz (x := x) hs
  obtain ⟨A, c, B, d, rfl, h1, h2⟩ := h
  obtain ⟨s1, s2, s3⟩ := hs
  go_enter Try.func33, Try.ntmps33
  go_wp2_with fail
  refine wp_named fun W hW => ?_
  have b2 : Box W (w.heap.size) 27 #[.slice A t.ps.length c, .bool t.k.neg, .slice B t.k.mag.length d] := by rw [hW]; exact (by repeat (first | with_reducible assumption | with_reducible exact Box.new _ _ _ | (with_reducible refine Box.new_at _ _ _ ?_; (simp only [wsz]; done)) | with_reducible refine Box.drewN ?_ _ | with_reducible refine Box.drew ?_ | with_reducible refine Box.alloc ?_ _ | with_reducible apply Box.drewN | with_reducible apply Box.drew | with_reducible apply Box.alloc | with_reducible refine Box.set_ ?_ _ _ | (with_reducible refine Box.far ?_ ?_ _; rotate_left; (simp only [ne_eq]; omega)) | (with_reducible refine Box.ext ?_ (by with_reducible assumption)) | (refine Box.new_at _ _ _ ?_; simp only [wsz]; done)))
  have b3 : Box W (w.heap.size + 1) 3 #[.int .i64 x] := by rw [hW]; exact (by repeat (first | with_reducible assumption | with_reducible exact Box.new _ _ _ | (with_reducible refine Box.new_at _ _ _ ?_; (simp only [wsz]; done)) | with_reducible refine Box.drewN ?_ _ | with_reducible refine Box.drew ?_ | with_reducible refine Box.alloc ?_ _ | with_reducible apply Box.drewN | with_reducible apply Box.drew | with_reducible apply Box.alloc | with_reducible refine Box.set_ ?_ _ _ | (with_reducible refine Box.far ?_ ?_ _; rotate_left; (simp only [ne_eq]; omega)) | (with_reducible refine Box.ext ?_ (by with_reducible assumption)) | (refine Box.new_at _ _ _ ?_; simp only [wsz]; done)))
  have b4 : Box W (w.heap.size + 1 + 1) 27 #[.slice none 0 0, .bool false, .slice none 0 0] := by rw [hW]; exact (by repeat (first | with_reducible assumption | with_reducible exact Box.new _ _ _ | (with_reducible refine Box.new_at _ _ _ ?_; (simp only [wsz]; done)) | with_reducible refine Box.drewN ?_ _ | with_reducible refine Box.drew ?_ | with_reducible refine Box.alloc ?_ _ | with_reducible apply Box.drewN | with_reducible apply Box.drew | with_reducible apply Box.alloc | with_reducible refine Box.set_ ?_ _ _ | (with_reducible refine Box.far ?_ ?_ _; rotate_left; (simp only [ne_eq]; omega)) | (with_reducible refine Box.ext ?_ (by with_reducible assumption)) | (refine Box.new_at _ _ _ ?_; simp only [wsz]; done)))
  have hE : Ext w W := by rw [hW]; exact (by repeat (first | with_reducible assumption | with_reducible exact Ext.refl _ | with_reducible refine Ext.drewN ?_ _ | with_reducible refine Ext.drew ?_ | with_reducible refine Ext.alloc ?_ _ | (with_reducible refine Ext.setCell ?_ ?_ _; rotate_left; (first | exact Nat.le_refl _ | (dsimp only; omega) | (simp only [wsz]; omega))) | (with_reducible refine Ext.trans ?_ (by with_reducible assumption))))
  clear hW
  refine wp_region_oe [9] (.quiet 0 (.quiet 1 (.quiet 3 (.quiet 5 (.quiet 6 (.loud 2 (.loud 4 (.quiet 7 (.loud 8 (.late [9])))))))))) rfl (by kernel_rfl) (by intro _ _ d _ _ h; cases d <;> exact h) ?_
  obtain ⟨V, hV⟩ : ∃ V, V = W.drew := ⟨_, rfl⟩
  have hVx : Ext W V := by rw [hV]; exact (by repeat (first | with_reducible assumption | with_reducible exact Ext.refl _ | with_reducible refine Ext.drewN ?_ _ | with_reducible refine Ext.drew ?_ | with_reducible refine Ext.alloc ?_ _ | (with_reducible refine Ext.setCell ?_ ?_ _; rotate_left; (first | exact Nat.le_refl _ | (dsimp only; omega) | (simp only [wsz]; omega))) | (with_reducible refine Ext.trans ?_ (by with_reducible assumption))))
  rw [← hV]
  clear hV
  have b2V := b2.ext hVx
  have b3V := b3.ext hVx
  have b4V := b4.ext hVx
  have b2r := b2V.rules
  have b2l := b2V.lt
  have b3l := b3V.lt
  have b4l := b4V.lt
  have hEV := hE.trans hVx
  (repeat (refine oe_take (v := ?_) rfl rfl ?_ ?_; rotate_left; (intro w' hx'; have hc' := hx'.cells.1; (try simp only [wcd] at hc'); go_simp; (first | done | with_reducible rfl)); (try simp only [Act.put, List.setIfInBounds_toArray, List.set_cons_zero, List.set_cons_succ])))
  (refine oe_loud rfl rfl fun K hK => ?_; go_simp)
  refine (clonep_c (h1.below.ext hEV) (by omega)).mono ?_
  rintro e w1 ⟨v1, rfl, hO, -, hx1⟩
  have hO := hO.widen (Z' := fun b => b < V.heap.size) fun b hb _ => hb.2
  obtain ⟨A1, c1, rfl, hj⟩ := Own.sl hO (by omega) (X := fun _ => True) (fun _ _ => trivial)
  clear hj
  have hrow := hO.row
  (have hs1 := Ext.size hx1; (try simp only [wsz] at hs1))
  have b3' := b3V.ext hx1
  have hg3 : w1.cell? ⟨w.heap.size + 1, 0, none⟩ = some (.int .i64 x) := by rw [b3'.cell]; rfl
  refine hK _ _ (by repeat (first | with_reducible assumption | with_reducible exact Ext.refl _ | with_reducible refine Ext.drewN ?_ _ | with_reducible refine Ext.drew ?_ | with_reducible refine Ext.alloc ?_ _ | (with_reducible refine Ext.setCell ?_ ?_ _; rotate_left; (first | exact Nat.le_refl _ | (dsimp only; omega) | (simp only [wsz]; omega))) | (with_reducible refine Ext.trans ?_ (by with_reducible assumption)))) ?_
  clear hK K
  (try simp only [Act.put, List.setIfInBounds_toArray, List.set_cons_zero, List.set_cons_succ])
  (refine oe_loud rfl rfl fun K hK => ?_; go_simp)
  refine (delf_c hO hg3 b3'.lt (fun e => by have := (hrow _ e).1; omega) (by omega)).mono ?_
  rintro e w2 ⟨v2, rfl, hO2, hgr⟩
  obtain ⟨A2, c2, rfl, hP2⟩ := Own.sl hO2 (by omega) (X := fun _ => True) (fun _ _ => trivial)
  have hx2 : Ext V w2 := Ext.grown hx1 hgr fun k hk => (hrow k hk).1
  refine hK _ _ hx2 ?_
  clear hK K
  (try simp only [Act.put, List.setIfInBounds_toArray, List.set_cons_zero, List.set_cons_succ])
  (repeat (refine oe_take (v := ?_) rfl rfl ?_ ?_; rotate_left; (intro w' hx'; have hc' := hx'.cells.1; (try simp only [wcd] at hc'); go_simp; (first | done | with_reducible rfl)); (try simp only [Act.put, List.setIfInBounds_toArray, List.set_cons_zero, List.set_cons_succ])))
  (refine oe_loud rfl rfl fun K hK => ?_; go_simp)
  refine (tnorm_f (t := t.wo x) (N := N) ⟨_, _, _, _, rfl, hP2, (h2.widen (Y := fun _ => True) fun _ _ _ => trivial).ext (hEV.trans hx2)⟩ (by omega) hs2).mono ?_
  rintro e w3 ⟨r3, rfl, hF, hx3⟩
  have hF3 := hF
  obtain ⟨A3, c3, B3, d3, rfl, -, -, -⟩ := hF
  have hs2' := hx2.size
  have hs3 := hx3.size
  have hx3V := hx2.trans hx3
  refine hK _ _ hx3V ?_
  clear hK K
  (try simp only [Act.put, List.setIfInBounds_toArray, List.set_cons_zero, List.set_cons_succ])
  refine oe_late ?_
  have b4' := b4V.ext hx3V
  have b4r := b4'.rules
  have b4l' := b4'.lt
  clear b2r
  (refine sh_late rfl rfl fun K hK => ?_; go_simp; refine hK _ _ ?_; clear hK K)
  refine sh_end ?_
  have hE3 := hEV.trans hx3V
  go_wp2_with fail
  (refine bodyPost_ret (v := ?_) ?_ rfl ?_; rotate_left; (simp only [results, Try.results33]; go_simp; (first | done | with_reducible rfl)))
  refine ⟨_, rfl, (TvF.keep (TvF.lower (B' := w.heap.size + 1 + 1 + 1) hF3 (by omega)) (by repeat (first | with_reducible exact Kp.refl _ | with_reducible refine Kp.drewN ?_ _ | with_reducible refine Kp.drew ?_ | with_reducible refine Kp.alloc ?_ _ | (with_reducible refine Kp.setCell ?_ ?_ _; rotate_left; (first | (dsimp only; omega) | (simp only [wsz]; omega))) | (with_reducible exact Kp.of_ext (by with_reducible assumption)) | (with_reducible refine Kp.ext ?_ (by with_reducible assumption))))).lower (by omega), ?_⟩
  exact ((hE3.setCell (by simp only; omega) _).setCell (by simp only; omega) _).setCell (by simp only; omega) _

theorem twithout_c {v : Value} {t : T} {w : World} {X : Nat → Prop} {N : Nat} {x : Int} (h : Tv w X v t) (hN : N ≤ 1073741824) (hs : t.sz N) :
    Calls Try.prog 33 #[v, .int .i64 x] w fun e w' => ∃ r, e = .returned r ∧ Tv w' (w.heap.size ≤ ·) r (t.wo x).nf ∧ Ext w w' :=
  (twithout_f h hN hs).mono fun _ _ ⟨r, e, h1, h2⟩ => ⟨r, e, h1.tv, h2⟩

/-- A term with another one in a variable's place. -/
def T.put (t : T) (x : Int) (u : T) : T := ct (cn (vl (Go.Proofs.Ytbblgjjomgipfaa.wo x t.ps)) ++ sc (cf (vl t.ps) x) (vl u.ps)) (t.k.v + cf (vl t.ps) x * u.k.v)
theorem put_eq (t u : T) (x : Int) : ct (sc (cz 1).v (vl (t.wo x).nf.ps) ++ sc (cz (cf (vl t.ps) x)).v (vl u.ps)) ((cz 1).v * (t.wo x).nf.k.v + (cz (cf (vl t.ps) x)).v * u.k.v) = t.put x u := by
  have e1 : vl (t.wo x).nf.ps = cn (vl (wo x t.ps)) := vl_cl _
  have e2 : (t.wo x).nf.k.v = t.k.v := cz_v _
  rw [e1, e2, cz_v, cz_v, sc_one, Int.one_mul]
  rfl

set_option maxHeartbeats 1600000 in
theorem tput_f {v uv : Value} {t u : T} {w : World} {X Y : Nat → Prop} {N : Nat} {x : Int} (h : Tv w X v t) (hu : Tv w Y uv u) (hN : N ≤ 1073741824) (h2N : 2 ≤ N) (hs : t.sz N) (su : u.sz N) :
    Calls Try.prog 34 #[v, .int .i64 x, uv] w fun e w' => ∃ r, e = .returned r ∧ TvF w' w.heap.size r (t.put x u) ∧ Ext w w' := by
  have hlb := h.lb
  have hsn := nf_sz (T.wo_sz (x := x) hs) ⟨fun p hp => hlb.1 p (wo_sub hp), hlb.2⟩
  have hcl : zl (cf (vl t.ps) x) ≤ N + N := by
    have := zl_cf (zl_vl hlb.1 hs.2.1) x
    rw [vl_len] at this
    have := hs.1
    omega
  have htv := h; have huv := hu
  obtain ⟨A, c, B, d, rfl, h1, h2⟩ := h
  obtain ⟨UA, uc, UB, ud, rfl, u1, u2⟩ := hu
  go_enter Try.func34, Try.ntmps34
  go_wp2_with fail
  refine wp_named fun W hW => ?_
  have b3 : Box W (w.heap.size) 27 #[.slice A t.ps.length c, .bool t.k.neg, .slice B t.k.mag.length d] := by rw [hW]; exact (by repeat (first | with_reducible assumption | with_reducible exact Box.new _ _ _ | (with_reducible refine Box.new_at _ _ _ ?_; (simp only [wsz]; done)) | with_reducible refine Box.drewN ?_ _ | with_reducible refine Box.drew ?_ | with_reducible refine Box.alloc ?_ _ | with_reducible apply Box.drewN | with_reducible apply Box.drew | with_reducible apply Box.alloc | with_reducible refine Box.set_ ?_ _ _ | (with_reducible refine Box.far ?_ ?_ _; rotate_left; (simp only [ne_eq]; omega)) | (with_reducible refine Box.ext ?_ (by with_reducible assumption)) | (refine Box.new_at _ _ _ ?_; simp only [wsz]; done)))
  have b5 : Box W (w.heap.size + 1) 27 #[.slice UA u.ps.length uc, .bool u.k.neg, .slice UB u.k.mag.length ud] := by rw [hW]; exact (by repeat (first | with_reducible assumption | with_reducible exact Box.new _ _ _ | (with_reducible refine Box.new_at _ _ _ ?_; (simp only [wsz]; done)) | with_reducible refine Box.drewN ?_ _ | with_reducible refine Box.drew ?_ | with_reducible refine Box.alloc ?_ _ | with_reducible apply Box.drewN | with_reducible apply Box.drew | with_reducible apply Box.alloc | with_reducible refine Box.set_ ?_ _ _ | (with_reducible refine Box.far ?_ ?_ _; rotate_left; (simp only [ne_eq]; omega)) | (with_reducible refine Box.ext ?_ (by with_reducible assumption)) | (refine Box.new_at _ _ _ ?_; simp only [wsz]; done)))
  have b6 : Box W (w.heap.size + 1 + 1) 27 #[.slice none 0 0, .bool false, .slice none 0 0] := by rw [hW]; exact (by repeat (first | with_reducible assumption | with_reducible exact Box.new _ _ _ | (with_reducible refine Box.new_at _ _ _ ?_; (simp only [wsz]; done)) | with_reducible refine Box.drewN ?_ _ | with_reducible refine Box.drew ?_ | with_reducible refine Box.alloc ?_ _ | with_reducible apply Box.drewN | with_reducible apply Box.drew | with_reducible apply Box.alloc | with_reducible refine Box.set_ ?_ _ _ | (with_reducible refine Box.far ?_ ?_ _; rotate_left; (simp only [ne_eq]; omega)) | (with_reducible refine Box.ext ?_ (by with_reducible assumption)) | (refine Box.new_at _ _ _ ?_; simp only [wsz]; done)))
  have hE : Ext w W := by rw [hW]; exact (by repeat (first | with_reducible assumption | with_reducible exact Ext.refl _ | with_reducible refine Ext.drewN ?_ _ | with_reducible refine Ext.drew ?_ | with_reducible refine Ext.alloc ?_ _ | (with_reducible refine Ext.setCell ?_ ?_ _; rotate_left; (first | exact Nat.le_refl _ | (dsimp only; omega) | (simp only [wsz]; omega))) | (with_reducible refine Ext.trans ?_ (by with_reducible assumption))))
  clear hW
  have b3r := b3.rules
  have b5r := b5.rules
  have b3l := b3.lt
  have b5l := b5.lt
  have b6l := b6.lt
  refine wp_region_seq 9 [(1, true), (2, true), (4, true), (5, true), (7, true), (0, false), (3, false), (6, false), (8, false), (9, false)] rfl (by kernel_rfl) (by intro _ _ d _ _ h; cases d <;> exact h) ?_
  (repeat (refine sq_take (v := ?_) rfl rfl ?_ ?_; rotate_left; (intro w' hx'; have hc' := hx'.cells.1; (try simp only [wcd] at hc'); go_simp; (first | done | with_reducible rfl)); (try simp only [Act.put, List.setIfInBounds_toArray, List.set_cons_zero, List.set_cons_succ])))
  (refine sq_loud rfl rfl fun K hK => ?_; go_simp)
  refine (zof_c 1 (by omega) (by omega) _).mono ?_
  rintro e w1 ⟨r1, rfl, hz1, hx1⟩
  (refine hK _ _ (by repeat (first | with_reducible assumption | with_reducible exact Ext.refl _ | with_reducible refine Ext.drewN ?_ _ | with_reducible refine Ext.drew ?_ | with_reducible refine Ext.alloc ?_ _ | (with_reducible refine Ext.setCell ?_ ?_ _; rotate_left; (first | exact Nat.le_refl _ | (dsimp only; omega) | (simp only [wsz]; omega))) | (with_reducible refine Ext.trans ?_ (by with_reducible assumption)))) ?_; clear hK K; (try simp only [Act.put, List.setIfInBounds_toArray, List.set_cons_zero, List.set_cons_succ]))
  (refine sq_loud rfl rfl fun K hK => ?_; go_simp)
  refine (twithout_c (x := x) (htv.ext (hE.trans (by repeat (first | with_reducible assumption | with_reducible exact Ext.refl _ | with_reducible refine Ext.drewN ?_ _ | with_reducible refine Ext.drew ?_ | with_reducible refine Ext.alloc ?_ _ | (with_reducible refine Ext.setCell ?_ ?_ _; rotate_left; (first | exact Nat.le_refl _ | (dsimp only; omega) | (simp only [wsz]; omega))) | (with_reducible refine Ext.trans ?_ (by with_reducible assumption)))))) (by omega) hs).mono ?_
  rintro e w2 ⟨r2, rfl, ht2, hx2⟩
  (refine hK _ _ (by repeat (first | with_reducible assumption | with_reducible exact Ext.refl _ | with_reducible refine Ext.drewN ?_ _ | with_reducible refine Ext.drew ?_ | with_reducible refine Ext.alloc ?_ _ | (with_reducible refine Ext.setCell ?_ ?_ _; rotate_left; (first | exact Nat.le_refl _ | (dsimp only; omega) | (simp only [wsz]; omega))) | (with_reducible refine Ext.trans ?_ (by with_reducible assumption)))) ?_; clear hK K; (try simp only [Act.put, List.setIfInBounds_toArray, List.set_cons_zero, List.set_cons_succ]))
  (refine sq_loud rfl rfl fun K hK => ?_; go_simp)
  refine (tcoef_c (x := x) (htv.ext (hE.trans (by repeat (first | with_reducible assumption | with_reducible exact Ext.refl _ | with_reducible refine Ext.drewN ?_ _ | with_reducible refine Ext.drew ?_ | with_reducible refine Ext.alloc ?_ _ | (with_reducible refine Ext.setCell ?_ ?_ _; rotate_left; (first | exact Nat.le_refl _ | (dsimp only; omega) | (simp only [wsz]; omega))) | (with_reducible refine Ext.trans ?_ (by with_reducible assumption)))))) (by omega) hs).mono ?_
  rintro e w3 ⟨r3, rfl, hz3, hx3⟩
  (refine hK _ _ (by repeat (first | with_reducible assumption | with_reducible exact Ext.refl _ | with_reducible refine Ext.drewN ?_ _ | with_reducible refine Ext.drew ?_ | with_reducible refine Ext.alloc ?_ _ | (with_reducible refine Ext.setCell ?_ ?_ _; rotate_left; (first | exact Nat.le_refl _ | (dsimp only; omega) | (simp only [wsz]; omega))) | (with_reducible refine Ext.trans ?_ (by with_reducible assumption)))) ?_; clear hK K; (try simp only [Act.put, List.setIfInBounds_toArray, List.set_cons_zero, List.set_cons_succ]))
  (refine sq_loud rfl rfl fun K hK => ?_; go_simp)
  refine (sum_c (N := N + N) ((hz1.ext hx2).ext hx3) (ht2.ext hx3) hz3 (huv.ext (hE.trans (by repeat (first | with_reducible assumption | with_reducible exact Ext.refl _ | with_reducible refine Ext.drewN ?_ _ | with_reducible refine Ext.drew ?_ | with_reducible refine Ext.alloc ?_ _ | (with_reducible refine Ext.setCell ?_ ?_ _; rotate_left; (first | exact Nat.le_refl _ | (dsimp only; omega) | (simp only [wsz]; omega))) | (with_reducible refine Ext.trans ?_ (by with_reducible assumption)))))) (by omega) (Nat.le_trans (one_len N h2N).1 (by omega)) hsn (by rw [cz_len]; exact hcl) (su.mono (by omega))).mono ?_
  rw [put_eq]
  rintro e w4 ⟨r4, rfl, hF, hx4⟩
  have hF3 := hF
  obtain ⟨A4, c4, B4, d4, rfl, -, -, -⟩ := hF
  have b6' := (((b6.drew.ext hx1).ext hx2).ext hx3).ext hx4
  have b6r := b6'.rules
  have b6l' := b6'.lt
  have hs1 := hx1.size; have hs2 := hx2.size; have hs3 := hx3.size; have hs4 := hx4.size
  simp only [wsz] at hs1
  clear b3r b5r
  (refine hK _ _ (by repeat (first | with_reducible assumption | with_reducible exact Ext.refl _ | with_reducible refine Ext.drewN ?_ _ | with_reducible refine Ext.drew ?_ | with_reducible refine Ext.alloc ?_ _ | (with_reducible refine Ext.setCell ?_ ?_ _; rotate_left; (first | exact Nat.le_refl _ | (dsimp only; omega) | (simp only [wsz]; omega))) | (with_reducible refine Ext.trans ?_ (by with_reducible assumption)))) ?_; clear hK K; (try simp only [Act.put, List.setIfInBounds_toArray, List.set_cons_zero, List.set_cons_succ]))
  (repeat (refine sq_take (v := ?_) rfl rfl ?_ ?_; rotate_left; (intro w' hx'; have hc' := hx'.cells.1; (try simp only [wcd] at hc'); go_simp; (first | done | with_reducible rfl)); (try simp only [Act.put, List.setIfInBounds_toArray, List.set_cons_zero, List.set_cons_succ])))
  (refine sq_last rfl rfl fun K hK => ?_; go_simp; refine hK _ _ ?_; clear hK K)
  have hE4 : Ext w w4 := hE.trans (by repeat (first | with_reducible assumption | with_reducible exact Ext.refl _ | with_reducible refine Ext.drewN ?_ _ | with_reducible refine Ext.drew ?_ | with_reducible refine Ext.alloc ?_ _ | (with_reducible refine Ext.setCell ?_ ?_ _; rotate_left; (first | exact Nat.le_refl _ | (dsimp only; omega) | (simp only [wsz]; omega))) | (with_reducible refine Ext.trans ?_ (by with_reducible assumption))))
  go_wp2_with fail
  (refine bodyPost_ret (v := ?_) ?_ rfl ?_; rotate_left; (simp only [results, Try.results34]; go_simp; (first | done | with_reducible rfl)))
  refine ⟨_, rfl, (TvF.keep (TvF.lower (B' := w.heap.size + 1 + 1 + 1) hF3 (by omega)) (by repeat (first | with_reducible exact Kp.refl _ | with_reducible refine Kp.drewN ?_ _ | with_reducible refine Kp.drew ?_ | with_reducible refine Kp.alloc ?_ _ | (with_reducible refine Kp.setCell ?_ ?_ _; rotate_left; (first | (dsimp only; omega) | (simp only [wsz]; omega))) | (with_reducible exact Kp.of_ext (by with_reducible assumption)) | (with_reducible refine Kp.ext ?_ (by with_reducible assumption))))).lower (by omega), ?_⟩
  exact ((hE4.setCell (by simp only; omega) _).setCell (by simp only; omega) _).setCell (by simp only; omega) _

theorem tput_c {v uv : Value} {t u : T} {w : World} {X Y : Nat → Prop} {N : Nat} {x : Int} (h : Tv w X v t) (hu : Tv w Y uv u) (hN : N ≤ 1073741824) (h2N : 2 ≤ N) (hs : t.sz N) (su : u.sz N) :
    Calls Try.prog 34 #[v, .int .i64 x, uv] w fun e w' => ∃ r, e = .returned r ∧ Tv w' (w.heap.size ≤ ·) r (t.put x u) ∧ Ext w w' :=
  (tput_f h hu hN h2N hs su).mono fun _ _ ⟨r, e, h1, h2⟩ => ⟨r, e, h1.tv, h2⟩

end Go.Proofs.Ytbblgjjomgipfaa
