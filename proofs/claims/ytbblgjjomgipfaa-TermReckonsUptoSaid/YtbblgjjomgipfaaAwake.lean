/- riddlelaw05.awake. No conditions. -/
import Derived.Test.YtbblgjjomgipfaaArith
import Derived.Test.YtbblgjjomgipfaaEval
import Derived.Test.YtbblgjjomgipfaaVars
import Derived.Test.YtbblgjjomgipfaaTree0
namespace Go.Proofs.Ytbblgjjomgipfaa
open Go.RowKit Go.Shelf

/-- One value, written out. -/
theorem Pl.litv {w : World} {X : Nat → Prop} {g : Nat} {x : Int} {z : Z} {A : Option Addr} {c : Nat} {e : TypeId} (hg : g = w.heap.size) (hX : X g) (hi : Go.Proofs.Ytbblgjjomgipfaa.i64 x) (h : Nl w X A c z.mag) :
    Pl (w.alloc (.cells #[.int .i64 x, .bool z.neg, .slice A z.mag.length c] e)) X (some ⟨g, 0, none⟩) 1 [(x, z)] :=
  Sl.of_flat (by simp) (by simp [maxLen]) (Thaw.new hg _ _) (Fl.one ⟨A, c, rfl, hi, h.keep ((Kp.refl w).alloc _)⟩ rfl) fun _ => ⟨_, _, rfl, hX, fun j u hu => by
    rw [World.cell?_alloc_at (hn := hg)]
    match j, hu with
    | 0, hu => simpa using hu
    | 1, hu => simpa using hu
    | 2, hu => simpa using hu⟩
/-- Behind Eval. -/
def AwAt (w W : World) (tt : T) (g1 g : Nat) (A6 : Option Addr) (c6 : Nat) (B6 : Option Addr) (d6 : Nat) (A9 : Option Addr) (c9 : Nat) : Prop :=
  Ext w W ∧ Box W g1 27 #[.slice A6 tt.ps.length c6, .bool tt.k.neg, .slice B6 tt.k.mag.length d6] ∧ Tv W (fun _ => True) (.agg #[.slice A6 tt.ps.length c6, .bool tt.k.neg, .slice B6 tt.k.mag.length d6]) tt ∧
    Box W g 25 #[.bool (cz 3).neg, .slice A9 (cz 3).mag.length c9] ∧ Nl W (fun _ => True) A9 c9 (cz 3).mag
theorem aw_at {w W0 W : World} {tt : T} {g1 g : Nat} {A6 B6 A9 : Option Addr} {c6 d6 c9 : Nat} (h : Ext w W0) (hW : Ext W0 W) (_hw : w.heap.size ≤ W0.heap.size) (hb : Box W0 g1 27 #[.slice A6 tt.ps.length c6, .bool tt.k.neg, .slice B6 tt.k.mag.length d6])
    (ht : Tv W0 (fun _ => True) (.agg #[.slice A6 tt.ps.length c6, .bool tt.k.neg, .slice B6 tt.k.mag.length d6]) tt) (hg : W0.heap.size ≤ g) (hbg : Box W g 25 #[.bool false, .slice none 0 0]) (hN : Nl W (fun c => c ≠ g) A9 c9 (cz 3).mag) :
    AwAt w ((W.setCell ⟨g, 0, none⟩ (.bool (cz 3).neg)).setCell ⟨g, 1, none⟩ (.slice A9 (cz 3).mag.length c9)) tt g1 g A6 c6 B6 d6 A9 c9 := by
  have hx : Ext W0 ((W.setCell ⟨g, 0, none⟩ (.bool (cz 3).neg)).setCell ⟨g, 1, none⟩ (.slice A9 (cz 3).mag.length c9)) := (hW.setCell hg _).setCell hg _
  refine ⟨h.trans hx, hb.ext hx, ht.ext hx, (hbg.set_ 0 _).set_ 1 _, (hN.keep (((Kp.refl W).setCell (fun h => h rfl) _).setCell (fun h => h rfl) _)).widen fun _ _ _ => trivial⟩

theorem vl_ct (l : List (Int × Int)) (k : Int) : vl (ct l k).ps = cn l := vl_cl _
theorem kv_ct (l : List (Int × Int)) (k : Int) : (ct l k).k.v = k := cz_v _
theorem aw1 : ct (sc (cz 2).v (vl (ct [(3, 1)] 0).ps)) ((cz 2).v * (ct [(3, 1)] 0).k.v) = ct [(3, 2)] 0 := by
  rw [vl_ct, kv_ct, cz_v]; rfl
theorem aw2 : ct (vl (ct [(3, 2)] 0).ps ++ sc (-1) (vl (ct [] (cz 5).v).ps)) ((ct [(3, 2)] 0).k.v - (ct [] (cz 5).v).k.v) = ct [(3, 2)] (-5) := by
  rw [vl_ct, kv_ct, vl_ct, kv_ct, cz_v]; rfl
theorem aw_sz {l : List (Int × Int)} {k : Int} (hl : l.length ≤ 4) (h : ∀ p ∈ l, -4294967296 < p.2 ∧ p.2 < 4294967296) (hk : -4294967296 < k ∧ k < 4294967296) : (ct l k).sz 8 :=
  ct_sz (N := 4) (M := 4) hl (fun p hp => Nat.le_trans (zl_word (x := p.2) (by have := h p hp; omega)) (by omega)) (Nat.le_trans (zl_word (x := k) (by omega)) (by omega))
theorem aw_ev (w : World) (X : Nat → Prop) (e : Ending) : EvR w X e (ct [(3, 2)] (-5)) [(3, cz 4)] = ∃ r, e = .returned (.tuple #[r, .int .i64 0]) ∧ Zi w X r (cz 3) := by
  unfold EvR
  rw [vl_ct, kv_ct]
  have h1 : cn (cn [(3, 2)]) = [(3, 2)] := by decide
  have h2 : cn [((3 : Int), (2 : Int))] = [(3, 2)] := by decide
  rw [h1, if_pos (by simp [cov, lk]), h2]
  simp only [ev, fv, lk, if_true, Option.getD_some, cz_v]
  rfl
theorem aw_is : ((cz 3).ok && decide ((cz 3).v = (cz 3).v)) = true := by
  rw [Bool.and_eq_true, decide_eq_true_eq]
  refine ⟨(ok_iff (lb_lim _)).2 (by rw [cz_v]), rfl⟩
theorem aw_vars : (ct [(3, 2)] (-5)).vars = [3] := by
  unfold T.vars
  rw [vl_ct]; decide

set_option maxHeartbeats 1600000 in
theorem awake_c (w : World) : Calls Try.prog 11 #[] w fun e w' => e = .returned (.bool true) ∧ Ext w w' := by
  obtain ⟨tt, htt⟩ : ∃ tt, tt = ct [(3, 2)] (-5) := ⟨_, rfl⟩
  have hev := aw_ev
  have hvs := aw_vars
  have hsz : (ct [(3, 2)] (-5)).sz 8 := aw_sz (by simp) (by simp) (by omega)
  rw [← htt] at hev hvs hsz
  have Htt := Lib.hid htt; clear htt; have Hev := Lib.hid hev; have Hvs := Lib.hid hvs
  clear hev hvs
  go_enter Try.func11, Try.ntmps11
  go_wp2_with fail
  refine (zof_c 2 (by omega) (by omega) _).mono ?_
  rintro e w1 ⟨r1, rfl, hz1, hx1⟩
  go_wp2_with fail
  refine (tvar_c (x := 3) ⟨by omega, by omega⟩).mono ?_
  rintro e w2 ⟨r2, rfl, ht2, hx2⟩
  go_wp2_with fail
  refine (tscale_c (N := 8) (hz1.ext hx2) ht2 (by omega) (by rw [cz_len]; exact Nat.le_trans (zl_word (x := 2) (by omega)) (by omega)) (aw_sz (by simp) (by simp) (by omega))).mono ?_
  rw [aw1]
  rintro e w3 ⟨r3, rfl, ht3, hx3⟩
  go_wp2_with fail
  refine (zof_c 5 (by omega) (by omega) _).mono ?_
  rintro e w4 ⟨r4, rfl, hz4, hx4⟩
  go_wp2_with fail
  refine (tconst_c hz4 (by rw [cz_len]; exact Nat.le_trans (zl_word (x := 5) (by omega)) (by omega))).mono ?_
  rintro e w5 ⟨r5, rfl, ht5, hx5⟩
  go_wp2_with fail
  refine (tsub_c (N := 8) ((ht3.ext hx4).ext hx5) ht5 (by omega) (by omega) (aw_sz (by simp) (by simp) (by omega)) (aw_sz (by simp) (by simp) (by rw [cz_v]; omega))).mono ?_
  rw [aw2, ← Htt.out]
  rintro e w6 ⟨r6, rfl, ⟨A6, c6, B6, d6, rfl, h61, h62⟩, hx6⟩
  have hE6 : Ext w w6 := (by repeat (first | with_reducible assumption | with_reducible exact Ext.refl _ | with_reducible refine Ext.drewN ?_ _ | with_reducible refine Ext.drew ?_ | with_reducible refine Ext.alloc ?_ _ | (with_reducible refine Ext.setCell ?_ ?_ _; rotate_left; (first | exact Nat.le_refl _ | (dsimp only; omega) | (simp only [wsz]; omega))) | (with_reducible refine Ext.trans ?_ (by with_reducible assumption))))
  go_wp2_with fail
  refine wp_named fun W hW => ?_
  obtain ⟨g1, hg1⟩ : ∃ g1, g1 = w6.heap.size := ⟨_, rfl⟩
  rw [← hg1]
  have hx7 : Ext w6 W := by rw [hW]; exact (by repeat (first | with_reducible assumption | with_reducible exact Ext.refl _ | with_reducible refine Ext.drewN ?_ _ | with_reducible refine Ext.drew ?_ | with_reducible refine Ext.alloc ?_ _ | (with_reducible refine Ext.setCell ?_ ?_ _; rotate_left; (first | exact Nat.le_refl _ | (dsimp only; omega) | (simp only [wsz]; omega))) | (with_reducible refine Ext.trans ?_ (by with_reducible assumption))))
  have hb1 : Box W g1 27 #[.slice A6 tt.ps.length c6, .bool tt.k.neg, .slice B6 tt.k.mag.length d6] := by rw [hW, hg1]; exact Box.new _ _ _
  have ht : Tv W (fun _ => True) (.agg #[.slice A6 tt.ps.length c6, .bool tt.k.neg, .slice B6 tt.k.mag.length d6]) tt := (Tv.widen ⟨_, _, _, _, rfl, h61, h62⟩ fun _ _ _ => trivial).ext hx7
  have hEW := hE6.trans hx7
  clear hW hg1 h61 h62 hx7 hE6 hx6 hx5 hx4 hx3 hx2 hx1 hz1 ht2 ht3 hz4 ht5
  have hb1r := hb1.rules
  have hb1l := hb1.lt
  refine wp_region_od (.quiet 0 (.two 1 8 (.quiet 2 (.two 3 8 (.two 4 8 (.quiet 5 (.quiet 6 (.quiet 7 (.loud 8 (.loud 9 (.loud 10 .done)))))) (.loud 4 (.quiet 5 (.quiet 6 (.quiet 7 (.loud 9 (.loud 10 .done))))))) (.loud 3 (.loud 4 (.quiet 5 (.quiet 6 (.quiet 7 (.loud 9 (.loud 10 .done))))))))) (.loud 1 (.quiet 2 (.loud 3 (.loud 4 (.quiet 5 (.quiet 6 (.quiet 7 (.loud 9 (.loud 10 .done)))))))))))
    rfl (by kernel_rfl) (by intro _ _ d _ _ h; cases d <;> exact h) ?_
  obtain ⟨V, hV⟩ : ∃ V, V = W.drew := ⟨_, rfl⟩
  have hVx : Ext W V := by rw [hV]; exact (by repeat (first | with_reducible assumption | with_reducible exact Ext.refl _ | with_reducible refine Ext.drewN ?_ _ | with_reducible refine Ext.drew ?_ | with_reducible refine Ext.alloc ?_ _ | (with_reducible refine Ext.setCell ?_ ?_ _; rotate_left; (first | exact Nat.le_refl _ | (dsimp only; omega) | (simp only [wsz]; omega))) | (with_reducible refine Ext.trans ?_ (by with_reducible assumption))))
  rw [← hV]
  clear hV hb1r
  have hb1V := hb1.ext hVx
  have hb1r := hb1V.rules
  have hb1l2 := hb1V.lt
  (repeat (refine od_take (v := ?_) rfl rfl ?_ ?_; rotate_left; (intro w' hx'; have hc' := hx'.cells.1; (try simp only [wcd] at hc'); go_simp; (first | done | with_reducible rfl)); (try simp only [Act.put, List.setIfInBounds_toArray, List.set_cons_zero, List.set_cons_succ])))
  refine od_two rfl rfl rfl rfl (fun K hK => ?zof) (fun K hK => ?A0)
  case' zof =>
      go_simp
      refine (zof_c 4 (by omega) (by omega) _).mono ?_
      rintro e wz ⟨rz, rfl, ⟨Az, dz, rfl, hz⟩, hxz⟩
      (have hszz := Ext.size hxz; (try simp only [wsz] at hszz))
      refine hK _ _ (by repeat (first | with_reducible assumption | with_reducible exact Ext.refl _ | with_reducible refine Ext.drewN ?_ _ | with_reducible refine Ext.drew ?_ | with_reducible refine Ext.alloc ?_ _ | (with_reducible refine Ext.setCell ?_ ?_ _; rotate_left; (first | exact Nat.le_refl _ | (dsimp only; omega) | (simp only [wsz]; omega))) | (with_reducible refine Ext.trans ?_ (by with_reducible assumption)))) ?_
      clear hK K
      (try simp only [Act.put, List.setIfInBounds_toArray, List.set_cons_zero, List.set_cons_succ])
      (repeat (refine od_take (v := ?_) rfl rfl ?_ ?_; rotate_left; (intro w' hx'; have hc' := hx'.cells.1; (try simp only [wcd] at hc'); go_simp; (first | done | with_reducible rfl)); (try simp only [Act.put, List.setIfInBounds_toArray, List.set_cons_zero, List.set_cons_succ])))
      refine od_two rfl rfl rfl rfl (fun K hK => ?bs) (fun K hK => ?B0)
  case' bs =>
      go_simp
      refine hK _ _ (by repeat (first | with_reducible assumption | with_reducible exact Ext.refl _ | with_reducible refine Ext.drewN ?_ _ | with_reducible refine Ext.drew ?_ | with_reducible refine Ext.alloc ?_ _ | (with_reducible refine Ext.setCell ?_ ?_ _; rotate_left; (first | exact Nat.le_refl _ | (dsimp only; omega) | (simp only [wsz]; omega))) | (with_reducible refine Ext.trans ?_ (by with_reducible assumption)))) ?_
      clear hK K
      (try simp only [Act.put, List.setIfInBounds_toArray, List.set_cons_zero, List.set_cons_succ])
      obtain ⟨W2, hW2⟩ : ∃ W2, W2 = wz.alloc (.cells #[.int .i64 3, .bool (cz 4).neg, .slice Az (cz 4).mag.length dz] 52) := ⟨_, rfl⟩
      obtain ⟨gv, hgv⟩ : ∃ gv, gv = wz.heap.size := ⟨_, rfl⟩
      have hxW2 : Ext wz W2 := by rw [hW2]; exact (by repeat (first | with_reducible assumption | with_reducible exact Ext.refl _ | with_reducible refine Ext.drewN ?_ _ | with_reducible refine Ext.drew ?_ | with_reducible refine Ext.alloc ?_ _ | (with_reducible refine Ext.setCell ?_ ?_ _; rotate_left; (first | exact Nat.le_refl _ | (dsimp only; omega) | (simp only [wsz]; omega))) | (with_reducible refine Ext.trans ?_ (by with_reducible assumption))))
      have hlgv : wz.heap.size ≤ gv ∧ gv ≤ wz.heap.size ∧ wz.heap.size + 1 ≤ W2.heap.size ∧ W2.heap.size ≤ wz.heap.size + 1 := by rw [hW2, hgv]; simp
      have hPl : Pl W2 (fun _ => True) (some ⟨gv, 0, none⟩) 1 [(3, cz 4)] := by rw [hW2]; exact Pl.litv hgv trivial ⟨by omega, by omega⟩ (Nl.widen (hz.ext (by repeat (first | with_reducible assumption | with_reducible exact Ext.refl _ | with_reducible refine Ext.drewN ?_ _ | with_reducible refine Ext.drew ?_ | with_reducible refine Ext.alloc ?_ _ | (with_reducible refine Ext.setCell ?_ ?_ _; rotate_left; (first | exact Nat.le_refl _ | (dsimp only; omega) | (simp only [wsz]; omega))) | (with_reducible refine Ext.trans ?_ (by with_reducible assumption))))) fun _ _ _ => trivial)
      rw [← hW2, ← hgv]
      clear hW2 hgv
      refine od_two rfl rfl rfl rfl (fun K hK => ?ev) (fun K hK => ?C0)
  case' ev =>
      go_simp
      refine (teval_c (N := 8) (ht.ext (hVx.trans (by repeat (first | with_reducible assumption | with_reducible exact Ext.refl _ | with_reducible refine Ext.drewN ?_ _ | with_reducible refine Ext.drew ?_ | with_reducible refine Ext.alloc ?_ _ | (with_reducible refine Ext.setCell ?_ ?_ _; rotate_left; (first | exact Nat.le_refl _ | (dsimp only; omega) | (simp only [wsz]; omega))) | (with_reducible refine Ext.trans ?_ (by with_reducible assumption)))))) (hPl.ext (by repeat (first | with_reducible assumption | with_reducible exact Ext.refl _ | with_reducible refine Ext.drewN ?_ _ | with_reducible refine Ext.drew ?_ | with_reducible refine Ext.alloc ?_ _ | (with_reducible refine Ext.setCell ?_ ?_ _; rotate_left; (first | exact Nat.le_refl _ | (dsimp only; omega) | (simp only [wsz]; omega))) | (with_reducible refine Ext.trans ?_ (by with_reducible assumption))))) (by omega) hsz (by intro p hp; rw [List.mem_singleton.1 hp, cz_len]; exact Nat.le_trans (zl_word (x := 4) (by omega)) (by omega))).mono ?_
      rintro e we ⟨hr, hxe⟩
      rw [Hev.out] at hr
      obtain ⟨r9, rfl, ⟨A9, c9, rfl, h9⟩⟩ := hr
      (have hsze := Ext.size hxe; (try simp only [wsz] at hsze))
      refine hK _ _ (by repeat (first | with_reducible assumption | with_reducible exact Ext.refl _ | with_reducible refine Ext.drewN ?_ _ | with_reducible refine Ext.drew ?_ | with_reducible refine Ext.alloc ?_ _ | (with_reducible refine Ext.setCell ?_ ?_ _; rotate_left; (first | exact Nat.le_refl _ | (dsimp only; omega) | (simp only [wsz]; omega))) | (with_reducible refine Ext.trans ?_ (by with_reducible assumption)))) ?_
      clear hK K
      (try simp only [Act.put, List.setIfInBounds_toArray, List.set_cons_zero, List.set_cons_succ])
      (repeat (refine od_take (v := ?_) rfl rfl ?_ ?_; rotate_left; (intro w' hx'; have hc' := hx'.cells.1; (try simp only [wcd] at hc'); go_simp; (first | done | with_reducible rfl)); (try simp only [Act.put, List.setIfInBounds_toArray, List.set_cons_zero, List.set_cons_succ])))
      refine od_loud rfl rfl fun K hK => ?_
      go_simp
      refine hK _ _ (by repeat (first | with_reducible assumption | with_reducible exact Ext.refl _ | with_reducible refine Ext.drewN ?_ _ | with_reducible refine Ext.drew ?_ | with_reducible refine Ext.alloc ?_ _ | (with_reducible refine Ext.setCell ?_ ?_ _; rotate_left; (first | exact Nat.le_refl _ | (dsimp only; omega) | (simp only [wsz]; omega))) | (with_reducible refine Ext.trans ?_ (by with_reducible assumption)))) ?_
      clear hK K
      (try simp only [Act.put, List.setIfInBounds_toArray, List.set_cons_zero, List.set_cons_succ])
      obtain ⟨W4, hW4⟩ : ∃ W4, W4 = we.alloc (.cells #[.bool false, .slice none 0 0] 25) := ⟨_, rfl⟩
      obtain ⟨g, hg⟩ : ∃ g, g = we.heap.size := ⟨_, rfl⟩
      have hxW4 : Ext we W4 := by rw [hW4]; exact (by repeat (first | with_reducible assumption | with_reducible exact Ext.refl _ | with_reducible refine Ext.drewN ?_ _ | with_reducible refine Ext.drew ?_ | with_reducible refine Ext.alloc ?_ _ | (with_reducible refine Ext.setCell ?_ ?_ _; rotate_left; (first | exact Nat.le_refl _ | (dsimp only; omega) | (simp only [wsz]; omega))) | (with_reducible refine Ext.trans ?_ (by with_reducible assumption))))
      have hlg : we.heap.size ≤ g ∧ g ≤ we.heap.size ∧ we.heap.size + 1 ≤ W4.heap.size ∧ W4.heap.size ≤ we.heap.size + 1 := by rw [hW4, hg]; simp
      have hbg : Box W4 g 25 #[.bool false, .slice none 0 0] := by rw [hW4, hg]; exact Box.new _ _ _
      rw [← hW4, ← hg]
      clear hW4 hg
      have hVW : Ext V W4 := (by repeat (first | with_reducible assumption | with_reducible exact Ext.refl _ | with_reducible refine Ext.drewN ?_ _ | with_reducible refine Ext.drew ?_ | with_reducible refine Ext.alloc ?_ _ | (with_reducible refine Ext.setCell ?_ ?_ _; rotate_left; (first | exact Nat.le_refl _ | (dsimp only; omega) | (simp only [wsz]; omega))) | (with_reducible refine Ext.trans ?_ (by with_reducible assumption))))
      have hN : Nl W4 (fun c => c ≠ g) A9 c9 (cz 3).mag := (h9.widen (Y := fun c => c ≠ g) fun c _ hl => by omega).ext hxW4
      have fin := aw_at (g := g) hEW (hVx.trans hVW) (hEW.size) hb1 ht (by have := hVx.size; omega) hbg hN
      have hbr := hbg.rules
      have hbl := hbg.lt
      (refine od_loud rfl rfl fun K hK => ?_; go_simp)
      refine hK _ _ (by repeat (first | with_reducible assumption | with_reducible exact Ext.refl _ | with_reducible refine Ext.drewN ?_ _ | with_reducible refine Ext.drew ?_ | with_reducible refine Ext.alloc ?_ _ | (with_reducible refine Ext.setCell ?_ ?_ _; rotate_left; (first | exact Nat.le_refl _ | (dsimp only; omega) | (simp only [wsz]; omega))) | (with_reducible refine Ext.trans ?_ (by with_reducible assumption)))) ?_
      clear hK K
      (try simp only [Act.put, List.setIfInBounds_toArray, List.set_cons_zero, List.set_cons_succ])
      obtain ⟨Wf, hWf⟩ : ∃ Wf, Wf = ((W4.setCell ⟨g, 0, none⟩ (.bool (cz 3).neg)).setCell ⟨g, 1, none⟩ (.slice A9 (cz 3).mag.length c9)) := ⟨_, rfl⟩
      have hxf : Ext V Wf := by rw [hWf]; exact (by repeat (first | with_reducible assumption | with_reducible exact Ext.refl _ | with_reducible refine Ext.drewN ?_ _ | with_reducible refine Ext.drew ?_ | with_reducible refine Ext.alloc ?_ _ | (with_reducible refine Ext.setCell ?_ ?_ _; rotate_left; (first | exact Nat.le_refl _ | (dsimp only; omega) | (simp only [wsz]; omega))) | (with_reducible refine Ext.trans ?_ (by with_reducible assumption))))
      rw [← hWf] at fin ⊢
      clear hWf
      (refine od_loud rfl rfl fun K hK => ?_; go_simp)
      refine hK _ _ (by repeat (first | with_reducible assumption | with_reducible exact Ext.refl _ | with_reducible refine Ext.drewN ?_ _ | with_reducible refine Ext.drew ?_ | with_reducible refine Ext.alloc ?_ _ | (with_reducible refine Ext.setCell ?_ ?_ _; rotate_left; (first | exact Nat.le_refl _ | (dsimp only; omega) | (simp only [wsz]; omega))) | (with_reducible refine Ext.trans ?_ (by with_reducible assumption)))) ?_
      clear hK K
      (try simp only [Act.put, List.setIfInBounds_toArray, List.set_cons_zero, List.set_cons_succ])
      refine od_done ?_
  case' C0 =>
      go_simp
      refine hK _ _ (by repeat (first | with_reducible assumption | with_reducible exact Ext.refl _ | with_reducible refine Ext.drewN ?_ _ | with_reducible refine Ext.drew ?_ | with_reducible refine Ext.alloc ?_ _ | (with_reducible refine Ext.setCell ?_ ?_ _; rotate_left; (first | exact Nat.le_refl _ | (dsimp only; omega) | (simp only [wsz]; omega))) | (with_reducible refine Ext.trans ?_ (by with_reducible assumption)))) ?_
      clear hK K
      (try simp only [Act.put, List.setIfInBounds_toArray, List.set_cons_zero, List.set_cons_succ])
      obtain ⟨W3, hW3⟩ : ∃ W3, W3 = W2.alloc (.cells #[.bool false, .slice none 0 0] 25) := ⟨_, rfl⟩
      obtain ⟨g, hg⟩ : ∃ g, g = W2.heap.size := ⟨_, rfl⟩
      have hxW3 : Ext W2 W3 := by rw [hW3]; exact (by repeat (first | with_reducible assumption | with_reducible exact Ext.refl _ | with_reducible refine Ext.drewN ?_ _ | with_reducible refine Ext.drew ?_ | with_reducible refine Ext.alloc ?_ _ | (with_reducible refine Ext.setCell ?_ ?_ _; rotate_left; (first | exact Nat.le_refl _ | (dsimp only; omega) | (simp only [wsz]; omega))) | (with_reducible refine Ext.trans ?_ (by with_reducible assumption))))
      have hlg : W2.heap.size ≤ g ∧ g ≤ W2.heap.size ∧ W2.heap.size + 1 ≤ W3.heap.size ∧ W3.heap.size ≤ W2.heap.size + 1 := by rw [hW3, hg]; simp
      have hbg : Box W3 g 25 #[.bool false, .slice none 0 0] := by rw [hW3, hg]; exact Box.new _ _ _
      rw [← hW3, ← hg]
      clear hW3 hg
      refine od_loud rfl rfl fun K hK => ?_
      go_simp
      refine (teval_c (N := 8) (ht.ext (hVx.trans (by repeat (first | with_reducible assumption | with_reducible exact Ext.refl _ | with_reducible refine Ext.drewN ?_ _ | with_reducible refine Ext.drew ?_ | with_reducible refine Ext.alloc ?_ _ | (with_reducible refine Ext.setCell ?_ ?_ _; rotate_left; (first | exact Nat.le_refl _ | (dsimp only; omega) | (simp only [wsz]; omega))) | (with_reducible refine Ext.trans ?_ (by with_reducible assumption)))))) (hPl.ext (by repeat (first | with_reducible assumption | with_reducible exact Ext.refl _ | with_reducible refine Ext.drewN ?_ _ | with_reducible refine Ext.drew ?_ | with_reducible refine Ext.alloc ?_ _ | (with_reducible refine Ext.setCell ?_ ?_ _; rotate_left; (first | exact Nat.le_refl _ | (dsimp only; omega) | (simp only [wsz]; omega))) | (with_reducible refine Ext.trans ?_ (by with_reducible assumption))))) (by omega) hsz (by intro p hp; rw [List.mem_singleton.1 hp, cz_len]; exact Nat.le_trans (zl_word (x := 4) (by omega)) (by omega))).mono ?_
      rintro e we ⟨hr, hxe⟩
      rw [Hev.out] at hr
      obtain ⟨r9, rfl, ⟨A9, c9, rfl, h9⟩⟩ := hr
      (have hsze := Ext.size hxe; (try simp only [wsz] at hsze))
      refine hK _ _ (by repeat (first | with_reducible assumption | with_reducible exact Ext.refl _ | with_reducible refine Ext.drewN ?_ _ | with_reducible refine Ext.drew ?_ | with_reducible refine Ext.alloc ?_ _ | (with_reducible refine Ext.setCell ?_ ?_ _; rotate_left; (first | exact Nat.le_refl _ | (dsimp only; omega) | (simp only [wsz]; omega))) | (with_reducible refine Ext.trans ?_ (by with_reducible assumption)))) ?_
      clear hK K
      (try simp only [Act.put, List.setIfInBounds_toArray, List.set_cons_zero, List.set_cons_succ])
      (repeat (refine od_take (v := ?_) rfl rfl ?_ ?_; rotate_left; (intro w' hx'; have hc' := hx'.cells.1; (try simp only [wcd] at hc'); go_simp; (first | done | with_reducible rfl)); (try simp only [Act.put, List.setIfInBounds_toArray, List.set_cons_zero, List.set_cons_succ])))
      have hVW : Ext V we := (by repeat (first | with_reducible assumption | with_reducible exact Ext.refl _ | with_reducible refine Ext.drewN ?_ _ | with_reducible refine Ext.drew ?_ | with_reducible refine Ext.alloc ?_ _ | (with_reducible refine Ext.setCell ?_ ?_ _; rotate_left; (first | exact Nat.le_refl _ | (dsimp only; omega) | (simp only [wsz]; omega))) | (with_reducible refine Ext.trans ?_ (by with_reducible assumption))))
      have hbg := hbg.ext hxe
      have hN : Nl we (fun c => c ≠ g) A9 c9 (cz 3).mag := h9.widen fun c hc hl => by omega
      have fin := aw_at (g := g) hEW (hVx.trans hVW) (hEW.size) hb1 ht (by have := hVx.size; omega) hbg hN
      have hbr := hbg.rules
      have hbl := hbg.lt
      (refine od_loud rfl rfl fun K hK => ?_; go_simp)
      refine hK _ _ (by repeat (first | with_reducible assumption | with_reducible exact Ext.refl _ | with_reducible refine Ext.drewN ?_ _ | with_reducible refine Ext.drew ?_ | with_reducible refine Ext.alloc ?_ _ | (with_reducible refine Ext.setCell ?_ ?_ _; rotate_left; (first | exact Nat.le_refl _ | (dsimp only; omega) | (simp only [wsz]; omega))) | (with_reducible refine Ext.trans ?_ (by with_reducible assumption)))) ?_
      clear hK K
      (try simp only [Act.put, List.setIfInBounds_toArray, List.set_cons_zero, List.set_cons_succ])
      obtain ⟨Wf, hWf⟩ : ∃ Wf, Wf = ((we.setCell ⟨g, 0, none⟩ (.bool (cz 3).neg)).setCell ⟨g, 1, none⟩ (.slice A9 (cz 3).mag.length c9)) := ⟨_, rfl⟩
      have hxf : Ext V Wf := by rw [hWf]; exact (by repeat (first | with_reducible assumption | with_reducible exact Ext.refl _ | with_reducible refine Ext.drewN ?_ _ | with_reducible refine Ext.drew ?_ | with_reducible refine Ext.alloc ?_ _ | (with_reducible refine Ext.setCell ?_ ?_ _; rotate_left; (first | exact Nat.le_refl _ | (dsimp only; omega) | (simp only [wsz]; omega))) | (with_reducible refine Ext.trans ?_ (by with_reducible assumption))))
      rw [← hWf] at fin ⊢
      clear hWf
      (refine od_loud rfl rfl fun K hK => ?_; go_simp)
      refine hK _ _ (by repeat (first | with_reducible assumption | with_reducible exact Ext.refl _ | with_reducible refine Ext.drewN ?_ _ | with_reducible refine Ext.drew ?_ | with_reducible refine Ext.alloc ?_ _ | (with_reducible refine Ext.setCell ?_ ?_ _; rotate_left; (first | exact Nat.le_refl _ | (dsimp only; omega) | (simp only [wsz]; omega))) | (with_reducible refine Ext.trans ?_ (by with_reducible assumption)))) ?_
      clear hK K
      (try simp only [Act.put, List.setIfInBounds_toArray, List.set_cons_zero, List.set_cons_succ])
      refine od_done ?_
  case' B0 =>
      go_simp
      refine hK _ _ (by repeat (first | with_reducible assumption | with_reducible exact Ext.refl _ | with_reducible refine Ext.drewN ?_ _ | with_reducible refine Ext.drew ?_ | with_reducible refine Ext.alloc ?_ _ | (with_reducible refine Ext.setCell ?_ ?_ _; rotate_left; (first | exact Nat.le_refl _ | (dsimp only; omega) | (simp only [wsz]; omega))) | (with_reducible refine Ext.trans ?_ (by with_reducible assumption)))) ?_
      clear hK K
      (try simp only [Act.put, List.setIfInBounds_toArray, List.set_cons_zero, List.set_cons_succ])
      obtain ⟨W2, hW2⟩ : ∃ W2, W2 = wz.alloc (.cells #[.bool false, .slice none 0 0] 25) := ⟨_, rfl⟩
      obtain ⟨g, hg⟩ : ∃ g, g = wz.heap.size := ⟨_, rfl⟩
      have hxW2 : Ext wz W2 := by rw [hW2]; exact (by repeat (first | with_reducible assumption | with_reducible exact Ext.refl _ | with_reducible refine Ext.drewN ?_ _ | with_reducible refine Ext.drew ?_ | with_reducible refine Ext.alloc ?_ _ | (with_reducible refine Ext.setCell ?_ ?_ _; rotate_left; (first | exact Nat.le_refl _ | (dsimp only; omega) | (simp only [wsz]; omega))) | (with_reducible refine Ext.trans ?_ (by with_reducible assumption))))
      have hlg : wz.heap.size ≤ g ∧ g ≤ wz.heap.size ∧ wz.heap.size + 1 ≤ W2.heap.size ∧ W2.heap.size ≤ wz.heap.size + 1 := by rw [hW2, hg]; simp
      have hbg : Box W2 g 25 #[.bool false, .slice none 0 0] := by rw [hW2, hg]; exact Box.new _ _ _
      rw [← hW2, ← hg]
      clear hW2 hg
      refine od_loud rfl rfl fun K hK => ?_
      go_simp
      refine hK _ _ (by repeat (first | with_reducible assumption | with_reducible exact Ext.refl _ | with_reducible refine Ext.drewN ?_ _ | with_reducible refine Ext.drew ?_ | with_reducible refine Ext.alloc ?_ _ | (with_reducible refine Ext.setCell ?_ ?_ _; rotate_left; (first | exact Nat.le_refl _ | (dsimp only; omega) | (simp only [wsz]; omega))) | (with_reducible refine Ext.trans ?_ (by with_reducible assumption)))) ?_
      clear hK K
      (try simp only [Act.put, List.setIfInBounds_toArray, List.set_cons_zero, List.set_cons_succ])
      obtain ⟨W3, hW3⟩ : ∃ W3, W3 = W2.alloc (.cells #[.int .i64 3, .bool (cz 4).neg, .slice Az (cz 4).mag.length dz] 52) := ⟨_, rfl⟩
      obtain ⟨gv, hgv⟩ : ∃ gv, gv = W2.heap.size := ⟨_, rfl⟩
      have hxW3 : Ext W2 W3 := by rw [hW3]; exact (by repeat (first | with_reducible assumption | with_reducible exact Ext.refl _ | with_reducible refine Ext.drewN ?_ _ | with_reducible refine Ext.drew ?_ | with_reducible refine Ext.alloc ?_ _ | (with_reducible refine Ext.setCell ?_ ?_ _; rotate_left; (first | exact Nat.le_refl _ | (dsimp only; omega) | (simp only [wsz]; omega))) | (with_reducible refine Ext.trans ?_ (by with_reducible assumption))))
      have hlgv : W2.heap.size ≤ gv ∧ gv ≤ W2.heap.size ∧ W2.heap.size + 1 ≤ W3.heap.size ∧ W3.heap.size ≤ W2.heap.size + 1 := by rw [hW3, hgv]; simp
      have hPl : Pl W3 (fun _ => True) (some ⟨gv, 0, none⟩) 1 [(3, cz 4)] := by rw [hW3]; exact Pl.litv hgv trivial ⟨by omega, by omega⟩ (Nl.widen (hz.ext (by repeat (first | with_reducible assumption | with_reducible exact Ext.refl _ | with_reducible refine Ext.drewN ?_ _ | with_reducible refine Ext.drew ?_ | with_reducible refine Ext.alloc ?_ _ | (with_reducible refine Ext.setCell ?_ ?_ _; rotate_left; (first | exact Nat.le_refl _ | (dsimp only; omega) | (simp only [wsz]; omega))) | (with_reducible refine Ext.trans ?_ (by with_reducible assumption))))) fun _ _ _ => trivial)
      rw [← hW3, ← hgv]
      clear hW3 hgv
      refine od_loud rfl rfl fun K hK => ?_
      go_simp
      refine (teval_c (N := 8) (ht.ext (hVx.trans (by repeat (first | with_reducible assumption | with_reducible exact Ext.refl _ | with_reducible refine Ext.drewN ?_ _ | with_reducible refine Ext.drew ?_ | with_reducible refine Ext.alloc ?_ _ | (with_reducible refine Ext.setCell ?_ ?_ _; rotate_left; (first | exact Nat.le_refl _ | (dsimp only; omega) | (simp only [wsz]; omega))) | (with_reducible refine Ext.trans ?_ (by with_reducible assumption)))))) (hPl.ext (by repeat (first | with_reducible assumption | with_reducible exact Ext.refl _ | with_reducible refine Ext.drewN ?_ _ | with_reducible refine Ext.drew ?_ | with_reducible refine Ext.alloc ?_ _ | (with_reducible refine Ext.setCell ?_ ?_ _; rotate_left; (first | exact Nat.le_refl _ | (dsimp only; omega) | (simp only [wsz]; omega))) | (with_reducible refine Ext.trans ?_ (by with_reducible assumption))))) (by omega) hsz (by intro p hp; rw [List.mem_singleton.1 hp, cz_len]; exact Nat.le_trans (zl_word (x := 4) (by omega)) (by omega))).mono ?_
      rintro e we ⟨hr, hxe⟩
      rw [Hev.out] at hr
      obtain ⟨r9, rfl, ⟨A9, c9, rfl, h9⟩⟩ := hr
      (have hsze := Ext.size hxe; (try simp only [wsz] at hsze))
      refine hK _ _ (by repeat (first | with_reducible assumption | with_reducible exact Ext.refl _ | with_reducible refine Ext.drewN ?_ _ | with_reducible refine Ext.drew ?_ | with_reducible refine Ext.alloc ?_ _ | (with_reducible refine Ext.setCell ?_ ?_ _; rotate_left; (first | exact Nat.le_refl _ | (dsimp only; omega) | (simp only [wsz]; omega))) | (with_reducible refine Ext.trans ?_ (by with_reducible assumption)))) ?_
      clear hK K
      (try simp only [Act.put, List.setIfInBounds_toArray, List.set_cons_zero, List.set_cons_succ])
      (repeat (refine od_take (v := ?_) rfl rfl ?_ ?_; rotate_left; (intro w' hx'; have hc' := hx'.cells.1; (try simp only [wcd] at hc'); go_simp; (first | done | with_reducible rfl)); (try simp only [Act.put, List.setIfInBounds_toArray, List.set_cons_zero, List.set_cons_succ])))
      have hVW : Ext V we := (by repeat (first | with_reducible assumption | with_reducible exact Ext.refl _ | with_reducible refine Ext.drewN ?_ _ | with_reducible refine Ext.drew ?_ | with_reducible refine Ext.alloc ?_ _ | (with_reducible refine Ext.setCell ?_ ?_ _; rotate_left; (first | exact Nat.le_refl _ | (dsimp only; omega) | (simp only [wsz]; omega))) | (with_reducible refine Ext.trans ?_ (by with_reducible assumption))))
      have hbg := (hbg.ext hxW3).ext hxe
      have hN : Nl we (fun c => c ≠ g) A9 c9 (cz 3).mag := h9.widen fun c hc hl => by omega
      have fin := aw_at (g := g) hEW (hVx.trans hVW) (hEW.size) hb1 ht (by have := hVx.size; omega) hbg hN
      have hbr := hbg.rules
      have hbl := hbg.lt
      (refine od_loud rfl rfl fun K hK => ?_; go_simp)
      refine hK _ _ (by repeat (first | with_reducible assumption | with_reducible exact Ext.refl _ | with_reducible refine Ext.drewN ?_ _ | with_reducible refine Ext.drew ?_ | with_reducible refine Ext.alloc ?_ _ | (with_reducible refine Ext.setCell ?_ ?_ _; rotate_left; (first | exact Nat.le_refl _ | (dsimp only; omega) | (simp only [wsz]; omega))) | (with_reducible refine Ext.trans ?_ (by with_reducible assumption)))) ?_
      clear hK K
      (try simp only [Act.put, List.setIfInBounds_toArray, List.set_cons_zero, List.set_cons_succ])
      obtain ⟨Wf, hWf⟩ : ∃ Wf, Wf = ((we.setCell ⟨g, 0, none⟩ (.bool (cz 3).neg)).setCell ⟨g, 1, none⟩ (.slice A9 (cz 3).mag.length c9)) := ⟨_, rfl⟩
      have hxf : Ext V Wf := by rw [hWf]; exact (by repeat (first | with_reducible assumption | with_reducible exact Ext.refl _ | with_reducible refine Ext.drewN ?_ _ | with_reducible refine Ext.drew ?_ | with_reducible refine Ext.alloc ?_ _ | (with_reducible refine Ext.setCell ?_ ?_ _; rotate_left; (first | exact Nat.le_refl _ | (dsimp only; omega) | (simp only [wsz]; omega))) | (with_reducible refine Ext.trans ?_ (by with_reducible assumption))))
      rw [← hWf] at fin ⊢
      clear hWf
      (refine od_loud rfl rfl fun K hK => ?_; go_simp)
      refine hK _ _ (by repeat (first | with_reducible assumption | with_reducible exact Ext.refl _ | with_reducible refine Ext.drewN ?_ _ | with_reducible refine Ext.drew ?_ | with_reducible refine Ext.alloc ?_ _ | (with_reducible refine Ext.setCell ?_ ?_ _; rotate_left; (first | exact Nat.le_refl _ | (dsimp only; omega) | (simp only [wsz]; omega))) | (with_reducible refine Ext.trans ?_ (by with_reducible assumption)))) ?_
      clear hK K
      (try simp only [Act.put, List.setIfInBounds_toArray, List.set_cons_zero, List.set_cons_succ])
      refine od_done ?_
  case' A0 =>
      go_simp
      refine hK _ _ (by repeat (first | with_reducible assumption | with_reducible exact Ext.refl _ | with_reducible refine Ext.drewN ?_ _ | with_reducible refine Ext.drew ?_ | with_reducible refine Ext.alloc ?_ _ | (with_reducible refine Ext.setCell ?_ ?_ _; rotate_left; (first | exact Nat.le_refl _ | (dsimp only; omega) | (simp only [wsz]; omega))) | (with_reducible refine Ext.trans ?_ (by with_reducible assumption)))) ?_
      clear hK K
      (try simp only [Act.put, List.setIfInBounds_toArray, List.set_cons_zero, List.set_cons_succ])
      obtain ⟨W1, hW1⟩ : ∃ W1, W1 = V.alloc (.cells #[.bool false, .slice none 0 0] 25) := ⟨_, rfl⟩
      obtain ⟨g, hg⟩ : ∃ g, g = V.heap.size := ⟨_, rfl⟩
      have hxW1 : Ext V W1 := by rw [hW1]; exact (by repeat (first | with_reducible assumption | with_reducible exact Ext.refl _ | with_reducible refine Ext.drewN ?_ _ | with_reducible refine Ext.drew ?_ | with_reducible refine Ext.alloc ?_ _ | (with_reducible refine Ext.setCell ?_ ?_ _; rotate_left; (first | exact Nat.le_refl _ | (dsimp only; omega) | (simp only [wsz]; omega))) | (with_reducible refine Ext.trans ?_ (by with_reducible assumption))))
      have hlg : V.heap.size ≤ g ∧ g ≤ V.heap.size ∧ V.heap.size + 1 ≤ W1.heap.size ∧ W1.heap.size ≤ V.heap.size + 1 := by rw [hW1, hg]; simp
      have hbg : Box W1 g 25 #[.bool false, .slice none 0 0] := by rw [hW1, hg]; exact Box.new _ _ _
      rw [← hW1, ← hg]
      clear hW1 hg
      refine od_loud rfl rfl fun K hK => ?_
      go_simp
      refine (zof_c 4 (by omega) (by omega) _).mono ?_
      rintro e wz ⟨rz, rfl, ⟨Az, dz, rfl, hz⟩, hxz⟩
      (have hszz := Ext.size hxz; (try simp only [wsz] at hszz))
      refine hK _ _ (by repeat (first | with_reducible assumption | with_reducible exact Ext.refl _ | with_reducible refine Ext.drewN ?_ _ | with_reducible refine Ext.drew ?_ | with_reducible refine Ext.alloc ?_ _ | (with_reducible refine Ext.setCell ?_ ?_ _; rotate_left; (first | exact Nat.le_refl _ | (dsimp only; omega) | (simp only [wsz]; omega))) | (with_reducible refine Ext.trans ?_ (by with_reducible assumption)))) ?_
      clear hK K
      (try simp only [Act.put, List.setIfInBounds_toArray, List.set_cons_zero, List.set_cons_succ])
      (repeat (refine od_take (v := ?_) rfl rfl ?_ ?_; rotate_left; (intro w' hx'; have hc' := hx'.cells.1; (try simp only [wcd] at hc'); go_simp; (first | done | with_reducible rfl)); (try simp only [Act.put, List.setIfInBounds_toArray, List.set_cons_zero, List.set_cons_succ])))
      refine od_loud rfl rfl fun K hK => ?_
      go_simp
      refine hK _ _ (by repeat (first | with_reducible assumption | with_reducible exact Ext.refl _ | with_reducible refine Ext.drewN ?_ _ | with_reducible refine Ext.drew ?_ | with_reducible refine Ext.alloc ?_ _ | (with_reducible refine Ext.setCell ?_ ?_ _; rotate_left; (first | exact Nat.le_refl _ | (dsimp only; omega) | (simp only [wsz]; omega))) | (with_reducible refine Ext.trans ?_ (by with_reducible assumption)))) ?_
      clear hK K
      (try simp only [Act.put, List.setIfInBounds_toArray, List.set_cons_zero, List.set_cons_succ])
      obtain ⟨W3, hW3⟩ : ∃ W3, W3 = wz.alloc (.cells #[.int .i64 3, .bool (cz 4).neg, .slice Az (cz 4).mag.length dz] 52) := ⟨_, rfl⟩
      obtain ⟨gv, hgv⟩ : ∃ gv, gv = wz.heap.size := ⟨_, rfl⟩
      have hxW3 : Ext wz W3 := by rw [hW3]; exact (by repeat (first | with_reducible assumption | with_reducible exact Ext.refl _ | with_reducible refine Ext.drewN ?_ _ | with_reducible refine Ext.drew ?_ | with_reducible refine Ext.alloc ?_ _ | (with_reducible refine Ext.setCell ?_ ?_ _; rotate_left; (first | exact Nat.le_refl _ | (dsimp only; omega) | (simp only [wsz]; omega))) | (with_reducible refine Ext.trans ?_ (by with_reducible assumption))))
      have hlgv : wz.heap.size ≤ gv ∧ gv ≤ wz.heap.size ∧ wz.heap.size + 1 ≤ W3.heap.size ∧ W3.heap.size ≤ wz.heap.size + 1 := by rw [hW3, hgv]; simp
      have hPl : Pl W3 (fun _ => True) (some ⟨gv, 0, none⟩) 1 [(3, cz 4)] := by rw [hW3]; exact Pl.litv hgv trivial ⟨by omega, by omega⟩ (Nl.widen (hz.ext (by repeat (first | with_reducible assumption | with_reducible exact Ext.refl _ | with_reducible refine Ext.drewN ?_ _ | with_reducible refine Ext.drew ?_ | with_reducible refine Ext.alloc ?_ _ | (with_reducible refine Ext.setCell ?_ ?_ _; rotate_left; (first | exact Nat.le_refl _ | (dsimp only; omega) | (simp only [wsz]; omega))) | (with_reducible refine Ext.trans ?_ (by with_reducible assumption))))) fun _ _ _ => trivial)
      rw [← hW3, ← hgv]
      clear hW3 hgv
      refine od_loud rfl rfl fun K hK => ?_
      go_simp
      refine (teval_c (N := 8) (ht.ext (hVx.trans (by repeat (first | with_reducible assumption | with_reducible exact Ext.refl _ | with_reducible refine Ext.drewN ?_ _ | with_reducible refine Ext.drew ?_ | with_reducible refine Ext.alloc ?_ _ | (with_reducible refine Ext.setCell ?_ ?_ _; rotate_left; (first | exact Nat.le_refl _ | (dsimp only; omega) | (simp only [wsz]; omega))) | (with_reducible refine Ext.trans ?_ (by with_reducible assumption)))))) (hPl.ext (by repeat (first | with_reducible assumption | with_reducible exact Ext.refl _ | with_reducible refine Ext.drewN ?_ _ | with_reducible refine Ext.drew ?_ | with_reducible refine Ext.alloc ?_ _ | (with_reducible refine Ext.setCell ?_ ?_ _; rotate_left; (first | exact Nat.le_refl _ | (dsimp only; omega) | (simp only [wsz]; omega))) | (with_reducible refine Ext.trans ?_ (by with_reducible assumption))))) (by omega) hsz (by intro p hp; rw [List.mem_singleton.1 hp, cz_len]; exact Nat.le_trans (zl_word (x := 4) (by omega)) (by omega))).mono ?_
      rintro e we ⟨hr, hxe⟩
      rw [Hev.out] at hr
      obtain ⟨r9, rfl, ⟨A9, c9, rfl, h9⟩⟩ := hr
      (have hsze := Ext.size hxe; (try simp only [wsz] at hsze))
      refine hK _ _ (by repeat (first | with_reducible assumption | with_reducible exact Ext.refl _ | with_reducible refine Ext.drewN ?_ _ | with_reducible refine Ext.drew ?_ | with_reducible refine Ext.alloc ?_ _ | (with_reducible refine Ext.setCell ?_ ?_ _; rotate_left; (first | exact Nat.le_refl _ | (dsimp only; omega) | (simp only [wsz]; omega))) | (with_reducible refine Ext.trans ?_ (by with_reducible assumption)))) ?_
      clear hK K
      (try simp only [Act.put, List.setIfInBounds_toArray, List.set_cons_zero, List.set_cons_succ])
      (repeat (refine od_take (v := ?_) rfl rfl ?_ ?_; rotate_left; (intro w' hx'; have hc' := hx'.cells.1; (try simp only [wcd] at hc'); go_simp; (first | done | with_reducible rfl)); (try simp only [Act.put, List.setIfInBounds_toArray, List.set_cons_zero, List.set_cons_succ])))
      have hVW : Ext V we := (by repeat (first | with_reducible assumption | with_reducible exact Ext.refl _ | with_reducible refine Ext.drewN ?_ _ | with_reducible refine Ext.drew ?_ | with_reducible refine Ext.alloc ?_ _ | (with_reducible refine Ext.setCell ?_ ?_ _; rotate_left; (first | exact Nat.le_refl _ | (dsimp only; omega) | (simp only [wsz]; omega))) | (with_reducible refine Ext.trans ?_ (by with_reducible assumption))))
      have hbg := ((hbg.ext hxz).ext hxW3).ext hxe
      have hN : Nl we (fun c => c ≠ g) A9 c9 (cz 3).mag := h9.widen fun c hc hl => by omega
      have fin := aw_at (g := g) hEW (hVx.trans hVW) (hEW.size) hb1 ht (by have := hVx.size; omega) hbg hN
      have hbr := hbg.rules
      have hbl := hbg.lt
      (refine od_loud rfl rfl fun K hK => ?_; go_simp)
      refine hK _ _ (by repeat (first | with_reducible assumption | with_reducible exact Ext.refl _ | with_reducible refine Ext.drewN ?_ _ | with_reducible refine Ext.drew ?_ | with_reducible refine Ext.alloc ?_ _ | (with_reducible refine Ext.setCell ?_ ?_ _; rotate_left; (first | exact Nat.le_refl _ | (dsimp only; omega) | (simp only [wsz]; omega))) | (with_reducible refine Ext.trans ?_ (by with_reducible assumption)))) ?_
      clear hK K
      (try simp only [Act.put, List.setIfInBounds_toArray, List.set_cons_zero, List.set_cons_succ])
      obtain ⟨Wf, hWf⟩ : ∃ Wf, Wf = ((we.setCell ⟨g, 0, none⟩ (.bool (cz 3).neg)).setCell ⟨g, 1, none⟩ (.slice A9 (cz 3).mag.length c9)) := ⟨_, rfl⟩
      have hxf : Ext V Wf := by rw [hWf]; exact (by repeat (first | with_reducible assumption | with_reducible exact Ext.refl _ | with_reducible refine Ext.drewN ?_ _ | with_reducible refine Ext.drew ?_ | with_reducible refine Ext.alloc ?_ _ | (with_reducible refine Ext.setCell ?_ ?_ _; rotate_left; (first | exact Nat.le_refl _ | (dsimp only; omega) | (simp only [wsz]; omega))) | (with_reducible refine Ext.trans ?_ (by with_reducible assumption))))
      rw [← hWf] at fin ⊢
      clear hWf
      (refine od_loud rfl rfl fun K hK => ?_; go_simp)
      refine hK _ _ (by repeat (first | with_reducible assumption | with_reducible exact Ext.refl _ | with_reducible refine Ext.drewN ?_ _ | with_reducible refine Ext.drew ?_ | with_reducible refine Ext.alloc ?_ _ | (with_reducible refine Ext.setCell ?_ ?_ _; rotate_left; (first | exact Nat.le_refl _ | (dsimp only; omega) | (simp only [wsz]; omega))) | (with_reducible refine Ext.trans ?_ (by with_reducible assumption)))) ?_
      clear hK K
      (try simp only [Act.put, List.setIfInBounds_toArray, List.set_cons_zero, List.set_cons_succ])
      refine od_done ?_
  all_goals
    clear hb1r hb1l hb1l2 hbr hbl hbg hN hVW hxe
    obtain ⟨hEf, hb1f, htf, hbgf, hNf⟩ := fin
    have hb1r := hb1f.rules
    have hb1l := hb1f.lt
    go_wp2_with fail
    refine (tvars_c (N := 8) htf (by omega) hsz).mono ?_
    rw [Hvs.out]
    simp only [List.length_singleton]
    rintro e wv ⟨Av, cv, rfl, hIl, hxv⟩
    obtain ⟨b, o, rfl, _, hc⟩ := hIl.at_ (k := 0) (by simp)
    simp only [Nat.add_zero] at hc
    have hc : wv.cell? ⟨b, o, none⟩ = some (.int .i64 3) := hc
    have hcl := World.block_lt_of_cell? _ _ hc
    have hbg2 := hbgf.ext hxv
    have hbr := hbg2.rules
    have hbl := hbg2.lt
    clear hb1r
    go_wp2_with fail
    refine wp_region_seq 18 [(0, true), (1, true), (2, true), (3, true), (4, false), (5, false), (6, true), (7, true), (8, true), (9, true), (10, true), (11, true), (12, true), (13, true), (14, true), (15, true), (16, true), (17, true), (18, false)] rfl (by kernel_rfl) (by intro _ _ d _ _ h; cases d <;> exact h) ?_
    (repeat (first | (refine sq_take (v := ?_) rfl rfl ?_ ?_; rotate_left; (intro w' hx'; have hc' := hx'.cells.1; (try simp only [wcd] at hc'); go_simp; (first | done | with_reducible rfl)); (try simp only [Act.put, List.setIfInBounds_toArray, List.set_cons_zero, List.set_cons_succ])) | (refine sq_skip rfl rfl ?_; (try simp only [Act.put, List.setIfInBounds_toArray, List.set_cons_zero, List.set_cons_succ])) | (refine sq_noloud rfl rfl ?_; (try simp only [Act.put, List.setIfInBounds_toArray, List.set_cons_zero, List.set_cons_succ])) | (refine sq_takeg (v := ?_) rfl rfl ?_ ?_; rotate_left; (intro w' hx'; have hc' := hx'.cells.1; (try simp only [wcd] at hc'); go_simp; (first | done | with_reducible rfl)); (try simp only [Act.put, List.setIfInBounds_toArray, List.set_cons_zero, List.set_cons_succ]))))
    (refine sq_loudg rfl rfl fun K hK => ?_; go_simp)
    refine (rof_c 3 (by omega) (by omega) _).mono ?_
    rintro e wr ⟨rr, rfl, hzr, hxr⟩
    (refine hK _ _ (by repeat (first | with_reducible assumption | with_reducible exact Ext.refl _ | with_reducible refine Ext.drewN ?_ _ | with_reducible refine Ext.drew ?_ | with_reducible refine Ext.alloc ?_ _ | (with_reducible refine Ext.setCell ?_ ?_ _; rotate_left; (first | exact Nat.le_refl _ | (dsimp only; omega) | (simp only [wsz]; omega))) | (with_reducible refine Ext.trans ?_ (by with_reducible assumption)))) ?_; clear hK K; (try simp only [Act.put, List.setIfInBounds_toArray, List.set_cons_zero, List.set_cons_succ]))
    (repeat (first | (refine sq_take (v := ?_) rfl rfl ?_ ?_; rotate_left; (intro w' hx'; have hc' := hx'.cells.1; (try simp only [wcd] at hc'); go_simp; (first | done | with_reducible rfl)); (try simp only [Act.put, List.setIfInBounds_toArray, List.set_cons_zero, List.set_cons_succ])) | (refine sq_skip rfl rfl ?_; (try simp only [Act.put, List.setIfInBounds_toArray, List.set_cons_zero, List.set_cons_succ])) | (refine sq_noloud rfl rfl ?_; (try simp only [Act.put, List.setIfInBounds_toArray, List.set_cons_zero, List.set_cons_succ])) | (refine sq_takeg (v := ?_) rfl rfl ?_ ?_; rotate_left; (intro w' hx'; have hc' := hx'.cells.1; (try simp only [wcd] at hc'); go_simp; (first | done | with_reducible rfl)); (try simp only [Act.put, List.setIfInBounds_toArray, List.set_cons_zero, List.set_cons_succ]))))
    (refine sq_loudg rfl rfl fun K hK => ?_; go_simp)
    refine (ris_c (x := cz 3) (y := cz 3) ⟨_, _, rfl, (hNf.ext hxv).ext (by repeat (first | with_reducible assumption | with_reducible exact Ext.refl _ | with_reducible refine Ext.drewN ?_ _ | with_reducible refine Ext.drew ?_ | with_reducible refine Ext.alloc ?_ _ | (with_reducible refine Ext.setCell ?_ ?_ _; rotate_left; (first | exact Nat.le_refl _ | (dsimp only; omega) | (simp only [wsz]; omega))) | (with_reducible refine Ext.trans ?_ (by with_reducible assumption))))⟩ hzr (by rw [cz_len]; exact Nat.le_trans (zl_word (x := 3) (by omega)) (by omega)) (by rw [cz_len]; exact Nat.le_trans (zl_word (x := 3) (by omega)) (by omega))).mono ?_
    rw [aw_is]
    rintro e ws ⟨rfl, hxs⟩
    have hxx : Ext wv ws := (by repeat (first | with_reducible assumption | with_reducible exact Ext.refl _ | with_reducible refine Ext.drewN ?_ _ | with_reducible refine Ext.drew ?_ | with_reducible refine Ext.alloc ?_ _ | (with_reducible refine Ext.setCell ?_ ?_ _; rotate_left; (first | exact Nat.le_refl _ | (dsimp only; omega) | (simp only [wsz]; omega))) | (with_reducible refine Ext.trans ?_ (by with_reducible assumption))))
    have hcs := (hxx.cells.1 b o hcl).trans hc
    have hcl2 := Nat.lt_of_lt_of_le hcl hxx.size
    (refine hK _ _ (by repeat (first | with_reducible assumption | with_reducible exact Ext.refl _ | with_reducible refine Ext.drewN ?_ _ | with_reducible refine Ext.drew ?_ | with_reducible refine Ext.alloc ?_ _ | (with_reducible refine Ext.setCell ?_ ?_ _; rotate_left; (first | exact Nat.le_refl _ | (dsimp only; omega) | (simp only [wsz]; omega))) | (with_reducible refine Ext.trans ?_ (by with_reducible assumption)))) ?_; clear hK K; (try simp only [Act.put, List.setIfInBounds_toArray, List.set_cons_zero, List.set_cons_succ]))
    (repeat (first | (refine sq_take (v := ?_) rfl rfl ?_ ?_; rotate_left; (intro w' hx'; have hc' := hx'.cells.1; (try simp only [wcd] at hc'); go_simp; (first | done | with_reducible rfl)); (try simp only [Act.put, List.setIfInBounds_toArray, List.set_cons_zero, List.set_cons_succ])) | (refine sq_skip rfl rfl ?_; (try simp only [Act.put, List.setIfInBounds_toArray, List.set_cons_zero, List.set_cons_succ])) | (refine sq_noloud rfl rfl ?_; (try simp only [Act.put, List.setIfInBounds_toArray, List.set_cons_zero, List.set_cons_succ])) | (refine sq_takeg (v := ?_) rfl rfl ?_ ?_; rotate_left; (intro w' hx'; have hc' := hx'.cells.1; (try simp only [wcd] at hc'); go_simp; (first | done | with_reducible rfl)); (try simp only [Act.put, List.setIfInBounds_toArray, List.set_cons_zero, List.set_cons_succ]))))
    (refine sq_last rfl rfl fun K hK => ?_; go_simp; refine hK _ _ ?_; clear hK K)
    go_wp2_with fail
    go_ret
    exact ⟨rfl, hEf.trans (hxv.trans hxx)⟩

end Go.Proofs.Ytbblgjjomgipfaa
