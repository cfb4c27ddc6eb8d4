/- atom.Holds. No conditions. riddleref06.Same of a form and itself; atom.Negate. No conditions. -/
import Derived.Test.YthmjgbkakjpfkaaGreatDoorGShortBk
import Derived.Test.YthmjgbkakjpfkaaGreatDoorGShortBf
import Derived.Test.YthmjgbkakjpfkaaGreatDoorGMeansAa
import Derived.Test.YthmjgbkakjpfkaaGreatDoorGShortAi
import Derived.Test.YthmjgbkakjpfkaaGreatDoorGMeansAc
import Derived.Test.YthmjgbkakjpfkaaGreatDoorGShortAd
namespace Go.Proofs.YthmjgbkakjpfkaaGreatDoor
open Go.RowKit

/-- What Holds answers. -/
def holdsR (a : Ar) (vals : List (Int × Z)) : Bool × Int :=
  if (normA a).2 ≠ 0 then (false, (normA a).2) else if cov vals (cn (vl (normA a).1.t.ps)) = true then (holdsA (normA a).1 (tev (fv vals) (normA a).1.t), 0) else (false, 170)
/-- A value's size. -/
theorem tev_sz {vals : List (Int × Z)} {t : T} {N : Nat} (hb : t.lb) (hs : t.sz N) (hvb : ∀ p ∈ vals, Lb p.2.mag) (hv : ∀ p ∈ vals, p.2.mag.length ≤ N) : zl (tev (fv vals) t) ≤ 3 * N + 1 := by
  unfold tev
  have h1 := zl_ev (f := fv vals) (N := N) (M := N) (l := vl t.ps) fun p hp => ⟨zl_vl hb.1 hs.2.1 p hp, lk_zl hvb hv p.1⟩
  rw [vl_len] at h1
  have h2 := zl_of hb.2
  have h3 := hs.2.2; have h4 := hs.1
  exact zl_add (k := 3 * N) (by omega) (by omega)

set_option maxRecDepth 100000 in
set_option maxHeartbeats 6400000 in
theorem aholds_c {v : Value} {a : Ar} {w : World} {X Y : Nat → Prop} {N : Nat} {Av0 : Option Addr} {cv : Nat} {vals : List (Int × Z)} (h : Av w X v a) (hv : Pl w Y Av0 cv vals) (hs : a.sz N) (hvs : ∀ p ∈ vals, p.2.mag.length ≤ N) (hN2 : 2 ≤ N) (hN : N ≤ 16777216) :
    Calls Tryz.prog 30 #[v, .slice Av0 vals.length cv] w fun e w' => e = .returned (.tuple #[.bool (holdsR a vals).1, .int .i64 (holdsR a vals).2]) ∧ Ext w w' := by
  have hno := fun (U : World) (hU : Ext w U) => anorm_c (h.ext hU) hs hN2 (by omega)
  have hfi := normA_fine a
  have hsz : (normA a).1.sz (2 * N) := by
    obtain ⟨D, c, A, e, C, f, -, -, h1, h2, h3⟩ := h
    exact normA_sz hN2 hs h1.lb (Tv.lb (⟨A, e, C, f, rfl, h2, h3⟩ : Tv w X _ a.t))
  obtain ⟨R, hR⟩ : ∃ R, R = holdsR a vals := ⟨_, rfl⟩
  rw [← hR]
  unfold holdsR at hR
  obtain ⟨n, hn⟩ : ∃ n, n = (normA a).1 := ⟨_, rfl⟩
  obtain ⟨e0, he⟩ : ∃ n, n = (normA a).2 := ⟨_, rfl⟩
  rw [← hn] at hsz hfi hR
  rw [← he] at hR hfi
  simp only [← hn, ← he] at hno
  have hte := fun (U : World) (X : Nat → Prop) (v : Value) (hU : Ext w U) (hv2 : Tv U X v n.t) => teval_c (N := 2 * N) hv2 (hv.ext hU) (by omega) hsz.2 (fun p hp => by have := hvs p hp; omega)
  have hxz := fun (hb : n.t.lb) => tev_sz (N := 2 * N) hb hsz.2 (Pl.lb hv) (fun p hp => by have := hvs p hp; omega)
  obtain ⟨cb, hcb⟩ : ∃ b, b = cov vals (cn (vl n.t.ps)) := ⟨_, rfl⟩
  obtain ⟨xv, hxv⟩ : ∃ x, x = tev (fv vals) n.t := ⟨_, rfl⟩
  have hxv2 : n.t.k.v + ev (fv vals) (vl n.t.ps) = xv := by rw [hxv]; unfold tev; omega
  rw [← hcb, ← hxv] at hR
  rw [← hxv] at hxz
  unfold EvR at hte
  rw [← hcb, hxv2] at hte
  obtain ⟨D, c, A, e, C, f, rfl, hk, h1, h2, h3⟩ := h
  have HNO := Lib.hid hno; have HTE := Lib.hid hte; have HXZ := Lib.hid hxz; have HR := Lib.hid hR; have HSZ := Lib.hid hsz
  clear hno hte hxz hR hn he hsz hcb hxv hxv2
  go_enter Tryz.func30, Tryz.ntmps30
  go_wp2_with fail
  refine (HNO.out _ (by repeat (first | with_reducible assumption | with_reducible exact Ext.refl _ | with_reducible refine Ext.drewN ?_ _ | with_reducible refine Ext.drew ?_ | with_reducible refine Ext.alloc ?_ _ | (with_reducible refine Ext.setCell ?_ ?_ _; rotate_left; (first | exact Nat.le_refl _ | (dsimp only; omega) | (simp only [wsz]; omega))) | (with_reducible refine Ext.trans ?_ (by with_reducible assumption))))).mono ?_
  rintro e1 w1 ⟨_, rfl, hA, hx1⟩
  have hA1 := hA.av
  obtain ⟨D1, c1, A1, f1, C1, g1, rfl, hk1, hD, hP, hK⟩ := hA1
  have b1 : Box w1 w.heap.size 29 _ := Box.ext (Box.new w _ _) hx1
  have b1r := b1.rules; have b1l := b1.lt
  have hE1 : Ext w w1 := ((Ext.refl w).alloc _).trans hx1
  go_upto_region 2 with fail
  refine wp_named fun V hV => ?_
  have c1' : Box V w.heap.size 29 #[.int .i64 n.kd, .bool n.d.neg, .slice D1 n.d.mag.length c1, .slice A1 n.t.ps.length f1, .bool n.t.k.neg, .slice C1 n.t.k.mag.length g1] := by rw [hV]; exact (((((b1.set_ 0 _).set_ 1 _).set_ 2 _).set_ 3 _).set_ 4 _).set_ 5 _
  have hE : Ext w V := by rw [hV]; exact (((((hE1.setCell (Nat.le_refl _) _).setCell (Nat.le_refl _) _).setCell (Nat.le_refl _) _).setCell (Nat.le_refl _) _).setCell (Nat.le_refl _) _).setCell (Nat.le_refl _) _
  have kV : Kp (fun b => w.heap.size < b) w1 V := by rw [hV]; exact ((((((Kp.refl w1).setCell (by simp only; omega) _).setCell (by simp only; omega) _).setCell (by simp only; omega) _).setCell (by simp only; omega) _).setCell (by simp only; omega) _).setCell (by simp only; omega) _
  have hD1 : Nl V (fun b => w.heap.size < b) D1 c1 n.d.mag := Nl.keep (hD.widen fun b hb _ => by simp only [wsz] at hb; omega) kV
  have hP1 : Pl V (fun b => w.heap.size < b) A1 f1 n.t.ps := Sl.keep (Sl.widen hP (by omega) fun b hb _ => by simp only [wsz] at hb; omega) kV
  have hK1 : Nl V (fun b => w.heap.size < b) C1 g1 n.t.k.mag := Nl.keep (hK.widen fun b hb _ => by simp only [wsz] at hb; omega) kV
  clear hV b1 b1r b1l hA hD hP hK kV hx1 hE1 HNO
  have c1r := c1'.rules; have c1l := c1'.lt
  have hlb : n.t.lb := Tv.lb (⟨A1, f1, C1, g1, rfl, hP1, hK1⟩ : Tv V _ (.agg #[.slice A1 n.t.ps.length f1, .bool n.t.k.neg, .slice C1 n.t.k.mag.length g1]) n.t)
  by_cases he : e0 = 0
  · subst he
    have HR2 := HR.out
    rw [if_neg (by decide)] at HR2
    have HR3 := Lib.hid HR2
    clear HR2 HR
    go_wp2_with fail
    refine (HTE.out _ _ _ hE ⟨A1, f1, C1, g1, rfl, hP1, hK1⟩).mono ?_
    rintro e2 w2 ⟨hev, hx2⟩
    have d1 := c1'.ext hx2
    have d1r := d1.rules; have d1l := d1.lt
    have hE2 := hE.trans hx2
    cases cb with
    | false =>
      simp only [Bool.false_eq_true, if_false] at hev
      subst hev
      have HR4 := HR3.out
      simp only [Bool.false_eq_true, if_false] at HR4
      subst HR4
      clear c1r c1l
      go_wp2_with fail
      (refine bodyPost_ret (v := ?_) ?_ rfl ?_; rotate_left; (simp only [results, Tryz.results30]; go_simp; (first | done | with_reducible rfl)))
      exact ⟨rfl, (by repeat (first | with_reducible assumption | with_reducible exact Ext.refl _ | with_reducible refine Ext.drewN ?_ _ | with_reducible refine Ext.drew ?_ | with_reducible refine Ext.alloc ?_ _ | (with_reducible refine Ext.setCell ?_ ?_ _; rotate_left; (first | exact Nat.le_refl _ | (dsimp only; omega) | (simp only [wsz]; omega))) | (with_reducible refine Ext.trans ?_ (by with_reducible assumption))))⟩
    | true =>
      simp only [if_true] at hev
      obtain ⟨_, rfl, B, d, rfl, hB⟩ := hev
      have HR4 := HR3.out
      simp only [if_true] at HR4
      have HR5 := Lib.hid HR4
      clear HR4 HR3 c1r c1l
      go_upto_region 5 with fail
      refine wp_named fun U hU => ?_
      obtain ⟨g7, hg7⟩ : ∃ g, g = w2.heap.size := ⟨_, rfl⟩
      have b7 : Box U g7 24 #[.bool (cz xv).neg, .slice B (cz xv).mag.length d] := by rw [hU, hg7]; exact Box.new _ _ _
      have hxU : Ext w2 U := by rw [hU]; exact (Ext.refl w2).alloc _
      have hBU := Nl.ext hB hxU
      have a1 := d1.ext hxU
      have hVU := hx2.trans hxU
      have hEU := hE2.trans hxU
      rw [← hg7]
      clear hU hg7 d1 d1r d1l hB hxU hE2 hx2
      have a1r := a1.rules; have a1l := a1.lt; have b7r := b7.rules; have b7l := b7.lt
      have hsg := fun (W : World) (hW : Ext U W) => zsign_c (⟨B, d, rfl, Nl.ext hBU hW⟩ : Zi W _ (.agg #[.bool (cz xv).neg, .slice B (cz xv).mag.length d]) (cz xv))
      rw [cz_v] at hsg
      rcases hfi with ⟨b, hb⟩ | ⟨-, hf⟩
      · subst hb
        cases b
        · have a1' : Box U w.heap.size 29 #[.int .i64 0, .bool (constA false).d.neg, .slice D1 (constA false).d.mag.length c1, .slice A1 (constA false).t.ps.length f1, .bool (constA false).t.k.neg, .slice C1 (constA false).t.k.mag.length g1] := a1
          have HR6 : R = (false, 0) := HR5.out
          subst HR6
          clear a1 a1r hsg b7r
          have a1r := a1'.rules
          go_wp2_with fail
          (refine bodyPost_ret (v := ?_) ?_ rfl ?_; rotate_left; (simp only [results, Tryz.results30]; go_simp; (first | done | with_reducible rfl)))
          exact ⟨rfl, hEU⟩
        · have a1' : Box U w.heap.size 29 #[.int .i64 1, .bool (constA true).d.neg, .slice D1 (constA true).d.mag.length c1, .slice A1 (constA true).t.ps.length f1, .bool (constA true).t.k.neg, .slice C1 (constA true).t.k.mag.length g1] := a1
          have HR6 : R = (true, 0) := HR5.out
          subst HR6
          clear a1 a1r hsg b7r
          have a1r := a1'.rules
          go_wp2_with fail
          (refine bodyPost_ret (v := ?_) ?_ rfl ?_; rotate_left; (simp only [results, Tryz.results30]; go_simp; (first | done | with_reducible rfl)))
          exact ⟨rfl, hEU⟩
      · obtain ⟨hkd, -⟩ := hf
        obtain ⟨sg, hsge⟩ : ∃ s, s = sgn xv := ⟨_, rfl⟩
        have hsp : 0 < sg ↔ 0 < xv := by rw [hsge]; exact cmpI_pos
        rw [← hsge] at hsg
        have HSG := Lib.hid hsg
        clear hsg hsge
        rcases hkd with ⟨hk2, -⟩ | ⟨hk34, hd1, -, -⟩
        · have HR6 : R = (decide (0 < sg), 0) := by
            rw [HR5.out]
            unfold holdsA
            rw [if_pos hk2]
            exact congrArg (fun b => (b, (0 : Int))) (decide_eq_decide.2 hsp.symm)
          have HR7 := Lib.hid HR6
          rw [hk2] at a1r
          clear HR6 HR5 hk2 hk1 hsp a1
          go_wp2_with fail
          refine (HSG.out _ (Ext.refl _)).mono ?_
          rintro e3 w3 ⟨rfl, hx3⟩
          go_wp2_with fail
          (refine bodyPost_ret (v := ?_) ?_ rfl ?_; rotate_left; (simp only [results, Tryz.results30]; go_simp; (first | done | with_reducible rfl)))
          exact ⟨by rw [HR7.out], hEU.trans hx3⟩
        · rcases hk34 with hk0 | hk0
          · have hd0 : n.d.v ≠ 0 := by omega
            have hdl : n.d.mag.length ≤ 8 * N := by have := HSZ.out.1; omega
            have hxl : (cz xv).mag.length ≤ 8 * N := by rw [cz_len]; have := HXZ.out hlb; omega
            have HR6 : R = (decide (xv.fmod n.d.v = 0), 0) := by
              rw [HR5.out]
              unfold holdsA
              rw [if_neg (by omega), if_pos hk0]
            have HR7 := Lib.hid HR6
            have hDU := Nl.ext hD1 hVU
            have hmo := mod_c (⟨D1, c1, rfl, Nl.ext hDU (Ext.refl U).drew⟩ : Zi U.drew _ (.agg #[.bool n.d.neg, .slice D1 n.d.mag.length c1]) n.d)
            obtain ⟨rz, hrz⟩ : ∃ z, z = cz (xv.fmod n.d.v) := ⟨_, rfl⟩
            have hrv : sgn rz.v = 0 ↔ xv.fmod n.d.v = 0 := by rw [hrz, cz_v]; exact sgn_zero
            have hca := fun (W : World) (g : Nat) (hb : Bz W (fun b => w.heap.size < b) g n.d) (hW : Ext U W) => (modf_c (N := 8 * N) hb hd0 (by omega) hdl).2 W (Ext.refl W) _ _ _ (⟨B, d, rfl, Nl.ext hBU hW⟩ : Zi W _ (.agg #[.bool (cz xv).neg, .slice B (cz xv).mag.length d]) (cz xv)) hxl
            rw [cz_v, ← hrz] at hca
            have HMO := Lib.hid hmo; have HCA := Lib.hid hca; have HRV := Lib.hid hrv; have HD0 := Lib.hid hd0
            rw [hk0] at a1r
            clear HR6 HR5 hk0 hk1 hsp a1 hmo hca hrv hrz HSG hd0
            go_wp2_with fail
            refine wp_region_late [(0, true), (1, true), (3, true), (7, true), (8, true), (9, true), (2, false), (4, false), (5, false), (6, true), (10, true)] [11, 12] rfl (by kernel_rfl) (by intro _ _ d _ _ h; cases d <;> exact h) ?_
            (repeat (refine sh_take (v := ?_) rfl rfl ?_ ?_; rotate_left; (intro w' hx'; have hc' := hx'.cells.1; (try simp only [wcd] at hc'); go_simp; (first | done | with_reducible rfl)); (try simp only [Act.put, List.setIfInBounds_toArray, List.set_cons_zero, List.set_cons_succ])))
            (refine sh_loud rfl rfl fun K hK => ?_; go_simp)
            refine HMO.out.mono ?_
            rintro e3 w3 ⟨g8, rfl, -, hb8, hx3⟩
            have hy3 : Ext U w3 := (Ext.refl U).drew.trans hx3
            (refine hK _ _ (by repeat (first | with_reducible assumption | with_reducible exact Ext.refl _ | with_reducible refine Ext.drewN ?_ _ | with_reducible refine Ext.drew ?_ | with_reducible refine Ext.alloc ?_ _ | (with_reducible refine Ext.setCell ?_ ?_ _; rotate_left; (first | exact Nat.le_refl _ | (dsimp only; omega) | (simp only [wsz]; omega))) | (with_reducible refine Ext.trans ?_ (by with_reducible assumption)))) ?_; clear hK K; (try simp only [Act.put, List.setIfInBounds_toArray, List.set_cons_zero, List.set_cons_succ]))
            (repeat (refine sh_take (v := ?_) rfl rfl ?_ ?_; rotate_left; (intro w' hx'; have hc' := hx'.cells.1; (try simp only [wcd] at hc'); go_simp; (first | done | with_reducible rfl)); (try simp only [Act.put, List.setIfInBounds_toArray, List.set_cons_zero, List.set_cons_succ])))
            (refine sh_loud rfl rfl fun K hK => ?_; go_simp)
            refine (HCA.out _ _ hb8 hy3).mono ?_
            rintro e4 w4 ⟨r4, rfl, hr4, hx4⟩
            have hy4 := hy3.trans hx4
            (refine hK _ _ (by repeat (first | with_reducible assumption | with_reducible exact Ext.refl _ | with_reducible refine Ext.drewN ?_ _ | with_reducible refine Ext.drew ?_ | with_reducible refine Ext.alloc ?_ _ | (with_reducible refine Ext.setCell ?_ ?_ _; rotate_left; (first | exact Nat.le_refl _ | (dsimp only; omega) | (simp only [wsz]; omega))) | (with_reducible refine Ext.trans ?_ (by with_reducible assumption)))) ?_; clear hK K; (try simp only [Act.put, List.setIfInBounds_toArray, List.set_cons_zero, List.set_cons_succ]))
            (refine sh_loud rfl rfl fun K hK => ?_; go_simp)
            refine (zsign_c hr4).mono ?_
            rintro e5 w5 ⟨rfl, hx5⟩
            have hy5 := hy4.trans hx5
            (refine hK _ _ (by repeat (first | with_reducible assumption | with_reducible exact Ext.refl _ | with_reducible refine Ext.drewN ?_ _ | with_reducible refine Ext.drew ?_ | with_reducible refine Ext.alloc ?_ _ | (with_reducible refine Ext.setCell ?_ ?_ _; rotate_left; (first | exact Nat.le_refl _ | (dsimp only; omega) | (simp only [wsz]; omega))) | (with_reducible refine Ext.trans ?_ (by with_reducible assumption)))) ?_; clear hK K; (try simp only [Act.put, List.setIfInBounds_toArray, List.set_cons_zero, List.set_cons_succ]))
            obtain ⟨sr, hsr⟩ : ∃ s, s = sgn rz.v := ⟨_, rfl⟩
            have hrv := HRV.out
            rw [← hsr] at hrv ⊢
            have HRV2 := Lib.hid hrv
            clear hsr hrv HRV
            (repeat (refine sh_take (v := ?_) rfl rfl ?_ ?_; rotate_left; (intro w' hx'; have hc' := hx'.cells.1; (try simp only [wcd] at hc'); go_simp; (first | done | with_reducible rfl)); (try simp only [Act.put, List.setIfInBounds_toArray, List.set_cons_zero, List.set_cons_succ])))
            refine sh_done ?_
            (refine sh_late rfl rfl fun K hK => ?_; go_simp; refine hK _ _ ?_; clear hK K)
            (refine sh_late rfl rfl fun K hK => ?_; go_simp; refine hK _ _ ?_; clear hK K)
            refine sh_end ?_
            go_wp2_with fail
            (refine bodyPost_ret (v := ?_) ?_ rfl ?_; rotate_left; (simp only [results, Tryz.results30]; go_simp; (first | done | with_reducible rfl)))
            refine ⟨?_, hEU.trans hy5⟩
            rw [HR7.out]
            have h9 : decide (sr = 0) = decide (xv.fmod n.d.v = 0) := decide_eq_decide.2 HRV2.out
            simp [← h9]
            rfl
          · have hd0 : n.d.v ≠ 0 := by omega
            have hdl : n.d.mag.length ≤ 8 * N := by have := HSZ.out.1; omega
            have hxl : (cz xv).mag.length ≤ 8 * N := by rw [cz_len]; have := HXZ.out hlb; omega
            have HR6 : R = (!decide (xv.fmod n.d.v = 0), 0) := by
              rw [HR5.out]
              unfold holdsA
              rw [if_neg (by omega), if_neg (by omega), if_pos hk0]
            have HR7 := Lib.hid HR6
            have hDU := Nl.ext hD1 hVU
            have hmo := mod_c (⟨D1, c1, rfl, Nl.ext hDU (Ext.refl U).drew⟩ : Zi U.drew _ (.agg #[.bool n.d.neg, .slice D1 n.d.mag.length c1]) n.d)
            obtain ⟨rz, hrz⟩ : ∃ z, z = cz (xv.fmod n.d.v) := ⟨_, rfl⟩
            have hrv : sgn rz.v = 0 ↔ xv.fmod n.d.v = 0 := by rw [hrz, cz_v]; exact sgn_zero
            have hca := fun (W : World) (g : Nat) (hb : Bz W (fun b => w.heap.size < b) g n.d) (hW : Ext U W) => (modf_c (N := 8 * N) hb hd0 (by omega) hdl).2 W (Ext.refl W) _ _ _ (⟨B, d, rfl, Nl.ext hBU hW⟩ : Zi W _ (.agg #[.bool (cz xv).neg, .slice B (cz xv).mag.length d]) (cz xv)) hxl
            rw [cz_v, ← hrz] at hca
            have HMO := Lib.hid hmo; have HCA := Lib.hid hca; have HRV := Lib.hid hrv; have HD0 := Lib.hid hd0
            rw [hk0] at a1r
            clear HR6 HR5 hk0 hk1 hsp a1 hmo hca hrv hrz HSG hd0
            go_wp2_with fail
            refine wp_region_late [(0, true), (1, true), (3, true), (7, true), (8, true), (9, true), (2, false), (4, false), (5, false), (6, true), (10, true)] [11, 12] rfl (by kernel_rfl) (by intro _ _ d _ _ h; cases d <;> exact h) ?_
            (repeat (refine sh_take (v := ?_) rfl rfl ?_ ?_; rotate_left; (intro w' hx'; have hc' := hx'.cells.1; (try simp only [wcd] at hc'); go_simp; (first | done | with_reducible rfl)); (try simp only [Act.put, List.setIfInBounds_toArray, List.set_cons_zero, List.set_cons_succ])))
            (refine sh_loud rfl rfl fun K hK => ?_; go_simp)
            refine HMO.out.mono ?_
            rintro e3 w3 ⟨g8, rfl, -, hb8, hx3⟩
            have hy3 : Ext U w3 := (Ext.refl U).drew.trans hx3
            (refine hK _ _ (by repeat (first | with_reducible assumption | with_reducible exact Ext.refl _ | with_reducible refine Ext.drewN ?_ _ | with_reducible refine Ext.drew ?_ | with_reducible refine Ext.alloc ?_ _ | (with_reducible refine Ext.setCell ?_ ?_ _; rotate_left; (first | exact Nat.le_refl _ | (dsimp only; omega) | (simp only [wsz]; omega))) | (with_reducible refine Ext.trans ?_ (by with_reducible assumption)))) ?_; clear hK K; (try simp only [Act.put, List.setIfInBounds_toArray, List.set_cons_zero, List.set_cons_succ]))
            (repeat (refine sh_take (v := ?_) rfl rfl ?_ ?_; rotate_left; (intro w' hx'; have hc' := hx'.cells.1; (try simp only [wcd] at hc'); go_simp; (first | done | with_reducible rfl)); (try simp only [Act.put, List.setIfInBounds_toArray, List.set_cons_zero, List.set_cons_succ])))
            (refine sh_loud rfl rfl fun K hK => ?_; go_simp)
            refine (HCA.out _ _ hb8 hy3).mono ?_
            rintro e4 w4 ⟨r4, rfl, hr4, hx4⟩
            have hy4 := hy3.trans hx4
            (refine hK _ _ (by repeat (first | with_reducible assumption | with_reducible exact Ext.refl _ | with_reducible refine Ext.drewN ?_ _ | with_reducible refine Ext.drew ?_ | with_reducible refine Ext.alloc ?_ _ | (with_reducible refine Ext.setCell ?_ ?_ _; rotate_left; (first | exact Nat.le_refl _ | (dsimp only; omega) | (simp only [wsz]; omega))) | (with_reducible refine Ext.trans ?_ (by with_reducible assumption)))) ?_; clear hK K; (try simp only [Act.put, List.setIfInBounds_toArray, List.set_cons_zero, List.set_cons_succ]))
            (refine sh_loud rfl rfl fun K hK => ?_; go_simp)
            refine (zsign_c hr4).mono ?_
            rintro e5 w5 ⟨rfl, hx5⟩
            have hy5 := hy4.trans hx5
            (refine hK _ _ (by repeat (first | with_reducible assumption | with_reducible exact Ext.refl _ | with_reducible refine Ext.drewN ?_ _ | with_reducible refine Ext.drew ?_ | with_reducible refine Ext.alloc ?_ _ | (with_reducible refine Ext.setCell ?_ ?_ _; rotate_left; (first | exact Nat.le_refl _ | (dsimp only; omega) | (simp only [wsz]; omega))) | (with_reducible refine Ext.trans ?_ (by with_reducible assumption)))) ?_; clear hK K; (try simp only [Act.put, List.setIfInBounds_toArray, List.set_cons_zero, List.set_cons_succ]))
            obtain ⟨sr, hsr⟩ : ∃ s, s = sgn rz.v := ⟨_, rfl⟩
            have hrv := HRV.out
            rw [← hsr] at hrv ⊢
            have HRV2 := Lib.hid hrv
            clear hsr hrv HRV
            (repeat (refine sh_take (v := ?_) rfl rfl ?_ ?_; rotate_left; (intro w' hx'; have hc' := hx'.cells.1; (try simp only [wcd] at hc'); go_simp; (first | done | with_reducible rfl)); (try simp only [Act.put, List.setIfInBounds_toArray, List.set_cons_zero, List.set_cons_succ])))
            refine sh_done ?_
            (refine sh_late rfl rfl fun K hK => ?_; go_simp; refine hK _ _ ?_; clear hK K)
            (refine sh_late rfl rfl fun K hK => ?_; go_simp; refine hK _ _ ?_; clear hK K)
            refine sh_end ?_
            go_wp2_with fail
            (refine bodyPost_ret (v := ?_) ?_ rfl ?_; rotate_left; (simp only [results, Tryz.results30]; go_simp; (first | done | with_reducible rfl)))
            refine ⟨?_, hEU.trans hy5⟩
            rw [HR7.out]
            have h9 : decide (sr = 0) = decide (xv.fmod n.d.v = 0) := decide_eq_decide.2 HRV2.out
            simp [← h9]
            rfl
  · have he2 : (e0 == 0) = false := by rw [beq_eq_false_iff_ne]; exact he
    have HR2 := HR.out
    rw [if_pos he] at HR2
    subst HR2
    go_wp2_with fail
    (refine bodyPost_ret (v := ?_) ?_ rfl ?_; rotate_left; (simp only [results, Tryz.results30]; go_simp; (first | done | with_reducible rfl)))
    exact ⟨rfl, hE⟩

end Go.Proofs.YthmjgbkakjpfkaaGreatDoor

namespace Go.Proofs.YthmjgbkakjpfkaaGreatDoor
open Go.RowKit

theorem form_facts {n : Ar} (h : Form n) : n.d.ok = true ∧ n.t.valid = true ∧ n.t.lb ∧ Lb n.d.mag ∧ ordT n.t n.t = 0 := by
  have ho : ordT n.t n.t = 0 := ordT_zero.2 ⟨rfl, rfl⟩
  rcases h with ⟨b, hb⟩ | ⟨-, hd, l, k, -, -, -, ht⟩ | ⟨-, -, hd, l, k, -, -, -, -, -, -, ht, -⟩
  · refine ⟨by rw [hb]; cases b <;> exact cz_ok 0, by rw [hb]; cases b <;> exact ct_valid [] 0, by rw [hb]; cases b <;> exact ct_lb [] 0, by rw [hb]; cases b <;> exact lb_lim _, ho⟩
  · exact ⟨by rw [hd]; exact cz_ok _, by rw [ht]; exact ct_valid _ _, by rw [ht]; exact ct_lb _ _, by rw [hd]; exact lb_lim _, ho⟩
  · exact ⟨by rw [hd]; exact cz_ok _, by rw [ht]; exact ct_valid _ _, by rw [ht]; exact ct_lb _ _, by rw [hd]; exact lb_lim _, ho⟩

set_option maxHeartbeats 3200000 in
theorem same6_c {u v : Value} {n : Ar} {w : World} {X Y : Nat → Prop} {N : Nat} (ha : Av w X u n) (hb : Av w Y v n) (hF : Form n) (hs : n.sz N) (hN : N ≤ 1073741824) :
    Calls Tryz.prog 26 #[u, v] w fun e w' => e = .returned (.bool true) ∧ Ext w w' := by
  obtain ⟨f1, f2, -, -, f3⟩ := form_facts hF
  obtain ⟨D1, c1, A1, e1, C1, g1, rfl, hk, a1, a2, a3⟩ := ha
  obtain ⟨D2, c2, A2, e2, C2, g2, rfl, -, b1, b2, b3⟩ := hb
  have his := fun (U : World) (hU : Ext w U) => ris_c (⟨D1, c1, rfl, Nl.ext a1 hU⟩ : Zi U X (.agg #[.bool n.d.neg, .slice D1 n.d.mag.length c1]) n.d) (⟨D2, c2, rfl, Nl.ext b1 hU⟩ : Zi U Y (.agg #[.bool n.d.neg, .slice D2 n.d.mag.length c2]) n.d) (by have := hs.1; omega) (by have := hs.1; omega)
  rw [f1, decide_eq_true rfl] at his
  have hva := fun (U : World) (hU : Ext w U) => rvalid_c (⟨D2, c2, rfl, Nl.ext b1 hU⟩ : Zi U Y (.agg #[.bool n.d.neg, .slice D2 n.d.mag.length c2]) n.d) (by have := hs.1; omega)
  rw [f1] at hva
  have hsa := fun (U : World) (hU : Ext w U) => rsame5_c (⟨A1, e1, C1, g1, rfl, a2.ext hU, Nl.ext a3 hU⟩ : Tv U X (.agg #[.slice A1 n.t.ps.length e1, .bool n.t.k.neg, .slice C1 n.t.k.mag.length g1]) n.t)
    (⟨A2, e2, C2, g2, rfl, b2.ext hU, Nl.ext b3 hU⟩ : Tv U Y (.agg #[.slice A2 n.t.ps.length e2, .bool n.t.k.neg, .slice C2 n.t.k.mag.length g2]) n.t) hN hs.2 hs.2 f2 f2 f3
  have HIS := Lib.hid his; have HVA := Lib.hid hva; have HSA := Lib.hid hsa
  obtain ⟨kd, hkd⟩ : ∃ k, k = n.kd := ⟨_, rfl⟩
  rw [← hkd]
  clear his hva hsa f1 f2 f3 hkd
  go_enter Tryz.func26, Tryz.ntmps26
  go_wp2_with fail
  refine (HIS.out _ (by repeat (first | with_reducible assumption | with_reducible exact Ext.refl _ | with_reducible refine Ext.drewN ?_ _ | with_reducible refine Ext.drew ?_ | with_reducible refine Ext.alloc ?_ _ | (with_reducible refine Ext.setCell ?_ ?_ _; rotate_left; (first | exact Nat.le_refl _ | (dsimp only; omega) | (simp only [wsz]; omega))) | (with_reducible refine Ext.trans ?_ (by with_reducible assumption))))).mono ?_
  rintro e w1 ⟨rfl, hx1⟩
  (have b2' := Box.ext (g := w.heap.size) (by repeat (first | with_reducible assumption | with_reducible exact Box.new _ _ _ | (with_reducible refine Box.new_at _ _ _ ?_; (simp only [wsz]; done)) | with_reducible refine Box.drewN ?_ _ | with_reducible refine Box.drew ?_ | with_reducible refine Box.alloc ?_ _ | with_reducible apply Box.drewN | with_reducible apply Box.drew | with_reducible apply Box.alloc | with_reducible refine Box.set_ ?_ _ _ | (with_reducible refine Box.far ?_ ?_ _; rotate_left; (simp only [ne_eq]; omega)) | (with_reducible refine Box.ext ?_ (by with_reducible assumption)) | (refine Box.new_at _ _ _ ?_; simp only [wsz]; done))) hx1; have b2'r := b2'.rules; have b2'l := b2'.lt)
  (have b3' := Box.ext (g := w.heap.size + 1) (by repeat (first | with_reducible assumption | with_reducible exact Box.new _ _ _ | (with_reducible refine Box.new_at _ _ _ ?_; (simp only [wsz]; done)) | with_reducible refine Box.drewN ?_ _ | with_reducible refine Box.drew ?_ | with_reducible refine Box.alloc ?_ _ | with_reducible apply Box.drewN | with_reducible apply Box.drew | with_reducible apply Box.alloc | with_reducible refine Box.set_ ?_ _ _ | (with_reducible refine Box.far ?_ ?_ _; rotate_left; (simp only [ne_eq]; omega)) | (with_reducible refine Box.ext ?_ (by with_reducible assumption)) | (refine Box.new_at _ _ _ ?_; simp only [wsz]; done))) hx1; have b3'r := b3'.rules; have b3'l := b3'.lt)
  have hE1 : Ext w w1 := (by repeat (first | with_reducible assumption | with_reducible exact Ext.refl _ | with_reducible refine Ext.drewN ?_ _ | with_reducible refine Ext.drew ?_ | with_reducible refine Ext.alloc ?_ _ | (with_reducible refine Ext.setCell ?_ ?_ _; rotate_left; (first | exact Nat.le_refl _ | (dsimp only; omega) | (simp only [wsz]; omega))) | (with_reducible refine Ext.trans ?_ (by with_reducible assumption))))
  clear hx1
  go_wp2_with fail
  refine (HVA.out _ hE1).mono ?_
  rintro e w2 ⟨rfl, hx2⟩
  have c2' := b2'.ext hx2; have c3' := b3'.ext hx2
  clear b2' b2'r b2'l b3' b3'r b3'l
  have c2r := c2'.rules; have c2l := c2'.lt; have c3r := c3'.rules; have c3l := c3'.lt
  go_wp2_with fail
  refine (HSA.out _ (hE1.trans hx2)).mono ?_
  rintro e w3 ⟨rfl, hx3⟩
  have d2' := c2'.ext hx3; have d3' := c3'.ext hx3
  clear c2' c2r c2l c3' c3r c3l
  have d2r := d2'.rules; have d2l := d2'.lt; have d3r := d3'.rules; have d3l := d3'.lt
  go_wp2_with fail
  (refine bodyPost_ret (v := ?_) ?_ rfl ?_; rotate_left; (simp only [results, Tryz.results26]; go_simp; (first | done | with_reducible rfl)))
  exact ⟨rfl, (hE1.trans hx2).trans hx3⟩

/-- The opposite of a form. -/
def oppT (t : T) : T := ct (vl (ct [] (cz 1).v).ps ++ sc (-1) (vl t.ps)) ((ct [] (cz 1).v).k.v - t.k.v)
def negF (n : Ar) : Ar := if n.kd = 0 then constA true else if n.kd = 1 then constA false else if n.kd = 2 then lessA (vl (oppT n.t).ps) (oppT n.t).k.v else (partedR n.d.v (vl n.t.ps) n.t.k.v (decide (n.kd = 3))).1
def negR (a : Ar) : Ar := if (normA a).2 ≠ 0 then constA false else negF (normA a).1
theorem oppT_sz {t : T} {N : Nat} (hN : 1 ≤ N) (hb : t.lb) (hs : t.sz N) : (oppT t).sz (3 * N) := by
  unfold oppT
  have e : vl (ct [] (cz 1).v).ps = [] := rfl
  have hk : zl t.k.v ≤ N := Nat.le_trans (zl_of hb.2) hs.2.2
  have h1 : zl ((ct [] (cz 1).v).k.v - t.k.v) ≤ N + 1 := by
    rw [show (ct [] (cz 1).v).k.v = (cz 1).v from cz_v _, cz_v]
    exact zl_sub (Nat.le_trans (show zl 1 ≤ 1 by decide) hN) hk
  rw [e, List.nil_append]
  have := ct_sz (l := sc (-1) (vl t.ps)) (k := (ct [] (cz 1).v).k.v - t.k.v) (N := N) (M := N) (by rw [sc_len, vl_len]; exact hs.1) (fun p hp => by
    obtain ⟨q, hq, rfl⟩ := List.mem_map.1 hp
    have h := zl_vl hb.1 hs.2.1 q hq
    simp only [Int.neg_mul, Int.one_mul, zl_neg]
    exact h) (by omega)
  exact this.mono (by omega)

set_option maxRecDepth 100000 in
set_option maxHeartbeats 6400000 in
theorem anegate_c {v : Value} {a : Ar} {w : World} {X : Nat → Prop} {N : Nat} (h : Av w X v a) (hs : a.sz N) (hN2 : 2 ≤ N) (hN : N ≤ 4194304) :
    Calls Tryz.prog 35 #[v] w fun e w' => ∃ r, e = .returned r ∧ AvF w' w.heap.size r (negR a) ∧ Ext w w' := by
  have hno := fun (U : World) (hU : Ext w U) => anorm_c (h.ext hU) hs hN2 (by omega)
  have hF := normA_form a
  have hlb := (form_facts hF).2.2.1
  have hkd := normA_kd a
  have hsz : (normA a).1.sz (2 * N) := by
    obtain ⟨D, c, A, e, C, f, -, -, h1, h2, h3⟩ := h
    exact normA_sz hN2 hs h1.lb (Tv.lb (⟨A, e, C, f, rfl, h2, h3⟩ : Tv w X _ a.t))
  obtain ⟨R, hR⟩ : ∃ R, R = negR a := ⟨_, rfl⟩
  rw [← hR]
  unfold negR at hR
  obtain ⟨n, hn⟩ : ∃ n, n = (normA a).1 := ⟨_, rfl⟩
  obtain ⟨e0, he⟩ : ∃ n, n = (normA a).2 := ⟨_, rfl⟩
  rw [← hn] at hsz hR hlb hkd
  rw [← he] at hR
  simp only [← hn, ← he] at hno
  have hsu := fun (U : World) (Q Q' : Nat → Prop) (r r' : Value) (hr : Tv U Q r (ct [] (cz 1).v)) (hr' : Tv U Q' r' n.t) => tsub_c hr hr' (N := 2 * N) (by omega) (by omega) ((show (ct [] (cz 1).v).sz 1 from ⟨by decide, fun _ h => (List.not_mem_nil h).elim, by decide⟩).mono (by omega)) hsz.2
  have hls := fun (U : World) (Q : Nat → Prop) (r : Value) (hr : Tv U Q r (oppT n.t)) => aless_c hr (N := 6 * N) ((oppT_sz (by omega) hlb hsz.2).mono (by omega)) (by omega)
  have hpa := fun (U : World) (Q Q' : Nat → Prop) (r r' : Value) (not : Bool) (hr : Zi U Q r n.d) (hr' : Tv U Q' r' n.t) => partedR_c (not := not) hr hr' (N := 2 * N) hsz.1 hsz.2 (by omega) (by omega)
  obtain ⟨D, c, A, e, C, f, rfl, hk, h1, h2, h3⟩ := h
  have HNO := Lib.hid hno; have HSU := Lib.hid hsu; have HLS := Lib.hid hls; have HPA := Lib.hid hpa; have HR := Lib.hid hR
  clear hno hsu hls hpa hR hn he hsz hF hlb
  go_enter Tryz.func35, Tryz.ntmps35
  go_wp2_with fail
  refine (HNO.out _ (by repeat (first | with_reducible assumption | with_reducible exact Ext.refl _ | with_reducible refine Ext.drewN ?_ _ | with_reducible refine Ext.drew ?_ | with_reducible refine Ext.alloc ?_ _ | (with_reducible refine Ext.setCell ?_ ?_ _; rotate_left; (first | exact Nat.le_refl _ | (dsimp only; omega) | (simp only [wsz]; omega))) | (with_reducible refine Ext.trans ?_ (by with_reducible assumption))))).mono ?_
  rintro e1 w1 ⟨_, rfl, hA, hx1⟩
  have hA1 := hA.av
  obtain ⟨D1, c1, A1, f1, C1, g1, rfl, hk1, hD, hP, hK⟩ := hA1
  have b1 : Box w1 w.heap.size 29 _ := Box.ext ((Box.new w _ _).alloc _) hx1
  have b2 : Box w1 (w.heap.size + 1) 29 #[.int .i64 0, .bool false, .slice none 0 0, .slice none 0 0, .bool false, .slice none 0 0] := Box.ext (Box.new_at _ _ _ (by simp only [wsz])) hx1
  have b1r := b1.rules; have b1l := b1.lt
  have hE1 : Ext w w1 := ((Ext.refl w).alloc _ |>.alloc _).trans hx1
  go_upto_region 2 with fail
  refine wp_named fun V hV => ?_
  have c1' : Box V w.heap.size 29 #[.int .i64 n.kd, .bool n.d.neg, .slice D1 n.d.mag.length c1, .slice A1 n.t.ps.length f1, .bool n.t.k.neg, .slice C1 n.t.k.mag.length g1] := by rw [hV]; exact (((((b1.set_ 0 _).set_ 1 _).set_ 2 _).set_ 3 _).set_ 4 _).set_ 5 _
  have c2' : Box V (w.heap.size + 1) 29 #[.int .i64 0, .bool false, .slice none 0 0, .slice none 0 0, .bool false, .slice none 0 0] := by rw [hV]; exact (((((b2.far (by simp only; omega) _).far (by simp only; omega) _).far (by simp only; omega) _).far (by simp only; omega) _).far (by simp only; omega) _).far (by simp only; omega) _
  have hE : Ext w V := by rw [hV]; exact (((((hE1.setCell (Nat.le_refl _) _).setCell (Nat.le_refl _) _).setCell (Nat.le_refl _) _).setCell (Nat.le_refl _) _).setCell (Nat.le_refl _) _).setCell (Nat.le_refl _) _
  have kV : Kp (fun b => w.heap.size + 1 < b) w1 V := by rw [hV]; exact ((((((Kp.refl w1).setCell (by simp only; omega) _).setCell (by simp only; omega) _).setCell (by simp only; omega) _).setCell (by simp only; omega) _).setCell (by simp only; omega) _).setCell (by simp only; omega) _
  have hD1 : Nl V (fun b => w.heap.size + 1 < b) D1 c1 n.d.mag := Nl.keep (hD.widen fun b hb _ => by simp only [wsz] at hb; omega) kV
  have hP1 : Pl V (fun b => w.heap.size + 1 < b) A1 f1 n.t.ps := Sl.keep (Sl.widen hP (by omega) fun b hb _ => by simp only [wsz] at hb; omega) kV
  have hK1 : Nl V (fun b => w.heap.size + 1 < b) C1 g1 n.t.k.mag := Nl.keep (hK.widen fun b hb _ => by simp only [wsz] at hb; omega) kV
  clear hV b1 b1r b1l b2 hA hD hP hK kV hx1 hE1 HNO
  have c1r := c1'.rules; have c1l := c1'.lt; have c2r := c2'.rules; have c2l := c2'.lt
  by_cases he : e0 = 0
  · subst he
    have HR2 := HR.out
    rw [if_neg (by decide)] at HR2
    unfold negF at HR2
    rcases hkd with hk0 | hk0 | hk0 | hk0 | hk0
    · rw [if_pos hk0] at HR2
      have HR3 := Lib.hid HR2
      rw [hk0] at c1r
      clear HR2 HR c1' hk0 hk1
      go_wp2_with fail
      refine (truth_c true _).mono ?_
      rintro e2 w2 ⟨_, rfl, hB, hx2⟩
      have hB0 := hB
      obtain ⟨D3, c3, A3, f3, C3, g3, rfl, -⟩ := hB
      have d2 := c2'.ext hx2
      have d2r := d2.rules; have d2l := d2.lt
      have hs2 := hE.size
      have hE2 := hE.trans hx2
      clear c1r c1l c2r
      go_wp2_with fail
      (refine bodyPost_ret (v := ?_) ?_ rfl ?_; rotate_left; (simp only [results, Tryz.results35]; go_simp; (first | done | with_reducible rfl)))
      rw [HR3.out]
      refine ⟨_, rfl, (hB0.keep ?_).lower ?_, (by repeat (first | with_reducible assumption | with_reducible exact Ext.refl _ | with_reducible refine Ext.drewN ?_ _ | with_reducible refine Ext.drew ?_ | with_reducible refine Ext.alloc ?_ _ | (with_reducible refine Ext.setCell ?_ ?_ _; rotate_left; (first | exact Nat.le_refl _ | (dsimp only; omega) | (simp only [wsz]; omega))) | (with_reducible refine Ext.trans ?_ (by with_reducible assumption))))⟩
      · exact (by repeat (first | with_reducible exact Kp.refl _ | with_reducible refine Kp.drewN ?_ _ | with_reducible refine Kp.drew ?_ | with_reducible refine Kp.alloc ?_ _ | (with_reducible refine Kp.setCell ?_ ?_ _; rotate_left; (first | (dsimp only; omega) | (simp only [wsz]; omega))) | (with_reducible exact Kp.of_ext (by with_reducible assumption)) | (with_reducible refine Kp.ext ?_ (by with_reducible assumption))))
      · omega
    · rw [if_neg (by omega), if_pos hk0] at HR2
      have HR3 := Lib.hid HR2
      rw [hk0] at c1r
      clear HR2 HR c1' hk0 hk1
      go_wp2_with fail
      refine (truth_c false _).mono ?_
      rintro e2 w2 ⟨_, rfl, hB, hx2⟩
      have hB0 := hB
      obtain ⟨D3, c3, A3, f3, C3, g3, rfl, -⟩ := hB
      have d2 := c2'.ext hx2
      have d2r := d2.rules; have d2l := d2.lt
      have hs2 := hE.size
      have hE2 := hE.trans hx2
      clear c1r c1l c2r
      go_wp2_with fail
      (refine bodyPost_ret (v := ?_) ?_ rfl ?_; rotate_left; (simp only [results, Tryz.results35]; go_simp; (first | done | with_reducible rfl)))
      rw [HR3.out]
      refine ⟨_, rfl, (hB0.keep ?_).lower ?_, (by repeat (first | with_reducible assumption | with_reducible exact Ext.refl _ | with_reducible refine Ext.drewN ?_ _ | with_reducible refine Ext.drew ?_ | with_reducible refine Ext.alloc ?_ _ | (with_reducible refine Ext.setCell ?_ ?_ _; rotate_left; (first | exact Nat.le_refl _ | (dsimp only; omega) | (simp only [wsz]; omega))) | (with_reducible refine Ext.trans ?_ (by with_reducible assumption))))⟩
      · exact (by repeat (first | with_reducible exact Kp.refl _ | with_reducible refine Kp.drewN ?_ _ | with_reducible refine Kp.drew ?_ | with_reducible refine Kp.alloc ?_ _ | (with_reducible refine Kp.setCell ?_ ?_ _; rotate_left; (first | (dsimp only; omega) | (simp only [wsz]; omega))) | (with_reducible exact Kp.of_ext (by with_reducible assumption)) | (with_reducible refine Kp.ext ?_ (by with_reducible assumption))))
      · omega
    · rw [if_neg (by omega), if_neg (by omega), if_pos hk0] at HR2
      have HR3 := Lib.hid HR2
      rw [hk0] at c1r
      clear HR2 HR c1' hk0 hk1
      have hs2 := hE.size
      have HOF := Lib.hid (fun (U : World) => zof_c 1 (by omega) (by omega) U)
      go_wp2_with fail
      refine wp_region_seq 6 [(2, true), (3, true), (0, false), (1, false), (4, false), (5, false), (6, false)] rfl (by kernel_rfl) (by intro _ _ d _ _ h; cases d <;> exact h) ?_
      (repeat (refine sq_take (v := ?_) rfl rfl ?_ ?_; rotate_left; (intro w' hx'; have hc' := hx'.cells.1; (try simp only [wcd] at hc'); go_simp; (first | done | with_reducible rfl)); (try simp only [Act.put, List.setIfInBounds_toArray, List.set_cons_zero, List.set_cons_succ])))
      (refine sq_loud rfl rfl fun K hK => ?_; go_simp)
      refine (HOF.out _).mono ?_
      rintro e2 w2 ⟨r2, rfl, hr2, hx2⟩
      have hy2 : Ext V w2 := (Ext.refl V).drew.trans hx2
      (refine hK _ _ (by repeat (first | with_reducible assumption | with_reducible exact Ext.refl _ | with_reducible refine Ext.drewN ?_ _ | with_reducible refine Ext.drew ?_ | with_reducible refine Ext.alloc ?_ _ | (with_reducible refine Ext.setCell ?_ ?_ _; rotate_left; (first | exact Nat.le_refl _ | (dsimp only; omega) | (simp only [wsz]; omega))) | (with_reducible refine Ext.trans ?_ (by with_reducible assumption)))) ?_; clear hK K; (try simp only [Act.put, List.setIfInBounds_toArray, List.set_cons_zero, List.set_cons_succ]))
      (refine sq_loud rfl rfl fun K hK => ?_; go_simp)
      refine (tconst_c hr2 (by decide)).mono ?_
      rintro e3 w3 ⟨r3, rfl, hr3, hx3⟩
      have hy3 := hy2.trans hx3
      (refine hK _ _ (by repeat (first | with_reducible assumption | with_reducible exact Ext.refl _ | with_reducible refine Ext.drewN ?_ _ | with_reducible refine Ext.drew ?_ | with_reducible refine Ext.alloc ?_ _ | (with_reducible refine Ext.setCell ?_ ?_ _; rotate_left; (first | exact Nat.le_refl _ | (dsimp only; omega) | (simp only [wsz]; omega))) | (with_reducible refine Ext.trans ?_ (by with_reducible assumption)))) ?_; clear hK K; (try simp only [Act.put, List.setIfInBounds_toArray, List.set_cons_zero, List.set_cons_succ]))
      (refine sq_loud rfl rfl fun K hK => ?_; go_simp)
      refine (HSU.out _ _ _ _ _ hr3 (⟨A1, f1, C1, g1, rfl, hP1.ext hy3, Nl.ext hK1 hy3⟩ : Tv w3 _ (.agg #[.slice A1 n.t.ps.length f1, .bool n.t.k.neg, .slice C1 n.t.k.mag.length g1]) n.t)).mono ?_
      rintro e4 w4 ⟨r4, rfl, hr4, hx4⟩
      have hy4 := hy3.trans hx4
      (refine hK _ _ (by repeat (first | with_reducible assumption | with_reducible exact Ext.refl _ | with_reducible refine Ext.drewN ?_ _ | with_reducible refine Ext.drew ?_ | with_reducible refine Ext.alloc ?_ _ | (with_reducible refine Ext.setCell ?_ ?_ _; rotate_left; (first | exact Nat.le_refl _ | (dsimp only; omega) | (simp only [wsz]; omega))) | (with_reducible refine Ext.trans ?_ (by with_reducible assumption)))) ?_; clear hK K; (try simp only [Act.put, List.setIfInBounds_toArray, List.set_cons_zero, List.set_cons_succ]))
      (refine sq_loud rfl rfl fun K hK => ?_; go_simp)
      refine (HLS.out _ _ _ hr4).mono ?_
      rintro e5 w5 ⟨_, rfl, hB, hx5⟩
      have hB0 := hB
      obtain ⟨D3, c3, A3, f3, C3, g3, rfl, -⟩ := hB
      have hy5 := hy4.trans hx5
      (refine hK _ _ (by repeat (first | with_reducible assumption | with_reducible exact Ext.refl _ | with_reducible refine Ext.drewN ?_ _ | with_reducible refine Ext.drew ?_ | with_reducible refine Ext.alloc ?_ _ | (with_reducible refine Ext.setCell ?_ ?_ _; rotate_left; (first | exact Nat.le_refl _ | (dsimp only; omega) | (simp only [wsz]; omega))) | (with_reducible refine Ext.trans ?_ (by with_reducible assumption)))) ?_; clear hK K; (try simp only [Act.put, List.setIfInBounds_toArray, List.set_cons_zero, List.set_cons_succ]))
      have d2 := c2'.ext hy5
      have d2r := d2.rules; have d2l := d2.lt
      have hs4 := hy4.size
      have hE5 := hE.trans hy5
      clear c1r c1l c2r
      (refine sq_last rfl rfl fun K hK => ?_; go_simp; refine hK _ _ ?_; clear hK K)
      go_wp2_with fail
      (refine bodyPost_ret (v := ?_) ?_ rfl ?_; rotate_left; (simp only [results, Tryz.results35]; go_simp; (first | done | with_reducible rfl)))
      rw [HR3.out]
      refine ⟨_, rfl, (hB0.keep ?_).lower ?_, (by repeat (first | with_reducible assumption | with_reducible exact Ext.refl _ | with_reducible refine Ext.drewN ?_ _ | with_reducible refine Ext.drew ?_ | with_reducible refine Ext.alloc ?_ _ | (with_reducible refine Ext.setCell ?_ ?_ _; rotate_left; (first | exact Nat.le_refl _ | (dsimp only; omega) | (simp only [wsz]; omega))) | (with_reducible refine Ext.trans ?_ (by with_reducible assumption))))⟩
      · exact (by repeat (first | with_reducible exact Kp.refl _ | with_reducible refine Kp.drewN ?_ _ | with_reducible refine Kp.drew ?_ | with_reducible refine Kp.alloc ?_ _ | (with_reducible refine Kp.setCell ?_ ?_ _; rotate_left; (first | (dsimp only; omega) | (simp only [wsz]; omega))) | (with_reducible exact Kp.of_ext (by with_reducible assumption)) | (with_reducible refine Kp.ext ?_ (by with_reducible assumption))))
      · omega
    · rw [if_neg (by omega), if_neg (by omega), if_neg (by omega), decide_eq_true hk0] at HR2
      have HR3 := Lib.hid HR2
      rw [hk0] at c1r
      clear HR2 HR c1' hk0 hk1
      have hs2 := hE.size
      have hpa := HPA.out V _ _ _ _ true (⟨D1, c1, rfl, hD1⟩ : Zi V _ (.agg #[.bool n.d.neg, .slice D1 n.d.mag.length c1]) n.d) (⟨A1, f1, C1, g1, rfl, hP1, hK1⟩ : Tv V _ (.agg #[.slice A1 n.t.ps.length f1, .bool n.t.k.neg, .slice C1 n.t.k.mag.length g1]) n.t)
      obtain ⟨q, hq⟩ : ∃ q, q = partedR n.d.v (vl n.t.ps) n.t.k.v true := ⟨_, rfl⟩
      rw [← hq] at hpa
      have HQ := Lib.hid hq; have HPA2 := Lib.hid hpa
      clear hq hpa HPA
      go_wp2_with fail
      refine HPA2.out.mono ?_
      rintro e5 w5 ⟨_, rfl, hB, hx5⟩
      have hB0 := hB
      obtain ⟨D3, c3, A3, f3, C3, g3, rfl, -⟩ := hB
      go_upto_region 11 with fail
      refine wp_named fun U hU => ?_
      obtain ⟨g4, hg4⟩ : ∃ g, g = w5.heap.size := ⟨_, rfl⟩
      have b4 : Box U g4 29 #[.int .i64 q.1.kd, .bool q.1.d.neg, .slice D3 q.1.d.mag.length c3, .slice A3 q.1.t.ps.length f3, .bool q.1.t.k.neg, .slice C3 q.1.t.k.mag.length g3] := by rw [hU, hg4]; exact Box.new _ _ _
      have hxU : Ext w5 U := by rw [hU]; exact (Ext.refl w5).alloc _
      have hBU := hB0.ext hxU
      have d2 := (c2'.ext hx5).ext hxU
      have hE5 := (hE.trans hx5).trans hxU
      rw [← hg4]
      clear hU hg4 hB0 hx5 hxU c1r c1l c2r
      have d2r := d2.rules; have d2l := d2.lt; have b4r := b4.rules; have b4l := b4.lt
      go_wp2_with fail
      (refine bodyPost_ret (v := ?_) ?_ rfl ?_; rotate_left; (simp only [results, Tryz.results35]; go_simp; (first | done | with_reducible rfl)))
      rw [HR3.out, ← HQ.out]
      refine ⟨_, rfl, (hBU.keep ?_).lower ?_, (by repeat (first | with_reducible assumption | with_reducible exact Ext.refl _ | with_reducible refine Ext.drewN ?_ _ | with_reducible refine Ext.drew ?_ | with_reducible refine Ext.alloc ?_ _ | (with_reducible refine Ext.setCell ?_ ?_ _; rotate_left; (first | exact Nat.le_refl _ | (dsimp only; omega) | (simp only [wsz]; omega))) | (with_reducible refine Ext.trans ?_ (by with_reducible assumption))))⟩
      · exact (by repeat (first | with_reducible exact Kp.refl _ | with_reducible refine Kp.drewN ?_ _ | with_reducible refine Kp.drew ?_ | with_reducible refine Kp.alloc ?_ _ | (with_reducible refine Kp.setCell ?_ ?_ _; rotate_left; (first | (dsimp only; omega) | (simp only [wsz]; omega))) | (with_reducible exact Kp.of_ext (by with_reducible assumption)) | (with_reducible refine Kp.ext ?_ (by with_reducible assumption))))
      · omega
    · rw [if_neg (by omega), if_neg (by omega), if_neg (by omega), decide_eq_false (show ¬ n.kd = 3 by omega)] at HR2
      have HR3 := Lib.hid HR2
      rw [hk0] at c1r
      clear HR2 HR c1' hk0 hk1
      have hs2 := hE.size
      have hpa := HPA.out V _ _ _ _ false (⟨D1, c1, rfl, hD1⟩ : Zi V _ (.agg #[.bool n.d.neg, .slice D1 n.d.mag.length c1]) n.d) (⟨A1, f1, C1, g1, rfl, hP1, hK1⟩ : Tv V _ (.agg #[.slice A1 n.t.ps.length f1, .bool n.t.k.neg, .slice C1 n.t.k.mag.length g1]) n.t)
      obtain ⟨q, hq⟩ : ∃ q, q = partedR n.d.v (vl n.t.ps) n.t.k.v false := ⟨_, rfl⟩
      rw [← hq] at hpa
      have HQ := Lib.hid hq; have HPA2 := Lib.hid hpa
      clear hq hpa HPA
      go_wp2_with fail
      refine HPA2.out.mono ?_
      rintro e5 w5 ⟨_, rfl, hB, hx5⟩
      have hB0 := hB
      obtain ⟨D3, c3, A3, f3, C3, g3, rfl, -⟩ := hB
      go_upto_region 11 with fail
      refine wp_named fun U hU => ?_
      obtain ⟨g4, hg4⟩ : ∃ g, g = w5.heap.size := ⟨_, rfl⟩
      have b4 : Box U g4 29 #[.int .i64 q.1.kd, .bool q.1.d.neg, .slice D3 q.1.d.mag.length c3, .slice A3 q.1.t.ps.length f3, .bool q.1.t.k.neg, .slice C3 q.1.t.k.mag.length g3] := by rw [hU, hg4]; exact Box.new _ _ _
      have hxU : Ext w5 U := by rw [hU]; exact (Ext.refl w5).alloc _
      have hBU := hB0.ext hxU
      have d2 := (c2'.ext hx5).ext hxU
      have hE5 := (hE.trans hx5).trans hxU
      rw [← hg4]
      clear hU hg4 hB0 hx5 hxU c1r c1l c2r
      have d2r := d2.rules; have d2l := d2.lt; have b4r := b4.rules; have b4l := b4.lt
      go_wp2_with fail
      (refine bodyPost_ret (v := ?_) ?_ rfl ?_; rotate_left; (simp only [results, Tryz.results35]; go_simp; (first | done | with_reducible rfl)))
      rw [HR3.out, ← HQ.out]
      refine ⟨_, rfl, (hBU.keep ?_).lower ?_, (by repeat (first | with_reducible assumption | with_reducible exact Ext.refl _ | with_reducible refine Ext.drewN ?_ _ | with_reducible refine Ext.drew ?_ | with_reducible refine Ext.alloc ?_ _ | (with_reducible refine Ext.setCell ?_ ?_ _; rotate_left; (first | exact Nat.le_refl _ | (dsimp only; omega) | (simp only [wsz]; omega))) | (with_reducible refine Ext.trans ?_ (by with_reducible assumption))))⟩
      · exact (by repeat (first | with_reducible exact Kp.refl _ | with_reducible refine Kp.drewN ?_ _ | with_reducible refine Kp.drew ?_ | with_reducible refine Kp.alloc ?_ _ | (with_reducible refine Kp.setCell ?_ ?_ _; rotate_left; (first | (dsimp only; omega) | (simp only [wsz]; omega))) | (with_reducible exact Kp.of_ext (by with_reducible assumption)) | (with_reducible refine Kp.ext ?_ (by with_reducible assumption))))
      · omega
  · have he2 : (e0 == 0) = false := by rw [beq_eq_false_iff_ne]; exact he
    have he3 : (e0 != 0) = true := by rw [bne_iff_ne]; exact he
    have HR2 := HR.out
    rw [if_pos he] at HR2
    subst HR2
    go_wp2_with fail
    (refine bodyPost_ret (v := ?_) ?_ rfl ?_; rotate_left; (simp only [results, Tryz.results35]; go_simp; (first | done | with_reducible rfl)))
    exact ⟨_, rfl, AvF.const _ _ false rfl, (by repeat (first | with_reducible assumption | with_reducible exact Ext.refl _ | with_reducible refine Ext.drewN ?_ _ | with_reducible refine Ext.drew ?_ | with_reducible refine Ext.alloc ?_ _ | (with_reducible refine Ext.setCell ?_ ?_ _; rotate_left; (first | exact Nat.le_refl _ | (dsimp only; omega) | (simp only [wsz]; omega))) | (with_reducible refine Ext.trans ?_ (by with_reducible assumption))))⟩

end Go.Proofs.YthmjgbkakjpfkaaGreatDoor
