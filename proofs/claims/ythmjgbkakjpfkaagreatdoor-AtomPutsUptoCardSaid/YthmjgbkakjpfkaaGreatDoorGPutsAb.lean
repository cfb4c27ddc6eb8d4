/- atom.Holds. No conditions. atom.Put. No conditions. A term in a variable's place, in plain words: what the atom says. No conditions. -/
import Derived.Test.YthmjgbkakjpfkaaGreatDoorGShortBk
import Derived.Test.YthmjgbkakjpfkaaGreatDoorGShortBf
import Derived.Test.YthmjgbkakjpfkaaGreatDoorGPutsAa
import Derived.Test.YthmjgbkakjpfkaaGreatDoorGShortAi
import Derived.Test.YthmjgbkakjpfkaaGreatDoorGPutsAc
import Derived.Test.YthmjgbkakjpfkaaGreatDoorGShortBd
namespace Go.Proofs.YthmjgbkakjpfkaaGreatDoor
open Go.RowKit

/-- What Holds answers. -/
def holdsR (a : Ar) (vals : List (Int × Z)) : Bool × Int :=
  if (normA a).2 ≠ 0 then (false, (normA a).2) else if cov vals (cn (vl (normA a).1.t.ps)) = true then (holdsA (normA a).1 (tev (fv vals) (normA a).1.t), 0) else (false, 170)
/-- A value's size. -/
theorem tev_sz {vals : List (Int × Z)} {t : T} {N : Nat} (hb : t.lb) (hs : t.sz N) (hvb : ∀ p ∈ vals, Lb p.2.mag) (hv : ∀ p ∈ vals, p.2.mag.length ≤ N) : zl (tev (fv vals) t) ≤ 3 * N + 1 := by
  unfold tev
  have h1 := zl_ev (f := fv vals) (N := N) (M := N) (l := vl t.ps) fun p hp => ⟨zl_vl hb.1 hs.2.1 p hp, lk_zl hvb hv p.1⟩
  rw [vl_len] at h1
  have h2 := zl_of hb.2
  have h3 := hs.2.2; have h4 := hs.1
  exact zl_add (k := 3 * N) (by omega) (by omega)

set_option maxRecDepth 100000 in
set_option maxHeartbeats 6400000 in
theorem aholds_c {v : Value} {a : Ar} {w : World} {X Y : Nat → Prop} {N : Nat} {Av0 : Option Addr} {cv : Nat} {vals : List (Int × Z)} (h : Av w X v a) (hv : Pl w Y Av0 cv vals) (hs : a.sz N) (hvs : ∀ p ∈ vals, p.2.mag.length ≤ N) (hN2 : 2 ≤ N) (hN : N ≤ 16777216) :
    Calls Tryz.prog 30 #[v, .slice Av0 vals.length cv] w fun e w' => e = .returned (.tuple #[.bool (holdsR a vals).1, .int .i64 (holdsR a vals).2]) ∧ Ext w w' := by
  have hno := fun (U : World) (hU : Ext w U) => anorm_c (h.ext hU) hs hN2 (by omega)
  have hfi := normA_fine a
  have hsz : (normA a).1.sz (2 * N) := by
    obtain ⟨D, c, A, e, C, f, -, -, h1, h2, h3⟩ := h
    exact normA_sz hN2 hs h1.lb (Tv.lb (⟨A, e, C, f, rfl, h2, h3⟩ : Tv w X _ a.t))
  obtain ⟨R, hR⟩ : ∃ R, R = holdsR a vals := ⟨_, rfl⟩
  rw [← hR]
  unfold holdsR at hR
  obtain ⟨n, hn⟩ : ∃ n, n = (normA a).1 := ⟨_, rfl⟩
  obtain ⟨e0, he⟩ : ∃ n, n = (normA a).2 := ⟨_, rfl⟩
  rw [← hn] at hsz hfi hR
  rw [← he] at hR hfi
  simp only [← hn, ← he] at hno
  have hte := fun (U : World) (X : Nat → Prop) (v : Value) (hU : Ext w U) (hv2 : Tv U X v n.t) => teval_c (N := 2 * N) hv2 (hv.ext hU) (by omega) hsz.2 (fun p hp => by have := hvs p hp; omega)
  have hxz := fun (hb : n.t.lb) => tev_sz (N := 2 * N) hb hsz.2 (Pl.lb hv) (fun p hp => by have := hvs p hp; omega)
  obtain ⟨cb, hcb⟩ : ∃ b, b = cov vals (cn (vl n.t.ps)) := ⟨_, rfl⟩
  obtain ⟨xv, hxv⟩ : ∃ x, x = tev (fv vals) n.t := ⟨_, rfl⟩
  have hxv2 : n.t.k.v + ev (fv vals) (vl n.t.ps) = xv := by rw [hxv]; unfold tev; omega
  rw [← hcb, ← hxv] at hR
  rw [← hxv] at hxz
  unfold EvR at hte
  rw [← hcb, hxv2] at hte
  obtain ⟨D, c, A, e, C, f, rfl, hk, h1, h2, h3⟩ := h
  have HNO := Lib.hid hno; have HTE := Lib.hid hte; have HXZ := Lib.hid hxz; have HR := Lib.hid hR; have HSZ := Lib.hid hsz
  clear hno hte hxz hR hn he hsz hcb hxv hxv2
  go_enter Tryz.func30, Tryz.ntmps30
  go_wp2_with fail
  refine (HNO.out _ (by repeat (first | with_reducible assumption | with_reducible exact Ext.refl _ | with_reducible refine Ext.drewN ?_ _ | with_reducible refine Ext.drew ?_ | with_reducible refine Ext.alloc ?_ _ | (with_reducible refine Ext.setCell ?_ ?_ _; rotate_left; (first | exact Nat.le_refl _ | (dsimp only; omega) | (simp only [wsz]; omega))) | (with_reducible refine Ext.trans ?_ (by with_reducible assumption))))).mono ?_
  rintro e1 w1 ⟨_, rfl, hA, hx1⟩
  have hA1 := hA.av
  obtain ⟨D1, c1, A1, f1, C1, g1, rfl, hk1, hD, hP, hK⟩ := hA1
  have b1 : Box w1 w.heap.size 29 _ := Box.ext (Box.new w _ _) hx1
  have b1r := b1.rules; have b1l := b1.lt
  have hE1 : Ext w w1 := ((Ext.refl w).alloc _).trans hx1
  go_upto_region 2 with fail
  refine wp_named fun V hV => ?_
  have c1' : Box V w.heap.size 29 #[.int .i64 n.kd, .bool n.d.neg, .slice D1 n.d.mag.length c1, .slice A1 n.t.ps.length f1, .bool n.t.k.neg, .slice C1 n.t.k.mag.length g1] := by rw [hV]; exact (((((b1.set_ 0 _).set_ 1 _).set_ 2 _).set_ 3 _).set_ 4 _).set_ 5 _
  have hE : Ext w V := by rw [hV]; exact (((((hE1.setCell (Nat.le_refl _) _).setCell (Nat.le_refl _) _).setCell (Nat.le_refl _) _).setCell (Nat.le_refl _) _).setCell (Nat.le_refl _) _).setCell (Nat.le_refl _) _
  have kV : Kp (fun b => w.heap.size < b) w1 V := by rw [hV]; exact ((((((Kp.refl w1).setCell (by simp only; omega) _).setCell (by simp only; omega) _).setCell (by simp only; omega) _).setCell (by simp only; omega) _).setCell (by simp only; omega) _).setCell (by simp only; omega) _
  have hD1 : Nl V (fun b => w.heap.size < b) D1 c1 n.d.mag := Nl.keep (hD.widen fun b hb _ => by simp only [wsz] at hb; omega) kV
  have hP1 : Pl V (fun b => w.heap.size < b) A1 f1 n.t.ps := Sl.keep (Sl.widen hP (by omega) fun b hb _ => by simp only [wsz] at hb; omega) kV
  have hK1 : Nl V (fun b => w.heap.size < b) C1 g1 n.t.k.mag := Nl.keep (hK.widen fun b hb _ => by simp only [wsz] at hb; omega) kV
  clear hV b1 b1r b1l hA hD hP hK kV hx1 hE1 HNO
  have c1r := c1'.rules; have c1l := c1'.lt
  have hlb : n.t.lb := Tv.lb (⟨A1, f1, C1, g1, rfl, hP1, hK1⟩ : Tv V _ (.agg #[.slice A1 n.t.ps.length f1, .bool n.t.k.neg, .slice C1 n.t.k.mag.length g1]) n.t)
  by_cases he : e0 = 0
  · subst he
    have HR2 := HR.out
    rw [if_neg (by decide)] at HR2
    have HR3 := Lib.hid HR2
    clear HR2 HR
    go_wp2_with fail
    refine (HTE.out _ _ _ hE ⟨A1, f1, C1, g1, rfl, hP1, hK1⟩).mono ?_
    rintro e2 w2 ⟨hev, hx2⟩
    have d1 := c1'.ext hx2
    have d1r := d1.rules; have d1l := d1.lt
    have hE2 := hE.trans hx2
    cases cb with
    | false =>
      simp only [Bool.false_eq_true, if_false] at hev
      subst hev
      have HR4 := HR3.out
      simp only [Bool.false_eq_true, if_false] at HR4
      subst HR4
      clear c1r c1l
      go_wp2_with fail
      (refine bodyPost_ret (v := ?_) ?_ rfl ?_; rotate_left; (simp only [results, Tryz.results30]; go_simp; (first | done | with_reducible rfl)))
      exact ⟨rfl, (by repeat (first | with_reducible assumption | with_reducible exact Ext.refl _ | with_reducible refine Ext.drewN ?_ _ | with_reducible refine Ext.drew ?_ | with_reducible refine Ext.alloc ?_ _ | (with_reducible refine Ext.setCell ?_ ?_ _; rotate_left; (first | exact Nat.le_refl _ | (dsimp only; omega) | (simp only [wsz]; omega))) | (with_reducible refine Ext.trans ?_ (by with_reducible assumption))))⟩
    | true =>
      simp only [if_true] at hev
      obtain ⟨_, rfl, B, d, rfl, hB⟩ := hev
      have HR4 := HR3.out
      simp only [if_true] at HR4
      have HR5 := Lib.hid HR4
      clear HR4 HR3 c1r c1l
      go_upto_region 5 with fail
      refine wp_named fun U hU => ?_
      obtain ⟨g7, hg7⟩ : ∃ g, g = w2.heap.size := ⟨_, rfl⟩
      have b7 : Box U g7 24 #[.bool (cz xv).neg, .slice B (cz xv).mag.length d] := by rw [hU, hg7]; exact Box.new _ _ _
      have hxU : Ext w2 U := by rw [hU]; exact (Ext.refl w2).alloc _
      have hBU := Nl.ext hB hxU
      have a1 := d1.ext hxU
      have hVU := hx2.trans hxU
      have hEU := hE2.trans hxU
      rw [← hg7]
      clear hU hg7 d1 d1r d1l hB hxU hE2 hx2
      have a1r := a1.rules; have a1l := a1.lt; have b7r := b7.rules; have b7l := b7.lt
      have hsg := fun (W : World) (hW : Ext U W) => zsign_c (⟨B, d, rfl, Nl.ext hBU hW⟩ : Zi W _ (.agg #[.bool (cz xv).neg, .slice B (cz xv).mag.length d]) (cz xv))
      rw [cz_v] at hsg
      rcases hfi with ⟨b, hb⟩ | ⟨-, hf⟩
      · subst hb
        cases b
        · have a1' : Box U w.heap.size 29 #[.int .i64 0, .bool (constA false).d.neg, .slice D1 (constA false).d.mag.length c1, .slice A1 (constA false).t.ps.length f1, .bool (constA false).t.k.neg, .slice C1 (constA false).t.k.mag.length g1] := a1
          have HR6 : R = (false, 0) := HR5.out
          subst HR6
          clear a1 a1r hsg b7r
          have a1r := a1'.rules
          go_wp2_with fail
          (refine bodyPost_ret (v := ?_) ?_ rfl ?_; rotate_left; (simp only [results, Tryz.results30]; go_simp; (first | done | with_reducible rfl)))
          exact ⟨rfl, hEU⟩
        · have a1' : Box U w.heap.size 29 #[.int .i64 1, .bool (constA true).d.neg, .slice D1 (constA true).d.mag.length c1, .slice A1 (constA true).t.ps.length f1, .bool (constA true).t.k.neg, .slice C1 (constA true).t.k.mag.length g1] := a1
          have HR6 : R = (true, 0) := HR5.out
          subst HR6
          clear a1 a1r hsg b7r
          have a1r := a1'.rules
          go_wp2_with fail
          (refine bodyPost_ret (v := ?_) ?_ rfl ?_; rotate_left; (simp only [results, Tryz.results30]; go_simp; (first | done | with_reducible rfl)))
          exact ⟨rfl, hEU⟩
      · obtain ⟨hkd, -⟩ := hf
        obtain ⟨sg, hsge⟩ : ∃ s, s = sgn xv := ⟨_, rfl⟩
        have hsp : 0 < sg ↔ 0 < xv := by rw [hsge]; exact cmpI_pos
        rw [← hsge] at hsg
        have HSG := Lib.hid hsg
        clear hsg hsge
        rcases hkd with ⟨hk2, -⟩ | ⟨hk34, hd1, -, -⟩
        · have HR6 : R = (decide (0 < sg), 0) := by
            rw [HR5.out]
            unfold holdsA
            rw [if_pos hk2]
            exact congrArg (fun b => (b, (0 : Int))) (decide_eq_decide.2 hsp.symm)
          have HR7 := Lib.hid HR6
          rw [hk2] at a1r
          clear HR6 HR5 hk2 hk1 hsp a1
          go_wp2_with fail
          refine (HSG.out _ (Ext.refl _)).mono ?_
          rintro e3 w3 ⟨rfl, hx3⟩
          go_wp2_with fail
          (refine bodyPost_ret (v := ?_) ?_ rfl ?_; rotate_left; (simp only [results, Tryz.results30]; go_simp; (first | done | with_reducible rfl)))
          exact ⟨by rw [HR7.out], hEU.trans hx3⟩
        · rcases hk34 with hk0 | hk0
          · have hd0 : n.d.v ≠ 0 := by omega
            have hdl : n.d.mag.length ≤ 8 * N := by have := HSZ.out.1; omega
            have hxl : (cz xv).mag.length ≤ 8 * N := by rw [cz_len]; have := HXZ.out hlb; omega
            have HR6 : R = (decide (xv.fmod n.d.v = 0), 0) := by
              rw [HR5.out]
              unfold holdsA
              rw [if_neg (by omega), if_pos hk0]
            have HR7 := Lib.hid HR6
            have hDU := Nl.ext hD1 hVU
            have hmo := mod_c (⟨D1, c1, rfl, Nl.ext hDU (Ext.refl U).drew⟩ : Zi U.drew _ (.agg #[.bool n.d.neg, .slice D1 n.d.mag.length c1]) n.d)
            obtain ⟨rz, hrz⟩ : ∃ z, z = cz (xv.fmod n.d.v) := ⟨_, rfl⟩
            have hrv : sgn rz.v = 0 ↔ xv.fmod n.d.v = 0 := by rw [hrz, cz_v]; exact sgn_zero
            have hca := fun (W : World) (g : Nat) (hb : Bz W (fun b => w.heap.size < b) g n.d) (hW : Ext U W) => (modf_c (N := 8 * N) hb hd0 (by omega) hdl).2 W (Ext.refl W) _ _ _ (⟨B, d, rfl, Nl.ext hBU hW⟩ : Zi W _ (.agg #[.bool (cz xv).neg, .slice B (cz xv).mag.length d]) (cz xv)) hxl
            rw [cz_v, ← hrz] at hca
            have HMO := Lib.hid hmo; have HCA := Lib.hid hca; have HRV := Lib.hid hrv; have HD0 := Lib.hid hd0
            rw [hk0] at a1r
            clear HR6 HR5 hk0 hk1 hsp a1 hmo hca hrv hrz HSG hd0
            go_wp2_with fail
            refine wp_region_late [(0, true), (1, true), (3, true), (7, true), (8, true), (9, true), (2, false), (4, false), (5, false), (6, true), (10, true)] [11, 12] rfl (by kernel_rfl) (by intro _ _ d _ _ h; cases d <;> exact h) ?_
            (repeat (refine sh_take (v := ?_) rfl rfl ?_ ?_; rotate_left; (intro w' hx'; have hc' := hx'.cells.1; (try simp only [wcd] at hc'); go_simp; (first | done | with_reducible rfl)); (try simp only [Act.put, List.setIfInBounds_toArray, List.set_cons_zero, List.set_cons_succ])))
            (refine sh_loud rfl rfl fun K hK => ?_; go_simp)
            refine HMO.out.mono ?_
            rintro e3 w3 ⟨g8, rfl, -, hb8, hx3⟩
            have hy3 : Ext U w3 := (Ext.refl U).drew.trans hx3
            (refine hK _ _ (by repeat (first | with_reducible assumption | with_reducible exact Ext.refl _ | with_reducible refine Ext.drewN ?_ _ | with_reducible refine Ext.drew ?_ | with_reducible refine Ext.alloc ?_ _ | (with_reducible refine Ext.setCell ?_ ?_ _; rotate_left; (first | exact Nat.le_refl _ | (dsimp only; omega) | (simp only [wsz]; omega))) | (with_reducible refine Ext.trans ?_ (by with_reducible assumption)))) ?_; clear hK K; (try simp only [Act.put, List.setIfInBounds_toArray, List.set_cons_zero, List.set_cons_succ]))
            (repeat (refine sh_take (v := ?_) rfl rfl ?_ ?_; rotate_left; (intro w' hx'; have hc' := hx'.cells.1; (try simp only [wcd] at hc'); go_simp; (first | done | with_reducible rfl)); (try simp only [Act.put, List.setIfInBounds_toArray, List.set_cons_zero, List.set_cons_succ])))
            (refine sh_loud rfl rfl fun K hK => ?_; go_simp)
            refine (HCA.out _ _ hb8 hy3).mono ?_
            rintro e4 w4 ⟨r4, rfl, hr4, hx4⟩
            have hy4 := hy3.trans hx4
            (refine hK _ _ (by repeat (first | with_reducible assumption | with_reducible exact Ext.refl _ | with_reducible refine Ext.drewN ?_ _ | with_reducible refine Ext.drew ?_ | with_reducible refine Ext.alloc ?_ _ | (with_reducible refine Ext.setCell ?_ ?_ _; rotate_left; (first | exact Nat.le_refl _ | (dsimp only; omega) | (simp only [wsz]; omega))) | (with_reducible refine Ext.trans ?_ (by with_reducible assumption)))) ?_; clear hK K; (try simp only [Act.put, List.setIfInBounds_toArray, List.set_cons_zero, List.set_cons_succ]))
            (refine sh_loud rfl rfl fun K hK => ?_; go_simp)
            refine (zsign_c hr4).mono ?_
            rintro e5 w5 ⟨rfl, hx5⟩
            have hy5 := hy4.trans hx5
            (refine hK _ _ (by repeat (first | with_reducible assumption | with_reducible exact Ext.refl _ | with_reducible refine Ext.drewN ?_ _ | with_reducible refine Ext.drew ?_ | with_reducible refine Ext.alloc ?_ _ | (with_reducible refine Ext.setCell ?_ ?_ _; rotate_left; (first | exact Nat.le_refl _ | (dsimp only; omega) | (simp only [wsz]; omega))) | (with_reducible refine Ext.trans ?_ (by with_reducible assumption)))) ?_; clear hK K; (try simp only [Act.put, List.setIfInBounds_toArray, List.set_cons_zero, List.set_cons_succ]))
            obtain ⟨sr, hsr⟩ : ∃ s, s = sgn rz.v := ⟨_, rfl⟩
            have hrv := HRV.out
            rw [← hsr] at hrv ⊢
            have HRV2 := Lib.hid hrv
            clear hsr hrv HRV
            (repeat (refine sh_take (v := ?_) rfl rfl ?_ ?_; rotate_left; (intro w' hx'; have hc' := hx'.cells.1; (try simp only [wcd] at hc'); go_simp; (first | done | with_reducible rfl)); (try simp only [Act.put, List.setIfInBounds_toArray, List.set_cons_zero, List.set_cons_succ])))
            refine sh_done ?_
            (refine sh_late rfl rfl fun K hK => ?_; go_simp; refine hK _ _ ?_; clear hK K)
            (refine sh_late rfl rfl fun K hK => ?_; go_simp; refine hK _ _ ?_; clear hK K)
            refine sh_end ?_
            go_wp2_with fail
            (refine bodyPost_ret (v := ?_) ?_ rfl ?_; rotate_left; (simp only [results, Tryz.results30]; go_simp; (first | done | with_reducible rfl)))
            refine ⟨?_, hEU.trans hy5⟩
            rw [HR7.out]
            have h9 : decide (sr = 0) = decide (xv.fmod n.d.v = 0) := decide_eq_decide.2 HRV2.out
            simp [← h9]
            rfl
          · have hd0 : n.d.v ≠ 0 := by omega
            have hdl : n.d.mag.length ≤ 8 * N := by have := HSZ.out.1; omega
            have hxl : (cz xv).mag.length ≤ 8 * N := by rw [cz_len]; have := HXZ.out hlb; omega
            have HR6 : R = (!decide (xv.fmod n.d.v = 0), 0) := by
              rw [HR5.out]
              unfold holdsA
              rw [if_neg (by omega), if_neg (by omega), if_pos hk0]
            have HR7 := Lib.hid HR6
            have hDU := Nl.ext hD1 hVU
            have hmo := mod_c (⟨D1, c1, rfl, Nl.ext hDU (Ext.refl U).drew⟩ : Zi U.drew _ (.agg #[.bool n.d.neg, .slice D1 n.d.mag.length c1]) n.d)
            obtain ⟨rz, hrz⟩ : ∃ z, z = cz (xv.fmod n.d.v) := ⟨_, rfl⟩
            have hrv : sgn rz.v = 0 ↔ xv.fmod n.d.v = 0 := by rw [hrz, cz_v]; exact sgn_zero
            have hca := fun (W : World) (g : Nat) (hb : Bz W (fun b => w.heap.size < b) g n.d) (hW : Ext U W) => (modf_c (N := 8 * N) hb hd0 (by omega) hdl).2 W (Ext.refl W) _ _ _ (⟨B, d, rfl, Nl.ext hBU hW⟩ : Zi W _ (.agg #[.bool (cz xv).neg, .slice B (cz xv).mag.length d]) (cz xv)) hxl
            rw [cz_v, ← hrz] at hca
            have HMO := Lib.hid hmo; have HCA := Lib.hid hca; have HRV := Lib.hid hrv; have HD0 := Lib.hid hd0
            rw [hk0] at a1r
            clear HR6 HR5 hk0 hk1 hsp a1 hmo hca hrv hrz HSG hd0
            go_wp2_with fail
            refine wp_region_late [(0, true), (1, true), (3, true), (7, true), (8, true), (9, true), (2, false), (4, false), (5, false), (6, true), (10, true)] [11, 12] rfl (by kernel_rfl) (by intro _ _ d _ _ h; cases d <;> exact h) ?_
            (repeat (refine sh_take (v := ?_) rfl rfl ?_ ?_; rotate_left; (intro w' hx'; have hc' := hx'.cells.1; (try simp only [wcd] at hc'); go_simp; (first | done | with_reducible rfl)); (try simp only [Act.put, List.setIfInBounds_toArray, List.set_cons_zero, List.set_cons_succ])))
            (refine sh_loud rfl rfl fun K hK => ?_; go_simp)
            refine HMO.out.mono ?_
            rintro e3 w3 ⟨g8, rfl, -, hb8, hx3⟩
            have hy3 : Ext U w3 := (Ext.refl U).drew.trans hx3
            (refine hK _ _ (by repeat (first | with_reducible assumption | with_reducible exact Ext.refl _ | with_reducible refine Ext.drewN ?_ _ | with_reducible refine Ext.drew ?_ | with_reducible refine Ext.alloc ?_ _ | (with_reducible refine Ext.setCell ?_ ?_ _; rotate_left; (first | exact Nat.le_refl _ | (dsimp only; omega) | (simp only [wsz]; omega))) | (with_reducible refine Ext.trans ?_ (by with_reducible assumption)))) ?_; clear hK K; (try simp only [Act.put, List.setIfInBounds_toArray, List.set_cons_zero, List.set_cons_succ]))
            (repeat (refine sh_take (v := ?_) rfl rfl ?_ ?_; rotate_left; (intro w' hx'; have hc' := hx'.cells.1; (try simp only [wcd] at hc'); go_simp; (first | done | with_reducible rfl)); (try simp only [Act.put, List.setIfInBounds_toArray, List.set_cons_zero, List.set_cons_succ])))
            (refine sh_loud rfl rfl fun K hK => ?_; go_simp)
            refine (HCA.out _ _ hb8 hy3).mono ?_
            rintro e4 w4 ⟨r4, rfl, hr4, hx4⟩
            have hy4 := hy3.trans hx4
            (refine hK _ _ (by repeat (first | with_reducible assumption | with_reducible exact Ext.refl _ | with_reducible refine Ext.drewN ?_ _ | with_reducible refine Ext.drew ?_ | with_reducible refine Ext.alloc ?_ _ | (with_reducible refine Ext.setCell ?_ ?_ _; rotate_left; (first | exact Nat.le_refl _ | (dsimp only; omega) | (simp only [wsz]; omega))) | (with_reducible refine Ext.trans ?_ (by with_reducible assumption)))) ?_; clear hK K; (try simp only [Act.put, List.setIfInBounds_toArray, List.set_cons_zero, List.set_cons_succ]))
            (refine sh_loud rfl rfl fun K hK => ?_; go_simp)
            refine (zsign_c hr4).mono ?_
            rintro e5 w5 ⟨rfl, hx5⟩
            have hy5 := hy4.trans hx5
            (refine hK _ _ (by repeat (first | with_reducible assumption | with_reducible exact Ext.refl _ | with_reducible refine Ext.drewN ?_ _ | with_reducible refine Ext.drew ?_ | with_reducible refine Ext.alloc ?_ _ | (with_reducible refine Ext.setCell ?_ ?_ _; rotate_left; (first | exact Nat.le_refl _ | (dsimp only; omega) | (simp only [wsz]; omega))) | (with_reducible refine Ext.trans ?_ (by with_reducible assumption)))) ?_; clear hK K; (try simp only [Act.put, List.setIfInBounds_toArray, List.set_cons_zero, List.set_cons_succ]))
            obtain ⟨sr, hsr⟩ : ∃ s, s = sgn rz.v := ⟨_, rfl⟩
            have hrv := HRV.out
            rw [← hsr] at hrv ⊢
            have HRV2 := Lib.hid hrv
            clear hsr hrv HRV
            (repeat (refine sh_take (v := ?_) rfl rfl ?_ ?_; rotate_left; (intro w' hx'; have hc' := hx'.cells.1; (try simp only [wcd] at hc'); go_simp; (first | done | with_reducible rfl)); (try simp only [Act.put, List.setIfInBounds_toArray, List.set_cons_zero, List.set_cons_succ])))
            refine sh_done ?_
            (refine sh_late rfl rfl fun K hK => ?_; go_simp; refine hK _ _ ?_; clear hK K)
            (refine sh_late rfl rfl fun K hK => ?_; go_simp; refine hK _ _ ?_; clear hK K)
            refine sh_end ?_
            go_wp2_with fail
            (refine bodyPost_ret (v := ?_) ?_ rfl ?_; rotate_left; (simp only [results, Tryz.results30]; go_simp; (first | done | with_reducible rfl)))
            refine ⟨?_, hEU.trans hy5⟩
            rw [HR7.out]
            have h9 : decide (sr = 0) = decide (xv.fmod n.d.v = 0) := decide_eq_decide.2 HRV2.out
            simp [← h9]
            rfl
  · have he2 : (e0 == 0) = false := by rw [beq_eq_false_iff_ne]; exact he
    have HR2 := HR.out
    rw [if_pos he] at HR2
    subst HR2
    go_wp2_with fail
    (refine bodyPost_ret (v := ?_) ?_ rfl ?_; rotate_left; (simp only [results, Tryz.results30]; go_simp; (first | done | with_reducible rfl)))
    exact ⟨rfl, hE⟩

end Go.Proofs.YthmjgbkakjpfkaaGreatDoor

namespace Go.Proofs.YthmjgbkakjpfkaaGreatDoor
open Go.RowKit

/-- An atom with a term in a variable's place. -/
def putR (a : Ar) (x : Int) (u : T) : Ar := if (normA a).2 ≠ 0 then constA false else (normA ⟨(normA a).1.kd, (normA a).1.d, (normA a).1.t.put x u⟩).1
theorem put_szA {t u : T} {x : Int} {N : Nat} (hN : 1 ≤ N) (bt : t.lb) (bu : u.lb) (st : t.sz (2 * N)) (su : u.sz N) : (t.put x u).sz (8 * N) := by
  have hcl : zl (cf (vl t.ps) x) ≤ 4 * N := by
    have := zl_cf (zl_vl bt.1 st.2.1) x
    rw [vl_len] at this
    have := st.1
    omega
  have hwl : ∀ p ∈ cn (vl (wo x t.ps)), zl p.2 ≤ 4 * N := fun p hp => by
    have := zl_cn (l := vl (wo x t.ps)) (N := 2 * N) (fun q hq => by
      obtain ⟨r, hr, rfl⟩ := List.mem_map.1 hq
      exact Nat.le_trans (zl_of (bt.1 r (wo_sub hr))) (st.2.1 r (wo_sub hr))) p hp
    rw [vl_len] at this
    have := wo_len x t.ps
    have := st.1
    omega
  have hk1 : zl t.k.v ≤ 2 * N := Nat.le_trans (zl_of bt.2) st.2.2
  have hk2 : zl u.k.v ≤ N := Nat.le_trans (zl_of bu.2) su.2.2
  have hk3 : zl (cf (vl t.ps) x * u.k.v) ≤ 5 * N := Nat.le_trans (zl_mul _ _) (by omega)
  have := ct_sz (l := cn (vl (wo x t.ps)) ++ sc (cf (vl t.ps) x) (vl u.ps)) (k := t.k.v + cf (vl t.ps) x * u.k.v) (N := 3 * N) (M := 5 * N) (by
      rw [List.length_append, sc_len, vl_len]
      have h1 := cn_len (vl (wo x t.ps))
      rw [vl_len] at h1
      have := wo_len x t.ps
      have := st.1; have := su.1
      omega)
    (fun p hp => by rcases List.mem_append.1 hp with hp | hp; exact Nat.le_trans (hwl p hp) (by omega); exact Nat.le_trans (zl_sc hcl (zl_vl bu.1 su.2.1) p hp) (by omega))
    (Nat.le_trans (zl_add (k := 5 * N) (by omega) hk3) (by omega))
  exact this.mono (by omega)

set_option maxRecDepth 100000 in
set_option maxHeartbeats 6400000 in
theorem aput_c {v uv : Value} {a : Ar} {u : T} {x : Int} {w : World} {X Y : Nat → Prop} {N : Nat} (h : Av w X v a) (hu : Tv w Y uv u) (hs : a.sz N) (su : u.sz N) (hN2 : 2 ≤ N) (hN : N ≤ 2097152) :
    Calls Tryz.prog 37 #[v, .int .i64 x, uv] w fun e w' => ∃ r, e = .returned r ∧ AvF w' w.heap.size r (putR a x u) ∧ Ext w w' := by
  have hno := fun (U : World) (hU : Ext w U) => anorm_c (h.ext hU) hs hN2 (by omega)
  have hlb : (normA a).1.t.lb := by
    rcases normA_form a with ⟨b, hb⟩ | ⟨-, -, l, k, -, -, -, ht⟩ | ⟨-, -, -, l, k, -, -, -, -, -, -, ht, -⟩
    · rw [hb]; exact ⟨fun _ h => (List.not_mem_nil h).elim, by unfold constA; exact lb_lim _⟩
    · rw [ht]; exact ct_lb _ _
    · rw [ht]; exact ct_lb _ _
  have hsz : (normA a).1.sz (2 * N) := by
    obtain ⟨D, c, A, e, C, f, -, -, h1, h2, h3⟩ := h
    exact normA_sz hN2 hs h1.lb (Tv.lb (⟨A, e, C, f, rfl, h2, h3⟩ : Tv w X _ a.t))
  have hpz : ((normA a).1.t.put x u).sz (8 * N) := put_szA (by omega) hlb hu.lb hsz.2 su
  obtain ⟨R, hR⟩ : ∃ R, R = putR a x u := ⟨_, rfl⟩
  rw [← hR]
  unfold putR at hR
  have hi64 : ∀ (U : World) (Q : Nat → Prop) (r : Value), Av U Q r (normA a).1 → i64 (normA a).1.kd := fun U Q r ⟨_, _, _, _, _, _, _, hk, _⟩ => hk
  obtain ⟨n, hn⟩ : ∃ n, n = (normA a).1 := ⟨_, rfl⟩
  obtain ⟨e0, he⟩ : ∃ n, n = (normA a).2 := ⟨_, rfl⟩
  rw [← hn] at hsz hR hpz
  rw [← he] at hR
  simp only [← hn, ← he] at hno
  have hpu := fun (U : World) (Q : Nat → Prop) (r : Value) (hU : Ext w U) (hr : Tv U Q r n.t) => tput_f (x := x) hr (hu.ext hU) (N := 2 * N) (by omega) (by omega) hsz.2 (su.mono (by omega))
  obtain ⟨tp, htp⟩ : ∃ t, t = n.t.put x u := ⟨_, rfl⟩
  rw [← htp] at hR hpz
  simp only [← htp] at hpu
  have hn2 := fun (U : World) (Q : Nat → Prop) (r : Value) (hr : Av U Q r ⟨n.kd, n.d, tp⟩) => anorm_c hr (N := 8 * N) ⟨by have := hsz.1; simp only; omega, hpz⟩ (by omega) (by omega)
  obtain ⟨q, hq⟩ : ∃ q, q = normA ⟨n.kd, n.d, tp⟩ := ⟨_, rfl⟩
  rw [← hq] at hR
  simp only [← hq] at hn2
  obtain ⟨D, c, A, e, C, f, rfl, hk, h1, h2, h3⟩ := h
  obtain ⟨P, e', K, f', rfl, hP', hK'⟩ := hu
  have HNO := Lib.hid hno; have HPU := Lib.hid hpu; have HN2 := Lib.hid hn2; have HR := Lib.hid hR
  clear hno hpu hn2 hR hn he hsz hpz htp hq hi64 hlb
  go_enter Tryz.func37, Tryz.ntmps37
  go_wp2_with fail
  refine (HNO.out _ (by repeat (first | with_reducible assumption | with_reducible exact Ext.refl _ | with_reducible refine Ext.drewN ?_ _ | with_reducible refine Ext.drew ?_ | with_reducible refine Ext.alloc ?_ _ | (with_reducible refine Ext.setCell ?_ ?_ _; rotate_left; (first | exact Nat.le_refl _ | (dsimp only; omega) | (simp only [wsz]; omega))) | (with_reducible refine Ext.trans ?_ (by with_reducible assumption))))).mono ?_
  rintro e1 w1 ⟨_, rfl, hA, hx1⟩
  have hA1 := hA.av
  obtain ⟨D1, c1, A1, f1, C1, g1, rfl, hk1, hD, hP, hK⟩ := hA1
  have b1 : Box w1 w.heap.size 29 _ := Box.ext ((Box.new w _ _).alloc _ |>.alloc _) hx1
  have b5 : Box w1 (w.heap.size + 1) 27 #[.slice P u.ps.length e', .bool u.k.neg, .slice K u.k.mag.length f'] := Box.ext ((Box.new_at _ _ _ (by simp only [wsz])).alloc _) hx1
  have b6 : Box w1 (w.heap.size + 1 + 1) 29 #[.int .i64 0, .bool false, .slice none 0 0, .slice none 0 0, .bool false, .slice none 0 0] := Box.ext (Box.new_at _ _ _ (by simp only [wsz])) hx1
  have b1r := b1.rules; have b1l := b1.lt
  have hE1 : Ext w w1 := ((Ext.refl w).alloc _ |>.alloc _ |>.alloc _).trans hx1
  go_upto_region 2 with fail
  refine wp_named fun V hV => ?_
  have c1' : Box V w.heap.size 29 #[.int .i64 n.kd, .bool n.d.neg, .slice D1 n.d.mag.length c1, .slice A1 n.t.ps.length f1, .bool n.t.k.neg, .slice C1 n.t.k.mag.length g1] := by rw [hV]; exact (((((b1.set_ 0 _).set_ 1 _).set_ 2 _).set_ 3 _).set_ 4 _).set_ 5 _
  have c5' : Box V (w.heap.size + 1) 27 #[.slice P u.ps.length e', .bool u.k.neg, .slice K u.k.mag.length f'] := by rw [hV]; exact (((((b5.far (by simp only; omega) _).far (by simp only; omega) _).far (by simp only; omega) _).far (by simp only; omega) _).far (by simp only; omega) _).far (by simp only; omega) _
  have c6' : Box V (w.heap.size + 1 + 1) 29 #[.int .i64 0, .bool false, .slice none 0 0, .slice none 0 0, .bool false, .slice none 0 0] := by rw [hV]; exact (((((b6.far (by simp only; omega) _).far (by simp only; omega) _).far (by simp only; omega) _).far (by simp only; omega) _).far (by simp only; omega) _).far (by simp only; omega) _
  have hE : Ext w V := by rw [hV]; exact (((((hE1.setCell (Nat.le_refl _) _).setCell (Nat.le_refl _) _).setCell (Nat.le_refl _) _).setCell (Nat.le_refl _) _).setCell (Nat.le_refl _) _).setCell (Nat.le_refl _) _
  have kV : Kp (fun b => w.heap.size + 2 < b) w1 V := by rw [hV]; exact ((((((Kp.refl w1).setCell (by simp only; omega) _).setCell (by simp only; omega) _).setCell (by simp only; omega) _).setCell (by simp only; omega) _).setCell (by simp only; omega) _).setCell (by simp only; omega) _
  have hD1 : Nl V (fun b => w.heap.size + 2 < b) D1 c1 n.d.mag := Nl.keep (hD.widen fun b hb _ => by simp only [wsz] at hb; omega) kV
  have hP1 : Pl V (fun b => w.heap.size + 2 < b) A1 f1 n.t.ps := Sl.keep (Sl.widen hP (by omega) fun b hb _ => by simp only [wsz] at hb; omega) kV
  have hK1 : Nl V (fun b => w.heap.size + 2 < b) C1 g1 n.t.k.mag := Nl.keep (hK.widen fun b hb _ => by simp only [wsz] at hb; omega) kV
  clear hV b1 b1r b1l b5 b6 hA hD hP hK kV hx1 hE1 HNO
  have c1r := c1'.rules; have c1l := c1'.lt; have c5r := c5'.rules; have c5l := c5'.lt; have c6r := c6'.rules; have c6l := c6'.lt
  by_cases he : e0 = 0
  · subst he
    have HR2 := HR.out
    rw [if_neg (by decide)] at HR2
    have HR3 := Lib.hid HR2
    clear HR2 HR
    go_wp2_with fail
    refine (HPU.out _ _ _ hE ⟨A1, f1, C1, g1, rfl, hP1, hK1⟩).mono ?_
    rintro e2 w2 ⟨_, rfl, hT, hx2⟩
    have hTv := hT.tv
    obtain ⟨A2, f2, C2, g2, rfl, hP2, hK2⟩ := hTv
    have d1 := c1'.ext hx2; have d6 := c6'.ext hx2
    have hE2 := hE.trans hx2
    have hD2 := Nl.ext hD1 hx2
    have hs2 := hx2.size
    have d1r := d1.rules; have d1l := d1.lt
    clear c1r c1l c5r c5l c6r hT
    go_upto_region 5 with fail
    refine wp_named fun U hU => ?_
    have a1 : Box U w.heap.size 29 #[.int .i64 n.kd, .bool n.d.neg, .slice D1 n.d.mag.length c1, .slice A2 tp.ps.length f2, .bool tp.k.neg, .slice C2 tp.k.mag.length g2] := by rw [hU]; exact ((d1.set_ 3 _).set_ 4 _).set_ 5 _
    have a6 : Box U (w.heap.size + 1 + 1) 29 #[.int .i64 0, .bool false, .slice none 0 0, .slice none 0 0, .bool false, .slice none 0 0] := by rw [hU]; exact ((d6.far (by simp only; omega) _).far (by simp only; omega) _).far (by simp only; omega) _
    have hEU : Ext w U := by rw [hU]; exact ((hE2.setCell (Nat.le_refl _) _).setCell (Nat.le_refl _) _).setCell (Nat.le_refl _) _
    have kU : Kp (fun b => w.heap.size + 2 < b) w2 U := by rw [hU]; exact (((Kp.refl w2).setCell (by simp only; omega) _).setCell (by simp only; omega) _).setCell (by simp only; omega) _
    have hAU : Av U (fun b => w.heap.size + 2 < b) (.agg #[.int .i64 n.kd, .bool n.d.neg, .slice D1 n.d.mag.length c1, .slice A2 tp.ps.length f2, .bool tp.k.neg, .slice C2 tp.k.mag.length g2]) ⟨n.kd, n.d, tp⟩ :=
      ⟨D1, c1, A2, f2, C2, g2, rfl, hk1, Nl.keep hD2 kU, Sl.keep (Sl.widen hP2 (by omega) fun b hb _ => by have h : V.heap.size ≤ b := hb; omega) kU, Nl.keep (hK2.widen fun b hb _ => by have h : V.heap.size ≤ b := hb; omega) kU⟩
    clear hU kU d1 d1r d1l d6 hD2 hP2 hK2 hE2 hs2
    have a1r := a1.rules; have a1l := a1.lt
    go_wp2_with fail
    refine (HN2.out _ _ _ hAU).mono ?_
    rintro e3 w3 ⟨_, rfl, hQ, hx3⟩
    have hQ0 := hQ
    obtain ⟨D3, c3, A3, f3, C3, g3, rfl, -⟩ := hQ
    have i1 := a1.ext hx3; have i6 := a6.ext hx3
    have i1r := i1.rules; have i1l := i1.lt; have i6r := i6.rules; have i6l := i6.lt
    have hE3 := hEU.trans hx3
    have hs3 := hEU.size; have hs6 := a6.lt; have hs7 := a1.lt
    clear a1 a1r a1l hAU
    go_upto_region 6 with fail
    refine wp_named fun S hS => ?_
    have j1 : Box S w.heap.size 29 #[.int .i64 q.1.kd, .bool q.1.d.neg, .slice D3 q.1.d.mag.length c3, .slice A3 q.1.t.ps.length f3, .bool q.1.t.k.neg, .slice C3 q.1.t.k.mag.length g3] := by rw [hS]; exact (((((i1.set_ 0 _).set_ 1 _).set_ 2 _).set_ 3 _).set_ 4 _).set_ 5 _
    have j6 : Box S (w.heap.size + 1 + 1) 29 #[.int .i64 0, .bool false, .slice none 0 0, .slice none 0 0, .bool false, .slice none 0 0] := by rw [hS]; exact (((((i6.far (by simp only; omega) _).far (by simp only; omega) _).far (by simp only; omega) _).far (by simp only; omega) _).far (by simp only; omega) _).far (by simp only; omega) _
    have hES : Ext w S := by rw [hS]; exact (((((hE3.setCell (Nat.le_refl _) _).setCell (Nat.le_refl _) _).setCell (Nat.le_refl _) _).setCell (Nat.le_refl _) _).setCell (Nat.le_refl _) _).setCell (Nat.le_refl _) _
    have hQS : AvF S U.heap.size (.agg #[.int .i64 q.1.kd, .bool q.1.d.neg, .slice D3 q.1.d.mag.length c3, .slice A3 q.1.t.ps.length f3, .bool q.1.t.k.neg, .slice C3 q.1.t.k.mag.length g3]) q.1 := by
      rw [hS]
      refine hQ0.keep ?_
      exact (by repeat (first | with_reducible exact Kp.refl _ | with_reducible refine Kp.drewN ?_ _ | with_reducible refine Kp.drew ?_ | with_reducible refine Kp.alloc ?_ _ | (with_reducible refine Kp.setCell ?_ ?_ _; rotate_left; (first | (dsimp only; omega) | (simp only [wsz]; omega))) | (with_reducible exact Kp.of_ext (by with_reducible assumption)) | (with_reducible refine Kp.ext ?_ (by with_reducible assumption))))
    clear hS i1 i1r i1l i6 i6r i6l hQ0 hE3
    have j1r := j1.rules; have j1l := j1.lt; have j6r := j6.rules; have j6l := j6.lt
    go_wp2_with fail
    (refine bodyPost_ret (v := ?_) ?_ rfl ?_; rotate_left; (simp only [results, Tryz.results37]; go_simp; (first | done | with_reducible rfl)))
    refine ⟨_, rfl, ?_, (by repeat (first | with_reducible assumption | with_reducible exact Ext.refl _ | with_reducible refine Ext.drewN ?_ _ | with_reducible refine Ext.drew ?_ | with_reducible refine Ext.alloc ?_ _ | (with_reducible refine Ext.setCell ?_ ?_ _; rotate_left; (first | exact Nat.le_refl _ | (dsimp only; omega) | (simp only [wsz]; omega))) | (with_reducible refine Ext.trans ?_ (by with_reducible assumption))))⟩
    rw [HR3.out]
    refine (hQS.keep ?_).lower ?_
    · exact (by repeat (first | with_reducible exact Kp.refl _ | with_reducible refine Kp.drewN ?_ _ | with_reducible refine Kp.drew ?_ | with_reducible refine Kp.alloc ?_ _ | (with_reducible refine Kp.setCell ?_ ?_ _; rotate_left; (first | (dsimp only; omega) | (simp only [wsz]; omega))) | (with_reducible exact Kp.of_ext (by with_reducible assumption)) | (with_reducible refine Kp.ext ?_ (by with_reducible assumption))))
    · omega
  · have he2 : (e0 == 0) = false := by rw [beq_eq_false_iff_ne]; exact he
    have he3 : (e0 != 0) = true := by rw [bne_iff_ne]; exact he
    have HR2 := HR.out
    rw [if_pos he] at HR2
    subst HR2
    go_wp2_with fail
    (refine bodyPost_ret (v := ?_) ?_ rfl ?_; rotate_left; (simp only [results, Tryz.results37]; go_simp; (first | done | with_reducible rfl)))
    exact ⟨_, rfl, AvF.const _ _ false rfl, (by repeat (first | with_reducible assumption | with_reducible exact Ext.refl _ | with_reducible refine Ext.drewN ?_ _ | with_reducible refine Ext.drew ?_ | with_reducible refine Ext.alloc ?_ _ | (with_reducible refine Ext.setCell ?_ ?_ _; rotate_left; (first | exact Nat.le_refl _ | (dsimp only; omega) | (simp only [wsz]; omega))) | (with_reducible refine Ext.trans ?_ (by with_reducible assumption))))⟩

end Go.Proofs.YthmjgbkakjpfkaaGreatDoor

namespace Go.Proofs.YthmjgbkakjpfkaaGreatDoor

theorem cf_wo' (x : Int) : ∀ (ps : List (Int × Z)) (y : Int), cf (vl (wo x ps)) y = if y = x then 0 else cf (vl ps) y
  | [], y => by simp [wo, vl, cf]
  | p :: ps, y => by
    have ih := cf_wo' x ps y
    unfold wo at ih ⊢
    rw [List.filter_cons]
    by_cases h : p.1 = x
    · rw [if_neg (show ¬ (p.1 != x) = true by simpa using h), ih]
      have e : vl (p :: ps) = (p.1, p.2.v) :: vl ps := rfl
      rw [e]
      simp only [cf]
      by_cases hy : y = x
      · rw [if_pos hy, if_pos hy]
      · rw [if_neg hy, if_neg hy, if_neg (fun e => hy (by rw [← e, h])), Int.zero_add]
    · rw [if_pos (show (p.1 != x) = true by simpa using h)]
      have e1 : vl (p :: List.filter (fun p => p.1 != x) ps) = (p.1, p.2.v) :: vl (List.filter (fun p => p.1 != x) ps) := rfl
      have e : vl (p :: ps) = (p.1, p.2.v) :: vl ps := rfl
      rw [e1, e]
      simp only [cf]
      rw [ih]
      by_cases hy : y = x
      · rw [if_pos hy, if_pos hy, if_neg (fun e => h (by rw [e, hy])), Int.zero_add]
      · rw [if_neg hy, if_neg hy]
theorem fv_cons' (x : Int) (z : Z) (vals : List (Int × Z)) (y : Int) : fv ((x, z) :: vals) y = if x = y then z.v else fv vals y := by
  unfold fv
  simp only [lk]
  by_cases h : x = y
  · rw [if_pos h, if_pos h]; rfl
  · rw [if_neg h, if_neg h]
theorem ev_wo' {x : Int} {z : Z} {vals : List (Int × Z)} : ∀ (ps : List (Int × Z)), ev (fv vals) (vl (wo x ps)) + cf (vl ps) x * z.v = ev (fv ((x, z) :: vals)) (vl ps)
  | [] => by simp [wo, vl, ev, cf]
  | p :: ps => by
    have ih := ev_wo' (x := x) (z := z) (vals := vals) ps
    have e : vl (p :: ps) = (p.1, p.2.v) :: vl ps := rfl
    unfold wo at ih ⊢
    rw [List.filter_cons, e]
    simp only [ev, cf]
    rw [← ih, fv_cons']
    by_cases h : p.1 = x
    · rw [if_neg (show ¬ (p.1 != x) = true by simpa using h), if_pos h.symm, if_pos h, Int.add_mul]
      omega
    · rw [if_pos (show (p.1 != x) = true by simpa using h), if_neg (show ¬ x = p.1 from fun e => h e.symm), if_neg h, Int.zero_add]
      have e2 : vl (p :: List.filter (fun p => p.1 != x) ps) = (p.1, p.2.v) :: vl (List.filter (fun p => p.1 != x) ps) := rfl
      rw [e2]
      simp only [ev]
      omega
theorem put_covA {x : Int} {z : Z} {vals : List (Int × Z)} {t u : T} (ht : cov ((x, z) :: vals) (cn (vl t.ps)) = true) (hu : cov vals (cn (vl u.ps)) = true) : cov vals (cn (vl (t.put x u).ps)) = true := by
  have e : vl (t.put x u).ps = cn (cn (vl (wo x t.ps)) ++ sc (cf (vl t.ps) x) (vl u.ps)) := vl_cl _
  rw [e, cn_cn]
  rw [cov_iff] at *
  intro y hy
  rw [cf_append, cf_cn, cf_sc, cf_wo'] at hy
  by_cases h1 : cf (vl u.ps) y = 0
  · rw [h1, Int.mul_zero, Int.add_zero] at hy
    by_cases hyx : y = x
    · rw [if_pos hyx] at hy; exact absurd rfl hy
    · rw [if_neg hyx] at hy
      have := ht y hy
      simp only [lk] at this
      rwa [if_neg (fun e => hyx e.symm)] at this
  · exact hu y h1
theorem put_tev {x : Int} {z : Z} {vals : List (Int × Z)} {t u : T} (hz : z.v = tev (fv vals) u) : tev (fv vals) (t.put x u) = tev (fv ((x, z) :: vals)) t := by
  unfold T.put
  rw [tev_ct, ev_append, ev_cn, ev_sc]
  unfold tev at hz ⊢
  rw [← ev_wo' (x := x) (z := z), hz, Int.mul_add]
  omega
/-- No variable is new in a form. -/
theorem cf_fm {F : Int → Int} {l : List (Int × Int)} {x : Int} (h : cf (fm F (cn l)) x ≠ 0) : cf l x ≠ 0 := by
  obtain ⟨p, hp, rfl⟩ := mem_of_cf h
  obtain ⟨q, hq, rfl⟩ := List.mem_map.1 hp
  obtain ⟨h1, h2⟩ := cn_mem hq
  dsimp only
  rw [h1]; exact h2
theorem cf_norm {a : Ar} {x : Int} (h : cf (vl (normA a).1.t.ps) x ≠ 0) : cf (vl a.t.ps) x ≠ 0 := by
  have hcon : ∀ b, cf (vl (constA b).t.ps) x = 0 := fun b => rfl
  revert h
  unfold normA
  split
  · intro h; exact absurd (hcon _) h
  split
  · intro h
    dsimp only at h
    unfold lessA at h
    split at h
    · exact absurd (hcon _) h
    · have e : ∀ l k, vl (ct l k).ps = cn l := fun l k => vl_cl _
      dsimp only at h
      rw [e, cf_cn] at h
      exact cf_fm h
  split
  · split
    · intro h; exact absurd (hcon _) h
    · intro h
      dsimp only at h
      unfold partedA partedB at h
      split at h
      · exact absurd (hcon _) h
      split at h
      · exact absurd (hcon _) h
      split at h
      · exact absurd (hcon _) h
      have e : ∀ l k, vl (ct l k).ps = cn l := fun l k => vl_cl _
      dsimp only at h
      rw [lesser_opp] at h
      split at h
      · rw [e, cf_cn] at h
        have h2 := cf_fm h
        rw [cf_sc] at h2
        have h3 : cf (cn (fm (·.fdiv _) _)) x ≠ 0 := fun e => h2 (by rw [e, Int.mul_zero])
        rw [cf_cn] at h3
        have h4 := cf_fm h3
        exact cf_fm h4
      · rw [e, cf_cn, cf_cn] at h
        exact cf_fm (cf_fm h)
  · intro h; exact absurd (hcon _) h
theorem cov_norm {a : Ar} {vals : List (Int × Z)} (h : cov vals (cn (vl a.t.ps)) = true) : cov vals (cn (vl (normA a).1.t.ps)) = true := by
  rw [cov_iff] at *
  exact fun x hx => h x (cf_norm hx)
theorem form_ok {n : Ar} (h : Form n) (t : T) : (normA ⟨n.kd, n.d, t⟩).2 = 0 := by
  rcases h with ⟨b, h⟩ | ⟨hk, -⟩ | ⟨hk, hd, -⟩
  · rw [h]; cases b <;> rfl
  · rw [hk]; rfl
  · unfold normA
    dsimp only
    rw [if_neg (by omega), if_neg (by omega), if_pos hk, if_neg (by omega)]
theorem puts_plain {a : Ar} {x : Int} {u : T} {z : Z} {vals : List (Int × Z)} (h0 : (normA a).2 = 0) (hu : cov vals (cn (vl u.ps)) = true) (hz : z.v = tev (fv vals) u) (hg : (holdsR (normA a).1 ((x, z) :: vals)).2 = 0) :
    holdsR (putR a x u) vals = ((holdsR (normA a).1 ((x, z) :: vals)).1, 0) := by
  obtain ⟨n, hn⟩ : ∃ n, n = (normA a).1 := ⟨_, rfl⟩
  have hF : Form n := by rw [hn]; exact normA_form a
  have hnn : normA n = (n, 0) := form_norm hF
  unfold putR
  rw [if_neg (by rw [h0]; decide)]
  rw [← hn] at hg ⊢
  have hok := form_ok hF (n.t.put x u)
  have hF2 := normA_form ⟨n.kd, n.d, n.t.put x u⟩
  have hhn := holds_norm (fv vals) ⟨n.kd, n.d, n.t.put x u⟩ hok
  have hcn := fun h => cov_norm (a := ⟨n.kd, n.d, n.t.put x u⟩) (vals := vals) h
  obtain ⟨p, hp⟩ : ∃ p, p = (normA ⟨n.kd, n.d, n.t.put x u⟩).1 := ⟨_, rfl⟩
  rw [← hp] at hF2 hhn hcn ⊢
  have hpp : normA p = (p, 0) := form_norm hF2
  unfold holdsR at hg ⊢
  rw [hnn] at hg ⊢
  rw [hpp]
  dsimp only at hg hhn hcn ⊢
  rw [if_neg (by decide)] at hg ⊢
  rw [if_neg (show ¬ ((0 : Int) ≠ 0) by decide)]
  by_cases hc : cov ((x, z) :: vals) (cn (vl n.t.ps)) = true
  · rw [if_pos hc, if_pos (hcn (put_covA hc hu)), hhn, put_tev hz]
    rfl
  · rw [if_neg hc] at hg
    exact absurd hg (by decide)

end Go.Proofs.YthmjgbkakjpfkaaGreatDoor
