/- atom.Holds. No conditions. -/
import Derived.Test.YthmjgbkakjpfkaaGreatDoorGLooksBc
import Derived.Test.YthmjgbkakjpfkaaGreatDoorGLooksAz
import Derived.Test.YthmjgbkakjpfkaaGreatDoorGLooksAy
import Derived.Test.YthmjgbkakjpfkaaGreatDoorGLooksAk
namespace Go.Proofs.YthmjgbkakjpfkaaGreatDoor
open Go.RowKit

def holdsR (a : Ar) (vals : List (Int × Z)) : Bool × Int :=
  if (normA a).2 ≠ 0 then (false, (normA a).2) else if cov vals (cn (vl (normA a).1.t.ps)) = true then (holdsA (normA a).1 (tev (fv vals) (normA a).1.t), 0) else (false, 170)
theorem tev_sz {vals : List (Int × Z)} {t : T} {N : Nat} (hb : t.lb) (hs : t.sz N) (hvb : ∀ p ∈ vals, Lb p.2.mag) (hv : ∀ p ∈ vals, p.2.mag.length ≤ N) : zl (tev (fv vals) t) ≤ 3 * N + 1 := by
  unfold tev
  have h1 := zl_ev (f := fv vals) (N := N) (M := N) (l := vl t.ps) fun p hp => ⟨zl_vl hb.1 hs.2.1 p hp, lk_zl hvb hv p.1⟩
  rw [vl_len] at h1
  have h2 := zl_of hb.2
  have h3 := hs.2.2; have h4 := hs.1
  exact zl_add (k := 3 * N) (by omega) (by omega)

set_option maxRecDepth 100000 in
set_option maxHeartbeats 6400000 in
theorem aholds_c {v : Value} {a : Ar} {w : World} {X Y : Nat → Prop} {N : Nat} {Av0 : Option Addr} {cv : Nat} {vals : List (Int × Z)} (h : Av w X v a) (hv : Pl w Y Av0 cv vals) (hs : a.sz N) (hvs : ∀ p ∈ vals, p.2.mag.length ≤ N) (hN2 : 2 ≤ N) (hN : N ≤ 16777216) :
    Calls Tryz.prog 30 #[v, .slice Av0 vals.length cv] w fun e w' => e = .returned (.tuple #[.bool (holdsR a vals).1, .int .i64 (holdsR a vals).2]) ∧ Ext w w' := by
  have hno := fun (U : World) (hU : Ext w U) => anorm_c (h.ext hU) hs hN2 (by omega)
  have hfi := normA_fine a
  have hsz : (normA a).1.sz (2 * N) := by
    obtain ⟨D, c, A, e, C, f, -, -, h1, h2, h3⟩ := h
    exact normA_sz hN2 hs h1.lb (Tv.lb (⟨A, e, C, f, rfl, h2, h3⟩ : Tv w X _ a.t))
  obtain ⟨R, hR⟩ : ∃ R, R = holdsR a vals := ⟨_, rfl⟩
  rw [← hR]
  unfold holdsR at hR
  obtain ⟨n, hn⟩ : ∃ n, n = (normA a).1 := ⟨_, rfl⟩
  obtain ⟨e0, he⟩ : ∃ n, n = (normA a).2 := ⟨_, rfl⟩
  rw [← hn] at hsz hfi hR
  rw [← he] at hR hfi
  simp only [← hn, ← he] at hno
  have hte := fun (U : World) (X : Nat → Prop) (v : Value) (hU : Ext w U) (hv2 : Tv U X v n.t) => teval_c (N := 2 * N) hv2 (hv.ext hU) (by omega) hsz.2 (fun p hp => by have := hvs p hp; omega)
  have hxz := fun (hb : n.t.lb) => tev_sz (N := 2 * N) hb hsz.2 (Pl.lb hv) (fun p hp => by have := hvs p hp; omega)
  obtain ⟨cb, hcb⟩ : ∃ b, b = cov vals (cn (vl n.t.ps)) := ⟨_, rfl⟩
  obtain ⟨xv, hxv⟩ : ∃ x, x = tev (fv vals) n.t := ⟨_, rfl⟩
  have hxv2 : n.t.k.v + ev (fv vals) (vl n.t.ps) = xv := by rw [hxv]; unfold tev; omega
  rw [← hcb, ← hxv] at hR
  rw [← hxv] at hxz
  unfold EvR at hte
  rw [← hcb, hxv2] at hte
  obtain ⟨D, c, A, e, C, f, rfl, hk, h1, h2, h3⟩ := h
  have HNO := Lib.hid hno; have HTE := Lib.hid hte; have HXZ := Lib.hid hxz; have HR := Lib.hid hR; have HSZ := Lib.hid hsz
  clear hno hte hxz hR hn he hsz hcb hxv hxv2
  go_enter Tryz.func30, Tryz.ntmps30
  go_wp2_with fail
  refine (HNO.out _ xt).mono ?_
  rintro e1 w1 ⟨_, rfl, hA, hx1⟩
  have hA1 := hA.av
  obtain ⟨D1, c1, A1, f1, C1, g1, rfl, hk1, hD, hP, hK⟩ := hA1
  have b1 : Box w1 w.heap.size 29 _ := Box.ext (Box.new w _ _) hx1
  have b1r := b1.rules; have b1l := b1.lt
  have hE1 : Ext w w1 := ((Ext.refl w).alloc _).trans hx1
  go_upto_region 2 with fail
  refine wp_named fun V hV => ?_
  have c1' : Box V w.heap.size 29 #[.int .i64 n.kd, .bool n.d.neg, .slice D1 n.d.mag.length c1, .slice A1 n.t.ps.length f1, .bool n.t.k.neg, .slice C1 n.t.k.mag.length g1] := by rw [hV]; exact (((((b1.set_ 0 _).set_ 1 _).set_ 2 _).set_ 3 _).set_ 4 _).set_ 5 _
  have hE : Ext w V := by rw [hV]; exact (((((hE1.setCell (Nat.le_refl _) _).setCell (Nat.le_refl _) _).setCell (Nat.le_refl _) _).setCell (Nat.le_refl _) _).setCell (Nat.le_refl _) _).setCell (Nat.le_refl _) _
  have kV : Kp (fun b => w.heap.size < b) w1 V := by rw [hV]; exact ((((((Kp.refl w1).setCell (by simp only; omega) _).setCell (by simp only; omega) _).setCell (by simp only; omega) _).setCell (by simp only; omega) _).setCell (by simp only; omega) _).setCell (by simp only; omega) _
  have hD1 : Nl V (fun b => w.heap.size < b) D1 c1 n.d.mag := Nl.keep (hD.widen fun b hb _ => by simp only [wsz] at hb; omega) kV
  have hP1 : Pl V (fun b => w.heap.size < b) A1 f1 n.t.ps := Sl.keep (Sl.widen hP (by omega) fun b hb _ => by simp only [wsz] at hb; omega) kV
  have hK1 : Nl V (fun b => w.heap.size < b) C1 g1 n.t.k.mag := Nl.keep (hK.widen fun b hb _ => by simp only [wsz] at hb; omega) kV
  clear hV b1 b1r b1l hA hD hP hK kV hx1 hE1 HNO
  have c1r := c1'.rules; have c1l := c1'.lt
  have hlb : n.t.lb := Tv.lb (⟨A1, f1, C1, g1, rfl, hP1, hK1⟩ : Tv V _ (.agg #[.slice A1 n.t.ps.length f1, .bool n.t.k.neg, .slice C1 n.t.k.mag.length g1]) n.t)
  by_cases he : e0 = 0
  · subst he
    have HR2 := HR.out
    rw [if_neg (by decide)] at HR2
    have HR3 := Lib.hid HR2
    clear HR2 HR
    go_wp2_with fail
    refine (HTE.out _ _ _ hE ⟨A1, f1, C1, g1, rfl, hP1, hK1⟩).mono ?_
    rintro e2 w2 ⟨hev, hx2⟩
    have d1 := c1'.ext hx2
    have d1r := d1.rules; have d1l := d1.lt
    have hE2 := hE.trans hx2
    cases cb with
    | false =>
      simp only [Bool.false_eq_true, if_false] at hev
      subst hev
      have HR4 := HR3.out
      simp only [Bool.false_eq_true, if_false] at HR4
      subst HR4
      clear c1r c1l
      go_wp2_with fail
      (refine bodyPost_ret (v := ?_) ?_ rfl ?_; rotate_left; (simp only [results, Tryz.results30]; go_simp; (first | done | with_reducible rfl)))
      exact ⟨rfl, xt⟩
    | true =>
      simp only [if_true] at hev
      obtain ⟨_, rfl, B, d, rfl, hB⟩ := hev
      have HR4 := HR3.out
      simp only [if_true] at HR4
      have HR5 := Lib.hid HR4
      clear HR4 HR3 c1r c1l
      go_upto_region 5 with fail
      refine wp_named fun U hU => ?_
      obtain ⟨g7, hg7⟩ : ∃ g, g = w2.heap.size := ⟨_, rfl⟩
      have b7 : Box U g7 24 #[.bool (cz xv).neg, .slice B (cz xv).mag.length d] := by rw [hU, hg7]; exact Box.new _ _ _
      have hxU : Ext w2 U := by rw [hU]; exact (Ext.refl w2).alloc _
      have hBU := Nl.ext hB hxU
      have a1 := d1.ext hxU
      have hVU := hx2.trans hxU
      have hEU := hE2.trans hxU
      rw [← hg7]
      clear hU hg7 d1 d1r d1l hB hxU hE2 hx2
      have a1r := a1.rules; have a1l := a1.lt; have b7r := b7.rules; have b7l := b7.lt
      have hsg := fun (W : World) (hW : Ext U W) => zsign_c (⟨B, d, rfl, Nl.ext hBU hW⟩ : Zi W _ (.agg #[.bool (cz xv).neg, .slice B (cz xv).mag.length d]) (cz xv))
      rw [cz_v] at hsg
      rcases hfi with ⟨b, hb⟩ | ⟨-, hf⟩
      · subst hb
        cases b
        · have a1' : Box U w.heap.size 29 #[.int .i64 0, .bool (constA false).d.neg, .slice D1 (constA false).d.mag.length c1, .slice A1 (constA false).t.ps.length f1, .bool (constA false).t.k.neg, .slice C1 (constA false).t.k.mag.length g1] := a1
          have HR6 : R = (false, 0) := HR5.out
          subst HR6
          clear a1 a1r hsg b7r
          have a1r := a1'.rules
          go_wp2_with fail
          (refine bodyPost_ret (v := ?_) ?_ rfl ?_; rotate_left; (simp only [results, Tryz.results30]; go_simp; (first | done | with_reducible rfl)))
          exact ⟨rfl, hEU⟩
        · have a1' : Box U w.heap.size 29 #[.int .i64 1, .bool (constA true).d.neg, .slice D1 (constA true).d.mag.length c1, .slice A1 (constA true).t.ps.length f1, .bool (constA true).t.k.neg, .slice C1 (constA true).t.k.mag.length g1] := a1
          have HR6 : R = (true, 0) := HR5.out
          subst HR6
          clear a1 a1r hsg b7r
          have a1r := a1'.rules
          go_wp2_with fail
          (refine bodyPost_ret (v := ?_) ?_ rfl ?_; rotate_left; (simp only [results, Tryz.results30]; go_simp; (first | done | with_reducible rfl)))
          exact ⟨rfl, hEU⟩
      · obtain ⟨hkd, -⟩ := hf
        obtain ⟨sg, hsge⟩ : ∃ s, s = sgn xv := ⟨_, rfl⟩
        have hsp : 0 < sg ↔ 0 < xv := by rw [hsge]; exact cmpI_pos
        rw [← hsge] at hsg
        have HSG := Lib.hid hsg
        clear hsg hsge
        rcases hkd with ⟨hk2, -⟩ | ⟨hk34, hd1, -, -⟩
        · have HR6 : R = (decide (0 < sg), 0) := by
            rw [HR5.out]
            unfold holdsA
            rw [if_pos hk2]
            exact congrArg (fun b => (b, (0 : Int))) (decide_eq_decide.2 hsp.symm)
          have HR7 := Lib.hid HR6
          rw [hk2] at a1r
          clear HR6 HR5 hk2 hk1 hsp a1
          go_wp2_with fail
          refine (HSG.out _ (Ext.refl _)).mono ?_
          rintro e3 w3 ⟨rfl, hx3⟩
          go_wp2_with fail
          (refine bodyPost_ret (v := ?_) ?_ rfl ?_; rotate_left; (simp only [results, Tryz.results30]; go_simp; (first | done | with_reducible rfl)))
          exact ⟨by rw [HR7.out], hEU.trans hx3⟩
        · rcases hk34 with hk0 | hk0
          · have hd0 : n.d.v ≠ 0 := by omega
            have hdl : n.d.mag.length ≤ 8 * N := by have := HSZ.out.1; omega
            have hxl : (cz xv).mag.length ≤ 8 * N := by rw [cz_len]; have := HXZ.out hlb; omega
            have HR6 : R = (decide (xv.fmod n.d.v = 0), 0) := by
              rw [HR5.out]
              unfold holdsA
              rw [if_neg (by omega), if_pos hk0]
            have HR7 := Lib.hid HR6
            have hDU := Nl.ext hD1 hVU
            have hmo := mod_c (⟨D1, c1, rfl, Nl.ext hDU (Ext.refl U).drew⟩ : Zi U.drew _ (.agg #[.bool n.d.neg, .slice D1 n.d.mag.length c1]) n.d)
            obtain ⟨rz, hrz⟩ : ∃ z, z = cz (xv.fmod n.d.v) := ⟨_, rfl⟩
            have hrv : sgn rz.v = 0 ↔ xv.fmod n.d.v = 0 := by rw [hrz, cz_v]; exact sgn_zero
            have hca := fun (W : World) (g : Nat) (hb : Bz W (fun b => w.heap.size < b) g n.d) (hW : Ext U W) => (modf_c (N := 8 * N) hb hd0 (by omega) hdl).2 W (Ext.refl W) _ _ _ (⟨B, d, rfl, Nl.ext hBU hW⟩ : Zi W _ (.agg #[.bool (cz xv).neg, .slice B (cz xv).mag.length d]) (cz xv)) hxl
            rw [cz_v, ← hrz] at hca
            have HMO := Lib.hid hmo; have HCA := Lib.hid hca; have HRV := Lib.hid hrv; have HD0 := Lib.hid hd0
            rw [hk0] at a1r
            clear HR6 HR5 hk0 hk1 hsp a1 hmo hca hrv hrz HSG hd0
            go_wp2_with fail
            refine wp_region_late [(0, true), (1, true), (3, true), (7, true), (8, true), (9, true), (2, false), (4, false), (5, false), (6, true), (10, true)] [11, 12] rfl (by kernel_rfl) (by intro _ _ d _ _ h; cases d <;> exact h) ?_
            (repeat (refine sh_take (v := ?_) rfl rfl ?_ ?_; rotate_left; (intro w' hx'; have hc' := hx'.cells.1; (try simp only [wcd] at hc'); go_simp; (first | done | with_reducible rfl)); (try simp only [pt])))
            (refine sh_loud rfl rfl fun K hK => ?_; go_simp)
            refine HMO.out.mono ?_
            rintro e3 w3 ⟨g8, rfl, -, hb8, hx3⟩
            have hy3 : Ext U w3 := (Ext.refl U).drew.trans hx3
            (refine hK _ _ xt ?_; clear hK K; (try simp only [pt]))
            (repeat (refine sh_take (v := ?_) rfl rfl ?_ ?_; rotate_left; (intro w' hx'; have hc' := hx'.cells.1; (try simp only [wcd] at hc'); go_simp; (first | done | with_reducible rfl)); (try simp only [pt])))
            (refine sh_loud rfl rfl fun K hK => ?_; go_simp)
            refine (HCA.out _ _ hb8 hy3).mono ?_
            rintro e4 w4 ⟨r4, rfl, hr4, hx4⟩
            have hy4 := hy3.trans hx4
            (refine hK _ _ xt ?_; clear hK K; (try simp only [pt]))
            (refine sh_loud rfl rfl fun K hK => ?_; go_simp)
            refine (zsign_c hr4).mono ?_
            rintro e5 w5 ⟨rfl, hx5⟩
            have hy5 := hy4.trans hx5
            (refine hK _ _ xt ?_; clear hK K; (try simp only [pt]))
            obtain ⟨sr, hsr⟩ : ∃ s, s = sgn rz.v := ⟨_, rfl⟩
            have hrv := HRV.out
            rw [← hsr] at hrv ⊢
            have HRV2 := Lib.hid hrv
            clear hsr hrv HRV
            (repeat (refine sh_take (v := ?_) rfl rfl ?_ ?_; rotate_left; (intro w' hx'; have hc' := hx'.cells.1; (try simp only [wcd] at hc'); go_simp; (first | done | with_reducible rfl)); (try simp only [pt])))
            refine sh_done ?_
            (refine sh_late rfl rfl fun K hK => ?_; go_simp; refine hK _ _ ?_; clear hK K)
            (refine sh_late rfl rfl fun K hK => ?_; go_simp; refine hK _ _ ?_; clear hK K)
            refine sh_end ?_
            go_wp2_with fail
            (refine bodyPost_ret (v := ?_) ?_ rfl ?_; rotate_left; (simp only [results, Tryz.results30]; go_simp; (first | done | with_reducible rfl)))
            refine ⟨?_, hEU.trans hy5⟩
            rw [HR7.out]
            have h9 : decide (sr = 0) = decide (xv.fmod n.d.v = 0) := decide_eq_decide.2 HRV2.out
            simp [← h9]
            rfl
          · have hd0 : n.d.v ≠ 0 := by omega
            have hdl : n.d.mag.length ≤ 8 * N := by have := HSZ.out.1; omega
            have hxl : (cz xv).mag.length ≤ 8 * N := by rw [cz_len]; have := HXZ.out hlb; omega
            have HR6 : R = (!decide (xv.fmod n.d.v = 0), 0) := by
              rw [HR5.out]
              unfold holdsA
              rw [if_neg (by omega), if_neg (by omega), if_pos hk0]
            have HR7 := Lib.hid HR6
            have hDU := Nl.ext hD1 hVU
            have hmo := mod_c (⟨D1, c1, rfl, Nl.ext hDU (Ext.refl U).drew⟩ : Zi U.drew _ (.agg #[.bool n.d.neg, .slice D1 n.d.mag.length c1]) n.d)
            obtain ⟨rz, hrz⟩ : ∃ z, z = cz (xv.fmod n.d.v) := ⟨_, rfl⟩
            have hrv : sgn rz.v = 0 ↔ xv.fmod n.d.v = 0 := by rw [hrz, cz_v]; exact sgn_zero
            have hca := fun (W : World) (g : Nat) (hb : Bz W (fun b => w.heap.size < b) g n.d) (hW : Ext U W) => (modf_c (N := 8 * N) hb hd0 (by omega) hdl).2 W (Ext.refl W) _ _ _ (⟨B, d, rfl, Nl.ext hBU hW⟩ : Zi W _ (.agg #[.bool (cz xv).neg, .slice B (cz xv).mag.length d]) (cz xv)) hxl
            rw [cz_v, ← hrz] at hca
            have HMO := Lib.hid hmo; have HCA := Lib.hid hca; have HRV := Lib.hid hrv; have HD0 := Lib.hid hd0
            rw [hk0] at a1r
            clear HR6 HR5 hk0 hk1 hsp a1 hmo hca hrv hrz HSG hd0
            go_wp2_with fail
            refine wp_region_late [(0, true), (1, true), (3, true), (7, true), (8, true), (9, true), (2, false), (4, false), (5, false), (6, true), (10, true)] [11, 12] rfl (by kernel_rfl) (by intro _ _ d _ _ h; cases d <;> exact h) ?_
            (repeat (refine sh_take (v := ?_) rfl rfl ?_ ?_; rotate_left; (intro w' hx'; have hc' := hx'.cells.1; (try simp only [wcd] at hc'); go_simp; (first | done | with_reducible rfl)); (try simp only [pt])))
            (refine sh_loud rfl rfl fun K hK => ?_; go_simp)
            refine HMO.out.mono ?_
            rintro e3 w3 ⟨g8, rfl, -, hb8, hx3⟩
            have hy3 : Ext U w3 := (Ext.refl U).drew.trans hx3
            (refine hK _ _ xt ?_; clear hK K; (try simp only [pt]))
            (repeat (refine sh_take (v := ?_) rfl rfl ?_ ?_; rotate_left; (intro w' hx'; have hc' := hx'.cells.1; (try simp only [wcd] at hc'); go_simp; (first | done | with_reducible rfl)); (try simp only [pt])))
            (refine sh_loud rfl rfl fun K hK => ?_; go_simp)
            refine (HCA.out _ _ hb8 hy3).mono ?_
            rintro e4 w4 ⟨r4, rfl, hr4, hx4⟩
            have hy4 := hy3.trans hx4
            (refine hK _ _ xt ?_; clear hK K; (try simp only [pt]))
            (refine sh_loud rfl rfl fun K hK => ?_; go_simp)
            refine (zsign_c hr4).mono ?_
            rintro e5 w5 ⟨rfl, hx5⟩
            have hy5 := hy4.trans hx5
            (refine hK _ _ xt ?_; clear hK K; (try simp only [pt]))
            obtain ⟨sr, hsr⟩ : ∃ s, s = sgn rz.v := ⟨_, rfl⟩
            have hrv := HRV.out
            rw [← hsr] at hrv ⊢
            have HRV2 := Lib.hid hrv
            clear hsr hrv HRV
            (repeat (refine sh_take (v := ?_) rfl rfl ?_ ?_; rotate_left; (intro w' hx'; have hc' := hx'.cells.1; (try simp only [wcd] at hc'); go_simp; (first | done | with_reducible rfl)); (try simp only [pt])))
            refine sh_done ?_
            (refine sh_late rfl rfl fun K hK => ?_; go_simp; refine hK _ _ ?_; clear hK K)
            (refine sh_late rfl rfl fun K hK => ?_; go_simp; refine hK _ _ ?_; clear hK K)
            refine sh_end ?_
            go_wp2_with fail
            (refine bodyPost_ret (v := ?_) ?_ rfl ?_; rotate_left; (simp only [results, Tryz.results30]; go_simp; (first | done | with_reducible rfl)))
            refine ⟨?_, hEU.trans hy5⟩
            rw [HR7.out]
            have h9 : decide (sr = 0) = decide (xv.fmod n.d.v = 0) := decide_eq_decide.2 HRV2.out
            simp [← h9]
            rfl
  · have he2 : (e0 == 0) = false := by rw [beq_eq_false_iff_ne]; exact he
    have HR2 := HR.out
    rw [if_pos he] at HR2
    subst HR2
    go_wp2_with fail
    (refine bodyPost_ret (v := ?_) ?_ rfl ?_; rotate_left; (simp only [results, Tryz.results30]; go_simp; (first | done | with_reducible rfl)))
    exact ⟨rfl, hE⟩

end Go.Proofs.YthmjgbkakjpfkaaGreatDoor
