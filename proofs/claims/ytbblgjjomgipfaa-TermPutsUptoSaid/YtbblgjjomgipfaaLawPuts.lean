/- riddlelaw05.TermPuts. No conditions. -/
import Derived.Test.YtbblgjjomgipfaaAwake
import Derived.Test.YtbblgjjomgipfaaWith
import Derived.Test.YtbblgjjomgipfaaLawKit
namespace Go.Proofs.Ytbblgjjomgipfaa
open Go.RowKit Go.Shelf

theorem cf_wo (x y : Int) : ∀ (ps : List (Int × Z)), cf (vl (wo x ps)) y = if y = x then 0 else cf (vl ps) y
  | [] => by simp [wo, vl, cf]
  | p :: ps => by
    have ih := cf_wo x y ps
    unfold wo at ih ⊢
    rw [List.filter_cons]
    have e : vl (p :: ps) = (p.1, p.2.v) :: vl ps := rfl
    by_cases h : p.1 = x
    · rw [if_neg (by simpa using h), ih, e]
      simp only [cf]
      by_cases hy : y = x
      · rw [if_pos hy, if_pos hy]
      · rw [if_neg hy, if_neg hy, if_neg (by omega)]; omega
    · rw [if_pos (by simpa using h)]
      have e2 : vl (p :: List.filter (fun p => p.1 != x) ps) = (p.1, p.2.v) :: vl (List.filter (fun p => p.1 != x) ps) := rfl
      rw [e2, e]
      simp only [cf]
      rw [ih]
      by_cases hy : y = x
      · rw [if_pos hy, if_pos hy, if_neg (by omega)]; rfl
      · rw [if_neg hy, if_neg hy]
theorem fv_cons (x : Int) (z : Z) (vals : List (Int × Z)) (y : Int) : fv ((x, z) :: vals) y = if x = y then z.v else fv vals y := by
  unfold fv
  simp only [lk]
  split <;> rfl
theorem ev_wo (x : Int) (z : Z) (vals : List (Int × Z)) : ∀ (ps : List (Int × Z)), ev (fv ((x, z) :: vals)) (vl ps) = ev (fv vals) (vl (wo x ps)) + cf (vl ps) x * z.v
  | [] => by simp [wo, vl, cf, ev]
  | p :: ps => by
    have ih := ev_wo x z vals ps
    unfold wo at ih ⊢
    rw [List.filter_cons]
    have e : vl (p :: ps) = (p.1, p.2.v) :: vl ps := rfl
    rw [e]
    simp only [ev, cf]
    rw [ih, fv_cons]
    by_cases h : p.1 = x
    · rw [if_neg (show ¬ (p.1 != x) = true by simpa using h), if_pos h.symm, if_pos h, Int.add_mul]
      omega
    · rw [if_pos (show (p.1 != x) = true by simpa using h), if_neg (fun e => h e.symm), if_neg h, Int.zero_add]
      have e2 : vl (p :: List.filter (fun p => p.1 != x) ps) = (p.1, p.2.v) :: vl (List.filter (fun p => p.1 != x) ps) := rfl
      rw [e2]
      simp only [ev]
      omega
theorem put_cov {x : Int} {z : Z} {vals : List (Int × Z)} {t u : T} (ht : cov ((x, z) :: vals) (cn (vl t.ps)) = true) (hu : cov vals (cn (vl u.ps)) = true) : cov vals (cn (cn (vl (wo x t.ps)) ++ sc (cf (vl t.ps) x) (vl u.ps))) = true := by
  rw [cov_iff] at *
  intro y hy
  rw [cf_append, cf_cn, cf_sc, cf_wo] at hy
  by_cases h1 : cf (vl u.ps) y = 0
  · rw [h1, Int.mul_zero, Int.add_zero] at hy
    by_cases hyx : y = x
    · rw [if_pos hyx] at hy; exact absurd rfl hy
    · rw [if_neg hyx] at hy
      have := ht y hy
      simp only [lk] at this
      rwa [if_neg (fun e => hyx e.symm)] at this
  · exact hu y h1
theorem put_val {x : Int} {z : Z} {vals : List (Int × Z)} {t u : T} {ex ey : Int} (hz : z.v = ex) (hx : ex = u.k.v + ev (fv vals) (vl u.ps)) (hy : ey = t.k.v + ev (fv ((x, z) :: vals)) (vl t.ps)) :
    (t.k.v + cf (vl t.ps) x * u.k.v) + ev (fv vals) (cn (vl (wo x t.ps)) ++ sc (cf (vl t.ps) x) (vl u.ps)) = ey := by
  rw [ev_append, ev_cn, ev_sc, hy, ev_wo, hz, hx, Int.mul_add]
  omega
theorem put_none (t : T) (x : Int) : cf (vl (t.wo x).nf.ps) x = 0 := by
  have e1 : vl (t.wo x).nf.ps = cn (vl (wo x t.ps)) := vl_cl _
  rw [e1, cf_cn, cf_wo, if_pos rfl]
theorem put_sz {t u : T} {x : Int} {N : Nat} (bt : t.lb) (bu : u.lb) (st : t.sz N) (su : u.sz N) : (t.put x u).sz (8 * N + 1) := by
  have hcl : zl (cf (vl t.ps) x) ≤ N + N := by
    have := zl_cf (zl_vl bt.1 st.2.1) x
    rw [vl_len] at this
    have := st.1
    omega
  have hwl : ∀ p ∈ cn (vl (wo x t.ps)), zl p.2 ≤ N + N := fun p hp => by
    have := zl_cn (l := vl (wo x t.ps)) (N := N) (fun q hq => by
      obtain ⟨r, hr, rfl⟩ := List.mem_map.1 hq
      exact Nat.le_trans (zl_of (bt.1 r (wo_sub hr))) (st.2.1 r (wo_sub hr))) p hp
    rw [vl_len] at this
    have := wo_len x t.ps
    have := st.1
    omega
  have hk1 : zl t.k.v ≤ N := Nat.le_trans (zl_of bt.2) st.2.2
  have hk2 : zl u.k.v ≤ N := Nat.le_trans (zl_of bu.2) su.2.2
  have hk3 : zl (cf (vl t.ps) x * u.k.v) ≤ 3 * N := Nat.le_trans (zl_mul _ _) (by omega)
  have := ct_sz (l := cn (vl (wo x t.ps)) ++ sc (cf (vl t.ps) x) (vl u.ps)) (k := t.k.v + cf (vl t.ps) x * u.k.v) (N := 2 * N) (M := 4 * N + 1) (by
      rw [List.length_append, sc_len, vl_len]
      have h1 := cn_len (vl (wo x t.ps))
      rw [vl_len] at h1
      have := wo_len x t.ps
      have := st.1; have := su.1
      omega)
    (fun p hp => by rcases List.mem_append.1 hp with hp | hp; exact Nat.le_trans (hwl p hp) (by omega); exact Nat.le_trans (zl_sc hcl (zl_vl bu.1 su.2.1) p hp) (by omega))
    (Nat.le_trans (zl_add (k := 3 * N) (by omega) hk3) (by omega))
  exact this.mono (by omega)

theorem ety_v : Ety Try.prog 35 52 3 40 (.agg #[.int .i64 0, .bool false, .slice none 0 0]) := ⟨Try.underlying35, by kernel_rfl, by simp [Value.cells], by omega⟩
/-- A row of one, written out, as a row of the call's own. -/
theorem own_lit {w : World} {Zp : Nat → Prop} {base g : Nat} {x : Int} {z : Z} {A : Option Addr} {c : Nat} {e : TypeId} (hg : g = w.heap.size) (hb : base ≤ g) (hi : i64 x) (h : Nl w (fun b => Zp b ∧ b < w.heap.size) A c z.mag) :
    Own 3 EP (w.alloc (.cells #[.int .i64 x, .bool z.neg, .slice A z.mag.length c] e)) Zp base e (.slice (some ⟨g, 0, none⟩) 1 1) [(x, z)] := by
  subst hg
  refine ⟨[.int .i64 x, .bool z.neg, .slice A z.mag.length c], ⟨rfl, .inr ⟨w.heap.size, 1, _, rfl, hb, Box.new _ _ _, by simp, by simp [maxLen], rfl, rfl⟩⟩, Fl.one ⟨A, c, rfl, hi, ?_⟩ rfl⟩
  exact (h.keep ((Kp.refl w).alloc _)).widen fun b hb _ => ⟨hb.1, fun e => by
    have e2 : w.heap.size = b := by injection e
    have := hb.2
    omega⟩

set_option maxHeartbeats 3200000 in
theorem lawputs_c {v1 v3 : Value} {t u : T} {x : Int} {A : Option Addr} {c : Nat} {vals : List (Int × Z)} {w : World} {X1 X3 X4 : Nat → Prop} {N : Nat} (h1 : Tv w X1 v1 t) (hi : i64 x) (h3 : Tv w X3 v3 u) (h4 : Pl w X4 A c vals)
    (hN : N ≤ 2097152) (h2N : 2 ≤ N) (s1 : t.sz N) (s3 : u.sz N) (s4 : ∀ p ∈ vals, p.2.mag.length ≤ N) (s5 : vals.length ≤ N) :
    Calls Try.prog 7 #[v1, .int .i64 x, v3, .slice A vals.length c] w fun e w' => e = .returned (.bool true) ∧ Ext w w' := by
  have ht := h1; have hu := h3
  have lt := h1.lb; have lu := h3.lb
  obtain ⟨TA, tc, TB, td, rfl, h11, h12⟩ := h1
  obtain ⟨UA, uc, UB, ud, rfl, h31, h32⟩ := h3
  go_enter Try.func7, Try.ntmps7
  go_wp2_with fail
  refine (awake_c _).mono ?_
  rintro e W ⟨rfl, hx⟩
  (have b4 := Box.ext (g := w.heap.size) (by repeat (first | with_reducible assumption | with_reducible exact Box.new _ _ _ | (with_reducible refine Box.new_at _ _ _ ?_; (simp only [wsz]; done)) | with_reducible refine Box.drewN ?_ _ | with_reducible refine Box.drew ?_ | with_reducible refine Box.alloc ?_ _ | with_reducible apply Box.drewN | with_reducible apply Box.drew | with_reducible apply Box.alloc | with_reducible refine Box.set_ ?_ _ _ | (with_reducible refine Box.far ?_ ?_ _; rotate_left; (simp only [ne_eq]; omega)) | (with_reducible refine Box.ext ?_ (by with_reducible assumption)) | (refine Box.new_at _ _ _ ?_; simp only [wsz]; done))) hx; have b4r := b4.rules; have b4l := b4.lt)
  (have b6 := Box.ext (g := w.heap.size + 1) (by repeat (first | with_reducible assumption | with_reducible exact Box.new _ _ _ | (with_reducible refine Box.new_at _ _ _ ?_; (simp only [wsz]; done)) | with_reducible refine Box.drewN ?_ _ | with_reducible refine Box.drew ?_ | with_reducible refine Box.alloc ?_ _ | with_reducible apply Box.drewN | with_reducible apply Box.drew | with_reducible apply Box.alloc | with_reducible refine Box.set_ ?_ _ _ | (with_reducible refine Box.far ?_ ?_ _; rotate_left; (simp only [ne_eq]; omega)) | (with_reducible refine Box.ext ?_ (by with_reducible assumption)) | (refine Box.new_at _ _ _ ?_; simp only [wsz]; done))) hx; have b6r := b6.rules; have b6l := b6.lt)
  have hE : Ext w W := (by repeat (first | with_reducible assumption | with_reducible exact Ext.refl _ | with_reducible refine Ext.drewN ?_ _ | with_reducible refine Ext.drew ?_ | with_reducible refine Ext.alloc ?_ _ | (with_reducible refine Ext.setCell ?_ ?_ _; rotate_left; (first | exact Nat.le_refl _ | (dsimp only; omega) | (simp only [wsz]; omega))) | (with_reducible refine Ext.trans ?_ (by with_reducible assumption))))
  clear hx
  have htW := ht.ext hE
  have huW := hu.ext hE
  have hvW := h4.ext hE
  rcases hcu : cov vals (cn (vl u.ps)) with _ | _
  · go_wp2_with fail
    refine (teval_no (N := N) huW hvW (by omega) s3 s4 hcu).mono ?_
    rintro e w1 ⟨rfl, hx1⟩
    go_wp2_with fail
    go_ret
    exact ⟨rfl, hE.trans (by repeat (first | with_reducible assumption | with_reducible exact Ext.refl _ | with_reducible refine Ext.drewN ?_ _ | with_reducible refine Ext.drew ?_ | with_reducible refine Ext.alloc ?_ _ | (with_reducible refine Ext.setCell ?_ ?_ _; rotate_left; (first | exact Nat.le_refl _ | (dsimp only; omega) | (simp only [wsz]; omega))) | (with_reducible refine Ext.trans ?_ (by with_reducible assumption))))⟩
  · obtain ⟨ex, hex⟩ : ∃ ex, ex = u.k.v + ev (fv vals) (vl u.ps) := ⟨_, rfl⟩
    have lx : zl ex ≤ 4 * N := by rw [hex]; exact Nat.le_trans (ev_sz lu s3 hvW.lb s4) (by omega)
    have Hx := Lib.hid hex
    clear hex
    go_wp2_with fail
    refine (teval_yes (N := N) huW hvW (by omega) s3 s4 hcu).mono ?_
    rw [← Hx.out]
    rintro e w1 ⟨Bx, dx, rfl, hNx, hx1⟩
    have b41 := Box.ext (g := w.heap.size) (by repeat (first | with_reducible assumption | with_reducible exact Box.new _ _ _ | (with_reducible refine Box.new_at _ _ _ ?_; (simp only [wsz]; done)) | with_reducible refine Box.drewN ?_ _ | with_reducible refine Box.drew ?_ | with_reducible refine Box.alloc ?_ _ | with_reducible apply Box.drewN | with_reducible apply Box.drew | with_reducible apply Box.alloc | with_reducible refine Box.set_ ?_ _ _ | (with_reducible refine Box.far ?_ ?_ _; rotate_left; (simp only [ne_eq]; omega)) | (with_reducible refine Box.ext ?_ (by with_reducible assumption)) | (refine Box.new_at _ _ _ ?_; simp only [wsz]; done))) hx1
    have b61 := Box.ext (g := w.heap.size + 1) (by repeat (first | with_reducible assumption | with_reducible exact Box.new _ _ _ | (with_reducible refine Box.new_at _ _ _ ?_; (simp only [wsz]; done)) | with_reducible refine Box.drewN ?_ _ | with_reducible refine Box.drew ?_ | with_reducible refine Box.alloc ?_ _ | with_reducible apply Box.drewN | with_reducible apply Box.drew | with_reducible apply Box.alloc | with_reducible refine Box.set_ ?_ _ _ | (with_reducible refine Box.far ?_ ?_ _; rotate_left; (simp only [ne_eq]; omega)) | (with_reducible refine Box.ext ?_ (by with_reducible assumption)) | (refine Box.new_at _ _ _ ?_; simp only [wsz]; done))) hx1
    clear b4r b6r b4 b6 b4l b6l
    have hEW1 : Ext w w1 := hE.trans hx1
    have hs1 := hx1.size
    obtain ⟨ws, hws⟩ : ∃ ws, ws = [(x, cz ex)] ++ vals := ⟨_, rfl⟩
    have hws2 : ws = (x, cz ex) :: vals := hws
    have hws4 : ∀ p ∈ ws, p.2.mag.length ≤ 4 * N := fun p hp => by
      rw [hws2] at hp
      rcases List.mem_cons.1 hp with rfl | hp
      · rw [cz_len]; exact lx
      · exact Nat.le_trans (s4 p hp) (by omega)
    have Hws := Lib.hid hws; have Hws2 := Lib.hid hws2
    clear hws hws2
    have hOw : Own 3 EP ((w1.alloc (.cells #[.bool (cz ex).neg, .slice Bx (cz ex).mag.length dx] 25)).alloc (.cells #[.int .i64 x, .bool (cz ex).neg, .slice Bx (cz ex).mag.length dx] 52)) (fun _ => True) w1.heap.size 52 (.slice (some ⟨w1.heap.size + 1, 0, none⟩) 1 1) [(x, cz ex)] :=
      own_lit (by simp) (by omega) hi ((hNx.ext (Ext.alloc (Ext.refl w1) _)).widen fun b _ hl => ⟨trivial, hl⟩)
    obtain ⟨ys, hf, hfc⟩ := ((hvW.ext hx1).widen (Y := fun b => b < w1.heap.size) fun b _ hl => hl).flat
    have hf2 : Fl 3 EP ((w1.alloc (.cells #[.bool (cz ex).neg, .slice Bx (cz ex).mag.length dx] 25)).alloc (.cells #[.int .i64 x, .bool (cz ex).neg, .slice Bx (cz ex).mag.length dx] 52)) (fun b => True ∧ Value.ownBlock (.slice (some ⟨w1.heap.size + 1, 0, none⟩) 1 1) ≠ some b) ys vals :=
      (hf.keep (((Kp.refl w1).alloc _).alloc _)).widen fun b hb _ => ⟨trivial, fun e => by
        have e2 : w1.heap.size + 1 = b := by injection e
        omega⟩
    have hfc2 : 0 < vals.length → ∃ b o, A = some ⟨b, o, none⟩ ∧ ∀ j u, ys[j]? = some u → ((w1.alloc (.cells #[.bool (cz ex).neg, .slice Bx (cz ex).mag.length dx] 25)).alloc (.cells #[.int .i64 x, .bool (cz ex).neg, .slice Bx (cz ex).mag.length dx] 52)).cell? ⟨b, o + j, none⟩ = some u := fun h0 => by
      obtain ⟨b, o, hA, hb, hc⟩ := hfc h0
      refine ⟨b, o, hA, fun j u hj => ?_⟩
      rw [World.cell?_alloc_lt _ _ _ (by simp only [wsz]; omega), World.cell?_alloc_lt _ _ _ hb]
      exact hc j u hj
    go_wp2_with (first
      | (at_builtin
         go_loud (refine wpList_app ety_v (.tmp 33) (.tmp 34) hOw hf2 hfc2 (by simp only [List.length_singleton]; omega) (by simp only [List.length_singleton, maxLen]; omega) (by simp only [wsz]; omega) rfl rfl rfl rfl ?_)
         intro v2 w2 hO2 hg2 hv2
         have hx2 : Ext w1 w2 := (((Ext.refl w1).alloc _).alloc _).grown hg2 (fun k hk => by
           have e2 : w1.heap.size + 1 = k := by injection hk
           omega)
         have bx2 : Box w2 w1.heap.size 25 #[.bool (cz ex).neg, .slice Bx (cz ex).mag.length dx] := Box.grown ((Box.new _ _ _).alloc _) hg2 (fun e => by
           have e2 : w1.heap.size = w1.heap.size + 1 := by injection e
           omega)
         have b42 := b41.ext hx2
         have b62 := b61.ext hx2
         have b42r := b42.rules
         have b42l := b42.lt
         rw [← Hws.out] at hO2
         obtain ⟨A2, c2, rfl, hP2⟩ := Own.sl hO2 (by omega) (X := fun _ => True) (fun _ _ => trivial)
         clear hO2 hg2 hv2)
      | fail)
    have hP2 : Pl w2 (fun _ => True) A2 c2 ws := hP2
    clear hOw hf2 hfc2 hf hfc b41 b61
    rcases hct : cov ws (cn (vl t.ps)) with _ | _
    · refine (teval_no (N := 4 * N) (htW.ext (by repeat (first | with_reducible assumption | with_reducible exact Ext.refl _ | with_reducible refine Ext.drewN ?_ _ | with_reducible refine Ext.drew ?_ | with_reducible refine Ext.alloc ?_ _ | (with_reducible refine Ext.setCell ?_ ?_ _; rotate_left; (first | exact Nat.le_refl _ | (dsimp only; omega) | (simp only [wsz]; omega))) | (with_reducible refine Ext.trans ?_ (by with_reducible assumption))))) hP2 (by omega) (s1.mono (by omega)) hws4 hct).mono ?_
      rintro e w3 ⟨rfl, hx3⟩
      go_wp2_with fail
      go_ret
      exact ⟨rfl, hE.trans (by repeat (first | with_reducible assumption | with_reducible exact Ext.refl _ | with_reducible refine Ext.drewN ?_ _ | with_reducible refine Ext.drew ?_ | with_reducible refine Ext.alloc ?_ _ | (with_reducible refine Ext.setCell ?_ ?_ _; rotate_left; (first | exact Nat.le_refl _ | (dsimp only; omega) | (simp only [wsz]; omega))) | (with_reducible refine Ext.trans ?_ (by with_reducible assumption))))⟩
    · obtain ⟨ey, hey⟩ : ∃ ey, ey = t.k.v + ev (fv ws) (vl t.ps) := ⟨_, rfl⟩
      have Hy := Lib.hid hey
      clear hey
      refine (teval_yes (N := 4 * N) (htW.ext (by repeat (first | with_reducible assumption | with_reducible exact Ext.refl _ | with_reducible refine Ext.drewN ?_ _ | with_reducible refine Ext.drew ?_ | with_reducible refine Ext.alloc ?_ _ | (with_reducible refine Ext.setCell ?_ ?_ _; rotate_left; (first | exact Nat.le_refl _ | (dsimp only; omega) | (simp only [wsz]; omega))) | (with_reducible refine Ext.trans ?_ (by with_reducible assumption))))) hP2 (by omega) (s1.mono (by omega)) hws4 hct).mono ?_
      rw [← Hy.out]
      rintro e w3 ⟨By, dy, rfl, hNy, hx3⟩
      have b43 := Box.ext (g := w.heap.size) (by repeat (first | with_reducible assumption | with_reducible exact Box.new _ _ _ | (with_reducible refine Box.new_at _ _ _ ?_; (simp only [wsz]; done)) | with_reducible refine Box.drewN ?_ _ | with_reducible refine Box.drew ?_ | with_reducible refine Box.alloc ?_ _ | with_reducible apply Box.drewN | with_reducible apply Box.drew | with_reducible apply Box.alloc | with_reducible refine Box.set_ ?_ _ _ | (with_reducible refine Box.far ?_ ?_ _; rotate_left; (simp only [ne_eq]; omega)) | (with_reducible refine Box.ext ?_ (by with_reducible assumption)) | (refine Box.new_at _ _ _ ?_; simp only [wsz]; done))) hx3
      have b43r := b43.rules
      have b43l := b43.lt
      have b63 := Box.ext (g := w.heap.size + 1) (by repeat (first | with_reducible assumption | with_reducible exact Box.new _ _ _ | (with_reducible refine Box.new_at _ _ _ ?_; (simp only [wsz]; done)) | with_reducible refine Box.drewN ?_ _ | with_reducible refine Box.drew ?_ | with_reducible refine Box.alloc ?_ _ | with_reducible apply Box.drewN | with_reducible apply Box.drew | with_reducible apply Box.alloc | with_reducible refine Box.set_ ?_ _ _ | (with_reducible refine Box.far ?_ ?_ _; rotate_left; (simp only [ne_eq]; omega)) | (with_reducible refine Box.ext ?_ (by with_reducible assumption)) | (refine Box.new_at _ _ _ ?_; simp only [wsz]; done))) hx3
      have b63r := b63.rules
      have b63l := b63.lt
      have bx3 := Box.ext (g := w1.heap.size) (by repeat (first | with_reducible assumption | with_reducible exact Box.new _ _ _ | (with_reducible refine Box.new_at _ _ _ ?_; (simp only [wsz]; done)) | with_reducible refine Box.drewN ?_ _ | with_reducible refine Box.drew ?_ | with_reducible refine Box.alloc ?_ _ | with_reducible apply Box.drewN | with_reducible apply Box.drew | with_reducible apply Box.alloc | with_reducible refine Box.set_ ?_ _ _ | (with_reducible refine Box.far ?_ ?_ _; rotate_left; (simp only [ne_eq]; omega)) | (with_reducible refine Box.ext ?_ (by with_reducible assumption)) | (refine Box.new_at _ _ _ ?_; simp only [wsz]; done))) hx3
      clear b42r b42 b62 bx2 b42l
      go_wp2_with fail
      refine (tput_c (x := x) (N := N) (htW.ext (by repeat (first | with_reducible assumption | with_reducible exact Ext.refl _ | with_reducible refine Ext.drewN ?_ _ | with_reducible refine Ext.drew ?_ | with_reducible refine Ext.alloc ?_ _ | (with_reducible refine Ext.setCell ?_ ?_ _; rotate_left; (first | exact Nat.le_refl _ | (dsimp only; omega) | (simp only [wsz]; omega))) | (with_reducible refine Ext.trans ?_ (by with_reducible assumption))))) (huW.ext (by repeat (first | with_reducible assumption | with_reducible exact Ext.refl _ | with_reducible refine Ext.drewN ?_ _ | with_reducible refine Ext.drew ?_ | with_reducible refine Ext.alloc ?_ _ | (with_reducible refine Ext.setCell ?_ ?_ _; rotate_left; (first | exact Nat.le_refl _ | (dsimp only; omega) | (simp only [wsz]; omega))) | (with_reducible refine Ext.trans ?_ (by with_reducible assumption))))) (by omega) h2N s1 s3).mono ?_
      rintro e w4 ⟨r4, rfl, ht4, hx4⟩
      have b44 := Box.ext (g := w.heap.size) (by repeat (first | with_reducible assumption | with_reducible exact Box.new _ _ _ | (with_reducible refine Box.new_at _ _ _ ?_; (simp only [wsz]; done)) | with_reducible refine Box.drewN ?_ _ | with_reducible refine Box.drew ?_ | with_reducible refine Box.alloc ?_ _ | with_reducible apply Box.drewN | with_reducible apply Box.drew | with_reducible apply Box.alloc | with_reducible refine Box.set_ ?_ _ _ | (with_reducible refine Box.far ?_ ?_ _; rotate_left; (simp only [ne_eq]; omega)) | (with_reducible refine Box.ext ?_ (by with_reducible assumption)) | (refine Box.new_at _ _ _ ?_; simp only [wsz]; done))) hx4
      have b64 := Box.ext (g := w.heap.size + 1) (by repeat (first | with_reducible assumption | with_reducible exact Box.new _ _ _ | (with_reducible refine Box.new_at _ _ _ ?_; (simp only [wsz]; done)) | with_reducible refine Box.drewN ?_ _ | with_reducible refine Box.drew ?_ | with_reducible refine Box.alloc ?_ _ | with_reducible apply Box.drewN | with_reducible apply Box.drew | with_reducible apply Box.alloc | with_reducible refine Box.set_ ?_ _ _ | (with_reducible refine Box.far ?_ ?_ _; rotate_left; (simp only [ne_eq]; omega)) | (with_reducible refine Box.ext ?_ (by with_reducible assumption)) | (refine Box.new_at _ _ _ ?_; simp only [wsz]; done))) hx4
      have bx4 := Box.ext (g := w1.heap.size) (by repeat (first | with_reducible assumption | with_reducible exact Box.new _ _ _ | (with_reducible refine Box.new_at _ _ _ ?_; (simp only [wsz]; done)) | with_reducible refine Box.drewN ?_ _ | with_reducible refine Box.drew ?_ | with_reducible refine Box.alloc ?_ _ | with_reducible apply Box.drewN | with_reducible apply Box.drew | with_reducible apply Box.alloc | with_reducible refine Box.set_ ?_ _ _ | (with_reducible refine Box.far ?_ ?_ _; rotate_left; (simp only [ne_eq]; omega)) | (with_reducible refine Box.ext ?_ (by with_reducible assumption)) | (refine Box.new_at _ _ _ ?_; simp only [wsz]; done))) hx4
      have by_4 := Box.ext (g := w3.heap.size) (by repeat (first | with_reducible assumption | with_reducible exact Box.new _ _ _ | (with_reducible refine Box.new_at _ _ _ ?_; (simp only [wsz]; done)) | with_reducible refine Box.drewN ?_ _ | with_reducible refine Box.drew ?_ | with_reducible refine Box.alloc ?_ _ | with_reducible apply Box.drewN | with_reducible apply Box.drew | with_reducible apply Box.alloc | with_reducible refine Box.set_ ?_ _ _ | (with_reducible refine Box.far ?_ ?_ _; rotate_left; (simp only [ne_eq]; omega)) | (with_reducible refine Box.ext ?_ (by with_reducible assumption)) | (refine Box.new_at _ _ _ ?_; simp only [wsz]; done))) hx4
      clear b43r b63r b43 b43l b63 b63l bx3
      go_wp2_with fail
      refine (teval_ct (S := ey) (N := 8 * N + 1) ht4 (hvW.ext (by repeat (first | with_reducible assumption | with_reducible exact Ext.refl _ | with_reducible refine Ext.drewN ?_ _ | with_reducible refine Ext.drew ?_ | with_reducible refine Ext.alloc ?_ _ | (with_reducible refine Ext.setCell ?_ ?_ _; rotate_left; (first | exact Nat.le_refl _ | (dsimp only; omega) | (simp only [wsz]; omega))) | (with_reducible refine Ext.trans ?_ (by with_reducible assumption))))) (by omega) (put_sz lt lu s1 s3) (fun p hp => Nat.le_trans (s4 p hp) (by omega)) (put_cov (by rw [← Hws2.out]; exact hct) hcu) (put_val (cz_v ex) Hx.out (by rw [← Hws2.out]; exact Hy.out))).mono ?_
      rintro e w5 ⟨Bz, dz, rfl, hNz, hx5⟩
      have b45 := Box.ext (g := w.heap.size) (by repeat (first | with_reducible assumption | with_reducible exact Box.new _ _ _ | (with_reducible refine Box.new_at _ _ _ ?_; (simp only [wsz]; done)) | with_reducible refine Box.drewN ?_ _ | with_reducible refine Box.drew ?_ | with_reducible refine Box.alloc ?_ _ | with_reducible apply Box.drewN | with_reducible apply Box.drew | with_reducible apply Box.alloc | with_reducible refine Box.set_ ?_ _ _ | (with_reducible refine Box.far ?_ ?_ _; rotate_left; (simp only [ne_eq]; omega)) | (with_reducible refine Box.ext ?_ (by with_reducible assumption)) | (refine Box.new_at _ _ _ ?_; simp only [wsz]; done))) hx5
      have b65 := Box.ext (g := w.heap.size + 1) (by repeat (first | with_reducible assumption | with_reducible exact Box.new _ _ _ | (with_reducible refine Box.new_at _ _ _ ?_; (simp only [wsz]; done)) | with_reducible refine Box.drewN ?_ _ | with_reducible refine Box.drew ?_ | with_reducible refine Box.alloc ?_ _ | with_reducible apply Box.drewN | with_reducible apply Box.drew | with_reducible apply Box.alloc | with_reducible refine Box.set_ ?_ _ _ | (with_reducible refine Box.far ?_ ?_ _; rotate_left; (simp only [ne_eq]; omega)) | (with_reducible refine Box.ext ?_ (by with_reducible assumption)) | (refine Box.new_at _ _ _ ?_; simp only [wsz]; done))) hx5
      have bx5 := Box.ext (g := w1.heap.size) (by repeat (first | with_reducible assumption | with_reducible exact Box.new _ _ _ | (with_reducible refine Box.new_at _ _ _ ?_; (simp only [wsz]; done)) | with_reducible refine Box.drewN ?_ _ | with_reducible refine Box.drew ?_ | with_reducible refine Box.alloc ?_ _ | with_reducible apply Box.drewN | with_reducible apply Box.drew | with_reducible apply Box.alloc | with_reducible refine Box.set_ ?_ _ _ | (with_reducible refine Box.far ?_ ?_ _; rotate_left; (simp only [ne_eq]; omega)) | (with_reducible refine Box.ext ?_ (by with_reducible assumption)) | (refine Box.new_at _ _ _ ?_; simp only [wsz]; done))) hx5
      have by_5 := Box.ext (g := w3.heap.size) (by repeat (first | with_reducible assumption | with_reducible exact Box.new _ _ _ | (with_reducible refine Box.new_at _ _ _ ?_; (simp only [wsz]; done)) | with_reducible refine Box.drewN ?_ _ | with_reducible refine Box.drew ?_ | with_reducible refine Box.alloc ?_ _ | with_reducible apply Box.drewN | with_reducible apply Box.drew | with_reducible apply Box.alloc | with_reducible refine Box.set_ ?_ _ _ | (with_reducible refine Box.far ?_ ?_ _; rotate_left; (simp only [ne_eq]; omega)) | (with_reducible refine Box.ext ?_ (by with_reducible assumption)) | (refine Box.new_at _ _ _ ?_; simp only [wsz]; done))) hx5
      have by_5r := by_5.rules
      have by_5l := by_5.lt
      clear b44 b64 bx4 by_4
      go_wp2_with fail
      refine (zcmp_c (x := cz ey) (y := cz ey) ⟨_, _, rfl, hNy.ext (by repeat (first | with_reducible assumption | with_reducible exact Ext.refl _ | with_reducible refine Ext.drewN ?_ _ | with_reducible refine Ext.drew ?_ | with_reducible refine Ext.alloc ?_ _ | (with_reducible refine Ext.setCell ?_ ?_ _; rotate_left; (first | exact Nat.le_refl _ | (dsimp only; omega) | (simp only [wsz]; omega))) | (with_reducible refine Ext.trans ?_ (by with_reducible assumption))))⟩ ⟨_, _, rfl, hNz.ext (by repeat (first | with_reducible assumption | with_reducible exact Ext.refl _ | with_reducible refine Ext.drewN ?_ _ | with_reducible refine Ext.drew ?_ | with_reducible refine Ext.alloc ?_ _ | (with_reducible refine Ext.setCell ?_ ?_ _; rotate_left; (first | exact Nat.le_refl _ | (dsimp only; omega) | (simp only [wsz]; omega))) | (with_reducible refine Ext.trans ?_ (by with_reducible assumption))))⟩).mono ?_
      rw [cmpI_eq rfl]
      rintro e w6 ⟨rfl, hx6⟩
      have b46 := Box.ext (g := w.heap.size) (by repeat (first | with_reducible assumption | with_reducible exact Box.new _ _ _ | (with_reducible refine Box.new_at _ _ _ ?_; (simp only [wsz]; done)) | with_reducible refine Box.drewN ?_ _ | with_reducible refine Box.drew ?_ | with_reducible refine Box.alloc ?_ _ | with_reducible apply Box.drewN | with_reducible apply Box.drew | with_reducible apply Box.alloc | with_reducible refine Box.set_ ?_ _ _ | (with_reducible refine Box.far ?_ ?_ _; rotate_left; (simp only [ne_eq]; omega)) | (with_reducible refine Box.ext ?_ (by with_reducible assumption)) | (refine Box.new_at _ _ _ ?_; simp only [wsz]; done))) hx6
      have b46r := b46.rules
      have b46l := b46.lt
      have b66 := Box.ext (g := w.heap.size + 1) (by repeat (first | with_reducible assumption | with_reducible exact Box.new _ _ _ | (with_reducible refine Box.new_at _ _ _ ?_; (simp only [wsz]; done)) | with_reducible refine Box.drewN ?_ _ | with_reducible refine Box.drew ?_ | with_reducible refine Box.alloc ?_ _ | with_reducible apply Box.drewN | with_reducible apply Box.drew | with_reducible apply Box.alloc | with_reducible refine Box.set_ ?_ _ _ | (with_reducible refine Box.far ?_ ?_ _; rotate_left; (simp only [ne_eq]; omega)) | (with_reducible refine Box.ext ?_ (by with_reducible assumption)) | (refine Box.new_at _ _ _ ?_; simp only [wsz]; done))) hx6
      have bx6 := Box.ext (g := w1.heap.size) (by repeat (first | with_reducible assumption | with_reducible exact Box.new _ _ _ | (with_reducible refine Box.new_at _ _ _ ?_; (simp only [wsz]; done)) | with_reducible refine Box.drewN ?_ _ | with_reducible refine Box.drew ?_ | with_reducible refine Box.alloc ?_ _ | with_reducible apply Box.drewN | with_reducible apply Box.drew | with_reducible apply Box.alloc | with_reducible refine Box.set_ ?_ _ _ | (with_reducible refine Box.far ?_ ?_ _; rotate_left; (simp only [ne_eq]; omega)) | (with_reducible refine Box.ext ?_ (by with_reducible assumption)) | (refine Box.new_at _ _ _ ?_; simp only [wsz]; done))) hx6
      have by_6 := Box.ext (g := w3.heap.size) (by repeat (first | with_reducible assumption | with_reducible exact Box.new _ _ _ | (with_reducible refine Box.new_at _ _ _ ?_; (simp only [wsz]; done)) | with_reducible refine Box.drewN ?_ _ | with_reducible refine Box.drew ?_ | with_reducible refine Box.alloc ?_ _ | with_reducible apply Box.drewN | with_reducible apply Box.drew | with_reducible apply Box.alloc | with_reducible refine Box.set_ ?_ _ _ | (with_reducible refine Box.far ?_ ?_ _; rotate_left; (simp only [ne_eq]; omega)) | (with_reducible refine Box.ext ?_ (by with_reducible assumption)) | (refine Box.new_at _ _ _ ?_; simp only [wsz]; done))) hx6
      clear by_5r b45 b65 bx5 by_5 by_5l
      go_wp2_with fail
      refine (twithout_c (x := x) (N := N) (htW.ext (by repeat (first | with_reducible assumption | with_reducible exact Ext.refl _ | with_reducible refine Ext.drewN ?_ _ | with_reducible refine Ext.drew ?_ | with_reducible refine Ext.alloc ?_ _ | (with_reducible refine Ext.setCell ?_ ?_ _; rotate_left; (first | exact Nat.le_refl _ | (dsimp only; omega) | (simp only [wsz]; omega))) | (with_reducible refine Ext.trans ?_ (by with_reducible assumption))))) (by omega) s1).mono ?_
      rintro e w7 ⟨r7, rfl, ht7, hx7⟩
      clear b46r b46 b46l b66 bx6 by_6
      go_wp2_with fail
      refine (tcoef_c (x := x) (N := N + N) ht7 (by omega) (nf_sz (T.wo_sz s1) ⟨fun p hp => lt.1 p (wo_sub hp), lt.2⟩)).mono ?_
      rw [put_none]
      rintro e w8 ⟨r8, rfl, ⟨A8, c8, rfl, hN8⟩, hx8⟩
      rw [show (cz 0).mag.length = 0 from zl_zero]
      go_wp2_with fail
      go_ret
      exact ⟨rfl, hE.trans (by repeat (first | with_reducible assumption | with_reducible exact Ext.refl _ | with_reducible refine Ext.drewN ?_ _ | with_reducible refine Ext.drew ?_ | with_reducible refine Ext.alloc ?_ _ | (with_reducible refine Ext.setCell ?_ ?_ _; rotate_left; (first | exact Nat.le_refl _ | (dsimp only; omega) | (simp only [wsz]; omega))) | (with_reducible refine Ext.trans ?_ (by with_reducible assumption))))⟩

end Go.Proofs.Ytbblgjjomgipfaa
