/- riddleref06.Same of a form and itself; atom.Negate. No conditions. atom.Put. No conditions. -/
import Derived.Test.YthmjgbkakjpfkaaGreatDoorGTurnsBd
import Derived.Test.YthmjgbkakjpfkaaGreatDoorGTurnsBg
import Derived.Test.YthmjgbkakjpfkaaGreatDoorGTurnsBh
import Derived.Test.YthmjgbkakjpfkaaGreatDoorGTurnsAd
import Derived.Test.YthmjgbkakjpfkaaGreatDoorGTurnsAz
namespace Go.Proofs.YthmjgbkakjpfkaaGreatDoor
open Go.RowKit

set_option maxHeartbeats 3200000 in
theorem same6_c {u v : Value} {n : Ar} {w : World} {X Y : Nat → Prop} {N : Nat} (ha : Av w X u n) (hb : Av w Y v n) (hF : Form n) (hs : n.sz N) (hN : N ≤ 1073741824) :
    Calls Tryz.prog 26 #[u, v] w fun e w' => e = .returned (.bool true) ∧ Ext w w' := by
  obtain ⟨f1, f2, -, -, f3⟩ := form_facts hF; obtain ⟨D1, c1, A1, e1, C1, g1, rfl, hk, a1, a2, a3⟩ := ha; obtain ⟨D2, c2, A2, e2, C2, g2, rfl, -, b1, b2, b3⟩ := hb
  have his := fun (U : World) (hU : Ext w U) => ris_c (⟨D1, c1, rfl, Nl.ext a1 hU⟩ : Zi U X (.agg #[.bool n.d.neg, .slice D1 n.d.mag.length c1]) n.d) (⟨D2, c2, rfl, Nl.ext b1 hU⟩ : Zi U Y (.agg #[.bool n.d.neg, .slice D2 n.d.mag.length c2]) n.d) (by have := hs.1; omega) (by have := hs.1; omega)
  rw [f1, decide_eq_true rfl] at his
  have hva := fun (U : World) (hU : Ext w U) => rvalid_c (⟨D2, c2, rfl, Nl.ext b1 hU⟩ : Zi U Y (.agg #[.bool n.d.neg, .slice D2 n.d.mag.length c2]) n.d) (by have := hs.1; omega)
  rw [f1] at hva
  have hsa := fun (U : World) (hU : Ext w U) => rsame5_c (⟨A1, e1, C1, g1, rfl, a2.ext hU, Nl.ext a3 hU⟩ : Tv U X (.agg #[.slice A1 n.t.ps.length e1, .bool n.t.k.neg, .slice C1 n.t.k.mag.length g1]) n.t)
    (⟨A2, e2, C2, g2, rfl, b2.ext hU, Nl.ext b3 hU⟩ : Tv U Y (.agg #[.slice A2 n.t.ps.length e2, .bool n.t.k.neg, .slice C2 n.t.k.mag.length g2]) n.t) hN hs.2 hs.2 f2 f2 f3
  have HIS := Lib.hid his; have HVA := Lib.hid hva; have HSA := Lib.hid hsa
  obtain ⟨kd, hkd⟩ : ∃ k, k = n.kd := ⟨_, rfl⟩; rw [← hkd]; clear his hva hsa f1 f2 f3 hkd
  go_enter Tryz.func26, Tryz.ntmps26
  go_wp2_with fail
  refine (HIS.out _ xt).mono ?_; rintro e w1 ⟨rfl, hx1⟩
  (have b2' := Box.ext (g := w.heap.size) bxt hx1; have b2'r := b2'.rules; have b2'l := b2'.lt)
  (have b3' := Box.ext (g := w.heap.size + 1) bxt hx1; have b3'r := b3'.rules; have b3'l := b3'.lt)
  have hE1 : Ext w w1 := xt; clear hx1
  go_wp2_with fail
  refine (HVA.out _ hE1).mono ?_; rintro e w2 ⟨rfl, hx2⟩
  have c2' := b2'.ext hx2; have c3' := b3'.ext hx2
  clear b2' b2'r b2'l b3' b3'r b3'l
  have c2r := c2'.rules; have c2l := c2'.lt; have c3r := c3'.rules; have c3l := c3'.lt
  go_wp2_with fail
  refine (HSA.out _ (hE1.trans hx2)).mono ?_; rintro e w3 ⟨rfl, hx3⟩
  have d2' := c2'.ext hx3; have d3' := c3'.ext hx3
  clear c2' c2r c2l c3' c3r c3l
  have d2r := d2'.rules; have d2l := d2'.lt; have d3r := d3'.rules; have d3l := d3'.lt
  go_wp2_with fail
  (refine bodyPost_ret (v := ?_) ?_ rfl ?_; rotate_left; (simp only [results, Tryz.results26]; go_simp; (first | done | with_reducible rfl)))
  exact ⟨rfl, (hE1.trans hx2).trans hx3⟩

def oppT (t : T) : T := ct (vl (ct [] (cz 1).v).ps ++ sc (-1) (vl t.ps)) ((ct [] (cz 1).v).k.v - t.k.v)
def negF (n : Ar) : Ar := if n.kd = 0 then constA true else if n.kd = 1 then constA false else if n.kd = 2 then lessA (vl (oppT n.t).ps) (oppT n.t).k.v else (partedR n.d.v (vl n.t.ps) n.t.k.v (decide (n.kd = 3))).1
def negR (a : Ar) : Ar := if (normA a).2 ≠ 0 then constA false else negF (normA a).1
theorem oppT_sz {t : T} {N : Nat} (hN : 1 ≤ N) (hb : t.lb) (hs : t.sz N) : (oppT t).sz (3 * N) := by
  unfold oppT; have e : vl (ct [] (cz 1).v).ps = [] := rfl; have hk : zl t.k.v ≤ N := Nat.le_trans (zl_of hb.2) hs.2.2
  have h1 : zl ((ct [] (cz 1).v).k.v - t.k.v) ≤ N + 1 := by
    rw [show (ct [] (cz 1).v).k.v = (cz 1).v from cz_v _, cz_v]; exact zl_sub (Nat.le_trans (show zl 1 ≤ 1 by decide) hN) hk
  rw [e, List.nil_append]
  have := ct_sz (l := sc (-1) (vl t.ps)) (k := (ct [] (cz 1).v).k.v - t.k.v) (N := N) (M := N) (by rw [sc_len, vl_len]; exact hs.1) (fun p hp => by
    obtain ⟨q, hq, rfl⟩ := List.mem_map.1 hp; have h := zl_vl hb.1 hs.2.1 q hq; simp only [Int.neg_mul, Int.one_mul, zl_neg]
    exact h) (by omega)
  exact this.mono (by omega)

set_option maxRecDepth 100000 in
set_option maxHeartbeats 6400000 in
theorem anegate_c {v : Value} {a : Ar} {w : World} {X : Nat → Prop} {N : Nat} (h : Av w X v a) (hs : a.sz N) (hN2 : 2 ≤ N) (hN : N ≤ 4194304) :
    Calls Tryz.prog 35 #[v] w fun e w' => ∃ r, e = .returned r ∧ AvF w' w.heap.size r (negR a) ∧ Ext w w' := by
  have hno := fun (U : World) (hU : Ext w U) => anorm_c (h.ext hU) hs hN2 (by omega)
  have hF := normA_form a; have hlb := (form_facts hF).2.2.1; have hkd := normA_kd a
  have hsz : (normA a).1.sz (2 * N) := by
    obtain ⟨D, c, A, e, C, f, -, -, h1, h2, h3⟩ := h; exact normA_sz hN2 hs h1.lb (Tv.lb (⟨A, e, C, f, rfl, h2, h3⟩ : Tv w X _ a.t))
  obtain ⟨R, hR⟩ : ∃ R, R = negR a := ⟨_, rfl⟩; rw [← hR]; unfold negR at hR; obtain ⟨n, hn⟩ : ∃ n, n = (normA a).1 := ⟨_, rfl⟩; obtain ⟨e0, he⟩ : ∃ n, n = (normA a).2 := ⟨_, rfl⟩; rw [← hn] at hsz hR hlb hkd; rw [← he] at hR; simp only [← hn, ← he] at hno
  have hsu := fun (U : World) (Q Q' : Nat → Prop) (r r' : Value) (hr : Tv U Q r (ct [] (cz 1).v)) (hr' : Tv U Q' r' n.t) => tsub_c hr hr' (N := 2 * N) (by omega) (by omega) ((show (ct [] (cz 1).v).sz 1 from ⟨by decide, fun _ h => (List.not_mem_nil h).elim, by decide⟩).mono (by omega)) hsz.2
  have hls := fun (U : World) (Q : Nat → Prop) (r : Value) (hr : Tv U Q r (oppT n.t)) => aless_c hr (N := 6 * N) ((oppT_sz (by omega) hlb hsz.2).mono (by omega)) (by omega)
  have hpa := fun (U : World) (Q Q' : Nat → Prop) (r r' : Value) (not : Bool) (hr : Zi U Q r n.d) (hr' : Tv U Q' r' n.t) => partedR_c (not := not) hr hr' (N := 2 * N) hsz.1 hsz.2 (by omega) (by omega)
  obtain ⟨D, c, A, e, C, f, rfl, hk, h1, h2, h3⟩ := h
  have HNO := Lib.hid hno; have HSU := Lib.hid hsu; have HLS := Lib.hid hls; have HPA := Lib.hid hpa; have HR := Lib.hid hR
  clear hno hsu hls hpa hR hn he hsz hF hlb
  go_enter Tryz.func35, Tryz.ntmps35
  go_wp2_with fail
  refine (HNO.out _ xt).mono ?_; rintro e1 w1 ⟨_, rfl, hA, hx1⟩; have hA1 := hA.av; obtain ⟨D1, c1, A1, f1, C1, g1, rfl, hk1, hD, hP, hK⟩ := hA1; have b1 : Box w1 w.heap.size 29 _ := Box.ext ((Box.new w _ _).alloc _) hx1; have b2 : Box w1 (w.heap.size + 1) 29 #[.int .i64 0, .bool false, .slice none 0 0, .slice none 0 0, .bool false, .slice none 0 0] := Box.ext (Box.new_at _ _ _ (by simp only [wsz])) hx1
  have b1r := b1.rules; have b1l := b1.lt
  have hE1 : Ext w w1 := ((Ext.refl w).alloc _ |>.alloc _).trans hx1
  go_upto_region 2 with fail
  refine wp_named fun V hV => ?_
  have c1' : Box V w.heap.size 29 #[.int .i64 n.kd, .bool n.d.neg, .slice D1 n.d.mag.length c1, .slice A1 n.t.ps.length f1, .bool n.t.k.neg, .slice C1 n.t.k.mag.length g1] := by rw [hV]; exact (((((b1.set_ 0 _).set_ 1 _).set_ 2 _).set_ 3 _).set_ 4 _).set_ 5 _
  have c2' : Box V (w.heap.size + 1) 29 #[.int .i64 0, .bool false, .slice none 0 0, .slice none 0 0, .bool false, .slice none 0 0] := by rw [hV]; exact (((((b2.far (by simp only; omega) _).far (by simp only; omega) _).far (by simp only; omega) _).far (by simp only; omega) _).far (by simp only; omega) _).far (by simp only; omega) _
  have hE : Ext w V := by rw [hV]; exact (((((hE1.setCell (Nat.le_refl _) _).setCell (Nat.le_refl _) _).setCell (Nat.le_refl _) _).setCell (Nat.le_refl _) _).setCell (Nat.le_refl _) _).setCell (Nat.le_refl _) _
  have kV : Kp (fun b => w.heap.size + 1 < b) w1 V := by rw [hV]; exact ((((((Kp.refl w1).setCell (by simp only; omega) _).setCell (by simp only; omega) _).setCell (by simp only; omega) _).setCell (by simp only; omega) _).setCell (by simp only; omega) _).setCell (by simp only; omega) _
  have hD1 : Nl V (fun b => w.heap.size + 1 < b) D1 c1 n.d.mag := Nl.keep (hD.widen fun b hb _ => by simp only [wsz] at hb; omega) kV; have hP1 : Pl V (fun b => w.heap.size + 1 < b) A1 f1 n.t.ps := Sl.keep (Sl.widen hP (by omega) fun b hb _ => by simp only [wsz] at hb; omega) kV; have hK1 : Nl V (fun b => w.heap.size + 1 < b) C1 g1 n.t.k.mag := Nl.keep (hK.widen fun b hb _ => by simp only [wsz] at hb; omega) kV; clear hV b1 b1r b1l b2 hA hD hP hK kV hx1 hE1 HNO
  have c1r := c1'.rules; have c1l := c1'.lt; have c2r := c2'.rules; have c2l := c2'.lt
  by_cases he : e0 = 0
  · subst he; have HR2 := HR.out; rw [if_neg (by decide)] at HR2; unfold negF at HR2
    rcases hkd with hk0 | hk0 | hk0 | hk0 | hk0
    · rw [if_pos hk0] at HR2; have HR3 := Lib.hid HR2; rw [hk0] at c1r; clear HR2 HR c1' hk0 hk1
      go_wp2_with fail
      refine (truth_c true _).mono ?_; rintro e2 w2 ⟨_, rfl, hB, hx2⟩; have hB0 := hB; obtain ⟨D3, c3, A3, f3, C3, g3, rfl, -⟩ := hB; have d2 := c2'.ext hx2
      have d2r := d2.rules; have d2l := d2.lt
      have hs2 := hE.size; have hE2 := hE.trans hx2; clear c1r c1l c2r
      go_wp2_with fail
      (refine bodyPost_ret (v := ?_) ?_ rfl ?_; rotate_left; (simp only [results, Tryz.results35]; go_simp; (first | done | with_reducible rfl)))
      rw [HR3.out]; refine ⟨_, rfl, (hB0.keep ?_).lower ?_, xt⟩
      · exact kpt
      · omega
    · rw [if_neg (by omega), if_pos hk0] at HR2; have HR3 := Lib.hid HR2; rw [hk0] at c1r; clear HR2 HR c1' hk0 hk1
      go_wp2_with fail
      refine (truth_c false _).mono ?_; rintro e2 w2 ⟨_, rfl, hB, hx2⟩; have hB0 := hB; obtain ⟨D3, c3, A3, f3, C3, g3, rfl, -⟩ := hB; have d2 := c2'.ext hx2
      have d2r := d2.rules; have d2l := d2.lt
      have hs2 := hE.size; have hE2 := hE.trans hx2; clear c1r c1l c2r
      go_wp2_with fail
      (refine bodyPost_ret (v := ?_) ?_ rfl ?_; rotate_left; (simp only [results, Tryz.results35]; go_simp; (first | done | with_reducible rfl)))
      rw [HR3.out]; refine ⟨_, rfl, (hB0.keep ?_).lower ?_, xt⟩
      · exact kpt
      · omega
    · rw [if_neg (by omega), if_neg (by omega), if_pos hk0] at HR2; have HR3 := Lib.hid HR2; rw [hk0] at c1r; clear HR2 HR c1' hk0 hk1; have hs2 := hE.size; have HOF := Lib.hid (fun (U : World) => zof_c 1 (by omega) (by omega) U)
      go_wp2_with fail
      refine wp_region_seq 6 [(2, true), (3, true), (0, false), (1, false), (4, false), (5, false), (6, false)] rfl (by kernel_rfl) (by intro _ _ d _ _ h; cases d <;> exact h) ?_
      (repeat (refine sq_take (v := ?_) rfl rfl ?_ ?_; rotate_left; (intro w' hx'; have hc' := hx'.cells.1; (try simp only [wcd] at hc'); go_simp; (first | done | with_reducible rfl)); (try simp only [pt])))
      (refine sq_loud rfl rfl fun K hK => ?_; go_simp)
      refine (HOF.out _).mono ?_; rintro e2 w2 ⟨r2, rfl, hr2, hx2⟩; have hy2 : Ext V w2 := (Ext.refl V).drew.trans hx2
      (refine hK _ _ xt ?_; clear hK K; (try simp only [pt]))
      (refine sq_loud rfl rfl fun K hK => ?_; go_simp)
      refine (tconst_c hr2 (by decide)).mono ?_; rintro e3 w3 ⟨r3, rfl, hr3, hx3⟩; have hy3 := hy2.trans hx3
      (refine hK _ _ xt ?_; clear hK K; (try simp only [pt]))
      (refine sq_loud rfl rfl fun K hK => ?_; go_simp)
      refine (HSU.out _ _ _ _ _ hr3 (⟨A1, f1, C1, g1, rfl, hP1.ext hy3, Nl.ext hK1 hy3⟩ : Tv w3 _ (.agg #[.slice A1 n.t.ps.length f1, .bool n.t.k.neg, .slice C1 n.t.k.mag.length g1]) n.t)).mono ?_; rintro e4 w4 ⟨r4, rfl, hr4, hx4⟩; have hy4 := hy3.trans hx4
      (refine hK _ _ xt ?_; clear hK K; (try simp only [pt]))
      (refine sq_loud rfl rfl fun K hK => ?_; go_simp)
      refine (HLS.out _ _ _ hr4).mono ?_; rintro e5 w5 ⟨_, rfl, hB, hx5⟩; have hB0 := hB; obtain ⟨D3, c3, A3, f3, C3, g3, rfl, -⟩ := hB; have hy5 := hy4.trans hx5
      (refine hK _ _ xt ?_; clear hK K; (try simp only [pt]))
      have d2 := c2'.ext hy5
      have d2r := d2.rules; have d2l := d2.lt
      have hs4 := hy4.size; have hE5 := hE.trans hy5; clear c1r c1l c2r
      (refine sq_last rfl rfl fun K hK => ?_; go_simp; refine hK _ _ ?_; clear hK K)
      go_wp2_with fail
      (refine bodyPost_ret (v := ?_) ?_ rfl ?_; rotate_left; (simp only [results, Tryz.results35]; go_simp; (first | done | with_reducible rfl)))
      rw [HR3.out]; refine ⟨_, rfl, (hB0.keep ?_).lower ?_, xt⟩
      · exact kpt
      · omega
    · rw [if_neg (by omega), if_neg (by omega), if_neg (by omega), decide_eq_true hk0] at HR2; have HR3 := Lib.hid HR2; rw [hk0] at c1r; clear HR2 HR c1' hk0 hk1; have hs2 := hE.size; have hpa := HPA.out V _ _ _ _ true (⟨D1, c1, rfl, hD1⟩ : Zi V _ (.agg #[.bool n.d.neg, .slice D1 n.d.mag.length c1]) n.d) (⟨A1, f1, C1, g1, rfl, hP1, hK1⟩ : Tv V _ (.agg #[.slice A1 n.t.ps.length f1, .bool n.t.k.neg, .slice C1 n.t.k.mag.length g1]) n.t); obtain ⟨q, hq⟩ : ∃ q, q = partedR n.d.v (vl n.t.ps) n.t.k.v true := ⟨_, rfl⟩; rw [← hq] at hpa
      have HQ := Lib.hid hq; have HPA2 := Lib.hid hpa
      clear hq hpa HPA
      go_wp2_with fail
      refine HPA2.out.mono ?_; rintro e5 w5 ⟨_, rfl, hB, hx5⟩; have hB0 := hB; obtain ⟨D3, c3, A3, f3, C3, g3, rfl, -⟩ := hB
      go_upto_region 11 with fail
      refine wp_named fun U hU => ?_
      obtain ⟨g4, hg4⟩ : ∃ g, g = w5.heap.size := ⟨_, rfl⟩
      have b4 : Box U g4 29 #[.int .i64 q.1.kd, .bool q.1.d.neg, .slice D3 q.1.d.mag.length c3, .slice A3 q.1.t.ps.length f3, .bool q.1.t.k.neg, .slice C3 q.1.t.k.mag.length g3] := by rw [hU, hg4]; exact Box.new _ _ _
      have hxU : Ext w5 U := by rw [hU]; exact (Ext.refl w5).alloc _
      have hBU := hB0.ext hxU; have d2 := (c2'.ext hx5).ext hxU; have hE5 := (hE.trans hx5).trans hxU; rw [← hg4]; clear hU hg4 hB0 hx5 hxU c1r c1l c2r
      have d2r := d2.rules; have d2l := d2.lt; have b4r := b4.rules; have b4l := b4.lt
      go_wp2_with fail
      (refine bodyPost_ret (v := ?_) ?_ rfl ?_; rotate_left; (simp only [results, Tryz.results35]; go_simp; (first | done | with_reducible rfl)))
      rw [HR3.out, ← HQ.out]; refine ⟨_, rfl, (hBU.keep ?_).lower ?_, xt⟩
      · exact kpt
      · omega
    · rw [if_neg (by omega), if_neg (by omega), if_neg (by omega), decide_eq_false (show ¬ n.kd = 3 by omega)] at HR2; have HR3 := Lib.hid HR2; rw [hk0] at c1r; clear HR2 HR c1' hk0 hk1; have hs2 := hE.size; have hpa := HPA.out V _ _ _ _ false (⟨D1, c1, rfl, hD1⟩ : Zi V _ (.agg #[.bool n.d.neg, .slice D1 n.d.mag.length c1]) n.d) (⟨A1, f1, C1, g1, rfl, hP1, hK1⟩ : Tv V _ (.agg #[.slice A1 n.t.ps.length f1, .bool n.t.k.neg, .slice C1 n.t.k.mag.length g1]) n.t); obtain ⟨q, hq⟩ : ∃ q, q = partedR n.d.v (vl n.t.ps) n.t.k.v false := ⟨_, rfl⟩; rw [← hq] at hpa
      have HQ := Lib.hid hq; have HPA2 := Lib.hid hpa
      clear hq hpa HPA
      go_wp2_with fail
      refine HPA2.out.mono ?_; rintro e5 w5 ⟨_, rfl, hB, hx5⟩; have hB0 := hB; obtain ⟨D3, c3, A3, f3, C3, g3, rfl, -⟩ := hB
      go_upto_region 11 with fail
      refine wp_named fun U hU => ?_
      obtain ⟨g4, hg4⟩ : ∃ g, g = w5.heap.size := ⟨_, rfl⟩
      have b4 : Box U g4 29 #[.int .i64 q.1.kd, .bool q.1.d.neg, .slice D3 q.1.d.mag.length c3, .slice A3 q.1.t.ps.length f3, .bool q.1.t.k.neg, .slice C3 q.1.t.k.mag.length g3] := by rw [hU, hg4]; exact Box.new _ _ _
      have hxU : Ext w5 U := by rw [hU]; exact (Ext.refl w5).alloc _
      have hBU := hB0.ext hxU; have d2 := (c2'.ext hx5).ext hxU; have hE5 := (hE.trans hx5).trans hxU; rw [← hg4]; clear hU hg4 hB0 hx5 hxU c1r c1l c2r
      have d2r := d2.rules; have d2l := d2.lt; have b4r := b4.rules; have b4l := b4.lt
      go_wp2_with fail
      (refine bodyPost_ret (v := ?_) ?_ rfl ?_; rotate_left; (simp only [results, Tryz.results35]; go_simp; (first | done | with_reducible rfl)))
      rw [HR3.out, ← HQ.out]; refine ⟨_, rfl, (hBU.keep ?_).lower ?_, xt⟩
      · exact kpt
      · omega
  · have he2 : (e0 == 0) = false := by rw [beq_eq_false_iff_ne]; exact he
    have he3 : (e0 != 0) = true := by rw [bne_iff_ne]; exact he
    have HR2 := HR.out; rw [if_pos he] at HR2; subst HR2
    go_wp2_with fail
    (refine bodyPost_ret (v := ?_) ?_ rfl ?_; rotate_left; (simp only [results, Tryz.results35]; go_simp; (first | done | with_reducible rfl)))
    exact ⟨_, rfl, AvF.const _ _ false rfl, xt⟩

end Go.Proofs.YthmjgbkakjpfkaaGreatDoor

namespace Go.Proofs.YthmjgbkakjpfkaaGreatDoor
open Go.RowKit

def putR (a : Ar) (x : Int) (u : T) : Ar := if (normA a).2 ≠ 0 then constA false else (normA ⟨(normA a).1.kd, (normA a).1.d, (normA a).1.t.put x u⟩).1
theorem put_szA {t u : T} {x : Int} {N : Nat} (hN : 1 ≤ N) (bt : t.lb) (bu : u.lb) (st : t.sz (2 * N)) (su : u.sz N) : (t.put x u).sz (8 * N) := by
  have hcl : zl (cf (vl t.ps) x) ≤ 4 * N := by
    have := zl_cf (zl_vl bt.1 st.2.1) x; rw [vl_len] at this; have := st.1
    omega
  have hwl : ∀ p ∈ cn (vl (wo x t.ps)), zl p.2 ≤ 4 * N := fun p hp => by
    have := zl_cn (l := vl (wo x t.ps)) (N := 2 * N) (fun q hq => by
      obtain ⟨r, hr, rfl⟩ := List.mem_map.1 hq
      exact Nat.le_trans (zl_of (bt.1 r (wo_sub hr))) (st.2.1 r (wo_sub hr))) p hp
    rw [vl_len] at this; have := wo_len x t.ps; have := st.1
    omega
  have hk1 : zl t.k.v ≤ 2 * N := Nat.le_trans (zl_of bt.2) st.2.2; have hk2 : zl u.k.v ≤ N := Nat.le_trans (zl_of bu.2) su.2.2; have hk3 : zl (cf (vl t.ps) x * u.k.v) ≤ 5 * N := Nat.le_trans (zl_mul _ _) (by omega)
  have := ct_sz (l := cn (vl (wo x t.ps)) ++ sc (cf (vl t.ps) x) (vl u.ps)) (k := t.k.v + cf (vl t.ps) x * u.k.v) (N := 3 * N) (M := 5 * N) (by
      rw [List.length_append, sc_len, vl_len]; have h1 := cn_len (vl (wo x t.ps)); rw [vl_len] at h1; have := wo_len x t.ps
      have := st.1; have := su.1
      omega)
    (fun p hp => by rcases List.mem_append.1 hp with hp | hp; exact Nat.le_trans (hwl p hp) (by omega); exact Nat.le_trans (zl_sc hcl (zl_vl bu.1 su.2.1) p hp) (by omega))
    (Nat.le_trans (zl_add (k := 5 * N) (by omega) hk3) (by omega))
  exact this.mono (by omega)

set_option maxRecDepth 100000 in
set_option maxHeartbeats 6400000 in
theorem aput_c {v uv : Value} {a : Ar} {u : T} {x : Int} {w : World} {X Y : Nat → Prop} {N : Nat} (h : Av w X v a) (hu : Tv w Y uv u) (hs : a.sz N) (su : u.sz N) (hN2 : 2 ≤ N) (hN : N ≤ 2097152) :
    Calls Tryz.prog 37 #[v, .int .i64 x, uv] w fun e w' => ∃ r, e = .returned r ∧ AvF w' w.heap.size r (putR a x u) ∧ Ext w w' := by
  have hno := fun (U : World) (hU : Ext w U) => anorm_c (h.ext hU) hs hN2 (by omega)
  have hlb : (normA a).1.t.lb := by
    rcases normA_form a with ⟨b, hb⟩ | ⟨-, -, l, k, -, -, -, ht⟩ | ⟨-, -, -, l, k, -, -, -, -, -, -, ht, -⟩
    · rw [hb]; exact ⟨fun _ h => (List.not_mem_nil h).elim, by unfold constA; exact lb_lim _⟩
    · rw [ht]; exact ct_lb _ _
    · rw [ht]; exact ct_lb _ _
  have hsz : (normA a).1.sz (2 * N) := by
    obtain ⟨D, c, A, e, C, f, -, -, h1, h2, h3⟩ := h; exact normA_sz hN2 hs h1.lb (Tv.lb (⟨A, e, C, f, rfl, h2, h3⟩ : Tv w X _ a.t))
  have hpz : ((normA a).1.t.put x u).sz (8 * N) := put_szA (by omega) hlb hu.lb hsz.2 su; obtain ⟨R, hR⟩ : ∃ R, R = putR a x u := ⟨_, rfl⟩; rw [← hR]; unfold putR at hR
  have hi64 : ∀ (U : World) (Q : Nat → Prop) (r : Value), Av U Q r (normA a).1 → i64 (normA a).1.kd := fun U Q r ⟨_, _, _, _, _, _, _, hk, _⟩ => hk
  obtain ⟨n, hn⟩ : ∃ n, n = (normA a).1 := ⟨_, rfl⟩; obtain ⟨e0, he⟩ : ∃ n, n = (normA a).2 := ⟨_, rfl⟩; rw [← hn] at hsz hR hpz; rw [← he] at hR; simp only [← hn, ← he] at hno
  have hpu := fun (U : World) (Q : Nat → Prop) (r : Value) (hU : Ext w U) (hr : Tv U Q r n.t) => tput_f (x := x) hr (hu.ext hU) (N := 2 * N) (by omega) (by omega) hsz.2 (su.mono (by omega))
  obtain ⟨tp, htp⟩ : ∃ t, t = n.t.put x u := ⟨_, rfl⟩; rw [← htp] at hR hpz; simp only [← htp] at hpu
  have hn2 := fun (U : World) (Q : Nat → Prop) (r : Value) (hr : Av U Q r ⟨n.kd, n.d, tp⟩) => anorm_c hr (N := 8 * N) ⟨by have := hsz.1; simp only; omega, hpz⟩ (by omega) (by omega)
  obtain ⟨q, hq⟩ : ∃ q, q = normA ⟨n.kd, n.d, tp⟩ := ⟨_, rfl⟩; rw [← hq] at hR; simp only [← hq] at hn2; obtain ⟨D, c, A, e, C, f, rfl, hk, h1, h2, h3⟩ := h; obtain ⟨P, e', K, f', rfl, hP', hK'⟩ := hu
  have HNO := Lib.hid hno; have HPU := Lib.hid hpu; have HN2 := Lib.hid hn2; have HR := Lib.hid hR
  clear hno hpu hn2 hR hn he hsz hpz htp hq hi64 hlb
  go_enter Tryz.func37, Tryz.ntmps37
  go_wp2_with fail
  refine (HNO.out _ xt).mono ?_; rintro e1 w1 ⟨_, rfl, hA, hx1⟩; have hA1 := hA.av; obtain ⟨D1, c1, A1, f1, C1, g1, rfl, hk1, hD, hP, hK⟩ := hA1; have b1 : Box w1 w.heap.size 29 _ := Box.ext ((Box.new w _ _).alloc _ |>.alloc _) hx1; have b5 : Box w1 (w.heap.size + 1) 27 #[.slice P u.ps.length e', .bool u.k.neg, .slice K u.k.mag.length f'] := Box.ext ((Box.new_at _ _ _ (by simp only [wsz])).alloc _) hx1; have b6 : Box w1 (w.heap.size + 1 + 1) 29 #[.int .i64 0, .bool false, .slice none 0 0, .slice none 0 0, .bool false, .slice none 0 0] := Box.ext (Box.new_at _ _ _ (by simp only [wsz])) hx1
  have b1r := b1.rules; have b1l := b1.lt
  have hE1 : Ext w w1 := ((Ext.refl w).alloc _ |>.alloc _ |>.alloc _).trans hx1
  go_upto_region 2 with fail
  refine wp_named fun V hV => ?_
  have c1' : Box V w.heap.size 29 #[.int .i64 n.kd, .bool n.d.neg, .slice D1 n.d.mag.length c1, .slice A1 n.t.ps.length f1, .bool n.t.k.neg, .slice C1 n.t.k.mag.length g1] := by rw [hV]; exact (((((b1.set_ 0 _).set_ 1 _).set_ 2 _).set_ 3 _).set_ 4 _).set_ 5 _
  have c5' : Box V (w.heap.size + 1) 27 #[.slice P u.ps.length e', .bool u.k.neg, .slice K u.k.mag.length f'] := by rw [hV]; exact (((((b5.far (by simp only; omega) _).far (by simp only; omega) _).far (by simp only; omega) _).far (by simp only; omega) _).far (by simp only; omega) _).far (by simp only; omega) _
  have c6' : Box V (w.heap.size + 1 + 1) 29 #[.int .i64 0, .bool false, .slice none 0 0, .slice none 0 0, .bool false, .slice none 0 0] := by rw [hV]; exact (((((b6.far (by simp only; omega) _).far (by simp only; omega) _).far (by simp only; omega) _).far (by simp only; omega) _).far (by simp only; omega) _).far (by simp only; omega) _
  have hE : Ext w V := by rw [hV]; exact (((((hE1.setCell (Nat.le_refl _) _).setCell (Nat.le_refl _) _).setCell (Nat.le_refl _) _).setCell (Nat.le_refl _) _).setCell (Nat.le_refl _) _).setCell (Nat.le_refl _) _
  have kV : Kp (fun b => w.heap.size + 2 < b) w1 V := by rw [hV]; exact ((((((Kp.refl w1).setCell (by simp only; omega) _).setCell (by simp only; omega) _).setCell (by simp only; omega) _).setCell (by simp only; omega) _).setCell (by simp only; omega) _).setCell (by simp only; omega) _
  have hD1 : Nl V (fun b => w.heap.size + 2 < b) D1 c1 n.d.mag := Nl.keep (hD.widen fun b hb _ => by simp only [wsz] at hb; omega) kV; have hP1 : Pl V (fun b => w.heap.size + 2 < b) A1 f1 n.t.ps := Sl.keep (Sl.widen hP (by omega) fun b hb _ => by simp only [wsz] at hb; omega) kV; have hK1 : Nl V (fun b => w.heap.size + 2 < b) C1 g1 n.t.k.mag := Nl.keep (hK.widen fun b hb _ => by simp only [wsz] at hb; omega) kV; clear hV b1 b1r b1l b5 b6 hA hD hP hK kV hx1 hE1 HNO
  have c1r := c1'.rules; have c1l := c1'.lt; have c5r := c5'.rules; have c5l := c5'.lt; have c6r := c6'.rules; have c6l := c6'.lt
  by_cases he : e0 = 0
  · subst he; have HR2 := HR.out; rw [if_neg (by decide)] at HR2; have HR3 := Lib.hid HR2; clear HR2 HR
    go_wp2_with fail
    refine (HPU.out _ _ _ hE ⟨A1, f1, C1, g1, rfl, hP1, hK1⟩).mono ?_; rintro e2 w2 ⟨_, rfl, hT, hx2⟩; have hTv := hT.tv; obtain ⟨A2, f2, C2, g2, rfl, hP2, hK2⟩ := hTv
    have d1 := c1'.ext hx2; have d6 := c6'.ext hx2
    have hE2 := hE.trans hx2; have hD2 := Nl.ext hD1 hx2; have hs2 := hx2.size
    have d1r := d1.rules; have d1l := d1.lt
    clear c1r c1l c5r c5l c6r hT
    go_upto_region 5 with fail
    refine wp_named fun U hU => ?_
    have a1 : Box U w.heap.size 29 #[.int .i64 n.kd, .bool n.d.neg, .slice D1 n.d.mag.length c1, .slice A2 tp.ps.length f2, .bool tp.k.neg, .slice C2 tp.k.mag.length g2] := by rw [hU]; exact ((d1.set_ 3 _).set_ 4 _).set_ 5 _
    have a6 : Box U (w.heap.size + 1 + 1) 29 #[.int .i64 0, .bool false, .slice none 0 0, .slice none 0 0, .bool false, .slice none 0 0] := by rw [hU]; exact ((d6.far (by simp only; omega) _).far (by simp only; omega) _).far (by simp only; omega) _
    have hEU : Ext w U := by rw [hU]; exact ((hE2.setCell (Nat.le_refl _) _).setCell (Nat.le_refl _) _).setCell (Nat.le_refl _) _
    have kU : Kp (fun b => w.heap.size + 2 < b) w2 U := by rw [hU]; exact (((Kp.refl w2).setCell (by simp only; omega) _).setCell (by simp only; omega) _).setCell (by simp only; omega) _
    have hAU : Av U (fun b => w.heap.size + 2 < b) (.agg #[.int .i64 n.kd, .bool n.d.neg, .slice D1 n.d.mag.length c1, .slice A2 tp.ps.length f2, .bool tp.k.neg, .slice C2 tp.k.mag.length g2]) ⟨n.kd, n.d, tp⟩ :=
      ⟨D1, c1, A2, f2, C2, g2, rfl, hk1, Nl.keep hD2 kU, Sl.keep (Sl.widen hP2 (by omega) fun b hb _ => by have h : V.heap.size ≤ b := hb; omega) kU, Nl.keep (hK2.widen fun b hb _ => by have h : V.heap.size ≤ b := hb; omega) kU⟩
    clear hU kU d1 d1r d1l d6 hD2 hP2 hK2 hE2 hs2
    have a1r := a1.rules; have a1l := a1.lt
    go_wp2_with fail
    refine (HN2.out _ _ _ hAU).mono ?_; rintro e3 w3 ⟨_, rfl, hQ, hx3⟩; have hQ0 := hQ; obtain ⟨D3, c3, A3, f3, C3, g3, rfl, -⟩ := hQ
    have i1 := a1.ext hx3; have i6 := a6.ext hx3
    have i1r := i1.rules; have i1l := i1.lt; have i6r := i6.rules; have i6l := i6.lt
    have hE3 := hEU.trans hx3
    have hs3 := hEU.size; have hs6 := a6.lt; have hs7 := a1.lt
    clear a1 a1r a1l hAU
    go_upto_region 6 with fail
    refine wp_named fun S hS => ?_
    have j1 : Box S w.heap.size 29 #[.int .i64 q.1.kd, .bool q.1.d.neg, .slice D3 q.1.d.mag.length c3, .slice A3 q.1.t.ps.length f3, .bool q.1.t.k.neg, .slice C3 q.1.t.k.mag.length g3] := by rw [hS]; exact (((((i1.set_ 0 _).set_ 1 _).set_ 2 _).set_ 3 _).set_ 4 _).set_ 5 _
    have j6 : Box S (w.heap.size + 1 + 1) 29 #[.int .i64 0, .bool false, .slice none 0 0, .slice none 0 0, .bool false, .slice none 0 0] := by rw [hS]; exact (((((i6.far (by simp only; omega) _).far (by simp only; omega) _).far (by simp only; omega) _).far (by simp only; omega) _).far (by simp only; omega) _).far (by simp only; omega) _
    have hES : Ext w S := by rw [hS]; exact (((((hE3.setCell (Nat.le_refl _) _).setCell (Nat.le_refl _) _).setCell (Nat.le_refl _) _).setCell (Nat.le_refl _) _).setCell (Nat.le_refl _) _).setCell (Nat.le_refl _) _
    have hQS : AvF S U.heap.size (.agg #[.int .i64 q.1.kd, .bool q.1.d.neg, .slice D3 q.1.d.mag.length c3, .slice A3 q.1.t.ps.length f3, .bool q.1.t.k.neg, .slice C3 q.1.t.k.mag.length g3]) q.1 := by
      rw [hS]; refine hQ0.keep ?_; exact kpt
    clear hS i1 i1r i1l i6 i6r i6l hQ0 hE3
    have j1r := j1.rules; have j1l := j1.lt; have j6r := j6.rules; have j6l := j6.lt
    go_wp2_with fail
    (refine bodyPost_ret (v := ?_) ?_ rfl ?_; rotate_left; (simp only [results, Tryz.results37]; go_simp; (first | done | with_reducible rfl)))
    refine ⟨_, rfl, ?_, xt⟩; rw [HR3.out]; refine (hQS.keep ?_).lower ?_
    · exact kpt
    · omega
  · have he2 : (e0 == 0) = false := by rw [beq_eq_false_iff_ne]; exact he
    have he3 : (e0 != 0) = true := by rw [bne_iff_ne]; exact he
    have HR2 := HR.out; rw [if_pos he] at HR2; subst HR2
    go_wp2_with fail
    (refine bodyPost_ret (v := ?_) ?_ rfl ?_; rotate_left; (simp only [results, Tryz.results37]; go_simp; (first | done | with_reducible rfl)))
    exact ⟨_, rfl, AvF.const _ _ false rfl, xt⟩

end Go.Proofs.YthmjgbkakjpfkaaGreatDoor
