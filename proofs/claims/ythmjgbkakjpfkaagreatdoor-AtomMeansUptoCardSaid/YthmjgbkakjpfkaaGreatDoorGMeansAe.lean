/- riddlelaw06.AtomMeans. No conditions. -/
import Derived.Test.YthmjgbkakjpfkaaGreatDoorGShortBl
import Derived.Test.YthmjgbkakjpfkaaGreatDoorGMeansAd
namespace Go.Proofs.YthmjgbkakjpfkaaGreatDoor
open Go.RowKit

theorem cf_fm' {F : Int → Int} {l : List (Int × Int)} {x : Int} (h : cf (fm F (cn l)) x ≠ 0) : cf l x ≠ 0 := by
  obtain ⟨p, hp, rfl⟩ := mem_of_cf h
  obtain ⟨q, hq, rfl⟩ := List.mem_map.1 hp
  obtain ⟨h1, h2⟩ := cn_mem hq
  dsimp only
  rw [h1]; exact h2
theorem cf_norm' {a : Ar} {x : Int} (h : cf (vl (normA a).1.t.ps) x ≠ 0) : cf (vl a.t.ps) x ≠ 0 := by
  have hcon : ∀ b, cf (vl (constA b).t.ps) x = 0 := fun b => rfl
  revert h
  unfold normA
  split
  · intro h; exact absurd (hcon _) h
  split
  · intro h
    dsimp only at h
    unfold lessA at h
    split at h
    · exact absurd (hcon _) h
    · have e : ∀ l k, vl (ct l k).ps = cn l := fun l k => vl_cl _
      dsimp only at h
      rw [e, cf_cn] at h
      exact cf_fm' h
  split
  · split
    · intro h; exact absurd (hcon _) h
    · intro h
      dsimp only at h
      unfold partedA partedB at h
      split at h
      · exact absurd (hcon _) h
      split at h
      · exact absurd (hcon _) h
      split at h
      · exact absurd (hcon _) h
      have e : ∀ l k, vl (ct l k).ps = cn l := fun l k => vl_cl _
      dsimp only at h
      rw [lesser_opp] at h
      split at h
      · rw [e, cf_cn] at h
        have h2 := cf_fm' h
        rw [cf_sc] at h2
        have h3 : cf (cn (fm (·.fdiv _) _)) x ≠ 0 := fun e => h2 (by rw [e, Int.mul_zero])
        rw [cf_cn] at h3
        have h4 := cf_fm' h3
        exact cf_fm' h4
      · rw [e, cf_cn, cf_cn] at h
        exact cf_fm' (cf_fm' h)
  · intro h; exact absurd (hcon _) h
theorem cov_norm' {a : Ar} {vals : List (Int × Z)} (h : cov vals (cn (vl a.t.ps)) = true) : cov vals (cn (vl (normA a).1.t.ps)) = true := by
  rw [cov_iff] at *
  exact fun x hx => h x (cf_norm' hx)
theorem means_plain {a : Ar} {vals : List (Int × Z)} (h1 : (meansR a vals).2 = true) (h0 : (normA a).2 = 0) : holdsR (normA a).1 vals = ((meansR a vals).1, 0) := by
  have hid := normA_idem a
  unfold holdsR
  rw [hid]
  dsimp only
  rw [if_neg (show ¬ ((0 : Int) ≠ 0) by decide)]
  unfold meansR at h1 ⊢
  by_cases k01 : a.kd = 0 ∨ a.kd = 1
  · rw [if_pos k01]
    have hn : (normA a).1 = constA (decide (a.kd = 1)) := by unfold normA; rw [if_pos k01]
    rw [hn, holds_const, if_pos (by rfl)]
  · rw [if_neg k01] at h1 ⊢
    by_cases h2 : cov vals (cn (vl a.t.ps)) = true ∧ (a.kd = 2 ∨ ((a.kd = 3 ∨ a.kd = 4) ∧ a.d.v ≠ 0))
    · rw [if_pos h2, if_pos (cov_norm' h2.1), holds_norm _ _ h0]
    · rw [if_neg h2] at h1
      split at h1 <;> exact absurd (show false = true from h1) (by decide)

set_option maxRecDepth 100000 in
set_option maxHeartbeats 12800000 in
theorem lawmeans_c {v0 : Value} {a : Ar} {A0 : Option Addr} {c0 : Nat} {vals : List (Int × Z)} {w : World} {X0 X3 : Nat → Prop} {N : Nat} (h0 : Av w X0 v0 a) (h3 : Pl w X3 A0 c0 vals)
    (s0 : a.sz N) (s3 : ∀ p ∈ vals, p.2.mag.length ≤ N) (hN2 : 2 ≤ N) (hN : N ≤ 1048576) (htab : Tab w) :
    Calls Tryz.prog 7 #[v0, .slice A0 vals.length c0] w fun e w' => e = .returned (.bool true) ∧ Ext w w' := by
  have haw := fun (U : World) (hU : Ext w U) => awake6_c U (htab.ext hU)
  have hno := fun (U : World) (hU : Ext w U) => anorm_c (h0.ext hU) s0 hN2 (by omega)
  have hme := fun (U : World) (hU : Ext w U) => means_c (h0.ext hU) (h3.ext hU) s0 s3 hN2 (by omega)
  have hlbs : Lb a.d.mag ∧ a.t.lb := by
    obtain ⟨D, c, A, e, C, f, -, -, g1, g2, g3⟩ := h0
    exact ⟨g1.lb, Tv.lb (⟨A, e, C, f, rfl, g2, g3⟩ : Tv w X0 _ a.t)⟩
  have hsz := normA_sz hN2 s0 hlbs.1 hlbs.2
  have hF := normA_form a
  have hpl := fun (k1 : (meansR a vals).2 = true) (k2 : (normA a).2 = 0) => means_plain k1 k2
  obtain ⟨n, hn⟩ : ∃ n, n = (normA a).1 := ⟨_, rfl⟩
  obtain ⟨e0, he⟩ : ∃ n, n = (normA a).2 := ⟨_, rfl⟩
  obtain ⟨m, hm⟩ : ∃ n, n = meansR a vals := ⟨_, rfl⟩
  rw [← hn] at hsz hF hpl
  rw [← he, ← hm] at hpl
  simp only [← hn, ← he] at hno
  simp only [← hm] at hme
  have hh1 := fun (U : World) (Q : Nat → Prop) (r : Value) (hU : Ext w U) (hr : Av U Q r n) => aholds_c hr (h3.ext hU) (N := 2 * N) hsz (fun p hp => by have := s3 p hp; omega) (by omega) (by omega)
  have hva := fun (U : World) (Q : Nat → Prop) (r : Value) (hr : Av U Q r n) => avalid_form_c hr hF (N := 2 * N) hsz (by omega) (by omega)
  have hn2 := fun (U : World) (Q : Nat → Prop) (r : Value) (hr : Av U Q r n) => anorm_c hr (N := 2 * N) hsz (by omega) (by omega)
  rw [form_norm hF] at hn2
  have hsa := fun (U : World) (Q Q' : Nat → Prop) (r r' : Value) (hr : Av U Q r n) (hr' : Av U Q' r' n) => same6_c hr hr' hF (N := 2 * N) hsz (by omega)
  obtain ⟨Da, ca, Aa, ea, Ca, fa, rfl, hka, ha1, ha2, ha3⟩ := h0
  have HAW := Lib.hid haw; have HNO := Lib.hid hno; have HME := Lib.hid hme; have HH1 := Lib.hid hh1; have HVA := Lib.hid hva; have HN2 := Lib.hid hn2; have HSA := Lib.hid hsa; have HPL := Lib.hid hpl
  clear haw hno hme hh1 hva hn2 hsa hpl hn he hm hF hsz hlbs
  obtain ⟨want, ok⟩ := m
  go_enter Tryz.func7, Tryz.ntmps7
  go_wp2_with fail
  refine (HAW.out _ (by repeat (first | with_reducible assumption | with_reducible exact Ext.refl _ | with_reducible refine Ext.drewN ?_ _ | with_reducible refine Ext.drew ?_ | with_reducible refine Ext.alloc ?_ _ | (with_reducible refine Ext.setCell ?_ ?_ _; rotate_left; (first | exact Nat.le_refl _ | (dsimp only; omega) | (simp only [wsz]; omega))) | (with_reducible refine Ext.trans ?_ (by with_reducible assumption))))).mono ?_
  rintro e W ⟨rfl, hx⟩
  (have b2' := Box.ext (g := w.heap.size) (by repeat (first | with_reducible assumption | with_reducible exact Box.new _ _ _ | (with_reducible refine Box.new_at _ _ _ ?_; (simp only [wsz]; done)) | with_reducible refine Box.drewN ?_ _ | with_reducible refine Box.drew ?_ | with_reducible refine Box.alloc ?_ _ | with_reducible apply Box.drewN | with_reducible apply Box.drew | with_reducible apply Box.alloc | with_reducible refine Box.set_ ?_ _ _ | (with_reducible refine Box.far ?_ ?_ _; rotate_left; (simp only [ne_eq]; omega)) | (with_reducible refine Box.ext ?_ (by with_reducible assumption)) | (refine Box.new_at _ _ _ ?_; simp only [wsz]; done))) hx; have b2'r := b2'.rules; have b2'l := b2'.lt)
  have hE : Ext w W := (by repeat (first | with_reducible assumption | with_reducible exact Ext.refl _ | with_reducible refine Ext.drewN ?_ _ | with_reducible refine Ext.drew ?_ | with_reducible refine Ext.alloc ?_ _ | (with_reducible refine Ext.setCell ?_ ?_ _; rotate_left; (first | exact Nat.le_refl _ | (dsimp only; omega) | (simp only [wsz]; omega))) | (with_reducible refine Ext.trans ?_ (by with_reducible assumption))))
  clear hx
  go_wp2_with fail
  refine (HME.out _ hE).mono ?_
  rintro e0' w0 ⟨rfl, hx0⟩
  have b2 := b2'.ext hx0
  have hE0 := hE.trans hx0
  clear b2' b2'r b2'l hE hx0
  have b2r := b2.rules; have b2l := b2.lt
  go_wp2_with fail
  refine (HNO.out _ hE0).mono ?_
  rintro e1 w1 ⟨_, rfl, hA, hx1⟩
  have hAv := hA.av
  obtain ⟨D1, c1, A1, g1, C1, k1, rfl, hk1, hD, hP, hK⟩ := hAv
  have hE1 := hE0.trans hx1
  cases ok with
  | false =>
    clear b2r b2l
    go_wp2_with fail
    (refine bodyPost_ret (v := ?_) ?_ rfl ?_; rotate_left; (simp only [results, Tryz.results7]; go_simp; (first | done | with_reducible rfl)))
    exact ⟨rfl, (by repeat (first | with_reducible assumption | with_reducible exact Ext.refl _ | with_reducible refine Ext.drewN ?_ _ | with_reducible refine Ext.drew ?_ | with_reducible refine Ext.alloc ?_ _ | (with_reducible refine Ext.setCell ?_ ?_ _; rotate_left; (first | exact Nat.le_refl _ | (dsimp only; omega) | (simp only [wsz]; omega))) | (with_reducible refine Ext.trans ?_ (by with_reducible assumption))))⟩
  | true =>
    by_cases he0 : e0 = 0
    · subst he0
      have hpl := HPL.out rfl rfl
      clear HPL b2r b2l
      go_upto_region 6 with fail
      refine wp_named fun V hV => ?_
      obtain ⟨g8, hg8⟩ : ∃ g, g = w1.heap.size := ⟨_, rfl⟩
      have b8 : Box V g8 29 #[.int .i64 n.kd, .bool n.d.neg, .slice D1 n.d.mag.length c1, .slice A1 n.t.ps.length g1, .bool n.t.k.neg, .slice C1 n.t.k.mag.length k1] := by rw [hV, hg8]; exact Box.new _ _ _
      have hxV : Ext w1 V := by rw [hV]; exact (Ext.refl w1).alloc _
      have hnV : Av V (w0.heap.size ≤ ·) (.agg #[.int .i64 n.kd, .bool n.d.neg, .slice D1 n.d.mag.length c1, .slice A1 n.t.ps.length g1, .bool n.t.k.neg, .slice C1 n.t.k.mag.length k1]) n := ⟨D1, c1, A1, g1, C1, k1, rfl, hk1, Nl.ext hD hxV, hP.ext hxV, Nl.ext hK hxV⟩
      have hEV := hE1.trans hxV
      rw [← hg8]
      clear hV hg8 hA hD hP hK hxV hx1 hE1 b2
      have hh := HH1.out V _ _ hEV hnV
      rw [hpl] at hh
      have HHH := Lib.hid hh
      clear hh hpl HH1
      have b8r := b8.rules; have b8l := b8.lt
      go_wp2_with fail
      refine HHH.out.mono ?_
      rintro e2 w2 ⟨rfl, hx2⟩
      have c8 := b8.ext hx2
      clear b8r b8l
      have c8r := c8.rules; have c8l := c8.lt
      go_wp2_with fail
      refine (HVA.out _ _ _ (hnV.ext hx2)).mono ?_
      rintro e3 w3 ⟨rfl, hx3⟩
      have hx23 := hx2.trans hx3
      have d8 := c8.ext hx3
      clear c8 c8r c8l
      have d8r := d8.rules; have d8l := d8.lt
      go_wp2_with fail
      refine (HN2.out _ _ _ (hnV.ext hx23)).mono ?_
      rintro e4 w4 ⟨_, rfl, hB, hx4⟩
      have hBv := hB.av
      obtain ⟨D2, c2, A2, g2, C2, k2, rfl, hk2, hD2, hP2, hK2⟩ := hBv
      go_upto_region 9 with fail
      refine wp_named fun U hU => ?_
      obtain ⟨g13, hg13⟩ : ∃ g, g = w4.heap.size := ⟨_, rfl⟩
      have b13 : Box U g13 29 #[.int .i64 n.kd, .bool n.d.neg, .slice D2 n.d.mag.length c2, .slice A2 n.t.ps.length g2, .bool n.t.k.neg, .slice C2 n.t.k.mag.length k2] := by rw [hU, hg13]; exact Box.new _ _ _
      have hxU : Ext w4 U := by rw [hU]; exact (Ext.refl w4).alloc _
      have hmU : Av U (w3.heap.size ≤ ·) (.agg #[.int .i64 n.kd, .bool n.d.neg, .slice D2 n.d.mag.length c2, .slice A2 n.t.ps.length g2, .bool n.t.k.neg, .slice C2 n.t.k.mag.length k2]) n := ⟨D2, c2, A2, g2, C2, k2, rfl, hk2, Nl.ext hD2 hxU, hP2.ext hxU, Nl.ext hK2 hxU⟩
      have hyU := hx4.trans hxU
      have i8 := d8.ext hyU
      have hVU := hx23.trans hyU
      rw [← hg13]
      clear hU hg13 hB hD2 hP2 hK2 hxU hx4 hyU d8 d8r d8l b8
      have i8r := i8.rules; have i8l := i8.lt; have b13r := b13.rules; have b13l := b13.lt
      cases want <;>
      · go_wp2_with fail
        refine (HSA.out _ _ _ _ _ hmU (hnV.ext hVU)).mono ?_
        rintro e5 w5 ⟨rfl, hx5⟩
        go_wp2_with fail
        (refine bodyPost_ret (v := ?_) ?_ rfl ?_; rotate_left; (simp only [results, Tryz.results7]; go_simp; (first | done | with_reducible rfl)))
        exact ⟨rfl, (hEV.trans hVU).trans hx5⟩
    · have he2 : (e0 == 0) = false := by rw [beq_eq_false_iff_ne]; exact he0
      have he3 : (e0 != 0) = true := by rw [bne_iff_ne]; exact he0
      clear b2r b2l
      go_wp2_with fail
      (refine bodyPost_ret (v := ?_) ?_ rfl ?_; rotate_left; (simp only [results, Tryz.results7]; go_simp; (first | done | with_reducible rfl)))
      exact ⟨rfl, (by repeat (first | with_reducible assumption | with_reducible exact Ext.refl _ | with_reducible refine Ext.drewN ?_ _ | with_reducible refine Ext.drew ?_ | with_reducible refine Ext.alloc ?_ _ | (with_reducible refine Ext.setCell ?_ ?_ _; rotate_left; (first | exact Nat.le_refl _ | (dsimp only; omega) | (simp only [wsz]; omega))) | (with_reducible refine Ext.trans ?_ (by with_reducible assumption))))⟩

end Go.Proofs.YthmjgbkakjpfkaaGreatDoor
