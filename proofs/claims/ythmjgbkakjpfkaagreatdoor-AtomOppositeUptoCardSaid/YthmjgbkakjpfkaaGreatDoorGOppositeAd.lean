/- riddlelaw06.AtomOpposite. No conditions. -/
import Derived.Test.YthmjgbkakjpfkaaGreatDoorGShortBl
import Derived.Test.YthmjgbkakjpfkaaGreatDoorGOppositeAb
namespace Go.Proofs.YthmjgbkakjpfkaaGreatDoor
open Go.RowKit

theorem negF_div {c : Int} (hc : c = 3 ∨ c = 4) (d : Z) (t : T) : negF ⟨c, d, t⟩ = (normA ⟨7 - c, d, t⟩).1 := by
  rcases hc with rfl | rfl <;> rfl
theorem sc_sc (l : List (Int × Int)) : sc (-1) (sc (-1) l) = l := by
  unfold sc
  rw [List.map_map]
  have : ∀ p ∈ l, ((fun p : Int × Int => (p.1, -1 * p.2)) ∘ fun p => (p.1, -1 * p.2)) p = id p := fun p _ => by
    simp only [Function.comp, id]
    exact Prod.ext rfl (by dsimp only; omega)
  rw [List.map_congr_left this, List.map_id]
theorem canon_neg {l : List (Int × Int)} (h : Canon l) : Canon (sc (-1) l) := by
  rw [sc_fm]
  exact canon_fm h fun p hp => by have := h.2 p hp; omega
theorem gcdL_neg (l : List (Int × Int)) : gcdL ((sc (-1) l).map Prod.snd) = gcdL (l.map Prod.snd) := by
  refine Nat.dvd_antisymm (dvd_gcdL.2 fun x hx => ?_) (dvd_gcdL.2 fun x hx => ?_)
  · obtain ⟨q, hq, rfl⟩ := List.mem_map.1 hx
    have h := gcdL_mem (l := (sc (-1) l).map Prod.snd) (x := -1 * q.2) (List.mem_map.2 ⟨(q.1, -1 * q.2), List.mem_map.2 ⟨q, hq, rfl⟩, rfl⟩)
    obtain ⟨y, hy⟩ := h
    exact ⟨-y, by rw [Int.mul_neg, ← hy]; omega⟩
  · obtain ⟨q, hq, rfl⟩ := List.mem_map.1 hx
    obtain ⟨r, hr, rfl⟩ := List.mem_map.1 hq
    obtain ⟨y, hy⟩ := gcdL_mem (l := l.map Prod.snd) (x := r.2) (List.mem_map.2 ⟨r, hr, rfl⟩)
    exact ⟨-y, by dsimp only; rw [hy, Int.mul_neg]; omega⟩
theorem oppT_ct {l : List (Int × Int)} (h : Canon l) (k : Int) : oppT (ct l k) = ct (sc (-1) l) (1 - k) := by
  unfold oppT
  have e1 : vl (ct [] (cz 1).v).ps = [] := rfl
  have e2 : (ct [] (cz 1).v).k.v = 1 := by rw [show (ct [] (cz 1).v).k.v = (cz 1).v from cz_v _, cz_v]
  rw [e1, e2, fine_ps h, List.nil_append, show (ct l k).k.v = k from cz_v k]
theorem negF_less {l : List (Int × Int)} {k : Int} (h : Canon l) (hne : l ≠ []) (hg : gcdL (l.map Prod.snd) = 1) : negF ⟨2, cz 0, ct l k⟩ = ⟨2, cz 0, ct (sc (-1) l) (1 - k)⟩ := by
  have hF : Form ⟨2, cz 0, ct (sc (-1) l) (1 - k)⟩ := .inr (.inl ⟨rfl, rfl, _, _, canon_neg h, fun e => hne (by have := congrArg List.length e; rw [sc_len] at this; exact List.eq_nil_of_length_eq_zero this), by rw [gcdL_neg]; exact hg, rfl⟩)
  have e : negF ⟨2, cz 0, ct l k⟩ = lessA (vl (oppT (ct l k)).ps) (oppT (ct l k)).k.v := rfl
  rw [e, oppT_ct h]
  exact congrArg Prod.fst (form_norm hF)
theorem neg_law {n : Ar} (h : Form n) : Form (negF n) ∧ negF (negF n) = n ∧ (∀ x, cf (vl (negF n).t.ps) x ≠ 0 ↔ cf (vl n.t.ps) x ≠ 0) ∧ ∀ f, holdsA (negF n) (tev f (negF n).t) = !holdsA n (tev f n.t) := by
  obtain ⟨kd, d, t⟩ := n
  rcases h with ⟨b, h⟩ | ⟨hk, hd, l, k, hc, hne, hg, ht⟩ | ⟨hk, hd1, hd, hL⟩
  · rw [h]
    have e : ∀ b, negF (constA b) = constA (!b) := fun b => by cases b <;> rfl
    rw [e, e]
    refine ⟨.inl ⟨_, rfl⟩, by rw [Bool.not_not], fun x => Iff.rfl, fun f => ?_⟩
    rw [holds_const, holds_const]
  · dsimp only at hk hd ht
    subst hk; subst hd; subst ht
    have hc2 := canon_neg hc
    have hne2 : sc (-1) l ≠ [] := fun e => hne (by have := congrArg List.length e; rw [sc_len] at this; exact List.eq_nil_of_length_eq_zero this)
    have hg2 : gcdL ((sc (-1) l).map Prod.snd) = 1 := by rw [gcdL_neg]; exact hg
    rw [negF_less hc hne hg]
    refine ⟨.inr (.inl ⟨rfl, rfl, _, _, hc2, hne2, hg2, rfl⟩), ?_, fun x => ?_, fun f => ?_⟩
    · rw [negF_less hc2 hne2 hg2, sc_sc, show 1 - (1 - k) = k by omega]
    · dsimp only
      rw [fine_ps hc, fine_ps hc2, cf_sc]
      omega
    · unfold holdsA
      dsimp only
      rw [if_pos rfl, if_pos rfl, tev_ct, tev_ct, ev_sc]
      by_cases h0 : 0 < ev f l + k
      · rw [decide_eq_true h0, decide_eq_false (by omega)]; rfl
      · rw [decide_eq_false h0, decide_eq_true (by omega)]; rfl
  · dsimp only at hk hd1 hd hL
    have hF2 : Form ⟨7 - kd, d, t⟩ := .inr (.inr ⟨show (7 - kd = 3 ∨ 7 - kd = 4) by omega, hd1, hd, hL⟩)
    have e1 : negF ⟨kd, d, t⟩ = ⟨7 - kd, d, t⟩ := by rw [negF_div hk, form_norm hF2]
    have e2 : negF ⟨7 - kd, d, t⟩ = ⟨kd, d, t⟩ := by
      rw [negF_div (by omega), show 7 - (7 - kd) = kd by omega, form_norm (.inr (.inr ⟨hk, hd1, hd, hL⟩))]
    rw [e1]
    refine ⟨hF2, e2, fun x => Iff.rfl, fun f => ?_⟩
    unfold holdsA
    dsimp only
    rcases hk with rfl | rfl <;> simp
theorem holds_neg {n : Ar} (h : Form n) (vals : List (Int × Z)) : (holdsR (negF n) vals).2 = (holdsR n vals).2 ∧ ((holdsR n vals).2 = 0 → (holdsR (negF n) vals).1 = !(holdsR n vals).1) := by
  obtain ⟨h1, -, h3, h4⟩ := neg_law h
  have hcv : cov vals (cn (vl (negF n).t.ps)) = cov vals (cn (vl n.t.ps)) := by
    rw [Bool.eq_iff_iff, cov_iff, cov_iff]
    exact ⟨fun hh x hx => hh x ((h3 x).2 hx), fun hh x hx => hh x ((h3 x).1 hx)⟩
  unfold holdsR
  rw [form_norm h1, form_norm h]
  dsimp only
  rw [if_neg (show ¬ ((0 : Int) ≠ 0) by decide), if_neg (show ¬ ((0 : Int) ≠ 0) by decide), hcv]
  by_cases hc : cov vals (cn (vl n.t.ps)) = true
  · rw [if_pos hc, if_pos hc]
    exact ⟨rfl, fun _ => h4 _⟩
  · rw [if_neg hc, if_neg hc]
    exact ⟨rfl, fun h => absurd h (by decide)⟩
theorem negF_sz {n : Ar} {N : Nat} (hN : 2 ≤ N) (hF : Form n) (hs : n.sz N) : (negF n).sz (N + 1) := by
  obtain ⟨kd, d, t⟩ := n
  rcases hF with ⟨b, h⟩ | ⟨hk, hd, l, k, hc, hne, hg, ht⟩ | ⟨hk, hd1, hd, hL⟩
  · rw [h]
    have e : negF (constA b) = constA (!b) := by cases b <;> rfl
    rw [e]
    exact ⟨Nat.zero_le _, Nat.zero_le _, fun _ h => (List.not_mem_nil h).elim, Nat.zero_le _⟩
  · dsimp only at hk hd ht
    subst hk; subst hd; subst ht
    rw [negF_less hc hne hg]
    have hps : (ct l k).ps = cl l := by unfold ct; rw [cn_canon hc]
    obtain ⟨-, h1, h2, h3⟩ := hs
    rw [hps] at h1 h2
    rw [cl_len] at h1
    have hkz : zl k ≤ N := h3
    refine ⟨Nat.zero_le _, ct_sz_canon (canon_neg hc) (by rw [sc_len]; omega) (fun p hp => ?_) ?_⟩
    · obtain ⟨q, hq, rfl⟩ := List.mem_map.1 hp
      have h4 : zl q.2 ≤ N := h2 (q.1, cz q.2) (List.mem_map.2 ⟨q, hq, rfl⟩)
      simp only [Int.neg_mul, Int.one_mul, zl_neg]
      omega
    · exact zl_sub (Nat.le_trans (show zl 1 ≤ 1 by decide) (by omega)) hkz
  · dsimp only at hk hd1 hd hL
    have hF2 : Form ⟨7 - kd, d, t⟩ := .inr (.inr ⟨show (7 - kd = 3 ∨ 7 - kd = 4) by omega, hd1, hd, hL⟩)
    rw [negF_div hk, form_norm hF2]
    exact ⟨Nat.le_trans hs.1 (by omega), hs.2.mono (by omega)⟩

set_option maxRecDepth 100000 in
set_option maxHeartbeats 12800000 in
theorem lawopposite_c {v0 : Value} {a : Ar} {A0 : Option Addr} {c0 : Nat} {vals : List (Int × Z)} {w : World} {X0 X3 : Nat → Prop} {N : Nat} (h0 : Av w X0 v0 a) (h3 : Pl w X3 A0 c0 vals)
    (s0 : a.sz N) (s3 : ∀ p ∈ vals, p.2.mag.length ≤ N) (hN2 : 2 ≤ N) (hN : N ≤ 1048576) (htab : Tab w) :
    Calls Tryz.prog 6 #[v0, .slice A0 vals.length c0] w fun e w' => e = .returned (.bool true) ∧ Ext w w' := by
  have haw := fun (U : World) (hU : Ext w U) => awake6_c U (htab.ext hU)
  have hno := fun (U : World) (hU : Ext w U) => anorm_c (h0.ext hU) s0 hN2 (by omega)
  have hne := fun (U : World) (hU : Ext w U) => anegate_c (h0.ext hU) s0 hN2 (by omega)
  have hlbs : Lb a.d.mag ∧ a.t.lb := by
    obtain ⟨D, c, A, e, C, f, -, -, g1, g2, g3⟩ := h0
    exact ⟨g1.lb, Tv.lb (⟨A, e, C, f, rfl, g2, g3⟩ : Tv w X0 _ a.t)⟩
  have hsz := normA_sz hN2 s0 hlbs.1 hlbs.2
  have hF := normA_form a
  have hnr : (normA a).2 = 0 → negR a = negF (normA a).1 := fun h => by unfold negR; rw [if_neg (by rw [h]; decide)]
  obtain ⟨n, hn⟩ : ∃ n, n = (normA a).1 := ⟨_, rfl⟩
  obtain ⟨e0, he⟩ : ∃ n, n = (normA a).2 := ⟨_, rfl⟩
  rw [← hn] at hsz hF hnr
  rw [← he] at hnr
  simp only [← hn, ← he] at hno
  have hoz := negF_sz (by omega) hF hsz
  obtain ⟨hF2, hback, -, -⟩ := neg_law hF
  have hnb : negR (negF n) = n := by
    unfold negR
    rw [form_norm hF2]
    dsimp only
    rw [if_neg (by decide), hback]
  obtain ⟨hn1, hn2⟩ := holds_neg hF vals
  obtain ⟨o, ho⟩ : ∃ o, o = negF n := ⟨_, rfl⟩
  rw [← ho] at hoz hF2 hnr hnb hn1 hn2
  have hne2 := fun (U : World) (Q : Nat → Prop) (r : Value) (hr : Av U Q r o) => anegate_c hr (N := 3 * N) ⟨by have := hoz.1; omega, hoz.2.mono (by omega)⟩ (by omega) (by omega)
  rw [hnb] at hne2
  have hh1 := fun (U : World) (Q : Nat → Prop) (r : Value) (hU : Ext w U) (hr : Av U Q r n) => aholds_c hr (h3.ext hU) (N := 2 * N) hsz (fun p hp => by have := s3 p hp; omega) (by omega) (by omega)
  have hh2 := fun (U : World) (Q : Nat → Prop) (r : Value) (hU : Ext w U) (hr : Av U Q r o) => aholds_c hr (h3.ext hU) (N := 3 * N) ⟨by have := hoz.1; omega, hoz.2.mono (by omega)⟩ (fun p hp => by have := s3 p hp; omega) (by omega) (by omega)
  have hsa := fun (U : World) (Q Q' : Nat → Prop) (r r' : Value) (hr : Av U Q r n) (hr' : Av U Q' r' n) => same6_c hr hr' hF (N := 2 * N) hsz (by omega)
  obtain ⟨x1, hx1⟩ : ∃ r, r = holdsR n vals := ⟨_, rfl⟩
  obtain ⟨x2, hx2⟩ : ∃ r, r = holdsR o vals := ⟨_, rfl⟩
  rw [← hx1, ← hx2] at hn1 hn2
  simp only [← hx1] at hh1
  simp only [← hx2] at hh2
  obtain ⟨b1, f1⟩ := x1
  obtain ⟨b2, f2⟩ := x2
  dsimp only at hn1 hn2 hh1 hh2
  subst hn1
  have hlv := Pl.lb h3
  obtain ⟨Da, ca, Aa, ea, Ca, fa, rfl, hka, ha1, ha2, ha3⟩ := h0
  have HAW := Lib.hid haw; have HNO := Lib.hid hno; have HNE := Lib.hid hne; have HNE2 := Lib.hid hne2; have HH1 := Lib.hid hh1; have HH2 := Lib.hid hh2; have HSA := Lib.hid hsa; have HNR := Lib.hid hnr; have HN2 := Lib.hid hn2
  clear haw hno hne hne2 hh1 hh2 hsa hnr hn2 hn he hx1 hx2 hnb hback ho hF hF2 hsz hoz hlbs
  go_enter Tryz.func6, Tryz.ntmps6
  go_wp2_with fail
  refine (HAW.out _ (by repeat (first | with_reducible assumption | with_reducible exact Ext.refl _ | with_reducible refine Ext.drewN ?_ _ | with_reducible refine Ext.drew ?_ | with_reducible refine Ext.alloc ?_ _ | (with_reducible refine Ext.setCell ?_ ?_ _; rotate_left; (first | exact Nat.le_refl _ | (dsimp only; omega) | (simp only [wsz]; omega))) | (with_reducible refine Ext.trans ?_ (by with_reducible assumption))))).mono ?_
  rintro e W ⟨rfl, hx⟩
  (have b2' := Box.ext (g := w.heap.size) (by repeat (first | with_reducible assumption | with_reducible exact Box.new _ _ _ | (with_reducible refine Box.new_at _ _ _ ?_; (simp only [wsz]; done)) | with_reducible refine Box.drewN ?_ _ | with_reducible refine Box.drew ?_ | with_reducible refine Box.alloc ?_ _ | with_reducible apply Box.drewN | with_reducible apply Box.drew | with_reducible apply Box.alloc | with_reducible refine Box.set_ ?_ _ _ | (with_reducible refine Box.far ?_ ?_ _; rotate_left; (simp only [ne_eq]; omega)) | (with_reducible refine Box.ext ?_ (by with_reducible assumption)) | (refine Box.new_at _ _ _ ?_; simp only [wsz]; done))) hx; have b2'r := b2'.rules; have b2'l := b2'.lt)
  have hE : Ext w W := (by repeat (first | with_reducible assumption | with_reducible exact Ext.refl _ | with_reducible refine Ext.drewN ?_ _ | with_reducible refine Ext.drew ?_ | with_reducible refine Ext.alloc ?_ _ | (with_reducible refine Ext.setCell ?_ ?_ _; rotate_left; (first | exact Nat.le_refl _ | (dsimp only; omega) | (simp only [wsz]; omega))) | (with_reducible refine Ext.trans ?_ (by with_reducible assumption))))
  clear hx
  go_wp2_with fail
  refine (HNO.out _ hE).mono ?_
  rintro e1 w1 ⟨_, rfl, hA, hx1⟩
  have hAv := hA.av
  obtain ⟨D1, c1, A1, g1, C1, k1, rfl, hk1, hD, hP, hK⟩ := hAv
  have hE1 := hE.trans hx1
  by_cases he0 : e0 = 0
  · subst he0
    have ho := HNR.out rfl
    have hne := HNE.out
    rw [ho] at hne
    have HNE3 := Lib.hid hne
    clear ho hne HNE HNR
    go_upto_region 3 with fail
    refine wp_named fun V hV => ?_
    obtain ⟨g6, hg6⟩ : ∃ g, g = w1.heap.size := ⟨_, rfl⟩
    have b6 : Box V g6 29 #[.int .i64 n.kd, .bool n.d.neg, .slice D1 n.d.mag.length c1, .slice A1 n.t.ps.length g1, .bool n.t.k.neg, .slice C1 n.t.k.mag.length k1] := by rw [hV, hg6]; exact Box.new _ _ _
    have hxV : Ext w1 V := by rw [hV]; exact (Ext.refl w1).alloc _
    have hnV : Av V (W.heap.size ≤ ·) (.agg #[.int .i64 n.kd, .bool n.d.neg, .slice D1 n.d.mag.length c1, .slice A1 n.t.ps.length g1, .bool n.t.k.neg, .slice C1 n.t.k.mag.length k1]) n := ⟨D1, c1, A1, g1, C1, k1, rfl, hk1, Nl.ext hD hxV, hP.ext hxV, Nl.ext hK hxV⟩
    have c2 := (b2'.ext hx1).ext hxV
    have hEV := hE1.trans hxV
    rw [← hg6]
    clear hV hg6 hA hD hP hK hxV hx1 hE hE1 b2' b2'r b2'l
    have c2r := c2.rules; have c2l := c2.lt
    go_wp2_with fail
    refine (HNE3.out _ hEV).mono ?_
    rintro e2 w2 ⟨_, rfl, hB, hx2⟩
    have hBv := hB.av
    obtain ⟨D2, d2, A2, g2, C2, k2, rfl, hk2, hD2, hP2, hK2⟩ := hBv
    clear c2r c2l
    go_upto_region 6 with fail
    refine wp_named fun U hU => ?_
    obtain ⟨g8, hg8⟩ : ∃ g, g = w2.heap.size := ⟨_, rfl⟩
    have b8 : Box U g8 29 #[.int .i64 o.kd, .bool o.d.neg, .slice D2 o.d.mag.length d2, .slice A2 o.t.ps.length g2, .bool o.t.k.neg, .slice C2 o.t.k.mag.length k2] := by rw [hU, hg8]; exact Box.new _ _ _
    have hxU : Ext w2 U := by rw [hU]; exact (Ext.refl w2).alloc _
    have hoU : Av U (V.heap.size ≤ ·) (.agg #[.int .i64 o.kd, .bool o.d.neg, .slice D2 o.d.mag.length d2, .slice A2 o.t.ps.length g2, .bool o.t.k.neg, .slice C2 o.t.k.mag.length k2]) o := ⟨D2, d2, A2, g2, C2, k2, rfl, hk2, Nl.ext hD2 hxU, hP2.ext hxU, Nl.ext hK2 hxU⟩
    have hyU := hx2.trans hxU
    have c6 := b6.ext hyU; have hnU := hnV.ext hyU
    have hEU := hEV.trans hyU
    rw [← hg8]
    clear hU hg8 hB hD2 hP2 hK2 hxU hx2 hyU hEV b6 hnV c2
    have b8r := b8.rules; have b8l := b8.lt
    go_wp2_with fail
    refine (HNE2.out _ _ _ hoU).mono ?_
    rintro e3 w3 ⟨_, rfl, hC, hx3⟩
    have hCv := hC.av
    obtain ⟨D3, d3, A3, g3, C3, k3, rfl, hk3, hD3, hP3, hK3⟩ := hCv
    clear b8r b8l
    go_upto_region 7 with fail
    refine wp_named fun S hS => ?_
    obtain ⟨g9, hg9⟩ : ∃ g, g = w3.heap.size := ⟨_, rfl⟩
    have b9 : Box S g9 29 #[.int .i64 n.kd, .bool n.d.neg, .slice D3 n.d.mag.length d3, .slice A3 n.t.ps.length g3, .bool n.t.k.neg, .slice C3 n.t.k.mag.length k3] := by rw [hS, hg9]; exact Box.new _ _ _
    have hxS : Ext w3 S := by rw [hS]; exact (Ext.refl w3).alloc _
    have hbS : Av S (U.heap.size ≤ ·) (.agg #[.int .i64 n.kd, .bool n.d.neg, .slice D3 n.d.mag.length d3, .slice A3 n.t.ps.length g3, .bool n.t.k.neg, .slice C3 n.t.k.mag.length k3]) n := ⟨D3, d3, A3, g3, C3, k3, rfl, hk3, Nl.ext hD3 hxS, hP3.ext hxS, Nl.ext hK3 hxS⟩
    have hyS := hx3.trans hxS
    have d6 := c6.ext hyS; have d8 := b8.ext hyS; have hnS := hnU.ext hyS; have hoS := hoU.ext hyS
    have hES := hEU.trans hyS
    rw [← hg9]
    clear hS hg9 hC hD3 hP3 hK3 hxS hx3 hyS hEU c6 hnU hoU b8
    have d6r := d6.rules; have d6l := d6.lt
    go_wp2_with fail
    refine (HH1.out _ _ _ hES hnS).mono ?_
    rintro e4 w4 ⟨rfl, hx4⟩
    have f8 := d8.ext hx4; have f6 := d6.ext hx4; have f9 := b9.ext hx4
    clear d6r d6l d8 d6 b9
    have f8r := f8.rules; have f8l := f8.lt
    go_wp2_with fail
    refine (HH2.out _ _ _ (hES.trans hx4) (hoS.ext hx4)).mono ?_
    rintro e5 w5 ⟨rfl, hx5⟩
    have hx45 := hx4.trans hx5
    have i6 := f6.ext hx5; have i9 := f9.ext hx5
    clear f8 f8r f8l f6 f9
    have i6r := i6.rules; have i6l := i6.lt; have i9r := i9.rules; have i9l := i9.lt
    have hE5 := hES.trans hx45
    go_wp2_with fail
    refine (HSA.out _ _ _ _ _ (hbS.ext hx45) (hnS.ext hx45)).mono ?_
    rintro e6 w6 ⟨rfl, hx6⟩
    by_cases hf : f2 = 0
    · have hb := HN2.out hf
      subst hf
      subst hb
      cases b1
      · go_wp2_with fail
        (refine bodyPost_ret (v := ?_) ?_ rfl ?_; rotate_left; (simp only [results, Tryz.results6]; go_simp; (first | done | with_reducible rfl)))
        exact ⟨rfl, hE5.trans hx6⟩
      · go_wp2_with fail
        (refine bodyPost_ret (v := ?_) ?_ rfl ?_; rotate_left; (simp only [results, Tryz.results6]; go_simp; (first | done | with_reducible rfl)))
        exact ⟨rfl, hE5.trans hx6⟩
    · have hf2 : (f2 == 0) = false := by rw [beq_eq_false_iff_ne]; exact hf
      have hf3 : (f2 != 0) = true := by rw [bne_iff_ne]; exact hf
      go_wp2_with fail
      (refine bodyPost_ret (v := ?_) ?_ rfl ?_; rotate_left; (simp only [results, Tryz.results6]; go_simp; (first | done | with_reducible rfl)))
      exact ⟨rfl, hE5.trans hx6⟩
  · have he2 : (e0 == 0) = false := by rw [beq_eq_false_iff_ne]; exact he0
    have he3 : (e0 != 0) = true := by rw [bne_iff_ne]; exact he0
    go_wp2_with fail
    (refine bodyPost_ret (v := ?_) ?_ rfl ?_; rotate_left; (simp only [results, Tryz.results6]; go_simp; (first | done | with_reducible rfl)))
    exact ⟨rfl, (by repeat (first | with_reducible assumption | with_reducible exact Ext.refl _ | with_reducible refine Ext.drewN ?_ _ | with_reducible refine Ext.drew ?_ | with_reducible refine Ext.alloc ?_ _ | (with_reducible refine Ext.setCell ?_ ?_ _; rotate_left; (first | exact Nat.le_refl _ | (dsimp only; omega) | (simp only [wsz]; omega))) | (with_reducible refine Ext.trans ?_ (by with_reducible assumption))))⟩

end Go.Proofs.YthmjgbkakjpfkaaGreatDoor
