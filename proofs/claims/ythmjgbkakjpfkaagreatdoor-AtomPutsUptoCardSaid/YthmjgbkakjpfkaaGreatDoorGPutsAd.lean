/- riddlelaw06.AtomPuts. No conditions. -/
import Derived.Test.YthmjgbkakjpfkaaGreatDoorGShortBl
import Derived.Test.YthmjgbkakjpfkaaGreatDoorGPutsAb
namespace Go.Proofs.YthmjgbkakjpfkaaGreatDoor
open Go.RowKit

theorem ety_v' : Ety Tryz.prog 47 63 3 40 (.agg #[.int .i64 0, .bool false, .slice none 0 0]) := ⟨Tryz.underlying47, by kernel_rfl, by simp [Value.cells], by omega⟩
/-- A row of one, written out, as a row of the call's own. -/
theorem own_lit' {w : World} {Zp : Nat → Prop} {base g : Nat} {x : Int} {z : Z} {A : Option Addr} {c : Nat} {e : TypeId} (hg : g = w.heap.size) (hb : base ≤ g) (hi : i64 x) (h : Nl w (fun b => Zp b ∧ b < w.heap.size) A c z.mag) :
    Own 3 EP (w.alloc (.cells #[.int .i64 x, .bool z.neg, .slice A z.mag.length c] e)) Zp base e (.slice (some ⟨g, 0, none⟩) 1 1) [(x, z)] := by
  subst hg
  refine ⟨[.int .i64 x, .bool z.neg, .slice A z.mag.length c], ⟨rfl, .inr ⟨w.heap.size, 1, _, rfl, hb, Box.new _ _ _, by simp, by simp [maxLen], rfl, rfl⟩⟩, Fl.one ⟨A, c, rfl, hi, ?_⟩ rfl⟩
  exact (h.keep ((Kp.refl w).alloc _)).widen fun b hb _ => ⟨hb.1, fun e => by
    have e2 : w.heap.size = b := by injection e
    have := hb.2
    omega⟩
theorem putR_sz {a : Ar} {x : Int} {u : T} {N : Nat} (hN : 2 ≤ N) (hd : Lb a.d.mag) (ht : a.t.lb) (hu : u.lb) (hs : a.sz N) (su : u.sz N) : (putR a x u).sz (16 * N) := by
  have hcs : ∀ b, (constA b).sz (16 * N) := fun b => ⟨Nat.zero_le _, Nat.zero_le _, fun _ h => (List.not_mem_nil h).elim, Nat.zero_le _⟩
  unfold putR
  split
  · exact hcs _
  · have hsz := normA_sz hN hs hd ht
    have hb : (normA a).1.t.lb ∧ Lb (normA a).1.d.mag := by
      rcases normA_form a with ⟨b, hb⟩ | ⟨-, hd2, l, k, -, -, -, ht2⟩ | ⟨-, -, hd2, l, k, -, -, -, -, -, -, ht2, -⟩
      · rw [hb]; exact ⟨⟨fun _ h => (List.not_mem_nil h).elim, lb_lim _⟩, lb_lim _⟩
      · rw [ht2, hd2]; exact ⟨ct_lb _ _, lb_lim _⟩
      · rw [ht2]; refine ⟨ct_lb _ _, ?_⟩
        rw [hd2]; exact lb_lim _
    have hp := put_szA (x := x) (by omega) hb.1 hu hsz.2 su
    have h2 := normA_sz (a := ⟨(normA a).1.kd, (normA a).1.d, (normA a).1.t.put x u⟩) (N := 8 * N) (by omega) ⟨by have := hsz.1; simp only; omega, hp⟩ hb.2 (by unfold T.put; exact ct_lb _ _)
    rw [show 2 * (8 * N) = 16 * N by omega] at h2
    exact h2

set_option maxRecDepth 100000 in
set_option maxHeartbeats 12800000 in
theorem lawputs6_c {v0 v2 : Value} {a : Ar} {u : T} {x : Int} {A0 : Option Addr} {c0 : Nat} {vals : List (Int × Z)} {w : World} {X0 X2 X3 : Nat → Prop} {N : Nat} (h0 : Av w X0 v0 a) (hi : i64 x) (h2 : Tv w X2 v2 u) (h3 : Pl w X3 A0 c0 vals)
    (s0 : a.sz N) (s2 : u.sz N) (s3 : ∀ p ∈ vals, p.2.mag.length ≤ N) (s3n : vals.length ≤ N) (hN2 : 2 ≤ N) (hN : N ≤ 1048576) (htab : Tab w) :
    Calls Tryz.prog 9 #[v0, .int .i64 x, v2, .slice A0 vals.length c0] w fun e w' => e = .returned (.bool true) ∧ Ext w w' := by
  have haw := fun (U : World) (hU : Ext w U) => awake6_c U (htab.ext hU)
  have hte := fun (U : World) (hU : Ext w U) => teval_c (N := N) (h2.ext hU) (h3.ext hU) (by omega) s2 s3
  have hno := fun (U : World) (hU : Ext w U) => anorm_c (h0.ext hU) s0 hN2 (by omega)
  have hpu := fun (U : World) (hU : Ext w U) => aput_c (x := x) (h0.ext hU) (h2.ext hU) s0 s2 hN2 (by omega)
  have hlbs : Lb a.d.mag ∧ a.t.lb := by
    obtain ⟨D, c, A, e, C, f, -, -, g1, g2, g3⟩ := h0
    exact ⟨g1.lb, Tv.lb (⟨A, e, C, f, rfl, g2, g3⟩ : Tv w X0 _ a.t)⟩
  have hsz := normA_sz hN2 s0 hlbs.1 hlbs.2
  have hps := putR_sz (x := x) hN2 hlbs.1 hlbs.2 h2.lb s0 s2
  have hh2 := fun (U : World) (Q : Nat → Prop) (r : Value) (hU : Ext w U) (hr : Av U Q r (putR a x u)) => aholds_c hr (h3.ext hU) hps (fun p hp => by have := s3 p hp; omega) (by omega) (by omega)
  have hpl := fun (z : Z) (k1 : (normA a).2 = 0) (k2 : cov vals (cn (vl u.ps)) = true) (k3 : z.v = tev (fv vals) u) (k4 : (holdsR (normA a).1 ((x, z) :: vals)).2 = 0) => puts_plain k1 k2 k3 k4
  have hex0 := tev_sz h2.lb s2 (Pl.lb h3) s3
  obtain ⟨ex, hex⟩ : ∃ ex, ex = tev (fv vals) u := ⟨_, rfl⟩
  have hex2 : u.k.v + ev (fv vals) (vl u.ps) = ex := by rw [hex]; unfold tev; omega
  rw [← hex] at hex0
  simp only [← hex] at hpl
  obtain ⟨cb, hcb⟩ : ∃ b, b = cov vals (cn (vl u.ps)) := ⟨_, rfl⟩
  unfold EvR at hte
  rw [← hcb, hex2] at hte
  rw [← hcb] at hpl
  obtain ⟨n, hn⟩ : ∃ n, n = (normA a).1 := ⟨_, rfl⟩
  obtain ⟨e0, he⟩ : ∃ n, n = (normA a).2 := ⟨_, rfl⟩
  obtain ⟨p, hp⟩ : ∃ p, p = putR a x u := ⟨_, rfl⟩
  rw [← hn] at hsz hpl
  rw [← he, ← hp] at hpl
  simp only [← hn, ← he] at hno
  simp only [← hp] at hpu hh2
  have hh1 := fun (U : World) (Q Q' : Nat → Prop) (r : Value) (A : Option Addr) (c : Nat) (ws : List (Int × Z)) (hr : Av U Q r n) (hv : Pl U Q' A c ws) (hw : ∀ p ∈ ws, p.2.mag.length ≤ 4 * N) => aholds_c (N := 4 * N) hr hv ⟨by have := hsz.1; omega, hsz.2.mono (by omega)⟩ hw (by omega) (by omega)
  have hlv := Pl.lb h3
  obtain ⟨Da, ca, Aa, ea, Ca, fa, rfl, hka, ha1, ha2, ha3⟩ := h0
  obtain ⟨Ua, uc, Ub, ud, rfl, hu1, hu2⟩ := h2
  have HAW := Lib.hid haw; have HTE := Lib.hid hte; have HNO := Lib.hid hno; have HPU := Lib.hid hpu; have HH1 := Lib.hid hh1; have HH2 := Lib.hid hh2; have HPL := Lib.hid hpl
  clear haw hte hno hpu hh1 hh2 hpl hn he hp hcb hex hex2 hlbs hsz hps
  go_enter Tryz.func9, Tryz.ntmps9
  go_wp2_with fail
  refine (HAW.out _ (by repeat (first | with_reducible assumption | with_reducible exact Ext.refl _ | with_reducible refine Ext.drewN ?_ _ | with_reducible refine Ext.drew ?_ | with_reducible refine Ext.alloc ?_ _ | (with_reducible refine Ext.setCell ?_ ?_ _; rotate_left; (first | exact Nat.le_refl _ | (dsimp only; omega) | (simp only [wsz]; omega))) | (with_reducible refine Ext.trans ?_ (by with_reducible assumption))))).mono ?_
  rintro e W ⟨rfl, hx⟩
  (have b4 := Box.ext (g := w.heap.size) (by repeat (first | with_reducible assumption | with_reducible exact Box.new _ _ _ | (with_reducible refine Box.new_at _ _ _ ?_; (simp only [wsz]; done)) | with_reducible refine Box.drewN ?_ _ | with_reducible refine Box.drew ?_ | with_reducible refine Box.alloc ?_ _ | with_reducible apply Box.drewN | with_reducible apply Box.drew | with_reducible apply Box.alloc | with_reducible refine Box.set_ ?_ _ _ | (with_reducible refine Box.far ?_ ?_ _; rotate_left; (simp only [ne_eq]; omega)) | (with_reducible refine Box.ext ?_ (by with_reducible assumption)) | (refine Box.new_at _ _ _ ?_; simp only [wsz]; done))) hx; have b4r := b4.rules; have b4l := b4.lt)
  (have b6 := Box.ext (g := w.heap.size + 1) (by repeat (first | with_reducible assumption | with_reducible exact Box.new _ _ _ | (with_reducible refine Box.new_at _ _ _ ?_; (simp only [wsz]; done)) | with_reducible refine Box.drewN ?_ _ | with_reducible refine Box.drew ?_ | with_reducible refine Box.alloc ?_ _ | with_reducible apply Box.drewN | with_reducible apply Box.drew | with_reducible apply Box.alloc | with_reducible refine Box.set_ ?_ _ _ | (with_reducible refine Box.far ?_ ?_ _; rotate_left; (simp only [ne_eq]; omega)) | (with_reducible refine Box.ext ?_ (by with_reducible assumption)) | (refine Box.new_at _ _ _ ?_; simp only [wsz]; done))) hx; have b6r := b6.rules; have b6l := b6.lt)
  have hE : Ext w W := (by repeat (first | with_reducible assumption | with_reducible exact Ext.refl _ | with_reducible refine Ext.drewN ?_ _ | with_reducible refine Ext.drew ?_ | with_reducible refine Ext.alloc ?_ _ | (with_reducible refine Ext.setCell ?_ ?_ _; rotate_left; (first | exact Nat.le_refl _ | (dsimp only; omega) | (simp only [wsz]; omega))) | (with_reducible refine Ext.trans ?_ (by with_reducible assumption))))
  clear hx
  go_wp2_with fail
  refine (HTE.out _ hE).mono ?_
  rintro e1 w1 ⟨hev, hx1⟩
  have hE1 := hE.trans hx1
  have c4 := b4.ext hx1; have c6 := b6.ext hx1
  clear b4 b4r b4l b6 b6r b6l
  have c4r := c4.rules; have c4l := c4.lt
  cases cb with
  | false => as_aux_lemma =>
    simp only [Bool.false_eq_true, if_false] at hev
    subst hev
    go_wp2_with fail
    refine (HNO.out _ (by repeat (first | with_reducible assumption | with_reducible exact Ext.refl _ | with_reducible refine Ext.drewN ?_ _ | with_reducible refine Ext.drew ?_ | with_reducible refine Ext.alloc ?_ _ | (with_reducible refine Ext.setCell ?_ ?_ _; rotate_left; (first | exact Nat.le_refl _ | (dsimp only; omega) | (simp only [wsz]; omega))) | (with_reducible refine Ext.trans ?_ (by with_reducible assumption))))).mono ?_
    rintro e2 w2 ⟨_, rfl, hA, hx2⟩
    obtain ⟨D1, c1, A1, f1, C1, g1, rfl, -⟩ := hA
    have hE2 : Ext w w2 := (hE1.alloc _).trans hx2
    go_wp2_with fail
    (refine bodyPost_ret (v := ?_) ?_ rfl ?_; rotate_left; (simp only [results, Tryz.results9]; go_simp; (first | done | with_reducible rfl)))
    exact ⟨rfl, (by repeat (first | with_reducible assumption | with_reducible exact Ext.refl _ | with_reducible refine Ext.drewN ?_ _ | with_reducible refine Ext.drew ?_ | with_reducible refine Ext.alloc ?_ _ | (with_reducible refine Ext.setCell ?_ ?_ _; rotate_left; (first | exact Nat.le_refl _ | (dsimp only; omega) | (simp only [wsz]; omega))) | (with_reducible refine Ext.trans ?_ (by with_reducible assumption))))⟩
  | true =>
    simp only [if_true] at hev
    obtain ⟨_, rfl, B, d, rfl, hB⟩ := hev
    go_upto_region 3 with fail
    refine wp_named fun V1 hV1 => ?_
    obtain ⟨g10, hg10⟩ : ∃ g, g = w1.heap.size := ⟨_, rfl⟩
    have b10 : Box V1 g10 24 #[.bool (cz ex).neg, .slice B (cz ex).mag.length d] := by rw [hV1, hg10]; exact Box.new _ _ _
    have hxV : Ext w1 V1 := by rw [hV1]; exact (Ext.refl w1).alloc _
    have hBV := Nl.ext hB hxV
    have d4 := c4.ext hxV; have d6 := c6.ext hxV
    have hEV := hE1.trans hxV
    rw [← hg10]
    clear hV1 hg10 c4 c4r c4l c6 hB hxV hx1 hE hE1
    have d4r := d4.rules; have d4l := d4.lt
    go_wp2_with fail
    refine (HNO.out _ hEV).mono ?_
    rintro e2 w2 ⟨_, rfl, hA, hx2⟩
    have hAv := hA.av
    obtain ⟨D1, c1, A1, f1, C1, g1, rfl, hk1, hD, hP, hK⟩ := hAv
    have hE2 := hEV.trans hx2
    by_cases he0 : e0 = 0
    · subst he0
      go_upto_region 6 with fail
      refine wp_named fun V hV => ?_
      obtain ⟨g12, hg12⟩ : ∃ g, g = w2.heap.size := ⟨_, rfl⟩
      have b12 : Box V g12 29 #[.int .i64 n.kd, .bool n.d.neg, .slice D1 n.d.mag.length c1, .slice A1 n.t.ps.length f1, .bool n.t.k.neg, .slice C1 n.t.k.mag.length g1] := by rw [hV, hg12]; exact Box.new _ _ _
      have hxV : Ext w2 V := by rw [hV]; exact (Ext.refl w2).alloc _
      have hyV := hx2.trans hxV
      have hnV : Av V (V1.heap.size ≤ ·) (.agg #[.int .i64 n.kd, .bool n.d.neg, .slice D1 n.d.mag.length c1, .slice A1 n.t.ps.length f1, .bool n.t.k.neg, .slice C1 n.t.k.mag.length g1]) n := ⟨D1, c1, A1, f1, C1, g1, rfl, hk1, Nl.ext hD hxV, hP.ext hxV, Nl.ext hK hxV⟩
      have b4 := d4.ext hyV; have b6 := d6.ext hyV; have e10 := b10.ext hyV
      have hBV := Nl.ext hBV hyV
      have hE := hEV.trans hyV
      rw [← hg12]
      clear hV hg12 hA hD hP hK hxV hx2 hyV hE2 hEV d4 d4r d4l d6 b10
      have hvW := h3.ext hE
      obtain ⟨ws, hws⟩ : ∃ ws, ws = [(x, cz ex)] ++ vals := ⟨_, rfl⟩
      have hws2 : ws = (x, cz ex) :: vals := hws
      have hws4 : ∀ p ∈ ws, p.2.mag.length ≤ 4 * N := fun p hp => by
        rw [hws2] at hp
        rcases List.mem_cons.1 hp with rfl | hp
        · rw [cz_len]; omega
        · exact Nat.le_trans (s3 p hp) (by omega)
      have Hws := Lib.hid hws; have Hws2 := Lib.hid hws2
      clear hws hws2
      have hOw : Own 3 EP (V.alloc (.cells #[.int .i64 x, .bool (cz ex).neg, .slice B (cz ex).mag.length d] 63)) (fun _ => True) V.heap.size 63 (.slice (some ⟨V.heap.size, 0, none⟩) 1 1) [(x, cz ex)] :=
        own_lit' rfl (Nat.le_refl _) hi (Nl.widen hBV fun b _ hl => ⟨trivial, hl⟩)
      obtain ⟨ys, hf, hfc⟩ := (hvW.widen (Y := fun b => b < V.heap.size) fun b _ hl => hl).flat
      have hf2 : Fl 3 EP (V.alloc (.cells #[.int .i64 x, .bool (cz ex).neg, .slice B (cz ex).mag.length d] 63)) (fun b => True ∧ Value.ownBlock (.slice (some ⟨V.heap.size, 0, none⟩) 1 1) ≠ some b) ys vals :=
        (hf.keep ((Kp.refl V).alloc _)).widen fun b hb _ => ⟨trivial, fun e => by
          have e2 : V.heap.size = b := by injection e
          omega⟩
      have hfc2 : 0 < vals.length → ∃ b o, A0 = some ⟨b, o, none⟩ ∧ ∀ j u, ys[j]? = some u → (V.alloc (.cells #[.int .i64 x, .bool (cz ex).neg, .slice B (cz ex).mag.length d] 63)).cell? ⟨b, o + j, none⟩ = some u := fun h0 => by
        obtain ⟨b, o, hA, hb, hc⟩ := hfc h0
        refine ⟨b, o, hA, fun j u hj => ?_⟩
        rw [World.cell?_alloc_lt _ _ _ hb]
        exact hc j u hj
      have e10r := e10.rules; have e10l := e10.lt
      go_wp2_with (first
        | (at_builtin
           go_loud (refine wpList_app ety_v' (.tmp 43) (.tmp 44) hOw hf2 hfc2 (by simp only [List.length_singleton]; omega) (by simp only [List.length_singleton, maxLen]; omega) (by simp only [wsz]; omega) rfl rfl rfl rfl ?_)
           intro v2 w3 hO2 hg2 hv2
           have hx3 : Ext V w3 := ((Ext.refl V).alloc _).grown hg2 (fun k hk => by
             have e2 : V.heap.size = k := by injection hk
             omega)
           rw [← Hws.out] at hO2
           obtain ⟨A2, c2, rfl, hP2⟩ := Own.sl hO2 (by omega) (X := fun _ => True) (fun _ _ => trivial)
           have f12 := b12.ext hx3
           have f12r := f12.rules
           have f12l := f12.lt
           clear hO2 hg2 hv2)
        | fail)
      obtain ⟨hr, hhr⟩ : ∃ r, r = holdsR n ws := ⟨_, rfl⟩
      have hh := HH1.out w3 _ _ _ A2 c2 ws (hnV.ext hx3) hP2 hws4
      rw [← hhr] at hh
      have hpl := fun (k4 : hr.2 = 0) => HPL.out (cz ex) (by first | rfl | trivial) (by first | rfl | trivial) (cz_v ex) (by rw [← Hws2.out, ← hhr]; exact k4)
      rw [← Hws2.out, ← hhr] at hpl
      have HHH := Lib.hid hh; have HPL2 := Lib.hid hpl
      have h4 := b4.ext hx3; have h6 := b6.ext hx3
      have hE3 := hE.trans hx3
      clear hh hpl hhr hOw hf2 hfc2 hf hfc b12 e10 e10r e10l b4 b6 hnV hws4 HPL
      refine HHH.out.mono ?_
      rintro e3 w4 ⟨rfl, hx4⟩
      have i4 := h4.ext hx4; have i6 := h6.ext hx4
      have hE4 := hE3.trans hx4
      clear h4 h6 f12 f12r f12l HHH
      have i4r := i4.rules; have i4l := i4.lt; have i6r := i6.rules; have i6l := i6.lt
      by_cases hg0 : hr.2 = 0
      · have hpl := HPL2.out hg0
        obtain ⟨want, hwant⟩ : ∃ b, b = hr.1 := ⟨_, rfl⟩
        rw [hg0, ← hwant]
        rw [← hwant] at hpl
        have HPL3 := Lib.hid hpl
        clear hpl hwant hg0 HPL2
        go_wp2_with fail
        refine (HPU.out _ hE4).mono ?_
        rintro e5 w5 ⟨_, rfl, hA5, hx5⟩
        have hAv5 := hA5.av
        obtain ⟨D5, c5, A5, f5, C5, g5, rfl, hk5, hD5, hP5, hK5⟩ := hAv5
        have hE5 := hE4.trans hx5
        go_upto_region 12 with fail
        refine wp_named fun U hU => ?_
        obtain ⟨g17, hg17⟩ : ∃ g, g = w5.heap.size := ⟨_, rfl⟩
        have b17 : Box U g17 29 #[.int .i64 p.kd, .bool p.d.neg, .slice D5 p.d.mag.length c5, .slice A5 p.t.ps.length f5, .bool p.t.k.neg, .slice C5 p.t.k.mag.length g5] := by rw [hU, hg17]; exact Box.new _ _ _
        have hxU : Ext w5 U := by rw [hU]; exact (Ext.refl w5).alloc _
        have hpU : Av U (w4.heap.size ≤ ·) (.agg #[.int .i64 p.kd, .bool p.d.neg, .slice D5 p.d.mag.length c5, .slice A5 p.t.ps.length f5, .bool p.t.k.neg, .slice C5 p.t.k.mag.length g5]) p := ⟨D5, c5, A5, f5, C5, g5, rfl, hk5, Nl.ext hD5 hxU, hP5.ext hxU, Nl.ext hK5 hxU⟩
        have hEU := hE5.trans hxU
        have hh := HH2.out U _ _ hEU hpU
        rw [HPL3.out] at hh
        have HHH := Lib.hid hh
        rw [← hg17]
        clear hU hg17 hh hA5 hD5 hP5 hK5 hxU hx5 hE5 i4 i4r i4l i6 i6r i6l
        have b17r := b17.rules; have b17l := b17.lt
        go_wp2_with fail
        refine HHH.out.mono ?_
        rintro e6 w6 ⟨rfl, hx6⟩
        go_wp2_with fail
        (refine bodyPost_ret (v := ?_) ?_ rfl ?_; rotate_left; (simp only [results, Tryz.results9]; go_simp; (first | done | with_reducible rfl)))
        exact ⟨rfl, hEU.trans hx6⟩
      · have hg2 : (hr.2 == 0) = false := by rw [beq_eq_false_iff_ne]; exact hg0
        have hg3 : (hr.2 != 0) = true := by rw [bne_iff_ne]; exact hg0
        go_wp2_with fail
        (refine bodyPost_ret (v := ?_) ?_ rfl ?_; rotate_left; (simp only [results, Tryz.results9]; go_simp; (first | done | with_reducible rfl)))
        exact ⟨rfl, hE4⟩
    · have he2 : (e0 == 0) = false := by rw [beq_eq_false_iff_ne]; exact he0
      have he3 : (e0 != 0) = true := by rw [bne_iff_ne]; exact he0
      go_wp2_with fail
      (refine bodyPost_ret (v := ?_) ?_ rfl ?_; rotate_left; (simp only [results, Tryz.results9]; go_simp; (first | done | with_reducible rfl)))
      exact ⟨rfl, (by repeat (first | with_reducible assumption | with_reducible exact Ext.refl _ | with_reducible refine Ext.drewN ?_ _ | with_reducible refine Ext.drew ?_ | with_reducible refine Ext.alloc ?_ _ | (with_reducible refine Ext.setCell ?_ ?_ _; rotate_left; (first | exact Nat.le_refl _ | (dsimp only; omega) | (simp only [wsz]; omega))) | (with_reducible refine Ext.trans ?_ (by with_reducible assumption))))⟩

end Go.Proofs.YthmjgbkakjpfkaaGreatDoor
