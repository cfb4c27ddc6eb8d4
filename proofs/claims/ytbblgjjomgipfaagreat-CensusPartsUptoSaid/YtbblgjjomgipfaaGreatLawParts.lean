/- riddlelaw19.CensusParts. No conditions. -/
import Derived.Test.YtbblgjjomgipfaaGreatOpenM
import Derived.Deep.RegionHeld3
import Derived.Test.YtbblgjjomgipfaaGreatRest
import Derived.Test.YtbblgjjomgipfaaGreatList
namespace Go.Proofs.YtbblgjjomgipfaaGreat
open Go.RowKit Go.Shelf

/-- A number in a box, its limbs in a world before. -/
def Bz (w : World) (N : Nat) (V : World) (g : Nat) (z : Z) : Prop := ∃ A c, Box V g 25 #[.bool z.neg, .slice A z.mag.length c] ∧ Nl w (· < w.heap.size) A c z.mag ∧ z.mag.length ≤ N
theorem cnt_zl {s : Ps} {N L : Nat} {lo : Z} {hi : Int} (hs : s.ok N) (h1 : zl lo.v ≤ L) (h2 : zl hi ≤ L) (h3 : 1 ≤ L) : zl (cntV s lo hi) ≤ L + 2 := by
  rw [cnt_nin hs]
  have h := nin_le s lo.v (hi + 1 - lo.v).toNat
  refine Nat.le_trans (zl_abs (y := hi + 1 - lo.v) (by omega)) ?_
  exact zl_sub (k := L + 1) (zl_add h2 (Nat.le_trans (show zl 1 ≤ 1 by decide) h3)) (by omega)
theorem list_at {s : Ps} {lo hi : Int} {m : List Int} (h : (∀ x ∈ m, s.has x = true ∧ lo ≤ x ∧ x ≤ hi) ∧ Ris m) {k : Nat} (hk : k < (m.map cz).length) :
    s.has (zth (m.map cz) k).v = true ∧ lo ≤ (zth (m.map cz) k).v ∧ (zth (m.map cz) k).v ≤ hi ∧ (zth (m.map cz) k).mag.length = zl (zth (m.map cz) k).v := by
  rw [zth_eq _ _ hk, List.getElem_map, cz_v, cz_len]
  obtain ⟨h1, h2, h3⟩ := h.1 _ (List.getElem_mem (l := m) (n := k) (by simpa using hk))
  exact ⟨h1, h2, h3, rfl⟩
theorem list_ris {m : List Int} (h : Ris m) {k : Nat} (hk : k + 1 < (m.map cz).length) : (zth (m.map cz) k).v < (zth (m.map cz) (k + 1)).v := by
  rw [zth_eq _ _ (by omega), zth_eq _ _ hk, List.getElem_map, List.getElem_map, cz_v, cz_v]
  exact h.lt (by rw [List.length_map] at hk; omega) (by simpa using hk) (by omega)
theorem Bz.ext {w V V' : World} {N g : Nat} {z : Z} (h : Bz w N V g z) (k : Ext V V') : Bz w N V' g z := let ⟨A, c, h1, h2, h3⟩ := h; ⟨A, c, h1.ext k, h2, h3⟩

theorem look_keep {W U : World} {g : Nat} {v0 v1 v2 v3 v4 v5 v6 : Value} (hK : Ext W U) (hl : g < W.heap.size) (h : W.cell? ⟨g, 0, none⟩ = some v0 ∧ W.cell? ⟨g, 1, none⟩ = some v1 ∧ W.cell? ⟨g, 2, none⟩ = some v2 ∧ W.cell? ⟨g, 3, none⟩ = some v3 ∧ W.cell? ⟨g, 4, none⟩ = some v4 ∧ W.cell? ⟨g, 5, none⟩ = some v5 ∧ W.cell? ⟨g, 6, none⟩ = some v6) :
    U.cell? ⟨g, 0, none⟩ = some v0 ∧ U.cell? ⟨g, 1, none⟩ = some v1 ∧ U.cell? ⟨g, 2, none⟩ = some v2 ∧ U.cell? ⟨g, 3, none⟩ = some v3 ∧ U.cell? ⟨g, 4, none⟩ = some v4 ∧ U.cell? ⟨g, 5, none⟩ = some v5 ∧ U.cell? ⟨g, 6, none⟩ = some v6 :=
  ⟨(hK.cells.1 _ _ hl).trans h.1, (hK.cells.1 _ _ hl).trans h.2.1, (hK.cells.1 _ _ hl).trans h.2.2.1, (hK.cells.1 _ _ hl).trans h.2.2.2.1, (hK.cells.1 _ _ hl).trans h.2.2.2.2.1, (hK.cells.1 _ _ hl).trans h.2.2.2.2.2.1, (hK.cells.1 _ _ hl).trans h.2.2.2.2.2.2⟩

set_option maxRecDepth 100000 in
set_option maxHeartbeats 20000000 in
theorem lawparts_c {ms : List Mk} {v : Value} {i : Int} {x y z : Z} {w : World} {X Y : Nat → Prop} {A : Option Addr} {c N : Nat} (hm : Ms w X A c ms) (hl : Lv w Y v i x y z) (hN : 2 ≤ N) (hN2 : N ≤ 4294967296) (hsz : ∀ m ∈ ms, m.sz N) (hi : i64 i) (hx : x.mag.length ≤ N) (hy : y.mag.length ≤ N) (hz : z.mag.length ≤ N) :
    Calls Tryz.prog 3 #[.slice A ms.length c, v] w fun e w' => e = .returned (.bool true) ∧ Ext w w' := by
  obtain ⟨Ax, ax, Ay, ay, Az, az, rfl, nx, ny, nz⟩ := hl
  have nx := nx.widen (Y := (· < w.heap.size)) fun b _ h => h
  have ny := ny.widen (Y := (· < w.heap.size)) fun b _ h => h
  have nz := nz.widen (Y := (· < w.heap.size)) fun b _ h => h
  go_enter Tryz.func3, Tryz.ntmps3
  go_upto_region 1 with fail
  refine wp_named fun W hW => ?_
  have b3 : Box W w.heap.size 27 #[.int .i64 i, .bool x.neg, .slice Ax x.mag.length ax, .bool y.neg, .slice Ay y.mag.length ay, .bool z.neg, .slice Az z.mag.length az] := by rw [hW]; exact (by repeat (first | with_reducible assumption | with_reducible exact Box.new _ _ _ | (with_reducible refine Box.new_at _ _ _ ?_; (simp only [wsz]; done)) | with_reducible refine Box.drewN ?_ _ | with_reducible refine Box.drew ?_ | with_reducible refine Box.alloc ?_ _ | with_reducible apply Box.drewN | with_reducible apply Box.drew | with_reducible apply Box.alloc | with_reducible refine Box.set_ ?_ _ _ | (with_reducible refine Box.far ?_ ?_ _; rotate_left; (simp only [ne_eq]; omega)) | (with_reducible refine Box.ext ?_ (by with_reducible assumption)) | (refine Box.new_at _ _ _ ?_; simp only [wsz]; done)))
  have hE : Ext w W := by rw [hW]; exact (by repeat (first | with_reducible assumption | with_reducible exact Ext.refl _ | with_reducible refine Ext.drewN ?_ _ | with_reducible refine Ext.drew ?_ | with_reducible refine Ext.alloc ?_ _ | (with_reducible refine Ext.setCell ?_ ?_ _; rotate_left; (first | exact Nat.le_refl _ | (dsimp only; omega) | (simp only [wsz]; omega))) | (with_reducible refine Ext.trans ?_ (by with_reducible assumption))))
  clear hW
  have b3r := b3.rules; have b3l := b3.lt
  go_cut [5, 6, 7, 8] (fun s5 s6 s7 s8 wx => ∃ g6 g7 g8, s5 = .int .i64 i ∧ s6 = .pointer (some ⟨g6, 0, none⟩) ∧ s7 = .pointer (some ⟨g7, 0, none⟩) ∧ s8 = .pointer (some ⟨g8, 0, none⟩) ∧ Box wx g6 25 #[.bool x.neg, .slice Ax x.mag.length ax] ∧ Box wx g7 25 #[.bool y.neg, .slice Ay y.mag.length ay] ∧ Box wx g8 25 #[.bool z.neg, .slice Az z.mag.length az] ∧ g6 ≠ g7 ∧ g6 ≠ g8 ∧ g7 ≠ g8 ∧ W.heap.size ≤ g6 ∧ W.heap.size ≤ g7 ∧ W.heap.size ≤ g8 ∧ Ext W wx)
  case first => as_aux_lemma =>
    have cs : W.cell? ⟨w.heap.size, 0, none⟩ = some (.int .i64 i) ∧ W.cell? ⟨w.heap.size, 1, none⟩ = some (.bool x.neg) ∧ W.cell? ⟨w.heap.size, 2, none⟩ = some (.slice Ax x.mag.length ax) ∧ W.cell? ⟨w.heap.size, 3, none⟩ = some (.bool y.neg) ∧ W.cell? ⟨w.heap.size, 4, none⟩ = some (.slice Ay y.mag.length ay) ∧ W.cell? ⟨w.heap.size, 5, none⟩ = some (.bool z.neg) ∧ W.cell? ⟨w.heap.size, 6, none⟩ = some (.slice Az z.mag.length az) := by
      refine ⟨?_, ?_, ?_, ?_, ?_, ?_, ?_⟩ <;> (rw [b3.cell]; rfl)
    clear b3r
    go_region_held3 (fun U => U.cell? ⟨w.heap.size, 0, none⟩ = some (.int .i64 i) ∧ U.cell? ⟨w.heap.size, 1, none⟩ = some (.bool x.neg) ∧ U.cell? ⟨w.heap.size, 2, none⟩ = some (.slice Ax x.mag.length ax) ∧ U.cell? ⟨w.heap.size, 3, none⟩ = some (.bool y.neg) ∧ U.cell? ⟨w.heap.size, 4, none⟩ = some (.slice Ay y.mag.length ay) ∧ U.cell? ⟨w.heap.size, 5, none⟩ = some (.bool z.neg) ∧ U.cell? ⟨w.heap.size, 6, none⟩ = some (.slice Az z.mag.length az)) (exact look_keep (W := W) (by repeat (first | with_reducible assumption | with_reducible exact Ext.refl _ | with_reducible refine Ext.drewN ?_ _ | with_reducible refine Ext.drew ?_ | with_reducible refine Ext.alloc ?_ _ | (with_reducible refine Ext.setCell ?_ ?_ _; rotate_left; (first | exact Nat.le_refl _ | (dsimp only; omega) | (simp only [wsz]; omega))) | (with_reducible refine Ext.trans ?_ (by with_reducible assumption)))) b3l cs) (fail)
    all_goals
      go_wp2_with fail
      go_meet
      refine ⟨_, _, _, rfl, rfl, rfl, rfl, ?_, ?_, ?_, by omega, by omega, by omega, by omega, by omega, by omega, (by repeat (first | with_reducible assumption | with_reducible exact Ext.refl _ | with_reducible refine Ext.drewN ?_ _ | with_reducible refine Ext.drew ?_ | with_reducible refine Ext.alloc ?_ _ | (with_reducible refine Ext.setCell ?_ ?_ _; rotate_left; (first | exact Nat.le_refl _ | (dsimp only; omega) | (simp only [wsz]; omega))) | (with_reducible refine Ext.trans ?_ (by with_reducible assumption))))⟩
      all_goals
        refine Box.drew ?_
        first
          | exact Box.new_at _ _ _ (by simp only [wsz])
          | exact (Box.new_at _ _ _ (by simp only [wsz])).alloc _
          | exact ((Box.new _ _ _).alloc _).alloc _
  case rest =>
    obtain ⟨g6, g7, g8, rfl, rfl, rfl, rfl, b6, b7, b8, hne1, hne2, hne3, l6, l7, l8, hWc⟩ := hcut
    have hE1 := hE.trans hWc
    have hsW := hE.size
    clear b3 b3r b3l
    have hst := fun (U : World) (hU : Ext w U) => sets_c (Sl.keep hm (.of_ext hU)) hN hN2 hsz
    go_wp2_with fail
    refine (hst _ hE1).mono ?_
    rintro e w1 ⟨r, rfl, hO, hx1⟩
    have hE2 := hE1.trans hx1
    have c6 := b6.ext hx1; have c7 := b7.ext hx1; have c8 := b8.ext hx1
    have hg6 := b6.lt; have hg7 := b7.lt; have hg8 := b8.lt
    obtain ⟨l, hl⟩ : ∃ l, l = buildF ms := ⟨_, rfl⟩
    rw [← hl] at hO
    obtain ⟨hpos, hl13, hok⟩ := build_ok hm (by omega) hsz
    rw [← hl] at hpos hl13 hok
    clear hl hst
    obtain ⟨AL, cL, rfl, hpy, hlc, hlcm⟩ := Own.ppy hO hpos
    have ik := pickN_lt i hpos
    have hsk := (hok _ (sth_mem ik)).1
    have hp := pick19_c i hi l.length hpos (by omega)
    obtain ⟨kk, hkk⟩ : ∃ kk, kk = pickN i l.length := ⟨_, rfl⟩
    rw [← hkk] at ik hsk hp
    obtain ⟨b, o, rfl, hat⟩ := hpy
    obtain ⟨g, qg, hS⟩ := hat kk ik
    have qgl := World.block_lt_of_cell? _ _ qg
    have kl : (kk : Int) < (l.length : Int) := by omega
    obtain ⟨s, hs⟩ : ∃ s, s = sth l kk := ⟨_, rfl⟩
    rw [← hs] at hsk hS
    clear hat hkk hs hO hok hm
    obtain ⟨n, hn⟩ : ∃ n, n = l.length := ⟨_, rfl⟩
    rw [← hn] at kl hp hlc ⊢
    have hnil := fun (U : World) => Lib.run_eql_slice_nil (P := Tryz.prog) U 28 31 (some ⟨b, o, none⟩) n cL 0 0 Tryz.underlying28
    have hsome : (some (⟨b, o, none⟩ : Addr)).isNone = false := rfl
    clear hn hpos hl13 ik
    go_wp2_with fail
    refine (known_c _).mono ?_
    rintro e w2 ⟨rfl, hx2⟩
    have hx12 : Ext w1 w2 := (by repeat (first | with_reducible assumption | with_reducible exact Ext.refl _ | with_reducible refine Ext.drewN ?_ _ | with_reducible refine Ext.drew ?_ | with_reducible refine Ext.alloc ?_ _ | (with_reducible refine Ext.setCell ?_ ?_ _; rotate_left; (first | exact Nat.le_refl _ | (dsimp only; omega) | (simp only [wsz]; omega))) | (with_reducible refine Ext.trans ?_ (by with_reducible assumption))))
    have q2 := (hx12.cells.1 b _ qgl).trans qg
    have q2l := Nat.lt_of_lt_of_le qgl hx12.size
    go_wp2_with fail
    refine (hp _).mono ?_
    rintro e w3 ⟨rfl, hx3⟩
    have hx13 := hx12.trans hx3
    have q3 := (hx3.cells.1 b _ q2l).trans q2
    have q3l := Nat.lt_of_lt_of_le q2l hx3.size
    have d6 := c6.ext hx13; have d7 := c7.ext hx13; have d8 := c8.ext hx13
    have hE3 := hE2.trans hx13
    have hS3 := (hS.ext hx13).widen (Y := (wc.heap.size ≤ ·)) fun _ h _ => h.1
    clear q2 q2l
    go_upto_region 6 with fail
    refine wp_named fun V0 hV0 => ?_
    obtain ⟨nb, hnb⟩ : ∃ nb, nb = wc.heap.size := ⟨_, rfl⟩
    have z6 : Bz w N V0 g6 x := ⟨Ax, ax, by rw [hV0]; exact d6, nx, hx⟩
    have z7 : Bz w N V0 g7 y := ⟨Ay, ay, by rw [hV0]; exact d7, ny, hy⟩
    have z8 : Bz w N V0 g8 z := ⟨Az, az, by rw [hV0]; exact d8, nz, hz⟩
    have hEV : Ext w V0 := by rw [hV0]; exact hE3
    have hSV : SetV V0 (nb ≤ ·) g s := by rw [hV0, hnb]; exact hS3
    have m6 : w.heap.size ≤ g6 := by omega
    have m7 : w.heap.size ≤ g7 := by omega
    have m8 : w.heap.size ≤ g8 := by omega
    have t6 : g6 < nb := by omega
    have t7 : g7 < nb := by omega
    have t8 : g8 < nb := by omega
    clear hV0 hS3 hS hE3 d6 d7 d8 c6 c7 c8 hg6 hg7 hg8 q3 q3l hp hnil hsome kl qgl qg hlcm hlc nx ny nz hx hy hz hE2 hE1 hE hx13 hx12 hx1 hx2 hx3 l6 l7 l8 b6 b7 b8 hWc hsW hnb hsz
    obtain ⟨A6, a6, h6, n6, l6⟩ := z6
    obtain ⟨A7, a7, h7, n7, l7⟩ := z7
    obtain ⟨A8, a8, h8, n8, l8⟩ := z8
    have hcmp := rcmpz_c (w := V0) (⟨A6, a6, rfl, n6.ext hEV⟩ : Zi V0 (· < w.heap.size) (.agg #[.bool x.neg, .slice A6 x.mag.length a6]) x) (⟨A7, a7, rfl, n7.ext hEV⟩ : Zi V0 (· < w.heap.size) (.agg #[.bool y.neg, .slice A7 y.mag.length a7]) y) (by omega) (by omega)
    have hpos := cmpI_pos (a := x.v) (b := y.v)
    obtain ⟨cm, hcm⟩ : ∃ cm, cm = cmpI x.v y.v := ⟨_, rfl⟩
    rw [← hcm] at hcmp hpos
    clear hcm
    have h6r := h6.rules; have h6l := h6.lt
    have h7r := h7.rules; have h7l := h7.lt
    go_wp2_with fail
    refine hcmp.mono ?_
    rintro e T ⟨rfl, hxT⟩
    have k6 := h6.ext hxT; have k7 := h7.ext hxT; have k8 := h8.ext hxT
    have k6r := k6.rules; have k6l := k6.lt
    have k7r := k7.rules; have k7l := k7.lt
    have hET : Ext w T := hEV.trans hxT
    have hKT : Kp (nb ≤ ·) V0 T := .of_ext hxT
    clear h6r h7r h6l h7l hxT hcmp
    go_upto_if 48 with fail
    go_cut [] (fun wx => ∃ p q, (p = x ∧ q = y ∨ p = y ∧ q = x) ∧ p.v ≤ q.v ∧ Bz w N wx g6 p ∧ Bz w N wx g7 q ∧ Bz w N wx g8 z ∧ Kp (nb ≤ ·) V0 wx ∧ Ext w wx)
    case first => as_aux_lemma =>
      rcases Int.lt_or_le 0 cm with hc | hc
      · have hd : decide (cm > 0) = true := decide_eq_true hc
        go_wp2_with fail
        go_meet
        exact ⟨y, x, .inr ⟨rfl, rfl⟩, by have := hpos.1 hc; omega, ⟨A7, a7, (((k6.set_ 0 _).set_ 1 _).far (by simp only; omega) _).far (by simp only; omega) _, n7, l7⟩, ⟨A6, a6, (((k7.far (by simp only; omega) _).far (by simp only; omega) _).set_ 0 _).set_ 1 _, n6, l6⟩, ⟨A8, a8, (((k8.far (by simp only; omega) _).far (by simp only; omega) _).far (by simp only; omega) _).far (by simp only; omega) _, n8, l8⟩, (((hKT.setCell (by simp only; omega) _).setCell (by simp only; omega) _).setCell (by simp only; omega) _).setCell (by simp only; omega) _, (by repeat (first | with_reducible assumption | with_reducible exact Ext.refl _ | with_reducible refine Ext.drewN ?_ _ | with_reducible refine Ext.drew ?_ | with_reducible refine Ext.alloc ?_ _ | (with_reducible refine Ext.setCell ?_ ?_ _; rotate_left; (first | exact Nat.le_refl _ | (dsimp only; omega) | (simp only [wsz]; omega))) | (with_reducible refine Ext.trans ?_ (by with_reducible assumption))))⟩
      · have hd : decide (cm > 0) = false := decide_eq_false (by omega)
        go_wp2_with fail
        go_meet
        exact ⟨x, y, .inl ⟨rfl, rfl⟩, by have := mt hpos.2 (by omega); omega, ⟨A6, a6, k6, n6, l6⟩, ⟨A7, a7, k7, n7, l7⟩, ⟨A8, a8, k8, n8, l8⟩, hKT, (by repeat (first | with_reducible assumption | with_reducible exact Ext.refl _ | with_reducible refine Ext.drewN ?_ _ | with_reducible refine Ext.drew ?_ | with_reducible refine Ext.alloc ?_ _ | (with_reducible refine Ext.setCell ?_ ?_ _; rotate_left; (first | exact Nat.le_refl _ | (dsimp only; omega) | (simp only [wsz]; omega))) | (with_reducible refine Ext.trans ?_ (by with_reducible assumption))))⟩
    obtain ⟨p1, q1, hpq1, hle1, y6, y7, y8, hK1, hE1V⟩ := hcut
    obtain ⟨V2, rfl⟩ : ∃ V, V = wc := ⟨_, rfl⟩
    have hSV := hSV.keep hK1
    clear hK1 hEV hET hKT k6 k7 k8 k6r k7r k6l k7l h6 h7 h8 n6 n7 n8 l6 l7 l8 hpos
    have z6 := y6; have z7 := y7; have z8 := y8
    clear y6 y7 y8
    obtain ⟨A7, a7, h7, n7, l7⟩ := z7
    obtain ⟨A8, a8, h8, n8, l8⟩ := z8
    obtain ⟨A6, a6, h6, n6, l6⟩ := z6
    have hcmp := rcmpz_c (w := V2) (⟨A7, a7, rfl, n7.ext hE1V⟩ : Zi V2 (· < w.heap.size) (.agg #[.bool q1.neg, .slice A7 q1.mag.length a7]) q1) (⟨A8, a8, rfl, n8.ext hE1V⟩ : Zi V2 (· < w.heap.size) (.agg #[.bool z.neg, .slice A8 z.mag.length a8]) z) (by omega) (by omega)
    have hpos := cmpI_pos (a := q1.v) (b := z.v)
    obtain ⟨cm, hcm⟩ : ∃ cm, cm = cmpI q1.v z.v := ⟨_, rfl⟩
    rw [← hcm] at hcmp hpos
    clear hcm
    have h7r := h7.rules; have h7l := h7.lt
    have h8r := h8.rules; have h8l := h8.lt
    go_wp2_with fail
    refine hcmp.mono ?_
    rintro e T ⟨rfl, hxT⟩
    have k7 := h7.ext hxT; have k8 := h8.ext hxT; have k6 := h6.ext hxT
    have k7r := k7.rules; have k7l := k7.lt
    have k8r := k8.rules; have k8l := k8.lt
    have hET : Ext w T := hE1V.trans hxT
    have hKT : Kp (nb ≤ ·) V2 T := .of_ext hxT
    clear h7r h8r h7l h8l hxT hcmp
    go_upto_if 54 with fail
    go_cut [] (fun wx => ∃ p q, (p = q1 ∧ q = z ∨ p = z ∧ q = q1) ∧ p.v ≤ q.v ∧ Bz w N wx g7 p ∧ Bz w N wx g8 q ∧ Bz w N wx g6 p1 ∧ Kp (nb ≤ ·) V2 wx ∧ Ext w wx)
    case first => as_aux_lemma =>
      rcases Int.lt_or_le 0 cm with hc | hc
      · have hd : decide (cm > 0) = true := decide_eq_true hc
        go_wp2_with fail
        go_meet
        exact ⟨z, q1, .inr ⟨rfl, rfl⟩, by have := hpos.1 hc; omega, ⟨A8, a8, (((k7.set_ 0 _).set_ 1 _).far (by simp only; omega) _).far (by simp only; omega) _, n8, l8⟩, ⟨A7, a7, (((k8.far (by simp only; omega) _).far (by simp only; omega) _).set_ 0 _).set_ 1 _, n7, l7⟩, ⟨A6, a6, (((k6.far (by simp only; omega) _).far (by simp only; omega) _).far (by simp only; omega) _).far (by simp only; omega) _, n6, l6⟩, (((hKT.setCell (by simp only; omega) _).setCell (by simp only; omega) _).setCell (by simp only; omega) _).setCell (by simp only; omega) _, (by repeat (first | with_reducible assumption | with_reducible exact Ext.refl _ | with_reducible refine Ext.drewN ?_ _ | with_reducible refine Ext.drew ?_ | with_reducible refine Ext.alloc ?_ _ | (with_reducible refine Ext.setCell ?_ ?_ _; rotate_left; (first | exact Nat.le_refl _ | (dsimp only; omega) | (simp only [wsz]; omega))) | (with_reducible refine Ext.trans ?_ (by with_reducible assumption))))⟩
      · have hd : decide (cm > 0) = false := decide_eq_false (by omega)
        go_wp2_with fail
        go_meet
        exact ⟨q1, z, .inl ⟨rfl, rfl⟩, by have := mt hpos.2 (by omega); omega, ⟨A7, a7, k7, n7, l7⟩, ⟨A8, a8, k8, n8, l8⟩, ⟨A6, a6, k6, n6, l6⟩, hKT, (by repeat (first | with_reducible assumption | with_reducible exact Ext.refl _ | with_reducible refine Ext.drewN ?_ _ | with_reducible refine Ext.drew ?_ | with_reducible refine Ext.alloc ?_ _ | (with_reducible refine Ext.setCell ?_ ?_ _; rotate_left; (first | exact Nat.le_refl _ | (dsimp only; omega) | (simp only [wsz]; omega))) | (with_reducible refine Ext.trans ?_ (by with_reducible assumption))))⟩
    obtain ⟨q2, c2, hpq2, hle2, y7, y8, y6, hK2, hE2V⟩ := hcut
    obtain ⟨V3, rfl⟩ : ∃ V, V = wc := ⟨_, rfl⟩
    have hSV := hSV.keep hK2
    clear hK2 hE1V hET hKT k6 k7 k8 k7r k8r k7l k8l h6 h7 h8 n6 n7 n8 l6 l7 l8 hpos
    have z6 := y6; have z7 := y7; have z8 := y8
    clear y6 y7 y8
    obtain ⟨A6, a6, h6, n6, l6⟩ := z6
    obtain ⟨A7, a7, h7, n7, l7⟩ := z7
    obtain ⟨A8, a8, h8, n8, l8⟩ := z8
    have hcmp := rcmpz_c (w := V3) (⟨A6, a6, rfl, n6.ext hE2V⟩ : Zi V3 (· < w.heap.size) (.agg #[.bool p1.neg, .slice A6 p1.mag.length a6]) p1) (⟨A7, a7, rfl, n7.ext hE2V⟩ : Zi V3 (· < w.heap.size) (.agg #[.bool q2.neg, .slice A7 q2.mag.length a7]) q2) (by omega) (by omega)
    have hpos := cmpI_pos (a := p1.v) (b := q2.v)
    obtain ⟨cm, hcm⟩ : ∃ cm, cm = cmpI p1.v q2.v := ⟨_, rfl⟩
    rw [← hcm] at hcmp hpos
    clear hcm
    have h6r := h6.rules; have h6l := h6.lt
    have h7r := h7.rules; have h7l := h7.lt
    go_wp2_with fail
    refine hcmp.mono ?_
    rintro e T ⟨rfl, hxT⟩
    have k6 := h6.ext hxT; have k7 := h7.ext hxT; have k8 := h8.ext hxT
    have k6r := k6.rules; have k6l := k6.lt
    have k7r := k7.rules; have k7l := k7.lt
    have hET : Ext w T := hE2V.trans hxT
    have hKT : Kp (nb ≤ ·) V3 T := .of_ext hxT
    clear h6r h7r h6l h7l hxT hcmp
    go_upto_if 60 with fail
    go_cut [] (fun wx => ∃ p q, (p = p1 ∧ q = q2 ∨ p = q2 ∧ q = p1) ∧ p.v ≤ q.v ∧ Bz w N wx g6 p ∧ Bz w N wx g7 q ∧ Bz w N wx g8 c2 ∧ Kp (nb ≤ ·) V3 wx ∧ Ext w wx)
    case first => as_aux_lemma =>
      rcases Int.lt_or_le 0 cm with hc | hc
      · have hd : decide (cm > 0) = true := decide_eq_true hc
        go_wp2_with fail
        go_meet
        exact ⟨q2, p1, .inr ⟨rfl, rfl⟩, by have := hpos.1 hc; omega, ⟨A7, a7, (((k6.set_ 0 _).set_ 1 _).far (by simp only; omega) _).far (by simp only; omega) _, n7, l7⟩, ⟨A6, a6, (((k7.far (by simp only; omega) _).far (by simp only; omega) _).set_ 0 _).set_ 1 _, n6, l6⟩, ⟨A8, a8, (((k8.far (by simp only; omega) _).far (by simp only; omega) _).far (by simp only; omega) _).far (by simp only; omega) _, n8, l8⟩, (((hKT.setCell (by simp only; omega) _).setCell (by simp only; omega) _).setCell (by simp only; omega) _).setCell (by simp only; omega) _, (by repeat (first | with_reducible assumption | with_reducible exact Ext.refl _ | with_reducible refine Ext.drewN ?_ _ | with_reducible refine Ext.drew ?_ | with_reducible refine Ext.alloc ?_ _ | (with_reducible refine Ext.setCell ?_ ?_ _; rotate_left; (first | exact Nat.le_refl _ | (dsimp only; omega) | (simp only [wsz]; omega))) | (with_reducible refine Ext.trans ?_ (by with_reducible assumption))))⟩
      · have hd : decide (cm > 0) = false := decide_eq_false (by omega)
        go_wp2_with fail
        go_meet
        exact ⟨p1, q2, .inl ⟨rfl, rfl⟩, by have := mt hpos.2 (by omega); omega, ⟨A6, a6, k6, n6, l6⟩, ⟨A7, a7, k7, n7, l7⟩, ⟨A8, a8, k8, n8, l8⟩, hKT, (by repeat (first | with_reducible assumption | with_reducible exact Ext.refl _ | with_reducible refine Ext.drewN ?_ _ | with_reducible refine Ext.drew ?_ | with_reducible refine Ext.alloc ?_ _ | (with_reducible refine Ext.setCell ?_ ?_ _; rotate_left; (first | exact Nat.le_refl _ | (dsimp only; omega) | (simp only [wsz]; omega))) | (with_reducible refine Ext.trans ?_ (by with_reducible assumption))))⟩
    obtain ⟨p3, q3, hpq3, hle3, y6, y7, y8, hK3, hE3V⟩ := hcut
    obtain ⟨V4, rfl⟩ : ∃ V, V = wc := ⟨_, rfl⟩
    have hSV := hSV.keep hK3
    clear hK3 hE2V hET hKT k6 k7 k8 k6r k7r k6l k7l h6 h7 h8 n6 n7 n8 l6 l7 l8 hpos
    have z6 := y6; have z7 := y7; have z8 := y8
    clear y6 y7 y8
    have hab : p3.v ≤ q3.v := hle3
    have hbc : q3.v ≤ c2.v := by
      rcases hpq2 with ⟨rfl, rfl⟩ | ⟨rfl, rfl⟩ <;> rcases hpq3 with ⟨rfl, rfl⟩ | ⟨rfl, rfl⟩ <;> omega
    clear hle1 hle2 hle3 hpq1 hpq2 hpq3
    obtain ⟨A6, a6, h6, n6, l6⟩ := z6
    obtain ⟨A7, a7, h7, n7, l7⟩ := z7
    obtain ⟨A8, a8, h8, n8, l8⟩ := z8
    have hE0 := hE3V
    clear hE3V
    have zp := Nat.le_trans (zl_of n6.lt) l6
    have zq := Nat.le_trans (zl_of n7.lt) l7
    have zc := Nat.le_trans (zl_of n8.lt) l8
    obtain ⟨z1, hz1⟩ : ∃ z, z = cz 1 := ⟨_, rfl⟩
    have z1v : z1.v = 1 := by rw [hz1, cz_v]
    have z1l : z1.mag.length ≤ 1 := by rw [hz1, cz_len]; decide
    obtain ⟨zs, hzs⟩ : ∃ z, z = cz (q3.v + z1.v) := ⟨_, rfl⟩
    have zsv : zs.v = q3.v + 1 := by rw [hzs, cz_v, z1v]
    have zsl : zs.mag.length ≤ N + 5 := by
      rw [hzs, cz_len, z1v]
      have := zl_add (k := N) zq (show zl 1 ≤ N from Nat.le_trans (show zl 1 ≤ 1 by decide) (by omega))
      omega
    obtain ⟨ca, hca⟩ : ∃ z, z = cz (cntV s p3 q3.v) := ⟨_, rfl⟩
    obtain ⟨cb, hcb⟩ : ∃ z, z = cz (cntV s zs c2.v) := ⟨_, rfl⟩
    obtain ⟨cc, hcc⟩ : ∃ z, z = cz (cntV s p3 c2.v) := ⟨_, rfl⟩
    obtain ⟨cw, hcw⟩ : ∃ z, z = cz (cntV (restP s) p3 c2.v) := ⟨_, rfl⟩
    have hro := rest_ok hsk
    have hnum := fun (k : Int) (h1 : -9223372036854775808 ≤ k) (h2 : k ≤ 9223372036854775807) (U : World) => lnum_c k h1 h2 U
    have hn1 := hnum 1 (by omega) (by omega)
    rw [← hz1] at hn1
    have i6 := fun (U : World) (hU : Ext V4 U) => (⟨A6, a6, rfl, n6.ext (hE0.trans hU)⟩ : Zi U (· < w.heap.size) (.agg #[.bool p3.neg, .slice A6 p3.mag.length a6]) p3)
    have i7 := fun (U : World) (hU : Ext V4 U) => (⟨A7, a7, rfl, n7.ext (hE0.trans hU)⟩ : Zi U (· < w.heap.size) (.agg #[.bool q3.neg, .slice A7 q3.mag.length a7]) q3)
    have i8 := fun (U : World) (hU : Ext V4 U) => (⟨A8, a8, rfl, n8.ext (hE0.trans hU)⟩ : Zi U (· < w.heap.size) (.agg #[.bool c2.neg, .slice A8 c2.mag.length a8]) c2)
    have hcab := fun (U : World) (hU : Ext V4 U) => count_c (hSV.ext hU) hsk (L := N + 5) (by omega) (by omega) (i6 U hU) (i7 U hU) (by omega) (by omega)
    have hcac := fun (U : World) (hU : Ext V4 U) => count_c (hSV.ext hU) hsk (L := N + 5) (by omega) (by omega) (i6 U hU) (i8 U hU) (by omega) (by omega)
    have hcbc := fun (U : World) (hU : Ext V4 U) (r : Value) (Q : Nat → Prop) (hr : Zi U Q r zs) => count_c (hSV.ext hU) hsk (L := N + 5) (by omega) (by omega) hr (i8 U hU) zsl (by omega)
    have hcrw := fun (U : World) (hU : Ext V4 U) (r : Nat) (Q : Nat → Prop) (hr : SetV U Q r (restP s)) => count_c hr hro (L := N + 5) (by omega) (by omega) (i6 U hU) (i8 U hU) (by omega) (by omega)
    have hrst := fun (U : World) (hU : Ext V4 U) => rest_c (hSV.ext hU) hsk
    have hlst := fun (U : World) (hU : Ext V4 U) => list_c (hSV.ext hU) hsk (L := N + 5) (by omega) (by omega) (i6 U hU) (i8 U hU) (by omega) (by omega)
    simp only [← hca] at hcab
    simp only [← hcc] at hcac
    simp only [← hcb] at hcbc
    simp only [← hcw] at hcrw
    have hadd1 := fun (U : World) (hU : Ext V4 U) (r : Value) (Q : Nat → Prop) (hr : Zi U Q r z1) => raddz_c (i7 U hU) hr (by omega) (by omega)
    simp only [← hzs] at hadd1
    have HCA := Lib.hid hca; have HCB := Lib.hid hcb; have HCC := Lib.hid hcc; have HCW := Lib.hid hcw; have HZ1 := Lib.hid z1v; have HZS := Lib.hid zsv; have HN1 := Lib.hid hn1; have HNum := Lib.hid hnum
    have HAB := Lib.hid hcab; have HAC := Lib.hid hcac; have HBC := Lib.hid hcbc; have HRW := Lib.hid hcrw; have HRS := Lib.hid hrst; have HLS := Lib.hid hlst; have HAd1 := Lib.hid hadd1
    have H6 := Lib.hid i6; have H8 := Lib.hid i8
    clear hca hcb hcc hcw z1v zsv hn1 hnum hcab hcac hcbc hcrw hrst hlst hadd1 hz1 hzs i6 i7 i8
    have h6r := h6.rules; have h6l := h6.lt
    have h7r := h7.rules; have h7l := h7.lt
    have h8r := h8.rules; have h8l := h8.lt
    go_wp2_with fail
    refine (HN1.out _).mono ?_
    rintro e w4 ⟨_, rfl, ⟨A11, a11, rfl, n11⟩, hx4⟩
    clear h6r h7r h8r h6l h7l h8l
    go_upto_region 13 with fail
    refine wp_named fun V5 hV5 => ?_
    have j11 : Box V5 w4.heap.size 25 #[.bool z1.neg, .slice A11 z1.mag.length a11] := by rw [hV5]; exact (by repeat (first | with_reducible assumption | with_reducible exact Box.new _ _ _ | (with_reducible refine Box.new_at _ _ _ ?_; (simp only [wsz]; done)) | with_reducible refine Box.drewN ?_ _ | with_reducible refine Box.drew ?_ | with_reducible refine Box.alloc ?_ _ | with_reducible apply Box.drewN | with_reducible apply Box.drew | with_reducible apply Box.alloc | with_reducible refine Box.set_ ?_ _ _ | (with_reducible refine Box.far ?_ ?_ _; rotate_left; (simp only [ne_eq]; omega)) | (with_reducible refine Box.ext ?_ (by with_reducible assumption)) | (refine Box.new_at _ _ _ ?_; simp only [wsz]; done)))
    have hE5 : Ext V4 V5 := by rw [hV5]; exact (by repeat (first | with_reducible assumption | with_reducible exact Ext.refl _ | with_reducible refine Ext.drewN ?_ _ | with_reducible refine Ext.drew ?_ | with_reducible refine Ext.alloc ?_ _ | (with_reducible refine Ext.setCell ?_ ?_ _; rotate_left; (first | exact Nat.le_refl _ | (dsimp only; omega) | (simp only [wsz]; omega))) | (with_reducible refine Ext.trans ?_ (by with_reducible assumption))))
    have n11 := n11.ext (w' := V5) (by rw [hV5]; exact (Ext.refl w4).alloc _)
    clear hV5 hx4
    have j6 := h6.ext hE5; have j7 := h7.ext hE5; have j8 := h8.ext hE5
    have j6r := j6.rules; have j6l := j6.lt
    have j7r := j7.rules; have j7l := j7.lt
    go_wp2_with fail
    refine (HAB.out _ hE5).mono ?_
    rintro e w5 ⟨_, rfl, ⟨A12, a12, rfl, n12⟩, hx5⟩
    clear j6r j7r j6l j7l
    go_upto_region 14 with fail
    refine wp_named fun V6 hV6 => ?_
    have k12 : Box V6 w5.heap.size 25 #[.bool ca.neg, .slice A12 ca.mag.length a12] := by rw [hV6]; exact (by repeat (first | with_reducible assumption | with_reducible exact Box.new _ _ _ | (with_reducible refine Box.new_at _ _ _ ?_; (simp only [wsz]; done)) | with_reducible refine Box.drewN ?_ _ | with_reducible refine Box.drew ?_ | with_reducible refine Box.alloc ?_ _ | with_reducible apply Box.drewN | with_reducible apply Box.drew | with_reducible apply Box.alloc | with_reducible refine Box.set_ ?_ _ _ | (with_reducible refine Box.far ?_ ?_ _; rotate_left; (simp only [ne_eq]; omega)) | (with_reducible refine Box.ext ?_ (by with_reducible assumption)) | (refine Box.new_at _ _ _ ?_; simp only [wsz]; done)))
    have hx6 : Ext V5 V6 := by rw [hV6]; exact (by repeat (first | with_reducible assumption | with_reducible exact Ext.refl _ | with_reducible refine Ext.drewN ?_ _ | with_reducible refine Ext.drew ?_ | with_reducible refine Ext.alloc ?_ _ | (with_reducible refine Ext.setCell ?_ ?_ _; rotate_left; (first | exact Nat.le_refl _ | (dsimp only; omega) | (simp only [wsz]; omega))) | (with_reducible refine Ext.trans ?_ (by with_reducible assumption))))
    have n12 := n12.ext (w' := V6) (by rw [hV6]; exact (Ext.refl w5).alloc _)
    clear hV6 hx5
    have n11 := n11.ext hx6; have k11 := j11.ext hx6
    have hE6 := hE5.trans hx6
    have k6 := j6.ext hx6; have k7 := j7.ext hx6; have k8 := j8.ext hx6
    have k7l := k7.lt; have k8l := k8.lt; have k11l := k11.lt
    clear j6 j7 j8 j11 hx6 hE5
    refine wp_region_free [(0, 72, []), (1, 73, []), (2, 74, []), (3, 75, [(1, 73), (2, 74)]), (4, 76, []), (5, 77, [(0, 72), (3, 75), (4, 76)]), (6, 71, [(5, 77)]), (7, 78, [(6, 71)]), (8, 79, [(6, 71)]), (9, 14, [])] [10, 11] [72, 73, 74, 75, 76, 77, 71, 78, 79, 14] [9] [8] [phiEq (.pointer (some ⟨g, 0, none⟩)), phiEq (.agg #[.bool q3.neg, .slice A7 q3.mag.length a7]), phiEq (.agg #[.bool z1.neg, .slice A11 z1.mag.length a11]), phiZ (fun _ => True) zs, phiEq (.agg #[.bool c2.neg, .slice A8 c2.mag.length a8]), phiC cb, phiC cb, phiZ (fun _ => True) cb, phiEq (.int .i64 0), phiBox V6.heap.size 25 #[.bool false, .slice none 0 0]] rfl (by kernel_rfl) (by intro _ _ d _ _ h; cases d <;> exact h) (by kernel_rfl) (by kernel_rfl) ?_ ?_
    · have q0 : V6.cell? ⟨g7, 0, none⟩ = some (.bool q3.neg) := by rw [k7.cell]; rfl
      have q1 : V6.cell? ⟨g7, 1, none⟩ = some (.slice A7 q3.mag.length a7) := by rw [k7.cell]; rfl
      have q2 : V6.cell? ⟨w4.heap.size, 0, none⟩ = some (.bool z1.neg) := by rw [k11.cell]; rfl
      have q3' : V6.cell? ⟨w4.heap.size, 1, none⟩ = some (.slice A11 z1.mag.length a11) := by rw [k11.cell]; rfl
      have q4 : V6.cell? ⟨g8, 0, none⟩ = some (.bool c2.neg) := by rw [k8.cell]; rfl
      have q5 : V6.cell? ⟨g8, 1, none⟩ = some (.slice A8 c2.mag.length a8) := by rw [k8.cell]; rfl
      (refine ps_eq rfl rfl rfl rfl rfl rfl ?_ ?_; focus (intro f w1 hx hd; have hc' := hx.cells.1; (try simp only [wcd] at hc'); (dsimp only [PhiDeps, phiAt, phiEq, phiZ, phiAny, phiBox] at hd); (simp only [fillA]; (try simp only [Act.put, List.setIfInBounds_toArray, List.set_cons_zero, List.set_cons_succ])); (try simp only [hd]); go_simp; (first | done | with_reducible rfl)))
      (refine ps_eq rfl rfl rfl rfl rfl rfl ?_ ?_; focus (intro f w1 hx hd; have hc' := hx.cells.1; (try simp only [wcd] at hc'); have z0 := (hc' _ 0 k7l).trans q0; have z1 := (hc' _ 1 k7l).trans q1; clear hc'; (dsimp only [PhiDeps, phiAt, phiEq, phiZ, phiAny, phiBox] at hd); (simp only [fillA]; (try simp only [Act.put, List.setIfInBounds_toArray, List.set_cons_zero, List.set_cons_succ])); (try simp only [hd]); go_simp; (first | done | with_reducible rfl)))
      (refine ps_eq rfl rfl rfl rfl rfl rfl ?_ ?_; focus (intro f w1 hx hd; have hc' := hx.cells.1; (try simp only [wcd] at hc'); have z0 := (hc' _ 0 k11l).trans q2; have z1 := (hc' _ 1 k11l).trans q3'; clear hc'; (dsimp only [PhiDeps, phiAt, phiEq, phiZ, phiAny, phiBox] at hd); (simp only [fillA]; (try simp only [Act.put, List.setIfInBounds_toArray, List.set_cons_zero, List.set_cons_succ])); (try simp only [hd]); go_simp; (first | done | with_reducible rfl)))
      (refine ps_loud rfl rfl rfl rfl rfl (fun f w1 hx hd K hK => ?_) ?_)
      · (have hc' := hx.cells.1; (try simp only [wcd] at hc'); (dsimp only [PhiDeps, phiAt, phiEq, phiZ, phiAny, phiBox] at hd); simp only [fillA, Act.put, List.setIfInBounds_toArray, List.set_cons_zero, List.set_cons_succ] at hK; (simp only [fillA]; (try simp only [Act.put, List.setIfInBounds_toArray, List.set_cons_zero, List.set_cons_succ])); (try simp only [hd] at hK ⊢); go_simp)
        refine (HAd1.out _ (hE6.trans (by repeat (first | with_reducible assumption | with_reducible exact Ext.refl _ | with_reducible refine Ext.drewN ?_ _ | with_reducible refine Ext.drew ?_ | with_reducible refine Ext.alloc ?_ _ | (with_reducible refine Ext.setCell ?_ ?_ _; rotate_left; (first | exact Nat.le_refl _ | (dsimp only; omega) | (simp only [wsz]; omega))) | (with_reducible refine Ext.trans ?_ (by with_reducible assumption))))) _ _ (⟨A11, a11, rfl, n11.ext (by repeat (first | with_reducible assumption | with_reducible exact Ext.refl _ | with_reducible refine Ext.drewN ?_ _ | with_reducible refine Ext.drew ?_ | with_reducible refine Ext.alloc ?_ _ | (with_reducible refine Ext.setCell ?_ ?_ _; rotate_left; (first | exact Nat.le_refl _ | (dsimp only; omega) | (simp only [wsz]; omega))) | (with_reducible refine Ext.trans ?_ (by with_reducible assumption))))⟩ : Zi _ _ (.agg #[.bool z1.neg, .slice A11 z1.mag.length a11]) z1)).mono ?_
        rintro e w6 ⟨r, rfl, hr, hx6⟩
        (refine hK _ _ (by repeat (first | with_reducible assumption | with_reducible exact Ext.refl _ | with_reducible refine Ext.drewN ?_ _ | with_reducible refine Ext.drew ?_ | with_reducible refine Ext.alloc ?_ _ | (with_reducible refine Ext.setCell ?_ ?_ _; rotate_left; (first | exact Nat.le_refl _ | (dsimp only; omega) | (simp only [wsz]; omega))) | (with_reducible refine Ext.trans ?_ (by with_reducible assumption)))) ?_; dsimp only [phiAt, phiEq, phiZ, phiAny, phiBox])
        exact hr.widen fun _ _ _ => trivial
      (refine ps_eq rfl rfl rfl rfl rfl rfl ?_ ?_; focus (intro f w1 hx hd; have hc' := hx.cells.1; (try simp only [wcd] at hc'); have z0 := (hc' _ 0 k8l).trans q4; have z1 := (hc' _ 1 k8l).trans q5; clear hc'; (dsimp only [PhiDeps, phiAt, phiEq, phiZ, phiAny, phiBox] at hd); (simp only [fillA]; (try simp only [Act.put, List.setIfInBounds_toArray, List.set_cons_zero, List.set_cons_succ])); (try simp only [hd]); go_simp; (first | done | with_reducible rfl)))
      (refine ps_loud rfl rfl rfl rfl rfl (fun f w1 hx hd K hK => ?_) ?_)
      · (have hc' := hx.cells.1; (try simp only [wcd] at hc'); (dsimp only [PhiDeps, phiAt, phiEq, phiZ, phiAny, phiBox] at hd); simp only [fillA, Act.put, List.setIfInBounds_toArray, List.set_cons_zero, List.set_cons_succ] at hK; (simp only [fillA]; (try simp only [Act.put, List.setIfInBounds_toArray, List.set_cons_zero, List.set_cons_succ])); (try simp only [hd] at hK ⊢); go_simp)
        refine (HBC.out _ (hE6.trans (by repeat (first | with_reducible assumption | with_reducible exact Ext.refl _ | with_reducible refine Ext.drewN ?_ _ | with_reducible refine Ext.drew ?_ | with_reducible refine Ext.alloc ?_ _ | (with_reducible refine Ext.setCell ?_ ?_ _; rotate_left; (first | exact Nat.le_refl _ | (dsimp only; omega) | (simp only [wsz]; omega))) | (with_reducible refine Ext.trans ?_ (by with_reducible assumption))))) _ _ hd.2.1).mono ?_
        rintro e w6 ⟨r, rfl, hr, hx6⟩
        (refine hK _ _ (by repeat (first | with_reducible assumption | with_reducible exact Ext.refl _ | with_reducible refine Ext.drewN ?_ _ | with_reducible refine Ext.drew ?_ | with_reducible refine Ext.alloc ?_ _ | (with_reducible refine Ext.setCell ?_ ?_ _; rotate_left; (first | exact Nat.le_refl _ | (dsimp only; omega) | (simp only [wsz]; omega))) | (with_reducible refine Ext.trans ?_ (by with_reducible assumption)))) ?_; dsimp only [phiAt, phiEq, phiZ, phiAny, phiBox])
        exact ⟨r, rfl, hr.widen fun _ _ _ => trivial⟩
      refine ps_take rfl rfl rfl rfl rfl ?_ ?_
      · intro f w1 hx hd
        (dsimp only [PhiDeps, phiAt, phiEq, phiZ, phiAny, phiBox] at hd)
        obtain ⟨⟨r, e, h1⟩, -⟩ := hd
        refine ⟨_, ?_, r, e, h1⟩
        (simp only [fillA]; (try simp only [Act.put, List.setIfInBounds_toArray, List.set_cons_zero, List.set_cons_succ]))
        go_simp
      refine ps_take rfl rfl rfl rfl rfl ?_ ?_
      · intro f w1 hx hd
        (dsimp only [PhiDeps, phiAt, phiEq, phiZ, phiAny, phiBox] at hd)
        obtain ⟨⟨r, e, h1⟩, -⟩ := hd
        refine ⟨r, ?_, h1⟩
        (simp only [fillA]; (try simp only [Act.put, List.setIfInBounds_toArray, List.set_cons_zero, List.set_cons_succ]))
        simp only [e]
        go_simp
      refine ps_peq rfl rfl rfl rfl rfl ?_ ?_
      · intro f w1 hx hd w'
        (dsimp only [PhiDeps, phiAt, phiEq, phiZ, phiAny, phiBox] at hd)
        obtain ⟨⟨r, e, h1⟩, -⟩ := hd
        (simp only [fillA]; (try simp only [Act.put, List.setIfInBounds_toArray, List.set_cons_zero, List.set_cons_succ]))
        simp only [e]
        go_simp
      (refine ps_alloc rfl rfl rfl rfl rfl ?_ (by repeat (first | exact ab_nil | refine ab_cons rfl ?_)) ?_ ?_; (focus (first | omega | (simp only [wsz]; done) | (simp only [wsz]; omega))); (focus (intro f w1; (simp only [fillA]; (try simp only [Act.put, List.setIfInBounds_toArray, List.set_cons_zero, List.set_cons_succ])); go_simp; try (with_reducible rfl))))
      exact ps_nil
    intro f T2 hx2 hall hne9
    (dsimp only [PhiAll, phiAt, phiEq, phiZ, phiAny, phiBox] at hall)
    obtain ⟨f72, f73, f74, -, f76, -, -, ⟨A14, a14, f78, n14⟩, f79, ⟨g14, f14, l14, x14⟩, -⟩ := hall
    clear hne9
    (simp only [fillA]; (try simp only [Act.put, List.setIfInBounds_toArray, List.set_cons_zero, List.set_cons_succ]))
    simp only [f72, f73, f74, f76, f78, f79, f14]
    have x14r := x14.rules; have x14l := x14.lt
    have hx2' : Ext V6 T2 := (Ext.refl V6).drew.trans hx2
    (refine sh_late rfl rfl fun K hK => ?_; go_simp; refine hK _ _ ?_; clear hK K)
    (refine sh_late rfl rfl fun K hK => ?_; go_simp; refine hK _ _ ?_; clear hK K)
    refine sh_end ?_
    refine x_named fun V7 hV7 => ?_
    have k14 : Box V7 g14 25 #[.bool cb.neg, .slice A14 cb.mag.length a14] := by rw [hV7]; exact (x14.set_ 0 _).set_ 1 _
    have hx7 : Ext V6 V7 := by rw [hV7]; exact (hx2'.setCell (by simp only; omega) _).setCell (by simp only; omega) _
    have n14 : Nl V7 (fun _ => True) A14 a14 cb.mag := by
      rw [hV7]
      refine (Nl.keep (n14.off x14 (by simp)) ?_).widen fun _ _ _ => trivial
      exact (((Kp.refl T2).setCell (fun h => h.2 rfl) _).setCell (fun h => h.2 rfl) _)
    clear hV7 x14r x14l x14 hx2 hx2'
    have hE7 := hE6.trans hx7
    have n11 := n11.ext hx7; have n12 := n12.ext hx7
    have u6 := k6.ext hx7; have u8 := k8.ext hx7; have u11 := k11.ext hx7; have u12 := k12.ext hx7
    have u6r := u6.rules; have u6l := u6.lt
    have u8r := u8.rules; have u8l := u8.lt
    clear k6 k7 k8 k11 k12 k7l k8l k11l hx7 hE6
    go_upto_region 15 with fail
    go_wp2_with fail
    refine (HAC.out _ (hE7.trans (by repeat (first | with_reducible assumption | with_reducible exact Ext.refl _ | with_reducible refine Ext.drewN ?_ _ | with_reducible refine Ext.drew ?_ | with_reducible refine Ext.alloc ?_ _ | (with_reducible refine Ext.setCell ?_ ?_ _; rotate_left; (first | exact Nat.le_refl _ | (dsimp only; omega) | (simp only [wsz]; omega))) | (with_reducible refine Ext.trans ?_ (by with_reducible assumption)))))).mono ?_
    rintro e w7 ⟨_, rfl, ⟨A16, a16, rfl, n16⟩, hx8⟩
    clear u6r u8r u6l u8l
    go_upto_region 16 with fail
    refine wp_named fun V8 hV8 => ?_
    have v16 : Box V8 w7.heap.size 25 #[.bool cc.neg, .slice A16 cc.mag.length a16] := by rw [hV8]; exact (by repeat (first | with_reducible assumption | with_reducible exact Box.new _ _ _ | (with_reducible refine Box.new_at _ _ _ ?_; (simp only [wsz]; done)) | with_reducible refine Box.drewN ?_ _ | with_reducible refine Box.drew ?_ | with_reducible refine Box.alloc ?_ _ | with_reducible apply Box.drewN | with_reducible apply Box.drew | with_reducible apply Box.alloc | with_reducible refine Box.set_ ?_ _ _ | (with_reducible refine Box.far ?_ ?_ _; rotate_left; (simp only [ne_eq]; omega)) | (with_reducible refine Box.ext ?_ (by with_reducible assumption)) | (refine Box.new_at _ _ _ ?_; simp only [wsz]; done)))
    have hx8 : Ext V7 V8 := by rw [hV8]; exact (by repeat (first | with_reducible assumption | with_reducible exact Ext.refl _ | with_reducible refine Ext.drewN ?_ _ | with_reducible refine Ext.drew ?_ | with_reducible refine Ext.alloc ?_ _ | (with_reducible refine Ext.setCell ?_ ?_ _; rotate_left; (first | exact Nat.le_refl _ | (dsimp only; omega) | (simp only [wsz]; omega))) | (with_reducible refine Ext.trans ?_ (by with_reducible assumption))))
    have n16 := n16.ext (w' := V8) (by rw [hV8]; exact (Ext.refl w7).alloc _)
    clear hV8
    have hE8 := hE7.trans hx8
    have n11 := n11.ext hx8; have n12 := n12.ext hx8; have n14 := n14.ext hx8
    have v6 := u6.ext hx8; have v8 := u8.ext hx8; have v11 := u11.ext hx8; have v12 := u12.ext hx8; have v14 := k14.ext hx8
    clear u6 u8 u11 u12 k14 hx8 hE7
    go_wp2_with fail
    refine (HRS.out _ hE8).mono ?_
    rintro e V9 ⟨r18, rfl, hS18, hx9⟩
    have hE9 := hE8.trans hx9
    have n11 := n11.ext hx9; have n12 := n12.ext hx9; have n14 := n14.ext hx9; have n16 := n16.ext hx9
    have t6 := v6.ext hx9; have t8 := v8.ext hx9; have t11 := v11.ext hx9; have t12 := v12.ext hx9; have t14 := v14.ext hx9; have t16 := v16.ext hx9
    clear v6 v8 v11 v12 v14 v16 hx9 hE8
    go_upto_region 17 with fail
    have hsum : cz (ca.v + cb.v) = cc := by rw [HCA.out, HCB.out, HCC.out, cz_v, cz_v, parts_add hsk HZS.out hab hbc]
    have hcal : ca.mag.length ≤ N + 9 := by
      rw [HCA.out, cz_len]; have := cnt_zl hsk (L := N) zp zq (by omega); omega
    have hcbl : cb.mag.length ≤ N + 9 := by
      rw [HCB.out, cz_len]; have := cnt_zl hsk (lo := zs) (hi := c2.v) (L := N + 1) (by rw [HZS.out]; exact zl_add zq (Nat.le_trans (show zl 1 ≤ 1 by decide) (by omega))) (by omega) (by omega); omega
    have hccl : cc.mag.length ≤ N + 9 := by
      rw [HCC.out, cz_len]; have := cnt_zl hsk (L := N) zp zc (by omega); omega
    have hcwl : cw.mag.length ≤ N + 9 := by
      rw [HCW.out, cz_len]; have := cnt_zl hro (L := N) zp zc (by omega); omega
    have hadd2 := fun (U : World) (r1 r2 : Value) (Q1 Q2 : Nat → Prop) (h1 : Zi U Q1 r1 ca) (h2 : Zi U Q2 r2 cb) => raddz_c h1 h2 (by omega) (by omega)
    simp only [hsum] at hadd2
    obtain ⟨cd, hcd⟩ : ∃ z, z = cz (cc.v + cw.v) := ⟨_, rfl⟩
    obtain ⟨ce, hce⟩ : ∃ z, z = cz (c2.v - p3.v) := ⟨_, rfl⟩
    have hnot : cz (ce.v + z1.v) = cd := by
      have := parts_not hsk hro (rest_has hsk) (a := p3) (c := c2.v) (by omega)
      rw [hcd, hce, HCC.out, HCW.out, HZ1.out, cz_v, cz_v, cz_v, this]
    have hcel : ce.mag.length ≤ N + 9 := by
      rw [hce, cz_len]; have := zl_sub (k := N) zc zp; omega
    have hadd3 := fun (U : World) (r1 r2 : Value) (Q1 Q2 : Nat → Prop) (h1 : Zi U Q1 r1 cc) (h2 : Zi U Q2 r2 cw) => raddz_c h1 h2 (by omega) (by omega)
    simp only [← hcd] at hadd3
    have hsub := fun (U : World) (hU : Ext V4 U) => rsubz_c (H8.out U hU) (H6.out U hU) (by omega) (by omega)
    simp only [← hce] at hsub
    have hadd4 := fun (U : World) (r1 r2 : Value) (Q1 Q2 : Nat → Prop) (h1 : Zi U Q1 r1 ce) (h2 : Zi U Q2 r2 z1) => raddz_c h1 h2 (by omega) (by omega)
    simp only [hnot] at hadd4
    have HAd2 := Lib.hid hadd2; have HAd3 := Lib.hid hadd3; have HAd4 := Lib.hid hadd4; have HSub := Lib.hid hsub
    clear hadd2 hadd3 hadd4 hsub hnot hcd hce hsum HAd1 HBC HAB HAC HRS HN1 HZS hcal hcbl hcwl hcel HCA HCB HCW HZ1 zs zsl h6 h7 h8 n7 l7 zq
    have t12r := t12.rules; have t12l := t12.lt
    have t14r := t14.rules; have t14l := t14.lt
    have t16r := t16.rules; have t16l := t16.lt
    refine wp_region_seq 22 [(0, true), (1, true), (2, true), (3, true), (4, true), (5, true), (6, true), (7, true), (8, true), (9, true), (10, true), (11, true), (12, true), (13, true), (14, true), (15, true), (16, true), (18, true), (17, false), (19, false), (20, true), (21, true)] rfl (by kernel_rfl) (by intro _ _ d _ _ h; cases d <;> exact h) ?_
    (repeat (first | (refine sq_take (v := ?_) rfl rfl ?_ ?_; rotate_left; (intro w' hx'; have hc' := hx'.cells.1; (try simp only [wcd] at hc'); go_simp; (first | done | with_reducible rfl)); (try simp only [Act.put, List.setIfInBounds_toArray, List.set_cons_zero, List.set_cons_succ])) | (refine sq_skip rfl rfl ?_; (try simp only [Act.put, List.setIfInBounds_toArray, List.set_cons_zero, List.set_cons_succ])) | (refine sq_noloud rfl rfl ?_; (try simp only [Act.put, List.setIfInBounds_toArray, List.set_cons_zero, List.set_cons_succ])) | (refine sq_takeg (v := ?_) rfl rfl ?_ ?_; rotate_left; (intro w' hx'; have hc' := hx'.cells.1; (try simp only [wcd] at hc'); go_simp; (first | done | with_reducible rfl)); (try simp only [Act.put, List.setIfInBounds_toArray, List.set_cons_zero, List.set_cons_succ]))))
    (refine sq_loudg rfl rfl fun K hK => ?_; go_simp)
    refine (HAd2.out _ _ _ _ _ (⟨A12, a12, rfl, n12.ext (Ext.refl V9).drew⟩ : Zi V9.drew _ (.agg #[.bool ca.neg, .slice A12 ca.mag.length a12]) ca) (⟨A14, a14, rfl, n14.ext (Ext.refl V9).drew⟩ : Zi V9.drew _ (.agg #[.bool cb.neg, .slice A14 cb.mag.length a14]) cb)).mono ?_
    rintro e w8 ⟨r8, rfl, hr8, hx10⟩
    have hy8 : Ext V9 w8 := (by repeat (first | with_reducible assumption | with_reducible exact Ext.refl _ | with_reducible refine Ext.drewN ?_ _ | with_reducible refine Ext.drew ?_ | with_reducible refine Ext.alloc ?_ _ | (with_reducible refine Ext.setCell ?_ ?_ _; rotate_left; (first | exact Nat.le_refl _ | (dsimp only; omega) | (simp only [wsz]; omega))) | (with_reducible refine Ext.trans ?_ (by with_reducible assumption))))
    have s16 := t16.ext hy8
    have s16r := s16.rules; have s16l := s16.lt
    clear t12r t14r t16r
    (refine hK _ _ (by repeat (first | with_reducible assumption | with_reducible exact Ext.refl _ | with_reducible refine Ext.drewN ?_ _ | with_reducible refine Ext.drew ?_ | with_reducible refine Ext.alloc ?_ _ | (with_reducible refine Ext.setCell ?_ ?_ _; rotate_left; (first | exact Nat.le_refl _ | (dsimp only; omega) | (simp only [wsz]; omega))) | (with_reducible refine Ext.trans ?_ (by with_reducible assumption)))) ?_; clear hK K; (try simp only [Act.put, List.setIfInBounds_toArray, List.set_cons_zero, List.set_cons_succ]))
    (repeat (first | (refine sq_take (v := ?_) rfl rfl ?_ ?_; rotate_left; (intro w' hx'; have hc' := hx'.cells.1; (try simp only [wcd] at hc'); go_simp; (first | done | with_reducible rfl)); (try simp only [Act.put, List.setIfInBounds_toArray, List.set_cons_zero, List.set_cons_succ])) | (refine sq_skip rfl rfl ?_; (try simp only [Act.put, List.setIfInBounds_toArray, List.set_cons_zero, List.set_cons_succ])) | (refine sq_noloud rfl rfl ?_; (try simp only [Act.put, List.setIfInBounds_toArray, List.set_cons_zero, List.set_cons_succ])) | (refine sq_takeg (v := ?_) rfl rfl ?_ ?_; rotate_left; (intro w' hx'; have hc' := hx'.cells.1; (try simp only [wcd] at hc'); go_simp; (first | done | with_reducible rfl)); (try simp only [Act.put, List.setIfInBounds_toArray, List.set_cons_zero, List.set_cons_succ]))))
    (refine sq_loudg rfl rfl fun K hK => ?_; go_simp)
    refine (lints_c (z := cc) hr8 (⟨A16, a16, rfl, n16.ext hy8⟩ : Zi w8 _ (.agg #[.bool cc.neg, .slice A16 cc.mag.length a16]) cc)).mono ?_
    rintro e w9 ⟨rfl, hx11⟩
    have hy9 := hy8.trans hx11
    clear s16r
    (refine hK _ _ (by repeat (first | with_reducible assumption | with_reducible exact Ext.refl _ | with_reducible refine Ext.drewN ?_ _ | with_reducible refine Ext.drew ?_ | with_reducible refine Ext.alloc ?_ _ | (with_reducible refine Ext.setCell ?_ ?_ _; rotate_left; (first | exact Nat.le_refl _ | (dsimp only; omega) | (simp only [wsz]; omega))) | (with_reducible refine Ext.trans ?_ (by with_reducible assumption)))) ?_; clear hK K; (try simp only [Act.put, List.setIfInBounds_toArray, List.set_cons_zero, List.set_cons_succ]))
    (repeat (first | (refine sq_take (v := ?_) rfl rfl ?_ ?_; rotate_left; (intro w' hx'; have hc' := hx'.cells.1; (try simp only [wcd] at hc'); go_simp; (first | done | with_reducible rfl)); (try simp only [Act.put, List.setIfInBounds_toArray, List.set_cons_zero, List.set_cons_succ])) | (refine sq_skip rfl rfl ?_; (try simp only [Act.put, List.setIfInBounds_toArray, List.set_cons_zero, List.set_cons_succ])) | (refine sq_noloud rfl rfl ?_; (try simp only [Act.put, List.setIfInBounds_toArray, List.set_cons_zero, List.set_cons_succ])) | (refine sq_takeg (v := ?_) rfl rfl ?_ ?_; rotate_left; (intro w' hx'; have hc' := hx'.cells.1; (try simp only [wcd] at hc'); go_simp; (first | done | with_reducible rfl)); (try simp only [Act.put, List.setIfInBounds_toArray, List.set_cons_zero, List.set_cons_succ]))))
    refine sq_done ?_
    have hE10 := hE9.trans hy9
    have n11 := n11.ext hy9; have n16 := n16.ext hy9
    have u6 := t6.ext hy9; have u8 := t8.ext hy9; have u11 := t11.ext hy9; have u16 := t16.ext hy9
    have u6r := u6.rules; have u6l := u6.lt
    have u8r := u8.rules; have u8l := u8.lt
    have hS18 := hS18.ext hy9
    go_wp2_with fail
    refine (HRW.out _ hE10 _ _ hS18).mono ?_
    rintro e w10 ⟨_, rfl, ⟨A19, a19, rfl, n19⟩, hx12⟩
    clear u6r u8r u6l u8l
    go_upto_region 20 with fail
    refine wp_named fun V11 hV11 => ?_
    have v19 : Box V11 w10.heap.size 25 #[.bool cw.neg, .slice A19 cw.mag.length a19] := by rw [hV11]; exact (by repeat (first | with_reducible assumption | with_reducible exact Box.new _ _ _ | (with_reducible refine Box.new_at _ _ _ ?_; (simp only [wsz]; done)) | with_reducible refine Box.drewN ?_ _ | with_reducible refine Box.drew ?_ | with_reducible refine Box.alloc ?_ _ | with_reducible apply Box.drewN | with_reducible apply Box.drew | with_reducible apply Box.alloc | with_reducible refine Box.set_ ?_ _ _ | (with_reducible refine Box.far ?_ ?_ _; rotate_left; (simp only [ne_eq]; omega)) | (with_reducible refine Box.ext ?_ (by with_reducible assumption)) | (refine Box.new_at _ _ _ ?_; simp only [wsz]; done)))
    have hx13 : Ext w9 V11 := by rw [hV11]; exact hx12.alloc _
    have n19 := n19.ext (w' := V11) (by rw [hV11]; exact (Ext.refl w10).alloc _)
    clear hV11 hx12 hx11 hx10
    have hE11 := hE10.trans hx13
    have n11 := n11.ext hx13; have n16 := n16.ext hx13
    have v6 := u6.ext hx13; have v8 := u8.ext hx13; have v11 := u11.ext hx13; have v16 := u16.ext hx13
    clear u6 u8 u11 u16 hx13 hE10 t6 t8 t11 t12 t14 t16 hE9
    have v6r := v6.rules; have v6l := v6.lt
    have v8r := v8.rules; have v8l := v8.lt
    have v11r := v11.rules; have v11l := v11.lt
    have v16r := v16.rules; have v16l := v16.lt
    have v19r := v19.rules; have v19l := v19.lt
    refine wp_region_seq 14 [(0, true), (1, true), (2, true), (3, true), (4, true), (6, true), (7, true), (9, true), (5, false), (8, false), (10, false), (11, false), (12, true), (13, true)] rfl (by kernel_rfl) (by intro _ _ d _ _ h; cases d <;> exact h) ?_
    (repeat (first | (refine sq_take (v := ?_) rfl rfl ?_ ?_; rotate_left; (intro w' hx'; have hc' := hx'.cells.1; (try simp only [wcd] at hc'); go_simp; (first | done | with_reducible rfl)); (try simp only [Act.put, List.setIfInBounds_toArray, List.set_cons_zero, List.set_cons_succ])) | (refine sq_skip rfl rfl ?_; (try simp only [Act.put, List.setIfInBounds_toArray, List.set_cons_zero, List.set_cons_succ])) | (refine sq_noloud rfl rfl ?_; (try simp only [Act.put, List.setIfInBounds_toArray, List.set_cons_zero, List.set_cons_succ])) | (refine sq_takeg (v := ?_) rfl rfl ?_ ?_; rotate_left; (intro w' hx'; have hc' := hx'.cells.1; (try simp only [wcd] at hc'); go_simp; (first | done | with_reducible rfl)); (try simp only [Act.put, List.setIfInBounds_toArray, List.set_cons_zero, List.set_cons_succ]))))
    (refine sq_loudg rfl rfl fun K hK => ?_; go_simp)
    refine (HAd3.out _ _ _ _ _ (⟨A16, a16, rfl, n16.ext (Ext.refl V11).drew⟩ : Zi V11.drew _ (.agg #[.bool cc.neg, .slice A16 cc.mag.length a16]) cc) (⟨A19, a19, rfl, n19.ext (Ext.refl V11).drew⟩ : Zi V11.drew _ (.agg #[.bool cw.neg, .slice A19 cw.mag.length a19]) cw)).mono ?_
    rintro e w12 ⟨r12, rfl, hr12, hx14⟩
    have hy12 : Ext V11 w12 := (by repeat (first | with_reducible assumption | with_reducible exact Ext.refl _ | with_reducible refine Ext.drewN ?_ _ | with_reducible refine Ext.drew ?_ | with_reducible refine Ext.alloc ?_ _ | (with_reducible refine Ext.setCell ?_ ?_ _; rotate_left; (first | exact Nat.le_refl _ | (dsimp only; omega) | (simp only [wsz]; omega))) | (with_reducible refine Ext.trans ?_ (by with_reducible assumption))))
    clear v6r v8r v11r v16r v19r
    (refine hK _ _ (by repeat (first | with_reducible assumption | with_reducible exact Ext.refl _ | with_reducible refine Ext.drewN ?_ _ | with_reducible refine Ext.drew ?_ | with_reducible refine Ext.alloc ?_ _ | (with_reducible refine Ext.setCell ?_ ?_ _; rotate_left; (first | exact Nat.le_refl _ | (dsimp only; omega) | (simp only [wsz]; omega))) | (with_reducible refine Ext.trans ?_ (by with_reducible assumption)))) ?_; clear hK K; (try simp only [Act.put, List.setIfInBounds_toArray, List.set_cons_zero, List.set_cons_succ]))
    (repeat (first | (refine sq_take (v := ?_) rfl rfl ?_ ?_; rotate_left; (intro w' hx'; have hc' := hx'.cells.1; (try simp only [wcd] at hc'); go_simp; (first | done | with_reducible rfl)); (try simp only [Act.put, List.setIfInBounds_toArray, List.set_cons_zero, List.set_cons_succ])) | (refine sq_skip rfl rfl ?_; (try simp only [Act.put, List.setIfInBounds_toArray, List.set_cons_zero, List.set_cons_succ])) | (refine sq_noloud rfl rfl ?_; (try simp only [Act.put, List.setIfInBounds_toArray, List.set_cons_zero, List.set_cons_succ])) | (refine sq_takeg (v := ?_) rfl rfl ?_ ?_; rotate_left; (intro w' hx'; have hc' := hx'.cells.1; (try simp only [wcd] at hc'); go_simp; (first | done | with_reducible rfl)); (try simp only [Act.put, List.setIfInBounds_toArray, List.set_cons_zero, List.set_cons_succ]))))
    (refine sq_loudg rfl rfl fun K hK => ?_; go_simp)
    refine (HSub.out _ (hE11.trans hy12)).mono ?_
    rintro e w13 ⟨r13, rfl, hr13, hx15⟩
    have hy13 := hy12.trans hx15
    (refine hK _ _ (by repeat (first | with_reducible assumption | with_reducible exact Ext.refl _ | with_reducible refine Ext.drewN ?_ _ | with_reducible refine Ext.drew ?_ | with_reducible refine Ext.alloc ?_ _ | (with_reducible refine Ext.setCell ?_ ?_ _; rotate_left; (first | exact Nat.le_refl _ | (dsimp only; omega) | (simp only [wsz]; omega))) | (with_reducible refine Ext.trans ?_ (by with_reducible assumption)))) ?_; clear hK K; (try simp only [Act.put, List.setIfInBounds_toArray, List.set_cons_zero, List.set_cons_succ]))
    (repeat (first | (refine sq_take (v := ?_) rfl rfl ?_ ?_; rotate_left; (intro w' hx'; have hc' := hx'.cells.1; (try simp only [wcd] at hc'); go_simp; (first | done | with_reducible rfl)); (try simp only [Act.put, List.setIfInBounds_toArray, List.set_cons_zero, List.set_cons_succ])) | (refine sq_skip rfl rfl ?_; (try simp only [Act.put, List.setIfInBounds_toArray, List.set_cons_zero, List.set_cons_succ])) | (refine sq_noloud rfl rfl ?_; (try simp only [Act.put, List.setIfInBounds_toArray, List.set_cons_zero, List.set_cons_succ])) | (refine sq_takeg (v := ?_) rfl rfl ?_ ?_; rotate_left; (intro w' hx'; have hc' := hx'.cells.1; (try simp only [wcd] at hc'); go_simp; (first | done | with_reducible rfl)); (try simp only [Act.put, List.setIfInBounds_toArray, List.set_cons_zero, List.set_cons_succ]))))
    (refine sq_loudg rfl rfl fun K hK => ?_; go_simp)
    refine (HAd4.out _ _ _ _ _ hr13 (⟨A11, a11, rfl, n11.ext hy13⟩ : Zi w13 _ (.agg #[.bool z1.neg, .slice A11 z1.mag.length a11]) z1)).mono ?_
    rintro e w14 ⟨r14, rfl, hr14, hx16⟩
    have hy14 := hy13.trans hx16
    (refine hK _ _ (by repeat (first | with_reducible assumption | with_reducible exact Ext.refl _ | with_reducible refine Ext.drewN ?_ _ | with_reducible refine Ext.drew ?_ | with_reducible refine Ext.alloc ?_ _ | (with_reducible refine Ext.setCell ?_ ?_ _; rotate_left; (first | exact Nat.le_refl _ | (dsimp only; omega) | (simp only [wsz]; omega))) | (with_reducible refine Ext.trans ?_ (by with_reducible assumption)))) ?_; clear hK K; (try simp only [Act.put, List.setIfInBounds_toArray, List.set_cons_zero, List.set_cons_succ]))
    (repeat (first | (refine sq_take (v := ?_) rfl rfl ?_ ?_; rotate_left; (intro w' hx'; have hc' := hx'.cells.1; (try simp only [wcd] at hc'); go_simp; (first | done | with_reducible rfl)); (try simp only [Act.put, List.setIfInBounds_toArray, List.set_cons_zero, List.set_cons_succ])) | (refine sq_skip rfl rfl ?_; (try simp only [Act.put, List.setIfInBounds_toArray, List.set_cons_zero, List.set_cons_succ])) | (refine sq_noloud rfl rfl ?_; (try simp only [Act.put, List.setIfInBounds_toArray, List.set_cons_zero, List.set_cons_succ])) | (refine sq_takeg (v := ?_) rfl rfl ?_ ?_; rotate_left; (intro w' hx'; have hc' := hx'.cells.1; (try simp only [wcd] at hc'); go_simp; (first | done | with_reducible rfl)); (try simp only [Act.put, List.setIfInBounds_toArray, List.set_cons_zero, List.set_cons_succ]))))
    (refine sq_loudg rfl rfl fun K hK => ?_; go_simp)
    refine (lints_c (hr12.ext (hx15.trans hx16)) hr14).mono ?_
    rintro e w15 ⟨rfl, hx17⟩
    have hy15 := hy14.trans hx17
    (refine hK _ _ (by repeat (first | with_reducible assumption | with_reducible exact Ext.refl _ | with_reducible refine Ext.drewN ?_ _ | with_reducible refine Ext.drew ?_ | with_reducible refine Ext.alloc ?_ _ | (with_reducible refine Ext.setCell ?_ ?_ _; rotate_left; (first | exact Nat.le_refl _ | (dsimp only; omega) | (simp only [wsz]; omega))) | (with_reducible refine Ext.trans ?_ (by with_reducible assumption)))) ?_; clear hK K; (try simp only [Act.put, List.setIfInBounds_toArray, List.set_cons_zero, List.set_cons_succ]))
    (repeat (first | (refine sq_take (v := ?_) rfl rfl ?_ ?_; rotate_left; (intro w' hx'; have hc' := hx'.cells.1; (try simp only [wcd] at hc'); go_simp; (first | done | with_reducible rfl)); (try simp only [Act.put, List.setIfInBounds_toArray, List.set_cons_zero, List.set_cons_succ])) | (refine sq_skip rfl rfl ?_; (try simp only [Act.put, List.setIfInBounds_toArray, List.set_cons_zero, List.set_cons_succ])) | (refine sq_noloud rfl rfl ?_; (try simp only [Act.put, List.setIfInBounds_toArray, List.set_cons_zero, List.set_cons_succ])) | (refine sq_takeg (v := ?_) rfl rfl ?_ ?_; rotate_left; (intro w' hx'; have hc' := hx'.cells.1; (try simp only [wcd] at hc'); go_simp; (first | done | with_reducible rfl)); (try simp only [Act.put, List.setIfInBounds_toArray, List.set_cons_zero, List.set_cons_succ]))))
    refine sq_done ?_
    have hE15 := hE11.trans hy15
    have n16 := n16.ext hy15
    have u6 := v6.ext hy15; have u8 := v8.ext hy15; have u16 := v16.ext hy15
    have u6r := u6.rules; have u6l := u6.lt
    have u8r := u8.rules; have u8l := u8.lt
    clear hx14 hx15 hx16 hx17 hy12 hy13 hy14 hr12 hr13 hr14 hE11 v6 v8 v11 v16 v19 v6l v8l v11l v16l v19l HAd2 HAd3 HAd4 HSub HRW hS18 n11 n12 n14 n19
    have hmc := mbs_cnt hsk p3 c2.v
    have hmp := mbs_prop s p3.v c2.v
    have hls := HLS.out
    obtain ⟨m, hm⟩ : ∃ m, m = mbs s p3.v c2.v := ⟨_, rfl⟩
    rw [← hm] at hmc hmp
    simp only [← hm] at hls
    have hccv : cc.v = (m.length : Nat) := by rw [HCC.out, cz_v, hmc]
    have hcce : cz (m.length : Nat) = cc := by rw [HCC.out, hmc]
    have HCV := Lib.hid hccv; have HCE := Lib.hid hcce; have HMP := Lib.hid hmp
    clear hm hmc hmp HLS HCC hccv hcce hy15 hy9 hy8
    go_wp2_with fail
    refine (hls _ hE15).mono ?_
    clear u6r u8r u6l u8l
    rintro e V16 ⟨⟨hlong, rfl⟩ | ⟨hshort, r20, rfl, hO⟩, hx16⟩
    · have hE16 := hE15.trans hx16
      have s16 := u16.ext hx16
      have n16 := n16.ext hx16
      have s16r := s16.rules; have s16l := s16.lt
      clear hls
      go_upto_region 24 with fail
      refine wp_region_seq 8 [(0, true), (1, true), (2, true), (3, true), (4, false), (5, false), (6, true), (7, true), (8, false)] rfl (by kernel_rfl) (by intro _ _ d _ _ h; cases d <;> exact h) ?_
      (repeat (first | (refine sq_take (v := ?_) rfl rfl ?_ ?_; rotate_left; (intro w' hx'; have hc' := hx'.cells.1; (try simp only [wcd] at hc'); go_simp; (first | done | with_reducible rfl)); (try simp only [Act.put, List.setIfInBounds_toArray, List.set_cons_zero, List.set_cons_succ])) | (refine sq_skip rfl rfl ?_; (try simp only [Act.put, List.setIfInBounds_toArray, List.set_cons_zero, List.set_cons_succ])) | (refine sq_noloud rfl rfl ?_; (try simp only [Act.put, List.setIfInBounds_toArray, List.set_cons_zero, List.set_cons_succ])) | (refine sq_takeg (v := ?_) rfl rfl ?_ ?_; rotate_left; (intro w' hx'; have hc' := hx'.cells.1; (try simp only [wcd] at hc'); go_simp; (first | done | with_reducible rfl)); (try simp only [Act.put, List.setIfInBounds_toArray, List.set_cons_zero, List.set_cons_succ]))))
      (refine sq_loudg rfl rfl fun K hK => ?_; go_simp)
      refine (HNum.out 1000 (by omega) (by omega) _).mono ?_
      rintro e w17 ⟨r17, rfl, hr17, hx17⟩
      have hy17 : Ext V16 w17 := (by repeat (first | with_reducible assumption | with_reducible exact Ext.refl _ | with_reducible refine Ext.drewN ?_ _ | with_reducible refine Ext.drew ?_ | with_reducible refine Ext.alloc ?_ _ | (with_reducible refine Ext.setCell ?_ ?_ _; rotate_left; (first | exact Nat.le_refl _ | (dsimp only; omega) | (simp only [wsz]; omega))) | (with_reducible refine Ext.trans ?_ (by with_reducible assumption))))
      have hcm := rcmpz_c (⟨A16, a16, rfl, n16.ext hy17⟩ : Zi w17 _ (.agg #[.bool cc.neg, .slice A16 cc.mag.length a16]) cc) hr17 (by omega) (Nat.le_trans (show (cz 1000).mag.length ≤ 1 by decide) (by omega))
      rw [cz_v, HCV.out, cmpI_gt (by omega)] at hcm
      clear s16r
      (refine hK _ _ (by repeat (first | with_reducible assumption | with_reducible exact Ext.refl _ | with_reducible refine Ext.drewN ?_ _ | with_reducible refine Ext.drew ?_ | with_reducible refine Ext.alloc ?_ _ | (with_reducible refine Ext.setCell ?_ ?_ _; rotate_left; (first | exact Nat.le_refl _ | (dsimp only; omega) | (simp only [wsz]; omega))) | (with_reducible refine Ext.trans ?_ (by with_reducible assumption)))) ?_; clear hK K; (try simp only [Act.put, List.setIfInBounds_toArray, List.set_cons_zero, List.set_cons_succ]))
      (repeat (first | (refine sq_take (v := ?_) rfl rfl ?_ ?_; rotate_left; (intro w' hx'; have hc' := hx'.cells.1; (try simp only [wcd] at hc'); go_simp; (first | done | with_reducible rfl)); (try simp only [Act.put, List.setIfInBounds_toArray, List.set_cons_zero, List.set_cons_succ])) | (refine sq_skip rfl rfl ?_; (try simp only [Act.put, List.setIfInBounds_toArray, List.set_cons_zero, List.set_cons_succ])) | (refine sq_noloud rfl rfl ?_; (try simp only [Act.put, List.setIfInBounds_toArray, List.set_cons_zero, List.set_cons_succ])) | (refine sq_takeg (v := ?_) rfl rfl ?_ ?_; rotate_left; (intro w' hx'; have hc' := hx'.cells.1; (try simp only [wcd] at hc'); go_simp; (first | done | with_reducible rfl)); (try simp only [Act.put, List.setIfInBounds_toArray, List.set_cons_zero, List.set_cons_succ]))))
      (refine sq_loudg rfl rfl fun K hK => ?_; go_simp)
      refine hcm.mono ?_
      rintro e w18 ⟨rfl, hx18⟩
      have hy18 := hy17.trans hx18
      (refine hK _ _ (by repeat (first | with_reducible assumption | with_reducible exact Ext.refl _ | with_reducible refine Ext.drewN ?_ _ | with_reducible refine Ext.drew ?_ | with_reducible refine Ext.alloc ?_ _ | (with_reducible refine Ext.setCell ?_ ?_ _; rotate_left; (first | exact Nat.le_refl _ | (dsimp only; omega) | (simp only [wsz]; omega))) | (with_reducible refine Ext.trans ?_ (by with_reducible assumption)))) ?_; clear hK K; (try simp only [Act.put, List.setIfInBounds_toArray, List.set_cons_zero, List.set_cons_succ]))
      (repeat (first | (refine sq_take (v := ?_) rfl rfl ?_ ?_; rotate_left; (intro w' hx'; have hc' := hx'.cells.1; (try simp only [wcd] at hc'); go_simp; (first | done | with_reducible rfl)); (try simp only [Act.put, List.setIfInBounds_toArray, List.set_cons_zero, List.set_cons_succ])) | (refine sq_skip rfl rfl ?_; (try simp only [Act.put, List.setIfInBounds_toArray, List.set_cons_zero, List.set_cons_succ])) | (refine sq_noloud rfl rfl ?_; (try simp only [Act.put, List.setIfInBounds_toArray, List.set_cons_zero, List.set_cons_succ])) | (refine sq_takeg (v := ?_) rfl rfl ?_ ?_; rotate_left; (intro w' hx'; have hc' := hx'.cells.1; (try simp only [wcd] at hc'); go_simp; (first | done | with_reducible rfl)); (try simp only [Act.put, List.setIfInBounds_toArray, List.set_cons_zero, List.set_cons_succ]))))
      (refine sq_last rfl rfl fun K hK => ?_; go_simp; refine hK _ _ ?_; clear hK K)
      go_wp2_with fail
      go_ret
      exact ⟨rfl, hE0.trans (hE16.trans hy18)⟩
    · have hE16 := hE15.trans hx16
      have n16 := n16.ext hx16
      have s6 := u6.ext hx16; have s8 := u8.ext hx16; have s16 := u16.ext hx16
      clear hls
      obtain ⟨A20, c20, rfl, hZ⟩ := Own.sl hO (by omega) (X := fun _ => True) (fun _ _ => trivial)
      have hLA := fun (k : Nat) (hk : k < (m.map cz).length) => list_at HMP.out hk
      have hLR := fun (k : Nat) (hk : k + 1 < (m.map cz).length) => list_ris HMP.out.2 hk
      have hLC : cz ((m.map cz).length : Nat) = cc := by rw [List.length_map]; exact HCE.out
      have hLL : (m.map cz).length ≤ 1000 := by rw [List.length_map]; exact hshort
      obtain ⟨L, hL⟩ : ∃ L, L = m.map cz := ⟨_, rfl⟩
      rw [← hL] at hLA hLR hLC hLL hZ ⊢
      have HLA := Lib.hid hLA; have HLR := Lib.hid hLR; have HLC := Lib.hid hLC
      clear hL hO hLA hLR hLC HMP HCE HCV hshort m
      go_wp2_with fail
      go_loopw [21] (fun iv wr => ∃ k : Nat, k ≤ L.length ∧ iv = .int .i64 k ∧ Ext V16 wr) (fun iv _ => L.length - (intOf iv).toNat)
      case atStart => exact ⟨0, Nat.zero_le _, rfl, Ext.refl _⟩
      case round => as_aux_lemma =>
        obtain ⟨k, hkk, rfl, hxr⟩ := hrel
        have hxk := Lib.hid hxr
        have hEr := hE16.trans hxr
        have r6 := s6.ext hxr; have r8 := s8.ext hxr; have r16 := s16.ext hxr
        have n16r := n16.ext hxr
        clear hxr
        by_cases hlt : k < L.length
        · obtain ⟨bb, oo, B, d, rfl, -, q0, q1, hN2⟩ := Zs.at_ (Zs.ext hZ hxk.out) hlt
          have hbw := World.block_lt_of_cell? _ _ q0
          have hbw : bb < wr.heap.size := hbw
          have kl : (k : Int) < (L.length : Int) := by omega
          obtain ⟨f1, f2, f3, f4⟩ := HLA.out k hlt
          have f5 : (zth L k).mag.length ≤ N := by rw [f4]; exact zl_mid f2 f3 zp zc
          clear f4
          have hr6 := H6.out; have hr8 := H8.out
          have hhas := fun (U : World) (hU : Ext wr U) => has_c (hSV.ext (hEr.trans hU)) hsk (⟨B, d, rfl, hN2.ext hU⟩ : Zi U _ (.agg #[.bool (zth L k).neg, .slice B (zth L k).mag.length d]) (zth L k)) (by omega)
          have hcp := fun (U : World) (hU : Ext wr U) => rcmpz_c (⟨B, d, rfl, hN2.ext hU⟩ : Zi U _ (.agg #[.bool (zth L k).neg, .slice B (zth L k).mag.length d]) (zth L k)) (H6.out U (hEr.trans hU)) (by omega) (by omega)
          have hcc := fun (U : World) (hU : Ext wr U) => rcmpz_c (⟨B, d, rfl, hN2.ext hU⟩ : Zi U _ (.agg #[.bool (zth L k).neg, .slice B (zth L k).mag.length d]) (zth L k)) (H8.out U (hEr.trans hU)) (by omega) (by omega)
          rw [f1] at hhas
          obtain ⟨cp, hcpe⟩ : ∃ x, x = cmpI (zth L k).v p3.v := ⟨_, rfl⟩
          obtain ⟨cq, hcqe⟩ : ∃ x, x = cmpI (zth L k).v c2.v := ⟨_, rfl⟩
          rw [← hcpe] at hcp
          rw [← hcqe] at hcc
          have d1 : decide (cp < 0) = false := decide_eq_false (by rw [hcpe, cmpI_neg]; omega)
          have d2 : decide (cq > 0) = false := decide_eq_false (by rw [hcqe]; show ¬ 0 < _; rw [cmpI_pos]; omega)
          have HH := Lib.hid hhas; have HP := Lib.hid hcp; have HQ := Lib.hid hcc
          clear hhas hcp hcc hcpe hcqe hr6 hr8 f1 f2 f3
          have r6r := r6.rules; have r6l := r6.lt
          have r8r := r8.rules; have r8l := r8.lt
          rcases Nat.eq_zero_or_pos k with h0 | h0
          · have d3 : decide ((k : Int) > 0) = false := decide_eq_false (by omega)
            have d4 : decide (0 < k) = false := decide_eq_false (by omega)
            have d5 : k ≤ 0 := by omega
            clear h0
            go_wp2_with fail
            refine wp_region_seq 42 [(0, true), (1, true), (2, true), (3, true), (4, true), (5, false), (6, true), (7, true), (8, true), (9, true), (10, true), (11, true), (12, true), (13, false), (14, true), (15, true), (16, true), (17, true), (18, true), (19, true), (20, true), (21, true), (22, false), (23, true), (24, true), (25, true), (26, true), (27, true), (28, true), (29, true), (30, true), (31, true), (32, true), (33, true), (34, true), (35, true), (36, true), (37, true), (38, false), (39, true), (40, true), (41, true)] rfl (by kernel_rfl) (by intro _ _ d _ _ h; cases d <;> exact h) ?_
            (repeat (first | (refine sq_take (v := ?_) rfl rfl ?_ ?_; rotate_left; (intro w' hx'; have hc' := hx'.cells.1; (try simp only [wcd] at hc'); go_simp; (first | done | with_reducible rfl)); (try simp only [Act.put, List.setIfInBounds_toArray, List.set_cons_zero, List.set_cons_succ])) | (refine sq_skip rfl rfl ?_; (try simp only [Act.put, List.setIfInBounds_toArray, List.set_cons_zero, List.set_cons_succ])) | (refine sq_noloud rfl rfl ?_; (try simp only [Act.put, List.setIfInBounds_toArray, List.set_cons_zero, List.set_cons_succ])) | (refine sq_takeg (v := ?_) rfl rfl ?_ ?_; rotate_left; (intro w' hx'; have hc' := hx'.cells.1; (try simp only [wcd] at hc'); go_simp; (first | done | with_reducible rfl)); (try simp only [Act.put, List.setIfInBounds_toArray, List.set_cons_zero, List.set_cons_succ]))))
            (refine sq_loudg rfl rfl fun K hK => ?_; go_simp)
            refine (HH.out _ (by repeat (first | with_reducible assumption | with_reducible exact Ext.refl _ | with_reducible refine Ext.drewN ?_ _ | with_reducible refine Ext.drew ?_ | with_reducible refine Ext.alloc ?_ _ | (with_reducible refine Ext.setCell ?_ ?_ _; rotate_left; (first | exact Nat.le_refl _ | (dsimp only; omega) | (simp only [wsz]; omega))) | (with_reducible refine Ext.trans ?_ (by with_reducible assumption))))).mono ?_
            rintro e wa ⟨rfl, hxwa⟩
            have hywa : Ext wr wa := (by repeat (first | with_reducible assumption | with_reducible exact Ext.refl _ | with_reducible refine Ext.drewN ?_ _ | with_reducible refine Ext.drew ?_ | with_reducible refine Ext.alloc ?_ _ | (with_reducible refine Ext.setCell ?_ ?_ _; rotate_left; (first | exact Nat.le_refl _ | (dsimp only; omega) | (simp only [wsz]; omega))) | (with_reducible refine Ext.trans ?_ (by with_reducible assumption))))
            have hlwa : bb < wa.heap.size := Nat.lt_of_lt_of_le hbw hywa.size
            have q0wa := (hywa.cells.1 bb _ hbw).trans q0
            have q1wa := (hywa.cells.1 bb _ hbw).trans q1
            have r6wa := r6.ext hywa; have r6war := r6wa.rules; have r6wal := r6wa.lt
            have r8wa := r8.ext hywa; have r8war := r8wa.rules; have r8wal := r8wa.lt
            clear r6r r6l r8r r8l
            (refine hK _ _ (by repeat (first | with_reducible assumption | with_reducible exact Ext.refl _ | with_reducible refine Ext.drewN ?_ _ | with_reducible refine Ext.drew ?_ | with_reducible refine Ext.alloc ?_ _ | (with_reducible refine Ext.setCell ?_ ?_ _; rotate_left; (first | exact Nat.le_refl _ | (dsimp only; omega) | (simp only [wsz]; omega))) | (with_reducible refine Ext.trans ?_ (by with_reducible assumption)))) ?_; clear hK K; (try simp only [Act.put, List.setIfInBounds_toArray, List.set_cons_zero, List.set_cons_succ]))
            (repeat (first | (refine sq_take (v := ?_) rfl rfl ?_ ?_; rotate_left; (intro w' hx'; have hc' := hx'.cells.1; (try simp only [wcd] at hc'); go_simp; (first | done | with_reducible rfl)); (try simp only [Act.put, List.setIfInBounds_toArray, List.set_cons_zero, List.set_cons_succ])) | (refine sq_skip rfl rfl ?_; (try simp only [Act.put, List.setIfInBounds_toArray, List.set_cons_zero, List.set_cons_succ])) | (refine sq_noloud rfl rfl ?_; (try simp only [Act.put, List.setIfInBounds_toArray, List.set_cons_zero, List.set_cons_succ])) | (refine sq_takeg (v := ?_) rfl rfl ?_ ?_; rotate_left; (intro w' hx'; have hc' := hx'.cells.1; (try simp only [wcd] at hc'); go_simp; (first | done | with_reducible rfl)); (try simp only [Act.put, List.setIfInBounds_toArray, List.set_cons_zero, List.set_cons_succ]))))
            (refine sq_loudg rfl rfl fun K hK => ?_; go_simp)
            refine (HP.out _ (by repeat (first | with_reducible assumption | with_reducible exact Ext.refl _ | with_reducible refine Ext.drewN ?_ _ | with_reducible refine Ext.drew ?_ | with_reducible refine Ext.alloc ?_ _ | (with_reducible refine Ext.setCell ?_ ?_ _; rotate_left; (first | exact Nat.le_refl _ | (dsimp only; omega) | (simp only [wsz]; omega))) | (with_reducible refine Ext.trans ?_ (by with_reducible assumption))))).mono ?_
            rintro e wb ⟨rfl, hxwb⟩
            have hywb : Ext wr wb := (by repeat (first | with_reducible assumption | with_reducible exact Ext.refl _ | with_reducible refine Ext.drewN ?_ _ | with_reducible refine Ext.drew ?_ | with_reducible refine Ext.alloc ?_ _ | (with_reducible refine Ext.setCell ?_ ?_ _; rotate_left; (first | exact Nat.le_refl _ | (dsimp only; omega) | (simp only [wsz]; omega))) | (with_reducible refine Ext.trans ?_ (by with_reducible assumption))))
            have hlwb : bb < wb.heap.size := Nat.lt_of_lt_of_le hbw hywb.size
            have q0wb := (hywb.cells.1 bb _ hbw).trans q0
            have q1wb := (hywb.cells.1 bb _ hbw).trans q1
            have r6wb := r6.ext hywb; have r6wbr := r6wb.rules; have r6wbl := r6wb.lt
            have r8wb := r8.ext hywb; have r8wbr := r8wb.rules; have r8wbl := r8wb.lt
            clear hlwa q0wa q1wa r6war r6wal r8war r8wal
            (refine hK _ _ (by repeat (first | with_reducible assumption | with_reducible exact Ext.refl _ | with_reducible refine Ext.drewN ?_ _ | with_reducible refine Ext.drew ?_ | with_reducible refine Ext.alloc ?_ _ | (with_reducible refine Ext.setCell ?_ ?_ _; rotate_left; (first | exact Nat.le_refl _ | (dsimp only; omega) | (simp only [wsz]; omega))) | (with_reducible refine Ext.trans ?_ (by with_reducible assumption)))) ?_; clear hK K; (try simp only [Act.put, List.setIfInBounds_toArray, List.set_cons_zero, List.set_cons_succ]))
            (repeat (first | (refine sq_take (v := ?_) rfl rfl ?_ ?_; rotate_left; (intro w' hx'; have hc' := hx'.cells.1; (try simp only [wcd] at hc'); go_simp; (first | done | with_reducible rfl)); (try simp only [Act.put, List.setIfInBounds_toArray, List.set_cons_zero, List.set_cons_succ])) | (refine sq_skip rfl rfl ?_; (try simp only [Act.put, List.setIfInBounds_toArray, List.set_cons_zero, List.set_cons_succ])) | (refine sq_noloud rfl rfl ?_; (try simp only [Act.put, List.setIfInBounds_toArray, List.set_cons_zero, List.set_cons_succ])) | (refine sq_takeg (v := ?_) rfl rfl ?_ ?_; rotate_left; (intro w' hx'; have hc' := hx'.cells.1; (try simp only [wcd] at hc'); go_simp; (first | done | with_reducible rfl)); (try simp only [Act.put, List.setIfInBounds_toArray, List.set_cons_zero, List.set_cons_succ]))))
            (refine sq_loudg rfl rfl fun K hK => ?_; go_simp)
            refine (HQ.out _ (by repeat (first | with_reducible assumption | with_reducible exact Ext.refl _ | with_reducible refine Ext.drewN ?_ _ | with_reducible refine Ext.drew ?_ | with_reducible refine Ext.alloc ?_ _ | (with_reducible refine Ext.setCell ?_ ?_ _; rotate_left; (first | exact Nat.le_refl _ | (dsimp only; omega) | (simp only [wsz]; omega))) | (with_reducible refine Ext.trans ?_ (by with_reducible assumption))))).mono ?_
            rintro e wd ⟨rfl, hxwd⟩
            have hywd : Ext wr wd := (by repeat (first | with_reducible assumption | with_reducible exact Ext.refl _ | with_reducible refine Ext.drewN ?_ _ | with_reducible refine Ext.drew ?_ | with_reducible refine Ext.alloc ?_ _ | (with_reducible refine Ext.setCell ?_ ?_ _; rotate_left; (first | exact Nat.le_refl _ | (dsimp only; omega) | (simp only [wsz]; omega))) | (with_reducible refine Ext.trans ?_ (by with_reducible assumption))))
            clear hlwb q0wb q1wb r6wbr r6wbl r8wbr r8wbl
            (refine hK _ _ (by repeat (first | with_reducible assumption | with_reducible exact Ext.refl _ | with_reducible refine Ext.drewN ?_ _ | with_reducible refine Ext.drew ?_ | with_reducible refine Ext.alloc ?_ _ | (with_reducible refine Ext.setCell ?_ ?_ _; rotate_left; (first | exact Nat.le_refl _ | (dsimp only; omega) | (simp only [wsz]; omega))) | (with_reducible refine Ext.trans ?_ (by with_reducible assumption)))) ?_; clear hK K; (try simp only [Act.put, List.setIfInBounds_toArray, List.set_cons_zero, List.set_cons_succ]))
            (repeat (first | (refine sq_take (v := ?_) rfl rfl ?_ ?_; rotate_left; (intro w' hx'; have hc' := hx'.cells.1; (try simp only [wcd] at hc'); go_simp; (first | done | with_reducible rfl)); (try simp only [Act.put, List.setIfInBounds_toArray, List.set_cons_zero, List.set_cons_succ])) | (refine sq_skip rfl rfl ?_; (try simp only [Act.put, List.setIfInBounds_toArray, List.set_cons_zero, List.set_cons_succ])) | (refine sq_noloud rfl rfl ?_; (try simp only [Act.put, List.setIfInBounds_toArray, List.set_cons_zero, List.set_cons_succ])) | (refine sq_takeg (v := ?_) rfl rfl ?_ ?_; rotate_left; (intro w' hx'; have hc' := hx'.cells.1; (try simp only [wcd] at hc'); go_simp; (first | done | with_reducible rfl)); (try simp only [Act.put, List.setIfInBounds_toArray, List.set_cons_zero, List.set_cons_succ]))))
            refine sq_done ?_
            go_wp2_with fail
            go_roundw
            case rel => exact ⟨k + 1, by omega, by go_num, hxk.out.trans hywd⟩
            case measure => simp [intOf] <;> omega
          · obtain ⟨j, hj⟩ : ∃ j, k = j + 1 := ⟨k - 1, by omega⟩
            have d3 : decide ((k : Int) > 0) = true := decide_eq_true (by omega)
            have d4 : decide (0 < k) = true := decide_eq_true (by omega)
            have hjl : j < L.length := by omega
            obtain ⟨b9, o9, B9, d9, hA9, -, q2, q3, hN9⟩ := Zs.at_ (Zs.ext hZ hxk.out) hjl
            obtain ⟨rfl, rfl⟩ : bb = b9 ∧ oo = o9 := by
              have h9 := Option.some.inj hA9
              exact ⟨congrArg Addr.block h9, congrArg Addr.off h9⟩
            have il2 : (j : Int) < (L.length : Int) := by omega
            have iw := w64n (n := j) (by omega)
            have iw2 := w64n (n := k) (by omega)
            have ei : (k : Int) - 1 = (j : Int) := by omega
            obtain ⟨g1, g2, g3, g4⟩ := HLA.out j hjl
            have g5 : (zth L j).mag.length ≤ N := by rw [g4]; exact zl_mid g2 g3 zp zc
            clear g4
            have g6' : (zth L j).v < (zth L k).v := by rw [hj]; exact HLR.out j (by omega)
            have hcr := fun (U : World) (hU : Ext wr U) => rcmpz_c (⟨B9, d9, rfl, hN9.ext hU⟩ : Zi U _ (.agg #[.bool (zth L j).neg, .slice B9 (zth L j).mag.length d9]) (zth L j)) (⟨B, d, rfl, hN2.ext hU⟩ : Zi U _ (.agg #[.bool (zth L k).neg, .slice B (zth L k).mag.length d]) (zth L k)) (by omega) (by omega)
            rw [cmpI_lt g6'] at hcr
            have HR := Lib.hid hcr
            clear h0 hj hA9 g1 g2 g3 g6' hcr
            go_wp2_with fail
            refine wp_region_seq 42 [(0, true), (1, true), (2, true), (3, true), (4, true), (5, false), (6, true), (7, true), (8, true), (9, true), (10, true), (11, true), (12, true), (13, false), (14, true), (15, true), (16, true), (17, true), (18, true), (19, true), (20, true), (21, true), (22, false), (23, true), (24, true), (25, true), (26, true), (27, true), (28, true), (29, true), (30, true), (31, true), (32, true), (33, true), (34, true), (35, true), (36, true), (37, true), (38, false), (39, true), (40, true), (41, true)] rfl (by kernel_rfl) (by intro _ _ d _ _ h; cases d <;> exact h) ?_
            (repeat (first | (refine sq_take (v := ?_) rfl rfl ?_ ?_; rotate_left; (intro w' hx'; have hc' := hx'.cells.1; (try simp only [wcd] at hc'); go_simp; (first | done | with_reducible rfl)); (try simp only [Act.put, List.setIfInBounds_toArray, List.set_cons_zero, List.set_cons_succ])) | (refine sq_skip rfl rfl ?_; (try simp only [Act.put, List.setIfInBounds_toArray, List.set_cons_zero, List.set_cons_succ])) | (refine sq_noloud rfl rfl ?_; (try simp only [Act.put, List.setIfInBounds_toArray, List.set_cons_zero, List.set_cons_succ])) | (refine sq_takeg (v := ?_) rfl rfl ?_ ?_; rotate_left; (intro w' hx'; have hc' := hx'.cells.1; (try simp only [wcd] at hc'); go_simp; (first | done | with_reducible rfl)); (try simp only [Act.put, List.setIfInBounds_toArray, List.set_cons_zero, List.set_cons_succ]))))
            (refine sq_loudg rfl rfl fun K hK => ?_; go_simp)
            refine (HH.out _ (by repeat (first | with_reducible assumption | with_reducible exact Ext.refl _ | with_reducible refine Ext.drewN ?_ _ | with_reducible refine Ext.drew ?_ | with_reducible refine Ext.alloc ?_ _ | (with_reducible refine Ext.setCell ?_ ?_ _; rotate_left; (first | exact Nat.le_refl _ | (dsimp only; omega) | (simp only [wsz]; omega))) | (with_reducible refine Ext.trans ?_ (by with_reducible assumption))))).mono ?_
            rintro e wa ⟨rfl, hxwa⟩
            have hywa : Ext wr wa := (by repeat (first | with_reducible assumption | with_reducible exact Ext.refl _ | with_reducible refine Ext.drewN ?_ _ | with_reducible refine Ext.drew ?_ | with_reducible refine Ext.alloc ?_ _ | (with_reducible refine Ext.setCell ?_ ?_ _; rotate_left; (first | exact Nat.le_refl _ | (dsimp only; omega) | (simp only [wsz]; omega))) | (with_reducible refine Ext.trans ?_ (by with_reducible assumption))))
            have hlwa : bb < wa.heap.size := Nat.lt_of_lt_of_le hbw hywa.size
            have q0wa := (hywa.cells.1 bb _ hbw).trans q0
            have q1wa := (hywa.cells.1 bb _ hbw).trans q1
            have q2wa := (hywa.cells.1 bb _ hbw).trans q2
            have q3wa := (hywa.cells.1 bb _ hbw).trans q3
            have r6wa := r6.ext hywa; have r6war := r6wa.rules; have r6wal := r6wa.lt
            have r8wa := r8.ext hywa; have r8war := r8wa.rules; have r8wal := r8wa.lt
            clear r6r r6l r8r r8l
            (refine hK _ _ (by repeat (first | with_reducible assumption | with_reducible exact Ext.refl _ | with_reducible refine Ext.drewN ?_ _ | with_reducible refine Ext.drew ?_ | with_reducible refine Ext.alloc ?_ _ | (with_reducible refine Ext.setCell ?_ ?_ _; rotate_left; (first | exact Nat.le_refl _ | (dsimp only; omega) | (simp only [wsz]; omega))) | (with_reducible refine Ext.trans ?_ (by with_reducible assumption)))) ?_; clear hK K; (try simp only [Act.put, List.setIfInBounds_toArray, List.set_cons_zero, List.set_cons_succ]))
            (repeat (first | (refine sq_take (v := ?_) rfl rfl ?_ ?_; rotate_left; (intro w' hx'; have hc' := hx'.cells.1; (try simp only [wcd] at hc'); go_simp; (first | done | with_reducible rfl)); (try simp only [Act.put, List.setIfInBounds_toArray, List.set_cons_zero, List.set_cons_succ])) | (refine sq_skip rfl rfl ?_; (try simp only [Act.put, List.setIfInBounds_toArray, List.set_cons_zero, List.set_cons_succ])) | (refine sq_noloud rfl rfl ?_; (try simp only [Act.put, List.setIfInBounds_toArray, List.set_cons_zero, List.set_cons_succ])) | (refine sq_takeg (v := ?_) rfl rfl ?_ ?_; rotate_left; (intro w' hx'; have hc' := hx'.cells.1; (try simp only [wcd] at hc'); go_simp; (first | done | with_reducible rfl)); (try simp only [Act.put, List.setIfInBounds_toArray, List.set_cons_zero, List.set_cons_succ]))))
            (refine sq_loudg rfl rfl fun K hK => ?_; go_simp)
            refine (HP.out _ (by repeat (first | with_reducible assumption | with_reducible exact Ext.refl _ | with_reducible refine Ext.drewN ?_ _ | with_reducible refine Ext.drew ?_ | with_reducible refine Ext.alloc ?_ _ | (with_reducible refine Ext.setCell ?_ ?_ _; rotate_left; (first | exact Nat.le_refl _ | (dsimp only; omega) | (simp only [wsz]; omega))) | (with_reducible refine Ext.trans ?_ (by with_reducible assumption))))).mono ?_
            rintro e wb ⟨rfl, hxwb⟩
            have hywb : Ext wr wb := (by repeat (first | with_reducible assumption | with_reducible exact Ext.refl _ | with_reducible refine Ext.drewN ?_ _ | with_reducible refine Ext.drew ?_ | with_reducible refine Ext.alloc ?_ _ | (with_reducible refine Ext.setCell ?_ ?_ _; rotate_left; (first | exact Nat.le_refl _ | (dsimp only; omega) | (simp only [wsz]; omega))) | (with_reducible refine Ext.trans ?_ (by with_reducible assumption))))
            have hlwb : bb < wb.heap.size := Nat.lt_of_lt_of_le hbw hywb.size
            have q0wb := (hywb.cells.1 bb _ hbw).trans q0
            have q1wb := (hywb.cells.1 bb _ hbw).trans q1
            have q2wb := (hywb.cells.1 bb _ hbw).trans q2
            have q3wb := (hywb.cells.1 bb _ hbw).trans q3
            have r6wb := r6.ext hywb; have r6wbr := r6wb.rules; have r6wbl := r6wb.lt
            have r8wb := r8.ext hywb; have r8wbr := r8wb.rules; have r8wbl := r8wb.lt
            clear hlwa q0wa q1wa q2wa q3wa r6war r6wal r8war r8wal
            (refine hK _ _ (by repeat (first | with_reducible assumption | with_reducible exact Ext.refl _ | with_reducible refine Ext.drewN ?_ _ | with_reducible refine Ext.drew ?_ | with_reducible refine Ext.alloc ?_ _ | (with_reducible refine Ext.setCell ?_ ?_ _; rotate_left; (first | exact Nat.le_refl _ | (dsimp only; omega) | (simp only [wsz]; omega))) | (with_reducible refine Ext.trans ?_ (by with_reducible assumption)))) ?_; clear hK K; (try simp only [Act.put, List.setIfInBounds_toArray, List.set_cons_zero, List.set_cons_succ]))
            (repeat (first | (refine sq_take (v := ?_) rfl rfl ?_ ?_; rotate_left; (intro w' hx'; have hc' := hx'.cells.1; (try simp only [wcd] at hc'); go_simp; (first | done | with_reducible rfl)); (try simp only [Act.put, List.setIfInBounds_toArray, List.set_cons_zero, List.set_cons_succ])) | (refine sq_skip rfl rfl ?_; (try simp only [Act.put, List.setIfInBounds_toArray, List.set_cons_zero, List.set_cons_succ])) | (refine sq_noloud rfl rfl ?_; (try simp only [Act.put, List.setIfInBounds_toArray, List.set_cons_zero, List.set_cons_succ])) | (refine sq_takeg (v := ?_) rfl rfl ?_ ?_; rotate_left; (intro w' hx'; have hc' := hx'.cells.1; (try simp only [wcd] at hc'); go_simp; (first | done | with_reducible rfl)); (try simp only [Act.put, List.setIfInBounds_toArray, List.set_cons_zero, List.set_cons_succ]))))
            (refine sq_loudg rfl rfl fun K hK => ?_; go_simp)
            refine (HQ.out _ (by repeat (first | with_reducible assumption | with_reducible exact Ext.refl _ | with_reducible refine Ext.drewN ?_ _ | with_reducible refine Ext.drew ?_ | with_reducible refine Ext.alloc ?_ _ | (with_reducible refine Ext.setCell ?_ ?_ _; rotate_left; (first | exact Nat.le_refl _ | (dsimp only; omega) | (simp only [wsz]; omega))) | (with_reducible refine Ext.trans ?_ (by with_reducible assumption))))).mono ?_
            rintro e wd ⟨rfl, hxwd⟩
            have hywd : Ext wr wd := (by repeat (first | with_reducible assumption | with_reducible exact Ext.refl _ | with_reducible refine Ext.drewN ?_ _ | with_reducible refine Ext.drew ?_ | with_reducible refine Ext.alloc ?_ _ | (with_reducible refine Ext.setCell ?_ ?_ _; rotate_left; (first | exact Nat.le_refl _ | (dsimp only; omega) | (simp only [wsz]; omega))) | (with_reducible refine Ext.trans ?_ (by with_reducible assumption))))
            have hlwd : bb < wd.heap.size := Nat.lt_of_lt_of_le hbw hywd.size
            have q0wd := (hywd.cells.1 bb _ hbw).trans q0
            have q1wd := (hywd.cells.1 bb _ hbw).trans q1
            have q2wd := (hywd.cells.1 bb _ hbw).trans q2
            have q3wd := (hywd.cells.1 bb _ hbw).trans q3
            have r6wd := r6.ext hywd; have r6wdr := r6wd.rules; have r6wdl := r6wd.lt
            have r8wd := r8.ext hywd; have r8wdr := r8wd.rules; have r8wdl := r8wd.lt
            clear hlwb q0wb q1wb q2wb q3wb r6wbr r6wbl r8wbr r8wbl
            (refine hK _ _ (by repeat (first | with_reducible assumption | with_reducible exact Ext.refl _ | with_reducible refine Ext.drewN ?_ _ | with_reducible refine Ext.drew ?_ | with_reducible refine Ext.alloc ?_ _ | (with_reducible refine Ext.setCell ?_ ?_ _; rotate_left; (first | exact Nat.le_refl _ | (dsimp only; omega) | (simp only [wsz]; omega))) | (with_reducible refine Ext.trans ?_ (by with_reducible assumption)))) ?_; clear hK K; (try simp only [Act.put, List.setIfInBounds_toArray, List.set_cons_zero, List.set_cons_succ]))
            (repeat (first | (refine sq_take (v := ?_) rfl rfl ?_ ?_; rotate_left; (intro w' hx'; have hc' := hx'.cells.1; (try simp only [wcd] at hc'); go_simp; (first | done | with_reducible rfl)); (try simp only [Act.put, List.setIfInBounds_toArray, List.set_cons_zero, List.set_cons_succ])) | (refine sq_skip rfl rfl ?_; (try simp only [Act.put, List.setIfInBounds_toArray, List.set_cons_zero, List.set_cons_succ])) | (refine sq_noloud rfl rfl ?_; (try simp only [Act.put, List.setIfInBounds_toArray, List.set_cons_zero, List.set_cons_succ])) | (refine sq_takeg (v := ?_) rfl rfl ?_ ?_; rotate_left; (intro w' hx'; have hc' := hx'.cells.1; (try simp only [wcd] at hc'); go_simp; (first | done | with_reducible rfl)); (try simp only [Act.put, List.setIfInBounds_toArray, List.set_cons_zero, List.set_cons_succ]))))
            (refine sq_loudg rfl rfl fun K hK => ?_; go_simp)
            refine (HR.out _ (by repeat (first | with_reducible assumption | with_reducible exact Ext.refl _ | with_reducible refine Ext.drewN ?_ _ | with_reducible refine Ext.drew ?_ | with_reducible refine Ext.alloc ?_ _ | (with_reducible refine Ext.setCell ?_ ?_ _; rotate_left; (first | exact Nat.le_refl _ | (dsimp only; omega) | (simp only [wsz]; omega))) | (with_reducible refine Ext.trans ?_ (by with_reducible assumption))))).mono ?_
            rintro e wf ⟨rfl, hxwf⟩
            have hywf : Ext wr wf := (by repeat (first | with_reducible assumption | with_reducible exact Ext.refl _ | with_reducible refine Ext.drewN ?_ _ | with_reducible refine Ext.drew ?_ | with_reducible refine Ext.alloc ?_ _ | (with_reducible refine Ext.setCell ?_ ?_ _; rotate_left; (first | exact Nat.le_refl _ | (dsimp only; omega) | (simp only [wsz]; omega))) | (with_reducible refine Ext.trans ?_ (by with_reducible assumption))))
            clear hlwd q0wd q1wd q2wd q3wd r6wdr r6wdl r8wdr r8wdl
            (refine hK _ _ (by repeat (first | with_reducible assumption | with_reducible exact Ext.refl _ | with_reducible refine Ext.drewN ?_ _ | with_reducible refine Ext.drew ?_ | with_reducible refine Ext.alloc ?_ _ | (with_reducible refine Ext.setCell ?_ ?_ _; rotate_left; (first | exact Nat.le_refl _ | (dsimp only; omega) | (simp only [wsz]; omega))) | (with_reducible refine Ext.trans ?_ (by with_reducible assumption)))) ?_; clear hK K; (try simp only [Act.put, List.setIfInBounds_toArray, List.set_cons_zero, List.set_cons_succ]))
            (repeat (first | (refine sq_take (v := ?_) rfl rfl ?_ ?_; rotate_left; (intro w' hx'; have hc' := hx'.cells.1; (try simp only [wcd] at hc'); go_simp; (first | done | with_reducible rfl)); (try simp only [Act.put, List.setIfInBounds_toArray, List.set_cons_zero, List.set_cons_succ])) | (refine sq_skip rfl rfl ?_; (try simp only [Act.put, List.setIfInBounds_toArray, List.set_cons_zero, List.set_cons_succ])) | (refine sq_noloud rfl rfl ?_; (try simp only [Act.put, List.setIfInBounds_toArray, List.set_cons_zero, List.set_cons_succ])) | (refine sq_takeg (v := ?_) rfl rfl ?_ ?_; rotate_left; (intro w' hx'; have hc' := hx'.cells.1; (try simp only [wcd] at hc'); go_simp; (first | done | with_reducible rfl)); (try simp only [Act.put, List.setIfInBounds_toArray, List.set_cons_zero, List.set_cons_succ]))))
            refine sq_done ?_
            go_wp2_with fail
            go_roundw
            case rel => exact ⟨k + 1, by omega, by go_num, hxk.out.trans hywf⟩
            case measure => simp [intOf] <;> omega
        · obtain rfl : k = L.length := by omega
          have r16r := r16.rules; have r16l := r16.lt
          go_wp2_with fail
          go_upto_region 30 with fail
          refine wp_region_seq 5 [(0, true), (1, true), (3, true), (2, false), (4, false), (5, false)] rfl (by kernel_rfl) (by intro _ _ d _ _ h; cases d <;> exact h) ?_
          (repeat (first | (refine sq_take (v := ?_) rfl rfl ?_ ?_; rotate_left; (intro w' hx'; have hc' := hx'.cells.1; (try simp only [wcd] at hc'); go_simp; (first | done | with_reducible rfl)); (try simp only [Act.put, List.setIfInBounds_toArray, List.set_cons_zero, List.set_cons_succ])) | (refine sq_skip rfl rfl ?_; (try simp only [Act.put, List.setIfInBounds_toArray, List.set_cons_zero, List.set_cons_succ])) | (refine sq_noloud rfl rfl ?_; (try simp only [Act.put, List.setIfInBounds_toArray, List.set_cons_zero, List.set_cons_succ])) | (refine sq_takeg (v := ?_) rfl rfl ?_ ?_; rotate_left; (intro w' hx'; have hc' := hx'.cells.1; (try simp only [wcd] at hc'); go_simp; (first | done | with_reducible rfl)); (try simp only [Act.put, List.setIfInBounds_toArray, List.set_cons_zero, List.set_cons_succ]))))
          (refine sq_loudg rfl rfl fun K hK => ?_; go_simp)
          refine (HNum.out (L.length : Nat) (by omega) (by omega) _).mono ?_
          rintro e w17 ⟨r17, rfl, hr17, hx17⟩
          have hy17 : Ext wr w17 := (by repeat (first | with_reducible assumption | with_reducible exact Ext.refl _ | with_reducible refine Ext.drewN ?_ _ | with_reducible refine Ext.drew ?_ | with_reducible refine Ext.alloc ?_ _ | (with_reducible refine Ext.setCell ?_ ?_ _; rotate_left; (first | exact Nat.le_refl _ | (dsimp only; omega) | (simp only [wsz]; omega))) | (with_reducible refine Ext.trans ?_ (by with_reducible assumption))))
          rw [HLC.out] at hr17
          clear r16r
          (refine hK _ _ (by repeat (first | with_reducible assumption | with_reducible exact Ext.refl _ | with_reducible refine Ext.drewN ?_ _ | with_reducible refine Ext.drew ?_ | with_reducible refine Ext.alloc ?_ _ | (with_reducible refine Ext.setCell ?_ ?_ _; rotate_left; (first | exact Nat.le_refl _ | (dsimp only; omega) | (simp only [wsz]; omega))) | (with_reducible refine Ext.trans ?_ (by with_reducible assumption)))) ?_; clear hK K; (try simp only [Act.put, List.setIfInBounds_toArray, List.set_cons_zero, List.set_cons_succ]))
          (repeat (first | (refine sq_take (v := ?_) rfl rfl ?_ ?_; rotate_left; (intro w' hx'; have hc' := hx'.cells.1; (try simp only [wcd] at hc'); go_simp; (first | done | with_reducible rfl)); (try simp only [Act.put, List.setIfInBounds_toArray, List.set_cons_zero, List.set_cons_succ])) | (refine sq_skip rfl rfl ?_; (try simp only [Act.put, List.setIfInBounds_toArray, List.set_cons_zero, List.set_cons_succ])) | (refine sq_noloud rfl rfl ?_; (try simp only [Act.put, List.setIfInBounds_toArray, List.set_cons_zero, List.set_cons_succ])) | (refine sq_takeg (v := ?_) rfl rfl ?_ ?_; rotate_left; (intro w' hx'; have hc' := hx'.cells.1; (try simp only [wcd] at hc'); go_simp; (first | done | with_reducible rfl)); (try simp only [Act.put, List.setIfInBounds_toArray, List.set_cons_zero, List.set_cons_succ]))))
          (refine sq_loudg rfl rfl fun K hK => ?_; go_simp)
          refine (lints_c hr17 (⟨A16, a16, rfl, n16r.ext hy17⟩ : Zi w17 _ (.agg #[.bool cc.neg, .slice A16 cc.mag.length a16]) cc)).mono ?_
          rintro e w18 ⟨rfl, hx18⟩
          have hy18 := hy17.trans hx18
          (refine hK _ _ (by repeat (first | with_reducible assumption | with_reducible exact Ext.refl _ | with_reducible refine Ext.drewN ?_ _ | with_reducible refine Ext.drew ?_ | with_reducible refine Ext.alloc ?_ _ | (with_reducible refine Ext.setCell ?_ ?_ _; rotate_left; (first | exact Nat.le_refl _ | (dsimp only; omega) | (simp only [wsz]; omega))) | (with_reducible refine Ext.trans ?_ (by with_reducible assumption)))) ?_; clear hK K; (try simp only [Act.put, List.setIfInBounds_toArray, List.set_cons_zero, List.set_cons_succ]))
          (repeat (first | (refine sq_take (v := ?_) rfl rfl ?_ ?_; rotate_left; (intro w' hx'; have hc' := hx'.cells.1; (try simp only [wcd] at hc'); go_simp; (first | done | with_reducible rfl)); (try simp only [Act.put, List.setIfInBounds_toArray, List.set_cons_zero, List.set_cons_succ])) | (refine sq_skip rfl rfl ?_; (try simp only [Act.put, List.setIfInBounds_toArray, List.set_cons_zero, List.set_cons_succ])) | (refine sq_noloud rfl rfl ?_; (try simp only [Act.put, List.setIfInBounds_toArray, List.set_cons_zero, List.set_cons_succ])) | (refine sq_takeg (v := ?_) rfl rfl ?_ ?_; rotate_left; (intro w' hx'; have hc' := hx'.cells.1; (try simp only [wcd] at hc'); go_simp; (first | done | with_reducible rfl)); (try simp only [Act.put, List.setIfInBounds_toArray, List.set_cons_zero, List.set_cons_succ]))))
          (refine sq_last rfl rfl fun K hK => ?_; go_simp; refine hK _ _ ?_; clear hK K)
          go_wp2_with fail
          go_ret
          exact ⟨rfl, hE0.trans (hEr.trans hy18)⟩

end Go.Proofs.YtbblgjjomgipfaaGreat
