/- atom.parted: a divisibility, or its opposite. No conditions. atom.Norm, Div, Not. No conditions. How long forms are. No conditions. -/
import Derived.Test.YthmjgbkakjpfkaaGreatDoorGLooksBa
import Derived.Test.YthmjgbkakjpfkaaGreatDoorGLooksAz
namespace Go.Proofs.YthmjgbkakjpfkaaGreatDoor
open Go.RowKit

set_option maxRecDepth 100000 in
set_option maxHeartbeats 12800000 in
theorem parted_c {u v : Value} {d : Z} {t : T} {not : Bool} {w : World} {X Y : Nat → Prop} {N : Nat} (hd : Zi w X u d) (h : Tv w Y v t) (hl : d.mag.length ≤ N) (hs : t.sz N) (hN2 : 2 ≤ N) (hN : N ≤ 16777216) (h0 : d.v ≠ 0) :
    Calls Tryz.prog 46 #[u, v, .bool not] w fun e w' => ∃ r, e = .returned (.tuple #[r, .int .i64 0]) ∧ AvF w' w.heap.size r (partedA d.v (vl t.ps) t.k.v not) ∧ Ext w w' := by
  have hlb := h.lb
  have hns := nf_sz hs hlb
  have hnp : vl t.nf.ps = cn (vl t.ps) := by rw [nf_ps, vl_cl]
  have hnk : t.nf.k.v = t.k.v := by rw [nf_k, cz_v]
  have hno := fun (U : World) (hU : Ext w U) => tnorm_f (h.ext hU) (show N ≤ 17179869184 by omega) hs
  have hzd : zl d.v ≤ N := Nat.le_trans (zl_of hd.lb) hl
  obtain ⟨m, hm⟩ : ∃ m, m = d.v.natAbs := ⟨_, rfl⟩
  have hm0 : 0 < m := by omega
  obtain ⟨mz, hmz⟩ : ∃ z, z = cz (m : Int) := ⟨_, rfl⟩
  have hmv : mz.v = m := by rw [hmz, cz_v]
  have hml : mz.mag.length ≤ N := by rw [hmz, cz_len, hm]; unfold zl at hzd ⊢; rwa [Int.natAbs_natCast]
  have hab := fun (U : World) (hU : Ext w U) => zabs_c (hd.ext hU) (show d.mag.length ≤ 4398046511104 by omega)
  simp only [← hm, ← hmz] at hab
  unfold partedA
  rw [← hm]
  -- the term's numbers by the divisor
  obtain ⟨n0, hn0⟩ : ∃ n, n = t.nf := ⟨_, rfl⟩
  rw [← hn0] at hns hnp hnk
  simp only [← hn0] at hno
  rw [← hnp, ← hnk]
  obtain ⟨R, hR⟩ : ∃ R, R = partedB (m : Int) (cn (fm (·.fmod (m : Int)) (vl n0.ps))) (n0.k.v.fmod (m : Int)) (gcdL ((cn (fm (·.fmod (m : Int)) (vl n0.ps))).map Prod.snd ++ [(m : Int)])) not := ⟨_, rfl⟩
  rw [← hR]
  have HR := Lib.hid hR
  clear hR
  obtain ⟨A, c, rfl, hd⟩ := hd
  obtain ⟨P, e, K, f, rfl, hP, hK⟩ := h
  have HNO := Lib.hid hno; have HAB := Lib.hid hab; have HMV := Lib.hid hmv
  clear hno hab hmv hmz hm hnp hnk hn0 hs hlb hzd hl
  go_enter Tryz.func46, Tryz.ntmps46
  go_wp2_with fail
  refine (HAB.out _ xt).mono ?_
  rintro e1 w1 ⟨_, rfl, ⟨A1, c1, rfl, hM⟩, hx1⟩
  have hE1 : Ext w w1 := ((Ext.refl w).alloc _ |>.alloc _ |>.alloc _).trans hx1
  have b3 : Box w1 w.heap.size 24 #[.bool d.neg, .slice A d.mag.length c] := Box.ext ((Box.new w _ _).alloc _ |>.alloc _) hx1
  have b4 : Box w1 (w.heap.size + 1) 27 #[.slice P t.ps.length e, .bool t.k.neg, .slice K t.k.mag.length f] := Box.ext ((Box.new_at _ _ _ (by simp only [wsz])).alloc _) hx1
  have b6 : Box w1 (w.heap.size + 1 + 1) 29 #[.int .i64 0, .bool false, .slice none 0 0, .slice none 0 0, .bool false, .slice none 0 0] := Box.ext (Box.new_at _ _ _ (by simp only [wsz])) hx1
  have hs1 := hx1.size
  simp only [wsz] at hs1
  have b3r := b3.rules; have b3l := b3.lt
  go_upto_region 2 with fail
  refine wp_named fun W hW => ?_
  have k3 : Box W w.heap.size 24 #[.bool mz.neg, .slice A1 mz.mag.length c1] := by rw [hW]; exact (b3.set_ 0 _).set_ 1 _
  have k4 : Box W (w.heap.size + 1) 27 #[.slice P t.ps.length e, .bool t.k.neg, .slice K t.k.mag.length f] := by rw [hW]; exact (b4.far (by simp only; omega) _).far (by simp only; omega) _
  have k6 : Box W (w.heap.size + 1 + 1) 29 #[.int .i64 0, .bool false, .slice none 0 0, .slice none 0 0, .bool false, .slice none 0 0] := by rw [hW]; exact (b6.far (by simp only; omega) _).far (by simp only; omega) _
  have hE : Ext w W := by rw [hW]; exact (hE1.setCell (Nat.le_refl _) _).setCell (Nat.le_refl _) _
  have hM := (hM.widen (Y := fun b => w.heap.size + 3 ≤ b) fun b hb _ => by simp only [wsz] at hb; omega).keep (w' := W) (by rw [hW]; exact ((Kp.refl w1).setCell (by simp only; omega) _).setCell (by simp only; omega) _)
  clear hW b3 b4 b6 b3r b3l hx1 hE1 hs1
  have hMz : mz.mag.length ≤ 64 * N := by omega
  have hzm : zl (m : Int) ≤ N := by rw [← HMV.out]; exact Nat.le_trans (zl_of hM.lb) hml
  have hm00 : (0 : Int) < (m : Int) := by omega
  have hsg := fun (U : World) (hU : Ext W U) => zsign_c (⟨A1, c1, rfl, hM.ext hU⟩ : Zi U _ (.agg #[.bool mz.neg, .slice A1 mz.mag.length c1]) mz)
  rw [HMV.out, show sgn (m : Int) = 1 from cmpI_gt hm00] at hsg
  have hmo := fun (U : World) (hU : Ext W U) => mod_c (⟨A1, c1, rfl, hM.ext hU⟩ : Zi U _ (.agg #[.bool mz.neg, .slice A1 mz.mag.length c1]) mz)
  have HSG := Lib.hid hsg; have HMO := Lib.hid hmo
  clear hsg hmo
  have k3r := k3.rules; have k3l := k3.lt
  go_wp2_with fail
  refine (HSG.out _ xt).mono ?_
  rintro e2 w2 ⟨rfl, hx2⟩
  have m3 := k3.ext hx2
  have m3r := m3.rules; have m3l := m3.lt
  clear k3r k3l
  go_wp2_with fail
  refine (HMO.out _ hx2).mono ?_
  rintro e3 w3 ⟨g8, rfl, hg8, hb8, hx3⟩
  have hx13 := hx2.trans hx3
  have q3 := k3.ext hx13; have q4 := k4.ext hx13; have q6 := k6.ext hx13
  have q4r := q4.rules; have q4l := q4.lt
  clear m3r m3l m3
  go_wp2_with fail
  refine (HNO.out _ (hE.trans hx13)).mono ?_
  rintro e4 w4 ⟨_, rfl, hT, hx4⟩
  have htv := hT.tv
  obtain ⟨A5, e5, C5, f5, rfl, -, -, -⟩ := hT
  have hmv0 : mz.v ≠ 0 := by rw [HMV.out]; omega
  have hf84 := modf_c (N := 64 * N) (hb8.ext hx4) hmv0 (by omega) hMz
  rw [HMV.out] at hf84
  have hns64 : n0.sz (64 * N) := hns.mono (by omega)
  have hmp := mapped_c (N := 64 * N) (M := 64 * N) htv hns64 (Nat.le_refl _) (by omega) hf84 hf84 (fun x _ => Nat.le_trans (fmod_zl hm00 hzm) (by omega)) (fun x _ => Nat.le_trans (fmod_zl hm00 hzm) (by omega))
  obtain ⟨l1, hl1⟩ : ∃ l, l = fm (·.fmod (m : Int)) (vl n0.ps) := ⟨_, rfl⟩
  obtain ⟨k1, hk1⟩ : ∃ l, l = n0.k.v.fmod (m : Int) := ⟨_, rfl⟩
  obtain ⟨T1, hT1⟩ : ∃ T, T = ct l1 k1 := ⟨_, rfl⟩
  have hT1s : T1.sz (4 * N) := by
    rw [hT1, show 4 * N = 2 * N + 2 * N by omega]
    refine ct_sz ?_ ?_ ?_
    · rw [hl1, fm_len, vl_len]; have := hns.1; omega
    · intro q hq
      rw [hl1] at hq
      obtain ⟨q0, _, rfl⟩ := List.mem_map.1 hq
      exact Nat.le_trans (fmod_zl hm00 hzm) (by omega)
    · rw [hk1]; exact Nat.le_trans (fmod_zl hm00 hzm) (by omega)
  rw [← hl1, ← hk1, ← hT1] at hmp
  have HMP := Lib.hid hmp; have HL1 := Lib.hid hl1; have HK1 := Lib.hid hk1; have HT1 := Lib.hid hT1
  clear hmp hl1 hk1 hT1
  go_wp2_with fail
  refine (HMP.out).mono ?_
  rintro e5' w5 ⟨_, rfl, hT, hx5⟩
  have hx35 := hx4.trans hx5
  have p4 := q4.ext hx35
  have p4r := p4.rules; have p4l := p4.lt
  clear q4r q4l
  have hTt := hT.tv
  obtain ⟨A6, e6, C6, f6, rfl, -, -, -⟩ := hT
  go_upto_region 6 with fail
  refine wp_named fun V hV => ?_
  have r4 : Box V (w.heap.size + 1) 27 #[.slice A6 T1.ps.length e6, .bool T1.k.neg, .slice C6 T1.k.mag.length f6] := by rw [hV]; exact ((p4.set_ 0 _).set_ 1 _).set_ 2 _
  have r3 : Box V w.heap.size 24 #[.bool mz.neg, .slice A1 mz.mag.length c1] := by rw [hV]; exact (((q3.ext hx35).far (by simp only; omega) _).far (by simp only; omega) _).far (by simp only; omega) _
  have r6 : Box V (w.heap.size + 1 + 1) 29 #[.int .i64 0, .bool false, .slice none 0 0, .slice none 0 0, .bool false, .slice none 0 0] := by rw [hV]; exact (((q6.ext hx35).far (by simp only; omega) _).far (by simp only; omega) _).far (by simp only; omega) _
  have hkV : Kp (fun b => w.heap.size + 2 < b) w5 V := by rw [hV]; exact (((Kp.refl w5).setCell (by simp only; omega) _).setCell (by simp only; omega) _).setCell (by simp only; omega) _
  have hs35 := hx35.size; have hs13 := hx13.size; have hsW := hx4.size
  have hEV : Ext w V := by rw [hV]; exact ((((hE.trans hx13).trans hx35).setCell (by simp only; omega) _).setCell (by simp only; omega) _).setCell (by simp only; omega) _
  have hW3 : w.heap.size + 3 ≤ W.heap.size := by have := k6.lt; omega
  have hM5 := (((hM.ext hx13).ext hx35).widen (Y := fun b => w.heap.size + 2 < b) fun b hb _ => by omega).keep hkV
  have hTV := (hTt.widen (Y := fun b => w.heap.size + 2 < b) fun b hb _ => by omega).keep hkV
  have hs2 := hx2.size
  have hg8' : w.heap.size + 2 < g8 := by omega
  have hb8V := (hb8.ext hx35).keep hkV hg8' (fun b hb => by omega)
  clear hV p4 p4r p4l q3 q4 q6 hTt hkV hx13 hx35 hx2 hx3 hx4 hx5 htv hb8 hf84 k3 k4 k6 hg8
  obtain ⟨hP6, hK6⟩ : Pl V (fun b => w.heap.size + 2 < b) A6 e6 T1.ps ∧ Nl V (fun b => w.heap.size + 2 < b) C6 f6 T1.k.mag := by
    obtain ⟨_, _, _, _, hTe, h1, h2⟩ := hTV
    simp only [Value.agg.injEq, Array.mk.injEq, List.cons.injEq, Value.slice.injEq, and_true, true_and] at hTe
    obtain ⟨⟨rfl, rfl⟩, rfl, rfl⟩ := hTe
    exact ⟨h1, h2⟩
  clear hTV
  have hT1lb : T1.lb := by rw [HT1.out]; exact ct_lb _ _
  -- the greatest common divisor
  obtain ⟨L, hL⟩ : ∃ L, L = T1.ps.map Prod.snd ++ [mz] := ⟨_, rfl⟩
  obtain ⟨g, hg⟩ : ∃ g, g = gcdL (L.map Z.v) := ⟨_, rfl⟩
  obtain ⟨gz, hgz⟩ : ∃ z, z = cz (g : Int) := ⟨_, rfl⟩
  have hLb : ∀ z ∈ L, z.mag.length ≤ 4 * N ∧ zl z.v ≤ 4 * N := fun z hz => by
    rw [hL] at hz
    rcases List.mem_append.1 hz with hz | hz
    · obtain ⟨q, hq, rfl⟩ := List.mem_map.1 hz
      exact ⟨hT1s.2.1 q hq, Nat.le_trans (zl_of (hT1lb.1 q hq)) (hT1s.2.1 q hq)⟩
    · obtain rfl := List.mem_singleton.1 hz
      exact ⟨by omega, by rw [HMV.out]; omega⟩
  have hmm : (m : Int) ∈ L.map Z.v := by rw [hL, List.map_append]; simp [HMV.out]
  have hg0 : 0 < g := by rw [hg]; exact gcdL_pos hmm (by omega)
  have hgm : g ≤ m := by have := gcdL_le hmm (by omega); rw [← hg, Int.natAbs_natCast] at this; exact this
  have hgv : gz.v = g := by rw [hgz, cz_v]
  have hgl : gz.mag.length ≤ N := by
    rw [hgz, cz_len]
    exact Nat.le_trans (zl_mono (by rw [Int.natAbs_natCast, Int.natAbs_natCast]; exact hgm)) hzm
  have hLl : L.length ≤ 1099511627776 := by rw [hL, List.length_append, List.length_map]; have := hT1s.1; simp; omega
  have hgcd : ∀ (U : World) (Q : Nat → Prop) (A2 : Option Addr) (c2 n : Nat), n = L.length → Zs U Q A2 c2 L → Calls Tryz.prog 13 #[.slice A2 n c2] U fun e w' => ∃ r, e = .returned r ∧ Zi w' (U.heap.size ≤ ·) r gz ∧ Ext U w' := fun U Q A2 c2 n hn hz => by
    rw [hn, hgz, hg]
    exact zgcd_c (N := 4 * N) hz (by omega) hLb hLl
  have hM5 := hM5.widen (Y := fun b => w.heap.size + 2 < b ∧ b < V.heap.size) fun b hb hl => ⟨hb, hl⟩
  have hco : ∀ U, Ext V U → Calls Tryz.prog 59 #[.agg #[.slice A6 T1.ps.length e6, .bool T1.k.neg, .slice C6 T1.k.mag.length f6]] U fun e w' => ∃ r, e = .returned r ∧ Own 2 EZ w' (fun b => w.heap.size + 2 < b ∧ b < V.heap.size) V.heap.size 24 r (T1.ps.map Prod.snd) ∧ (∀ j, r.ownBlock = some j → U.heap.size ≤ j) ∧ Ext U w' := fun U hU =>
    (coefs_c (⟨A6, e6, C6, f6, rfl, (hP6.widen (Y := fun b => w.heap.size + 2 < b ∧ b < V.heap.size) fun b hb hl => ⟨hb, hl⟩).ext hU, (hK6.widen (Y := fun b => w.heap.size + 2 < b ∧ b < V.heap.size) fun b hb hl => ⟨hb, hl⟩).ext hU⟩ : Tv U _ (.agg #[.slice A6 T1.ps.length e6, .bool T1.k.neg, .slice C6 T1.k.mag.length f6]) T1) (by have := hT1s.1; omega)).mono
      fun e w' ⟨r, he, hO, hx⟩ => ⟨r, he, (Own.widen hO fun b hb _ => hb.1).lower hU.size, fun j hj => (hO.row j hj).1, hx⟩
  have hl0 : (T1.ps.map Prod.snd).length ≤ 2199023255552 := by rw [List.length_map]; have := hT1s.1; omega
  obtain ⟨L0, hL0⟩ : ∃ L, L = T1.ps.map Prod.snd := ⟨_, rfl⟩
  rw [← hL0] at hL hl0
  simp only [← hL0] at hco
  have HL := Lib.hid hL; have HG := Lib.hid hg; have HGC := Lib.hid hgcd; have HCO := Lib.hid hco; have HGV := Lib.hid hgv; have HL0 := Lib.hid hL0; have HLL := Lib.hid hl0
  clear hL hg hgz hLb hmm hLl hgcd hco hgv hL0 hl0
  go_cut [9] (fun v9 wx => ∃ g9, v9 = .pointer (some ⟨g9, 0, none⟩) ∧ Bz wx (V.heap.size ≤ ·) g9 gz ∧ V.heap.size ≤ g9 ∧ Ext V wx)
  case first => as_aux_lemma =>
    have r3l := r3.lt; have r4l := r4.lt
    refine wp_region_inv [(0, 27, []), (1, 28, [(0, 27)]), (2, 29, []), (3, 30, [(2, 29)]), (4, 31, [(1, 28), (3, 30)]), (5, 32, [(4, 31)]), (6, 9, [])] [7] [27, 28, 29, 30, 31, 32, 9] (Inv6 V (w.heap.size + 2) (.agg #[.slice A6 T1.ps.length e6, .bool T1.k.neg, .slice C6 T1.k.mag.length f6]) A1 c1 mz gz L0) rfl (by kernel_rfl) (by kernel_rfl) (by kernel_rfl) ?_ ?_ ?_
    · intro f
      refine ⟨(Ext.refl V).drew, ?_, ?_, ?_, ?_, ?_, ?_, ?_⟩ <;> (intro h; cases h)
    · refine iv_step rfl rfl rfl (fun L f w1 hI hL hj K hK => ?_) ?_
      · have q4 := r4.ext hI.1
        have q4r := q4.rules; have q4l := q4.lt
        (simp only [fillA, Act.put, List.setIfInBounds_toArray, List.set_cons_zero, List.set_cons_succ] at hK; (simp only [fillA]; (try simp only [pt])))
        go_simp
        refine hK _ _ ?_
        obtain ⟨h1, h2, h3, h4, h5, h6, h7, h8⟩ := hI
        exact ⟨h1, fun _ => rfl, h3, h4, h5, h6, h7, h8⟩
      refine iv_step rfl rfl rfl (fun L f w1 hI hL hj K hK => ?_) ?_
      · have e27 := hI.2.1 (hj (0, 27) (by simp))
        (simp only [fillA, Act.put, List.setIfInBounds_toArray, List.set_cons_zero, List.set_cons_succ] at hK; (simp only [fillA]; (try simp only [pt])))
        simp only [e27] at hK ⊢
        go_simp
        refine (HCO.out _ hI.1).mono ?_
        rintro e7 w7 ⟨v28, rfl, hO28, hrow, hx7⟩
        refine hK _ _ ?_
        have hb3 := hI.2.2.2.2.1
        have hb9 := hI.2.2.2.2.2.2.2
        obtain ⟨h1, h2, h3, h4, h5, h6, h7, h8⟩ := hI.ext hx7
        refine ⟨h1, h2, h3, fun _ _ => hO28, fun a b => ?_, h6, h7, fun a => ?_⟩
        · obtain ⟨g', x1, x2, x3, x4⟩ := h5 a b
          obtain ⟨g2, y1, y2, -, -⟩ := hb3 a b
          rw [x1] at y1
          have : g' = g2 := by injection y1 with y; exact congrArg Addr.block (Option.some.inj y)
          subst this
          exact ⟨g', x1, x2, x3, fun _ e => by have h9 := hrow _ e; have h10 := y2.lt; omega⟩
        · obtain ⟨g', x1, x2, x3, x4⟩ := h8 a
          obtain ⟨g2, y1, y2, -, -⟩ := hb9 a
          rw [x1] at y1
          have : g' = g2 := by injection y1 with y; exact congrArg Addr.block (Option.some.inj y)
          subst this
          exact ⟨g', x1, x2, x3, fun _ _ e => by have h9 := hrow _ e; have h10 := y2.lt; omega⟩
      refine iv_step rfl rfl rfl (fun L f w1 hI hL hj K hK => ?_) ?_
      · have q3 := r3.ext hI.1
        have q3r := q3.rules; have q3l := q3.lt
        (simp only [fillA, Act.put, List.setIfInBounds_toArray, List.set_cons_zero, List.set_cons_succ] at hK; (simp only [fillA]; (try simp only [pt])))
        go_simp
        refine hK _ _ ?_
        obtain ⟨h1, h2, h3, h4, h5, h6, h7, h8⟩ := hI
        exact ⟨h1, h2, fun _ => rfl, h4, h5, h6, h7, h8⟩
      refine iv_step rfl rfl rfl (fun L f w1 hI hL hj K hK => ?_) ?_
      · have e29 := hI.2.2.1 (hj (2, 29) (by simp))
        (simp only [fillA, Act.put, List.setIfInBounds_toArray, List.set_cons_zero, List.set_cons_succ] at hK; (simp only [fillA]; (try simp only [pt])))
        simp only [e29] at hK ⊢
        go_simp
        refine hK _ _ ?_
        have hO := hI.2.2.2.1
        have hsz := hI.1.size
        obtain ⟨h1, h2, h3, h4, h5, h6, h7, h8⟩ := hI.ext ((Ext.refl w1).alloc (.cells #[.bool mz.neg, .slice A1 mz.mag.length c1] 24))
        exact ⟨h1, h2, h3, h4, fun _ b => ⟨w1.heap.size, rfl, Box.new _ _ _, hsz, fun a e => by have h9 := ((hO a b).row _ e).2; omega⟩, h6, h7, h8⟩
      refine iv_step rfl rfl rfl (fun L f w1 hI hL hj K hK => ?_) ?_
      · have l1 := hj (1, 28) (by simp)
        have l3 := hj (3, 30) (by simp)
        have hO := hI.2.2.2.1 l1 hL
        obtain ⟨g30, e30, hb30, hg30, hn30⟩ := hI.2.2.2.2.1 l3 hL
        have hsz := hI.1.size
        have hrow := hO.row
        have hll := HLL.out
        (simp only [fillA, Act.put, List.setIfInBounds_toArray, List.set_cons_zero, List.set_cons_succ] at hK; (simp only [fillA]; (try simp only [pt])))
        simp only [e30] at hK ⊢
        refine op_app ety_z (.tmp 28) (.tmp 30) (m := [mz]) (A := some ⟨g30, 0, none⟩) (c := 1) hO (Fl.one (cs := [.bool mz.neg, .slice A1 mz.mag.length c1]) ⟨A1, c1, rfl, (Nl.ext hM5 hI.1).widen fun q hq _ => ⟨hq, fun e => by have h9 := (hrow _ e).1; have h10 := hq.2; omega⟩⟩ rfl)
          (fun _ => ⟨g30, 0, rfl, box_two hb30⟩) (by simp only [List.length_cons, List.length_nil]; omega) (by simp only [List.length_cons, List.length_nil, maxLen]; omega) hsz rfl rfl rfl ?_
        intro v31 w2 hO2 hg2 hv2
        refine hK _ _ ?_
        have hx2 : Ext V w2 := hI.1.grown hg2 fun j hj => (hrow j hj).1
        obtain ⟨A31, c31, rfl, hZ31⟩ := Own.sl hO2 (by omega) (X := fun _ => True) (fun _ _ => trivial)
        obtain ⟨h1, h2, h3, h4, h5, h6, h7, h8⟩ := hI
        refine ⟨hx2, h2, h3, fun _ b => (by cases b), fun _ b => (by cases b), fun _ _ => ⟨A31, c31, by rw [List.length_append]; rfl, hZ31⟩, fun a => ?_, fun a => ?_⟩
        · have := (h7 a).1
          rw [hL] at this
          cases this
        · obtain ⟨g', x1, x2, x3, x4⟩ := h8 a
          exact ⟨g', x1, x2.grown hg2 (fun e => x4 l1 hL e.symm), x3, fun _ b => (by cases b)⟩
      refine iv_step rfl rfl rfl (fun L f w1 hI hL hj K hK => ?_) ?_
      · have l4 := hj (4, 31) (by simp)
        obtain ⟨A31, c31, e31, hZ31⟩ := hI.2.2.2.2.2.1 l4 hL
        rw [← HL.out] at hZ31
        (simp only [fillA, Act.put, List.setIfInBounds_toArray, List.set_cons_zero, List.set_cons_succ] at hK; (simp only [fillA]; (try simp only [pt])))
        simp only [e31] at hK ⊢
        go_simp
        refine (HGC.out _ _ _ _ _ (by rw [HL.out]; simp) hZ31).mono ?_
        rintro e8 w8 ⟨v32, rfl, hZ32, hx8⟩
        refine hK _ _ ?_
        have hsz := hI.1.size
        obtain ⟨h1, h2, h3, h4, h5, h6, h7, h8⟩ := hI.ext hx8
        exact ⟨h1, h2, h3, h4, h5, fun _ b => (by cases b), fun _ => ⟨l4, hZ32.widen fun q hq _ => by omega⟩, h8⟩
      refine iv_step rfl rfl rfl (fun L f w1 hI hL hj K hK => ?_) iv_nil
      · (simp only [fillA, Act.put, List.setIfInBounds_toArray, List.set_cons_zero, List.set_cons_succ] at hK; (simp only [fillA]; (try simp only [pt])))
        go_simp
        refine hK _ _ ?_
        have hO := hI.2.2.2.1
        have hsz := hI.1.size
        obtain ⟨h1, h2, h3, h4, h5, h6, h7, h8⟩ := hI.ext ((Ext.refl w1).alloc (.cells #[.bool false, .slice none 0 0] 24))
        exact ⟨h1, h2, h3, h4, h5, h6, h7, fun _ => ⟨w1.heap.size, rfl, Box.new _ _ _, hsz, fun a b e => by have h9 := ((hO a b).row _ e).2; omega⟩⟩
    · intro L f w2 hall hI
      obtain ⟨h1, h2, h3, h4, h5, h6, h7, h8⟩ := hI
      obtain ⟨-, A9, c9, e32, hN9⟩ := h7 (hall (5, 32, [(4, 31)]) (by simp))
      obtain ⟨g9, e9, hb9, hg9, -⟩ := h8 (hall (6, 9, []) (by simp))
      (simp only [fillA]; (try simp only [pt]))
      simp only [e32, e9]
      have hb9r := hb9.rules; have hb9l := hb9.lt
      (refine sh_late rfl rfl fun K hK => ?_; go_simp; refine hK _ _ ?_; clear hK K)
      refine sh_end ?_
      go_wp2_with fail
      go_meet
      exact ⟨g9, rfl, ⟨A9, c9, (hb9.set_ 0 _).set_ 1 _, Nl.widen (Nl.keep (Nl.off hN9 hb9 (by simp)) (((Kp.refl w2).setCell (fun h => h.2 rfl) _).setCell (fun h => h.2 rfl) _)) fun _ h _ => h.1⟩, hg9, (h1.setCell (by simp only; omega) _).setCell (by simp only; omega) _⟩
  obtain ⟨g9, rfl, hz9, hg9, hxc⟩ := hcut
  obtain ⟨V6, rfl⟩ : ∃ U, U = wc := ⟨_, rfl⟩
  have hE6 := hEV.trans hxc
  have u3 := r3.ext hxc; have u4 := r4.ext hxc; have u6 := r6.ext hxc
  have hP6 := hP6.ext hxc; have hK6 := Nl.ext hK6 hxc; have hM6 := Nl.ext hM5 hxc
  have hb8 := hb8V.ext hxc
  have hsV := hxc.size
  obtain ⟨A9, c9, x9, n9⟩ := hz9
  have hn9 := n9.widen (Y := fun b => w.heap.size + 2 < b) fun b hb _ => by have := r6.lt; omega
  have hmp : w.heap.size + 2 < V.heap.size := by have := r6.lt; omega
  have hps : T1.ps = cl (cn l1) := by rw [HT1.out]; rfl
  have hkv : T1.k.v = k1 := by rw [HT1.out]; exact cz_v _
  have hR2 : R = partedB (m : Int) (cn l1) T1.k.v g not := by
    rw [HR.out, ← HL1.out, hkv, HK1.out, HG.out, HL.out, HL0.out, hps, List.map_append, cl_snd, List.map_singleton, HMV.out]
  have hlen : T1.ps.length = (cn l1).length := by rw [hps, cl_len]
  have HR2 := Lib.hid hR2; have HKV := Lib.hid hkv; have HPS := Lib.hid hps; have HLE := Lib.hid hlen
  clear hxc r3 r4 r6 hb8V hM5 HCO HGC HLL HL0 n9 hR2 hkv hps hlen
  have x9r := x9.rules; have x9l := x9.lt
  have hov := fun (U : World) (hU : Ext V6 U) => over_c (⟨A9, c9, rfl, hn9.ext hU⟩ : Zi U _ (.agg #[.bool gz.neg, .slice A9 gz.mag.length c9]) gz)
  have HOV := Lib.hid hov
  clear hov
  go_wp2_with fail
  refine (HOV.out _ (Ext.refl _)).mono ?_
  rintro e7 w7 ⟨g10, rfl, hg10, hz10, hx7⟩
  clear x9r x9l
  go_upto_region 8 with fail
  refine wp_named fun V7 hV7 => ?_
  have hx67 : Ext V6 V7 := by rw [hV7]; exact hx7
  have hz10 := hz10.ext (V' := V7) (by rw [hV7]; exact Ext.refl _)
  clear hV7 hx7
  have hE7 := hE6.trans hx67
  have t3 := u3.ext hx67; have t4 := u4.ext hx67; have t6 := u6.ext hx67; have t9 := x9.ext hx67
  have hP7 := hP6.ext hx67; have hK7 := Nl.ext hK6 hx67; have hM7 := Nl.ext hM6 hx67; have hN9 := Nl.ext hn9 hx67
  have hb8 := hb8.ext hx67
  have hs67 := hx67.size
  clear u3 u4 u6 x9 hP6 hK6 hM6 hn9 HOV hE6 hx67
  have hg00 : (0 : Int) < (g : Int) := by omega
  have hgv0 : gz.v ≠ 0 := by rw [HGV.out]; omega
  obtain ⟨one, hone⟩ : ∃ z, z = cz ((m : Int).fdiv (g : Int)) := ⟨_, rfl⟩
  obtain ⟨rr, hrr⟩ : ∃ z, z = cz (T1.k.v.fmod (g : Int)) := ⟨_, rfl⟩
  obtain ⟨sg, hsg⟩ : ∃ s, s = sgn (T1.k.v.fmod (g : Int)) := ⟨_, rfl⟩
  have hT1k : T1.k.mag.length ≤ 64 * N := Nat.le_trans hT1s.2.2 (by omega)
  have hcut := fun (U : World) (hU : Ext V7 U) => (overf_c (N := 64 * N) (hz10.ext hU) hgv0 (by omega) (by omega)).2 U (Ext.refl U) _ _ _ (⟨A1, c1, rfl, hM7.ext hU⟩ : Zi U _ (.agg #[.bool mz.neg, .slice A1 mz.mag.length c1]) mz) hMz
  have hmd := fun (U : World) (hU : Ext V7 U) => mod_c (⟨A9, c9, rfl, hN9.ext hU⟩ : Zi U _ (.agg #[.bool gz.neg, .slice A9 gz.mag.length c9]) gz)
  have hrs := fun (U : World) (hU : Ext V7 U) (gg : Nat) (hb : Bz U (fun _ => True) gg gz) => (modf_c (N := 64 * N) hb hgv0 (by omega) (by omega)).2 U (Ext.refl U) _ _ _ (⟨C6, f6, rfl, hK7.ext hU⟩ : Zi U _ (.agg #[.bool T1.k.neg, .slice C6 T1.k.mag.length f6]) T1.k) hT1k
  rw [HMV.out, HGV.out, ← hone] at hcut
  rw [HGV.out, ← hrr] at hrs
  have hsn := fun (U : World) (Q : Nat → Prop) (r : Value) (hr : Zi U Q r rr) => zsign_c hr
  rw [hrr, cz_v, ← hsg, ← hrr] at hsn
  have HCUT := Lib.hid hcut; have HMD := Lib.hid hmd; have HRS := Lib.hid hrs; have HSN := Lib.hid hsn; have HONE := Lib.hid hone; have HSG2 := Lib.hid hsg
  clear hcut hmd hrs hsn hone hrr hsg
  go_cut [11, 12] (fun v11 v12 wx => ∃ g11, v11 = .pointer (some ⟨g11, 0, none⟩) ∧ v12 = .int .i64 sg ∧ Bz wx (fun b => w.heap.size + 2 < b) g11 one ∧ w.heap.size + 2 < g11 ∧ Ext V7 wx)
  case first => as_aux_lemma =>
    have t3l := t3.lt; have t4l := t4.lt; have t9l := t9.lt
    refine wp_region_free [(0, 35, []), (1, 36, []), (2, 37, [(0, 35), (1, 36)]), (3, 38, []), (4, 39, [(2, 37), (3, 38)]), (5, 40, []), (6, 41, [(5, 40)]), (7, 42, [(4, 39), (6, 41)]), (8, 43, [(7, 42)]), (9, 11, [])] [10, 11] [35, 36, 37, 38, 39, 40, 41, 42, 43, 11] [9] [] [phiEq (.func (.func 102) #[] #[.pointer (some ⟨g10, 0, none⟩)]), phiEq (.agg #[.bool mz.neg, .slice A1 mz.mag.length c1]), phiZ (V7.heap.size ≤ ·) one, phiEq (.agg #[.bool gz.neg, .slice A9 gz.mag.length c9]), phiMod gz, phiEq (.pointer (some ⟨w.heap.size + 1, 1, none⟩)), phiEq (.agg #[.bool T1.k.neg, .slice C6 T1.k.mag.length f6]), phiZ (fun _ => True) rr, phiEq (.int .i64 sg), phiBox V7.heap.size 24 #[.bool false, .slice none 0 0]] rfl (by kernel_rfl) (by intro _ _ d _ _ h; cases d <;> exact h) (by kernel_rfl) (by kernel_rfl) ?_ ?_
    · have q0 : V7.cell? ⟨w.heap.size, 0, none⟩ = some (.bool mz.neg) := by rw [t3.cell]; rfl
      have q1 : V7.cell? ⟨w.heap.size, 1, none⟩ = some (.slice A1 mz.mag.length c1) := by rw [t3.cell]; rfl
      have q2 : V7.cell? ⟨g9, 0, none⟩ = some (.bool gz.neg) := by rw [t9.cell]; rfl
      have q3 : V7.cell? ⟨g9, 1, none⟩ = some (.slice A9 gz.mag.length c9) := by rw [t9.cell]; rfl
      have q4 : V7.cell? ⟨w.heap.size + 1, 1, none⟩ = some (.bool T1.k.neg) := by rw [t4.cell]; rfl
      have q5 : V7.cell? ⟨w.heap.size + 1, 2, none⟩ = some (.slice C6 T1.k.mag.length f6) := by rw [t4.cell]; rfl
      (refine ps_eq rfl rfl rfl rfl rfl rfl ?_ ?_; focus (intro f w1 hx hd; have hc' := hx.cells.1; (try simp only [wcd] at hc'); (dsimp only [PhiDeps, phiAt, phiEq, phiZ, phiAny, phiBox] at hd); (simp only [fillA]; (try simp only [pt])); (try simp only [hd]); go_simp; (first | done | with_reducible rfl)))
      (refine ps_eq rfl rfl rfl rfl rfl rfl ?_ ?_; focus (intro f w1 hx hd; have hc' := hx.cells.1; (try simp only [wcd] at hc'); have z0 := (hc' _ 0 t3l).trans q0; have z1 := (hc' _ 1 t3l).trans q1; clear hc'; (dsimp only [PhiDeps, phiAt, phiEq, phiZ, phiAny, phiBox] at hd); (simp only [fillA]; (try simp only [pt])); (try simp only [hd]); go_simp; (first | done | with_reducible rfl)))
      (refine ps_loud rfl rfl rfl rfl rfl (fun f w1 hx hd K hK => ?_) ?_)
      · (have hc' := hx.cells.1; (try simp only [wcd] at hc'); (dsimp only [PhiDeps, phiAt, phiEq, phiZ, phiAny, phiBox] at hd); simp only [fillA, Act.put, List.setIfInBounds_toArray, List.set_cons_zero, List.set_cons_succ] at hK; (simp only [fillA]; (try simp only [pt])); (try simp only [hd] at hK ⊢); go_simp)
        refine (HCUT.out _ xt).mono ?_
        rintro e8 w8 ⟨r8, rfl, hr8, hx8⟩
        (refine hK _ _ xt ?_; dsimp only [phiAt, phiEq, phiZ, phiAny, phiBox])
        exact hr8.widen fun q hq _ => Nat.le_trans (Ext.size (show Ext V7 w1 from xt)) hq
      (refine ps_eq rfl rfl rfl rfl rfl rfl ?_ ?_; focus (intro f w1 hx hd; have hc' := hx.cells.1; (try simp only [wcd] at hc'); have z0 := (hc' _ 0 t9l).trans q2; have z1 := (hc' _ 1 t9l).trans q3; clear hc'; (dsimp only [PhiDeps, phiAt, phiEq, phiZ, phiAny, phiBox] at hd); (simp only [fillA]; (try simp only [pt])); (try simp only [hd]); go_simp; (first | done | with_reducible rfl)))
      (refine ps_loud rfl rfl rfl rfl rfl (fun f w1 hx hd K hK => ?_) ?_)
      · (have hc' := hx.cells.1; (try simp only [wcd] at hc'); (dsimp only [PhiDeps, phiAt, phiEq, phiZ, phiAny, phiBox] at hd); simp only [fillA, Act.put, List.setIfInBounds_toArray, List.set_cons_zero, List.set_cons_succ] at hK; (simp only [fillA]; (try simp only [pt])); (try simp only [hd] at hK ⊢); go_simp)
        refine (HMD.out _ xt).mono ?_
        rintro e8 w8 ⟨r8, rfl, -, hr8, hx8⟩
        (refine hK _ _ xt ?_; dsimp only [phiAt, phiEq, phiZ, phiAny, phiBox])
        exact ⟨r8, rfl, hr8.widen fun _ _ _ => trivial⟩
      (refine ps_eq rfl rfl rfl rfl rfl rfl ?_ ?_; focus (intro f w1 hx hd; have hc' := hx.cells.1; (try simp only [wcd] at hc'); (dsimp only [PhiDeps, phiAt, phiEq, phiZ, phiAny, phiBox] at hd); (simp only [fillA]; (try simp only [pt])); (try simp only [hd]); go_simp; (first | done | with_reducible rfl)))
      (refine ps_eq rfl rfl rfl rfl rfl rfl ?_ ?_; focus (intro f w1 hx hd; have hc' := hx.cells.1; (try simp only [wcd] at hc'); have z0 := (hc' _ 1 t4l).trans q4; have z1 := (hc' _ 2 t4l).trans q5; clear hc'; (dsimp only [PhiDeps, phiAt, phiEq, phiZ, phiAny, phiBox] at hd); (simp only [fillA]; (try simp only [pt])); (try simp only [hd]); go_simp; (first | done | with_reducible rfl)))
      (refine ps_loud rfl rfl rfl rfl rfl (fun f w1 hx hd K hK => ?_) ?_)
      · have hc' := hx.cells.1
        (try simp only [wcd] at hc')
        simp only [fillA, Act.put, List.setIfInBounds_toArray, List.set_cons_zero, List.set_cons_succ] at hK
        (simp only [fillA]; (try simp only [pt]))
        dsimp only [PhiDeps, phiAt, phiEq, phiZ, phiAny, phiBox] at hd
        dsimp only [phiMod] at hd
        obtain ⟨⟨gg, e39, hzz⟩, e41, -⟩ := hd
        simp only [e39, e41] at hK ⊢
        go_simp
        refine (HRS.out _ xt _ hzz).mono ?_
        rintro e8 w8 ⟨r8, rfl, hr8, hx8⟩
        (refine hK _ _ xt ?_; dsimp only [phiAt, phiEq, phiZ, phiAny, phiBox])
        exact hr8.widen fun _ _ _ => trivial
      (refine ps_loud rfl rfl rfl rfl rfl (fun f w1 hx hd K hK => ?_) ?_)
      · (have hc' := hx.cells.1; (try simp only [wcd] at hc'); (dsimp only [PhiDeps, phiAt, phiEq, phiZ, phiAny, phiBox] at hd); simp only [fillA, Act.put, List.setIfInBounds_toArray, List.set_cons_zero, List.set_cons_succ] at hK; (simp only [fillA]; (try simp only [pt])); (try simp only [hd] at hK ⊢); go_simp)
        refine (HSN.out _ _ _ hd.1).mono ?_
        rintro e8 w8 ⟨rfl, hx8⟩
        (refine hK _ _ xt ?_; dsimp only [phiAt, phiEq, phiZ, phiAny, phiBox])
      (refine ps_alloc rfl rfl rfl rfl rfl ?_ (by repeat (first | exact ab_nil | refine ab_cons rfl ?_)) ?_ ?_; (focus (first | omega | (simp only [wsz]; done) | (simp only [wsz]; omega))); (focus (intro f w1; (simp only [fillA]; (try simp only [pt])); go_simp; try (with_reducible rfl))))
      exact ps_nil
    · intro f w2 hx2 hall hne2
      (dsimp only [PhiAll, phiAt, phiEq, phiZ, phiAny, phiBox] at hall)
      obtain ⟨f1, f2, ⟨A37, c37, e37, n37⟩, f4, -, f6, f7, -, f9, ⟨g11, f10, l11, x11⟩, -⟩ := hall
      (simp only [fillA]; (try simp only [pt]))
      simp only [e37, f9, f10]
      have x11r := x11.rules; have x11l := x11.lt
      (refine sh_late rfl rfl fun K hK => ?_; go_simp; refine hK _ _ ?_; clear hK K)
      (refine sh_late rfl rfl fun K hK => ?_; go_simp; refine hK _ _ ?_; clear hK K)
      refine sh_end ?_
      go_wp2_with fail
      go_meet
      exact ⟨g11, rfl, rfl, ⟨A37, c37, (x11.set_ 0 _).set_ 1 _, Nl.widen (Nl.keep (Nl.off n37 x11 (by simp)) (((Kp.refl w2).setCell (fun h => h.2 rfl) _).setCell (fun h => h.2 rfl) _)) fun _ h _ => by have := h.1; omega⟩, by omega, (((Ext.refl V7).drew.trans hx2).setCell (by simp only; omega) _).setCell (by simp only; omega) _⟩
  obtain ⟨g11, rfl, rfl, hz11, hg11, hxc⟩ := hcut
  obtain ⟨V8, rfl⟩ : ∃ U, U = wc := ⟨_, rfl⟩
  have hE8 := hE7.trans hxc
  have y3 := t3.ext hxc; have y4 := t4.ext hxc; have y6 := t6.ext hxc; have hz10 := hz10.ext hxc
  have hP8 := hP7.ext hxc; have hK8 := Nl.ext hK7 hxc; have hM8 := Nl.ext hM7 hxc; have hN9 := Nl.ext hN9 hxc
  have hs78 := hxc.size
  obtain ⟨A11, c11, y11, n11⟩ := hz11
  obtain ⟨ln, hln⟩ : ∃ x, x = T1.ps.length := ⟨_, rfl⟩
  have HLN := Lib.hid hln
  clear t3 t4 t6 t9 hP7 hK7 hM7 hb8 HCUT HMD HRS HSN hxc hE7
  have y4l := y4.lt
  by_cases h0 : ln = 0
  · rw [← hln, h0] at y4
    have y4r := y4.rules
    obtain ⟨b0, hb0⟩ : ∃ b, b = decide (T1.k.v = 0) := ⟨_, rfl⟩
    have hsi := fun (U : World) (hU : Ext V8 U) => zsign_c (⟨C6, f6, rfl, hK8.ext hU⟩ : Zi U _ (.agg #[.bool T1.k.neg, .slice C6 T1.k.mag.length f6]) T1.k)
    obtain ⟨s0, hs0⟩ : ∃ s, s = sgn T1.k.v := ⟨_, rfl⟩
    rw [← hs0] at hsi
    have HSI := Lib.hid hsi
    have HS0 := Lib.hid hs0; have HB0 := Lib.hid hb0
    have hbs : (s0 == 0) = b0 := by rw [hb0, hs0]; exact decide_eq_decide.2 cmpI_zero
    have hbs2 : decide (s0 = 0) = b0 := by rw [hb0, hs0]; exact decide_eq_decide.2 cmpI_zero
    have hRe : R = constA (!(b0 == not)) := by
      rw [HR2.out]
      unfold partedB
      rw [if_pos (by rw [← HLE.out, ← hln]; exact h0), hb0]
      rfl
    subst hRe
    clear hsi hs0 hb0 hln
    go_wp2_with fail
    refine (HSI.out _ xt).mono ?_
    rintro e8 w8 ⟨rfl, hx8⟩
    go_wp2_with fail
    refine (truth_c (!(b0 == not)) _).mono ?_
    rintro e9 w9 ⟨_, rfl, hA, hx9⟩
    have hx89 := hx8.trans hx9
    have hA0 := hA
    obtain ⟨D3, e3, A3, f3, C3, g3, rfl, -⟩ := hA
    have hy6 := y6.ext hx89
    have hy6r := hy6.rules; have hy6l := hy6.lt
    have hs80 := hx8.size; have hss := Ext.size hx89; have hs6 := y6.lt
    clear y3 y4 y4r y4l y11
    go_wp2_with fail
    (refine bodyPost_ret (v := ?_) ?_ rfl ?_; rotate_left; (simp only [results, Tryz.results46]; go_simp; (first | done | with_reducible rfl)))
    have hEs := hE8.trans hx89
    refine ⟨_, rfl, (hA0.keep ?_).lower ?_, xt⟩
    · exact kpt
    · have := hE8.size; have := hE8.trans hx8 |>.size; omega
  · have hne : ((ln : Int) == 0) = false := by rw [beq_eq_false_iff_ne]; omega
    have hne2 : decide ((ln : Int) = 0) = false := decide_eq_false (by omega)
    rw [← hln] at y4
    have y4r := y4.rules
    have hnl : ¬ (cn l1).length = 0 := by rw [← HLE.out, ← hln]; exact h0
    have hkg : sg = 0 ↔ T1.k.v.fmod g = 0 := by rw [HSG2.out]; exact sgn_zero
    have HNL := Lib.hid hnl
    clear hln hnl
    by_cases h1 : sg = 0
    · have hse : ((sg : Int) != 0) = false := by rw [h1]; rfl
      have hse2 : decide ((sg : Int) ≠ 0) = false := decide_eq_false (by omega)
      have hk0 := hkg.1 h1
      subst h1
      have y11r := y11.rules; have y11l := y11.lt
      have hof := fun (U : World) => zof_c 1 (by omega) (by omega) U
      have hcm := fun (U : World) (hU : Ext V8 U) (r : Value) (Q : Nat → Prop) (hr : Zi U Q r (cz 1)) => zcmp_c (⟨A11, c11, rfl, n11.ext hU⟩ : Zi U _ (.agg #[.bool one.neg, .slice A11 one.mag.length c11]) one) hr
      obtain ⟨s1, hs1⟩ : ∃ s, s = cmpI one.v (cz 1).v := ⟨_, rfl⟩
      rw [← hs1] at hcm
      have hs1e : s1 = 0 ↔ (m : Int).fdiv g = 1 := by rw [hs1, cz_v, HONE.out, cz_v]; exact cmpI_zero
      have HOF := Lib.hid hof; have HCM := Lib.hid hcm; have HK0 := Lib.hid hk0
      clear hof hcm hs1 hkg hk0
      go_wp2_with fail
      refine wp_region_seq2 4 [(0, true), (1, false), (2, false), (3, true), (4, false)] rfl (by kernel_rfl) (by intro _ _ d _ _ h; cases d <;> exact h) ?_
      (repeat (refine sq_take (v := ?_) rfl rfl ?_ ?_; rotate_left; (intro w' hx'; have hc' := hx'.cells.1; (try simp only [wcd] at hc'); go_simp; (first | done | with_reducible rfl)); (try simp only [pt])))
      (refine sq_loud rfl rfl fun K hK => ?_; go_simp)
      refine (HOF.out _).mono ?_
      rintro e8 w8 ⟨r8, rfl, hr8, hx8⟩
      have hy8 : Ext V8 w8 := xt
      (refine hK _ _ xt ?_; clear hK K; (try simp only [pt]))
      (refine sq_loud rfl rfl fun K hK => ?_; go_simp)
      refine (HCM.out _ hy8 _ _ hr8).mono ?_
      rintro e9 w9 ⟨rfl, hx9⟩
      have hy9 := hy8.trans hx9
      (refine hK _ _ xt ?_; clear hK K; (try simp only [pt]))
      (repeat (refine sq_take (v := ?_) rfl rfl ?_ ?_; rotate_left; (intro w' hx'; have hc' := hx'.cells.1; (try simp only [wcd] at hc'); go_simp; (first | done | with_reducible rfl)); (try simp only [pt])))
      (refine sq_last rfl rfl fun K hK => ?_; go_simp; refine hK _ _ ?_; clear hK K)
      by_cases h2 : s1 = 0
      · have hsx : ((s1 : Int) == 0) = true := by rw [h2]; rfl
        have hsx2 : decide ((s1 : Int) = 0) = true := decide_eq_true h2
        have hRe : R = constA (!not) := by
          rw [HR2.out]
          unfold partedB
          rw [if_neg HNL.out, if_neg (fun h => h HK0.out), if_pos (hs1e.1 h2)]
        subst hRe
        clear hs1e
        have hy9 := hy9
        go_wp2_with fail
        refine (truth_c (!not) _).mono ?_
        rintro e10 w10 ⟨_, rfl, hA, hx10⟩
        have hya := hy9.trans hx10
        have hA0 := hA
        obtain ⟨D3, e3, A3, f3, C3, g3, rfl, -⟩ := hA
        have hy6 := y6.ext hya
        have hy6r := hy6.rules; have hy6l := hy6.lt
        have hss := Ext.size hya; have hs6 := y6.lt; have hs9 := hy9.size
        clear y3 y4 y4r y4l y11 y11r y11l
        go_wp2_with fail
        (refine bodyPost_ret (v := ?_) ?_ rfl ?_; rotate_left; (simp only [results, Tryz.results46]; go_simp; (first | done | with_reducible rfl)))
        have hEs := hE8.trans hya
        refine ⟨_, rfl, (hA0.keep ?_).lower ?_, xt⟩
        · exact kpt
        · have := hE8.size; omega
      · as_aux_lemma =>
        have hsx : ((s1 : Int) == 0) = false := by simpa using h2
        have hsx2 : decide ((s1 : Int) = 0) = false := decide_eq_false h2
        have hRe := HR2.out
        unfold partedB at hRe
        rw [if_neg HNL.out, if_neg (fun h => h HK0.out), if_neg (fun h => h2 (hs1e.2 h))] at hRe
        have HRE := Lib.hid hRe
        clear hRe hs1e
        go_wp2_with fail
        obtain ⟨V9, rfl⟩ : ∃ U, U = w9 := ⟨_, rfl⟩
        have hE9 := hE8.trans hy9
        have v3 := y3.ext hy9; have v4 := y4.ext hy9; have v6 := y6.ext hy9; have hz10 := hz10.ext hy9
        have hP9 := hP8.ext hy9; have hK9 := Nl.ext hK8 hy9; have hM9 := Nl.ext hM8 hy9
        have hs89 := hy9.size; have hs8 := hE8.size
        clear y3 y4 y4r y4l y6 y11 y11r y11l hP8 hK8 hM8 hx8 hx9 hr8 hy8 hy9 HOF HCM n11
        simp only [hsx]
        refine parted_mid (m := m) (g := g) (l1 := l1) hN2 hN hE9 v3 v4 v6 hz10 hP9 hK9 (hM9.widen fun b hb _ => hb.1) HLN.out hT1lb hT1s HMV.out hMz hzm HGV.out hgl hg0 hgm HPS.out HRE.out ?_
        intro a w' h
        go_step
        exact h
    · have hse : ((sg : Int) != 0) = true := by simpa using h1
      have hse2 : decide ((sg : Int) ≠ 0) = true := decide_eq_true h1
      have hRe : R = constA not := by
        rw [HR2.out]
        unfold partedB
        rw [if_neg HNL.out, if_pos (fun h => h1 (hkg.2 h))]
      subst hRe
      clear hkg
      go_wp2_with fail
      refine (truth_c not _).mono ?_
      rintro e9 w9 ⟨_, rfl, hA, hx9⟩
      have hA0 := hA
      obtain ⟨D3, e3, A3, f3, C3, g3, rfl, -⟩ := hA
      have hy6 := y6.ext hx9
      have hy6r := hy6.rules; have hy6l := hy6.lt
      have hss := Ext.size hx9; have hs6 := y6.lt
      clear y3 y4 y4r y4l y11
      go_wp2_with fail
      (refine bodyPost_ret (v := ?_) ?_ rfl ?_; rotate_left; (simp only [results, Tryz.results46]; go_simp; (first | done | with_reducible rfl)))
      have hEs := hE8.trans hx9
      refine ⟨_, rfl, (hA0.keep ?_).lower ?_, xt⟩
      · exact kpt
      · have := hE8.size; have := hE8.trans (Ext.refl _) |>.size; omega

end Go.Proofs.YthmjgbkakjpfkaaGreatDoor

namespace Go.Proofs.YthmjgbkakjpfkaaGreatDoor
open Go.RowKit

set_option maxHeartbeats 1600000 in
theorem parted0_c {u v : Value} {d : Z} {t : T} {not : Bool} {w : World} {X Y : Nat → Prop} (hd : Zi w X u d) (h : Tv w Y v t) (hl : d.mag.length ≤ 4398046511104) (h0 : d.v = 0) :
    Calls Tryz.prog 46 #[u, v, .bool not] w fun e w' => ∃ r, e = .returned (.tuple #[r, .int .i64 11]) ∧ AvF w' w.heap.size r (constA false) ∧ Ext w w' := by
  have hab := fun (U : World) (hU : Ext w U) => zabs_c (hd.ext hU) hl
  obtain ⟨mz, hmz⟩ : ∃ z, z = cz ((d.v.natAbs : Nat) : Int) := ⟨_, rfl⟩
  have hmv : mz.v = 0 := by rw [hmz, cz_v, h0]; rfl
  simp only [← hmz] at hab
  obtain ⟨A, c, rfl, hd⟩ := hd
  obtain ⟨P, e, K, f, rfl, hP, hK⟩ := h
  have HAB := Lib.hid hab; have HMV := Lib.hid hmv
  clear hab hmv hmz
  go_enter Tryz.func46, Tryz.ntmps46
  go_wp2_with fail
  refine (HAB.out _ xt).mono ?_
  rintro e1 w1 ⟨_, rfl, ⟨A1, c1, rfl, hM⟩, hx1⟩
  have hE1 : Ext w w1 := ((Ext.refl w).alloc _ |>.alloc _ |>.alloc _).trans hx1
  have b3 : Box w1 w.heap.size 24 #[.bool d.neg, .slice A d.mag.length c] := Box.ext ((Box.new w _ _).alloc _ |>.alloc _) hx1
  have b6 : Box w1 (w.heap.size + 1 + 1) 29 #[.int .i64 0, .bool false, .slice none 0 0, .slice none 0 0, .bool false, .slice none 0 0] := Box.ext (Box.new_at _ _ _ (by simp only [wsz])) hx1
  have hs1 := hx1.size
  simp only [wsz] at hs1
  have b3r := b3.rules; have b3l := b3.lt
  go_upto_region 2 with fail
  refine wp_named fun W hW => ?_
  have k3 : Box W w.heap.size 24 #[.bool mz.neg, .slice A1 mz.mag.length c1] := by rw [hW]; exact (b3.set_ 0 _).set_ 1 _
  have k6 : Box W (w.heap.size + 1 + 1) 29 #[.int .i64 0, .bool false, .slice none 0 0, .slice none 0 0, .bool false, .slice none 0 0] := by rw [hW]; exact (b6.far (by simp only; omega) _).far (by simp only; omega) _
  have hE : Ext w W := by rw [hW]; exact (hE1.setCell (Nat.le_refl _) _).setCell (Nat.le_refl _) _
  have hM := (hM.widen (Y := fun b => w.heap.size + 3 ≤ b) fun b hb _ => by simp only [wsz] at hb; omega).keep (w' := W) (by rw [hW]; exact ((Kp.refl w1).setCell (by simp only; omega) _).setCell (by simp only; omega) _)
  clear hW b3 b6 b3r b3l hx1 hE1 hs1
  have hsg := fun (U : World) (hU : Ext W U) => zsign_c (⟨A1, c1, rfl, hM.ext hU⟩ : Zi U _ (.agg #[.bool mz.neg, .slice A1 mz.mag.length c1]) mz)
  rw [HMV.out, show sgn 0 = 0 from cmpI_eq rfl] at hsg
  have HSG := Lib.hid hsg
  clear hsg
  have k3r := k3.rules; have k3l := k3.lt
  go_wp2_with fail
  refine (HSG.out _ xt).mono ?_
  rintro e2 w2 ⟨rfl, hx2⟩
  have m6 := k6.ext hx2
  have m6r := m6.rules; have m6l := m6.lt; have h6l := k6.lt
  have hE2 := hE.trans hx2
  clear k3r k3l
  go_wp2_with fail
  (refine bodyPost_ret (v := ?_) ?_ rfl ?_; rotate_left; (simp only [results, Tryz.results46]; go_simp; (first | done | with_reducible rfl)))
  exact ⟨_, rfl, AvF.const _ _ false rfl, xt⟩

def partedR (d : Int) (l : List (Int × Int)) (k : Int) (not : Bool) : Ar × Int := if d = 0 then (constA false, 11) else (partedA d l k not, 0)
theorem partedR_c {u v : Value} {d : Z} {t : T} {not : Bool} {w : World} {X Y : Nat → Prop} {N : Nat} (hd : Zi w X u d) (h : Tv w Y v t) (hl : d.mag.length ≤ N) (hs : t.sz N) (hN2 : 2 ≤ N) (hN : N ≤ 16777216) :
    Calls Tryz.prog 46 #[u, v, .bool not] w fun e w' => ∃ r, e = .returned (.tuple #[r, .int .i64 (partedR d.v (vl t.ps) t.k.v not).2]) ∧ AvF w' w.heap.size r (partedR d.v (vl t.ps) t.k.v not).1 ∧ Ext w w' := by
  unfold partedR
  by_cases h0 : d.v = 0
  · rw [if_pos h0]; exact parted0_c hd h (by omega) h0
  · rw [if_neg h0]; exact parted_c hd h hl hs hN2 hN h0

set_option maxHeartbeats 1600000 in
theorem adiv_c {u v : Value} {d : Z} {t : T} {w : World} {X Y : Nat → Prop} {N : Nat} (hd : Zi w X u d) (h : Tv w Y v t) (hl : d.mag.length ≤ N) (hs : t.sz N) (hN2 : 2 ≤ N) (hN : N ≤ 16777216) :
    Calls Tryz.prog 20 #[u, v] w fun e w' => ∃ r, e = .returned (.tuple #[r, .int .i64 (partedR d.v (vl t.ps) t.k.v false).2]) ∧ AvF w' w.heap.size r (partedR d.v (vl t.ps) t.k.v false).1 ∧ Ext w w' := by
  have hp := fun (U : World) (hU : Ext w U) => partedR_c (not := false) (hd.ext hU) (h.ext hU) hl hs hN2 hN
  obtain ⟨R, hR⟩ : ∃ R, R = partedR d.v (vl t.ps) t.k.v false := ⟨_, rfl⟩
  simp only [← hR] at hp ⊢
  obtain ⟨A, c, rfl, hd⟩ := hd
  obtain ⟨P, e, K, f, rfl, hP, hK⟩ := h
  have HP := Lib.hid hp
  clear hp hR
  go_enter Tryz.func20, Tryz.ntmps20
  go_wp2_with fail
  refine (HP.out _ xt).mono ?_
  rintro e1 w1 ⟨_, rfl, hA, hx1⟩
  have hA0 := hA
  obtain ⟨D3, e3, A3, f3, C3, g3, rfl, -⟩ := hA
  have b6 : Box w1 (w.heap.size + 1 + 1) 29 #[.int .i64 0, .bool false, .slice none 0 0, .slice none 0 0, .bool false, .slice none 0 0] := Box.ext (Box.new_at _ _ _ (by simp only [wsz])) hx1
  have b6r := b6.rules; have b6l := b6.lt
  have hE1 : Ext w w1 := ((Ext.refl w).alloc _ |>.alloc _ |>.alloc _).trans hx1
  go_wp2_with fail
  (refine bodyPost_ret (v := ?_) ?_ rfl ?_; rotate_left; (simp only [results, Tryz.results20]; go_simp; (first | done | with_reducible rfl)))
  refine ⟨_, rfl, (hA0.keep ?_).lower ?_, xt⟩
  · simp only [wsz]; exact kpt
  · simp only [wsz]; omega
set_option maxHeartbeats 6400000 in
theorem anorm_c {v : Value} {a : Ar} {w : World} {X : Nat → Prop} {N : Nat} (h : Av w X v a) (hs : a.sz N) (hN2 : 2 ≤ N) (hN : N ≤ 16777216) :
    Calls Tryz.prog 11 #[v] w fun e w' => ∃ r, e = .returned (.tuple #[r, .int .i64 (normA a).2]) ∧ AvF w' w.heap.size r (normA a).1 ∧ Ext w w' := by
  obtain ⟨kd, d, t⟩ := a
  obtain ⟨D, c, A, e, C, f, rfl, hk, h1, h2, h3⟩ := h
  obtain ⟨hs1, hs2⟩ := hs
  dsimp only at hk h1 h2 h3 hs1 hs2
  have hls := fun (U : World) (hU : Ext w U) => aless_c (N := N) (⟨A, e, C, f, rfl, h2.ext hU, Nl.ext h3 hU⟩ : Tv U X (.agg #[.slice A t.ps.length e, .bool t.k.neg, .slice C t.k.mag.length f]) t) hs2 (by omega)
  have hpt := fun (U : World) (hU : Ext w U) (not : Bool) => partedR_c (N := N) (not := not) (⟨D, c, rfl, Nl.ext h1 hU⟩ : Zi U X (.agg #[.bool d.neg, .slice D d.mag.length c]) d) (⟨A, e, C, f, rfl, h2.ext hU, Nl.ext h3 hU⟩ : Tv U X (.agg #[.slice A t.ps.length e, .bool t.k.neg, .slice C t.k.mag.length f]) t) hs1 hs2 hN2 hN
  have HLS := Lib.hid hls; have HPT := Lib.hid hpt
  clear hls hpt
  by_cases k0 : kd = 0
  · subst k0
    go_enter Tryz.func11, Tryz.ntmps11
    go_wp2_with fail
    (refine bodyPost_ret (v := ?_) ?_ rfl ?_; rotate_left; (simp only [results, Tryz.results11]; go_simp; (first | done | with_reducible rfl)))
    exact ⟨_, rfl, AvF.const _ _ false rfl, xt⟩
  by_cases k1 : kd = 1
  · subst k1
    go_enter Tryz.func11, Tryz.ntmps11
    go_wp2_with fail
    (refine bodyPost_ret (v := ?_) ?_ rfl ?_; rotate_left; (simp only [results, Tryz.results11]; go_simp; (first | done | with_reducible rfl)))
    exact ⟨_, rfl, AvF.const _ _ true rfl, xt⟩
  by_cases k2 : kd = 2
  · subst k2
    have hR : normA ⟨2, d, t⟩ = (lessA (vl t.ps) t.k.v, 0) := rfl
    rw [hR]
    clear hR
    go_enter Tryz.func11, Tryz.ntmps11
    go_wp2_with fail
    refine (HLS.out _ xt).mono ?_
    rintro e1 w1 ⟨_, rfl, hA, hx1⟩
    have hA0 := hA
    obtain ⟨D3, e3, A3, f3, C3, g3, rfl, -⟩ := hA
    have b6 : Box w1 (w.heap.size + 1) 29 #[.int .i64 0, .bool false, .slice none 0 0, .slice none 0 0, .bool false, .slice none 0 0] := Box.ext (Box.new_at _ _ _ (by simp only [wsz])) hx1
    have b6r := b6.rules; have b6l := b6.lt
    have hE1 : Ext w w1 := ((Ext.refl w).alloc _ |>.alloc _).trans hx1
    go_wp2_with fail
    (refine bodyPost_ret (v := ?_) ?_ rfl ?_; rotate_left; (simp only [results, Tryz.results11]; go_simp; (first | done | with_reducible rfl)))
    refine ⟨_, rfl, (hA0.keep ?_).lower ?_, xt⟩
    · simp only [wsz]; exact kpt
    · simp only [wsz]; omega
  by_cases k3 : kd = 3
  · subst k3
    have hR : normA ⟨3, d, t⟩ = partedR d.v (vl t.ps) t.k.v false := rfl
    rw [hR]
    clear hR
    obtain ⟨R, hR⟩ : ∃ R, R = partedR d.v (vl t.ps) t.k.v false := ⟨_, rfl⟩
    have hpt := fun (U : World) (hU : Ext w U) => HPT.out U hU false
    simp only [← hR] at hpt ⊢
    have HPT := Lib.hid hpt
    clear hpt hR
    go_enter Tryz.func11, Tryz.ntmps11
    go_wp2_with fail
    refine (HPT.out _ xt).mono ?_
    rintro e1 w1 ⟨_, rfl, hA, hx1⟩
    have hA0 := hA
    obtain ⟨D3, e3, A3, f3, C3, g3, rfl, -⟩ := hA
    have b6 : Box w1 (w.heap.size + 1) 29 #[.int .i64 0, .bool false, .slice none 0 0, .slice none 0 0, .bool false, .slice none 0 0] := Box.ext (Box.new_at _ _ _ (by simp only [wsz])) hx1
    have b6r := b6.rules; have b6l := b6.lt
    have hE1 : Ext w w1 := ((Ext.refl w).alloc _ |>.alloc _).trans hx1
    go_wp2_with fail
    (refine bodyPost_ret (v := ?_) ?_ rfl ?_; rotate_left; (simp only [results, Tryz.results11]; go_simp; (first | done | with_reducible rfl)))
    refine ⟨_, rfl, (hA0.keep ?_).lower ?_, xt⟩
    · simp only [wsz]; exact kpt
    · simp only [wsz]; omega
  by_cases k4 : kd = 4
  · subst k4
    have hR : normA ⟨4, d, t⟩ = partedR d.v (vl t.ps) t.k.v true := rfl
    rw [hR]
    clear hR
    obtain ⟨R, hR⟩ : ∃ R, R = partedR d.v (vl t.ps) t.k.v true := ⟨_, rfl⟩
    have hpt := fun (U : World) (hU : Ext w U) => HPT.out U hU true
    simp only [← hR] at hpt ⊢
    have HPT := Lib.hid hpt
    clear hpt hR
    go_enter Tryz.func11, Tryz.ntmps11
    go_wp2_with fail
    refine (HPT.out _ xt).mono ?_
    rintro e1 w1 ⟨_, rfl, hA, hx1⟩
    have hA0 := hA
    obtain ⟨D3, e3, A3, f3, C3, g3, rfl, -⟩ := hA
    have b6 : Box w1 (w.heap.size + 1) 29 #[.int .i64 0, .bool false, .slice none 0 0, .slice none 0 0, .bool false, .slice none 0 0] := Box.ext (Box.new_at _ _ _ (by simp only [wsz])) hx1
    have b6r := b6.rules; have b6l := b6.lt
    have hE1 : Ext w w1 := ((Ext.refl w).alloc _ |>.alloc _).trans hx1
    go_wp2_with fail
    (refine bodyPost_ret (v := ?_) ?_ rfl ?_; rotate_left; (simp only [results, Tryz.results11]; go_simp; (first | done | with_reducible rfl)))
    refine ⟨_, rfl, (hA0.keep ?_).lower ?_, xt⟩
    · simp only [wsz]; exact kpt
    · simp only [wsz]; omega
  have j0 : ((kd : Int) == 0) = false := by simpa using k0
  have j1 : ((kd : Int) == 1) = false := by simpa using k1
  have j2 : ((kd : Int) == 2) = false := by simpa using k2
  have j3 : ((kd : Int) == 3) = false := by simpa using k3
  have j4 : ((kd : Int) == 4) = false := by simpa using k4
  have hR : normA ⟨kd, d, t⟩ = (constA false, 1) := by
    unfold normA
    dsimp only
    rw [if_neg (by omega), if_neg k2, if_neg (by omega)]
  rw [hR]
  clear hR
  go_enter Tryz.func11, Tryz.ntmps11
  go_wp2_with fail
  (refine bodyPost_ret (v := ?_) ?_ rfl ?_; rotate_left; (simp only [results, Tryz.results11]; go_simp; (first | done | with_reducible rfl)))
  exact ⟨_, rfl, AvF.const _ _ false rfl, xt⟩

end Go.Proofs.YthmjgbkakjpfkaaGreatDoor

namespace Go.Proofs.YthmjgbkakjpfkaaGreatDoor

theorem ct_sz_canon {l : List (Int × Int)} {k : Int} {M : Nat} (h : Canon l) (hl : l.length ≤ M) (hc : ∀ p ∈ l, zl p.2 ≤ M) (hk : zl k ≤ M) : (ct l k).sz M := by
  unfold ct
  rw [cn_canon h]
  refine ⟨by rw [cl_len]; exact hl, fun p hp => ?_, by rw [cz_len]; exact hk⟩
  obtain ⟨q, hq, rfl⟩ := List.mem_map.1 hp
  exact hc q hq
theorem lessA_sz {l : List (Int × Int)} {k : Int} {N : Nat} (hN : 2 ≤ N) (hl : l.length ≤ N) (hc : ∀ p ∈ l, zl p.2 ≤ N) (hk : zl k ≤ N) : (lessA l k).sz (2 * N) := by
  unfold lessA
  split
  · exact ⟨Nat.zero_le _, Nat.zero_le _, fun _ h => (List.not_mem_nil h).elim, Nat.zero_le _⟩
  · rename_i h
    refine ⟨Nat.zero_le _, ?_⟩
    obtain ⟨g, hg⟩ : ∃ g, g = gcdL ((cn l).map Prod.snd) := ⟨_, rfl⟩
    have hne : cn l ≠ [] := fun e => h (by rw [e]; rfl)
    obtain ⟨p, hp⟩ := List.exists_mem_of_ne_nil _ hne
    have hg0 : 0 < g := by rw [hg]; exact gcdL_pos0 (List.mem_map.2 ⟨p, hp, rfl⟩) ((canon_cn l).2 p hp)
    have hgi : (0 : Int) < (g : Int) := by omega
    rw [← hg]
    have hz := zl_cn hc
    refine ct_sz_canon (canon_fm (canon_cn l) fun q hq e => ?_) (by rw [fm_len]; have := cn_len l; omega) (fun q hq => ?_) ?_
    · obtain ⟨y, hy⟩ : (g : Int) ∣ q.2 := by rw [hg]; exact gcdL_mem (List.mem_map.2 ⟨q, hq, rfl⟩)
      have h3 : q.2.fdiv (g : Int) = y := by rw [hy]; exact Int.mul_fdiv_cancel_left _ (by omega)
      have h4 : y = 0 := by rw [← h3]; exact e
      exact (canon_cn l).2 q hq (by rw [hy, h4, Int.mul_zero])
    · obtain ⟨q0, hq0, rfl⟩ := List.mem_map.1 hq
      exact fdiv_zl hgi (by have := hz q0 hq0; omega)
    · have h1 : zl (k - 1) ≤ N + 1 := zl_sub hk (Nat.le_trans (show zl 1 ≤ 1 by decide) (by omega))
      have h2 : zl ((k - 1).fdiv (g : Int)) ≤ N + 1 := fdiv_zl hgi h1
      have h3 : zl ((k - 1).fdiv (g : Int) + 1) ≤ N + 1 + 1 := zl_add h2 (Nat.le_trans (show zl 1 ≤ 1 by decide) (by omega))
      omega
theorem partedA_sz {d : Int} {l : List (Int × Int)} {k : Int} {not : Bool} {N : Nat} (h0 : d ≠ 0) (hl : l.length ≤ N) (hd : zl d ≤ N) : (partedA d l k not).sz (2 * N) := by
  have hcs : ∀ b, (constA b).sz (2 * N) := fun b => ⟨Nat.zero_le _, Nat.zero_le _, fun _ h => (List.not_mem_nil h).elim, Nat.zero_le _⟩
  unfold partedA
  obtain ⟨m, hm⟩ : ∃ m : Int, m = (d.natAbs : Nat) := ⟨_, rfl⟩
  have hm0 : 0 < m := by omega
  have hmz : zl m ≤ N := by rw [hm]; unfold zl at hd ⊢; rwa [Int.natAbs_natCast]
  rw [← hm]
  obtain ⟨n1, hn1⟩ : ∃ n, n = cn (fm (·.fmod m) (cn l)) := ⟨_, rfl⟩
  have hn1l : n1.length ≤ N := by rw [hn1]; have h1 := cn_len (fm (·.fmod m) (cn l)); rw [fm_len] at h1; have h2 := cn_len l; omega
  rw [← hn1]
  obtain ⟨g, hg⟩ : ∃ g, g = gcdL (n1.map Prod.snd ++ [m]) := ⟨_, rfl⟩
  have hg0 : 0 < g := by rw [hg]; exact gcdL_pos0 (List.mem_append_right _ (List.mem_singleton.2 rfl)) (by omega)
  have hgi : (0 : Int) < (g : Int) := by omega
  obtain ⟨d2, hd2⟩ : (g : Int) ∣ m := by rw [hg]; exact gcdL_mem (List.mem_append_right _ (List.mem_singleton.2 rfl))
  have e2 : m.fdiv (g : Int) = d2 := by rw [hd2]; exact Int.mul_fdiv_cancel_left _ (by omega)
  have hd20 : 0 < d2 := pos_of_mul (by rw [← hd2]; exact hm0) hgi
  have hd2z : zl d2 ≤ N := by rw [← e2]; exact fdiv_zl hgi hmz
  have hk1 : zl (k.fmod m) ≤ N := Nat.le_trans (fmod_zl hm0 hmz) (Nat.le_refl _)
  rw [← hg]
  unfold partedB
  split
  · exact hcs _
  split
  · exact hcs _
  split
  · exact hcs _
  rw [e2]
  refine ⟨by rw [cz_len]; omega, ?_⟩
  unfold lesser
  have hn2l : (cn (fm (·.fdiv (g : Int)) n1)).length ≤ N := by have h1 := cn_len (fm (·.fdiv (g : Int)) n1); rw [fm_len] at h1; omega
  dsimp only
  split
  · rw [show 2 * N = N + N by omega]
    refine ct_sz ?_ (fun q hq => ?_) ?_
    · rw [fm_len]
      have h1 := cn_len (sc (-1) (cn (fm (·.fdiv (g : Int)) n1)))
      rw [sc_len] at h1
      omega
    · obtain ⟨q0, hq0, rfl⟩ := List.mem_map.1 hq
      exact fmod_zl hd20 hd2z
    · exact Nat.le_trans (fmod_zl hd20 hd2z) (by omega)
  · have hn1z : ∀ p ∈ n1, zl p.2 ≤ N := fun p hp => by
      rw [hn1] at hp
      obtain ⟨hp1, -⟩ := mem_cn (rise_fm _ (canon_cn l).1) hp
      obtain ⟨q, -, rfl⟩ := List.mem_map.1 hp1
      exact fmod_zl hm0 hmz
    have hc2 : ∀ p ∈ cn (fm (·.fdiv (g : Int)) n1), zl p.2 ≤ N := fun p hp => by
      obtain ⟨hp1, -⟩ := mem_cn (rise_fm _ (by rw [hn1]; exact (canon_cn _).1)) hp
      obtain ⟨q, hq, rfl⟩ := List.mem_map.1 hp1
      exact fdiv_zl hgi (hn1z q hq)
    exact ct_sz_canon (canon_cn _) (by omega) (fun p hp => by have := hc2 p hp; omega) (Nat.le_trans (fdiv_zl hgi hk1) (by omega))
theorem normA_sz {a : Ar} {N : Nat} (hN : 2 ≤ N) (hs : a.sz N) (hd : Lb a.d.mag) (ht : a.t.lb) : (normA a).1.sz (2 * N) := by
  have hcs : ∀ b, (constA b).sz (2 * N) := fun b => ⟨Nat.zero_le _, Nat.zero_le _, fun _ h => (List.not_mem_nil h).elim, Nat.zero_le _⟩
  obtain ⟨s0, s1, s2, s3⟩ := hs
  have hzd : zl a.d.v ≤ N := Nat.le_trans (zl_of hd) s0
  have hzk : zl a.t.k.v ≤ N := Nat.le_trans (zl_of ht.2) s3
  have hzv := zl_vl ht.1 s2
  unfold normA
  split
  · exact hcs _
  split
  · exact lessA_sz hN (by rw [vl_len]; exact s1) hzv hzk
  split
  · split
    · exact hcs _
    · rename_i h
      exact partedA_sz h (by rw [vl_len]; exact s1) hzd
  · exact hcs _
theorem normA_kd (a : Ar) : (normA a).1.kd = 0 ∨ (normA a).1.kd = 1 ∨ (normA a).1.kd = 2 ∨ (normA a).1.kd = 3 ∨ (normA a).1.kd = 4 := by
  rcases normA_fine a with ⟨b, h⟩ | ⟨-, h, -⟩
  · rw [h]; cases b <;> simp [constA]
  · rcases h with ⟨h, -⟩ | ⟨h | h, -⟩ <;> simp [h]

end Go.Proofs.YthmjgbkakjpfkaaGreatDoor
