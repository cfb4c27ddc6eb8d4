/- atom.parted: a divisibility, or its opposite: behind the switch. No conditions. -/
import Derived.Test.YthmjgbkakjpfkaaGreatDoorGShortBg
namespace Go.Proofs.YthmjgbkakjpfkaaGreatDoor
open Go.RowKit

set_option maxRecDepth 100000 in
set_option maxHeartbeats 25600000 in
theorem parted_mid {not : Bool} {w V9 : World} {R : Ar} {mz gz : Z} {T1 : T} {l1 : List (Int × Int)} {m g N ln g10 : Nat} {A1 A6 C6 : Option Addr} {c1 e6 f6 : Nat} (hN2 : 2 ≤ N) (hN : N ≤ 16777216) (hE9 : Ext w V9)
    (v3 : Box V9 w.heap.size 24 #[.bool mz.neg, .slice A1 mz.mag.length c1]) (v4 : Box V9 (w.heap.size + 1) 27 #[.slice A6 ln e6, .bool T1.k.neg, .slice C6 T1.k.mag.length f6])
    (v6 : Box V9 (w.heap.size + 1 + 1) 29 #[.int .i64 0, .bool false, .slice none 0 0, .slice none 0 0, .bool false, .slice none 0 0]) (hz10 : Bz V9 (fun b => w.heap.size + 2 < b) g10 gz)
    (hP9 : Pl V9 (fun b => w.heap.size + 2 < b) A6 e6 T1.ps) (hK9 : Nl V9 (fun b => w.heap.size + 2 < b) C6 f6 T1.k.mag) (hM9 : Nl V9 (fun b => w.heap.size + 2 < b) A1 c1 mz.mag) (hln : ln = T1.ps.length) (hT1lb : T1.lb) (hT1s : T1.sz (4 * N))
    (hmv : mz.v = (m : Int)) (hMz : mz.mag.length ≤ 64 * N) (hzm : zl (m : Int) ≤ N) (hgv : gz.v = (g : Int)) (hgl : gz.mag.length ≤ N) (hg0 : 0 < g) (hgm : g ≤ m) (hps : T1.ps = cl (cn l1))
    (hRe : R = ⟨if not = true then 4 else 3, cz ((m : Int).fdiv (g : Int)), lesser ((m : Int).fdiv (g : Int)) (cn (fm (·.fdiv (g : Int)) (cn l1))) (T1.k.v.fdiv (g : Int))⟩)
    {K : Act → World → Prop} (hK : ∀ a w', Code.wp Tryz.prog (seqR c15) (PQ w R) a w' → K a w') {u0 u1 u5 u7 u8 u9 u11 u12 u13 u14 u15 u16 u17 u18 u19 u20 u21 u22 u23 u24 u25 u26 u27 u28 u29 u30 u31 u32 u33 u34 u35 u36 u37 u38 u39 u40 u41 u42 u43 u44 u45 u46 u47 u48 u49 u50 u51 u52 u53 u54 u55 u56 u57 u58 u59 u60 u61 u62 u63 u64 u65 u66 u67 u68 u69 u70 u71 u72 u73 u74 u75 u76 u77 u78 u79 u80 u81 u82 u83 u84 u85 u86 u87 u88 u89 u90 u91 u92 u93 u94 u95 : Value} :
    Code.wp Tryz.prog (seqL c15) (Exit.then K (PQ w R)) ⟨(u0 :: u1 :: .bool not :: .pointer (some ⟨w.heap.size, 0, none⟩) :: .pointer (some ⟨w.heap.size + 1, 0, none⟩) :: u5 :: .pointer (some ⟨w.heap.size + 1 + 1, 0, none⟩) :: u7 :: u8 :: u9 :: .func (.func 102) #[] #[.pointer (some ⟨g10, 0, none⟩)] :: u11 :: u12 :: u13 :: u14 :: u15 :: u16 :: u17 :: u18 :: u19 :: u20 :: u21 :: u22 :: u23 :: u24 :: u25 :: u26 :: u27 :: u28 :: u29 :: u30 :: u31 :: u32 :: u33 :: u34 :: u35 :: u36 :: u37 :: u38 :: u39 :: u40 :: u41 :: u42 :: u43 :: u44 :: u45 :: u46 :: u47 :: u48 :: u49 :: u50 :: u51 :: u52 :: u53 :: u54 :: u55 :: u56 :: u57 :: u58 :: u59 :: u60 :: u61 :: u62 :: u63 :: u64 :: u65 :: u66 :: u67 :: u68 :: u69 :: u70 :: u71 :: u72 :: u73 :: u74 :: u75 :: u76 :: u77 :: u78 :: u79 :: u80 :: u81 :: u82 :: u83 :: u84 :: u85 :: u86 :: u87 :: u88 :: u89 :: u90 :: u91 :: u92 :: u93 :: u94 :: u95 :: []).toArray, []⟩ V9 := by
  conv at hK => enter [a, w', 1, 2]; whnf
  conv => arg 2; whnf
  obtain ⟨one, hone⟩ : ∃ z, z = cz ((m : Int).fdiv (g : Int)) := ⟨_, rfl⟩
  have HONE := Lib.hid hone; have HMV := Lib.hid hmv; have HGV := Lib.hid hgv; have HLN := Lib.hid hln; have HPS := Lib.hid hps; have HRE := Lib.hid hRe
  have hg00 : (0 : Int) < (g : Int) := by omega
  have hgv0 : gz.v ≠ 0 := by rw [hgv]; omega
  have hs8 := hE9.size; have hs6v := v6.lt
  clear hone hmv hgv hln hps hRe
  have hfz := overf_c (N := 64 * N) hz10 hgv0 (by omega) (by omega)
  rw [HGV.out] at hfz
  have hcut := fun (U : World) (hU : Ext V9 U) => hfz.2 U hU _ _ _ (⟨A1, c1, rfl, hM9.ext hU⟩ : Zi U _ (.agg #[.bool mz.neg, .slice A1 mz.mag.length c1]) mz) hMz
  rw [HMV.out, ← HONE.out] at hcut
  have hT1z := zl_vl hT1lb.1 hT1s.2.1
  have hT1kz : zl T1.k.v ≤ 4 * N := Nat.le_trans (zl_of hT1lb.2) hT1s.2.2
  have hmp := fun (U : World) (hU : Ext V9 U) => mapped_c (N := 64 * N) (M := 64 * N) (⟨A6, e6, C6, f6, by rw [HLN.out], hP9.ext hU, hK9.ext hU⟩ : Tv U _ (.agg #[.slice A6 ln e6, .bool T1.k.neg, .slice C6 T1.k.mag.length f6]) T1) (hT1s.mono (by omega)) (Nat.le_refl _) (by omega) (hfz.ext hU) (hfz.ext hU) (fun x hx => fdiv_zl hg00 hx) (fun x hx => fdiv_zl hg00 hx)
  obtain ⟨T2, hT2⟩ : ∃ T, T = ct (fm (·.fdiv (g : Int)) (vl T1.ps)) (T1.k.v.fdiv (g : Int)) := ⟨_, rfl⟩
  have hT2s : T2.sz (8 * N) := by
    rw [hT2, show 8 * N = 4 * N + 4 * N by omega]
    refine ct_sz ?_ ?_ ?_
    · rw [fm_len, vl_len]; exact hT1s.1
    · intro q hq
      obtain ⟨q0, hq0, rfl⟩ := List.mem_map.1 hq
      exact fdiv_zl hg00 (hT1z q0 hq0)
    · exact Nat.le_trans (fdiv_zl hg00 hT1kz) (by omega)
  simp only [← hT2] at hmp
  have HMP := Lib.hid hmp; have HCUT := Lib.hid hcut; have HT2 := Lib.hid hT2
  clear hmp hcut hT2 hfz
  have v3l := v3.lt; have v4l := v4.lt
  refine wp_region_free [(0, 69, []), (1, 70, []), (2, 71, [(0, 69), (1, 70)]), (3, 72, []), (4, 73, []), (5, 74, []), (6, 75, [(2, 71), (3, 72), (4, 73), (5, 74)])] [7, 8] [69, 70, 71, 72, 73, 74, 75] [] [] [phiEq (.func (.func 102) #[] #[.pointer (some ⟨g10, 0, none⟩)]), phiEq (.agg #[.bool mz.neg, .slice A1 mz.mag.length c1]), phiZ (V9.heap.size ≤ ·) one, phiEq (.agg #[.slice A6 ln e6, .bool T1.k.neg, .slice C6 T1.k.mag.length f6]), phiEq (.func (.func 102) #[] #[.pointer (some ⟨g10, 0, none⟩)]), phiEq (.func (.func 102) #[] #[.pointer (some ⟨g10, 0, none⟩)]), phiTF V9.heap.size T2] rfl (by kernel_rfl) (by intro _ _ d _ _ h; cases d <;> exact h) (by kernel_rfl) (by kernel_rfl) ?_ ?_
  · as_aux_lemma =>
    have q0 : V9.cell? ⟨w.heap.size, 0, none⟩ = some (.bool mz.neg) := by rw [v3.cell]; rfl
    have q1 : V9.cell? ⟨w.heap.size, 1, none⟩ = some (.slice A1 mz.mag.length c1) := by rw [v3.cell]; rfl
    have q2 : V9.cell? ⟨w.heap.size + 1, 0, none⟩ = some (.slice A6 ln e6) := by rw [v4.cell]; rfl
    have q3 : V9.cell? ⟨w.heap.size + 1, 1, none⟩ = some (.bool T1.k.neg) := by rw [v4.cell]; rfl
    have q4 : V9.cell? ⟨w.heap.size + 1, 2, none⟩ = some (.slice C6 T1.k.mag.length f6) := by rw [v4.cell]; rfl
    (refine ps_eq rfl rfl rfl rfl rfl rfl ?_ ?_; focus (intro f w1 hx hd; have hc' := hx.cells.1; (try simp only [wcd] at hc'); (dsimp only [PhiDeps, phiAt, phiEq, phiZ, phiAny, phiBox] at hd); (simp only [fillA]; (try simp only [Act.put, List.setIfInBounds_toArray, List.set_cons_zero, List.set_cons_succ])); (try simp only [hd]); go_simp; (first | done | with_reducible rfl)))
    (refine ps_eq rfl rfl rfl rfl rfl rfl ?_ ?_; focus (intro f w1 hx hd; have hc' := hx.cells.1; (try simp only [wcd] at hc'); have z0 := (hc' _ 0 v3l).trans q0; have z1 := (hc' _ 1 v3l).trans q1; clear hc'; (dsimp only [PhiDeps, phiAt, phiEq, phiZ, phiAny, phiBox] at hd); (simp only [fillA]; (try simp only [Act.put, List.setIfInBounds_toArray, List.set_cons_zero, List.set_cons_succ])); (try simp only [hd]); go_simp; (first | done | with_reducible rfl)))
    (refine ps_loud rfl rfl rfl rfl rfl (fun f w1 hx hd K hK => ?_) ?_)
    · (have hc' := hx.cells.1; (try simp only [wcd] at hc'); (dsimp only [PhiDeps, phiAt, phiEq, phiZ, phiAny, phiBox] at hd); simp only [fillA, Act.put, List.setIfInBounds_toArray, List.set_cons_zero, List.set_cons_succ] at hK; (simp only [fillA]; (try simp only [Act.put, List.setIfInBounds_toArray, List.set_cons_zero, List.set_cons_succ])); (try simp only [hd] at hK ⊢); go_simp)
      refine (HCUT.out _ (by repeat (first | with_reducible assumption | with_reducible exact Ext.refl _ | with_reducible refine Ext.drewN ?_ _ | with_reducible refine Ext.drew ?_ | with_reducible refine Ext.alloc ?_ _ | (with_reducible refine Ext.setCell ?_ ?_ _; rotate_left; (first | exact Nat.le_refl _ | (dsimp only; omega) | (simp only [wsz]; omega))) | (with_reducible refine Ext.trans ?_ (by with_reducible assumption))))).mono ?_
      rintro e8 w8 ⟨r8, rfl, hr8, hx8⟩
      (refine hK _ _ (by repeat (first | with_reducible assumption | with_reducible exact Ext.refl _ | with_reducible refine Ext.drewN ?_ _ | with_reducible refine Ext.drew ?_ | with_reducible refine Ext.alloc ?_ _ | (with_reducible refine Ext.setCell ?_ ?_ _; rotate_left; (first | exact Nat.le_refl _ | (dsimp only; omega) | (simp only [wsz]; omega))) | (with_reducible refine Ext.trans ?_ (by with_reducible assumption)))) ?_; dsimp only [phiAt, phiEq, phiZ, phiAny, phiBox])
      exact hr8.widen fun q hq _ => Nat.le_trans (Ext.size (show Ext V9 w1 from (by repeat (first | with_reducible assumption | with_reducible exact Ext.refl _ | with_reducible refine Ext.drewN ?_ _ | with_reducible refine Ext.drew ?_ | with_reducible refine Ext.alloc ?_ _ | (with_reducible refine Ext.setCell ?_ ?_ _; rotate_left; (first | exact Nat.le_refl _ | (dsimp only; omega) | (simp only [wsz]; omega))) | (with_reducible refine Ext.trans ?_ (by with_reducible assumption)))))) hq
    (refine ps_eq rfl rfl rfl rfl rfl rfl ?_ ?_; focus (intro f w1 hx hd; have hc' := hx.cells.1; (try simp only [wcd] at hc'); have z0 := (hc' _ 0 v4l).trans q2; have z1 := (hc' _ 1 v4l).trans q3; have z2 := (hc' _ 2 v4l).trans q4; clear hc'; (dsimp only [PhiDeps, phiAt, phiEq, phiZ, phiAny, phiBox] at hd); (simp only [fillA]; (try simp only [Act.put, List.setIfInBounds_toArray, List.set_cons_zero, List.set_cons_succ])); (try simp only [hd]); go_simp; (first | done | with_reducible rfl)))
    (refine ps_eq rfl rfl rfl rfl rfl rfl ?_ ?_; focus (intro f w1 hx hd; have hc' := hx.cells.1; (try simp only [wcd] at hc'); (dsimp only [PhiDeps, phiAt, phiEq, phiZ, phiAny, phiBox] at hd); (simp only [fillA]; (try simp only [Act.put, List.setIfInBounds_toArray, List.set_cons_zero, List.set_cons_succ])); (try simp only [hd]); go_simp; (first | done | with_reducible rfl)))
    (refine ps_eq rfl rfl rfl rfl rfl rfl ?_ ?_; focus (intro f w1 hx hd; have hc' := hx.cells.1; (try simp only [wcd] at hc'); (dsimp only [PhiDeps, phiAt, phiEq, phiZ, phiAny, phiBox] at hd); (simp only [fillA]; (try simp only [Act.put, List.setIfInBounds_toArray, List.set_cons_zero, List.set_cons_succ])); (try simp only [hd]); go_simp; (first | done | with_reducible rfl)))
    (refine ps_loud rfl rfl rfl rfl rfl (fun f w1 hx hd K hK => ?_) ?_)
    · (have hc' := hx.cells.1; (try simp only [wcd] at hc'); (dsimp only [PhiDeps, phiAt, phiEq, phiZ, phiAny, phiBox] at hd); simp only [fillA, Act.put, List.setIfInBounds_toArray, List.set_cons_zero, List.set_cons_succ] at hK; (simp only [fillA]; (try simp only [Act.put, List.setIfInBounds_toArray, List.set_cons_zero, List.set_cons_succ])); (try simp only [hd] at hK ⊢); go_simp)
      refine (HMP.out _ (by repeat (first | with_reducible assumption | with_reducible exact Ext.refl _ | with_reducible refine Ext.drewN ?_ _ | with_reducible refine Ext.drew ?_ | with_reducible refine Ext.alloc ?_ _ | (with_reducible refine Ext.setCell ?_ ?_ _; rotate_left; (first | exact Nat.le_refl _ | (dsimp only; omega) | (simp only [wsz]; omega))) | (with_reducible refine Ext.trans ?_ (by with_reducible assumption))))).mono ?_
      rintro e8 w8 ⟨r8, rfl, hr8, hx8⟩
      (refine hK _ _ (by repeat (first | with_reducible assumption | with_reducible exact Ext.refl _ | with_reducible refine Ext.drewN ?_ _ | with_reducible refine Ext.drew ?_ | with_reducible refine Ext.alloc ?_ _ | (with_reducible refine Ext.setCell ?_ ?_ _; rotate_left; (first | exact Nat.le_refl _ | (dsimp only; omega) | (simp only [wsz]; omega))) | (with_reducible refine Ext.trans ?_ (by with_reducible assumption)))) ?_; dsimp only [phiAt, phiEq, phiZ, phiAny, phiBox])
      exact hr8.lower (Ext.size (show Ext V9 w1 from (by repeat (first | with_reducible assumption | with_reducible exact Ext.refl _ | with_reducible refine Ext.drewN ?_ _ | with_reducible refine Ext.drew ?_ | with_reducible refine Ext.alloc ?_ _ | (with_reducible refine Ext.setCell ?_ ?_ _; rotate_left; (first | exact Nat.le_refl _ | (dsimp only; omega) | (simp only [wsz]; omega))) | (with_reducible refine Ext.trans ?_ (by with_reducible assumption))))))
    exact ps_nil
  · as_aux_lemma =>
    intro f w2 hx2 hall hne2
    (dsimp only [PhiAll, phiAt, phiEq, phiZ, phiAny, phiBox] at hall)
    obtain ⟨f1, f2, ⟨A71, c71, e71, n71⟩, f4, f5, f6, f7, -⟩ := hall
    dsimp only [phiTF] at f7
    (simp only [fillA]; (try simp only [Act.put, List.setIfInBounds_toArray, List.set_cons_zero, List.set_cons_succ]))
    simp only [e71]
    have hx2 := (Ext.refl V9).drew.trans hx2
    have v3 := v3.ext hx2; have v4 := v4.ext hx2; have v6 := v6.ext hx2
    have f70 := f7
    obtain ⟨A75, c75, C75, d75, e75, -, -, -⟩ := f7
    simp only [e75]
    have v3r := v3.rules; have v3l' := v3.lt; have v4r := v4.rules; have v4l' := v4.lt
    (refine sh_late rfl rfl fun K hK => ?_; go_simp; refine hK _ _ ?_; clear hK K)
    (refine sh_late rfl rfl fun K hK => ?_; go_simp; refine hK _ _ ?_; clear hK K)
    refine sh_end ?_
    rw [e75] at f70
    go_upto_region 16 with fail
    refine wp_named fun Va hVa => ?_
    have hs29 := hx2.size
    have a3 : Box Va w.heap.size 24 #[.bool one.neg, .slice A71 one.mag.length c71] := by rw [hVa]; exact ((((v3.set_ 0 _).set_ 1 _).far (by simp only; omega) _).far (by simp only; omega) _).far (by simp only; omega) _
    have a4 : Box Va (w.heap.size + 1) 27 #[.slice A75 T2.ps.length c75, .bool T2.k.neg, .slice C75 T2.k.mag.length d75] := by rw [hVa]; exact ((((v4.far (by simp only; omega) _).far (by simp only; omega) _).set_ 0 _).set_ 1 _).set_ 2 _
    have a6 : Box Va (w.heap.size + 1 + 1) 29 #[.int .i64 0, .bool false, .slice none 0 0, .slice none 0 0, .bool false, .slice none 0 0] := by rw [hVa]; exact ((((v6.far (by simp only; omega) _).far (by simp only; omega) _).far (by simp only; omega) _).far (by simp only; omega) _).far (by simp only; omega) _
    have kVa : Kp (V9.heap.size ≤ ·) w2 Va := by rw [hVa]; exact (((((Kp.refl w2).setCell (by simp only; omega) _).setCell (by simp only; omega) _).setCell (by simp only; omega) _).setCell (by simp only; omega) _).setCell (by simp only; omega) _
    have hEa : Ext w Va := by rw [hVa]; exact (((((hE9.trans hx2).setCell (by simp only; omega) _).setCell (by simp only; omega) _).setCell (by simp only; omega) _).setCell (by simp only; omega) _).setCell (by simp only; omega) _
    have hOn : Nl Va (V9.heap.size ≤ ·) A71 c71 one.mag := n71.keep kVa
    have hTF := f70.keep kVa
    have hsa : V9.heap.size ≤ Va.heap.size := by rw [hVa]; simp only [wsz]; omega
    clear hVa kVa v3 v4 v6 v3r v4r v3l' v4l' f70 n71 e71 e75 f1 f2 f4 f5 f6 hne2 hx2 hP9 hK9 hM9 hz10 HCUT HMP
    have a3r := a3.rules; have a3l := a3.lt
    have hmo := mod_c (⟨A71, c71, rfl, hOn⟩ : Zi Va _ (.agg #[.bool one.neg, .slice A71 one.mag.length c71]) one)
    have HMO2 := Lib.hid hmo
    clear hmo
    go_wp2_with fail
    refine HMO2.out.mono ?_
    rintro e10 w10 ⟨g8', rfl, hg8', hb8', hx10⟩
    go_upto_region 17 with fail
    refine wp_named fun Vb hVb => ?_
    have hxb : Ext Va Vb := by rw [hVb]; exact hx10
    have hb8' := hb8'.ext (V' := Vb) (by rw [hVb]; exact Ext.refl _)
    clear hVb hx10 HMO2
    have b3 := a3.ext hxb; have b4 := a4.ext hxb; have b6 := a6.ext hxb
    have hOn := Nl.ext hOn hxb; have hTF := hTF.ext hxb; have hEb := hEa.trans hxb
    have hsb := hxb.size
    clear a3 a3r a3l a4 a6 hEa hxb
    -- its opposite
    have honev : one.v = (m : Int).fdiv g := by rw [HONE.out, cz_v]
    have honep : (0 : Int) < (m : Int).fdiv g := by
      rw [Int.fdiv_eq_ediv_of_nonneg _ (by omega)]
      have := Int.le_ediv_of_mul_le hg00 (show 1 * (g : Int) ≤ (m : Int) by omega)
      omega
    have honez : zl one.v ≤ N := by rw [honev]; exact fdiv_zl hg00 hzm
    have honel : one.mag.length ≤ N := by rw [HONE.out, cz_len]; exact fdiv_zl hg00 hzm
    have hT2lb : T2.lb := by rw [HT2.out]; exact ct_lb _ _
    have hT2z := zl_vl hT2lb.1 hT2s.2.1
    have hT2kz : zl T2.k.v ≤ 8 * N := Nat.le_trans (zl_of hT2lb.2) hT2s.2.2
    have hsc := fun (U : World) (hU : Ext Vb U) (r : Value) (Q : Nat → Prop) (hr : Zi U Q r (cz (-1))) => tscale_f hr (hTF.ext hU).tv (N := 8 * N) (by omega) (one_len _ (by omega)).2 hT2s
    obtain ⟨T3, hT3⟩ : ∃ T, T = ct (sc (cz (-1)).v (vl T2.ps)) ((cz (-1)).v * T2.k.v) := ⟨_, rfl⟩
    rw [← hT3] at hsc
    have hT3s : T3.sz (16 * N) := by
      rw [hT3, show 16 * N = 8 * N + 8 * N by omega, cz_v]
      refine ct_sz ?_ ?_ ?_
      · rw [sc_len, vl_len]; exact hT2s.1
      · intro q hq
        obtain ⟨q0, hq0, rfl⟩ := List.mem_map.1 hq
        have h := hT2z q0 hq0
        simp only [Int.neg_mul, Int.one_mul, zl_neg]
        exact h
      · simp only [Int.neg_mul, Int.one_mul, zl_neg]
        omega
    have hfz := modf_c (N := 64 * N) hb8' (by omega) (by omega) (by omega)
    rw [honev] at hfz
    have hmp := fun (U : World) (hU : Ext Vb U) (r : Value) (Q : Nat → Prop) (hr : Tv U Q r T3) => mapped_c (N := 64 * N) (M := 64 * N) hr (hT3s.mono (by omega)) (Nat.le_refl _) (by omega) (hfz.ext hU) (hfz.ext hU) (fun x _ => Nat.le_trans (fmod_zl honep (by rw [← honev]; exact honez)) (by omega)) (fun x _ => Nat.le_trans (fmod_zl honep (by rw [← honev]; exact honez)) (by omega))
    obtain ⟨T4, hT4⟩ : ∃ T, T = ct (fm (·.fmod ((m : Int).fdiv g)) (vl T3.ps)) (T3.k.v.fmod ((m : Int).fdiv g)) := ⟨_, rfl⟩
    simp only [← hT4] at hmp
    have hT4s : T4.sz (32 * N) := by
      rw [hT4, show 32 * N = 16 * N + 16 * N by omega]
      refine ct_sz ?_ ?_ ?_
      · rw [fm_len, vl_len]; exact hT3s.1
      · intro q hq
        obtain ⟨q0, hq0, rfl⟩ := List.mem_map.1 hq
        exact Nat.le_trans (fmod_zl honep (by rw [← honev]; exact honez)) (by omega)
      · exact Nat.le_trans (fmod_zl honep (by rw [← honev]; exact honez)) (by omega)
    have hles : lesser ((m : Int).fdiv g) (cn (fm (·.fdiv (g : Int)) (cn l1))) (T1.k.v.fdiv (g : Int)) = if ordT T4 T2 < 0 then T4 else T2 := by
      have e2 : T2 = ct (cn (fm (·.fdiv (g : Int)) (cn l1))) (T1.k.v.fdiv (g : Int)) := by
        rw [HT2.out, HPS.out, vl_cl]; unfold ct; rw [cn_cn]
      have e4 : T4 = ct (fm (·.fmod ((m : Int).fdiv g)) (cn (sc (-1) (cn (fm (·.fdiv (g : Int)) (cn l1)))))) ((-(T1.k.v.fdiv (g : Int))).fmod ((m : Int).fdiv g)) := by
        rw [hT4, hT3, e2]
        unfold ct
        simp only [vl_cl, cz_v, cn_cn, Int.neg_mul, Int.one_mul]
      unfold lesser
      rw [← e4, ← e2]
    have hR3 := HRE.out
    rw [hles, ← HONE.out] at hR3
    have HR3 := Lib.hid hR3; have HSC := Lib.hid hsc; have HMP2 := Lib.hid hmp; have HOF2 := Lib.hid (fun (U : World) => zof_c (-1) (by omega) (by omega) U)
    clear hR3 hsc hmp hles hT3 hT4 hfz honev
    have b3l := b3.lt; have b4l := b4.lt
    refine wp_region_free [(0, 78, []), (1, 79, []), (2, 80, [(0, 78), (1, 79)]), (3, 81, []), (4, 82, []), (5, 83, [(2, 80), (3, 81), (4, 82)]), (6, 13, [])] [7] [78, 79, 80, 81, 82, 83, 13] [6] [] [phiZ (fun _ => True) (cz (-1)), phiEq (.agg #[.slice A75 T2.ps.length c75, .bool T2.k.neg, .slice C75 T2.k.mag.length d75]), phiTF Vb.heap.size T3, phiEq (.func (.func 120) #[] #[.pointer (some ⟨g8', 0, none⟩)]), phiEq (.func (.func 120) #[] #[.pointer (some ⟨g8', 0, none⟩)]), phiTF Vb.heap.size T4, phiBox Vb.heap.size 27 #[.slice none 0 0, .bool false, .slice none 0 0]] rfl (by kernel_rfl) (by intro _ _ d _ _ h; cases d <;> exact h) (by kernel_rfl) (by kernel_rfl) ?_ ?_
    · as_aux_lemma =>
      have q2 : Vb.cell? ⟨w.heap.size + 1, 0, none⟩ = some (.slice A75 T2.ps.length c75) := by rw [b4.cell]; rfl
      have q3 : Vb.cell? ⟨w.heap.size + 1, 1, none⟩ = some (.bool T2.k.neg) := by rw [b4.cell]; rfl
      have q4 : Vb.cell? ⟨w.heap.size + 1, 2, none⟩ = some (.slice C75 T2.k.mag.length d75) := by rw [b4.cell]; rfl
      (refine ps_loud rfl rfl rfl rfl rfl (fun f w1 hx hd K hK => ?_) ?_)
      · (have hc' := hx.cells.1; (try simp only [wcd] at hc'); (dsimp only [PhiDeps, phiAt, phiEq, phiZ, phiAny, phiBox] at hd); simp only [fillA, Act.put, List.setIfInBounds_toArray, List.set_cons_zero, List.set_cons_succ] at hK; (simp only [fillA]; (try simp only [Act.put, List.setIfInBounds_toArray, List.set_cons_zero, List.set_cons_succ])); (try simp only [hd] at hK ⊢); go_simp)
        refine (HOF2.out _).mono ?_
        rintro e8 w8 ⟨r8, rfl, hr8, hx8⟩
        (refine hK _ _ (by repeat (first | with_reducible assumption | with_reducible exact Ext.refl _ | with_reducible refine Ext.drewN ?_ _ | with_reducible refine Ext.drew ?_ | with_reducible refine Ext.alloc ?_ _ | (with_reducible refine Ext.setCell ?_ ?_ _; rotate_left; (first | exact Nat.le_refl _ | (dsimp only; omega) | (simp only [wsz]; omega))) | (with_reducible refine Ext.trans ?_ (by with_reducible assumption)))) ?_; dsimp only [phiAt, phiEq, phiZ, phiAny, phiBox])
        exact hr8.widen fun _ _ _ => trivial
      (refine ps_eq rfl rfl rfl rfl rfl rfl ?_ ?_; focus (intro f w1 hx hd; have hc' := hx.cells.1; (try simp only [wcd] at hc'); have z0 := (hc' _ 0 b4l).trans q2; have z1 := (hc' _ 1 b4l).trans q3; have z2 := (hc' _ 2 b4l).trans q4; clear hc'; (dsimp only [PhiDeps, phiAt, phiEq, phiZ, phiAny, phiBox] at hd); (simp only [fillA]; (try simp only [Act.put, List.setIfInBounds_toArray, List.set_cons_zero, List.set_cons_succ])); (try simp only [hd]); go_simp; (first | done | with_reducible rfl)))
      (refine ps_loud rfl rfl rfl rfl rfl (fun f w1 hx hd K hK => ?_) ?_)
      · have hc' := hx.cells.1
        (try simp only [wcd] at hc')
        simp only [fillA, Act.put, List.setIfInBounds_toArray, List.set_cons_zero, List.set_cons_succ] at hK
        (simp only [fillA]; (try simp only [Act.put, List.setIfInBounds_toArray, List.set_cons_zero, List.set_cons_succ]))
        dsimp only [PhiDeps, phiAt, phiEq, phiZ, phiAny, phiBox, phiTF] at hd
        obtain ⟨hz78, e79, -⟩ := hd
        simp only [e79] at hK ⊢
        go_simp
        refine (HSC.out _ (by repeat (first | with_reducible assumption | with_reducible exact Ext.refl _ | with_reducible refine Ext.drewN ?_ _ | with_reducible refine Ext.drew ?_ | with_reducible refine Ext.alloc ?_ _ | (with_reducible refine Ext.setCell ?_ ?_ _; rotate_left; (first | exact Nat.le_refl _ | (dsimp only; omega) | (simp only [wsz]; omega))) | (with_reducible refine Ext.trans ?_ (by with_reducible assumption)))) _ _ hz78).mono ?_
        rintro e8 w8 ⟨r8, rfl, hr8, hx8⟩
        (refine hK _ _ (by repeat (first | with_reducible assumption | with_reducible exact Ext.refl _ | with_reducible refine Ext.drewN ?_ _ | with_reducible refine Ext.drew ?_ | with_reducible refine Ext.alloc ?_ _ | (with_reducible refine Ext.setCell ?_ ?_ _; rotate_left; (first | exact Nat.le_refl _ | (dsimp only; omega) | (simp only [wsz]; omega))) | (with_reducible refine Ext.trans ?_ (by with_reducible assumption)))) ?_; dsimp only [phiAt, phiEq, phiZ, phiAny, phiBox])
        exact hr8.lower (Ext.size (show Ext Vb w1 from (by repeat (first | with_reducible assumption | with_reducible exact Ext.refl _ | with_reducible refine Ext.drewN ?_ _ | with_reducible refine Ext.drew ?_ | with_reducible refine Ext.alloc ?_ _ | (with_reducible refine Ext.setCell ?_ ?_ _; rotate_left; (first | exact Nat.le_refl _ | (dsimp only; omega) | (simp only [wsz]; omega))) | (with_reducible refine Ext.trans ?_ (by with_reducible assumption))))))
      (refine ps_eq rfl rfl rfl rfl rfl rfl ?_ ?_; focus (intro f w1 hx hd; have hc' := hx.cells.1; (try simp only [wcd] at hc'); (dsimp only [PhiDeps, phiAt, phiEq, phiZ, phiAny, phiBox] at hd); (simp only [fillA]; (try simp only [Act.put, List.setIfInBounds_toArray, List.set_cons_zero, List.set_cons_succ])); (try simp only [hd]); go_simp; (first | done | with_reducible rfl)))
      (refine ps_eq rfl rfl rfl rfl rfl rfl ?_ ?_; focus (intro f w1 hx hd; have hc' := hx.cells.1; (try simp only [wcd] at hc'); (dsimp only [PhiDeps, phiAt, phiEq, phiZ, phiAny, phiBox] at hd); (simp only [fillA]; (try simp only [Act.put, List.setIfInBounds_toArray, List.set_cons_zero, List.set_cons_succ])); (try simp only [hd]); go_simp; (first | done | with_reducible rfl)))
      (refine ps_loud rfl rfl rfl rfl rfl (fun f w1 hx hd K hK => ?_) ?_)
      · have hc' := hx.cells.1
        (try simp only [wcd] at hc')
        simp only [fillA, Act.put, List.setIfInBounds_toArray, List.set_cons_zero, List.set_cons_succ] at hK
        (simp only [fillA]; (try simp only [Act.put, List.setIfInBounds_toArray, List.set_cons_zero, List.set_cons_succ]))
        dsimp only [PhiDeps, phiAt, phiEq, phiZ, phiAny, phiBox, phiTF] at hd
        obtain ⟨hz80, e81, e82, -⟩ := hd
        simp only [e81, e82] at hK ⊢
        go_simp
        refine (HMP2.out _ (by repeat (first | with_reducible assumption | with_reducible exact Ext.refl _ | with_reducible refine Ext.drewN ?_ _ | with_reducible refine Ext.drew ?_ | with_reducible refine Ext.alloc ?_ _ | (with_reducible refine Ext.setCell ?_ ?_ _; rotate_left; (first | exact Nat.le_refl _ | (dsimp only; omega) | (simp only [wsz]; omega))) | (with_reducible refine Ext.trans ?_ (by with_reducible assumption)))) _ _ hz80.tv).mono ?_
        rintro e8 w8 ⟨r8, rfl, hr8, hx8⟩
        (refine hK _ _ (by repeat (first | with_reducible assumption | with_reducible exact Ext.refl _ | with_reducible refine Ext.drewN ?_ _ | with_reducible refine Ext.drew ?_ | with_reducible refine Ext.alloc ?_ _ | (with_reducible refine Ext.setCell ?_ ?_ _; rotate_left; (first | exact Nat.le_refl _ | (dsimp only; omega) | (simp only [wsz]; omega))) | (with_reducible refine Ext.trans ?_ (by with_reducible assumption)))) ?_; dsimp only [phiAt, phiEq, phiZ, phiAny, phiBox])
        exact hr8.lower (Ext.size (show Ext Vb w1 from (by repeat (first | with_reducible assumption | with_reducible exact Ext.refl _ | with_reducible refine Ext.drewN ?_ _ | with_reducible refine Ext.drew ?_ | with_reducible refine Ext.alloc ?_ _ | (with_reducible refine Ext.setCell ?_ ?_ _; rotate_left; (first | exact Nat.le_refl _ | (dsimp only; omega) | (simp only [wsz]; omega))) | (with_reducible refine Ext.trans ?_ (by with_reducible assumption))))))
      (refine ps_alloc rfl rfl rfl rfl rfl ?_ (by repeat (first | exact ab_nil | refine ab_cons rfl ?_)) ?_ ?_; (focus (first | omega | (simp only [wsz]; done) | (simp only [wsz]; omega))); (focus (intro f w1; (simp only [fillA]; (try simp only [Act.put, List.setIfInBounds_toArray, List.set_cons_zero, List.set_cons_succ])); go_simp; try (with_reducible rfl))))
      exact ps_nil
    · as_aux_lemma =>
      intro f w2 hx2 hall hne2
      (dsimp only [PhiAll, phiAt, phiEq, phiZ, phiAny, phiBox] at hall)
      obtain ⟨f1, f2, f3, f4, f5, f6, ⟨g13, f7, l13, x13⟩, -⟩ := hall
      dsimp only [phiTF] at f6
      have hx2 := (Ext.refl Vb).drew.trans hx2
      (simp only [fillA]; (try simp only [Act.put, List.setIfInBounds_toArray, List.set_cons_zero, List.set_cons_succ]))
      simp only [f7]
      have f60 := f6
      obtain ⟨A83, c83, C83, d83, e83, -, -, -⟩ := f6
      rw [e83] at f60
      simp only [e83]
      have x13r := x13.rules; have x13l := x13.lt
      (refine sh_late rfl rfl fun K hK => ?_; go_simp; refine hK _ _ ?_; clear hK K)
      refine sh_end ?_
      go_upto_region 18 with fail
      refine wp_named fun Vc hVc => ?_
      have hs2b := hx2.size
      have d13 : Box Vc g13 27 #[.slice A83 T4.ps.length c83, .bool T4.k.neg, .slice C83 T4.k.mag.length d83] := by rw [hVc]; exact ((x13.set_ 0 _).set_ 1 _).set_ 2 _
      have hbc : Ext Vb Vc := by rw [hVc]; exact ((hx2.setCell (by simp only; omega) _).setCell (by simp only; omega) _).setCell (by simp only; omega) _
      have hT4F : TvF Vc Vb.heap.size (.agg #[.slice A83 T4.ps.length c83, .bool T4.k.neg, .slice C83 T4.k.mag.length d83]) T4 := by
        rw [hVc]
        exact f60.off x13 (by decide) (by simp) ((((Kp.refl w2).setCell (fun h => h rfl) _).setCell (fun h => h rfl) _).setCell (fun h => h rfl) _)
      have d3 := b3.ext hbc; have d4 := b4.ext hbc; have d6 := b6.ext hbc
      have hOn := Nl.ext hOn hbc; have hT2F := hTF.ext hbc; have hEc := hEb.trans hbc
      have hsc := hbc.size
      have hs9 := hE9.size
      refine parted_end hN hOn hT2F hT4F d13 d3 d4 d6 hEc hT4s hT2s (by omega) (by omega) (by omega) HR3.out ?_ ?_
      · intro a w' h
        go_step
        exact h
      · intro a w' h
        go_step
        exact h

end Go.Proofs.YthmjgbkakjpfkaaGreatDoor
