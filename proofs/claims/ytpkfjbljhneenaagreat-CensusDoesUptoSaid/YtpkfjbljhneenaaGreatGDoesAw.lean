/- riddlelaw19.known. No conditions. -/
import Derived.Test.YtpkfjbljhneenaaGreatGDoesAs
import Derived.Test.YtpkfjbljhneenaaGreatGDoesAr
import Derived.Test.YtpkfjbljhneenaaGreatGDoesAk
import Derived.Test.YtpkfjbljhneenaaGreatGDoesAu
import Derived.Test.YtpkfjbljhneenaaGreatGDoesAv
namespace Go.Proofs.YtpkfjbljhneenaaGreat
open Go.RowKit Go.Shelf

theorem kn_facts {s : Ps} {N : Nat} (hs : s.ok N) (hh : ∀ x, s.has x = (decide (3 < x) && decide (x % 4 = 1))) :
  cntV s (cz 0) 20 = 4 ∧ nxtV s (cz 6) = some 9 ∧ lstV s (cz 4) = none ∧ (mbs s 0 14).length = 3 := by
 refine ⟨?_, ?_, ?_, ?_⟩
 ·rw [cnt_nin hs, cz_v]
  have e : nin s 0 (20 + 1 - 0 : Int).toNat = 4 := by
   simp only [nin, hh]
   decide
  rw [e]; rfl
 ·cases h : nxtV s (cz 6) with
  | none =>
   have := nxt_none hs h 9 (by rw [cz_v]; omega); rw [hh] at this; simp at this
  | some y =>
   obtain ⟨h1, h2, h3⟩ := nxt_some hs h; rw [cz_v] at h1 h3; rw [hh] at h2; have h4 := h3 9 (by omega); rw [hh] at h4; simp at h2 h4
   congr 1
   omega
 ·cases h : lstV s (cz 4) with
  | none => rfl
  | some y =>
   obtain ⟨h1, h2, _⟩ := lst_some hs h; rw [cz_v] at h1; rw [hh] at h2; simp at h2
   omega
 ·rw [mbs, mem_len]; simp only [nin, hh]
  decide

set_option maxRecDepth 100000 in
set_option maxHeartbeats 3200000 in
theorem known_c (w : World) : Calls Tryz.prog 6 #[] w fun e w' => e = .returned (.bool true) ∧ Ext w w' := by
 have hn := fun (k : Int) (h1 : -9223372036854775808 ≤ k) (h2 : k ≤ 9223372036854775807) (V : World) => lnum_c k h1 h2 V
 obtain ⟨zf, hzf⟩ : ∃ zf : Int → Z, zf = cz := ⟨_, rfl⟩; simp only [← hzf] at hn
 go_enter Tryz.func6, Tryz.ntmps6
 have HN := Lib.hid hn; have HZ := Lib.hid hzf; clear hn hzf
 go_wp2_with fail
 refine (HN.out 4 (by omega) (by omega) _).mono ?_; rintro e w1 ⟨r1, rfl, hr1, hx1⟩
 go_wp2_with fail
 refine (HN.out 1 (by omega) (by omega) _).mono ?_; rintro e w2 ⟨r2, rfl, hr2, hx2⟩
 go_wp2_with fail
 have e4 : (zf 4).v = 4 := by rw [HZ.out, cz_v]
 have e1 : (zf 1).v = 1 := by rw [HZ.out, cz_v]
 have l4 : (zf 4).mag.length ≤ 2 := by rw [HZ.out, cz_len]; exact zl_word (by omega)
 have l1 : (zf 1).mag.length ≤ 2 := by rw [HZ.out, cz_len]; exact zl_word (by omega)
 obtain ⟨s3, hs3⟩ : ∃ s3 : Ps, s3 = ⟨4, [], [(List.replicate 4 false).set ((1 : Int) % (4 : Nat)).toNat true]⟩ := ⟨_, rfl⟩; have hcl := class_c (hr1.ext (w' := w2) xt) hr2 (by omega) (by omega) (by rw [e4]; omega) (by rw [e4]; decide); rw [e4, e1] at hcl; rw [show (4 : Int).natAbs = 4 from rfl, ← hs3] at hcl
 have ok3 : s3.ok 2 := by rw [hs3]; exact class_ok (by omega) (by omega)
 have has3 : ∀ x, s3.has x = decide (x % 4 = 1) := fun x => by rw [hs3, class_has 1 x (by omega)]; rfl
 have per3 : s3.per = 4 := by rw [hs3]
 have cut3 : s3.cuts.length = 0 := by rw [hs3]; rfl
 have P3 := Lib.hid (And.intro per3 (And.intro cut3 (And.intro has3 ok3))); clear hs3 per3 cut3 has3 ok3; refine hcl.mono ?_; rintro e w3 ⟨g, rfl, hS3, hx3⟩; have hE3 : Ext w w3 := xt; clear hcl l4 l1 e4 e1
 go_wp2_with fail
 refine (HN.out 3 (by omega) (by omega) _).mono ?_; rintro e w4 ⟨r4, rfl, hr4, hx4⟩
 have e3 : (zf 3).v = 3 := by rw [HZ.out, cz_v]
 have l3 : (zf 3).mag.length ≤ 2 := by rw [HZ.out, cz_len]; exact zl_word (by omega)
 obtain ⟨sA, hsA⟩ : ∃ sA : Ps, sA = ⟨1, [cz (3 + 1)], [[false], [true]]⟩ := ⟨_, rfl⟩; have hab := above_c hr4 (by omega); rw [e3, ← hsA] at hab
 have okA : sA.ok 2 := by rw [hsA]; exact above_ok (zl_word (by omega))
 have hasA : ∀ x, sA.has x = decide (3 < x) := fun x => by rw [hsA, above_has]
 have perA : sA.per = 1 := by rw [hsA]
 have cutA : sA.cuts.length = 1 := by rw [hsA]; rfl
 have PA := Lib.hid (And.intro perA (And.intro cutA (And.intro hasA okA))); clear hsA perA cutA hasA okA e3 l3
 go_wp2_with fail
 refine hab.mono ?_; rintro e w5 ⟨gA, rfl, hSA, hx5⟩; clear hab; have hE5 : Ext w w5 := hE3.trans xt; have hx35 : Ext w3 w5 := hx4.trans hx5
 go_wp2_with fail
 have hlcm : Nat.lcm sA.per s3.per = 4 := by rw [PA.out.1, P3.out.1]; rfl
 have hme := meet_c hSA (hS3.ext hx35) PA.out.2.2.2 P3.out.2.2.2 (by rw [hlcm]; omega); rw [hlcm] at hme; refine hme.mono ?_; rintro e w6 ⟨gM, l, hM, rfl, hSM, hx6⟩; obtain ⟨K, hK⟩ : ∃ K : Ps, K = ⟨4, (jfold and sA s3 4 l).1, (jfold and sA s3 4 l).2⟩ := ⟨_, rfl⟩; rw [← hK] at hSM
 have okK : K.ok 2 := by
  rw [hK]; exact joined_ok PA.out.2.2.2 P3.out.2.2.2 hM (by omega) (by omega) (by rw [PA.out.2.1, P3.out.2.1]; omega)
 have hasK : ∀ x, K.has x = (decide (3 < x) && decide (x % 4 = 1)) := fun x => by
  rw [hK, joined_has (N := 2) PA.out.2.2.2 P3.out.2.2.2 hM (by omega) (by rw [PA.out.1]; omega) (by rw [P3.out.1]; exact Nat.dvd_refl 4) x, PA.out.2.2.1, P3.out.2.2.1]
 obtain ⟨k1, k2, k3, k4⟩ := kn_facts okK hasK
 have hl := fun (k : Int) (h1 : -9223372036854775808 ≤ k) (h2 : k ≤ 9223372036854775807) => (show (zf k).mag.length ≤ 2 by rw [HZ.out, cz_len]; exact zl_word (by omega))
 have hv := fun (k : Int) => (show (zf k).v = k by rw [HZ.out, cz_v])
 have hC := fun (U : World) (hU : Ext w6 U) (r q : Value) (h : Zi U (fun _ => True) r (zf 0)) (h' : Zi U (fun _ => True) q (zf 20)) => count_c (L := 2) (hSM.ext hU) okK (by omega) (by omega) h h' (hl 0 (by omega) (by omega)) (hl 20 (by omega) (by omega))
 rw [hv 20, HZ.out, k1, ← HZ.out] at hC
 have hN := fun (U : World) (hU : Ext w6 U) (r : Value) (h : Zi U (fun _ => True) r (zf 6)) => next_c (L := 2) (hSM.ext hU) okK (by omega) (by omega) h (hl 6 (by omega) (by omega))
 rw [HZ.out, k2, ← HZ.out] at hN
 have hL := fun (U : World) (hU : Ext w6 U) (r : Value) (h : Zi U (fun _ => True) r (zf 4)) => last_c (L := 2) (hSM.ext hU) okK (by omega) (by omega) h (hl 4 (by omega) (by omega))
 rw [HZ.out, k3, ← HZ.out] at hL
 have hT := fun (U : World) (hU : Ext w6 U) (r q : Value) (h : Zi U (fun _ => True) r (zf 0)) (h' : Zi U (fun _ => True) q (zf 14)) => list_c (L := 2) (hSM.ext hU) okK (by omega) (by omega) h h' (hl 0 (by omega) (by omega)) (hl 14 (by omega) (by omega))
 rw [hv 14, hv 0] at hT; obtain ⟨m, hm⟩ : ∃ m, m = mbs K 0 14 := ⟨_, rfl⟩; rw [← hm] at hT k4
 have hml : (m.map cz).length = 3 := by rw [List.length_map]; exact k4
 have HC := Lib.hid hC; have HNx := Lib.hid hN; have HL := Lib.hid hL; have HT := Lib.hid hT; have HM := Lib.hid k4; have HML := Lib.hid hml
 clear hm k1 k2 k3 k4 hC hN hL hT hml hl hv hK hasK hme hlcm hM okK hx35 hE3 hSM; have hE6 : Ext w w6 := hE5.trans xt; clear hE5
 go_wp2_with fail
 refine (HN.out 0 (by omega) (by omega) _).mono ?_; rintro e w7 ⟨r7, rfl, hr7, hx7⟩
 go_wp2_with fail
 refine (HN.out 20 (by omega) (by omega) _).mono ?_; rintro e w8 ⟨r8, rfl, hr8, hx8⟩
 go_wp2_with fail
 have hx68 : Ext w6 w8 := xt; refine (HC.out _ hx68 _ _ ((hr7.ext hx8).widen fun _ _ _ => trivial) (hr8.widen fun _ _ _ => trivial)).mono ?_; rintro e w9 ⟨_, rfl, ⟨A9, c9, rfl, hr9⟩, hx9⟩; have hx69 : Ext w6 w9 := xt
 go_wp2_with fail
 refine (HN.out 6 (by omega) (by omega) _).mono ?_; rintro e w10 ⟨r10, rfl, hr10, hx10⟩; have hx610 : Ext w6 w10 := xt; have hx910 : Ext w9 w10 := ((Ext.refl w9).alloc _).trans hx10; have b5 : Box w10 w9.heap.size 25 #[.bool (zf 4).neg, .slice A9 (zf 4).mag.length c9] := (Box.new w9 _ _).ext hx10
 go_wp2_with fail
 refine (HNx.out _ hx610 _ (hr10.widen fun _ _ _ => trivial)).mono ?_; rintro e w11 ⟨_, rfl, ⟨A11, c11, rfl, hr11⟩, hx11⟩; have hx611 := hx610.trans hx11; have b51 := b5.ext hx11
 go_wp2_with fail
 refine (HN.out 4 (by omega) (by omega) _).mono ?_; rintro e w12 ⟨r12, rfl, hr12, hx12⟩; have hx612 : Ext w6 w12 := xt; have b7 : Box w12 w11.heap.size 25 #[.bool (zf 9).neg, .slice A11 (zf 9).mag.length c11] := (Box.new w11 _ _).ext hx12; have b52 := (b51.alloc _).ext hx12
 go_wp2_with fail
 refine (HL.out _ hx612 _ (hr12.widen fun _ _ _ => trivial)).mono ?_; rintro e w13 ⟨_, rfl, ⟨A13, c13, rfl, hr13⟩, hx13⟩; have hx613 := hx612.trans hx13; have b53 := b52.ext hx13; have b73 := b7.ext hx13
 go_wp2_with fail
 refine (HN.out 0 (by omega) (by omega) _).mono ?_; rintro e w14 ⟨r14, rfl, hr14, hx14⟩; have hx614 : Ext w6 w14 := xt; have b9 : Box w14 w13.heap.size 25 #[.bool (zf 0).neg, .slice A13 (zf 0).mag.length c13] := (Box.new w13 _ _).ext hx14; have b54 := (b53.alloc _).ext hx14; have b74 := (b73.alloc _).ext hx14
 go_wp2_with fail
 refine (HN.out 14 (by omega) (by omega) _).mono ?_; rintro e w15 ⟨r15, rfl, hr15, hx15⟩; have hx615 : Ext w6 w15 := xt
 have b55 := b54.ext hx15; have b75 := b74.ext hx15; have b95 := b9.ext hx15
 go_wp2_with fail
 refine (HT.out _ hx615 _ _ ((hr14.ext hx15).widen fun _ _ _ => trivial) (hr15.widen fun _ _ _ => trivial)).mono ?_; rintro e w16 ⟨hTl, hx16⟩
 rcases hTl with ⟨hlong, _⟩ | ⟨_, r16, rfl, hO16⟩
 ·have := HM.out; omega
 obtain ⟨A16, c16, rfl, hZ16⟩ := Own.sl hO16 (by omega) (X := fun _ => True) (fun _ _ => trivial); rw [HML.out]; have hx616 := hx615.trans hx16
 have b56 := b55.ext hx16; have b76 := b75.ext hx16; have b96 := b95.ext hx16
 have hr9' := hr9.ext (hx910.trans (hx11.trans (((Ext.refl w11).alloc _).trans (hx12.trans (hx13.trans (((Ext.refl w13).alloc _).trans (hx14.trans (hx15.trans hx16)))))))); have hr11' := hr11.ext (((Ext.refl w11).alloc _).trans (hx12.trans (hx13.trans (((Ext.refl w13).alloc _).trans (hx14.trans (hx15.trans hx16)))))); have hr13' := hr13.ext (((Ext.refl w13).alloc _).trans (hx14.trans (hx15.trans hx16))); have hE16 := hE6.trans hx616; clear b5 b51 b52 b53 b54 b55 b7 b73 b74 b75 b9 b95 hr9 hr11 hr13
 have b5r := b56.rules; have b5l := b56.lt
 have b7r := b76.rules; have b7l := b76.lt
 have b9r := b96.rules; have b9l := b96.lt
 go_upto_region 11 with fail
 refine wp_region_seq 33 [(0, true), (1, true), (2, true), (3, true), (4, false), (5, false), (6, true), (7, true), (8, true), (9, true), (10, true), (11, true), (12, false), (13, false), (14, true), (15, true), (16, true), (17, true), (18, true), (19, true), (20, true), (21, true), (22, false), (23, true), (24, true), (25, true), (26, true), (27, true), (28, true), (29, true), (30, true), (31, true), (32, true), (33, false)] rfl (by kernel_rfl) (by intro _ _ d _ _ h; cases d <;> exact h) ?_
 (repeat (first | (refine sq_take (v := ?_) rfl rfl ?_ ?_; rotate_left; exact tk2; (try simp only [pt])) | (refine sq_skip rfl rfl ?_; (try simp only [pt])) | (refine sq_noloud rfl rfl ?_; (try simp only [pt])) | (refine sq_takeg (v := ?_) rfl rfl ?_ ?_; rotate_left; exact tk2; (try simp only [pt]))))
 (refine sq_loudg rfl rfl fun K hK => ?_; go_simp)
 refine (HN.out 4 (by omega) (by omega) _).mono ?_; rintro e w17 ⟨r17, rfl, hr17, hx17⟩; have hx1 : Ext w16 w17 := xt
 (refine hK _ _ xt ?_; clear hK K; (try simp only [pt]))
 (repeat (first | (refine sq_take (v := ?_) rfl rfl ?_ ?_; rotate_left; exact tk2; (try simp only [pt])) | (refine sq_skip rfl rfl ?_; (try simp only [pt])) | (refine sq_noloud rfl rfl ?_; (try simp only [pt])) | (refine sq_takeg (v := ?_) rfl rfl ?_ ?_; rotate_left; exact tk2; (try simp only [pt]))))
 (refine sq_loudg rfl rfl fun K hK => ?_; go_simp)
 refine (lints_c (z := zf 4) (⟨A9, c9, rfl, hr9'.ext hx1⟩ : Zi w17 _ (.agg #[.bool (zf 4).neg, .slice A9 (zf 4).mag.length c9]) (zf 4)) hr17).mono ?_; rintro e w18 ⟨rfl, hx18⟩; have hx1 := hx1.trans hx18; have d7 := b76.ext hx1
 have d7r := d7.rules; have d7l := d7.lt
 clear b7r
 (refine hK _ _ xt ?_; clear hK K; (try simp only [pt]))
 (repeat (first | (refine sq_take (v := ?_) rfl rfl ?_ ?_; rotate_left; exact tk2; (try simp only [pt])) | (refine sq_skip rfl rfl ?_; (try simp only [pt])) | (refine sq_noloud rfl rfl ?_; (try simp only [pt])) | (refine sq_takeg (v := ?_) rfl rfl ?_ ?_; rotate_left; exact tk2; (try simp only [pt]))))
 (refine sq_loudg rfl rfl fun K hK => ?_; go_simp)
 refine (HN.out 9 (by omega) (by omega) _).mono ?_; rintro e w19 ⟨r19, rfl, hr19, hx19⟩; have hx1 := hx1.trans hx19
 (refine hK _ _ xt ?_; clear hK K; (try simp only [pt]))
 (repeat (first | (refine sq_take (v := ?_) rfl rfl ?_ ?_; rotate_left; exact tk2; (try simp only [pt])) | (refine sq_skip rfl rfl ?_; (try simp only [pt])) | (refine sq_noloud rfl rfl ?_; (try simp only [pt])) | (refine sq_takeg (v := ?_) rfl rfl ?_ ?_; rotate_left; exact tk2; (try simp only [pt]))))
 (refine sq_loudg rfl rfl fun K hK => ?_; go_simp)
 refine (lints_c (z := zf 9) (⟨A11, c11, rfl, hr11'.ext hx1⟩ : Zi w19 _ (.agg #[.bool (zf 9).neg, .slice A11 (zf 9).mag.length c11]) (zf 9)) hr19).mono ?_; rintro e w20 ⟨rfl, hx20⟩; have hx1 := hx1.trans hx20; have d9 := b96.ext hx1
 have d9r := d9.rules; have d9l := d9.lt
 clear b9r d7r
 (refine hK _ _ xt ?_; clear hK K; (try simp only [pt]))
 (repeat (first | (refine sq_take (v := ?_) rfl rfl ?_ ?_; rotate_left; exact tk2; (try simp only [pt])) | (refine sq_skip rfl rfl ?_; (try simp only [pt])) | (refine sq_noloud rfl rfl ?_; (try simp only [pt])) | (refine sq_takeg (v := ?_) rfl rfl ?_ ?_; rotate_left; exact tk2; (try simp only [pt]))))
 (refine sq_loudg rfl rfl fun K hK => ?_; go_simp)
 refine (lints_c (z := zf 0) (⟨A13, c13, rfl, hr13'.ext hx1⟩ : Zi w20 _ (.agg #[.bool (zf 0).neg, .slice A13 (zf 0).mag.length c13]) (zf 0)) (Y := fun _ => True) (v := .agg #[.bool false, .slice none 0 0]) (by rw [HZ.out]; exact ⟨none, 0, rfl, Sl.nil0 _ _ _⟩)).mono ?_; rintro e w21 ⟨rfl, hx21⟩; have hx1 := hx1.trans hx21
 (refine hK _ _ xt ?_; clear hK K; (try simp only [pt]))
 (repeat (first | (refine sq_take (v := ?_) rfl rfl ?_ ?_; rotate_left; exact tk2; (try simp only [pt])) | (refine sq_skip rfl rfl ?_; (try simp only [pt])) | (refine sq_noloud rfl rfl ?_; (try simp only [pt])) | (refine sq_takeg (v := ?_) rfl rfl ?_ ?_; rotate_left; exact tk2; (try simp only [pt]))))
 (refine sq_last rfl rfl fun K hK => ?_; go_simp; refine hK _ _ ?_; clear hK K)
 go_wp2_with fail
 go_ret
 exact ⟨rfl, hE16.trans hx1⟩

end Go.Proofs.YtpkfjbljhneenaaGreat
