/- riddleref05.Eval. No conditions. -/
import Derived.Test.YthmjgbkakjpfkaaGreatDoorGLooksAx
import Derived.Test.YthmjgbkakjpfkaaGreatDoorGLooksAy
namespace Go.Proofs.YthmjgbkakjpfkaaGreatDoor
open Go.RowKit Go.Shelf

theorem ix_at {l : List (Int × Z)} {x : Int} {k : Nat} (h : k < l.length) (hno : ∀ i (h : i < l.length), i < k → l[i].1 ≠ x) (he : (pth l k).1 = x) : lk l x = some (pth l k).2.v := by
  have h1 : ix l x = some k := by
    rw [ix_step l x k hno, drop_pth l k h]
    simp [ix, he]
  have h2 := (ix_some h1).2 h
  rw [pth_eq l k h]
  exact h2.2
theorem ix_end {l : List (Int × Z)} {x : Int} (hno : ∀ i (h : i < l.length), i < l.length → l[i].1 ≠ x) : lk l x = none :=
  ix_none (by rw [ix_step l x l.length hno, List.drop_length]; rfl)

set_option maxHeartbeats 3200000 in
theorem reval5_c {v : Value} {t : T} {w : World} {X Y : Nat → Prop} {A : Option Addr} {c : Nat} {vals : List (Int × Z)} {N : Nat} (h : Tv w X v t) (hv : Pl w Y A c vals) (hN : N ≤ 1073741824) (hs : t.sz N) (hvs : ∀ p ∈ vals, p.2.mag.length ≤ N) :
    Calls Tryz.prog 77 #[v, .slice A vals.length c] w fun e w' => EvR w' (w.heap.size ≤ ·) e t vals ∧ Ext w w' := by
  have htv := h
  have hlb := h.lb
  have hsz := nf_sz hs hlb
  have hnb := ct_lb (vl t.ps) t.k.v
  have hn1 : vl t.nf.ps = cn (vl t.ps) := vl_cl _
  have hn2 : t.nf.k = cz t.k.v := rfl
  have htk : zl t.k.v ≤ N := Nat.le_trans (zl_of hlb.2) hs.2.2
  have hvb := hv.lb
  obtain ⟨TA, tc, TB, td, rfl, h1, h2⟩ := h
  have hvl := hv.1; have hvm := hv.2.1
  simp only [maxLen] at hvm
  obtain ⟨tn, htn⟩ : ∃ tn, tn = t.nf := ⟨_, rfl⟩
  have hnorm := fun W (h : Ext w W) => rnorm5_c (htv.ext h) (N := N) (by omega) hs
  rw [← htn] at hnorm hn1 hn2 hsz
  have hnb : tn.lb := by rw [htn]; exact hnb
  have HN1 := Lib.hid hn1; have HN2 := Lib.hid hn2
  clear hn1 hn2 htn
  obtain ⟨s1, s2, s3⟩ := hsz
  have hzl := zl_vl hnb.1 s2
  go_enter Tryz.func77, Tryz.ntmps77
  go_wp2_with fail
  refine (hnorm _ xt).mono ?_
  clear hnorm
  rintro e w1 ⟨r1, rfl, ⟨A1, c1, B1, d1, rfl, h3, h4⟩, hx⟩
  (have b4 := Box.ext (g := w.heap.size + 1) bxt hx; have b4r := b4.rules; have b4l := b4.lt)
  (have hs1 := Ext.size hx; (try simp only [wsz] at hs1))
  have hxw1 : Ext w w1 := xt
  go_wp2_with fail
  refine wp_named fun W hW => ?_
  obtain ⟨g6, hg6, hg61⟩ : ∃ g6, g6 = w1.heap.size ∧ w.heap.size + 2 ≤ g6 := ⟨_, rfl, by omega⟩
  obtain ⟨g7, hg7, hg71⟩ : ∃ g7, g7 = g6 + 1 ∧ g6 < g7 := ⟨_, rfl, by omega⟩
  have hb6 : Box W g6 27 #[.slice A1 tn.ps.length c1, .bool tn.k.neg, .slice B1 tn.k.mag.length d1] := by rw [hW, hg6]; exact (Box.new _ _ _).alloc _
  have hb7 : Box W g7 24 #[.bool tn.k.neg, .slice B1 tn.k.mag.length d1] := by rw [hW, hg7, hg6]; exact Box.new_at _ _ _ (by simp)
  have hb4 : Box W (w.heap.size + 1) 24 #[.bool false, .slice none 0 0] := by rw [hW]; exact (b4.alloc _).alloc _
  have hE : Ext w W := by rw [hW]; exact (hxw1.alloc _).alloc _
  have hP : Pl W (fun c => w.heap.size + 2 ≤ c ∧ c ≠ g7) A1 c1 tn.ps := by rw [hW]; exact (h3.widen (Y := fun c => w.heap.size + 2 ≤ c ∧ c ≠ g7) fun c hc hl => ⟨by simp only [wsz] at hc; omega, by omega⟩).ext (Ext.alloc (Ext.alloc (Ext.refl _) _) _)
  have hNk : Nl W (fun c => w.heap.size + 2 ≤ c ∧ c ≠ g7) B1 d1 tn.k.mag := by rw [hW]; exact (h4.widen (Y := fun c => w.heap.size + 2 ≤ c ∧ c ≠ g7) fun c hc hl => ⟨by simp only [wsz] at hc; omega, by omega⟩).ext (Ext.alloc (Ext.alloc (Ext.refl _) _) _)
  rw [← hg6, ← hg7]
  clear hW hg6 hg7 b4 b4r b4l h3 h4
  have hWl := hb7.lt
  go_loopw [8] (fun iv wr => ∃ i B2 d2, ∃ z : Z, i ≤ tn.ps.length ∧ iv = .int .i64 (i : Nat) ∧ Box wr g7 24 #[.bool z.neg, .slice B2 z.mag.length d2] ∧ Nl wr (fun c => w.heap.size + 2 ≤ c ∧ c ≠ g7) B2 d2 z.mag ∧ Hid (z = cz (t.k.v + ev (fv vals) (vl (tn.ps.take i)))) ∧
      Hid (cov vals (vl (tn.ps.take i)) = true) ∧ Kp (fun c => c ≠ g7) W wr ∧ Ext w wr) (fun iv _ => tn.ps.length - (intOf iv).toNat)
  case atStart => exact ⟨0, B1, d1, tn.k, Nat.zero_le _, rfl, hb7, hNk, Lib.hid (by rw [HN2.out]; simp [vl, ev]), Lib.hid rfl, Kp.refl _, hE⟩
  case round =>
    clear hb7 hNk
    obtain ⟨i, B2, d2, z, hi, rfl, hb7, hNz, hz, hcv, kp, hxr⟩ := hrel
    obtain ⟨V, rfl⟩ : ∃ V, V = wr := ⟨_, rfl⟩
    have hb4k := hb4.keep (X := fun c => c ≠ g7) (by omega) kp
    have hb6k := hb6.keep (X := fun c => c ≠ g7) (by omega) kp
    have hb4r := hb4k.rules
    have hb4l := hb4k.lt
    have hb6r := hb6k.rules
    have hb6l := hb6k.lt
    have hb7r := hb7.rules
    have hb7l := hb7.lt
    by_cases hlt : i < tn.ps.length
    · obtain ⟨b, o, B', d', rfl, hX, hc0, hc1, hc2, hpi, hN2⟩ := (hP.keep (kp.imp fun c hc => hc.2)).at_ hlt
      have hb := World.block_lt_of_cell? _ _ hc0
      have il : (i : Int) < (tn.ps.length : Int) := by omega
      have iw := w64n (n := i) (by have := hP.1; have := hP.2.1; simp only [maxLen] at this; omega)
      have hpz : (pth tn.ps i).2.mag.length ≤ N + N := s2 _ (pth_mem hlt)
      have hzlen : z.mag.length ≤ N + N + N + N + N + N + 1 := by
        rw [hz.out, cz_len]
        have h1 := ev_zl (vals := vals) (ps := tn.ps) (N := N) (M := N + N) (k := i) hvb hvs hzl s1
        have := zl_add (x := t.k.v) (y := ev (fv vals) (vl (tn.ps.take i))) (k := N + N + N + N + N) (by omega) (by omega)
        omega
      go_wp2_with fail
      go_loopw [9] (fun kv wz => ∃ k : Nat, k ≤ vals.length ∧ kv = .int .i64 k ∧ Hid (∀ j (h : j < vals.length), j < k → vals[j].1 ≠ (pth tn.ps i).1) ∧ Ext V wz) (fun kv _ => vals.length - (intOf kv).toNat)
      case atStart => exact ⟨0, Nat.zero_le _, rfl, Lib.hid fun _ _ h => absurd h (Nat.not_lt_zero _), xt⟩
      case round =>
        obtain ⟨k, hk, rfl, hno, hxz⟩ := hrel
        have q4 := hb4k.ext hxz; have q6 := hb6k.ext hxz; have q7 := hb7.ext hxz
        have q4r := q4.rules; have q4l := q4.lt
        have q6r := q6.rules; have q6l := q6.lt
        have q7r := q7.rules; have q7l := q7.lt
        have hd0 := (hxz.cells.1 b (o + i * 3) hb).trans hc0
        have hd1 := (hxz.cells.1 b (o + i * 3 + 1) hb).trans hc1
        have hd2 := (hxz.cells.1 b (o + i * 3 + 2) hb).trans hc2
        have hbz := Nat.lt_of_lt_of_le hb hxz.size
        clear hb4r hb6r hb7r hc0 hc1 hc2
        have kw := w64n (n := k) (by omega)
        by_cases hltk : k < vals.length
        · obtain ⟨b2, o2, Bv, dv, rfl, hXv, hv0, hv1, hv2, hvi, hNv⟩ := (hv.ext (hxr.trans hxz)).at_ hltk
          have hbv := World.block_lt_of_cell? _ _ hv0
          have kl : (k : Int) < (vals.length : Int) := by omega
          have hqz : (pth vals k).2.mag.length ≤ N := hvs _ (pth_mem hltk)
          by_cases he : (pth vals k).1 = (pth tn.ps i).1
          · have e0 : ((pth vals k).1 != (pth tn.ps i).1) = false := by rw [he]; simp
            have kne : ((k : Int) == (vals.length : Int)) = false := by rw [beq_eq_false_iff_ne]; omega
            have HQ := Lib.hid (ix_at hltk hno.out he)
            clear he
            go_wp2_with fail
            refine wp_region_seq 18 [(0, true), (1, true), (2, true), (3, true), (4, true), (5, true), (6, true), (7, true), (8, true), (9, true), (10, true), (11, true), (12, true), (13, true), (14, true), (15, true), (16, true), (17, true)] rfl (by kernel_rfl) (by intro _ _ d _ _ h; cases d <;> exact h) ?_
            (repeat (first | (refine sq_take (v := ?_) rfl rfl ?_ ?_; rotate_left; (intro w' hx'; have hc' := hx'.cells.1; (try simp only [wcd] at hc'); go_simp; (first | done | with_reducible rfl)); (try simp only [pt])) | (refine sq_skip rfl rfl ?_; (try simp only [pt])) | (refine sq_noloud rfl rfl ?_; (try simp only [pt])) | (refine sq_takeg (v := ?_) rfl rfl ?_ ?_; rotate_left; (intro w' hx'; have hc' := hx'.cells.1; (try simp only [wcd] at hc'); go_simp; (first | done | with_reducible rfl)); (try simp only [pt]))))
            refine sq_done ?_
            go_wp2_with fail
            refine wp_region_seq 14 [(0, true), (1, true), (2, true), (3, true), (4, true), (5, true), (6, true), (7, true), (8, true), (9, true), (10, true), (11, true), (12, false), (13, false), (14, false)] rfl (by kernel_rfl) (by intro _ _ d _ _ h; cases d <;> exact h) ?_
            (repeat (refine sq_take (v := ?_) rfl rfl ?_ ?_; rotate_left; (intro w' hx'; have hc' := hx'.cells.1; (try simp only [wcd] at hc'); go_simp; (first | done | with_reducible rfl)); (try simp only [pt])))
            (refine sq_loud rfl rfl fun K hK => ?_; go_simp)
            refine (rmulz_c (x := (pth tn.ps i).2) (y := (pth vals k).2) ⟨_, _, rfl, hN2.ext (hxz.trans xt)⟩ ⟨_, _, rfl, hNv.ext xt⟩ (by omega) (by omega)).mono ?_
            rintro e w3 ⟨r3, rfl, hz3, hx3⟩
            (have hs3 := Ext.size hx3; (try simp only [wsz] at hs3))
            (refine hK _ _ xt ?_; clear hK K; (try simp only [pt]))
            (refine sq_loud rfl rfl fun K hK => ?_; go_simp)
            refine (raddz_c (x := z) ⟨_, _, rfl, hNz.ext (hxz.trans xt)⟩ hz3 (by omega) (by rw [cz_len]; have := zl_mul (pth tn.ps i).2.v (pth vals k).2.v; have := zl_of hN2.lb; have := zl_of hNv.lb; omega)).mono ?_
            rw [cz_v]
            rintro e w4 ⟨r4, rfl, ⟨A4, c4, rfl, hN4⟩, hx4⟩
            (have hs4 := Ext.size hx4; (try simp only [wsz] at hs4))
            have q7' := ((q7.drew.drew.ext hx3).ext hx4)
            have hxw4 : Ext V w4 := hxz.trans (((Ext.refl _).drew.drew).trans (hx3.trans hx4))
            have q7r' := q7'.rules
            have q7l' := q7'.lt
            (refine hK _ _ xt ?_; clear hK K; (try simp only [pt]))
            (refine sq_last rfl rfl fun K hK => ?_; go_simp; refine hK _ _ ?_; clear hK K)
            have hb7s : Box ((w4.setCell ⟨g7, 0, none⟩ (.bool (cz (z.v + (pth tn.ps i).2.v * (pth vals k).2.v)).neg)).setCell ⟨g7, 1, none⟩ (.slice A4 (cz (z.v + (pth tn.ps i).2.v * (pth vals k).2.v)).mag.length c4)) g7 24 #[.bool (cz (z.v + (pth tn.ps i).2.v * (pth vals k).2.v)).neg, .slice A4 (cz (z.v + (pth tn.ps i).2.v * (pth vals k).2.v)).mag.length c4] := (q7'.set_ 0 _).set_ 1 _
            go_wp2_with fail
            have hVs := hxz.size
            have hWV := hb7.lt
            go_roundw
            case rel =>
              refine ⟨i + 1, A4, c4, cz (z.v + (pth tn.ps i).2.v * (pth vals k).2.v), by omega, by go_num, hb7s, ?_, Lib.hid ?_, Lib.hid ?_, ((kp.ext hxw4).setCell (fun h => h rfl) _).setCell (fun h => h rfl) _, ((hxr.trans hxw4).setCell (by simp only; omega) _).setCell (by simp only; omega) _⟩
              · exact ((hN4.widen (Y := fun c => w.heap.size + 2 ≤ c ∧ c ≠ g7) fun c hc _ => ⟨by omega, by omega⟩).keep ((Kp.refl w4).setCell (fun h => h.2 rfl) _)).keep ((Kp.refl _).setCell (fun h => h.2 rfl) _)
              · rw [ev_step hlt, hz.out, cz_v, show fv vals (pth tn.ps i).1 = (pth vals k).2.v from by rw [fv, HQ.out]; rfl, Int.add_assoc]
              · exact cov_step hlt hcv.out (by rw [HQ.out]; rfl)
            case measure => simp [intOf] <;> omega
          · have e0 : ((pth vals k).1 != (pth tn.ps i).1) = true := by rw [bne_iff_ne]; exact he
            have He := Lib.hid he; clear he
            go_wp2_with fail
            refine wp_region_seq 18 [(0, true), (1, true), (2, true), (3, true), (4, true), (5, true), (6, true), (7, true), (8, true), (9, true), (10, true), (11, true), (12, true), (13, true), (14, true), (15, true), (16, true), (17, true)] rfl (by kernel_rfl) (by intro _ _ d _ _ h; cases d <;> exact h) ?_
            (repeat (first | (refine sq_take (v := ?_) rfl rfl ?_ ?_; rotate_left; (intro w' hx'; have hc' := hx'.cells.1; (try simp only [wcd] at hc'); go_simp; (first | done | with_reducible rfl)); (try simp only [pt])) | (refine sq_skip rfl rfl ?_; (try simp only [pt])) | (refine sq_noloud rfl rfl ?_; (try simp only [pt])) | (refine sq_takeg (v := ?_) rfl rfl ?_ ?_; rotate_left; (intro w' hx'; have hc' := hx'.cells.1; (try simp only [wcd] at hc'); go_simp; (first | done | with_reducible rfl)); (try simp only [pt]))))
            refine sq_done ?_
            go_wp2_with fail
            go_roundw
            case rel =>
              refine ⟨k + 1, by omega, by go_num, Lib.hid fun j hj hjk => ?_, xt⟩
              by_cases e : j = k
              · subst e; rw [← pth_eq vals j hj]; exact He.out
              · exact hno.out j hj (by omega)
            case measure => simp [intOf] <;> omega
        · obtain rfl : k = vals.length := by omega
          have hlk := Lib.hid (ix_end hno.out)
          go_wp2_with fail
          refine wp_region_seq 18 [(0, true), (1, true), (2, true), (3, true), (4, true), (5, true), (6, true), (7, true), (8, true), (9, true), (10, true), (11, true), (12, true), (13, true), (14, true), (15, true), (16, true), (17, true)] rfl (by kernel_rfl) (by intro _ _ d _ _ h; cases d <;> exact h) ?_
          (repeat (first | (refine sq_take (v := ?_) rfl rfl ?_ ?_; rotate_left; (intro w' hx'; have hc' := hx'.cells.1; (try simp only [wcd] at hc'); go_simp; (first | done | with_reducible rfl)); (try simp only [pt])) | (refine sq_skip rfl rfl ?_; (try simp only [pt])) | (refine sq_noloud rfl rfl ?_; (try simp only [pt])) | (refine sq_takeg (v := ?_) rfl rfl ?_ ?_; rotate_left; (intro w' hx'; have hc' := hx'.cells.1; (try simp only [wcd] at hc'); go_simp; (first | done | with_reducible rfl)); (try simp only [pt]))))
          refine sq_done ?_
          go_wp2_with fail
          (refine bodyPost_ret (v := ?_) ?_ rfl ?_; rotate_left; (simp only [results, Tryz.results77]; go_simp; (first | done | with_reducible rfl)))
          refine ⟨?_, (((hxr.trans hxz).drew).setCell (by simp only; omega) _).setCell (by simp only; omega) _⟩
          unfold EvR
          rw [← HN1.out, if_neg (by rw [cov_no (vl_mem (pth_mem hlt)) hlk.out]; simp)]
    · obtain rfl : i = tn.ps.length := by omega
      go_wp2_with fail
      (refine bodyPost_ret (v := ?_) ?_ rfl ?_; rotate_left; (simp only [results, Tryz.results77]; go_simp; (first | done | with_reducible rfl)))
      refine ⟨?_, (hxr.setCell (by simp only; omega) _).setCell (by simp only; omega) _⟩
      unfold EvR
      have h1 := hcv.out
      have h2 := hz.out
      rw [List.take_length, HN1.out] at h1 h2
      rw [if_pos h1]
      rw [h2, ev_cn] at hNz ⊢
      refine ⟨_, rfl, _, _, rfl, ?_⟩
      exact (((hNz.widen (Y := fun c => w.heap.size + 2 ≤ c) fun c hc _ => hc.1).keep ((Kp.refl _).setCell (by simp only; omega) _)).keep ((Kp.refl _).setCell (by simp only; omega) _)).widen fun c hc _ => by omega

end Go.Proofs.YthmjgbkakjpfkaaGreatDoor
