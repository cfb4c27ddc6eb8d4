/- census: Next. No conditions. -/
import Derived.Test.YtbblgjjomgipfaaGreatCnt0
namespace Go.Proofs.YtbblgjjomgipfaaGreat
open Go.RowKit Go.Shelf

def nxtF (x : Z) (l : List Z) : List Z := l.filter fun c => decide (x.v < c.v)

set_option maxRecDepth 100000 in
set_option maxHeartbeats 3200000 in
theorem next_c {g N L : Nat} {s : Ps} {w : World} {X Y : Nat → Prop} {u : Value} {lo : Z} (hs : SetV w X g s) (hsk : s.ok N) (hN : N ≤ L) (hL : L ≤ 1099511627774) (hlo : Zi w Y u lo) (hLl : lo.mag.length ≤ L) :
    Calls Tryz.prog 20 #[.pointer (some ⟨g, 0, none⟩), u] w fun e w' => ∃ r, e = .returned (.tuple #[r, .bool (nxtV s lo).isSome]) ∧ Zi w' (w.heap.size ≤ ·) r (cz ((nxtV s lo).getD 0)) ∧ Ext w w' := by
  have hcl := hsk.len
  have hcu := fun (V : World) (hV : Ext w V) => cuts_c (hs.ext hV) hsk (by omega)
  have hls := fun (U : World) (hU : Ext w U) (r : Value) (z : Z) (Q : Nat → Prop) (h : Zi U Q r z) => less_c (hlo.ext hU) h
  have hzl := nxtS_zl hsk hN hLl
  have hfd := fun (U : World) (hU : Ext w U) (Q : Nat → Prop) (A : Option Addr) (c : Nat) (h : Zs U Q A c (nxtS s lo)) => found_c (step := 1) (hs.ext hU) hsk h (.inl rfl) (fun a ha => by have := hzl a ha; omega)
  have HFd := Lib.hid hfd
  clear hfd hzl
  obtain ⟨ov, hov⟩ : ∃ ov, ov = nxtV s lo := ⟨_, rfl⟩
  have hov' := Lib.hid (show fndV s 1 (nxtS s lo) = ov from hov.symm)
  rw [← hov]
  clear hov
  have hov := hov'
  clear hov'
  obtain ⟨zn, hzn⟩ : ∃ zn, zn = cz (ov.getD 0) := ⟨_, rfl⟩
  obtain ⟨bn, hbn⟩ : ∃ bn, bn = ov.isSome := ⟨_, rfl⟩
  rw [← hzn, ← hbn]
  have HZN := Lib.hid hzn; have HBN := Lib.hid hbn
  clear hzn hbn
  obtain ⟨A, c, rfl, hlo⟩ := hlo
  have hlo := hlo.widen (Y := fun b => b < w.heap.size) fun b _ h => h
  go_enter Tryz.func20, Tryz.ntmps20
  go_upto_region 3 with fail
  refine wp_named fun W1 hW1 => ?_
  have b4' : Box W1 w.heap.size 25 #[.bool lo.neg, .slice A lo.mag.length c] := by rw [hW1]; exact (by repeat (first | with_reducible assumption | with_reducible exact Box.new _ _ _ | (with_reducible refine Box.new_at _ _ _ ?_; (simp only [wsz]; done)) | with_reducible refine Box.drewN ?_ _ | with_reducible refine Box.drew ?_ | with_reducible refine Box.alloc ?_ _ | with_reducible apply Box.drewN | with_reducible apply Box.drew | with_reducible apply Box.alloc | with_reducible refine Box.set_ ?_ _ _ | (with_reducible refine Box.far ?_ ?_ _; rotate_left; (simp only [ne_eq]; omega)) | (with_reducible refine Box.ext ?_ (by with_reducible assumption)) | (refine Box.new_at _ _ _ ?_; simp only [wsz]; done)))
  have b5' : Box W1 (w.heap.size + 1) 25 #[.bool false, .slice none 0 0] := by rw [hW1]; exact (by repeat (first | with_reducible assumption | with_reducible exact Box.new _ _ _ | (with_reducible refine Box.new_at _ _ _ ?_; (simp only [wsz]; done)) | with_reducible refine Box.drewN ?_ _ | with_reducible refine Box.drew ?_ | with_reducible refine Box.alloc ?_ _ | with_reducible apply Box.drewN | with_reducible apply Box.drew | with_reducible apply Box.alloc | with_reducible refine Box.set_ ?_ _ _ | (with_reducible refine Box.far ?_ ?_ _; rotate_left; (simp only [ne_eq]; omega)) | (with_reducible refine Box.ext ?_ (by with_reducible assumption)) | (refine Box.new_at _ _ _ ?_; simp only [wsz]; done)))
  have hEW : Ext w W1 := by rw [hW1]; exact (by repeat (first | with_reducible assumption | with_reducible exact Ext.refl _ | with_reducible refine Ext.drewN ?_ _ | with_reducible refine Ext.drew ?_ | with_reducible refine Ext.alloc ?_ _ | (with_reducible refine Ext.setCell ?_ ?_ _; rotate_left; (first | exact Nat.le_refl _ | (dsimp only; omega) | (simp only [wsz]; omega))) | (with_reducible refine Ext.trans ?_ (by with_reducible assumption))))
  have hW1s : W1.heap.size = w.heap.size + 1 + 1 := by rw [hW1]; simp only [wsz]
  clear hW1
  have b4r := b4'.rules; have b4l := b4'.lt
  have b5r := b5'.rules; have b5l := b5'.lt
  go_upto_region 4 with fail
  refine wp_named fun W hW => ?_
  have b4 : Box W w.heap.size 25 #[.bool lo.neg, .slice A lo.mag.length c] := by rw [hW]; exact b4'.alloc _
  have b5 : Box W (w.heap.size + 1) 25 #[.bool false, .slice none 0 0] := by rw [hW]; exact b5'.alloc _
  have hE : Ext w W := by rw [hW]; exact hEW.alloc _
  have hWs : W.heap.size = w.heap.size + 1 + 1 + 1 := by rw [hW]; simp only [wsz]; omega
  have hO0 : Own 2 EZ W (fun b => b ≠ w.heap.size + 2) w.heap.size 25 (.slice (some ⟨w.heap.size + 1 + 1, 0, none⟩) 1 1) [lo] := by
    rw [hW]
    have h1 := Own.onez (w := W1) (Zp := fun b => b ≠ w.heap.size + 2) (base := w.heap.size) (t := 25) (A := A) (c := c) (z := lo) (by omega)
      ((hlo.ext hEW).widen fun b hb _ => ⟨by omega, by omega⟩)
    rw [hW1s] at h1
    exact h1
  clear hW b4r b5r b4' b5'
  have b4r := b4.rules; have b4l := b4.lt
  have b5r := b5.rules; have b5l := b5.lt
  have HO0 := Lib.hid hO0
  clear hO0
  go_wp2_with fail
  refine (hcu _ hE).mono ?_
  rintro e w1 ⟨A1, c1, rfl, hZ1, hx1⟩
  have hE1 := hE.trans hx1
  have hs1 := hx1.size
  have hZ1 := Sl.widen hZ1 (by omega) (Y := fun b => W.heap.size ≤ b ∧ b < w1.heap.size) fun b hb hl => ⟨hb, hl⟩
  have hO1 := (HO0.out.ext hx1)
  have hlc := hZ1.1; have hlm := hZ1.2.1
  simp only [maxLen] at hlm
  have c4 := b4.ext hx1; have c5 := b5.ext hx1
  have hlo1 := hlo.ext hE1
  clear b4r b5r hcu
  go_wp2_with fail
  go_loopw [6, 17] (fun lv iv wr => ∃ k : Nat, k ≤ s.cuts.length ∧ iv = .int .i64 k ∧ Own 2 EZ wr (fun b => b ≠ w.heap.size + 2 ∧ b < w1.heap.size) w.heap.size 25 lv (lo :: nxtF lo (s.cuts.take k)) ∧
    (∀ b, lv.ownBlock = some b → b = w.heap.size + 2 ∨ w1.heap.size ≤ b) ∧ Kp (fun b => b ≠ w.heap.size + 2) w1 wr ∧ Ext w wr ∧ w1.heap.size ≤ wr.heap.size) (fun _ iv _ => s.cuts.length - (intOf iv).toNat)
  case atStart => exact ⟨0, Nat.zero_le _, rfl, by simpa [nxtF] using hO1.widen (fun b hb hl => ⟨hb, hl⟩), fun b e => .inl (by injection e with e; exact e.symm), Kp.refl _, hE1, Nat.le_refl _⟩
  case round =>
    obtain ⟨k, hk, rfl, hO, hvb, hkp, hxw, hsz⟩ := hrel
    have hrow := hO.row
    by_cases hlt : k < s.cuts.length
    · have hZr := Sl.keep hZ1 (hkp.imp fun b hb => by omega)
      obtain ⟨b, o, B', d', rfl, hX, q0, q1, hN2⟩ := Zs.at_ hZr hlt
      have hbw := World.block_lt_of_cell? _ _ q0
      have kl : (k : Int) < (s.cuts.length : Int) := by omega
      have e2 := take_zth s.cuts k hlt
      obtain ⟨zc, hzc⟩ : ∃ zc, zc = zth s.cuts k := ⟨_, rfl⟩
      rw [← hzc] at q0 q1 hN2 e2
      obtain ⟨p1, hp1⟩ : ∃ p1, p1 = decide (lo.v < zc.v) := ⟨_, rfl⟩
      have hstep : Hid (nxtF lo (s.cuts.take (k + 1)) = nxtF lo (s.cuts.take k) ++ if p1 then [zc] else []) := Lib.hid (by
        rw [e2, nxtF, List.filter_append, ← nxtF, hp1]
        congr 1
        by_cases h1 : lo.v < zc.v <;> simp [h1])
      have hc1 := fun (U : World) (hU : Ext wr U) => hls U (hxw.trans hU) (.agg #[.bool zc.neg, .slice B' zc.mag.length d']) zc _ ⟨_, _, rfl, hN2.ext hU⟩
      simp only [← hp1] at hc1
      have d4 := c4.keep (X := fun b => b ≠ w.heap.size + 2) (by omega) hkp
      have d5 := c5.keep (X := fun b => b ≠ w.heap.size + 2) (by omega) hkp
      have d4r := d4.rules; have d4l := d4.lt
      have hls' := Lib.hid hls
      clear hp1 hls e2 hzc
      go_wp2_with fail
      refine (hc1 _ (by repeat (first | with_reducible assumption | with_reducible exact Ext.refl _ | with_reducible refine Ext.drewN ?_ _ | with_reducible refine Ext.drew ?_ | with_reducible refine Ext.alloc ?_ _ | (with_reducible refine Ext.setCell ?_ ?_ _; rotate_left; (first | exact Nat.le_refl _ | (dsimp only; omega) | (simp only [wsz]; omega))) | (with_reducible refine Ext.trans ?_ (by with_reducible assumption))))).mono ?_
      rintro e w2 ⟨rfl, hx2⟩
      have hxr2 : Ext wr w2 := (by repeat (first | with_reducible assumption | with_reducible exact Ext.refl _ | with_reducible refine Ext.drewN ?_ _ | with_reducible refine Ext.drew ?_ | with_reducible refine Ext.alloc ?_ _ | (with_reducible refine Ext.setCell ?_ ?_ _; rotate_left; (first | exact Nat.le_refl _ | (dsimp only; omega) | (simp only [wsz]; omega))) | (with_reducible refine Ext.trans ?_ (by with_reducible assumption))))
      (have b9 := Box.ext (g := wr.heap.size) (by repeat (first | with_reducible assumption | with_reducible exact Box.new _ _ _ | (with_reducible refine Box.new_at _ _ _ ?_; (simp only [wsz]; done)) | with_reducible refine Box.drewN ?_ _ | with_reducible refine Box.drew ?_ | with_reducible refine Box.alloc ?_ _ | with_reducible apply Box.drewN | with_reducible apply Box.drew | with_reducible apply Box.alloc | with_reducible refine Box.set_ ?_ _ _ | (with_reducible refine Box.far ?_ ?_ _; rotate_left; (simp only [ne_eq]; omega)) | (with_reducible refine Box.ext ?_ (by with_reducible assumption)) | (refine Box.new_at _ _ _ ?_; simp only [wsz]; done))) hx2; have b9r := b9.rules; have b9l := b9.lt)
      clear d4r
      cases p1
      · go_wp2_with fail
        go_roundw
        case rel => exact ⟨k + 1, by omega, by go_num, by rw [hstep.out]; simpa using hO.ext hxr2, hvb, hkp.ext hxr2, hxw.trans hxr2, by have := hxr2.size; omega⟩
        case measure => simp [intOf] <;> omega
      · have hO3 := hO.ext hxr2
        have hs3 := hxr2.size
        have hN3 := hN2.ext hxr2
        have hlen : (lo :: nxtF lo (s.cuts.take k)).length ≤ 2199023255552 := by
          have h1 := List.length_filter_le (fun c : Z => decide (lo.v < c.v)) (s.cuts.take k)
          rw [List.length_take] at h1
          simp only [List.length_cons, nxtF]
          omega
        have hlen' := Lib.hid hlen
        clear hlen
        go_wp2_with (first
          | (at_builtin
             (refine wpList_appz1 (.tmp 24) (.tmp 26) hO3 (hN3.widen fun q hq _ => ⟨by omega, fun e => by have := hvb q e; omega⟩) hlen'.out (by omega) rfl rfl rfl rfl ?_)
             intro v4 w4 hO4 hg4 hv4)
          | fail)
        have hxx : Ext w w4 := ((hxw.trans hxr2).alloc _).grown hg4 (fun j hj => (hrow _ hj).1)
        have hg4s := hg4.size
        simp only [wsz] at hg4s
        go_roundw
        case rel =>
          refine ⟨k + 1, by omega, by go_num, by rw [hstep.out]; simpa using hO4, fun b e => ?_, fun b hb hl => ?_, hxx, by omega⟩
          · rcases hv4 with hv4 | hv4
            · exact hvb b (hv4 ▸ e)
            · rw [hv4] at e; injection e with e; omega
          · refine (hg4.block b (by simp only [wsz]; omega) fun e => ?_).trans (((Ext.refl w2).alloc _).block b (by omega) |>.trans ((hkp.ext hxr2) b hb hl))
            rcases hvb b e.symm with h | h
            · exact hb h
            · omega
        case measure => simp [intOf] <;> omega
    · obtain rfl : k = s.cuts.length := by omega
      rw [List.take_length] at hO
      have hws := hxw.size
      obtain ⟨A4, c4', rfl, hZ4⟩ := Own.sl hO (by omega) (X := fun _ => True) (fun _ _ => trivial)
      have e4 : lo :: nxtF lo s.cuts = nxtS s lo := rfl
      rw [e4] at hZ4
      have hF := HFd.out wr hxw _ _ _ hZ4
      have d5 := c5.keep (X := fun b => b ≠ w.heap.size + 2) (by omega) hkp
      have d5r := d5.rules; have d5l := d5.lt
      rw [hov.out] at hF
      rw [← HZN.out, ← HBN.out] at hF
      go_wp2_with fail
      refine hF.mono ?_
      rintro e w5 ⟨_, rfl, ⟨A5, c5, rfl, h5⟩, hx5⟩
      have f5 := d5.ext hx5
      have f5r := f5.rules; have f5l := f5.lt
      clear d5r
      go_wp2_with fail
      (refine bodyPost_ret (v := ?_) ?_ rfl ?_; rotate_left; (simp only [results, Tryz.results20]; go_simp; (first | done | with_reducible rfl)))
      exact ⟨_, rfl, ⟨A5, c5, rfl, ((h5.widen (Y := fun b => w.heap.size + 1 < b) fun b hb _ => by omega).keep (by repeat (first | with_reducible exact Kp.refl _ | with_reducible refine Kp.drewN ?_ _ | with_reducible refine Kp.drew ?_ | with_reducible refine Kp.alloc ?_ _ | (with_reducible refine Kp.setCell ?_ ?_ _; rotate_left; (first | (dsimp only; omega) | (simp only [wsz]; omega))) | (with_reducible exact Kp.of_ext (by with_reducible assumption)) | (with_reducible refine Kp.ext ?_ (by with_reducible assumption))))).widen (fun b hb _ => by first | omega | (dsimp only at hb ⊢; omega) | (dsimp only at hb; omega) | (simp only [wsz] at hb ⊢; omega) | (simp only [wsz] at hb; omega))⟩, ((hxw.trans hx5).setCell (by dsimp only; omega) _).setCell (by dsimp only; omega) _⟩

set_option maxHeartbeats 400000 in
theorem next_nil_c (u : Z) (A : Option Addr) (c : Nat) (w : World) :
    Calls Tryz.prog 20 #[.pointer none, .agg #[.bool u.neg, .slice A u.mag.length c]] w fun e w' => e = .returned (.tuple #[.agg #[.bool false, .slice none 0 0], .bool false]) ∧ Ext w w' := by
  go_enter Tryz.func20, Tryz.ntmps20
  go_wp2_with fail
  (refine bodyPost_ret (v := ?_) ?_ rfl ?_; rotate_left; (simp only [results, Tryz.results20]; go_simp; (first | done | with_reducible rfl)))
  exact ⟨rfl, (by repeat (first | with_reducible assumption | with_reducible exact Ext.refl _ | with_reducible refine Ext.drewN ?_ _ | with_reducible refine Ext.drew ?_ | with_reducible refine Ext.alloc ?_ _ | (with_reducible refine Ext.setCell ?_ ?_ _; rotate_left; (first | exact Nat.le_refl _ | (dsimp only; omega) | (simp only [wsz]; omega))) | (with_reducible refine Ext.trans ?_ (by with_reducible assumption))))⟩

set_option maxHeartbeats 400000 in
theorem last_nil_c (u : Z) (A : Option Addr) (c : Nat) (w : World) :
    Calls Tryz.prog 21 #[.pointer none, .agg #[.bool u.neg, .slice A u.mag.length c]] w fun e w' => e = .returned (.tuple #[.agg #[.bool false, .slice none 0 0], .bool false]) ∧ Ext w w' := by
  go_enter Tryz.func21, Tryz.ntmps21
  go_wp2_with fail
  (refine bodyPost_ret (v := ?_) ?_ rfl ?_; rotate_left; (simp only [results, Tryz.results21]; go_simp; (first | done | with_reducible rfl)))
  exact ⟨rfl, (by repeat (first | with_reducible assumption | with_reducible exact Ext.refl _ | with_reducible refine Ext.drewN ?_ _ | with_reducible refine Ext.drew ?_ | with_reducible refine Ext.alloc ?_ _ | (with_reducible refine Ext.setCell ?_ ?_ _; rotate_left; (first | exact Nat.le_refl _ | (dsimp only; omega) | (simp only [wsz]; omega))) | (with_reducible refine Ext.trans ?_ (by with_reducible assumption))))⟩

set_option maxHeartbeats 400000 in
theorem finite_nil_c (w : World) :
    Calls Tryz.prog 29 #[.pointer none] w fun e w' => e = .returned (.tuple #[.agg #[.bool false, .slice none 0 0], .bool false]) ∧ Ext w w' := by
  go_enter Tryz.func29, Tryz.ntmps29
  go_wp2_with fail
  (refine bodyPost_ret (v := ?_) ?_ rfl ?_; rotate_left; (simp only [results, Tryz.results29]; go_simp; (first | done | with_reducible rfl)))
  exact ⟨rfl, (by repeat (first | with_reducible assumption | with_reducible exact Ext.refl _ | with_reducible refine Ext.drewN ?_ _ | with_reducible refine Ext.drew ?_ | with_reducible refine Ext.alloc ?_ _ | (with_reducible refine Ext.setCell ?_ ?_ _; rotate_left; (first | exact Nat.le_refl _ | (dsimp only; omega) | (simp only [wsz]; omega))) | (with_reducible refine Ext.trans ?_ (by with_reducible assumption))))⟩

set_option maxHeartbeats 400000 in
theorem least_nil_c (w : World) :
    Calls Tryz.prog 27 #[.pointer none] w fun e w' => e = .returned (.tuple #[.agg #[.bool false, .slice none 0 0], .bool false]) ∧ Ext w w' := by
  go_enter Tryz.func27, Tryz.ntmps27
  go_wp2_with fail
  (refine bodyPost_ret (v := ?_) ?_ rfl ?_; rotate_left; (simp only [results, Tryz.results27]; go_simp; (first | done | with_reducible rfl)))
  exact ⟨rfl, (by repeat (first | with_reducible assumption | with_reducible exact Ext.refl _ | with_reducible refine Ext.drewN ?_ _ | with_reducible refine Ext.drew ?_ | with_reducible refine Ext.alloc ?_ _ | (with_reducible refine Ext.setCell ?_ ?_ _; rotate_left; (first | exact Nat.le_refl _ | (dsimp only; omega) | (simp only [wsz]; omega))) | (with_reducible refine Ext.trans ?_ (by with_reducible assumption))))⟩

end Go.Proofs.YtbblgjjomgipfaaGreat
