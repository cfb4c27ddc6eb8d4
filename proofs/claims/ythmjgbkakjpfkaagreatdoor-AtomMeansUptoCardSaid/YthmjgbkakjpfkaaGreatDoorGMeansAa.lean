/- term.Eval. No conditions. riddleref05.Order, Same. No conditions. -/
import Derived.Test.YthmjgbkakjpfkaaGreatDoorGShortAz
import Derived.Test.YthmjgbkakjpfkaaGreatDoorGShortAt
import Derived.Test.YthmjgbkakjpfkaaGreatDoorGShortBa
import Derived.Test.YthmjgbkakjpfkaaGreatDoorGShortBc
import Derived.Test.YthmjgbkakjpfkaaGreatDoorGShortBh
import Derived.Test.YthmjgbkakjpfkaaGreatDoorGShortBe
namespace Go.Proofs.YthmjgbkakjpfkaaGreatDoor
open Go.RowKit Go.Shelf

/-- What Eval answers. -/
def EvR (w : World) (X : Nat → Prop) (e : Ending) (t : T) (vals : List (Int × Z)) : Prop :=
  if cov vals (cn (vl t.ps)) then ∃ r, e = .returned (.tuple #[r, .int .i64 0]) ∧ Zi w X r (cz (t.k.v + ev (fv vals) (vl t.ps)))
  else e = .returned (.tuple #[.agg #[.bool false, .slice none 0 0], .int .i64 170])

theorem cov_no {vals : List (Int × Z)} {l : List (Int × Int)} {p : Int × Int} (hp : p ∈ l) (h : lk vals p.1 = none) : cov vals l = false := by
  unfold cov
  rw [List.all_eq_false]
  exact ⟨p, hp, by rw [h]; simp⟩
theorem vl_mem {ps : List (Int × Z)} {p : Int × Z} (h : p ∈ ps) : (p.1, p.2.v) ∈ vl ps := List.mem_map.2 ⟨p, h, rfl⟩
/-- One more. -/
theorem ev_step {f : Int → Int} {ps : List (Int × Z)} {k : Nat} (h : k < ps.length) : ev f (vl (ps.take (k + 1))) = ev f (vl (ps.take k)) + (pth ps k).2.v * f (pth ps k).1 := by
  rw [vl_take ps k h, ev_append]
  simp [ev]
theorem cov_step {vals : List (Int × Z)} {ps : List (Int × Z)} {k : Nat} (h : k < ps.length) (hc : cov vals (vl (ps.take k)) = true) (hl : (lk vals (pth ps k).1).isSome = true) : cov vals (vl (ps.take (k + 1))) = true := by
  rw [vl_take ps k h]
  unfold cov at *
  rw [List.all_append, hc]
  simpa using hl
theorem ev_zl {vals ps : List (Int × Z)} {N M k : Nat} (hb : ∀ p ∈ vals, Lb p.2.mag) (h : ∀ p ∈ vals, p.2.mag.length ≤ N) (hp : ∀ p ∈ vl ps, zl p.2 ≤ M) (hl : ps.length ≤ M) : zl (ev (fv vals) (vl (ps.take k))) ≤ M + N + M := by
  have h1 := zl_ev (f := fv vals) (l := vl (ps.take k)) (N := M) (M := N) fun p hp' => ⟨hp p (List.map_subset _ (List.take_subset _ _) hp'), lk_zl hb h p.1⟩
  rw [vl_len, List.length_take] at h1
  omega

set_option maxHeartbeats 1600000 in
theorem teval_c {v : Value} {t : T} {w : World} {X Y : Nat → Prop} {A : Option Addr} {c : Nat} {vals : List (Int × Z)} {N : Nat} (h : Tv w X v t) (hv : Pl w Y A c vals) (hN : N ≤ 1073741824) (hs : t.sz N) (hvs : ∀ p ∈ vals, p.2.mag.length ≤ N) :
    Calls Tryz.prog 41 #[v, .slice A vals.length c] w fun e w' => EvR w' (w.heap.size ≤ ·) e t vals ∧ Ext w w' := by
  have htv := h
  have hlb := h.lb
  have hsz := nf_sz hs hlb
  have hnb := ct_lb (vl t.ps) t.k.v
  have hn1 : vl t.nf.ps = cn (vl t.ps) := vl_cl _
  have hn2 : t.nf.k = cz t.k.v := rfl
  have htk : zl t.k.v ≤ N := Nat.le_trans (zl_of hlb.2) hs.2.2
  have hvb := hv.lb
  obtain ⟨TA, tc, TB, td, rfl, h1, h2⟩ := h
  have hvl := hv.1; have hvm := hv.2.1
  simp only [maxLen] at hvm
  obtain ⟨tn, htn⟩ : ∃ tn, tn = t.nf := ⟨_, rfl⟩
  have hnorm := fun W (h : Ext w W) => tnorm_c (htv.ext h) (N := N) (by omega) hs
  rw [← htn] at hnorm hn1 hn2 hsz
  have hnb : tn.lb := by rw [htn]; exact hnb
  have HN1 := Lib.hid hn1; have HN2 := Lib.hid hn2
  clear hn1 hn2 htn
  obtain ⟨s1, s2, s3⟩ := hsz
  have hzl := zl_vl hnb.1 s2
  go_enter Tryz.func41, Tryz.ntmps41
  go_wp2_with fail
  refine (hnorm _ (by repeat (first | with_reducible assumption | with_reducible exact Ext.refl _ | with_reducible refine Ext.drewN ?_ _ | with_reducible refine Ext.drew ?_ | with_reducible refine Ext.alloc ?_ _ | (with_reducible refine Ext.setCell ?_ ?_ _; rotate_left; (first | exact Nat.le_refl _ | (dsimp only; omega) | (simp only [wsz]; omega))) | (with_reducible refine Ext.trans ?_ (by with_reducible assumption))))).mono ?_
  clear hnorm
  rintro e w1 ⟨r1, rfl, ⟨A1, c1, B1, d1, rfl, h3, h4⟩, hx⟩
  (have b2 := Box.ext (g := w.heap.size) (by repeat (first | with_reducible assumption | with_reducible exact Box.new _ _ _ | (with_reducible refine Box.new_at _ _ _ ?_; (simp only [wsz]; done)) | with_reducible refine Box.drewN ?_ _ | with_reducible refine Box.drew ?_ | with_reducible refine Box.alloc ?_ _ | with_reducible apply Box.drewN | with_reducible apply Box.drew | with_reducible apply Box.alloc | with_reducible refine Box.set_ ?_ _ _ | (with_reducible refine Box.far ?_ ?_ _; rotate_left; (simp only [ne_eq]; omega)) | (with_reducible refine Box.ext ?_ (by with_reducible assumption)) | (refine Box.new_at _ _ _ ?_; simp only [wsz]; done))) hx; have b2r := b2.rules; have b2l := b2.lt)
  (have b4 := Box.ext (g := w.heap.size + 1) (by repeat (first | with_reducible assumption | with_reducible exact Box.new _ _ _ | (with_reducible refine Box.new_at _ _ _ ?_; (simp only [wsz]; done)) | with_reducible refine Box.drewN ?_ _ | with_reducible refine Box.drew ?_ | with_reducible refine Box.alloc ?_ _ | with_reducible apply Box.drewN | with_reducible apply Box.drew | with_reducible apply Box.alloc | with_reducible refine Box.set_ ?_ _ _ | (with_reducible refine Box.far ?_ ?_ _; rotate_left; (simp only [ne_eq]; omega)) | (with_reducible refine Box.ext ?_ (by with_reducible assumption)) | (refine Box.new_at _ _ _ ?_; simp only [wsz]; done))) hx; have b4r := b4.rules; have b4l := b4.lt)
  (have hs1 := Ext.size hx; (try simp only [wsz] at hs1))
  have hxw1 : Ext w w1 := (by repeat (first | with_reducible assumption | with_reducible exact Ext.refl _ | with_reducible refine Ext.drewN ?_ _ | with_reducible refine Ext.drew ?_ | with_reducible refine Ext.alloc ?_ _ | (with_reducible refine Ext.setCell ?_ ?_ _; rotate_left; (first | exact Nat.le_refl _ | (dsimp only; omega) | (simp only [wsz]; omega))) | (with_reducible refine Ext.trans ?_ (by with_reducible assumption))))
  go_wp2_with fail
  refine wp_named fun W hW => ?_
  obtain ⟨g, hg1, hg2⟩ : ∃ g, g = w1.heap.size ∧ w.heap.size + 2 ≤ g := ⟨_, rfl, by omega⟩
  have hb6 : Box W g 24 #[.bool tn.k.neg, .slice B1 tn.k.mag.length d1] := by rw [hW, hg1]; exact Box.new_at _ _ _ (by simp only [World.size_setCell])
  have hb4 : Box W (w.heap.size + 1) 24 #[.bool false, .slice none 0 0] := by
    rw [hW]
    exact ((((b4.far (by simp only [ne_eq]; omega) _).far (by simp only [ne_eq]; omega) _).far (by simp only [ne_eq]; omega) _).alloc _)
  have hE : Ext w W := by
    rw [hW]
    exact (((hxw1.setCell (Nat.le_refl _) _).setCell (Nat.le_refl _) _).setCell (Nat.le_refl _) _).alloc _
  have kpW : Kp (w.heap.size + 2 ≤ ·) w1 W := by
    rw [hW]
    exact ((((Kp.refl w1).setCell (by simp only; omega) _).setCell (by simp only; omega) _).setCell (by simp only; omega) _).alloc _
  have hP : Pl W (fun c => w.heap.size + 2 ≤ c ∧ c ≠ g) A1 c1 tn.ps := (((h3.widen (Y := fun c => w.heap.size + 2 ≤ c ∧ c < w1.heap.size) fun c hc hl => ⟨by simp only [World.size_alloc] at hc; omega, hl⟩).keep (kpW.imp fun c hc => hc.1)).widen fun c hc _ => ⟨hc.1, by omega⟩)
  have hNk : Nl W (fun c => w.heap.size + 2 ≤ c ∧ c ≠ g) B1 d1 tn.k.mag := (((h4.widen (Y := fun c => w.heap.size + 2 ≤ c ∧ c < w1.heap.size) fun c hc hl => ⟨by simp only [World.size_alloc] at hc; omega, hl⟩).keep (kpW.imp fun c hc => hc.1)).widen fun c hc _ => ⟨hc.1, by omega⟩)
  rw [← hg1]
  have hWs : W.heap.size = g + 1 := by rw [hW, hg1]; simp
  have hWs2 : g < W.heap.size := by omega
  clear hW hg1 b2 b2r b2l b4 b4r b4l hWs kpW h3 h4
  go_loopw [17] (fun iv wr => ∃ k B2 d2, ∃ z : Z, k ≤ tn.ps.length ∧ iv = .int .i64 (k : Nat) ∧ Box wr g 24 #[.bool z.neg, .slice B2 z.mag.length d2] ∧ Nl wr (fun c => w.heap.size + 2 ≤ c ∧ c ≠ g) B2 d2 z.mag ∧ Hid (z = cz (t.k.v + ev (fv vals) (vl (tn.ps.take k)))) ∧
      Hid (cov vals (vl (tn.ps.take k)) = true) ∧ Kp (fun c => c ≠ g) W wr ∧ Ext w wr) (fun iv _ => tn.ps.length - (intOf iv).toNat)
  case atStart => exact ⟨0, B1, d1, tn.k, Nat.zero_le _, rfl, hb6, hNk, Lib.hid (by rw [HN2.out]; simp [vl, ev]), Lib.hid rfl, Kp.refl _, hE⟩
  case round =>
    clear hb6 hNk
    obtain ⟨k, B2, d2, z, hk, rfl, hb6, hNz, hz, hcv, kp, hxr⟩ := hrel
    have hb4k := hb4.keep (X := fun c => c ≠ g) (by omega) kp
    have hb4r := hb4k.rules
    have hb4l := hb4k.lt
    have hb6r := hb6.rules
    have hb6l := hb6.lt
    by_cases hlt : k < tn.ps.length
    · obtain ⟨b, o, B', d', rfl, hX, hc0, hc1, hc2, hi, hN2⟩ := (hP.keep (kp.imp fun c hc => hc.2)).at_ hlt
      have hb := World.block_lt_of_cell? _ _ hc0
      have kl : (k : Int) < (tn.ps.length : Int) := by omega
      have hidx := indexf_c (g := wr.heap.size) (x := (pth tn.ps k).1) (hv.ext (hxr.alloc (.cells #[.int .i64 (pth tn.ps k).1, .bool (pth tn.ps k).2.neg, .slice B' (pth tn.ps k).2.mag.length d'] 37))) (by simp) (by simp)
      rcases hix : ix vals (pth tn.ps k).1 with _ | i
      · rw [hix] at hidx
        have hno := Lib.hid (ix_none hix)
        clear hix
        go_wp2_with fail
        refine hidx.mono ?_
        rintro e w2 ⟨rfl, hx2⟩
        have hb4s := hb4k.alloc (.cells #[.int .i64 (pth tn.ps k).1, .bool (pth tn.ps k).2.neg, .slice B' (pth tn.ps k).2.mag.length d'] 37)
        have hb4q := hb4s.ext hx2
        have hb4qr := hb4q.rules
        have hb4ql := hb4q.lt
        clear hb4r hb6r
        go_wp2_with fail
        (refine bodyPost_ret (v := ?_) ?_ rfl ?_; rotate_left; (simp only [results, Tryz.results41]; go_simp; (first | done | with_reducible rfl)))
        have hxx : Ext w w2 := hxr.trans (by repeat (first | with_reducible assumption | with_reducible exact Ext.refl _ | with_reducible refine Ext.drewN ?_ _ | with_reducible refine Ext.drew ?_ | with_reducible refine Ext.alloc ?_ _ | (with_reducible refine Ext.setCell ?_ ?_ _; rotate_left; (first | exact Nat.le_refl _ | (dsimp only; omega) | (simp only [wsz]; omega))) | (with_reducible refine Ext.trans ?_ (by with_reducible assumption))))
        refine ⟨?_, (hxx.setCell (by simp only; omega) _).setCell (by simp only; omega) _⟩
        unfold EvR
        rw [← HN1.out, if_neg (by rw [cov_no (vl_mem (pth_mem hlt)) hno.out]; simp)]
      · rw [hix] at hidx
        obtain ⟨hil, hiv⟩ := ix_some hix
        have hq := hiv hil
        rw [← pth_eq vals i hil] at hq
        have HQ := Lib.hid hq
        clear hq hiv hix
        obtain ⟨b2, o2, Bv, dv, rfl, hXv, hv0, hv1, hv2, hvi, hNv⟩ := (hv.ext hxr).at_ hil
        have hbv := World.block_lt_of_cell? _ _ hv0
        have hiz : ¬ ((ixv (some i)) < 0) := by show ¬ ((i : Int) < 0); omega
        have hizn : ixv (some i) = (i : Int) := rfl
        rw [hizn] at hidx hiz
        clear hizn
        have hil2 : (i : Int) < (vals.length : Int) := by omega
        have hiw := w64n (n := i) (by omega)
        have hzlen : z.mag.length ≤ N + N + N + N + N + N + 1 := by
          rw [hz.out, cz_len]
          have h1 := ev_zl (vals := vals) (ps := tn.ps) (N := N) (M := N + N) (k := k) hvb hvs hzl s1
          have := zl_add (x := t.k.v) (y := ev (fv vals) (vl (tn.ps.take k))) (k := N + N + N + N + N) (by omega) (by omega)
          omega
        go_wp2_with fail
        refine hidx.mono ?_
        rintro e w2 ⟨rfl, hx2⟩
        have bp := Box.ext (g := wr.heap.size) (Box.new_at _ _ _ rfl) hx2
        have bpr := bp.rules
        have bpl := bp.lt
        have hb6q := (hb6.alloc (.cells #[.int .i64 (pth tn.ps k).1, .bool (pth tn.ps k).2.neg, .slice B' (pth tn.ps k).2.mag.length d'] 37)).ext hx2
        have hb6qr := hb6q.rules
        have hb6ql := hb6q.lt
        have hxw2 : Ext wr w2 := (by repeat (first | with_reducible assumption | with_reducible exact Ext.refl _ | with_reducible refine Ext.drewN ?_ _ | with_reducible refine Ext.drew ?_ | with_reducible refine Ext.alloc ?_ _ | (with_reducible refine Ext.setCell ?_ ?_ _; rotate_left; (first | exact Nat.le_refl _ | (dsimp only; omega) | (simp only [wsz]; omega))) | (with_reducible refine Ext.trans ?_ (by with_reducible assumption))))
        have hcv2 := hxw2.cells.1
        have hbv2 := Nat.lt_of_lt_of_le hbv hxw2.size
        have hv2' := (hxw2.cells.1 b2 (o2 + i * 3 + 1) hbv).trans hv1
        have hv2'' := (hxw2.cells.1 b2 (o2 + i * 3 + 2) hbv).trans hv2
        clear hb4r hb6r hcv2
        go_wp2_with fail
        refine wp_region_seq 10 [(0, true), (1, true), (2, true), (3, true), (4, true), (5, true), (6, true), (7, true), (8, false), (9, false), (10, false)] rfl (by kernel_rfl) (by intro _ _ d _ _ h; cases d <;> exact h) ?_
        (repeat (refine sq_take (v := ?_) rfl rfl ?_ ?_; rotate_left; (intro w' hx'; have hc' := hx'.cells.1; (try simp only [wcd] at hc'); go_simp; (first | done | with_reducible rfl)); (try simp only [Act.put, List.setIfInBounds_toArray, List.set_cons_zero, List.set_cons_succ])))
        have hpz : (pth tn.ps k).2.mag.length ≤ N + N := s2 _ (pth_mem hlt)
        have hqz : (pth vals i).2.mag.length ≤ N := hvs _ (pth_mem hil)
        (refine sq_loud rfl rfl fun K hK => ?_; go_simp)
        refine (zmul_c (x := (pth tn.ps k).2) (y := (pth vals i).2) ⟨_, _, rfl, hN2.ext (by repeat (first | with_reducible assumption | with_reducible exact Ext.refl _ | with_reducible refine Ext.drewN ?_ _ | with_reducible refine Ext.drew ?_ | with_reducible refine Ext.alloc ?_ _ | (with_reducible refine Ext.setCell ?_ ?_ _; rotate_left; (first | exact Nat.le_refl _ | (dsimp only; omega) | (simp only [wsz]; omega))) | (with_reducible refine Ext.trans ?_ (by with_reducible assumption))))⟩ ⟨_, _, rfl, hNv.ext (by repeat (first | with_reducible assumption | with_reducible exact Ext.refl _ | with_reducible refine Ext.drewN ?_ _ | with_reducible refine Ext.drew ?_ | with_reducible refine Ext.alloc ?_ _ | (with_reducible refine Ext.setCell ?_ ?_ _; rotate_left; (first | exact Nat.le_refl _ | (dsimp only; omega) | (simp only [wsz]; omega))) | (with_reducible refine Ext.trans ?_ (by with_reducible assumption))))⟩ (by omega) (by omega)).mono ?_
        rintro e w3 ⟨r3, rfl, hz3, hx3⟩
        (have hs3 := Ext.size hx3; (try simp only [wsz] at hs3))
        (refine hK _ _ (by repeat (first | with_reducible assumption | with_reducible exact Ext.refl _ | with_reducible refine Ext.drewN ?_ _ | with_reducible refine Ext.drew ?_ | with_reducible refine Ext.alloc ?_ _ | (with_reducible refine Ext.setCell ?_ ?_ _; rotate_left; (first | exact Nat.le_refl _ | (dsimp only; omega) | (simp only [wsz]; omega))) | (with_reducible refine Ext.trans ?_ (by with_reducible assumption)))) ?_; clear hK K; (try simp only [Act.put, List.setIfInBounds_toArray, List.set_cons_zero, List.set_cons_succ]))
        have hxw3 : Ext wr w3 := (by repeat (first | with_reducible assumption | with_reducible exact Ext.refl _ | with_reducible refine Ext.drewN ?_ _ | with_reducible refine Ext.drew ?_ | with_reducible refine Ext.alloc ?_ _ | (with_reducible refine Ext.setCell ?_ ?_ _; rotate_left; (first | exact Nat.le_refl _ | (dsimp only; omega) | (simp only [wsz]; omega))) | (with_reducible refine Ext.trans ?_ (by with_reducible assumption))))
        (refine sq_loud rfl rfl fun K hK => ?_; go_simp)
        refine (zadd_c (x := z) ⟨_, _, rfl, hNz.ext hxw3⟩ hz3 (by omega) (by rw [cz_len]; have := zl_mul (pth tn.ps k).2.v (pth vals i).2.v; have := zl_of hN2.lb; have := zl_of hNv.lb; omega)).mono ?_
        rw [cz_v]
        rintro e w4 ⟨r4, rfl, ⟨A4, c4, rfl, hN4⟩, hx4⟩
        (have hs4 := Ext.size hx4; (try simp only [wsz] at hs4))
        (refine hK _ _ (by repeat (first | with_reducible assumption | with_reducible exact Ext.refl _ | with_reducible refine Ext.drewN ?_ _ | with_reducible refine Ext.drew ?_ | with_reducible refine Ext.alloc ?_ _ | (with_reducible refine Ext.setCell ?_ ?_ _; rotate_left; (first | exact Nat.le_refl _ | (dsimp only; omega) | (simp only [wsz]; omega))) | (with_reducible refine Ext.trans ?_ (by with_reducible assumption)))) ?_; clear hK K; (try simp only [Act.put, List.setIfInBounds_toArray, List.set_cons_zero, List.set_cons_succ]))
        have hxw4 : Ext wr w4 := hxw3.trans (by repeat (first | with_reducible assumption | with_reducible exact Ext.refl _ | with_reducible refine Ext.drewN ?_ _ | with_reducible refine Ext.drew ?_ | with_reducible refine Ext.alloc ?_ _ | (with_reducible refine Ext.setCell ?_ ?_ _; rotate_left; (first | exact Nat.le_refl _ | (dsimp only; omega) | (simp only [wsz]; omega))) | (with_reducible refine Ext.trans ?_ (by with_reducible assumption))))
        have hb6z := hb6.ext hxw4
        have hb6zr := hb6z.rules
        have hb6zl := hb6z.lt
        have hsz3 := hxw3.size
        (refine sq_last rfl rfl fun K hK => ?_; go_simp; refine hK _ _ ?_; clear hK K)
        go_wp2_with fail
        have hb6s : Box ((w4.setCell ⟨g, 0, none⟩ (.bool (cz (z.v + (pth tn.ps k).2.v * (pth vals i).2.v)).neg)).setCell ⟨g, 1, none⟩ (.slice A4 (cz (z.v + (pth tn.ps k).2.v * (pth vals i).2.v)).mag.length c4)) g 24 #[.bool (cz (z.v + (pth tn.ps k).2.v * (pth vals i).2.v)).neg, .slice A4 (cz (z.v + (pth tn.ps k).2.v * (pth vals i).2.v)).mag.length c4] := (hb6z.set_ 0 _).set_ 1 _
        go_roundw
        case rel =>
          refine ⟨k + 1, A4, c4, cz (z.v + (pth tn.ps k).2.v * (pth vals i).2.v), by omega, by go_num, hb6s, ?_, Lib.hid ?_, Lib.hid ?_, ((kp.ext hxw4).setCell (fun h => h rfl) _).setCell (fun h => h rfl) _, ((hxr.trans hxw4).setCell (by simp only; omega) _).setCell (by simp only; omega) _⟩
          · exact ((hN4.widen (Y := fun c => w.heap.size + 2 ≤ c ∧ c ≠ g) fun c hc _ => ⟨by omega, by omega⟩).keep ((Kp.refl w4).setCell (fun h => h.2 rfl) _)).keep ((Kp.refl _).setCell (fun h => h.2 rfl) _)
          · rw [ev_step hlt, hz.out, cz_v, show fv vals (pth tn.ps k).1 = (pth vals i).2.v from by rw [fv, HQ.out.2]; rfl, Int.add_assoc]
          · exact cov_step hlt hcv.out (by rw [HQ.out.2]; rfl)
        case measure => simp [intOf] <;> omega
    · obtain rfl : k = tn.ps.length := by omega
      go_wp2_with fail
      (refine bodyPost_ret (v := ?_) ?_ rfl ?_; rotate_left; (simp only [results, Tryz.results41]; go_simp; (first | done | with_reducible rfl)))
      refine ⟨?_, (hxr.setCell (by simp only; omega) _).setCell (by simp only; omega) _⟩
      unfold EvR
      have h1 := hcv.out
      have h2 := hz.out
      rw [List.take_length, HN1.out] at h1 h2
      rw [if_pos h1]
      rw [h2, ev_cn] at hNz ⊢
      refine ⟨_, rfl, _, _, rfl, ?_⟩
      exact (((hNz.widen (Y := fun c => w.heap.size + 2 ≤ c) fun c hc _ => hc.1).keep ((Kp.refl _).setCell (by simp only; omega) _)).keep ((Kp.refl _).setCell (by simp only; omega) _)).widen fun c hc _ => by omega

end Go.Proofs.YthmjgbkakjpfkaaGreatDoor

namespace Go.Proofs.YthmjgbkakjpfkaaGreatDoor
open Go.RowKit Go.Shelf

set_option maxHeartbeats 3200000 in
theorem rorder5_c {av bv : Value} {a b : T} {w : World} {X Y : Nat → Prop} {N : Nat} (ha : Tv w X av a) (hb : Tv w Y bv b) (hN : N ≤ 1073741824) (sa : a.sz N) (sb : b.sz N) :
    Calls Tryz.prog 82 #[av, bv] w fun e w' => e = .returned (.int .i64 (ordT a b)) ∧ Ext w w' := by
  have hav := ha; have hbv := hb
  have sna := nf_sz sa ha.lb
  have snb := nf_sz sb hb.lb
  obtain ⟨A, c, AK, d, rfl, ha1, ha2⟩ := ha
  obtain ⟨B, c', BK, d', rfl, hb1, hb2⟩ := hb
  have hka : a.nf.k = cz a.k.v := rfl
  have hkb : b.nf.k = cz b.k.v := rfl
  obtain ⟨an, han⟩ : ∃ an, an = a.nf := ⟨_, rfl⟩
  obtain ⟨bn, hbn⟩ : ∃ bn, bn = b.nf := ⟨_, rfl⟩
  have hord : ordT a b = if cmpL an.ps bn.ps = 0 then cmpI an.k.v bn.k.v else cmpL an.ps bn.ps := by
    rw [han, hbn, hka, hkb, cz_v, cz_v]; rfl
  have hna := fun W (h : Ext w W) => rnorm5_c (hav.ext h) (N := N) (by omega) sa
  have hnb := fun W (h : Ext w W) => rnorm5_c (hbv.ext h) (N := N) (by omega) sb
  rw [← han] at hna sna
  rw [← hbn] at hnb snb
  rw [hord]
  clear hka hkb han hbn hord
  obtain ⟨sa1, sa2, sa3⟩ := sna
  obtain ⟨sb1, sb2, sb3⟩ := snb
  obtain ⟨r, hr⟩ : ∃ r, r = if cmpL an.ps bn.ps = 0 then cmpI an.k.v bn.k.v else cmpL an.ps bn.ps := ⟨_, rfl⟩
  rw [← hr]
  have HR := Lib.hid hr; clear hr
  go_enter Tryz.func82, Tryz.ntmps82
  go_wp2_with fail
  refine (hna _ (by repeat (first | with_reducible assumption | with_reducible exact Ext.refl _ | with_reducible refine Ext.drewN ?_ _ | with_reducible refine Ext.drew ?_ | with_reducible refine Ext.alloc ?_ _ | (with_reducible refine Ext.setCell ?_ ?_ _; rotate_left; (first | exact Nat.le_refl _ | (dsimp only; omega) | (simp only [wsz]; omega))) | (with_reducible refine Ext.trans ?_ (by with_reducible assumption))))).mono ?_
  rintro e w1 ⟨r1, rfl, ⟨A1, c1, B1, d1, rfl, h1, h2⟩, hx1⟩
  (have b3 := Box.ext (g := w.heap.size + 1) (by repeat (first | with_reducible assumption | with_reducible exact Box.new _ _ _ | (with_reducible refine Box.new_at _ _ _ ?_; (simp only [wsz]; done)) | with_reducible refine Box.drewN ?_ _ | with_reducible refine Box.drew ?_ | with_reducible refine Box.alloc ?_ _ | with_reducible apply Box.drewN | with_reducible apply Box.drew | with_reducible apply Box.alloc | with_reducible refine Box.set_ ?_ _ _ | (with_reducible refine Box.far ?_ ?_ _; rotate_left; (simp only [ne_eq]; omega)) | (with_reducible refine Box.ext ?_ (by with_reducible assumption)) | (refine Box.new_at _ _ _ ?_; simp only [wsz]; done))) hx1; have b3r := b3.rules; have b3l := b3.lt)
  have hE1 : Ext w w1 := (by repeat (first | with_reducible assumption | with_reducible exact Ext.refl _ | with_reducible refine Ext.drewN ?_ _ | with_reducible refine Ext.drew ?_ | with_reducible refine Ext.alloc ?_ _ | (with_reducible refine Ext.setCell ?_ ?_ _; rotate_left; (first | exact Nat.le_refl _ | (dsimp only; omega) | (simp only [wsz]; omega))) | (with_reducible refine Ext.trans ?_ (by with_reducible assumption))))
  go_wp2_with fail
  refine (hnb _ (hE1.trans (by repeat (first | with_reducible assumption | with_reducible exact Ext.refl _ | with_reducible refine Ext.drewN ?_ _ | with_reducible refine Ext.drew ?_ | with_reducible refine Ext.alloc ?_ _ | (with_reducible refine Ext.setCell ?_ ?_ _; rotate_left; (first | exact Nat.le_refl _ | (dsimp only; omega) | (simp only [wsz]; omega))) | (with_reducible refine Ext.trans ?_ (by with_reducible assumption)))))).mono ?_
  rintro e w2 ⟨r2, rfl, ⟨A2, c2, B2, d2, rfl, h3, h4⟩, hx2⟩
  have b5 := Box.ext (g := w1.heap.size) (Box.new_at _ _ _ rfl) hx2
  have h1' : Pl w2 (fun _ => True) A1 c1 an.ps := (h1.widen fun _ _ _ => trivial).ext (by repeat (first | with_reducible assumption | with_reducible exact Ext.refl _ | with_reducible refine Ext.drewN ?_ _ | with_reducible refine Ext.drew ?_ | with_reducible refine Ext.alloc ?_ _ | (with_reducible refine Ext.setCell ?_ ?_ _; rotate_left; (first | exact Nat.le_refl _ | (dsimp only; omega) | (simp only [wsz]; omega))) | (with_reducible refine Ext.trans ?_ (by with_reducible assumption))))
  have h2' : Nl w2 (fun _ => True) B1 d1 an.k.mag := (h2.widen fun _ _ _ => trivial).ext (by repeat (first | with_reducible assumption | with_reducible exact Ext.refl _ | with_reducible refine Ext.drewN ?_ _ | with_reducible refine Ext.drew ?_ | with_reducible refine Ext.alloc ?_ _ | (with_reducible refine Ext.setCell ?_ ?_ _; rotate_left; (first | exact Nat.le_refl _ | (dsimp only; omega) | (simp only [wsz]; omega))) | (with_reducible refine Ext.trans ?_ (by with_reducible assumption))))
  have hE2 : Ext w w2 := hE1.trans (by repeat (first | with_reducible assumption | with_reducible exact Ext.refl _ | with_reducible refine Ext.drewN ?_ _ | with_reducible refine Ext.drew ?_ | with_reducible refine Ext.alloc ?_ _ | (with_reducible refine Ext.setCell ?_ ?_ _; rotate_left; (first | exact Nat.le_refl _ | (dsimp only; omega) | (simp only [wsz]; omega))) | (with_reducible refine Ext.trans ?_ (by with_reducible assumption))))
  clear h1 h2 b3r hx1 hna hnb
  go_wp2_with fail
  refine wp_named fun W hW => ?_
  obtain ⟨g5, hg5⟩ : ∃ g5, g5 = w1.heap.size := ⟨_, rfl⟩
  obtain ⟨g6, hg6⟩ : ∃ g6, g6 = w2.heap.size := ⟨_, rfl⟩
  have b5W : Box W g5 27 #[.slice A1 an.ps.length c1, .bool an.k.neg, .slice B1 an.k.mag.length d1] := by rw [hW, hg5]; exact b5.alloc _
  have b6W : Box W g6 27 #[.slice A2 bn.ps.length c2, .bool bn.k.neg, .slice B2 bn.k.mag.length d2] := by rw [hW, hg6]; exact Box.new _ _ _
  have hE : Ext w W := by rw [hW]; exact hE2.alloc _
  have pa : Pl W (fun _ => True) A1 c1 an.ps := by rw [hW]; exact h1'.ext (Ext.alloc (Ext.refl _) _)
  have ka : Nl W (fun _ => True) B1 d1 an.k.mag := by rw [hW]; exact h2'.ext (Ext.alloc (Ext.refl _) _)
  have pb : Pl W (fun _ => True) A2 c2 bn.ps := by rw [hW]; exact (h3.widen fun _ _ _ => trivial).ext (Ext.alloc (Ext.refl _) _)
  have kb : Nl W (fun _ => True) B2 d2 bn.k.mag := by rw [hW]; exact (h4.widen fun _ _ _ => trivial).ext (Ext.alloc (Ext.refl _) _)
  rw [← hg5, ← hg6]
  clear hW hg5 hg6 h1' h2' h3 h4 b5 hE2 hE1 hx2 b3 b3l
  have ma := pa.1; have ma2 := pa.2.1
  have mb := pb.1; have mb2 := pb.2.1
  simp only [maxLen] at ma2 mb2
  go_loopw [7] (fun iv wr => ∃ k : Nat, k ≤ an.ps.length ∧ iv = .int .i64 k ∧ Hid (∀ i, i < k → ∃ (h : i < an.ps.length) (h' : i < bn.ps.length), cmpP an.ps[i] bn.ps[i] = 0) ∧ Ext W wr) (fun iv _ => an.ps.length - (intOf iv).toNat)
  case atStart => exact ⟨0, Nat.zero_le _, rfl, Lib.hid fun _ h => absurd h (Nat.not_lt_zero _), (by repeat (first | with_reducible assumption | with_reducible exact Ext.refl _ | with_reducible refine Ext.drewN ?_ _ | with_reducible refine Ext.drew ?_ | with_reducible refine Ext.alloc ?_ _ | (with_reducible refine Ext.setCell ?_ ?_ _; rotate_left; (first | exact Nat.le_refl _ | (dsimp only; omega) | (simp only [wsz]; omega))) | (with_reducible refine Ext.trans ?_ (by with_reducible assumption))))⟩
  case round =>
    obtain ⟨k, hk, rfl, hno, hx⟩ := hrel
    have hkm : k ≤ bn.ps.length := by
      rcases Nat.eq_zero_or_pos k with e | e
      · omega
      · obtain ⟨_, h1, _⟩ := hno.out (k - 1) (by omega)
        omega
    have b5r := (b5W.ext hx).rules
    have b6r := (b6W.ext hx).rules
    have b5l := (b5W.ext hx).lt
    have b6l := (b6W.ext hx).lt
    have kw := w64n (n := k) (by omega)
    by_cases hlt : k < an.ps.length
    · have kl : (k : Int) < (an.ps.length : Int) := by omega
      by_cases hlt' : k < bn.ps.length
      · have kl' : (k : Int) < (bn.ps.length : Int) := by omega
        obtain ⟨b1, o1, B', d', rfl, -, hc0, hc1, hc2, hi, hNa⟩ := (pa.ext hx).at_ hlt
        obtain ⟨b2, o2, B2', d2', rfl, -, hq0, hq1, hq2, hj, hNb⟩ := (pb.ext hx).at_ hlt'
        have hb1 := World.block_lt_of_cell? _ _ hc0
        have hb2 := World.block_lt_of_cell? _ _ hq0
        have hstep : cmpL an.ps bn.ps = if cmpP (pth an.ps k) (pth bn.ps k) = 0 then cmpL (an.ps.drop (k + 1)) (bn.ps.drop (k + 1)) else cmpP (pth an.ps k) (pth bn.ps k) := by
          rw [cmpL_step _ _ k hno.out, drop_pth _ k hlt, drop_pth _ k hlt', cmpL]
        have HS := Lib.hid hstep; clear hstep
        by_cases e1 : (pth an.ps k).1 < (pth bn.ps k).1
        · have n1 : ((pth an.ps k).1 != (pth bn.ps k).1) = true := by rw [bne_iff_ne]; omega
          have hr : r = -1 := by
            have : cmpP (pth an.ps k) (pth bn.ps k) = -1 := by unfold cmpP; rw [if_pos e1]
            have h2 : cmpL an.ps bn.ps = -1 := by rw [HS.out, this]; rfl
            rw [HR.out, h2]; rfl
          have HR2 := Lib.hid hr; clear hr
          go_wp2_with fail
          refine wp_region_seq 13 [(0, true), (1, true), (2, true), (3, true), (4, true), (5, true), (6, true), (7, true), (8, true), (9, true), (10, true), (11, true), (12, true)] rfl (by kernel_rfl) (by intro _ _ d _ _ h; cases d <;> exact h) ?_
          (repeat (refine sq_take (v := ?_) rfl rfl ?_ ?_; rotate_left; (intro w' hx'; have hc' := hx'.cells.1; (try simp only [wcd] at hc'); go_simp; (first | done | with_reducible rfl)); (try simp only [Act.put, List.setIfInBounds_toArray, List.set_cons_zero, List.set_cons_succ])))
          refine sq_done ?_
          go_wp2_with fail
          refine wp_region_seq 13 [(0, true), (1, true), (2, true), (3, true), (4, true), (5, true), (6, true), (7, true), (8, true), (9, true), (10, true), (11, true), (12, true)] rfl (by kernel_rfl) (by intro _ _ d _ _ h; cases d <;> exact h) ?_
          (repeat (refine sq_take (v := ?_) rfl rfl ?_ ?_; rotate_left; (intro w' hx'; have hc' := hx'.cells.1; (try simp only [wcd] at hc'); go_simp; (first | done | with_reducible rfl)); (try simp only [Act.put, List.setIfInBounds_toArray, List.set_cons_zero, List.set_cons_succ])))
          refine sq_done ?_
          go_wp2_with fail
          go_ret
          exact ⟨ret_int HR2.out.symm, hE.trans (hx.trans (by repeat (first | with_reducible assumption | with_reducible exact Ext.refl _ | with_reducible refine Ext.drewN ?_ _ | with_reducible refine Ext.drew ?_ | with_reducible refine Ext.alloc ?_ _ | (with_reducible refine Ext.setCell ?_ ?_ _; rotate_left; (first | exact Nat.le_refl _ | (dsimp only; omega) | (simp only [wsz]; omega))) | (with_reducible refine Ext.trans ?_ (by with_reducible assumption)))))⟩
        · by_cases e2 : (pth bn.ps k).1 < (pth an.ps k).1
          · have n1 : ((pth an.ps k).1 != (pth bn.ps k).1) = true := by rw [bne_iff_ne]; omega
            have hr : r = 1 := by
              have : cmpP (pth an.ps k) (pth bn.ps k) = 1 := by unfold cmpP; rw [if_neg e1, if_pos e2]
              have h2 : cmpL an.ps bn.ps = 1 := by rw [HS.out, this]; rfl
              rw [HR.out, h2]; rfl
            have HR2 := Lib.hid hr; clear hr
            go_wp2_with fail
            refine wp_region_seq 13 [(0, true), (1, true), (2, true), (3, true), (4, true), (5, true), (6, true), (7, true), (8, true), (9, true), (10, true), (11, true), (12, true)] rfl (by kernel_rfl) (by intro _ _ d _ _ h; cases d <;> exact h) ?_
            (repeat (refine sq_take (v := ?_) rfl rfl ?_ ?_; rotate_left; (intro w' hx'; have hc' := hx'.cells.1; (try simp only [wcd] at hc'); go_simp; (first | done | with_reducible rfl)); (try simp only [Act.put, List.setIfInBounds_toArray, List.set_cons_zero, List.set_cons_succ])))
            refine sq_done ?_
            go_wp2_with fail
            refine wp_region_seq 13 [(0, true), (1, true), (2, true), (3, true), (4, true), (5, true), (6, true), (7, true), (8, true), (9, true), (10, true), (11, true), (12, true)] rfl (by kernel_rfl) (by intro _ _ d _ _ h; cases d <;> exact h) ?_
            (repeat (refine sq_take (v := ?_) rfl rfl ?_ ?_; rotate_left; (intro w' hx'; have hc' := hx'.cells.1; (try simp only [wcd] at hc'); go_simp; (first | done | with_reducible rfl)); (try simp only [Act.put, List.setIfInBounds_toArray, List.set_cons_zero, List.set_cons_succ])))
            refine sq_done ?_
            go_wp2_with fail
            go_ret
            exact ⟨ret_int HR2.out.symm, hE.trans (hx.trans (by repeat (first | with_reducible assumption | with_reducible exact Ext.refl _ | with_reducible refine Ext.drewN ?_ _ | with_reducible refine Ext.drew ?_ | with_reducible refine Ext.alloc ?_ _ | (with_reducible refine Ext.setCell ?_ ?_ _; rotate_left; (first | exact Nat.le_refl _ | (dsimp only; omega) | (simp only [wsz]; omega))) | (with_reducible refine Ext.trans ?_ (by with_reducible assumption)))))⟩
          · have n1 : ((pth an.ps k).1 != (pth bn.ps k).1) = false := by
              have : (pth an.ps k).1 = (pth bn.ps k).1 := by omega
              rw [this]; simp
            have hcP : cmpP (pth an.ps k) (pth bn.ps k) = cmpI (pth an.ps k).2.v (pth bn.ps k).2.v := by unfold cmpP; rw [if_neg e1, if_neg e2]
            have HP := Lib.hid hcP; clear hcP
            by_cases e3 : cmpI (pth an.ps k).2.v (pth bn.ps k).2.v = 0
            · have n3 : (cmpI (pth an.ps k).2.v (pth bn.ps k).2.v != 0) = false := by rw [e3]; rfl
              have E3 := Lib.hid e3; clear e3
              go_wp2_with fail
              refine wp_region_seq 13 [(0, true), (1, true), (2, true), (3, true), (4, true), (5, true), (6, true), (7, true), (8, true), (9, true), (10, true), (11, true), (12, true)] rfl (by kernel_rfl) (by intro _ _ d _ _ h; cases d <;> exact h) ?_
              (repeat (refine sq_take (v := ?_) rfl rfl ?_ ?_; rotate_left; (intro w' hx'; have hc' := hx'.cells.1; (try simp only [wcd] at hc'); go_simp; (first | done | with_reducible rfl)); (try simp only [Act.put, List.setIfInBounds_toArray, List.set_cons_zero, List.set_cons_succ])))
              refine sq_done ?_
              go_wp2_with fail
              refine wp_region_seq 13 [(0, true), (1, true), (2, true), (3, true), (4, true), (5, true), (6, true), (7, true), (8, true), (9, true), (10, true), (11, true), (12, false), (13, false)] rfl (by kernel_rfl) (by intro _ _ d _ _ h; cases d <;> exact h) ?_
              (repeat (refine sq_take (v := ?_) rfl rfl ?_ ?_; rotate_left; (intro w' hx'; have hc' := hx'.cells.1; (try simp only [wcd] at hc'); go_simp; (first | done | with_reducible rfl)); (try simp only [Act.put, List.setIfInBounds_toArray, List.set_cons_zero, List.set_cons_succ])))
              (refine sq_loud rfl rfl fun K hK => ?_; go_simp)
              refine (rcmpz_c (x := (pth an.ps k).2) (y := (pth bn.ps k).2) ⟨_, _, rfl, hNa.ext (by repeat (first | with_reducible assumption | with_reducible exact Ext.refl _ | with_reducible refine Ext.drewN ?_ _ | with_reducible refine Ext.drew ?_ | with_reducible refine Ext.alloc ?_ _ | (with_reducible refine Ext.setCell ?_ ?_ _; rotate_left; (first | exact Nat.le_refl _ | (dsimp only; omega) | (simp only [wsz]; omega))) | (with_reducible refine Ext.trans ?_ (by with_reducible assumption))))⟩ ⟨_, _, rfl, hNb.ext (by repeat (first | with_reducible assumption | with_reducible exact Ext.refl _ | with_reducible refine Ext.drewN ?_ _ | with_reducible refine Ext.drew ?_ | with_reducible refine Ext.alloc ?_ _ | (with_reducible refine Ext.setCell ?_ ?_ _; rotate_left; (first | exact Nat.le_refl _ | (dsimp only; omega) | (simp only [wsz]; omega))) | (with_reducible refine Ext.trans ?_ (by with_reducible assumption))))⟩ (Nat.le_trans (sa2 _ (pth_mem hlt)) (by omega)) (Nat.le_trans (sb2 _ (pth_mem hlt')) (by omega))).mono ?_
              rintro e w5 ⟨rfl, hx5⟩
              (refine hK _ _ (by repeat (first | with_reducible assumption | with_reducible exact Ext.refl _ | with_reducible refine Ext.drewN ?_ _ | with_reducible refine Ext.drew ?_ | with_reducible refine Ext.alloc ?_ _ | (with_reducible refine Ext.setCell ?_ ?_ _; rotate_left; (first | exact Nat.le_refl _ | (dsimp only; omega) | (simp only [wsz]; omega))) | (with_reducible refine Ext.trans ?_ (by with_reducible assumption)))) ?_; clear hK K; (try simp only [Act.put, List.setIfInBounds_toArray, List.set_cons_zero, List.set_cons_succ]))
              (refine sq_last rfl rfl fun K hK => ?_; go_simp; refine hK _ _ ?_; clear hK K)
              go_wp2_with fail
              go_roundw
              case rel =>
                refine ⟨k + 1, by omega, by go_num, Lib.hid fun i hik => ?_, hx.trans (by repeat (first | with_reducible assumption | with_reducible exact Ext.refl _ | with_reducible refine Ext.drewN ?_ _ | with_reducible refine Ext.drew ?_ | with_reducible refine Ext.alloc ?_ _ | (with_reducible refine Ext.setCell ?_ ?_ _; rotate_left; (first | exact Nat.le_refl _ | (dsimp only; omega) | (simp only [wsz]; omega))) | (with_reducible refine Ext.trans ?_ (by with_reducible assumption))))⟩
                by_cases e : i = k
                · subst e; exact ⟨hlt, hlt', by rw [← pth_eq _ i hlt, ← pth_eq _ i hlt', HP.out]; exact E3.out⟩
                · exact hno.out i (by omega)
              case measure => simp [intOf] <;> omega
            · have n3 : (cmpI (pth an.ps k).2.v (pth bn.ps k).2.v != 0) = true := by rw [bne_iff_ne]; exact e3
              have hr : r = cmpI (pth an.ps k).2.v (pth bn.ps k).2.v := by
                have h2 : cmpL an.ps bn.ps = cmpI (pth an.ps k).2.v (pth bn.ps k).2.v := by rw [HS.out, HP.out, if_neg e3]
                rw [HR.out, h2, if_neg e3]
              have HR2 := Lib.hid hr; clear hr e3
              go_wp2_with fail
              refine wp_region_seq 13 [(0, true), (1, true), (2, true), (3, true), (4, true), (5, true), (6, true), (7, true), (8, true), (9, true), (10, true), (11, true), (12, true)] rfl (by kernel_rfl) (by intro _ _ d _ _ h; cases d <;> exact h) ?_
              (repeat (refine sq_take (v := ?_) rfl rfl ?_ ?_; rotate_left; (intro w' hx'; have hc' := hx'.cells.1; (try simp only [wcd] at hc'); go_simp; (first | done | with_reducible rfl)); (try simp only [Act.put, List.setIfInBounds_toArray, List.set_cons_zero, List.set_cons_succ])))
              refine sq_done ?_
              go_wp2_with fail
              refine wp_region_seq 13 [(0, true), (1, true), (2, true), (3, true), (4, true), (5, true), (6, true), (7, true), (8, true), (9, true), (10, true), (11, true), (12, false), (13, false)] rfl (by kernel_rfl) (by intro _ _ d _ _ h; cases d <;> exact h) ?_
              (repeat (refine sq_take (v := ?_) rfl rfl ?_ ?_; rotate_left; (intro w' hx'; have hc' := hx'.cells.1; (try simp only [wcd] at hc'); go_simp; (first | done | with_reducible rfl)); (try simp only [Act.put, List.setIfInBounds_toArray, List.set_cons_zero, List.set_cons_succ])))
              (refine sq_loud rfl rfl fun K hK => ?_; go_simp)
              refine (rcmpz_c (x := (pth an.ps k).2) (y := (pth bn.ps k).2) ⟨_, _, rfl, hNa.ext (by repeat (first | with_reducible assumption | with_reducible exact Ext.refl _ | with_reducible refine Ext.drewN ?_ _ | with_reducible refine Ext.drew ?_ | with_reducible refine Ext.alloc ?_ _ | (with_reducible refine Ext.setCell ?_ ?_ _; rotate_left; (first | exact Nat.le_refl _ | (dsimp only; omega) | (simp only [wsz]; omega))) | (with_reducible refine Ext.trans ?_ (by with_reducible assumption))))⟩ ⟨_, _, rfl, hNb.ext (by repeat (first | with_reducible assumption | with_reducible exact Ext.refl _ | with_reducible refine Ext.drewN ?_ _ | with_reducible refine Ext.drew ?_ | with_reducible refine Ext.alloc ?_ _ | (with_reducible refine Ext.setCell ?_ ?_ _; rotate_left; (first | exact Nat.le_refl _ | (dsimp only; omega) | (simp only [wsz]; omega))) | (with_reducible refine Ext.trans ?_ (by with_reducible assumption))))⟩ (Nat.le_trans (sa2 _ (pth_mem hlt)) (by omega)) (Nat.le_trans (sb2 _ (pth_mem hlt')) (by omega))).mono ?_
              rintro e w5 ⟨rfl, hx5⟩
              (refine hK _ _ (by repeat (first | with_reducible assumption | with_reducible exact Ext.refl _ | with_reducible refine Ext.drewN ?_ _ | with_reducible refine Ext.drew ?_ | with_reducible refine Ext.alloc ?_ _ | (with_reducible refine Ext.setCell ?_ ?_ _; rotate_left; (first | exact Nat.le_refl _ | (dsimp only; omega) | (simp only [wsz]; omega))) | (with_reducible refine Ext.trans ?_ (by with_reducible assumption)))) ?_; clear hK K; (try simp only [Act.put, List.setIfInBounds_toArray, List.set_cons_zero, List.set_cons_succ]))
              (refine sq_last rfl rfl fun K hK => ?_; go_simp; refine hK _ _ ?_; clear hK K)
              go_wp2_with fail
              go_ret
              exact ⟨ret_int HR2.out.symm, hE.trans (hx.trans (by repeat (first | with_reducible assumption | with_reducible exact Ext.refl _ | with_reducible refine Ext.drewN ?_ _ | with_reducible refine Ext.drew ?_ | with_reducible refine Ext.alloc ?_ _ | (with_reducible refine Ext.setCell ?_ ?_ _; rotate_left; (first | exact Nat.le_refl _ | (dsimp only; omega) | (simp only [wsz]; omega))) | (with_reducible refine Ext.trans ?_ (by with_reducible assumption)))))⟩
      · have kl' : ¬ (k : Int) < (bn.ps.length : Int) := by omega
        have hr : r = 1 := by
          have h2 : cmpL an.ps bn.ps = 1 := by
            have e : bn.ps.drop k = [] := List.drop_eq_nil_of_le (by omega)
            rw [cmpL_step _ _ k hno.out, drop_pth _ k hlt, e]; rfl
          rw [HR.out, h2]; rfl
        have HR2 := Lib.hid hr; clear hr
        have n1 : ((an.ps.length : Int) != (bn.ps.length : Int)) = true := by rw [bne_iff_ne]; omega
        have n2 : ¬ (an.ps.length : Int) < (bn.ps.length : Int) := by omega
        go_wp2_with fail
        go_ret
        exact ⟨ret_int HR2.out.symm, hE.trans (hx.trans (by repeat (first | with_reducible assumption | with_reducible exact Ext.refl _ | with_reducible refine Ext.drewN ?_ _ | with_reducible refine Ext.drew ?_ | with_reducible refine Ext.alloc ?_ _ | (with_reducible refine Ext.setCell ?_ ?_ _; rotate_left; (first | exact Nat.le_refl _ | (dsimp only; omega) | (simp only [wsz]; omega))) | (with_reducible refine Ext.trans ?_ (by with_reducible assumption)))))⟩
    · obtain rfl : k = an.ps.length := by omega
      have hfin : cmpL an.ps bn.ps = cmpL [] (bn.ps.drop an.ps.length) := by rw [cmpL_step _ _ _ hno.out, List.drop_length]
      by_cases hlt' : an.ps.length < bn.ps.length
      · have hr : r = -1 := by
          have h2 : cmpL an.ps bn.ps = -1 := by rw [hfin, drop_pth _ _ hlt']; rfl
          rw [HR.out, h2]; rfl
        have HR2 := Lib.hid hr; clear hr hfin
        have n1 : ((an.ps.length : Int) != (bn.ps.length : Int)) = true := by rw [bne_iff_ne]; omega
        have n2 : (an.ps.length : Int) < (bn.ps.length : Int) := by omega
        go_wp2_with fail
        go_ret
        exact ⟨ret_int HR2.out.symm, hE.trans (hx.trans (by repeat (first | with_reducible assumption | with_reducible exact Ext.refl _ | with_reducible refine Ext.drewN ?_ _ | with_reducible refine Ext.drew ?_ | with_reducible refine Ext.alloc ?_ _ | (with_reducible refine Ext.setCell ?_ ?_ _; rotate_left; (first | exact Nat.le_refl _ | (dsimp only; omega) | (simp only [wsz]; omega))) | (with_reducible refine Ext.trans ?_ (by with_reducible assumption)))))⟩
      · have hr : r = cmpI an.k.v bn.k.v := by
          have h2 : cmpL an.ps bn.ps = 0 := by
            have e : bn.ps.drop an.ps.length = [] := List.drop_eq_nil_of_le (by omega)
            rw [hfin, e]; rfl
          rw [HR.out, if_pos h2]
        have HR2 := Lib.hid hr; clear hr hfin
        have n1 : ((an.ps.length : Int) != (bn.ps.length : Int)) = false := by
          have : an.ps.length = bn.ps.length := by omega
          rw [this]; simp
        have n2 : ¬ (an.ps.length : Int) < (bn.ps.length : Int) := by omega
        go_wp2_with fail
        refine (rcmpz_c (x := an.k) (y := bn.k) ⟨_, _, rfl, ka.ext (by repeat (first | with_reducible assumption | with_reducible exact Ext.refl _ | with_reducible refine Ext.drewN ?_ _ | with_reducible refine Ext.drew ?_ | with_reducible refine Ext.alloc ?_ _ | (with_reducible refine Ext.setCell ?_ ?_ _; rotate_left; (first | exact Nat.le_refl _ | (dsimp only; omega) | (simp only [wsz]; omega))) | (with_reducible refine Ext.trans ?_ (by with_reducible assumption))))⟩ ⟨_, _, rfl, kb.ext (by repeat (first | with_reducible assumption | with_reducible exact Ext.refl _ | with_reducible refine Ext.drewN ?_ _ | with_reducible refine Ext.drew ?_ | with_reducible refine Ext.alloc ?_ _ | (with_reducible refine Ext.setCell ?_ ?_ _; rotate_left; (first | exact Nat.le_refl _ | (dsimp only; omega) | (simp only [wsz]; omega))) | (with_reducible refine Ext.trans ?_ (by with_reducible assumption))))⟩ (by omega) (by omega)).mono ?_
        rw [← HR2.out]
        rintro e w5 ⟨rfl, hx5⟩
        go_wp2_with fail
        go_ret
        exact ⟨rfl, hE.trans (hx.trans (by repeat (first | with_reducible assumption | with_reducible exact Ext.refl _ | with_reducible refine Ext.drewN ?_ _ | with_reducible refine Ext.drew ?_ | with_reducible refine Ext.alloc ?_ _ | (with_reducible refine Ext.setCell ?_ ?_ _; rotate_left; (first | exact Nat.le_refl _ | (dsimp only; omega) | (simp only [wsz]; omega))) | (with_reducible refine Ext.trans ?_ (by with_reducible assumption)))))⟩

set_option maxHeartbeats 800000 in
theorem rsame5_c {av bv : Value} {a b : T} {w : World} {X Y : Nat → Prop} {N : Nat} (ha : Tv w X av a) (hb : Tv w Y bv b) (hN : N ≤ 1073741824) (sa : a.sz N) (sb : b.sz N) (va : a.valid = true) (vb : b.valid = true) (hab : ordT a b = 0) :
    Calls Tryz.prog 66 #[av, bv] w fun e w' => e = .returned (.bool true) ∧ Ext w w' := by
  have hva := fun W (h : Ext w W) => rvalid5_c (ha.ext h) (N := N) (by omega) sa
  have hvb := fun W (h : Ext w W) => rvalid5_c (hb.ext h) (N := N) (by omega) sb
  have hor := fun W (h : Ext w W) => rorder5_c (ha.ext h) (hb.ext h) hN sa sb
  simp only [va] at hva
  simp only [vb] at hvb
  simp only [hab] at hor
  clear va vb hab
  obtain ⟨A, c, AK, d, rfl, ha1, ha2⟩ := ha
  obtain ⟨B, c', BK, d', rfl, hb1, hb2⟩ := hb
  go_enter Tryz.func66, Tryz.ntmps66
  go_wp2_with fail
  refine (hva _ (by repeat (first | with_reducible assumption | with_reducible exact Ext.refl _ | with_reducible refine Ext.drewN ?_ _ | with_reducible refine Ext.drew ?_ | with_reducible refine Ext.alloc ?_ _ | (with_reducible refine Ext.setCell ?_ ?_ _; rotate_left; (first | exact Nat.le_refl _ | (dsimp only; omega) | (simp only [wsz]; omega))) | (with_reducible refine Ext.trans ?_ (by with_reducible assumption))))).mono ?_
  rintro e w1 ⟨rfl, hx1⟩
  (have b2 := Box.ext (g := w.heap.size) (by repeat (first | with_reducible assumption | with_reducible exact Box.new _ _ _ | (with_reducible refine Box.new_at _ _ _ ?_; (simp only [wsz]; done)) | with_reducible refine Box.drewN ?_ _ | with_reducible refine Box.drew ?_ | with_reducible refine Box.alloc ?_ _ | with_reducible apply Box.drewN | with_reducible apply Box.drew | with_reducible apply Box.alloc | with_reducible refine Box.set_ ?_ _ _ | (with_reducible refine Box.far ?_ ?_ _; rotate_left; (simp only [ne_eq]; omega)) | (with_reducible refine Box.ext ?_ (by with_reducible assumption)) | (refine Box.new_at _ _ _ ?_; simp only [wsz]; done))) hx1; have b2r := b2.rules; have b2l := b2.lt)
  (have b3 := Box.ext (g := w.heap.size + 1) (by repeat (first | with_reducible assumption | with_reducible exact Box.new _ _ _ | (with_reducible refine Box.new_at _ _ _ ?_; (simp only [wsz]; done)) | with_reducible refine Box.drewN ?_ _ | with_reducible refine Box.drew ?_ | with_reducible refine Box.alloc ?_ _ | with_reducible apply Box.drewN | with_reducible apply Box.drew | with_reducible apply Box.alloc | with_reducible refine Box.set_ ?_ _ _ | (with_reducible refine Box.far ?_ ?_ _; rotate_left; (simp only [ne_eq]; omega)) | (with_reducible refine Box.ext ?_ (by with_reducible assumption)) | (refine Box.new_at _ _ _ ?_; simp only [wsz]; done))) hx1; have b3r := b3.rules; have b3l := b3.lt)
  have hE1 : Ext w w1 := (by repeat (first | with_reducible assumption | with_reducible exact Ext.refl _ | with_reducible refine Ext.drewN ?_ _ | with_reducible refine Ext.drew ?_ | with_reducible refine Ext.alloc ?_ _ | (with_reducible refine Ext.setCell ?_ ?_ _; rotate_left; (first | exact Nat.le_refl _ | (dsimp only; omega) | (simp only [wsz]; omega))) | (with_reducible refine Ext.trans ?_ (by with_reducible assumption))))
  clear hx1
  go_wp2_with fail
  refine (hvb _ (hE1.trans (by repeat (first | with_reducible assumption | with_reducible exact Ext.refl _ | with_reducible refine Ext.drewN ?_ _ | with_reducible refine Ext.drew ?_ | with_reducible refine Ext.alloc ?_ _ | (with_reducible refine Ext.setCell ?_ ?_ _; rotate_left; (first | exact Nat.le_refl _ | (dsimp only; omega) | (simp only [wsz]; omega))) | (with_reducible refine Ext.trans ?_ (by with_reducible assumption)))))).mono ?_
  rintro e w2 ⟨rfl, hx2⟩
  have b2' := b2.ext hx2
  have b3' := b3.ext hx2
  have b2r' := b2'.rules
  have b3r' := b3'.rules
  have b2l' := b2'.lt
  have b3l' := b3'.lt
  clear b2r b3r
  go_wp2_with fail
  refine (hor _ (hE1.trans (by repeat (first | with_reducible assumption | with_reducible exact Ext.refl _ | with_reducible refine Ext.drewN ?_ _ | with_reducible refine Ext.drew ?_ | with_reducible refine Ext.alloc ?_ _ | (with_reducible refine Ext.setCell ?_ ?_ _; rotate_left; (first | exact Nat.le_refl _ | (dsimp only; omega) | (simp only [wsz]; omega))) | (with_reducible refine Ext.trans ?_ (by with_reducible assumption)))))).mono ?_
  rintro e w3 ⟨rfl, hx3⟩
  go_wp2_with fail
  go_ret
  exact ⟨rfl, hE1.trans (by repeat (first | with_reducible assumption | with_reducible exact Ext.refl _ | with_reducible refine Ext.drewN ?_ _ | with_reducible refine Ext.drew ?_ | with_reducible refine Ext.alloc ?_ _ | (with_reducible refine Ext.setCell ?_ ?_ _; rotate_left; (first | exact Nat.le_refl _ | (dsimp only; omega) | (simp only [wsz]; omega))) | (with_reducible refine Ext.trans ?_ (by with_reducible assumption))))⟩

end Go.Proofs.YthmjgbkakjpfkaaGreatDoor
