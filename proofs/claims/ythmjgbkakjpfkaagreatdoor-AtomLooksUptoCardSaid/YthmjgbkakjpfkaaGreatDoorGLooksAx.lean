/- riddleref05.Norm. No conditions. -/
import Derived.Test.YthmjgbkakjpfkaaGreatDoorGLooksAs
import Derived.Test.YthmjgbkakjpfkaaGreatDoorGLooksAk
import Derived.Test.YthmjgbkakjpfkaaGreatDoorGLooksAt
namespace Go.Proofs.YthmjgbkakjpfkaaGreatDoor
open Go.RowKit Go.Shelf

theorem zl_laid {l : List (Int × Int)} {N : Nat} (h : ∀ p ∈ l, zl p.2 ≤ N) : ∀ p ∈ laidL l, zl p.2 ≤ N + l.length := fun p hp => by
  have := cf_mem (rise_laid l) hp
  rw [← this, cf_laid]
  exact zl_cf h _
theorem fil_step {l : List (Int × Int)} {k : Nat} (h : k < l.length) (hz : l[k].2 ≠ 0) : (l.take (k + 1)).filter (fun p => p.2 != 0) = (l.take k).filter (fun p => p.2 != 0) ++ [l[k]] := by
  rw [List.take_succ_eq_append_getElem h, List.filter_append]
  simp [hz]
theorem fil_miss {l : List (Int × Int)} {k : Nat} (h : k < l.length) (hz : l[k].2 = 0) : (l.take (k + 1)).filter (fun p => p.2 != 0) = (l.take k).filter (fun p => p.2 != 0) := by
  rw [List.take_succ_eq_append_getElem h, List.filter_append]
  simp [hz]
theorem laid_step (ps : List (Int × Z)) (k : Nat) (h : k < ps.length) : laidL (vl (ps.take (k + 1))) = lay (laidL (vl (ps.take k))) ((pth ps k).1, (pth ps k).2.v) := by
  rw [← laid_snoc]
  congr 1
  rw [take_pth ps k h, vl_append]; rfl

theorem end_norm5 {w wr : World} {t : T} {g : Nat} {A5 A1 : Option Addr} {c5 c1 : Nat} (hP : Pl wr (fun c => w.heap.size + 2 ≤ c ∧ c ≠ g) A5 c5 (cl (cn (vl t.ps)))) (hN : Nl wr (fun c => w.heap.size + 2 ≤ c ∧ c < g) A1 c1 (cz t.k.v).mag) (hg : w.heap.size ≤ g) (hx : Ext w wr) :
    ∃ r, Ending.returned (.agg #[.slice A5 (cl (cn (vl t.ps))).length c5, .bool (cz t.k.v).neg, .slice A1 (cz t.k.v).mag.length c1]) = .returned r ∧
      Tv ((((wr.setCell ⟨g, 0, none⟩ (.slice A5 (cl (cn (vl t.ps))).length c5)).setCell ⟨w.heap.size + 1, 0, none⟩ (.slice A5 (cl (cn (vl t.ps))).length c5)).setCell ⟨w.heap.size + 1, 1, none⟩ (.bool (cz t.k.v).neg)).setCell ⟨w.heap.size + 1, 2, none⟩ (.slice A1 (cz t.k.v).mag.length c1)) (w.heap.size ≤ ·) r t.nf ∧
      Ext w ((((wr.setCell ⟨g, 0, none⟩ (.slice A5 (cl (cn (vl t.ps))).length c5)).setCell ⟨w.heap.size + 1, 0, none⟩ (.slice A5 (cl (cn (vl t.ps))).length c5)).setCell ⟨w.heap.size + 1, 1, none⟩ (.bool (cz t.k.v).neg)).setCell ⟨w.heap.size + 1, 2, none⟩ (.slice A1 (cz t.k.v).mag.length c1)) := by
  have kp : Kp (fun c => w.heap.size + 2 ≤ c ∧ c ≠ g) wr ((((wr.setCell ⟨g, 0, none⟩ (.slice A5 (cl (cn (vl t.ps))).length c5)).setCell ⟨w.heap.size + 1, 0, none⟩ (.slice A5 (cl (cn (vl t.ps))).length c5)).setCell ⟨w.heap.size + 1, 1, none⟩ (.bool (cz t.k.v).neg)).setCell ⟨w.heap.size + 1, 2, none⟩ (.slice A1 (cz t.k.v).mag.length c1)) :=
    ((((Kp.refl wr).setCell (fun h => h.2 rfl) _).setCell (fun h => by have := h.1; simp only at this; omega) _).setCell (fun h => by have := h.1; simp only at this; omega) _).setCell (fun h => by have := h.1; simp only at this; omega) _
  exact ⟨_, rfl, ⟨_, _, _, _, rfl, (hP.keep kp).widen fun c hc _ => by omega, (hN.keep (kp.imp fun c hc => ⟨hc.1, by omega⟩)).widen fun c hc _ => by omega⟩, (((hx.setCell (by simp only; omega) _).setCell (by simp only; omega) _).setCell (by simp only; omega) _).setCell (by simp only; omega) _⟩

set_option maxHeartbeats 3200000 in
theorem rnorm5_c {v : Value} {t : T} {w : World} {X : Nat → Prop} {N : Nat} (h : Tv w X v t) (hN : N ≤ 17179869184) (hs : t.sz N) :
    Calls Tryz.prog 67 #[v] w fun e w' => ∃ r, e = .returned r ∧ Tv w' (w.heap.size ≤ ·) r t.nf ∧ Ext w w' := by
  have hlb := h.lb
  obtain ⟨A, c, B, d, rfl, h1, h2⟩ := h
  obtain ⟨s1, s2, s3⟩ := hs
  have hzl := zl_vl hlb.1 s2
  go_enter Tryz.func67, Tryz.ntmps67
  go_wp2_with fail
  refine (rnorm_c (z := t.k) ⟨_, _, rfl, h2.ext xt⟩ (by omega)).mono ?_
  rintro e w1 ⟨r, rfl, ⟨A1, c1, rfl, hK1⟩, hx⟩
  (have b1 := Box.ext (g := w.heap.size) bxt hx; have b1r := b1.rules; have b1l := b1.lt)
  (have b2 := Box.ext (g := w.heap.size + 1) bxt hx; have b2r := b2.rules; have b2l := b2.lt)
  (have hsz := Ext.size hx; (try simp only [wsz] at hsz))
  have hEw : Ext w w1 := xt
  obtain ⟨g, hg1, hg2⟩ : ∃ g, g = w1.heap.size ∧ w.heap.size + 2 ≤ g := ⟨_, rfl, by omega⟩
  go_wp2_with fail
  refine wp_named fun W hW => ?_
  have b1W : Box W w.heap.size 27 #[.slice A t.ps.length c, .bool t.k.neg, .slice B t.k.mag.length d] := by rw [hW]; exact bxt
  have b2W : Box W (w.heap.size + 1) 27 #[.slice none 0 0, .bool false, .slice none 0 0] := by rw [hW]; exact bxt
  have b3W : Box W g 27 #[.slice none 0 0, .bool (cz t.k.v).neg, .slice A1 (cz t.k.v).mag.length c1] := by rw [hW, hg1]; exact Box.new _ _ _
  have hE : Ext w W := by rw [hW]; exact xt
  have hKW : Nl W (fun c => w.heap.size + 2 ≤ c ∧ c < g) A1 c1 (cz t.k.v).mag := by
    rw [hW]
    exact (hK1.widen (Y := fun c => w.heap.size + 2 ≤ c ∧ c < g) fun c hc hl => ⟨by simp only [wsz] at hc; omega, by omega⟩).ext xt
  rw [← hg1]
  have hWs : g < W.heap.size := b3W.lt
  clear hW hg1 b1 b1r b1l b2 b2r b2l hx hK1
  have h1b := h1.below
  go_loopw [4] (fun iv wr => ∃ k : Nat, ∃ v : Value, k ≤ t.ps.length ∧ iv = .int .i64 k ∧ Own 3 EP wr (W.heap.size ≤ ·) W.heap.size 37 v (cl (laidL (vl (t.ps.take k)))) ∧ Box wr g 27 #[v, .bool (cz t.k.v).neg, .slice A1 (cz t.k.v).mag.length c1] ∧
      Kp (fun c => c < W.heap.size ∧ c ≠ g) W wr ∧ Ext w wr ∧ W.heap.size ≤ wr.heap.size) (fun iv _ => t.ps.length - (intOf iv).toNat)
  case atStart => exact ⟨0, _, Nat.zero_le _, rfl, Own.nil _ _ _ _, b3W, Kp.refl _, hE, Nat.le_refl _⟩
  case round =>
    clear b3W
    obtain ⟨k, v, hk, rfl, hO, b3, kp, hxr, hsr⟩ := hrel
    have b1 := b1W.keep (X := fun c => c < W.heap.size ∧ c ≠ g) ⟨b1W.lt, by omega⟩ kp
    have b2 := b2W.keep (X := fun c => c < W.heap.size ∧ c ≠ g) ⟨b2W.lt, by omega⟩ kp
    have hNK : Nl wr (fun c => w.heap.size + 2 ≤ c ∧ c < g) A1 c1 (cz t.k.v).mag := hKW.keep (kp.imp fun c hc => ⟨by omega, by omega⟩)
    have b1r := b1.rules
    have b1l := b1.lt
    have b3r := b3.rules
    have b3l := b3.lt
    have hrow := hO.row
    obtain ⟨A0, c0, rfl, hP0⟩ := Own.sl hO (by omega) (X := (W.heap.size ≤ ·)) (fun c hc => hc.elim id id)
    by_cases hlt : k < t.ps.length
    · obtain ⟨b, o, B', d', rfl, hX, hc0, hc1, hc2, hi, hN2⟩ := (h1b.ext hxr).at_ hlt
      have hb := World.block_lt_of_cell? _ _ hc0
      have kl : (k : Int) < (t.ps.length : Int) := by omega
      have kw := w64n (n := k) (by omega)
      have hml : (laidL (vl (t.ps.take k))).length ≤ N := by
        have := laid_len (vl (t.ps.take k))
        rw [vl_len, List.length_take] at this
        omega
      have hmz : ∀ p ∈ laidL (vl (t.ps.take k)), zl p.2 ≤ 1099511627776 := fun p hp => by
        have := zl_laid (l := vl (t.ps.take k)) (N := N) (fun q hq => hzl q (List.map_subset _ (List.take_subset _ _) hq)) p hp
        rw [vl_len, List.length_take] at this
        omega
      have hpz : (pth t.ps k).2.mag.length ≤ N := s2 _ (pth_mem hlt)
      go_wp2_with fail
      refine wp_region_oe [7, 8, 9] (.quiet 0 (.quiet 1 (.quiet 2 (.quiet 3 (.quiet 4 (.quiet 5 (.quiet 6 (.late [7, 8, 9])))))))) rfl (by kernel_rfl) (by intro _ _ d _ _ h; cases d <;> exact h) ?_
      (repeat (refine oe_take (v := ?_) rfl rfl ?_ ?_; rotate_left; (intro w' hx'; have hc' := hx'.cells.1; (try simp only [wcd] at hc'); go_simp; (first | done | with_reducible rfl)); (try simp only [pt])))
      refine oe_late ?_
      refine sh_late rfl rfl fun K hK => ?_
      go_simp
      refine (laid_c (base := W.heap.size) (x := (pth t.ps k).1) (z := (pth t.ps k).2) (hO.ext xt) (by simp only [wsz]; omega) hi ((hN2.widen (Y := fun c => c < W.heap.size) fun c hc _ => by have := hE.size; omega).ext xt) (by omega) (by omega) hmz).mono ?_
      rintro e w4 ⟨v4, rfl, hO4, hgr4⟩
      refine hK _ _ ?_
      clear hK K
      (try simp only [pt])
      obtain ⟨A4, c4, rfl, hj⟩ := Own.sl hO4 (by omega) (X := fun _ => True) (fun _ _ => trivial)
      clear hj
      have hgr : wr.grownBy w4 (Value.ownBlock (.slice A0 (cl (laidL (vl (t.ps.take k)))).length c0)) := ext_then (Ext.drew (Ext.refl wr)) hgr4
      have b3' := b3.grown hgr (fun e => by have := (hrow _ e.symm).1; omega)
      have b3r' := b3'.rules
      have b3l' := b3'.lt
      clear b3r b1r
      (refine sh_late rfl rfl fun K hK => ?_; go_simp; refine hK _ _ ?_; clear hK K)
      (refine sh_late rfl rfl fun K hK => ?_; go_simp; refine hK _ _ ?_; clear hK K)
      refine sh_end ?_
      go_wp2_with fail
      rw [← laid_step t.ps k hlt] at *
      have b3s := b3'.set_ 0 (.slice A4 (cl (laidL (vl (t.ps.take (k + 1))))).length c4)
      have hrow4 := hO4.row
      have kp4 : Kp (fun c => c < W.heap.size ∧ c ≠ g) W w4 := kp.grown hgr fun j hj h => by have := (hrow j hj).1; omega
      have hx4 : Ext w w4 := hxr.grown hgr fun j hj => by have := (hrow j hj).1; omega
      go_roundw
      case rel =>
        refine ⟨k + 1, _, by omega, by go_num, hO4.keep ((Kp.refl w4).setCell (fun h => ?_) _), b3s, kp4.setCell (fun h => h.2 rfl) _, hx4.setCell (by simp only; omega) _, ?_⟩
        · rcases h with h | h
          · simp only at h; omega
          · have := (hrow4 _ h).1; simp only at this; omega
        · have := hgr.size
          simp only [World.size_setCell]
          omega
      case measure => simp [intOf] <;> omega
    · obtain rfl : k = t.ps.length := by omega
      obtain ⟨V, rfl⟩ : ∃ V, V = wr := ⟨_, rfl⟩
      rw [List.take_length] at hO b3 hP0
      obtain ⟨m, hm⟩ : ∃ m, m = laidL (vl t.ps) := ⟨_, rfl⟩
      have hcn : m.filter (fun p => p.2 != 0) = cn (vl t.ps) := by rw [hm]; rfl
      have hmz : ∀ p ∈ m, zl p.2 ≤ 4398046511104 := fun p hp => by
        rw [hm] at hp
        have := zl_laid (N := N) hzl p hp
        rw [vl_len] at this
        omega
      have hml : m.length ≤ N := by rw [hm]; have := laid_len (vl t.ps); rw [vl_len] at this; omega
      rw [← hm] at hO b3 hP0
      have HCN := Lib.hid hcn
      clear hm hcn
      have HL := Lib.hid (cl_len m)
      rw [HL.out] at hO b3
      have hP0 : Pl V (W.heap.size ≤ ·) A0 c0 (cl m) := hP0
      have hPb : Pl V (fun c => W.heap.size ≤ c ∧ c < V.heap.size) A0 c0 (cl m) := hP0.widen fun c hc hl => ⟨hc, hl⟩
      have hcap := hP0.1
      have hcapm := hP0.2.1
      rw [HL.out] at hcap
      simp only [maxLen] at hcapm
      clear hO
      go_wp2_with fail
      clear b1r b3r
      go_loopw [5, 6] (fun sv iv wz => ∃ k : Nat, k ≤ m.length ∧ iv = .int .i64 k ∧ Own 3 EP wz (W.heap.size ≤ ·) V.heap.size 37 sv (cl ((m.take k).filter fun p => p.2 != 0)) ∧ Ext V wz) (fun _ iv _ => m.length - (intOf iv).toNat)
      case atStart => exact ⟨0, Nat.zero_le _, rfl, Own.nil _ _ _ _, Ext.refl _⟩
      case round =>
        obtain ⟨k, hk, rfl, hO, hxz⟩ := hrel
        have b3z := b3.ext hxz
        have b3r := b3z.rules
        have b3l' := b3z.lt
        have hsz2 := hxz.size
        by_cases hlt : k < m.length
        · obtain ⟨b, o, B', d', rfl, hX, hc0, hc1, hc2, hi, hN2⟩ := (hPb.ext hxz).at_ (k := k) (by rw [HL.out]; exact hlt)
          rw [pth_cl m k hlt] at hc0 hc1 hc2 hi hN2
          obtain ⟨q, hq⟩ : ∃ q, q = m[k] := ⟨_, rfl⟩
          have hqz := hmz _ (List.getElem_mem hlt)
          rw [← hq] at hc0 hc1 hc2 hi hN2 hqz
          have Hq := Lib.hid hq; clear hq
          have hb := World.block_lt_of_cell? _ _ hc0
          have kl : (k : Int) < (m.length : Int) := by omega
          have kw := w64n (n := k) (by omega)
          go_wp2_with fail
          refine (rsign_c (z := cz q.2) ⟨_, _, rfl, hN2.ext xt⟩ (by rw [cz_len]; exact hqz)).mono ?_
          rw [cz_v]
          rintro e w5 ⟨rfl, hx5⟩
          have hx5z : Ext V w5 := hxz.trans hx5
          have b3w := b3z.ext hx5
          have b3wr := b3w.rules
          have b3wl := b3w.lt
          have hd0 := (hx5.cells.1 b (o + k * 3) hb).trans hc0
          have hd1 := (hx5.cells.1 b (o + k * 3 + 1) hb).trans hc1
          have hd2 := (hx5.cells.1 b (o + k * 3 + 2) hb).trans hc2
          have hb5 := Nat.lt_of_lt_of_le hb hx5.size
          clear b3r hc0 hc1 hc2
          have hO5 := hO.ext hx5
          by_cases hz : q.2 = 0
          · have e0 : (sgn q.2 != 0) = false := by rw [hz]; rfl
            have HZ := Lib.hid hz; clear hz
            go_wp2_with fail
            go_roundw
            case rel => exact ⟨k + 1, by omega, by go_num, by rw [fil_miss hlt (by rw [← Hq.out]; exact HZ.out)]; exact hO5, hx5z⟩
            case measure => simp [intOf] <;> omega
          · have e0 : (sgn q.2 != 0) = true := by rw [bne_iff_ne]; exact fun h => hz (sgn_zero.1 h)
            have HZ := Lib.hid hz; clear hz
            have hrow5 := hO5.row
            have hfl : (cl ((m.take k).filter fun p => p.2 != 0)).length ≤ N := by
              rw [cl_len]
              have := List.length_filter_le (fun p : Int × Int => p.2 != 0) (m.take k)
              rw [List.length_take] at this
              omega
            have hNX : Nl w5 (fun c => (W.heap.size ≤ c) ∧ u5.ownBlock ≠ some c) B' d' (cz q.2).mag := (hN2.widen (Y := fun c => (W.heap.size ≤ c) ∧ u5.ownBlock ≠ some c) fun c hc _ => ⟨hc.1, fun e => by have := (hO.row c e).1; omega⟩).ext hx5
            go_wp2_with (first
              | (at_builtin
                 refine wpList_appp1 (.tmp 44) (.tmp 50) hO5 hi hNX (by omega) (by have := hx5.size; omega) rfl rfl rfl rfl ?_
                 intro v6 w6 hO6 hg6 hv6)
              | fail)
            have hx6 : Ext V w6 := (hx5z.alloc _).grown hg6 fun j hj => (hrow5 j hj).1
            go_roundw
            case rel =>
              refine ⟨k + 1, by omega, by go_num, ?_, hx6⟩
              rw [fil_step hlt (by rw [← Hq.out]; exact HZ.out), cl_append, ← Hq.out]
              exact hO6
            case measure => simp [intOf] <;> omega
        · obtain rfl : k = m.length := by omega
          rw [List.take_length, HCN.out] at hO
          obtain ⟨A5, c5, rfl, hP5⟩ := Own.sl hO (by omega) (X := fun c => w.heap.size + 2 ≤ c ∧ c ≠ g) (fun c hc => by rcases hc with hc | hc; exact ⟨by omega, by omega⟩; exact ⟨by omega, by omega⟩)
          have b2z := b2.ext hxz
          have b2r := b2z.rules
          have b2l' := b2z.lt
          have hNKz := hNK.ext hxz
          have hxw := hxr.trans hxz
          go_wp2_with fail
          (refine bodyPost_ret (v := ?_) ?_ rfl ?_; rotate_left; (simp only [results, Tryz.results67]; go_simp; (first | done | with_reducible rfl)))
          exact end_norm5 hP5 hNKz (by omega) hxw

end Go.Proofs.YthmjgbkakjpfkaaGreatDoor
