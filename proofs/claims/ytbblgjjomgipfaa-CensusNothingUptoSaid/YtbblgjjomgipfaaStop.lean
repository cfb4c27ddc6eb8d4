/- census: stops. No conditions. -/
import Derived.Test.YtbblgjjomgipfaaPart2
namespace Go.Proofs.Ytbblgjjomgipfaa
open Go.RowKit Go.Shelf

theorem Own.onez {w : World} {Zp : Nat → Prop} {base : Nat} {t : TypeId} {A : Option Addr} {c : Nat} {z : Z} (hb : base ≤ w.heap.size) (h : Nl w (fun b => Zp b ∧ b ≠ w.heap.size) A c z.mag) :
    Own 2 EZ (w.alloc (.cells #[.bool z.neg, .slice A z.mag.length c] t)) Zp base t (.slice (some ⟨w.heap.size, 0, none⟩) 1 1) [z] := by
  refine ⟨[.bool z.neg, .slice A z.mag.length c], ⟨by simp, .inr ⟨w.heap.size, 1, #[.bool z.neg, .slice A z.mag.length c], rfl, hb, heap_alloc_new w _, by simp, by simp [maxLen], by simp, by simp⟩⟩, Fl.one ⟨A, c, rfl, ?_⟩ rfl⟩
  exact (h.keep ((Kp.refl w).alloc _)).widen fun b hb _ => ⟨hb.1, fun e => hb.2 (by injection e with e; exact e.symm)⟩

theorem Own.offz {w : World} {Zp : Nat → Prop} {base g : Nat} {e t : TypeId} {v : Value} {l : List Z} {cs : Array Value} (h : Own 2 EZ w Zp base e v l) (hb : Box w g t cs) (hcs : ∀ u ∈ cs.toList, ∀ x, u ≠ .int .u32 x) : Own 2 EZ w (fun b => Zp b ∧ b ≠ g) base e v l := by
  obtain ⟨xs, h1, h2⟩ := h
  refine ⟨xs, h1, h2.1, fun i hi => ?_⟩
  obtain ⟨A, c, e1, h3⟩ := h2.2 i hi
  exact ⟨A, c, e1, (Nl.off h3 hb hcs).widen fun b hb _ => ⟨⟨hb.1.1, hb.2⟩, hb.1.2⟩⟩

/-- Where one has one row: from lo, the cuts between, end. -/
def stpsF (lo e : Z) (l : List Z) : List Z := l.filter fun c => decide (lo.v < c.v) && decide (c.v < e.v)
def stps (s : Ps) (lo e : Z) : List Z := lo :: (stpsF lo e s.cuts ++ [e])

set_option maxRecDepth 100000 in
set_option maxHeartbeats 3200000 in
theorem stops_c {g N : Nat} {s : Ps} {w : World} {X Y Y' : Nat → Prop} {u v : Value} {lo en : Z} (hs : SetV w X g s) (hsk : s.ok N) (hN : N ≤ 1099511627776) (hlo : Zi w Y u lo) (hen : Zi w Y' v en) :
    Calls Try.prog 90 #[.pointer (some ⟨g, 0, none⟩), u, v] w fun e w' => ∃ r, e = .returned r ∧ Own 2 EZ w' (fun _ => True) w.heap.size 25 r (stps s lo en) ∧ Ext w w' := by
  have hcl := hsk.len
  have hcu := fun (V : World) (hV : Ext w V) => cuts_c (hs.ext hV) hsk hN
  have hls := fun (U : World) (hU : Ext w U) (r : Value) (z : Z) (Q : Nat → Prop) (h : Zi U Q r z) => less_c (hlo.ext hU) h
  have hle := fun (U : World) (hU : Ext w U) (r : Value) (z : Z) (Q : Nat → Prop) (h : Zi U Q r z) => less_c h (hen.ext hU)
  obtain ⟨A, c, rfl, hlo⟩ := hlo
  obtain ⟨B, d, rfl, hen⟩ := hen
  have hlo := hlo.widen (Y := fun b => b < w.heap.size) fun b _ h => h
  have hen := hen.widen (Y := fun b => b < w.heap.size) fun b _ h => h
  go_enter Try.func90, Try.ntmps90
  go_upto_region 2 with fail
  refine wp_named fun W hW => ?_
  have b4 : Box W w.heap.size 25 #[.bool lo.neg, .slice A lo.mag.length c] := by rw [hW]; exact (by repeat (first | with_reducible assumption | with_reducible exact Box.new _ _ _ | (with_reducible refine Box.new_at _ _ _ ?_; (simp only [wsz]; done)) | with_reducible refine Box.drewN ?_ _ | with_reducible refine Box.drew ?_ | with_reducible refine Box.alloc ?_ _ | with_reducible apply Box.drewN | with_reducible apply Box.drew | with_reducible apply Box.alloc | with_reducible refine Box.set_ ?_ _ _ | (with_reducible refine Box.far ?_ ?_ _; rotate_left; (simp only [ne_eq]; omega)) | (with_reducible refine Box.ext ?_ (by with_reducible assumption)) | (refine Box.new_at _ _ _ ?_; simp only [wsz]; done)))
  have b5 : Box W (w.heap.size + 1) 25 #[.bool en.neg, .slice B en.mag.length d] := by rw [hW]; exact (by repeat (first | with_reducible assumption | with_reducible exact Box.new _ _ _ | (with_reducible refine Box.new_at _ _ _ ?_; (simp only [wsz]; done)) | with_reducible refine Box.drewN ?_ _ | with_reducible refine Box.drew ?_ | with_reducible refine Box.alloc ?_ _ | with_reducible apply Box.drewN | with_reducible apply Box.drew | with_reducible apply Box.alloc | with_reducible refine Box.set_ ?_ _ _ | (with_reducible refine Box.far ?_ ?_ _; rotate_left; (simp only [ne_eq]; omega)) | (with_reducible refine Box.ext ?_ (by with_reducible assumption)) | (refine Box.new_at _ _ _ ?_; simp only [wsz]; done)))
  have hE : Ext w W := by rw [hW]; exact (by repeat (first | with_reducible assumption | with_reducible exact Ext.refl _ | with_reducible refine Ext.drewN ?_ _ | with_reducible refine Ext.drew ?_ | with_reducible refine Ext.alloc ?_ _ | (with_reducible refine Ext.setCell ?_ ?_ _; rotate_left; (first | exact Nat.le_refl _ | (dsimp only; omega) | (simp only [wsz]; omega))) | (with_reducible refine Ext.trans ?_ (by with_reducible assumption))))
  have hWs : W.heap.size = w.heap.size + 1 + 1 + 1 := by rw [hW]; simp only [wsz]
  have hO0 : Own 2 EZ W (fun b => b ≠ w.heap.size + 2) w.heap.size 25 (.slice (some ⟨w.heap.size + 1 + 1, 0, none⟩) 1 1) [lo] := by
    rw [hW]
    have h1 := Own.onez (w := (w.alloc (.cells #[.bool lo.neg, .slice A lo.mag.length c] 25)).alloc (.cells #[.bool en.neg, .slice B en.mag.length d] 25)) (Zp := fun b => b ≠ w.heap.size + 2) (base := w.heap.size) (t := 25) (A := A) (c := c) (z := lo) (by simp only [wsz]; omega)
      ((hlo.keep (((Kp.refl w).alloc _).alloc _)).widen fun b hb _ => ⟨by omega, by simp only [wsz]; omega⟩)
    simp only [wsz] at h1
    exact h1
  clear hW
  have b4r := b4.rules; have b4l := b4.lt
  have b5r := b5.rules; have b5l := b5.lt
  go_wp2_with fail
  refine (hcu _ hE).mono ?_
  rintro e w1 ⟨A1, c1, rfl, hZ1, hx1⟩
  have hE1 := hE.trans hx1
  have hs1 := hx1.size
  have hZ1 := Sl.widen hZ1 (by omega) (Y := fun b => W.heap.size ≤ b ∧ b < w1.heap.size) fun b hb hl => ⟨hb, hl⟩
  have hO1 := (hO0.ext hx1)
  have hlc := hZ1.1; have hlm := hZ1.2.1
  simp only [maxLen] at hlm
  have c4 := b4.ext hx1; have c5 := b5.ext hx1
  have hlo1 := hlo.ext hE1; have hen1 := hen.ext hE1
  clear b4r b5r hcu
  go_wp2_with fail
  go_loopw [7, 15] (fun lv iv wr => ∃ k : Nat, k ≤ s.cuts.length ∧ iv = .int .i64 k ∧ Own 2 EZ wr (fun b => b ≠ w.heap.size + 2 ∧ b < w1.heap.size) w.heap.size 25 lv (lo :: stpsF lo en (s.cuts.take k)) ∧
    (∀ b, lv.ownBlock = some b → b = w.heap.size + 2 ∨ w1.heap.size ≤ b) ∧ Kp (fun b => b ≠ w.heap.size + 2) w1 wr ∧ Ext w wr ∧ w1.heap.size ≤ wr.heap.size) (fun _ iv _ => s.cuts.length - (intOf iv).toNat)
  case atStart => exact ⟨0, Nat.zero_le _, rfl, by simpa [stpsF] using hO1.widen (fun b hb hl => ⟨hb, hl⟩), fun b e => .inl (by injection e with e; exact e.symm), Kp.refl _, hE1, Nat.le_refl _⟩
  case round =>
    obtain ⟨k, hk, rfl, hO, hvb, hkp, hxw, hsz⟩ := hrel
    have hrow := hO.row
    by_cases hlt : k < s.cuts.length
    · have hZr := Sl.keep hZ1 (hkp.imp fun b hb => by omega)
      obtain ⟨b, o, B', d', rfl, hX, q0, q1, hN2⟩ := Zs.at_ hZr hlt
      have hbw := World.block_lt_of_cell? _ _ q0
      have kl : (k : Int) < (s.cuts.length : Int) := by omega
      have e2 := take_zth s.cuts k hlt
      obtain ⟨zc, hzc⟩ : ∃ zc, zc = zth s.cuts k := ⟨_, rfl⟩
      rw [← hzc] at q0 q1 hN2 e2
      obtain ⟨p1, hp1⟩ : ∃ p1, p1 = decide (lo.v < zc.v) := ⟨_, rfl⟩
      obtain ⟨p2, hp2⟩ : ∃ p2, p2 = decide (zc.v < en.v) := ⟨_, rfl⟩
      have hstep : Hid (stpsF lo en (s.cuts.take (k + 1)) = stpsF lo en (s.cuts.take k) ++ if p1 && p2 then [zc] else []) := Lib.hid (by
        rw [e2, stpsF, List.filter_append, ← stpsF, hp1, hp2]
        congr 1
        by_cases h1 : lo.v < zc.v <;> by_cases h2 : zc.v < en.v <;> simp [h1, h2])
      have hc1 := fun (U : World) (hU : Ext wr U) => hls U (hxw.trans hU) (.agg #[.bool zc.neg, .slice B' zc.mag.length d']) zc _ ⟨_, _, rfl, hN2.ext hU⟩
      have hc2 := fun (U : World) (hU : Ext wr U) => hle U (hxw.trans hU) (.agg #[.bool zc.neg, .slice B' zc.mag.length d']) zc _ ⟨_, _, rfl, hN2.ext hU⟩
      simp only [← hp1] at hc1
      simp only [← hp2] at hc2
      have d4 := c4.keep (X := fun b => b ≠ w.heap.size + 2) (by omega) hkp
      have d5 := c5.keep (X := fun b => b ≠ w.heap.size + 2) (by omega) hkp
      have d4r := d4.rules; have d4l := d4.lt
      have d5r := d5.rules; have d5l := d5.lt
      have hls' := Lib.hid hls; have hle' := Lib.hid hle
      clear hp1 hp2 hls hle e2 hzc
      go_wp2_with fail
      refine (hc1 _ (by repeat (first | with_reducible assumption | with_reducible exact Ext.refl _ | with_reducible refine Ext.drewN ?_ _ | with_reducible refine Ext.drew ?_ | with_reducible refine Ext.alloc ?_ _ | (with_reducible refine Ext.setCell ?_ ?_ _; rotate_left; (first | exact Nat.le_refl _ | (dsimp only; omega) | (simp only [wsz]; omega))) | (with_reducible refine Ext.trans ?_ (by with_reducible assumption))))).mono ?_
      rintro e w2 ⟨rfl, hx2⟩
      have hxr2 : Ext wr w2 := (by repeat (first | with_reducible assumption | with_reducible exact Ext.refl _ | with_reducible refine Ext.drewN ?_ _ | with_reducible refine Ext.drew ?_ | with_reducible refine Ext.alloc ?_ _ | (with_reducible refine Ext.setCell ?_ ?_ _; rotate_left; (first | exact Nat.le_refl _ | (dsimp only; omega) | (simp only [wsz]; omega))) | (with_reducible refine Ext.trans ?_ (by with_reducible assumption))))
      (have b9 := Box.ext (g := wr.heap.size) (by repeat (first | with_reducible assumption | with_reducible exact Box.new _ _ _ | (with_reducible refine Box.new_at _ _ _ ?_; (simp only [wsz]; done)) | with_reducible refine Box.drewN ?_ _ | with_reducible refine Box.drew ?_ | with_reducible refine Box.alloc ?_ _ | with_reducible apply Box.drewN | with_reducible apply Box.drew | with_reducible apply Box.alloc | with_reducible refine Box.set_ ?_ _ _ | (with_reducible refine Box.far ?_ ?_ _; rotate_left; (simp only [ne_eq]; omega)) | (with_reducible refine Box.ext ?_ (by with_reducible assumption)) | (refine Box.new_at _ _ _ ?_; simp only [wsz]; done))) hx2; have b9r := b9.rules; have b9l := b9.lt)
      have f5 := d5.ext hxr2
      have f5r := f5.rules; have f5l := f5.lt
      clear d4r d5r
      cases p1
      · go_wp2_with fail
        go_roundw
        case rel => exact ⟨k + 1, by omega, by go_num, by rw [hstep.out]; simpa using hO.ext hxr2, hvb, hkp.ext hxr2, hxw.trans hxr2, by have := hxr2.size; omega⟩
        case measure => simp [intOf] <;> omega
      · go_wp2_with fail
        refine (hc2 _ hxr2).mono ?_
        rintro e w3 ⟨rfl, hx3⟩
        have hxr3 := hxr2.trans hx3
        have f9 := b9.ext hx3
        have f9r := f9.rules; have f9l := f9.lt
        clear b9r f5r
        have hO3 := hO.ext hxr3
        have hs3 := hxr3.size
        cases p2
        · go_wp2_with fail
          go_roundw
          case rel => exact ⟨k + 1, by omega, by go_num, by rw [hstep.out]; simpa using hO3, hvb, hkp.ext hxr3, hxw.trans hxr3, by omega⟩
          case measure => simp [intOf] <;> omega
        · have hN3 := hN2.ext hxr3
          have hlen : (lo :: stpsF lo en (s.cuts.take k)).length ≤ 2199023255552 := by
            have h1 := List.length_filter_le (fun c : Z => decide (lo.v < c.v) && decide (c.v < en.v)) (s.cuts.take k)
            rw [List.length_take] at h1
            simp only [List.length_cons, stpsF]
            omega
          have hlen' := Lib.hid hlen
          clear hlen
          go_wp2_with (first
            | (at_builtin
               (refine wpList_appz1 (.tmp 27) (.tmp 29) hO3 (hN3.widen fun q hq _ => ⟨by omega, fun e => by have := hvb q e; omega⟩) hlen'.out (by omega) rfl rfl rfl rfl ?_)
               intro v4 w4 hO4 hg4 hv4)
            | fail)
          have hxx : Ext w w4 := ((hxw.trans hxr3).alloc _).grown hg4 (fun j hj => (hrow _ hj).1)
          have hg4s := hg4.size
          simp only [wsz] at hg4s
          go_roundw
          case rel =>
            refine ⟨k + 1, by omega, by go_num, by rw [hstep.out]; simpa using hO4, fun b e => ?_, fun b hb hl => ?_, hxx, by omega⟩
            · rcases hv4 with hv4 | hv4
              · exact hvb b (hv4 ▸ e)
              · rw [hv4] at e; injection e with e; omega
            · refine (hg4.block b (by simp only [wsz]; omega) fun e => ?_).trans (((Ext.refl w3).alloc _).block b (by omega) |>.trans ((hkp.ext hxr3) b hb hl))
              rcases hvb b e.symm with h | h
              · exact hb h
              · omega
          case measure => simp [intOf] <;> omega
    · obtain rfl : k = s.cuts.length := by omega
      rw [List.take_length] at hO
      have d5 := c5.keep (X := fun b => b ≠ w.heap.size + 2) (by omega) hkp
      have d5r := d5.rules; have d5l := d5.lt
      have hN3 := hen.ext hxw
      have hws := hxw.size
      have hlen : (lo :: stpsF lo en s.cuts).length ≤ 2199023255552 := by
        have h1 := List.length_filter_le (fun c : Z => decide (lo.v < c.v) && decide (c.v < en.v)) s.cuts
        simp only [List.length_cons, stpsF]
        omega
      have hlen' := Lib.hid hlen
      clear hlen
      go_wp2_with (first
        | (at_builtin
           (refine wpList_appz1 (.tmp 32) (.tmp 34) hO (hN3.widen fun q hq _ => ⟨by omega, fun e => by have := hvb q e; omega⟩) hlen'.out (by omega) rfl rfl rfl rfl ?_)
           intro v4 w4 hO4 hg4 hv4)
        | fail)
      have hxx : Ext w w4 := (hxw.alloc _).grown hg4 (fun j hj => (hrow _ hj).1)
      go_ret
      exact ⟨_, rfl, hO4.widen (fun _ _ _ => trivial), hxx⟩

end Go.Proofs.Ytbblgjjomgipfaa
