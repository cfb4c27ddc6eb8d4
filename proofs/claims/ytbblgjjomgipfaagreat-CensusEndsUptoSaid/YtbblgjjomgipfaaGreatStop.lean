/- census: stops. No conditions. -/
import Derived.Test.YtbblgjjomgipfaaGreatPart2
namespace Go.Proofs.YtbblgjjomgipfaaGreat
open Go.RowKit Go.Shelf

theorem Own.onez {w : World} {Zp : Nat → Prop} {base : Nat} {t : TypeId} {A : Option Addr} {c : Nat} {z : Z} (hb : base ≤ w.heap.size) (h : Nl w (fun b => Zp b ∧ b ≠ w.heap.size) A c z.mag) :
    Own 2 EZ (w.alloc (.cells #[.bool z.neg, .slice A z.mag.length c] t)) Zp base t (.slice (some ⟨w.heap.size, 0, none⟩) 1 1) [z] := by
  refine ⟨[.bool z.neg, .slice A z.mag.length c], ⟨by simp, .inr ⟨w.heap.size, 1, #[.bool z.neg, .slice A z.mag.length c], rfl, hb, heap_alloc_new w _, by simp, by simp [maxLen], by simp, by simp⟩⟩, Fl.one ⟨A, c, rfl, ?_⟩ rfl⟩
  exact (h.keep ((Kp.refl w).alloc _)).widen fun b hb _ => ⟨hb.1, fun e => hb.2 (by injection e with e; exact e.symm)⟩

theorem Own.offz {w : World} {Zp : Nat → Prop} {base g : Nat} {e t : TypeId} {v : Value} {l : List Z} {cs : Array Value} (h : Own 2 EZ w Zp base e v l) (hb : Box w g t cs) (hcs : ∀ u ∈ cs.toList, ∀ x, u ≠ .int .u32 x) : Own 2 EZ w (fun b => Zp b ∧ b ≠ g) base e v l := by
  obtain ⟨xs, h1, h2⟩ := h
  refine ⟨xs, h1, h2.1, fun i hi => ?_⟩
  obtain ⟨A, c, e1, h3⟩ := h2.2 i hi
  exact ⟨A, c, e1, (Nl.off h3 hb hcs).widen fun b hb _ => ⟨⟨hb.1.1, hb.2⟩, hb.1.2⟩⟩

/-- Where one has one row: from lo, the cuts between, end. -/
def stpsF (lo e : Z) (l : List Z) : List Z := l.filter fun c => decide (lo.v < c.v) && decide (c.v < e.v)
def stps (s : Ps) (lo e : Z) : List Z := lo :: (stpsF lo e s.cuts ++ [e])

set_option maxRecDepth 100000 in
set_option maxHeartbeats 3200000 in
theorem stops_c {g N : Nat} {s : Ps} {w : World} {X Y Y' : Nat → Prop} {u v : Value} {lo en : Z} (hs : SetV w X g s) (hsk : s.ok N) (hN : N ≤ 1099511627776) (hlo : Zi w Y u lo) (hen : Zi w Y' v en) :
    Calls Tryz.prog 43 #[.pointer (some ⟨g, 0, none⟩), u, v] w fun e w' => ∃ r, e = .returned r ∧ Own 2 EZ w' (fun _ => True) w.heap.size 25 r (stps s lo en) ∧ Ext w w' := by
  have hcl := hsk.len
  have hcu := fun (V : World) (hV : Ext w V) => cuts_c (hs.ext hV) hsk hN
  have hls := fun (U : World) (hU : Ext w U) (r : Value) (z : Z) (Q : Nat → Prop) (h : Zi U Q r z) => less_c (hlo.ext hU) h
  have hle := fun (U : World) (hU : Ext w U) (r : Value) (z : Z) (Q : Nat → Prop) (h : Zi U Q r z) => less_c h (hen.ext hU)
  obtain ⟨A, c, rfl, hlo⟩ := hlo
  obtain ⟨B, d, rfl, hen⟩ := hen
  have hlo := hlo.widen (Y := fun b => b < w.heap.size) fun b _ h => h
  have hen := hen.widen (Y := fun b => b < w.heap.size) fun b _ h => h
  go_enter Tryz.func43, Tryz.ntmps43
  go_upto_region 2 with fail
  refine wp_named fun W hW => ?_
  have b4 : Box W w.heap.size 25 #[.bool lo.neg, .slice A lo.mag.length c] := by rw [hW]; exact (by repeat (first | with_reducible assumption | with_reducible exact Box.new _ _ _ | (with_reducible refine Box.new_at _ _ _ ?_; (simp only [wsz]; done)) | with_reducible refine Box.drewN ?_ _ | with_reducible refine Box.drew ?_ | with_reducible refine Box.alloc ?_ _ | with_reducible apply Box.drewN | with_reducible apply Box.drew | with_reducible apply Box.alloc | with_reducible refine Box.set_ ?_ _ _ | (with_reducible refine Box.far ?_ ?_ _; rotate_left; (simp only [ne_eq]; omega)) | (with_reducible refine Box.ext ?_ (by with_reducible assumption)) | (refine Box.new_at _ _ _ ?_; simp only [wsz]; done)))
  have b5 : Box W (w.heap.size + 1) 25 #[.bool en.neg, .slice B en.mag.length d] := by rw [hW]; exact (by repeat (first | with_reducible assumption | with_reducible exact Box.new _ _ _ | (with_reducible refine Box.new_at _ _ _ ?_; (simp only [wsz]; done)) | with_reducible refine Box.drewN ?_ _ | with_reducible refine Box.drew ?_ | with_reducible refine Box.alloc ?_ _ | with_reducible apply Box.drewN | with_reducible apply Box.drew | with_reducible apply Box.alloc | with_reducible refine Box.set_ ?_ _ _ | (with_reducible refine Box.far ?_ ?_ _; rotate_left; (simp only [ne_eq]; omega)) | (with_reducible refine Box.ext ?_ (by with_reducible assumption)) | (refine Box.new_at _ _ _ ?_; simp only [wsz]; done)))
  have hE : Ext w W := by rw [hW]; exact (by repeat (first | with_reducible assumption | with_reducible exact Ext.refl _ | with_reducible refine Ext.drewN ?_ _ | with_reducible refine Ext.drew ?_ | with_reducible refine Ext.alloc ?_ _ | (with_reducible refine Ext.setCell ?_ ?_ _; rotate_left; (first | exact Nat.le_refl _ | (dsimp only; omega) | (simp only [wsz]; omega))) | (with_reducible refine Ext.trans ?_ (by with_reducible assumption))))
  have hWs : W.heap.size = w.heap.size + 1 + 1 + 1 := by rw [hW]; simp only [wsz]
  have hO0 : Own 2 EZ W (fun b => b ≠ w.heap.size + 2) w.heap.size 25 (.slice (some ⟨w.heap.size + 1 + 1, 0, none⟩) 1 1) [lo] := by
    rw [hW]
    have h1 := Own.onez (w := (w.alloc (.cells #[.bool lo.neg, .slice A lo.mag.length c] 25)).alloc (.cells #[.bool en.neg, .slice B en.mag.length d] 25)) (Zp := fun b => b ≠ w.heap.size + 2) (base := w.heap.size) (t := 25) (A := A) (c := c) (z := lo) (by simp only [wsz]; omega)
      ((hlo.keep (((Kp.refl w).alloc _).alloc _)).widen fun b hb _ => ⟨by omega, by simp only [wsz]; omega⟩)
    simp only [wsz] at h1
    exact h1
  clear hW
  have b4r := b4.rules; have b4l := b4.lt
  have b5r := b5.rules; have b5l := b5.lt
  go_wp2_with fail
  refine (hcu _ hE).mono ?_
  rintro e w1 ⟨A1, c1, rfl, hZ1, hx1⟩
  have hE1 := hE.trans hx1
  have hs1 := hx1.size
  have hZ1 := Sl.widen hZ1 (by omega) (Y := fun b => W.heap.size ≤ b ∧ b < w1.heap.size) fun b hb hl => ⟨hb, hl⟩
  have hO1 := (hO0.ext hx1)
  have hlc := hZ1.1; have hlm := hZ1.2.1
  simp only [maxLen] at hlm
  have c4 := b4.ext hx1; have c5 := b5.ext hx1
  have hlo1 := hlo.ext hE1; have hen1 := hen.ext hE1
  clear b4r b5r hcu
  go_wp2_with fail
  go_loopw [7, 15] (fun lv iv wr => ∃ k : Nat, k ≤ s.cuts.length ∧ iv = .int .i64 k ∧ Own 2 EZ wr (fun b => b ≠ w.heap.size + 2 ∧ b < w1.heap.size) w.heap.size 25 lv (lo :: stpsF lo en (s.cuts.take k)) ∧
    (∀ b, lv.ownBlock = some b → b = w.heap.size + 2 ∨ w1.heap.size ≤ b) ∧ Kp (fun b => b ≠ w.heap.size + 2) w1 wr ∧ Ext w wr ∧ w1.heap.size ≤ wr.heap.size) (fun _ iv _ => s.cuts.length - (intOf iv).toNat)
  case atStart => exact ⟨0, Nat.zero_le _, rfl, by simpa [stpsF] using hO1.widen (fun b hb hl => ⟨hb, hl⟩), fun b e => .inl (by injection e with e; exact e.symm), Kp.refl _, hE1, Nat.le_refl _⟩
  case round =>
    obtain ⟨k, hk, rfl, hO, hvb, hkp, hxw, hsz⟩ := hrel
    have hrow := hO.row
    by_cases hlt : k < s.cuts.length
    · have hZr := Sl.keep hZ1 (hkp.imp fun b hb => by omega)
      obtain ⟨b, o, B', d', rfl, hX, q0, q1, hN2⟩ := Zs.at_ hZr hlt
      have hbw := World.block_lt_of_cell? _ _ q0
      have kl : (k : Int) < (s.cuts.length : Int) := by omega
      have e2 := take_zth s.cuts k hlt
      obtain ⟨zc, hzc⟩ : ∃ zc, zc = zth s.cuts k := ⟨_, rfl⟩
      rw [← hzc] at q0 q1 hN2 e2
      obtain ⟨p1, hp1⟩ : ∃ p1, p1 = decide (lo.v < zc.v) := ⟨_, rfl⟩
      obtain ⟨p2, hp2⟩ : ∃ p2, p2 = decide (zc.v < en.v) := ⟨_, rfl⟩
      have hstep : Hid (stpsF lo en (s.cuts.take (k + 1)) = stpsF lo en (s.cuts.take k) ++ if p1 && p2 then [zc] else []) := Lib.hid (by
        rw [e2, stpsF, List.filter_append, ← stpsF, hp1, hp2]
        congr 1
        by_cases h1 : lo.v < zc.v <;> by_cases h2 : zc.v < en.v <;> simp [h1, h2])
      have hc1 := fun (U : World) (hU : Ext wr U) => hls U (hxw.trans hU) (.agg #[.bool zc.neg, .slice B' zc.mag.length d']) zc _ ⟨_, _, rfl, hN2.ext hU⟩
      have hc2 := fun (U : World) (hU : Ext wr U) => hle U (hxw.trans hU) (.agg #[.bool zc.neg, .slice B' zc.mag.length d']) zc _ ⟨_, _, rfl, hN2.ext hU⟩
      simp only [← hp1] at hc1
      simp only [← hp2] at hc2
      have d4 := c4.keep (X := fun b => b ≠ w.heap.size + 2) (by omega) hkp
      have d5 := c5.keep (X := fun b => b ≠ w.heap.size + 2) (by omega) hkp
      have d4r := d4.rules; have d4l := d4.lt
      have d5r := d5.rules; have d5l := d5.lt
      have hls' := Lib.hid hls; have hle' := Lib.hid hle
      clear hp1 hp2 hls hle e2 hzc
      go_wp2_with fail
      refine (hc1 _ (by repeat (first | with_reducible assumption | with_reducible exact Ext.refl _ | with_reducible refine Ext.drewN ?_ _ | with_reducible refine Ext.drew ?_ | with_reducible refine Ext.alloc ?_ _ | (with_reducible refine Ext.setCell ?_ ?_ _; rotate_left; (first | exact Nat.le_refl _ | (dsimp only; omega) | (simp only [wsz]; omega))) | (with_reducible refine Ext.trans ?_ (by with_reducible assumption))))).mono ?_
      rintro e w2 ⟨rfl, hx2⟩
      have hxr2 : Ext wr w2 := (by repeat (first | with_reducible assumption | with_reducible exact Ext.refl _ | with_reducible refine Ext.drewN ?_ _ | with_reducible refine Ext.drew ?_ | with_reducible refine Ext.alloc ?_ _ | (with_reducible refine Ext.setCell ?_ ?_ _; rotate_left; (first | exact Nat.le_refl _ | (dsimp only; omega) | (simp only [wsz]; omega))) | (with_reducible refine Ext.trans ?_ (by with_reducible assumption))))
      (have b9 := Box.ext (g := wr.heap.size) (by repeat (first | with_reducible assumption | with_reducible exact Box.new _ _ _ | (with_reducible refine Box.new_at _ _ _ ?_; (simp only [wsz]; done)) | with_reducible refine Box.drewN ?_ _ | with_reducible refine Box.drew ?_ | with_reducible refine Box.alloc ?_ _ | with_reducible apply Box.drewN | with_reducible apply Box.drew | with_reducible apply Box.alloc | with_reducible refine Box.set_ ?_ _ _ | (with_reducible refine Box.far ?_ ?_ _; rotate_left; (simp only [ne_eq]; omega)) | (with_reducible refine Box.ext ?_ (by with_reducible assumption)) | (refine Box.new_at _ _ _ ?_; simp only [wsz]; done))) hx2; have b9r := b9.rules; have b9l := b9.lt)
      have f5 := d5.ext hxr2
      have f5r := f5.rules; have f5l := f5.lt
      clear d4r d5r
      cases p1
      · go_wp2_with fail
        go_roundw
        case rel => exact ⟨k + 1, by omega, by go_num, by rw [hstep.out]; simpa using hO.ext hxr2, hvb, hkp.ext hxr2, hxw.trans hxr2, by have := hxr2.size; omega⟩
        case measure => simp [intOf] <;> omega
      · go_wp2_with fail
        refine (hc2 _ hxr2).mono ?_
        rintro e w3 ⟨rfl, hx3⟩
        have hxr3 := hxr2.trans hx3
        have f9 := b9.ext hx3
        have f9r := f9.rules; have f9l := f9.lt
        clear b9r f5r
        have hO3 := hO.ext hxr3
        have hs3 := hxr3.size
        cases p2
        · go_wp2_with fail
          go_roundw
          case rel => exact ⟨k + 1, by omega, by go_num, by rw [hstep.out]; simpa using hO3, hvb, hkp.ext hxr3, hxw.trans hxr3, by omega⟩
          case measure => simp [intOf] <;> omega
        · have hN3 := hN2.ext hxr3
          have hlen : (lo :: stpsF lo en (s.cuts.take k)).length ≤ 2199023255552 := by
            have h1 := List.length_filter_le (fun c : Z => decide (lo.v < c.v) && decide (c.v < en.v)) (s.cuts.take k)
            rw [List.length_take] at h1
            simp only [List.length_cons, stpsF]
            omega
          have hlen' := Lib.hid hlen
          clear hlen
          go_wp2_with (first
            | (at_builtin
               (refine wpList_appz1 (.tmp 27) (.tmp 29) hO3 (hN3.widen fun q hq _ => ⟨by omega, fun e => by have := hvb q e; omega⟩) hlen'.out (by omega) rfl rfl rfl rfl ?_)
               intro v4 w4 hO4 hg4 hv4)
            | fail)
          have hxx : Ext w w4 := ((hxw.trans hxr3).alloc _).grown hg4 (fun j hj => (hrow _ hj).1)
          have hg4s := hg4.size
          simp only [wsz] at hg4s
          go_roundw
          case rel =>
            refine ⟨k + 1, by omega, by go_num, by rw [hstep.out]; simpa using hO4, fun b e => ?_, fun b hb hl => ?_, hxx, by omega⟩
            · rcases hv4 with hv4 | hv4
              · exact hvb b (hv4 ▸ e)
              · rw [hv4] at e; injection e with e; omega
            · refine (hg4.block b (by simp only [wsz]; omega) fun e => ?_).trans (((Ext.refl w3).alloc _).block b (by omega) |>.trans ((hkp.ext hxr3) b hb hl))
              rcases hvb b e.symm with h | h
              · exact hb h
              · omega
          case measure => simp [intOf] <;> omega
    · obtain rfl : k = s.cuts.length := by omega
      rw [List.take_length] at hO
      have d5 := c5.keep (X := fun b => b ≠ w.heap.size + 2) (by omega) hkp
      have d5r := d5.rules; have d5l := d5.lt
      have hN3 := hen.ext hxw
      have hws := hxw.size
      have hlen : (lo :: stpsF lo en s.cuts).length ≤ 2199023255552 := by
        have h1 := List.length_filter_le (fun c : Z => decide (lo.v < c.v) && decide (c.v < en.v)) s.cuts
        simp only [List.length_cons, stpsF]
        omega
      have hlen' := Lib.hid hlen
      clear hlen
      go_wp2_with (first
        | (at_builtin
           (refine wpList_appz1 (.tmp 32) (.tmp 34) hO (hN3.widen fun q hq _ => ⟨by omega, fun e => by have := hvb q e; omega⟩) hlen'.out (by omega) rfl rfl rfl rfl ?_)
           intro v4 w4 hO4 hg4 hv4)
        | fail)
      have hxx : Ext w w4 := (hxw.alloc _).grown hg4 (fun j hj => (hrow _ hj).1)
      go_ret
      exact ⟨_, rfl, hO4.widen (fun _ _ _ => trivial), hxx⟩

/-- The first of a period's length of numbers from a on, by steps, that is in. -/
def fatK (s : Ps) (step a : Int) (k : Nat) : Option Int := ((List.range k).map fun i : Nat => a + step * (i : Int)).find? s.has
theorem fatK_step (s : Ps) (step a : Int) (k : Nat) (h : fatK s step a k = none) : fatK s step a (k + 1) = if s.has (a + step * (k : Nat)) then some (a + step * (k : Nat)) else none := by
  unfold fatK at h ⊢
  rw [List.range_succ, List.map_append, List.find?_append, h]
  by_cases h2 : s.has (a + step * (k : Nat)) <;> simp [h2]
theorem fatK_some {s : Ps} {step a : Int} {k : Nat} {x : Int} : ∀ {m : Nat}, k ≤ m → fatK s step a k = some x → fatK s step a m = some x := by
  intro m hm h
  unfold fatK at h ⊢
  obtain ⟨d, rfl⟩ : ∃ d, m = k + d := ⟨m - k, by omega⟩
  rw [List.range_add, List.map_append, List.find?_append, h]
  rfl
def fndV (s : Ps) (step : Int) (l : List Z) : Option Int := l.findSome? fun a => fatK s step a.v s.per
theorem fndV_step {s : Ps} {step : Int} {l : List Z} {k : Nat} (hk : k < l.length) (h : fndV s step (l.take k) = none) : fndV s step (l.take (k + 1)) = fatK s step (zth l k).v s.per := by
  rw [take_zth l k hk, fndV, List.findSome?_append, ← fndV, h]
  simp
theorem fndV_some {s : Ps} {step : Int} {l : List Z} {k : Nat} {x : Int} (h : fndV s step (l.take k) = some x) : fndV s step l = some x := by
  have : l = l.take k ++ l.drop k := (List.take_append_drop k l).symm
  rw [this, fndV, List.findSome?_append, ← fndV, h]
  rfl

set_option maxRecDepth 100000 in
set_option maxHeartbeats 400000 in
theorem found_c {g N : Nat} {s : Ps} {w : World} {X Y : Nat → Prop} {A : Option Addr} {c : Nat} {l : List Z} {step : Int} (hs : SetV w X g s) (hsk : s.ok N) (hl : Zs w Y A c l) (hst : step = 1 ∨ step = -1) (hLl : ∀ a ∈ l, a.mag.length ≤ 1099511627774) :
    Calls Tryz.prog 55 #[.pointer (some ⟨g, 0, none⟩), .int .i64 step, .slice A l.length c] w fun e w' => ∃ r, e = .returned (.tuple #[r, .bool (fndV s step l).isSome]) ∧ Zi w' (w.heap.size ≤ ·) r (cz ((fndV s step l).getD 0)) ∧ Ext w w' := by
  have p0 := hsk.per0; have p1 := hsk.per1
  have hlc := hl.1; have hlm := hl.2.1
  simp only [maxLen] at hlm
  have hpc := fun (V : World) (hV : Ext w V) => period_set_c (hs.ext hV)
  have hhas := fun (U : World) (hU : Ext w U) (r : Value) (z : Z) (Q : Nat → Prop) (hz : z.mag.length ≤ 1099511627776) (h : Zi U Q r z) => has_c (hs.ext hU) hsk h hz
  obtain ⟨p, hp⟩ : ∃ p, p = s.per := ⟨_, rfl⟩
  have HP := Lib.hid hp
  rw [← hp] at p0 p1 hpc
  have hsl : ∀ i : Nat, i < 4096 → -9223372036854775808 ≤ step * (i : Int) ∧ step * (i : Int) ≤ 9223372036854775807 := fun i hi => by rcases hst with rfl | rfl <;> omega
  clear hs hp
  go_enter Tryz.func55, Tryz.ntmps55
  go_wp2_with fail
  refine wp_named fun W hW => ?_
  have b6 : Box W w.heap.size 25 #[.bool false, .slice none 0 0] := by rw [hW]; exact (by repeat (first | with_reducible assumption | with_reducible exact Box.new _ _ _ | (with_reducible refine Box.new_at _ _ _ ?_; (simp only [wsz]; done)) | with_reducible refine Box.drewN ?_ _ | with_reducible refine Box.drew ?_ | with_reducible refine Box.alloc ?_ _ | with_reducible apply Box.drewN | with_reducible apply Box.drew | with_reducible apply Box.alloc | with_reducible refine Box.set_ ?_ _ _ | (with_reducible refine Box.far ?_ ?_ _; rotate_left; (simp only [ne_eq]; omega)) | (with_reducible refine Box.ext ?_ (by with_reducible assumption)) | (refine Box.new_at _ _ _ ?_; simp only [wsz]; done)))
  have hE : Ext w W := by rw [hW]; exact (by repeat (first | with_reducible assumption | with_reducible exact Ext.refl _ | with_reducible refine Ext.drewN ?_ _ | with_reducible refine Ext.drew ?_ | with_reducible refine Ext.alloc ?_ _ | (with_reducible refine Ext.setCell ?_ ?_ _; rotate_left; (first | exact Nat.le_refl _ | (dsimp only; omega) | (simp only [wsz]; omega))) | (with_reducible refine Ext.trans ?_ (by with_reducible assumption))))
  have hWs : W.heap.size = w.heap.size + 1 := by rw [hW]; simp only [wsz]
  clear hW
  go_loopw [14] (fun iv wr => ∃ k : Nat, k ≤ l.length ∧ iv = .int .i64 k ∧ fndV s step (l.take k) = none ∧ Ext W wr) (fun iv _ => l.length - (intOf iv).toNat)
  case atStart => exact ⟨0, Nat.zero_le _, rfl, rfl, Ext.refl _⟩
  case round =>
    rename World => wo
    obtain ⟨k, hk, rfl, hno, hx⟩ := hrel
    have HNo := Lib.hid hno
    clear hno
    by_cases hlt : k < l.length
    · obtain ⟨b, o, B', d', rfl, hX, q0, q1, hN2⟩ := (hl.ext (hE.trans hx)).at_ hlt
      have hbw := World.block_lt_of_cell? _ _ q0
      have kl : (k : Int) < (l.length : Int) := by omega
      have hza := hLl _ (zth_mem hlt)
      have hfs := Lib.hid (fndV_step (step := step) (s := s) hlt HNo.out)
      have hlb := hN2.lb
      obtain ⟨z, hz⟩ : ∃ z, z = zth l k := ⟨_, rfl⟩
      rw [← hz] at q0 q1 hN2 hza hfs hlb
      clear hz
      go_wp2_with fail
      refine (hpc _ ((hE.trans hx).trans (by repeat (first | with_reducible assumption | with_reducible exact Ext.refl _ | with_reducible refine Ext.drewN ?_ _ | with_reducible refine Ext.drew ?_ | with_reducible refine Ext.alloc ?_ _ | (with_reducible refine Ext.setCell ?_ ?_ _; rotate_left; (first | exact Nat.le_refl _ | (dsimp only; omega) | (simp only [wsz]; omega))) | (with_reducible refine Ext.trans ?_ (by with_reducible assumption)))))).mono ?_
      rintro e w1 ⟨rfl, hx1⟩
      (have b9 := Box.ext (g := wo.heap.size) (by repeat (first | with_reducible assumption | with_reducible exact Box.new _ _ _ | (with_reducible refine Box.new_at _ _ _ ?_; (simp only [wsz]; done)) | with_reducible refine Box.drewN ?_ _ | with_reducible refine Box.drew ?_ | with_reducible refine Box.alloc ?_ _ | with_reducible apply Box.drewN | with_reducible apply Box.drew | with_reducible apply Box.alloc | with_reducible refine Box.set_ ?_ _ _ | (with_reducible refine Box.far ?_ ?_ _; rotate_left; (simp only [ne_eq]; omega)) | (with_reducible refine Box.ext ?_ (by with_reducible assumption)) | (refine Box.new_at _ _ _ ?_; simp only [wsz]; done))) hx1; have b9r := b9.rules; have b9l := b9.lt)
      have hxw1 : Ext wo w1 := (by repeat (first | with_reducible assumption | with_reducible exact Ext.refl _ | with_reducible refine Ext.drewN ?_ _ | with_reducible refine Ext.drew ?_ | with_reducible refine Ext.alloc ?_ _ | (with_reducible refine Ext.setCell ?_ ?_ _; rotate_left; (first | exact Nat.le_refl _ | (dsimp only; omega) | (simp only [wsz]; omega))) | (with_reducible refine Ext.trans ?_ (by with_reducible assumption))))
      clear b9r
      have hHas := fun (U : World) (hU : Ext wo U) (i : Nat) (hi : i < p) (r : Value) (h : Zi U (fun _ => True) r (cz (z.v + step * (i : Nat)))) => (by
        have h1 := hsl i (by omega)
        have h2 := zl_word (x := step * (i : Nat)) (by rcases hst with rfl | rfl <;> omega)
        have h3 := zl_of hlb
        have h4 := zl_add (k := Nat.max z.mag.length 2) (Nat.le_trans h3 (Nat.le_max_left _ _)) (Nat.le_trans h2 (Nat.le_max_right _ _))
        have h5 : Nat.max z.mag.length 2 ≤ 1099511627774 := Nat.max_le.2 ⟨hza, by omega⟩
        have := hhas U ((hE.trans hx).trans hU) r _ _ (by rw [cz_len]; omega) h
        rw [cz_v] at this
        exact this : Calls Tryz.prog 18 #[.pointer (some ⟨g, 0, none⟩), r] U fun e w' => e = .returned (.bool (s.has (z.v + step * (i : Nat)))) ∧ Ext U w')
      have hPl := fun (U : World) (hU : Ext wo U) (i : Nat) (hi : i < p) => plus_c (w := U) (x := z) (X := fun _ => True) ⟨B', d', rfl, (hN2.ext hU).widen fun _ _ _ => trivial⟩ (by omega) (step * (i : Nat)) (hsl i (by omega)).1 (hsl i (by omega)).2
      have HPl := Lib.hid hPl; have HHas := Lib.hid hHas; have HST := Lib.hid hst
      clear hPl hHas hst hhas hpc
      go_wp2_with fail
      go_loopw [20] (fun iv wr2 => ∃ i : Nat, i ≤ p ∧ iv = .int .i64 i ∧ Hid (fatK s step z.v i = none) ∧ Ext w1 wr2) (fun iv _ => p - (intOf iv).toNat)
      case atStart => exact ⟨0, Nat.zero_le _, rfl, Lib.hid rfl, Ext.refl _⟩
      case round =>
        obtain ⟨i, hi, rfl, hni, hx2⟩ := hrel
        have d9 := b9.ext hx2
        have d9r := d9.rules; have d9l := d9.lt
        have hxr := hxw1.trans hx2
        have hsx := hxr.size
        by_cases hip : i < p
        · have il : (i : Int) < (p : Int) := by omega
          have hw := w64 (n := step * (i : Int)) (hsl i (by omega))
          have hnx := Lib.hid (fatK_step s step z.v i hni.out)
          have hc1 := fun (U : World) (hU : Ext wo U) => HPl.out U hU i hip
          have hc2 := fun (U : World) (hU : Ext wo U) => HHas.out U hU i hip
          obtain ⟨x, hxx⟩ : ∃ x, x = z.v + step * (i : Nat) := ⟨_, rfl⟩
          rw [← hxx] at hnx
          simp only [← hxx] at hc1 hc2
          obtain ⟨hb, hhb⟩ : ∃ hb, hb = s.has x := ⟨_, rfl⟩
          rw [← hhb] at hnx
          simp only [← hhb] at hc2
          clear hhb
          have HX := Lib.hid hxx
          clear hxx
          have Hcz := Lib.hid (cz_v x)
          obtain ⟨zx, hzx⟩ : ∃ zx, zx = cz x := ⟨_, rfl⟩
          simp only [← hzx] at hc1 hc2
          have HZX := Lib.hid hzx
          clear hzx
          go_wp2_with fail
          refine (hc1 _ (hxr.trans (by repeat (first | with_reducible assumption | with_reducible exact Ext.refl _ | with_reducible refine Ext.drewN ?_ _ | with_reducible refine Ext.drew ?_ | with_reducible refine Ext.alloc ?_ _ | (with_reducible refine Ext.setCell ?_ ?_ _; rotate_left; (first | exact Nat.le_refl _ | (dsimp only; omega) | (simp only [wsz]; omega))) | (with_reducible refine Ext.trans ?_ (by with_reducible assumption)))))).mono ?_
          rintro e w5 ⟨_, rfl, ⟨A5, c5, rfl, hr5⟩, hx5⟩
          have hx25 : Ext wr w5 := (by repeat (first | with_reducible assumption | with_reducible exact Ext.refl _ | with_reducible refine Ext.drewN ?_ _ | with_reducible refine Ext.drew ?_ | with_reducible refine Ext.alloc ?_ _ | (with_reducible refine Ext.setCell ?_ ?_ _; rotate_left; (first | exact Nat.le_refl _ | (dsimp only; omega) | (simp only [wsz]; omega))) | (with_reducible refine Ext.trans ?_ (by with_reducible assumption))))
          have hx5' : Ext wo w5 := hxr.trans hx25
          have hx15 : Ext w1 w5 := hx2.trans hx25
          have hh5 := fun (U : World) (hU : Ext w5 U) => hc2 U (hx5'.trans hU) _ ⟨A5, c5, rfl, (hr5.ext hU).widen fun _ _ _ => trivial⟩
          have hs5 := hx5'.size
          clear hc1 hc2
          go_wp2_with fail
          refine (hh5 _ (by repeat (first | with_reducible assumption | with_reducible exact Ext.refl _ | with_reducible refine Ext.drewN ?_ _ | with_reducible refine Ext.drew ?_ | with_reducible refine Ext.alloc ?_ _ | (with_reducible refine Ext.setCell ?_ ?_ _; rotate_left; (first | exact Nat.le_refl _ | (dsimp only; omega) | (simp only [wsz]; omega))) | (with_reducible refine Ext.trans ?_ (by with_reducible assumption))))).mono ?_
          rintro e w6 ⟨rfl, hx6⟩
          (have b11 := Box.ext (g := w5.heap.size) (by repeat (first | with_reducible assumption | with_reducible exact Box.new _ _ _ | (with_reducible refine Box.new_at _ _ _ ?_; (simp only [wsz]; done)) | with_reducible refine Box.drewN ?_ _ | with_reducible refine Box.drew ?_ | with_reducible refine Box.alloc ?_ _ | with_reducible apply Box.drewN | with_reducible apply Box.drew | with_reducible apply Box.alloc | with_reducible refine Box.set_ ?_ _ _ | (with_reducible refine Box.far ?_ ?_ _; rotate_left; (simp only [ne_eq]; omega)) | (with_reducible refine Box.ext ?_ (by with_reducible assumption)) | (refine Box.new_at _ _ _ ?_; simp only [wsz]; done))) hx6; have b11r := b11.rules; have b11l := b11.lt)
          have hx56 : Ext w5 w6 := (by repeat (first | with_reducible assumption | with_reducible exact Ext.refl _ | with_reducible refine Ext.drewN ?_ _ | with_reducible refine Ext.drew ?_ | with_reducible refine Ext.alloc ?_ _ | (with_reducible refine Ext.setCell ?_ ?_ _; rotate_left; (first | exact Nat.le_refl _ | (dsimp only; omega) | (simp only [wsz]; omega))) | (with_reducible refine Ext.trans ?_ (by with_reducible assumption))))
          have hx6' := hx5'.trans hx56
          have e6 := b6.ext (hx.trans hx6')
          have e6r := e6.rules; have e6l := e6.lt
          clear hh5 d9r
          cases hb
          · go_wp2_with fail
            go_roundw
            case rel => exact ⟨i + 1, by omega, by go_num, Lib.hid (by rw [hnx.out]; rfl), hx15.trans hx56⟩
            case measure => simp [intOf] <;> omega
          · go_wp2_with fail
            (refine bodyPost_ret (v := ?_) ?_ rfl ?_; rotate_left; (simp only [results, Tryz.results55]; go_simp; (first | done | with_reducible rfl)))
            have hF : fndV s step l = some x := fndV_some (k := k + 1) (by rw [hfs.out, ← HP.out]; exact fatK_some (k := i + 1) (by omega) (by rw [hnx.out]; rfl))
            have hF2 : cz ((fndV s step l).getD 0) = zx := by rw [hF, HZX.out]; rfl
            have hsW := (hE.trans hx).size
            refine ⟨_, by rw [hF]; rfl, ?_, (((hE.trans hx).trans hx6').setCell (by dsimp only; omega) _).setCell (by dsimp only; omega) _⟩
            rw [hF2]
            exact ⟨A5, c5, rfl, ((hr5.ext hx56).keep (by repeat (first | with_reducible exact Kp.refl _ | with_reducible refine Kp.drewN ?_ _ | with_reducible refine Kp.drew ?_ | with_reducible refine Kp.alloc ?_ _ | (with_reducible refine Kp.setCell ?_ ?_ _; rotate_left; (first | (dsimp only; omega) | (simp only [wsz]; omega))) | (with_reducible exact Kp.of_ext (by with_reducible assumption)) | (with_reducible refine Kp.ext ?_ (by with_reducible assumption))))).widen (fun b hb _ => by first | omega | (dsimp only at hb ⊢; omega) | (dsimp only at hb; omega) | (simp only [wsz] at hb ⊢; omega) | (simp only [wsz] at hb; omega))⟩
        · obtain rfl : i = p := by omega
          have hn := hni.out
          go_wp2_with fail
          go_roundw
          case rel => exact ⟨k + 1, by omega, by go_num, by rw [hfs.out, ← HP.out]; exact hn, hx.trans hxr⟩
          case measure => simp [intOf] <;> omega
    · obtain rfl : k = l.length := by omega
      have hn := HNo.out
      rw [List.take_length] at hn
      have HN := Lib.hid hn
      clear hn
      have c6 := b6.ext hx
      have c6r := c6.rules; have c6l := c6.lt
      have hsx := hx.size
      go_wp2_with fail
      (refine bodyPost_ret (v := ?_) ?_ rfl ?_; rotate_left; (simp only [results, Tryz.results55]; go_simp; (first | done | with_reducible rfl)))
      have hF : fndV s step l = none := HN.out
      rw [hF]
      exact ⟨_, rfl, ⟨none, 0, rfl, Sl.nil0 _ _ _⟩, ((hE.trans hx).setCell (by dsimp only; omega) _).setCell (by dsimp only; omega) _⟩

end Go.Proofs.YtbblgjjomgipfaaGreat
