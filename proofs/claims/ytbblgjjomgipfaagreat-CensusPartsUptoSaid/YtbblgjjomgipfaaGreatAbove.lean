/- periods: Above. No conditions. -/
import Derived.Test.YtbblgjjomgipfaaGreatCuts
namespace Go.Proofs.YtbblgjjomgipfaaGreat
open Go.RowKit Go.Shelf

/-- A row of its own. -/
def phiRow (b : Nat) (r : List Bool) : PhiT := ⟨fun v w => ∃ A c, v = .slice A r.length c ∧ Rl w (b ≤ ·) A c r, fun _ _ _ hx ⟨A, c, h1, h2⟩ => ⟨A, c, h1, Sl.keep h2 (.of_ext hx)⟩⟩
def phiRows (b : Nat) (l : List (List Bool)) : PhiT := ⟨fun v w => ∃ A c, v = .slice A l.length c ∧ Rs w (b ≤ ·) A c l, fun _ _ _ hx ⟨A, c, h1, h2⟩ => ⟨A, c, h1, Sl.keep h2 (.of_ext hx)⟩⟩
def phiZs (b : Nat) (l : List Z) : PhiT := ⟨fun v w => ∃ A c, v = .slice A l.length c ∧ Zs w (b ≤ ·) A c l, fun _ _ _ hx ⟨A, c, h1, h2⟩ => ⟨A, c, h1, Sl.keep h2 (.of_ext hx)⟩⟩
def phiStr (b : Nat) (s : Ps) : PhiT := ⟨fun v w => ∃ cA c rA d, v = .agg #[.int .i64 (s.per : Nat), .slice cA s.cuts.length c, .slice rA s.rows.length d] ∧ Zs w (b ≤ ·) cA c s.cuts ∧ Rs w (b ≤ ·) rA d s.rows,
  fun _ _ _ hx ⟨cA, c, rA, d, h1, h2, h3⟩ => ⟨cA, c, rA, d, h1, Sl.keep h2 (.of_ext hx), Sl.keep h3 (.of_ext hx)⟩⟩
def phiSet (b : Nat) (s : Ps) : PhiT := ⟨fun v w => ∃ g, v = .pointer (some ⟨g, 0, none⟩) ∧ SetV w (b ≤ ·) g s, fun _ _ _ hx ⟨g, h1, h2⟩ => ⟨g, h1, h2.ext hx⟩⟩

theorem Rl.one {w : World} {X : Nat → Prop} {g : Nat} {b : Bool} {t : TypeId} (hg : g = w.heap.size) (hX : X g) : Rl (w.alloc (.cells #[.bool b] t)) X (some ⟨g, 0, none⟩) 1 [b] :=
  Sl.of_flat (by simp) (by simp [maxLen]) (Thaw.new hg _ _) (Fl.one rfl rfl) fun _ => ⟨_, _, rfl, hX, fun j u hu => by
    rw [World.cell?_alloc_at (hn := hg)]
    match j, hu with
    | 0, hu => simpa using hu⟩
theorem Zs.one {w : World} {X : Nat → Prop} {g : Nat} {A : Option Addr} {c : Nat} {z : Z} {t : TypeId} (hg : g = w.heap.size) (hX : X g) (h : Nl w X A c z.mag) : Zs (w.alloc (.cells #[.bool z.neg, .slice A z.mag.length c] t)) X (some ⟨g, 0, none⟩) 1 [z] :=
  Sl.of_flat (by simp) (by simp [maxLen]) (Thaw.new hg _ _) (Fl.one ⟨A, c, rfl, h.keep ((Kp.refl w).alloc _)⟩ rfl) fun _ => ⟨_, _, rfl, hX, fun j u hu => by
    rw [World.cell?_alloc_at (hn := hg)]
    match j, hu with
    | 0, hu => simpa using hu
    | 1, hu => simpa using hu⟩
theorem Rs.two {w : World} {X : Nat → Prop} {g : Nat} {A B : Option Addr} {c d : Nat} {q r : List Bool} {t : TypeId} (hg : g = w.heap.size) (hX : X g) (h : Rl w X A c q) (h' : Rl w X B d r) : Rs (w.alloc (.cells #[.slice A q.length c, .slice B r.length d] t)) X (some ⟨g, 0, none⟩) 2 [q, r] :=
  Sl.of_flat (by simp) (by simp [maxLen]) (Thaw.new hg _ _) (Fl.append (xs := [.slice A q.length c]) (ys := [.slice B r.length d]) (l := [q]) (m := [r]) (Fl.one ⟨A, c, rfl, Sl.keep h ((Kp.refl w).alloc _)⟩ rfl) (Fl.one ⟨B, d, rfl, Sl.keep h' ((Kp.refl w).alloc _)⟩ rfl)) fun _ => ⟨_, _, rfl, hX, fun j u hu => by
    rw [World.cell?_alloc_at (hn := hg)]
    match j, hu with
    | 0, hu => simpa using hu
    | 1, hu => simpa using hu⟩

set_option maxRecDepth 100000 in
set_option maxHeartbeats 1600000 in
theorem above_c {v : Value} {z : Z} {w : World} {X : Nat → Prop} (h : Zi w X v z) (hL : z.mag.length ≤ 1099511627775) :
    Calls Tryz.prog 35 #[v] w fun e w' => ∃ g, e = .returned (.pointer (some ⟨g, 0, none⟩)) ∧ SetV w' (w.heap.size ≤ ·) g ⟨1, [cz (z.v + 1)], [[false], [true]]⟩ ∧ Ext w w' := by
  have hz := h
  obtain ⟨zz, hzz⟩ : ∃ zz, zz = cz (z.v + 1) := ⟨_, rfl⟩
  have hadd := fun (V : World) (v1 : Value) (Y : Nat → Prop) (hV : Ext w V) (h1 : Zi V Y v1 (cz 1)) => zadd_c (hz.ext hV) h1 (by omega) (by rw [cz_len]; have := zl_word (x := 1) (by omega); omega)
  rw [cz_v, ← hzz] at hadd
  rw [← hzz]
  clear hzz
  obtain ⟨A, c, rfl, h⟩ := h
  go_enter Tryz.func35, Tryz.ntmps35
  go_wp2_with fail
  refine wp_named fun W hW => ?_
  have b2 : Box W w.heap.size 25 #[.bool z.neg, .slice A z.mag.length c] := by rw [hW]; exact (by repeat (first | with_reducible assumption | with_reducible exact Box.new _ _ _ | (with_reducible refine Box.new_at _ _ _ ?_; (simp only [wsz]; done)) | with_reducible refine Box.drewN ?_ _ | with_reducible refine Box.drew ?_ | with_reducible refine Box.alloc ?_ _ | with_reducible apply Box.drewN | with_reducible apply Box.drew | with_reducible apply Box.alloc | with_reducible refine Box.set_ ?_ _ _ | (with_reducible refine Box.far ?_ ?_ _; rotate_left; (simp only [ne_eq]; omega)) | (with_reducible refine Box.ext ?_ (by with_reducible assumption)) | (refine Box.new_at _ _ _ ?_; simp only [wsz]; done)))
  have hE : Ext w W := by rw [hW]; exact (by repeat (first | with_reducible assumption | with_reducible exact Ext.refl _ | with_reducible refine Ext.drewN ?_ _ | with_reducible refine Ext.drew ?_ | with_reducible refine Ext.alloc ?_ _ | (with_reducible refine Ext.setCell ?_ ?_ _; rotate_left; (first | exact Nat.le_refl _ | (dsimp only; omega) | (simp only [wsz]; omega))) | (with_reducible refine Ext.trans ?_ (by with_reducible assumption))))
  clear hW
  have b2l := b2.lt
  have hcb : W.cell? ⟨w.heap.size, 0, none⟩ = some (.bool z.neg) := by rw [b2.cell]; rfl
  have hcb1 : W.cell? ⟨w.heap.size, 1, none⟩ = some (.slice A z.mag.length c) := by rw [b2.cell]; rfl
  refine wp_region_free [(0, 3, []), (1, 4, []), (2, 5, [(0, 3), (1, 4)]), (3, 6, [(2, 5)]), (4, 7, []), (5, 8, []), (6, 9, [(4, 7), (5, 8)]), (7, 10, [(3, 6), (6, 9)]), (8, 11, [(7, 10)])] [9] [3, 4, 5, 6, 7, 8, 9, 10, 11] [] [] [phiEq (.agg #[.bool z.neg, .slice A z.mag.length c]), phiZ (w.heap.size ≤ ·) (cz 1), phiZ (w.heap.size ≤ ·) (zz), phiZs w.heap.size [zz], phiRow w.heap.size [false], phiRow w.heap.size [true], phiRows w.heap.size [[false], [true]],
    phiStr w.heap.size ⟨1, [zz], [[false], [true]]⟩, phiSet w.heap.size ⟨1, [zz], [[false], [true]]⟩] rfl (by kernel_rfl) (by intro _ _ d _ _ h; cases d <;> exact h) (by kernel_rfl) (by kernel_rfl) ?_ ?_
  · (refine ps_eq rfl rfl rfl rfl rfl rfl ?_ ?_; focus (intro f w1 hx hd; have hc' := hx.cells.1; (try simp only [wcd] at hc'); (dsimp only [PhiDeps, phiAt, phiEq, phiZ, phiAny, phiBox] at hd); (simp only [fillA]; (try simp only [Act.put, List.setIfInBounds_toArray, List.set_cons_zero, List.set_cons_succ])); (try simp only [hd]); go_simp; (first | done | with_reducible rfl)))
    (refine ps_loud rfl rfl rfl rfl rfl (fun f w1 hx hd K hK => ?_) ?_)
    · (have hc' := hx.cells.1; (try simp only [wcd] at hc'); (dsimp only [PhiDeps, phiAt, phiEq, phiZ, phiAny, phiBox] at hd); simp only [fillA, Act.put, List.setIfInBounds_toArray, List.set_cons_zero, List.set_cons_succ] at hK; (simp only [fillA]; (try simp only [Act.put, List.setIfInBounds_toArray, List.set_cons_zero, List.set_cons_succ])); (try simp only [hd] at hK ⊢); go_simp)
      refine (zof_c 1 (by omega) (by omega) _).mono ?_
      rintro e w2 ⟨r, rfl, hr, hx2⟩
      (refine hK _ _ (by repeat (first | with_reducible assumption | with_reducible exact Ext.refl _ | with_reducible refine Ext.drewN ?_ _ | with_reducible refine Ext.drew ?_ | with_reducible refine Ext.alloc ?_ _ | (with_reducible refine Ext.setCell ?_ ?_ _; rotate_left; (first | exact Nat.le_refl _ | (dsimp only; omega) | (simp only [wsz]; omega))) | (with_reducible refine Ext.trans ?_ (by with_reducible assumption)))) ?_; dsimp only [phiAt, phiEq, phiZ, phiAny, phiBox])
      have := (hE.trans (Ext.trans (Ext.refl W).drew hx)).size
      exact hr.widen fun b hb _ => by omega
    (refine ps_loud rfl rfl rfl rfl rfl (fun f w1 hx hd K hK => ?_) ?_)
    · (have hc' := hx.cells.1; (try simp only [wcd] at hc'); simp only [fillA, Act.put, List.setIfInBounds_toArray, List.set_cons_zero, List.set_cons_succ] at hK; (simp only [fillA]; (try simp only [Act.put, List.setIfInBounds_toArray, List.set_cons_zero, List.set_cons_succ])); (dsimp only [PhiDeps, PhiAll, phiAt, phiEq, phiZ, phiAny, phiBox, phiRow, phiRows, phiZs, phiStr, phiSet] at hd))
      have h3 := hd.1
      have h4 := hd.2.1
      ((try simp only [h3] at hK ⊢); go_simp)
      refine (hadd _ _ _ (hE.trans (by repeat (first | with_reducible assumption | with_reducible exact Ext.refl _ | with_reducible refine Ext.drewN ?_ _ | with_reducible refine Ext.drew ?_ | with_reducible refine Ext.alloc ?_ _ | (with_reducible refine Ext.setCell ?_ ?_ _; rotate_left; (first | exact Nat.le_refl _ | (dsimp only; omega) | (simp only [wsz]; omega))) | (with_reducible refine Ext.trans ?_ (by with_reducible assumption))))) h4).mono ?_
      rintro e w2 ⟨r, rfl, hr, hx2⟩
      (refine hK _ _ (by repeat (first | with_reducible assumption | with_reducible exact Ext.refl _ | with_reducible refine Ext.drewN ?_ _ | with_reducible refine Ext.drew ?_ | with_reducible refine Ext.alloc ?_ _ | (with_reducible refine Ext.setCell ?_ ?_ _; rotate_left; (first | exact Nat.le_refl _ | (dsimp only; omega) | (simp only [wsz]; omega))) | (with_reducible refine Ext.trans ?_ (by with_reducible assumption)))) ?_; dsimp only [PhiDeps, PhiAll, phiAt, phiEq, phiZ, phiAny, phiBox, phiRow, phiRows, phiZs, phiStr, phiSet])
      have := (hE.trans (Ext.trans (Ext.refl W).drew hx)).size
      exact hr.widen fun b hb _ => by omega
    (refine ps_loud rfl rfl rfl rfl rfl (fun f w1 hx hd K hK => ?_) ?_)
    · (have hc' := hx.cells.1; (try simp only [wcd] at hc'); simp only [fillA, Act.put, List.setIfInBounds_toArray, List.set_cons_zero, List.set_cons_succ] at hK; (simp only [fillA]; (try simp only [Act.put, List.setIfInBounds_toArray, List.set_cons_zero, List.set_cons_succ])); (dsimp only [PhiDeps, PhiAll, phiAt, phiEq, phiZ, phiAny, phiBox, phiRow, phiRows, phiZs, phiStr, phiSet] at hd))
      obtain ⟨A4, c4, e4, h4⟩ := hd.1
      ((try simp only [e4] at hK ⊢); go_simp)
      have := (hE.trans (Ext.trans (Ext.refl W).drew hx)).size
      (refine hK _ _ (by repeat (first | with_reducible assumption | with_reducible exact Ext.refl _ | with_reducible refine Ext.drewN ?_ _ | with_reducible refine Ext.drew ?_ | with_reducible refine Ext.alloc ?_ _ | (with_reducible refine Ext.setCell ?_ ?_ _; rotate_left; (first | exact Nat.le_refl _ | (dsimp only; omega) | (simp only [wsz]; omega))) | (with_reducible refine Ext.trans ?_ (by with_reducible assumption)))) ?_; dsimp only [PhiDeps, PhiAll, phiAt, phiEq, phiZ, phiAny, phiBox, phiRow, phiRows, phiZs, phiStr, phiSet])
      exact ⟨_, _, rfl, Zs.one rfl (by omega) h4⟩
    (refine ps_loud rfl rfl rfl rfl rfl (fun f w1 hx hd K hK => ?_) ?_)
    · (have hc' := hx.cells.1; (try simp only [wcd] at hc'); simp only [fillA, Act.put, List.setIfInBounds_toArray, List.set_cons_zero, List.set_cons_succ] at hK; (simp only [fillA]; (try simp only [Act.put, List.setIfInBounds_toArray, List.set_cons_zero, List.set_cons_succ])); (dsimp only [PhiDeps, PhiAll, phiAt, phiEq, phiZ, phiAny, phiBox, phiRow, phiRows, phiZs, phiStr, phiSet] at hd))
      ((try simp only [wsz] at hK ⊢); go_simp)
      have := (hE.trans (Ext.trans (Ext.refl W).drew hx)).size
      (refine hK _ _ (by repeat (first | with_reducible assumption | with_reducible exact Ext.refl _ | with_reducible refine Ext.drewN ?_ _ | with_reducible refine Ext.drew ?_ | with_reducible refine Ext.alloc ?_ _ | (with_reducible refine Ext.setCell ?_ ?_ _; rotate_left; (first | exact Nat.le_refl _ | (dsimp only; omega) | (simp only [wsz]; omega))) | (with_reducible refine Ext.trans ?_ (by with_reducible assumption)))) ?_; dsimp only [PhiDeps, PhiAll, phiAt, phiEq, phiZ, phiAny, phiBox, phiRow, phiRows, phiZs, phiStr, phiSet])
      exact ⟨_, _, rfl, Rl.one rfl (by omega)⟩
    (refine ps_loud rfl rfl rfl rfl rfl (fun f w1 hx hd K hK => ?_) ?_)
    · (have hc' := hx.cells.1; (try simp only [wcd] at hc'); simp only [fillA, Act.put, List.setIfInBounds_toArray, List.set_cons_zero, List.set_cons_succ] at hK; (simp only [fillA]; (try simp only [Act.put, List.setIfInBounds_toArray, List.set_cons_zero, List.set_cons_succ])); (dsimp only [PhiDeps, PhiAll, phiAt, phiEq, phiZ, phiAny, phiBox, phiRow, phiRows, phiZs, phiStr, phiSet] at hd))
      ((try simp only [wsz] at hK ⊢); go_simp)
      have := (hE.trans (Ext.trans (Ext.refl W).drew hx)).size
      (refine hK _ _ (by repeat (first | with_reducible assumption | with_reducible exact Ext.refl _ | with_reducible refine Ext.drewN ?_ _ | with_reducible refine Ext.drew ?_ | with_reducible refine Ext.alloc ?_ _ | (with_reducible refine Ext.setCell ?_ ?_ _; rotate_left; (first | exact Nat.le_refl _ | (dsimp only; omega) | (simp only [wsz]; omega))) | (with_reducible refine Ext.trans ?_ (by with_reducible assumption)))) ?_; dsimp only [PhiDeps, PhiAll, phiAt, phiEq, phiZ, phiAny, phiBox, phiRow, phiRows, phiZs, phiStr, phiSet])
      exact ⟨_, _, rfl, Rl.one rfl (by omega)⟩
    (refine ps_loud rfl rfl rfl rfl rfl (fun f w1 hx hd K hK => ?_) ?_)
    · (have hc' := hx.cells.1; (try simp only [wcd] at hc'); simp only [fillA, Act.put, List.setIfInBounds_toArray, List.set_cons_zero, List.set_cons_succ] at hK; (simp only [fillA]; (try simp only [Act.put, List.setIfInBounds_toArray, List.set_cons_zero, List.set_cons_succ])); (dsimp only [PhiDeps, PhiAll, phiAt, phiEq, phiZ, phiAny, phiBox, phiRow, phiRows, phiZs, phiStr, phiSet] at hd))
      obtain ⟨A7, c7, e7, h7⟩ := hd.1
      obtain ⟨A8, c8, e8, h8⟩ := hd.2.1
      ((try simp only [e7, e8] at hK ⊢); go_simp)
      have := (hE.trans (Ext.trans (Ext.refl W).drew hx)).size
      (refine hK _ _ (by repeat (first | with_reducible assumption | with_reducible exact Ext.refl _ | with_reducible refine Ext.drewN ?_ _ | with_reducible refine Ext.drew ?_ | with_reducible refine Ext.alloc ?_ _ | (with_reducible refine Ext.setCell ?_ ?_ _; rotate_left; (first | exact Nat.le_refl _ | (dsimp only; omega) | (simp only [wsz]; omega))) | (with_reducible refine Ext.trans ?_ (by with_reducible assumption)))) ?_; dsimp only [PhiDeps, PhiAll, phiAt, phiEq, phiZ, phiAny, phiBox, phiRow, phiRows, phiZs, phiStr, phiSet])
      exact ⟨_, _, rfl, Rs.two rfl (by omega) h7 h8⟩
    refine ps_take rfl rfl rfl rfl rfl ?_ ?_
    · intro f w1 hx hd
      (dsimp only [PhiDeps, PhiAll, phiAt, phiEq, phiZ, phiAny, phiBox, phiRow, phiRows, phiZs, phiStr, phiSet] at hd)
      obtain ⟨A6, c6, e6, h6⟩ := hd.1
      obtain ⟨A9, c9, e9, h9⟩ := hd.2.1
      refine ⟨.agg #[.int .i64 1, .slice A6 1 c6, .slice A9 2 c9], ?_, ⟨A6, c6, A9, c9, rfl, h6, h9⟩⟩
      (simp only [fillA]; (try simp only [Act.put, List.setIfInBounds_toArray, List.set_cons_zero, List.set_cons_succ]))
      simp only [e6, e9]
      go_simp
    (refine ps_loud rfl rfl rfl rfl rfl (fun f w1 hx hd K hK => ?_) ?_)
    · (have hc' := hx.cells.1; (try simp only [wcd] at hc'); simp only [fillA, Act.put, List.setIfInBounds_toArray, List.set_cons_zero, List.set_cons_succ] at hK; (simp only [fillA]; (try simp only [Act.put, List.setIfInBounds_toArray, List.set_cons_zero, List.set_cons_succ])); (dsimp only [PhiDeps, PhiAll, phiAt, phiEq, phiZ, phiAny, phiBox, phiRow, phiRows, phiZs, phiStr, phiSet] at hd))
      obtain ⟨A6, c6, A9, c9, e, h6, h9⟩ := hd.1
      ((try simp only [e] at hK ⊢); go_simp)
      have := (hE.trans (Ext.trans (Ext.refl W).drew hx)).size
      (refine hK _ _ (by repeat (first | with_reducible assumption | with_reducible exact Ext.refl _ | with_reducible refine Ext.drewN ?_ _ | with_reducible refine Ext.drew ?_ | with_reducible refine Ext.alloc ?_ _ | (with_reducible refine Ext.setCell ?_ ?_ _; rotate_left; (first | exact Nat.le_refl _ | (dsimp only; omega) | (simp only [wsz]; omega))) | (with_reducible refine Ext.trans ?_ (by with_reducible assumption)))) ?_; dsimp only [PhiDeps, PhiAll, phiAt, phiEq, phiZ, phiAny, phiBox, phiRow, phiRows, phiZs, phiStr, phiSet])
      exact ⟨_, rfl, A6, c6, A9, c9, Box.new _ _ _, by omega, Sl.keep h6 ((Kp.refl _).alloc _), Sl.keep h9 ((Kp.refl _).alloc _)⟩
    exact ps_nil
  · intro f w1 hx hall hne
    (dsimp only [PhiDeps, PhiAll, phiAt, phiEq, phiZ, phiAny, phiBox, phiRow, phiRows, phiZs, phiStr, phiSet] at hall)
    obtain ⟨-, -, -, -, -, -, -, -, ⟨g, eg, hS⟩, -⟩ := hall
    (simp only [fillA]; (try simp only [Act.put, List.setIfInBounds_toArray, List.set_cons_zero, List.set_cons_succ]))
    simp only [eg]
    (refine sh_late rfl rfl fun K hK => ?_; go_simp; refine hK _ _ ?_; clear hK K)
    refine sh_end ?_
    go_wp2_with fail
    go_ret
    exact ⟨g, rfl, hS, hE.trans (Ext.trans (Ext.refl W).drew hx)⟩

end Go.Proofs.YtbblgjjomgipfaaGreat
