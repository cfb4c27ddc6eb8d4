/- riddleref05.Scale, Sub. No conditions. -/
import Derived.Test.YtbblgjjomgipfaaRA
namespace Go.Proofs.Ytbblgjjomgipfaa
open Go.RowKit Go.Shelf

section
variable {ops : Array Oper} {Q : Exit → Act → World → Prop}
/-- append(l, Part{..}), among the last operations of a region that draws its order. -/
theorem sh_appp1 {i : Nat} {r : List Nat} {w : World} {o : Oper} {a : Act} (s x : Operand) {Zp : Nat → Prop} {base : Nat} {v : Value} {l : List (Int × Z)} {p : Int} {z : Z} {A : Option Addr} {c : Nat}
    (h : Own 3 EP w Zp base 69 v l) (hi : i64 p) (hN : Nl w (fun b => Zp b ∧ v.ownBlock ≠ some b) A c z.mag) (hl : l.length ≤ 2199023255552) (hbase : base ≤ w.heap.size)
    (hop : opAt ops.toList i = some o) (hgd : o.guard = none) (ho : o.op = .call { callee := .builtin .append, args := #[s, x], argTypes := #[22, 22] }) (hs : a.eval s = v) (hx : a.eval x = .slice (some ⟨w.heap.size, 0, none⟩) 1 1)
    (H : ∀ v' w', Own 3 EP w' Zp base 69 v' (l ++ [(p, z)]) → (w.alloc (.cells #[.int .i64 p, .bool z.neg, .slice A z.mag.length c] 69)).grownBy w' v.ownBlock →
      (v'.ownBlock = v.ownBlock ∨ v'.ownBlock = some (w.heap.size + 1)) → LateW Try.prog ops Q r (a.put o.dst v') w') :
    LateW Try.prog ops Q (i :: r) a (w.alloc (.cells #[.int .i64 p, .bool z.neg, .slice A z.mag.length c] 69)) := by
  refine sh_late hop hgd fun K hK => ?_
  obtain ⟨v', w', hrun, h5, h6, h7⟩ := run_app (m := [(p, z)]) (P := Try.prog) (ty := o.type) (A := some ⟨w.heap.size, 0, none⟩) (c := 1) ety_p (Own.ext h ((Ext.refl w).alloc (.cells #[.int .i64 p, .bool z.neg, .slice A z.mag.length c] 69))) (Fl.one (cs := [.int .i64 p, .bool z.neg, .slice A z.mag.length c]) ⟨A, c, rfl, hi, hN.ext ((Ext.refl w).alloc _)⟩ rfl) (fun _ => ⟨_, _, rfl, fun j u hu => by
    rw [World.cell?_alloc_at (hn := rfl)]
    match j, hu with
    | 0, hu => simpa using hu
    | 1, hu => simpa using hu
    | 2, hu => simpa using hu⟩) (by simp only [List.length_cons, List.length_nil]; omega) (by simp only [List.length_cons, List.length_nil, maxLen]; omega) (by simp only [World.size_alloc]; omega)
  unfold Oper.wp execOp
  simp only [List.length_cons, List.length_nil, Nat.zero_add] at hrun
  simp only [ho, resolve, invoke, builtin, Sem.run_bind, Sem.run_pure, Result.andThen_ok, List.map_toArray, List.map_cons, List.map_nil, hs, hx, hrun]
  exact hK _ _ (H v' w' h5 h6 (by simpa using h7))
end

/-- So many times, part by part. -/
def scz (k : Z) (ps : List (Int × Z)) : List (Int × Z) := ps.map fun p => (p.1, cz (k.v * p.2.v))
theorem vl_scz (k : Z) (ps : List (Int × Z)) : vl (scz k ps) = sc k.v (vl ps) := by
  simp only [vl, scz, sc, List.map_map]
  apply List.map_congr_left
  intro p _
  simp [Function.comp, cz_v]
theorem scz_len (k : Z) (ps : List (Int × Z)) : (scz k ps).length = ps.length := by simp [scz]
theorem scz_step (z : Z) {ps : List (Int × Z)} {k : Nat} (h : k < ps.length) : scz z (ps.take (k + 1)) = scz z (ps.take k) ++ [((pth ps k).1, cz (z.v * (pth ps k).2.v))] := by
  rw [take_pth ps k h]
  simp [scz]
theorem nf_scz (k : Z) (t : T) : (⟨scz k t.ps, cz (k.v * t.k.v)⟩ : T).nf = ct (sc k.v (vl t.ps)) (k.v * t.k.v) := by
  show ct (vl (scz k t.ps)) (cz (k.v * t.k.v)).v = _
  rw [vl_scz, cz_v]

set_option maxHeartbeats 1600000 in
theorem rscale5_c {u v : Value} {kz : Z} {t : T} {w : World} {X Y : Nat → Prop} {N : Nat} (hk : Zi w X u kz) (h : Tv w Y v t) (hN : N ≤ 4294967296) (sk : kz.mag.length ≤ N) (hs : t.sz N) :
    Calls Try.prog 37 #[u, v] w fun e w' => ∃ r, e = .returned r ∧ Tv w' (w.heap.size ≤ ·) r (ct (sc kz.v (vl t.ps)) (kz.v * t.k.v)) ∧ Ext w w' := by
  have lk := hk.lb; have lt := h.lb
  obtain ⟨s1, s2, s3⟩ := hs
  have hzl := zl_vl lt.1 s2
  obtain ⟨KA, kc, rfl, hk⟩ := hk
  obtain ⟨A, c, B, d, rfl, h1, h2⟩ := h
  go_enter Try.func37, Try.ntmps37
  go_wp2_with fail
  refine wp_named fun W hW => ?_
  have b2 : Box W w.heap.size 25 #[.bool kz.neg, .slice KA kz.mag.length kc] := by rw [hW]; exact (by repeat (first | with_reducible assumption | with_reducible exact Box.new _ _ _ | (with_reducible refine Box.new_at _ _ _ ?_; (simp only [wsz]; done)) | with_reducible refine Box.drewN ?_ _ | with_reducible refine Box.drew ?_ | with_reducible refine Box.alloc ?_ _ | with_reducible apply Box.drewN | with_reducible apply Box.drew | with_reducible apply Box.alloc | with_reducible refine Box.set_ ?_ _ _ | (with_reducible refine Box.far ?_ ?_ _; rotate_left; (simp only [ne_eq]; omega)) | (with_reducible refine Box.ext ?_ (by with_reducible assumption)) | (refine Box.new_at _ _ _ ?_; simp only [wsz]; done)))
  have b3 : Box W (w.heap.size + 1) 27 #[.slice A t.ps.length c, .bool t.k.neg, .slice B t.k.mag.length d] := by rw [hW]; exact (by repeat (first | with_reducible assumption | with_reducible exact Box.new _ _ _ | (with_reducible refine Box.new_at _ _ _ ?_; (simp only [wsz]; done)) | with_reducible refine Box.drewN ?_ _ | with_reducible refine Box.drew ?_ | with_reducible refine Box.alloc ?_ _ | with_reducible apply Box.drewN | with_reducible apply Box.drew | with_reducible apply Box.alloc | with_reducible refine Box.set_ ?_ _ _ | (with_reducible refine Box.far ?_ ?_ _; rotate_left; (simp only [ne_eq]; omega)) | (with_reducible refine Box.ext ?_ (by with_reducible assumption)) | (refine Box.new_at _ _ _ ?_; simp only [wsz]; done)))
  have b4 : Box W (w.heap.size + 1 + 1) 27 #[.slice none 0 0, .bool false, .slice none 0 0] := by rw [hW]; exact (by repeat (first | with_reducible assumption | with_reducible exact Box.new _ _ _ | (with_reducible refine Box.new_at _ _ _ ?_; (simp only [wsz]; done)) | with_reducible refine Box.drewN ?_ _ | with_reducible refine Box.drew ?_ | with_reducible refine Box.alloc ?_ _ | with_reducible apply Box.drewN | with_reducible apply Box.drew | with_reducible apply Box.alloc | with_reducible refine Box.set_ ?_ _ _ | (with_reducible refine Box.far ?_ ?_ _; rotate_left; (simp only [ne_eq]; omega)) | (with_reducible refine Box.ext ?_ (by with_reducible assumption)) | (refine Box.new_at _ _ _ ?_; simp only [wsz]; done)))
  have hE : Ext w W := by rw [hW]; exact (by repeat (first | with_reducible assumption | with_reducible exact Ext.refl _ | with_reducible refine Ext.drewN ?_ _ | with_reducible refine Ext.drew ?_ | with_reducible refine Ext.alloc ?_ _ | (with_reducible refine Ext.setCell ?_ ?_ _; rotate_left; (first | exact Nat.le_refl _ | (dsimp only; omega) | (simp only [wsz]; omega))) | (with_reducible refine Ext.trans ?_ (by with_reducible assumption))))
  clear hW
  have hWl := b4.lt
  have h1b := h1.below
  go_loopw [5, 6] (fun lv iv wr => ∃ k : Nat, k ≤ t.ps.length ∧ iv = .int .i64 k ∧ Own 3 EP wr (W.heap.size ≤ ·) W.heap.size 69 lv (scz kz (t.ps.take k)) ∧ Ext W wr) (fun _ iv _ => t.ps.length - (intOf iv).toNat)
  case atStart => exact ⟨0, Nat.zero_le _, rfl, Own.nil _ _ _ _, Ext.refl _⟩
  case round =>
    obtain ⟨k, hkk, rfl, hO, hxr⟩ := hrel
    have q2 := b2.ext hxr; have q3 := b3.ext hxr; have q4 := b4.ext hxr
    have q2r := q2.rules; have q2l := q2.lt
    have q3r := q3.rules; have q3l := q3.lt
    have hxw := hE.trans hxr
    have hrow := hO.row
    obtain ⟨A0, c0, rfl, hP0⟩ := Own.sl hO (by omega) (X := fun _ => True) (fun _ _ => trivial)
    have hP0 : Pl wr (fun _ => True) A0 c0 (scz kz (t.ps.take k)) := hP0
    have hsl : (scz kz (t.ps.take k)).length = k := by rw [scz_len, List.length_take]; omega
    by_cases hlt : k < t.ps.length
    · obtain ⟨b, o, B', d', rfl, hX, hc0, hc1, hc2, hi, hN2⟩ := (h1b.ext hxw).at_ hlt
      have hb := World.block_lt_of_cell? _ _ hc0
      have kl : (k : Int) < (t.ps.length : Int) := by omega
      have hpz : (pth t.ps k).2.mag.length ≤ N := s2 _ (pth_mem hlt)
      go_wp2_with fail
      refine wp_region_late [(0, true), (1, true), (2, true), (3, true), (4, true), (5, true), (6, true), (7, true), (8, true), (9, true), (10, true), (11, true), (12, true), (13, true), (14, false), (15, true), (16, false)] [17, 18] rfl (by kernel_rfl) (by intro _ _ d _ _ h; cases d <;> exact h) ?_
      (repeat (refine sh_take (v := ?_) rfl rfl ?_ ?_; rotate_left; (intro w' hx'; have hc' := hx'.cells.1; (try simp only [wcd] at hc'); go_simp; (first | done | with_reducible rfl)); (try simp only [Act.put, List.setIfInBounds_toArray, List.set_cons_zero, List.set_cons_succ])))
      (refine sh_loud rfl rfl fun K hK => ?_; go_simp)
      refine (rmulz_c (x := kz) (y := (pth t.ps k).2) ⟨_, _, rfl, hk.ext (hxw.trans (by repeat (first | with_reducible assumption | with_reducible exact Ext.refl _ | with_reducible refine Ext.drewN ?_ _ | with_reducible refine Ext.drew ?_ | with_reducible refine Ext.alloc ?_ _ | (with_reducible refine Ext.setCell ?_ ?_ _; rotate_left; (first | exact Nat.le_refl _ | (dsimp only; omega) | (simp only [wsz]; omega))) | (with_reducible refine Ext.trans ?_ (by with_reducible assumption)))))⟩ ⟨_, _, rfl, hN2.ext (by repeat (first | with_reducible assumption | with_reducible exact Ext.refl _ | with_reducible refine Ext.drewN ?_ _ | with_reducible refine Ext.drew ?_ | with_reducible refine Ext.alloc ?_ _ | (with_reducible refine Ext.setCell ?_ ?_ _; rotate_left; (first | exact Nat.le_refl _ | (dsimp only; omega) | (simp only [wsz]; omega))) | (with_reducible refine Ext.trans ?_ (by with_reducible assumption))))⟩ (by omega) (by omega)).mono ?_
      rintro e w1 ⟨r, rfl, ⟨A4, c4, rfl, hN4⟩, hx1⟩
      (have hs1 := Ext.size hx1; (try simp only [wsz] at hs1))
      have hx2 : Ext wr w1 := (by repeat (first | with_reducible assumption | with_reducible exact Ext.refl _ | with_reducible refine Ext.drewN ?_ _ | with_reducible refine Ext.drew ?_ | with_reducible refine Ext.alloc ?_ _ | (with_reducible refine Ext.setCell ?_ ?_ _; rotate_left; (first | exact Nat.le_refl _ | (dsimp only; omega) | (simp only [wsz]; omega))) | (with_reducible refine Ext.trans ?_ (by with_reducible assumption))))
      (refine hK _ _ (by repeat (first | with_reducible assumption | with_reducible exact Ext.refl _ | with_reducible refine Ext.drewN ?_ _ | with_reducible refine Ext.drew ?_ | with_reducible refine Ext.alloc ?_ _ | (with_reducible refine Ext.setCell ?_ ?_ _; rotate_left; (first | exact Nat.le_refl _ | (dsimp only; omega) | (simp only [wsz]; omega))) | (with_reducible refine Ext.trans ?_ (by with_reducible assumption)))) ?_; clear hK K; (try simp only [Act.put, List.setIfInBounds_toArray, List.set_cons_zero, List.set_cons_succ]))
      (repeat (refine sh_take (v := ?_) rfl rfl ?_ ?_; rotate_left; (intro w' hx'; have hc' := hx'.cells.1; (try simp only [wcd] at hc'); go_simp; (first | done | with_reducible rfl)); (try simp only [Act.put, List.setIfInBounds_toArray, List.set_cons_zero, List.set_cons_succ])))
      (refine sh_loud rfl rfl fun K hK => ?_; go_simp)
      (refine hK _ _ (by repeat (first | with_reducible assumption | with_reducible exact Ext.refl _ | with_reducible refine Ext.drewN ?_ _ | with_reducible refine Ext.drew ?_ | with_reducible refine Ext.alloc ?_ _ | (with_reducible refine Ext.setCell ?_ ?_ _; rotate_left; (first | exact Nat.le_refl _ | (dsimp only; omega) | (simp only [wsz]; omega))) | (with_reducible refine Ext.trans ?_ (by with_reducible assumption)))) ?_; clear hK K; (try simp only [Act.put, List.setIfInBounds_toArray, List.set_cons_zero, List.set_cons_succ]))
      refine sh_done ?_
      refine sh_appp1 (.tmp 14) (.tmp 30) (hO.ext hx2) hi (hN4.widen fun q hq _ => ⟨by have := hxr.size; simp only [wsz] at hq; omega, fun e => by have := (hrow _ e).2; simp only [wsz] at hq; omega⟩) (by rw [hsl]; omega) (by have := hxr.size; omega) rfl rfl rfl (by rw [hsl]; rfl) rfl ?_
      intro v2 w2 hO2 hg2 hv2
      (try simp only [Act.put, List.setIfInBounds_toArray, List.set_cons_zero, List.set_cons_succ])
      (refine sh_late rfl rfl fun K hK => ?_; go_simp; refine hK _ _ ?_; clear hK K)
      refine sh_end ?_
      have hxx : Ext W w2 := (hxr.trans (hx2.alloc _)).grown hg2 (fun j hj => (hrow _ hj).1)
      rw [← scz_step kz hlt] at hO2
      go_wp2_with fail
      go_roundw
      case rel => exact ⟨k + 1, by omega, by go_num, hO2, hxx⟩
      case measure => simp [intOf] <;> omega
    · obtain rfl : k = t.ps.length := by omega
      rw [List.take_length] at hO hP0 hsl
      go_wp2_with fail
      refine (rmulz_c (x := kz) (y := t.k) ⟨_, _, rfl, hk.ext (hxw.trans (by repeat (first | with_reducible assumption | with_reducible exact Ext.refl _ | with_reducible refine Ext.drewN ?_ _ | with_reducible refine Ext.drew ?_ | with_reducible refine Ext.alloc ?_ _ | (with_reducible refine Ext.setCell ?_ ?_ _; rotate_left; (first | exact Nat.le_refl _ | (dsimp only; omega) | (simp only [wsz]; omega))) | (with_reducible refine Ext.trans ?_ (by with_reducible assumption)))))⟩ ⟨_, _, rfl, h2.ext (hxw.trans (by repeat (first | with_reducible assumption | with_reducible exact Ext.refl _ | with_reducible refine Ext.drewN ?_ _ | with_reducible refine Ext.drew ?_ | with_reducible refine Ext.alloc ?_ _ | (with_reducible refine Ext.setCell ?_ ?_ _; rotate_left; (first | exact Nat.le_refl _ | (dsimp only; omega) | (simp only [wsz]; omega))) | (with_reducible refine Ext.trans ?_ (by with_reducible assumption)))))⟩ (by omega) (by omega)).mono ?_
      rintro e w1 ⟨r1, rfl, ⟨A1, c1, rfl, hK1⟩, hx1⟩
      have hx2 : Ext wr w1 := (by repeat (first | with_reducible assumption | with_reducible exact Ext.refl _ | with_reducible refine Ext.drewN ?_ _ | with_reducible refine Ext.drew ?_ | with_reducible refine Ext.alloc ?_ _ | (with_reducible refine Ext.setCell ?_ ?_ _; rotate_left; (first | exact Nat.le_refl _ | (dsimp only; omega) | (simp only [wsz]; omega))) | (with_reducible refine Ext.trans ?_ (by with_reducible assumption))))
      go_wp2_with fail
      refine (rnorm5_c (t := ⟨scz kz t.ps, cz (kz.v * t.k.v)⟩) (N := N + N) ⟨_, _, _, _, by simp only [scz_len], (hP0.ext hx2).ext (by repeat (first | with_reducible assumption | with_reducible exact Ext.refl _ | with_reducible refine Ext.drewN ?_ _ | with_reducible refine Ext.drew ?_ | with_reducible refine Ext.alloc ?_ _ | (with_reducible refine Ext.setCell ?_ ?_ _; rotate_left; (first | exact Nat.le_refl _ | (dsimp only; omega) | (simp only [wsz]; omega))) | (with_reducible refine Ext.trans ?_ (by with_reducible assumption)))), (hK1.widen (Y := fun _ => True) fun _ _ _ => trivial).ext (by repeat (first | with_reducible assumption | with_reducible exact Ext.refl _ | with_reducible refine Ext.drewN ?_ _ | with_reducible refine Ext.drew ?_ | with_reducible refine Ext.alloc ?_ _ | (with_reducible refine Ext.setCell ?_ ?_ _; rotate_left; (first | exact Nat.le_refl _ | (dsimp only; omega) | (simp only [wsz]; omega))) | (with_reducible refine Ext.trans ?_ (by with_reducible assumption))))⟩ (by omega) ⟨?_, ?_, ?_⟩).mono ?_
      · rw [scz_len]; omega
      · intro p hp
        obtain ⟨q, hq, rfl⟩ := List.mem_map.1 hp
        have h3 : zl q.2.v ≤ N := hzl (q.1, q.2.v) (List.mem_map.2 ⟨q, hq, rfl⟩)
        show (cz (kz.v * q.2.v)).mag.length ≤ _
        rw [cz_len]
        have := zl_mul kz.v q.2.v
        have := zl_of lk
        omega
      · show (cz (kz.v * t.k.v)).mag.length ≤ _
        rw [cz_len]
        have := zl_mul kz.v t.k.v
        have := zl_of lk
        have := zl_of lt.2
        omega
      rw [nf_scz]
      rintro e w4 ⟨r4, rfl, ⟨A4, c4, B4, d4, rfl, h41, h42⟩, hx4⟩
      have hx5 : Ext wr w4 := hx2.trans (by repeat (first | with_reducible assumption | with_reducible exact Ext.refl _ | with_reducible refine Ext.drewN ?_ _ | with_reducible refine Ext.drew ?_ | with_reducible refine Ext.alloc ?_ _ | (with_reducible refine Ext.setCell ?_ ?_ _; rotate_left; (first | exact Nat.le_refl _ | (dsimp only; omega) | (simp only [wsz]; omega))) | (with_reducible refine Ext.trans ?_ (by with_reducible assumption))))
      have g4 := q4.ext hx5
      have g4r := g4.rules
      have g4l := g4.lt
      have hE4 := hxw.trans hx5
      have hs3 := (hxr.trans hx2).size
      clear q2r q3r
      go_wp2_with fail
      (refine bodyPost_ret (v := ?_) ?_ rfl ?_; rotate_left; (simp only [results, Try.results37]; go_simp; (first | done | with_reducible rfl)))
      refine ⟨_, rfl, ⟨_, _, _, _, rfl, (Pl.keep (h41.widen (Y := fun c => w.heap.size + 1 + 1 < c) fun c hc _ => by omega) (by repeat (first | with_reducible exact Kp.refl _ | with_reducible refine Kp.drewN ?_ _ | with_reducible refine Kp.drew ?_ | with_reducible refine Kp.alloc ?_ _ | (with_reducible refine Kp.setCell ?_ ?_ _; rotate_left; (first | (dsimp only; omega) | (simp only [wsz]; omega))) | (with_reducible exact Kp.of_ext (by with_reducible assumption)) | (with_reducible refine Kp.ext ?_ (by with_reducible assumption))))).widen fun c hc _ => by omega, (Nl.keep (h42.widen (Y := fun c => w.heap.size + 1 + 1 < c) fun c hc _ => by omega) (by repeat (first | with_reducible exact Kp.refl _ | with_reducible refine Kp.drewN ?_ _ | with_reducible refine Kp.drew ?_ | with_reducible refine Kp.alloc ?_ _ | (with_reducible refine Kp.setCell ?_ ?_ _; rotate_left; (first | (dsimp only; omega) | (simp only [wsz]; omega))) | (with_reducible exact Kp.of_ext (by with_reducible assumption)) | (with_reducible refine Kp.ext ?_ (by with_reducible assumption))))).widen fun c hc _ => by omega⟩, ?_⟩
      exact ((hE4.setCell (by simp only; omega) _).setCell (by simp only; omega) _).setCell (by simp only; omega) _

end Go.Proofs.Ytbblgjjomgipfaa
