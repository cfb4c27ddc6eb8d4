/- riddlelaw05.over: an answer in memory of its own is written over. No conditions. -/
import Derived.Test.YtbblgjjomgipfaaWith
namespace Go.Proofs.Ytbblgjjomgipfaa
open Go.RowKit Go.Shelf

/-- Where a limb stood, outside the row g, one stands. -/
def Ku (H g : Nat) (w w' : World) : Prop := ∀ b o, b ≠ g → b < H → (∃ x, w.cell? ⟨b, o, none⟩ = some (.int .u32 x)) → (∃ y, w'.cell? ⟨b, o, none⟩ = some (.int .u32 y)) ∧ w'.frozen? ⟨b, o, none⟩ = w.frozen? ⟨b, o, none⟩
/-- The writing over, up to the part i of the row g: nothing below B is touched, and nothing from H on. -/
structure Ov (B H g i : Nat) (w wr : World) : Prop where
  bl : Below B w wr
  kp : Kp (H ≤ ·) w wr
  ku : Ku H g w wr
  row : ∀ j, i * 3 ≤ j → wr.cell? ⟨g, j, none⟩ = w.cell? ⟨g, j, none⟩
  frz : ∀ j, wr.frozen? ⟨g, j, none⟩ = w.frozen? ⟨g, j, none⟩
  size : w.heap.size ≤ wr.heap.size

section
variable {B H g i : Nat} {w wr : World}
theorem Ov.refl (w : World) : Ov B H g 0 w w := ⟨Below.refl _ _, Kp.refl _, fun _ _ _ _ h => ⟨h, rfl⟩, fun _ _ => rfl, fun _ => rfl, Nat.le_refl _⟩
theorem Ov.drew (h : Ov B H g i w wr) : Ov B H g i w wr.drew := ⟨h.bl.drew, h.kp.drew, fun b o h1 h2 h3 => by simpa using h.ku b o h1 h2 h3, fun j hj => by simpa using h.row j hj, fun j => by simpa using h.frz j, by simpa using h.size⟩
theorem Ov.drewN (h : Ov B H g i w wr) (n : Nat) : Ov B H g i w (wr.drewN n) := ⟨⟨h.bl.os, h.bl.tape, h.bl.output, h.bl.size, h.bl.block⟩, h.kp.drewN n, fun b o h1 h2 h3 => by simpa using h.ku b o h1 h2 h3, fun j hj => by simpa using h.row j hj, fun j => by simpa using h.frz j, by simpa using h.size⟩
theorem Ov.set9 (h : Ov B H g i w wr) {b o : Nat} {y : Int} (h1 : b ≠ g) (h2 : B ≤ b) (h3 : b < H) (hc : ∃ x, wr.cell? ⟨b, o, none⟩ = some (.int .u32 x)) : Ov B H g i w (wr.setCell ⟨b, o, none⟩ (.int .u32 y)) := by
  refine ⟨h.bl.setCell h2 _, h.kp.setCell (by simp only; omega) _, fun b' o' k1 k2 k3 => ?_, fun j hj => ?_, fun j => ?_, by simpa using h.size⟩
  · obtain ⟨⟨x, hx⟩, hf⟩ := h.ku b' o' k1 k2 k3
    refine ⟨?_, by rw [World.frozen?_setCell]; exact hf⟩
    by_cases e : (⟨b', o', none⟩ : Addr) = ⟨b, o, none⟩
    · rw [e]
      obtain ⟨x', hx'⟩ := hc
      exact ⟨y, World.cell?_setCell_same' _ _ _ (by rw [hx']; rfl)⟩
    · exact ⟨x, by rw [World.cell?_setCell_other _ _ _ _ (fun h => e h.symm)]; exact hx⟩
  · rw [World.cell?_setCell_other _ _ _ _ (fun e => by injection e with e1; exact h1 e1)]
    exact h.row j hj
  · rw [World.frozen?_setCell]; exact h.frz j
theorem Ov.setg (h : Ov B H g i w wr) {o : Nat} {u : Value} {i' : Nat} (h2 : B ≤ g) (h3 : g < H) (hi : i ≤ i') (ho : o < i' * 3) : Ov B H g i' w (wr.setCell ⟨g, o, none⟩ u) := by
  refine ⟨h.bl.setCell h2 _, h.kp.setCell (by simp only; omega) _, fun b' o' k1 k2 k3 => ?_, fun j hj => ?_, fun j => ?_, by simpa using h.size⟩
  · obtain ⟨⟨x, hx⟩, hf⟩ := h.ku b' o' k1 k2 k3
    refine ⟨⟨x, ?_⟩, by rw [World.frozen?_setCell]; exact hf⟩
    rw [World.cell?_setCell_other _ _ _ _ (fun e => by injection e with e1; exact k1 e1.symm)]; exact hx
  · rw [World.cell?_setCell_other _ _ _ _ (fun e => by injection e with e1 e2; omega)]
    exact h.row j (by omega)
  · rw [World.frozen?_setCell]; exact h.frz j
end

/-- Limbs that may be written over: not below B, not in the row g. -/
def Lm (w : World) (B H g : Nat) (D : Option Addr) (n : Nat) : Prop :=
  n ≤ maxLen ∧ (0 < n → ∃ b o, D = some ⟨b, o, none⟩ ∧ B ≤ b ∧ b ≠ g ∧ b < H ∧ ∀ j, j < n → (∃ x, w.cell? ⟨b, o + j, none⟩ = some (.int .u32 x)) ∧ w.frozen? ⟨b, o + j, none⟩ = false)
theorem Lm.of_nl {w : World} {B E g : Nat} {D : Option Addr} {d : Nat} {l : List Nat} (h : Nl w (fun b => (B ≤ b ∧ b < E) ∧ b ≠ g) D d l) : Lm w B E g D l.length := by
  refine ⟨Nat.le_trans h.1 h.2.1, fun h0 => ?_⟩
  obtain ⟨b, o, hA, ⟨⟨hX1, hX3⟩, hX2⟩, hc, -⟩ := h.at_ h0
  refine ⟨b, o, hA, hX1, hX2, hX3, fun j hj => ⟨⟨_, hc j hj⟩, h.2.2.2 b o hA j (by omega)⟩⟩
theorem Lm.zero (w : World) (B H g : Nat) (D : Option Addr) : Lm w B H g D 0 := ⟨Nat.zero_le _, fun h => absurd h (Nat.lt_irrefl _)⟩

/-- A term in memory of the call's own, from block B on, ahead of E. -/
def TvB (w : World) (B E : Nat) (r : Value) (t : T) : Prop :=
  ∃ A c C d, r = .agg #[.slice A t.ps.length c, .bool t.k.neg, .slice C t.k.mag.length d] ∧ Own 3 EP w (fun b => B ≤ b ∧ b < E) B 69 (.slice A t.ps.length c) t.ps ∧ (∀ k, Value.ownBlock (.slice A t.ps.length c) = some k → k < E) ∧ Spp w (.slice A t.ps.length c) ∧ Nl w (fun b => B ≤ b ∧ b < E) C d t.k.mag
theorem TvF.bound {w : World} {B : Nat} {r : Value} {t : T} (h : TvF w B r t) : TvB w B w.heap.size r t := by
  obtain ⟨A, c, C, d, rfl, hO, hS, hN⟩ := h
  exact ⟨A, c, C, d, rfl, hO.widen fun b hb hl => ⟨hb, hl⟩, fun k hk => (hO.row k hk).2, hS, hN.widen fun b hb hl => ⟨hb, hl⟩⟩
theorem TvB.tvf {w : World} {B E : Nat} {r : Value} {t : T} (h : TvB w B E r t) : TvF w B r t := by
  obtain ⟨A, c, C, d, rfl, hO, _, hS, hN⟩ := h
  exact ⟨A, c, C, d, rfl, hO.widen fun b hb _ => hb.1, hS, hN.widen fun b hb _ => hb.1⟩
theorem TvB.keep {w w' : World} {B E : Nat} {r : Value} {t : T} (h : TvB w B E r t) (k : Kp (fun b => B ≤ b ∧ b < E) w w') : TvB w' B E r t := by
  obtain ⟨A, c, C, d, rfl, hO, hE, hS, hN⟩ := h
  have hrow := hO.row
  exact ⟨A, c, C, d, rfl, hO.keep (k.imp fun b hb => hb.elim id fun e => ⟨(hrow b e).1, hE b e⟩), hE, hS.keep (fun b e => (hrow b e).2) (k.imp fun b e => ⟨(hrow b e).1, hE b e⟩), hN.keep k⟩
theorem TvB.ext {w w' : World} {B E : Nat} {r : Value} {t : T} (h : TvB w B E r t) (k : Ext w w') : TvB w' B E r t := h.keep (.of_ext k)

/-- The room of an answer. -/
theorem TvB.room {w : World} {B E : Nat} {r : Value} {t : T} (h : TvB w B E r t) : ∃ A c C d g, r = .agg #[.slice A t.ps.length c, .bool t.k.neg, .slice C t.k.mag.length d] ∧ t.ps.length ≤ c ∧ c ≤ maxLen ∧
    (0 < c → A = some ⟨g, 0, none⟩ ∧ B ≤ g ∧ g < E ∧ (∀ j, w.frozen? ⟨g, j, none⟩ = false) ∧
      ∀ i, i < c → ∃ x s D n d, w.cell? ⟨g, i * 3, none⟩ = some (.int .i64 x) ∧ w.cell? ⟨g, i * 3 + 1, none⟩ = some (.bool s) ∧ w.cell? ⟨g, i * 3 + 2, none⟩ = some (.slice D n d) ∧ Lm w B E g D n) ∧ Lm w B E g C t.k.mag.length := by
  obtain ⟨A, c, C, d, rfl, hO, hRE, hS, hN⟩ := h
  have hO' := hO
  obtain ⟨xs, h1, h2⟩ := hO'
  rcases h1.2 with ⟨hv, hn⟩ | ⟨g, cap, cur, hv, hb, hg, hnc, hcm, hcs, htake⟩
  · injection hv with e1 e2 e3
    subst e1; subst e3
    refine ⟨none, 0, C, d, w.heap.size, rfl, by omega, Nat.zero_le _, fun h => absurd h (Nat.lt_irrefl _), Lm.of_nl (hN.widen fun b hb hl => ⟨hb, by omega⟩)⟩
  · injection hv with e1 e2 e3
    subst e1; subst e3
    have hgl := lt_of_some hg
    refine ⟨_, c, C, d, g, rfl, hnc, hcm, fun hc => ⟨rfl, hb, hRE g rfl, fun j => Own.frz hO j, fun i hi => ?_⟩, ?_⟩
    · by_cases hi2 : i < t.ps.length
      · obtain ⟨D, d', c0, c1, c2, -, hl⟩ := own_at hO hi2
        exact ⟨_, _, D, _, d', c0, c1, c2, Lm.of_nl hl⟩
      · have e0 := hS g _ c rfl i 0 (by omega) hi (by omega)
        have e1 := hS g _ c rfl i 1 (by omega) hi (by omega)
        have e2 := hS g _ c rfl i 2 (by omega) hi (by omega)
        exact ⟨0, false, none, 0, 0, e0, e1, e2, Lm.zero _ _ _ _ _⟩
    · refine Lm.of_nl (d := d) ?_
      rcases Nat.eq_zero_or_pos t.k.mag.length with h0 | h0
      · have e : t.k.mag = [] := List.eq_nil_of_length_eq_zero h0
        rw [e]
        exact Sl.nil (c := d) _ _ _ hN.2.1
      · obtain ⟨b, o, hA, hX, hc, -⟩ := hN.at_ h0
        have hbg : b ≠ g := by
          intro e
          subst e
          have h3 := hc 0 h0
          rw [Nat.add_zero] at h3
          have h4 : o < cur.size := by
            rw [cell_of_row w b o cur _ (0, 0) hg] at h3
            exact (Array.getElem?_eq_some_iff.1 h3).1
          rw [hcs] at h4
          have hi : o / 3 < c := by omega
          have hcells : ∃ x s D n d, w.cell? ⟨b, o / 3 * 3, none⟩ = some (.int .i64 x) ∧ w.cell? ⟨b, o / 3 * 3 + 1, none⟩ = some (.bool s) ∧ w.cell? ⟨b, o / 3 * 3 + 2, none⟩ = some (.slice D n d) := by
            by_cases hi2 : o / 3 < t.ps.length
            · obtain ⟨D, d', c0, c1, c2, -, hl⟩ := own_at hO hi2
              exact ⟨_, _, D, _, d', c0, c1, c2⟩
            · exact ⟨0, false, none, 0, 0, hS b _ c rfl (o / 3) 0 (by omega) hi (by omega), hS b _ c rfl (o / 3) 1 (by omega) hi (by omega), hS b _ c rfl (o / 3) 2 (by omega) hi (by omega)⟩
          obtain ⟨x, s, D, n, d', c0, c1, c2⟩ := hcells
          have hm : o % 3 = 0 ∨ o % 3 = 1 ∨ o % 3 = 2 := by omega
          rcases hm with hm | hm | hm
          · rw [show o / 3 * 3 = o from by omega, h3] at c0; injection c0 with c0; cases c0
          · rw [show o / 3 * 3 + 1 = o from by omega, h3] at c1; injection c1 with c1; cases c1
          · rw [show o / 3 * 3 + 2 = o from by omega, h3] at c2; injection c2 with c2; cases c2
        obtain ⟨h1', h2', h3', h4'⟩ := hN
        refine ⟨h1', h2', fun _ => ?_, h4'⟩
        obtain ⟨b', o', hA', hX', hi⟩ := h3' h0
        have e1 : b = b' := by rw [hA] at hA'; injection hA' with hA'; injection hA'
        exact ⟨b', o', hA', ⟨hX', by rw [← e1]; exact hbg⟩, hi⟩

theorem Lm.ext {w w' : World} {B H g : Nat} {D : Option Addr} {n : Nat} (h : Lm w B H g D n) (hx : Ext w w') (hH : H ≤ w.heap.size) : Lm w' B H g D n := by
  refine ⟨h.1, fun h0 => ?_⟩
  obtain ⟨b, o, h1, h2, h3, h4, h5⟩ := h.2 h0
  refine ⟨b, o, h1, h2, h3, h4, fun j hj => ?_⟩
  obtain ⟨⟨x, hx1⟩, hf⟩ := h5 j hj
  exact ⟨⟨x, (hx.cells.1 b _ (by omega)).trans hx1⟩, (hx.cells.2 b _ (by omega)).trans hf⟩

set_option maxHeartbeats 1600000 in
theorem over_c {w : World} {B E : Nat} {r : Value} {t : T} (h : TvB w B E r t) (hEw : E ≤ w.heap.size) (hBE : B ≤ E) :
    Calls Try.prog 41 #[r] w fun e w' => e = .returned (.tuple #[]) ∧ Below B w w' ∧ Kp (E ≤ ·) w w' := by
  obtain ⟨A, c, C, d, g, rfl, hc1, hc2, hrow, hK⟩ := h.room
  simp only [maxLen] at hc2
  obtain ⟨nK, hnK⟩ : ∃ nK, nK = t.k.mag.length := ⟨_, rfl⟩
  obtain ⟨nP, hnP⟩ : ∃ nP, nP = t.ps.length := ⟨_, rfl⟩
  have hKl := hK.1
  rw [← hnK] at hK hKl ⊢
  rw [← hnP] at hc1 ⊢
  simp only [maxLen] at hKl
  clear hnK hnP h
  go_enter Try.func41, Try.ntmps41
  go_wp2_with fail
  refine wp_named fun W hW => ?_
  have b1 : Box W w.heap.size 27 #[.slice A nP c, .bool t.k.neg, .slice C nK d] := by rw [hW]; exact (by repeat (first | with_reducible assumption | with_reducible exact Box.new _ _ _ | (with_reducible refine Box.new_at _ _ _ ?_; (simp only [wsz]; done)) | with_reducible refine Box.drewN ?_ _ | with_reducible refine Box.drew ?_ | with_reducible refine Box.alloc ?_ _ | with_reducible apply Box.drewN | with_reducible apply Box.drew | with_reducible apply Box.alloc | with_reducible refine Box.set_ ?_ _ _ | (with_reducible refine Box.far ?_ ?_ _; rotate_left; (simp only [ne_eq]; omega)) | (with_reducible refine Box.ext ?_ (by with_reducible assumption)) | (refine Box.new_at _ _ _ ?_; simp only [wsz]; done)))
  have hE : Ext w W := by rw [hW]; exact (by repeat (first | with_reducible assumption | with_reducible exact Ext.refl _ | with_reducible refine Ext.drewN ?_ _ | with_reducible refine Ext.drew ?_ | with_reducible refine Ext.alloc ?_ _ | (with_reducible refine Ext.setCell ?_ ?_ _; rotate_left; (first | exact Nat.le_refl _ | (dsimp only; omega) | (simp only [wsz]; omega))) | (with_reducible refine Ext.trans ?_ (by with_reducible assumption))))
  clear hW
  have hWl := b1.lt
  have hWs := hE.size
  have hKW := hK.ext hE hEw
  go_loopw [3] (fun iv wr => ∃ i : Nat, i ≤ c ∧ iv = .int .i64 i ∧ Ov B E g i W wr) (fun iv _ => c - (intOf iv).toNat)
  case atStart => exact ⟨0, Nat.zero_le _, rfl, Ov.refl _⟩
  case round =>
    obtain ⟨i, hi, rfl, hO⟩ := hrel
    obtain ⟨V, rfl⟩ : ∃ V, V = wr := ⟨_, rfl⟩
    by_cases hlt : i < c
    · obtain ⟨rfl, hBg, hgH, hfr, hcells⟩ := hrow (by omega)
      obtain ⟨x, s, D, n, dd, c0, c1, c2, hL⟩ := hcells i hlt
      have hgw := Nat.lt_of_lt_of_le hgH hEw
      have k0 := (hE.cells.1 g _ hgw).trans c0
      have k1 := (hE.cells.1 g _ hgw).trans c1
      have k2 := (hE.cells.1 g _ hgw).trans c2
      have hfW := fun j => (hE.cells.2 g j hgw).trans (hfr j)
      have hLW := hL.ext hE hEw
      have hLn := hL.1
      simp only [maxLen] at hLn
      clear c0 c1 c2 hL hcells hrow hfr
      have il : (i : Int) < (c : Int) := by omega
      have iw := w64n (n := i) (by omega)
      go_wp2_with fail
      go_loopw [4] (fun kv wz => ∃ k : Nat, k ≤ n ∧ kv = .int .i64 k ∧ Ov B E g i W wz) (fun kv _ => n - (intOf kv).toNat)
      case atStart => exact ⟨0, Nat.zero_le _, rfl, hO⟩
      case round =>
        clear hO
        obtain ⟨k, hk, rfl, hO⟩ := hrel
        have q0 := (hO.row (i * 3) (Nat.le_refl _)).trans k0
        have q1 := (hO.row (i * 3 + 1) (by omega)).trans k1
        have q2 := (hO.row (i * 3 + 2) (by omega)).trans k2
        have qf := fun j => (hO.frz j).trans (hfW j)
        have kw := w64n (n := k) (by omega)
        have hgV : g < wr.heap.size := World.block_lt_of_cell? _ _ q0
        by_cases hltk : k < n
        · obtain ⟨b, o, rfl, hb1, hb2, hb3, hb4⟩ := hLW.2 (by omega)
          have kl : (k : Int) < (n : Int) := by omega
          obtain ⟨hbc, hbf⟩ := hb4 k hltk
          obtain ⟨⟨y, hy⟩, hyf⟩ := hO.ku b (o + k) hb2 hb3 hbc
          have hyf := hyf.trans hbf
          go_wp2_with fail
          go_roundw
          case rel => exact ⟨k + 1, by omega, by go_num, hO.set9 hb2 hb1 hb3 ⟨y, hy⟩⟩
          case measure => simp [intOf] <;> omega
        · obtain rfl : k = n := by omega
          go_wp2_with fail
          go_roundw
          case rel => exact ⟨i + 1, by omega, by go_num, ((hO.setg hBg hgH (i' := i + 1) (by omega) (by omega)).setg hBg hgH (Nat.le_refl _) (by omega)).setg hBg hgH (Nat.le_refl _) (by omega)⟩
          case measure => simp [intOf] <;> omega
    · obtain rfl : i = c := by omega
      have b1k := b1.keep (X := (E ≤ ·)) hEw hO.kp
      have b1r := b1k.rules
      have b1l := b1k.lt
      go_wp2_with fail
      go_loopw [5] (fun kv wz => ∃ k : Nat, k ≤ nK ∧ kv = .int .i64 k ∧ Ov B E g i W wz) (fun kv _ => nK - (intOf kv).toNat)
      case atStart => exact ⟨0, Nat.zero_le _, rfl, hO⟩
      case round =>
        clear hO b1k b1r b1l
        obtain ⟨k, hk, rfl, hO⟩ := hrel
        have b1k := b1.keep (X := (E ≤ ·)) hEw hO.kp
        have b1r := b1k.rules
        have b1l := b1k.lt
        have kw := w64n (n := k) (by omega)
        by_cases hltk : k < nK
        · obtain ⟨b, o, rfl, hb1, hb2, hb3, hb4⟩ := hKW.2 (by omega)
          have kl : (k : Int) < (nK : Int) := by omega
          obtain ⟨hbc, hbf⟩ := hb4 k hltk
          obtain ⟨⟨y, hy⟩, hyf⟩ := hO.ku b (o + k) hb2 hb3 hbc
          have hyf := hyf.trans hbf
          go_wp2_with fail
          go_roundw
          case rel => exact ⟨k + 1, by omega, by go_num, hO.set9 hb2 hb1 hb3 ⟨y, hy⟩⟩
          case measure => simp [intOf] <;> omega
        · obtain rfl : k = nK := by omega
          go_wp2_with fail
          refine bodyPost_end (results_none rfl _ _ _) rfl ?_
          exact ⟨rfl, (Below.mono hE (by omega)).trans hO.bl, fun z hz hl => (hO.kp z hz (by omega)).trans (hE.block z hl)⟩

end Go.Proofs.Ytbblgjjomgipfaa
