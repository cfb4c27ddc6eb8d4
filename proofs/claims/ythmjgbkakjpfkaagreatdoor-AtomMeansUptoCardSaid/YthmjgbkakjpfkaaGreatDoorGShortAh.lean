/- Contracts of package zint. No conditions. -/
import Derived.Test.YthmjgbkakjpfkaaGreatDoorGShortAg
import Derived.Test.YthmjgbkakjpfkaaGreatDoorGShortAc
namespace Go.Proofs.YthmjgbkakjpfkaaGreatDoor
open Go.RowKit

set_option maxHeartbeats 400000 in
theorem cloneu_c {A : Option Addr} {c : Nat} {l : List Nat} {w : World} {X : Nat → Prop} (h : Nl w X A c l) (hL : l.length ≤ 4398046511104) :
    Calls Tryz.prog 133 #[.slice A l.length c] w fun e w' => ∃ A' c', e = .returned (.slice A' l.length c') ∧ Nl w' (w.heap.size ≤ ·) A' c' l ∧ Ext w w' := by
  have hn := fun (W : World) (A : Option Addr) (n c : Nat) => Lib.run_eql_slice_nil (P := Tryz.prog) W 22 75 A n c 0 0 Tryz.underlying22
  cases A with
  | none =>
    have h0 : l = [] := by
      rcases Nat.eq_zero_or_pos l.length with h0 | h0
      · exact List.eq_nil_of_length_eq_zero h0
      · obtain ⟨b, o, hA, _⟩ := h.2.2.1 h0
        cases hA
    subst h0
    go_enter Tryz.func133, Tryz.ntmps133
    go_wp2
    go_ret
    exact ⟨none, 0, rfl, Sl.nil0 _ _ _, Ext.refl _⟩
  | some ad =>
    go_enter Tryz.func133, Tryz.ntmps133
    go_wp2_with (first
      | (at_builtin
         refine wpList_app ety_u (.tmp 5) (.tmp 6) (base := w.heap.size) (Z := fun _ => False) (Own.empty w _ _ (Nat.le_refl _)) (Fl.u h.lb _ _) (uc_at (h.keep ((Kp.refl w).alloc _))) (by simp; omega) (by simp [maxLen]; omega) (by simp) rfl rfl rfl rfl ?_
         intro v1 w2 hown hg hat))
    go_ret
    obtain ⟨A2, c2, rfl, h2⟩ := Nown.nl hown
    exact ⟨A2, c2, by simp, by simpa using h2, ((Ext.refl w).alloc _).grown hg (by simp [Value.ownBlock])⟩

set_option maxHeartbeats 800000 in
theorem trim_c {A : Option Addr} {c : Nat} {l : List Nat} {w : World} {X : Nat → Prop} (h : Nl w X A c l) (hL : l.length ≤ 4398046511104) :
    Calls Tryz.prog 96 #[.slice A l.length c] w fun e w' => ∃ A' c', e = .returned (.slice A' (lim (nv l)).length c') ∧ Nl w' (w.heap.size ≤ ·) A' c' (lim (nv l)) ∧ Ext w w' := by
  have hlc := h.1
  have hcm := h.2.1
  have hb := h.lt
  simp only [maxLen] at hcm
  have fin : ∀ k, k ≤ l.length → (∀ j, k ≤ j → j < l.length → nth l j = 0) → (0 < k → nth l (k - 1) ≠ 0) → ∀ wr, Ext w wr → (lim (nv l)).length = k ∧ Nl wr X A c (lim (nv l)) := by
    intro k hk hz hl wr hx
    have e := take_lim hb hk hz hl
    rw [← e]
    exact ⟨by rw [List.length_take]; omega, Sl.take (h.ext hx) hk (by omega) h.2.1⟩
  have Fin := Lib.hid fin; clear fin
  go_enter Tryz.func96, Tryz.ntmps96
  go_wp2
  go_loopw [0] (fun v wr => ∃ k : Nat, k ≤ l.length ∧ v = .slice A k c ∧ (∀ j, k ≤ j → j < l.length → nth l j = 0) ∧ Ext w wr) (fun v _ => match v with | .slice _ n _ => n | _ => 0)
  case atStart => exact ⟨l.length, Nat.le_refl _, rfl, fun j h1 h2 => by omega, Ext.refl _⟩
  case round =>
    obtain ⟨k, hk, rfl, hz, hx⟩ := hrel
    have Hz := Lib.hid hz; clear hz
    by_cases h0 : 0 < k
    · obtain ⟨b, o, rfl, hX, hcell, _⟩ := (h.ext hx).at_ (k := k - 1) (by omega)
      have hc1 := hcell (k - 1) (by omega)
      have i0 : (0 : Int) < (k : Int) := by omega
      by_cases hn : nth l (k - 1) = 0
      · have hn' : (((nth l (k - 1) : Nat) : Int) == 0) = true := by simp [hn]
        clear hcell
        go_wp2
        go_roundw
        case rel =>
          refine ⟨k - 1, by omega, rfl, fun j h1 h2 => ?_, hx⟩
          rcases Nat.eq_or_lt_of_le h1 with e | e
          · rw [← e]; exact hn
          · exact Hz.out j (by omega) h2
        case measure => show k - 1 < k; omega
      · have hn' : (((nth l (k - 1) : Nat) : Int) == 0) = false := by simp [hn]
        clear hcell
        obtain ⟨e1, h2⟩ := Fin.out k hk Hz.out (fun _ => hn) wr hx
        have hc := cloneu_c h2 (by omega)
        rw [e1] at hc
        have E1 := Lib.hid e1; clear e1
        go_wp2_with fail
        refine hc.mono ?_
        rintro e w2 ⟨A2, c2, rfl, h3, hx2⟩
        go_wp2
        go_ret
        have := hx.size
        exact ⟨A2, c2, ret_slice E1.out.symm, h3.widen fun b hb _ => by omega, hx.trans hx2⟩
    · obtain ⟨e1, h2⟩ := Fin.out k hk Hz.out (fun h => absurd h h0) wr hx
      have hc := cloneu_c h2 (by omega)
      rw [e1] at hc
      have E1 := Lib.hid e1; clear e1
      go_wp2_with fail
      refine hc.mono ?_
      rintro e w2 ⟨A2, c2, rfl, h3, hx2⟩
      go_wp2
      go_ret
      have := hx.size
      exact ⟨A2, c2, ret_slice E1.out.symm, h3.widen fun b hb _ => by omega, hx.trans hx2⟩

set_option maxHeartbeats 400000 in
theorem made_c {A : Option Addr} {c : Nat} {neg : Bool} {l : List Nat} {w : World} {X : Nat → Prop} (h : Nl w X A c l) (hL : l.length ≤ 4398046511104) :
    Calls Tryz.prog 47 #[.bool neg, .slice A l.length c] w fun e w' => ∃ r, e = .returned r ∧ Zi w' (w.heap.size ≤ ·) r (cz (Z.v ⟨neg, l⟩)) ∧ Ext w w' := by
  have hcz := Lib.hid (cz_made neg l)
  go_enter Tryz.func47, Tryz.ntmps47
  go_wp2_with fail
  refine (trim_c (h.ext (by repeat (first | with_reducible assumption | with_reducible exact Ext.refl _ | with_reducible refine Ext.drewN ?_ _ | with_reducible refine Ext.drew ?_ | with_reducible refine Ext.alloc ?_ _ | (with_reducible refine Ext.setCell ?_ ?_ _; rotate_left; (first | exact Nat.le_refl _ | (dsimp only; omega) | (simp only [wsz]; omega))) | (with_reducible refine Ext.trans ?_ (by with_reducible assumption))))) hL).mono ?_
  rintro e w1 ⟨A1, c1, rfl, h1, hx⟩
  have hc := hx.cells
  cases neg <;> go_wp2_with fail
  · (refine bodyPost_ret (v := ?_) ?_ rfl ?_; rotate_left; (simp only [results, Tryz.results47]; go_simp; (first | done | with_reducible rfl)))
    refine ⟨_, rfl, ?_, (by repeat (first | with_reducible assumption | with_reducible exact Ext.refl _ | with_reducible refine Ext.drewN ?_ _ | with_reducible refine Ext.drew ?_ | with_reducible refine Ext.alloc ?_ _ | (with_reducible refine Ext.setCell ?_ ?_ _; rotate_left; (first | exact Nat.le_refl _ | (dsimp only; omega) | (simp only [wsz]; omega))) | (with_reducible refine Ext.trans ?_ (by with_reducible assumption))))⟩
    rw [hcz.out]
    exact ⟨A1, c1, rfl, (h1.keep (by repeat (first | with_reducible exact Kp.refl _ | with_reducible refine Kp.drewN ?_ _ | with_reducible refine Kp.drew ?_ | with_reducible refine Kp.alloc ?_ _ | (with_reducible refine Kp.setCell ?_ ?_ _; rotate_left; (first | (dsimp only; omega) | (simp only [wsz]; omega))) | (with_reducible exact Kp.of_ext (by with_reducible assumption)) | (with_reducible refine Kp.ext ?_ (by with_reducible assumption))))).widen (fun b hb _ => by first | omega | (dsimp only at hb ⊢; omega) | (dsimp only at hb; omega) | (simp only [wsz] at hb ⊢; omega) | (simp only [wsz] at hb; omega))⟩
  · (refine bodyPost_ret (v := ?_) ?_ rfl ?_; rotate_left; (simp only [results, Tryz.results47]; go_simp; (first | done | with_reducible rfl)))
    refine ⟨_, rfl, ?_, (by repeat (first | with_reducible assumption | with_reducible exact Ext.refl _ | with_reducible refine Ext.drewN ?_ _ | with_reducible refine Ext.drew ?_ | with_reducible refine Ext.alloc ?_ _ | (with_reducible refine Ext.setCell ?_ ?_ _; rotate_left; (first | exact Nat.le_refl _ | (dsimp only; omega) | (simp only [wsz]; omega))) | (with_reducible refine Ext.trans ?_ (by with_reducible assumption))))⟩
    rw [hcz.out]
    exact ⟨A1, c1, by rw [Bool.true_and], (h1.keep (by repeat (first | with_reducible exact Kp.refl _ | with_reducible refine Kp.drewN ?_ _ | with_reducible refine Kp.drew ?_ | with_reducible refine Kp.alloc ?_ _ | (with_reducible refine Kp.setCell ?_ ?_ _; rotate_left; (first | (dsimp only; omega) | (simp only [wsz]; omega))) | (with_reducible exact Kp.of_ext (by with_reducible assumption)) | (with_reducible refine Kp.ext ?_ (by with_reducible assumption))))).widen (fun b hb _ => by first | omega | (dsimp only at hb ⊢; omega) | (dsimp only at hb; omega) | (simp only [wsz] at hb ⊢; omega) | (simp only [wsz] at hb; omega))⟩

set_option maxHeartbeats 400000 in
theorem znorm_c {v : Value} {z : Z} {w : World} {X : Nat → Prop} (h : Zi w X v z) (hL : z.mag.length ≤ 4398046511104) :
    Calls Tryz.prog 95 #[v] w fun e w' => ∃ r, e = .returned r ∧ Zi w' (w.heap.size ≤ ·) r (cz z.v) ∧ Ext w w' := by
  obtain ⟨A, c, rfl, h⟩ := h
  go_enter Tryz.func95, Tryz.ntmps95
  go_wp2_with fail
  refine (made_c (h.ext (by repeat (first | with_reducible assumption | with_reducible exact Ext.refl _ | with_reducible refine Ext.drewN ?_ _ | with_reducible refine Ext.drew ?_ | with_reducible refine Ext.alloc ?_ _ | (with_reducible refine Ext.setCell ?_ ?_ _; rotate_left; (first | exact Nat.le_refl _ | (dsimp only; omega) | (simp only [wsz]; omega))) | (with_reducible refine Ext.trans ?_ (by with_reducible assumption))))) hL).mono ?_
  rintro e w1 ⟨r, rfl, ⟨A1, c1, rfl, h1⟩, hx⟩
  have hc := hx.cells
  go_wp2_with fail
  (refine bodyPost_ret (v := ?_) ?_ rfl ?_; rotate_left; (simp only [results, Tryz.results95]; go_simp; (first | done | with_reducible rfl)))
  exact ⟨_, rfl, ⟨A1, c1, rfl, (h1.keep (by repeat (first | with_reducible exact Kp.refl _ | with_reducible refine Kp.drewN ?_ _ | with_reducible refine Kp.drew ?_ | with_reducible refine Kp.alloc ?_ _ | (with_reducible refine Kp.setCell ?_ ?_ _; rotate_left; (first | (dsimp only; omega) | (simp only [wsz]; omega))) | (with_reducible exact Kp.of_ext (by with_reducible assumption)) | (with_reducible refine Kp.ext ?_ (by with_reducible assumption))))).widen (fun b hb _ => by first | omega | (dsimp only at hb ⊢; omega) | (dsimp only at hb; omega) | (simp only [wsz] at hb ⊢; omega) | (simp only [wsz] at hb; omega))⟩, (by repeat (first | with_reducible assumption | with_reducible exact Ext.refl _ | with_reducible refine Ext.drewN ?_ _ | with_reducible refine Ext.drew ?_ | with_reducible refine Ext.alloc ?_ _ | (with_reducible refine Ext.setCell ?_ ?_ _; rotate_left; (first | exact Nat.le_refl _ | (dsimp only; omega) | (simp only [wsz]; omega))) | (with_reducible refine Ext.trans ?_ (by with_reducible assumption))))⟩

set_option maxHeartbeats 400000 in
theorem zneg_c {v : Value} {z : Z} {w : World} {X : Nat → Prop} (h : Zi w X v z) (hL : z.mag.length ≤ 4398046511104) :
    Calls Tryz.prog 105 #[v] w fun e w' => ∃ r, e = .returned r ∧ Zi w' (w.heap.size ≤ ·) r (cz (-z.v)) ∧ Ext w w' := by
  have ez : (-z.v) = Z.v ⟨!z.neg, z.mag⟩ := by unfold Z.v; cases z.neg <;> simp
  rw [ez]
  clear ez
  obtain ⟨A, c, rfl, h⟩ := h
  go_enter Tryz.func105, Tryz.ntmps105
  go_wp2_with fail
  refine (made_c (h.ext (by repeat (first | with_reducible assumption | with_reducible exact Ext.refl _ | with_reducible refine Ext.drewN ?_ _ | with_reducible refine Ext.drew ?_ | with_reducible refine Ext.alloc ?_ _ | (with_reducible refine Ext.setCell ?_ ?_ _; rotate_left; (first | exact Nat.le_refl _ | (dsimp only; omega) | (simp only [wsz]; omega))) | (with_reducible refine Ext.trans ?_ (by with_reducible assumption))))) hL).mono ?_
  rintro e w1 ⟨r, rfl, ⟨A1, c1, rfl, h1⟩, hx⟩
  have hc := hx.cells
  go_wp2_with fail
  (refine bodyPost_ret (v := ?_) ?_ rfl ?_; rotate_left; (simp only [results, Tryz.results105]; go_simp; (first | done | with_reducible rfl)))
  exact ⟨_, rfl, ⟨A1, c1, rfl, (h1.keep (by repeat (first | with_reducible exact Kp.refl _ | with_reducible refine Kp.drewN ?_ _ | with_reducible refine Kp.drew ?_ | with_reducible refine Kp.alloc ?_ _ | (with_reducible refine Kp.setCell ?_ ?_ _; rotate_left; (first | (dsimp only; omega) | (simp only [wsz]; omega))) | (with_reducible exact Kp.of_ext (by with_reducible assumption)) | (with_reducible refine Kp.ext ?_ (by with_reducible assumption))))).widen (fun b hb _ => by first | omega | (dsimp only at hb ⊢; omega) | (dsimp only at hb; omega) | (simp only [wsz] at hb ⊢; omega) | (simp only [wsz] at hb; omega))⟩, (by repeat (first | with_reducible assumption | with_reducible exact Ext.refl _ | with_reducible refine Ext.drewN ?_ _ | with_reducible refine Ext.drew ?_ | with_reducible refine Ext.alloc ?_ _ | (with_reducible refine Ext.setCell ?_ ?_ _; rotate_left; (first | exact Nat.le_refl _ | (dsimp only; omega) | (simp only [wsz]; omega))) | (with_reducible refine Ext.trans ?_ (by with_reducible assumption))))⟩

set_option maxHeartbeats 400000 in
theorem zvalid_c {v : Value} {z : Z} {w : World} {X : Nat → Prop} (h : Zi w X v z) :
    Calls Tryz.prog 53 #[v] w fun e w' => e = .returned (.bool z.ok) ∧ Ext w w' := by
  obtain ⟨A, c, rfl, h⟩ := h
  have hm := h.2.1; have hl := h.1
  simp only [maxLen] at hm
  rcases Nat.eq_zero_or_pos z.mag.length with h0 | h0
  · have hok : z.ok = !z.neg := by unfold Z.ok; rw [if_pos h0]
    have h1 : (((z.mag.length : Nat) : Int) == 0) = true := by simp [h0]
    have Hok := Lib.hid hok; clear hok h0
    go_enter Tryz.func53, Tryz.ntmps53
    go_wp2_with fail
    go_ret
    exact ⟨ret_bool Hok.out.symm, (by repeat (first | with_reducible assumption | with_reducible exact Ext.refl _ | with_reducible refine Ext.drewN ?_ _ | with_reducible refine Ext.drew ?_ | with_reducible refine Ext.alloc ?_ _ | (with_reducible refine Ext.setCell ?_ ?_ _; rotate_left; (first | exact Nat.le_refl _ | (dsimp only; omega) | (simp only [wsz]; omega))) | (with_reducible refine Ext.trans ?_ (by with_reducible assumption))))⟩
  · have hok : z.ok = (nth z.mag (z.mag.length - 1) != 0) := by unfold Z.ok; rw [if_neg (by omega)]
    have h1 : (((z.mag.length : Nat) : Int) == 0) = false := beq_eq_false_iff_ne.2 (by omega)
    have Hok := Lib.hid hok; clear hok
    obtain ⟨b, o, rfl, hX, hcell, _⟩ := h.at_ (k := z.mag.length - 1) (by omega)
    have hc1 := hcell (z.mag.length - 1) (by omega)
    have hlt := World.block_lt_of_cell? _ _ hc1
    clear hcell
    go_enter Tryz.func53, Tryz.ntmps53
    go_wp2_with fail
    go_ret
    refine ⟨ret_bool ?_, (by repeat (first | with_reducible assumption | with_reducible exact Ext.refl _ | with_reducible refine Ext.drewN ?_ _ | with_reducible refine Ext.drew ?_ | with_reducible refine Ext.alloc ?_ _ | (with_reducible refine Ext.setCell ?_ ?_ _; rotate_left; (first | exact Nat.le_refl _ | (dsimp only; omega) | (simp only [wsz]; omega))) | (with_reducible refine Ext.trans ?_ (by with_reducible assumption))))⟩
    rw [Hok.out, Bool.eq_iff_iff, bne_iff_ne, bne_iff_ne]
    omega

set_option maxHeartbeats 400000 in
theorem zof_c (n : Int) (hn : -9223372036854775808 ≤ n) (hn2 : n ≤ 9223372036854775807) (w : World) :
    Calls Tryz.prog 16 #[.int .i64 n] w fun e w' => ∃ r, e = .returned r ∧ Zi w' (w.heap.size ≤ ·) r (cz n) ∧ Ext w w' := by
  have hsmall := zl_word (x := n) (by omega)
  unfold zl at hsmall
  by_cases h0 : n < 0
  · have ew : IntKind.u64.wrap (-IntKind.u64.wrap n) = ((n.natAbs : Nat) : Int) := by simp only [wrap_u64]; omega
    have ev : Z.v ⟨true, lim n.natAbs⟩ = n := by simp only [Z.v, nv_lim, if_true]; omega
    have Ew := Lib.hid ew; have Ev := Lib.hid ev; clear ew ev
    go_enter Tryz.func16, Tryz.ntmps16
    go_wp2_with fail
    rw [Ew.out]
    refine (of_c n.natAbs (by omega) _).mono ?_
    rintro e w1 ⟨A1, c1, rfl, h1, hx⟩
    go_wp2_with fail
    refine (made_c h1 (by omega)).mono ?_
    rw [Ev.out]
    rintro e w2 ⟨r, rfl, ⟨A2, c2, rfl, h2⟩, hx2⟩
    have hc := (Ext.trans hx hx2).cells
    go_wp2_with fail
    (refine bodyPost_ret (v := ?_) ?_ rfl ?_; rotate_left; (simp only [results, Tryz.results16]; go_simp; (first | done | with_reducible rfl)))
    have := hx.size; have := hx2.size
    simp only [World.size_alloc] at *
    exact ⟨_, rfl, ⟨A2, c2, rfl, (h2.keep (by repeat (first | with_reducible exact Kp.refl _ | with_reducible refine Kp.drewN ?_ _ | with_reducible refine Kp.drew ?_ | with_reducible refine Kp.alloc ?_ _ | (with_reducible refine Kp.setCell ?_ ?_ _; rotate_left; (first | (dsimp only; omega) | (simp only [wsz]; omega))) | (with_reducible exact Kp.of_ext (by with_reducible assumption)) | (with_reducible refine Kp.ext ?_ (by with_reducible assumption))))).widen (fun b hb _ => by first | omega | (dsimp only at hb ⊢; omega) | (dsimp only at hb; omega) | (simp only [wsz] at hb ⊢; omega) | (simp only [wsz] at hb; omega))⟩, (by repeat (first | with_reducible assumption | with_reducible exact Ext.refl _ | with_reducible refine Ext.drewN ?_ _ | with_reducible refine Ext.drew ?_ | with_reducible refine Ext.alloc ?_ _ | (with_reducible refine Ext.setCell ?_ ?_ _; rotate_left; (first | exact Nat.le_refl _ | (dsimp only; omega) | (simp only [wsz]; omega))) | (with_reducible refine Ext.trans ?_ (by with_reducible assumption))))⟩
  · obtain ⟨m, rfl⟩ := Int.eq_ofNat_of_zero_le (by omega : 0 ≤ n)
    have ev : Z.v ⟨false, lim m⟩ = (m : Int) := by simp [Z.v, nv_lim]
    rw [Int.natAbs_natCast] at hsmall
    have Ev := Lib.hid ev; clear ev
    go_enter Tryz.func16, Tryz.ntmps16
    go_wp2_with fail
    refine (of_c m (by omega) _).mono ?_
    rintro e w1 ⟨A1, c1, rfl, h1, hx⟩
    go_wp2_with fail
    refine (made_c h1 (by omega)).mono ?_
    rw [Ev.out]
    rintro e w2 ⟨r, rfl, ⟨A2, c2, rfl, h2⟩, hx2⟩
    have hc := (Ext.trans hx hx2).cells
    go_wp2_with fail
    (refine bodyPost_ret (v := ?_) ?_ rfl ?_; rotate_left; (simp only [results, Tryz.results16]; go_simp; (first | done | with_reducible rfl)))
    have := hx.size; have := hx2.size
    simp only [World.size_alloc] at *
    exact ⟨_, rfl, ⟨A2, c2, rfl, (h2.keep (by repeat (first | with_reducible exact Kp.refl _ | with_reducible refine Kp.drewN ?_ _ | with_reducible refine Kp.drew ?_ | with_reducible refine Kp.alloc ?_ _ | (with_reducible refine Kp.setCell ?_ ?_ _; rotate_left; (first | (dsimp only; omega) | (simp only [wsz]; omega))) | (with_reducible exact Kp.of_ext (by with_reducible assumption)) | (with_reducible refine Kp.ext ?_ (by with_reducible assumption))))).widen (fun b hb _ => by first | omega | (dsimp only at hb ⊢; omega) | (dsimp only at hb; omega) | (simp only [wsz] at hb ⊢; omega) | (simp only [wsz] at hb; omega))⟩, (by repeat (first | with_reducible assumption | with_reducible exact Ext.refl _ | with_reducible refine Ext.drewN ?_ _ | with_reducible refine Ext.drew ?_ | with_reducible refine Ext.alloc ?_ _ | (with_reducible refine Ext.setCell ?_ ?_ _; rotate_left; (first | exact Nat.le_refl _ | (dsimp only; omega) | (simp only [wsz]; omega))) | (with_reducible refine Ext.trans ?_ (by with_reducible assumption))))⟩

set_option maxHeartbeats 400000 in
theorem zsign_c {v : Value} {z : Z} {w : World} {X : Nat → Prop} (h : Zi w X v z) :
    Calls Tryz.prog 14 #[v] w fun e w' => e = .returned (.int .i64 (sgn z.v)) ∧ Ext w w' := by
  obtain ⟨A, c, rfl, h⟩ := h
  have hm := h.2.1; have hl := h.1
  simp only [maxLen] at hm
  have fin : ∀ k, k < z.mag.length → nth z.mag k ≠ 0 → sgn z.v = if z.neg then -1 else 1 := by
    intro k hk h0
    have h1 := nv_pos_of h0
    unfold sgn Z.v
    cases z.neg
    · simp only [Bool.false_eq_true, if_false]; exact cmpI_gt (by omega)
    · simp only [if_true]; exact cmpI_lt (by omega)
  have fin0 : (∀ k, k < z.mag.length → nth z.mag k = 0) → sgn z.v = 0 := by
    intro hz
    have h1 := nv_zero_of hz
    unfold sgn Z.v
    rw [h1]
    exact cmpI_eq (by split <;> rfl)
  have Fin := Lib.hid fin; have Fin0 := Lib.hid fin0; clear fin fin0
  go_enter Tryz.func14, Tryz.ntmps14
  go_wp2_with fail
  go_loop [8] (fun iv => ∃ k : Nat, k ≤ z.mag.length ∧ iv = .int .i64 k ∧ ∀ j, j < k → nth z.mag j = 0) (fun iv => z.mag.length - (intOf iv).toNat)
  case atStart => exact ⟨0, Nat.zero_le _, rfl, fun j h => by omega⟩
  case round =>
    obtain ⟨k, hk, rfl, hz⟩ := hrel
    have Hz := Lib.hid hz; clear hz
    by_cases hlt : k < z.mag.length
    · obtain ⟨b, o, rfl, hX, hcell, _⟩ := h.at_ hlt
      have hc1 := hcell k hlt
      have hb := World.block_lt_of_cell? _ _ hc1
      clear hcell
      by_cases hn : nth z.mag k = 0
      · have hn' : (((nth z.mag k : Nat) : Int) == 0) = true := by simp [hn]
        go_wp2_with fail
        go_round
        case rel =>
          refine ⟨k + 1, by omega, by go_num, fun j hj => ?_⟩
          rcases Nat.lt_or_ge j k with h1 | h1
          · exact Hz.out j h1
          · have : j = k := by omega
            subst this; exact hn
        case measure => simp [intOf] <;> omega
      · have hn' : (((nth z.mag k : Nat) : Int) == 0) = false := beq_eq_false_iff_ne.2 (by omega)
        have hs := Fin.out k hlt hn
        have Hs := Lib.hid hs; clear hs
        rcases hneg : z.neg with _ | _
        · rw [hneg] at Hs
          go_wp2_with fail
          go_ret
          exact ⟨ret_int Hs.out.symm, (by repeat (first | with_reducible assumption | with_reducible exact Ext.refl _ | with_reducible refine Ext.drewN ?_ _ | with_reducible refine Ext.drew ?_ | with_reducible refine Ext.alloc ?_ _ | (with_reducible refine Ext.setCell ?_ ?_ _; rotate_left; (first | exact Nat.le_refl _ | (dsimp only; omega) | (simp only [wsz]; omega))) | (with_reducible refine Ext.trans ?_ (by with_reducible assumption))))⟩
        · rw [hneg] at Hs
          go_wp2_with fail
          go_ret
          exact ⟨ret_int Hs.out.symm, (by repeat (first | with_reducible assumption | with_reducible exact Ext.refl _ | with_reducible refine Ext.drewN ?_ _ | with_reducible refine Ext.drew ?_ | with_reducible refine Ext.alloc ?_ _ | (with_reducible refine Ext.setCell ?_ ?_ _; rotate_left; (first | exact Nat.le_refl _ | (dsimp only; omega) | (simp only [wsz]; omega))) | (with_reducible refine Ext.trans ?_ (by with_reducible assumption))))⟩
    · obtain rfl : k = z.mag.length := by omega
      go_wp2_with fail
      go_ret
      exact ⟨ret_int (Fin0.out Hz.out).symm, (by repeat (first | with_reducible assumption | with_reducible exact Ext.refl _ | with_reducible refine Ext.drewN ?_ _ | with_reducible refine Ext.drew ?_ | with_reducible refine Ext.alloc ?_ _ | (with_reducible refine Ext.setCell ?_ ?_ _; rotate_left; (first | exact Nat.le_refl _ | (dsimp only; omega) | (simp only [wsz]; omega))) | (with_reducible refine Ext.trans ?_ (by with_reducible assumption))))⟩

set_option maxHeartbeats 800000 in
theorem zcmp_c {u v : Value} {x y : Z} {w : World} {X Y : Nat → Prop} (hx : Zi w X u x) (hy : Zi w Y v y) :
    Calls Tryz.prog 15 #[u, v] w fun e w' => e = .returned (.int .i64 (cmpI x.v y.v)) ∧ Ext w w' := by
  obtain ⟨A, c, rfl, h1⟩ := hx
  obtain ⟨B, d, rfl, h2⟩ := hy
  have hs1 := fun (W : World) (h : Nl W X A c x.mag) => zsign_c (v := .agg #[.bool x.neg, .slice A x.mag.length c]) (z := x) ⟨A, c, rfl, h⟩
  have hs2 := fun (W : World) (h : Nl W Y B d y.mag) => zsign_c (v := .agg #[.bool y.neg, .slice B y.mag.length d]) (z := y) ⟨B, d, rfl, h⟩
  have hlt := @sgn_lt x.v y.v
  have hgt := @sgn_lt y.v x.v
  have heq := @cmp_mags x y
  have b1 := sgn_bd x.v
  have b2 := sgn_bd y.v
  generalize sgn x.v = s at *
  generalize sgn y.v = t at *
  have Hs1 := Lib.hid hs1; have Hs2 := Lib.hid hs2; have Hlt := Lib.hid hlt; have Hgt := Lib.hid hgt; have Heq := Lib.hid heq
  clear hs1 hs2 hlt hgt heq
  obtain ⟨b1, b1'⟩ := b1
  obtain ⟨b2, b2'⟩ := b2
  go_enter Tryz.func15, Tryz.ntmps15
  go_wp2_with fail
  refine wp_region_seq 5 [(0, true), (2, true), (1, false), (3, false), (4, false), (5, false)] rfl (by kernel_rfl) (by intro _ _ d _ _ h; cases d <;> exact h) ?_
  (repeat (refine sq_take (v := ?_) rfl rfl ?_ ?_; rotate_left; (intro w' hx'; have hc' := hx'.cells.1; (try simp only [wcd] at hc'); go_simp; (first | done | with_reducible rfl)); (try simp only [Act.put, List.setIfInBounds_toArray, List.set_cons_zero, List.set_cons_succ])))
  (refine sq_loud rfl rfl fun K hK => ?_; go_simp)
  refine (Hs1.out _ (h1.ext (by repeat (first | with_reducible assumption | with_reducible exact Ext.refl _ | with_reducible refine Ext.drewN ?_ _ | with_reducible refine Ext.drew ?_ | with_reducible refine Ext.alloc ?_ _ | (with_reducible refine Ext.setCell ?_ ?_ _; rotate_left; (first | exact Nat.le_refl _ | (dsimp only; omega) | (simp only [wsz]; omega))) | (with_reducible refine Ext.trans ?_ (by with_reducible assumption)))))).mono ?_
  rintro e w1 ⟨rfl, hx⟩
  (refine hK _ _ (by repeat (first | with_reducible assumption | with_reducible exact Ext.refl _ | with_reducible refine Ext.drewN ?_ _ | with_reducible refine Ext.drew ?_ | with_reducible refine Ext.alloc ?_ _ | (with_reducible refine Ext.setCell ?_ ?_ _; rotate_left; (first | exact Nat.le_refl _ | (dsimp only; omega) | (simp only [wsz]; omega))) | (with_reducible refine Ext.trans ?_ (by with_reducible assumption)))) ?_; clear hK K; (try simp only [Act.put, List.setIfInBounds_toArray, List.set_cons_zero, List.set_cons_succ]))
  (refine sq_loud rfl rfl fun K hK => ?_; go_simp)
  refine (Hs2.out _ (h2.ext (by repeat (first | with_reducible assumption | with_reducible exact Ext.refl _ | with_reducible refine Ext.drewN ?_ _ | with_reducible refine Ext.drew ?_ | with_reducible refine Ext.alloc ?_ _ | (with_reducible refine Ext.setCell ?_ ?_ _; rotate_left; (first | exact Nat.le_refl _ | (dsimp only; omega) | (simp only [wsz]; omega))) | (with_reducible refine Ext.trans ?_ (by with_reducible assumption)))))).mono ?_
  rintro e w2 ⟨rfl, hx2⟩
  (refine hK _ _ (by repeat (first | with_reducible assumption | with_reducible exact Ext.refl _ | with_reducible refine Ext.drewN ?_ _ | with_reducible refine Ext.drew ?_ | with_reducible refine Ext.alloc ?_ _ | (with_reducible refine Ext.setCell ?_ ?_ _; rotate_left; (first | exact Nat.le_refl _ | (dsimp only; omega) | (simp only [wsz]; omega))) | (with_reducible refine Ext.trans ?_ (by with_reducible assumption)))) ?_; clear hK K; (try simp only [Act.put, List.setIfInBounds_toArray, List.set_cons_zero, List.set_cons_succ]))
  replace hx := hx.trans hx2
  clear hx2
  (refine sq_loud rfl rfl fun K hK => ?_; go_simp)
  (refine hK _ _ (by repeat (first | with_reducible assumption | with_reducible exact Ext.refl _ | with_reducible refine Ext.drewN ?_ _ | with_reducible refine Ext.drew ?_ | with_reducible refine Ext.alloc ?_ _ | (with_reducible refine Ext.setCell ?_ ?_ _; rotate_left; (first | exact Nat.le_refl _ | (dsimp only; omega) | (simp only [wsz]; omega))) | (with_reducible refine Ext.trans ?_ (by with_reducible assumption)))) ?_; clear hK K; (try simp only [Act.put, List.setIfInBounds_toArray, List.set_cons_zero, List.set_cons_succ]))
  (refine sq_last rfl rfl fun K hK => ?_; go_simp; refine hK _ _ ?_; clear hK K)
  have hc := hx.cells
  have hw : ∀ W, Ext w2 W → Ext w W := fun W h => Ext.trans (by repeat (first | with_reducible assumption | with_reducible exact Ext.refl _ | with_reducible refine Ext.drewN ?_ _ | with_reducible refine Ext.drew ?_ | with_reducible refine Ext.alloc ?_ _ | (with_reducible refine Ext.setCell ?_ ?_ _; rotate_left; (first | exact Nat.le_refl _ | (dsimp only; omega) | (simp only [wsz]; omega))) | (with_reducible refine Ext.trans ?_ (by with_reducible assumption)))) h
  rcases Int.lt_trichotomy s t with hst | hst | hst
  · have hne : (s != t) = true := by rw [bne_iff_ne]; omega
    have hcm := Lib.hid (cmpI_lt (Hlt.out hst))
    go_wp2_with fail
    all_goals
      go_ret
      exact ⟨ret_int (by rw [hcm.out] <;> omega), hw _ (by repeat (first | with_reducible assumption | with_reducible exact Ext.refl _ | with_reducible refine Ext.drewN ?_ _ | with_reducible refine Ext.drew ?_ | with_reducible refine Ext.alloc ?_ _ | (with_reducible refine Ext.setCell ?_ ?_ _; rotate_left; (first | exact Nat.le_refl _ | (dsimp only; omega) | (simp only [wsz]; omega))) | (with_reducible refine Ext.trans ?_ (by with_reducible assumption))))⟩
  · have hne : (s != t) = false := by simp [hst]
    have Hst := Lib.hid hst
    clear hst
    by_cases h0 : s < 0
    · have hcm := Lib.hid ((Heq.out Hst.out).1 h0)
      go_wp2_with fail
      refine (cmp_c (h2.ext (hw _ (by repeat (first | with_reducible assumption | with_reducible exact Ext.refl _ | with_reducible refine Ext.drewN ?_ _ | with_reducible refine Ext.drew ?_ | with_reducible refine Ext.alloc ?_ _ | (with_reducible refine Ext.setCell ?_ ?_ _; rotate_left; (first | exact Nat.le_refl _ | (dsimp only; omega) | (simp only [wsz]; omega))) | (with_reducible refine Ext.trans ?_ (by with_reducible assumption)))))) (h1.ext (hw _ (by repeat (first | with_reducible assumption | with_reducible exact Ext.refl _ | with_reducible refine Ext.drewN ?_ _ | with_reducible refine Ext.drew ?_ | with_reducible refine Ext.alloc ?_ _ | (with_reducible refine Ext.setCell ?_ ?_ _; rotate_left; (first | exact Nat.le_refl _ | (dsimp only; omega) | (simp only [wsz]; omega))) | (with_reducible refine Ext.trans ?_ (by with_reducible assumption))))))).mono ?_
      rintro e w3 ⟨rfl, hx3⟩
      go_wp2_with fail
      go_ret
      exact ⟨ret_int hcm.out.symm, hw _ (by repeat (first | with_reducible assumption | with_reducible exact Ext.refl _ | with_reducible refine Ext.drewN ?_ _ | with_reducible refine Ext.drew ?_ | with_reducible refine Ext.alloc ?_ _ | (with_reducible refine Ext.setCell ?_ ?_ _; rotate_left; (first | exact Nat.le_refl _ | (dsimp only; omega) | (simp only [wsz]; omega))) | (with_reducible refine Ext.trans ?_ (by with_reducible assumption))))⟩
    · have hcm := Lib.hid ((Heq.out Hst.out).2 (by omega))
      go_wp2_with fail
      refine (cmp_c (h1.ext (hw _ (by repeat (first | with_reducible assumption | with_reducible exact Ext.refl _ | with_reducible refine Ext.drewN ?_ _ | with_reducible refine Ext.drew ?_ | with_reducible refine Ext.alloc ?_ _ | (with_reducible refine Ext.setCell ?_ ?_ _; rotate_left; (first | exact Nat.le_refl _ | (dsimp only; omega) | (simp only [wsz]; omega))) | (with_reducible refine Ext.trans ?_ (by with_reducible assumption)))))) (h2.ext (hw _ (by repeat (first | with_reducible assumption | with_reducible exact Ext.refl _ | with_reducible refine Ext.drewN ?_ _ | with_reducible refine Ext.drew ?_ | with_reducible refine Ext.alloc ?_ _ | (with_reducible refine Ext.setCell ?_ ?_ _; rotate_left; (first | exact Nat.le_refl _ | (dsimp only; omega) | (simp only [wsz]; omega))) | (with_reducible refine Ext.trans ?_ (by with_reducible assumption))))))).mono ?_
      rintro e w3 ⟨rfl, hx3⟩
      go_wp2_with fail
      go_ret
      exact ⟨ret_int hcm.out.symm, hw _ (by repeat (first | with_reducible assumption | with_reducible exact Ext.refl _ | with_reducible refine Ext.drewN ?_ _ | with_reducible refine Ext.drew ?_ | with_reducible refine Ext.alloc ?_ _ | (with_reducible refine Ext.setCell ?_ ?_ _; rotate_left; (first | exact Nat.le_refl _ | (dsimp only; omega) | (simp only [wsz]; omega))) | (with_reducible refine Ext.trans ?_ (by with_reducible assumption))))⟩
  · have hne : (s != t) = true := by rw [bne_iff_ne]; omega
    have hcm := Lib.hid (cmpI_gt (Hgt.out hst))
    go_wp2_with fail
    all_goals
      go_ret
      exact ⟨ret_int (by rw [hcm.out] <;> omega), hw _ (by repeat (first | with_reducible assumption | with_reducible exact Ext.refl _ | with_reducible refine Ext.drewN ?_ _ | with_reducible refine Ext.drew ?_ | with_reducible refine Ext.alloc ?_ _ | (with_reducible refine Ext.setCell ?_ ?_ _; rotate_left; (first | exact Nat.le_refl _ | (dsimp only; omega) | (simp only [wsz]; omega))) | (with_reducible refine Ext.trans ?_ (by with_reducible assumption))))⟩

set_option maxHeartbeats 800000 in
theorem zmul_c {u v : Value} {x y : Z} {w : World} {X Y : Nat → Prop} (hx : Zi w X u x) (hy : Zi w Y v y) (hLx : x.mag.length ≤ 1099511627776) (hLy : y.mag.length ≤ 1099511627776) :
    Calls Tryz.prog 93 #[u, v] w fun e w' => ∃ r, e = .returned r ∧ Zi w' (w.heap.size ≤ ·) r (cz (x.v * y.v)) ∧ Ext w w' := by
  obtain ⟨A, c, rfl, h1⟩ := hx
  obtain ⟨B, d, rfl, h2⟩ := hy
  obtain ⟨nx, a⟩ := x
  obtain ⟨ny, b⟩ := y
  rw [← v_mul]
  have hlen : (lim (nv a * nv b)).length ≤ 4398046511104 := by
    have := zl_mul (nv a) (nv b)
    unfold zl at this
    rw [Int.natAbs_mul, Int.natAbs_natCast, Int.natAbs_natCast] at this
    have h3 : (lim (nv a)).length ≤ a.length := lim_len_le h1.lb
    have h4 : (lim (nv b)).length ≤ b.length := lim_len_le h2.lb
    simp only at hLx hLy
    omega
  go_enter Tryz.func93, Tryz.ntmps93
  go_wp2_with fail
  refine wp_region_seq 11 [(0, true), (1, true), (2, true), (3, true), (4, true), (5, true), (6, true), (7, true), (8, true), (9, false), (10, false), (11, false)] rfl (by kernel_rfl) (by intro _ _ d _ _ h; cases d <;> exact h) ?_
  (repeat (refine sq_take (v := ?_) rfl rfl ?_ ?_; rotate_left; (intro w' hx'; have hc' := hx'.cells.1; (try simp only [wcd] at hc'); go_simp; (first | done | with_reducible rfl)); (try simp only [Act.put, List.setIfInBounds_toArray, List.set_cons_zero, List.set_cons_succ])))
  (refine sq_loud rfl rfl fun K hK => ?_; go_simp)
  refine (mul_c (h1.ext (by repeat (first | with_reducible assumption | with_reducible exact Ext.refl _ | with_reducible refine Ext.drewN ?_ _ | with_reducible refine Ext.drew ?_ | with_reducible refine Ext.alloc ?_ _ | (with_reducible refine Ext.setCell ?_ ?_ _; rotate_left; (first | exact Nat.le_refl _ | (dsimp only; omega) | (simp only [wsz]; omega))) | (with_reducible refine Ext.trans ?_ (by with_reducible assumption))))) (h2.ext (by repeat (first | with_reducible assumption | with_reducible exact Ext.refl _ | with_reducible refine Ext.drewN ?_ _ | with_reducible refine Ext.drew ?_ | with_reducible refine Ext.alloc ?_ _ | (with_reducible refine Ext.setCell ?_ ?_ _; rotate_left; (first | exact Nat.le_refl _ | (dsimp only; omega) | (simp only [wsz]; omega))) | (with_reducible refine Ext.trans ?_ (by with_reducible assumption))))) hLx hLy).mono ?_
  rintro e w1 ⟨A1, c1, rfl, h3, hx⟩
  (refine hK _ _ (by repeat (first | with_reducible assumption | with_reducible exact Ext.refl _ | with_reducible refine Ext.drewN ?_ _ | with_reducible refine Ext.drew ?_ | with_reducible refine Ext.alloc ?_ _ | (with_reducible refine Ext.setCell ?_ ?_ _; rotate_left; (first | exact Nat.le_refl _ | (dsimp only; omega) | (simp only [wsz]; omega))) | (with_reducible refine Ext.trans ?_ (by with_reducible assumption)))) ?_; clear hK K; (try simp only [Act.put, List.setIfInBounds_toArray, List.set_cons_zero, List.set_cons_succ]))
  (refine sq_loud rfl rfl fun K hK => ?_; go_simp)
  refine (made_c h3 hlen).mono ?_
  rintro e w2 ⟨r, rfl, ⟨A2, c2, rfl, h4⟩, hx2⟩
  (refine hK _ _ (by repeat (first | with_reducible assumption | with_reducible exact Ext.refl _ | with_reducible refine Ext.drewN ?_ _ | with_reducible refine Ext.drew ?_ | with_reducible refine Ext.alloc ?_ _ | (with_reducible refine Ext.setCell ?_ ?_ _; rotate_left; (first | exact Nat.le_refl _ | (dsimp only; omega) | (simp only [wsz]; omega))) | (with_reducible refine Ext.trans ?_ (by with_reducible assumption)))) ?_; clear hK K; (try simp only [Act.put, List.setIfInBounds_toArray, List.set_cons_zero, List.set_cons_succ]))
  (have hs := Ext.size hx; (try simp only [wsz] at hs))
  replace hx := hx.trans hx2
  clear hx2
  have hc := hx.cells
  (refine sq_last rfl rfl fun K hK => ?_; go_simp; refine hK _ _ ?_; clear hK K)
  go_wp2_with fail
  (refine bodyPost_ret (v := ?_) ?_ rfl ?_; rotate_left; (simp only [results, Tryz.results93]; go_simp; (first | done | with_reducible rfl)))
  exact ⟨_, rfl, ⟨A2, c2, rfl, (h4.keep (by repeat (first | with_reducible exact Kp.refl _ | with_reducible refine Kp.drewN ?_ _ | with_reducible refine Kp.drew ?_ | with_reducible refine Kp.alloc ?_ _ | (with_reducible refine Kp.setCell ?_ ?_ _; rotate_left; (first | (dsimp only; omega) | (simp only [wsz]; omega))) | (with_reducible exact Kp.of_ext (by with_reducible assumption)) | (with_reducible refine Kp.ext ?_ (by with_reducible assumption))))).widen (fun b hb _ => by first | omega | (dsimp only at hb ⊢; omega) | (dsimp only at hb; omega) | (simp only [wsz] at hb ⊢; omega) | (simp only [wsz] at hb; omega))⟩, (by repeat (first | with_reducible assumption | with_reducible exact Ext.refl _ | with_reducible refine Ext.drewN ?_ _ | with_reducible refine Ext.drew ?_ | with_reducible refine Ext.alloc ?_ _ | (with_reducible refine Ext.setCell ?_ ?_ _; rotate_left; (first | exact Nat.le_refl _ | (dsimp only; omega) | (simp only [wsz]; omega))) | (with_reducible refine Ext.trans ?_ (by with_reducible assumption))))⟩

set_option maxHeartbeats 1600000 in
theorem zadd_c {u v : Value} {x y : Z} {w : World} {X Y : Nat → Prop} (hx : Zi w X u x) (hy : Zi w Y v y) (hLx : x.mag.length ≤ 1099511627776) (hLy : y.mag.length ≤ 1099511627776) :
    Calls Tryz.prog 62 #[u, v] w fun e w' => ∃ r, e = .returned r ∧ Zi w' (w.heap.size ≤ ·) r (cz (x.v + y.v)) ∧ Ext w w' := by
  obtain ⟨A, c, rfl, h1⟩ := hx
  obtain ⟨B, d, rfl, h2⟩ := hy
  obtain ⟨nx, a⟩ := x
  obtain ⟨ny, b⟩ := y
  have ha : (lim (nv a)).length ≤ a.length := lim_len_le h1.lb
  have hb : (lim (nv b)).length ≤ b.length := lim_len_le h2.lb
  simp only at hLx hLy
  go_enter Tryz.func62, Tryz.ntmps62
  by_cases hn : nx = ny
  · subst hn
    have hlen : (lim (nv a + nv b)).length ≤ 4398046511104 := by
      have := zl_add (x := nv a) (y := nv b) (k := 1099511627776) (by unfold zl; rw [Int.natAbs_natCast]; omega) (by unfold zl; rw [Int.natAbs_natCast]; omega)
      unfold zl at this
      have e : ((nv a : Int) + nv b).natAbs = nv a + nv b := by omega
      rw [e] at this
      omega
    have e := Lib.hid (v_add_same nx a b)
    go_wp2_with fail
    refine wp_region_seq 8 [(0, true), (1, true), (2, true), (3, true), (4, true), (5, true), (6, false), (7, false), (8, false)] rfl (by kernel_rfl) (by intro _ _ d _ _ h; cases d <;> exact h) ?_
    (repeat (refine sq_take (v := ?_) rfl rfl ?_ ?_; rotate_left; (intro w' hx'; have hc' := hx'.cells.1; (try simp only [wcd] at hc'); go_simp; (first | done | with_reducible rfl)); (try simp only [Act.put, List.setIfInBounds_toArray, List.set_cons_zero, List.set_cons_succ])))
    (refine sq_loud rfl rfl fun K hK => ?_; go_simp)
    refine (add_c (h1.ext (by repeat (first | with_reducible assumption | with_reducible exact Ext.refl _ | with_reducible refine Ext.drewN ?_ _ | with_reducible refine Ext.drew ?_ | with_reducible refine Ext.alloc ?_ _ | (with_reducible refine Ext.setCell ?_ ?_ _; rotate_left; (first | exact Nat.le_refl _ | (dsimp only; omega) | (simp only [wsz]; omega))) | (with_reducible refine Ext.trans ?_ (by with_reducible assumption))))) (h2.ext (by repeat (first | with_reducible assumption | with_reducible exact Ext.refl _ | with_reducible refine Ext.drewN ?_ _ | with_reducible refine Ext.drew ?_ | with_reducible refine Ext.alloc ?_ _ | (with_reducible refine Ext.setCell ?_ ?_ _; rotate_left; (first | exact Nat.le_refl _ | (dsimp only; omega) | (simp only [wsz]; omega))) | (with_reducible refine Ext.trans ?_ (by with_reducible assumption))))) hLx hLy).mono ?_
    rintro e w1 ⟨A1, c1, rfl, h3, hx⟩
    (refine hK _ _ (by repeat (first | with_reducible assumption | with_reducible exact Ext.refl _ | with_reducible refine Ext.drewN ?_ _ | with_reducible refine Ext.drew ?_ | with_reducible refine Ext.alloc ?_ _ | (with_reducible refine Ext.setCell ?_ ?_ _; rotate_left; (first | exact Nat.le_refl _ | (dsimp only; omega) | (simp only [wsz]; omega))) | (with_reducible refine Ext.trans ?_ (by with_reducible assumption)))) ?_; clear hK K; (try simp only [Act.put, List.setIfInBounds_toArray, List.set_cons_zero, List.set_cons_succ]))
    (refine sq_loud rfl rfl fun K hK => ?_; go_simp)
    refine (made_c h3 hlen).mono ?_
    rintro e w2 ⟨r, rfl, ⟨A2, c2, rfl, h4⟩, hx2⟩
    (refine hK _ _ (by repeat (first | with_reducible assumption | with_reducible exact Ext.refl _ | with_reducible refine Ext.drewN ?_ _ | with_reducible refine Ext.drew ?_ | with_reducible refine Ext.alloc ?_ _ | (with_reducible refine Ext.setCell ?_ ?_ _; rotate_left; (first | exact Nat.le_refl _ | (dsimp only; omega) | (simp only [wsz]; omega))) | (with_reducible refine Ext.trans ?_ (by with_reducible assumption)))) ?_; clear hK K; (try simp only [Act.put, List.setIfInBounds_toArray, List.set_cons_zero, List.set_cons_succ]))
    (have hs := Ext.size hx; (try simp only [wsz] at hs))
    replace hx := hx.trans hx2
    clear hx2
    have hc := hx.cells
    (refine sq_last rfl rfl fun K hK => ?_; go_simp; refine hK _ _ ?_; clear hK K)
    go_wp2_with fail
    (refine bodyPost_ret (v := ?_) ?_ rfl ?_; rotate_left; (simp only [results, Tryz.results62]; go_simp; (first | done | with_reducible rfl)))
    exact ⟨_, rfl, e.out ▸ ⟨A2, c2, rfl, (h4.keep (by repeat (first | with_reducible exact Kp.refl _ | with_reducible refine Kp.drewN ?_ _ | with_reducible refine Kp.drew ?_ | with_reducible refine Kp.alloc ?_ _ | (with_reducible refine Kp.setCell ?_ ?_ _; rotate_left; (first | (dsimp only; omega) | (simp only [wsz]; omega))) | (with_reducible exact Kp.of_ext (by with_reducible assumption)) | (with_reducible refine Kp.ext ?_ (by with_reducible assumption))))).widen (fun b hb _ => by first | omega | (dsimp only at hb ⊢; omega) | (dsimp only at hb; omega) | (simp only [wsz] at hb ⊢; omega) | (simp only [wsz] at hb; omega))⟩, (by repeat (first | with_reducible assumption | with_reducible exact Ext.refl _ | with_reducible refine Ext.drewN ?_ _ | with_reducible refine Ext.drew ?_ | with_reducible refine Ext.alloc ?_ _ | (with_reducible refine Ext.setCell ?_ ?_ _; rotate_left; (first | exact Nat.le_refl _ | (dsimp only; omega) | (simp only [wsz]; omega))) | (with_reducible refine Ext.trans ?_ (by with_reducible assumption))))⟩
  · have hne : (nx == ny) = false := by cases nx <;> cases ny <;> simp at hn ⊢
    go_wp2_with fail
    refine (cmp_c (h1.ext (by repeat (first | with_reducible assumption | with_reducible exact Ext.refl _ | with_reducible refine Ext.drewN ?_ _ | with_reducible refine Ext.drew ?_ | with_reducible refine Ext.alloc ?_ _ | (with_reducible refine Ext.setCell ?_ ?_ _; rotate_left; (first | exact Nat.le_refl _ | (dsimp only; omega) | (simp only [wsz]; omega))) | (with_reducible refine Ext.trans ?_ (by with_reducible assumption))))) (h2.ext (by repeat (first | with_reducible assumption | with_reducible exact Ext.refl _ | with_reducible refine Ext.drewN ?_ _ | with_reducible refine Ext.drew ?_ | with_reducible refine Ext.alloc ?_ _ | (with_reducible refine Ext.setCell ?_ ?_ _; rotate_left; (first | exact Nat.le_refl _ | (dsimp only; omega) | (simp only [wsz]; omega))) | (with_reducible refine Ext.trans ?_ (by with_reducible assumption)))))).mono ?_
    rintro e w1 ⟨rfl, hx⟩
    have hc := hx.cells
    rcases Nat.lt_or_ge (nv a) (nv b) with hlt | hlt
    · have h0 : cmpN (nv a) (nv b) < 0 := by rw [cmpN_lt hlt]; omega
      have e := v_add_other ny nx b a (Ne.symm hn) (by omega)
      rw [Int.add_comm] at e
      have E := Lib.hid e; clear e
      have hlen : (lim (nv b - nv a)).length ≤ 4398046511104 := by
        have := lim_pw (n := nv b - nv a) (k := b.length) (by have := nv_lt h2.lb; omega)
        omega
      (have hs := Ext.size hx; (try simp only [wsz] at hs))
      go_upto_region 5 with fail
      refine wp_named fun W hW => ?_
      have B1 : Box W w.heap.size 24 #[.bool ny, .slice B b.length d] := by rw [hW]; exact (((((Box.alloc (Box.alloc (Box.new w _ _) _) _).ext hx).set_ _ _).set_ _ _).far (by simp <;> omega) _).far (by simp <;> omega) _
      have B2 : Box W (w.heap.size + 1) 24 #[.bool nx, .slice A a.length c] := by rw [hW]; exact (((((Box.alloc (Box.new_at (w.alloc (.cells #[.bool nx, .slice A a.length c] 24)) _ _ (by simp)) _).ext hx).far (by simp <;> omega) _).far (by simp <;> omega) _).set_ _ _).set_ _ _
      have B3 : Box W (w.heap.size + 1 + 1) 24 #[.bool false, .slice none 0 0] := by
        rw [hW]
        have q : Box ((w.alloc (.cells #[.bool nx, .slice A a.length c] 24)).alloc (.cells #[.bool ny, .slice B b.length d] 24) |>.alloc (.cells #[.bool false, .slice none 0 0] 24)) (w.heap.size + 1 + 1) 24 #[.bool false, .slice none 0 0] := Box.new_at _ _ _ (by simp)
        exact ((((q.ext hx).far (by simp <;> omega) _).far (by simp <;> omega) _).far (by simp <;> omega) _).far (by simp <;> omega) _
      have hxW : Ext w W := by rw [hW]; exact (by repeat (first | with_reducible assumption | with_reducible exact Ext.refl _ | with_reducible refine Ext.drewN ?_ _ | with_reducible refine Ext.drew ?_ | with_reducible refine Ext.alloc ?_ _ | (with_reducible refine Ext.setCell ?_ ?_ _; rotate_left; (first | exact Nat.le_refl _ | (dsimp only; omega) | (simp only [wsz]; omega))) | (with_reducible refine Ext.trans ?_ (by with_reducible assumption))))
      clear hW hc hx
      have r1 := B1.rules; have r2 := B2.rules
      go_wp2_with fail
      refine (sub_c (h2.ext hxW) (h1.ext hxW) (by omega) hLy).mono ?_
      rintro e w2 ⟨A1, c1, rfl, h3, hx⟩
      have r4 := (B1.ext hx).rules
      go_wp2_with fail
      refine (made_c h3 hlen).mono ?_
      rintro e w3 ⟨r, rfl, ⟨A2, c2, rfl, h4⟩, hx2⟩
      (have hs2 := Ext.size hx; (try simp only [wsz] at hs2))
      (replace hx := Ext.trans hx hx2; clear hx2; have hc := Ext.cells hx)
      have r3 := B3.rules
      have hlt3 := B3.lt
      have hsW := hxW.size
      go_wp2_with fail
      (refine bodyPost_ret (v := ?_) ?_ rfl ?_; rotate_left; (simp only [results, Tryz.results62]; go_simp; (first | done | with_reducible rfl)))
      exact ⟨_, rfl, E.out ▸ ⟨A2, c2, rfl, (h4.keep (by repeat (first | with_reducible exact Kp.refl _ | with_reducible refine Kp.drewN ?_ _ | with_reducible refine Kp.drew ?_ | with_reducible refine Kp.alloc ?_ _ | (with_reducible refine Kp.setCell ?_ ?_ _; rotate_left; (first | (dsimp only; omega) | (simp only [wsz]; omega))) | (with_reducible exact Kp.of_ext (by with_reducible assumption)) | (with_reducible refine Kp.ext ?_ (by with_reducible assumption))))).widen (fun b hb _ => by first | omega | (dsimp only at hb ⊢; omega) | (dsimp only at hb; omega) | (simp only [wsz] at hb ⊢; omega) | (simp only [wsz] at hb; omega))⟩, (by repeat (first | with_reducible assumption | with_reducible exact Ext.refl _ | with_reducible refine Ext.drewN ?_ _ | with_reducible refine Ext.drew ?_ | with_reducible refine Ext.alloc ?_ _ | (with_reducible refine Ext.setCell ?_ ?_ _; rotate_left; (first | exact Nat.le_refl _ | (dsimp only; omega) | (simp only [wsz]; omega))) | (with_reducible refine Ext.trans ?_ (by with_reducible assumption))))⟩
    · have h0 : ¬ cmpN (nv a) (nv b) < 0 := by unfold cmpN; rw [if_neg (by omega)]; split <;> omega
      have e := v_add_other nx ny a b hn hlt
      have E := Lib.hid e; clear e
      have hlen : (lim (nv a - nv b)).length ≤ 4398046511104 := by
        have := lim_pw (n := nv a - nv b) (k := a.length) (by have := nv_lt h1.lb; omega)
        omega
      go_wp2_with fail
      refine (sub_c (h1.ext (by repeat (first | with_reducible assumption | with_reducible exact Ext.refl _ | with_reducible refine Ext.drewN ?_ _ | with_reducible refine Ext.drew ?_ | with_reducible refine Ext.alloc ?_ _ | (with_reducible refine Ext.setCell ?_ ?_ _; rotate_left; (first | exact Nat.le_refl _ | (dsimp only; omega) | (simp only [wsz]; omega))) | (with_reducible refine Ext.trans ?_ (by with_reducible assumption))))) (h2.ext (by repeat (first | with_reducible assumption | with_reducible exact Ext.refl _ | with_reducible refine Ext.drewN ?_ _ | with_reducible refine Ext.drew ?_ | with_reducible refine Ext.alloc ?_ _ | (with_reducible refine Ext.setCell ?_ ?_ _; rotate_left; (first | exact Nat.le_refl _ | (dsimp only; omega) | (simp only [wsz]; omega))) | (with_reducible refine Ext.trans ?_ (by with_reducible assumption))))) (by omega) hLx).mono ?_
      rintro e w2 ⟨A1, c1, rfl, h3, hx2⟩
      (have hs := Ext.size hx; (try simp only [wsz] at hs))
      (replace hx := Ext.trans hx hx2; clear hx2; have hc := Ext.cells hx)
      go_wp2_with fail
      refine (made_c h3 hlen).mono ?_
      rintro e w3 ⟨r, rfl, ⟨A2, c2, rfl, h4⟩, hx2⟩
      (have hs2 := Ext.size hx; (try simp only [wsz] at hs2))
      (replace hx := Ext.trans hx hx2; clear hx2; have hc := Ext.cells hx)
      go_wp2_with fail
      (refine bodyPost_ret (v := ?_) ?_ rfl ?_; rotate_left; (simp only [results, Tryz.results62]; go_simp; (first | done | with_reducible rfl)))
      exact ⟨_, rfl, E.out ▸ ⟨A2, c2, rfl, (h4.keep (by repeat (first | with_reducible exact Kp.refl _ | with_reducible refine Kp.drewN ?_ _ | with_reducible refine Kp.drew ?_ | with_reducible refine Kp.alloc ?_ _ | (with_reducible refine Kp.setCell ?_ ?_ _; rotate_left; (first | (dsimp only; omega) | (simp only [wsz]; omega))) | (with_reducible exact Kp.of_ext (by with_reducible assumption)) | (with_reducible refine Kp.ext ?_ (by with_reducible assumption))))).widen (fun b hb _ => by first | omega | (dsimp only at hb ⊢; omega) | (dsimp only at hb; omega) | (simp only [wsz] at hb ⊢; omega) | (simp only [wsz] at hb; omega))⟩, (by repeat (first | with_reducible assumption | with_reducible exact Ext.refl _ | with_reducible refine Ext.drewN ?_ _ | with_reducible refine Ext.drew ?_ | with_reducible refine Ext.alloc ?_ _ | (with_reducible refine Ext.setCell ?_ ?_ _; rotate_left; (first | exact Nat.le_refl _ | (dsimp only; omega) | (simp only [wsz]; omega))) | (with_reducible refine Ext.trans ?_ (by with_reducible assumption))))⟩

set_option maxHeartbeats 800000 in
theorem zsub_c {u v : Value} {x y : Z} {w : World} {X Y : Nat → Prop} (hx : Zi w X u x) (hy : Zi w Y v y) (hLx : x.mag.length ≤ 1099511627776) (hLy : y.mag.length ≤ 1099511627776) :
    Calls Tryz.prog 63 #[u, v] w fun e w' => ∃ r, e = .returned r ∧ Zi w' (w.heap.size ≤ ·) r (cz (x.v - y.v)) ∧ Ext w w' := by
  have hly := zl_of hy.lb
  obtain ⟨A, c, rfl, h1⟩ := hx
  obtain ⟨B, d, rfl, h2⟩ := hy
  have e1 := Lib.hid (show x.v + (cz (-y.v)).v = x.v - y.v by rw [cz_v]; omega)
  have e2 : (cz (-y.v)).mag.length ≤ 1099511627776 := by rw [cz_len, zl_neg]; omega
  go_enter Tryz.func63, Tryz.ntmps63
  go_wp2_with fail
  refine wp_region_seq 4 [(0, true), (1, true), (2, false), (3, false), (4, false)] rfl (by kernel_rfl) (by intro _ _ d _ _ h; cases d <;> exact h) ?_
  (repeat (refine sq_take (v := ?_) rfl rfl ?_ ?_; rotate_left; (intro w' hx'; have hc' := hx'.cells.1; (try simp only [wcd] at hc'); go_simp; (first | done | with_reducible rfl)); (try simp only [Act.put, List.setIfInBounds_toArray, List.set_cons_zero, List.set_cons_succ])))
  (refine sq_loud rfl rfl fun K hK => ?_; go_simp)
  refine (zneg_c ⟨B, d, rfl, h2.ext (by repeat (first | with_reducible assumption | with_reducible exact Ext.refl _ | with_reducible refine Ext.drewN ?_ _ | with_reducible refine Ext.drew ?_ | with_reducible refine Ext.alloc ?_ _ | (with_reducible refine Ext.setCell ?_ ?_ _; rotate_left; (first | exact Nat.le_refl _ | (dsimp only; omega) | (simp only [wsz]; omega))) | (with_reducible refine Ext.trans ?_ (by with_reducible assumption))))⟩ (by omega)).mono ?_
  rintro e w1 ⟨r, rfl, ⟨A1, c1, rfl, h3⟩, hx⟩
  (refine hK _ _ (by repeat (first | with_reducible assumption | with_reducible exact Ext.refl _ | with_reducible refine Ext.drewN ?_ _ | with_reducible refine Ext.drew ?_ | with_reducible refine Ext.alloc ?_ _ | (with_reducible refine Ext.setCell ?_ ?_ _; rotate_left; (first | exact Nat.le_refl _ | (dsimp only; omega) | (simp only [wsz]; omega))) | (with_reducible refine Ext.trans ?_ (by with_reducible assumption)))) ?_; clear hK K; (try simp only [Act.put, List.setIfInBounds_toArray, List.set_cons_zero, List.set_cons_succ]))
  (refine sq_loud rfl rfl fun K hK => ?_; go_simp)
  refine (zadd_c ⟨A, c, rfl, (h1.ext (by repeat (first | with_reducible assumption | with_reducible exact Ext.refl _ | with_reducible refine Ext.drewN ?_ _ | with_reducible refine Ext.drew ?_ | with_reducible refine Ext.alloc ?_ _ | (with_reducible refine Ext.setCell ?_ ?_ _; rotate_left; (first | exact Nat.le_refl _ | (dsimp only; omega) | (simp only [wsz]; omega))) | (with_reducible refine Ext.trans ?_ (by with_reducible assumption))))).ext hx⟩ ⟨A1, c1, rfl, h3⟩ hLx e2).mono ?_
  rw [e1.out]
  rintro e w2 ⟨r, rfl, ⟨A2, c2, rfl, h4⟩, hx2⟩
  (refine hK _ _ (by repeat (first | with_reducible assumption | with_reducible exact Ext.refl _ | with_reducible refine Ext.drewN ?_ _ | with_reducible refine Ext.drew ?_ | with_reducible refine Ext.alloc ?_ _ | (with_reducible refine Ext.setCell ?_ ?_ _; rotate_left; (first | exact Nat.le_refl _ | (dsimp only; omega) | (simp only [wsz]; omega))) | (with_reducible refine Ext.trans ?_ (by with_reducible assumption)))) ?_; clear hK K; (try simp only [Act.put, List.setIfInBounds_toArray, List.set_cons_zero, List.set_cons_succ]))
  (have hs := Ext.size hx; (try simp only [wsz] at hs))
  (replace hx := Ext.trans hx hx2; clear hx2; have hc := Ext.cells hx)
  (refine sq_last rfl rfl fun K hK => ?_; go_simp; refine hK _ _ ?_; clear hK K)
  go_wp2_with fail
  (refine bodyPost_ret (v := ?_) ?_ rfl ?_; rotate_left; (simp only [results, Tryz.results63]; go_simp; (first | done | with_reducible rfl)))
  exact ⟨_, rfl, ⟨A2, c2, rfl, (h4.keep (by repeat (first | with_reducible exact Kp.refl _ | with_reducible refine Kp.drewN ?_ _ | with_reducible refine Kp.drew ?_ | with_reducible refine Kp.alloc ?_ _ | (with_reducible refine Kp.setCell ?_ ?_ _; rotate_left; (first | (dsimp only; omega) | (simp only [wsz]; omega))) | (with_reducible exact Kp.of_ext (by with_reducible assumption)) | (with_reducible refine Kp.ext ?_ (by with_reducible assumption))))).widen (fun b hb _ => by first | omega | (dsimp only at hb ⊢; omega) | (dsimp only at hb; omega) | (simp only [wsz] at hb ⊢; omega) | (simp only [wsz] at hb; omega))⟩, (by repeat (first | with_reducible assumption | with_reducible exact Ext.refl _ | with_reducible refine Ext.drewN ?_ _ | with_reducible refine Ext.drew ?_ | with_reducible refine Ext.alloc ?_ _ | (with_reducible refine Ext.setCell ?_ ?_ _; rotate_left; (first | exact Nat.le_refl _ | (dsimp only; omega) | (simp only [wsz]; omega))) | (with_reducible refine Ext.trans ?_ (by with_reducible assumption))))⟩

end Go.Proofs.YthmjgbkakjpfkaaGreatDoor
