/- Contracts of package zint. No conditions. nat.short; nat.DivMod by one limb. No conditions. A region that draws its order, two of whose operations may come in either order. No conditions. A region that draws its order, the last operations of which (stores) wait for all others. No conditions. A region that draws its order, walked in a tree of orders: each step leaves what was there at the region's begin as it was, but for the last ones, which wait for all others. No conditions. -/
import Derived.Test.YtpkfjbljhneenaaGreatGDoesAe
import Derived.Test.YtpkfjbljhneenaaGreatGDoesAc
namespace Go.Proofs.YtpkfjbljhneenaaGreat
open Go.RowKit

set_option maxHeartbeats 400000 in
theorem cloneu_c {A : Option Addr} {c : Nat} {l : List Nat} {w : World} {X : Nat → Prop} (h : Nl w X A c l) (hL : l.length ≤ 4398046511104) :
    Calls Tryz.prog 123 #[.slice A l.length c] w fun e w' => ∃ A' c', e = .returned (.slice A' l.length c') ∧ Nl w' (w.heap.size ≤ ·) A' c' l ∧ Ext w w' := by
  have hn := fun (W : World) (A : Option Addr) (n c : Nat) => Lib.run_eql_slice_nil (P := Tryz.prog) W 23 47 A n c 0 0 Tryz.underlying23
  cases A with
  | none =>
    have h0 : l = [] := by
      rcases Nat.eq_zero_or_pos l.length with h0 | h0
      · exact List.eq_nil_of_length_eq_zero h0
      · obtain ⟨b, o, hA, _⟩ := h.2.2.1 h0
        cases hA
    subst h0
    go_enter Tryz.func123, Tryz.ntmps123
    go_wp2
    go_ret
    exact ⟨none, 0, rfl, Sl.nil0 _ _ _, Ext.refl _⟩
  | some ad =>
    go_enter Tryz.func123, Tryz.ntmps123
    go_wp2_with (first
      | (at_builtin
         refine wpList_app ety_u (.tmp 5) (.tmp 6) (base := w.heap.size) (Z := fun _ => False) (Own.empty w _ _ (Nat.le_refl _)) (Fl.u h.lb _ _) (uc_at (h.keep ((Kp.refl w).alloc _))) (by simp; omega) (by simp [maxLen]; omega) (by simp) rfl rfl rfl rfl ?_
         intro v1 w2 hown hg hat))
    go_ret
    obtain ⟨A2, c2, rfl, h2⟩ := Nown.nl hown; exact ⟨A2, c2, by simp, by simpa using h2, ((Ext.refl w).alloc _).grown hg (by simp [Value.ownBlock])⟩

set_option maxHeartbeats 800000 in
theorem trim_c {A : Option Addr} {c : Nat} {l : List Nat} {w : World} {X : Nat → Prop} (h : Nl w X A c l) (hL : l.length ≤ 4398046511104) :
    Calls Tryz.prog 103 #[.slice A l.length c] w fun e w' => ∃ A' c', e = .returned (.slice A' (lim (nv l)).length c') ∧ Nl w' (w.heap.size ≤ ·) A' c' (lim (nv l)) ∧ Ext w w' := by
  have hlc := h.1; have hcm := h.2.1; have hb := h.lt; simp only [maxLen] at hcm
  have fin : ∀ k, k ≤ l.length → (∀ j, k ≤ j → j < l.length → nth l j = 0) → (0 < k → nth l (k - 1) ≠ 0) → ∀ wr, Ext w wr → (lim (nv l)).length = k ∧ Nl wr X A c (lim (nv l)) := by
    intro k hk hz hl wr hx; have e := take_lim hb hk hz hl; rw [← e]; exact ⟨by rw [List.length_take]; omega, Sl.take (h.ext hx) hk (by omega) h.2.1⟩
  have Fin := Lib.hid fin; clear fin
  go_enter Tryz.func103, Tryz.ntmps103
  go_wp2
  go_loopw [0] (fun v wr => ∃ k : Nat, k ≤ l.length ∧ v = .slice A k c ∧ (∀ j, k ≤ j → j < l.length → nth l j = 0) ∧ Ext w wr) (fun v _ => match v with | .slice _ n _ => n | _ => 0)
  case atStart => exact ⟨l.length, Nat.le_refl _, rfl, fun j h1 h2 => by omega, Ext.refl _⟩
  case round =>
    obtain ⟨k, hk, rfl, hz, hx⟩ := hrel
    have Hz := Lib.hid hz; clear hz
    by_cases h0 : 0 < k
    · obtain ⟨b, o, rfl, hX, hcell, _⟩ := (h.ext hx).at_ (k := k - 1) (by omega); have hc1 := hcell (k - 1) (by omega)
      have i0 : (0 : Int) < (k : Int) := by omega
      by_cases hn : nth l (k - 1) = 0
      · have hn' : (((nth l (k - 1) : Nat) : Int) == 0) = true := by simp [hn]
        clear hcell
        go_wp2
        go_roundw
        case rel =>
          refine ⟨k - 1, by omega, rfl, fun j h1 h2 => ?_, hx⟩
          rcases Nat.eq_or_lt_of_le h1 with e | e
          · rw [← e]; exact hn
          · exact Hz.out j (by omega) h2
        case measure => show k - 1 < k; omega
      · have hn' : (((nth l (k - 1) : Nat) : Int) == 0) = false := by simp [hn]
        clear hcell; obtain ⟨e1, h2⟩ := Fin.out k hk Hz.out (fun _ => hn) wr hx; have hc := cloneu_c h2 (by omega); rw [e1] at hc
        have E1 := Lib.hid e1; clear e1
        go_wp2_with fail
        refine hc.mono ?_; rintro e w2 ⟨A2, c2, rfl, h3, hx2⟩
        go_wp2
        go_ret
        have := hx.size; exact ⟨A2, c2, ret_slice E1.out.symm, h3.widen fun b hb _ => by omega, hx.trans hx2⟩
    · obtain ⟨e1, h2⟩ := Fin.out k hk Hz.out (fun h => absurd h h0) wr hx; have hc := cloneu_c h2 (by omega); rw [e1] at hc
      have E1 := Lib.hid e1; clear e1
      go_wp2_with fail
      refine hc.mono ?_; rintro e w2 ⟨A2, c2, rfl, h3, hx2⟩
      go_wp2
      go_ret
      have := hx.size; exact ⟨A2, c2, ret_slice E1.out.symm, h3.widen fun b hb _ => by omega, hx.trans hx2⟩

set_option maxHeartbeats 400000 in
theorem made_c {A : Option Addr} {c : Nat} {neg : Bool} {l : List Nat} {w : World} {X : Nat → Prop} (h : Nl w X A c l) (hL : l.length ≤ 4398046511104) :
    Calls Tryz.prog 67 #[.bool neg, .slice A l.length c] w fun e w' => ∃ r, e = .returned r ∧ Zi w' (w.heap.size ≤ ·) r (cz (Z.v ⟨neg, l⟩)) ∧ Ext w w' := by
  have hcz := Lib.hid (cz_made neg l)
  go_enter Tryz.func67, Tryz.ntmps67
  go_wp2_with fail
  refine (trim_c (h.ext xt) hL).mono ?_; rintro e w1 ⟨A1, c1, rfl, h1, hx⟩; have hc := hx.cells
  cases neg <;> go_wp2_with fail
  · (refine bodyPost_ret (v := ?_) ?_ rfl ?_; rotate_left; (simp only [results, Tryz.results67]; go_simp; (first | done | with_reducible rfl)))
    refine ⟨_, rfl, ?_, xt⟩; rw [hcz.out]; exact ⟨A1, c1, rfl, (h1.keep kpt).widen (fun b hb _ => by first | omega | (dsimp only at hb ⊢; omega) | (dsimp only at hb; omega) | (simp only [wsz] at hb ⊢; omega) | (simp only [wsz] at hb; omega))⟩
  · (refine bodyPost_ret (v := ?_) ?_ rfl ?_; rotate_left; (simp only [results, Tryz.results67]; go_simp; (first | done | with_reducible rfl)))
    refine ⟨_, rfl, ?_, xt⟩; rw [hcz.out]; exact ⟨A1, c1, by rw [Bool.true_and], (h1.keep kpt).widen (fun b hb _ => by first | omega | (dsimp only at hb ⊢; omega) | (dsimp only at hb; omega) | (simp only [wsz] at hb ⊢; omega) | (simp only [wsz] at hb; omega))⟩

set_option maxHeartbeats 400000 in
theorem znorm_c {v : Value} {z : Z} {w : World} {X : Nat → Prop} (h : Zi w X v z) (hL : z.mag.length ≤ 4398046511104) :
    Calls Tryz.prog 87 #[v] w fun e w' => ∃ r, e = .returned r ∧ Zi w' (w.heap.size ≤ ·) r (cz z.v) ∧ Ext w w' := by
  obtain ⟨A, c, rfl, h⟩ := h
  go_enter Tryz.func87, Tryz.ntmps87
  go_wp2_with fail
  refine (made_c (h.ext xt) hL).mono ?_; rintro e w1 ⟨r, rfl, ⟨A1, c1, rfl, h1⟩, hx⟩; have hc := hx.cells
  go_wp2_with fail
  (refine bodyPost_ret (v := ?_) ?_ rfl ?_; rotate_left; (simp only [results, Tryz.results87]; go_simp; (first | done | with_reducible rfl)))
  exact ⟨_, rfl, ⟨A1, c1, rfl, (h1.keep kpt).widen (fun b hb _ => by first | omega | (dsimp only at hb ⊢; omega) | (dsimp only at hb; omega) | (simp only [wsz] at hb ⊢; omega) | (simp only [wsz] at hb; omega))⟩, xt⟩

set_option maxHeartbeats 400000 in
theorem zneg_c {v : Value} {z : Z} {w : World} {X : Nat → Prop} (h : Zi w X v z) (hL : z.mag.length ≤ 4398046511104) :
    Calls Tryz.prog 76 #[v] w fun e w' => ∃ r, e = .returned r ∧ Zi w' (w.heap.size ≤ ·) r (cz (-z.v)) ∧ Ext w w' := by
  have ez : (-z.v) = Z.v ⟨!z.neg, z.mag⟩ := by unfold Z.v; cases z.neg <;> simp
  rw [ez]; clear ez; obtain ⟨A, c, rfl, h⟩ := h
  go_enter Tryz.func76, Tryz.ntmps76
  go_wp2_with fail
  refine (made_c (h.ext xt) hL).mono ?_; rintro e w1 ⟨r, rfl, ⟨A1, c1, rfl, h1⟩, hx⟩; have hc := hx.cells
  go_wp2_with fail
  (refine bodyPost_ret (v := ?_) ?_ rfl ?_; rotate_left; (simp only [results, Tryz.results76]; go_simp; (first | done | with_reducible rfl)))
  exact ⟨_, rfl, ⟨A1, c1, rfl, (h1.keep kpt).widen (fun b hb _ => by first | omega | (dsimp only at hb ⊢; omega) | (dsimp only at hb; omega) | (simp only [wsz] at hb ⊢; omega) | (simp only [wsz] at hb; omega))⟩, xt⟩

set_option maxHeartbeats 400000 in
theorem zof_c (n : Int) (hn : -9223372036854775808 ≤ n) (hn2 : n ≤ 9223372036854775807) (w : World) :
    Calls Tryz.prog 63 #[.int .i64 n] w fun e w' => ∃ r, e = .returned r ∧ Zi w' (w.heap.size ≤ ·) r (cz n) ∧ Ext w w' := by
  have hsmall := zl_word (x := n) (by omega); unfold zl at hsmall
  by_cases h0 : n < 0
  · have ew : IntKind.u64.wrap (-IntKind.u64.wrap n) = ((n.natAbs : Nat) : Int) := by simp only [wrap_u64]; omega
    have ev : Z.v ⟨true, lim n.natAbs⟩ = n := by simp only [Z.v, nv_lim, if_true]; omega
    have Ew := Lib.hid ew; have Ev := Lib.hid ev; clear ew ev
    go_enter Tryz.func63, Tryz.ntmps63
    go_wp2_with fail
    rw [Ew.out]; refine (of_c n.natAbs (by omega) _).mono ?_; rintro e w1 ⟨A1, c1, rfl, h1, hx⟩
    go_wp2_with fail
    refine (made_c h1 (by omega)).mono ?_; rw [Ev.out]; rintro e w2 ⟨r, rfl, ⟨A2, c2, rfl, h2⟩, hx2⟩; have hc := (Ext.trans hx hx2).cells
    go_wp2_with fail
    (refine bodyPost_ret (v := ?_) ?_ rfl ?_; rotate_left; (simp only [results, Tryz.results63]; go_simp; (first | done | with_reducible rfl)))
    have := hx.size; have := hx2.size
    simp only [World.size_alloc] at *; exact ⟨_, rfl, ⟨A2, c2, rfl, (h2.keep kpt).widen (fun b hb _ => by first | omega | (dsimp only at hb ⊢; omega) | (dsimp only at hb; omega) | (simp only [wsz] at hb ⊢; omega) | (simp only [wsz] at hb; omega))⟩, xt⟩
  · obtain ⟨m, rfl⟩ := Int.eq_ofNat_of_zero_le (by omega : 0 ≤ n)
    have ev : Z.v ⟨false, lim m⟩ = (m : Int) := by simp [Z.v, nv_lim]
    rw [Int.natAbs_natCast] at hsmall
    have Ev := Lib.hid ev; clear ev
    go_enter Tryz.func63, Tryz.ntmps63
    go_wp2_with fail
    refine (of_c m (by omega) _).mono ?_; rintro e w1 ⟨A1, c1, rfl, h1, hx⟩
    go_wp2_with fail
    refine (made_c h1 (by omega)).mono ?_; rw [Ev.out]; rintro e w2 ⟨r, rfl, ⟨A2, c2, rfl, h2⟩, hx2⟩; have hc := (Ext.trans hx hx2).cells
    go_wp2_with fail
    (refine bodyPost_ret (v := ?_) ?_ rfl ?_; rotate_left; (simp only [results, Tryz.results63]; go_simp; (first | done | with_reducible rfl)))
    have := hx.size; have := hx2.size
    simp only [World.size_alloc] at *; exact ⟨_, rfl, ⟨A2, c2, rfl, (h2.keep kpt).widen (fun b hb _ => by first | omega | (dsimp only at hb ⊢; omega) | (dsimp only at hb; omega) | (simp only [wsz] at hb ⊢; omega) | (simp only [wsz] at hb; omega))⟩, xt⟩

set_option maxHeartbeats 400000 in
theorem zsign_c {v : Value} {z : Z} {w : World} {X : Nat → Prop} (h : Zi w X v z) :
    Calls Tryz.prog 59 #[v] w fun e w' => e = .returned (.int .i64 (sgn z.v)) ∧ Ext w w' := by
  obtain ⟨A, c, rfl, h⟩ := h
  have hm := h.2.1; have hl := h.1
  simp only [maxLen] at hm
  have fin : ∀ k, k < z.mag.length → nth z.mag k ≠ 0 → sgn z.v = if z.neg then -1 else 1 := by
    intro k hk h0; have h1 := nv_pos_of h0; unfold sgn Z.v
    cases z.neg
    · simp only [Bool.false_eq_true, if_false]; exact cmpI_gt (by omega)
    · simp only [if_true]; exact cmpI_lt (by omega)
  have fin0 : (∀ k, k < z.mag.length → nth z.mag k = 0) → sgn z.v = 0 := by
    intro hz; have h1 := nv_zero_of hz; unfold sgn Z.v; rw [h1]; exact cmpI_eq (by split <;> rfl)
  have Fin := Lib.hid fin; have Fin0 := Lib.hid fin0; clear fin fin0
  go_enter Tryz.func59, Tryz.ntmps59
  go_wp2_with fail
  go_loop [8] (fun iv => ∃ k : Nat, k ≤ z.mag.length ∧ iv = .int .i64 k ∧ ∀ j, j < k → nth z.mag j = 0) (fun iv => z.mag.length - (intOf iv).toNat)
  case atStart => exact ⟨0, Nat.zero_le _, rfl, fun j h => by omega⟩
  case round =>
    obtain ⟨k, hk, rfl, hz⟩ := hrel
    have Hz := Lib.hid hz; clear hz
    by_cases hlt : k < z.mag.length
    · obtain ⟨b, o, rfl, hX, hcell, _⟩ := h.at_ hlt; have hc1 := hcell k hlt; have hb := World.block_lt_of_cell? _ _ hc1; clear hcell
      by_cases hn : nth z.mag k = 0
      · have hn' : (((nth z.mag k : Nat) : Int) == 0) = true := by simp [hn]
        go_wp2_with fail
        go_round
        case rel =>
          refine ⟨k + 1, by omega, by go_num, fun j hj => ?_⟩
          rcases Nat.lt_or_ge j k with h1 | h1
          · exact Hz.out j h1
          · have : j = k := by omega
            subst this; exact hn
        case measure => simp [intOf] <;> omega
      · have hn' : (((nth z.mag k : Nat) : Int) == 0) = false := beq_eq_false_iff_ne.2 (by omega); have hs := Fin.out k hlt hn
        have Hs := Lib.hid hs; clear hs
        rcases hneg : z.neg with _ | _
        · rw [hneg] at Hs
          go_wp2_with fail
          go_ret
          exact ⟨ret_int Hs.out.symm, xt⟩
        · rw [hneg] at Hs
          go_wp2_with fail
          go_ret
          exact ⟨ret_int Hs.out.symm, xt⟩
    · obtain rfl : k = z.mag.length := by omega
      go_wp2_with fail
      go_ret
      exact ⟨ret_int (Fin0.out Hz.out).symm, xt⟩

set_option maxHeartbeats 800000 in
theorem zcmp_c {u v : Value} {x y : Z} {w : World} {X Y : Nat → Prop} (hx : Zi w X u x) (hy : Zi w Y v y) :
    Calls Tryz.prog 66 #[u, v] w fun e w' => e = .returned (.int .i64 (cmpI x.v y.v)) ∧ Ext w w' := by
  obtain ⟨A, c, rfl, h1⟩ := hx; obtain ⟨B, d, rfl, h2⟩ := hy
  have hs1 := fun (W : World) (h : Nl W X A c x.mag) => zsign_c (v := .agg #[.bool x.neg, .slice A x.mag.length c]) (z := x) ⟨A, c, rfl, h⟩
  have hs2 := fun (W : World) (h : Nl W Y B d y.mag) => zsign_c (v := .agg #[.bool y.neg, .slice B y.mag.length d]) (z := y) ⟨B, d, rfl, h⟩
  have hlt := @sgn_lt x.v y.v; have hgt := @sgn_lt y.v x.v; have heq := @cmp_mags x y; have b1 := sgn_bd x.v; have b2 := sgn_bd y.v; generalize sgn x.v = s at *; generalize sgn y.v = t at *
  have Hs1 := Lib.hid hs1; have Hs2 := Lib.hid hs2; have Hlt := Lib.hid hlt; have Hgt := Lib.hid hgt; have Heq := Lib.hid heq
  clear hs1 hs2 hlt hgt heq; obtain ⟨b1, b1'⟩ := b1; obtain ⟨b2, b2'⟩ := b2
  go_enter Tryz.func66, Tryz.ntmps66
  go_wp2_with fail
  refine wp_region_seq 5 [(0, true), (2, true), (1, false), (3, false), (4, false), (5, false)] rfl (by kernel_rfl) (by intro _ _ d _ _ h; cases d <;> exact h) ?_
  (repeat (refine sq_take (v := ?_) rfl rfl ?_ ?_; rotate_left; exact tk2; (try simp only [pt])))
  (refine sq_loud rfl rfl fun K hK => ?_; go_simp)
  refine (Hs1.out _ (h1.ext xt)).mono ?_; rintro e w1 ⟨rfl, hx⟩
  (refine hK _ _ xt ?_; clear hK K; (try simp only [pt]))
  (refine sq_loud rfl rfl fun K hK => ?_; go_simp)
  refine (Hs2.out _ (h2.ext xt)).mono ?_; rintro e w2 ⟨rfl, hx2⟩
  (refine hK _ _ xt ?_; clear hK K; (try simp only [pt]))
  replace hx := hx.trans hx2
  clear hx2
  (refine sq_loud rfl rfl fun K hK => ?_; go_simp)
  (refine hK _ _ xt ?_; clear hK K; (try simp only [pt]))
  (refine sq_last rfl rfl fun K hK => ?_; go_simp; refine hK _ _ ?_; clear hK K)
  have hc := hx.cells
  have hw : ∀ W, Ext w2 W → Ext w W := fun W h => Ext.trans xt h
  rcases Int.lt_trichotomy s t with hst | hst | hst
  · have hne : (s != t) = true := by rw [bne_iff_ne]; omega
    have hcm := Lib.hid (cmpI_lt (Hlt.out hst))
    go_wp2_with fail
    all_goals
      go_ret
      exact ⟨ret_int (by rw [hcm.out] <;> omega), hw _ xt⟩
  · have hne : (s != t) = false := by simp [hst]
    have Hst := Lib.hid hst; clear hst
    by_cases h0 : s < 0
    · have hcm := Lib.hid ((Heq.out Hst.out).1 h0)
      go_wp2_with fail
      refine (cmp_c (h2.ext (hw _ xt)) (h1.ext (hw _ xt))).mono ?_; rintro e w3 ⟨rfl, hx3⟩
      go_wp2_with fail
      go_ret
      exact ⟨ret_int hcm.out.symm, hw _ xt⟩
    · have hcm := Lib.hid ((Heq.out Hst.out).2 (by omega))
      go_wp2_with fail
      refine (cmp_c (h1.ext (hw _ xt)) (h2.ext (hw _ xt))).mono ?_; rintro e w3 ⟨rfl, hx3⟩
      go_wp2_with fail
      go_ret
      exact ⟨ret_int hcm.out.symm, hw _ xt⟩
  · have hne : (s != t) = true := by rw [bne_iff_ne]; omega
    have hcm := Lib.hid (cmpI_gt (Hgt.out hst))
    go_wp2_with fail
    all_goals
      go_ret
      exact ⟨ret_int (by rw [hcm.out] <;> omega), hw _ xt⟩

set_option maxHeartbeats 800000 in
theorem zmul_c {u v : Value} {x y : Z} {w : World} {X Y : Nat → Prop} (hx : Zi w X u x) (hy : Zi w Y v y) (hLx : x.mag.length ≤ 1099511627776) (hLy : y.mag.length ≤ 1099511627776) :
    Calls Tryz.prog 75 #[u, v] w fun e w' => ∃ r, e = .returned r ∧ Zi w' (w.heap.size ≤ ·) r (cz (x.v * y.v)) ∧ Ext w w' := by
  obtain ⟨A, c, rfl, h1⟩ := hx; obtain ⟨B, d, rfl, h2⟩ := hy; obtain ⟨nx, a⟩ := x; obtain ⟨ny, b⟩ := y; rw [← v_mul]
  have hlen : (lim (nv a * nv b)).length ≤ 4398046511104 := by
    have := zl_mul (nv a) (nv b); unfold zl at this; rw [Int.natAbs_mul, Int.natAbs_natCast, Int.natAbs_natCast] at this; have h3 : (lim (nv a)).length ≤ a.length := lim_len_le h1.lb; have h4 : (lim (nv b)).length ≤ b.length := lim_len_le h2.lb; simp only at hLx hLy
    omega
  go_enter Tryz.func75, Tryz.ntmps75
  go_wp2_with fail
  refine wp_region_seq 11 [(0, true), (1, true), (2, true), (3, true), (4, true), (5, true), (6, true), (7, true), (8, true), (9, false), (10, false), (11, false)] rfl (by kernel_rfl) (by intro _ _ d _ _ h; cases d <;> exact h) ?_
  (repeat (refine sq_take (v := ?_) rfl rfl ?_ ?_; rotate_left; exact tk2; (try simp only [pt])))
  (refine sq_loud rfl rfl fun K hK => ?_; go_simp)
  refine (mul_c (h1.ext xt) (h2.ext xt) hLx hLy).mono ?_; rintro e w1 ⟨A1, c1, rfl, h3, hx⟩
  (refine hK _ _ xt ?_; clear hK K; (try simp only [pt]))
  (refine sq_loud rfl rfl fun K hK => ?_; go_simp)
  refine (made_c h3 hlen).mono ?_; rintro e w2 ⟨r, rfl, ⟨A2, c2, rfl, h4⟩, hx2⟩
  (refine hK _ _ xt ?_; clear hK K; (try simp only [pt]))
  (have hs := Ext.size hx; (try simp only [wsz] at hs))
  replace hx := hx.trans hx2
  clear hx2; have hc := hx.cells
  (refine sq_last rfl rfl fun K hK => ?_; go_simp; refine hK _ _ ?_; clear hK K)
  go_wp2_with fail
  (refine bodyPost_ret (v := ?_) ?_ rfl ?_; rotate_left; (simp only [results, Tryz.results75]; go_simp; (first | done | with_reducible rfl)))
  exact ⟨_, rfl, ⟨A2, c2, rfl, (h4.keep kpt).widen (fun b hb _ => by first | omega | (dsimp only at hb ⊢; omega) | (dsimp only at hb; omega) | (simp only [wsz] at hb ⊢; omega) | (simp only [wsz] at hb; omega))⟩, xt⟩

set_option maxHeartbeats 1600000 in
theorem zadd_c {u v : Value} {x y : Z} {w : World} {X Y : Nat → Prop} (hx : Zi w X u x) (hy : Zi w Y v y) (hLx : x.mag.length ≤ 1099511627776) (hLy : y.mag.length ≤ 1099511627776) :
    Calls Tryz.prog 34 #[u, v] w fun e w' => ∃ r, e = .returned r ∧ Zi w' (w.heap.size ≤ ·) r (cz (x.v + y.v)) ∧ Ext w w' := by
  obtain ⟨A, c, rfl, h1⟩ := hx; obtain ⟨B, d, rfl, h2⟩ := hy; obtain ⟨nx, a⟩ := x; obtain ⟨ny, b⟩ := y; have ha : (lim (nv a)).length ≤ a.length := lim_len_le h1.lb; have hb : (lim (nv b)).length ≤ b.length := lim_len_le h2.lb; simp only at hLx hLy
  go_enter Tryz.func34, Tryz.ntmps34
  by_cases hn : nx = ny
  · subst hn
    have hlen : (lim (nv a + nv b)).length ≤ 4398046511104 := by
      have := zl_add (x := nv a) (y := nv b) (k := 1099511627776) (by unfold zl; rw [Int.natAbs_natCast]; omega) (by unfold zl; rw [Int.natAbs_natCast]; omega); unfold zl at this
      have e : ((nv a : Int) + nv b).natAbs = nv a + nv b := by omega
      rw [e] at this
      omega
    have e := Lib.hid (v_add_same nx a b)
    go_wp2_with fail
    refine wp_region_seq 8 [(0, true), (1, true), (2, true), (3, true), (4, true), (5, true), (6, false), (7, false), (8, false)] rfl (by kernel_rfl) (by intro _ _ d _ _ h; cases d <;> exact h) ?_
    (repeat (refine sq_take (v := ?_) rfl rfl ?_ ?_; rotate_left; exact tk2; (try simp only [pt])))
    (refine sq_loud rfl rfl fun K hK => ?_; go_simp)
    refine (add_c (h1.ext xt) (h2.ext xt) hLx hLy).mono ?_; rintro e w1 ⟨A1, c1, rfl, h3, hx⟩
    (refine hK _ _ xt ?_; clear hK K; (try simp only [pt]))
    (refine sq_loud rfl rfl fun K hK => ?_; go_simp)
    refine (made_c h3 hlen).mono ?_; rintro e w2 ⟨r, rfl, ⟨A2, c2, rfl, h4⟩, hx2⟩
    (refine hK _ _ xt ?_; clear hK K; (try simp only [pt]))
    (have hs := Ext.size hx; (try simp only [wsz] at hs))
    replace hx := hx.trans hx2
    clear hx2; have hc := hx.cells
    (refine sq_last rfl rfl fun K hK => ?_; go_simp; refine hK _ _ ?_; clear hK K)
    go_wp2_with fail
    (refine bodyPost_ret (v := ?_) ?_ rfl ?_; rotate_left; (simp only [results, Tryz.results34]; go_simp; (first | done | with_reducible rfl)))
    exact ⟨_, rfl, e.out ▸ ⟨A2, c2, rfl, (h4.keep kpt).widen (fun b hb _ => by first | omega | (dsimp only at hb ⊢; omega) | (dsimp only at hb; omega) | (simp only [wsz] at hb ⊢; omega) | (simp only [wsz] at hb; omega))⟩, xt⟩
  · have hne : (nx == ny) = false := by cases nx <;> cases ny <;> simp at hn ⊢
    go_wp2_with fail
    refine (cmp_c (h1.ext xt) (h2.ext xt)).mono ?_; rintro e w1 ⟨rfl, hx⟩; have hc := hx.cells
    rcases Nat.lt_or_ge (nv a) (nv b) with hlt | hlt
    · have h0 : cmpN (nv a) (nv b) < 0 := by rw [cmpN_lt hlt]; omega
      have e := v_add_other ny nx b a (Ne.symm hn) (by omega); rw [Int.add_comm] at e
      have E := Lib.hid e; clear e
      have hlen : (lim (nv b - nv a)).length ≤ 4398046511104 := by
        have := lim_pw (n := nv b - nv a) (k := b.length) (by have := nv_lt h2.lb; omega)
        omega
      (have hs := Ext.size hx; (try simp only [wsz] at hs))
      go_upto_region 5 with fail
      refine wp_named fun W hW => ?_
      have B1 : Box W w.heap.size 25 #[.bool ny, .slice B b.length d] := by rw [hW]; exact (((((Box.alloc (Box.alloc (Box.new w _ _) _) _).ext hx).set_ _ _).set_ _ _).far (by simp <;> omega) _).far (by simp <;> omega) _
      have B2 : Box W (w.heap.size + 1) 25 #[.bool nx, .slice A a.length c] := by rw [hW]; exact (((((Box.alloc (Box.new_at (w.alloc (.cells #[.bool nx, .slice A a.length c] 25)) _ _ (by simp)) _).ext hx).far (by simp <;> omega) _).far (by simp <;> omega) _).set_ _ _).set_ _ _
      have B3 : Box W (w.heap.size + 1 + 1) 25 #[.bool false, .slice none 0 0] := by
        rw [hW]; have q : Box ((w.alloc (.cells #[.bool nx, .slice A a.length c] 25)).alloc (.cells #[.bool ny, .slice B b.length d] 25) |>.alloc (.cells #[.bool false, .slice none 0 0] 25)) (w.heap.size + 1 + 1) 25 #[.bool false, .slice none 0 0] := Box.new_at _ _ _ (by simp); exact ((((q.ext hx).far (by simp <;> omega) _).far (by simp <;> omega) _).far (by simp <;> omega) _).far (by simp <;> omega) _
      have hxW : Ext w W := by rw [hW]; exact xt
      clear hW hc hx
      have r1 := B1.rules; have r2 := B2.rules
      go_wp2_with fail
      refine (sub_c (h2.ext hxW) (h1.ext hxW) (by omega) hLy).mono ?_; rintro e w2 ⟨A1, c1, rfl, h3, hx⟩; have r4 := (B1.ext hx).rules
      go_wp2_with fail
      refine (made_c h3 hlen).mono ?_; rintro e w3 ⟨r, rfl, ⟨A2, c2, rfl, h4⟩, hx2⟩
      (have hs2 := Ext.size hx; (try simp only [wsz] at hs2))
      (replace hx := Ext.trans hx hx2; clear hx2; have hc := Ext.cells hx)
      have r3 := B3.rules; have hlt3 := B3.lt; have hsW := hxW.size
      go_wp2_with fail
      (refine bodyPost_ret (v := ?_) ?_ rfl ?_; rotate_left; (simp only [results, Tryz.results34]; go_simp; (first | done | with_reducible rfl)))
      exact ⟨_, rfl, E.out ▸ ⟨A2, c2, rfl, (h4.keep kpt).widen (fun b hb _ => by first | omega | (dsimp only at hb ⊢; omega) | (dsimp only at hb; omega) | (simp only [wsz] at hb ⊢; omega) | (simp only [wsz] at hb; omega))⟩, xt⟩
    · have h0 : ¬ cmpN (nv a) (nv b) < 0 := by unfold cmpN; rw [if_neg (by omega)]; split <;> omega
      have e := v_add_other nx ny a b hn hlt
      have E := Lib.hid e; clear e
      have hlen : (lim (nv a - nv b)).length ≤ 4398046511104 := by
        have := lim_pw (n := nv a - nv b) (k := a.length) (by have := nv_lt h1.lb; omega)
        omega
      go_wp2_with fail
      refine (sub_c (h1.ext xt) (h2.ext xt) (by omega) hLx).mono ?_; rintro e w2 ⟨A1, c1, rfl, h3, hx2⟩
      (have hs := Ext.size hx; (try simp only [wsz] at hs))
      (replace hx := Ext.trans hx hx2; clear hx2; have hc := Ext.cells hx)
      go_wp2_with fail
      refine (made_c h3 hlen).mono ?_; rintro e w3 ⟨r, rfl, ⟨A2, c2, rfl, h4⟩, hx2⟩
      (have hs2 := Ext.size hx; (try simp only [wsz] at hs2))
      (replace hx := Ext.trans hx hx2; clear hx2; have hc := Ext.cells hx)
      go_wp2_with fail
      (refine bodyPost_ret (v := ?_) ?_ rfl ?_; rotate_left; (simp only [results, Tryz.results34]; go_simp; (first | done | with_reducible rfl)))
      exact ⟨_, rfl, E.out ▸ ⟨A2, c2, rfl, (h4.keep kpt).widen (fun b hb _ => by first | omega | (dsimp only at hb ⊢; omega) | (dsimp only at hb; omega) | (simp only [wsz] at hb ⊢; omega) | (simp only [wsz] at hb; omega))⟩, xt⟩

set_option maxHeartbeats 800000 in
theorem zsub_c {u v : Value} {x y : Z} {w : World} {X Y : Nat → Prop} (hx : Zi w X u x) (hy : Zi w Y v y) (hLx : x.mag.length ≤ 1099511627776) (hLy : y.mag.length ≤ 1099511627776) :
    Calls Tryz.prog 36 #[u, v] w fun e w' => ∃ r, e = .returned r ∧ Zi w' (w.heap.size ≤ ·) r (cz (x.v - y.v)) ∧ Ext w w' := by
  have hly := zl_of hy.lb; obtain ⟨A, c, rfl, h1⟩ := hx; obtain ⟨B, d, rfl, h2⟩ := hy; have e1 := Lib.hid (show x.v + (cz (-y.v)).v = x.v - y.v by rw [cz_v]; omega)
  have e2 : (cz (-y.v)).mag.length ≤ 1099511627776 := by rw [cz_len, zl_neg]; omega
  go_enter Tryz.func36, Tryz.ntmps36
  go_wp2_with fail
  refine wp_region_seq 4 [(0, true), (1, true), (2, false), (3, false), (4, false)] rfl (by kernel_rfl) (by intro _ _ d _ _ h; cases d <;> exact h) ?_
  (repeat (refine sq_take (v := ?_) rfl rfl ?_ ?_; rotate_left; exact tk2; (try simp only [pt])))
  (refine sq_loud rfl rfl fun K hK => ?_; go_simp)
  refine (zneg_c ⟨B, d, rfl, h2.ext xt⟩ (by omega)).mono ?_; rintro e w1 ⟨r, rfl, ⟨A1, c1, rfl, h3⟩, hx⟩
  (refine hK _ _ xt ?_; clear hK K; (try simp only [pt]))
  (refine sq_loud rfl rfl fun K hK => ?_; go_simp)
  refine (zadd_c ⟨A, c, rfl, (h1.ext xt).ext hx⟩ ⟨A1, c1, rfl, h3⟩ hLx e2).mono ?_; rw [e1.out]; rintro e w2 ⟨r, rfl, ⟨A2, c2, rfl, h4⟩, hx2⟩
  (refine hK _ _ xt ?_; clear hK K; (try simp only [pt]))
  (have hs := Ext.size hx; (try simp only [wsz] at hs))
  (replace hx := Ext.trans hx hx2; clear hx2; have hc := Ext.cells hx)
  (refine sq_last rfl rfl fun K hK => ?_; go_simp; refine hK _ _ ?_; clear hK K)
  go_wp2_with fail
  (refine bodyPost_ret (v := ?_) ?_ rfl ?_; rotate_left; (simp only [results, Tryz.results36]; go_simp; (first | done | with_reducible rfl)))
  exact ⟨_, rfl, ⟨A2, c2, rfl, (h4.keep kpt).widen (fun b hb _ => by first | omega | (dsimp only at hb ⊢; omega) | (dsimp only at hb; omega) | (simp only [wsz] at hb ⊢; omega) | (simp only [wsz] at hb; omega))⟩, xt⟩

end Go.Proofs.YtpkfjbljhneenaaGreat

namespace Go.Proofs.YtpkfjbljhneenaaGreat
open Go.RowKit

theorem short_step {a q : List Nat} {b i r : Nat} (hb : 0 < b) (hi : i < a.length) (hq : i < q.length) (h1 : nv (q.drop (i + 1)) = nv (a.drop (i + 1)) / b) (h2 : r = nv (a.drop (i + 1)) % b) :
  nv ((q.set i ((r * 4294967296 + nth a i) / b)).drop i) = nv (a.drop i) / b ∧ (r * 4294967296 + nth a i) % b = nv (a.drop i) % b := by
 have e1 : nv (a.drop i) = r * 4294967296 + nth a i + b * (4294967296 * (nv (a.drop (i + 1)) / b)) := by
  rw [nv_drop a i hi]; have h3 := Nat.div_add_mod (nv (a.drop (i + 1))) b; rw [← h2] at h3
  have h4 : 4294967296 * nv (a.drop (i + 1)) = 4294967296 * (b * (nv (a.drop (i + 1)) / b)) + 4294967296 * r := by rw [← Nat.mul_add, h3]
  have h5 : b * (4294967296 * (nv (a.drop (i + 1)) / b)) = 4294967296 * (b * (nv (a.drop (i + 1)) / b)) := by
   rw [← Nat.mul_assoc, Nat.mul_comm b 4294967296, Nat.mul_assoc]
  omega
 have e2 : nth (q.set i ((r * 4294967296 + nth a i) / b)) i = (r * 4294967296 + nth a i) / b := by
  rw [nth_eq _ _ (by rw [List.length_set]; exact hq), List.getElem_set_self]
 have e3 : (q.set i ((r * 4294967296 + nth a i) / b)).drop (i + 1) = q.drop (i + 1) := by
  rw [List.drop_set_of_lt (by omega)]
 refine ⟨?_, ?_⟩
 ·rw [nv_drop _ i (by rw [List.length_set]; exact hq), e2, e3, h1, e1, Nat.add_mul_div_left _ _ hb]
 ·rw [e1, Nat.add_mul_mod_self_left]

theorem i64_wr (n : Nat) (h : n < 4611686018427387904) : IntKind.i64.wrap ((n : Int) - 1) = (n : Int) - 1 := by
 simp only [IntKind.wrap, IntKind.signed, IntKind.bits]; simp
 omega
theorem u64_or (a b : Nat) (ha : a < 4294967296) (hb : b < 4294967296) : bits .or .u64 ((a * 4294967296 : Nat) : Int) (b : Int) = ((a * 4294967296 + b : Nat) : Int) := by
 have h := u64_or_nat (a * 4294967296) b (by omega) (by omega); rw [h]
 congr 1
 have := Nat.two_pow_add_eq_or_of_lt (i := 32) (b := b) (by omega) a; rw [show a * 4294967296 = 2 ^ 32 * a from by omega]; exact this.symm

set_option maxHeartbeats 800000 in
theorem short_c {A : Option Addr} {c : Nat} {a : List Nat} {w : World} {X : Nat → Prop} {b : Nat} (ha : Nl w X A c a) (hb0 : 0 < b) (hb : b < 4294967296) (hL : a.length ≤ 1099511627776) :
  Calls Tryz.prog 125 #[.slice A a.length c, .int .u32 (b : Int)] w fun e w' => ∃ A' c', e = .returned (.tuple #[.slice A' (lim (nv a / b)).length c', .int .u32 ((nv a % b : Nat) : Int)]) ∧ Nl w' (w.heap.size ≤ ·) A' c' (lim (nv a / b)) ∧ Ext w w' := by
 have hlb := ha.lb
 go_enter Tryz.func125, Tryz.ntmps125
 go_wp2_with (at_make; refine wpList_makeu (.tmp 10) (.tmp 10) _ a.length (Nat.le_refl _) (by omega) rfl rfl rfl rfl rfl rfl ?_; intro w1 hown hx1)
 go_loopw [7, 8] (fun rv iv wr => ∃ (j r : Nat) (q : List Nat), j ≤ a.length ∧ iv = .int .i64 ((j : Int) - 1) ∧ rv = .int .u64 (r : Int) ∧ r < b ∧ q.length = a.length ∧ Nown wr w.heap.size (.slice (some ⟨w.heap.size, 0, none⟩) a.length a.length) q ∧
   Hid (nv (q.drop j) = nv (a.drop j) / b) ∧ Hid (r = nv (a.drop j) % b) ∧ Ext w wr) (fun _ iv _ => (intOf iv + 1).toNat)
 case atStart => exact ⟨a.length, 0, List.replicate a.length 0, Nat.le_refl _, rfl, rfl, hb0, by simp, hown, Lib.hid (by simp [nv]), Lib.hid (by simp [nv]), hx1⟩
 case round =>
  obtain ⟨j, r, q, hj, rfl, rfl, hr, hq, ho, h1, h2, hx⟩ := hrel; have Hq := Lib.hid hq
  have hq' : a.length ≤ q.length := by omega
  clear hq
  match j, hj, h1, h2 with
  | 0, hj, h1, h2 =>
   have H1 := h1.out; simp only [List.drop_zero] at H1; have H2 := h2.out; simp only [List.drop_zero] at H2; obtain ⟨e1, hnl⟩ := ho.nl'; have hc := own_c hnl (by rw [← e1]; omega); rw [H1, ← e1] at hc; clear e1 h1 H1
   have HR := Lib.hid H2; clear H2
   have i1 : ¬ (0 : Int) ≤ ((0 : Nat) : Int) - 1 := by omega
   go_wp2_with fail
   refine hc.mono ?_; rintro e w2 ⟨A2, c2, rfl, h5, hx2⟩
   go_wp2
   (refine bodyPost_ret (v := ?_) ?_ rfl ?_; rotate_left; (simp only [results, Tryz.results125]; go_simp; (first | done | with_reducible rfl)))
   have hsz := hx.size; exact ⟨A2, c2, by rw [← HR.out], h5.widen fun b hb _ => by omega, hx.trans hx2⟩
  | i + 1, hj, h1, h2 =>
   obtain ⟨b1, o1, rfl, _, hc1, hn1⟩ := (ha.ext hx).at_ (k := i) (by omega); have c1' := hc1 i (by omega); clear hc1; obtain ⟨hco, hfo⟩ := ho.cell i (by omega)
   have i1 : (0 : Int) ≤ ((i + 1 : Nat) : Int) - 1 := by omega
   have e1 : ((i + 1 : Nat) : Int) - 1 = (i : Int) := by omega
   have il : (i : Int) < (a.length : Int) := by omega
   have ew := i64_wr i (by omega); obtain ⟨s1, s2⟩ := short_step (q := q) hb0 (show i < a.length by omega) (by omega) h1.out h2.out
   have S1 := Lib.hid s1; have S2 := Lib.hid s2
   clear s1 s2 h1 h2; obtain ⟨x, hx0⟩ : ∃ x, x = r * 4294967296 + nth a i := ⟨_, rfl⟩; rw [← hx0] at S1 S2
   have eo : bits .or .u64 ((r : Int) * 4294967296) (nth a i : Int) = (x : Int) := by
    rw [hx0, ← u64_or r (nth a i) (by omega) hn1]
    rfl
   have hxb : x < 4294967296 * b := by
    have : r * 4294967296 + 4294967296 ≤ b * 4294967296 := by
     have := Nat.mul_le_mul_right 4294967296 (show r + 1 ≤ b from hr)
     omega
    omega
   have hr2 : x % b < b := Nat.mod_lt _ hb0; have hd2 : x / b < 4294967296 := Nat.div_lt_of_lt_mul (by rw [Nat.mul_comm]; exact hxb); clear hx0 hxb; obtain ⟨d, hd⟩ : ∃ d, d = x / b := ⟨_, rfl⟩; obtain ⟨m, hm⟩ : ∃ m, m = x % b := ⟨_, rfl⟩
   have ed : IntKind.u64.wrap ((x : Int).tdiv (b : Int)) % 4294967296 = (d : Int) := by
    have h1 : (x : Int).tdiv (b : Int) = (d : Int) := by rw [hd]; rfl
    rw [h1]; simp only [IntKind.wrap, IntKind.signed, IntKind.bits]; simp
    omega
   have em : (x : Int).tmod (b : Int) = (m : Int) := by rw [hm]; rfl
   rw [← hd] at S1 hd2; rw [← hm] at S2 hr2; clear hd hm; rw [e1]
   go_wp2_with fail
   go_roundw
   case rel => exact ⟨i, m, q.set i d, by omega, rfl, rfl, hr2, by rw [List.length_set]; exact Hq.out, ho.set i (by simpa using ed) hd2, Lib.hid S1.out, Lib.hid S2.out, xt⟩
   case measure => simp [intOf] <;> omega

theorem lim_one {n : Nat} (h0 : 0 < n) (h1 : n < 4294967296) : lim n = [n] := by
 rw [lim_pos (by omega), Nat.mod_eq_of_lt h1, Nat.div_eq_of_lt h1, lim_zero]

set_option maxHeartbeats 800000 in
theorem div1_c {A B : Option Addr} {c d : Nat} {a b : List Nat} {w : World} {X Y : Nat → Prop} (ha : Nl w X A c a) (hb : Nl w Y B d b) (h0 : 0 < nv b) (h1 : nv b < 4294967296) (hL : a.length ≤ 1099511627776) :
  Calls Tryz.prog 107 #[.slice A a.length c, .slice B b.length d] w fun e w' => ∃ A1 c1 A2 c2, e = .returned (.tuple #[.slice A1 (lim (nv a / nv b)).length c1, .slice A2 (lim (nv a % nv b)).length c2, .int .i64 0]) ∧
   Nl w' (w.heap.size ≤ ·) A1 c1 (lim (nv a / nv b)) ∧ Nl w' (w.heap.size ≤ ·) A2 c2 (lim (nv a % nv b)) ∧ Ext w w' := by
 have hla := lim_len_le ha.lb; have e1 := lim_one h0 h1
 have hl1 : (lim (nv b)).length = 1 := by rw [e1]; rfl
 go_enter Tryz.func107, Tryz.ntmps107
 go_wp2_with fail
 refine (bare_c ha).mono ?_; rintro e w1 ⟨A1, c1, rfl, h2, rfl⟩
 go_wp2_with fail
 refine (bare_c hb).mono ?_; rintro e w1 ⟨B1, d1, rfl, h3, rfl⟩; rw [hl1]; rw [e1] at h3; obtain ⟨b1, o1, rfl, -, hc, hn⟩ := h3.at_ (k := 0) (by simp); have c0 := hc 0 (by simp); simp only [nth, List.getD_cons_zero, Nat.add_zero] at c0; clear hc hn
 have E1 := Lib.hid e1; clear e1
 have hd1 := h3.1; simp only [List.length_singleton] at hd1; clear hl1
 go_wp2_with fail
 refine (short_c h2 h0 h1 (by omega)).mono ?_; simp only [nv_lim]; rintro e w2 ⟨A2, c2, rfl, h4, hx2⟩; have hm : nv a % nv b < 4294967296 := Nat.lt_trans (Nat.mod_lt _ h0) h1; obtain ⟨q, hq⟩ : ∃ q, q = nv a / nv b := ⟨_, rfl⟩; obtain ⟨m, hm0⟩ : ∃ m, m = nv a % nv b := ⟨_, rfl⟩; rw [← hq] at h4 ⊢; rw [← hm0] at hm ⊢
 have HQ := Lib.hid hq; have HM := Lib.hid hm0
 clear hq hm0
 go_wp2_with fail
 refine (of_c m (by omega) _).mono ?_; rintro e w3 ⟨A3, c3, rfl, h5, hx3⟩
 go_wp2_with fail
 (refine bodyPost_ret (v := ?_) ?_ rfl ?_; rotate_left; (simp only [results, Tryz.results107]; go_simp; (first | done | with_reducible rfl)))
 have := hx2.size; obtain rfl := HQ.out; obtain rfl := HM.out; exact ⟨A2, c2, A3, c3, rfl, h4.ext xt, h5.widen fun b hb _ => by omega, Ext.trans hx2 xt⟩

end Go.Proofs.YtpkfjbljhneenaaGreat

namespace Go.Proofs.YtpkfjbljhneenaaGreat
open Go.RowKit

section
variable {P : Program} {ops : Array Oper} {Q : Exit → Act → World → Prop} {md : Region.Mode} {L : Nat}
def direct (md : Region.Mode) (ops : Array Oper) (m k : Nat) : Bool := ((ops[m]?).map fun o => o.after.any fun e => Region.binds md e && e.on == k).getD false
theorem direct_spec {m k : Nat} (h : direct md ops m k = true) {listed : Array Bool} (hr : m ∈ Region.ready md ops listed) : listed.getD k false = true := by
 obtain ⟨_, o, ho, hall⟩ := mem_ready.1 hr; simp only [direct, ho, Option.map_some, Option.getD_some, Array.any_eq_true, Bool.and_eq_true, beq_iff_eq] at h; obtain ⟨n, hn, he⟩ := h; have := hall _ (Array.getElem_mem hn) he.1
 rwa [he.2] at this
def Cls (md : Region.Mode) (ops : Array Oper) (listed : Array Bool) : Prop := ∀ m k, listed.getD m false = true → direct md ops m k = true → listed.getD k false = true
theorem Cls.init : Cls md ops (Array.replicate ops.size false) := fun m k h _ => by
 rw [Array.getD_eq_getD_getElem?] at h
 rcases hx : (Array.replicate ops.size false)[m]? with _ | b
 ·rw [hx] at h; cases h
 ·rw [hx] at h; have := Array.getElem?_eq_some_iff.1 hx; obtain ⟨h1, h2⟩ := this; rw [Array.getElem_replicate] at h2; subst h2
  cases h
theorem getD_set_true {listed : Array Bool} {j k : Nat} (h : listed.getD k false = true) : (listed.setIfInBounds j true).getD k false = true := by
 rw [Array.getD_eq_getD_getElem?] at h ⊢; rw [Array.getElem?_setIfInBounds]
 split
 ·split
  ·rfl
  ·rename_i e h2
   rw [Array.getElem?_eq_none (by omega)] at h; exact h
 ·exact h
theorem Cls.set {listed : Array Bool} (h : Cls md ops listed) {j : Nat} (hj : j ∈ Region.ready md ops listed) : Cls md ops (listed.setIfInBounds j true) := fun m k hm hd => by
 by_cases e : m = j
 ·subst e; exact getD_set_true (direct_spec hd hj)
 ·refine getD_set_true (h m k ?_ hd); rw [Array.getD_eq_getD_getElem?] at hm ⊢; rw [Array.getElem?_setIfInBounds_ne (Ne.symm e)] at hm; exact hm
end

end Go.Proofs.YtpkfjbljhneenaaGreat

namespace Go.Proofs.YtpkfjbljhneenaaGreat
open Go.RowKit

section
variable {P : Program} {ops : Array Oper} {Q : Exit → Act → World → Prop} {md : Region.Mode} {late : Nat → Bool}
def reach (md : Region.Mode) (ops : Array Oper) : Nat → Nat → Nat → Bool
 | 0, m, k => direct md ops m k
 | f + 1, m, k => direct md ops m k || (List.range ops.size).any fun j => direct md ops m j && reach md ops f j k
theorem reach_listed {listed : Array Bool} (hC : Cls md ops listed) : ∀ (f m k : Nat), listed.getD m false = true → reach md ops f m k = true → listed.getD k false = true
 | 0, m, k, hm, h => hC m k hm h
 | f + 1, m, k, hm, h => by
  simp only [reach, Bool.or_eq_true, List.any_eq_true, Bool.and_eq_true] at h
  rcases h with h | ⟨j, _, h1, h2⟩
  ·exact hC m k hm h
  ·exact reach_listed hC f j k (hC m j hm h1) h2
theorem reach_ready {listed : Array Bool} (hC : Cls md ops listed) : ∀ (f m k : Nat), m ∈ Region.ready md ops listed → reach md ops f m k = true → listed.getD k false = true
 | 0, m, k, hm, h => direct_spec h hm
 | f + 1, m, k, hm, h => by
  simp only [reach, Bool.or_eq_true, List.any_eq_true, Bool.and_eq_true] at h
  rcases h with h | ⟨j, _, h1, h2⟩
  ·exact direct_spec h hm
  ·exact reach_listed hC f j k (direct_spec h1 hm) h2
def waitsAll3 (md : Region.Mode) (ops : Array Oper) (late : Nat → Bool) : Bool :=
 (List.range ops.size).all fun L => !late L || (List.range ops.size).all fun k => late k || reach md ops 6 L k
theorem waitsAll3_spec (h : waitsAll3 md ops late = true) {listed : Array Bool} (hC : Cls md ops listed) {L : Nat} (hL : late L = true) (hr : L ∈ Region.ready md ops listed) {k : Nat} (hk : k < ops.size) (hne : late k = false) : listed.getD k false = true := by
 obtain ⟨_, o, ho, hall⟩ := mem_ready.1 hr; have hl : L < ops.size := (Array.getElem?_eq_some_iff.1 ho).1; simp only [waitsAll3, List.all_eq_true, List.mem_range, Bool.or_eq_true, Bool.not_eq_true'] at h
 rcases h L hl with h1 | h1
 ·rw [hL] at h1; cases h1
 ·rcases h1 k hk with h2 | h2
  ·rw [hne] at h2; cases h2
  ·exact reach_ready hC 6 L k hr h2
def wpAnyH (P : Program) (md : Region.Mode) (ops : Array Oper) (Q : Exit → Act → World → Prop) (late : Nat → Bool) (S : World → Prop) : Nat → Array Bool → Act → World → Prop
 | 0, listed, a, w => Region.ready md ops listed = [] ∧ Q .normal a w
 | f + 1, listed, a, w =>
  (Region.ready md ops listed = [] → Q .normal a w) ∧
  ∀ i ∈ Region.ready md ops listed, wpOp P ops Q i (fun a' w' => (late i = true ∨ S w') ∧ wpAnyH P md ops Q late S f (listed.setIfInBounds i true) a' w') a w
theorem wpAny_of_H {S : World → Prop} : ∀ (f : Nat) (listed : Array Bool) (a : Act) (w : World), wpAnyH P md ops Q late S f listed a w → wpAny P md ops Q f listed a w
 | 0, _, _, _, h => h
 | _ + 1, _, _, _, h => ⟨h.1, fun i hi => wpOp_mono (fun a' w' h' => wpAny_of_H _ _ a' w' h'.2) (h.2 i hi)⟩
theorem wpAnyH_mono {S S' : World → Prop} (hS : ∀ w, S' w → S w) : ∀ (f : Nat) (listed : Array Bool) (a : Act) (w : World), wpAnyH P md ops Q late S' f listed a w → wpAnyH P md ops Q late S f listed a w
 | 0, _, _, _, h => h
 | _ + 1, _, _, _, h => ⟨h.1, fun i hi => wpOp_mono (fun a' w' h' => ⟨h'.1.imp id (hS w'), wpAnyH_mono hS _ _ a' w' h'.2⟩) (h.2 i hi)⟩

theorem wpAnyH_first {S : World → Prop} (hL : waitsAll3 md ops late = true)  {i : Nat} {oi : Oper} {v : Value} (hil : late i = false) (hi : ops[i]? = some oi) (hsel : ∀ (j : Nat) (o : Oper) cs b, ops[j]? = some o → o.op ≠ .select cs b)
  (hQ : ∀ c a d v w, Q (.panic c) (Act.put a d v) w → Q (.panic c) a w) :
  ∀ (f : Nat) (listed : Array Bool) (a : Act) (w : World), Cls md ops listed →
   (∀ j oj, ops[j]? = some oj → j ≠ i → listed.getD j true = false → (∀ e ∈ oj.after, Region.binds md e = true → e.on ≠ i) → oi.apart ops oj = true) →
   i ∈ Region.ready md ops listed → YieldsIf P ops S oi v a → S w →
   wpAnyH P md ops Q late S f (listed.setIfInBounds i true) (a.put oi.dst v) w → wpAnyH P md ops Q late S (f + 1) listed a w := by
 intro f
 induction f with
 | zero =>
  intro listed a w _ _ hr hy hS H; refine ⟨fun h => (by rw [h] at hr; cases hr), fun j hj => ?_⟩
  by_cases hji : j = i
  ·subst hji; exact hy.wpOp hi hS ⟨.inr hS, H⟩
  ·have h := ready_mono hj hji; rw [H.1] at h
   cases h
 | succ f ih =>
  intro listed a w hC hfree hr hy hS H; refine ⟨fun h => (by rw [h] at hr; cases hr), fun j hj => ?_⟩
  by_cases hji : j = i
  ·subst hji; exact hy.wpOp hi hS ⟨.inr hS, H⟩
  ·have h1 := H.2 j (ready_mono hj hji); obtain ⟨hjun, oj, hoj, hall⟩ := mem_ready.1 hj; have hlist : listed.getD i true = false := (mem_ready.1 hr).1
   have hnot : ∀ e ∈ oj.after, Region.binds md e = true → e.on ≠ i := by
    intro e he hb heq; have h2 := hall e he hb; rw [heq] at h2
    rcases Nat.lt_or_ge i listed.size with h' | h'
    ·simp [h'] at hlist h2; rw [hlist] at h2; cases h2
    ·simp [Array.getElem?_eq_none h'] at h2
   have h2 := wpOp_putIf hoj (hfree j oj hoj hji hjun hnot) (fun cs b => hsel i oi cs b hi) (fun cs b => hsel j oj cs b hoj) (fun c a w => hQ c a oi.dst v w) hy h1
   have hfree' : ∀ k ok, ops[k]? = some ok → k ≠ i → (listed.setIfInBounds j true).getD k true = false →
     (∀ e ∈ ok.after, Region.binds md e = true → e.on ≠ i) → oi.apart ops ok = true := by
    intro k ok hk hki hun hno; refine hfree k ok hk hki ?_ hno
    by_cases hjk : j = k
    ·subst hjk; exact hjun
    ·rw [getD_set_ne true hjk] at hun; exact hun
   have hjL : ¬ late j = true := by
    intro e; have h3 := waitsAll3_spec hL hC e hj (k := i) (Array.getElem?_eq_some_iff.1 hi).1 hil
    rcases Nat.lt_or_ge i listed.size with h' | h'
    ·simp [h'] at hlist h3; rw [hlist] at h3; cases h3
    ·simp [Array.getElem?_eq_none h'] at h3
   refine wpOp_mono (fun a' w' h3 => ⟨?_, ?_⟩) h2
   ·exact .inr (h3.2.1.resolve_left hjL)
   ·refine ih (listed.setIfInBounds j true) a' w' (hC.set hj) hfree' (ready_mono hr (Ne.symm hji)) h3.1 (h3.2.1.resolve_left hjL) ?_; rw [Array.setIfInBounds_comm _ _ hji]; exact h3.2.2


def LateW (P : Program) (ops : Array Oper) (Q : Exit → Act → World → Prop) : List Nat → Act → World → Prop
 | [], a, w => Q .normal a w
 | i :: r, a, w => wpOp P ops Q i (fun a' w' => LateW P ops Q r a' w') a w
def SeqH (P : Program) (ops : Array Oper) (Q : Exit → Act → World → Prop) (ls : List Nat) : List (Nat × Bool) → Act → World → Prop
 | [], a, w => LateW P ops Q ls a w
 | (i, true) :: r, a, w => ∃ o v, ops[i]? = some o ∧ YieldsIf P ops (Ext w) o v a ∧ SeqH P ops Q ls r (a.put o.dst v) w
 | (i, false) :: r, a, w => wpOp P ops Q i (fun a' w' => Ext w w' ∧ SeqH P ops Q ls r a' w') a w
def lateOk (md : Region.Mode) (ops : Array Oper) (late : Nat → Bool) : List Nat → Array Bool → Bool
 | [], listed => (Region.ready md ops listed).isEmpty
 | i :: r, listed => late i && (Region.ready md ops listed == [i]) && lateOk md ops late r (listed.setIfInBounds i true)
def seqHOk (md : Region.Mode) (ops : Array Oper) (late : Nat → Bool) (ls : List Nat) : List (Nat × Bool) → Array Bool → Bool
 | [], listed => lateOk md ops late ls listed
 | (i, true) :: r, listed => !late i && Region.free md ops listed i && (Region.ready md ops listed).contains i && seqHOk md ops late ls r (listed.setIfInBounds i true)
 | (i, false) :: r, listed => (Region.ready md ops listed == [i]) && seqHOk md ops late ls r (listed.setIfInBounds i true)
theorem late_sound {S : World → Prop} : ∀ (l : List Nat) (listed : Array Bool) (a : Act) (w : World), lateOk md ops late l listed = true → LateW P ops Q l a w → wpAnyH P md ops Q late S l.length listed a w
 | [], listed, a, w, hok, h => ⟨by simpa [lateOk] using hok, h⟩
 | i :: r, listed, a, w, hok, h => by
  simp only [lateOk, Bool.and_eq_true, beq_iff_eq] at hok; refine ⟨fun h0 => (by rw [hok.1.2] at h0; cases h0), fun j hj => ?_⟩; rw [hok.1.2] at hj
  have e : j = i := by simpa using hj
  subst e; exact wpOp_mono (fun a' w' h' => ⟨.inl hok.1.1, late_sound r _ a' w' hok.2 h'⟩) h
theorem seqH_sound (hL : waitsAll3 md ops late = true) (hs : Region.noSelect ops = true) (hQ : ∀ c a d v w, Q (.panic c) (Act.put a d v) w → Q (.panic c) a w) {ls : List Nat} :
  ∀ (l : List (Nat × Bool)) (listed : Array Bool) (a : Act) (w : World) (S : World → Prop), Cls md ops listed → (∀ w', Ext w w' → S w') → seqHOk md ops late ls l listed = true → SeqH P ops Q ls l a w → wpAnyH P md ops Q late S (l.length + ls.length) listed a w
 | [], listed, a, w, S, _, _, hok, h => by
  simp only [List.length_nil, Nat.zero_add]; exact late_sound ls listed a w hok h
 | (i, true) :: r, listed, a, w, S, hC, hS, hok, h => by
  simp only [seqHOk, Bool.and_eq_true, Bool.not_eq_true'] at hok; obtain ⟨⟨⟨hil, hfr⟩, hrd⟩, hok⟩ := hok; obtain ⟨o, v, ho, hy, h⟩ := h
  have hi : i ∈ Region.ready md ops listed := by simpa using hrd
  have h1 := seqH_sound hL hs hQ r (listed.setIfInBounds i true) (a.put o.dst v) w (Ext w) (hC.set hi) (fun _ hx => hx) hok h; have h2 := wpAnyH_first hL hil ho (Region.noSelect_spec hs) hQ (r.length + ls.length) listed a w hC (Region.free_spec ho hfr) hi hy (Ext.refl w) h1
  have e : ((i, true) :: r).length + ls.length = r.length + ls.length + 1 := by simp; omega
  rw [e]; exact wpAnyH_mono hS _ _ _ _ h2
 | (i, false) :: r, listed, a, w, S, hC, hS, hok, h => by
  simp only [seqHOk, Bool.and_eq_true, beq_iff_eq] at hok
  have e : ((i, false) :: r).length + ls.length = r.length + ls.length + 1 := by simp; omega
  rw [e]; refine ⟨fun h0 => (by rw [hok.1] at h0; cases h0), fun j hj => ?_⟩; have hj0 := hj; rw [hok.1] at hj
  have e : j = i := by simpa using hj
  subst e; exact wpOp_mono (fun a' w' h' => ⟨.inr (hS w' h'.1), seqH_sound hL hs hQ r _ a' w' S (hC.set hj0) (fun w2 hx => hS w2 (h'.1.trans hx)) hok.2 h'.2⟩) h

theorem wp_region_late {id : Nat} {a : Act} {w : World} (l : List (Nat × Bool)) (ls : List Nat) (hm : P.follows .mixedOrders = true)
  (hok : (seqHOk .any ops (fun i => ls.contains i) ls l (Array.replicate ops.size false) && (l.length + ls.length == ops.size) && waitsAll3 .any ops (fun i => ls.contains i) && Region.noSelect ops) = true)
  (hQ : ∀ c a d v w, Q (.panic c) (Act.put a d v) w → Q (.panic c) a w) (h : SeqH P ops Q ls l a w.drew) : (Code.region id ops true).wp P Q a w := by
 simp only [Bool.and_eq_true, beq_iff_eq] at hok; refine wp_region_any hm (wpAny_of_H (late := fun i => ls.contains i) (S := Ext w.drew) _ _ _ _ ?_); rw [← hok.1.1.2]; have := seqH_sound hok.1.2 hok.2 hQ l (Array.replicate ops.size false) a w.drew (Ext w.drew) Cls.init (fun _ h => h) hok.1.1.1 h; rw [← hok.1.1.2] at this; exact this

theorem sh_take {i : Nat} {ls : List Nat} {r : List (Nat × Bool)} {a : Act} {w : World} {o : Oper} {v : Value} (ho : opAt ops.toList i = some o) (hg : o.guard = none)
  (hv : ∀ w', Ext w w' → (execOp a.eval o).run P w' = .ok (.value v) w') (h : SeqH P ops Q ls r (a.put o.dst v) w) : SeqH P ops Q ls ((i, true) :: r) a w :=
 ⟨o, v, opAt_ops ho, .inl ⟨by simp [Region.wanted, hg], hv⟩, h⟩
theorem sh_loud {i : Nat} {ls : List Nat} {r : List (Nat × Bool)} {a : Act} {w : World} {o : Oper} (ho : opAt ops.toList i = some o) (hg : o.guard = none)
  (h : ∀ K : Act → World → Prop, (∀ a' w', Ext w w' → SeqH P ops Q ls r a' w' → K a' w') → o.wp P a w K Q) : SeqH P ops Q ls ((i, false) :: r) a w := by
 unfold SeqH wpOp; simp only [opAt_ops ho, Region.wanted, hg, if_true]; exact .inl (h _ fun a' w' hx hs => ⟨hx, hs⟩)
theorem sh_done {ls : List Nat} {a : Act} {w : World} (h : LateW P ops Q ls a w) : SeqH P ops Q ls [] a w := h
theorem sh_late {i : Nat} {r : List Nat} {a : Act} {w : World} {o : Oper} (ho : opAt ops.toList i = some o) (hg : o.guard = none)
  (h : ∀ K : Act → World → Prop, (∀ a' w', LateW P ops Q r a' w' → K a' w') → o.wp P a w K Q) : LateW P ops Q (i :: r) a w := by
 unfold LateW wpOp; simp only [opAt_ops ho, Region.wanted, hg, if_true]; exact .inl (h _ fun a' w' hs => hs)
theorem sh_end {a : Act} {w : World} (h : Q .normal a w) : LateW P ops Q [] a w := h
end

end Go.Proofs.YtpkfjbljhneenaaGreat

namespace Go.Proofs.YtpkfjbljhneenaaGreat
open Go.RowKit

section
variable {P : Program} {ops : Array Oper} {Q : Exit → Act → World → Prop} {md : Region.Mode} {late : Nat → Bool}
variable {w0 : World}
end

end Go.Proofs.YtpkfjbljhneenaaGreat
