/- Contracts of package nat. No conditions. -/
import Derived.Test.YtbblgjjomgipfaaGreatBase
namespace Go.Proofs.YtbblgjjomgipfaaGreat
open Go.RowKit

set_option maxHeartbeats 400000 in
theorem bare_c {A : Option Addr} {c : Nat} {l : List Nat} {w : World} {X : Nat → Prop} (h : Nl w X A c l) :
    Calls Tryz.prog 107 #[.slice A l.length c] w fun e w' => ∃ A' c', e = .returned (.slice A' (lim (nv l)).length c') ∧ Nl w X A' c' (lim (nv l)) ∧ w = w' := by
  have hlc := h.1
  have hcm := h.2.1
  have hb := h.lt
  simp only [maxLen] at hcm
  have fin : ∀ k, k ≤ l.length → (∀ j, k ≤ j → j < l.length → nth l j = 0) → (0 < k → nth l (k - 1) ≠ 0) → k = (lim (nv l)).length ∧ Nl w X A k (lim (nv l)) := by
    intro k hk hz hl
    have e := take_lim hb hk hz hl
    rw [← e]
    exact ⟨by rw [List.length_take]; omega, Sl.take h hk (Nat.le_refl _) (by simp only [maxLen]; omega)⟩
  have Fin := Lib.hid fin; clear fin
  go_enter Tryz.func107, Tryz.ntmps107
  go_wp2
  go_step3
  go_wp2
  go_step3
  go_wp2
  go_loop [3] (fun i => ∃ k : Nat, k ≤ l.length ∧ i = .int .i64 k ∧ ∀ j, k ≤ j → j < l.length → nth l j = 0) (fun i => (intOf i).toNat)
  case atStart => exact ⟨l.length, Nat.le_refl _, rfl, fun j h1 h2 => by omega⟩
  case round =>
    obtain ⟨k, hk, rfl, hz⟩ := hrel
    have Hz := Lib.hid hz; clear hz
    by_cases h0 : 0 < k
    · obtain ⟨b, o, rfl, hX, hcell, _⟩ := h.at_ (k := k - 1) (by omega)
      have hc1 := hcell (k - 1) (by omega)
      by_cases hn : nth l (k - 1) = 0
      · have hn' : (((nth l (k - 1) : Nat) : Int) != 0) = false := by simp [hn]
        clear hcell
        go_wp2
        go_round
        case rel =>
          refine ⟨k - 1, by omega, by go_num, fun j h1 h2 => ?_⟩
          rcases Nat.eq_or_lt_of_le h1 with e | e
          · rw [← e]; exact hn
          · exact Hz.out j (by omega) h2
        case measure => simp [intOf]; omega
      · have hn' : (((nth l (k - 1) : Nat) : Int) != 0) = true := by simp [bne_iff_ne]; exact hn
        clear hcell
        go_wp2
        go_ret
        obtain ⟨e1, e2⟩ := Fin.out k hk Hz.out (fun _ => hn)
        exact ⟨_, _, ret_slice e1, e2, rfl⟩
    · go_wp2
      go_ret
      obtain ⟨e1, e2⟩ := Fin.out k hk Hz.out (fun h => absurd h h0)
      exact ⟨_, _, ret_slice e1, e2, rfl⟩

set_option maxHeartbeats 400000 in
theorem own_n {A : Option Addr} {c : Nat} {l : List Nat} {w : World} {X : Nat → Prop} (h : Nl w X A c l) (hL : l.length ≤ 4398046511104) :
    Calls Tryz.prog 108 #[.slice A l.length c] w fun e w' => ∃ g c', e = .returned (.slice (some ⟨g, 0, none⟩) (lim (nv l)).length c') ∧ Nown w' w.heap.size (.slice (some ⟨g, 0, none⟩) (lim (nv l)).length c') (lim (nv l)) ∧ w.heap.size ≤ g ∧ g < w'.heap.size ∧ Ext w w' := by
  have hle := lim_len_le h.lb
  go_enter Tryz.func108, Tryz.ntmps108
  go_wp2_with (first
    | (go_at_call 107
       refine (bare_c (h.keep ((Kp.refl w).alloc _))).mono ?_
       rintro e w1 ⟨A1, c1, rfl, h1, rfl⟩)
    | (at_builtin
       refine wpList_app ety_u (.tmp 3) (.tmp 5) (base := w.heap.size) (Z := fun _ => False) (Own.empty w _ _ (Nat.le_refl _)) (Fl.u (lb_lim (nv l)) _ _) (uc_at h1) (by simp; omega) (by simp [maxLen]; omega) (by simp) rfl rfl rfl rfl ?_
       intro v1 w2 hown hg hat))
  go_ret
  have hx : Ext w w2 := ((Ext.refl w).alloc _).grown hg (by simp [Value.ownBlock])
  obtain ⟨g, c2, rfl, hb, hlt⟩ := Nown.some_ hown (by rcases hat with e | e <;> rw [e] <;> simp [Value.ownBlock])
  exact ⟨g, c2, rfl, hown, hb, hlt, hx⟩
theorem own_c {A : Option Addr} {c : Nat} {l : List Nat} {w : World} {X : Nat → Prop} (h : Nl w X A c l) (hL : l.length ≤ 4398046511104) :
    Calls Tryz.prog 108 #[.slice A l.length c] w fun e w' => ∃ A' c', e = .returned (.slice A' (lim (nv l)).length c') ∧ Nl w' (w.heap.size ≤ ·) A' c' (lim (nv l)) ∧ Ext w w' :=
  (own_n h hL).mono fun _ _ ⟨_, c', he, hn, _, _, hx⟩ => ⟨_, c', he, hn.nl'.2, hx⟩

set_option maxHeartbeats 400000 in
theorem cmp_c {A B : Option Addr} {c d : Nat} {a b : List Nat} {w : World} {X Y : Nat → Prop} (ha : Nl w X A c a) (hb : Nl w Y B d b) :
    Calls Tryz.prog 78 #[.slice A a.length c, .slice B b.length d] w fun e w' => e = .returned (.int .i64 (cmpN (nv a) (nv b))) ∧ Ext w w' := by
  go_enter Tryz.func78, Tryz.ntmps78
  go_wp2_with fail
  refine (bare_c ha).mono ?_
  rintro e w1 ⟨A1, c1, rfl, h1, rfl⟩
  go_wp2_with fail
  refine (bare_c hb).mono ?_
  rintro e w1 ⟨B1, d1, rfl, h2, rfl⟩
  obtain ⟨la, hla⟩ : ∃ la, la = lim (nv a) := ⟨_, rfl⟩
  obtain ⟨lb, hlb⟩ : ∃ lb, lb = lim (nv b) := ⟨_, rfl⟩
  have hva : nv la = nv a := by rw [hla, nv_lim]
  have hvb : nv lb = nv b := by rw [hlb, nv_lim]
  rw [← hla] at h1 ⊢
  rw [← hlb] at h2 ⊢
  have Hla := Lib.hid hla; have Hlb := Lib.hid hlb; have Hva := Lib.hid hva; have Hvb := Lib.hid hvb
  clear hla hlb hva hvb
  have hm1 := h1.2.1; have hm2 := h2.2.1; have hl1 := h1.1; have hl2 := h2.1
  simp only [maxLen] at hm1 hm2
  by_cases hlen : la.length = lb.length
  · have hn : (((la.length : Nat) : Int) != ((lb.length : Nat) : Int)) = false := by simp [hlen]
    have Hlen := Lib.hid hlen
    have hl3 : la.length ≤ lb.length := by omega
    clear hlen
    go_wp2
    go_loopw [5] (fun i wr => ∃ k : Nat, k ≤ la.length ∧ i = .int .i64 ((k : Int) - 1) ∧ la.drop k = lb.drop k ∧ Ext w wr) (fun i _ => (intOf i + 1).toNat)
    case atStart => exact ⟨la.length, Nat.le_refl _, rfl, by rw [List.drop_length, Hlen.out, List.drop_length], Ext.refl _⟩
    case round =>
      obtain ⟨k, hk, rfl, hd, hx⟩ := hrel
      have Hd := Lib.hid hd; clear hd
      rcases Nat.eq_zero_or_pos k with h0 | h0
      · subst h0
        go_wp2
        go_ret
        refine ⟨ret_int ?_, hx⟩
        have := Hd.out
        simp only [List.drop_zero] at this
        rw [← Hva.out, ← Hvb.out, this, cmpN_eq rfl]
      · obtain ⟨j, rfl⟩ : ∃ j, k = j + 1 := ⟨k - 1, by omega⟩
        obtain ⟨b1, o1, rfl, _, hc1, hb1⟩ := (h1.ext hx).at_ (k := j) (by omega)
        obtain ⟨b2, o2, rfl, _, hc2, hb2⟩ := (h2.ext hx).at_ (k := j) (by omega)
        have c1' := hc1 j (by omega)
        have c2' := hc2 j (by omega)
        clear hc1 hc2
        have ej : (((j + 1 : Nat) : Int) - 1) = (j : Int) := by omega
        rw [ej]
        clear ej
        have i1 : (j : Int) < (la.length : Int) := by omega
        have i2 : (j : Int) < (lb.length : Int) := by omega
        have i3 : nth la j < nth lb j ∨ nth la j = nth lb j ∨ nth lb j < nth la j := by omega
        rcases i3 with i3 | i3 | i3
        · have i4 : ((nth la j : Nat) : Int) < ((nth lb j : Nat) : Int) := by omega
          go_wp2
          go_quiet (fail)
          go_wp2
          go_ret
          exact ⟨ret_int (by rw [← Hva.out, ← Hvb.out, cmpN_lt (nv_lt_at h1.lb (by omega) (by omega) Hd.out i3)]), (by repeat (first | with_reducible assumption | with_reducible exact Ext.refl _ | with_reducible refine Ext.drewN ?_ _ | with_reducible refine Ext.drew ?_ | with_reducible refine Ext.alloc ?_ _ | (with_reducible refine Ext.setCell ?_ ?_ _; rotate_left; (first | exact Nat.le_refl _ | (dsimp only; omega) | (simp only [wsz]; omega))) | (with_reducible refine Ext.trans ?_ (by with_reducible assumption))))⟩
        · have I3 := Lib.hid i3
          have i4 : ¬ ((nth la j : Nat) : Int) < ((nth lb j : Nat) : Int) := by omega
          have i5 : ¬ ((nth lb j : Nat) : Int) < ((nth la j : Nat) : Int) := by omega
          clear i3
          go_wp2
          go_quiet (fail)
          go_wp2
          go_quiet (fail)
          go_wp2
          go_roundw
          case rel => exact ⟨j, by omega, by go_num, drop_eq_step (by omega) (by omega) Hd.out I3.out, (by repeat (first | with_reducible assumption | with_reducible exact Ext.refl _ | with_reducible refine Ext.drewN ?_ _ | with_reducible refine Ext.drew ?_ | with_reducible refine Ext.alloc ?_ _ | (with_reducible refine Ext.setCell ?_ ?_ _; rotate_left; (first | exact Nat.le_refl _ | (dsimp only; omega) | (simp only [wsz]; omega))) | (with_reducible refine Ext.trans ?_ (by with_reducible assumption))))⟩
          case measure => simp [intOf] <;> omega
        · have i4 : ¬ ((nth la j : Nat) : Int) < ((nth lb j : Nat) : Int) := by omega
          have i5 : ((nth lb j : Nat) : Int) < ((nth la j : Nat) : Int) := by omega
          go_wp2
          go_quiet (fail)
          go_wp2
          go_quiet (fail)
          go_wp2
          go_ret
          exact ⟨ret_int (by rw [← Hva.out, ← Hvb.out, cmpN_gt (nv_lt_at h2.lb (by omega) (by omega) Hd.out.symm i3)]), (by repeat (first | with_reducible assumption | with_reducible exact Ext.refl _ | with_reducible refine Ext.drewN ?_ _ | with_reducible refine Ext.drew ?_ | with_reducible refine Ext.alloc ?_ _ | (with_reducible refine Ext.setCell ?_ ?_ _; rotate_left; (first | exact Nat.le_refl _ | (dsimp only; omega) | (simp only [wsz]; omega))) | (with_reducible refine Ext.trans ?_ (by with_reducible assumption))))⟩
  · have hn : (((la.length : Nat) : Int) != ((lb.length : Nat) : Int)) = true := by rw [bne_iff_ne]; omega
    rcases Nat.lt_or_gt_of_ne hlen with hlt | hlt
    · have i4 : ((la.length : Nat) : Int) < ((lb.length : Nat) : Int) := by omega
      have hlt' : nv a < nv b := nv_lt_of_len (by rw [← Hla.out, ← Hlb.out]; exact hlt)
      go_wp2
      go_ret
      exact ⟨ret_int (by rw [cmpN_lt hlt']), Ext.refl _⟩
    · have i4 : ¬ ((la.length : Nat) : Int) < ((lb.length : Nat) : Int) := by omega
      have hlt' : nv b < nv a := nv_lt_of_len (by rw [← Hla.out, ← Hlb.out]; exact hlt)
      go_wp2
      go_ret
      exact ⟨ret_int (by rw [cmpN_gt hlt']), Ext.refl _⟩

set_option maxHeartbeats 400000 in
theorem of_c (n : Nat) (hn : n < 18446744073709551616) (w : World) :
    Calls Tryz.prog 100 #[.int .u64 (n : Int)] w fun e w' => ∃ A' c', e = .returned (.slice A' (lim n).length c') ∧ Nl w' (w.heap.size ≤ ·) A' c' (lim n) ∧ Ext w w' := by
  go_enter Tryz.func100, Tryz.ntmps100
  go_wp2_with fail
  have hb : Lb [n % 4294967296, n / 4294967296] := Lb.cons (by omega) (Lb.cons (by omega) Lb.nil)
  have hnl : Nl (w.alloc (.cells #[.int .u32 ((n : Int) % 4294967296), .int .u32 ((n : Int) / 4294967296)] 56)) (fun _ => True) (some ⟨w.heap.size, 0, none⟩) 2 [n % 4294967296, n / 4294967296] :=
    Sl.of_flat (by simp) (by simp [maxLen]) (Thaw.new rfl _ _) (Fl.u hb _ _) fun _ => ⟨_, _, rfl, trivial, fun j u hu => by
      rw [World.cell?_alloc_at (hn := rfl)]
      match j, hu with
      | 0, hu => simpa [uc] using hu
      | 1, hu => simpa [uc] using hu⟩
  have e0 : nv [n % 4294967296, n / 4294967296] = n := by simp only [nv]; omega
  have hc := own_c hnl (by simp)
  rw [e0] at hc
  refine hc.mono ?_
  rintro e w1 ⟨A1, c1, rfl, h1, hx⟩
  go_wp2
  go_ret
  exact ⟨A1, c1, rfl, h1.widen fun b hb _ => by simp only [World.size_alloc] at hb; omega, ((Ext.refl w).alloc _).trans hx⟩

set_option maxHeartbeats 400000 in
theorem add_c {A B : Option Addr} {c d : Nat} {a b : List Nat} {w : World} {X Y : Nat → Prop} (ha : Nl w X A c a) (hb : Nl w Y B d b) (hLa : a.length ≤ 1099511627776) (hLb : b.length ≤ 1099511627776) :
    Calls Tryz.prog 77 #[.slice A a.length c, .slice B b.length d] w fun e w' => ∃ A' c', e = .returned (.slice A' (lim (nv a + nv b)).length c') ∧ Nl w' (w.heap.size ≤ ·) A' c' (lim (nv a + nv b)) ∧ Ext w w' := by
  have hla := lim_len_le ha.lb
  have hlb := lim_len_le hb.lb
  go_enter Tryz.func77, Tryz.ntmps77
  go_wp2_with fail
  refine (bare_c ha).mono ?_
  rintro e w1 ⟨A1, c1, rfl, h1, rfl⟩
  go_wp2_with fail
  refine (bare_c hb).mono ?_
  rintro e w1 ⟨B1, d1, rfl, h2, rfl⟩
  go_upto_if 17 with fail
  go_cut [0, 1] (fun s0 s1 wx => ∃ A' B' c' d' la lb, s0 = .slice A' la.length c' ∧ s1 = .slice B' lb.length d' ∧ (∃ X', Nl w X' A' c' la) ∧ (∃ X', Nl w X' B' d' lb) ∧ lb.length ≤ la.length ∧ la.length ≤ 1099511627776 ∧ nv a + nv b = nv la + nv lb ∧ wx = w)
  case first =>
    rcases Nat.lt_or_ge (lim (nv a)).length (lim (nv b)).length with hlt | hlt
    · have i1 : (((lim (nv a)).length : Nat) : Int) < (((lim (nv b)).length : Nat) : Int) := by omega
      go_wp2_with fail
      go_meet
      exact ⟨_, _, _, _, _, _, rfl, rfl, ⟨_, h2⟩, ⟨_, h1⟩, by omega, by omega, by simp only [nv_lim]; omega, rfl⟩
    · have i1 : ¬ (((lim (nv a)).length : Nat) : Int) < (((lim (nv b)).length : Nat) : Int) := by omega
      go_wp2_with fail
      go_meet
      exact ⟨_, _, _, _, _, _, rfl, rfl, ⟨_, h1⟩, ⟨_, h2⟩, by omega, by omega, by simp only [nv_lim], rfl⟩
  case rest =>
    obtain ⟨A', B', c', d', la, lb, rfl, rfl, ⟨X1, h3⟩, ⟨X2, h4⟩, hle, hL, hsum, rfl⟩ := hcut
    clear h1 h2 hla hlb
    have Hsum := Lib.hid hsum; clear hsum
    have hm1 := h3.2.1; have hl1 := h3.1; have hm2 := h4.2.1; have hl2 := h4.1
    have hb1 := h3.lb; have hb2 := h4.lb
    go_wp2_with (at_make; refine wpList_makeu (.tmp 22) (.tmp 22) _ (la.length + 1) (Nat.le_refl _) (by omega) (by omega) (by omega) rfl rfl rfl rfl ?_; intro w1 hown hx1)
    go_loopw [6, 26] (fun cv iv wr => ∃ (k C : Nat) (out : List Nat), k ≤ la.length ∧ iv = .int .i64 k ∧ cv = .int .u64 C ∧ C ≤ 1 ∧ out.length = la.length + 1 ∧ Nown wr wc.heap.size (.slice (some ⟨wc.heap.size, 0, none⟩) (la.length + 1) (la.length + 1)) out ∧
        nv (out.take k) + pw k * C = nv (la.take k) + nv (lb.take k) ∧ Ext wc wr) (fun _ iv _ => la.length - (intOf iv).toNat)
    case atStart => exact ⟨0, 0, List.replicate (la.length + 1) 0, Nat.zero_le _, rfl, rfl, by omega, by simp, hown, by simp [nv], hx1⟩
    case round =>
      obtain ⟨k, C, out, hk, rfl, rfl, hC, hlen, ho, hinv, hx⟩ := hrel
      have Hinv := Lib.hid hinv; clear hinv
      have Hlen := Lib.hid hlen
      have hlen' : la.length < out.length := by omega
      clear hlen
      by_cases hlt : k < la.length
      · obtain ⟨b1, o1, rfl, _, hc1, hn1⟩ := (h3.ext hx).at_ (k := k) hlt
        have c1' := hc1 k hlt
        clear hc1
        obtain ⟨hco, hfo⟩ := ho.cell k (by omega)
        rcases Nat.lt_or_ge k lb.length with hkb | hkb
        · obtain ⟨b2, o2, rfl, _, hc2, hn2⟩ := (h4.ext hx).at_ (k := k) hkb
          have c2' := hc2 k hkb
          clear hc2
          go_wp2
          go_roundw
          case rel => exact ⟨k + 1, (C + nth la k + nth lb k) / 4294967296, out.set k ((C + nth la k + nth lb k) % 4294967296), by omega, by go_num, congrArg (Value.int .u64) (by omega), by omega, by rw [List.length_set]; exact Hlen.out, ho.set k (by omega) (by omega), add_step Hinv.out (by omega) rfl, (by repeat (first | with_reducible assumption | with_reducible exact Ext.refl _ | with_reducible refine Ext.drewN ?_ _ | with_reducible refine Ext.drew ?_ | with_reducible refine Ext.alloc ?_ _ | (with_reducible refine Ext.setCell ?_ ?_ _; rotate_left; (first | exact Nat.le_refl _ | (dsimp only; omega) | (simp only [wsz]; omega))) | (with_reducible refine Ext.trans ?_ (by with_reducible assumption))))⟩
          case measure => simp [intOf] <;> omega
        · have hz := nth_ge lb k hkb
          go_wp2
          go_roundw
          case rel => exact ⟨k + 1, (C + nth la k) / 4294967296, out.set k ((C + nth la k) % 4294967296), by omega, by go_num, congrArg (Value.int .u64) (by omega), by omega, by rw [List.length_set]; exact Hlen.out, ho.set k (by omega) (by omega), add_step Hinv.out (by omega) (by omega), (by repeat (first | with_reducible assumption | with_reducible exact Ext.refl _ | with_reducible refine Ext.drewN ?_ _ | with_reducible refine Ext.drew ?_ | with_reducible refine Ext.alloc ?_ _ | (with_reducible refine Ext.setCell ?_ ?_ _; rotate_left; (first | exact Nat.le_refl _ | (dsimp only; omega) | (simp only [wsz]; omega))) | (with_reducible refine Ext.trans ?_ (by with_reducible assumption))))⟩
          case measure => simp [intOf] <;> omega
      · obtain rfl : k = la.length := by omega
        obtain ⟨hco, hfo⟩ := ho.cell la.length (by omega)
        have ho2 := ho.set la.length (x := C) rfl (by omega)
        obtain ⟨e1, hnl⟩ := ho2.nl'
        have hc := own_c hnl (by rw [← e1]; omega)
        have e2 : nv (out.set la.length C) = nv a + nv b := by
          have h1 := nv_set_take (v := C) hlen'
          rw [List.take_of_length_le (by rw [List.length_set]; have := Hlen.out; omega), Hinv.out, nv_take_ge lb _ hle, nv_take_ge la _ (Nat.le_refl _)] at h1
          rw [h1, Hsum.out]
        rw [e2, ← e1] at hc
        clear e1 e2
        go_wp2_with fail
        refine hc.mono ?_
        rintro e w2 ⟨A2, c2, rfl, h5, hx2⟩
        go_wp2
        go_ret
        have hsz := hx.size
        exact ⟨A2, c2, rfl, h5.widen fun b hb _ => by simp only [World.size_setCell] at hb; omega, Ext.trans (by repeat (first | with_reducible assumption | with_reducible exact Ext.refl _ | with_reducible refine Ext.drewN ?_ _ | with_reducible refine Ext.drew ?_ | with_reducible refine Ext.alloc ?_ _ | (with_reducible refine Ext.setCell ?_ ?_ _; rotate_left; (first | exact Nat.le_refl _ | (dsimp only; omega) | (simp only [wsz]; omega))) | (with_reducible refine Ext.trans ?_ (by with_reducible assumption)))) hx2⟩

set_option maxHeartbeats 400000 in
theorem sub32_c (x y b : Nat) (hx : x < 4294967296) (hy : y < 4294967296) (hb : b ≤ 1) (w : World) :
    Calls Tryz.prog 122 #[.int .u32 x, .int .u32 y, .int .u32 b] w fun e w' => e = .returned (.tuple #[.int .u32 ((x + 4294967296 - y - b) % 4294967296 : Nat), .int .u32 (brw x (y + b) : Nat)]) ∧ w = w' := by
  obtain ⟨d, hd⟩ : ∃ d, d = (x + 4294967296 - y - b) % 4294967296 := ⟨_, rfl⟩
  have hd' : d < 4294967296 := by omega
  have e1 : ((x : Int) - y - b) % 4294967296 = (d : Int) := by omega
  have hx' : x < 2 ^ 32 := hx
  have hy' : y < 2 ^ 32 := hy
  have hxy : x ^^^ y < 4294967296 := Nat.xor_lt_two_pow hx' hy'
  have hnx : 4294967295 ^^^ x < 4294967296 := Nat.xor_lt_two_pow (n := 32) (by omega) hx'
  have hnxy : 4294967295 ^^^ (x ^^^ y) < 4294967296 := Nat.xor_lt_two_pow (n := 32) (by omega) hxy
  have h1 : (4294967295 ^^^ x) &&& y < 4294967296 := Nat.and_lt_two_pow (n := 32) _ hy'
  have h2 : (4294967295 ^^^ (x ^^^ y)) &&& d < 4294967296 := Nat.and_lt_two_pow (n := 32) _ hd'
  have hm : IntKind.u32.max = ((4294967295 : Nat) : Int) := rfl
  have key : bits BinOp.or IntKind.u32 (bits BinOp.and IntKind.u32 (bits BinOp.xor IntKind.u32 IntKind.u32.max (x : Int)) (y : Int))
                (bits BinOp.and IntKind.u32 (bits BinOp.xor IntKind.u32 IntKind.u32.max (bits BinOp.xor IntKind.u32 (x : Int) (y : Int))) (((x : Int) - y - b) % 4294967296)) / 2147483648 = ((brw x (y + b) : Nat) : Int) := by
    rw [e1, hm, u32_xor_nat _ _ (by omega) hx, u32_xor_nat _ _ hx hy, u32_xor_nat _ _ (by omega) hxy, u32_and_nat _ _ hnx hy, u32_and_nat _ _ hnxy hd', u32_or_nat _ _ h1 h2, ← sub32_bit x y b d hx hy hb hd]
    omega
  have Key := Lib.hid key; clear key
  rw [← hd]
  have E1 := Lib.hid e1; clear e1
  clear hm hd
  go_enter Tryz.func122, Tryz.ntmps122
  go_wp2
  go_ret2
  exact ⟨congrArg Ending.returned (congrArg Value.tuple (by rw [← E1.out, ← Key.out]; rfl)), rfl⟩

set_option maxHeartbeats 800000 in
theorem take_c {g n cap base d : Nat} {B : Option Addr} {a b : List Nat} {w : World} {Y : Nat → Prop} (ha : Nown w base (.slice (some ⟨g, 0, none⟩) n cap) a) (hb : Nl w Y B d b) (hY : ¬ Y g) (hle : b.length ≤ a.length) (hv : nv b ≤ nv a) (hL : n ≤ 1099511627776) :
    Calls Tryz.prog 109 #[.slice (some ⟨g, 0, none⟩) n cap, .slice B b.length d] w fun e w' => e = .returned (.tuple #[]) ∧ (∃ out, Nown w' base (.slice (some ⟨g, 0, none⟩) n cap) out ∧ nv out = nv a - nv b ∧ out.length = n) ∧ w.grownBy w' (some g) := by
  have hn := ha.len
  have hLa := ha.lb
  go_enter Tryz.func109, Tryz.ntmps109
  have Hn := Lib.hid hn
  have hn1 : n ≤ a.length := by omega
  have hn2 : a.length ≤ n := by omega
  clear hn
  have hm2 := hb.2.1; have hl2 := hb.1
  simp only [maxLen] at hm2
  go_wp2
  go_loopw [4, 9] (fun cv iv wr => ∃ (k C : Nat) (out : List Nat), k ≤ n ∧ iv = .int .i64 k ∧ cv = .int .u32 C ∧ C ≤ 1 ∧ Nown wr base (.slice (some ⟨g, 0, none⟩) n cap) out ∧
      (∀ j, k ≤ j → nth out j = nth a j) ∧ nv (out.take k) + nv (b.take k) = nv (a.take k) + pw k * C ∧ w.grownBy wr (some g)) (fun _ iv _ => n - (intOf iv).toNat)
  case atStart => exact ⟨0, 0, a, Nat.zero_le _, rfl, rfl, by omega, ha, fun _ _ => rfl, by simp [nv], World.grownBy.refl _ _⟩
  case round =>
    obtain ⟨k, C, out, hk, rfl, rfl, hC, ho, hsame, hinv, hg⟩ := hrel
    have Hinv := Lib.hid hinv; have Hsame := Lib.hid hsame; clear hinv hsame
    have hlen := ho.len
    have Hlen := Lib.hid hlen
    have hlen1 : out.length ≤ n := by omega
    have hlen2 : n ≤ out.length := by omega
    clear hlen
    by_cases hlt : k < n
    · obtain ⟨hco, hfo⟩ := ho.cell k (by omega)
      rw [Hsame.out k (Nat.le_refl _)] at hco
      have hx1 := hLa.nth k
      have hgo : ∀ (y : Nat), nth b k = y → y < 4294967296 → ∃ (out' : List Nat), Nown (wr.setCell ⟨g, k, none⟩ (.int .u32 ((nth a k + 4294967296 - y - C) % 4294967296 : Nat))) base (.slice (some ⟨g, 0, none⟩) n cap) out' ∧
          (∀ j, k + 1 ≤ j → nth out' j = nth a j) ∧ nv (out'.take (k + 1)) + nv (b.take (k + 1)) = nv (a.take (k + 1)) + pw (k + 1) * brw (nth a k) (y + C) := by
        intro y hy hy2
        refine ⟨out.set k ((nth a k + 4294967296 - y - C) % 4294967296), ho.set k rfl (by omega), fun j hj => ?_, ?_⟩
        · rw [nth_set_ne (by omega)]; exact Hsame.out j (by omega)
        · exact sub_step Hinv.out (by omega) (by rw [hy]; exact brw_eq _ _ _ _ hx1 hy2 hC rfl)
      have Hgo := Lib.hid hgo; clear hgo
      rcases Nat.lt_or_ge k b.length with hkb | hkb
      · obtain ⟨b2, o2, rfl, _, hc2, hn2⟩ := (hb.keep (Kp.of_grown hg hY)).at_ (k := k) hkb
        have c2' := hc2 k hkb
        clear hc2
        have hs := sub32_c (nth a k) (nth b k) C hx1 hn2 hC wr
        have Hs := Lib.hid hs; clear hs
        have hbr := brw_le (nth a k) (nth b k + C)
        obtain ⟨out', q1, q2, q3⟩ := Hgo.out _ rfl hn2
        have Q2 := Lib.hid q2; have Q3 := Lib.hid q3; clear q2 q3
        go_wp2_with (go_at_call 122; refine (Hs.out).mono ?_; rintro e w' ⟨rfl, rfl⟩)
        go_roundw
        case rel => exact ⟨k + 1, _, out', by omega, by go_num, rfl, hbr, q1, Q2.out, Q3.out, grownBy_store hg _ _⟩
        case measure => simp [intOf] <;> omega
      · have hz := nth_ge b k hkb
        have hs := sub32_c (nth a k) 0 C hx1 (by omega) hC wr
        have Hs := Lib.hid hs; clear hs
        have hbr := brw_le (nth a k) (0 + C)
        obtain ⟨out', q1, q2, q3⟩ := Hgo.out 0 hz (by omega)
        rw [Nat.zero_add] at hbr q3
        have Q2 := Lib.hid q2; have Q3 := Lib.hid q3; have Hz := Lib.hid hz; clear q2 q3 hz
        go_wp2_with (go_at_call 122; refine (Hs.out).mono ?_; rintro e w' ⟨rfl, rfl⟩)
        go_roundw
        case rel => exact ⟨k + 1, _, out', by omega, by go_num, rfl, hbr, q1, Q2.out, Q3.out, grownBy_store hg _ _⟩
        case measure => simp [intOf] <;> omega
    · obtain rfl : k = n := by omega
      go_wp2
      go_end0
      refine ⟨rfl, ⟨out, ho, ?_, by omega⟩, hg⟩
      have hq := Hinv.out
      rw [Hn.out] at hq
      exact sub_end ho.lb (by omega) hle hv hq

set_option maxHeartbeats 400000 in
theorem sub_c {A B : Option Addr} {c d : Nat} {a b : List Nat} {w : World} {X Y : Nat → Prop} (ha : Nl w X A c a) (hb : Nl w Y B d b) (hv : nv b ≤ nv a) (hLa : a.length ≤ 1099511627776) :
    Calls Tryz.prog 79 #[.slice A a.length c, .slice B b.length d] w fun e w' => ∃ A' c', e = .returned (.tuple #[.slice A' (lim (nv a - nv b)).length c', .int .i64 0]) ∧ Nl w' (w.heap.size ≤ ·) A' c' (lim (nv a - nv b)) ∧ Ext w w' := by
  have hla := lim_len_le ha.lb
  have hge : ¬ cmpN (nv a) (nv b) < 0 := by unfold cmpN; rw [if_neg (by omega)]; split <;> omega
  go_enter Tryz.func79, Tryz.ntmps79
  go_wp2_with fail
  refine (cmp_c ha hb).mono ?_
  rintro e w1 ⟨rfl, hx1⟩
  go_wp2_with fail
  refine (own_n (ha.ext hx1) (by omega)).mono ?_
  rintro e w2 ⟨g, c1, rfl, h1, hg1, hg2, hx2⟩
  go_wp2_with fail
  have hb1 := (hb.ext hx1).below
  refine (bare_c (hb1.ext hx2)).mono ?_
  rintro e w3 ⟨B1, d1, rfl, h2, rfl⟩
  go_wp2_with fail
  refine (take_c h1 h2 (by omega) ?_ (by simp only [nv_lim]; exact hv) (by omega)).mono ?_
  · rcases Nat.lt_or_ge (lim (nv a)).length (lim (nv b)).length with h | h
    · have := nv_lt_of_len h; omega
    · exact h
  rintro e w3 ⟨rfl, ⟨out, h3, hout, hlen⟩, hg3⟩
  have hb3 := h3.lb
  have h4 := h3.nl'.2
  rw [nv_lim, nv_lim] at hout
  have hc := own_c h4 (by omega)
  rw [hlen, hout] at hc
  clear hlen hout
  go_wp2_with fail
  refine hc.mono ?_
  rintro e w4 ⟨A4, c4, rfl, h5, hx4⟩
  go_wp2
  go_ret2
  have s1 := hx1.size; have s2 := hx2.size; have s3 := hg3.size
  exact ⟨A4, c4, rfl, h5.widen fun b hb _ => by omega, ((hx1.trans hx2).grown hg3 (by intro k hk; injection hk with hk; omega)).trans hx4⟩

set_option maxHeartbeats 1600000 in
theorem mul_c {A B : Option Addr} {c d : Nat} {a b : List Nat} {w : World} {X Y : Nat → Prop} (ha : Nl w X A c a) (hb : Nl w Y B d b) (hLa : a.length ≤ 1099511627776) (hLb : b.length ≤ 1099511627776) :
    Calls Tryz.prog 111 #[.slice A a.length c, .slice B b.length d] w fun e w' => ∃ A' c', e = .returned (.slice A' (lim (nv a * nv b)).length c') ∧ Nl w' (w.heap.size ≤ ·) A' c' (lim (nv a * nv b)) ∧ Ext w w' := by
  have hla := lim_len_le ha.lb
  have hlb := lim_len_le hb.lb
  go_enter Tryz.func111, Tryz.ntmps111
  go_wp2_with fail
  refine (bare_c ha).mono ?_
  rintro e w1 ⟨A1, c1, rfl, h1, rfl⟩
  go_wp2_with fail
  refine (bare_c hb).mono ?_
  rintro e w1 ⟨B1, d1, rfl, h2, rfl⟩
  obtain ⟨la, hla'⟩ : ∃ la, la = lim (nv a) := ⟨_, rfl⟩
  obtain ⟨lb, hlb'⟩ : ∃ lb, lb = lim (nv b) := ⟨_, rfl⟩
  have hva : nv la = nv a := by rw [hla', nv_lim]
  have hvb : nv lb = nv b := by rw [hlb', nv_lim]
  rw [← hla'] at h1 hla ⊢
  rw [← hlb'] at h2 hlb ⊢
  have Hva := Lib.hid hva; have Hvb := Lib.hid hvb
  clear hla' hlb' hva hvb
  have hm1 := h1.2.1; have hm2 := h2.2.1; have hl1 := h1.1; have hl2 := h2.1
  simp only [maxLen] at hm1 hm2
  go_wp2_with (at_make; refine wpList_makeu (.tmp 19) (.tmp 19) _ (la.length + lb.length) (Nat.le_refl _) (by omega) (by omega) (by omega) rfl rfl rfl rfl ?_; intro w1 hown hx1)
  go_loopw [23] (fun iv wr => ∃ (i : Nat) (out : List Nat), i ≤ la.length ∧ iv = .int .i64 i ∧ Nown wr w.heap.size (.slice (some ⟨w.heap.size, 0, none⟩) (la.length + lb.length) (la.length + lb.length)) out ∧
        (∀ j, i + lb.length ≤ j → nth out j = 0) ∧ nv out = nv (la.take i) * nv lb ∧ Ext w wr) (fun iv _ => la.length - (intOf iv).toNat)
  case atStart => exact ⟨0, List.replicate (la.length + lb.length) 0, Nat.zero_le _, rfl, hown, fun j _ => nth_rep _ _, by simp [nv, nv_rep], hx1⟩
  case round =>
    obtain ⟨i, out, hi, rfl, ho, hz, hinv, hx⟩ := hrel
    have Hinv := Lib.hid hinv; have Hz := Lib.hid hz; clear hinv hz
    by_cases hlt : i < la.length
    · obtain ⟨b1, o1, rfl, _, hc1, hn1⟩ := (h1.ext hx).at_ (k := i) hlt
      have c1' := hc1 i hlt
      clear hc1
      go_wp2
      go_loopw [8, 30] (fun cv kv wk => ∃ (k C : Nat) (out : List Nat), k ≤ lb.length ∧ kv = .int .i64 k ∧ cv = .int .u64 C ∧ C < 4294967296 ∧ Nown wk w.heap.size (.slice (some ⟨w.heap.size, 0, none⟩) (la.length + lb.length) (la.length + lb.length)) out ∧
        (∀ j, i + lb.length ≤ j → nth out j = 0) ∧ nv out + pw (i + k) * C = nv (la.take i) * nv lb + nth la i * pw i * nv (lb.take k) ∧ Ext w wk) (fun _ kv _ => lb.length - (intOf kv).toNat)
      case atStart => exact ⟨0, 0, out, Nat.zero_le _, rfl, rfl, by omega, ho, Hz.out, by simp [nv, Hinv.out], hx⟩
      case round =>
        clear ho hx Hinv Hz c1'
        obtain ⟨k, C, out, hk, rfl, rfl, hC, ho, hz, hinv, hx⟩ := hrel
        have Hinv := Lib.hid hinv; have Hz := Lib.hid hz; clear hinv hz
        have hlen := ho.len
        have hlen1 : out.length ≤ la.length + lb.length := by omega
        have hlen2 : la.length + lb.length ≤ out.length := by omega
        clear hlen
        by_cases hlk : k < lb.length
        · obtain ⟨b2, o2, rfl, _, hc2, hn2⟩ := (h2.ext hx).at_ (k := k) hlk
          have c2' := hc2 k hlk
          clear hc2
          obtain ⟨hco, hfo⟩ := ho.cell (i + k) (by omega)
          have hn3 := ho.lb.nth (i + k)
          go_wp2
          go_roundw
          case rel =>
            obtain ⟨e1, e2⟩ := wrap_muladd _ _ _ _ hn1 hn2 hn3 hC
            rw [e1]
            refine ⟨k + 1, (C + nth la i * nth lb k + nth out (i + k)) / 4294967296, out.set (i + k) ((C + nth la i * nth lb k + nth out (i + k)) % 4294967296), by omega, by go_num, congrArg (Value.int .u64) (by omega), by omega, ho.set (i + k) (by omega) (by omega), fun j hj => ?_, mul_step Hinv.out (by omega) rfl, (by repeat (first | with_reducible assumption | with_reducible exact Ext.refl _ | with_reducible refine Ext.drewN ?_ _ | with_reducible refine Ext.drew ?_ | with_reducible refine Ext.alloc ?_ _ | (with_reducible refine Ext.setCell ?_ ?_ _; rotate_left; (first | exact Nat.le_refl _ | (dsimp only; omega) | (simp only [wsz]; omega))) | (with_reducible refine Ext.trans ?_ (by with_reducible assumption))))⟩
            rw [nth_set_ne (by omega)]; exact Hz.out j hj
          case measure => simp [intOf] <;> omega
        · obtain rfl : k = lb.length := by omega
          obtain ⟨hco, hfo⟩ := ho.cell (i + lb.length) (by omega)
          go_wp2
          go_roundw
          case rel =>
            refine ⟨i + 1, out.set (i + lb.length) C, by omega, by go_num, ho.set (i + lb.length) rfl hC, fun j hj => ?_, mul_end Hinv.out (by omega) (Hz.out _ (Nat.le_refl _)), (by repeat (first | with_reducible assumption | with_reducible exact Ext.refl _ | with_reducible refine Ext.drewN ?_ _ | with_reducible refine Ext.drew ?_ | with_reducible refine Ext.alloc ?_ _ | (with_reducible refine Ext.setCell ?_ ?_ _; rotate_left; (first | exact Nat.le_refl _ | (dsimp only; omega) | (simp only [wsz]; omega))) | (with_reducible refine Ext.trans ?_ (by with_reducible assumption))))⟩
            rw [nth_set_ne (by omega)]; exact Hz.out j (by omega)
          case measure => simp [intOf] <;> omega
    · obtain rfl : i = la.length := by omega
      have hlen := ho.len
      have hnl := ho.nl'.2
      have hc := own_c hnl (by omega)
      have e2 : nv out = nv a * nv b := by rw [Hinv.out, nv_take_ge la _ (Nat.le_refl _), Hva.out, Hvb.out]
      rw [e2, ← hlen] at hc
      clear hlen e2
      go_wp2_with fail
      refine hc.mono ?_
      rintro e w2 ⟨A2, c2, rfl, h5, hx2⟩
      go_wp2
      go_ret
      have hsz := hx.size
      exact ⟨A2, c2, rfl, h5.widen fun b hb _ => by omega, Ext.trans (by repeat (first | with_reducible assumption | with_reducible exact Ext.refl _ | with_reducible refine Ext.drewN ?_ _ | with_reducible refine Ext.drew ?_ | with_reducible refine Ext.alloc ?_ _ | (with_reducible refine Ext.setCell ?_ ?_ _; rotate_left; (first | exact Nat.le_refl _ | (dsimp only; omega) | (simp only [wsz]; omega))) | (with_reducible refine Ext.trans ?_ (by with_reducible assumption)))) hx2⟩

end Go.Proofs.YtbblgjjomgipfaaGreat
