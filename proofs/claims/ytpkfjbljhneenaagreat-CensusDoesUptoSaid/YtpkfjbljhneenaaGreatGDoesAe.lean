/- Contracts of package nat. No conditions. The spare cells of a row of the call's own: noughts. No conditions. Numbers in a row; one appended. No conditions. A cell of a row of the call's own is written; where the row lies. No conditions. Data without addresses: what a value reads as in a world. No conditions. Division rounded down, in plain words. No conditions. Writing over memory of its own. No conditions. -/
import Derived.Test.YtpkfjbljhneenaaGreatGDoesAb
namespace Go.Proofs.YtpkfjbljhneenaaGreat
open Go.RowKit

set_option maxHeartbeats 400000 in
theorem bare_c {A : Option Addr} {c : Nat} {l : List Nat} {w : World} {X : Nat → Prop} (h : Nl w X A c l) :
    Calls Tryz.prog 104 #[.slice A l.length c] w fun e w' => ∃ A' c', e = .returned (.slice A' (lim (nv l)).length c') ∧ Nl w X A' c' (lim (nv l)) ∧ w = w' := by
  have hlc := h.1; have hcm := h.2.1; have hb := h.lt; simp only [maxLen] at hcm
  have fin : ∀ k, k ≤ l.length → (∀ j, k ≤ j → j < l.length → nth l j = 0) → (0 < k → nth l (k - 1) ≠ 0) → k = (lim (nv l)).length ∧ Nl w X A k (lim (nv l)) := by
    intro k hk hz hl; have e := take_lim hb hk hz hl; rw [← e]; exact ⟨by rw [List.length_take]; omega, Sl.take h hk (Nat.le_refl _) (by simp only [maxLen]; omega)⟩
  have Fin := Lib.hid fin; clear fin
  go_enter Tryz.func104, Tryz.ntmps104
  go_wp2
  go_step3
  go_wp2
  go_step3
  go_wp2
  go_loop [3] (fun i => ∃ k : Nat, k ≤ l.length ∧ i = .int .i64 k ∧ ∀ j, k ≤ j → j < l.length → nth l j = 0) (fun i => (intOf i).toNat)
  case atStart => exact ⟨l.length, Nat.le_refl _, rfl, fun j h1 h2 => by omega⟩
  case round =>
    obtain ⟨k, hk, rfl, hz⟩ := hrel
    have Hz := Lib.hid hz; clear hz
    by_cases h0 : 0 < k
    · obtain ⟨b, o, rfl, hX, hcell, _⟩ := h.at_ (k := k - 1) (by omega); have hc1 := hcell (k - 1) (by omega)
      by_cases hn : nth l (k - 1) = 0
      · have hn' : (((nth l (k - 1) : Nat) : Int) != 0) = false := by simp [hn]
        clear hcell
        go_wp2
        go_round
        case rel =>
          refine ⟨k - 1, by omega, by go_num, fun j h1 h2 => ?_⟩
          rcases Nat.eq_or_lt_of_le h1 with e | e
          · rw [← e]; exact hn
          · exact Hz.out j (by omega) h2
        case measure => simp [intOf]; omega
      · have hn' : (((nth l (k - 1) : Nat) : Int) != 0) = true := by simp [bne_iff_ne]; exact hn
        clear hcell
        go_wp2
        go_ret
        obtain ⟨e1, e2⟩ := Fin.out k hk Hz.out (fun _ => hn); exact ⟨_, _, ret_slice e1, e2, rfl⟩
    · go_wp2
      go_ret
      obtain ⟨e1, e2⟩ := Fin.out k hk Hz.out (fun h => absurd h h0); exact ⟨_, _, ret_slice e1, e2, rfl⟩

set_option maxHeartbeats 400000 in
theorem own_n {A : Option Addr} {c : Nat} {l : List Nat} {w : World} {X : Nat → Prop} (h : Nl w X A c l) (hL : l.length ≤ 4398046511104) :
    Calls Tryz.prog 105 #[.slice A l.length c] w fun e w' => ∃ g c', e = .returned (.slice (some ⟨g, 0, none⟩) (lim (nv l)).length c') ∧ Nown w' w.heap.size (.slice (some ⟨g, 0, none⟩) (lim (nv l)).length c') (lim (nv l)) ∧ w.heap.size ≤ g ∧ g < w'.heap.size ∧ Ext w w' := by
  have hle := lim_len_le h.lb
  go_enter Tryz.func105, Tryz.ntmps105
  go_wp2_with (first
    | (go_at_call 104
       refine (bare_c (h.keep ((Kp.refl w).alloc _))).mono ?_
       rintro e w1 ⟨A1, c1, rfl, h1, rfl⟩)
    | (at_builtin
       refine wpList_app ety_u (.tmp 3) (.tmp 5) (base := w.heap.size) (Z := fun _ => False) (Own.empty w _ _ (Nat.le_refl _)) (Fl.u (lb_lim (nv l)) _ _) (uc_at h1) (by simp; omega) (by simp [maxLen]; omega) (by simp) rfl rfl rfl rfl ?_
       intro v1 w2 hown hg hat))
  go_ret
  have hx : Ext w w2 := ((Ext.refl w).alloc _).grown hg (by simp [Value.ownBlock]); obtain ⟨g, c2, rfl, hb, hlt⟩ := Nown.some_ hown (by rcases hat with e | e <;> rw [e] <;> simp [Value.ownBlock]); exact ⟨g, c2, rfl, hown, hb, hlt, hx⟩
theorem own_c {A : Option Addr} {c : Nat} {l : List Nat} {w : World} {X : Nat → Prop} (h : Nl w X A c l) (hL : l.length ≤ 4398046511104) :
    Calls Tryz.prog 105 #[.slice A l.length c] w fun e w' => ∃ A' c', e = .returned (.slice A' (lim (nv l)).length c') ∧ Nl w' (w.heap.size ≤ ·) A' c' (lim (nv l)) ∧ Ext w w' :=
  (own_n h hL).mono fun _ _ ⟨_, c', he, hn, _, _, hx⟩ => ⟨_, c', he, hn.nl'.2, hx⟩

set_option maxHeartbeats 400000 in
theorem cmp_c {A B : Option Addr} {c d : Nat} {a b : List Nat} {w : World} {X Y : Nat → Prop} (ha : Nl w X A c a) (hb : Nl w Y B d b) :
    Calls Tryz.prog 69 #[.slice A a.length c, .slice B b.length d] w fun e w' => e = .returned (.int .i64 (cmpN (nv a) (nv b))) ∧ Ext w w' := by
  go_enter Tryz.func69, Tryz.ntmps69
  go_wp2_with fail
  refine (bare_c ha).mono ?_; rintro e w1 ⟨A1, c1, rfl, h1, rfl⟩
  go_wp2_with fail
  refine (bare_c hb).mono ?_; rintro e w1 ⟨B1, d1, rfl, h2, rfl⟩; obtain ⟨la, hla⟩ : ∃ la, la = lim (nv a) := ⟨_, rfl⟩; obtain ⟨lb, hlb⟩ : ∃ lb, lb = lim (nv b) := ⟨_, rfl⟩
  have hva : nv la = nv a := by rw [hla, nv_lim]
  have hvb : nv lb = nv b := by rw [hlb, nv_lim]
  rw [← hla] at h1 ⊢; rw [← hlb] at h2 ⊢
  have Hla := Lib.hid hla; have Hlb := Lib.hid hlb; have Hva := Lib.hid hva; have Hvb := Lib.hid hvb
  clear hla hlb hva hvb
  have hm1 := h1.2.1; have hm2 := h2.2.1; have hl1 := h1.1; have hl2 := h2.1
  simp only [maxLen] at hm1 hm2
  by_cases hlen : la.length = lb.length
  · have hn : (((la.length : Nat) : Int) != ((lb.length : Nat) : Int)) = false := by simp [hlen]
    have Hlen := Lib.hid hlen
    have hl3 : la.length ≤ lb.length := by omega
    clear hlen
    go_wp2
    go_loopw [5] (fun i wr => ∃ k : Nat, k ≤ la.length ∧ i = .int .i64 ((k : Int) - 1) ∧ la.drop k = lb.drop k ∧ Ext w wr) (fun i _ => (intOf i + 1).toNat)
    case atStart => exact ⟨la.length, Nat.le_refl _, rfl, by rw [List.drop_length, Hlen.out, List.drop_length], Ext.refl _⟩
    case round =>
      obtain ⟨k, hk, rfl, hd, hx⟩ := hrel
      have Hd := Lib.hid hd; clear hd
      rcases Nat.eq_zero_or_pos k with h0 | h0
      · subst h0
        go_wp2
        go_ret
        refine ⟨ret_int ?_, hx⟩; have := Hd.out; simp only [List.drop_zero] at this; rw [← Hva.out, ← Hvb.out, this, cmpN_eq rfl]
      · obtain ⟨j, rfl⟩ : ∃ j, k = j + 1 := ⟨k - 1, by omega⟩; obtain ⟨b1, o1, rfl, _, hc1, hb1⟩ := (h1.ext hx).at_ (k := j) (by omega); obtain ⟨b2, o2, rfl, _, hc2, hb2⟩ := (h2.ext hx).at_ (k := j) (by omega); have c1' := hc1 j (by omega); have c2' := hc2 j (by omega); clear hc1 hc2
        have ej : (((j + 1 : Nat) : Int) - 1) = (j : Int) := by omega
        rw [ej]; clear ej
        have i1 : (j : Int) < (la.length : Int) := by omega
        have i2 : (j : Int) < (lb.length : Int) := by omega
        have i3 : nth la j < nth lb j ∨ nth la j = nth lb j ∨ nth lb j < nth la j := by omega
        rcases i3 with i3 | i3 | i3
        · have i4 : ((nth la j : Nat) : Int) < ((nth lb j : Nat) : Int) := by omega
          go_wp2
          go_quiet (fail)
          go_wp2
          go_ret
          exact ⟨ret_int (by rw [← Hva.out, ← Hvb.out, cmpN_lt (nv_lt_at h1.lb (by omega) (by omega) Hd.out i3)]), xt⟩
        · have I3 := Lib.hid i3
          have i4 : ¬ ((nth la j : Nat) : Int) < ((nth lb j : Nat) : Int) := by omega
          have i5 : ¬ ((nth lb j : Nat) : Int) < ((nth la j : Nat) : Int) := by omega
          clear i3
          go_wp2
          go_quiet (fail)
          go_wp2
          go_quiet (fail)
          go_wp2
          go_roundw
          case rel => exact ⟨j, by omega, by go_num, drop_eq_step (by omega) (by omega) Hd.out I3.out, xt⟩
          case measure => simp [intOf] <;> omega
        · have i4 : ¬ ((nth la j : Nat) : Int) < ((nth lb j : Nat) : Int) := by omega
          have i5 : ((nth lb j : Nat) : Int) < ((nth la j : Nat) : Int) := by omega
          go_wp2
          go_quiet (fail)
          go_wp2
          go_quiet (fail)
          go_wp2
          go_ret
          exact ⟨ret_int (by rw [← Hva.out, ← Hvb.out, cmpN_gt (nv_lt_at h2.lb (by omega) (by omega) Hd.out.symm i3)]), xt⟩
  · have hn : (((la.length : Nat) : Int) != ((lb.length : Nat) : Int)) = true := by rw [bne_iff_ne]; omega
    rcases Nat.lt_or_gt_of_ne hlen with hlt | hlt
    · have i4 : ((la.length : Nat) : Int) < ((lb.length : Nat) : Int) := by omega
      have hlt' : nv a < nv b := nv_lt_of_len (by rw [← Hla.out, ← Hlb.out]; exact hlt)
      go_wp2
      go_ret
      exact ⟨ret_int (by rw [cmpN_lt hlt']), Ext.refl _⟩
    · have i4 : ¬ ((la.length : Nat) : Int) < ((lb.length : Nat) : Int) := by omega
      have hlt' : nv b < nv a := nv_lt_of_len (by rw [← Hla.out, ← Hlb.out]; exact hlt)
      go_wp2
      go_ret
      exact ⟨ret_int (by rw [cmpN_gt hlt']), Ext.refl _⟩

set_option maxHeartbeats 400000 in
theorem of_c (n : Nat) (hn : n < 18446744073709551616) (w : World) :
    Calls Tryz.prog 96 #[.int .u64 (n : Int)] w fun e w' => ∃ A' c', e = .returned (.slice A' (lim n).length c') ∧ Nl w' (w.heap.size ≤ ·) A' c' (lim n) ∧ Ext w w' := by
  go_enter Tryz.func96, Tryz.ntmps96
  go_wp2_with fail
  have hb : Lb [n % 4294967296, n / 4294967296] := Lb.cons (by omega) (Lb.cons (by omega) Lb.nil)
  have hnl : Nl (w.alloc (.cells #[.int .u32 ((n : Int) % 4294967296), .int .u32 ((n : Int) / 4294967296)] 47)) (fun _ => True) (some ⟨w.heap.size, 0, none⟩) 2 [n % 4294967296, n / 4294967296] :=
    Sl.of_flat (by simp) (by simp [maxLen]) (Thaw.new rfl _ _) (Fl.u hb _ _) fun _ => ⟨_, _, rfl, trivial, fun j u hu => by
      rw [World.cell?_alloc_at (hn := rfl)]
      match j, hu with
      | 0, hu => simpa [uc] using hu
      | 1, hu => simpa [uc] using hu⟩
  have e0 : nv [n % 4294967296, n / 4294967296] = n := by simp only [nv]; omega
  have hc := own_c hnl (by simp); rw [e0] at hc; refine hc.mono ?_; rintro e w1 ⟨A1, c1, rfl, h1, hx⟩
  go_wp2
  go_ret
  exact ⟨A1, c1, rfl, h1.widen fun b hb _ => by simp only [World.size_alloc] at hb; omega, ((Ext.refl w).alloc _).trans hx⟩

set_option maxHeartbeats 400000 in
theorem add_c {A B : Option Addr} {c d : Nat} {a b : List Nat} {w : World} {X Y : Nat → Prop} (ha : Nl w X A c a) (hb : Nl w Y B d b) (hLa : a.length ≤ 1099511627776) (hLb : b.length ≤ 1099511627776) :
    Calls Tryz.prog 68 #[.slice A a.length c, .slice B b.length d] w fun e w' => ∃ A' c', e = .returned (.slice A' (lim (nv a + nv b)).length c') ∧ Nl w' (w.heap.size ≤ ·) A' c' (lim (nv a + nv b)) ∧ Ext w w' := by
  have hla := lim_len_le ha.lb; have hlb := lim_len_le hb.lb
  go_enter Tryz.func68, Tryz.ntmps68
  go_wp2_with fail
  refine (bare_c ha).mono ?_; rintro e w1 ⟨A1, c1, rfl, h1, rfl⟩
  go_wp2_with fail
  refine (bare_c hb).mono ?_; rintro e w1 ⟨B1, d1, rfl, h2, rfl⟩
  go_upto_if 17 with fail
  go_cut [0, 1] (fun s0 s1 wx => ∃ A' B' c' d' la lb, s0 = .slice A' la.length c' ∧ s1 = .slice B' lb.length d' ∧ (∃ X', Nl w X' A' c' la) ∧ (∃ X', Nl w X' B' d' lb) ∧ lb.length ≤ la.length ∧ la.length ≤ 1099511627776 ∧ nv a + nv b = nv la + nv lb ∧ wx = w)
  case first =>
    rcases Nat.lt_or_ge (lim (nv a)).length (lim (nv b)).length with hlt | hlt
    · have i1 : (((lim (nv a)).length : Nat) : Int) < (((lim (nv b)).length : Nat) : Int) := by omega
      go_wp2_with fail
      go_meet
      exact ⟨_, _, _, _, _, _, rfl, rfl, ⟨_, h2⟩, ⟨_, h1⟩, by omega, by omega, by simp only [nv_lim]; omega, rfl⟩
    · have i1 : ¬ (((lim (nv a)).length : Nat) : Int) < (((lim (nv b)).length : Nat) : Int) := by omega
      go_wp2_with fail
      go_meet
      exact ⟨_, _, _, _, _, _, rfl, rfl, ⟨_, h1⟩, ⟨_, h2⟩, by omega, by omega, by simp only [nv_lim], rfl⟩
  case rest =>
    obtain ⟨A', B', c', d', la, lb, rfl, rfl, ⟨X1, h3⟩, ⟨X2, h4⟩, hle, hL, hsum, rfl⟩ := hcut; clear h1 h2 hla hlb
    have Hsum := Lib.hid hsum; clear hsum
    have hm1 := h3.2.1; have hl1 := h3.1; have hm2 := h4.2.1; have hl2 := h4.1
    have hb1 := h3.lb; have hb2 := h4.lb
    go_wp2_with (at_make; refine wpList_makeu (.tmp 22) (.tmp 22) _ (la.length + 1) (Nat.le_refl _) (by omega) (by omega) (by omega) rfl rfl rfl rfl ?_; intro w1 hown hx1)
    go_loopw [6, 26] (fun cv iv wr => ∃ (k C : Nat) (out : List Nat), k ≤ la.length ∧ iv = .int .i64 k ∧ cv = .int .u64 C ∧ C ≤ 1 ∧ out.length = la.length + 1 ∧ Nown wr wc.heap.size (.slice (some ⟨wc.heap.size, 0, none⟩) (la.length + 1) (la.length + 1)) out ∧
        nv (out.take k) + pw k * C = nv (la.take k) + nv (lb.take k) ∧ Ext wc wr) (fun _ iv _ => la.length - (intOf iv).toNat)
    case atStart => exact ⟨0, 0, List.replicate (la.length + 1) 0, Nat.zero_le _, rfl, rfl, by omega, by simp, hown, by simp [nv], hx1⟩
    case round =>
      obtain ⟨k, C, out, hk, rfl, rfl, hC, hlen, ho, hinv, hx⟩ := hrel
      have Hinv := Lib.hid hinv; clear hinv
      have Hlen := Lib.hid hlen
      have hlen' : la.length < out.length := by omega
      clear hlen
      by_cases hlt : k < la.length
      · obtain ⟨b1, o1, rfl, _, hc1, hn1⟩ := (h3.ext hx).at_ (k := k) hlt; have c1' := hc1 k hlt; clear hc1; obtain ⟨hco, hfo⟩ := ho.cell k (by omega)
        rcases Nat.lt_or_ge k lb.length with hkb | hkb
        · obtain ⟨b2, o2, rfl, _, hc2, hn2⟩ := (h4.ext hx).at_ (k := k) hkb; have c2' := hc2 k hkb; clear hc2
          go_wp2
          go_roundw
          case rel => exact ⟨k + 1, (C + nth la k + nth lb k) / 4294967296, out.set k ((C + nth la k + nth lb k) % 4294967296), by omega, by go_num, congrArg (Value.int .u64) (by omega), by omega, by rw [List.length_set]; exact Hlen.out, ho.set k (by omega) (by omega), add_step Hinv.out (by omega) rfl, xt⟩
          case measure => simp [intOf] <;> omega
        · have hz := nth_ge lb k hkb
          go_wp2
          go_roundw
          case rel => exact ⟨k + 1, (C + nth la k) / 4294967296, out.set k ((C + nth la k) % 4294967296), by omega, by go_num, congrArg (Value.int .u64) (by omega), by omega, by rw [List.length_set]; exact Hlen.out, ho.set k (by omega) (by omega), add_step Hinv.out (by omega) (by omega), xt⟩
          case measure => simp [intOf] <;> omega
      · obtain rfl : k = la.length := by omega
        obtain ⟨hco, hfo⟩ := ho.cell la.length (by omega); have ho2 := ho.set la.length (x := C) rfl (by omega); obtain ⟨e1, hnl⟩ := ho2.nl'; have hc := own_c hnl (by rw [← e1]; omega)
        have e2 : nv (out.set la.length C) = nv a + nv b := by
          have h1 := nv_set_take (v := C) hlen'; rw [List.take_of_length_le (by rw [List.length_set]; have := Hlen.out; omega), Hinv.out, nv_take_ge lb _ hle, nv_take_ge la _ (Nat.le_refl _)] at h1; rw [h1, Hsum.out]
        rw [e2, ← e1] at hc; clear e1 e2
        go_wp2_with fail
        refine hc.mono ?_; rintro e w2 ⟨A2, c2, rfl, h5, hx2⟩
        go_wp2
        go_ret
        have hsz := hx.size; exact ⟨A2, c2, rfl, h5.widen fun b hb _ => by simp only [World.size_setCell] at hb; omega, Ext.trans xt hx2⟩

set_option maxHeartbeats 400000 in
theorem sub32_c (x y b : Nat) (hx : x < 4294967296) (hy : y < 4294967296) (hb : b ≤ 1) (w : World) :
    Calls Tryz.prog 124 #[.int .u32 x, .int .u32 y, .int .u32 b] w fun e w' => e = .returned (.tuple #[.int .u32 ((x + 4294967296 - y - b) % 4294967296 : Nat), .int .u32 (brw x (y + b) : Nat)]) ∧ w = w' := by
  obtain ⟨d, hd⟩ : ∃ d, d = (x + 4294967296 - y - b) % 4294967296 := ⟨_, rfl⟩
  have hd' : d < 4294967296 := by omega
  have e1 : ((x : Int) - y - b) % 4294967296 = (d : Int) := by omega
  have hx' : x < 2 ^ 32 := hx; have hy' : y < 2 ^ 32 := hy; have hxy : x ^^^ y < 4294967296 := Nat.xor_lt_two_pow hx' hy'; have hnx : 4294967295 ^^^ x < 4294967296 := Nat.xor_lt_two_pow (n := 32) (by omega) hx'; have hnxy : 4294967295 ^^^ (x ^^^ y) < 4294967296 := Nat.xor_lt_two_pow (n := 32) (by omega) hxy; have h1 : (4294967295 ^^^ x) &&& y < 4294967296 := Nat.and_lt_two_pow (n := 32) _ hy'; have h2 : (4294967295 ^^^ (x ^^^ y)) &&& d < 4294967296 := Nat.and_lt_two_pow (n := 32) _ hd'; have hm : IntKind.u32.max = ((4294967295 : Nat) : Int) := rfl
  have key : bits BinOp.or IntKind.u32 (bits BinOp.and IntKind.u32 (bits BinOp.xor IntKind.u32 IntKind.u32.max (x : Int)) (y : Int))
                (bits BinOp.and IntKind.u32 (bits BinOp.xor IntKind.u32 IntKind.u32.max (bits BinOp.xor IntKind.u32 (x : Int) (y : Int))) (((x : Int) - y - b) % 4294967296)) / 2147483648 = ((brw x (y + b) : Nat) : Int) := by
    rw [e1, hm, u32_xor_nat _ _ (by omega) hx, u32_xor_nat _ _ hx hy, u32_xor_nat _ _ (by omega) hxy, u32_and_nat _ _ hnx hy, u32_and_nat _ _ hnxy hd', u32_or_nat _ _ h1 h2, ← sub32_bit x y b d hx hy hb hd]
    omega
  have Key := Lib.hid key; clear key
  rw [← hd]
  have E1 := Lib.hid e1; clear e1
  clear hm hd
  go_enter Tryz.func124, Tryz.ntmps124
  go_wp2
  go_ret2
  exact ⟨congrArg Ending.returned (congrArg Value.tuple (by rw [← E1.out, ← Key.out]; rfl)), rfl⟩

set_option maxHeartbeats 800000 in
theorem take_c {g n cap base d : Nat} {B : Option Addr} {a b : List Nat} {w : World} {Y : Nat → Prop} (ha : Nown w base (.slice (some ⟨g, 0, none⟩) n cap) a) (hb : Nl w Y B d b) (hY : ¬ Y g) (hle : b.length ≤ a.length) (hv : nv b ≤ nv a) (hL : n ≤ 1099511627776) :
    Calls Tryz.prog 106 #[.slice (some ⟨g, 0, none⟩) n cap, .slice B b.length d] w fun e w' => e = .returned (.tuple #[]) ∧ (∃ out, Nown w' base (.slice (some ⟨g, 0, none⟩) n cap) out ∧ nv out = nv a - nv b ∧ out.length = n) ∧ w.grownBy w' (some g) := by
  have hn := ha.len; have hLa := ha.lb
  go_enter Tryz.func106, Tryz.ntmps106
  have Hn := Lib.hid hn
  have hn1 : n ≤ a.length := by omega
  have hn2 : a.length ≤ n := by omega
  clear hn
  have hm2 := hb.2.1; have hl2 := hb.1
  simp only [maxLen] at hm2
  go_wp2
  go_loopw [4, 9] (fun cv iv wr => ∃ (k C : Nat) (out : List Nat), k ≤ n ∧ iv = .int .i64 k ∧ cv = .int .u32 C ∧ C ≤ 1 ∧ Nown wr base (.slice (some ⟨g, 0, none⟩) n cap) out ∧
      (∀ j, k ≤ j → nth out j = nth a j) ∧ nv (out.take k) + nv (b.take k) = nv (a.take k) + pw k * C ∧ w.grownBy wr (some g)) (fun _ iv _ => n - (intOf iv).toNat)
  case atStart => exact ⟨0, 0, a, Nat.zero_le _, rfl, rfl, by omega, ha, fun _ _ => rfl, by simp [nv], World.grownBy.refl _ _⟩
  case round =>
    obtain ⟨k, C, out, hk, rfl, rfl, hC, ho, hsame, hinv, hg⟩ := hrel
    have Hinv := Lib.hid hinv; have Hsame := Lib.hid hsame; clear hinv hsame
    have hlen := ho.len; have Hlen := Lib.hid hlen
    have hlen1 : out.length ≤ n := by omega
    have hlen2 : n ≤ out.length := by omega
    clear hlen
    by_cases hlt : k < n
    · obtain ⟨hco, hfo⟩ := ho.cell k (by omega); rw [Hsame.out k (Nat.le_refl _)] at hco; have hx1 := hLa.nth k
      have hgo : ∀ (y : Nat), nth b k = y → y < 4294967296 → ∃ (out' : List Nat), Nown (wr.setCell ⟨g, k, none⟩ (.int .u32 ((nth a k + 4294967296 - y - C) % 4294967296 : Nat))) base (.slice (some ⟨g, 0, none⟩) n cap) out' ∧
          (∀ j, k + 1 ≤ j → nth out' j = nth a j) ∧ nv (out'.take (k + 1)) + nv (b.take (k + 1)) = nv (a.take (k + 1)) + pw (k + 1) * brw (nth a k) (y + C) := by
        intro y hy hy2; refine ⟨out.set k ((nth a k + 4294967296 - y - C) % 4294967296), ho.set k rfl (by omega), fun j hj => ?_, ?_⟩
        · rw [nth_set_ne (by omega)]; exact Hsame.out j (by omega)
        · exact sub_step Hinv.out (by omega) (by rw [hy]; exact brw_eq _ _ _ _ hx1 hy2 hC rfl)
      have Hgo := Lib.hid hgo; clear hgo
      rcases Nat.lt_or_ge k b.length with hkb | hkb
      · obtain ⟨b2, o2, rfl, _, hc2, hn2⟩ := (hb.keep (Kp.of_grown hg hY)).at_ (k := k) hkb; have c2' := hc2 k hkb; clear hc2; have hs := sub32_c (nth a k) (nth b k) C hx1 hn2 hC wr
        have Hs := Lib.hid hs; clear hs
        have hbr := brw_le (nth a k) (nth b k + C); obtain ⟨out', q1, q2, q3⟩ := Hgo.out _ rfl hn2
        have Q2 := Lib.hid q2; have Q3 := Lib.hid q3; clear q2 q3
        go_wp2_with (go_at_call 124; refine (Hs.out).mono ?_; rintro e w' ⟨rfl, rfl⟩)
        go_roundw
        case rel => exact ⟨k + 1, _, out', by omega, by go_num, rfl, hbr, q1, Q2.out, Q3.out, grownBy_store hg _ _⟩
        case measure => simp [intOf] <;> omega
      · have hz := nth_ge b k hkb; have hs := sub32_c (nth a k) 0 C hx1 (by omega) hC wr
        have Hs := Lib.hid hs; clear hs
        have hbr := brw_le (nth a k) (0 + C); obtain ⟨out', q1, q2, q3⟩ := Hgo.out 0 hz (by omega); rw [Nat.zero_add] at hbr q3
        have Q2 := Lib.hid q2; have Q3 := Lib.hid q3; have Hz := Lib.hid hz; clear q2 q3 hz
        go_wp2_with (go_at_call 124; refine (Hs.out).mono ?_; rintro e w' ⟨rfl, rfl⟩)
        go_roundw
        case rel => exact ⟨k + 1, _, out', by omega, by go_num, rfl, hbr, q1, Q2.out, Q3.out, grownBy_store hg _ _⟩
        case measure => simp [intOf] <;> omega
    · obtain rfl : k = n := by omega
      go_wp2
      go_end0
      refine ⟨rfl, ⟨out, ho, ?_, by omega⟩, hg⟩; have hq := Hinv.out; rw [Hn.out] at hq; exact sub_end ho.lb (by omega) hle hv hq

set_option maxHeartbeats 400000 in
theorem sub_c {A B : Option Addr} {c d : Nat} {a b : List Nat} {w : World} {X Y : Nat → Prop} (ha : Nl w X A c a) (hb : Nl w Y B d b) (hv : nv b ≤ nv a) (hLa : a.length ≤ 1099511627776) :
    Calls Tryz.prog 70 #[.slice A a.length c, .slice B b.length d] w fun e w' => ∃ A' c', e = .returned (.tuple #[.slice A' (lim (nv a - nv b)).length c', .int .i64 0]) ∧ Nl w' (w.heap.size ≤ ·) A' c' (lim (nv a - nv b)) ∧ Ext w w' := by
  have hla := lim_len_le ha.lb
  have hge : ¬ cmpN (nv a) (nv b) < 0 := by unfold cmpN; rw [if_neg (by omega)]; split <;> omega
  go_enter Tryz.func70, Tryz.ntmps70
  go_wp2_with fail
  refine (cmp_c ha hb).mono ?_; rintro e w1 ⟨rfl, hx1⟩
  go_wp2_with fail
  refine (own_n (ha.ext hx1) (by omega)).mono ?_; rintro e w2 ⟨g, c1, rfl, h1, hg1, hg2, hx2⟩
  go_wp2_with fail
  have hb1 := (hb.ext hx1).below; refine (bare_c (hb1.ext hx2)).mono ?_; rintro e w3 ⟨B1, d1, rfl, h2, rfl⟩
  go_wp2_with fail
  refine (take_c h1 h2 (by omega) ?_ (by simp only [nv_lim]; exact hv) (by omega)).mono ?_
  · rcases Nat.lt_or_ge (lim (nv a)).length (lim (nv b)).length with h | h
    · have := nv_lt_of_len h; omega
    · exact h
  rintro e w3 ⟨rfl, ⟨out, h3, hout, hlen⟩, hg3⟩; have hb3 := h3.lb; have h4 := h3.nl'.2; rw [nv_lim, nv_lim] at hout; have hc := own_c h4 (by omega); rw [hlen, hout] at hc; clear hlen hout
  go_wp2_with fail
  refine hc.mono ?_; rintro e w4 ⟨A4, c4, rfl, h5, hx4⟩
  go_wp2
  go_ret2
  have s1 := hx1.size; have s2 := hx2.size; have s3 := hg3.size
  exact ⟨A4, c4, rfl, h5.widen fun b hb _ => by omega, ((hx1.trans hx2).grown hg3 (by intro k hk; injection hk with hk; omega)).trans hx4⟩

set_option maxHeartbeats 1600000 in
theorem mul_c {A B : Option Addr} {c d : Nat} {a b : List Nat} {w : World} {X Y : Nat → Prop} (ha : Nl w X A c a) (hb : Nl w Y B d b) (hLa : a.length ≤ 1099511627776) (hLb : b.length ≤ 1099511627776) :
    Calls Tryz.prog 108 #[.slice A a.length c, .slice B b.length d] w fun e w' => ∃ A' c', e = .returned (.slice A' (lim (nv a * nv b)).length c') ∧ Nl w' (w.heap.size ≤ ·) A' c' (lim (nv a * nv b)) ∧ Ext w w' := by
  have hla := lim_len_le ha.lb; have hlb := lim_len_le hb.lb
  go_enter Tryz.func108, Tryz.ntmps108
  go_wp2_with fail
  refine (bare_c ha).mono ?_; rintro e w1 ⟨A1, c1, rfl, h1, rfl⟩
  go_wp2_with fail
  refine (bare_c hb).mono ?_; rintro e w1 ⟨B1, d1, rfl, h2, rfl⟩; obtain ⟨la, hla'⟩ : ∃ la, la = lim (nv a) := ⟨_, rfl⟩; obtain ⟨lb, hlb'⟩ : ∃ lb, lb = lim (nv b) := ⟨_, rfl⟩
  have hva : nv la = nv a := by rw [hla', nv_lim]
  have hvb : nv lb = nv b := by rw [hlb', nv_lim]
  rw [← hla'] at h1 hla ⊢; rw [← hlb'] at h2 hlb ⊢
  have Hva := Lib.hid hva; have Hvb := Lib.hid hvb
  clear hla' hlb' hva hvb
  have hm1 := h1.2.1; have hm2 := h2.2.1; have hl1 := h1.1; have hl2 := h2.1
  simp only [maxLen] at hm1 hm2
  go_wp2_with (at_make; refine wpList_makeu (.tmp 19) (.tmp 19) _ (la.length + lb.length) (Nat.le_refl _) (by omega) (by omega) (by omega) rfl rfl rfl rfl ?_; intro w1 hown hx1)
  go_loopw [23] (fun iv wr => ∃ (i : Nat) (out : List Nat), i ≤ la.length ∧ iv = .int .i64 i ∧ Nown wr w.heap.size (.slice (some ⟨w.heap.size, 0, none⟩) (la.length + lb.length) (la.length + lb.length)) out ∧
        (∀ j, i + lb.length ≤ j → nth out j = 0) ∧ nv out = nv (la.take i) * nv lb ∧ Ext w wr) (fun iv _ => la.length - (intOf iv).toNat)
  case atStart => exact ⟨0, List.replicate (la.length + lb.length) 0, Nat.zero_le _, rfl, hown, fun j _ => nth_rep _ _, by simp [nv, nv_rep], hx1⟩
  case round =>
    obtain ⟨i, out, hi, rfl, ho, hz, hinv, hx⟩ := hrel
    have Hinv := Lib.hid hinv; have Hz := Lib.hid hz; clear hinv hz
    by_cases hlt : i < la.length
    · obtain ⟨b1, o1, rfl, _, hc1, hn1⟩ := (h1.ext hx).at_ (k := i) hlt; have c1' := hc1 i hlt; clear hc1
      go_wp2
      go_loopw [8, 30] (fun cv kv wk => ∃ (k C : Nat) (out : List Nat), k ≤ lb.length ∧ kv = .int .i64 k ∧ cv = .int .u64 C ∧ C < 4294967296 ∧ Nown wk w.heap.size (.slice (some ⟨w.heap.size, 0, none⟩) (la.length + lb.length) (la.length + lb.length)) out ∧
        (∀ j, i + lb.length ≤ j → nth out j = 0) ∧ nv out + pw (i + k) * C = nv (la.take i) * nv lb + nth la i * pw i * nv (lb.take k) ∧ Ext w wk) (fun _ kv _ => lb.length - (intOf kv).toNat)
      case atStart => exact ⟨0, 0, out, Nat.zero_le _, rfl, rfl, by omega, ho, Hz.out, by simp [nv, Hinv.out], hx⟩
      case round =>
        clear ho hx Hinv Hz c1'; obtain ⟨k, C, out, hk, rfl, rfl, hC, ho, hz, hinv, hx⟩ := hrel
        have Hinv := Lib.hid hinv; have Hz := Lib.hid hz; clear hinv hz
        have hlen := ho.len
        have hlen1 : out.length ≤ la.length + lb.length := by omega
        have hlen2 : la.length + lb.length ≤ out.length := by omega
        clear hlen
        by_cases hlk : k < lb.length
        · obtain ⟨b2, o2, rfl, _, hc2, hn2⟩ := (h2.ext hx).at_ (k := k) hlk; have c2' := hc2 k hlk; clear hc2; obtain ⟨hco, hfo⟩ := ho.cell (i + k) (by omega); have hn3 := ho.lb.nth (i + k)
          go_wp2
          go_roundw
          case rel =>
            obtain ⟨e1, e2⟩ := wrap_muladd _ _ _ _ hn1 hn2 hn3 hC; rw [e1]; refine ⟨k + 1, (C + nth la i * nth lb k + nth out (i + k)) / 4294967296, out.set (i + k) ((C + nth la i * nth lb k + nth out (i + k)) % 4294967296), by omega, by go_num, congrArg (Value.int .u64) (by omega), by omega, ho.set (i + k) (by omega) (by omega), fun j hj => ?_, mul_step Hinv.out (by omega) rfl, xt⟩
            rw [nth_set_ne (by omega)]; exact Hz.out j hj
          case measure => simp [intOf] <;> omega
        · obtain rfl : k = lb.length := by omega
          obtain ⟨hco, hfo⟩ := ho.cell (i + lb.length) (by omega)
          go_wp2
          go_roundw
          case rel =>
            refine ⟨i + 1, out.set (i + lb.length) C, by omega, by go_num, ho.set (i + lb.length) rfl hC, fun j hj => ?_, mul_end Hinv.out (by omega) (Hz.out _ (Nat.le_refl _)), xt⟩
            rw [nth_set_ne (by omega)]; exact Hz.out j (by omega)
          case measure => simp [intOf] <;> omega
    · obtain rfl : i = la.length := by omega
      have hlen := ho.len; have hnl := ho.nl'.2; have hc := own_c hnl (by omega)
      have e2 : nv out = nv a * nv b := by rw [Hinv.out, nv_take_ge la _ (Nat.le_refl _), Hva.out, Hvb.out]
      rw [e2, ← hlen] at hc; clear hlen e2
      go_wp2_with fail
      refine hc.mono ?_; rintro e w2 ⟨A2, c2, rfl, h5, hx2⟩
      go_wp2
      go_ret
      have hsz := hx.size; exact ⟨A2, c2, rfl, h5.widen fun b hb _ => by omega, Ext.trans xt hx2⟩

end Go.Proofs.YtpkfjbljhneenaaGreat

namespace Go.Proofs.YtpkfjbljhneenaaGreat
open Go.RowKit

theorem Kp.imp {X Y : Nat → Prop} {a b : World} (h : Kp Y a b) (k : ∀ c, X c → Y c) : Kp X a b := fun c hc hl => h c (k c hc) hl
section
variable {α : Type} {sz : Nat} {E : World → (Nat → Prop) → List Value → α → Prop}
end

end Go.Proofs.YtpkfjbljhneenaaGreat

namespace Go.Proofs.YtpkfjbljhneenaaGreat
open Go.RowKit

abbrev Zs (w : World) (X : Nat → Prop) (A : Option Addr) (c : Nat) (l : List Z) : Prop := Sl 2 EZ w X A c l
def zth (l : List Z) (k : Nat) : Z := l.getD k ⟨false, []⟩
theorem zth_eq (l : List Z) (k : Nat) (h : k < l.length) : zth l k = l[k] := by simp [zth, h]
theorem zth_mem {l : List Z} {k : Nat} (h : k < l.length) : zth l k ∈ l := by rw [zth_eq l k h]; exact List.getElem_mem h
theorem drop_zth (l : List Z) (k : Nat) (h : k < l.length) : l.drop k = zth l k :: l.drop (k + 1) := by
 rw [zth_eq l k h]; exact List.drop_eq_getElem_cons h
theorem take_zth (l : List Z) (k : Nat) (h : k < l.length) : l.take (k + 1) = l.take k ++ [zth l k] := by
 rw [zth_eq l k h]; exact List.take_succ_eq_append_getElem h
theorem Zs.at_ {w : World} {X : Nat → Prop} {A : Option Addr} {c : Nat} {l : List Z} (h : Zs w X A c l) {k : Nat} (hk : k < l.length) :
  ∃ b o B d, A = some ⟨b, o, none⟩ ∧ X b ∧ w.cell? ⟨b, o + k * 2, none⟩ = some (.bool (zth l k).neg) ∧ w.cell? ⟨b, o + k * 2 + 1, none⟩ = some (.slice B (zth l k).mag.length d) ∧ Nl w X B d (zth l k).mag := by
 obtain ⟨b, o, hA, hX, hi⟩ := h.2.2.1 (by omega); obtain ⟨cs, _, hc, B, d, rfl, h1⟩ := hi k hk; rw [zth_eq l k hk]; exact ⟨b, o, B, d, hA, hX, hc 0 (by simp), hc 1 (by simp), h1⟩
theorem Zs.ext {w w' : World} {X : Nat → Prop} {A : Option Addr} {c : Nat} {l : List Z} (h : Zs w X A c l) (k : Ext w w') : Zs w' X A c l := Sl.keep h (.of_ext k)

theorem ety_z : Ety Tryz.prog 35 25 2 32 (.agg #[.bool false, .slice none 0 0]) := ⟨Tryz.underlying35, by kernel_rfl, by simp [Value.cells], by omega⟩
theorem ety_b : Ety Tryz.prog 84 4 1 1 (.bool false) := ⟨by kernel_rfl, by kernel_rfl, by simp [Value.cells], by omega⟩
theorem ety_r : Ety Tryz.prog 92 84 1 24 (.slice none 0 0) := ⟨Tryz.underlying92, by kernel_rfl, by simp [Value.cells], by omega⟩

theorem wpList_appz1 {w : World} {ops : Array Oper} {rest : List Oper} {o : Oper} {a : Act} {Q : Exit → Act → World → Prop} (s x : Operand) {Zp : Nat → Prop} {base : Nat} {v : Value} {l : List Z} {z : Z} {A : Option Addr} {c : Nat}
  (h : Own 2 EZ w Zp base 25 v l) (hN : Nl w (fun b => Zp b ∧ v.ownBlock ≠ some b) A c z.mag) (hl : l.length ≤ 2199023255552) (hbase : base ≤ w.heap.size)
  (hgd : o.guard = none) (ho : o.op = .call { callee := .builtin .append, args := #[s, x], argTypes := #[35, 35] }) (hs : a.eval s = v) (hx : a.eval x = .slice (some ⟨w.heap.size, 0, none⟩) 1 1)
  (H : ∀ v' w', Own 2 EZ w' Zp base 25 v' (l ++ [z]) → (w.alloc (.cells #[.bool z.neg, .slice A z.mag.length c] 25)).grownBy w' v.ownBlock →
   (v'.ownBlock = v.ownBlock ∨ v'.ownBlock = some (w.heap.size + 1)) → wpList Tryz.prog ops Q rest (a.put o.dst v') w') :
  wpList Tryz.prog ops Q (o :: rest) a (w.alloc (.cells #[.bool z.neg, .slice A z.mag.length c] 25)) := by
 refine wpList_app (m := [z]) ety_z s x (Own.ext h ((Ext.refl w).alloc _)) (Fl.one (cs := [.bool z.neg, .slice A z.mag.length c]) ⟨A, c, rfl, hN.ext ((Ext.refl w).alloc _)⟩ rfl) (fun _ => ⟨_, _, rfl, fun j u hu => ?_⟩) ?_ ?_ ?_ hgd ho hs hx fun v' w' h1 h2 h3 => H v' w' h1 h2 (by simpa using h3)
 ·rw [World.cell?_alloc_at (hn := rfl)]
  match j, hu with
  | 0, hu => simpa using hu
  | 1, hu => simpa using hu
 ·simp only [List.length_cons, List.length_nil]; omega
 ·simp only [List.length_cons, List.length_nil, maxLen]; omega
 ·simp only [World.size_alloc]; omega

theorem op_app {α : Type} {sz : Nat} {E : World → (Nat → Prop) → List Value → α → Prop} [Stab E] {P : Program} {t e : TypeId} {bytes : Nat} {z : Value} (T : Ety P t e sz bytes z) {w : World} {o : Oper} {a : Act} {K : Act → World → Prop} {Q : Exit → Act → World → Prop} (s x : Operand)
  {Z : Nat → Prop} {base : Nat} {v : Value} {l m : List α} {A : Option Addr} {c : Nat} {ys : List Value}
  (h : Own sz E w Z base e v l) (h3 : Fl sz E w (fun b => Z b ∧ v.ownBlock ≠ some b) ys m) (h4 : 0 < m.length → ∃ b o, A = some ⟨b, o, none⟩ ∧ ∀ j u, ys[j]? = some u → w.cell? ⟨b, o + j, none⟩ = some u)
  (hlen : (l.length + m.length) * bytes ≤ 140737488355328) (hL : l.length + m.length ≤ maxLen) (hbase : base ≤ w.heap.size)
  (ho : o.op = .call { callee := .builtin .append, args := #[s, x], argTypes := #[t, t] }) (hs : a.eval s = v) (hx : a.eval x = .slice A m.length c)
  (H : ∀ v' w', Own sz E w' Z base e v' (l ++ m) → w.grownBy w' v.ownBlock → (v'.ownBlock = v.ownBlock ∨ v'.ownBlock = some w.heap.size) → K (a.put o.dst v') w') : o.wp P a w K Q := by
 obtain ⟨v', w', hrun, h5, h6, h7⟩ := run_app (P := P) (ty := o.type) T (c := c) h h3 h4 hlen hL hbase; unfold Oper.wp execOp; simp only [ho, resolve, invoke, builtin, Sem.run_bind, Sem.run_pure, Result.andThen_ok, List.map_toArray, List.map_cons, List.map_nil, hs, hx, hrun]; exact H v' w' h5 h6 h7
theorem Nl.off {w : World} {X : Nat → Prop} {A : Option Addr} {c g : Nat} {l : List Nat} {t : TypeId} {cs : Array Value} (h : Nl w X A c l) (hb : Box w g t cs) (hcs : ∀ u ∈ cs.toList, ∀ x, u ≠ .int .u32 x) : Nl w (fun b => X b ∧ b ≠ g) A c l := by
 obtain ⟨h1, h2, h3, h4⟩ := h; refine ⟨h1, h2, fun h0 => ?_, h4⟩; obtain ⟨b, o, hA, hX, hi⟩ := h3 h0; refine ⟨b, o, hA, ⟨hX, fun e => ?_⟩, hi⟩; subst e; obtain ⟨cs', hl, hc, he, _⟩ := hi 0 h0; have h5 := hc 0 (by rw [hl]; omega); rw [hb.cell] at h5; have h6 := Array.mem_of_getElem? h5; subst he; exact hcs _ (by simpa using h6) _ rfl
end Go.Proofs.YtpkfjbljhneenaaGreat

namespace Go.Proofs.YtpkfjbljhneenaaGreat
open Go.RowKit

section
variable {α : Type} {sz : Nat} {E : World → (Nat → Prop) → List Value → α → Prop}
theorem Fl.setr {w : World} {X : Nat → Prop} {xs : List Value} {l : List α} (h : Fl sz E w X xs l) {k r : Nat} (hk : k < l.length) (hr : r < sz) {u : Value} {a' : α} (hE : E w X (((xs.drop (k * sz)).take sz).set r u) a') :
  Fl sz E w X (xs.set (k * sz + r) u) (l.set k a') := by
 refine ⟨by simp [h.1], fun i hi => ?_⟩; rw [List.length_set] at hi
 have hsl : ((xs.set (k * sz + r) u).drop (i * sz)).take sz = if i = k then ((xs.drop (k * sz)).take sz).set r u else (xs.drop (i * sz)).take sz := by
  rw [List.drop_set]
  by_cases e : i = k
  ·subst e; rw [if_neg (by omega), if_pos rfl, show i * sz + r - i * sz = r from by omega, List.take_set]
  ·rw [if_neg e]
   rcases Nat.lt_or_gt_of_ne e with hlt | hgt
   ·have : i * sz + sz ≤ k * sz := by rw [← Nat.succ_mul]; exact Nat.mul_le_mul_right _ hlt
    rw [if_neg (by omega), List.take_set, List.set_eq_of_length_le]; rw [List.length_take]
    omega
   ·have : k * sz + sz ≤ i * sz := by rw [← Nat.succ_mul]; exact Nat.mul_le_mul_right _ hgt
    rw [if_pos (by omega)]
 rw [hsl]
 by_cases e : i = k
 ·subst e; rw [if_pos rfl]
  simpa using hE
 ·rw [if_neg e, List.getElem_set_ne (by omega)]; exact h.2 i hi
theorem Own.put [Stab E] {w : World} {Zp : Nat → Prop} {base g n c : Nat} {e : TypeId} {l : List α} (h : Own sz E w Zp base e (.slice (some ⟨g, 0, none⟩) n c) l) {k r : Nat} (hk : k < l.length) (hr : r < sz) {u : Value} {a' : α}
  (hE : ∀ cs, E w (fun b => Zp b ∧ b ≠ g) cs l[k] → cs.length = sz → E w (fun b => Zp b ∧ b ≠ g) (cs.set r u) a') :
  Own sz E (w.setCell ⟨g, k * sz + r, none⟩ u) Zp base e (.slice (some ⟨g, 0, none⟩) n c) (l.set k a') := by
 obtain ⟨xs, h1, h2⟩ := h
 have hn : n = l.length := by
  rcases h1.2 with ⟨hv, _⟩ | ⟨g', cap', cur, hv, _⟩
  ·cases hv
  ·injection hv
 subst hn
 have hX : (fun b => Zp b ∧ Value.ownBlock (.slice (some ⟨g, 0, none⟩) l.length c) ≠ some b) = fun b => Zp b ∧ b ≠ g := by
  funext b
  apply propext
  constructor
  ·rintro ⟨h3, h4⟩; exact ⟨h3, fun e => h4 (by rw [e]; rfl)⟩
  ·rintro ⟨h3, h4⟩; exact ⟨h3, fun e => h4 (by injection e with e; exact e.symm)⟩
 refine ⟨xs.set (k * sz + r) u, ?_, ?_⟩
 ·rw [List.length_set]; exact (h1.stored (k * sz + r) u).1
 ·have hle : k * sz + sz ≤ xs.length := by rw [h2.1, ← Nat.succ_mul]; exact Nat.mul_le_mul_right _ hk
  have h3 := h2.2 k hk; rw [hX] at h2 h3 ⊢; have h4 : Fl sz E w (fun b => Zp b ∧ b ≠ g) (xs.set (k * sz + r) u) (l.set k a') := h2.setr hk hr (hE _ h3 (by rw [List.length_take, List.length_drop]; omega)); exact h4.keep ((Kp.refl w).setCell (fun h => h.2 rfl) u)
end

theorem Own.adr {α : Type} {sz : Nat} {E : World → (Nat → Prop) → List Value → α → Prop} {w : World} {Zp : Nat → Prop} {base g o n c : Nat} {e : TypeId} {l : List α} (h : Own sz E w Zp base e (.slice (some ⟨g, o, none⟩) n c) l) :
  o = 0 ∧ n = l.length ∧ base ≤ g ∧ g < w.heap.size := by
 obtain ⟨xs, h1, _⟩ := h
 rcases h1.2 with ⟨hv, _⟩ | ⟨g', cap', cur, hv, hb, hg, _⟩
 ·cases hv
 ·injection hv with e1 e2 e3
  injection e1 with e1
  injection e1 with e1 e4
  subst e1; exact ⟨e4, e2, hb, lt_of_some hg⟩
theorem Own.frz {α : Type} {sz : Nat} {E : World → (Nat → Prop) → List Value → α → Prop} {w : World} {Zp : Nat → Prop} {base g n c : Nat} {e : TypeId} {l : List α} (h : Own sz E w Zp base e (.slice (some ⟨g, 0, none⟩) n c) l) (o : Nat) :
  w.frozen? ⟨g, o, none⟩ = false := by
 have hn := h.adr.2.1; subst hn; obtain ⟨xs, h1, _⟩ := h; exact h1.frozenAt o
theorem Own.there {α : Type} {sz : Nat} {E : World → (Nat → Prop) → List Value → α → Prop} {w : World} {Zp : Nat → Prop} {base g n c j : Nat} {e : TypeId} {l : List α} (h : Own sz E w Zp base e (.slice (some ⟨g, 0, none⟩) n c) l) (hj : j < c * sz) :
  ∃ u, w.cell? ⟨g, j, none⟩ = some u := by
 have hn := h.adr.2.1; subst hn; obtain ⟨xs, h1, _⟩ := h
 rcases h1.2 with ⟨hv, _⟩ | ⟨g', cap', cur, hv, hb, hg, hnc, hcm, hcs, htake⟩
 ·cases hv
 ·injection hv with e1 e2 e3
  injection e1 with e1
  injection e1 with e1
  subst e1; subst e3
  rw [cell_of_row w g j cur _ (0, 0) hg]; exact ⟨cur[j]'(by omega), Array.getElem?_eq_getElem _⟩

end Go.Proofs.YtpkfjbljhneenaaGreat

namespace Go.Proofs.YtpkfjbljhneenaaGreat
open Go.RowKit

inductive D where
 | i (k : IntKind) (n : Int)
 | b (x : Bool)
 | s (x : ByteArray)
 | l (xs : List (List D))
 | p (T : TypeId) (ds : List D)
 | np

inductive Rp (w : World) (X : Nat → Prop) : Value → D → Prop
 | i {k : IntKind} {n : Int} : k.min ≤ n → n ≤ k.max → Rp w X (.int k n) (.i k n)
 | b {x : Bool} : Rp w X (.bool x) (.b x)
 | s {x : ByteArray} : x.size ≤ maxLen → Rp w X (.string x) (.s x)
 | l {A : Option Addr} {b o c sz : Nat} {xs : List (List D)} {cv : Nat → Nat → Value} : 0 < sz →
   xs.length ≤ c → c ≤ maxLen → (0 < xs.length → A = some ⟨b, o, none⟩ ∧ X b) → Thaw w A (xs.length * sz) → (∀ i (hi : i < xs.length), xs[i].length = sz) →
   (∀ i j, i < xs.length → j < sz → w.cell? ⟨b, o + i * sz + j, none⟩ = some (cv i j)) →
   (∀ i (hi : i < xs.length) j (hj : j < xs[i].length), Rp w X (cv i j) (xs[i][j])) → Rp w X (.slice A xs.length c) (.l xs)
 | p {b : Nat} {T : TypeId} {ds : List D} {vs : Array Value} : X b → Box w b T vs → vs.size = ds.length → (∀ i (hi : i < ds.length), Rp w X (vs.getD i undef) (ds[i])) → Rp w X (.pointer (some ⟨b, 0, none⟩)) (.p T ds)
 | np : Rp w X (.pointer none) .np

theorem Rp.one {w : World} {X : Nat → Prop} {v : Value} {d : D} (h : Rp w X v d) : v.oneCell' = true := by
 cases h <;> rfl
theorem Rp.keep {w w' : World} {X : Nat → Prop} {v : Value} {d : D} (h : Rp w X v d) (k : Kp X w w') : Rp w' X v d := by
 induction h with
 | i h1 h2 => exact .i h1 h2
 | b => exact .b
 | s h1 => exact .s h1
 | @l A b o c sz xs cv h0 h1 h2 h3 h4 h5 h6 h7 ih =>
  have hb : 0 < xs.length → X b ∧ b < w.heap.size := fun hp => ⟨(h3 hp).2, World.block_lt_of_cell? _ _ (h6 0 0 hp h0)⟩
  refine .l h0 h1 h2 h3 (fun b' o' hA j hj => ?_) h5 (fun i j hi hj => ?_) ih
  ·have hp : 0 < xs.length := by
    rcases Nat.eq_zero_or_pos xs.length with hz | hz
    ·rw [hz] at hj; omega
    ·exact hz
   have e : b' = b := by
    have := (h3 hp).1; rw [hA] at this; injection this with this; injection this
   exact (World.frozen?_of_block (a := ⟨b', o' + j, none⟩) (k b' (e ▸ (hb hp).1) (e ▸ (hb hp).2))).trans (h4 b' o' hA j hj)
  ·have hp : 0 < xs.length := by omega
   exact (World.cell?_of_block (a := ⟨b, o + i * sz + j, none⟩) (k b (hb hp).1 (hb hp).2)).trans (h6 i j hi hj)
 | @p b T ds vs h1 h2 h3 h4 ih => exact .p h1 (h2.keep h1 k) h3 ih
 | np => exact .np
theorem Rp.widen {w : World} {X Y : Nat → Prop} {v : Value} {d : D} (h : Rp w X v d) (k : ∀ b, X b → b < w.heap.size → Y b) : Rp w Y v d := by
 induction h with
 | i h1 h2 => exact .i h1 h2
 | b => exact .b
 | s h1 => exact .s h1
 | @l A b o c sz xs cv h0 h1 h2 h3 h4 h5 h6 h7 ih =>
  exact .l h0 h1 h2 (fun hp => ⟨(h3 hp).1, k b (h3 hp).2 (World.block_lt_of_cell? _ _ (h6 0 0 hp h0))⟩) h4 h5 h6 ih
 | @p b T ds vs h1 h2 h3 h4 ih => exact .p (k b h1 h2.lt) h2 h3 ih
 | np => exact .np
theorem Rp.there {w : World} {X : Nat → Prop} {v : Value} {d : D} (h : Rp w X v d) : Rp w (fun b => X b ∧ b < w.heap.size) v d := h.widen fun _ h1 h2 => ⟨h1, h2⟩

inductive F2 {α β : Type} (R : α → β → Prop) : List α → List β → Prop
 | nil : F2 R [] []
 | cons {a : α} {b : β} {l : List α} {m : List β} : R a b → F2 R l m → F2 R (a :: l) (b :: m)
def ED (w : World) (X : Nat → Prop) (cs : List Value) (ds : List D) : Prop := F2 (Rp w X) cs ds
theorem forall2_mono {α β : Type} {R S : α → β → Prop} (h : ∀ a b, R a b → S a b) : ∀ {l : List α} {m : List β}, F2 R l m → F2 S l m
 | _, _, .nil => .nil
 | _, _, .cons h1 h2 => .cons (h _ _ h1) (forall2_mono h h2)
theorem forall2_len {α β : Type} {R : α → β → Prop} : ∀ {l : List α} {m : List β}, F2 R l m → l.length = m.length
 | _, _, .nil => rfl
 | _, _, .cons _ h => by simp [forall2_len h]
theorem forall2_get {α β : Type} {R : α → β → Prop} : ∀ {l : List α} {m : List β}, F2 R l m → ∀ i (h : i < l.length) (h' : i < m.length), R l[i] m[i]
 | _, _, .cons h1 _, 0, _, _ => h1
 | _, _, .cons _ h2, i + 1, h, h' => forall2_get h2 i (by simpa using h) (by simpa using h')
theorem forall2_of {α β : Type} {R : α → β → Prop} : ∀ {l : List α} {m : List β}, l.length = m.length → (∀ i (h : i < l.length) (h' : i < m.length), R l[i] m[i]) → F2 R l m
 | [], [], _, _ => .nil
 | a :: l, b :: m, h, k => .cons (k 0 (by simp) (by simp)) (forall2_of (by simpa using h) fun i h1 h2 => k (i + 1) (by simpa using h1) (by simpa using h2))
 | [], _ :: _, h, _ => by simp at h
 | _ :: _, [], h, _ => by simp at h
theorem forall2_take {α β : Type} {R : α → β → Prop} : ∀ {l : List α} {m : List β} (n : Nat), F2 R l m → F2 R (l.take n) (m.take n)
 | _, _, 0, _ => by simp only [List.take_zero]; exact .nil
 | _, _, _ + 1, .nil => .nil
 | _, _, n + 1, .cons h1 h2 => .cons h1 (forall2_take n h2)
theorem forall2_drop {α β : Type} {R : α → β → Prop} : ∀ {l : List α} {m : List β} (n : Nat), F2 R l m → F2 R (l.drop n) (m.drop n)
 | _, _, 0, h => by simpa using h
 | _, _, _ + 1, .nil => .nil
 | _, _, n + 1, .cons _ h2 => by simpa using forall2_drop n h2
theorem forall2_set {α β : Type} {R : α → β → Prop} : ∀ {l : List α} {m : List β} (n : Nat) {a : α} {b : β}, F2 R l m → R a b → F2 R (l.set n a) (m.set n b)
 | _, _, _, _, _, .nil, _ => .nil
 | _, _, 0, _, _, .cons _ h2, h => .cons h h2
 | _, _, n + 1, _, _, .cons h1 h2, h => .cons h1 (forall2_set n h2 h)
theorem forall2_app {α β : Type} {R : α → β → Prop} : ∀ {l : List α} {m : List β} {l' : List α} {m' : List β}, F2 R l m → F2 R l' m' → F2 R (l ++ l') (m ++ m')
 | _, _, _, _, .nil, h => h
 | _, _, _, _, .cons h1 h2, h => .cons h1 (forall2_app h2 h)
instance : Stab ED := ⟨fun h k => forall2_mono (fun _ _ r => r.keep k) h, fun h k => forall2_mono (fun _ _ r => r.widen k) h, fun {w X cs a} h => by
 intro u hu; obtain ⟨i, hi, rfl⟩ := List.getElem_of_mem hu
 exact (forall2_get h i hi (by rw [← forall2_len h]; exact hi)).one⟩

theorem Rp.sl {w : World} {X : Nat → Prop} {v : Value} {xs : List (List D)} (h : Rp w X v (.l xs)) : ∃ A c sz, 0 < sz ∧ v = .slice A xs.length c ∧ Sl sz ED w X A c xs ∧ ∀ e ∈ xs, e.length = sz := by
 cases h with
 | @l A b o c sz _ cv h0 h1 h2 h3 h4 h5 h6 h7 =>
  refine ⟨A, c, sz, h0, rfl, ⟨h1, h2, fun hp => ⟨b, o, (h3 hp).1, (h3 hp).2, fun i hi => ?_⟩, h4⟩, fun e he => ?_⟩
  ·refine ⟨(List.range sz).map (cv i), by simp, fun j hj => ?_, forall2_of (by simp [h5 i hi]) fun j h1 h2 => ?_⟩
   ·simp at hj; simp [h6 i j hi hj]
   ·simp; exact h7 i hi j h2
  ·obtain ⟨i, hi, rfl⟩ := List.getElem_of_mem he; exact h5 i hi
theorem Rp.of_sl {w : World} {X : Nat → Prop} {A : Option Addr} {c sz : Nat} {xs : List (List D)} (h0 : 0 < sz) (h : Sl sz ED w X A c xs) : Rp w X (.slice A xs.length c) (.l xs) := by
 obtain ⟨h1, h2, h3, h4⟩ := h
 rcases Nat.eq_zero_or_pos xs.length with hz | hz
 ·exact .l (b := 0) (o := 0) (cv := fun _ _ => undef) h0 h1 h2 (fun h => absurd h (by omega)) h4 (fun i hi => absurd hi (by omega)) (fun i j hi => absurd hi (by omega)) (fun i hi => absurd hi (by omega))
 ·obtain ⟨b, o, hA, hX, hi⟩ := h3 hz
  have key : ∃ cv : Nat → Nat → Value, ∀ i (h : i < xs.length), xs[i].length = sz ∧ (∀ j, j < sz → w.cell? ⟨b, o + i * sz + j, none⟩ = some (cv i j)) ∧ ∀ j (hj : j < xs[i].length), Rp w X (cv i j) (xs[i][j]) := by
   refine ⟨fun i j => (w.cell? ⟨b, o + i * sz + j, none⟩).getD undef, fun i h => ?_⟩; obtain ⟨cs, hl, hc, he⟩ := hi i h; have hlen := forall2_len he; refine ⟨by omega, fun j hj => ?_, fun j hj => ?_⟩
   ·simp only [hc j (by omega), Option.getD_some]
   ·simp only [hc j (by omega : j < cs.length), Option.getD_some]; exact forall2_get he j (by omega) hj
  obtain ⟨cv, hcv⟩ := key; exact .l h0 h1 h2 (fun _ => ⟨hA, hX⟩) h4 (fun i h => (hcv i h).1) (fun i j h hj => (hcv i h).2.1 j hj) (fun i h => (hcv i h).2.2)

end Go.Proofs.YtpkfjbljhneenaaGreat

namespace Go.Proofs.YtpkfjbljhneenaaGreat
open Go.RowKit

theorem fdivg_law (x y : Int) (hy : y ≠ 0) :
  ((Z.v ⟨decide (x < 0), lim (x.natAbs % y.natAbs)⟩ = 0 ∨ decide (Z.v ⟨decide (x < 0), lim (x.natAbs % y.natAbs)⟩ < 0) = decide (y < 0)) → x.fdiv y = Z.v ⟨!(decide (x < 0) == decide (y < 0)), lim (x.natAbs / y.natAbs)⟩ ∧ x.fmod y = Z.v ⟨decide (x < 0), lim (x.natAbs % y.natAbs)⟩) ∧
  (Z.v ⟨decide (x < 0), lim (x.natAbs % y.natAbs)⟩ ≠ 0 → decide (Z.v ⟨decide (x < 0), lim (x.natAbs % y.natAbs)⟩ < 0) ≠ decide (y < 0) → x.fdiv y = Z.v ⟨!(decide (x < 0) == decide (y < 0)), lim (x.natAbs / y.natAbs)⟩ - 1 ∧ x.fmod y = Z.v ⟨decide (x < 0), lim (x.natAbs % y.natAbs)⟩ + y) := by
 have h1 := Nat.div_add_mod x.natAbs y.natAbs; have h2 := Nat.mod_lt x.natAbs (show 0 < y.natAbs by omega); obtain ⟨q, hq⟩ : ∃ q, q = x.natAbs / y.natAbs := ⟨_, rfl⟩; obtain ⟨r, hr⟩ : ∃ r, r = x.natAbs % y.natAbs := ⟨_, rfl⟩; rw [← hq, ← hr] at h1 ⊢; rw [← hr] at h2; clear hq hr; have h3 : ((y.natAbs * q : Nat) : Int) = (y.natAbs : Int) * (q : Int) := Int.natCast_mul _ _; obtain ⟨Y, hY⟩ : ∃ Y, Y = y.natAbs := ⟨_, rfl⟩; rw [← hY] at h1 h2 h3
 -- the four signs
 have key : ∀ (Q R : Int), x = y * Q + R → (0 < y → 0 ≤ R ∧ R < y) → (y < 0 → R ≤ 0 ∧ y < R) → x.fdiv y = Q ∧ x.fmod y = R := by
  intro Q R h4 h5 h6
  rcases Int.lt_or_gt_of_ne hy with hn | hp
  ·obtain ⟨h7, h8⟩ := h6 hn; exact (Int.fdiv_fmod_unique' hn).2 ⟨by omega, by omega, by omega⟩
  ·obtain ⟨h7, h8⟩ := h5 hp; exact (Int.fdiv_fmod_unique hp).2 ⟨by omega, by omega, by omega⟩
 have e1 : y * -(q : Int) = -(y * (q : Int)) := Int.mul_neg _ _
 have e2 : y * (-(q : Int) - 1) = -(y * (q : Int)) - y := by rw [Int.mul_sub, e1, Int.mul_one]
 have e3 : y * ((q : Int) - 1) = y * (q : Int) - y := by rw [Int.mul_sub, Int.mul_one]
 have e4 : 0 < y → y * (q : Int) = (Y : Int) * (q : Int) := fun h => by rw [show y = (Y : Int) by omega]
 have e5 : y < 0 → y * (q : Int) = -((Y : Int) * (q : Int)) := fun h => by rw [show y = -(Y : Int) by omega, Int.neg_mul]
 unfold Z.v; simp only [nv_lim]
 by_cases hx : x < 0 <;> by_cases hn : y < 0
 all_goals
  simp only [hx, hn, decide_true, decide_false, if_true, if_false, Bool.false_eq_true, beq_self_eq_true, Bool.not_true, Bool.not_false, Bool.true_beq, Bool.false_beq, ne_eq, decide_eq_true_eq, decide_eq_false_iff_not]; refine ⟨fun h => key _ _ ?_ ?_ ?_, fun h h' => key _ _ ?_ ?_ ?_⟩
 all_goals
  first
   | (intro hh; omega)
   | (have := e4; have := e5; omega)
   | (have h8 := e5 hn; omega)
   | (have h8 := e4 (by omega); omega)
theorem zl_mono {x y : Int} (h : x.natAbs ≤ y.natAbs) : zl x ≤ zl y := by
 refine zl_le (Nat.lt_of_le_of_lt h ?_); exact lt_pw_zl y
theorem fdiv_zl {x d : Int} {N : Nat} (hd : 0 < d) (h : zl x ≤ N) : zl (x.fdiv d) ≤ N := by
 refine Nat.le_trans (zl_mono ?_) h; rw [Int.fdiv_eq_ediv_of_nonneg x (by omega)]; have h1 := Int.mul_ediv_add_emod x d; have h2 := Int.emod_nonneg x (show d ≠ 0 by omega); have h3 := Int.emod_lt_of_pos x hd
 rcases Int.lt_or_le x 0 with hx | hx
 ·have h4 : x ≤ x / d := by
   rcases Int.lt_or_le (x / d) 0 with h5 | h5
   ·have h6 : d * (x / d) ≤ 1 * (x / d) := Int.mul_le_mul_of_nonpos_right (by omega) (by omega)
    by_cases h7 : x % d = 0
    ·omega
    ·have h8 : (d - 1) * (x / d + 1) ≤ 0 := Int.mul_nonpos_of_nonneg_of_nonpos (by omega) (by omega); rw [Int.mul_add, Int.sub_mul] at h8
     omega
   ·omega
  have h9 : x / d < 0 := Int.ediv_neg_of_neg_of_pos hx hd
  omega
 ·have h4 : 0 ≤ x / d := Int.ediv_nonneg hx (by omega); have h5 : x / d ≤ x := Int.ediv_le_self d hx
  omega

end Go.Proofs.YtpkfjbljhneenaaGreat

namespace Go.Proofs.YtpkfjbljhneenaaGreat
open Go.RowKit

def Ku (H g : Nat) (w w' : World) : Prop := ∀ b o, b ≠ g → b < H → (∃ x, w.cell? ⟨b, o, none⟩ = some (.int .u32 x)) → (∃ y, w'.cell? ⟨b, o, none⟩ = some (.int .u32 y)) ∧ w'.frozen? ⟨b, o, none⟩ = w.frozen? ⟨b, o, none⟩
structure Ov (B H g i : Nat) (w wr : World) : Prop where
 bl : Below B w wr
 kp : Kp (H ≤ ·) w wr
 ku : Ku H g w wr
 row : ∀ j, i * 3 ≤ j → wr.cell? ⟨g, j, none⟩ = w.cell? ⟨g, j, none⟩
 frz : ∀ j, wr.frozen? ⟨g, j, none⟩ = w.frozen? ⟨g, j, none⟩
 size : w.heap.size ≤ wr.heap.size

section
variable {B H g i : Nat} {w wr : World}
theorem Ov.refl (w : World) : Ov B H g 0 w w := ⟨Below.refl _ _, Kp.refl _, fun _ _ _ _ h => ⟨h, rfl⟩, fun _ _ => rfl, fun _ => rfl, Nat.le_refl _⟩
theorem Ov.drew (h : Ov B H g i w wr) : Ov B H g i w wr.drew := ⟨h.bl.drew, h.kp.drew, fun b o h1 h2 h3 => by simpa using h.ku b o h1 h2 h3, fun j hj => by simpa using h.row j hj, fun j => by simpa using h.frz j, by simpa using h.size⟩
theorem Ov.set9 (h : Ov B H g i w wr) {b o : Nat} {y : Int} (h1 : b ≠ g) (h2 : B ≤ b) (h3 : b < H) (hc : ∃ x, wr.cell? ⟨b, o, none⟩ = some (.int .u32 x)) : Ov B H g i w (wr.setCell ⟨b, o, none⟩ (.int .u32 y)) := by
 refine ⟨h.bl.setCell h2 _, h.kp.setCell (by simp only; omega) _, fun b' o' k1 k2 k3 => ?_, fun j hj => ?_, fun j => ?_, by simpa using h.size⟩
 ·obtain ⟨⟨x, hx⟩, hf⟩ := h.ku b' o' k1 k2 k3; refine ⟨?_, by rw [World.frozen?_setCell]; exact hf⟩
  by_cases e : (⟨b', o', none⟩ : Addr) = ⟨b, o, none⟩
  ·rw [e]; obtain ⟨x', hx'⟩ := hc; exact ⟨y, World.cell?_setCell_same' _ _ _ (by rw [hx']; rfl)⟩
  ·exact ⟨x, by rw [World.cell?_setCell_other _ _ _ _ (fun h => e h.symm)]; exact hx⟩
 ·rw [World.cell?_setCell_other _ _ _ _ (fun e => by injection e with e1; exact h1 e1)]; exact h.row j hj
 ·rw [World.frozen?_setCell]; exact h.frz j
end

def Lm (w : World) (B H g : Nat) (D : Option Addr) (n : Nat) : Prop :=
 n ≤ maxLen ∧ (0 < n → ∃ b o, D = some ⟨b, o, none⟩ ∧ B ≤ b ∧ b ≠ g ∧ b < H ∧ ∀ j, j < n → (∃ x, w.cell? ⟨b, o + j, none⟩ = some (.int .u32 x)) ∧ w.frozen? ⟨b, o + j, none⟩ = false)
theorem Lm.of_nl {w : World} {B E g : Nat} {D : Option Addr} {d : Nat} {l : List Nat} (h : Nl w (fun b => (B ≤ b ∧ b < E) ∧ b ≠ g) D d l) : Lm w B E g D l.length := by
 refine ⟨Nat.le_trans h.1 h.2.1, fun h0 => ?_⟩; obtain ⟨b, o, hA, ⟨⟨hX1, hX3⟩, hX2⟩, hc, -⟩ := h.at_ h0; refine ⟨b, o, hA, hX1, hX2, hX3, fun j hj => ⟨⟨_, hc j hj⟩, h.2.2.2 b o hA j (by omega)⟩⟩
theorem Lm.ext {w w' : World} {B H g : Nat} {D : Option Addr} {n : Nat} (h : Lm w B H g D n) (hx : Ext w w') (hH : H ≤ w.heap.size) : Lm w' B H g D n := by
 refine ⟨h.1, fun h0 => ?_⟩; obtain ⟨b, o, h1, h2, h3, h4, h5⟩ := h.2 h0; refine ⟨b, o, h1, h2, h3, h4, fun j hj => ?_⟩; obtain ⟨⟨x, hx1⟩, hf⟩ := h5 j hj; exact ⟨⟨x, (hx.cells.1 b _ (by omega)).trans hx1⟩, (hx.cells.2 b _ (by omega)).trans hf⟩

end Go.Proofs.YtpkfjbljhneenaaGreat
