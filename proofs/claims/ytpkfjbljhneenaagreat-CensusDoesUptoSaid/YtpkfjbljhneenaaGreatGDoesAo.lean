/- periods: made, common; slices.Equal at rows. No conditions. -/
import Derived.Test.YtpkfjbljhneenaaGreatGDoesAi
namespace Go.Proofs.YtpkfjbljhneenaaGreat
open Go.RowKit Go.Shelf

set_option maxHeartbeats 800000 in
theorem common_c (p q : Nat) (hp : 0 < p) (_hq : 0 < q) (hp1 : p ≤ 4096) (hq1 : q ≤ 4096) (w : World) :
    Calls Tryz.prog 97 #[.int .i64 (p : Int), .int .i64 (q : Int)] w fun e w' => e = .returned (.int .i64 (Nat.lcm p q : Nat)) ∧ Ext w w' := by
  have hg0 : 0 < Nat.gcd p q := Nat.gcd_pos_of_pos_left _ hp
  have hlcm : p / Nat.gcd p q * q = Nat.lcm p q := by
    unfold Nat.lcm; rw [Nat.div_mul_right_comm (Nat.gcd_dvd_left p q)]
  obtain ⟨L, hL⟩ : ∃ L, L = Nat.lcm p q := ⟨_, rfl⟩
  have hLb : L ≤ 4096 * 4096 := by
    rw [hL, ← hlcm]; exact Nat.le_trans (Nat.mul_le_mul (Nat.div_le_self _ _) hq1) (Nat.mul_le_mul_right _ hp1)
  rw [← hL] at hlcm ⊢; have HL := Lib.hid hlcm; clear hL hlcm
  go_enter Tryz.func97, Tryz.ntmps97
  go_wp2_with fail
  go_loopw [5, 6] (fun av bv wr => ∃ a b : Nat, av = .int .i64 a ∧ bv = .int .i64 b ∧ a ≤ 4096 ∧ b ≤ 4096 ∧ Hid (Nat.gcd a b = Nat.gcd p q) ∧ Ext w wr) (fun _ bv _ => (intOf bv).toNat)
  case atStart => exact ⟨p, q, rfl, rfl, hp1, hq1, Lib.hid rfl, Ext.refl _⟩
  case round =>
    obtain ⟨a, b, rfl, rfl, ha, hb, hg, hx⟩ := hrel
    rcases Nat.eq_zero_or_pos b with h0 | h0
    · subst h0; have e0 : (((0 : Nat) : Int) != 0) = false := rfl; have hga := hg.out; rw [Nat.gcd_zero_right] at hga; have hn := HL.out; rw [← hga] at hn hg0; have hpa : p / a ≤ 4096 := Nat.le_trans (Nat.div_le_self _ _) hp1
      have ha0 : ¬ (a : Int) = 0 := by omega
      have HN := Lib.hid hn; have HGA := Lib.hid hga
      clear hn hga hg
      go_wp2_with fail
      go_ret
      refine ⟨ret_int ?_, hx⟩; have e1 : (p : Int) / (a : Int) = ((p / a : Nat) : Int) := rfl; have e2 : ((p / a : Nat) : Int) * (q : Int) = ((p / a * q : Nat) : Int) := (Int.natCast_mul _ _).symm
      have e3 : wrap64 ((p / a : Nat) : Int) = ((p / a : Nat) : Int) := by
        generalize p / a = d at hpa ⊢
        simp only [wrap64]; omega
      rw [e1, e3, e2, HN.out]; simp only [wrap64]
      omega
    · have e0 : ((b : Int) != 0) = true := by rw [bne_iff_ne]; omega
      have hb0 : ¬ (b : Int) = 0 := by omega
      have hm : (a : Int).tmod (b : Int) = ((a % b : Nat) : Int) := rfl; have hlt := Nat.mod_lt a h0
      go_wp2_with fail
      go_region
      go_wp2_with fail
      go_roundw
      case rel => exact ⟨b, a % b, rfl, by simp, hb, by omega, Lib.hid (by rw [Nat.gcd_comm, ← Nat.gcd_rec, Nat.gcd_comm]; exact hg.out), hx.trans xt⟩
      case measure => simp [intOf] <;> omega

theorem bool_row {l m : List Bool} {k : Nat} (hk : k < l.length) (hm : k < m.length) (h : l.take k = m.take k) (e : bth l k = bth m k) : l.take (k + 1) = m.take (k + 1) := by
  rw [List.take_succ_eq_append_getElem hk, List.take_succ_eq_append_getElem hm, h, ← bth_eq l k hk, ← bth_eq m k hm, e]

set_option maxHeartbeats 800000 in
theorem equal_c {A B : Option Addr} {c d : Nat} {l m : List Bool} {w : World} {X Y : Nat → Prop} (hl : Rl w X A c l) (hm : Rl w Y B d m) :
    Calls Tryz.prog 102 #[.slice A l.length c, .slice B m.length d] w fun e w' => e = .returned (.bool (decide (l = m))) ∧ Ext w w' := by
  have hlm := hl.2.1; have hlc := hl.1
  have hmm := hm.2.1; have hmc := hm.1
  simp only [maxLen] at hlm hmm
  go_enter Tryz.func102, Tryz.ntmps102
  by_cases hlen : l.length = m.length
  · have e0 : ((l.length : Int) != (m.length : Int)) = false := by rw [hlen]; simp
    have HL := Lib.hid hlen; clear hlen
    go_wp2_with fail
    go_loopw [13] (fun iv wr => ∃ k : Nat, k ≤ l.length ∧ iv = .int .i64 k ∧ Hid (l.take k = m.take k) ∧ Ext w wr) (fun iv _ => l.length - (intOf iv).toNat)
    case atStart => exact ⟨0, Nat.zero_le _, rfl, Lib.hid (by simp), Ext.refl _⟩
    case round =>
      obtain ⟨k, hk, rfl, he, hx⟩ := hrel
      by_cases hlt : k < l.length
      · obtain ⟨b, o, rfl, -, hc⟩ := Rl.at_ (Sl.keep hl (.of_ext hx)) hlt
        have hmk : k < m.length := by rw [← HL.out]; exact hlt
        obtain ⟨b', o', rfl, -, hc'⟩ := Rl.at_ (Sl.keep hm (.of_ext hx)) hmk; have hb := World.block_lt_of_cell? _ _ hc; have hb' := World.block_lt_of_cell? _ _ hc'
        have kl : (k : Int) < (l.length : Int) := by omega
        have km : (k : Int) < (m.length : Int) := by omega
        rcases hxl : bth l k with _ | _ <;> rcases hyl : bth m k with _ | _
        · rw [hxl] at hc; rw [hyl] at hc'; have HB : Hid (bth l k = bth m k) := Lib.hid (by rw [hxl, hyl]); clear hxl hyl
          go_wp2_with fail
          refine wp_region_seq 9 [(0, true), (1, true), (2, true), (3, true), (4, true), (5, true), (6, true), (7, true), (8, true)] rfl (by kernel_rfl) (by intro _ _ d _ _ h; cases d <;> exact h) ?_
          (repeat (refine sq_take (v := ?_) rfl rfl ?_ ?_; rotate_left; exact tk2; (try simp only [pt])))
          refine sq_done ?_
          go_wp2_with fail
          go_roundw
          case rel => exact ⟨k + 1, by omega, by go_num, Lib.hid (bool_row hlt hmk he.out HB.out), hx.trans xt⟩
          case measure => simp [intOf] <;> omega
        · rw [hxl] at hc; rw [hyl] at hc'; have HB : Hid (¬ bth l k = bth m k) := Lib.hid (by rw [hxl, hyl]; simp); clear hxl hyl
          go_wp2_with fail
          refine wp_region_seq 9 [(0, true), (1, true), (2, true), (3, true), (4, true), (5, true), (6, true), (7, true), (8, true)] rfl (by kernel_rfl) (by intro _ _ d _ _ h; cases d <;> exact h) ?_
          (repeat (refine sq_take (v := ?_) rfl rfl ?_ ?_; rotate_left; exact tk2; (try simp only [pt])))
          refine sq_done ?_
          go_wp2_with fail
          go_ret
          refine ⟨ret_bool ?_, hx.trans xt⟩; rw [eq_comm, decide_eq_false_iff_not]; intro e; subst e; exact HB.out rfl
        · rw [hxl] at hc; rw [hyl] at hc'; have HB : Hid (¬ bth l k = bth m k) := Lib.hid (by rw [hxl, hyl]; simp); clear hxl hyl
          go_wp2_with fail
          refine wp_region_seq 9 [(0, true), (1, true), (2, true), (3, true), (4, true), (5, true), (6, true), (7, true), (8, true)] rfl (by kernel_rfl) (by intro _ _ d _ _ h; cases d <;> exact h) ?_
          (repeat (refine sq_take (v := ?_) rfl rfl ?_ ?_; rotate_left; exact tk2; (try simp only [pt])))
          refine sq_done ?_
          go_wp2_with fail
          go_ret
          refine ⟨ret_bool ?_, hx.trans xt⟩; rw [eq_comm, decide_eq_false_iff_not]; intro e; subst e; exact HB.out rfl
        · rw [hxl] at hc; rw [hyl] at hc'; have HB : Hid (bth l k = bth m k) := Lib.hid (by rw [hxl, hyl]); clear hxl hyl
          go_wp2_with fail
          refine wp_region_seq 9 [(0, true), (1, true), (2, true), (3, true), (4, true), (5, true), (6, true), (7, true), (8, true)] rfl (by kernel_rfl) (by intro _ _ d _ _ h; cases d <;> exact h) ?_
          (repeat (refine sq_take (v := ?_) rfl rfl ?_ ?_; rotate_left; exact tk2; (try simp only [pt])))
          refine sq_done ?_
          go_wp2_with fail
          go_roundw
          case rel => exact ⟨k + 1, by omega, by go_num, Lib.hid (bool_row hlt hmk he.out HB.out), hx.trans xt⟩
          case measure => simp [intOf] <;> omega
      · obtain rfl : k = l.length := by omega
        go_wp2_with fail
        go_ret
        refine ⟨ret_bool ?_, hx⟩; rw [eq_comm, decide_eq_true_eq]; have h1 := he.out; rw [List.take_length] at h1; rw [h1, HL.out, List.take_length]
  · have e0 : ((l.length : Int) != (m.length : Int)) = true := by rw [bne_iff_ne]; omega
    have HL := Lib.hid hlen; clear hlen
    go_wp2_with fail
    go_ret
    refine ⟨ret_bool ?_, Ext.refl _⟩; rw [eq_comm, decide_eq_false_iff_not]
    exact fun e => HL.out (by rw [e])

def bc (l : List Bool) : List Value := l.map Value.bool
theorem Fl.b (l : List Bool) (w : World) (X : Nat → Prop) : Fl 1 EB w X (bc l) l := by
  refine ⟨by simp [bc], fun i hi => ?_⟩
  have hi' : i < (bc l).length := by simpa [bc] using hi
  rw [Nat.mul_one, List.drop_eq_getElem_cons hi', List.take_succ_cons, List.take_zero]; simp [bc, EB]
theorem to_bc {w : World} {X : Nat → Prop} {xs : List Value} {l : List Bool} (h : Fl 1 EB w X xs l) : xs = bc l := by
  apply List.ext_getElem
  · simp [bc, h.1]
  · intro i h1 h2
    have hi : i < l.length := by simpa [bc] using h2
    have h4 := h.2 i hi; rw [Nat.mul_one, List.drop_eq_getElem_cons h1, List.take_succ_cons, List.take_zero] at h4; unfold EB at h4
    injection h4 with h4 _
    rw [h4]; simp [bc]
theorem bc_at {w : World} {X : Nat → Prop} {A : Option Addr} {c : Nat} {l : List Bool} (h : Rl w X A c l) (h0 : 0 < l.length) : ∃ b o, A = some ⟨b, o, none⟩ ∧ ∀ j u, (bc l)[j]? = some u → w.cell? ⟨b, o + j, none⟩ = some u := by
  obtain ⟨b, o, hA, _, _⟩ := h.at_ h0; refine ⟨b, o, hA, fun j u hu => ?_⟩
  have hj : j < l.length := by have := (List.getElem?_eq_some_iff.1 hu).1; simpa [bc] using this
  obtain ⟨b', o', hA', _, hc⟩ := h.at_ hj; rw [hA] at hA'
  injection hA' with hA'
  injection hA' with e1 e2
  subst e1; subst e2
  rw [hc]; rw [bc, List.getElem?_map, List.getElem?_eq_getElem hj] at hu; simp only [Option.map_some, Option.some.injEq] at hu; rw [← hu, bth_eq l j hj]

theorem wpList_copyb {w : World} {ops : Array Oper} {rest : List Oper} {o : Oper} {a : Act} {Q : Exit → Act → World → Prop} (d s : Operand) {base g n cap off dLen dCap c k : Nat} {dp A : Option Addr} {out m : List Bool} {X Zp : Nat → Prop}
    (h : Own 1 EB w Zp base 4 (.slice (some ⟨g, 0, none⟩) n cap) out) (hm : Rl w X A c m) (hk : k = min m.length dLen) (hdp : 0 < k → dp = some ⟨g, off, none⟩) (hfit : off + k ≤ n)
    (hgd : o.guard = none) (ho : o.op = .call { callee := .builtin .copy, args := #[d, s], argTypes := #[84, 84] }) (hd : a.eval d = .slice dp dLen dCap) (hs : a.eval s = .slice A m.length c)
    (H : ∀ w', Own 1 EB w' Zp base 4 (.slice (some ⟨g, 0, none⟩) n cap) (splice out off (m.take k)) → w.grownBy w' (some g) → wpList Tryz.prog ops Q rest (a.put o.dst (.int .i64 (k : Int))) w') : wpList Tryz.prog ops Q (o :: rest) a w := by
  obtain ⟨i, hi, hz, hsize, hby⟩ := info_parts ety_b.info
  have hk1 : k ≤ m.length := by omega
  have hn : n = out.length := h.adr.2.1; subst hn; obtain ⟨xs, h1, h2⟩ := h; have e := to_bc h2; subst e
  rcases h1.2 with ⟨hv, _⟩ | ⟨g', cap', cur, hv, hb, hg, hnc, hcm, hcs, htake⟩
  · cases hv
  · injection hv with e1 e2 e3
    injection e1 with e1
    injection e1 with e1
    subst e1; subst e3
    have hlc : (m.take k).length = k := by rw [List.length_take]; omega
    have hbcl : (bc (m.take k)).length = k := by rw [bc, List.length_map, hlc]
    have hfin : ∀ w', w'.heap[g]? = some (.cells (splice cur.toList off (bc (m.take k))).toArray 4 (0, 0)) → Own 1 EB w' Zp base 4 (.slice (some ⟨g, 0, none⟩) out.length cap) (splice out off (m.take k)) := by
      intro w' hw'; have hlen : (splice out off (m.take k)).length = out.length := length_splice _ _ _ (by omega); refine ⟨bc (splice out off (m.take k)), ⟨by simp [bc], .inr ⟨g, cap, _, by rw [hlen], hb, hw', by rw [hlen]; exact hnc, hcm, ?_, ?_⟩⟩, Fl.b _ _ _⟩
      · simp only [List.size_toArray]; rw [length_splice _ _ _ (by simp only [Array.length_toList]; omega), Array.length_toList, hcs]
      · show List.take ((splice out off (m.take k)).length * 1) (splice cur.toList off (bc (m.take k))) = _
        rw [hlen, Nat.mul_one]; rw [Nat.mul_one] at htake; unfold splice
        have e1 : (cur.toList.take off) = (bc out).take off := by rw [← htake, List.take_take, Nat.min_eq_left (by omega)]
        have e2 : (List.drop (off + (bc (m.take k)).length) cur.toList).take (out.length - off - k) = (bc out).drop (off + k) := by
          rw [← htake, hbcl, List.drop_take, show out.length - (off + k) = out.length - off - k from by omega]
        rw [hbcl] at e2
        have l1 : (cur.toList.take off).length = off := by rw [e1, List.length_take]; simp [bc]; omega
        rw [List.take_append, l1, List.take_append, hbcl, List.take_of_length_le (l := cur.toList.take off) (by omega), List.take_of_length_le (l := bc (m.take k)) (by omega), e2, e1]; simp only [bc, List.map_append, List.map_take, List.map_drop, hlc]
    have hpos : 0 < k → ∃ ad, A = some ad ∧ ∀ j v, (bc (m.take k))[j]? = some v → w.cell? (ad.add j) = some v := by
      intro h0; obtain ⟨b, o', hA, hc⟩ := bc_at hm (by omega); refine ⟨_, hA, fun j v hv => ?_⟩; rw [Addr.add_lit]; refine hc j v ?_; have hj := (List.getElem?_eq_some_iff.1 hv).1; rw [bc, List.map_take] at hv; rw [hbcl] at hj; rw [List.getElem?_take_of_lt hj] at hv; exact hv
    have hsz1 : (Tryz.prog.info? 4).map (·.size) = some 1 := by rw [hi]; simp [hsize]
    rcases Nat.eq_zero_or_pos k with h0 | h0
    · have hmin : Nat.min m.length dLen = 0 := by show min m.length dLen = 0; omega
      have e0 : splice out off (m.take k) = out := by rw [h0]; simp [splice]
      have e0' : splice cur.toList off (bc (m.take k)) = cur.toList := by rw [h0]; simp [splice, bc]
      refine wpList_copy_nothing hgd d s _ _ ho _ ety_b.under hsz1 _ _ _ _ _ _ hd hs hmin ?_; have := H w (hfin w (by rw [e0']; simpa using hg)) (World.grownBy.refl _ _); rw [h0] at this; exact this
    · obtain ⟨ad, rfl, hsrc⟩ := hpos h0; rw [hdp h0] at hd; refine wpList_copy_own hgd d s _ _ ho _ ety_b.under hsz1 g off dLen dCap ad m.length c hd hs cur _ hg (bc (m.take k)) (by rw [hbcl]; show k = min m.length dLen; exact hk) hsrc (by omega) (Fl.ones (Fl.b (m.take k) w (fun _ => True)) (by omega)) ?_; have h5 := H (w.setRow g (cur.toList.take off ++ (bc (m.take k) ++ cur.toList.drop (off + (bc (m.take k)).length))).toArray) (hfin _ (setRow_heap w g _ _ _ _ hg)) ⟨rfl, rfl, rfl, by simp, fun i _ hne => setRow_other w g i _ (fun e => hne (by rw [e]))⟩; rw [hbcl] at h5 ⊢; exact h5

def lng (r : List Bool) (q : Nat) : List Bool := (List.range q).map fun j => bth r (j % r.length)
theorem lng_len (r : List Bool) (q : Nat) : (lng r q).length = q := by simp [lng]
theorem lng_step {r : List Bool} {q i : Nat} (hd : r.length ∣ i) (hi : i + r.length ≤ q) : (lng r q).take (i + r.length) = (lng r q).take i ++ r := by
  apply List.ext_getElem
  · simp only [List.length_take, List.length_append, lng_len]; omega
  · intro k h1 h2
    have hk : k < i + r.length := by simp only [List.length_take, lng_len] at h1; omega
    rw [List.getElem_take, List.getElem_append]; simp only [List.length_take, lng_len]
    split
    · rw [List.getElem_take]
    · simp only [lng, List.getElem_map, List.getElem_range]
      have e1 : k % r.length = k - i := by
        obtain ⟨m, rfl⟩ := hd
        have e2 : k = (k - r.length * m) + r.length * m := by omega
        rw [e2, Nat.add_mul_mod_self_left, Nat.mod_eq_of_lt (by omega)]
        omega
      rw [e1, bth_eq r _ (by omega)]
      congr 1
      omega

set_option maxRecDepth 8192 in
set_option maxHeartbeats 1600000 in
theorem long_c {A : Option Addr} {c : Nat} {r : List Bool} {w : World} {X : Nat → Prop} {q : Nat} (h : Rl w X A c r) (h0 : 0 < r.length) (hd : r.length ∣ q) (hq : q ≤ 16777216) :
    Calls Tryz.prog 99 #[.slice A r.length c, .int .i64 (q : Int)] w fun e w' => ∃ g, e = .returned (.slice (some ⟨g, 0, none⟩) q q) ∧ Own 1 EB w' (fun _ => False) w.heap.size 4 (.slice (some ⟨g, 0, none⟩) q q) (lng r q) ∧ Ext w w' := by
  have hr1 := h.1; have hr2 := h.2.1
  simp only [maxLen] at hr2
  have hdv := Lib.hid hd; clear hd
  go_enter Tryz.func99, Tryz.ntmps99
  go_wp2_with (first
    | (at_make
       (refine wpList_makeb (.tmp 7) (.tmp 7) (fun _ => False) w.heap.size q (Nat.le_refl _) (by omega) rfl rfl rfl rfl rfl rfl ?_)
       intro w1 hO1 hx1)
    | fail)
  have hg1 := hO1.adr.2.2.2
  go_loopw [6] (fun iv wr => ∃ i : Nat, i ≤ q ∧ iv = .int .i64 i ∧ Hid (r.length ∣ i) ∧ Own 1 EB wr (fun _ => False) w.heap.size 4 (.slice (some ⟨w.heap.size, 0, none⟩) q q) ((lng r q).take i ++ List.replicate (q - i) false) ∧ Ext w wr) (fun iv _ => q - (intOf iv).toNat)
  case atStart => exact ⟨0, Nat.zero_le _, rfl, Lib.hid (Nat.dvd_zero _), by simpa using hO1, hx1⟩
  case round =>
    obtain ⟨i, hi, rfl, hdi, hO, hx⟩ := hrel; have hsz := hx.size
    by_cases hlt : i < q
    · have il : (i : Int) < (q : Int) := by omega
      have iq : ¬ q = i := by omega
      have iw := w64n (n := i) (by omega)
      have hle : i + r.length ≤ q := by
        obtain ⟨a, ha⟩ := hdi.out; obtain ⟨b, hb⟩ := hdv.out
        have : a < b := by
          rcases Nat.lt_or_ge a b with h | h
          · exact h
          · have := Nat.mul_le_mul_left r.length h
            omega
        have := Nat.mul_le_mul_left r.length (show a + 1 ≤ b from this); rw [Nat.mul_add, Nat.mul_one] at this
        omega
      have hdi' := hdi; have hr' := Sl.keep h (.of_ext hx)
      have hle' := Lib.hid hle; clear hle
      have hln : ((lng r q).take i ++ List.replicate (q - i) false).length = q := by simp [lng_len]; omega
      have hln' := Lib.hid hln; clear hln
      go_upto_region 5 with fail
      iterate 13 go_step
      with_reducible refine wpList_copyb (o := ⟨some 20, _, _, _, _, _⟩) (k := r.length) (off := i) (dp := some ⟨w.heap.size, i, none⟩) (dLen := q - i) (dCap := q - i) (.tmp 18) (.tmp 19) hO hr' (by have := hle'.out; omega) (fun _ => rfl) hle'.out ?_ ?_ ?_ ?_ ?_
      · rfl
      · rfl
      · rfl
      · rfl
      intro w2 hO2 hgb; have hle := hle'.out; have hx3 : Ext w w2 := hx.grown hgb (by intro g hg; injection hg with hg; omega); rw [List.take_length] at hO2
      have e1 : splice ((lng r q).take i ++ List.replicate (q - i) false) i r = (lng r q).take (i + r.length) ++ List.replicate (q - (i + r.length)) false := by
        rw [lng_step hdi.out hle]; unfold splice
        have el : ((lng r q).take i).length = i := by rw [List.length_take, lng_len]; omega
        rw [List.take_append_of_le_length (by omega), List.take_take, Nat.min_self, List.drop_append, el, List.drop_eq_nil_of_le (by omega), List.nil_append, List.drop_replicate, List.append_assoc, show q - i - (i + r.length - i) = q - (i + r.length) from by omega]
      rw [e1] at hO2; have hz := hx3.size; have iw2 : IntKind.i64.wrap ((i : Int) + (r.length : Int)) = (i : Int) + (r.length : Int) := w64 ⟨by omega, by omega⟩
      have hle'' := Lib.hid hle; clear hle e1 hdi
      go_wp2_with fail
      go_roundw
      case rel => exact ⟨i + r.length, hle''.out, by simp, Lib.hid (Nat.dvd_add hdi'.out (Nat.dvd_refl _)), hO2, hx3⟩
      case measure =>
        have := hle''.out; simp only [intOf]
        omega
    · obtain rfl : i = q := by omega
      go_wp2_with fail
      go_ret
      refine ⟨_, rfl, ?_, hx⟩
      have e1 : (lng r i).take i ++ List.replicate (i - i) false = lng r i := by
        rw [List.take_of_length_le (by rw [lng_len]; omega)]; simp
      rw [e1] at hO; exact hO

end Go.Proofs.YtpkfjbljhneenaaGreat
