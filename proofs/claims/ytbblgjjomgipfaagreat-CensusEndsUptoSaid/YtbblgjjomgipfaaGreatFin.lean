/- census.ends, Finite, Least. -/
import Derived.Test.YtbblgjjomgipfaaGreatFin0
import Derived.Test.YtbblgjjomgipfaaGreatNext
import Derived.Test.YtbblgjjomgipfaaGreatCnt
import Derived.Test.YtbblgjjomgipfaaGreatFree
import Derived.BigRegion
import Derived.RegionTactic
import Derived.ChangeAlike
namespace Go.Proofs.YtbblgjjomgipfaaGreat
open Go.RowKit Go.Shelf

theorem fnd_zero {s : Ps} (h0 : s.cuts.length = 0) (x : Z) : fndV s 1 [x] = nxtV s x := by
  have e : s.cuts = [] := List.length_eq_zero_iff.1 h0
  rw [nxtV, nxtS, e]; rfl
theorem fnd_high {s : Ps} {N : Nat} (hs : s.ok N) (_h0 : s.cuts.length ≠ 0) : fndV s 1 [zth s.cuts (s.cuts.length - 1)] = nxtV s (zth s.cuts (s.cuts.length - 1)) := by
  have e : s.cuts.filter (fun c => decide ((zth s.cuts (s.cuts.length - 1)).v < c.v)) = [] := by
    rw [List.filter_eq_nil_iff]
    intro c hc
    obtain ⟨i, hi, rfl⟩ := List.getElem_of_mem hc
    rw [← zth_eq _ _ hi]
    have := ris_le (l := s.cuts) (hs.ris.imp fun h => Int.le_of_lt h) (i := i) (j := s.cuts.length - 1) (by omega) (by omega)
    simp only [decide_eq_true_eq]
    omega
  rw [nxtV, nxtS, e]
theorem fnd_low {s : Ps} {N : Nat} (hs : s.ok N) : fndV s (-1) [cz ((zth s.cuts 0).v + -1)] = lstV s (cz ((zth s.cuts 0).v + -1)) := by
  have e : lstG (cz ((zth s.cuts 0).v + -1)).v s.cuts.reverse = [] := by
    rw [lstG, List.filter_eq_nil_iff]
    intro c hc
    obtain ⟨d, hd, rfl⟩ := List.mem_map.1 hc
    obtain ⟨i, hi, rfl⟩ := List.getElem_of_mem (List.mem_reverse.1 hd)
    rw [← zth_eq _ _ hi]
    have := ris_le (l := s.cuts) (hs.ris.imp fun h => Int.le_of_lt h) (i := 0) (j := i) (by omega) hi
    simp only [decide_eq_true_eq, cz_v]
    omega
  rw [lstV, lstS, e]

set_option maxHeartbeats 1600000 in
theorem ends_c {g N : Nat} {s : Ps} {w : World} {X : Nat → Prop} (hs : SetV w X g s) (hsk : s.ok N) (hN : N ≤ 1099511627770) :
    Calls Tryz.prog 64 #[.pointer (some ⟨g, 0, none⟩)] w fun e w' => e = .returned (.tuple #[.bool (lowV s), .bool (highV s)]) ∧ Ext w w' := by
  have hcl := hsk.len
  have hcu := fun (V : World) (hV : Ext w V) => cuts_c (hs.ext hV) hsk (by omega)
  have hfd := fun (U : World) (hU : Ext w U) (st : Int) (hst : st = 1 ∨ st = -1) (Q : Nat → Prop) (A : Option Addr) (c : Nat) (l : List Z) (hl : Zs U Q A c l) (hz : ∀ a ∈ l, a.mag.length ≤ 1099511627774) => found_c (hs.ext hU) hsk hl hst hz
  by_cases h0 : s.cuts.length = 0
  · have e1 : lowV s = (fndV s 1 [cz 0]).isSome := by rw [lowV, if_pos h0, fnd_zero h0]
    have e2 : highV s = (fndV s 1 [cz 0]).isSome := by rw [highV, if_pos h0, fnd_zero h0]
    rw [e1, e2]
    clear e1 e2
    simp only [h0] at hcu
    have hnum := fun (U : World) => cnum_c 0 (by omega) (by omega) U
    obtain ⟨z0, hz0⟩ : ∃ z, z = cz 0 := ⟨_, rfl⟩
    have hzl : z0.mag.length ≤ 0 := by rw [hz0]; exact Nat.le_refl _
    rw [← hz0] at hnum ⊢
    have hf := fun (U : World) (hU : Ext w U) (Q : Nat → Prop) (A : Option Addr) (c : Nat) (hl : Zs U Q A c [z0]) => hfd U hU 1 (.inl rfl) Q A c [z0] hl (fun a ha => by rw [List.mem_singleton.1 ha]; omega)
    obtain ⟨bf, hbf⟩ : ∃ b, b = (fndV s 1 [z0]).isSome := ⟨_, rfl⟩
    obtain ⟨zf, hzf⟩ : ∃ b, b = cz ((fndV s 1 [z0]).getD 0) := ⟨_, rfl⟩
    rw [← hbf]
    simp only [← hbf, ← hzf] at hf
    have HF := Lib.hid hf
    clear hbf hzf hf hfd hz0 hzl h0 hcl
    go_enter Tryz.func64, Tryz.ntmps64
    go_wp2_with fail
    refine (hcu _ (by repeat (first | with_reducible assumption | with_reducible exact Ext.refl _ | with_reducible refine Ext.drewN ?_ _ | with_reducible refine Ext.drew ?_ | with_reducible refine Ext.alloc ?_ _ | (with_reducible refine Ext.setCell ?_ ?_ _; rotate_left; (first | exact Nat.le_refl _ | (dsimp only; omega) | (simp only [wsz]; omega))) | (with_reducible refine Ext.trans ?_ (by with_reducible assumption))))).mono ?_
    rintro e w1 ⟨A1, c1, rfl, -, hx1⟩
    go_wp2_with fail
    refine (hnum _).mono ?_
    rintro e w2 ⟨_, rfl, ⟨A2, c2, rfl, h2⟩, hx2⟩
    go_wp2_with fail
    refine (HF.out _ (by repeat (first | with_reducible assumption | with_reducible exact Ext.refl _ | with_reducible refine Ext.drewN ?_ _ | with_reducible refine Ext.drew ?_ | with_reducible refine Ext.alloc ?_ _ | (with_reducible refine Ext.setCell ?_ ?_ _; rotate_left; (first | exact Nat.le_refl _ | (dsimp only; omega) | (simp only [wsz]; omega))) | (with_reducible refine Ext.trans ?_ (by with_reducible assumption)))) (fun _ => True) _ _ (Zs.one rfl trivial (h2.widen fun _ _ _ => trivial))).mono ?_
    rintro e w3 ⟨_, rfl, ⟨A3, c3, rfl, h3⟩, hx3⟩
    have hx23 := ((Ext.refl w2).alloc (.cells #[.bool z0.neg, .slice A2 z0.mag.length c2] 25)).trans hx3
    go_wp2_with fail
    (refine bodyPost_ret (v := ?_) ?_ rfl ?_; rotate_left; (simp only [results, Tryz.results64]; go_simp; (first | done | with_reducible rfl)))
    exact ⟨rfl, (by repeat (first | with_reducible assumption | with_reducible exact Ext.refl _ | with_reducible refine Ext.drewN ?_ _ | with_reducible refine Ext.drew ?_ | with_reducible refine Ext.alloc ?_ _ | (with_reducible refine Ext.setCell ?_ ?_ _; rotate_left; (first | exact Nat.le_refl _ | (dsimp only; omega) | (simp only [wsz]; omega))) | (with_reducible refine Ext.trans ?_ (by with_reducible assumption))))⟩
  · have e1 : lowV s = (fndV s (-1) [cz ((zth s.cuts 0).v + -1)]).isSome := by rw [lowV, if_neg h0, fnd_low hsk]
    have e2 : highV s = (fndV s 1 [zth s.cuts (s.cuts.length - 1)]).isSome := by rw [highV, if_neg h0, fnd_high hsk h0]
    rw [e1, e2]
    clear e1 e2
    have hcc := fun (k : Nat) (hk : k < s.cuts.length) => (hsk.cut _ (zth_mem hk)).1
    have h0l := hcc 0 (by omega)
    have h1l := hcc (s.cuts.length - 1) (by omega)
    have e0 : ((s.cuts.length : Int) == 0) = false := by rw [beq_eq_false_iff_ne]; omega
    obtain ⟨zm, hzm⟩ : ∃ z, z = cz ((zth s.cuts 0).v + -1) := ⟨_, rfl⟩
    have hzml : zm.mag.length ≤ N + 2 := by
      rw [hzm, cz_len]
      have hz : zl (zth s.cuts 0).v ≤ N := by rw [← cz_len, (hsk.cut _ (zth_mem (l := s.cuts) (k := 0) (by omega))).2]; exact h0l
      have h1 := zl_add (k := N + 1) (Nat.le_trans hz (by omega)) (show zl (-1) ≤ N + 1 from Nat.le_trans (show zl (-1) ≤ 1 by decide) (by omega))
      omega
    rw [← hzm]
    have hpl := fun (U : World) (v : Value) (Q : Nat → Prop) (h : Zi U Q v (zth s.cuts 0)) => plus_c h (by omega) (-1) (by omega) (by omega)
    simp only [← hzm] at hpl
    have hf1 := fun (U : World) (hU : Ext w U) (Q : Nat → Prop) (A : Option Addr) (c : Nat) (hl : Zs U Q A c [zm]) => hfd U hU (-1) (.inr rfl) Q A c [zm] hl (fun a ha => by rw [List.mem_singleton.1 ha]; omega)
    have hf2 := fun (U : World) (hU : Ext w U) (Q : Nat → Prop) (A : Option Addr) (c : Nat) (hl : Zs U Q A c [zth s.cuts (s.cuts.length - 1)]) => hfd U hU 1 (.inl rfl) Q A c [zth s.cuts (s.cuts.length - 1)] hl (fun a ha => by rw [List.mem_singleton.1 ha]; omega)
    obtain ⟨b1, hb1⟩ : ∃ b, b = (fndV s (-1) [zm]).isSome := ⟨_, rfl⟩
    obtain ⟨b2, hb2⟩ : ∃ b, b = (fndV s 1 [zth s.cuts (s.cuts.length - 1)]).isSome := ⟨_, rfl⟩
    obtain ⟨z1, hz1⟩ : ∃ b, b = cz ((fndV s (-1) [zm]).getD 0) := ⟨_, rfl⟩
    obtain ⟨z2, hz2⟩ : ∃ b, b = cz ((fndV s 1 [zth s.cuts (s.cuts.length - 1)]).getD 0) := ⟨_, rfl⟩
    rw [← hb1, ← hb2]
    simp only [← hb1, ← hz1] at hf1
    simp only [← hb2, ← hz2] at hf2
    obtain ⟨z0, hz0⟩ : ∃ z, z = zth s.cuts 0 := ⟨_, rfl⟩
    simp only [← hz0] at hpl
    have HF1 := Lib.hid hf1; have HF2 := Lib.hid hf2; have HPl := Lib.hid hpl
    have HN0 := Lib.hid h0
    have HZ0 := Lib.hid hz0
    obtain ⟨n, hn⟩ : ∃ n, n = s.cuts.length := ⟨_, rfl⟩
    have HNn := Lib.hid hn
    rw [← hn] at e0 hcl
    simp only [← hn] at hcu
    clear hb1 hb2 hz1 hz2 hf1 hf2 hpl hzm hfd hcc h0l h1l h0 hzml hz0 hn
    go_enter Tryz.func64, Tryz.ntmps64
    go_wp2_with fail
    refine (hcu _ (by repeat (first | with_reducible assumption | with_reducible exact Ext.refl _ | with_reducible refine Ext.drewN ?_ _ | with_reducible refine Ext.drew ?_ | with_reducible refine Ext.alloc ?_ _ | (with_reducible refine Ext.setCell ?_ ?_ _; rotate_left; (first | exact Nat.le_refl _ | (dsimp only; omega) | (simp only [wsz]; omega))) | (with_reducible refine Ext.trans ?_ (by with_reducible assumption))))).mono ?_
    rintro e w1 ⟨A1, c1, rfl, hZ, hx1⟩
    obtain ⟨b, o, B, d, rfl, -, q0, q1, hN2⟩ := Zs.at_ hZ (k := 0) (by have := HN0.out; omega)
    rw [← HZ0.out] at q0 q1 hN2
    have hbw := World.block_lt_of_cell? _ _ q0
    simp only [Nat.zero_mul, Nat.add_zero] at q0 q1
    have nl : (0 : Int) < (n : Int) := by have := HN0.out; have := HNn.out; omega
    go_wp2_with fail
    refine (HPl.out _ _ _ ⟨_, _, rfl, hN2⟩).mono ?_
    rintro e w2 ⟨_, rfl, ⟨A2, c2, rfl, h2⟩, hx2⟩
    have hx12 : Ext w w2 := hx1.trans hx2
    go_wp2_with fail
    refine (HF1.out _ (by repeat (first | with_reducible assumption | with_reducible exact Ext.refl _ | with_reducible refine Ext.drewN ?_ _ | with_reducible refine Ext.drew ?_ | with_reducible refine Ext.alloc ?_ _ | (with_reducible refine Ext.setCell ?_ ?_ _; rotate_left; (first | exact Nat.le_refl _ | (dsimp only; omega) | (simp only [wsz]; omega))) | (with_reducible refine Ext.trans ?_ (by with_reducible assumption)))) (fun _ => True) _ _ (Zs.one rfl trivial (h2.widen fun _ _ _ => trivial))).mono ?_
    rintro e w3 ⟨_, rfl, ⟨A3, c3, rfl, h3⟩, hx3⟩
    have hx23 := ((Ext.refl w2).alloc (.cells #[.bool zm.neg, .slice A2 zm.mag.length c2] 25)).trans hx3
    have hx13 : Ext w1 w3 := hx2.trans hx23
    have hw3 : Ext w w3 := hx1.trans hx13
    have hZ3 := Zs.ext hZ hx13
    have iw := w64n (n := n - 1) (by omega)
    have ei : (n : Int) - 1 = ((n - 1 : Nat) : Int) := by omega
    have hlc : n ≤ c1 := by rw [HNn.out]; exact hZ.1
    have hn1 : n - (n - 1) = 1 := by omega
    have hnc : ¬ n - 1 = c1 := by omega
    have hnd : ¬ c1 = n - 1 := by omega
    have hZd : Zs w3 (w.heap.size ≤ ·) (some ⟨b, o + (n - 1) * 2, none⟩) (c1 - (n - 1)) [zth s.cuts (s.cuts.length - 1)] := by
      have h := Sl.drop hZ3 (k := n - 1)
      rw [HNn.out, drop_zth _ _ (by have := HN0.out; omega), List.drop_eq_nil_of_le (by omega), ← HNn.out] at h
      rw [HNn.out, ← HNn.out]
      exact h
    have HZd := Lib.hid hZd
    clear hZd hZ3 q0 q1
    go_wp2_with fail
    refine (HF2.out _ hw3 _ _ _ HZd.out).mono ?_
    rintro e w4 ⟨_, rfl, ⟨A4, c4, rfl, h4⟩, hx4⟩
    have hw4 := hw3.trans hx4
    go_wp2_with fail
    (refine bodyPost_ret (v := ?_) ?_ rfl ?_; rotate_left; (simp only [results, Tryz.results64]; go_simp; (first | done | with_reducible rfl)))
    exact ⟨rfl, hw4⟩

set_option maxHeartbeats 1600000 in
theorem least_c {g N : Nat} {s : Ps} {w : World} {X : Nat → Prop} (hs : SetV w X g s) (hsk : s.ok N) (hN : N ≤ 1099511627770) :
    Calls Tryz.prog 27 #[.pointer (some ⟨g, 0, none⟩)] w fun e w' => ∃ r, e = .returned (.tuple #[r, .bool (lstE s).isSome]) ∧ Zi w' (w.heap.size ≤ ·) r (cz ((lstE s).getD 0)) ∧ Ext w w' := by
  have hcl := hsk.len
  have hcu := fun (V : World) (hV : Ext w V) => cuts_c (hs.ext hV) hsk (by omega)
  have hen := fun (V : World) (hV : Ext w V) => ends_c (hs.ext hV) hsk hN
  have hz0 : cz 0 = ⟨false, []⟩ := rfl
  by_cases h0 : s.cuts.length = 0 ∨ lowV s = true
  · have e1 : lstE s = none := by
      rw [lstE]
      rcases h0 with h0 | h0 <;> simp [h0]
    rw [e1]
    clear e1
    show Calls _ _ _ _ fun e w' => ∃ r, e = .returned (.tuple #[r, .bool false]) ∧ Zi w' (w.heap.size ≤ ·) r (cz 0) ∧ Ext w w'
    obtain ⟨bh, hbh⟩ : ∃ b, b = highV s := ⟨_, rfl⟩
    simp only [← hbh] at hen
    clear hbh
    rcases hl : lowV s with _ | _
    · have h1 : s.cuts.length = 0 := h0.resolve_right (by rw [hl]; decide)
      simp only [h1] at hcu
      simp only [hl] at hen
      clear h0 h1 hl hcl
      go_enter Tryz.func27, Tryz.ntmps27
      go_wp2_with fail
      refine (hcu _ (by repeat (first | with_reducible assumption | with_reducible exact Ext.refl _ | with_reducible refine Ext.drewN ?_ _ | with_reducible refine Ext.drew ?_ | with_reducible refine Ext.alloc ?_ _ | (with_reducible refine Ext.setCell ?_ ?_ _; rotate_left; (first | exact Nat.le_refl _ | (dsimp only; omega) | (simp only [wsz]; omega))) | (with_reducible refine Ext.trans ?_ (by with_reducible assumption))))).mono ?_
      rintro e w1 ⟨A1, c1, rfl, -, hx1⟩
      have b2 : Box w1 w.heap.size 25 #[.bool false, .slice none 0 0] := (Box.new w 25 #[.bool false, .slice none 0 0]).ext hx1
      have hw1 := ((Ext.refl w).alloc (.cells #[.bool false, .slice none 0 0] 25)).trans hx1
      go_wp2_with fail
      refine (hen _ hw1).mono ?_
      rintro e w2 ⟨rfl, hx2⟩
      have d2 := b2.ext hx2
      have d2r := d2.rules; have d2l := d2.lt
      have hw2 := hw1.trans hx2
      go_wp2_with fail
      have hw3 := hw2
      (refine bodyPost_ret (v := ?_) ?_ rfl ?_; rotate_left; (simp only [results, Tryz.results27]; go_simp; (first | done | with_reducible rfl)))
      exact ⟨_, rfl, ⟨none, 0, rfl, Sl.nil0 _ _ _⟩, (by repeat (first | with_reducible assumption | with_reducible exact Ext.refl _ | with_reducible refine Ext.drewN ?_ _ | with_reducible refine Ext.drew ?_ | with_reducible refine Ext.alloc ?_ _ | (with_reducible refine Ext.setCell ?_ ?_ _; rotate_left; (first | exact Nat.le_refl _ | (dsimp only; omega) | (simp only [wsz]; omega))) | (with_reducible refine Ext.trans ?_ (by with_reducible assumption))))⟩
    · simp only [hl] at hen
      obtain ⟨n, hn⟩ : ∃ n, n = s.cuts.length := ⟨_, rfl⟩
      simp only [← hn] at hcu
      clear h0 hl hcl hn
      go_enter Tryz.func27, Tryz.ntmps27
      go_wp2_with fail
      refine (hcu _ (by repeat (first | with_reducible assumption | with_reducible exact Ext.refl _ | with_reducible refine Ext.drewN ?_ _ | with_reducible refine Ext.drew ?_ | with_reducible refine Ext.alloc ?_ _ | (with_reducible refine Ext.setCell ?_ ?_ _; rotate_left; (first | exact Nat.le_refl _ | (dsimp only; omega) | (simp only [wsz]; omega))) | (with_reducible refine Ext.trans ?_ (by with_reducible assumption))))).mono ?_
      rintro e w1 ⟨A1, c1, rfl, -, hx1⟩
      have b2 : Box w1 w.heap.size 25 #[.bool false, .slice none 0 0] := (Box.new w 25 #[.bool false, .slice none 0 0]).ext hx1
      have hw1 := ((Ext.refl w).alloc (.cells #[.bool false, .slice none 0 0] 25)).trans hx1
      go_wp2_with fail
      refine (hen _ hw1).mono ?_
      rintro e w2 ⟨rfl, hx2⟩
      have d2 := b2.ext hx2
      have d2r := d2.rules; have d2l := d2.lt
      have hw2 := hw1.trans hx2
      go_wp2_with fail
      have hw3 := hw2
      (refine bodyPost_ret (v := ?_) ?_ rfl ?_; rotate_left; (simp only [results, Tryz.results27]; go_simp; (first | done | with_reducible rfl)))
      exact ⟨_, rfl, ⟨none, 0, rfl, Sl.nil0 _ _ _⟩, (by repeat (first | with_reducible assumption | with_reducible exact Ext.refl _ | with_reducible refine Ext.drewN ?_ _ | with_reducible refine Ext.drew ?_ | with_reducible refine Ext.alloc ?_ _ | (with_reducible refine Ext.setCell ?_ ?_ _; rotate_left; (first | exact Nat.le_refl _ | (dsimp only; omega) | (simp only [wsz]; omega))) | (with_reducible refine Ext.trans ?_ (by with_reducible assumption))))⟩
  · have hl : lowV s = false := by
      rcases h : lowV s with _ | _
      · rfl
      · exact absurd (.inr h) h0
    have h1 : s.cuts.length ≠ 0 := fun h => h0 (.inl h)
    rw [lstE, hl, if_neg (by simp [h1])]
    have hz := (hsk.cut _ (zth_mem (l := s.cuts) (k := 0) (by omega))).1
    have hnx := fun (U : World) (hU : Ext w U) (r : Value) (Q : Nat → Prop) (hr : Zi U Q r (zth s.cuts 0)) => next_c (hs.ext hU) hsk (L := N) (Nat.le_refl _) (by omega) hr hz
    obtain ⟨z0, hz0'⟩ : ∃ z, z = zth s.cuts 0 := ⟨_, rfl⟩
    rw [← hz0']
    simp only [← hz0'] at hnx
    have HZ0 := Lib.hid hz0'
    obtain ⟨zr, hzr⟩ : ∃ z, z = cz ((nxtV s z0).getD 0) := ⟨_, rfl⟩
    obtain ⟨br, hbr⟩ : ∃ b, b = (nxtV s z0).isSome := ⟨_, rfl⟩
    rw [← hzr, ← hbr]
    simp only [← hzr, ← hbr] at hnx
    obtain ⟨bh, hbh⟩ : ∃ b, b = highV s := ⟨_, rfl⟩
    simp only [← hbh, hl] at hen
    have e0 : ((s.cuts.length : Int) == 0) = false := by rw [beq_eq_false_iff_ne]; omega
    obtain ⟨n, hn⟩ : ∃ n, n = s.cuts.length := ⟨_, rfl⟩
    have HNn := Lib.hid hn
    simp only [← hn] at hcu
    rw [← hn] at e0 hcl
    have nl : (0 : Int) < (n : Int) := by omega
    have HNx := Lib.hid hnx
    clear h0 h1 hl hbh hzr hbr hz0' hz hn hz0 hnx
    go_enter Tryz.func27, Tryz.ntmps27
    go_wp2_with fail
    refine (hcu _ (by repeat (first | with_reducible assumption | with_reducible exact Ext.refl _ | with_reducible refine Ext.drewN ?_ _ | with_reducible refine Ext.drew ?_ | with_reducible refine Ext.alloc ?_ _ | (with_reducible refine Ext.setCell ?_ ?_ _; rotate_left; (first | exact Nat.le_refl _ | (dsimp only; omega) | (simp only [wsz]; omega))) | (with_reducible refine Ext.trans ?_ (by with_reducible assumption))))).mono ?_
    rintro e w1 ⟨A1, c1, rfl, hZ, hx1⟩
    have b2 : Box w1 w.heap.size 25 #[.bool false, .slice none 0 0] := (Box.new w 25 #[.bool false, .slice none 0 0]).ext hx1
    have hw1 := ((Ext.refl w).alloc (.cells #[.bool false, .slice none 0 0] 25)).trans hx1
    obtain ⟨b, o, B, d, rfl, hX, q0, q1, hN2⟩ := Zs.at_ hZ (k := 0) (by have := HNn.out; omega)
    rw [← HZ0.out] at q0 q1 hN2
    have hbw := World.block_lt_of_cell? _ _ q0
    have hbw : b < w1.heap.size := hbw
    simp only [Nat.zero_mul, Nat.add_zero] at q0 q1
    go_wp2_with fail
    refine (hen _ hw1).mono ?_
    rintro e w2 ⟨rfl, hx2⟩
    have d2 := b2.ext hx2
    have hw2 := hw1.trans hx2
    have p0 := (hx2.cells.1 b _ hbw).trans q0
    have p1 := (hx2.cells.1 b _ hbw).trans q1
    have hN3 := hN2.ext hx2
    clear q0 q1
    go_wp2_with fail
    refine (HNx.out _ (by repeat (first | with_reducible assumption | with_reducible exact Ext.refl _ | with_reducible refine Ext.drewN ?_ _ | with_reducible refine Ext.drew ?_ | with_reducible refine Ext.alloc ?_ _ | (with_reducible refine Ext.setCell ?_ ?_ _; rotate_left; (first | exact Nat.le_refl _ | (dsimp only; omega) | (simp only [wsz]; omega))) | (with_reducible refine Ext.trans ?_ (by with_reducible assumption)))) _ _ ⟨_, _, rfl, hN3⟩).mono ?_
    rintro e w3 ⟨_, rfl, ⟨A3, c3, rfl, h3⟩, hx3⟩
    have f2 := d2.ext hx3
    have f2r := f2.rules; have f2l := f2.lt
    have hw3 := hw2.trans hx3
    have hs12 := hw1.size; have hs2 := hx2.size

    have hlt : w.heap.size < w1.heap.size := b2.lt
    go_wp2_with fail
    (refine bodyPost_ret (v := ?_) ?_ rfl ?_; rotate_left; (simp only [results, Tryz.results27]; go_simp; (first | done | with_reducible rfl)))
    exact ⟨_, rfl, ⟨A3, c3, rfl, ((h3.widen (Y := fun b => w.heap.size < b) fun b hb _ => by have h : w2.heap.size ≤ b := hb; omega).keep (by repeat (first | with_reducible exact Kp.refl _ | with_reducible refine Kp.drewN ?_ _ | with_reducible refine Kp.drew ?_ | with_reducible refine Kp.alloc ?_ _ | (with_reducible refine Kp.setCell ?_ ?_ _; rotate_left; (first | (dsimp only; omega) | (simp only [wsz]; omega))) | (with_reducible exact Kp.of_ext (by with_reducible assumption)) | (with_reducible refine Kp.ext ?_ (by with_reducible assumption))))).widen (fun b hb _ => by have h : w.heap.size < b := hb; omega)⟩, (by repeat (first | with_reducible assumption | with_reducible exact Ext.refl _ | with_reducible refine Ext.drewN ?_ _ | with_reducible refine Ext.drew ?_ | with_reducible refine Ext.alloc ?_ _ | (with_reducible refine Ext.setCell ?_ ?_ _; rotate_left; (first | exact Nat.le_refl _ | (dsimp only; omega) | (simp only [wsz]; omega))) | (with_reducible refine Ext.trans ?_ (by with_reducible assumption))))⟩

/-- A new number and no error. -/
def phiD (b : Nat) (z : Z) : PhiT := ⟨fun v w => ∃ r, v = .tuple #[r, .int .i64 0] ∧ Zi w (b ≤ ·) r z, fun _ _ _ hx ⟨r, h1, h2⟩ => ⟨r, h1, h2.ext hx⟩⟩
set_option maxRecDepth 100000 in
set_option maxHeartbeats 1600000 in
theorem finite_c {g N : Nat} {s : Ps} {w : World} {X : Nat → Prop} (hs : SetV w X g s) (hsk : s.ok N) (hN : N ≤ 274877906940) :
    Calls Tryz.prog 29 #[.pointer (some ⟨g, 0, none⟩)] w fun e w' => ∃ r, e = .returned (.tuple #[r, .bool (finV s).isSome]) ∧ Zi w' (w.heap.size ≤ ·) r (cz ((finV s).getD 0)) ∧ Ext w w' := by
  have hcl := hsk.len
  have hcu := fun (V : World) (hV : Ext w V) => cuts_c (hs.ext hV) hsk (by omega)
  have hen := fun (V : World) (hV : Ext w V) => ends_c (hs.ext hV) hsk (by omega)
  by_cases hlh : (lowV s || highV s) = true
  · have e1 : finV s = none := by rw [finV, if_pos hlh]
    rw [e1]
    clear e1
    show Calls _ _ _ _ fun e w' => ∃ r, e = .returned (.tuple #[r, .bool false]) ∧ Zi w' (w.heap.size ≤ ·) r (cz 0) ∧ Ext w w'
    obtain ⟨n, hn⟩ : ∃ n, n = s.cuts.length := ⟨_, rfl⟩
    simp only [← hn] at hcu
    clear hn hcl
    rcases hl : lowV s with _ | _
    · have hh : highV s = true := by rw [hl] at hlh; simpa using hlh
      simp only [hl, hh] at hen
      clear hl hh hlh
      go_enter Tryz.func29, Tryz.ntmps29
      go_wp2_with fail
      refine (hen _ (by repeat (first | with_reducible assumption | with_reducible exact Ext.refl _ | with_reducible refine Ext.drewN ?_ _ | with_reducible refine Ext.drew ?_ | with_reducible refine Ext.alloc ?_ _ | (with_reducible refine Ext.setCell ?_ ?_ _; rotate_left; (first | exact Nat.le_refl _ | (dsimp only; omega) | (simp only [wsz]; omega))) | (with_reducible refine Ext.trans ?_ (by with_reducible assumption))))).mono ?_
      rintro e w1 ⟨rfl, hx1⟩
      have b2 : Box w1 w.heap.size 25 #[.bool false, .slice none 0 0] := (Box.new w 25 #[.bool false, .slice none 0 0]).ext hx1
      have hw1 := ((Ext.refl w).alloc (.cells #[.bool false, .slice none 0 0] 25)).trans hx1
      have hlt : w.heap.size < w1.heap.size := b2.lt
      go_wp2_with fail
      refine (hcu _ hw1).mono ?_
      rintro e w2 ⟨A1, c1, rfl, hZ, hx2⟩
      have d2 := b2.ext hx2
      have hw2 := hw1.trans hx2
      have hs2 := hx2.size
      have d2r := d2.rules; have d2l := d2.lt
      go_wp2_with fail
      (refine bodyPost_ret (v := ?_) ?_ rfl ?_; rotate_left; (simp only [results, Tryz.results29]; go_simp; (first | done | with_reducible rfl)))
      exact ⟨_, rfl, ⟨none, 0, rfl, Sl.nil0 _ _ _⟩, (by repeat (first | with_reducible assumption | with_reducible exact Ext.refl _ | with_reducible refine Ext.drewN ?_ _ | with_reducible refine Ext.drew ?_ | with_reducible refine Ext.alloc ?_ _ | (with_reducible refine Ext.setCell ?_ ?_ _; rotate_left; (first | exact Nat.le_refl _ | (dsimp only; omega) | (simp only [wsz]; omega))) | (with_reducible refine Ext.trans ?_ (by with_reducible assumption))))⟩
    · simp only [hl] at hen
      obtain ⟨bh, hbh⟩ : ∃ b, b = highV s := ⟨_, rfl⟩
      simp only [← hbh] at hen
      clear hl hbh hlh
      go_enter Tryz.func29, Tryz.ntmps29
      go_wp2_with fail
      refine (hen _ (by repeat (first | with_reducible assumption | with_reducible exact Ext.refl _ | with_reducible refine Ext.drewN ?_ _ | with_reducible refine Ext.drew ?_ | with_reducible refine Ext.alloc ?_ _ | (with_reducible refine Ext.setCell ?_ ?_ _; rotate_left; (first | exact Nat.le_refl _ | (dsimp only; omega) | (simp only [wsz]; omega))) | (with_reducible refine Ext.trans ?_ (by with_reducible assumption))))).mono ?_
      rintro e w1 ⟨rfl, hx1⟩
      have b2 : Box w1 w.heap.size 25 #[.bool false, .slice none 0 0] := (Box.new w 25 #[.bool false, .slice none 0 0]).ext hx1
      have hw1 := ((Ext.refl w).alloc (.cells #[.bool false, .slice none 0 0] 25)).trans hx1
      have hlt : w.heap.size < w1.heap.size := b2.lt
      go_wp2_with fail
      refine (hcu _ hw1).mono ?_
      rintro e w2 ⟨A1, c1, rfl, hZ, hx2⟩
      have d2 := b2.ext hx2
      have hw2 := hw1.trans hx2
      have hs2 := hx2.size
      have d2r := d2.rules; have d2l := d2.lt
      go_wp2_with fail
      (refine bodyPost_ret (v := ?_) ?_ rfl ?_; rotate_left; (simp only [results, Tryz.results29]; go_simp; (first | done | with_reducible rfl)))
      exact ⟨_, rfl, ⟨none, 0, rfl, Sl.nil0 _ _ _⟩, (by repeat (first | with_reducible assumption | with_reducible exact Ext.refl _ | with_reducible refine Ext.drewN ?_ _ | with_reducible refine Ext.drew ?_ | with_reducible refine Ext.alloc ?_ _ | (with_reducible refine Ext.setCell ?_ ?_ _; rotate_left; (first | exact Nat.le_refl _ | (dsimp only; omega) | (simp only [wsz]; omega))) | (with_reducible refine Ext.trans ?_ (by with_reducible assumption))))⟩
  · have hlh' : lowV s = false ∧ highV s = false := by
      simpa using hlh
    simp only [hlh'.1, hlh'.2] at hen
    rw [finV, if_neg hlh]
    clear hlh hlh'
    by_cases h0 : s.cuts.length = 0
    · rw [if_pos h0]
      show Calls _ _ _ _ fun e w' => ∃ r, e = .returned (.tuple #[r, .bool true]) ∧ Zi w' (w.heap.size ≤ ·) r (cz 0) ∧ Ext w w'
      simp only [h0] at hcu
      have hnum := fun (U : World) => cnum_c 0 (by omega) (by omega) U
      obtain ⟨z0, hz0⟩ : ∃ z, z = cz 0 := ⟨_, rfl⟩
      rw [← hz0] at hnum ⊢
      clear h0 hcl hz0
      go_enter Tryz.func29, Tryz.ntmps29
      go_wp2_with fail
      refine (hen _ (by repeat (first | with_reducible assumption | with_reducible exact Ext.refl _ | with_reducible refine Ext.drewN ?_ _ | with_reducible refine Ext.drew ?_ | with_reducible refine Ext.alloc ?_ _ | (with_reducible refine Ext.setCell ?_ ?_ _; rotate_left; (first | exact Nat.le_refl _ | (dsimp only; omega) | (simp only [wsz]; omega))) | (with_reducible refine Ext.trans ?_ (by with_reducible assumption))))).mono ?_
      rintro e w1 ⟨rfl, hx1⟩
      have b2 : Box w1 w.heap.size 25 #[.bool false, .slice none 0 0] := (Box.new w 25 #[.bool false, .slice none 0 0]).ext hx1
      have hw1 := ((Ext.refl w).alloc (.cells #[.bool false, .slice none 0 0] 25)).trans hx1
      have hlt : w.heap.size < w1.heap.size := b2.lt
      go_wp2_with fail
      refine (hcu _ hw1).mono ?_
      rintro e w2 ⟨A1, c1, rfl, hZ, hx2⟩
      have d2 := b2.ext hx2
      have hw2 := hw1.trans hx2
      have hs2 := hx2.size
      go_wp2_with fail
      refine (hnum _).mono ?_
      rintro e w3 ⟨_, rfl, ⟨A3, c3, rfl, h3⟩, hx3⟩
      have f2 := d2.ext hx3
      have f2r := f2.rules; have f2l := f2.lt
      go_wp2_with fail
      (refine bodyPost_ret (v := ?_) ?_ rfl ?_; rotate_left; (simp only [results, Tryz.results29]; go_simp; (first | done | with_reducible rfl)))
      exact ⟨_, rfl, ⟨A3, c3, rfl, ((h3.widen (Y := fun b => w.heap.size < b) fun b hb _ => by have h : w2.heap.size ≤ b := hb; omega).keep (by repeat (first | with_reducible exact Kp.refl _ | with_reducible refine Kp.drewN ?_ _ | with_reducible refine Kp.drew ?_ | with_reducible refine Kp.alloc ?_ _ | (with_reducible refine Kp.setCell ?_ ?_ _; rotate_left; (first | (dsimp only; omega) | (simp only [wsz]; omega))) | (with_reducible exact Kp.of_ext (by with_reducible assumption)) | (with_reducible refine Kp.ext ?_ (by with_reducible assumption))))).widen (fun b hb _ => by have h : w.heap.size < b := hb; omega)⟩, (by repeat (first | with_reducible assumption | with_reducible exact Ext.refl _ | with_reducible refine Ext.drewN ?_ _ | with_reducible refine Ext.drew ?_ | with_reducible refine Ext.alloc ?_ _ | (with_reducible refine Ext.setCell ?_ ?_ _; rotate_left; (first | exact Nat.le_refl _ | (dsimp only; omega) | (simp only [wsz]; omega))) | (with_reducible refine Ext.trans ?_ (by with_reducible assumption))))⟩
    · rw [if_neg h0]
      show Calls _ _ _ _ fun e w' => ∃ r, e = .returned (.tuple #[r, .bool true]) ∧ Zi w' (w.heap.size ≤ ·) r (cz (cntV s (zth s.cuts 0) (zth s.cuts (s.cuts.length - 1)).v)) ∧ Ext w w'
      have hc0 := (hsk.cut _ (zth_mem (l := s.cuts) (k := 0) (by omega))).1
      have hc1 := (hsk.cut _ (zth_mem (l := s.cuts) (k := s.cuts.length - 1) (by omega))).1
      have hct := fun (U : World) (hU : Ext w U) (r1 r2 : Value) (Q1 Q2 : Nat → Prop) (h1 : Zi U Q1 r1 (zth s.cuts 0)) (h2 : Zi U Q2 r2 (zth s.cuts (s.cuts.length - 1))) => count_c (hs.ext hU) hsk (L := N) (Nat.le_refl _) (by omega) h1 h2 hc0 hc1
      obtain ⟨zn, hzn⟩ : ∃ z, z = cz (cntV s (zth s.cuts 0) (zth s.cuts (s.cuts.length - 1)).v) := ⟨_, rfl⟩
      rw [← hzn]
      simp only [← hzn] at hct
      obtain ⟨z0, hz0⟩ : ∃ z, z = zth s.cuts 0 := ⟨_, rfl⟩
      obtain ⟨z1, hz1⟩ : ∃ z, z = zth s.cuts (s.cuts.length - 1) := ⟨_, rfl⟩
      simp only [← hz0, ← hz1] at hct
      have HZ0 := Lib.hid hz0; have HZ1 := Lib.hid hz1; have HCt := Lib.hid hct
      have e0 : ((s.cuts.length : Int) == 0) = false := by rw [beq_eq_false_iff_ne]; omega
      obtain ⟨n, hn⟩ : ∃ n, n = s.cuts.length := ⟨_, rfl⟩
      have HNn := Lib.hid hn
      simp only [← hn] at hcu
      rw [← hn] at e0 hcl
      have nl : (0 : Int) < (n : Int) := by omega
      have iw := w64n (n := n - 1) (by omega)
      have ei : (n : Int) - 1 = ((n - 1 : Nat) : Int) := by omega
      have nl2 : ((n - 1 : Nat) : Int) < (n : Int) := by omega
      clear h0 hz0 hz1 hzn hct hn hc0 hc1
      go_enter Tryz.func29, Tryz.ntmps29
      go_wp2_with fail
      refine (hen _ (by repeat (first | with_reducible assumption | with_reducible exact Ext.refl _ | with_reducible refine Ext.drewN ?_ _ | with_reducible refine Ext.drew ?_ | with_reducible refine Ext.alloc ?_ _ | (with_reducible refine Ext.setCell ?_ ?_ _; rotate_left; (first | exact Nat.le_refl _ | (dsimp only; omega) | (simp only [wsz]; omega))) | (with_reducible refine Ext.trans ?_ (by with_reducible assumption))))).mono ?_
      rintro e w1 ⟨rfl, hx1⟩
      have b2 : Box w1 w.heap.size 25 #[.bool false, .slice none 0 0] := (Box.new w 25 #[.bool false, .slice none 0 0]).ext hx1
      have hw1 := ((Ext.refl w).alloc (.cells #[.bool false, .slice none 0 0] 25)).trans hx1
      have hlt : w.heap.size < w1.heap.size := b2.lt
      go_wp2_with fail
      refine (hcu _ hw1).mono ?_
      rintro e w2 ⟨A1, c1, rfl, hZ, hx2⟩
      have d2 := b2.ext hx2
      have hw2 := hw1.trans hx2
      have hs2 := hx2.size
      obtain ⟨b, o, B, d, rfl, hX, q0, q1, hNa⟩ := Zs.at_ hZ (k := 0) (by have := HNn.out; omega)
      obtain ⟨b', o', B', d', hA', -, q2, q3, hNb⟩ := Zs.at_ hZ (k := s.cuts.length - 1) (by have := HNn.out; omega)
      obtain ⟨rfl, rfl⟩ : b = b' ∧ o = o' := by
        have h9 := Option.some.inj hA'
        exact ⟨congrArg Addr.block h9, congrArg Addr.off h9⟩
      rw [← HZ0.out] at q0 q1 hNa
      rw [← HZ1.out, ← HNn.out] at q2 q3
      rw [← HZ1.out] at hNb
      have hbw := World.block_lt_of_cell? _ _ q0
      have hbw : b < w2.heap.size := hbw
      simp only [Nat.zero_mul, Nat.add_zero] at q0 q1
      clear hA'
      have hn0 : ¬ n = 0 := by omega
      go_upto_region 9 with fail
      refine wp_region_free [(0, 31, []), (1, 32, []), (2, 33, [(1, 32)]), (3, 34, [(2, 33)]), (4, 35, []), (5, 36, []), (6, 37, [(5, 36)]), (7, 38, [(6, 37)]), (8, 39, [(4, 35), (7, 38)]), (9, 40, [(8, 39)]), (10, 41, [(0, 31), (3, 34), (9, 40)]), (11, 30, [(10, 41)]), (12, 42, [(11, 30)]), (13, 43, [(11, 30)]), (14, 7, [])] [15, 16] [31, 32, 33, 34, 35, 36, 37, 38, 39, 40, 41, 30, 42, 43, 7] [14] [13] [phiEq (.pointer (some ⟨g, 0, none⟩)), phiEq (.slice (some ⟨b, o, none⟩) n c1), phiEq (.pointer (some ⟨b, o, none⟩)), phiEq (.agg #[.bool z0.neg, .slice B z0.mag.length d]), phiEq (.slice (some ⟨b, o, none⟩) n c1), phiEq (.slice (some ⟨b, o, none⟩) n c1), phiEq (.int .i64 n), phiEq (.int .i64 ((n - 1 : Nat) : Int)), phiEq (.pointer (some ⟨b, o + (n - 1) * 2, none⟩)), phiEq (.agg #[.bool z1.neg, .slice B' z1.mag.length d']), phiD w2.heap.size zn, phiD w2.heap.size zn, phiZ (w2.heap.size ≤ ·) zn, phiEq (.int .i64 0), phiBox w2.heap.size 25 #[.bool false, .slice none 0 0]] rfl (by kernel_rfl) (by intro _ _ d _ _ h; cases d <;> exact h) (by kernel_rfl) (by kernel_rfl) ?_ ?_
      · (refine ps_eq rfl rfl rfl rfl rfl rfl ?_ ?_; focus (intro f w1 hx hd; have hc' := hx.cells.1; (try simp only [wcd] at hc'); (dsimp only [PhiDeps, phiAt, phiEq, phiZ, phiAny, phiBox] at hd); (simp only [fillA]; (try simp only [Act.put, List.setIfInBounds_toArray, List.set_cons_zero, List.set_cons_succ])); (try simp only [hd]); go_simp; (first | done | with_reducible rfl)))
        (refine ps_eq rfl rfl rfl rfl rfl rfl ?_ ?_; focus (intro f w1 hx hd; have hc' := hx.cells.1; (try simp only [wcd] at hc'); (dsimp only [PhiDeps, phiAt, phiEq, phiZ, phiAny, phiBox] at hd); (simp only [fillA]; (try simp only [Act.put, List.setIfInBounds_toArray, List.set_cons_zero, List.set_cons_succ])); (try simp only [hd]); go_simp; (first | done | with_reducible rfl)))
        (refine ps_eq rfl rfl rfl rfl rfl rfl ?_ ?_; focus (intro f w1 hx hd; have hc' := hx.cells.1; (try simp only [wcd] at hc'); (dsimp only [PhiDeps, phiAt, phiEq, phiZ, phiAny, phiBox] at hd); (simp only [fillA]; (try simp only [Act.put, List.setIfInBounds_toArray, List.set_cons_zero, List.set_cons_succ])); (try simp only [hd]); go_simp; (first | done | with_reducible rfl)))
        (refine ps_eq rfl rfl rfl rfl rfl rfl ?_ ?_; focus (intro f w1 hx hd; have hc' := hx.cells.1; (try simp only [wcd] at hc'); have z0 := (hc' _ o hbw).trans q0; have z1 := (hc' _ (o + 1) hbw).trans q1; clear hc'; (dsimp only [PhiDeps, phiAt, phiEq, phiZ, phiAny, phiBox] at hd); (simp only [fillA]; (try simp only [Act.put, List.setIfInBounds_toArray, List.set_cons_zero, List.set_cons_succ])); (try simp only [hd]); go_simp; (first | done | with_reducible rfl)))
        (refine ps_eq rfl rfl rfl rfl rfl rfl ?_ ?_; focus (intro f w1 hx hd; have hc' := hx.cells.1; (try simp only [wcd] at hc'); (dsimp only [PhiDeps, phiAt, phiEq, phiZ, phiAny, phiBox] at hd); (simp only [fillA]; (try simp only [Act.put, List.setIfInBounds_toArray, List.set_cons_zero, List.set_cons_succ])); (try simp only [hd]); go_simp; (first | done | with_reducible rfl)))
        (refine ps_eq rfl rfl rfl rfl rfl rfl ?_ ?_; focus (intro f w1 hx hd; have hc' := hx.cells.1; (try simp only [wcd] at hc'); (dsimp only [PhiDeps, phiAt, phiEq, phiZ, phiAny, phiBox] at hd); (simp only [fillA]; (try simp only [Act.put, List.setIfInBounds_toArray, List.set_cons_zero, List.set_cons_succ])); (try simp only [hd]); go_simp; (first | done | with_reducible rfl)))
        (refine ps_eq rfl rfl rfl rfl rfl rfl ?_ ?_; focus (intro f w1 hx hd; have hc' := hx.cells.1; (try simp only [wcd] at hc'); (dsimp only [PhiDeps, phiAt, phiEq, phiZ, phiAny, phiBox] at hd); (simp only [fillA]; (try simp only [Act.put, List.setIfInBounds_toArray, List.set_cons_zero, List.set_cons_succ])); (try simp only [hd]); go_simp; (first | done | with_reducible rfl)))
        (refine ps_eq rfl rfl rfl rfl rfl rfl ?_ ?_; focus (intro f w1 hx hd; have hc' := hx.cells.1; (try simp only [wcd] at hc'); (dsimp only [PhiDeps, phiAt, phiEq, phiZ, phiAny, phiBox] at hd); (simp only [fillA]; (try simp only [Act.put, List.setIfInBounds_toArray, List.set_cons_zero, List.set_cons_succ])); (try simp only [hd]); go_simp; (first | done | with_reducible rfl)))
        (refine ps_eq rfl rfl rfl rfl rfl rfl ?_ ?_; focus (intro f w1 hx hd; have hc' := hx.cells.1; (try simp only [wcd] at hc'); (dsimp only [PhiDeps, phiAt, phiEq, phiZ, phiAny, phiBox] at hd); (simp only [fillA]; (try simp only [Act.put, List.setIfInBounds_toArray, List.set_cons_zero, List.set_cons_succ])); (try simp only [hd]); go_simp; (first | done | with_reducible rfl)))
        (refine ps_eq rfl rfl rfl rfl rfl rfl ?_ ?_; focus (intro f w1 hx hd; have hc' := hx.cells.1; (try simp only [wcd] at hc'); have z0 := (hc' _ (o + (n - 1) * 2) hbw).trans q2; have z1 := (hc' _ (o + (n - 1) * 2 + 1) hbw).trans q3; clear hc'; (dsimp only [PhiDeps, phiAt, phiEq, phiZ, phiAny, phiBox] at hd); (simp only [fillA]; (try simp only [Act.put, List.setIfInBounds_toArray, List.set_cons_zero, List.set_cons_succ])); (try simp only [hd]); go_simp; (first | done | with_reducible rfl)))
        (refine ps_loud rfl rfl rfl rfl rfl (fun f w1 hx hd K hK => ?_) ?_)
        · (have hc' := hx.cells.1; (try simp only [wcd] at hc'); (dsimp only [PhiDeps, phiAt, phiEq, phiZ, phiAny, phiBox] at hd); simp only [fillA, Act.put, List.setIfInBounds_toArray, List.set_cons_zero, List.set_cons_succ] at hK; (simp only [fillA]; (try simp only [Act.put, List.setIfInBounds_toArray, List.set_cons_zero, List.set_cons_succ])); (try simp only [hd] at hK ⊢); go_simp)
          refine (HCt.out _ (hw2.trans (by repeat (first | with_reducible assumption | with_reducible exact Ext.refl _ | with_reducible refine Ext.drewN ?_ _ | with_reducible refine Ext.drew ?_ | with_reducible refine Ext.alloc ?_ _ | (with_reducible refine Ext.setCell ?_ ?_ _; rotate_left; (first | exact Nat.le_refl _ | (dsimp only; omega) | (simp only [wsz]; omega))) | (with_reducible refine Ext.trans ?_ (by with_reducible assumption))))) _ _ _ _ ⟨B, d, rfl, hNa.ext (by repeat (first | with_reducible assumption | with_reducible exact Ext.refl _ | with_reducible refine Ext.drewN ?_ _ | with_reducible refine Ext.drew ?_ | with_reducible refine Ext.alloc ?_ _ | (with_reducible refine Ext.setCell ?_ ?_ _; rotate_left; (first | exact Nat.le_refl _ | (dsimp only; omega) | (simp only [wsz]; omega))) | (with_reducible refine Ext.trans ?_ (by with_reducible assumption))))⟩ ⟨B', d', rfl, hNb.ext (by repeat (first | with_reducible assumption | with_reducible exact Ext.refl _ | with_reducible refine Ext.drewN ?_ _ | with_reducible refine Ext.drew ?_ | with_reducible refine Ext.alloc ?_ _ | (with_reducible refine Ext.setCell ?_ ?_ _; rotate_left; (first | exact Nat.le_refl _ | (dsimp only; omega) | (simp only [wsz]; omega))) | (with_reducible refine Ext.trans ?_ (by with_reducible assumption))))⟩).mono ?_
          rintro e w6 ⟨r, rfl, hr, hx6⟩
          have hss := hx.size
          simp only [wsz] at hss
          (refine hK _ _ (by repeat (first | with_reducible assumption | with_reducible exact Ext.refl _ | with_reducible refine Ext.drewN ?_ _ | with_reducible refine Ext.drew ?_ | with_reducible refine Ext.alloc ?_ _ | (with_reducible refine Ext.setCell ?_ ?_ _; rotate_left; (first | exact Nat.le_refl _ | (dsimp only; omega) | (simp only [wsz]; omega))) | (with_reducible refine Ext.trans ?_ (by with_reducible assumption)))) ?_; dsimp only [phiAt, phiEq, phiZ, phiAny, phiBox])
          exact ⟨r, rfl, hr.widen fun q hq _ => Nat.le_trans hss hq⟩
        refine ps_take rfl rfl rfl rfl rfl ?_ ?_
        · intro f w1 hx hd
          (dsimp only [PhiDeps, phiAt, phiEq, phiZ, phiAny, phiBox] at hd)
          obtain ⟨⟨r, e, h1⟩, -⟩ := hd
          refine ⟨_, ?_, r, e, h1⟩
          (simp only [fillA]; (try simp only [Act.put, List.setIfInBounds_toArray, List.set_cons_zero, List.set_cons_succ]))
          go_simp
        refine ps_take rfl rfl rfl rfl rfl ?_ ?_
        · intro f w1 hx hd
          (dsimp only [PhiDeps, phiAt, phiEq, phiZ, phiAny, phiBox] at hd)
          obtain ⟨⟨r, e, h1⟩, -⟩ := hd
          refine ⟨r, ?_, h1⟩
          (simp only [fillA]; (try simp only [Act.put, List.setIfInBounds_toArray, List.set_cons_zero, List.set_cons_succ]))
          simp only [e]
          go_simp
        refine ps_peq rfl rfl rfl rfl rfl ?_ ?_
        · intro f w1 hx hd w'
          (dsimp only [PhiDeps, phiAt, phiEq, phiZ, phiAny, phiBox] at hd)
          obtain ⟨⟨r, e, h1⟩, -⟩ := hd
          (simp only [fillA]; (try simp only [Act.put, List.setIfInBounds_toArray, List.set_cons_zero, List.set_cons_succ]))
          simp only [e]
          go_simp
        (refine ps_alloc rfl rfl rfl rfl rfl ?_ (by repeat (first | exact ab_nil | refine ab_cons rfl ?_)) ?_ ?_; (focus (first | omega | (simp only [wsz]; done) | (simp only [wsz]; omega))); (focus (intro f w1; (simp only [fillA]; (try simp only [Act.put, List.setIfInBounds_toArray, List.set_cons_zero, List.set_cons_succ])); go_simp; try (with_reducible rfl))))
        exact ps_nil
      intro f T hxT hall hne9
      (dsimp only [PhiAll, phiAt, phiEq, phiZ, phiAny, phiBox] at hall)
      obtain ⟨f31, f32, f33, f34, f35, f36, f37, f38, f39, f40, -, -, ⟨A7, a7, f42, n7⟩, f43, ⟨g7, f7, l7, x7⟩, -⟩ := hall
      clear hne9
      (simp only [fillA]; (try simp only [Act.put, List.setIfInBounds_toArray, List.set_cons_zero, List.set_cons_succ]))
      simp only [f31, f32, f33, f34, f35, f36, f37, f38, f39, f40, f42, f43, f7]
      have x7r := x7.rules; have x7l := x7.lt
      have hxT' : Ext w2 T := (Ext.refl w2).drew.trans hxT
      have t2 := d2.ext hxT'
      have hwT := hw2.trans hxT'
      (refine sh_late rfl rfl fun K hK => ?_; go_simp; refine hK _ _ ?_; clear hK K)
      (refine sh_late rfl rfl fun K hK => ?_; go_simp; refine hK _ _ ?_; clear hK K)
      refine sh_end ?_
      refine x_named fun V hV => ?_
      have v7 : Box V g7 25 #[.bool zn.neg, .slice A7 zn.mag.length a7] := by rw [hV]; exact (x7.set_ 0 _).set_ 1 _
      have v2 : Box V w.heap.size 25 #[.bool false, .slice none 0 0] := by rw [hV]; exact (t2.far (by simp only; omega) _).far (by simp only; omega) _
      have hwV : Ext w V := by rw [hV]; exact (hwT.setCell (by simp only; omega) _).setCell (by simp only; omega) _
      have n7V : Nl V (fun b => w2.heap.size ≤ b) A7 a7 zn.mag := by
        rw [hV]
        exact (Nl.keep (n7.off x7 (by simp)) (((Kp.refl T).setCell (fun h => h.2 rfl) _).setCell (fun h => h.2 rfl) _)).widen fun b hb _ => hb.1
      clear hV x7 x7r x7l t2 hxT hxT'
      have v7r := v7.rules; have v7l := v7.lt
      have v2r := v2.rules; have v2l := v2.lt
      have hlt2 : w.heap.size < w2.heap.size := by omega
      go_wp2_with fail
      (refine bodyPost_ret (v := ?_) ?_ rfl ?_; rotate_left; (simp only [results, Tryz.results29]; go_simp; (first | done | with_reducible rfl)))
      exact ⟨_, rfl, ⟨A7, a7, rfl, ((n7V.widen (Y := fun b => w.heap.size < b) fun b hb _ => by have h : w2.heap.size ≤ b := hb; omega).keep (by repeat (first | with_reducible exact Kp.refl _ | with_reducible refine Kp.drewN ?_ _ | with_reducible refine Kp.drew ?_ | with_reducible refine Kp.alloc ?_ _ | (with_reducible refine Kp.setCell ?_ ?_ _; rotate_left; (first | (dsimp only; omega) | (simp only [wsz]; omega))) | (with_reducible exact Kp.of_ext (by with_reducible assumption)) | (with_reducible refine Kp.ext ?_ (by with_reducible assumption))))).widen (fun b hb _ => by have h : w.heap.size < b := hb; omega)⟩, (by repeat (first | with_reducible assumption | with_reducible exact Ext.refl _ | with_reducible refine Ext.drewN ?_ _ | with_reducible refine Ext.drew ?_ | with_reducible refine Ext.alloc ?_ _ | (with_reducible refine Ext.setCell ?_ ?_ _; rotate_left; (first | exact Nat.le_refl _ | (dsimp only; omega) | (simp only [wsz]; omega))) | (with_reducible refine Ext.trans ?_ (by with_reducible assumption))))⟩

end Go.Proofs.YtbblgjjomgipfaaGreat
