/- census.ends, Finite, Least. riddlelaw19.CensusDoes: the lists, and one of them written over. No conditions. -/
import Derived.Test.YtpkfjbljhneenaaGreatGDoesAt
import Derived.Test.YtpkfjbljhneenaaGreatGDoesAk
import Derived.Test.YtpkfjbljhneenaaGreatGDoesAh
import Derived.BigRegion
import Derived.RegionTactic
import Derived.ChangeAlike
import Derived.Test.YtpkfjbljhneenaaGreatGDoesAe
import Derived.Test.YtpkfjbljhneenaaGreatGDoesAn
namespace Go.Proofs.YtpkfjbljhneenaaGreat
open Go.RowKit Go.Shelf

theorem fnd_zero {s : Ps} (h0 : s.cuts.length = 0) (x : Z) : fndV s 1 [x] = nxtV s x := by
 have e : s.cuts = [] := List.length_eq_zero_iff.1 h0
 rw [nxtV, nxtS, e]; rfl
theorem fnd_high {s : Ps} {N : Nat} (hs : s.ok N) (_h0 : s.cuts.length ≠ 0) : fndV s 1 [zth s.cuts (s.cuts.length - 1)] = nxtV s (zth s.cuts (s.cuts.length - 1)) := by
 have e : s.cuts.filter (fun c => decide ((zth s.cuts (s.cuts.length - 1)).v < c.v)) = [] := by
  rw [List.filter_eq_nil_iff]; intro c hc; obtain ⟨i, hi, rfl⟩ := List.getElem_of_mem hc; rw [← zth_eq _ _ hi]; have := ris_le (l := s.cuts) (hs.ris.imp fun h => Int.le_of_lt h) (i := i) (j := s.cuts.length - 1) (by omega) (by omega); simp only [decide_eq_true_eq]
  omega
 rw [nxtV, nxtS, e]
theorem fnd_low {s : Ps} {N : Nat} (hs : s.ok N) : fndV s (-1) [cz ((zth s.cuts 0).v + -1)] = lstV s (cz ((zth s.cuts 0).v + -1)) := by
 have e : lstG (cz ((zth s.cuts 0).v + -1)).v s.cuts.reverse = [] := by
  rw [lstG, List.filter_eq_nil_iff]; intro c hc; obtain ⟨d, hd, rfl⟩ := List.mem_map.1 hc; obtain ⟨i, hi, rfl⟩ := List.getElem_of_mem (List.mem_reverse.1 hd); rw [← zth_eq _ _ hi]; have := ris_le (l := s.cuts) (hs.ris.imp fun h => Int.le_of_lt h) (i := 0) (j := i) (by omega) hi; simp only [decide_eq_true_eq, cz_v]
  omega
 rw [lstV, lstS, e]

set_option maxHeartbeats 1600000 in
theorem ends_c {g N : Nat} {s : Ps} {w : World} {X : Nat → Prop} (hs : SetV w X g s) (hsk : s.ok N) (hN : N ≤ 1099511627770) :
  Calls Tryz.prog 48 #[.pointer (some ⟨g, 0, none⟩)] w fun e w' => e = .returned (.tuple #[.bool (lowV s), .bool (highV s)]) ∧ Ext w w' := by
 have hcl := hsk.len
 have hcu := fun (V : World) (hV : Ext w V) => cuts_c (hs.ext hV) hsk (by omega)
 have hfd := fun (U : World) (hU : Ext w U) (st : Int) (hst : st = 1 ∨ st = -1) (Q : Nat → Prop) (A : Option Addr) (c : Nat) (l : List Z) (hl : Zs U Q A c l) (hz : ∀ a ∈ l, a.mag.length ≤ 1099511627774) => found_c (hs.ext hU) hsk hl hst hz
 by_cases h0 : s.cuts.length = 0
 ·have e1 : lowV s = (fndV s 1 [cz 0]).isSome := by rw [lowV, if_pos h0, fnd_zero h0]
  have e2 : highV s = (fndV s 1 [cz 0]).isSome := by rw [highV, if_pos h0, fnd_zero h0]
  rw [e1, e2]; clear e1 e2; simp only [h0] at hcu
  have hnum := fun (U : World) => cnum_c 0 (by omega) (by omega) U
  obtain ⟨z0, hz0⟩ : ∃ z, z = cz 0 := ⟨_, rfl⟩
  have hzl : z0.mag.length ≤ 0 := by rw [hz0]; exact Nat.le_refl _
  rw [← hz0] at hnum ⊢
  have hf := fun (U : World) (hU : Ext w U) (Q : Nat → Prop) (A : Option Addr) (c : Nat) (hl : Zs U Q A c [z0]) => hfd U hU 1 (.inl rfl) Q A c [z0] hl (fun a ha => by rw [List.mem_singleton.1 ha]; omega)
  obtain ⟨bf, hbf⟩ : ∃ b, b = (fndV s 1 [z0]).isSome := ⟨_, rfl⟩; obtain ⟨zf, hzf⟩ : ∃ b, b = cz ((fndV s 1 [z0]).getD 0) := ⟨_, rfl⟩; rw [← hbf]; simp only [← hbf, ← hzf] at hf; have HF := Lib.hid hf; clear hbf hzf hf hfd hz0 hzl h0 hcl
  go_enter Tryz.func48, Tryz.ntmps48
  go_wp2_with fail
  refine (hcu _ xt).mono ?_; rintro e w1 ⟨A1, c1, rfl, -, hx1⟩
  go_wp2_with fail
  refine (hnum _).mono ?_; rintro e w2 ⟨_, rfl, ⟨A2, c2, rfl, h2⟩, hx2⟩
  go_wp2_with fail
  refine (HF.out _ xt (fun _ => True) _ _ (Zs.one rfl trivial (h2.widen fun _ _ _ => trivial))).mono ?_; rintro e w3 ⟨_, rfl, ⟨A3, c3, rfl, h3⟩, hx3⟩; have hx23 := ((Ext.refl w2).alloc (.cells #[.bool z0.neg, .slice A2 z0.mag.length c2] 25)).trans hx3
  go_wp2_with fail
  (refine bodyPost_ret (v := ?_) ?_ rfl ?_; rotate_left; (simp only [results, Tryz.results48]; go_simp; (first | done | with_reducible rfl)))
  exact ⟨rfl, xt⟩
 ·have e1 : lowV s = (fndV s (-1) [cz ((zth s.cuts 0).v + -1)]).isSome := by rw [lowV, if_neg h0, fnd_low hsk]
  have e2 : highV s = (fndV s 1 [zth s.cuts (s.cuts.length - 1)]).isSome := by rw [highV, if_neg h0, fnd_high hsk h0]
  rw [e1, e2]; clear e1 e2
  have hcc := fun (k : Nat) (hk : k < s.cuts.length) => (hsk.cut _ (zth_mem hk)).1
  have h0l := hcc 0 (by omega); have h1l := hcc (s.cuts.length - 1) (by omega)
  have e0 : ((s.cuts.length : Int) == 0) = false := by rw [beq_eq_false_iff_ne]; omega
  obtain ⟨zm, hzm⟩ : ∃ z, z = cz ((zth s.cuts 0).v + -1) := ⟨_, rfl⟩
  have hzml : zm.mag.length ≤ N + 2 := by
   rw [hzm, cz_len]
   have hz : zl (zth s.cuts 0).v ≤ N := by rw [← cz_len, (hsk.cut _ (zth_mem (l := s.cuts) (k := 0) (by omega))).2]; exact h0l
   have h1 := zl_add (k := N + 1) (Nat.le_trans hz (by omega)) (show zl (-1) ≤ N + 1 from Nat.le_trans (show zl (-1) ≤ 1 by decide) (by omega))
   omega
  rw [← hzm]
  have hpl := fun (U : World) (v : Value) (Q : Nat → Prop) (h : Zi U Q v (zth s.cuts 0)) => plus_c h (by omega) (-1) (by omega) (by omega)
  simp only [← hzm] at hpl
  have hf1 := fun (U : World) (hU : Ext w U) (Q : Nat → Prop) (A : Option Addr) (c : Nat) (hl : Zs U Q A c [zm]) => hfd U hU (-1) (.inr rfl) Q A c [zm] hl (fun a ha => by rw [List.mem_singleton.1 ha]; omega)
  have hf2 := fun (U : World) (hU : Ext w U) (Q : Nat → Prop) (A : Option Addr) (c : Nat) (hl : Zs U Q A c [zth s.cuts (s.cuts.length - 1)]) => hfd U hU 1 (.inl rfl) Q A c [zth s.cuts (s.cuts.length - 1)] hl (fun a ha => by rw [List.mem_singleton.1 ha]; omega)
  obtain ⟨b1, hb1⟩ : ∃ b, b = (fndV s (-1) [zm]).isSome := ⟨_, rfl⟩; obtain ⟨b2, hb2⟩ : ∃ b, b = (fndV s 1 [zth s.cuts (s.cuts.length - 1)]).isSome := ⟨_, rfl⟩; obtain ⟨z1, hz1⟩ : ∃ b, b = cz ((fndV s (-1) [zm]).getD 0) := ⟨_, rfl⟩; obtain ⟨z2, hz2⟩ : ∃ b, b = cz ((fndV s 1 [zth s.cuts (s.cuts.length - 1)]).getD 0) := ⟨_, rfl⟩; rw [← hb1, ← hb2]; simp only [← hb1, ← hz1] at hf1; simp only [← hb2, ← hz2] at hf2; obtain ⟨z0, hz0⟩ : ∃ z, z = zth s.cuts 0 := ⟨_, rfl⟩; simp only [← hz0] at hpl
  have HF1 := Lib.hid hf1; have HF2 := Lib.hid hf2; have HPl := Lib.hid hpl
  have HN0 := Lib.hid h0; have HZ0 := Lib.hid hz0; obtain ⟨n, hn⟩ : ∃ n, n = s.cuts.length := ⟨_, rfl⟩; have HNn := Lib.hid hn; rw [← hn] at e0 hcl; simp only [← hn] at hcu; clear hb1 hb2 hz1 hz2 hf1 hf2 hpl hzm hfd hcc h0l h1l h0 hzml hz0 hn
  go_enter Tryz.func48, Tryz.ntmps48
  go_wp2_with fail
  refine (hcu _ xt).mono ?_; rintro e w1 ⟨A1, c1, rfl, hZ, hx1⟩; obtain ⟨b, o, B, d, rfl, -, q0, q1, hN2⟩ := Zs.at_ hZ (k := 0) (by have := HN0.out; omega); rw [← HZ0.out] at q0 q1 hN2; have hbw := World.block_lt_of_cell? _ _ q0; simp only [Nat.zero_mul, Nat.add_zero] at q0 q1
  have nl : (0 : Int) < (n : Int) := by have := HN0.out; have := HNn.out; omega
  go_wp2_with fail
  refine (HPl.out _ _ _ ⟨_, _, rfl, hN2⟩).mono ?_; rintro e w2 ⟨_, rfl, ⟨A2, c2, rfl, h2⟩, hx2⟩; have hx12 : Ext w w2 := hx1.trans hx2
  go_wp2_with fail
  refine (HF1.out _ xt (fun _ => True) _ _ (Zs.one rfl trivial (h2.widen fun _ _ _ => trivial))).mono ?_; rintro e w3 ⟨_, rfl, ⟨A3, c3, rfl, h3⟩, hx3⟩; have hx23 := ((Ext.refl w2).alloc (.cells #[.bool zm.neg, .slice A2 zm.mag.length c2] 25)).trans hx3; have hx13 : Ext w1 w3 := hx2.trans hx23; have hw3 : Ext w w3 := hx1.trans hx13; have hZ3 := Zs.ext hZ hx13; have iw := w64n (n := n - 1) (by omega)
  have ei : (n : Int) - 1 = ((n - 1 : Nat) : Int) := by omega
  have hlc : n ≤ c1 := by rw [HNn.out]; exact hZ.1
  have hn1 : n - (n - 1) = 1 := by omega
  have hnc : ¬ n - 1 = c1 := by omega
  have hnd : ¬ c1 = n - 1 := by omega
  have hZd : Zs w3 (w.heap.size ≤ ·) (some ⟨b, o + (n - 1) * 2, none⟩) (c1 - (n - 1)) [zth s.cuts (s.cuts.length - 1)] := by
   have h := Sl.drop hZ3 (k := n - 1); rw [HNn.out, drop_zth _ _ (by have := HN0.out; omega), List.drop_eq_nil_of_le (by omega), ← HNn.out] at h; rw [HNn.out, ← HNn.out]; exact h
  have HZd := Lib.hid hZd; clear hZd hZ3 q0 q1
  go_wp2_with fail
  refine (HF2.out _ hw3 _ _ _ HZd.out).mono ?_; rintro e w4 ⟨_, rfl, ⟨A4, c4, rfl, h4⟩, hx4⟩; have hw4 := hw3.trans hx4
  go_wp2_with fail
  (refine bodyPost_ret (v := ?_) ?_ rfl ?_; rotate_left; (simp only [results, Tryz.results48]; go_simp; (first | done | with_reducible rfl)))
  exact ⟨rfl, hw4⟩

set_option maxHeartbeats 1600000 in
theorem least_c {g N : Nat} {s : Ps} {w : World} {X : Nat → Prop} (hs : SetV w X g s) (hsk : s.ok N) (hN : N ≤ 1099511627770) :
  Calls Tryz.prog 17 #[.pointer (some ⟨g, 0, none⟩)] w fun e w' => ∃ r, e = .returned (.tuple #[r, .bool (lstE s).isSome]) ∧ Zi w' (w.heap.size ≤ ·) r (cz ((lstE s).getD 0)) ∧ Ext w w' := by
 have hcl := hsk.len
 have hcu := fun (V : World) (hV : Ext w V) => cuts_c (hs.ext hV) hsk (by omega)
 have hen := fun (V : World) (hV : Ext w V) => ends_c (hs.ext hV) hsk hN
 have hz0 : cz 0 = ⟨false, []⟩ := rfl
 by_cases h0 : s.cuts.length = 0 ∨ lowV s = true
 ·have e1 : lstE s = none := by
   rw [lstE]
   rcases h0 with h0 | h0 <;> simp [h0]
  rw [e1]; clear e1
  show Calls _ _ _ _ fun e w' => ∃ r, e = .returned (.tuple #[r, .bool false]) ∧ Zi w' (w.heap.size ≤ ·) r (cz 0) ∧ Ext w w'
  obtain ⟨bh, hbh⟩ : ∃ b, b = highV s := ⟨_, rfl⟩; simp only [← hbh] at hen; clear hbh
  rcases hl : lowV s with _ | _
  ·have h1 : s.cuts.length = 0 := h0.resolve_right (by rw [hl]; decide); simp only [h1] at hcu; simp only [hl] at hen; clear h0 h1 hl hcl
   go_enter Tryz.func17, Tryz.ntmps17
   go_wp2_with fail
   refine (hcu _ xt).mono ?_; rintro e w1 ⟨A1, c1, rfl, -, hx1⟩; have b2 : Box w1 w.heap.size 25 #[.bool false, .slice none 0 0] := (Box.new w 25 #[.bool false, .slice none 0 0]).ext hx1; have hw1 := ((Ext.refl w).alloc (.cells #[.bool false, .slice none 0 0] 25)).trans hx1
   go_wp2_with fail
   refine (hen _ hw1).mono ?_; rintro e w2 ⟨rfl, hx2⟩; have d2 := b2.ext hx2
   have d2r := d2.rules; have d2l := d2.lt
   have hw2 := hw1.trans hx2
   go_wp2_with fail
   have hw3 := hw2
   (refine bodyPost_ret (v := ?_) ?_ rfl ?_; rotate_left; (simp only [results, Tryz.results17]; go_simp; (first | done | with_reducible rfl)))
   exact ⟨_, rfl, ⟨none, 0, rfl, Sl.nil0 _ _ _⟩, xt⟩
  ·simp only [hl] at hen; obtain ⟨n, hn⟩ : ∃ n, n = s.cuts.length := ⟨_, rfl⟩; simp only [← hn] at hcu; clear h0 hl hcl hn
   go_enter Tryz.func17, Tryz.ntmps17
   go_wp2_with fail
   refine (hcu _ xt).mono ?_; rintro e w1 ⟨A1, c1, rfl, -, hx1⟩; have b2 : Box w1 w.heap.size 25 #[.bool false, .slice none 0 0] := (Box.new w 25 #[.bool false, .slice none 0 0]).ext hx1; have hw1 := ((Ext.refl w).alloc (.cells #[.bool false, .slice none 0 0] 25)).trans hx1
   go_wp2_with fail
   refine (hen _ hw1).mono ?_; rintro e w2 ⟨rfl, hx2⟩; have d2 := b2.ext hx2
   have d2r := d2.rules; have d2l := d2.lt
   have hw2 := hw1.trans hx2
   go_wp2_with fail
   have hw3 := hw2
   (refine bodyPost_ret (v := ?_) ?_ rfl ?_; rotate_left; (simp only [results, Tryz.results17]; go_simp; (first | done | with_reducible rfl)))
   exact ⟨_, rfl, ⟨none, 0, rfl, Sl.nil0 _ _ _⟩, xt⟩
 ·have hl : lowV s = false := by
   rcases h : lowV s with _ | _
   ·rfl
   ·exact absurd (.inr h) h0
  have h1 : s.cuts.length ≠ 0 := fun h => h0 (.inl h)
  rw [lstE, hl, if_neg (by simp [h1])]; have hz := (hsk.cut _ (zth_mem (l := s.cuts) (k := 0) (by omega))).1
  have hnx := fun (U : World) (hU : Ext w U) (r : Value) (Q : Nat → Prop) (hr : Zi U Q r (zth s.cuts 0)) => next_c (hs.ext hU) hsk (L := N) (Nat.le_refl _) (by omega) hr hz
  obtain ⟨z0, hz0'⟩ : ∃ z, z = zth s.cuts 0 := ⟨_, rfl⟩; rw [← hz0']; simp only [← hz0'] at hnx; have HZ0 := Lib.hid hz0'; obtain ⟨zr, hzr⟩ : ∃ z, z = cz ((nxtV s z0).getD 0) := ⟨_, rfl⟩; obtain ⟨br, hbr⟩ : ∃ b, b = (nxtV s z0).isSome := ⟨_, rfl⟩; rw [← hzr, ← hbr]; simp only [← hzr, ← hbr] at hnx; obtain ⟨bh, hbh⟩ : ∃ b, b = highV s := ⟨_, rfl⟩; simp only [← hbh, hl] at hen
  have e0 : ((s.cuts.length : Int) == 0) = false := by rw [beq_eq_false_iff_ne]; omega
  obtain ⟨n, hn⟩ : ∃ n, n = s.cuts.length := ⟨_, rfl⟩; have HNn := Lib.hid hn; simp only [← hn] at hcu; rw [← hn] at e0 hcl
  have nl : (0 : Int) < (n : Int) := by omega
  have HNx := Lib.hid hnx; clear h0 h1 hl hbh hzr hbr hz0' hz hn hz0 hnx
  go_enter Tryz.func17, Tryz.ntmps17
  go_wp2_with fail
  refine (hcu _ xt).mono ?_; rintro e w1 ⟨A1, c1, rfl, hZ, hx1⟩; have b2 : Box w1 w.heap.size 25 #[.bool false, .slice none 0 0] := (Box.new w 25 #[.bool false, .slice none 0 0]).ext hx1; have hw1 := ((Ext.refl w).alloc (.cells #[.bool false, .slice none 0 0] 25)).trans hx1; obtain ⟨b, o, B, d, rfl, hX, q0, q1, hN2⟩ := Zs.at_ hZ (k := 0) (by have := HNn.out; omega); rw [← HZ0.out] at q0 q1 hN2; have hbw := World.block_lt_of_cell? _ _ q0; have hbw : b < w1.heap.size := hbw; simp only [Nat.zero_mul, Nat.add_zero] at q0 q1
  go_wp2_with fail
  refine (hen _ hw1).mono ?_; rintro e w2 ⟨rfl, hx2⟩; have d2 := b2.ext hx2; have hw2 := hw1.trans hx2; have p0 := (hx2.cells.1 b _ hbw).trans q0; have p1 := (hx2.cells.1 b _ hbw).trans q1; have hN3 := hN2.ext hx2; clear q0 q1
  go_wp2_with fail
  refine (HNx.out _ xt _ _ ⟨_, _, rfl, hN3⟩).mono ?_; rintro e w3 ⟨_, rfl, ⟨A3, c3, rfl, h3⟩, hx3⟩; have f2 := d2.ext hx3
  have f2r := f2.rules; have f2l := f2.lt
  have hw3 := hw2.trans hx3
  have hs12 := hw1.size; have hs2 := hx2.size

  have hlt : w.heap.size < w1.heap.size := b2.lt
  go_wp2_with fail
  (refine bodyPost_ret (v := ?_) ?_ rfl ?_; rotate_left; (simp only [results, Tryz.results17]; go_simp; (first | done | with_reducible rfl)))
  exact ⟨_, rfl, ⟨A3, c3, rfl, ((h3.widen (Y := fun b => w.heap.size < b) fun b hb _ => by have h : w2.heap.size ≤ b := hb; omega).keep kpt).widen (fun b hb _ => by have h : w.heap.size < b := hb; omega)⟩, xt⟩

def phiD (b : Nat) (z : Z) : PhiT := ⟨fun v w => ∃ r, v = .tuple #[r, .int .i64 0] ∧ Zi w (b ≤ ·) r z, fun _ _ _ hx ⟨r, h1, h2⟩ => ⟨r, h1, h2.ext hx⟩⟩
set_option maxRecDepth 100000 in
set_option maxHeartbeats 1600000 in
theorem finite_c {g N : Nat} {s : Ps} {w : World} {X : Nat → Prop} (hs : SetV w X g s) (hsk : s.ok N) (hN : N ≤ 274877906940) :
  Calls Tryz.prog 19 #[.pointer (some ⟨g, 0, none⟩)] w fun e w' => ∃ r, e = .returned (.tuple #[r, .bool (finV s).isSome]) ∧ Zi w' (w.heap.size ≤ ·) r (cz ((finV s).getD 0)) ∧ Ext w w' := by
 have hcl := hsk.len
 have hcu := fun (V : World) (hV : Ext w V) => cuts_c (hs.ext hV) hsk (by omega)
 have hen := fun (V : World) (hV : Ext w V) => ends_c (hs.ext hV) hsk (by omega)
 by_cases hlh : (lowV s || highV s) = true
 ·have e1 : finV s = none := by rw [finV, if_pos hlh]
  rw [e1]; clear e1
  show Calls _ _ _ _ fun e w' => ∃ r, e = .returned (.tuple #[r, .bool false]) ∧ Zi w' (w.heap.size ≤ ·) r (cz 0) ∧ Ext w w'
  obtain ⟨n, hn⟩ : ∃ n, n = s.cuts.length := ⟨_, rfl⟩; simp only [← hn] at hcu; clear hn hcl
  rcases hl : lowV s with _ | _
  ·have hh : highV s = true := by rw [hl] at hlh; simpa using hlh
   simp only [hl, hh] at hen; clear hl hh hlh
   go_enter Tryz.func19, Tryz.ntmps19
   go_wp2_with fail
   refine (hen _ xt).mono ?_; rintro e w1 ⟨rfl, hx1⟩; have b2 : Box w1 w.heap.size 25 #[.bool false, .slice none 0 0] := (Box.new w 25 #[.bool false, .slice none 0 0]).ext hx1; have hw1 := ((Ext.refl w).alloc (.cells #[.bool false, .slice none 0 0] 25)).trans hx1; have hlt : w.heap.size < w1.heap.size := b2.lt
   go_wp2_with fail
   refine (hcu _ hw1).mono ?_; rintro e w2 ⟨A1, c1, rfl, hZ, hx2⟩; have d2 := b2.ext hx2; have hw2 := hw1.trans hx2; have hs2 := hx2.size
   have d2r := d2.rules; have d2l := d2.lt
   go_wp2_with fail
   (refine bodyPost_ret (v := ?_) ?_ rfl ?_; rotate_left; (simp only [results, Tryz.results19]; go_simp; (first | done | with_reducible rfl)))
   exact ⟨_, rfl, ⟨none, 0, rfl, Sl.nil0 _ _ _⟩, xt⟩
  ·simp only [hl] at hen; obtain ⟨bh, hbh⟩ : ∃ b, b = highV s := ⟨_, rfl⟩; simp only [← hbh] at hen; clear hl hbh hlh
   go_enter Tryz.func19, Tryz.ntmps19
   go_wp2_with fail
   refine (hen _ xt).mono ?_; rintro e w1 ⟨rfl, hx1⟩; have b2 : Box w1 w.heap.size 25 #[.bool false, .slice none 0 0] := (Box.new w 25 #[.bool false, .slice none 0 0]).ext hx1; have hw1 := ((Ext.refl w).alloc (.cells #[.bool false, .slice none 0 0] 25)).trans hx1; have hlt : w.heap.size < w1.heap.size := b2.lt
   go_wp2_with fail
   refine (hcu _ hw1).mono ?_; rintro e w2 ⟨A1, c1, rfl, hZ, hx2⟩; have d2 := b2.ext hx2; have hw2 := hw1.trans hx2; have hs2 := hx2.size
   have d2r := d2.rules; have d2l := d2.lt
   go_wp2_with fail
   (refine bodyPost_ret (v := ?_) ?_ rfl ?_; rotate_left; (simp only [results, Tryz.results19]; go_simp; (first | done | with_reducible rfl)))
   exact ⟨_, rfl, ⟨none, 0, rfl, Sl.nil0 _ _ _⟩, xt⟩
 ·have hlh' : lowV s = false ∧ highV s = false := by
   simpa using hlh
  simp only [hlh'.1, hlh'.2] at hen; rw [finV, if_neg hlh]; clear hlh hlh'
  by_cases h0 : s.cuts.length = 0
  ·rw [if_pos h0]
   show Calls _ _ _ _ fun e w' => ∃ r, e = .returned (.tuple #[r, .bool true]) ∧ Zi w' (w.heap.size ≤ ·) r (cz 0) ∧ Ext w w'
   simp only [h0] at hcu
   have hnum := fun (U : World) => cnum_c 0 (by omega) (by omega) U
   obtain ⟨z0, hz0⟩ : ∃ z, z = cz 0 := ⟨_, rfl⟩; rw [← hz0] at hnum ⊢; clear h0 hcl hz0
   go_enter Tryz.func19, Tryz.ntmps19
   go_wp2_with fail
   refine (hen _ xt).mono ?_; rintro e w1 ⟨rfl, hx1⟩; have b2 : Box w1 w.heap.size 25 #[.bool false, .slice none 0 0] := (Box.new w 25 #[.bool false, .slice none 0 0]).ext hx1; have hw1 := ((Ext.refl w).alloc (.cells #[.bool false, .slice none 0 0] 25)).trans hx1; have hlt : w.heap.size < w1.heap.size := b2.lt
   go_wp2_with fail
   refine (hcu _ hw1).mono ?_; rintro e w2 ⟨A1, c1, rfl, hZ, hx2⟩; have d2 := b2.ext hx2; have hw2 := hw1.trans hx2; have hs2 := hx2.size
   go_wp2_with fail
   refine (hnum _).mono ?_; rintro e w3 ⟨_, rfl, ⟨A3, c3, rfl, h3⟩, hx3⟩; have f2 := d2.ext hx3
   have f2r := f2.rules; have f2l := f2.lt
   go_wp2_with fail
   (refine bodyPost_ret (v := ?_) ?_ rfl ?_; rotate_left; (simp only [results, Tryz.results19]; go_simp; (first | done | with_reducible rfl)))
   exact ⟨_, rfl, ⟨A3, c3, rfl, ((h3.widen (Y := fun b => w.heap.size < b) fun b hb _ => by have h : w2.heap.size ≤ b := hb; omega).keep kpt).widen (fun b hb _ => by have h : w.heap.size < b := hb; omega)⟩, xt⟩
  ·rw [if_neg h0]
   show Calls _ _ _ _ fun e w' => ∃ r, e = .returned (.tuple #[r, .bool true]) ∧ Zi w' (w.heap.size ≤ ·) r (cz (cntV s (zth s.cuts 0) (zth s.cuts (s.cuts.length - 1)).v)) ∧ Ext w w'
   have hc0 := (hsk.cut _ (zth_mem (l := s.cuts) (k := 0) (by omega))).1; have hc1 := (hsk.cut _ (zth_mem (l := s.cuts) (k := s.cuts.length - 1) (by omega))).1
   have hct := fun (U : World) (hU : Ext w U) (r1 r2 : Value) (Q1 Q2 : Nat → Prop) (h1 : Zi U Q1 r1 (zth s.cuts 0)) (h2 : Zi U Q2 r2 (zth s.cuts (s.cuts.length - 1))) => count_c (hs.ext hU) hsk (L := N) (Nat.le_refl _) (by omega) h1 h2 hc0 hc1
   obtain ⟨zn, hzn⟩ : ∃ z, z = cz (cntV s (zth s.cuts 0) (zth s.cuts (s.cuts.length - 1)).v) := ⟨_, rfl⟩; rw [← hzn]; simp only [← hzn] at hct; obtain ⟨z0, hz0⟩ : ∃ z, z = zth s.cuts 0 := ⟨_, rfl⟩; obtain ⟨z1, hz1⟩ : ∃ z, z = zth s.cuts (s.cuts.length - 1) := ⟨_, rfl⟩; simp only [← hz0, ← hz1] at hct
   have HZ0 := Lib.hid hz0; have HZ1 := Lib.hid hz1; have HCt := Lib.hid hct
   have e0 : ((s.cuts.length : Int) == 0) = false := by rw [beq_eq_false_iff_ne]; omega
   obtain ⟨n, hn⟩ : ∃ n, n = s.cuts.length := ⟨_, rfl⟩; have HNn := Lib.hid hn; simp only [← hn] at hcu; rw [← hn] at e0 hcl
   have nl : (0 : Int) < (n : Int) := by omega
   have iw := w64n (n := n - 1) (by omega)
   have ei : (n : Int) - 1 = ((n - 1 : Nat) : Int) := by omega
   have nl2 : ((n - 1 : Nat) : Int) < (n : Int) := by omega
   clear h0 hz0 hz1 hzn hct hn hc0 hc1
   go_enter Tryz.func19, Tryz.ntmps19
   go_wp2_with fail
   refine (hen _ xt).mono ?_; rintro e w1 ⟨rfl, hx1⟩; have b2 : Box w1 w.heap.size 25 #[.bool false, .slice none 0 0] := (Box.new w 25 #[.bool false, .slice none 0 0]).ext hx1; have hw1 := ((Ext.refl w).alloc (.cells #[.bool false, .slice none 0 0] 25)).trans hx1; have hlt : w.heap.size < w1.heap.size := b2.lt
   go_wp2_with fail
   refine (hcu _ hw1).mono ?_; rintro e w2 ⟨A1, c1, rfl, hZ, hx2⟩; have d2 := b2.ext hx2; have hw2 := hw1.trans hx2; have hs2 := hx2.size; obtain ⟨b, o, B, d, rfl, hX, q0, q1, hNa⟩ := Zs.at_ hZ (k := 0) (by have := HNn.out; omega); obtain ⟨b', o', B', d', hA', -, q2, q3, hNb⟩ := Zs.at_ hZ (k := s.cuts.length - 1) (by have := HNn.out; omega)
   obtain ⟨rfl, rfl⟩ : b = b' ∧ o = o' := by
    have h9 := Option.some.inj hA'; exact ⟨congrArg Addr.block h9, congrArg Addr.off h9⟩
   rw [← HZ0.out] at q0 q1 hNa; rw [← HZ1.out, ← HNn.out] at q2 q3; rw [← HZ1.out] at hNb; have hbw := World.block_lt_of_cell? _ _ q0; have hbw : b < w2.heap.size := hbw; simp only [Nat.zero_mul, Nat.add_zero] at q0 q1; clear hA'
   have hn0 : ¬ n = 0 := by omega
   go_upto_region 9 with fail
   refine wp_region_free [(0, 31, []), (1, 32, []), (2, 33, [(1, 32)]), (3, 34, [(2, 33)]), (4, 35, []), (5, 36, []), (6, 37, [(5, 36)]), (7, 38, [(6, 37)]), (8, 39, [(4, 35), (7, 38)]), (9, 40, [(8, 39)]), (10, 41, [(0, 31), (3, 34), (9, 40)]), (11, 30, [(10, 41)]), (12, 42, [(11, 30)]), (13, 43, [(11, 30)]), (14, 7, [])] [15, 16] [31, 32, 33, 34, 35, 36, 37, 38, 39, 40, 41, 30, 42, 43, 7] [14] [13] [phiEq (.pointer (some ⟨g, 0, none⟩)), phiEq (.slice (some ⟨b, o, none⟩) n c1), phiEq (.pointer (some ⟨b, o, none⟩)), phiEq (.agg #[.bool z0.neg, .slice B z0.mag.length d]), phiEq (.slice (some ⟨b, o, none⟩) n c1), phiEq (.slice (some ⟨b, o, none⟩) n c1), phiEq (.int .i64 n), phiEq (.int .i64 ((n - 1 : Nat) : Int)), phiEq (.pointer (some ⟨b, o + (n - 1) * 2, none⟩)), phiEq (.agg #[.bool z1.neg, .slice B' z1.mag.length d']), phiD w2.heap.size zn, phiD w2.heap.size zn, phiZ (w2.heap.size ≤ ·) zn, phiEq (.int .i64 0), phiBox w2.heap.size 25 #[.bool false, .slice none 0 0]] rfl (by kernel_rfl) (by intro _ _ d _ _ h; cases d <;> exact h) (by kernel_rfl) (by kernel_rfl) ?_ ?_
   ·(refine ps_eq rfl rfl rfl rfl rfl rfl ?_ ?_; focus exact tk0)
    (refine ps_eq rfl rfl rfl rfl rfl rfl ?_ ?_; focus exact tk0)
    (refine ps_eq rfl rfl rfl rfl rfl rfl ?_ ?_; focus exact tk0)
    (refine ps_eq rfl rfl rfl rfl rfl rfl ?_ ?_; focus (intro f w1 hx hd; have hc' := hx.cells.1; (try simp only [wcd] at hc'); have z0 := (hc' _ o hbw).trans q0; have z1 := (hc' _ (o + 1) hbw).trans q1; clear hc'; (dsimp only [PhiDeps, phiAt, phiEq, phiZ, phiAny, phiBox] at hd); (simp only [fillA]; (try simp only [pt])); (try simp only [hd]); go_simp; (first | done | with_reducible rfl)))
    (refine ps_eq rfl rfl rfl rfl rfl rfl ?_ ?_; focus exact tk0)
    (refine ps_eq rfl rfl rfl rfl rfl rfl ?_ ?_; focus exact tk0)
    (refine ps_eq rfl rfl rfl rfl rfl rfl ?_ ?_; focus exact tk0)
    (refine ps_eq rfl rfl rfl rfl rfl rfl ?_ ?_; focus exact tk0)
    (refine ps_eq rfl rfl rfl rfl rfl rfl ?_ ?_; focus exact tk0)
    (refine ps_eq rfl rfl rfl rfl rfl rfl ?_ ?_; focus (intro f w1 hx hd; have hc' := hx.cells.1; (try simp only [wcd] at hc'); have z0 := (hc' _ (o + (n - 1) * 2) hbw).trans q2; have z1 := (hc' _ (o + (n - 1) * 2 + 1) hbw).trans q3; clear hc'; (dsimp only [PhiDeps, phiAt, phiEq, phiZ, phiAny, phiBox] at hd); (simp only [fillA]; (try simp only [pt])); (try simp only [hd]); go_simp; (first | done | with_reducible rfl)))
    (refine ps_loud rfl rfl rfl rfl rfl (fun f w1 hx hd K hK => ?_) ?_)
    ·(have hc' := hx.cells.1; (try simp only [wcd] at hc'); (dsimp only [PhiDeps, phiAt, phiEq, phiZ, phiAny, phiBox] at hd); simp only [fillA, Act.put, List.setIfInBounds_toArray, List.set_cons_zero, List.set_cons_succ] at hK; (simp only [fillA]; (try simp only [pt])); (try simp only [hd] at hK ⊢); go_simp)
     refine (HCt.out _ (hw2.trans xt) _ _ _ _ ⟨B, d, rfl, hNa.ext xt⟩ ⟨B', d', rfl, hNb.ext xt⟩).mono ?_; rintro e w6 ⟨r, rfl, hr, hx6⟩; have hss := hx.size; simp only [wsz] at hss
     (refine hK _ _ xt ?_; dsimp only [phiAt, phiEq, phiZ, phiAny, phiBox])
     exact ⟨r, rfl, hr.widen fun q hq _ => Nat.le_trans hss hq⟩
    refine ps_take rfl rfl rfl rfl rfl ?_ ?_
    ·intro f w1 hx hd
     (dsimp only [PhiDeps, phiAt, phiEq, phiZ, phiAny, phiBox] at hd)
     obtain ⟨⟨r, e, h1⟩, -⟩ := hd; refine ⟨_, ?_, r, e, h1⟩
     (simp only [fillA]; (try simp only [pt]))
     go_simp
    refine ps_take rfl rfl rfl rfl rfl ?_ ?_
    ·intro f w1 hx hd
     (dsimp only [PhiDeps, phiAt, phiEq, phiZ, phiAny, phiBox] at hd)
     obtain ⟨⟨r, e, h1⟩, -⟩ := hd; refine ⟨r, ?_, h1⟩
     (simp only [fillA]; (try simp only [pt]))
     simp only [e]
     go_simp
    refine ps_peq rfl rfl rfl rfl rfl ?_ ?_
    ·intro f w1 hx hd w'
     (dsimp only [PhiDeps, phiAt, phiEq, phiZ, phiAny, phiBox] at hd)
     obtain ⟨⟨r, e, h1⟩, -⟩ := hd
     (simp only [fillA]; (try simp only [pt]))
     simp only [e]
     go_simp
    (refine ps_alloc rfl rfl rfl rfl rfl ?_ (by repeat (first | exact ab_nil | refine ab_cons rfl ?_)) ?_ ?_; (focus (first | omega | (simp only [wsz]; done) | (simp only [wsz]; omega))); (focus (intro f w1; (simp only [fillA]; (try simp only [pt])); go_simp; try (with_reducible rfl))))
    exact ps_nil
   intro f T hxT hall hne9
   (dsimp only [PhiAll, phiAt, phiEq, phiZ, phiAny, phiBox] at hall)
   obtain ⟨f31, f32, f33, f34, f35, f36, f37, f38, f39, f40, -, -, ⟨A7, a7, f42, n7⟩, f43, ⟨g7, f7, l7, x7⟩, -⟩ := hall; clear hne9
   (simp only [fillA]; (try simp only [pt]))
   simp only [f31, f32, f33, f34, f35, f36, f37, f38, f39, f40, f42, f43, f7]
   have x7r := x7.rules; have x7l := x7.lt
   have hxT' : Ext w2 T := (Ext.refl w2).drew.trans hxT; have t2 := d2.ext hxT'; have hwT := hw2.trans hxT'
   (refine sh_late rfl rfl fun K hK => ?_; go_simp; refine hK _ _ ?_; clear hK K)
   (refine sh_late rfl rfl fun K hK => ?_; go_simp; refine hK _ _ ?_; clear hK K)
   refine sh_end ?_
   refine x_named fun V hV => ?_
   have v7 : Box V g7 25 #[.bool zn.neg, .slice A7 zn.mag.length a7] := by rw [hV]; exact (x7.set_ 0 _).set_ 1 _
   have v2 : Box V w.heap.size 25 #[.bool false, .slice none 0 0] := by rw [hV]; exact (t2.far (by simp only; omega) _).far (by simp only; omega) _
   have hwV : Ext w V := by rw [hV]; exact (hwT.setCell (by simp only; omega) _).setCell (by simp only; omega) _
   have n7V : Nl V (fun b => w2.heap.size ≤ b) A7 a7 zn.mag := by
    rw [hV]
    exact (Nl.keep (n7.off x7 (by simp)) (((Kp.refl T).setCell (fun h => h.2 rfl) _).setCell (fun h => h.2 rfl) _)).widen fun b hb _ => hb.1
   clear hV x7 x7r x7l t2 hxT hxT'
   have v7r := v7.rules; have v7l := v7.lt
   have v2r := v2.rules; have v2l := v2.lt
   have hlt2 : w.heap.size < w2.heap.size := by omega
   go_wp2_with fail
   (refine bodyPost_ret (v := ?_) ?_ rfl ?_; rotate_left; (simp only [results, Tryz.results19]; go_simp; (first | done | with_reducible rfl)))
   exact ⟨_, rfl, ⟨A7, a7, rfl, ((n7V.widen (Y := fun b => w.heap.size < b) fun b hb _ => by have h : w2.heap.size ≤ b := hb; omega).keep kpt).widen (fun b hb _ => by have h : w.heap.size < b := hb; omega)⟩, xt⟩

end Go.Proofs.YtpkfjbljhneenaaGreat

namespace Go.Proofs.YtpkfjbljhneenaaGreat
open Go.RowKit Go.Shelf

def seqL : Code → Code
 | .seq x _ => x
 | c => c
def seqR : Code → Code
 | .seq _ y => y
 | c => c
noncomputable def cM : Code := seqR (seqR (seqR (seqR (seqR (seqR (seqR (seqR (seqR (Tryz.f3.body.getD .skip)))))))))
noncomputable def cE : Code := seqR (seqR (seqR (seqR (seqR (seqR cM)))))

theorem Ov.extd {B H g i : Nat} {w wr w' : World} (h : Ov B H g i w wr) (hx : Ext wr w') (hH : H ≤ w.heap.size) (hB : B ≤ w.heap.size) (hg : g < w.heap.size) : Ov B H g i w w' := by
 have hs := h.size; have hs2 := hx.size; refine ⟨Below.trans h.bl (Below.mono hx (by omega)), h.kp.ext hx, fun b o h1 h2 h3 => ?_, fun j hj => ?_, fun j => ?_, by omega⟩
 ·obtain ⟨⟨y, k1⟩, k2⟩ := h.ku b o h1 h2 h3; exact ⟨⟨y, (hx.cells.1 b _ (by omega)).trans k1⟩, (hx.cells.2 b _ (by omega)).trans k2⟩
 ·exact (hx.cells.1 g _ (by omega)).trans (h.row j hj)
 ·exact (hx.cells.2 g _ (by omega)).trans (h.frz j)
theorem ov_ext {w0 w w' : World} {B : Nat} (h0 : Ext w0 w) (h1 : Below B w w') (hB : w0.heap.size ≤ B) : Ext w0 w' :=
 ⟨h1.os.trans h0.os, h1.tape.trans h0.tape, h1.output.trans h0.output, Nat.le_trans h0.size h1.size, fun b hb => (h1.block b (Nat.lt_of_lt_of_le hb hB)).trans (h0.block b hb)⟩
theorem zroom {w : World} {B : Nat} {T : TypeId} {A : Option Addr} {n c : Nat} {la : List Z} (h : Own 2 EZ w (B ≤ ·) B T (.slice A n c) la) (h0 : 0 < la.length) : ∃ g, A = some ⟨g, 0, none⟩ ∧ B ≤ g ∧ g < w.heap.size ∧
  ∀ i, i < la.length → ∃ D d, w.cell? ⟨g, i * 2, none⟩ = some (.bool (zth la i).neg) ∧ w.cell? ⟨g, i * 2 + 1, none⟩ = some (.slice D (zth la i).mag.length d) ∧ Lm w B w.heap.size g D (zth la i).mag.length := by
 obtain ⟨A', c', e, hs⟩ := Own.sl h (by omega) (X := fun _ => True) (fun _ _ => trivial); obtain ⟨b, o, hA, -, -⟩ := hs.2.2.1 h0
 injection e with e1 e2 e3
 rw [hA] at e1; subst e1; obtain ⟨rfl, -, h1, h2⟩ := Own.adr h; refine ⟨b, rfl, h1, h2, fun i hi => ?_⟩; obtain ⟨D, d, q0, q1, q2⟩ := zown_at h hi; exact ⟨D, d, q0, q1, Lm.of_nl (q2.widen fun b hb hl => ⟨⟨hb.1, hl⟩, hb.2⟩)⟩
theorem vlen3 {vs : Array Value} (h : vs.size = 3) : ∃ a b c, vs = #[a, b, c] := by
 obtain ⟨l, rfl⟩ : ∃ l : List Value, vs = l.toArray := ⟨vs.toList, by simp⟩
 match l, h with
 | [a, b, c], _ => exact ⟨a, b, c, rfl⟩
set_option maxRecDepth 100000 in
set_option maxHeartbeats 6400000 in
theorem does_mid {x : Nat → Value} {w : World} {g g6 g7 g11 T6 T7 T11 : Nat} {lo hi : Z} {A6 A7 : Option Addr} {c6 c7 : Nat} {vs : Array Value} {la : List Z} {e0 : Int} (hvs : vs.size = 3)
  (b6 : Box w g6 T6 #[.bool lo.neg, .slice A6 lo.mag.length c6]) (b7 : Box w g7 T7 #[.bool hi.neg, .slice A7 hi.mag.length c7]) (b11 : Box w g11 T11 vs) (hla : la.length ≤ 1000)
  (HL : ∀ U, Ext w U → Calls Tryz.prog 11 #[.pointer (some ⟨g, 0, none⟩), .agg #[.bool lo.neg, .slice A6 lo.mag.length c6], .agg #[.bool hi.neg, .slice A7 hi.mag.length c7]] U fun e w' => ∃ r, e = .returned (.tuple #[r, .int .i64 e0]) ∧ Own 2 EZ w' (U.heap.size ≤ ·) U.heap.size 25 r la ∧ Ext U w')
  (HR : ∀ U, Ext w U → Calls Tryz.prog 12 #[.agg vs, .agg #[.bool lo.neg, .slice A6 lo.mag.length c6], .agg #[.bool hi.neg, .slice A7 hi.mag.length c7]] U fun e w' => ∃ C cc, e = .returned (.tuple #[.slice C la.length cc, .int .i64 e0]) ∧ Zs w' (U.heap.size ≤ ·) C cc la ∧ Ext U w')
  {Q : Exit → Act → World → Prop} (hQ : ∀ c a w, ¬ Q (.panic c) a w) (hK : ∀ K1 : Act → World → Prop, (∀ a w', Code.wp Tryz.prog (seqR cE) Q a w' → K1 a w') → ∀ (a : Act) (w' : World), a.defers = [] → a.tmps.size = 264 → a.tmps.getD 6 undef = .pointer (some ⟨g6, 0, none⟩) → a.tmps.getD 7 undef = .pointer (some ⟨g7, 0, none⟩) → a.tmps.getD 10 undef = .pointer (some ⟨g, 0, none⟩) → a.tmps.getD 11 undef = .pointer (some ⟨g11, 0, none⟩) → Ext w w' → Code.wp Tryz.prog (seqL cE) (Exit.then K1 Q) a w') :
  Code.wp Tryz.prog cM Q ⟨#[x 0, x 1, x 2, x 3, x 4, x 5, .pointer (some ⟨g6, 0, none⟩), .pointer (some ⟨g7, 0, none⟩), x 8, x 9, .pointer (some ⟨g, 0, none⟩), .pointer (some ⟨g11, 0, none⟩), x 12, x 13, x 14, x 15, x 16, x 17, x 18, x 19, x 20, x 21, x 22, x 23, x 24, x 25, x 26, x 27, x 28, x 29, x 30, x 31, x 32, x 33, x 34, x 35, x 36, x 37, x 38, x 39, x 40, x 41, x 42, x 43, x 44, x 45, x 46, x 47, x 48, x 49, x 50, x 51, x 52, x 53, x 54, x 55, x 56, x 57, x 58, x 59, x 60, x 61, x 62, x 63, x 64, x 65, x 66, x 67, x 68, x 69, x 70, x 71, x 72, x 73, x 74, x 75, x 76, x 77, x 78, x 79, x 80, x 81, x 82, x 83, x 84, x 85, x 86, x 87, x 88, x 89, x 90, x 91, x 92, x 93, x 94, x 95, x 96, x 97, x 98, x 99, x 100, x 101, x 102, x 103, x 104, x 105, x 106, x 107, x 108, x 109, x 110, x 111, x 112, x 113, x 114, x 115, x 116, x 117, x 118, x 119, x 120, x 121, x 122, x 123, x 124, x 125, x 126, x 127, x 128, x 129, x 130, x 131, x 132, x 133, x 134, x 135, x 136, x 137, x 138, x 139, x 140, x 141, x 142, x 143, x 144, x 145, x 146, x 147, x 148, x 149, x 150, x 151, x 152, x 153, x 154, x 155, x 156, x 157, x 158, x 159, x 160, x 161, x 162, x 163, x 164, x 165, x 166, x 167, x 168, x 169, x 170, x 171, x 172, x 173, x 174, x 175, x 176, x 177, x 178, x 179, x 180, x 181, x 182, x 183, x 184, x 185, x 186, x 187, x 188, x 189, x 190, x 191, x 192, x 193, x 194, x 195, x 196, x 197, x 198, x 199, x 200, x 201, x 202, x 203, x 204, x 205, x 206, x 207, x 208, x 209, x 210, x 211, x 212, x 213, x 214, x 215, x 216, x 217, x 218, x 219, x 220, x 221, x 222, x 223, x 224, x 225, x 226, x 227, x 228, x 229, x 230, x 231, x 232, x 233, x 234, x 235, x 236, x 237, x 238, x 239, x 240, x 241, x 242, x 243, x 244, x 245, x 246, x 247, x 248, x 249, x 250, x 251, x 252, x 253, x 254, x 255, x 256, x 257, x 258, x 259, x 260, x 261, x 262, x 263], []⟩ w := by
 conv => arg 2; whnf
 obtain ⟨v0, v1, v2, rfl⟩ := vlen3 hvs
 have b6r := b6.rules; have b6l := b6.lt; have b7r := b7.rules; have b7l := b7.lt; have b11r := b11.rules; have b11l := b11.lt
 have HL := Lib.hid HL; have HR := Lib.hid HR
 go_upto_region 11 with fail
 go_wp2_with fail
 refine (HL.out _ (Ext.refl _)).mono ?_; rintro e w1 ⟨ra, rfl, hOa, hx1⟩; obtain ⟨Aa, ca, rfl, hZa⟩ := Own.sl hOa (by omega) (X := fun _ => True) (fun _ _ => trivial)
 have b6 := b6.ext hx1; have b7 := b7.ext hx1; have b11 := b11.ext hx1
 clear b6r b7r b11r b6l b7l b11l
 have b6r := b6.rules; have b6l := b6.lt; have b7r := b7.rules; have b7l := b7.lt; have b11r := b11.rules; have b11l := b11.lt
 go_wp2_with fail
 refine (HL.out _ hx1).mono ?_; rintro e w2 ⟨rb, rfl, hOb, hx2⟩; obtain ⟨Ab, cb, rfl, hZb⟩ := Own.sl hOb (by omega) (X := (w1.heap.size ≤ ·)) (fun _ h => h.elim id id); have hx12 := hx1.trans hx2
 have b6 := b6.ext hx2; have b7 := b7.ext hx2; have b11 := b11.ext hx2
 clear b6r b7r b11r b6l b7l b11l hOb
 have b6r := b6.rules; have b6l := b6.lt; have b7r := b7.rules; have b7l := b7.lt; have b11r := b11.rules; have b11l := b11.lt
 go_wp2_with fail
 refine (HR.out _ hx12).mono ?_; rintro e w3 ⟨C, cc, rfl, hZc, hx3⟩; have hx13 := hx12.trans hx3; clear b6r b7r b11r b6l b7l b11l b6 b7 b11
 have hs1 := hx1.size; have hs2 := hx2.size; have hs3 := hx3.size
 have hZc := Sl.widen (Y := (w1.heap.size ≤ ·)) hZc (by omega) fun b hb _ => Nat.le_trans hs2 hb
 have hZb := Zs.ext hZb hx3; have hZa3 := Zs.ext hZa (hx2.trans hx3); obtain ⟨n, hn⟩ : ∃ n, n = la.length := ⟨_, rfl⟩; rw [← hn] at hla ⊢; have HN := Lib.hid hn; clear hn HL HR hZa
 go_wp2_with fail
 go_loopw [19] (fun iv wr => ∃ k : Nat, k ≤ n ∧ iv = .int .i64 k ∧ Ext w3 wr) (fun iv _ => n - (intOf iv).toNat)
 case atStart => exact ⟨0, Nat.zero_le _, rfl, Ext.refl _⟩
 case round =>
  obtain ⟨k, hk, rfl, hx⟩ := hrel; have kw := w64n (n := k) (by omega)
  by_cases hlt : k < n
  ·have kl : (k : Int) < (n : Int) := by omega
   have hln := HN.out; obtain ⟨ba, oa, Da, da, rfl, -, p0, p1, nA⟩ := Zs.at_ (Zs.ext hZa3 hx) (k := k) (by omega); obtain ⟨bc, oc, Dc, dc, rfl, -, r0, r1, nC⟩ := Zs.at_ (Zs.ext hZc hx) (k := k) (by omega); obtain ⟨z, hz⟩ : ∃ z, z = zth la k := ⟨_, rfl⟩; rw [← hz] at p0 p1 r0 r1 nA nC; have pl := World.block_lt_of_cell? _ _ p0; have rl := World.block_lt_of_cell? _ _ r0; clear hln hz
   go_upto_region 19 with fail
   refine wp_region_seq 10 [(0, true), (1, true), (2, true), (3, true), (4, true), (5, true), (6, true), (7, true), (8, false), (9, true)] rfl (by kernel_rfl) (by intro _ _ d _ _ h; exact (hQ _ _ _ h).elim) ?_
   (repeat (first | (refine sq_take (v := ?_) rfl rfl ?_ ?_; rotate_left; exact tk2; (try simp only [pt])) | (refine sq_skip rfl rfl ?_; (try simp only [pt])) | (refine sq_noloud rfl rfl ?_; (try simp only [pt])) | (refine sq_takeg (v := ?_) rfl rfl ?_ ?_; rotate_left; exact tk2; (try simp only [pt]))))
   (refine sq_loudg rfl rfl fun K hK => ?_; go_simp)
   refine (lints_c (z := z) (⟨Da, da, rfl, nA.ext xt⟩ : Zi _ _ (.agg #[.bool z.neg, .slice Da z.mag.length da]) z) (⟨Dc, dc, rfl, nC.ext xt⟩ : Zi _ _ (.agg #[.bool z.neg, .slice Dc z.mag.length dc]) z)).mono ?_; rintro e w5 ⟨rfl, hx5⟩
   (refine hK _ _ xt ?_; clear hK K; (try simp only [pt]))
   (repeat (first | (refine sq_take (v := ?_) rfl rfl ?_ ?_; rotate_left; exact tk2; (try simp only [pt])) | (refine sq_skip rfl rfl ?_; (try simp only [pt])) | (refine sq_noloud rfl rfl ?_; (try simp only [pt])) | (refine sq_takeg (v := ?_) rfl rfl ?_ ?_; rotate_left; exact tk2; (try simp only [pt]))))
   refine sq_done ?_
   go_wp2_with fail
   go_roundw
   case rel => exact ⟨k + 1, by omega, by go_num, hx.trans xt⟩
   case measure => simp [intOf] <;> omega
  ·obtain rfl : k = n := by omega
   obtain ⟨V, rfl⟩ : ∃ V, V = wr := ⟨_, rfl⟩
   go_wp2_with fail
   obtain ⟨ga, hga⟩ : ∃ ga, 0 < k → Aa = some ⟨ga, 0, none⟩ ∧ w.heap.size ≤ ga ∧ ga < w1.heap.size ∧ ∀ i, i < k → ∃ D d, w1.cell? ⟨ga, i * 2, none⟩ = some (.bool (zth la i).neg) ∧ w1.cell? ⟨ga, i * 2 + 1, none⟩ = some (.slice D (zth la i).mag.length d) ∧ Lm w1 w.heap.size w1.heap.size ga D (zth la i).mag.length := by
    by_cases h0 : 0 < k
    ·obtain ⟨g, h1, h2, h3, h4⟩ := zroom hOa (by rw [← HN.out]; exact h0); exact ⟨g, fun _ => ⟨h1, h2, h3, fun i hi => h4 i (by rw [← HN.out]; exact hi)⟩⟩
    ·exact ⟨0, fun h => absurd h h0⟩
   have hxV := hx13.trans hx; have hx1V := (hx2.trans hx3).trans hx; have hsV := hx.size; have hZc := Zs.ext hZc hx; have hZb := Zs.ext hZb hx; clear hOa hZa3 kw hlt hk
   go_loopw [20] (fun iv wr => ∃ j : Nat, j ≤ k ∧ iv = .int .i64 j ∧ Ov w.heap.size w1.heap.size ga 0 V wr) (fun iv _ => k - (intOf iv).toNat)
   case atStart => exact ⟨0, Nat.zero_le _, rfl, Ov.refl _⟩
   case round =>
    obtain ⟨j, hj, rfl, hO⟩ := hrel; have jw := w64n (n := j) (by omega)
    by_cases hlt : j < k
    ·have jl : (j : Int) < (k : Int) := by omega
     obtain ⟨rfl, hg1, hg2, hcells⟩ := hga (by omega); obtain ⟨D, d, q0, q1, hL⟩ := hcells j hlt; have hL := hL.ext hx1V (Nat.le_refl _); have q0 := (hx1V.cells.1 ga _ hg2).trans q0; have q1 := (hx1V.cells.1 ga _ hg2).trans q1; obtain ⟨m, hm⟩ : ∃ m, m = (zth la j).mag.length := ⟨_, rfl⟩; rw [← hm] at q1 hL; have hLn := hL.1; simp only [maxLen] at hLn; clear hcells hm; have hgl := World.block_lt_of_cell? _ _ q0; obtain ⟨U, rfl⟩ : ∃ U, U = wr := ⟨_, rfl⟩
     go_wp2_with fail
     go_loopw [21] (fun mv wz => ∃ i : Nat, i ≤ m ∧ mv = .int .i64 i ∧ Ov w.heap.size w1.heap.size ga 0 V wz) (fun mv _ => m - (intOf mv).toNat)
     case atStart => exact ⟨0, Nat.zero_le _, rfl, hO⟩
     case round =>
      obtain ⟨i, hi, rfl, hOz⟩ := hrel; have iw := w64n (n := i) (by omega); have p0 := (hOz.row _ (by omega)).trans q0; have p1 := (hOz.row _ (by omega)).trans q1; have pl := World.block_lt_of_cell? _ _ p0
      by_cases hlti : i < m
      ·have il : (i : Int) < (m : Int) := by omega
       obtain ⟨b, o, rfl, hb1, hb2, hb3, hb4⟩ := hL.2 (by omega); obtain ⟨hbc, hbf⟩ := hb4 i hlti; obtain ⟨⟨y, hy⟩, hyf⟩ := hOz.ku b (o + i) hb2 hb3 hbc; have hyf := hyf.trans hbf; have yl := World.block_lt_of_cell? _ _ hy
       go_upto_region 27 with fail
       refine wp_region_seq 16 [(0, true), (1, true), (2, true), (3, true), (4, true), (5, true), (6, true), (7, true), (8, true), (9, true), (10, true), (11, true), (12, true), (13, true), (14, true), (15, true), (16, false)] rfl (by kernel_rfl) (by intro _ _ d _ _ h; exact (hQ _ _ _ h).elim) ?_
       (repeat (first | (refine sq_take (v := ?_) rfl rfl ?_ ?_; rotate_left; exact tk2; (try simp only [pt])) | (refine sq_skip rfl rfl ?_; (try simp only [pt])) | (refine sq_noloud rfl rfl ?_; (try simp only [pt])) | (refine sq_takeg (v := ?_) rfl rfl ?_ ?_; rotate_left; exact tk2; (try simp only [pt]))))
       (refine sq_last rfl rfl fun K hK => ?_; go_simp; refine hK _ _ ?_; clear hK K)
       go_wp2_with fail
       go_roundw
       case rel => exact ⟨i + 1, by omega, by go_num, (hOz.set9 hb2 hb1 hb3 ⟨y, hy⟩).drew⟩
       case measure => simp [intOf] <;> omega
      ·have hln := HN.out; have kpz := hOz.kp; obtain ⟨bb, ob, Db, db, rfl, -, s0, s1, nB⟩ := Zs.at_ (Sl.keep hZb kpz) (k := j) (by omega); obtain ⟨bc, oc, Dc, dc, rfl, -, r0, r1, nC⟩ := Zs.at_ (Sl.keep hZc kpz) (k := j) (by omega); obtain ⟨z, hz⟩ : ∃ z, z = zth la j := ⟨_, rfl⟩; rw [← hz] at s0 s1 r0 r1 nB nC; have sl := World.block_lt_of_cell? _ _ s0; have rl := World.block_lt_of_cell? _ _ r0; have hsz := hOz.size; clear hln hz kpz
       go_upto_region 28 with fail
       refine wp_region_seq 10 [(0, true), (1, true), (2, true), (3, true), (4, true), (5, true), (6, true), (7, true), (8, false), (9, true)] rfl (by kernel_rfl) (by intro _ _ d _ _ h; exact (hQ _ _ _ h).elim) ?_
       (repeat (first | (refine sq_take (v := ?_) rfl rfl ?_ ?_; rotate_left; exact tk2; (try simp only [pt])) | (refine sq_skip rfl rfl ?_; (try simp only [pt])) | (refine sq_noloud rfl rfl ?_; (try simp only [pt])) | (refine sq_takeg (v := ?_) rfl rfl ?_ ?_; rotate_left; exact tk2; (try simp only [pt]))))
       (refine sq_loudg rfl rfl fun K hK => ?_; go_simp)
       refine (lints_c (z := z) (⟨Db, db, rfl, nB.ext xt⟩ : Zi _ _ (.agg #[.bool z.neg, .slice Db z.mag.length db]) z) (⟨Dc, dc, rfl, nC.ext xt⟩ : Zi _ _ (.agg #[.bool z.neg, .slice Dc z.mag.length dc]) z)).mono ?_; rintro e w5 ⟨rfl, hx5⟩
       (refine hK _ _ xt ?_; clear hK K; (try simp only [pt]))
       (repeat (first | (refine sq_take (v := ?_) rfl rfl ?_ ?_; rotate_left; exact tk2; (try simp only [pt])) | (refine sq_skip rfl rfl ?_; (try simp only [pt])) | (refine sq_noloud rfl rfl ?_; (try simp only [pt])) | (refine sq_takeg (v := ?_) rfl rfl ?_ ?_; rotate_left; exact tk2; (try simp only [pt]))))
       refine sq_done ?_
       go_wp2_with fail
       go_roundw
       case rel => exact ⟨j + 1, by omega, by go_num, hOz.extd xt (by omega) (by omega) (by omega)⟩
       case measure => simp [intOf] <;> omega
    ·obtain ⟨U, rfl⟩ : ∃ U, U = wr := ⟨_, rfl⟩; have hxU := ov_ext hxV hO.bl (Nat.le_refl _)
     go_upto_region 30 with fail
     refine hK _ ?_ _ _ ?_ ?_ ?_ ?_ ?_ ?_ hxU
     ·assumption
     all_goals rfl

end Go.Proofs.YtpkfjbljhneenaaGreat
