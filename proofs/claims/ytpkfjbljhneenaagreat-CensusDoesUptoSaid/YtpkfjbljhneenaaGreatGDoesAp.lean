/- periods: made, merged. No conditions. -/
import Derived.Test.YtpkfjbljhneenaaGreatGDoesAn
import Derived.Test.YtpkfjbljhneenaaGreatGDoesAo
import Derived.Test.YtpkfjbljhneenaaGreatGDoesAf
namespace Go.Proofs.YtpkfjbljhneenaaGreat
open Go.RowKit Go.Shelf

set_option maxHeartbeats 800000 in
theorem made_set_c {w : World} {g : Nat} {ty : TypeId} {l : List (Nat × Ps)} (hg : Box w g ty (l.map fun p => Value.pointer (some ⟨p.1, 0, none⟩)).toArray) (hl : ∀ p ∈ l, ∃ X, SetV w X p.1 p.2 ∧ 0 < p.2.rows.length) (hn : l.length ≤ 1099511627776) (m : Nat) (hm : m = l.length) :
  Calls Tryz.prog 89 #[.slice (some ⟨g, 0, none⟩) m m] w fun e w' => e = .returned (.bool true) ∧ Ext w w' := by
 subst hm; have gl := hg.lt
 go_enter Tryz.func89, Tryz.ntmps89
 go_wp2_with fail
 go_loopw [7] (fun iv wr => ∃ k : Nat, k ≤ l.length ∧ iv = .int .i64 k ∧ Ext w wr) (fun iv _ => l.length - (intOf iv).toNat)
 case atStart => exact ⟨0, Nat.zero_le _, rfl, Ext.refl _⟩
 case round =>
  obtain ⟨k, hk, rfl, hx⟩ := hrel; have hgr := hg.ext hx; have glr := hgr.lt
  by_cases hlt : k < l.length
  ·have hc : wr.cell? ⟨g, k, none⟩ = some (.pointer (some ⟨l[k].1, 0, none⟩)) := by
    rw [hgr.cell]; simp [hlt]
   obtain ⟨X, hS, h0⟩ := hl _ (List.getElem_mem hlt); obtain ⟨cA, c, rA, d, hb, hX, hcu, hr⟩ := hS.ext hx; obtain ⟨n, hn⟩ : ∃ n, n = l[k].2.rows.length := ⟨_, rfl⟩; obtain ⟨q, hq⟩ : ∃ q, q = l[k].1 := ⟨_, rfl⟩; rw [← hq] at hc hb; rw [← hn] at hb h0; clear hr hcu hX hq hn
   have bgr := hb.rules; have bgl := hb.lt
   have kl : (k : Int) < (l.length : Int) := by omega
   have n0 : ((n : Int) == 0) = false := by rw [beq_eq_false_iff_ne]; omega
   go_wp2_with fail
   go_roundw
   case rel => exact ⟨k + 1, by omega, by go_num, xt⟩
   case measure => simp [intOf] <;> omega
  ·obtain rfl : k = l.length := by omega
   go_wp2_with fail
   go_ret
   exact ⟨rfl, xt⟩

theorem ddk_mem {l : List Z} {k : Nat} {z : Z} (h : z ∈ ddk l k) : ∃ j, j < k ∧ z = zth l j := by
 rw [ddk, List.mem_filterMap] at h; obtain ⟨j, hj, he⟩ := h; rw [List.mem_range] at hj
 split at he
 ·cases he
 ·injection he with he
  exact ⟨j, hj, he.symm⟩
theorem ddk_val {l : List Z} : ∀ {k j : Nat}, j < k → (zth l j).v ∈ zv (ddk l k)
 | 0, j, h => absurd h (Nat.not_lt_zero _)
 | k + 1, j, h => by
  by_cases hh : k ≠ 0 ∧ (zth l k).v = (zth l (k - 1)).v
  ·rw [ddk_hit hh.1 hh.2]
   by_cases e : j = k
   ·subst e; rw [hh.2]; exact ddk_val (by omega)
   ·exact ddk_val (by omega)
  ·rw [ddk_keep (by by_cases h0 : k = 0 <;> simp_all)]; rw [zv, List.map_append, List.mem_append]
   by_cases e : j = k
   ·subst e; exact .inr (by simp)
   ·exact .inl (ddk_val (by omega))
theorem ddk_ris {l : List Z} (hs : l.Pairwise fun p q => ¬ q.v < p.v) : ∀ {k : Nat}, k ≤ l.length → Ris (zv (ddk l k))
 | 0, _ => .nil
 | k + 1, hk => by
  by_cases hh : k ≠ 0 ∧ (zth l k).v = (zth l (k - 1)).v
  ·rw [ddk_hit hh.1 hh.2]; exact ddk_ris hs (by omega)
  ·rw [ddk_keep (by by_cases h0 : k = 0 <;> simp_all), zv, List.map_append]
   show List.Pairwise _ _
   rw [List.pairwise_append]; refine ⟨ddk_ris hs (by omega), by simp, fun a ha b hb => ?_⟩; simp only [List.map_cons, List.map_nil, List.mem_singleton] at hb; subst hb; obtain ⟨z, hz, rfl⟩ := List.mem_map.1 ha; obtain ⟨j, hj, rfl⟩ := ddk_mem hz
   have le : ∀ i j, i < j → j < l.length → ¬ (zth l j).v < (zth l i).v := fun i j hij hj => by
    rw [zth_eq l i (by omega), zth_eq l j hj]; exact List.pairwise_iff_getElem.1 hs i j (by omega) hj hij
   have h1 := le (k - 1) k (by omega) (by omega)
   have hne : (zth l k).v ≠ (zth l (k - 1)).v := fun e => hh ⟨by omega, e⟩
   by_cases e : j = k - 1
   ·subst e; omega
   ·have := le j (k - 1) (by omega) (by omega)
    omega

def Mrg (s o : Ps) (l : List Z) : Prop := Ris (zv l) ∧ (∀ z ∈ l, z ∈ s.cuts ∨ z ∈ o.cuts) ∧ (∀ z, z ∈ s.cuts ∨ z ∈ o.cuts → z.v ∈ zv l) ∧ l.length ≤ s.cuts.length + o.cuts.length
theorem Mrg.of {s o : Ps} {l : List Z} (hp : l.Perm (s.cuts ++ o.cuts)) (hs : l.Pairwise fun p q => ¬ q.v < p.v) : Mrg s o (ddk l l.length) := by
 refine ⟨ddk_ris hs (Nat.le_refl _), fun z hz => ?_, fun z hz => ?_, ?_⟩
 ·obtain ⟨j, hj, rfl⟩ := ddk_mem hz; exact List.mem_append.1 (hp.mem_iff.1 (zth_mem hj))
 ·have h1 := hp.mem_iff.2 (List.mem_append.2 hz); obtain ⟨j, hj, rfl⟩ := List.getElem_of_mem h1; rw [← zth_eq l j hj]; exact ddk_val hj
 ·have h1 := ddk_len l l.length; have h2 := hp.length_eq; rw [List.length_append] at h2
  omega

set_option maxHeartbeats 1600000 in
theorem merged_c {g h : Nat} {s o : Ps} {w : World} {X Y : Nat → Prop} (hs : SetV w X g s) (ho : SetV w Y h o) (h1 : s.cuts.length ≤ 1048576) (h2 : o.cuts.length ≤ 1048576) :
  Calls Tryz.prog 100 #[.pointer (some ⟨g, 0, none⟩), .pointer (some ⟨h, 0, none⟩)] w fun e w' => ∃ v l, e = .returned v ∧ Own 2 EZ w' (fun b => (X b ∨ Y b) ∧ b < w.heap.size) w.heap.size 25 v l ∧ Mrg s o l ∧ Ext w w' := by
 obtain ⟨cA, c, rA, d, hb, hX, hc, hr⟩ := hs; obtain ⟨cB, c', rB, d', hb', hX', hc', hr'⟩ := ho
 have bgr := hb.rules; have bgl := hb.lt
 have bhr := hb'.rules; have bhl := hb'.lt
 have hc := Sl.widen hc (by omega) (Y := fun b => (X b ∨ Y b) ∧ b < w.heap.size) fun b hb hl => ⟨.inl hb, hl⟩
 have hc' := Sl.widen hc' (by omega) (Y := fun b => (X b ∨ Y b) ∧ b < w.heap.size) fun b hb hl => ⟨.inr hb, hl⟩
 go_enter Tryz.func100, Tryz.ntmps100
 go_wp2_with fail
 refine wp_region_seq 10 [(0, true), (1, true), (2, true), (3, true), (4, true), (5, true), (6, true), (7, true), (8, false), (9, false), (10, false)] rfl (by kernel_rfl) (by intro _ _ d _ _ h; cases d <;> exact h) ?_
 (repeat (refine sq_take (v := ?_) rfl rfl ?_ ?_; rotate_left; exact tk2; (try simp only [pt])))
 (refine sq_loud rfl rfl fun K hK => ?_; go_simp)
 refine hK _ _ ((Ext.refl w.drew).alloc _) ?_; clear hK K
 (try simp only [pt])
 (refine sq_loud rfl rfl fun K hK => ?_; go_simp)
 have hcv : Ext w (w.drew.alloc (.cells #[.slice cA s.cuts.length c, .slice cB o.cuts.length c'] 35)) := xt; refine (concat_c (ty := 35) (l := s.cuts) (m := o.cuts) (Zp := fun b => (X b ∨ Y b) ∧ b < w.heap.size) (fun b hb => Nat.lt_of_lt_of_le hb.2 hcv.size) (Box.new_at _ _ _ rfl) (Sl.keep hc (.of_ext hcv)) (Sl.keep hc' (.of_ext hcv)) (by omega)).mono ?_; rintro e w1 ⟨v1, rfl, hO1, hx1⟩; have hcv1 := hcv.trans hx1; refine hK _ _ hx1 ?_; clear hK K
 (try simp only [pt])
 (refine sq_last rfl rfl fun K hK => ?_; go_simp; refine hK _ _ ?_; clear hK K)
 have hO2 := hO1; have hrow := hO1.row
 have hrw : ∀ k, v1.ownBlock = some k → w.heap.size ≤ k := fun k hk => by
  have := (hrow k hk).1; have := hcv.size
  omega
 obtain ⟨A1, c1, rfl, _⟩ := Own.sl hO2 (by omega) (X := fun _ => True) (fun _ _ => trivial)
 have hL : (s.cuts ++ o.cuts).length ≤ 2097152 := by rw [List.length_append]; omega
 obtain ⟨L, hLe⟩ : ∃ L, L = s.cuts ++ o.cuts := ⟨_, rfl⟩; rw [← hLe] at hO2 hL hrw ⊢; have hsort := sortz_c hO2 (by omega)
 have HL := Lib.hid hL; have HLe := Lib.hid hLe; clear hL hLe h1 h2
 clear hO1 hO2 hrow bgr bhr
 go_wp2_with fail
 refine hsort.mono ?_; rintro e w2 ⟨rfl, l', hp, hs, hO2, hg2⟩; have hL := HL.out; have hl' : L.length = l'.length := hp.length_eq.symm; rw [HLe.out] at hp; have hm := Mrg.of hp (hs.imp fun h => Int.not_lt.2 h); have hx2 := hcv1.grown hg2 hrw; rw [hl'] at hO2 hrw; have hcom := compact_c hO2 (by omega); rw [hl']; clear hs hp hL hl'
 go_wp2_with fail
 refine hcom.mono ?_; rintro e w3 ⟨v3, rfl, hO3, hg3⟩; have hx3 := hx2.grown hg3 hrw
 go_wp2_with fail
 go_ret
 exact ⟨v3, _, rfl, hO3.lower hcv.size, hm, hx3⟩

set_option maxHeartbeats 400000 in
theorem meet1_c (x y : Bool) (w : World) :
  Calls Tryz.prog 65 #[.bool x, .bool y] w fun e w' => e = .returned (.bool (x && y)) ∧ Ext w w' := by
 go_enter Tryz.func65, Tryz.ntmps65
 cases x
 ·go_wp2_with fail
  go_ret
  exact ⟨rfl, xt⟩
 ·go_wp2_with fail
  go_ret
  exact ⟨by simp, xt⟩

def jrow (f : Bool → Bool → Bool) (a b : List Bool) (q : Nat) : List Bool := (List.range q).map fun j => f (bth a (j % a.length)) (bth b (j % b.length))
theorem jrow_len (f : Bool → Bool → Bool) (a b : List Bool) (q : Nat) : (jrow f a b q).length = q := by simp [jrow]
theorem lng_at {r : List Bool} {q j : Nat} (h : j < q) : bth (lng r q) j = bth r (j % r.length) := by
 rw [bth_eq _ _ (by rw [lng_len]; exact h)]; simp [lng]
theorem jrow_at {f : Bool → Bool → Bool} {a b : List Bool} {q j : Nat} (h : j < q) : bth (jrow f a b q) j = f (bth a (j % a.length)) (bth b (j % b.length)) := by
 rw [bth_eq _ _ (by rw [jrow_len]; exact h)]; simp [jrow]
theorem bset_take (r : List Bool) (i : Nat) (p : Bool) (h : i < r.length) : (r.set i p).take (i + 1) = r.take i ++ [p] := by
 rw [List.take_succ_eq_append_getElem (by rw [List.length_set]; exact h), List.getElem_set_self]
 congr 1
 apply List.ext_getElem?
 intro k
 by_cases hk : k < i
 ·rw [List.getElem?_take_of_lt hk, List.getElem?_take_of_lt hk, List.getElem?_set_ne (by omega)]
 ·rw [List.getElem?_take_eq_none (by omega), List.getElem?_take_eq_none (by omega)]
theorem bset_drop (r : List Bool) (i j : Nat) (p : Bool) (h : i < j) : (r.set i p).drop j = r.drop j := by
 apply List.ext_getElem?
 intro k; rw [List.getElem?_drop, List.getElem?_drop, List.getElem?_set_ne (by omega)]
theorem take_bth (l : List Bool) (k : Nat) (h : k < l.length) : l.take (k + 1) = l.take k ++ [bth l k] := by
 rw [bth_eq l k h]; exact List.take_succ_eq_append_getElem h
theorem bth_drop {r l : List Bool} {i : Nat} (h : r.drop i = l.drop i) {j : Nat} (hij : i ≤ j) : bth r j = bth l j := by
 unfold bth; rw [List.getD_eq_getElem?_getD, List.getD_eq_getElem?_getD]; have := congrArg (fun x => x[j - i]?) h; simp only [List.getElem?_drop, show i + (j - i) = j from by omega] at this; rw [this]
theorem bown_at {w : World} {Zp : Nat → Prop} {base g n c k : Nat} {e : TypeId} {l : List Bool} (h : Own 1 EB w Zp base e (.slice (some ⟨g, 0, none⟩) n c) l) (hk : k < l.length) : w.cell? ⟨g, k, none⟩ = some (.bool (bth l k)) := by
 obtain ⟨A, d, e1, h1⟩ := Own.sl h (by omega) (X := fun _ => True) (fun _ _ => trivial)
 injection e1 with e1
 subst e1; obtain ⟨b, o, e2, _, h2⟩ := Rl.at_ h1 hk
 injection e2 with e2
 injection e2 with e2 e3
 subst e2; subst e3
 simpa using h2
theorem bown_put {w : World} {Zp : Nat → Prop} {base g n c k : Nat} {e : TypeId} {l : List Bool} {b : Bool} (h : Own 1 EB w Zp base e (.slice (some ⟨g, 0, none⟩) n c) l) (hk : k < l.length) :
  Own 1 EB (w.setCell ⟨g, k, none⟩ (.bool b)) Zp base e (.slice (some ⟨g, 0, none⟩) n c) (l.set k b) := by
 have p0 := Own.put h (k := k) (r := 0) (u := .bool b) (a' := b) hk (by omega) (by
  intro cs h1 _; unfold EB at h1 ⊢; subst h1
  rfl)
 simpa using p0

set_option maxRecDepth 100000 in
set_option maxHeartbeats 3200000 in
theorem jrow_c {b3 b8 b4 b5 g h i k q fi : Nat} {y3 y8 y4 y5 : TypeId} {s o : Ps} {w : World} {X Y : Nat → Prop} {f : Bool → Bool → Bool} (hs : SetV w X g s) (ho : SetV w Y h o)
  (c3 : Box w b3 y3 #[.pointer (some ⟨g, 0, none⟩)]) (c8 : Box w b8 y8 #[.int .i64 (q : Nat)]) (c4 : Box w b4 y4 #[.pointer (some ⟨h, 0, none⟩)]) (c5 : Box w b5 y5 #[.func (.func fi) #[] #[]])
  (eg : ∀ args w, (callFunc fi args).run Tryz.prog w = .ok (.enter fi args) w) (hf : ∀ x y W, Calls Tryz.prog fi #[.bool x, .bool y] W fun e w' => e = .returned (.bool (f x y)) ∧ Ext W w')
  (hi : i < s.rows.length) (hk : k < o.rows.length) (h1 : 0 < (rth s.rows i).length) (h2 : 0 < (rth o.rows k).length) (d1 : (rth s.rows i).length ∣ q) (d2 : (rth o.rows k).length ∣ q) (hq : q ≤ 16777216) :
  Calls Tryz.prog 98 #[.int .i64 (i : Nat), .int .i64 (k : Nat), .pointer (some ⟨b3, 0, none⟩), .pointer (some ⟨b8, 0, none⟩), .pointer (some ⟨b4, 0, none⟩), .pointer (some ⟨b5, 0, none⟩)] w fun e w' =>
   ∃ A, e = .returned (.slice A q q) ∧ Rl w' (w.heap.size ≤ ·) A q (jrow f (rth s.rows i) (rth o.rows k) q) ∧ Ext w w' := by
 obtain ⟨cA, c, rA, d, hb, hX, hc, hr⟩ := hs; obtain ⟨cB, c', rB, d', hb', hX', hc', hr'⟩ := ho; obtain ⟨e1, o1, R1, m1, rfl, -, x1, hR1⟩ := hr.at_ hi; obtain ⟨e2, o2, R2, m2, rfl, -, x2, hR2⟩ := hr'.at_ hk; have xl1 := World.block_lt_of_cell? _ _ x1; have xl2 := World.block_lt_of_cell? _ _ x2
 have hl1 := fun (V : World) (hV : Ext w V) => long_c (Sl.keep hR1 (.of_ext hV)) h1 d1 hq
 have hl2 := fun (V : World) (hV : Ext w V) => long_c (Sl.keep hR2 (.of_ext hV)) h2 d2 hq
 have bgr := hb.rules; have bgl := hb.lt
 have bhr := hb'.rules; have bhl := hb'.lt
 have r3 := c3.rules; have l3 := c3.lt
 have r4 := c4.rules; have l4 := c4.lt
 have r5 := c5.rules; have l5 := c5.lt
 have r8 := c8.rules; have l8 := c8.lt
 have i1 : (i : Int) < (s.rows.length : Int) := by omega
 have i2 : (k : Int) < (o.rows.length : Int) := by omega
 have HA : Hid (jrow f (rth s.rows i) (rth o.rows k) q = (List.range q).map fun j => f (bth (lng (rth s.rows i) q) j) (bth (lng (rth o.rows k) q) j)) := Lib.hid (by
  unfold jrow
  apply List.map_congr_left
  intro j hj; rw [List.mem_range] at hj
  rw [lng_at hj, lng_at hj])
 obtain ⟨a, ha⟩ : ∃ a, a = rth s.rows i := ⟨_, rfl⟩; obtain ⟨b, hbb⟩ : ∃ b, b = rth o.rows k := ⟨_, rfl⟩; rw [← ha] at x1 hl1; rw [← hbb] at x2 hl2; obtain ⟨la, hla⟩ : ∃ la, la = lng a q := ⟨_, rfl⟩; obtain ⟨lb, hlb⟩ : ∃ lb, lb = lng b q := ⟨_, rfl⟩
 have hla1 : la.length = q := by rw [hla, lng_len]
 have hlb1 : lb.length = q := by rw [hlb, lng_len]
 rw [← hla] at hl1; rw [← hlb] at hl2; rw [← ha, ← hbb] at HA; rw [← hla, ← hlb] at HA
 have hA' := Lib.hid hla1; have hB' := Lib.hid hlb1
 rw [← ha, ← hbb]; clear hla hlb ha hbb hla1 hlb1 hR1 hR2 hr hr' hc hc' hX hX' d1 d2 h1 h2
 go_enter Tryz.func98, Tryz.ntmps98
 go_wp2_with fail
 refine wp_region_late [(0, true), (1, true), (2, true), (3, true), (4, true), (5, true), (6, true), (7, true), (9, true), (10, true), (11, true), (12, true), (13, true), (14, true), (15, true), (16, true), (8, false), (17, false)] [18, 19] rfl (by kernel_rfl) (by intro _ _ d _ _ h; cases d <;> exact h) ?_
 (repeat (refine sh_take (v := ?_) rfl rfl ?_ ?_; rotate_left; exact tk2; (try simp only [pt])))
 (refine sh_loud rfl rfl fun K hK => ?_; go_simp)
 refine (hl1 _ xt).mono ?_; rintro e w1 ⟨g1, rfl, hO1, hx1⟩
 (refine hK _ _ xt ?_; clear hK K; (try simp only [pt]))
 (refine sh_loud rfl rfl fun K hK => ?_; go_simp)
 have hx01 : Ext w w1 := xt; refine (hl2 _ hx01).mono ?_; rintro e w2 ⟨g2, rfl, hO2, hx2⟩
 (refine hK _ _ xt ?_; clear hK K; (try simp only [pt]))
 refine sh_done ?_; have hx02 := hx01.trans hx2; have hO1 := (hO1.ext hx2).lower (b2 := w.heap.size) (by simp only [wsz]; omega); have hO2' := hO2.lower (b2 := w.heap.size) hx01.size
 have r8' := (c8.ext hx02).rules; have l8' := (c8.ext hx02).lt
 clear hl1 hl2 bgr bhr r3 r4 r5 r8 hb hb' c3 c4 hO2
 (refine sh_late rfl rfl fun K hK => ?_; go_simp; refine hK _ _ ?_; clear hK K)
 (refine sh_late rfl rfl fun K hK => ?_; go_simp; refine hK _ _ ?_; clear hK K)
 refine sh_end ?_
 go_wp2_with fail
 have hg1 := hO1.adr; have hg2 := hO2'.adr
 have hc2 : ∀ j, j < q → w2.cell? ⟨g2, j, none⟩ = some (.bool (bth lb j)) := fun j hj => bown_at hO2' (by rw [hB'.out]; exact hj)
 have hg1b := hg1.2.2.1; have hg2b := hg2.2.2.1; have hg2l := hg2.2.2.2
 have Hc2 := Lib.hid hc2; clear hg1 hg2 hc2 r8'
 go_loopw [31] (fun iv wr => ∃ n : Nat, ∃ r : List Bool, n ≤ q ∧ iv = .int .i64 n ∧ Own 1 EB wr (fun _ => False) w.heap.size 4 (.slice (some ⟨g1, 0, none⟩) q q) r ∧ Hid (r.length = q) ∧
  Hid (r.take n = ((List.range q).map fun j => f (bth la j) (bth lb j)).take n) ∧ Hid (r.drop n = la.drop n) ∧ Hid (∀ j, n ≤ j → j < q → wr.cell? ⟨g2, j, none⟩ = some (.bool (bth lb j))) ∧ Ext w wr ∧ g2 < wr.heap.size) (fun iv _ => q - (intOf iv).toNat)
 case atStart => exact ⟨0, la, Nat.zero_le _, rfl, hO1, hA', Lib.hid (by simp), Lib.hid rfl, Lib.hid fun j _ hj => Hc2.out j hj, hx02, hg2l⟩
 case round =>
  obtain ⟨n, r, hn, rfl, hO, hrl, hrt, hrd, hcl, hx, hgl⟩ := hrel; have hgl2 : g2 < wr.heap.size := hgl
  by_cases hlt : n < q
  ·have nl : (n : Int) < (q : Int) := by omega
   have hnr : n < r.length := by rw [hrl.out]; exact hlt
   have z1 := bown_at hO hnr; rw [bth_drop hrd.out (Nat.le_refl _)] at z1; have z2 := hcl.out n (Nat.le_refl _) hlt; have hg1l := hO.adr.2.2.2
   have r5 := (c5.ext hx).rules; have l5' := (c5.ext hx).lt
   have hcall := hf (bth la n) (bth lb n); have Hf := Lib.hid hf; clear hf
   go_wp2_with fail
   refine wp_region_late [(0, true), (1, true), (2, true), (3, true), (4, true), (5, true), (6, true), (7, true), (8, true), (9, true), (10, true), (11, false)] [12, 13] rfl (by kernel_rfl) (by intro _ _ d _ _ h; cases d <;> exact h) ?_
   (repeat (refine sh_take (v := ?_) rfl rfl ?_ ?_; rotate_left; exact tk2; (try simp only [pt])))
   (refine sh_loud rfl rfl fun K hK => ?_; go_simp)
   refine (hcall _).mono ?_; rintro e w3 ⟨rfl, hx3⟩; have hxx : Ext wr w3 := xt
   (refine hK _ _ xt ?_; clear hK K; (try simp only [pt]))
   refine sh_done ?_; have hO3 := hO.ext hxx
   have hfz := fun o => Own.frz hO3 o
   have z3 := (hxx.cells.1 g1 _ hg1l).trans z1; have hg1l3 := Nat.lt_of_lt_of_le hg1l hxx.size; clear r5 z1 z2
   (refine sh_late rfl rfl fun K hK => ?_; go_simp; refine hK _ _ ?_; clear hK K)
   (refine sh_late rfl rfl fun K hK => ?_; go_simp; refine hK _ _ ?_; clear hK K)
   refine sh_end ?_
   go_wp2_with fail
   go_roundw
   case rel =>
    refine ⟨n + 1, r.set n (f (bth la n) (bth lb n)), by omega, by go_num, bown_put hO3 hnr, Lib.hid (by rw [List.length_set]; exact hrl.out), Lib.hid ?_, Lib.hid ?_, Lib.hid fun j hj1 hj2 => ?_, (hx.trans hxx).setCell hg1b _, by rw [World.size_setCell]; exact Nat.lt_of_lt_of_le hgl2 hxx.size⟩
    ·rw [bset_take r n _ hnr, hrt.out, List.take_succ_eq_append_getElem (l := List.map _ _) (by simpa using hlt)]; simp
    ·rw [bset_drop r n _ _ (by omega), ← List.drop_drop, ← List.drop_drop, hrd.out]
    ·rw [World.cell?_setCell_other _ _ _ _ (fun e => by injection e with e1 e2; omega), hxx.cells.1 g2 _ hgl2]; exact hcl.out j (by omega) hj2
   case measure => simp [intOf] <;> omega
  ·obtain rfl : n = q := by omega
   go_wp2_with fail
   go_ret
   obtain ⟨A1, d1, e1, h1⟩ := Own.sl hO (by omega) (X := (w.heap.size ≤ ·)) (fun _ h => h.elim (fun h => h.elim) id)
   injection e1 with e1 e2 e3
   subst e3
   have e4 : r = jrow f a b n := by
    have h2 := hrt.out; rw [List.take_of_length_le (by rw [hrl.out]; exact Nat.le_refl _), List.take_of_length_le (by simp)] at h2; rw [h2, HA.out]
   rw [e4] at h1; exact ⟨_, rfl, by rw [e1]; exact h1, hx⟩

end Go.Proofs.YtpkfjbljhneenaaGreat
