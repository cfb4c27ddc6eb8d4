/- periods: made, merged. No conditions. -/
import Derived.Test.YtbblgjjomgipfaaComp
import Derived.Test.YtbblgjjomgipfaaLong
namespace Go.Proofs.Ytbblgjjomgipfaa
open Go.RowKit Go.Shelf

set_option maxHeartbeats 800000 in
theorem made_set_c {w : World} {g : Nat} {ty : TypeId} {l : List (Nat × Ps)} (hg : Box w g ty (l.map fun p => Value.pointer (some ⟨p.1, 0, none⟩)).toArray) (hl : ∀ p ∈ l, ∃ X, SetV w X p.1 p.2 ∧ 0 < p.2.rows.length) (hn : l.length ≤ 1099511627776) (m : Nat) (hm : m = l.length) :
    Calls Try.prog 133 #[.slice (some ⟨g, 0, none⟩) m m] w fun e w' => e = .returned (.bool true) ∧ Ext w w' := by
  subst hm
  have gl := hg.lt
  go_enter Try.func133, Try.ntmps133
  go_wp2_with fail
  go_loopw [7] (fun iv wr => ∃ k : Nat, k ≤ l.length ∧ iv = .int .i64 k ∧ Ext w wr) (fun iv _ => l.length - (intOf iv).toNat)
  case atStart => exact ⟨0, Nat.zero_le _, rfl, Ext.refl _⟩
  case round =>
    obtain ⟨k, hk, rfl, hx⟩ := hrel
    have hgr := hg.ext hx
    have glr := hgr.lt
    by_cases hlt : k < l.length
    · have hc : wr.cell? ⟨g, k, none⟩ = some (.pointer (some ⟨l[k].1, 0, none⟩)) := by
        rw [hgr.cell]
        simp [hlt]
      obtain ⟨X, hS, h0⟩ := hl _ (List.getElem_mem hlt)
      obtain ⟨cA, c, rA, d, hb, hX, hcu, hr⟩ := hS.ext hx
      obtain ⟨n, hn⟩ : ∃ n, n = l[k].2.rows.length := ⟨_, rfl⟩
      obtain ⟨q, hq⟩ : ∃ q, q = l[k].1 := ⟨_, rfl⟩
      rw [← hq] at hc hb
      rw [← hn] at hb h0
      clear hr hcu hX hq hn
      have bgr := hb.rules; have bgl := hb.lt
      have kl : (k : Int) < (l.length : Int) := by omega
      have n0 : ((n : Int) == 0) = false := by rw [beq_eq_false_iff_ne]; omega
      go_wp2_with fail
      go_roundw
      case rel => exact ⟨k + 1, by omega, by go_num, (by repeat (first | with_reducible assumption | with_reducible exact Ext.refl _ | with_reducible refine Ext.drewN ?_ _ | with_reducible refine Ext.drew ?_ | with_reducible refine Ext.alloc ?_ _ | (with_reducible refine Ext.setCell ?_ ?_ _; rotate_left; (first | exact Nat.le_refl _ | (dsimp only; omega) | (simp only [wsz]; omega))) | (with_reducible refine Ext.trans ?_ (by with_reducible assumption))))⟩
      case measure => simp [intOf] <;> omega
    · obtain rfl : k = l.length := by omega
      go_wp2_with fail
      go_ret
      exact ⟨rfl, (by repeat (first | with_reducible assumption | with_reducible exact Ext.refl _ | with_reducible refine Ext.drewN ?_ _ | with_reducible refine Ext.drew ?_ | with_reducible refine Ext.alloc ?_ _ | (with_reducible refine Ext.setCell ?_ ?_ _; rotate_left; (first | exact Nat.le_refl _ | (dsimp only; omega) | (simp only [wsz]; omega))) | (with_reducible refine Ext.trans ?_ (by with_reducible assumption))))⟩

theorem ddk_mem {l : List Z} {k : Nat} {z : Z} (h : z ∈ ddk l k) : ∃ j, j < k ∧ z = zth l j := by
  rw [ddk, List.mem_filterMap] at h
  obtain ⟨j, hj, he⟩ := h
  rw [List.mem_range] at hj
  split at he
  · cases he
  · injection he with he
    exact ⟨j, hj, he.symm⟩
theorem ddk_val {l : List Z} : ∀ {k j : Nat}, j < k → (zth l j).v ∈ zv (ddk l k)
  | 0, j, h => absurd h (Nat.not_lt_zero _)
  | k + 1, j, h => by
    by_cases hh : k ≠ 0 ∧ (zth l k).v = (zth l (k - 1)).v
    · rw [ddk_hit hh.1 hh.2]
      by_cases e : j = k
      · subst e
        rw [hh.2]
        exact ddk_val (by omega)
      · exact ddk_val (by omega)
    · rw [ddk_keep (by by_cases h0 : k = 0 <;> simp_all)]
      rw [zv, List.map_append, List.mem_append]
      by_cases e : j = k
      · subst e
        exact .inr (by simp)
      · exact .inl (ddk_val (by omega))
theorem ddk_ris {l : List Z} (hs : l.Pairwise fun p q => ¬ q.v < p.v) : ∀ {k : Nat}, k ≤ l.length → Ris (zv (ddk l k))
  | 0, _ => .nil
  | k + 1, hk => by
    by_cases hh : k ≠ 0 ∧ (zth l k).v = (zth l (k - 1)).v
    · rw [ddk_hit hh.1 hh.2]
      exact ddk_ris hs (by omega)
    · rw [ddk_keep (by by_cases h0 : k = 0 <;> simp_all), zv, List.map_append]
      show List.Pairwise _ _
      rw [List.pairwise_append]
      refine ⟨ddk_ris hs (by omega), by simp, fun a ha b hb => ?_⟩
      simp only [List.map_cons, List.map_nil, List.mem_singleton] at hb
      subst hb
      obtain ⟨z, hz, rfl⟩ := List.mem_map.1 ha
      obtain ⟨j, hj, rfl⟩ := ddk_mem hz
      have le : ∀ i j, i < j → j < l.length → ¬ (zth l j).v < (zth l i).v := fun i j hij hj => by
        rw [zth_eq l i (by omega), zth_eq l j hj]
        exact List.pairwise_iff_getElem.1 hs i j (by omega) hj hij
      have h1 := le (k - 1) k (by omega) (by omega)
      have hne : (zth l k).v ≠ (zth l (k - 1)).v := fun e => hh ⟨by omega, e⟩
      by_cases e : j = k - 1
      · subst e; omega
      · have := le j (k - 1) (by omega) (by omega)
        omega

/-- The cuts of two sets, rising. -/
def Mrg (s o : Ps) (l : List Z) : Prop := Ris (zv l) ∧ (∀ z ∈ l, z ∈ s.cuts ∨ z ∈ o.cuts) ∧ (∀ z, z ∈ s.cuts ∨ z ∈ o.cuts → z.v ∈ zv l) ∧ l.length ≤ s.cuts.length + o.cuts.length
theorem Mrg.of {s o : Ps} {l : List Z} (hp : l.Perm (s.cuts ++ o.cuts)) (hs : l.Pairwise fun p q => ¬ q.v < p.v) : Mrg s o (ddk l l.length) := by
  refine ⟨ddk_ris hs (Nat.le_refl _), fun z hz => ?_, fun z hz => ?_, ?_⟩
  · obtain ⟨j, hj, rfl⟩ := ddk_mem hz
    exact List.mem_append.1 (hp.mem_iff.1 (zth_mem hj))
  · have h1 := hp.mem_iff.2 (List.mem_append.2 hz)
    obtain ⟨j, hj, rfl⟩ := List.getElem_of_mem h1
    rw [← zth_eq l j hj]
    exact ddk_val hj
  · have h1 := ddk_len l l.length
    have h2 := hp.length_eq
    rw [List.length_append] at h2
    omega

set_option maxHeartbeats 1600000 in
theorem merged_c {g h : Nat} {s o : Ps} {w : World} {X Y : Nat → Prop} (hs : SetV w X g s) (ho : SetV w Y h o) (h1 : s.cuts.length ≤ 1048576) (h2 : o.cuts.length ≤ 1048576) :
    Calls Try.prog 137 #[.pointer (some ⟨g, 0, none⟩), .pointer (some ⟨h, 0, none⟩)] w fun e w' => ∃ v l, e = .returned v ∧ Own 2 EZ w' (fun b => (X b ∨ Y b) ∧ b < w.heap.size) w.heap.size 25 v l ∧ Mrg s o l ∧ Ext w w' := by
  obtain ⟨cA, c, rA, d, hb, hX, hc, hr⟩ := hs
  obtain ⟨cB, c', rB, d', hb', hX', hc', hr'⟩ := ho
  have bgr := hb.rules; have bgl := hb.lt
  have bhr := hb'.rules; have bhl := hb'.lt
  have hc := Sl.widen hc (by omega) (Y := fun b => (X b ∨ Y b) ∧ b < w.heap.size) fun b hb hl => ⟨.inl hb, hl⟩
  have hc' := Sl.widen hc' (by omega) (Y := fun b => (X b ∨ Y b) ∧ b < w.heap.size) fun b hb hl => ⟨.inr hb, hl⟩
  go_enter Try.func137, Try.ntmps137
  go_wp2_with fail
  refine wp_region_seq 10 [(0, true), (1, true), (2, true), (3, true), (4, true), (5, true), (6, true), (7, true), (8, false), (9, false), (10, false)] rfl (by kernel_rfl) (by intro _ _ d _ _ h; cases d <;> exact h) ?_
  (repeat (refine sq_take (v := ?_) rfl rfl ?_ ?_; rotate_left; (intro w' hx'; have hc' := hx'.cells.1; (try simp only [wcd] at hc'); go_simp; (first | done | with_reducible rfl)); (try simp only [Act.put, List.setIfInBounds_toArray, List.set_cons_zero, List.set_cons_succ])))
  (refine sq_loud rfl rfl fun K hK => ?_; go_simp)
  refine hK _ _ ((Ext.refl w.drew).alloc _) ?_
  clear hK K
  (try simp only [Act.put, List.setIfInBounds_toArray, List.set_cons_zero, List.set_cons_succ])
  (refine sq_loud rfl rfl fun K hK => ?_; go_simp)
  have hcv : Ext w (w.drew.alloc (.cells #[.slice cA s.cuts.length c, .slice cB o.cuts.length c'] 61)) := (by repeat (first | with_reducible assumption | with_reducible exact Ext.refl _ | with_reducible refine Ext.drewN ?_ _ | with_reducible refine Ext.drew ?_ | with_reducible refine Ext.alloc ?_ _ | (with_reducible refine Ext.setCell ?_ ?_ _; rotate_left; (first | exact Nat.le_refl _ | (dsimp only; omega) | (simp only [wsz]; omega))) | (with_reducible refine Ext.trans ?_ (by with_reducible assumption))))
  refine (concat_c (ty := 61) (l := s.cuts) (m := o.cuts) (Zp := fun b => (X b ∨ Y b) ∧ b < w.heap.size) (fun b hb => Nat.lt_of_lt_of_le hb.2 hcv.size) (Box.new_at _ _ _ rfl) (Sl.keep hc (.of_ext hcv)) (Sl.keep hc' (.of_ext hcv)) (by omega)).mono ?_
  rintro e w1 ⟨v1, rfl, hO1, hx1⟩
  have hcv1 := hcv.trans hx1
  refine hK _ _ hx1 ?_
  clear hK K
  (try simp only [Act.put, List.setIfInBounds_toArray, List.set_cons_zero, List.set_cons_succ])
  (refine sq_last rfl rfl fun K hK => ?_; go_simp; refine hK _ _ ?_; clear hK K)
  have hO2 := hO1
  have hrow := hO1.row
  have hrw : ∀ k, v1.ownBlock = some k → w.heap.size ≤ k := fun k hk => by
    have := (hrow k hk).1
    have := hcv.size
    omega
  obtain ⟨A1, c1, rfl, _⟩ := Own.sl hO2 (by omega) (X := fun _ => True) (fun _ _ => trivial)
  have hL : (s.cuts ++ o.cuts).length ≤ 2097152 := by rw [List.length_append]; omega
  obtain ⟨L, hLe⟩ : ∃ L, L = s.cuts ++ o.cuts := ⟨_, rfl⟩
  rw [← hLe] at hO2 hL hrw ⊢
  have hsort := sortz_c hO2 (by omega)
  have HL := Lib.hid hL; have HLe := Lib.hid hLe; clear hL hLe h1 h2
  clear hO1 hO2 hrow bgr bhr
  go_wp2_with fail
  refine hsort.mono ?_
  rintro e w2 ⟨rfl, l', hp, hs, hO2, hg2⟩
  have hL := HL.out
  have hl' : L.length = l'.length := hp.length_eq.symm
  rw [HLe.out] at hp
  have hm := Mrg.of hp (hs.imp fun h => Int.not_lt.2 h)
  have hx2 := hcv1.grown hg2 hrw
  rw [hl'] at hO2 hrw
  have hcom := compact_c hO2 (by omega)
  rw [hl']
  clear hs hp hL hl'
  go_wp2_with fail
  refine hcom.mono ?_
  rintro e w3 ⟨v3, rfl, hO3, hg3⟩
  have hx3 := hx2.grown hg3 hrw
  go_wp2_with fail
  go_ret
  exact ⟨v3, _, rfl, hO3.lower hcv.size, hm, hx3⟩

end Go.Proofs.Ytbblgjjomgipfaa
