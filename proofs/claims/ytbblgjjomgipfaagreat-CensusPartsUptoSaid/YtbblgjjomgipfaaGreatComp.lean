/- slices.CompactFunc at numbers. No conditions. -/
import Derived.Test.YtbblgjjomgipfaaGreatClr
import Derived.Test.YtbblgjjomgipfaaGreatGrw
namespace Go.Proofs.YtbblgjjomgipfaaGreat
open Go.RowKit Go.Shelf

/-- The first k of a row without those that say what the one ahead says. -/
def ddk (l : List Z) (k : Nat) : List Z := (List.range k).filterMap fun j => if j ≠ 0 ∧ (zth l j).v = (zth l (j - 1)).v then none else some (zth l j)
theorem ddk_hit {l : List Z} {k : Nat} (h0 : k ≠ 0) (h : (zth l k).v = (zth l (k - 1)).v) : ddk l (k + 1) = ddk l k := by
  rw [ddk, List.range_succ, List.filterMap_append, ddk, List.filterMap_cons, if_pos ⟨h0, h⟩]
  simp
theorem ddk_keep {l : List Z} {k : Nat} (h : k = 0 ∨ (zth l k).v ≠ (zth l (k - 1)).v) : ddk l (k + 1) = ddk l k ++ [zth l k] := by
  rw [ddk, List.range_succ, List.filterMap_append, ddk, List.filterMap_cons, if_neg (by rcases h with h | h <;> simp [h])]
  simp
theorem ddk_take {l : List Z} : ∀ {k : Nat}, k ≤ l.length → (∀ j, 0 < j → j < k → (zth l j).v ≠ (zth l (j - 1)).v) → ddk l k = l.take k
  | 0, _, _ => rfl
  | k + 1, hk, h => by
    rw [ddk_keep, ddk_take (by omega) (fun j h0 h1 => h j h0 (by omega)), take_zth l k (by omega)]
    rcases Nat.eq_zero_or_pos k with h0 | h0
    · exact .inl h0
    · exact .inr (h k h0 (by omega))
theorem ddk_len (l : List Z) (k : Nat) : (ddk l k).length ≤ k := by
  have := List.length_filterMap_le (fun j => if j ≠ 0 ∧ (zth l j).v = (zth l (j - 1)).v then none else some (zth l j)) (List.range k)
  rwa [List.length_range] at this

set_option maxHeartbeats 400000 in
theorem same_c {u v : Value} {x y : Z} {w : World} {X Y : Nat → Prop} (hx : Zi w X u x) (hy : Zi w Y v y) :
    Calls Tryz.prog 120 #[u, v] w fun e w' => e = .returned (.bool (cmpI x.v y.v == 0)) ∧ Ext w w' := by
  have hx0 := hx; have hy0 := hy
  have hc := fun (V : World) (hV : Ext w V) => zcmp_c (hx0.ext hV) (hy0.ext hV)
  obtain ⟨A, c, rfl, _⟩ := hx
  obtain ⟨B, d, rfl, _⟩ := hy
  go_enter Tryz.func120, Tryz.ntmps120
  go_wp2_with fail
  refine (hc _ (by repeat (first | with_reducible assumption | with_reducible exact Ext.refl _ | with_reducible refine Ext.drewN ?_ _ | with_reducible refine Ext.drew ?_ | with_reducible refine Ext.alloc ?_ _ | (with_reducible refine Ext.setCell ?_ ?_ _; rotate_left; (first | exact Nat.le_refl _ | (dsimp only; omega) | (simp only [wsz]; omega))) | (with_reducible refine Ext.trans ?_ (by with_reducible assumption))))).mono ?_
  rintro e w1 ⟨rfl, hx1⟩
  go_wp2_with fail
  go_ret
  exact ⟨rfl, Ext.trans (by repeat (first | with_reducible assumption | with_reducible exact Ext.refl _ | with_reducible refine Ext.drewN ?_ _ | with_reducible refine Ext.drew ?_ | with_reducible refine Ext.alloc ?_ _ | (with_reducible refine Ext.setCell ?_ ?_ _; rotate_left; (first | exact Nat.le_refl _ | (dsimp only; omega) | (simp only [wsz]; omega))) | (with_reducible refine Ext.trans ?_ (by with_reducible assumption)))) hx1⟩

/-- An element of a row of the call's own. -/
theorem zown_at {w : World} {Zp : Nat → Prop} {base g n c k : Nat} {e : TypeId} {l : List Z} (h : Own 2 EZ w Zp base e (.slice (some ⟨g, 0, none⟩) n c) l) (hk : k < l.length) :
    ∃ B d, w.cell? ⟨g, k * 2, none⟩ = some (.bool (zth l k).neg) ∧ w.cell? ⟨g, k * 2 + 1, none⟩ = some (.slice B (zth l k).mag.length d) ∧ Nl w (fun b => Zp b ∧ b ≠ g) B d (zth l k).mag := by
  obtain ⟨xs, h1, h2⟩ := h
  obtain ⟨B, d, hcs, hN⟩ := h2.2 k hk
  rw [← zth_eq l k hk] at hcs hN
  have hc : ∀ j u, xs[j]? = some u → w.cell? ⟨g, j, none⟩ = some u := fun j u hj => by
    have := h1.cells (g := g) rfl j u hj
    simpa [Addr.add_lit] using this
  have e0 := hc _ _ (nth_of_slice (l := [.bool (zth l k).neg, .slice B (zth l k).mag.length d]) hcs 0 (by simp))
  have e1 := hc _ _ (nth_of_slice (l := [.bool (zth l k).neg, .slice B (zth l k).mag.length d]) hcs 1 (by simp))
  exact ⟨B, d, e0, e1, hN.widen fun b hb _ => ⟨hb.1, fun e => hb.2 (by rw [e]; rfl)⟩⟩
/-- A whole number is stored. -/
theorem zown_put {w : World} {Zp : Nat → Prop} {base g n c k : Nat} {e : TypeId} {l : List Z} {z : Z} {B : Option Addr} {d : Nat} (h : Own 2 EZ w Zp base e (.slice (some ⟨g, 0, none⟩) n c) l) (hk : k < l.length)
    (hN : Nl w (fun b => Zp b ∧ b ≠ g) B d z.mag) :
    Own 2 EZ ((w.setCell ⟨g, k * 2, none⟩ (.bool z.neg)).setCell ⟨g, k * 2 + 1, none⟩ (.slice B z.mag.length d)) Zp base e (.slice (some ⟨g, 0, none⟩) n c) (l.set k z) := by
  have p0 := Own.put h (k := k) (r := 0) (u := .bool z.neg) (a' := ⟨z.neg, l[k].mag⟩) hk (by omega) (by
    rintro cs ⟨A', c', rfl, hN'⟩ _
    exact ⟨A', c', rfl, hN'⟩)
  have h1 : k < (l.set k (⟨z.neg, l[k].mag⟩ : Z)).length := by rw [List.length_set]; exact hk
  have p1 := Own.put p0 (k := k) (r := 1) (u := .slice B z.mag.length d) (a' := z) h1 (by omega) (by
    rw [List.getElem_set_self]
    rintro cs ⟨A', c', rfl, hN'⟩ _
    exact ⟨B, d, rfl, hN.keep ((Kp.refl w).setCell (fun h => h.2 rfl) _)⟩)
  rw [List.set_set] at p1
  exact p1
theorem zset_take (r : List Z) (i : Nat) (p : Z) (h : i < r.length) : (r.set i p).take (i + 1) = r.take i ++ [p] := by
  rw [List.take_succ_eq_append_getElem (by rw [List.length_set]; exact h), List.getElem_set_self]
  congr 1
  apply List.ext_getElem?
  intro k
  by_cases hk : k < i
  · rw [List.getElem?_take_of_lt hk, List.getElem?_take_of_lt hk, List.getElem?_set_ne (by omega)]
  · rw [List.getElem?_take_eq_none (by omega), List.getElem?_take_eq_none (by omega)]
theorem zset_drop (r : List Z) (i j : Nat) (p : Z) (h : i < j) : (r.set i p).drop j = r.drop j := by
  apply List.ext_getElem?
  intro k
  rw [List.getElem?_drop, List.getElem?_drop, List.getElem?_set_ne (by omega)]
theorem zth_drop {r l : List Z} {i j : Nat} (h : r.drop i = l.drop i) (hij : i ≤ j) : zth r j = zth l j := by
  unfold zth
  rw [List.getD_eq_getElem?_getD, List.getD_eq_getElem?_getD]
  have := congrArg (fun x => x[j - i]?) h
  simp only [List.getElem?_drop, show i + (j - i) = j from by omega] at this
  rw [this]
theorem zero_one2 (m : Nat) : ∀ v ∈ (Builtin.zeroCells (Value.cells (.agg #[.bool false, .slice none 0 0])) m).toList, v.oneCell' = true := by
  intro v hv
  simp only [Builtin.zeroCells, Array.toList_map, List.mem_map] at hv
  obtain ⟨i, _, rfl⟩ := hv
  have hsz : (Value.cells (.agg #[.bool false, .slice none 0 0])).size = 2 := rfl
  rw [hsz]
  have : i % 2 < 2 := Nat.mod_lt _ (by omega)
  rcases (by omega : i % 2 = 0 ∨ i % 2 = 1) with e | e <;> rw [e] <;> rfl

set_option maxHeartbeats 1600000 in
theorem compact_c {w : World} {Zp : Nat → Prop} {base : Nat} {v : Value} {l : List Z} (hO : Own 2 EZ w Zp base 25 v l) (hL : l.length ≤ 1099511627776) :
    Calls Tryz.prog 119 #[v, .func (.func 120) #[] #[]] w fun e w' => ∃ v', e = .returned v' ∧ Own 2 EZ w' Zp base 25 v' (ddk l l.length) ∧ w.grownBy w' v.ownBlock := by
  obtain ⟨A, c, rfl, hs⟩ := Own.sl hO (by omega) (X := fun c => Zp c ∨ base ≤ c) (fun c hc => hc)
  have hs : Zs w (fun c => Zp c ∨ base ≤ c) A c l := hs
  have hcl := hs.1; have hcm := hs.2.1
  simp only [maxLen] at hcm
  have eg : ∀ args w, (callFunc 120 args).run Tryz.prog w = .ok (.enter 120 args) w := enters_of Tryz.func120 (by kernel_rfl) rfl
  by_cases hshort : l.length < 2
  · have hd : ddk l l.length = l := by
      rw [ddk_take (Nat.le_refl _) (fun j h0 h1 => by omega), List.take_length]
    have h2 : (l.length : Int) < 2 := by omega
    have hd' := Lib.hid hd; clear hd
    go_enter Tryz.func119, Tryz.ntmps119
    go_wp2_with fail
    go_ret
    exact ⟨_, rfl, by rw [hd'.out]; exact hO, World.grownBy.refl _ _⟩
  · have h2 : ¬ (l.length : Int) < 2 := by omega
    obtain ⟨g, o, _, _, rfl, _⟩ := hs.at_ (k := 0) (by omega)
    obtain ⟨rfl, -, hbb, hbw⟩ := hO.adr
    go_enter Tryz.func119, Tryz.ntmps119
    go_wp2_with fail
    go_loopw [5] (fun iv wr => ∃ i : Nat, iv = .int .i64 i ∧ 0 < i ∧ i ≤ l.length ∧ Hid (∀ j, 0 < j → j < i → (zth l j).v ≠ (zth l (j - 1)).v) ∧ Own 2 EZ wr Zp base 25 (.slice (some ⟨g, 0, none⟩) l.length c) l ∧ Ext w wr) (fun iv _ => l.length - (intOf iv).toNat)
    case atStart => exact ⟨1, rfl, by omega, by omega, Lib.hid fun j _ _ => by omega, hO, (by repeat (first | with_reducible assumption | with_reducible exact Ext.refl _ | with_reducible refine Ext.drewN ?_ _ | with_reducible refine Ext.drew ?_ | with_reducible refine Ext.alloc ?_ _ | (with_reducible refine Ext.setCell ?_ ?_ _; rotate_left; (first | exact Nat.le_refl _ | (dsimp only; omega) | (simp only [wsz]; omega))) | (with_reducible refine Ext.trans ?_ (by with_reducible assumption))))⟩
    case round =>
      obtain ⟨i, rfl, h0, hi, hno, hOr, hx⟩ := hrel
      by_cases hlt : i < l.length
      · obtain ⟨B, d, q0, q1, hN⟩ := zown_at hOr hlt
        obtain ⟨i', hi'⟩ : ∃ i', i = i' + 1 := ⟨i - 1, by omega⟩
        obtain ⟨B', d', q0', q1', hN'⟩ := zown_at hOr (k := i') (by omega)
        have hgw := World.block_lt_of_cell? _ _ q0
        have hgw : g < wr.heap.size := hgw
        have il : (i : Int) < (l.length : Int) := by omega
        have il2 : (i' : Int) < (l.length : Int) := by omega
        have iw := w64n (n := i') (by omega)
        have iw2 := w64n (n := i) (by omega)
        have hcall := fun (V : World) (hV : Ext wr V) => same_c (x := zth l i) (y := zth l i') ⟨_, _, rfl, hN.ext hV⟩ ⟨_, _, rfl, hN'.ext hV⟩
        have ei : (i : Int) - 1 = (i' : Int) := by omega
        have Hi := Lib.hid hi'; clear hi'
        have hx0 := hx
        by_cases hv : (zth l i).v = (zth l i').v
        · have e1 : (cmpI (zth l i).v (zth l i').v == 0) = true := by rw [cmpI_eq hv]; rfl
          rw [e1] at hcall
          have Hv := Lib.hid hv; clear hv e1
          go_wp2_with fail
          refine wp_region_seq 11 [(0, true), (1, true), (2, true), (3, true), (4, true), (5, true), (6, true), (7, true), (8, true), (9, true), (10, false)] rfl (by kernel_rfl) (by intro _ _ d _ _ h; cases d <;> exact h) ?_
          (repeat (refine sq_take (v := ?_) rfl rfl ?_ ?_; rotate_left; (intro w' hx'; have hc' := hx'.cells.1; (try simp only [wcd] at hc'); go_simp; (first | done | with_reducible rfl)); (try simp only [Act.put, List.setIfInBounds_toArray, List.set_cons_zero, List.set_cons_succ])))
          (refine sq_loud rfl rfl fun K hK => ?_; go_simp)
          refine (hcall _ (by repeat (first | with_reducible assumption | with_reducible exact Ext.refl _ | with_reducible refine Ext.drewN ?_ _ | with_reducible refine Ext.drew ?_ | with_reducible refine Ext.alloc ?_ _ | (with_reducible refine Ext.setCell ?_ ?_ _; rotate_left; (first | exact Nat.le_refl _ | (dsimp only; omega) | (simp only [wsz]; omega))) | (with_reducible refine Ext.trans ?_ (by with_reducible assumption))))).mono ?_
          rintro e w1 ⟨rfl, hx1⟩
          (refine hK _ _ (by repeat (first | with_reducible assumption | with_reducible exact Ext.refl _ | with_reducible refine Ext.drewN ?_ _ | with_reducible refine Ext.drew ?_ | with_reducible refine Ext.alloc ?_ _ | (with_reducible refine Ext.setCell ?_ ?_ _; rotate_left; (first | exact Nat.le_refl _ | (dsimp only; omega) | (simp only [wsz]; omega))) | (with_reducible refine Ext.trans ?_ (by with_reducible assumption)))) ?_; clear hK K; (try simp only [Act.put, List.setIfInBounds_toArray, List.set_cons_zero, List.set_cons_succ]))
          refine sq_done ?_
          have hOw := hOr.ext (w' := w1) (by repeat (first | with_reducible assumption | with_reducible exact Ext.refl _ | with_reducible refine Ext.drewN ?_ _ | with_reducible refine Ext.drew ?_ | with_reducible refine Ext.alloc ?_ _ | (with_reducible refine Ext.setCell ?_ ?_ _; rotate_left; (first | exact Nat.le_refl _ | (dsimp only; omega) | (simp only [wsz]; omega))) | (with_reducible refine Ext.trans ?_ (by with_reducible assumption))))
          have hxw := hx0.trans (show Ext wr w1 from (by repeat (first | with_reducible assumption | with_reducible exact Ext.refl _ | with_reducible refine Ext.drewN ?_ _ | with_reducible refine Ext.drew ?_ | with_reducible refine Ext.alloc ?_ _ | (with_reducible refine Ext.setCell ?_ ?_ _; rotate_left; (first | exact Nat.le_refl _ | (dsimp only; omega) | (simp only [wsz]; omega))) | (with_reducible refine Ext.trans ?_ (by with_reducible assumption)))))
          clear hOr hx hcall hx1
          go_wp2_with fail
          have hHi := Hi.out
          have hst : Hid (l.take i = ddk l (i + 1)) := Lib.hid (by
            rw [ddk_hit (by omega) (by rw [show i - 1 = i' from by omega]; exact Hv.out), ddk_take hi hno.out])
          clear hHi q0 q1 q0' q1' hN hN'
          go_loopw [5, 7] (fun iv kv wz => ∃ a k : Nat, ∃ r : List Z, iv = .int .i64 a ∧ kv = .int .i64 k ∧ 0 < k ∧ a < i + k ∧ i + k ≤ l.length ∧ Hid (r.length = l.length) ∧ Hid (r.take a = ddk l (i + k)) ∧ Hid (r.drop (i + k - 1) = l.drop (i + k - 1)) ∧
            Own 2 EZ wz Zp base 25 (.slice (some ⟨g, 0, none⟩) l.length c) r ∧ w.grownBy wz (some g)) (fun _ kv _ => l.length - (intOf kv).toNat)
          case atStart => exact ⟨i, 1, l, rfl, rfl, by omega, by omega, by omega, Lib.hid rfl, hst, Lib.hid rfl, hOw, ext_then hxw (World.grownBy.refl _ _)⟩
          case round =>
            obtain ⟨a, k, r, rfl, rfl, hk0, hak, hk, hrl, hrt, hrd, hOz, hgz⟩ := hrel
            by_cases hkl : i + k < l.length
            · obtain ⟨m, hm⟩ : ∃ m, k = m + 1 := ⟨k - 1, by omega⟩
              have ek : (k : Int) - 1 = (m : Int) := by omega
              have e1 : zth r (i + k) = zth l (i + k) := zth_drop hrd.out (by omega)
              have e2 : zth r (i + m) = zth l (i + m) := zth_drop hrd.out (by omega)
              obtain ⟨B, d, q0, q1, hN⟩ := zown_at hOz (k := i + k) (by rw [hrl.out]; omega)
              obtain ⟨B', d', q0', q1', hN'⟩ := zown_at hOz (k := i + m) (by rw [hrl.out]; omega)
              rw [e1] at q0 q1 hN
              rw [e2] at q0' q1' hN'
              rw [Nat.add_mul] at q0 q1 q0' q1'
              have Hm := Lib.hid hm; clear hm e1 e2
              have hgw := World.block_lt_of_cell? _ _ q0
              have hgw : g < wr.heap.size := hgw
              have kl : (k : Int) < ((l.length - i : Nat) : Int) := by omega
              have ml : (m : Int) < ((l.length - i : Nat) : Int) := by have := Hm.out; omega
              have al : (a : Int) < (l.length : Int) := by omega
              have kw := w64n (n := k) (by omega)
              have mw := w64n (n := m) (by have := Hm.out; omega)
              have aw := w64n (n := a) (by omega)
              have hcall := fun (V : World) (hV : Ext wr V) => same_c (x := zth l (i + k)) (y := zth l (i + m)) ⟨_, _, rfl, hN.ext hV⟩ ⟨_, _, rfl, hN'.ext hV⟩
              have hki : i + k - 1 = i + m := by have := Hm.out; omega
              have Hki := Lib.hid hki; clear hki
              by_cases hv : (zth l (i + k)).v = (zth l (i + m)).v
              · have e1 : (cmpI (zth l (i + k)).v (zth l (i + m)).v == 0) = true := by rw [cmpI_eq hv]; rfl
                rw [e1] at hcall
                have Hv := Lib.hid hv; clear hv e1
                go_wp2_with fail
                refine wp_region_seq 12 [(0, true), (1, true), (2, true), (3, true), (4, true), (5, true), (6, true), (7, true), (8, true), (9, true), (10, false), (11, true)] rfl (by kernel_rfl) (by intro _ _ d _ _ h; cases d <;> exact h) ?_
                (repeat (refine sq_take (v := ?_) rfl rfl ?_ ?_; rotate_left; (intro w' hx'; have hc' := hx'.cells.1; (try simp only [wcd] at hc'); go_simp; (first | done | with_reducible rfl)); (try simp only [Act.put, List.setIfInBounds_toArray, List.set_cons_zero, List.set_cons_succ])))
                (refine sq_loud rfl rfl fun K hK => ?_; go_simp)
                refine (hcall _ (by repeat (first | with_reducible assumption | with_reducible exact Ext.refl _ | with_reducible refine Ext.drewN ?_ _ | with_reducible refine Ext.drew ?_ | with_reducible refine Ext.alloc ?_ _ | (with_reducible refine Ext.setCell ?_ ?_ _; rotate_left; (first | exact Nat.le_refl _ | (dsimp only; omega) | (simp only [wsz]; omega))) | (with_reducible refine Ext.trans ?_ (by with_reducible assumption))))).mono ?_
                rintro e w1 ⟨rfl, hx1⟩
                (refine hK _ _ (by repeat (first | with_reducible assumption | with_reducible exact Ext.refl _ | with_reducible refine Ext.drewN ?_ _ | with_reducible refine Ext.drew ?_ | with_reducible refine Ext.alloc ?_ _ | (with_reducible refine Ext.setCell ?_ ?_ _; rotate_left; (first | exact Nat.le_refl _ | (dsimp only; omega) | (simp only [wsz]; omega))) | (with_reducible refine Ext.trans ?_ (by with_reducible assumption)))) ?_; clear hK K; (try simp only [Act.put, List.setIfInBounds_toArray, List.set_cons_zero, List.set_cons_succ]))
                (repeat (refine sq_take (v := ?_) rfl rfl ?_ ?_; rotate_left; (intro w' hx'; have hc' := hx'.cells.1; (try simp only [wcd] at hc'); go_simp; (first | done | with_reducible rfl)); (try simp only [Act.put, List.setIfInBounds_toArray, List.set_cons_zero, List.set_cons_succ])))
                refine sq_done ?_
                go_wp2_with fail
                go_roundw
                case rel =>
                  refine ⟨a, k + 1, r, rfl, by go_num, by omega, by omega, by omega, hrl, Lib.hid ?_, Lib.hid ?_, hOz.ext (by repeat (first | with_reducible assumption | with_reducible exact Ext.refl _ | with_reducible refine Ext.drewN ?_ _ | with_reducible refine Ext.drew ?_ | with_reducible refine Ext.alloc ?_ _ | (with_reducible refine Ext.setCell ?_ ?_ _; rotate_left; (first | exact Nat.le_refl _ | (dsimp only; omega) | (simp only [wsz]; omega))) | (with_reducible refine Ext.trans ?_ (by with_reducible assumption)))), grown_then hgz (by repeat (first | with_reducible assumption | with_reducible exact Ext.refl _ | with_reducible refine Ext.drewN ?_ _ | with_reducible refine Ext.drew ?_ | with_reducible refine Ext.alloc ?_ _ | (with_reducible refine Ext.setCell ?_ ?_ _; rotate_left; (first | exact Nat.le_refl _ | (dsimp only; omega) | (simp only [wsz]; omega))) | (with_reducible refine Ext.trans ?_ (by with_reducible assumption))))⟩
                  · rw [← Nat.add_assoc, ddk_hit (by omega) (by rw [Hki.out]; exact Hv.out)]
                    exact hrt.out
                  · have h1 := congrArg (List.drop 1) hrd.out
                    rw [List.drop_drop, List.drop_drop] at h1
                    rw [show i + (k + 1) - 1 = i + k - 1 + 1 from by omega]
                    exact h1
                case measure => simp [intOf] <;> omega
              · have e1 : (cmpI (zth l (i + k)).v (zth l (i + m)).v == 0) = false := by
                  rw [beq_eq_false_iff_ne]; exact fun h => hv (cmpI_zero.1 h)
                rw [e1] at hcall
                have Hv := Lib.hid hv; clear hv e1
                go_wp2_with fail
                refine wp_region_seq 12 [(0, true), (1, true), (2, true), (3, true), (4, true), (5, true), (6, true), (7, true), (8, true), (9, true), (10, false), (11, true)] rfl (by kernel_rfl) (by intro _ _ d _ _ h; cases d <;> exact h) ?_
                (repeat (refine sq_take (v := ?_) rfl rfl ?_ ?_; rotate_left; (intro w' hx'; have hc' := hx'.cells.1; (try simp only [wcd] at hc'); go_simp; (first | done | with_reducible rfl)); (try simp only [Act.put, List.setIfInBounds_toArray, List.set_cons_zero, List.set_cons_succ])))
                (refine sq_loud rfl rfl fun K hK => ?_; go_simp)
                refine (hcall _ (by repeat (first | with_reducible assumption | with_reducible exact Ext.refl _ | with_reducible refine Ext.drewN ?_ _ | with_reducible refine Ext.drew ?_ | with_reducible refine Ext.alloc ?_ _ | (with_reducible refine Ext.setCell ?_ ?_ _; rotate_left; (first | exact Nat.le_refl _ | (dsimp only; omega) | (simp only [wsz]; omega))) | (with_reducible refine Ext.trans ?_ (by with_reducible assumption))))).mono ?_
                rintro e w1 ⟨rfl, hx1⟩
                (refine hK _ _ (by repeat (first | with_reducible assumption | with_reducible exact Ext.refl _ | with_reducible refine Ext.drewN ?_ _ | with_reducible refine Ext.drew ?_ | with_reducible refine Ext.alloc ?_ _ | (with_reducible refine Ext.setCell ?_ ?_ _; rotate_left; (first | exact Nat.le_refl _ | (dsimp only; omega) | (simp only [wsz]; omega))) | (with_reducible refine Ext.trans ?_ (by with_reducible assumption)))) ?_; clear hK K; (try simp only [Act.put, List.setIfInBounds_toArray, List.set_cons_zero, List.set_cons_succ]))
                (repeat (refine sq_take (v := ?_) rfl rfl ?_ ?_; rotate_left; (intro w' hx'; have hc' := hx'.cells.1; (try simp only [wcd] at hc'); go_simp; (first | done | with_reducible rfl)); (try simp only [Act.put, List.setIfInBounds_toArray, List.set_cons_zero, List.set_cons_succ])))
                refine sq_done ?_
                have hxx : Ext wr w1 := Ext.trans (by repeat (first | with_reducible assumption | with_reducible exact Ext.refl _ | with_reducible refine Ext.drewN ?_ _ | with_reducible refine Ext.drew ?_ | with_reducible refine Ext.alloc ?_ _ | (with_reducible refine Ext.setCell ?_ ?_ _; rotate_left; (first | exact Nat.le_refl _ | (dsimp only; omega) | (simp only [wsz]; omega))) | (with_reducible refine Ext.trans ?_ (by with_reducible assumption)))) hx1
                have hO3 := hOz.ext hxx
                have har : a < r.length := by rw [hrl.out]; omega
                obtain ⟨B3, d3, p0, p1, _⟩ := zown_at hO3 har
                have hfz := fun o => Own.frz hO3 o
                have q3 := (hxx.cells.1 g _ hgw).trans q0
                have q4 := (hxx.cells.1 g _ hgw).trans q1
                have hgw1 := hO3.adr.2.2.2
                have p3 := zown_put hO3 har (hN.ext hxx)
                have P3 := Lib.hid p3
                clear p3 hO3 q0 q1 q0' q1' hN hN' hcall
                go_wp2_with fail
                trace_state
                go_roundw
                case rel =>
                  refine ⟨a + 1, k + 1, r.set a (zth l (i + k)), by go_num, by go_num, by omega, by omega, by omega, Lib.hid (by rw [List.length_set]; exact hrl.out), Lib.hid ?_, Lib.hid ?_, P3.out, ?_⟩
                  · rw [zset_take r a _ har, hrt.out, ← Nat.add_assoc, ddk_keep (.inr (by rw [Hki.out]; exact Hv.out))]
                  · rw [zset_drop r a _ _ (by omega)]
                    have h1 := congrArg (List.drop 1) hrd.out
                    rw [List.drop_drop, List.drop_drop] at h1
                    rw [show i + (k + 1) - 1 = i + k - 1 + 1 from by omega]
                    exact h1
                  · exact grownBy_store (grownBy_store (grown_then hgz hxx) _ _) _ _
                case measure => simp [intOf] <;> omega
            · obtain hik : i + k = l.length := by omega
              have kl : ¬ (k : Int) < ((l.length - i : Nat) : Int) := by omega
              have al : (a : Int) < (l.length : Int) := by omega
              have ac : (a : Int) ≤ (c : Int) := by omega
              have al2 : a < l.length := by omega
              have aw := w64n (n := a) (by omega)
              have hki := Lib.hid hik; clear hik
              obtain ⟨w4, hrun, hO4, hg4⟩ := Own.clear ety_z hOz (k := a) (by rw [hrl.out]; exact al2) zero_one2 (c - a)
              rw [hrl.out] at hrun
              rw [hrt.out, hki.out] at hO4
              go_wp2_with (first
                | (at_builtin
                   refine wpList_clear (.tmp 61) rfl rfl rfl hrun ?_)
                | fail)
              go_ret
              exact ⟨_, rfl, hO4, grown_both hgz hg4⟩
        · have e1 : (cmpI (zth l i).v (zth l i').v == 0) = false := by
            rw [beq_eq_false_iff_ne]; exact fun h => hv (cmpI_zero.1 h)
          rw [e1] at hcall
          have Hv := Lib.hid hv; clear hv e1
          go_wp2_with fail
          refine wp_region_seq 11 [(0, true), (1, true), (2, true), (3, true), (4, true), (5, true), (6, true), (7, true), (8, true), (9, true), (10, false)] rfl (by kernel_rfl) (by intro _ _ d _ _ h; cases d <;> exact h) ?_
          (repeat (refine sq_take (v := ?_) rfl rfl ?_ ?_; rotate_left; (intro w' hx'; have hc' := hx'.cells.1; (try simp only [wcd] at hc'); go_simp; (first | done | with_reducible rfl)); (try simp only [Act.put, List.setIfInBounds_toArray, List.set_cons_zero, List.set_cons_succ])))
          (refine sq_loud rfl rfl fun K hK => ?_; go_simp)
          refine (hcall _ (by repeat (first | with_reducible assumption | with_reducible exact Ext.refl _ | with_reducible refine Ext.drewN ?_ _ | with_reducible refine Ext.drew ?_ | with_reducible refine Ext.alloc ?_ _ | (with_reducible refine Ext.setCell ?_ ?_ _; rotate_left; (first | exact Nat.le_refl _ | (dsimp only; omega) | (simp only [wsz]; omega))) | (with_reducible refine Ext.trans ?_ (by with_reducible assumption))))).mono ?_
          rintro e w1 ⟨rfl, hx1⟩
          (refine hK _ _ (by repeat (first | with_reducible assumption | with_reducible exact Ext.refl _ | with_reducible refine Ext.drewN ?_ _ | with_reducible refine Ext.drew ?_ | with_reducible refine Ext.alloc ?_ _ | (with_reducible refine Ext.setCell ?_ ?_ _; rotate_left; (first | exact Nat.le_refl _ | (dsimp only; omega) | (simp only [wsz]; omega))) | (with_reducible refine Ext.trans ?_ (by with_reducible assumption)))) ?_; clear hK K; (try simp only [Act.put, List.setIfInBounds_toArray, List.set_cons_zero, List.set_cons_succ]))
          refine sq_done ?_
          go_wp2_with fail
          go_roundw
          case rel =>
            refine ⟨i + 1, by go_num, by omega, by omega, Lib.hid fun j hj0 hj => ?_, hOr.ext (by repeat (first | with_reducible assumption | with_reducible exact Ext.refl _ | with_reducible refine Ext.drewN ?_ _ | with_reducible refine Ext.drew ?_ | with_reducible refine Ext.alloc ?_ _ | (with_reducible refine Ext.setCell ?_ ?_ _; rotate_left; (first | exact Nat.le_refl _ | (dsimp only; omega) | (simp only [wsz]; omega))) | (with_reducible refine Ext.trans ?_ (by with_reducible assumption)))), hx0.trans (by repeat (first | with_reducible assumption | with_reducible exact Ext.refl _ | with_reducible refine Ext.drewN ?_ _ | with_reducible refine Ext.drew ?_ | with_reducible refine Ext.alloc ?_ _ | (with_reducible refine Ext.setCell ?_ ?_ _; rotate_left; (first | exact Nat.le_refl _ | (dsimp only; omega) | (simp only [wsz]; omega))) | (with_reducible refine Ext.trans ?_ (by with_reducible assumption))))⟩
            by_cases e : j = i
            · subst e; have := Hi.out; rw [show j - 1 = i' from by omega]; exact Hv.out
            · exact hno.out j hj0 (by omega)
          case measure => simp [intOf] <;> omega
      · obtain rfl : i = l.length := by omega
        go_wp2_with fail
        go_ret
        refine ⟨_, rfl, ?_, ext_then hx (World.grownBy.refl _ _)⟩
        rw [ddk_take (Nat.le_refl _) hno.out, List.take_length]
        exact hOr

end Go.Proofs.YtbblgjjomgipfaaGreat
