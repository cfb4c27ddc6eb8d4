/- periods: what joined's function makes of two rows; what Meet says of two. No conditions. -/
import Derived.Test.YtbblgjjomgipfaaMade
import Derived.Test.YtbblgjjomgipfaaLate
namespace Go.Proofs.Ytbblgjjomgipfaa
open Go.RowKit Go.Shelf

set_option maxHeartbeats 400000 in
theorem meet1_c (x y : Bool) (w : World) :
    Calls Try.prog 123 #[.bool x, .bool y] w fun e w' => e = .returned (.bool (x && y)) ∧ Ext w w' := by
  go_enter Try.func123, Try.ntmps123
  cases x
  · go_wp2_with fail
    go_ret
    exact ⟨rfl, (by repeat (first | with_reducible assumption | with_reducible exact Ext.refl _ | with_reducible refine Ext.drewN ?_ _ | with_reducible refine Ext.drew ?_ | with_reducible refine Ext.alloc ?_ _ | (with_reducible refine Ext.setCell ?_ ?_ _; rotate_left; (first | exact Nat.le_refl _ | (dsimp only; omega) | (simp only [wsz]; omega))) | (with_reducible refine Ext.trans ?_ (by with_reducible assumption))))⟩
  · go_wp2_with fail
    go_ret
    exact ⟨by simp, (by repeat (first | with_reducible assumption | with_reducible exact Ext.refl _ | with_reducible refine Ext.drewN ?_ _ | with_reducible refine Ext.drew ?_ | with_reducible refine Ext.alloc ?_ _ | (with_reducible refine Ext.setCell ?_ ?_ _; rotate_left; (first | exact Nat.le_refl _ | (dsimp only; omega) | (simp only [wsz]; omega))) | (with_reducible refine Ext.trans ?_ (by with_reducible assumption))))⟩

/-- What f says of two rows, by a period of both. -/
def jrow (f : Bool → Bool → Bool) (a b : List Bool) (q : Nat) : List Bool := (List.range q).map fun j => f (bth a (j % a.length)) (bth b (j % b.length))
theorem jrow_len (f : Bool → Bool → Bool) (a b : List Bool) (q : Nat) : (jrow f a b q).length = q := by simp [jrow]
theorem lng_at {r : List Bool} {q j : Nat} (h : j < q) : bth (lng r q) j = bth r (j % r.length) := by
  rw [bth_eq _ _ (by rw [lng_len]; exact h)]
  simp [lng]
theorem jrow_at {f : Bool → Bool → Bool} {a b : List Bool} {q j : Nat} (h : j < q) : bth (jrow f a b q) j = f (bth a (j % a.length)) (bth b (j % b.length)) := by
  rw [bth_eq _ _ (by rw [jrow_len]; exact h)]
  simp [jrow]
theorem bset_take (r : List Bool) (i : Nat) (p : Bool) (h : i < r.length) : (r.set i p).take (i + 1) = r.take i ++ [p] := by
  rw [List.take_succ_eq_append_getElem (by rw [List.length_set]; exact h), List.getElem_set_self]
  congr 1
  apply List.ext_getElem?
  intro k
  by_cases hk : k < i
  · rw [List.getElem?_take_of_lt hk, List.getElem?_take_of_lt hk, List.getElem?_set_ne (by omega)]
  · rw [List.getElem?_take_eq_none (by omega), List.getElem?_take_eq_none (by omega)]
theorem bset_drop (r : List Bool) (i j : Nat) (p : Bool) (h : i < j) : (r.set i p).drop j = r.drop j := by
  apply List.ext_getElem?
  intro k
  rw [List.getElem?_drop, List.getElem?_drop, List.getElem?_set_ne (by omega)]
theorem take_bth (l : List Bool) (k : Nat) (h : k < l.length) : l.take (k + 1) = l.take k ++ [bth l k] := by
  rw [bth_eq l k h]; exact List.take_succ_eq_append_getElem h
theorem bth_drop {r l : List Bool} {i : Nat} (h : r.drop i = l.drop i) {j : Nat} (hij : i ≤ j) : bth r j = bth l j := by
  unfold bth
  rw [List.getD_eq_getElem?_getD, List.getD_eq_getElem?_getD]
  have := congrArg (fun x => x[j - i]?) h
  simp only [List.getElem?_drop, show i + (j - i) = j from by omega] at this
  rw [this]
/-- An element of a row of the call's own. -/
theorem bown_at {w : World} {Zp : Nat → Prop} {base g n c k : Nat} {e : TypeId} {l : List Bool} (h : Own 1 EB w Zp base e (.slice (some ⟨g, 0, none⟩) n c) l) (hk : k < l.length) : w.cell? ⟨g, k, none⟩ = some (.bool (bth l k)) := by
  obtain ⟨A, d, e1, h1⟩ := Own.sl h (by omega) (X := fun _ => True) (fun _ _ => trivial)
  injection e1 with e1
  subst e1
  obtain ⟨b, o, e2, _, h2⟩ := Rl.at_ h1 hk
  injection e2 with e2
  injection e2 with e2 e3
  subst e2; subst e3
  simpa using h2
theorem bown_put {w : World} {Zp : Nat → Prop} {base g n c k : Nat} {e : TypeId} {l : List Bool} {b : Bool} (h : Own 1 EB w Zp base e (.slice (some ⟨g, 0, none⟩) n c) l) (hk : k < l.length) :
    Own 1 EB (w.setCell ⟨g, k, none⟩ (.bool b)) Zp base e (.slice (some ⟨g, 0, none⟩) n c) (l.set k b) := by
  have p0 := Own.put h (k := k) (r := 0) (u := .bool b) (a' := b) hk (by omega) (by
    intro cs h1 _
    unfold EB at h1 ⊢
    subst h1
    rfl)
  simpa using p0

set_option maxRecDepth 100000 in
set_option maxHeartbeats 3200000 in
theorem jrow_c {b3 b8 b4 b5 g h i k q fi : Nat} {y3 y8 y4 y5 : TypeId} {s o : Ps} {w : World} {X Y : Nat → Prop} {f : Bool → Bool → Bool} (hs : SetV w X g s) (ho : SetV w Y h o)
    (c3 : Box w b3 y3 #[.pointer (some ⟨g, 0, none⟩)]) (c8 : Box w b8 y8 #[.int .i64 (q : Nat)]) (c4 : Box w b4 y4 #[.pointer (some ⟨h, 0, none⟩)]) (c5 : Box w b5 y5 #[.func (.func fi) #[] #[]])
    (eg : ∀ args w, (callFunc fi args).run Try.prog w = .ok (.enter fi args) w) (hf : ∀ x y W, Calls Try.prog fi #[.bool x, .bool y] W fun e w' => e = .returned (.bool (f x y)) ∧ Ext W w')
    (hi : i < s.rows.length) (hk : k < o.rows.length) (h1 : 0 < (rth s.rows i).length) (h2 : 0 < (rth o.rows k).length) (d1 : (rth s.rows i).length ∣ q) (d2 : (rth o.rows k).length ∣ q) (hq : q ≤ 16777216) :
    Calls Try.prog 135 #[.int .i64 (i : Nat), .int .i64 (k : Nat), .pointer (some ⟨b3, 0, none⟩), .pointer (some ⟨b8, 0, none⟩), .pointer (some ⟨b4, 0, none⟩), .pointer (some ⟨b5, 0, none⟩)] w fun e w' =>
      ∃ A, e = .returned (.slice A q q) ∧ Rl w' (w.heap.size ≤ ·) A q (jrow f (rth s.rows i) (rth o.rows k) q) ∧ Ext w w' := by
  obtain ⟨cA, c, rA, d, hb, hX, hc, hr⟩ := hs
  obtain ⟨cB, c', rB, d', hb', hX', hc', hr'⟩ := ho
  obtain ⟨e1, o1, R1, m1, rfl, -, x1, hR1⟩ := hr.at_ hi
  obtain ⟨e2, o2, R2, m2, rfl, -, x2, hR2⟩ := hr'.at_ hk
  have xl1 := World.block_lt_of_cell? _ _ x1
  have xl2 := World.block_lt_of_cell? _ _ x2
  have hl1 := fun (V : World) (hV : Ext w V) => long_c (Sl.keep hR1 (.of_ext hV)) h1 d1 hq
  have hl2 := fun (V : World) (hV : Ext w V) => long_c (Sl.keep hR2 (.of_ext hV)) h2 d2 hq
  have bgr := hb.rules; have bgl := hb.lt
  have bhr := hb'.rules; have bhl := hb'.lt
  have r3 := c3.rules; have l3 := c3.lt
  have r4 := c4.rules; have l4 := c4.lt
  have r5 := c5.rules; have l5 := c5.lt
  have r8 := c8.rules; have l8 := c8.lt
  have i1 : (i : Int) < (s.rows.length : Int) := by omega
  have i2 : (k : Int) < (o.rows.length : Int) := by omega
  have HA : Hid (jrow f (rth s.rows i) (rth o.rows k) q = (List.range q).map fun j => f (bth (lng (rth s.rows i) q) j) (bth (lng (rth o.rows k) q) j)) := Lib.hid (by
    unfold jrow
    apply List.map_congr_left
    intro j hj
    rw [List.mem_range] at hj
    rw [lng_at hj, lng_at hj])
  obtain ⟨a, ha⟩ : ∃ a, a = rth s.rows i := ⟨_, rfl⟩
  obtain ⟨b, hbb⟩ : ∃ b, b = rth o.rows k := ⟨_, rfl⟩
  rw [← ha] at x1 hl1
  rw [← hbb] at x2 hl2
  obtain ⟨la, hla⟩ : ∃ la, la = lng a q := ⟨_, rfl⟩
  obtain ⟨lb, hlb⟩ : ∃ lb, lb = lng b q := ⟨_, rfl⟩
  have hla1 : la.length = q := by rw [hla, lng_len]
  have hlb1 : lb.length = q := by rw [hlb, lng_len]
  rw [← hla] at hl1
  rw [← hlb] at hl2
  rw [← ha, ← hbb] at HA
  rw [← hla, ← hlb] at HA
  have hA' := Lib.hid hla1; have hB' := Lib.hid hlb1
  rw [← ha, ← hbb]
  clear hla hlb ha hbb hla1 hlb1 hR1 hR2 hr hr' hc hc' hX hX' d1 d2 h1 h2
  go_enter Try.func135, Try.ntmps135
  go_wp2_with fail
  refine wp_region_late [(0, true), (1, true), (2, true), (3, true), (4, true), (5, true), (6, true), (7, true), (9, true), (10, true), (11, true), (12, true), (13, true), (14, true), (15, true), (16, true), (8, false), (17, false)] [18, 19] rfl (by kernel_rfl) (by intro _ _ d _ _ h; cases d <;> exact h) ?_
  (repeat (refine sh_take (v := ?_) rfl rfl ?_ ?_; rotate_left; (intro w' hx'; have hc' := hx'.cells.1; (try simp only [wcd] at hc'); go_simp; (first | done | with_reducible rfl)); (try simp only [Act.put, List.setIfInBounds_toArray, List.set_cons_zero, List.set_cons_succ])))
  (refine sh_loud rfl rfl fun K hK => ?_; go_simp)
  refine (hl1 _ (by repeat (first | with_reducible assumption | with_reducible exact Ext.refl _ | with_reducible refine Ext.drewN ?_ _ | with_reducible refine Ext.drew ?_ | with_reducible refine Ext.alloc ?_ _ | (with_reducible refine Ext.setCell ?_ ?_ _; rotate_left; (first | exact Nat.le_refl _ | (dsimp only; omega) | (simp only [wsz]; omega))) | (with_reducible refine Ext.trans ?_ (by with_reducible assumption))))).mono ?_
  rintro e w1 ⟨g1, rfl, hO1, hx1⟩
  (refine hK _ _ (by repeat (first | with_reducible assumption | with_reducible exact Ext.refl _ | with_reducible refine Ext.drewN ?_ _ | with_reducible refine Ext.drew ?_ | with_reducible refine Ext.alloc ?_ _ | (with_reducible refine Ext.setCell ?_ ?_ _; rotate_left; (first | exact Nat.le_refl _ | (dsimp only; omega) | (simp only [wsz]; omega))) | (with_reducible refine Ext.trans ?_ (by with_reducible assumption)))) ?_; clear hK K; (try simp only [Act.put, List.setIfInBounds_toArray, List.set_cons_zero, List.set_cons_succ]))
  (refine sh_loud rfl rfl fun K hK => ?_; go_simp)
  have hx01 : Ext w w1 := (by repeat (first | with_reducible assumption | with_reducible exact Ext.refl _ | with_reducible refine Ext.drewN ?_ _ | with_reducible refine Ext.drew ?_ | with_reducible refine Ext.alloc ?_ _ | (with_reducible refine Ext.setCell ?_ ?_ _; rotate_left; (first | exact Nat.le_refl _ | (dsimp only; omega) | (simp only [wsz]; omega))) | (with_reducible refine Ext.trans ?_ (by with_reducible assumption))))
  refine (hl2 _ hx01).mono ?_
  rintro e w2 ⟨g2, rfl, hO2, hx2⟩
  (refine hK _ _ (by repeat (first | with_reducible assumption | with_reducible exact Ext.refl _ | with_reducible refine Ext.drewN ?_ _ | with_reducible refine Ext.drew ?_ | with_reducible refine Ext.alloc ?_ _ | (with_reducible refine Ext.setCell ?_ ?_ _; rotate_left; (first | exact Nat.le_refl _ | (dsimp only; omega) | (simp only [wsz]; omega))) | (with_reducible refine Ext.trans ?_ (by with_reducible assumption)))) ?_; clear hK K; (try simp only [Act.put, List.setIfInBounds_toArray, List.set_cons_zero, List.set_cons_succ]))
  refine sh_done ?_
  have hx02 := hx01.trans hx2
  have hO1 := (hO1.ext hx2).lower (b2 := w.heap.size) (by simp only [wsz]; omega)
  have hO2' := hO2.lower (b2 := w.heap.size) hx01.size
  have r8' := (c8.ext hx02).rules; have l8' := (c8.ext hx02).lt
  clear hl1 hl2 bgr bhr r3 r4 r5 r8 hb hb' c3 c4 hO2
  (refine sh_late rfl rfl fun K hK => ?_; go_simp; refine hK _ _ ?_; clear hK K)
  (refine sh_late rfl rfl fun K hK => ?_; go_simp; refine hK _ _ ?_; clear hK K)
  refine sh_end ?_
  go_wp2_with fail
  have hg1 := hO1.adr; have hg2 := hO2'.adr
  have hc2 : ∀ j, j < q → w2.cell? ⟨g2, j, none⟩ = some (.bool (bth lb j)) := fun j hj => bown_at hO2' (by rw [hB'.out]; exact hj)
  have hg1b := hg1.2.2.1; have hg2b := hg2.2.2.1; have hg2l := hg2.2.2.2
  have Hc2 := Lib.hid hc2
  clear hg1 hg2 hc2 r8'
  go_loopw [31] (fun iv wr => ∃ n : Nat, ∃ r : List Bool, n ≤ q ∧ iv = .int .i64 n ∧ Own 1 EB wr (fun _ => False) w.heap.size 4 (.slice (some ⟨g1, 0, none⟩) q q) r ∧ Hid (r.length = q) ∧
    Hid (r.take n = ((List.range q).map fun j => f (bth la j) (bth lb j)).take n) ∧ Hid (r.drop n = la.drop n) ∧ Hid (∀ j, n ≤ j → j < q → wr.cell? ⟨g2, j, none⟩ = some (.bool (bth lb j))) ∧ Ext w wr ∧ g2 < wr.heap.size) (fun iv _ => q - (intOf iv).toNat)
  case atStart => exact ⟨0, la, Nat.zero_le _, rfl, hO1, hA', Lib.hid (by simp), Lib.hid rfl, Lib.hid fun j _ hj => Hc2.out j hj, hx02, hg2l⟩
  case round =>
    obtain ⟨n, r, hn, rfl, hO, hrl, hrt, hrd, hcl, hx, hgl⟩ := hrel
    have hgl2 : g2 < wr.heap.size := hgl
    by_cases hlt : n < q
    · have nl : (n : Int) < (q : Int) := by omega
      have hnr : n < r.length := by rw [hrl.out]; exact hlt
      have z1 := bown_at hO hnr
      rw [bth_drop hrd.out (Nat.le_refl _)] at z1
      have z2 := hcl.out n (Nat.le_refl _) hlt
      have hg1l := hO.adr.2.2.2
      have r5 := (c5.ext hx).rules; have l5' := (c5.ext hx).lt
      have hcall := hf (bth la n) (bth lb n)
      have Hf := Lib.hid hf
      clear hf
      go_wp2_with fail
      refine wp_region_late [(0, true), (1, true), (2, true), (3, true), (4, true), (5, true), (6, true), (7, true), (8, true), (9, true), (10, true), (11, false)] [12, 13] rfl (by kernel_rfl) (by intro _ _ d _ _ h; cases d <;> exact h) ?_
      (repeat (refine sh_take (v := ?_) rfl rfl ?_ ?_; rotate_left; (intro w' hx'; have hc' := hx'.cells.1; (try simp only [wcd] at hc'); go_simp; (first | done | with_reducible rfl)); (try simp only [Act.put, List.setIfInBounds_toArray, List.set_cons_zero, List.set_cons_succ])))
      (refine sh_loud rfl rfl fun K hK => ?_; go_simp)
      refine (hcall _).mono ?_
      rintro e w3 ⟨rfl, hx3⟩
      have hxx : Ext wr w3 := (by repeat (first | with_reducible assumption | with_reducible exact Ext.refl _ | with_reducible refine Ext.drewN ?_ _ | with_reducible refine Ext.drew ?_ | with_reducible refine Ext.alloc ?_ _ | (with_reducible refine Ext.setCell ?_ ?_ _; rotate_left; (first | exact Nat.le_refl _ | (dsimp only; omega) | (simp only [wsz]; omega))) | (with_reducible refine Ext.trans ?_ (by with_reducible assumption))))
      (refine hK _ _ (by repeat (first | with_reducible assumption | with_reducible exact Ext.refl _ | with_reducible refine Ext.drewN ?_ _ | with_reducible refine Ext.drew ?_ | with_reducible refine Ext.alloc ?_ _ | (with_reducible refine Ext.setCell ?_ ?_ _; rotate_left; (first | exact Nat.le_refl _ | (dsimp only; omega) | (simp only [wsz]; omega))) | (with_reducible refine Ext.trans ?_ (by with_reducible assumption)))) ?_; clear hK K; (try simp only [Act.put, List.setIfInBounds_toArray, List.set_cons_zero, List.set_cons_succ]))
      refine sh_done ?_
      have hO3 := hO.ext hxx
      have hfz := fun o => Own.frz hO3 o
      have z3 := (hxx.cells.1 g1 _ hg1l).trans z1
      have hg1l3 := Nat.lt_of_lt_of_le hg1l hxx.size
      clear r5 z1 z2
      (refine sh_late rfl rfl fun K hK => ?_; go_simp; refine hK _ _ ?_; clear hK K)
      (refine sh_late rfl rfl fun K hK => ?_; go_simp; refine hK _ _ ?_; clear hK K)
      refine sh_end ?_
      go_wp2_with fail
      go_roundw
      case rel =>
        refine ⟨n + 1, r.set n (f (bth la n) (bth lb n)), by omega, by go_num, bown_put hO3 hnr, Lib.hid (by rw [List.length_set]; exact hrl.out), Lib.hid ?_, Lib.hid ?_, Lib.hid fun j hj1 hj2 => ?_, (hx.trans hxx).setCell hg1b _, by rw [World.size_setCell]; exact Nat.lt_of_lt_of_le hgl2 hxx.size⟩
        · rw [bset_take r n _ hnr, hrt.out, List.take_succ_eq_append_getElem (l := List.map _ _) (by simpa using hlt)]
          simp
        · rw [bset_drop r n _ _ (by omega), ← List.drop_drop, ← List.drop_drop, hrd.out]
        · rw [World.cell?_setCell_other _ _ _ _ (fun e => by injection e with e1 e2; omega), hxx.cells.1 g2 _ hgl2]
          exact hcl.out j (by omega) hj2
      case measure => simp [intOf] <;> omega
    · obtain rfl : n = q := by omega
      go_wp2_with fail
      go_ret
      obtain ⟨A1, d1, e1, h1⟩ := Own.sl hO (by omega) (X := (w.heap.size ≤ ·)) (fun _ h => h.elim (fun h => h.elim) id)
      injection e1 with e1 e2 e3
      subst e3
      have e4 : r = jrow f a b n := by
        have h2 := hrt.out
        rw [List.take_of_length_le (by rw [hrl.out]; exact Nat.le_refl _), List.take_of_length_le (by simp)] at h2
        rw [h2, HA.out]
      rw [e4] at h1
      exact ⟨_, rfl, by rw [e1]; exact h1, hx⟩

end Go.Proofs.Ytbblgjjomgipfaa
