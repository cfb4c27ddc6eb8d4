/- periods: at, Has, Period. No conditions. -/
import Derived.Test.YtbblgjjomgipfaaGreatSet
namespace Go.Proofs.YtbblgjjomgipfaaGreat
open Go.RowKit Go.Shelf

theorem lbd_below : ∀ {l : List Int} {x : Int} {j : Nat} (h : j < l.length), j < lbd l x → l[j] < x
  | c :: r, x, 0, _, hj => by
    unfold lbd at hj
    split at hj
    · assumption
    · omega
  | c :: r, x, j + 1, h, hj => by
    unfold lbd at hj
    split at hj
    · exact lbd_below (l := r) (j := j) (by simpa using h) (by omega)
    · omega
theorem lbd_above : ∀ {l : List Int} {x : Int} {j : Nat} (_ : Ris l) (h : j < l.length), lbd l x ≤ j → x ≤ l[j]
  | c :: r, x, 0, hr, _, hj => by
    unfold lbd at hj
    split at hj
    · omega
    · show x ≤ c
      omega
  | c :: r, x, j + 1, hr, h, hj => by
    obtain ⟨h1, h2⟩ := List.pairwise_cons.1 hr
    unfold lbd at hj
    split at hj
    · exact lbd_above (l := r) (j := j) h2 (by simpa using h) (by omega)
    · have hj2 : j < r.length := by simpa using h
      have := h1 r[j] (List.getElem_mem hj2)
      show x ≤ r[j]
      omega
/-- In which row x is: so many cuts are not above it. -/
def plc (l : List Int) (x : Int) : Nat := lbd l (x + 1)
theorem plc_eq {l : List Int} (h : Ris l) (x : Int) : plc l x = lbd l x + (if fnd l x then 1 else 0) := by
  have hle := lbd_le l x
  unfold plc fnd
  by_cases hf : l[lbd l x]? = some x
  · simp only [hf, decide_true, if_true]
    obtain ⟨hp, he⟩ := List.getElem?_eq_some_iff.1 hf
    refine lbd_eq (by omega) (fun j hj hjp => ?_) (fun j hj hjp => ?_)
    · rcases Nat.lt_or_ge j (lbd l x) with h1 | h1
      · have := lbd_below hj h1; omega
      · obtain rfl : j = lbd l x := by omega
        omega
    · have := h.lt hp hj (by omega)
      omega
  · simp only [hf, decide_false, Bool.false_eq_true, if_false, Nat.add_zero]
    refine lbd_eq hle (fun j hj hjp => ?_) (fun j hj hjp => ?_)
    · have := lbd_below hj hjp; omega
    · have h1 := lbd_above h hj hjp
      rcases Nat.lt_or_ge (lbd l x) j with h2 | h2
      · have h3 := h.lt (by omega) hj h2
        have h4 := lbd_above (x := x) (j := lbd l x) h (by omega) (Nat.le_refl _)
        omega
      · obtain rfl : j = lbd l x := by omega
        rw [List.getElem?_eq_getElem hj] at hf
        have : l[lbd l x] ≠ x := fun e => hf (by rw [e])
        omega
theorem plc_le (l : List Int) (x : Int) : plc l x ≤ l.length := lbd_le _ _

set_option maxHeartbeats 1600000 in
theorem at_set_c {v : Value} {z : Z} {g : Nat} {s : Ps} {w : World} {X Y : Nat → Prop} (h : SetV w X g s) (hz : Zi w Y v z) (hs : Ris (zv s.cuts)) (hl : s.cuts.length ≤ 1099511627776) :
    Calls Tryz.prog 53 #[.pointer (some ⟨g, 0, none⟩), v] w fun e w' => e = .returned (.int .i64 (plc (zv s.cuts) z.v : Nat)) ∧ Ext w w' := by
  have hpe := Lib.hid (plc_eq hs z.v)
  have hlb := lbd_le (zv s.cuts) z.v
  rw [zv_len] at hlb
  have hzi := hz
  obtain ⟨cA, c, rA, d, hb, hX, hc, hr⟩ := h
  obtain ⟨B, d2, rfl, hz⟩ := hz
  go_enter Tryz.func53, Tryz.ntmps53
  go_wp2_with fail
  refine wp_named fun W hW => ?_
  have b3 : Box W w.heap.size 25 #[.bool z.neg, .slice B z.mag.length d2] := by rw [hW]; exact (by repeat (first | with_reducible assumption | with_reducible exact Box.new _ _ _ | (with_reducible refine Box.new_at _ _ _ ?_; (simp only [wsz]; done)) | with_reducible refine Box.drewN ?_ _ | with_reducible refine Box.drew ?_ | with_reducible refine Box.alloc ?_ _ | with_reducible apply Box.drewN | with_reducible apply Box.drew | with_reducible apply Box.alloc | with_reducible refine Box.set_ ?_ _ _ | (with_reducible refine Box.far ?_ ?_ _; rotate_left; (simp only [ne_eq]; omega)) | (with_reducible refine Box.ext ?_ (by with_reducible assumption)) | (refine Box.new_at _ _ _ ?_; simp only [wsz]; done)))
  have hE : Ext w W := by rw [hW]; exact (by repeat (first | with_reducible assumption | with_reducible exact Ext.refl _ | with_reducible refine Ext.drewN ?_ _ | with_reducible refine Ext.drew ?_ | with_reducible refine Ext.alloc ?_ _ | (with_reducible refine Ext.setCell ?_ ?_ _; rotate_left; (first | exact Nat.le_refl _ | (dsimp only; omega) | (simp only [wsz]; omega))) | (with_reducible refine Ext.trans ?_ (by with_reducible assumption))))
  clear hW
  have bg := hb.ext hE
  have b3r := b3.rules; have b3l := b3.lt
  have bgr := bg.rules; have bgl := bg.lt
  have hcall := fun (V : World) (hV : Ext W V) => bsearch_c (hc.ext (hE.trans hV)) (hzi.ext (hE.trans hV)) hs hl
  obtain ⟨p, hp⟩ : ∃ p, p = lbd (zv s.cuts) z.v := ⟨_, rfl⟩
  obtain ⟨f, hf⟩ : ∃ f, f = fnd (zv s.cuts) z.v := ⟨_, rfl⟩
  rw [← hp] at hcall hlb
  rw [← hf] at hcall
  rw [← hp, ← hf] at hpe
  clear hp hf
  refine wp_region_seq 10 [(0, true), (1, true), (2, true), (3, true), (4, true), (5, false), (6, true), (7, true), (8, true), (9, false), (10, false)] rfl (by kernel_rfl) (by intro _ _ d _ _ h; cases d <;> exact h) ?_
  (repeat (refine sq_take (v := ?_) rfl rfl ?_ ?_; rotate_left; (intro w' hx'; have hc' := hx'.cells.1; (try simp only [wcd] at hc'); go_simp; (first | done | with_reducible rfl)); (try simp only [Act.put, List.setIfInBounds_toArray, List.set_cons_zero, List.set_cons_succ])))
  (refine sq_loud rfl rfl fun K hK => ?_; go_simp)
  refine (hcall _ (by repeat (first | with_reducible assumption | with_reducible exact Ext.refl _ | with_reducible refine Ext.drewN ?_ _ | with_reducible refine Ext.drew ?_ | with_reducible refine Ext.alloc ?_ _ | (with_reducible refine Ext.setCell ?_ ?_ _; rotate_left; (first | exact Nat.le_refl _ | (dsimp only; omega) | (simp only [wsz]; omega))) | (with_reducible refine Ext.trans ?_ (by with_reducible assumption))))).mono ?_
  rintro e w1 ⟨rfl, hx1⟩
  (refine hK _ _ (by repeat (first | with_reducible assumption | with_reducible exact Ext.refl _ | with_reducible refine Ext.drewN ?_ _ | with_reducible refine Ext.drew ?_ | with_reducible refine Ext.alloc ?_ _ | (with_reducible refine Ext.setCell ?_ ?_ _; rotate_left; (first | exact Nat.le_refl _ | (dsimp only; omega) | (simp only [wsz]; omega))) | (with_reducible refine Ext.trans ?_ (by with_reducible assumption)))) ?_; clear hK K; (try simp only [Act.put, List.setIfInBounds_toArray, List.set_cons_zero, List.set_cons_succ]))
  (repeat (refine sq_take (v := ?_) rfl rfl ?_ ?_; rotate_left; (intro w' hx'; have hc' := hx'.cells.1; (try simp only [wcd] at hc'); go_simp; (first | done | with_reducible rfl)); (try simp only [Act.put, List.setIfInBounds_toArray, List.set_cons_zero, List.set_cons_succ])))
  (refine sq_loud rfl rfl fun K hK => ?_; go_simp)
  (refine hK _ _ (by repeat (first | with_reducible assumption | with_reducible exact Ext.refl _ | with_reducible refine Ext.drewN ?_ _ | with_reducible refine Ext.drew ?_ | with_reducible refine Ext.alloc ?_ _ | (with_reducible refine Ext.setCell ?_ ?_ _; rotate_left; (first | exact Nat.le_refl _ | (dsimp only; omega) | (simp only [wsz]; omega))) | (with_reducible refine Ext.trans ?_ (by with_reducible assumption)))) ?_; clear hK K; (try simp only [Act.put, List.setIfInBounds_toArray, List.set_cons_zero, List.set_cons_succ]))
  (refine sq_last rfl rfl fun K hK => ?_; go_simp; refine hK _ _ ?_; clear hK K)
  have hEw : Ext w w1 := hE.trans (by repeat (first | with_reducible assumption | with_reducible exact Ext.refl _ | with_reducible refine Ext.drewN ?_ _ | with_reducible refine Ext.drew ?_ | with_reducible refine Ext.alloc ?_ _ | (with_reducible refine Ext.setCell ?_ ?_ _; rotate_left; (first | exact Nat.le_refl _ | (dsimp only; omega) | (simp only [wsz]; omega))) | (with_reducible refine Ext.trans ?_ (by with_reducible assumption))))
  clear hcall b3r bgr
  cases f
  · go_wp2_with fail
    go_ret
    exact ⟨ret_int (by rw [hpe.out]; simp), hEw⟩
  · go_wp2_with fail
    go_ret
    exact ⟨ret_int (by rw [hpe.out]; simp), hEw⟩

theorem period_set_c {g : Nat} {s : Ps} {w : World} {X : Nat → Prop} (h : SetV w X g s) :
    Calls Tryz.prog 80 #[.pointer (some ⟨g, 0, none⟩)] w fun e w' => e = .returned (.int .i64 (s.per : Nat)) ∧ Ext w w' := by
  obtain ⟨cA, c, rA, d, hb, hX, hc, hr⟩ := h
  have bgr := hb.rules; have bgl := hb.lt
  go_enter Tryz.func80, Tryz.ntmps80
  go_wp2_with fail
  go_ret
  exact ⟨rfl, (by repeat (first | with_reducible assumption | with_reducible exact Ext.refl _ | with_reducible refine Ext.drewN ?_ _ | with_reducible refine Ext.drew ?_ | with_reducible refine Ext.alloc ?_ _ | (with_reducible refine Ext.setCell ?_ ?_ _; rotate_left; (first | exact Nat.le_refl _ | (dsimp only; omega) | (simp only [wsz]; omega))) | (with_reducible refine Ext.trans ?_ (by with_reducible assumption))))⟩

/-- It is one that the package makes. -/
structure Ps.ok (s : Ps) (N : Nat) : Prop where
  per0 : 0 < s.per
  per1 : s.per ≤ 4096
  rows : s.rows.length = s.cuts.length + 1
  row : ∀ r ∈ s.rows, r.length = s.per
  ris : Ris (zv s.cuts)
  len : s.cuts.length ≤ 1048576
  cut : ∀ c ∈ s.cuts, c.mag.length ≤ N ∧ cz c.v = c
def Ps.has (s : Ps) (x : Int) : Bool := bth (rth s.rows (plc (zv s.cuts) x)) (x % (s.per : Int)).toNat

set_option maxHeartbeats 3200000 in
theorem has_c {v : Value} {z : Z} {g : Nat} {s : Ps} {w : World} {X Y : Nat → Prop} {N : Nat} (h : SetV w X g s) (hs : s.ok N) (hz : Zi w Y v z) (hL : z.mag.length ≤ 1099511627776) :
    Calls Tryz.prog 18 #[.pointer (some ⟨g, 0, none⟩), v] w fun e w' => e = .returned (.bool (s.has z.v)) ∧ Ext w w' := by
  have hset := h
  have hzi := hz
  obtain ⟨cA, c, rA, d, hb, hX, hc, hr⟩ := h
  have p0 := hs.per0; have p1 := hs.per1; have hrl := hs.rows; have hcl := hs.len
  have hplc := plc_le (zv s.cuts) z.v
  rw [zv_len] at hplc
  have hlt := Int.emod_lt_of_pos z.v (show (0 : Int) < (s.per : Int) by omega)
  have hge := Int.emod_nonneg z.v (show (s.per : Int) ≠ 0 by omega)
  have hat := fun (V : World) (hV : Ext w V) => at_set_c (hset.ext hV) (hzi.ext hV) hs.ris (by omega)
  have hle := fun (V : World) (hV : Ext w V) => left_c (hzi.ext hV) hL p0 (by omega)
  obtain ⟨q, hq⟩ : ∃ q, q = plc (zv s.cuts) z.v := ⟨_, rfl⟩
  obtain ⟨m, hm⟩ : ∃ m : Nat, (m : Int) = z.v % (s.per : Int) := ⟨(z.v % (s.per : Int)).toNat, by omega⟩
  have hhas : s.has z.v = bth (rth s.rows q) m := by
    unfold Ps.has
    rw [← hq, ← hm]
    congr 1
  rw [hhas]
  rw [← hq] at hat hplc
  rw [← hm] at hle hlt
  clear hq hm hhas hge
  have hrow : (rth s.rows q).length = s.per := by
    rw [rth_eq _ _ (by omega)]
    exact hs.row _ (List.getElem_mem _)
  have hml : m < (rth s.rows q).length := by omega
  obtain ⟨b, o, B', d', rfl, hXr, hc0, hrl2⟩ := hr.at_ (k := q) (by omega)
  obtain ⟨b2, o2, rfl, hXb, hc1⟩ := hrl2.at_ hml
  have hbl := World.block_lt_of_cell? _ _ hc0
  have hbl2 := World.block_lt_of_cell? _ _ hc1
  have iq : (q : Int) < (s.rows.length : Int) := by omega
  have im : (m : Int) < ((rth s.rows q).length : Int) := by omega
  have ir : 0 < s.rows.length := by omega
  have irn : s.rows ≠ [] := List.ne_nil_of_length_pos ir
  clear hrl hrow hcl
  obtain ⟨B, d2, rfl, hz⟩ := hz
  go_enter Tryz.func18, Tryz.ntmps18
  go_wp2_with fail
  refine wp_named fun W hW => ?_
  have b3 : Box W w.heap.size 25 #[.bool z.neg, .slice B z.mag.length d2] := by rw [hW]; exact (by repeat (first | with_reducible assumption | with_reducible exact Box.new _ _ _ | (with_reducible refine Box.new_at _ _ _ ?_; (simp only [wsz]; done)) | with_reducible refine Box.drewN ?_ _ | with_reducible refine Box.drew ?_ | with_reducible refine Box.alloc ?_ _ | with_reducible apply Box.drewN | with_reducible apply Box.drew | with_reducible apply Box.alloc | with_reducible refine Box.set_ ?_ _ _ | (with_reducible refine Box.far ?_ ?_ _; rotate_left; (simp only [ne_eq]; omega)) | (with_reducible refine Box.ext ?_ (by with_reducible assumption)) | (refine Box.new_at _ _ _ ?_; simp only [wsz]; done)))
  have hE : Ext w W := by rw [hW]; exact (by repeat (first | with_reducible assumption | with_reducible exact Ext.refl _ | with_reducible refine Ext.drewN ?_ _ | with_reducible refine Ext.drew ?_ | with_reducible refine Ext.alloc ?_ _ | (with_reducible refine Ext.setCell ?_ ?_ _; rotate_left; (first | exact Nat.le_refl _ | (dsimp only; omega) | (simp only [wsz]; omega))) | (with_reducible refine Ext.trans ?_ (by with_reducible assumption))))
  clear hW
  have bg := hb.ext hE
  have b3r := b3.rules; have b3l := b3.lt
  have bgr := bg.rules; have bgl := bg.lt
  have hcW0 := (hE.cells.1 b _ hbl).trans hc0
  have hcW1 := (hE.cells.1 b2 _ hbl2).trans hc1
  have hblW := Nat.lt_of_lt_of_le hbl hE.size
  have hbl2W := Nat.lt_of_lt_of_le hbl2 hE.size
  clear hc0 hc1
  refine wp_region_seq 29 [(0, true), (1, true), (2, true), (3, true), (4, true), (5, true), (6, true), (7, true), (8, true), (9, true), (10, true), (11, true), (12, true), (13, true), (14, true), (15, true), (16, true), (20, true), (21, true), (22, true), (23, true), (24, true), (17, false), (18, true), (19, true), (25, false), (26, true), (27, true), (28, true), (29, false)] rfl (by kernel_rfl) (by intro _ _ d _ _ h; cases d <;> exact h) ?_
  (repeat (first | (refine sq_take (v := ?_) rfl rfl ?_ ?_; rotate_left; (intro w' hx'; have hc' := hx'.cells.1; (try simp only [wcd] at hc'); go_simp; (first | done | with_reducible rfl)); (try simp only [Act.put, List.setIfInBounds_toArray, List.set_cons_zero, List.set_cons_succ])) | (refine sq_skip rfl rfl ?_; (try simp only [Act.put, List.setIfInBounds_toArray, List.set_cons_zero, List.set_cons_succ])) | (refine sq_noloud rfl rfl ?_; (try simp only [Act.put, List.setIfInBounds_toArray, List.set_cons_zero, List.set_cons_succ])) | (refine sq_takeg (v := ?_) rfl rfl ?_ ?_; rotate_left; (intro w' hx'; have hc' := hx'.cells.1; (try simp only [wcd] at hc'); go_simp; (first | done | with_reducible rfl)); (try simp only [Act.put, List.setIfInBounds_toArray, List.set_cons_zero, List.set_cons_succ]))))
  (refine sq_loudg rfl rfl fun K hK => ?_; go_simp)
  refine (hat _ (hE.trans (by repeat (first | with_reducible assumption | with_reducible exact Ext.refl _ | with_reducible refine Ext.drewN ?_ _ | with_reducible refine Ext.drew ?_ | with_reducible refine Ext.alloc ?_ _ | (with_reducible refine Ext.setCell ?_ ?_ _; rotate_left; (first | exact Nat.le_refl _ | (dsimp only; omega) | (simp only [wsz]; omega))) | (with_reducible refine Ext.trans ?_ (by with_reducible assumption)))))).mono ?_
  rintro e w1 ⟨rfl, hx1⟩
  have c3 := b3.drew.ext hx1; have cg := bg.drew.ext hx1
  have c3r := c3.rules; have c3l := c3.lt
  have cgr := cg.rules; have cgl := cg.lt
  have hx1' : Ext W w1 := (by repeat (first | with_reducible assumption | with_reducible exact Ext.refl _ | with_reducible refine Ext.drewN ?_ _ | with_reducible refine Ext.drew ?_ | with_reducible refine Ext.alloc ?_ _ | (with_reducible refine Ext.setCell ?_ ?_ _; rotate_left; (first | exact Nat.le_refl _ | (dsimp only; omega) | (simp only [wsz]; omega))) | (with_reducible refine Ext.trans ?_ (by with_reducible assumption))))
  have hd0 := (hx1'.cells.1 b _ hblW).trans hcW0
  have hd1 := (hx1'.cells.1 b2 _ hbl2W).trans hcW1
  have hbl1 := Nat.lt_of_lt_of_le hblW hx1'.size
  have hbl21 := Nat.lt_of_lt_of_le hbl2W hx1'.size
  clear b3r bgr hcW0 hcW1
  (refine hK _ _ (by repeat (first | with_reducible assumption | with_reducible exact Ext.refl _ | with_reducible refine Ext.drewN ?_ _ | with_reducible refine Ext.drew ?_ | with_reducible refine Ext.alloc ?_ _ | (with_reducible refine Ext.setCell ?_ ?_ _; rotate_left; (first | exact Nat.le_refl _ | (dsimp only; omega) | (simp only [wsz]; omega))) | (with_reducible refine Ext.trans ?_ (by with_reducible assumption)))) ?_; clear hK K; (try simp only [Act.put, List.setIfInBounds_toArray, List.set_cons_zero, List.set_cons_succ]))
  (repeat (first | (refine sq_take (v := ?_) rfl rfl ?_ ?_; rotate_left; (intro w' hx'; have hc' := hx'.cells.1; (try simp only [wcd] at hc'); go_simp; (first | done | with_reducible rfl)); (try simp only [Act.put, List.setIfInBounds_toArray, List.set_cons_zero, List.set_cons_succ])) | (refine sq_skip rfl rfl ?_; (try simp only [Act.put, List.setIfInBounds_toArray, List.set_cons_zero, List.set_cons_succ])) | (refine sq_noloud rfl rfl ?_; (try simp only [Act.put, List.setIfInBounds_toArray, List.set_cons_zero, List.set_cons_succ])) | (refine sq_takeg (v := ?_) rfl rfl ?_ ?_; rotate_left; (intro w' hx'; have hc' := hx'.cells.1; (try simp only [wcd] at hc'); go_simp; (first | done | with_reducible rfl)); (try simp only [Act.put, List.setIfInBounds_toArray, List.set_cons_zero, List.set_cons_succ]))))
  (refine sq_loudg rfl rfl fun K hK => ?_; go_simp)
  refine (hle _ (hE.trans (by repeat (first | with_reducible assumption | with_reducible exact Ext.refl _ | with_reducible refine Ext.drewN ?_ _ | with_reducible refine Ext.drew ?_ | with_reducible refine Ext.alloc ?_ _ | (with_reducible refine Ext.setCell ?_ ?_ _; rotate_left; (first | exact Nat.le_refl _ | (dsimp only; omega) | (simp only [wsz]; omega))) | (with_reducible refine Ext.trans ?_ (by with_reducible assumption)))))).mono ?_
  rintro e w2 ⟨rfl, hx2⟩
  have hd3 := (hx2.cells.1 b2 _ hbl21).trans hd1
  have hbl22 := Nat.lt_of_lt_of_le hbl21 hx2.size
  clear c3r cgr hd0 hd1
  (refine hK _ _ (by repeat (first | with_reducible assumption | with_reducible exact Ext.refl _ | with_reducible refine Ext.drewN ?_ _ | with_reducible refine Ext.drew ?_ | with_reducible refine Ext.alloc ?_ _ | (with_reducible refine Ext.setCell ?_ ?_ _; rotate_left; (first | exact Nat.le_refl _ | (dsimp only; omega) | (simp only [wsz]; omega))) | (with_reducible refine Ext.trans ?_ (by with_reducible assumption)))) ?_; clear hK K; (try simp only [Act.put, List.setIfInBounds_toArray, List.set_cons_zero, List.set_cons_succ]))
  (repeat (first | (refine sq_take (v := ?_) rfl rfl ?_ ?_; rotate_left; (intro w' hx'; have hc' := hx'.cells.1; (try simp only [wcd] at hc'); go_simp; (first | done | with_reducible rfl)); (try simp only [Act.put, List.setIfInBounds_toArray, List.set_cons_zero, List.set_cons_succ])) | (refine sq_skip rfl rfl ?_; (try simp only [Act.put, List.setIfInBounds_toArray, List.set_cons_zero, List.set_cons_succ])) | (refine sq_noloud rfl rfl ?_; (try simp only [Act.put, List.setIfInBounds_toArray, List.set_cons_zero, List.set_cons_succ])) | (refine sq_takeg (v := ?_) rfl rfl ?_ ?_; rotate_left; (intro w' hx'; have hc' := hx'.cells.1; (try simp only [wcd] at hc'); go_simp; (first | done | with_reducible rfl)); (try simp only [Act.put, List.setIfInBounds_toArray, List.set_cons_zero, List.set_cons_succ]))))
  (refine sq_last rfl rfl fun K hK => ?_; go_simp; refine hK _ _ ?_; clear hK K)
  go_wp2_with fail
  go_ret
  exact ⟨rfl, hE.trans (by repeat (first | with_reducible assumption | with_reducible exact Ext.refl _ | with_reducible refine Ext.drewN ?_ _ | with_reducible refine Ext.drew ?_ | with_reducible refine Ext.alloc ?_ _ | (with_reducible refine Ext.setCell ?_ ?_ _; rotate_left; (first | exact Nat.le_refl _ | (dsimp only; omega) | (simp only [wsz]; omega))) | (with_reducible refine Ext.trans ?_ (by with_reducible assumption))))⟩

end Go.Proofs.YtbblgjjomgipfaaGreat
