/- census: part. No conditions. -/
import Derived.Test.YtbblgjjomgipfaaGreatCen1
namespace Go.Proofs.YtbblgjjomgipfaaGreat
open Go.RowKit Go.Shelf

theorem zl_abs {x y : Int} (h : x.natAbs ≤ y.natAbs) : zl x ≤ zl y := by
  refine zl_le (Nat.lt_of_le_of_lt h ?_)
  have h1 := nv_lt (lb_lim y.natAbs)
  rwa [nv_lim] at h1
/-- How many of k numbers from a on are in. -/
def nin (s : Ps) (a : Int) (k : Nat) : Nat := ((List.range k).filter fun i => s.has (a + (i : Nat))).length
theorem nin_step (s : Ps) (a : Int) (k : Nat) : nin s a (k + 1) = nin s a k + if s.has (a + (k : Nat)) then 1 else 0 := by
  rw [nin, List.range_succ, List.filter_append, List.length_append, nin]
  congr 1
  by_cases h : s.has (a + (k : Nat)) <;> simp [h]
theorem nin_le (s : Ps) (a : Int) : ∀ k, nin s a k ≤ k
  | 0 => Nat.le_refl _
  | k + 1 => by
    have := nin_le s a k
    rw [nin_step]
    split <;> omega
/-- What part tells. -/
def partV (s : Ps) (a n : Int) : Int := n / (s.per : Int) * (nin s a s.per : Nat) + (nin s a (n % (s.per : Int)).toNat : Nat)

set_option maxRecDepth 100000 in
set_option maxHeartbeats 3200000 in
theorem part_c {g N : Nat} {s : Ps} {w : World} {X Y Z' : Nat → Prop} {u v : Value} {a n : Z} (hs : SetV w X g s) (hsk : s.ok N) (ha : Zi w Y u a) (hn : Zi w Z' v n) (hn0 : 0 ≤ n.v) (hLa : a.mag.length ≤ 1099511627774) (hLn : n.mag.length ≤ 549755813887) :
    Calls Tryz.prog 46 #[.pointer (some ⟨g, 0, none⟩), u, v] w fun e w' => ∃ r, e = .returned r ∧ Zi w' (w.heap.size ≤ ·) r (cz (partV s a.v n.v)) ∧ Ext w w' := by
  have p0 := hsk.per0; have p1 := hsk.per1
  have hai := ha; have hni := hn
  have hpc := fun (V : World) (hV : Ext w V) => period_set_c (hs.ext hV)
  obtain ⟨p, hp⟩ : ∃ p, p = s.per := ⟨_, rfl⟩
  have hpV : Hid (partV s a.v n.v = n.v / (p : Int) * (nin s a.v p : Nat) + (nin s a.v (n.v % (p : Int)).toNat : Nat)) := Lib.hid (by rw [hp]; rfl)
  rw [← hp] at p0 p1 hpc
  obtain ⟨A, c, rfl, ha⟩ := ha
  obtain ⟨B, d, rfl, hn⟩ := hn
  clear hp
  go_enter Tryz.func46, Tryz.ntmps46
  go_wp2_with fail
  refine (hpc _ (by repeat (first | with_reducible assumption | with_reducible exact Ext.refl _ | with_reducible refine Ext.drewN ?_ _ | with_reducible refine Ext.drew ?_ | with_reducible refine Ext.alloc ?_ _ | (with_reducible refine Ext.setCell ?_ ?_ _; rotate_left; (first | exact Nat.le_refl _ | (dsimp only; omega) | (simp only [wsz]; omega))) | (with_reducible refine Ext.trans ?_ (by with_reducible assumption))))).mono ?_
  rintro e w1 ⟨rfl, hx1⟩
  (have b4 := Box.ext (g := w.heap.size) (by repeat (first | with_reducible assumption | with_reducible exact Box.new _ _ _ | (with_reducible refine Box.new_at _ _ _ ?_; (simp only [wsz]; done)) | with_reducible refine Box.drewN ?_ _ | with_reducible refine Box.drew ?_ | with_reducible refine Box.alloc ?_ _ | with_reducible apply Box.drewN | with_reducible apply Box.drew | with_reducible apply Box.alloc | with_reducible refine Box.set_ ?_ _ _ | (with_reducible refine Box.far ?_ ?_ _; rotate_left; (simp only [ne_eq]; omega)) | (with_reducible refine Box.ext ?_ (by with_reducible assumption)) | (refine Box.new_at _ _ _ ?_; simp only [wsz]; done))) hx1; have b4r := b4.rules; have b4l := b4.lt)
  (have b5 := Box.ext (g := w.heap.size + 1) (by repeat (first | with_reducible assumption | with_reducible exact Box.new _ _ _ | (with_reducible refine Box.new_at _ _ _ ?_; (simp only [wsz]; done)) | with_reducible refine Box.drewN ?_ _ | with_reducible refine Box.drew ?_ | with_reducible refine Box.alloc ?_ _ | with_reducible apply Box.drewN | with_reducible apply Box.drew | with_reducible apply Box.alloc | with_reducible refine Box.set_ ?_ _ _ | (with_reducible refine Box.far ?_ ?_ _; rotate_left; (simp only [ne_eq]; omega)) | (with_reducible refine Box.ext ?_ (by with_reducible assumption)) | (refine Box.new_at _ _ _ ?_; simp only [wsz]; done))) hx1; have b5r := b5.rules; have b5l := b5.lt)
  (have b6 := Box.ext (g := w.heap.size + 1 + 1) (by repeat (first | with_reducible assumption | with_reducible exact Box.new _ _ _ | (with_reducible refine Box.new_at _ _ _ ?_; (simp only [wsz]; done)) | with_reducible refine Box.drewN ?_ _ | with_reducible refine Box.drew ?_ | with_reducible refine Box.alloc ?_ _ | with_reducible apply Box.drewN | with_reducible apply Box.drew | with_reducible apply Box.alloc | with_reducible refine Box.set_ ?_ _ _ | (with_reducible refine Box.far ?_ ?_ _; rotate_left; (simp only [ne_eq]; omega)) | (with_reducible refine Box.ext ?_ (by with_reducible assumption)) | (refine Box.new_at _ _ _ ?_; simp only [wsz]; done))) hx1; have b6r := b6.rules; have b6l := b6.lt)
  have hE : Ext w w1 := (by repeat (first | with_reducible assumption | with_reducible exact Ext.refl _ | with_reducible refine Ext.drewN ?_ _ | with_reducible refine Ext.drew ?_ | with_reducible refine Ext.alloc ?_ _ | (with_reducible refine Ext.setCell ?_ ?_ _; rotate_left; (first | exact Nat.le_refl _ | (dsimp only; omega) | (simp only [wsz]; omega))) | (with_reducible refine Ext.trans ?_ (by with_reducible assumption))))
  have hwl := hE.size
  clear b4r b6r hpc
  go_wp2_with fail
  refine wp_region_free [(0, 19, []), (1, 20, []), (2, 21, [(1, 20)]), (3, 22, [(0, 19), (2, 21)]), (4, 18, [(3, 22)]), (5, 23, [(4, 18)]), (6, 24, [(4, 18)]), (7, 25, [(4, 18)]), (8, 8, []), (9, 9, [])] [10, 11, 12] [19, 20, 21, 22, 18, 23, 24, 25, 8, 9] [8, 9] [6, 7] [phiEq (.agg #[.bool n.neg, .slice B n.mag.length d]), phiEq (.int .i64 (p : Int)), phiZ (fun _ => True) (cz p), ⟨_, phi_left (X := fun _ => True) (q := n.v / p) (r := n.v % p)⟩, ⟨_, phi_left (X := fun _ => True) (q := n.v / p) (r := n.v % p)⟩,
    phiZ (fun _ => True) (cz (n.v / p)), phiZ (fun _ => True) (cz (n.v % p)), phiEq (.int .i64 0), phiBox w1.heap.size 25 #[.bool false, .slice none 0 0], phiBox w1.heap.size 25 #[.bool false, .slice none 0 0]] rfl (by kernel_rfl) (by intro _ _ d _ _ h; cases d <;> exact h) (by kernel_rfl) (by kernel_rfl) ?_ ?_
  · have hcb : w1.cell? ⟨w.heap.size + 1, 0, none⟩ = some (.bool n.neg) := by rw [b5.cell]; rfl
    have hcb1 : w1.cell? ⟨w.heap.size + 1, 1, none⟩ = some (.slice B n.mag.length d) := by rw [b5.cell]; rfl
    (refine ps_eq rfl rfl rfl rfl rfl rfl ?_ ?_; focus (intro f w1 hx hd; have hc' := hx.cells.1; (try simp only [wcd] at hc'); (dsimp only [PhiDeps, phiAt, phiEq, phiZ, phiAny, phiBox] at hd); (simp only [fillA]; (try simp only [Act.put, List.setIfInBounds_toArray, List.set_cons_zero, List.set_cons_succ])); (try simp only [hd]); go_simp; (first | done | with_reducible rfl)))
    (refine ps_eq rfl rfl rfl rfl rfl rfl ?_ ?_; focus (intro f w1 hx hd; have hc' := hx.cells.1; (try simp only [wcd] at hc'); (dsimp only [PhiDeps, phiAt, phiEq, phiZ, phiAny, phiBox] at hd); (simp only [fillA]; (try simp only [Act.put, List.setIfInBounds_toArray, List.set_cons_zero, List.set_cons_succ])); (try simp only [hd]); go_simp; (first | done | with_reducible rfl)))
    (refine ps_loud rfl rfl rfl rfl rfl (fun f w1 hx hd K hK => ?_) ?_)
    · (have hc' := hx.cells.1; (try simp only [wcd] at hc'); (dsimp only [PhiDeps, phiAt, phiEq, phiZ, phiAny, phiBox] at hd); simp only [fillA, Act.put, List.setIfInBounds_toArray, List.set_cons_zero, List.set_cons_succ] at hK; (simp only [fillA]; (try simp only [Act.put, List.setIfInBounds_toArray, List.set_cons_zero, List.set_cons_succ])); (try simp only [hd] at hK ⊢); go_simp)
      refine (cnum_c (p : Int) (by omega) (by omega) _).mono ?_
      rintro e w2 ⟨r, rfl, hr, hx2⟩
      (refine hK _ _ (by repeat (first | with_reducible assumption | with_reducible exact Ext.refl _ | with_reducible refine Ext.drewN ?_ _ | with_reducible refine Ext.drew ?_ | with_reducible refine Ext.alloc ?_ _ | (with_reducible refine Ext.setCell ?_ ?_ _; rotate_left; (first | exact Nat.le_refl _ | (dsimp only; omega) | (simp only [wsz]; omega))) | (with_reducible refine Ext.trans ?_ (by with_reducible assumption)))) ?_; dsimp only [phiAt, phiEq, phiZ, phiAny, phiBox])
      exact hr.widen fun _ _ _ => trivial
    (refine ps_loud rfl rfl rfl rfl rfl (fun f w1 hx hd K hK => ?_) ?_)
    · (have hc' := hx.cells.1; (try simp only [wcd] at hc'); (dsimp only [PhiDeps, phiAt, phiEq, phiZ, phiAny, phiBox] at hd); simp only [fillA, Act.put, List.setIfInBounds_toArray, List.set_cons_zero, List.set_cons_succ] at hK; (simp only [fillA]; (try simp only [Act.put, List.setIfInBounds_toArray, List.set_cons_zero, List.set_cons_succ])); (try simp only [hd] at hK ⊢); go_simp)
      refine (zdiv_c (P := p) (hni.ext (hE.trans (by repeat (first | with_reducible assumption | with_reducible exact Ext.refl _ | with_reducible refine Ext.drewN ?_ _ | with_reducible refine Ext.drew ?_ | with_reducible refine Ext.alloc ?_ _ | (with_reducible refine Ext.setCell ?_ ?_ _; rotate_left; (first | exact Nat.le_refl _ | (dsimp only; omega) | (simp only [wsz]; omega))) | (with_reducible refine Ext.trans ?_ (by with_reducible assumption)))))) hd.2.1 (by rw [cz_v]) p0 (by omega) (by omega) (by rw [cz_len]; have := zl_word (x := (p : Int)) (by omega); omega)).mono ?_
      rintro e w2 ⟨q, r, rfl, hq, hr, hx2⟩
      (refine hK _ _ (by repeat (first | with_reducible assumption | with_reducible exact Ext.refl _ | with_reducible refine Ext.drewN ?_ _ | with_reducible refine Ext.drew ?_ | with_reducible refine Ext.alloc ?_ _ | (with_reducible refine Ext.setCell ?_ ?_ _; rotate_left; (first | exact Nat.le_refl _ | (dsimp only; omega) | (simp only [wsz]; omega))) | (with_reducible refine Ext.trans ?_ (by with_reducible assumption)))) ?_; dsimp only [phiAt, phiEq, phiZ, phiAny, phiBox])
      exact ⟨q, r, rfl, hq.widen fun _ _ _ => trivial, hr.widen fun _ _ _ => trivial⟩
    refine ps_take rfl rfl rfl rfl rfl ?_ ?_
    · intro f w1 hx hd
      (dsimp only [PhiDeps, phiAt, phiEq, phiZ, phiAny, phiBox] at hd)
      refine ⟨f 22, ?_, hd.1⟩
      (simp only [fillA]; (try simp only [Act.put, List.setIfInBounds_toArray, List.set_cons_zero, List.set_cons_succ]))
      go_simp
    refine ps_take rfl rfl rfl rfl rfl ?_ ?_
    · intro f w1 hx hd
      (dsimp only [PhiDeps, phiAt, phiEq, phiZ, phiAny, phiBox] at hd)
      obtain ⟨⟨a, b, e, h1, h2⟩, -⟩ := hd
      refine ⟨a, ?_, h1⟩
      (simp only [fillA]; (try simp only [Act.put, List.setIfInBounds_toArray, List.set_cons_zero, List.set_cons_succ]))
      simp only [e]
      go_simp
    refine ps_pure rfl rfl rfl rfl ?_ ?_
    · intro f w1 hx hd
      (dsimp only [PhiDeps, phiAt, phiEq, phiZ, phiAny, phiBox] at hd)
      obtain ⟨⟨a, b, e, h1, h2⟩, -⟩ := hd
      refine ⟨b, ?_, h2⟩
      intro w'
      (simp only [fillA]; (try simp only [Act.put, List.setIfInBounds_toArray, List.set_cons_zero, List.set_cons_succ]))
      simp only [e]
      go_simp
    refine ps_peq rfl rfl rfl rfl rfl ?_ ?_
    · intro f w1 hx hd w'
      (dsimp only [PhiDeps, phiAt, phiEq, phiZ, phiAny, phiBox] at hd)
      obtain ⟨⟨a, b, e, h1, h2⟩, -⟩ := hd
      (simp only [fillA]; (try simp only [Act.put, List.setIfInBounds_toArray, List.set_cons_zero, List.set_cons_succ]))
      simp only [e]
      go_simp
    (refine ps_alloc rfl rfl rfl rfl rfl ?_ (by repeat (first | exact ab_nil | refine ab_cons rfl ?_)) ?_ ?_; (focus (first | omega | (simp only [wsz]; done) | (simp only [wsz]; omega))); (focus (intro f w1; (simp only [fillA]; (try simp only [Act.put, List.setIfInBounds_toArray, List.set_cons_zero, List.set_cons_succ])); go_simp; try (with_reducible rfl))))
    (refine ps_alloc rfl rfl rfl rfl rfl ?_ (by repeat (first | exact ab_nil | refine ab_cons rfl ?_)) ?_ ?_; (focus (first | omega | (simp only [wsz]; done) | (simp only [wsz]; omega))); (focus (intro f w1; (simp only [fillA]; (try simp only [Act.put, List.setIfInBounds_toArray, List.set_cons_zero, List.set_cons_succ])); go_simp; try (with_reducible rfl))))
    exact ps_nil
  · intro f w2 hx hall hne
    (dsimp only [PhiAll, phiAt, phiEq, phiZ, phiAny, phiBox] at hall)
    obtain ⟨f11, f12, f13, f14, f10, ⟨aq, cq, eq, hq⟩, ⟨ar, cr, er, hr⟩, f17, ⟨g5, e5, l5, x5⟩, ⟨g6, e6, l6, x6⟩, -⟩ := hall
    (simp only [fillA]; (try simp only [Act.put, List.setIfInBounds_toArray, List.set_cons_zero, List.set_cons_succ]))
    simp only [f11, f12, f17, eq, er, e5, e6]
    have hne56 : g6 ≠ g5 := fun e => hne (8, 8, []) (by simp) (9, 9, []) (by simp) rfl rfl (by decide) (by rw [e5, e6, e])
    have x5r := x5.rules; have x5l := x5.lt
    have x6r := x6.rules; have x6l := x6.lt
    obtain ⟨q, hqe⟩ : ∃ q, q = n.v / (p : Int) := ⟨_, rfl⟩
    have hlt := Int.emod_lt_of_pos n.v (show (0 : Int) < (p : Int) by omega)
    have hge := Int.emod_nonneg n.v (show (p : Int) ≠ 0 by omega)
    obtain ⟨m, hm⟩ : ∃ m : Nat, (m : Int) = n.v % (p : Int) := ⟨(n.v % (p : Int)).toNat, by omega⟩
    rw [← hm] at hr hlt hpV ⊢
    rw [← hqe] at hq hpV ⊢
    have hq0 : 0 ≤ q := by rw [hqe]; exact Int.ediv_nonneg hn0 (by omega)
    have hqz : zl q ≤ n.mag.length := by
      refine Nat.le_trans (zl_abs ?_) (zl_of hn.lb)
      have h2 := Int.ediv_le_self (p : Int) hn0
      rw [← hqe] at h2
      omega
    have hmp : m < p := by omega
    clear hqe hm hge hlt hne
    (refine sh_late rfl rfl fun K hK => ?_; go_simp; refine hK _ _ ?_; clear hK K)
    (refine sh_late rfl rfl fun K hK => ?_; go_simp; refine hK _ _ ?_; clear hK K)
    (refine sh_late rfl rfl fun K hK => ?_; go_simp; refine hK _ _ ?_; clear hK K)
    refine sh_end ?_
    refine x_named fun V hV => ?_
    have u5 : Box V g5 25 #[.bool (cz q).neg, .slice aq (cz q).mag.length cq] := by rw [hV]; exact (((x5.set_ 0 _).set_ 1 _).far (by simp only; omega) _).far (by simp only; omega) _
    have u6 : Box V g6 25 #[.bool (cz (m : Int)).neg, .slice ar (cz (m : Int)).mag.length cr] := by rw [hV]; exact (((x6.far hne56 _).far hne56 _).set_ 0 _).set_ 1 _
    have hE1V : Ext w1 V := by
      rw [hV]
      have h1 := Ext.trans (Ext.refl w1).drew hx
      exact (((h1.setCell (by simp only; omega) _).setCell (by simp only; omega) _).setCell (by simp only; omega) _).setCell (by simp only; omega) _
    have hq2 : Nl V (fun _ => True) aq cq (cz q).mag := by
      rw [hV]
      refine (Nl.keep ((hq.off x5 (by simp)).off x6 (by simp)) ?_).widen fun _ _ _ => trivial
      exact ((((Kp.refl w2).setCell (fun h => h.1.2 rfl) _).setCell (fun h => h.1.2 rfl) _).setCell (fun h => h.2 rfl) _).setCell (fun h => h.2 rfl) _
    have hr2 : Nl V (fun _ => True) ar cr (cz (m : Int)).mag := by
      rw [hV]
      refine (Nl.keep ((hr.off x5 (by simp)).off x6 (by simp)) ?_).widen fun _ _ _ => trivial
      exact ((((Kp.refl w2).setCell (fun h => h.1.2 rfl) _).setCell (fun h => h.1.2 rfl) _).setCell (fun h => h.2 rfl) _).setCell (fun h => h.2 rfl) _
    clear hV x5r x6r x5l x6l b5r
    have u6r := u6.rules; have u6l := u6.lt
    have hr64 : i64 (m : Int) := ⟨by omega, by omega⟩
    have hi64 := fun (U : World) (hU : Ext V U) => zint64_c (z := cz (m : Int)) (⟨_, _, rfl, hr2.ext hU⟩ : Zi U (fun _ => True) (.agg #[.bool (cz (m : Int)).neg, .slice ar (cz (m : Int)).mag.length cr]) (cz (m : Int))) (by rw [cz_len]; have := zl_word (x := (m : Int)) (by omega); omega)
    rw [cz_v, (i64_in hr64).1, (i64_in hr64).2] at hi64
    obtain ⟨zm, hzm⟩ : ∃ zm, zm = cz (m : Int) := ⟨_, rfl⟩
    rw [← hzm] at hi64 u6 u6r
    clear hzm hr2 hr64 hr
    go_wp2_with fail
    refine (hi64 _ (by repeat (first | with_reducible assumption | with_reducible exact Ext.refl _ | with_reducible refine Ext.drewN ?_ _ | with_reducible refine Ext.drew ?_ | with_reducible refine Ext.alloc ?_ _ | (with_reducible refine Ext.setCell ?_ ?_ _; rotate_left; (first | exact Nat.le_refl _ | (dsimp only; omega) | (simp only [wsz]; omega))) | (with_reducible refine Ext.trans ?_ (by with_reducible assumption))))).mono ?_
    rintro e w3 ⟨rfl, hx3⟩
    clear hi64 u6r u6 u6l
    obtain ⟨sg, hsg⟩ : ∃ sg, sg = sgn q := ⟨_, rfl⟩
    have hsign := fun (U : World) (hU : Ext V U) => zsign_c (z := cz q) (⟨_, _, rfl, hq2.ext hU⟩ : Zi U (fun _ => True) (.agg #[.bool (cz q).neg, .slice aq (cz q).mag.length cq]) (cz q))
    rw [cz_v, ← hsg] at hsign
    have Hsg := Lib.hid hsg
    clear hsg
    have hEV := hE.trans hE1V
    have hplus := fun (U : World) (hU : Ext V U) (i : Nat) (hi : i < 4096) => plus_c (hai.ext (hEV.trans hU)) (by omega) (i : Int) (by omega) (by omega)
    have hLp : ∀ i : Nat, i < 4096 → (cz (a.v + (i : Nat))).mag.length ≤ 1099511627776 := fun i hi => by
      rw [cz_len]
      have h1 : zl a.v ≤ 1099511627774 := Nat.le_trans (zl_of ha.lb) hLa
      have h2 : zl (i : Int) ≤ 1099511627774 := Nat.le_trans (zl_word (by omega)) (by omega)
      have := zl_add h1 h2
      omega
    have hhas := fun (U : World) (hU : Ext V U) (i : Nat) (hi : i < 4096) (r : Value) (h : Zi U (fun _ => True) r (cz (a.v + (i : Nat)))) => has_c (hs.ext (hEV.trans hU)) hsk h (hLp i hi)
    simp only [cz_v] at hhas
    have hmul := fun (U : World) (hU : Ext V U) (r : Value) (k : Nat) (hk : k ≤ 4096) (h : Zi U (fun _ => True) r (cz (k : Nat))) => zmul_c (⟨_, _, rfl, hq2.ext hU⟩ : Zi U (fun _ => True) (.agg #[.bool (cz q).neg, .slice aq (cz q).mag.length cq]) (cz q)) h (by rw [cz_len]; omega) (by rw [cz_len]; have := zl_word (x := (k : Int)) (by omega); omega)
    simp only [cz_v] at hmul
    obtain ⟨zq, hzq⟩ : ∃ zq, zq = cz q := ⟨_, rfl⟩
    rw [← hzq] at hq2 hmul hsign u5 ⊢
    have HZQ := Lib.hid hzq
    clear hzq
    have HH := Lib.hid hhas; have HPl := Lib.hid hplus; have HM := Lib.hid hmul; have HSg := Lib.hid hsign
    have hp4 : p ≤ 4096 := p1
    have b4V := b4.ext hE1V; have b6V := b6.ext hE1V
    clear hhas hplus hmul hsign hLp hs hLa hai hni b5 hE hE1V hx hx1
    go_wp2_with fail
    go_loopw [13, 14, 32] (fun rv mv iv wr => ∃ i : Nat, i ≤ p ∧ iv = .int .i64 i ∧ rv = .int .i64 (nin s a.v i : Nat) ∧ mv = .int .i64 (nin s a.v (Nat.min i m) : Nat) ∧ Ext V wr) (fun _ _ iv _ => p - (intOf iv).toNat)
    case atStart => exact ⟨0, Nat.zero_le _, rfl, by simp [nin], by simp [nin], hx3⟩
    case round =>
      obtain ⟨i, hi, rfl, rfl, rfl, hxr⟩ := hrel
      obtain ⟨rd, hrd⟩ : ∃ rd, rd = nin s a.v i := ⟨_, rfl⟩
      obtain ⟨md, hmd⟩ : ∃ md, md = nin s a.v (Nat.min i m) := ⟨_, rfl⟩
      have hrl : rd ≤ 4096 := by rw [hrd]; exact Nat.le_trans (nin_le s a.v i) (by omega)
      have hml : md ≤ 4096 := by rw [hmd]; exact Nat.le_trans (nin_le s a.v _) (Nat.le_trans (Nat.min_le_left _ _) (by omega))
      rw [← hrd, ← hmd]
      have HRD := Lib.hid hrd; have HMD := Lib.hid hmd
      clear hrd hmd
      have c5 := u5.ext hxr; have c4 := b4V.ext hxr
      have c5r := c5.rules; have c5l := c5.lt
      have c4r := c4.rules; have c4l := c4.lt
      have iw := w64n (n := i) (by omega)
      have rw1 := w64n (n := rd) (by omega)
      have mw1 := w64n (n := md) (by omega)
      by_cases hgo : i < p ∧ (i < m ∨ ¬ sg = 0)
      · obtain ⟨hlt, hor⟩ := hgo
        have il : (i : Int) < (p : Int) := by omega
        obtain ⟨hb, hhb⟩ : ∃ hb, hb = s.has (a.v + (i : Nat)) := ⟨_, rfl⟩
        have hcall1 := fun (U : World) (hU : Ext wr U) => HPl.out U (hxr.trans hU) i (by omega)
        have hcall2 := fun (U : World) (hU : Ext wr U) (r : Value) (h : Zi U (fun _ => True) r (cz (a.v + (i : Nat)))) => HH.out U (hxr.trans hU) i (by omega) r h
        have hcall0 := HSg.out
        simp only [← hhb] at hcall2
        have HB := Lib.hid hhb
        have hnext : Hid (rd + (if hb then 1 else 0) = nin s a.v (i + 1)) := Lib.hid (by rw [nin_step, ← hhb, HRD.out])
        obtain ⟨za, hza⟩ : ∃ za, za = cz (a.v + (i : Nat)) := ⟨_, rfl⟩
        simp only [← hza] at hcall1 hcall2
        clear hhb hza
        have hm2 : Hid (md + (if (hb && decide (i < m)) then 1 else 0) = nin s a.v (Nat.min (i + 1) m)) := Lib.hid (by
          by_cases him : i < m
          · have e1 : Nat.min (i + 1) m = i + 1 := Nat.min_eq_left (by omega)
            have e2 : Nat.min i m = i := Nat.min_eq_left (by omega)
            rw [e1, nin_step, ← HB.out, HMD.out, e2]
            simp [him]
          · have e1 : Nat.min (i + 1) m = m := Nat.min_eq_right (by omega)
            have e2 : Nat.min i m = m := Nat.min_eq_right (by omega)
            rw [e1, HMD.out, e2]
            simp [him])
        have h3 : (i < m ∧ sg = 0) ∨ (i < m ∧ ¬ sg = 0) ∨ (¬ i < m ∧ ¬ sg = 0) := by omega
        clear hor
        rcases h3 with ⟨him, hs0⟩ | ⟨him, hs0⟩ | ⟨him, hs0⟩
        · have hs0' : (sg == 0) = true := by rw [hs0]; rfl
          have him' := Lib.hid him
          have i1 : (i : Int) < (m : Int) := by omega
          have i2 : ¬ (m : Int) ≤ (i : Int) := by omega
          clear hs0 him
          go_wp2_with fail
          refine (hcall0 _ (hxr.trans (by repeat (first | with_reducible assumption | with_reducible exact Ext.refl _ | with_reducible refine Ext.drewN ?_ _ | with_reducible refine Ext.drew ?_ | with_reducible refine Ext.alloc ?_ _ | (with_reducible refine Ext.setCell ?_ ?_ _; rotate_left; (first | exact Nat.le_refl _ | (dsimp only; omega) | (simp only [wsz]; omega))) | (with_reducible refine Ext.trans ?_ (by with_reducible assumption)))))).mono ?_
          rintro e w4 ⟨rfl, hx4⟩
          have hx4' : Ext wr w4 := (by repeat (first | with_reducible assumption | with_reducible exact Ext.refl _ | with_reducible refine Ext.drewN ?_ _ | with_reducible refine Ext.drew ?_ | with_reducible refine Ext.alloc ?_ _ | (with_reducible refine Ext.setCell ?_ ?_ _; rotate_left; (first | exact Nat.le_refl _ | (dsimp only; omega) | (simp only [wsz]; omega))) | (with_reducible refine Ext.trans ?_ (by with_reducible assumption))))
          have d4 := c4.ext hx4'
          have d4r := d4.rules; have d4l := d4.lt
          clear c5r c4r
          go_wp2_with fail
          refine (hcall1 _ hx4').mono ?_
          rintro e w5 ⟨r5, rfl, hr5, hx5⟩
          have hx5' := hx4'.trans hx5
          clear d4r
          go_wp2_with fail
          refine (hcall2 _ hx5' _ (hr5.widen fun _ _ _ => trivial)).mono ?_
          rintro e w6 ⟨rfl, hx6⟩
          have hx6' := hxr.trans (hx5'.trans hx6)
          cases hb
          · go_wp2_with fail
            go_roundw
            case rel => exact ⟨i + 1, by omega, by go_num, by rw [← hnext.out]; simp, by rw [← hm2.out]; simp, hx6'.trans (by repeat (first | with_reducible assumption | with_reducible exact Ext.refl _ | with_reducible refine Ext.drewN ?_ _ | with_reducible refine Ext.drew ?_ | with_reducible refine Ext.alloc ?_ _ | (with_reducible refine Ext.setCell ?_ ?_ _; rotate_left; (first | exact Nat.le_refl _ | (dsimp only; omega) | (simp only [wsz]; omega))) | (with_reducible refine Ext.trans ?_ (by with_reducible assumption))))⟩
            case measure => simp [intOf] <;> omega
          · go_wp2_with fail
            go_roundw
            case rel => exact ⟨i + 1, by omega, by go_num, by rw [← hnext.out]; simp, by rw [← hm2.out]; simp [him'.out], hx6'.trans (by repeat (first | with_reducible assumption | with_reducible exact Ext.refl _ | with_reducible refine Ext.drewN ?_ _ | with_reducible refine Ext.drew ?_ | with_reducible refine Ext.alloc ?_ _ | (with_reducible refine Ext.setCell ?_ ?_ _; rotate_left; (first | exact Nat.le_refl _ | (dsimp only; omega) | (simp only [wsz]; omega))) | (with_reducible refine Ext.trans ?_ (by with_reducible assumption))))⟩
            case measure => simp [intOf] <;> omega
        · have hs0' : (sg == 0) = false := by rw [beq_eq_false_iff_ne]; exact hs0
          have him' := Lib.hid him
          have i1 : (i : Int) < (m : Int) := by omega
          have i2 : ¬ (m : Int) ≤ (i : Int) := by omega
          clear hs0 him
          go_wp2_with fail
          refine (hcall0 _ (hxr.trans (by repeat (first | with_reducible assumption | with_reducible exact Ext.refl _ | with_reducible refine Ext.drewN ?_ _ | with_reducible refine Ext.drew ?_ | with_reducible refine Ext.alloc ?_ _ | (with_reducible refine Ext.setCell ?_ ?_ _; rotate_left; (first | exact Nat.le_refl _ | (dsimp only; omega) | (simp only [wsz]; omega))) | (with_reducible refine Ext.trans ?_ (by with_reducible assumption)))))).mono ?_
          rintro e w4 ⟨rfl, hx4⟩
          have hx4' : Ext wr w4 := (by repeat (first | with_reducible assumption | with_reducible exact Ext.refl _ | with_reducible refine Ext.drewN ?_ _ | with_reducible refine Ext.drew ?_ | with_reducible refine Ext.alloc ?_ _ | (with_reducible refine Ext.setCell ?_ ?_ _; rotate_left; (first | exact Nat.le_refl _ | (dsimp only; omega) | (simp only [wsz]; omega))) | (with_reducible refine Ext.trans ?_ (by with_reducible assumption))))
          have d4 := c4.ext hx4'
          have d4r := d4.rules; have d4l := d4.lt
          clear c5r c4r
          go_wp2_with fail
          refine (hcall1 _ hx4').mono ?_
          rintro e w5 ⟨r5, rfl, hr5, hx5⟩
          have hx5' := hx4'.trans hx5
          clear d4r
          go_wp2_with fail
          refine (hcall2 _ hx5' _ (hr5.widen fun _ _ _ => trivial)).mono ?_
          rintro e w6 ⟨rfl, hx6⟩
          have hx6' := hxr.trans (hx5'.trans hx6)
          cases hb
          · go_wp2_with fail
            go_roundw
            case rel => exact ⟨i + 1, by omega, by go_num, by rw [← hnext.out]; simp, by rw [← hm2.out]; simp, hx6'.trans (by repeat (first | with_reducible assumption | with_reducible exact Ext.refl _ | with_reducible refine Ext.drewN ?_ _ | with_reducible refine Ext.drew ?_ | with_reducible refine Ext.alloc ?_ _ | (with_reducible refine Ext.setCell ?_ ?_ _; rotate_left; (first | exact Nat.le_refl _ | (dsimp only; omega) | (simp only [wsz]; omega))) | (with_reducible refine Ext.trans ?_ (by with_reducible assumption))))⟩
            case measure => simp [intOf] <;> omega
          · go_wp2_with fail
            go_roundw
            case rel => exact ⟨i + 1, by omega, by go_num, by rw [← hnext.out]; simp, by rw [← hm2.out]; simp [him'.out], hx6'.trans (by repeat (first | with_reducible assumption | with_reducible exact Ext.refl _ | with_reducible refine Ext.drewN ?_ _ | with_reducible refine Ext.drew ?_ | with_reducible refine Ext.alloc ?_ _ | (with_reducible refine Ext.setCell ?_ ?_ _; rotate_left; (first | exact Nat.le_refl _ | (dsimp only; omega) | (simp only [wsz]; omega))) | (with_reducible refine Ext.trans ?_ (by with_reducible assumption))))⟩
            case measure => simp [intOf] <;> omega
        · have hs0' : (sg == 0) = false := by rw [beq_eq_false_iff_ne]; exact hs0
          have him' := Lib.hid him
          have i1 : ¬ (i : Int) < (m : Int) := by omega
          clear hs0 him
          go_wp2_with fail
          refine (hcall0 _ (hxr.trans (by repeat (first | with_reducible assumption | with_reducible exact Ext.refl _ | with_reducible refine Ext.drewN ?_ _ | with_reducible refine Ext.drew ?_ | with_reducible refine Ext.alloc ?_ _ | (with_reducible refine Ext.setCell ?_ ?_ _; rotate_left; (first | exact Nat.le_refl _ | (dsimp only; omega) | (simp only [wsz]; omega))) | (with_reducible refine Ext.trans ?_ (by with_reducible assumption)))))).mono ?_
          rintro e w4 ⟨rfl, hx4⟩
          have hx4' : Ext wr w4 := (by repeat (first | with_reducible assumption | with_reducible exact Ext.refl _ | with_reducible refine Ext.drewN ?_ _ | with_reducible refine Ext.drew ?_ | with_reducible refine Ext.alloc ?_ _ | (with_reducible refine Ext.setCell ?_ ?_ _; rotate_left; (first | exact Nat.le_refl _ | (dsimp only; omega) | (simp only [wsz]; omega))) | (with_reducible refine Ext.trans ?_ (by with_reducible assumption))))
          have d4 := c4.ext hx4'
          have d4r := d4.rules; have d4l := d4.lt
          clear c5r c4r
          go_wp2_with fail
          refine (hcall1 _ hx4').mono ?_
          rintro e w5 ⟨r5, rfl, hr5, hx5⟩
          have hx5' := hx4'.trans hx5
          clear d4r
          go_wp2_with fail
          refine (hcall2 _ hx5' _ (hr5.widen fun _ _ _ => trivial)).mono ?_
          rintro e w6 ⟨rfl, hx6⟩
          have hx6' := hxr.trans (hx5'.trans hx6)
          cases hb
          · go_wp2_with fail
            go_roundw
            case rel => exact ⟨i + 1, by omega, by go_num, by rw [← hnext.out]; simp, by rw [← hm2.out]; simp, hx6'.trans (by repeat (first | with_reducible assumption | with_reducible exact Ext.refl _ | with_reducible refine Ext.drewN ?_ _ | with_reducible refine Ext.drew ?_ | with_reducible refine Ext.alloc ?_ _ | (with_reducible refine Ext.setCell ?_ ?_ _; rotate_left; (first | exact Nat.le_refl _ | (dsimp only; omega) | (simp only [wsz]; omega))) | (with_reducible refine Ext.trans ?_ (by with_reducible assumption))))⟩
            case measure => simp [intOf] <;> omega
          · go_wp2_with fail
            go_roundw
            case rel => exact ⟨i + 1, by omega, by go_num, by rw [← hnext.out]; simp, by rw [← hm2.out]; simp [him'.out], hx6'.trans (by repeat (first | with_reducible assumption | with_reducible exact Ext.refl _ | with_reducible refine Ext.drewN ?_ _ | with_reducible refine Ext.drew ?_ | with_reducible refine Ext.alloc ?_ _ | (with_reducible refine Ext.setCell ?_ ?_ _; rotate_left; (first | exact Nat.le_refl _ | (dsimp only; omega) | (simp only [wsz]; omega))) | (with_reducible refine Ext.trans ?_ (by with_reducible assumption))))⟩
            case measure => simp [intOf] <;> omega
      · have hex : (¬ i < p) ∨ (i < p ∧ sg = 0 ∧ ¬ i < m) := by omega
        clear hgo
        rcases hex with hip | ⟨hip, hs0, him⟩
        · have hF : q * (rd : Int) + (md : Int) = partV s a.v n.v := by
            have e1 : i = p := by omega
            have e2 : Nat.min i m = m := Nat.min_eq_right (by omega)
            rw [hpV.out, HRD.out, HMD.out, e2, e1]
            simp
          have HF := Lib.hid hF
          clear hF
          have il : ¬ (i : Int) < (p : Int) := by omega
          go_wp2_with fail
          obtain ⟨U, hUe⟩ : ∃ U, U = wr := ⟨_, rfl⟩
          have hU : Ext wr U := by rw [hUe]; exact Ext.refl _
          rw [← hUe]
          have f5 := c5.ext hU
          have f5r := f5.rules; have f5l := f5.lt
          clear c5r c4r hUe
          refine wp_region_late [(0, true), (1, true), (4, true), (2, false), (3, false), (5, false)] [6] rfl (by kernel_rfl) (by intro _ _ d _ _ h; cases d <;> exact h) ?_
          (repeat (refine sh_take (v := ?_) rfl rfl ?_ ?_; rotate_left; (intro w' hx'; have hc' := hx'.cells.1; (try simp only [wcd] at hc'); go_simp; (first | done | with_reducible rfl)); (try simp only [Act.put, List.setIfInBounds_toArray, List.set_cons_zero, List.set_cons_succ])))
          (refine sh_loud rfl rfl fun K hK => ?_; go_simp)
          refine (cnum_c (rd : Int) (by omega) (by omega) _).mono ?_
          rintro e w7 ⟨r7, rfl, hr7, hx7⟩
          (refine hK _ _ (by repeat (first | with_reducible assumption | with_reducible exact Ext.refl _ | with_reducible refine Ext.drewN ?_ _ | with_reducible refine Ext.drew ?_ | with_reducible refine Ext.alloc ?_ _ | (with_reducible refine Ext.setCell ?_ ?_ _; rotate_left; (first | exact Nat.le_refl _ | (dsimp only; omega) | (simp only [wsz]; omega))) | (with_reducible refine Ext.trans ?_ (by with_reducible assumption)))) ?_; clear hK K; (try simp only [Act.put, List.setIfInBounds_toArray, List.set_cons_zero, List.set_cons_succ]))
          (refine sh_loud rfl rfl fun K hK => ?_; go_simp)
          have hxU7 : Ext U w7 := (by repeat (first | with_reducible assumption | with_reducible exact Ext.refl _ | with_reducible refine Ext.drewN ?_ _ | with_reducible refine Ext.drew ?_ | with_reducible refine Ext.alloc ?_ _ | (with_reducible refine Ext.setCell ?_ ?_ _; rotate_left; (first | exact Nat.le_refl _ | (dsimp only; omega) | (simp only [wsz]; omega))) | (with_reducible refine Ext.trans ?_ (by with_reducible assumption))))
          refine (HM.out _ ((hxr.trans hU).trans hxU7) _ rd hrl (hr7.widen fun _ _ _ => trivial)).mono ?_
          rintro e w8 ⟨r8, rfl, hr8, hx8⟩
          (refine hK _ _ (by repeat (first | with_reducible assumption | with_reducible exact Ext.refl _ | with_reducible refine Ext.drewN ?_ _ | with_reducible refine Ext.drew ?_ | with_reducible refine Ext.alloc ?_ _ | (with_reducible refine Ext.setCell ?_ ?_ _; rotate_left; (first | exact Nat.le_refl _ | (dsimp only; omega) | (simp only [wsz]; omega))) | (with_reducible refine Ext.trans ?_ (by with_reducible assumption)))) ?_; clear hK K; (try simp only [Act.put, List.setIfInBounds_toArray, List.set_cons_zero, List.set_cons_succ]))
          (refine sh_loud rfl rfl fun K hK => ?_; go_simp)
          refine (plus_c hr8 (by rw [cz_len]; have := zl_mul q (rd : Int); have := zl_word (x := (rd : Int)) (by omega); omega) (md : Int) (by omega) (by omega)).mono ?_
          rw [cz_v, HF.out]
          rintro e w9 ⟨r9, rfl, hr9, hx9⟩
          (refine hK _ _ (by repeat (first | with_reducible assumption | with_reducible exact Ext.refl _ | with_reducible refine Ext.drewN ?_ _ | with_reducible refine Ext.drew ?_ | with_reducible refine Ext.alloc ?_ _ | (with_reducible refine Ext.setCell ?_ ?_ _; rotate_left; (first | exact Nat.le_refl _ | (dsimp only; omega) | (simp only [wsz]; omega))) | (with_reducible refine Ext.trans ?_ (by with_reducible assumption)))) ?_; clear hK K; (try simp only [Act.put, List.setIfInBounds_toArray, List.set_cons_zero, List.set_cons_succ]))
          refine sh_done ?_
          have hxU9 := (hxU7.trans hx8).trans hx9
          have hV9 := (hxr.trans hU).trans hxU9
          have d6 := b6V.ext hV9
          have d6r := d6.rules; have d6l := d6.lt
          have hs9 := (hxU7.trans hx8).size
          have hsU := ((hxr.trans hU)).size
          have hE9 := hEV.trans hV9
          obtain ⟨zp, hzp⟩ : ∃ zp, zp = cz (partV s a.v n.v) := ⟨_, rfl⟩
          rw [← hzp] at hr9
          have HZP := Lib.hid hzp
          obtain ⟨A9, c9, rfl, h9⟩ := hr9
          clear f5r hzp
          (refine sh_late rfl rfl fun K hK => ?_; go_simp; refine hK _ _ ?_; clear hK K)
          refine sh_end ?_
          refine x_named fun T hT => ?_
          have kT : Kp (fun b => w.heap.size + 1 + 1 < b) w9 T := by rw [hT]; exact (by repeat (first | with_reducible exact Kp.refl _ | with_reducible refine Kp.drewN ?_ _ | with_reducible refine Kp.drew ?_ | with_reducible refine Kp.alloc ?_ _ | (with_reducible refine Kp.setCell ?_ ?_ _; rotate_left; (first | (dsimp only; omega) | (simp only [wsz]; omega))) | (with_reducible exact Kp.of_ext (by with_reducible assumption)) | (with_reducible refine Kp.ext ?_ (by with_reducible assumption))))
          have bT : Box T (w.heap.size + 1 + 1) 25 #[.bool zp.neg, .slice A9 zp.mag.length c9] := by rw [hT]; exact (d6.set_ 0 _).set_ 1 _
          have hET : Ext w T := by
            rw [hT]
            exact (hE9.setCell (by dsimp only; omega) _).setCell (by dsimp only; omega) _
          clear hT d6r d6
          have bTr := bT.rules; have bTl := bT.lt
          have h9T := (h9.widen (Y := fun b => w.heap.size + 1 + 1 < b) fun b hb _ => by have := b6V.lt; omega).keep kT
          go_wp2_with fail
          (refine bodyPost_ret (v := ?_) ?_ rfl ?_; rotate_left; (simp only [results, Tryz.results46]; go_simp; (first | done | with_reducible rfl)))
          refine ⟨_, rfl, ?_, hET⟩
          rw [← HZP.out]
          exact ⟨A9, c9, rfl, h9T.widen fun b hb _ => by omega⟩
        · have hF : q * (rd : Int) + (md : Int) = partV s a.v n.v := by
            have e1 : q = 0 := sgn_zero.1 (by rw [← Hsg.out]; exact hs0)
            have e2 : Nat.min i m = m := Nat.min_eq_right (by omega)
            rw [hpV.out, HMD.out, e2, e1]
            simp
          have HF := Lib.hid hF
          have hs0' : (sg == 0) = true := by rw [hs0]; rfl
          have il : (i : Int) < (p : Int) := by omega
          have i2 : (m : Int) ≤ (i : Int) := by omega
          clear hF hs0
          go_wp2_with fail
          refine (HSg.out _ (hxr.trans (by repeat (first | with_reducible assumption | with_reducible exact Ext.refl _ | with_reducible refine Ext.drewN ?_ _ | with_reducible refine Ext.drew ?_ | with_reducible refine Ext.alloc ?_ _ | (with_reducible refine Ext.setCell ?_ ?_ _; rotate_left; (first | exact Nat.le_refl _ | (dsimp only; omega) | (simp only [wsz]; omega))) | (with_reducible refine Ext.trans ?_ (by with_reducible assumption)))))).mono ?_
          rintro e U ⟨rfl, hU0⟩
          have hU : Ext wr U := (by repeat (first | with_reducible assumption | with_reducible exact Ext.refl _ | with_reducible refine Ext.drewN ?_ _ | with_reducible refine Ext.drew ?_ | with_reducible refine Ext.alloc ?_ _ | (with_reducible refine Ext.setCell ?_ ?_ _; rotate_left; (first | exact Nat.le_refl _ | (dsimp only; omega) | (simp only [wsz]; omega))) | (with_reducible refine Ext.trans ?_ (by with_reducible assumption))))
          have f5 := c5.ext hU
          have f5r := f5.rules; have f5l := f5.lt
          clear c5r c4r
          go_wp2_with fail
          refine wp_region_late [(0, true), (1, true), (4, true), (2, false), (3, false), (5, false)] [6] rfl (by kernel_rfl) (by intro _ _ d _ _ h; cases d <;> exact h) ?_
          (repeat (refine sh_take (v := ?_) rfl rfl ?_ ?_; rotate_left; (intro w' hx'; have hc' := hx'.cells.1; (try simp only [wcd] at hc'); go_simp; (first | done | with_reducible rfl)); (try simp only [Act.put, List.setIfInBounds_toArray, List.set_cons_zero, List.set_cons_succ])))
          (refine sh_loud rfl rfl fun K hK => ?_; go_simp)
          refine (cnum_c (rd : Int) (by omega) (by omega) _).mono ?_
          rintro e w7 ⟨r7, rfl, hr7, hx7⟩
          (refine hK _ _ (by repeat (first | with_reducible assumption | with_reducible exact Ext.refl _ | with_reducible refine Ext.drewN ?_ _ | with_reducible refine Ext.drew ?_ | with_reducible refine Ext.alloc ?_ _ | (with_reducible refine Ext.setCell ?_ ?_ _; rotate_left; (first | exact Nat.le_refl _ | (dsimp only; omega) | (simp only [wsz]; omega))) | (with_reducible refine Ext.trans ?_ (by with_reducible assumption)))) ?_; clear hK K; (try simp only [Act.put, List.setIfInBounds_toArray, List.set_cons_zero, List.set_cons_succ]))
          (refine sh_loud rfl rfl fun K hK => ?_; go_simp)
          have hxU7 : Ext U w7 := (by repeat (first | with_reducible assumption | with_reducible exact Ext.refl _ | with_reducible refine Ext.drewN ?_ _ | with_reducible refine Ext.drew ?_ | with_reducible refine Ext.alloc ?_ _ | (with_reducible refine Ext.setCell ?_ ?_ _; rotate_left; (first | exact Nat.le_refl _ | (dsimp only; omega) | (simp only [wsz]; omega))) | (with_reducible refine Ext.trans ?_ (by with_reducible assumption))))
          refine (HM.out _ ((hxr.trans hU).trans hxU7) _ rd hrl (hr7.widen fun _ _ _ => trivial)).mono ?_
          rintro e w8 ⟨r8, rfl, hr8, hx8⟩
          (refine hK _ _ (by repeat (first | with_reducible assumption | with_reducible exact Ext.refl _ | with_reducible refine Ext.drewN ?_ _ | with_reducible refine Ext.drew ?_ | with_reducible refine Ext.alloc ?_ _ | (with_reducible refine Ext.setCell ?_ ?_ _; rotate_left; (first | exact Nat.le_refl _ | (dsimp only; omega) | (simp only [wsz]; omega))) | (with_reducible refine Ext.trans ?_ (by with_reducible assumption)))) ?_; clear hK K; (try simp only [Act.put, List.setIfInBounds_toArray, List.set_cons_zero, List.set_cons_succ]))
          (refine sh_loud rfl rfl fun K hK => ?_; go_simp)
          refine (plus_c hr8 (by rw [cz_len]; have := zl_mul q (rd : Int); have := zl_word (x := (rd : Int)) (by omega); omega) (md : Int) (by omega) (by omega)).mono ?_
          rw [cz_v, HF.out]
          rintro e w9 ⟨r9, rfl, hr9, hx9⟩
          (refine hK _ _ (by repeat (first | with_reducible assumption | with_reducible exact Ext.refl _ | with_reducible refine Ext.drewN ?_ _ | with_reducible refine Ext.drew ?_ | with_reducible refine Ext.alloc ?_ _ | (with_reducible refine Ext.setCell ?_ ?_ _; rotate_left; (first | exact Nat.le_refl _ | (dsimp only; omega) | (simp only [wsz]; omega))) | (with_reducible refine Ext.trans ?_ (by with_reducible assumption)))) ?_; clear hK K; (try simp only [Act.put, List.setIfInBounds_toArray, List.set_cons_zero, List.set_cons_succ]))
          refine sh_done ?_
          have hxU9 := (hxU7.trans hx8).trans hx9
          have hV9 := (hxr.trans hU).trans hxU9
          have d6 := b6V.ext hV9
          have d6r := d6.rules; have d6l := d6.lt
          have hs9 := (hxU7.trans hx8).size
          have hsU := ((hxr.trans hU)).size
          have hE9 := hEV.trans hV9
          obtain ⟨zp, hzp⟩ : ∃ zp, zp = cz (partV s a.v n.v) := ⟨_, rfl⟩
          rw [← hzp] at hr9
          have HZP := Lib.hid hzp
          obtain ⟨A9, c9, rfl, h9⟩ := hr9
          clear f5r hzp
          (refine sh_late rfl rfl fun K hK => ?_; go_simp; refine hK _ _ ?_; clear hK K)
          refine sh_end ?_
          refine x_named fun T hT => ?_
          have kT : Kp (fun b => w.heap.size + 1 + 1 < b) w9 T := by rw [hT]; exact (by repeat (first | with_reducible exact Kp.refl _ | with_reducible refine Kp.drewN ?_ _ | with_reducible refine Kp.drew ?_ | with_reducible refine Kp.alloc ?_ _ | (with_reducible refine Kp.setCell ?_ ?_ _; rotate_left; (first | (dsimp only; omega) | (simp only [wsz]; omega))) | (with_reducible exact Kp.of_ext (by with_reducible assumption)) | (with_reducible refine Kp.ext ?_ (by with_reducible assumption))))
          have bT : Box T (w.heap.size + 1 + 1) 25 #[.bool zp.neg, .slice A9 zp.mag.length c9] := by rw [hT]; exact (d6.set_ 0 _).set_ 1 _
          have hET : Ext w T := by
            rw [hT]
            exact (hE9.setCell (by dsimp only; omega) _).setCell (by dsimp only; omega) _
          clear hT d6r d6
          have bTr := bT.rules; have bTl := bT.lt
          have h9T := (h9.widen (Y := fun b => w.heap.size + 1 + 1 < b) fun b hb _ => by have := b6V.lt; omega).keep kT
          go_wp2_with fail
          (refine bodyPost_ret (v := ?_) ?_ rfl ?_; rotate_left; (simp only [results, Tryz.results46]; go_simp; (first | done | with_reducible rfl)))
          refine ⟨_, rfl, ?_, hET⟩
          rw [← HZP.out]
          exact ⟨A9, c9, rfl, h9T.widen fun b hb _ => by omega⟩

end Go.Proofs.YtbblgjjomgipfaaGreat
