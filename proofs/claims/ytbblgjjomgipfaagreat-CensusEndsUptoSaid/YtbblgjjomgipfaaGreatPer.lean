/- periods: sets, rows; left, period. No conditions. -/
import Derived.Test.YtbblgjjomgipfaaGreatZ64
import Derived.Test.YtbblgjjomgipfaaGreatFree
namespace Go.Proofs.YtbblgjjomgipfaaGreat
open Go.RowKit

theorem phi_left {X : Nat → Prop} {q r : Int} : ∀ v w w', Ext w w' → (∃ a b, v = Value.tuple #[a, b, .int .i64 0] ∧ Zi w X a (cz q) ∧ Zi w X b (cz r)) → (∃ a b, v = Value.tuple #[a, b, .int .i64 0] ∧ Zi w' X a (cz q) ∧ Zi w' X b (cz r)) :=
  fun _ _ _ hx ⟨a, b, h1, h2, h3⟩ => ⟨a, b, h1, h2.ext hx, h3.ext hx⟩

/-- Limbs do not lie in a block that holds none. -/
theorem Nl.off {w : World} {X : Nat → Prop} {A : Option Addr} {c g : Nat} {l : List Nat} {t : TypeId} {cs : Array Value} (h : Nl w X A c l) (hb : Box w g t cs) (hcs : ∀ u ∈ cs.toList, ∀ x, u ≠ .int .u32 x) : Nl w (fun b => X b ∧ b ≠ g) A c l := by
  obtain ⟨h1, h2, h3, h4⟩ := h
  refine ⟨h1, h2, fun h0 => ?_, h4⟩
  obtain ⟨b, o, hA, hX, hi⟩ := h3 h0
  refine ⟨b, o, hA, ⟨hX, fun e => ?_⟩, hi⟩
  subst e
  obtain ⟨cs', hl, hc, he, _⟩ := hi 0 h0
  have h5 := hc 0 (by rw [hl]; omega)
  rw [hb.cell] at h5
  have h6 := Array.mem_of_getElem? h5
  subst he
  exact hcs _ (by simpa using h6) _ rfl
theorem Zi.off {w : World} {X : Nat → Prop} {g : Nat} {v : Value} {z : Z} {t : TypeId} {cs : Array Value} (h : Zi w X v z) (hb : Box w g t cs) (hcs : ∀ u ∈ cs.toList, ∀ x, u ≠ .int .u32 x) : Zi w (fun b => X b ∧ b ≠ g) v z := by
  obtain ⟨A, c, e, h⟩ := h
  exact ⟨A, c, e, h.off hb hcs⟩

set_option maxHeartbeats 1600000 in
theorem left_c {v : Value} {z : Z} {w : World} {X : Nat → Prop} {p : Nat} (h : Zi w X v z) (hL : z.mag.length ≤ 1099511627776) (h0 : 0 < p) (h1 : p < 4294967296) :
    Calls Tryz.prog 54 #[v, .int .i64 (p : Int)] w fun e w' => e = .returned (.int .i64 (z.v % p)) ∧ Ext w w' := by
  have hz := h
  obtain ⟨A, c, rfl, h⟩ := h
  go_enter Tryz.func54, Tryz.ntmps54
  go_wp2_with fail
  refine wp_named fun W hW => ?_
  have b2 : Box W w.heap.size 25 #[.bool z.neg, .slice A z.mag.length c] := by rw [hW]; exact (by repeat (first | with_reducible assumption | with_reducible exact Box.new _ _ _ | (with_reducible refine Box.new_at _ _ _ ?_; (simp only [wsz]; done)) | with_reducible refine Box.drewN ?_ _ | with_reducible refine Box.drew ?_ | with_reducible refine Box.alloc ?_ _ | with_reducible apply Box.drewN | with_reducible apply Box.drew | with_reducible apply Box.alloc | with_reducible refine Box.set_ ?_ _ _ | (with_reducible refine Box.far ?_ ?_ _; rotate_left; (simp only [ne_eq]; omega)) | (with_reducible refine Box.ext ?_ (by with_reducible assumption)) | (refine Box.new_at _ _ _ ?_; simp only [wsz]; done)))
  have hE : Ext w W := by rw [hW]; exact (by repeat (first | with_reducible assumption | with_reducible exact Ext.refl _ | with_reducible refine Ext.drewN ?_ _ | with_reducible refine Ext.drew ?_ | with_reducible refine Ext.alloc ?_ _ | (with_reducible refine Ext.setCell ?_ ?_ _; rotate_left; (first | exact Nat.le_refl _ | (dsimp only; omega) | (simp only [wsz]; omega))) | (with_reducible refine Ext.trans ?_ (by with_reducible assumption))))
  clear hW
  have b2l := b2.lt
  refine wp_region_free [(0, 11, []), (1, 12, []), (2, 13, [(1, 12)]), (3, 14, [(0, 11), (2, 13)]), (4, 10, [(3, 14)]), (5, 15, [(4, 10)]), (6, 16, [(4, 10)]), (7, 17, [(4, 10)]), (8, 5, []), (9, 6, [])] [10, 11, 12] [11, 12, 13, 14, 10, 15, 16, 17, 5, 6] [8, 9] [6, 7] [phiEq (.agg #[.bool z.neg, .slice A z.mag.length c]), phiEq (.int .i64 (p : Int)), phiZ (fun _ => True) (cz p), ⟨_, phi_left (X := fun _ => True) (q := z.v / p) (r := z.v % p)⟩, ⟨_, phi_left (X := fun _ => True) (q := z.v / p) (r := z.v % p)⟩,
    phiZ (fun _ => True) (cz (z.v / p)), phiZ (fun _ => True) (cz (z.v % p)), phiEq (.int .i64 0), phiBox W.heap.size 25 #[.bool false, .slice none 0 0], phiBox W.heap.size 25 #[.bool false, .slice none 0 0]] rfl (by kernel_rfl) (by intro _ _ d _ _ h; cases d <;> exact h) (by kernel_rfl) (by kernel_rfl) ?_ ?_
  · have hcb : W.cell? ⟨w.heap.size, 0, none⟩ = some (.bool z.neg) := by rw [b2.cell]; rfl
    have hcb1 : W.cell? ⟨w.heap.size, 1, none⟩ = some (.slice A z.mag.length c) := by rw [b2.cell]; rfl
    (refine ps_eq rfl rfl rfl rfl rfl rfl ?_ ?_; focus (intro f w1 hx hd; have hc' := hx.cells.1; (try simp only [wcd] at hc'); (dsimp only [PhiDeps, phiAt, phiEq, phiZ, phiAny, phiBox] at hd); (simp only [fillA]; (try simp only [Act.put, List.setIfInBounds_toArray, List.set_cons_zero, List.set_cons_succ])); (try simp only [hd]); go_simp; (first | done | with_reducible rfl)))
    (refine ps_eq rfl rfl rfl rfl rfl rfl ?_ ?_; focus (intro f w1 hx hd; have hc' := hx.cells.1; (try simp only [wcd] at hc'); (dsimp only [PhiDeps, phiAt, phiEq, phiZ, phiAny, phiBox] at hd); (simp only [fillA]; (try simp only [Act.put, List.setIfInBounds_toArray, List.set_cons_zero, List.set_cons_succ])); (try simp only [hd]); go_simp; (first | done | with_reducible rfl)))
    (refine ps_loud rfl rfl rfl rfl rfl (fun f w1 hx hd K hK => ?_) ?_)
    · (have hc' := hx.cells.1; (try simp only [wcd] at hc'); (dsimp only [PhiDeps, phiAt, phiEq, phiZ, phiAny, phiBox] at hd); simp only [fillA, Act.put, List.setIfInBounds_toArray, List.set_cons_zero, List.set_cons_succ] at hK; (simp only [fillA]; (try simp only [Act.put, List.setIfInBounds_toArray, List.set_cons_zero, List.set_cons_succ])); (try simp only [hd] at hK ⊢); go_simp)
      refine (zof_c (p : Int) (by omega) (by omega) _).mono ?_
      rintro e w2 ⟨r, rfl, hr, hx2⟩
      (refine hK _ _ (by repeat (first | with_reducible assumption | with_reducible exact Ext.refl _ | with_reducible refine Ext.drewN ?_ _ | with_reducible refine Ext.drew ?_ | with_reducible refine Ext.alloc ?_ _ | (with_reducible refine Ext.setCell ?_ ?_ _; rotate_left; (first | exact Nat.le_refl _ | (dsimp only; omega) | (simp only [wsz]; omega))) | (with_reducible refine Ext.trans ?_ (by with_reducible assumption)))) ?_; dsimp only [phiAt, phiEq, phiZ, phiAny, phiBox])
      exact hr.widen fun _ _ _ => trivial
    (refine ps_loud rfl rfl rfl rfl rfl (fun f w1 hx hd K hK => ?_) ?_)
    · (have hc' := hx.cells.1; (try simp only [wcd] at hc'); (dsimp only [PhiDeps, phiAt, phiEq, phiZ, phiAny, phiBox] at hd); simp only [fillA, Act.put, List.setIfInBounds_toArray, List.set_cons_zero, List.set_cons_succ] at hK; (simp only [fillA]; (try simp only [Act.put, List.setIfInBounds_toArray, List.set_cons_zero, List.set_cons_succ])); (try simp only [hd] at hK ⊢); go_simp)
      refine (zdiv_c (P := p) (hz.ext (hE.trans (by repeat (first | with_reducible assumption | with_reducible exact Ext.refl _ | with_reducible refine Ext.drewN ?_ _ | with_reducible refine Ext.drew ?_ | with_reducible refine Ext.alloc ?_ _ | (with_reducible refine Ext.setCell ?_ ?_ _; rotate_left; (first | exact Nat.le_refl _ | (dsimp only; omega) | (simp only [wsz]; omega))) | (with_reducible refine Ext.trans ?_ (by with_reducible assumption)))))) hd.2.1 (by rw [cz_v]) h0 h1 hL (by rw [cz_len]; have := zl_word (x := (p : Int)) (by omega); omega)).mono ?_
      rintro e w2 ⟨q, r, rfl, hq, hr, hx2⟩
      (refine hK _ _ (by repeat (first | with_reducible assumption | with_reducible exact Ext.refl _ | with_reducible refine Ext.drewN ?_ _ | with_reducible refine Ext.drew ?_ | with_reducible refine Ext.alloc ?_ _ | (with_reducible refine Ext.setCell ?_ ?_ _; rotate_left; (first | exact Nat.le_refl _ | (dsimp only; omega) | (simp only [wsz]; omega))) | (with_reducible refine Ext.trans ?_ (by with_reducible assumption)))) ?_; dsimp only [phiAt, phiEq, phiZ, phiAny, phiBox])
      exact ⟨q, r, rfl, hq.widen fun _ _ _ => trivial, hr.widen fun _ _ _ => trivial⟩
    refine ps_take rfl rfl rfl rfl rfl ?_ ?_
    · intro f w1 hx hd
      (dsimp only [PhiDeps, phiAt, phiEq, phiZ, phiAny, phiBox] at hd)
      refine ⟨f 14, ?_, hd.1⟩
      (simp only [fillA]; (try simp only [Act.put, List.setIfInBounds_toArray, List.set_cons_zero, List.set_cons_succ]))
      go_simp
    refine ps_take rfl rfl rfl rfl rfl ?_ ?_
    · intro f w1 hx hd
      (dsimp only [PhiDeps, phiAt, phiEq, phiZ, phiAny, phiBox] at hd)
      obtain ⟨⟨a, b, e, h1, h2⟩, -⟩ := hd
      refine ⟨a, ?_, h1⟩
      (simp only [fillA]; (try simp only [Act.put, List.setIfInBounds_toArray, List.set_cons_zero, List.set_cons_succ]))
      simp only [e]
      go_simp
    refine ps_pure rfl rfl rfl rfl ?_ ?_
    · intro f w1 hx hd
      (dsimp only [PhiDeps, phiAt, phiEq, phiZ, phiAny, phiBox] at hd)
      obtain ⟨⟨a, b, e, h1, h2⟩, -⟩ := hd
      refine ⟨b, ?_, h2⟩
      intro w'
      (simp only [fillA]; (try simp only [Act.put, List.setIfInBounds_toArray, List.set_cons_zero, List.set_cons_succ]))
      simp only [e]
      go_simp
    refine ps_peq rfl rfl rfl rfl rfl ?_ ?_
    · intro f w1 hx hd w'
      (dsimp only [PhiDeps, phiAt, phiEq, phiZ, phiAny, phiBox] at hd)
      obtain ⟨⟨a, b, e, h1, h2⟩, -⟩ := hd
      (simp only [fillA]; (try simp only [Act.put, List.setIfInBounds_toArray, List.set_cons_zero, List.set_cons_succ]))
      simp only [e]
      go_simp
    (refine ps_alloc rfl rfl rfl rfl rfl ?_ (by repeat (first | exact ab_nil | refine ab_cons rfl ?_)) ?_ ?_; (focus (first | omega | (simp only [wsz]; done) | (simp only [wsz]; omega))); (focus (intro f w1; (simp only [fillA]; (try simp only [Act.put, List.setIfInBounds_toArray, List.set_cons_zero, List.set_cons_succ])); go_simp; try (with_reducible rfl))))
    (refine ps_alloc rfl rfl rfl rfl rfl ?_ (by repeat (first | exact ab_nil | refine ab_cons rfl ?_)) ?_ ?_; (focus (first | omega | (simp only [wsz]; done) | (simp only [wsz]; omega))); (focus (intro f w1; (simp only [fillA]; (try simp only [Act.put, List.setIfInBounds_toArray, List.set_cons_zero, List.set_cons_succ])); go_simp; try (with_reducible rfl))))
    exact ps_nil
  · intro f w1 hx hall hne
    (dsimp only [PhiAll, phiAt, phiEq, phiZ, phiAny, phiBox] at hall)
    obtain ⟨f11, f12, f13, f14, f10, ⟨aq, cq, eq, hq⟩, ⟨ar, cr, er, hr⟩, f17, ⟨g5, e5, l5, x5⟩, ⟨g6, e6, l6, x6⟩, -⟩ := hall
    (simp only [fillA]; (try simp only [Act.put, List.setIfInBounds_toArray, List.set_cons_zero, List.set_cons_succ]))
    simp only [f11, f12, f17, eq, er, e5, e6]
    have hne56 : g6 ≠ g5 := fun e => hne (8, 5, []) (by simp) (9, 6, []) (by simp) rfl rfl (by decide) (by rw [e5, e6, e])
    have x5r := x5.rules; have x5l := x5.lt
    have x6r := x6.rules; have x6l := x6.lt
    (refine sh_late rfl rfl fun K hK => ?_; go_simp; refine hK _ _ ?_; clear hK K)
    (refine sh_late rfl rfl fun K hK => ?_; go_simp; refine hK _ _ ?_; clear hK K)
    (refine sh_late rfl rfl fun K hK => ?_; go_simp; refine hK _ _ ?_; clear hK K)
    refine sh_end ?_
    refine x_named fun V hV => ?_
    have u6 : Box V g6 25 #[.bool (cz (z.v % ↑p)).neg, .slice ar (cz (z.v % ↑p)).mag.length cr] := by rw [hV]; exact (((x6.far hne56 _).far hne56 _).set_ 0 _).set_ 1 _
    have hEV : Ext w V := by
      rw [hV]
      have h1 := hE.trans (Ext.trans (Ext.refl W).drew hx)
      exact (((h1.setCell (by simp only; omega) _).setCell (by simp only; omega) _).setCell (by simp only; omega) _).setCell (by simp only; omega) _
    have hr2 : Nl V (fun _ => True) ar cr (cz (z.v % p)).mag := by
      rw [hV]
      refine (Nl.keep ((hr.off x5 (by simp)).off x6 (by simp)) ?_).widen fun _ _ _ => trivial
      exact ((((Kp.refl w1).setCell (fun h => h.1.2 rfl) _).setCell (fun h => h.1.2 rfl) _).setCell (fun h => h.2 rfl) _).setCell (fun h => h.2 rfl) _
    clear hV x5r x6r
    have u6r := u6.rules; have u6l := u6.lt
    go_wp2_with fail
    have hlt := Int.emod_lt_of_pos z.v (show (0 : Int) < (p : Int) by omega)
    have hge := Int.emod_nonneg z.v (show (p : Int) ≠ 0 by omega)
    have hr64 : i64 (z.v % p) := ⟨by omega, by omega⟩
    refine (zint64_c (z := cz (z.v % p)) ⟨_, _, rfl, hr2⟩ (by rw [cz_len]; have := zl_word (x := z.v % p) (by omega); omega)).mono ?_
    rw [cz_v, (i64_in hr64).1, (i64_in hr64).2]
    rintro e w2 ⟨rfl, hx2⟩
    go_wp2_with fail
    go_ret
    exact ⟨rfl, hEV.trans hx2⟩

theorem per_in {x : Int} : (i64b ((x.natAbs : Nat) : Int) && decide (i64v ((x.natAbs : Nat) : Int) ≤ 4096)) = decide (x.natAbs ≤ 4096) := by
  by_cases h : i64 ((x.natAbs : Nat) : Int)
  · rw [(i64_in h).1, (i64_in h).2, Bool.true_and]
    congr 1
    exact propext ⟨fun h => by omega, fun h => by omega⟩
  · rw [(i64_out h).1, (i64_out h).2, Bool.false_and]
    rw [eq_comm, decide_eq_false_iff_not]
    intro h2
    exact h ⟨by omega, by omega⟩

set_option maxHeartbeats 800000 in
theorem period_c {v : Value} {z : Z} {w : World} {X : Nat → Prop} (h : Zi w X v z) (hL : z.mag.length ≤ 1099511627776) :
    Calls Tryz.prog 70 #[v] w fun e w' => e = .returned (.tuple #[.int .i64 (i64v ((z.v.natAbs : Nat) : Int)), .bool (decide (z.v.natAbs ≤ 4096))]) ∧ Ext w w' := by
  have hz := h
  have hzl := zl_of h.lb
  have hab : (cz ((z.v.natAbs : Nat) : Int)).mag.length ≤ 4398046511104 := by
    rw [cz_len]
    unfold zl at *
    rw [Int.natAbs_natCast]
    omega
  obtain ⟨A, c, rfl, h⟩ := h
  have hl := Lib.hid (per_in (x := z.v))
  go_enter Tryz.func70, Tryz.ntmps70
  go_wp2_with fail
  refine (zabs_c (hz.ext (by repeat (first | with_reducible assumption | with_reducible exact Ext.refl _ | with_reducible refine Ext.drewN ?_ _ | with_reducible refine Ext.drew ?_ | with_reducible refine Ext.alloc ?_ _ | (with_reducible refine Ext.setCell ?_ ?_ _; rotate_left; (first | exact Nat.le_refl _ | (dsimp only; omega) | (simp only [wsz]; omega))) | (with_reducible refine Ext.trans ?_ (by with_reducible assumption))))) (by omega)).mono ?_
  rintro e w1 ⟨r, rfl, ⟨A1, c1, rfl, h1⟩, hx1⟩
  go_wp2_with fail
  refine (zint64_c (z := cz ((z.v.natAbs : Nat) : Int)) ⟨_, _, rfl, h1⟩ hab).mono ?_
  rw [cz_v]
  rintro e w2 ⟨rfl, hx2⟩
  have hE := (Ext.alloc (Ext.refl w) _).trans (hx1.trans hx2)
  obtain ⟨n, hn⟩ : ∃ n, n = i64v ((z.v.natAbs : Nat) : Int) := ⟨_, rfl⟩
  obtain ⟨b, hb⟩ : ∃ b, b = i64b ((z.v.natAbs : Nat) : Int) := ⟨_, rfl⟩
  rw [← hn, ← hb] at hl ⊢
  have HN := Lib.hid hn
  clear hn hb
  cases b
  · go_wp2_with fail
    (refine bodyPost_ret (v := ?_) ?_ rfl ?_; rotate_left; (simp only [results, Tryz.results70]; go_simp; (first | done | with_reducible rfl)))
    refine ⟨?_, hE⟩
    rw [← hl.out, ← HN.out]; rfl
  · go_wp2_with fail
    (refine bodyPost_ret (v := ?_) ?_ rfl ?_; rotate_left; (simp only [results, Tryz.results70]; go_simp; (first | done | with_reducible rfl)))
    refine ⟨?_, hE⟩
    rw [← hl.out, ← HN.out]; rfl

end Go.Proofs.YtbblgjjomgipfaaGreat
