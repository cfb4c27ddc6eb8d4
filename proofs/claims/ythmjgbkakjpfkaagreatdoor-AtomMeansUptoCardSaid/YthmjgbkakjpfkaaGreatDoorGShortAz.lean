/- term.Norm. No conditions. term.Coef. No conditions. -/
import Derived.Test.YthmjgbkakjpfkaaGreatDoorGShortAt
import Derived.Test.YthmjgbkakjpfkaaGreatDoorGShortAx
import Derived.Test.YthmjgbkakjpfkaaGreatDoorGShortAy
import Derived.Test.YthmjgbkakjpfkaaGreatDoorGShortAi
import Derived.Test.YthmjgbkakjpfkaaGreatDoorGShortBa
namespace Go.Proofs.YthmjgbkakjpfkaaGreatDoor
open Go.RowKit

theorem nf_sum (t : T) : ct (sc (cz 1).v (vl t.ps) ++ sc (Z.v ⟨false, []⟩) (vl [])) ((cz 1).v * t.k.v + Z.v ⟨false, []⟩ * Z.v ⟨false, []⟩) = t.nf := by
  refine ct_congr (fun x => ?_) ?_
  · rw [cf_append, cf_sc, cz_v, Int.one_mul]
    simp [vl, sc, cf]
  · rw [cz_v]
    simp [Z.v, nv]
theorem valid_cz {t : T} (h : t.valid = true) (hb : t.lb) : ∀ p ∈ t.ps, cz p.2.v = p.2 := by
  have h1 := (valid_iff hb).1 h
  unfold T.valid at h
  rw [Bool.and_eq_true, validF_iff _ _ hb.1] at h
  obtain ⟨⟨h2, _⟩, _⟩ := h
  intro p hp
  obtain ⟨k, hk, rfl⟩ := List.getElem_of_mem hp
  have : (cl (vl t.ps))[k]'(by rw [h2]; exact hk) = t.ps[k] := by simp only [h2]
  simp only [cl, vl, List.getElem_map] at this
  exact congrArg Prod.snd this
theorem valid_kz {t : T} (h : t.valid = true) (hb : t.lb) : cz t.k.v = t.k := by
  unfold T.valid at h
  rw [Bool.and_eq_true, ok_iff hb.2] at h
  exact h.2
theorem one_le (N : Nat) : (cz 1).mag.length ≤ N + 2 := by
  rw [cz_len]
  exact Nat.le_trans (zl_word (x := 1) (by omega)) (by omega)

theorem end_norm {w wr : World} {t : T} {A3 B3 : Option Addr} {c3 d3 : Nat} (hP : Own 3 EP wr (w.heap.size + 2 ≤ ·) (w.heap.size + 2) 37 (.slice A3 t.ps.length c3) t.ps) (hS : Spp wr (.slice A3 t.ps.length c3)) (hN : Nl wr (w.heap.size + 2 ≤ ·) B3 d3 (cz t.k.v).mag) (hK : cz t.k.v = t.k) (hnf : t.nf = t) (hx : Ext w wr) :
    ∃ r, Ending.returned (.agg #[.slice A3 t.ps.length c3, .bool (cz t.k.v).neg, .slice B3 (cz t.k.v).mag.length d3]) = .returned r ∧
      TvF (((wr.setCell ⟨w.heap.size + 1, 0, none⟩ (.slice A3 t.ps.length c3)).setCell ⟨w.heap.size + 1, 1, none⟩ (.bool (cz t.k.v).neg)).setCell ⟨w.heap.size + 1, 2, none⟩ (.slice B3 (cz t.k.v).mag.length d3)) w.heap.size r t.nf ∧
      Ext w (((wr.setCell ⟨w.heap.size + 1, 0, none⟩ (.slice A3 t.ps.length c3)).setCell ⟨w.heap.size + 1, 1, none⟩ (.bool (cz t.k.v).neg)).setCell ⟨w.heap.size + 1, 2, none⟩ (.slice B3 (cz t.k.v).mag.length d3)) := by
  rw [hK] at hN ⊢
  rw [hnf]
  have kp : Kp (w.heap.size + 2 ≤ ·) wr (((wr.setCell ⟨w.heap.size + 1, 0, none⟩ (.slice A3 t.ps.length c3)).setCell ⟨w.heap.size + 1, 1, none⟩ (.bool t.k.neg)).setCell ⟨w.heap.size + 1, 2, none⟩ (.slice B3 t.k.mag.length d3)) :=
    (((Kp.refl wr).setCell (by simp only; omega) _).setCell (by simp only; omega) _).setCell (by simp only; omega) _
  have hF : TvF wr (w.heap.size + 2) _ t := ⟨A3, c3, B3, d3, rfl, hP, hS, hN⟩
  exact ⟨_, rfl, (hF.keep kp).lower (by omega), ((hx.setCell (by simp only; omega) _).setCell (by simp only; omega) _).setCell (by simp only; omega) _⟩

/-- Behind the literal. -/
def NormAt (w W : World) (t : T) (g : Nat) (A3 : Option Addr) (c3 : Nat) (B3 : Option Addr) (d3 : Nat) : Prop :=
  w.heap.size + 2 ≤ g ∧ Ext w W ∧ Box W g 27 #[.slice A3 t.ps.length c3, .bool (cz t.k.v).neg, .slice B3 (cz t.k.v).mag.length d3] ∧ Box W (w.heap.size + 1) 27 #[.slice none 0 0, .bool false, .slice none 0 0] ∧
    (∃ base, w.heap.size + 2 ≤ base ∧ Own 3 EP W (· < w.heap.size) base 37 (.slice A3 t.ps.length c3) t.ps ∧ Spp W (.slice A3 t.ps.length c3)) ∧ Value.ownBlock (.slice A3 t.ps.length c3) ≠ some g ∧
    Nl W (fun c => w.heap.size + 2 ≤ c ∧ Value.ownBlock (.slice A3 t.ps.length c3) ≠ some c) B3 d3 (cz t.k.v).mag
theorem norm_at {w W : World} {t : T} {g base : Nat} {A3 B3 : Option Addr} {c3 d3 : Nat} (hE : Ext w W) (hg : w.heap.size + 2 ≤ g) (hb : Box W g 27 #[.slice none 0 0, .bool false, .slice none 0 0]) (hb2 : Box W (w.heap.size + 1) 27 #[.slice none 0 0, .bool false, .slice none 0 0])
    (hbase : w.heap.size + 2 ≤ base) (hO : Own 3 EP W (· < w.heap.size) base 37 (.slice A3 t.ps.length c3) t.ps) (hS : Spp W (.slice A3 t.ps.length c3)) (hne : Value.ownBlock (.slice A3 t.ps.length c3) ≠ some g)
    (hN : Nl W (fun c => w.heap.size + 2 ≤ c ∧ Value.ownBlock (.slice A3 t.ps.length c3) ≠ some c ∧ c ≠ g) B3 d3 (cz t.k.v).mag) :
    NormAt w (((W.setCell ⟨g, 0, none⟩ (.slice A3 t.ps.length c3)).setCell ⟨g, 1, none⟩ (.bool (cz t.k.v).neg)).setCell ⟨g, 2, none⟩ (.slice B3 (cz t.k.v).mag.length d3)) t g A3 c3 B3 d3 := by
  have kp : Kp (fun c => c ≠ g) W (((W.setCell ⟨g, 0, none⟩ (.slice A3 t.ps.length c3)).setCell ⟨g, 1, none⟩ (.bool (cz t.k.v).neg)).setCell ⟨g, 2, none⟩ (.slice B3 (cz t.k.v).mag.length d3)) :=
    (((Kp.refl W).setCell (fun h => h rfl) _).setCell (fun h => h rfl) _).setCell (fun h => h rfl) _
  refine ⟨hg, (by repeat (first | with_reducible assumption | with_reducible exact Ext.refl _ | with_reducible refine Ext.drewN ?_ _ | with_reducible refine Ext.drew ?_ | with_reducible refine Ext.alloc ?_ _ | (with_reducible refine Ext.setCell ?_ ?_ _; rotate_left; (first | exact Nat.le_refl _ | (dsimp only; omega) | (simp only [wsz]; omega))) | (with_reducible refine Ext.trans ?_ (by with_reducible assumption)))), ?_, hb2.keep (X := fun c => c ≠ g) (by omega) kp, ⟨base, hbase, hO.keep (kp.imp fun c hc e => ?_), ((hS.far hne _).far hne _).far hne _⟩, hne, (hN.keep (kp.imp fun c hc => hc.2.2)).widen fun c hc _ => ⟨hc.1, hc.2.1⟩⟩
  · exact ((hb.set_ 0 _).set_ 1 _).set_ 2 _
  · rcases hc with hc | hc
    · omega
    · exact hne (by rw [hc, e])

set_option maxHeartbeats 1000000 in
theorem tnorm_f {v : Value} {t : T} {w : World} {X : Nat → Prop} {N : Nat} (h : Tv w X v t) (hN : N ≤ 17179869184) (hs : t.sz N) :
    Calls Tryz.prog 56 #[v] w fun e w' => ∃ r, e = .returned r ∧ TvF w' w.heap.size r t.nf ∧ Ext w w' := by
  have htv := h
  have hlb := h.lb
  obtain ⟨A, c, B, d, rfl, h1, h2⟩ := h
  have hs2 : t.sz (N + 2) := hs.mono (by omega)
  obtain ⟨s1, s2, s3⟩ := hs
  go_enter Tryz.func56, Tryz.ntmps56
  go_wp2_with fail
  refine (tvalid_c (htv.ext (by repeat (first | with_reducible assumption | with_reducible exact Ext.refl _ | with_reducible refine Ext.drewN ?_ _ | with_reducible refine Ext.drew ?_ | with_reducible refine Ext.alloc ?_ _ | (with_reducible refine Ext.setCell ?_ ?_ _; rotate_left; (first | exact Nat.le_refl _ | (dsimp only; omega) | (simp only [wsz]; omega))) | (with_reducible refine Ext.trans ?_ (by with_reducible assumption)))))).mono ?_
  rintro e w1 ⟨rfl, hx⟩
  (have b1 := Box.ext (g := w.heap.size) (by repeat (first | with_reducible assumption | with_reducible exact Box.new _ _ _ | (with_reducible refine Box.new_at _ _ _ ?_; (simp only [wsz]; done)) | with_reducible refine Box.drewN ?_ _ | with_reducible refine Box.drew ?_ | with_reducible refine Box.alloc ?_ _ | with_reducible apply Box.drewN | with_reducible apply Box.drew | with_reducible apply Box.alloc | with_reducible refine Box.set_ ?_ _ _ | (with_reducible refine Box.far ?_ ?_ _; rotate_left; (simp only [ne_eq]; omega)) | (with_reducible refine Box.ext ?_ (by with_reducible assumption)) | (refine Box.new_at _ _ _ ?_; simp only [wsz]; done))) hx; have b1r := b1.rules; have b1l := b1.lt)
  (have b2 := Box.ext (g := w.heap.size + 1) (by repeat (first | with_reducible assumption | with_reducible exact Box.new _ _ _ | (with_reducible refine Box.new_at _ _ _ ?_; (simp only [wsz]; done)) | with_reducible refine Box.drewN ?_ _ | with_reducible refine Box.drew ?_ | with_reducible refine Box.alloc ?_ _ | with_reducible apply Box.drewN | with_reducible apply Box.drew | with_reducible apply Box.alloc | with_reducible refine Box.set_ ?_ _ _ | (with_reducible refine Box.far ?_ ?_ _; rotate_left; (simp only [ne_eq]; omega)) | (with_reducible refine Box.ext ?_ (by with_reducible assumption)) | (refine Box.new_at _ _ _ ?_; simp only [wsz]; done))) hx; have b2r := b2.rules; have b2l := b2.lt)
  (have hsz := Ext.size hx; (try simp only [wsz] at hsz))
  have hE : Ext w w1 := (by repeat (first | with_reducible assumption | with_reducible exact Ext.refl _ | with_reducible refine Ext.drewN ?_ _ | with_reducible refine Ext.drew ?_ | with_reducible refine Ext.alloc ?_ _ | (with_reducible refine Ext.setCell ?_ ?_ _; rotate_left; (first | exact Nat.le_refl _ | (dsimp only; omega) | (simp only [wsz]; omega))) | (with_reducible refine Ext.trans ?_ (by with_reducible assumption))))
  rcases hval : t.valid with _ | _
  · go_wp2_with fail
    refine wp_region_seq 5 [(1, true), (2, true), (3, true), (0, false), (4, false), (5, false)] rfl (by kernel_rfl) (by intro _ _ d _ _ h; cases d <;> exact h) ?_
    (repeat (refine sq_take (v := ?_) rfl rfl ?_ ?_; rotate_left; (intro w' hx'; have hc' := hx'.cells.1; (try simp only [wcd] at hc'); go_simp; (first | done | with_reducible rfl)); (try simp only [Act.put, List.setIfInBounds_toArray, List.set_cons_zero, List.set_cons_succ])))
    (refine sq_loud rfl rfl fun K hK => ?_; go_simp)
    refine (zof_c 1 (by omega) (by omega) _).mono ?_
    rintro e w2 ⟨r, rfl, hz, hx2⟩
    (refine hK _ _ (by repeat (first | with_reducible assumption | with_reducible exact Ext.refl _ | with_reducible refine Ext.drewN ?_ _ | with_reducible refine Ext.drew ?_ | with_reducible refine Ext.alloc ?_ _ | (with_reducible refine Ext.setCell ?_ ?_ _; rotate_left; (first | exact Nat.le_refl _ | (dsimp only; omega) | (simp only [wsz]; omega))) | (with_reducible refine Ext.trans ?_ (by with_reducible assumption)))) ?_; clear hK K; (try simp only [Act.put, List.setIfInBounds_toArray, List.set_cons_zero, List.set_cons_succ]))
    (repeat (refine sq_take (v := ?_) rfl rfl ?_ ?_; rotate_left; (intro w' hx'; have hc' := hx'.cells.1; (try simp only [wcd] at hc'); go_simp; (first | done | with_reducible rfl)); (try simp only [Act.put, List.setIfInBounds_toArray, List.set_cons_zero, List.set_cons_succ])))
    (refine sq_loud rfl rfl fun K hK => ?_; go_simp)
    refine (sum_c (hz) (htv.ext (hE.trans (by repeat (first | with_reducible assumption | with_reducible exact Ext.refl _ | with_reducible refine Ext.drewN ?_ _ | with_reducible refine Ext.drew ?_ | with_reducible refine Ext.alloc ?_ _ | (with_reducible refine Ext.setCell ?_ ?_ _; rotate_left; (first | exact Nat.le_refl _ | (dsimp only; omega) | (simp only [wsz]; omega))) | (with_reducible refine Ext.trans ?_ (by with_reducible assumption)))))) (zero_zi _ (fun _ => True)) (zero_tv _ (fun _ => True)) (N := N + 2) (by omega) (one_le N) hs2 (Nat.zero_le _) ⟨Nat.zero_le _, by simp, Nat.zero_le _⟩).mono ?_
    rw [nf_sum]
    rintro e w3 ⟨r3, rfl, h3, hx3⟩
    (refine hK _ _ (by repeat (first | with_reducible assumption | with_reducible exact Ext.refl _ | with_reducible refine Ext.drewN ?_ _ | with_reducible refine Ext.drew ?_ | with_reducible refine Ext.alloc ?_ _ | (with_reducible refine Ext.setCell ?_ ?_ _; rotate_left; (first | exact Nat.le_refl _ | (dsimp only; omega) | (simp only [wsz]; omega))) | (with_reducible refine Ext.trans ?_ (by with_reducible assumption)))) ?_; clear hK K; (try simp only [Act.put, List.setIfInBounds_toArray, List.set_cons_zero, List.set_cons_succ]))
    have hF3 := h3
    obtain ⟨A3, c3, B3, d3, rfl, -, -, -⟩ := h3
    (have hsz2 := Ext.size hx2; (try simp only [wsz] at hsz2))
    (have hsz3 := Ext.size hx3; (try simp only [wsz] at hsz3))
    have hb3 : Box w3 (w.heap.size + 1) 27 #[.slice none 0 0, .bool false, .slice none 0 0] := (b2.drew.ext hx2).ext hx3
    have hb3r := hb3.rules
    have hb3l := hb3.lt
    have hE3 : Ext w w3 := hE.trans (by repeat (first | with_reducible assumption | with_reducible exact Ext.refl _ | with_reducible refine Ext.drewN ?_ _ | with_reducible refine Ext.drew ?_ | with_reducible refine Ext.alloc ?_ _ | (with_reducible refine Ext.setCell ?_ ?_ _; rotate_left; (first | exact Nat.le_refl _ | (dsimp only; omega) | (simp only [wsz]; omega))) | (with_reducible refine Ext.trans ?_ (by with_reducible assumption))))
    (repeat (refine sq_take (v := ?_) rfl rfl ?_ ?_; rotate_left; (intro w' hx'; have hc' := hx'.cells.1; (try simp only [wcd] at hc'); go_simp; (first | done | with_reducible rfl)); (try simp only [Act.put, List.setIfInBounds_toArray, List.set_cons_zero, List.set_cons_succ])))
    (refine sq_last rfl rfl fun K hK => ?_; go_simp; refine hK _ _ ?_; clear hK K)
    go_wp2_with fail
    (refine bodyPost_ret (v := ?_) ?_ rfl ?_; rotate_left; (simp only [results, Tryz.results56]; go_simp; (first | done | with_reducible rfl)))
    exact ⟨_, rfl, (hF3.keep (by repeat (first | with_reducible exact Kp.refl _ | with_reducible refine Kp.drewN ?_ _ | with_reducible refine Kp.drew ?_ | with_reducible refine Kp.alloc ?_ _ | (with_reducible refine Kp.setCell ?_ ?_ _; rotate_left; (first | (dsimp only; omega) | (simp only [wsz]; omega))) | (with_reducible exact Kp.of_ext (by with_reducible assumption)) | (with_reducible refine Kp.ext ?_ (by with_reducible assumption))))).lower (by first | omega | (simp only [wsz]; omega)), (by repeat (first | with_reducible assumption | with_reducible exact Ext.refl _ | with_reducible refine Ext.drewN ?_ _ | with_reducible refine Ext.drew ?_ | with_reducible refine Ext.alloc ?_ _ | (with_reducible refine Ext.setCell ?_ ?_ _; rotate_left; (first | exact Nat.le_refl _ | (dsimp only; omega) | (simp only [wsz]; omega))) | (with_reducible refine Ext.trans ?_ (by with_reducible assumption))))⟩
  · have hcz := valid_cz hval hlb
    have hkz := valid_kz hval hlb
    have HC := Lib.hid hcz; have HK := Lib.hid hkz; clear hcz hkz
    have hnf := Lib.hid ((valid_iff hlb).1 hval)
    go_wp2_with fail
    refine wp_region_tree 8 (.quiet 0 (.quiet 1 (.quiet 3 (.quiet 4 (.two 2 7 (.two 5 7 (.line [(6, true), (7, false), (8, false)]) (.line [(5, false), (6, true), (8, false)])) (.line [(2, false), (5, false), (6, true), (8, false)])))))) rfl (by kernel_rfl) (by intro _ _ d _ _ h; cases d <;> exact h) ?_
    (repeat (refine tr_take (v := ?_) rfl rfl ?_ ?_; rotate_left; (intro w' hx'; have hc' := hx'.cells.1; (try simp only [wcd] at hc'); go_simp; (first | done | with_reducible rfl)); (try simp only [Act.put, List.setIfInBounds_toArray, List.set_cons_zero, List.set_cons_succ])))
    obtain ⟨V, hV⟩ : ∃ V, V = w1.drew := ⟨_, rfl⟩
    have hVx : Ext w1 V := by rw [hV]; exact (by repeat (first | with_reducible assumption | with_reducible exact Ext.refl _ | with_reducible refine Ext.drewN ?_ _ | with_reducible refine Ext.drew ?_ | with_reducible refine Ext.alloc ?_ _ | (with_reducible refine Ext.setCell ?_ ?_ _; rotate_left; (first | exact Nat.le_refl _ | (dsimp only; omega) | (simp only [wsz]; omega))) | (with_reducible refine Ext.trans ?_ (by with_reducible assumption))))
    rw [← hV]
    clear hV
    have hVs := hVx.size
    clear b1r b2r
    have h1b : Pl V (· < w.heap.size) A c t.ps := (h1.below.ext hE).ext hVx
    refine tr_two rfl rfl rfl rfl (fun K hK => ?one) (fun K hK => ?two)
    case' one =>
      go_simp
      refine (clonep_c h1b (by omega)).mono ?_
      rintro e w2 ⟨v3, rfl, hO, hSp, hx2⟩
      have hO := hO.widen (Z' := fun b => b < w.heap.size) fun b hb _ => hb.1
      obtain ⟨A3, c3, rfl, hj⟩ := Own.sl hO (by omega) (X := fun _ => True) (fun _ _ => trivial)
      clear hj
      (have hsz2 := Ext.size hx2; (try simp only [wsz] at hsz2))
      refine hK _ _ (by repeat (first | with_reducible assumption | with_reducible exact Ext.refl _ | with_reducible refine Ext.drewN ?_ _ | with_reducible refine Ext.drew ?_ | with_reducible refine Ext.alloc ?_ _ | (with_reducible refine Ext.setCell ?_ ?_ _; rotate_left; (first | exact Nat.le_refl _ | (dsimp only; omega) | (simp only [wsz]; omega))) | (with_reducible refine Ext.trans ?_ (by with_reducible assumption)))) ?_
      clear hK K
      (try simp only [Act.put, List.setIfInBounds_toArray, List.set_cons_zero, List.set_cons_succ])
      refine tr_two rfl rfl rfl rfl (fun K hK => ?oneA) (fun K hK => ?oneB)
    case' oneA =>
      go_simp
      refine (znorm_c (z := t.k) ⟨_, _, rfl, (h2.ext (hE.trans hVx)).ext (by repeat (first | with_reducible assumption | with_reducible exact Ext.refl _ | with_reducible refine Ext.drewN ?_ _ | with_reducible refine Ext.drew ?_ | with_reducible refine Ext.alloc ?_ _ | (with_reducible refine Ext.setCell ?_ ?_ _; rotate_left; (first | exact Nat.le_refl _ | (dsimp only; omega) | (simp only [wsz]; omega))) | (with_reducible refine Ext.trans ?_ (by with_reducible assumption))))⟩ (by omega)).mono ?_
      rintro e w3 ⟨r, rfl, ⟨B3, d3, rfl, hN3⟩, hx3⟩
      (have hsz3 := Ext.size hx3; (try simp only [wsz] at hsz3))
      refine hK _ _ (by repeat (first | with_reducible assumption | with_reducible exact Ext.refl _ | with_reducible refine Ext.drewN ?_ _ | with_reducible refine Ext.drew ?_ | with_reducible refine Ext.alloc ?_ _ | (with_reducible refine Ext.setCell ?_ ?_ _; rotate_left; (first | exact Nat.le_refl _ | (dsimp only; omega) | (simp only [wsz]; omega))) | (with_reducible refine Ext.trans ?_ (by with_reducible assumption)))) ?_
      clear hK K
      (try simp only [Act.put, List.setIfInBounds_toArray, List.set_cons_zero, List.set_cons_succ])
      refine tr_line ?_
      (repeat (refine sq_take (v := ?_) rfl rfl ?_ ?_; rotate_left; (intro w' hx'; have hc' := hx'.cells.1; (try simp only [wcd] at hc'); go_simp; (first | done | with_reducible rfl)); (try simp only [Act.put, List.setIfInBounds_toArray, List.set_cons_zero, List.set_cons_succ])))
      (refine sq_loud rfl rfl fun K hK => ?_; go_simp)
      (refine hK _ _ (by repeat (first | with_reducible assumption | with_reducible exact Ext.refl _ | with_reducible refine Ext.drewN ?_ _ | with_reducible refine Ext.drew ?_ | with_reducible refine Ext.alloc ?_ _ | (with_reducible refine Ext.setCell ?_ ?_ _; rotate_left; (first | exact Nat.le_refl _ | (dsimp only; omega) | (simp only [wsz]; omega))) | (with_reducible refine Ext.trans ?_ (by with_reducible assumption)))) ?_; clear hK K; (try simp only [Act.put, List.setIfInBounds_toArray, List.set_cons_zero, List.set_cons_succ]))
      obtain ⟨W, hW⟩ : ∃ W, W = w3.alloc (.cells #[.slice none 0 0, .bool false, .slice none 0 0] 27) := ⟨_, rfl⟩
      obtain ⟨g, hg⟩ : ∃ g, g = w3.heap.size := ⟨_, rfl⟩
      have hge : g ≤ w3.heap.size ∧ w3.heap.size ≤ g := ⟨Nat.le_of_eq hg, Nat.le_of_eq hg.symm⟩
      have hx4 : Ext w3 W := by rw [hW]; exact (by repeat (first | with_reducible assumption | with_reducible exact Ext.refl _ | with_reducible refine Ext.drewN ?_ _ | with_reducible refine Ext.drew ?_ | with_reducible refine Ext.alloc ?_ _ | (with_reducible refine Ext.setCell ?_ ?_ _; rotate_left; (first | exact Nat.le_refl _ | (dsimp only; omega) | (simp only [wsz]; omega))) | (with_reducible refine Ext.trans ?_ (by with_reducible assumption))))
      have hbx : Box W g 27 #[.slice none 0 0, .bool false, .slice none 0 0] := by rw [hW, hg]; exact Box.new _ _ _
      rw [← hW, ← hg]
      clear hW hg
      have hrow := hO.row
      have fin := norm_at (t := t) (c3 := c3) (g := g) ((hE.trans hVx).trans (Ext.trans (Ext.refl _) (hx2.trans (hx3.trans hx4)))) (by omega) hbx ((((b2.ext hVx).ext hx2).ext hx3).ext hx4) (base := V.heap.size) (by omega) ((hO.ext hx3).ext hx4) (Spz.ext hSp (fun c hc => (hrow c hc).2) (hx3.trans hx4)) (fun e => by have := hrow _ e; omega)
        ((hN3.widen fun b hb hl => ⟨by omega, fun e => by have := (hrow _ e).2; omega, by omega⟩).ext hx4)
      have hgr := hbx.rules
      have hgl := hbx.lt
      (refine sq_last rfl rfl fun K hK => ?_; go_simp; refine hK _ _ ?_; clear hK K)
      obtain ⟨Wf, hWf⟩ : ∃ Wf, Wf = (((W.setCell ⟨g, 0, none⟩ (.slice A3 t.ps.length c3)).setCell ⟨g, 1, none⟩ (.bool (cz t.k.v).neg)).setCell ⟨g, 2, none⟩ (.slice B3 (cz t.k.v).mag.length d3)) := ⟨_, rfl⟩
      rw [← hWf] at fin ⊢
      clear hWf
    case' oneB =>
      go_simp
      refine hK _ _ (by repeat (first | with_reducible assumption | with_reducible exact Ext.refl _ | with_reducible refine Ext.drewN ?_ _ | with_reducible refine Ext.drew ?_ | with_reducible refine Ext.alloc ?_ _ | (with_reducible refine Ext.setCell ?_ ?_ _; rotate_left; (first | exact Nat.le_refl _ | (dsimp only; omega) | (simp only [wsz]; omega))) | (with_reducible refine Ext.trans ?_ (by with_reducible assumption)))) ?_
      clear hK K
      (try simp only [Act.put, List.setIfInBounds_toArray, List.set_cons_zero, List.set_cons_succ])
      refine tr_line ?_
      obtain ⟨W1, hW⟩ : ∃ W1, W1 = w2.alloc (.cells #[.slice none 0 0, .bool false, .slice none 0 0] 27) := ⟨_, rfl⟩
      obtain ⟨g, hg⟩ : ∃ g, g = w2.heap.size := ⟨_, rfl⟩
      have hge : g ≤ w2.heap.size ∧ w2.heap.size ≤ g := ⟨Nat.le_of_eq hg, Nat.le_of_eq hg.symm⟩
      have hx3 : Ext w2 W1 := by rw [hW]; exact (by repeat (first | with_reducible assumption | with_reducible exact Ext.refl _ | with_reducible refine Ext.drewN ?_ _ | with_reducible refine Ext.drew ?_ | with_reducible refine Ext.alloc ?_ _ | (with_reducible refine Ext.setCell ?_ ?_ _; rotate_left; (first | exact Nat.le_refl _ | (dsimp only; omega) | (simp only [wsz]; omega))) | (with_reducible refine Ext.trans ?_ (by with_reducible assumption))))
      have hbx0 : Box W1 g 27 #[.slice none 0 0, .bool false, .slice none 0 0] := by rw [hW, hg]; exact Box.new _ _ _
      rw [← hW, ← hg]
      clear hW hg
      (refine sq_loud rfl rfl fun K hK => ?_; go_simp)
      refine (znorm_c (z := t.k) ⟨_, _, rfl, (h2.ext (hE.trans hVx)).ext (by repeat (first | with_reducible assumption | with_reducible exact Ext.refl _ | with_reducible refine Ext.drewN ?_ _ | with_reducible refine Ext.drew ?_ | with_reducible refine Ext.alloc ?_ _ | (with_reducible refine Ext.setCell ?_ ?_ _; rotate_left; (first | exact Nat.le_refl _ | (dsimp only; omega) | (simp only [wsz]; omega))) | (with_reducible refine Ext.trans ?_ (by with_reducible assumption))))⟩ (by omega)).mono ?_
      rintro e W ⟨r, rfl, ⟨B3, d3, rfl, hN3⟩, hx4⟩
      (refine hK _ _ (by repeat (first | with_reducible assumption | with_reducible exact Ext.refl _ | with_reducible refine Ext.drewN ?_ _ | with_reducible refine Ext.drew ?_ | with_reducible refine Ext.alloc ?_ _ | (with_reducible refine Ext.setCell ?_ ?_ _; rotate_left; (first | exact Nat.le_refl _ | (dsimp only; omega) | (simp only [wsz]; omega))) | (with_reducible refine Ext.trans ?_ (by with_reducible assumption)))) ?_; clear hK K; (try simp only [Act.put, List.setIfInBounds_toArray, List.set_cons_zero, List.set_cons_succ]))
      (repeat (refine sq_take (v := ?_) rfl rfl ?_ ?_; rotate_left; (intro w' hx'; have hc' := hx'.cells.1; (try simp only [wcd] at hc'); go_simp; (first | done | with_reducible rfl)); (try simp only [Act.put, List.setIfInBounds_toArray, List.set_cons_zero, List.set_cons_succ])))
      have hbx := hbx0.ext hx4
      have hrow := hO.row
      have hgl0 := hbx0.lt
      have fin := norm_at (t := t) (c3 := c3) (g := g) ((hE.trans hVx).trans (Ext.trans (Ext.refl _) (hx2.trans (hx3.trans hx4)))) (by omega) hbx ((((b2.ext hVx).ext hx2).ext hx3).ext hx4) (base := V.heap.size) (by omega) ((hO.ext hx3).ext hx4) (Spz.ext hSp (fun c hc => (hrow c hc).2) (hx3.trans hx4)) (fun e => by have := hrow _ e; omega)
        (hN3.widen fun b hb hl => ⟨by omega, fun e => by have := (hrow _ e).2; omega, by omega⟩)
      have hgr := hbx.rules
      have hgl := hbx.lt
      (refine sq_last rfl rfl fun K hK => ?_; go_simp; refine hK _ _ ?_; clear hK K)
      obtain ⟨Wf, hWf⟩ : ∃ Wf, Wf = (((W.setCell ⟨g, 0, none⟩ (.slice A3 t.ps.length c3)).setCell ⟨g, 1, none⟩ (.bool (cz t.k.v).neg)).setCell ⟨g, 2, none⟩ (.slice B3 (cz t.k.v).mag.length d3)) := ⟨_, rfl⟩
      rw [← hWf] at fin ⊢
      clear hWf
    case' two =>
      go_simp
      refine hK _ _ (by repeat (first | with_reducible assumption | with_reducible exact Ext.refl _ | with_reducible refine Ext.drewN ?_ _ | with_reducible refine Ext.drew ?_ | with_reducible refine Ext.alloc ?_ _ | (with_reducible refine Ext.setCell ?_ ?_ _; rotate_left; (first | exact Nat.le_refl _ | (dsimp only; omega) | (simp only [wsz]; omega))) | (with_reducible refine Ext.trans ?_ (by with_reducible assumption)))) ?_
      clear hK K
      (try simp only [Act.put, List.setIfInBounds_toArray, List.set_cons_zero, List.set_cons_succ])
      refine tr_line ?_
      obtain ⟨W1, hW⟩ : ∃ W1, W1 = V.alloc (.cells #[.slice none 0 0, .bool false, .slice none 0 0] 27) := ⟨_, rfl⟩
      obtain ⟨g, hg⟩ : ∃ g, g = V.heap.size := ⟨_, rfl⟩
      have hge : g ≤ V.heap.size ∧ V.heap.size ≤ g := ⟨Nat.le_of_eq hg, Nat.le_of_eq hg.symm⟩
      have hx2 : Ext V W1 := by rw [hW]; exact (by repeat (first | with_reducible assumption | with_reducible exact Ext.refl _ | with_reducible refine Ext.drewN ?_ _ | with_reducible refine Ext.drew ?_ | with_reducible refine Ext.alloc ?_ _ | (with_reducible refine Ext.setCell ?_ ?_ _; rotate_left; (first | exact Nat.le_refl _ | (dsimp only; omega) | (simp only [wsz]; omega))) | (with_reducible refine Ext.trans ?_ (by with_reducible assumption))))
      have hbx0 : Box W1 g 27 #[.slice none 0 0, .bool false, .slice none 0 0] := by rw [hW, hg]; exact Box.new _ _ _
      rw [← hW, ← hg]
      clear hW hg
      have hgl0 := hbx0.lt
      (refine sq_loud rfl rfl fun K hK => ?_; go_simp)
      refine (clonep_c (h1b.ext hx2) (by omega)).mono ?_
      rintro e w3 ⟨v3, rfl, hO, hSp, hx3⟩
      have hO := hO.widen (Z' := fun b => b < w.heap.size) fun b hb _ => hb.1
      obtain ⟨A3, c3, rfl, hj⟩ := Own.sl hO (by omega) (X := fun _ => True) (fun _ _ => trivial)
      clear hj
      (have hsz3 := Ext.size hx3; (try simp only [wsz] at hsz3))
      (refine hK _ _ (by repeat (first | with_reducible assumption | with_reducible exact Ext.refl _ | with_reducible refine Ext.drewN ?_ _ | with_reducible refine Ext.drew ?_ | with_reducible refine Ext.alloc ?_ _ | (with_reducible refine Ext.setCell ?_ ?_ _; rotate_left; (first | exact Nat.le_refl _ | (dsimp only; omega) | (simp only [wsz]; omega))) | (with_reducible refine Ext.trans ?_ (by with_reducible assumption)))) ?_; clear hK K; (try simp only [Act.put, List.setIfInBounds_toArray, List.set_cons_zero, List.set_cons_succ]))
      (refine sq_loud rfl rfl fun K hK => ?_; go_simp)
      refine (znorm_c (z := t.k) ⟨_, _, rfl, (h2.ext (hE.trans hVx)).ext (by repeat (first | with_reducible assumption | with_reducible exact Ext.refl _ | with_reducible refine Ext.drewN ?_ _ | with_reducible refine Ext.drew ?_ | with_reducible refine Ext.alloc ?_ _ | (with_reducible refine Ext.setCell ?_ ?_ _; rotate_left; (first | exact Nat.le_refl _ | (dsimp only; omega) | (simp only [wsz]; omega))) | (with_reducible refine Ext.trans ?_ (by with_reducible assumption))))⟩ (by omega)).mono ?_
      rintro e W ⟨r, rfl, ⟨B3, d3, rfl, hN3⟩, hx4⟩
      (refine hK _ _ (by repeat (first | with_reducible assumption | with_reducible exact Ext.refl _ | with_reducible refine Ext.drewN ?_ _ | with_reducible refine Ext.drew ?_ | with_reducible refine Ext.alloc ?_ _ | (with_reducible refine Ext.setCell ?_ ?_ _; rotate_left; (first | exact Nat.le_refl _ | (dsimp only; omega) | (simp only [wsz]; omega))) | (with_reducible refine Ext.trans ?_ (by with_reducible assumption)))) ?_; clear hK K; (try simp only [Act.put, List.setIfInBounds_toArray, List.set_cons_zero, List.set_cons_succ]))
      (repeat (refine sq_take (v := ?_) rfl rfl ?_ ?_; rotate_left; (intro w' hx'; have hc' := hx'.cells.1; (try simp only [wcd] at hc'); go_simp; (first | done | with_reducible rfl)); (try simp only [Act.put, List.setIfInBounds_toArray, List.set_cons_zero, List.set_cons_succ])))
      have hbx := (hbx0.ext hx3).ext hx4
      have hrow := hO.row
      have fin := norm_at (t := t) (c3 := c3) (g := g) ((hE.trans hVx).trans (Ext.trans (Ext.refl _) (hx2.trans (hx3.trans hx4)))) (by omega) hbx ((((b2.ext hVx).ext hx2).ext hx3).ext hx4) (base := W1.heap.size) (by omega) (hO.ext hx4) (Spz.ext hSp (fun c hc => (hrow c hc).2) hx4) (fun e => by have := hrow _ e; omega)
        (hN3.widen fun b hb hl => ⟨by omega, fun e => by have := (hrow _ e).2; omega, by omega⟩)
      have hgr := hbx.rules
      have hgl := hbx.lt
      (refine sq_last rfl rfl fun K hK => ?_; go_simp; refine hK _ _ ?_; clear hK K)
      obtain ⟨Wf, hWf⟩ : ∃ Wf, Wf = (((W.setCell ⟨g, 0, none⟩ (.slice A3 t.ps.length c3)).setCell ⟨g, 1, none⟩ (.bool (cz t.k.v).neg)).setCell ⟨g, 2, none⟩ (.slice B3 (cz t.k.v).mag.length d3)) := ⟨_, rfl⟩
      rw [← hWf] at fin ⊢
      clear hWf
    all_goals
      obtain ⟨hgs, hEW, hbg, hbr, ⟨base, hbs, hOW, hSW⟩, hne, hNk⟩ := fin
      have hOF : Own 3 (EPF (w.heap.size + 2)) Wf (fun _ => True) base 37 (.slice A3 t.ps.length c3) (flg t.ps 0) := by
        have := hOW.conv (E' := EPF (w.heap.size + 2)) (Z2 := fun _ => True) (fun p => (false, p)) (fun cs a _ h => Stab.widen (E := EP) h fun b hb _ => ⟨⟨trivial, hb.2⟩, fun h => absurd h (by simp)⟩)
        simpa [flg] using this
      clear hOW
      have hgr := hbg.rules
      have hgl := hbg.lt
      go_wp2_with fail
      go_loopw [24] (fun iv wr => ∃ k : Nat, k ≤ t.ps.length ∧ iv = .int .i64 k ∧ Own 3 (EPF (w.heap.size + 2)) wr (fun _ => True) base 37 (.slice A3 t.ps.length c3) (flg t.ps k) ∧ Spp wr (.slice A3 t.ps.length c3) ∧ Kp (fun c => Value.ownBlock (.slice A3 t.ps.length c3) ≠ some c) Wf wr ∧ Ext w wr ∧ Wf.heap.size ≤ wr.heap.size) (fun iv _ => t.ps.length - (intOf iv).toNat)
      case atStart => exact ⟨0, Nat.zero_le _, rfl, hOF, hSW, Kp.refl _, hEW, Nat.le_refl _⟩
      case round =>
        clear hOF hgr hgl
        obtain ⟨k, hk, rfl, hO, hSp, kp, hx4, hsr⟩ := hrel
        have hrow := hO.row
        have hbgk := hbg.keep (X := fun c => Value.ownBlock (.slice A3 t.ps.length c3) ≠ some c) hne kp
        have hgr := hbgk.rules
        have hgl := hbgk.lt
        have hbrk := hbr.keep (X := fun c => Value.ownBlock (.slice A3 t.ps.length c3) ≠ some c) (fun e => by have := (hO.row _ e).1; omega) kp
        have hbrr := hbrk.rules
        have hbrl := hbrk.lt
        by_cases hlt : k < t.ps.length
        · have hP : Own 3 EP wr (fun _ => True) base 37 (.slice A3 t.ps.length c3) t.ps := by
            have := hO.conv (E' := EP) (Z2 := fun _ => True) Prod.snd (fun cs a _ h => Stab.widen (E := EP) h fun b hb _ => hb.1)
            rwa [flg_snd] at this
          obtain ⟨A4, c4, e4, hs4⟩ := Own.sl hP (by omega) (X := fun _ => True) (fun _ _ => trivial)
          injection e4 with e4 e5 e6
          subst e4; subst e6
          clear e5
          obtain ⟨b, o, B', d', rfl, hX, hc0, hc1, hc2, hi, hN2⟩ := Pl.at_ hs4 hlt
          obtain ⟨rfl, -, hbb, hbw⟩ := hP.adr
          simp only [Nat.zero_add] at hc0 hc1 hc2
          have kl : (k : Int) < (t.ps.length : Int) := by omega
          have kw := w64n (n := k) (by omega)
          have hbf : ∀ o, wr.frozen? ⟨b, o, none⟩ = false := Own.frz hP
          go_wp2_with fail
          refine wp_region_seq2 8 [(0, true), (1, true), (2, true), (3, true), (4, true), (5, false), (6, true), (7, true), (8, false)] rfl (by kernel_rfl) (by intro _ _ d _ _ h; cases d <;> exact h) ?_
          (repeat (refine sq_take (v := ?_) rfl rfl ?_ ?_; rotate_left; (intro w' hx'; have hc' := hx'.cells.1; (try simp only [wcd] at hc'); go_simp; (first | done | with_reducible rfl)); (try simp only [Act.put, List.setIfInBounds_toArray, List.set_cons_zero, List.set_cons_succ])))
          (refine sq_loud rfl rfl fun K hK => ?_; go_simp)
          refine (znorm_c (z := (pth t.ps k).2) ⟨_, _, rfl, hN2.ext (by repeat (first | with_reducible assumption | with_reducible exact Ext.refl _ | with_reducible refine Ext.drewN ?_ _ | with_reducible refine Ext.drew ?_ | with_reducible refine Ext.alloc ?_ _ | (with_reducible refine Ext.setCell ?_ ?_ _; rotate_left; (first | exact Nat.le_refl _ | (dsimp only; omega) | (simp only [wsz]; omega))) | (with_reducible refine Ext.trans ?_ (by with_reducible assumption))))⟩ (Nat.le_trans (s2 _ (pth_mem hlt)) (by omega))).mono ?_
          rw [HC.out _ (pth_mem hlt)]
          rintro e w4 ⟨r, rfl, ⟨B4, d4, rfl, hN4⟩, hx5⟩
          (have hsz5 := Ext.size hx5; (try simp only [wsz] at hsz5))
          (refine hK _ _ (by repeat (first | with_reducible assumption | with_reducible exact Ext.refl _ | with_reducible refine Ext.drewN ?_ _ | with_reducible refine Ext.drew ?_ | with_reducible refine Ext.alloc ?_ _ | (with_reducible refine Ext.setCell ?_ ?_ _; rotate_left; (first | exact Nat.le_refl _ | (dsimp only; omega) | (simp only [wsz]; omega))) | (with_reducible refine Ext.trans ?_ (by with_reducible assumption)))) ?_; clear hK K; (try simp only [Act.put, List.setIfInBounds_toArray, List.set_cons_zero, List.set_cons_succ]))
          (repeat (refine sq_take (v := ?_) rfl rfl ?_ ?_; rotate_left; (intro w' hx'; have hc' := hx'.cells.1; (try simp only [wcd] at hc'); go_simp; (first | done | with_reducible rfl)); (try simp only [Act.put, List.setIfInBounds_toArray, List.set_cons_zero, List.set_cons_succ])))
          have hxx : Ext wr w4 := (by repeat (first | with_reducible assumption | with_reducible exact Ext.refl _ | with_reducible refine Ext.drewN ?_ _ | with_reducible refine Ext.drew ?_ | with_reducible refine Ext.alloc ?_ _ | (with_reducible refine Ext.setCell ?_ ?_ _; rotate_left; (first | exact Nat.le_refl _ | (dsimp only; omega) | (simp only [wsz]; omega))) | (with_reducible refine Ext.trans ?_ (by with_reducible assumption))))
          have hO4 := hO.ext hxx
          have hbf4 : ∀ o, w4.frozen? ⟨b, o, none⟩ = false := Own.frz hO4
          have hcc := hxx.cells.1
          have hSp4 := Spz.ext hSp (fun c hc => (hrow c hc).2) hxx
          (refine sq_last rfl rfl fun K hK => ?_; go_simp; refine hK _ _ ?_; clear hK K)
          go_wp2_with fail
          have p2 := own_norm (d4 := d4) (B4 := B4) hO4 hlt ((hN4.widen fun c hc hl => by
            simp only [wsz] at hc
            exact ⟨by omega, by omega⟩))
          obtain ⟨q1, q2, q3⟩ := step_norm (w := w) (b := b) (v := .slice (some ⟨b, 0, none⟩) t.ps.length c3) (o1 := k * 3 + 1) (o2 := k * 3 + 2) (u1 := .bool (pth t.ps k).2.neg) (u2 := .slice B4 (pth t.ps k).2.mag.length d4) kp (hx4.trans hxx) hxx hsr rfl (by omega)
          go_roundw
          case rel => exact ⟨k + 1, by omega, by go_num, p2, (hSp4.put (by omega) _).put (by omega) _, q1, q2, q3⟩
          case measure => simp [intOf] <;> omega
        · obtain rfl : k = t.ps.length := by omega
          have hP : Own 3 EP wr (w.heap.size + 2 ≤ ·) base 37 (.slice A3 t.ps.length c3) t.ps := by
            have := hO.conv (E' := EP) (Z2 := (w.heap.size + 2 ≤ ·)) Prod.snd (fun cs a ha h => Stab.widen (E := EP) h fun b hb _ => ⟨hb.2 (by
              simp only [flg, List.take_length, List.drop_length, List.map_nil, List.append_nil, List.mem_map] at ha
              obtain ⟨p, _, rfl⟩ := ha
              rfl), hb.1.2⟩)
            rwa [flg_snd] at this
          have hNr := (hNk.keep (kp.imp fun c hc => hc.2)).widen (Y := (w.heap.size + 2 ≤ ·)) fun c hc _ => hc.1
          go_wp2_with fail
          (refine bodyPost_ret (v := ?_) ?_ rfl ?_; rotate_left; (simp only [results, Tryz.results56]; go_simp; (first | done | with_reducible rfl)))
          exact end_norm (hP.lower hbs) hSp hNr HK.out hnf.out hx4

theorem tnorm_c {v : Value} {t : T} {w : World} {X : Nat → Prop} {N : Nat} (h : Tv w X v t) (hN : N ≤ 17179869184) (hs : t.sz N) :
    Calls Tryz.prog 56 #[v] w fun e w' => ∃ r, e = .returned r ∧ Tv w' (w.heap.size ≤ ·) r t.nf ∧ Ext w w' :=
  (tnorm_f h hN hs).mono fun _ _ ⟨r, e, h1, h2⟩ => ⟨r, e, h1.tv, h2⟩

end Go.Proofs.YthmjgbkakjpfkaaGreatDoor

namespace Go.Proofs.YthmjgbkakjpfkaaGreatDoor
open Go.RowKit

theorem cf_hit {ps : List (Int × Z)} {x : Int} {k : Nat} (h : k < ps.length) (he : (pth ps k).1 = x) : cf (vl (ps.take (k + 1))) x = cf (vl (ps.take k)) x + (pth ps k).2.v := by
  rw [vl_take ps k h, cf_append]
  simp [cf, he]
theorem cf_miss {ps : List (Int × Z)} {x : Int} {k : Nat} (h : k < ps.length) (he : (pth ps k).1 ≠ x) : cf (vl (ps.take (k + 1))) x = cf (vl (ps.take k)) x := by
  rw [vl_take ps k h, cf_append]
  simp [cf, he]

set_option maxHeartbeats 1600000 in
theorem tcoef_c {v : Value} {t : T} {w : World} {X : Nat → Prop} {N : Nat} {x : Int} (h : Tv w X v t) (hN : N ≤ 1073741824) (hs : t.sz N) :
    Calls Tryz.prog 127 #[v, .int .i64 x] w fun e w' => ∃ r, e = .returned r ∧ Zi w' (w.heap.size ≤ ·) r (cz (cf (vl t.ps) x)) ∧ Ext w w' := by
  have hlb := h.lb
  obtain ⟨s1, s2, s3⟩ := hs
  have hzl := zl_vl hlb.1 s2
  obtain ⟨A, c, B, d, rfl, h1, h2⟩ := h
  go_enter Tryz.func127, Tryz.ntmps127
  go_wp2_with fail
  refine wp_named fun W hW => ?_
  have b4 : Box W (w.heap.size + 1) 24 #[.bool false, .slice none 0 0] := by rw [hW]; exact (by repeat (first | with_reducible assumption | with_reducible exact Box.new _ _ _ | (with_reducible refine Box.new_at _ _ _ ?_; (simp only [wsz]; done)) | with_reducible refine Box.drewN ?_ _ | with_reducible refine Box.drew ?_ | with_reducible refine Box.alloc ?_ _ | with_reducible apply Box.drewN | with_reducible apply Box.drew | with_reducible apply Box.alloc | with_reducible refine Box.set_ ?_ _ _ | (with_reducible refine Box.far ?_ ?_ _; rotate_left; (simp only [ne_eq]; omega)) | (with_reducible refine Box.ext ?_ (by with_reducible assumption)) | (refine Box.new_at _ _ _ ?_; simp only [wsz]; done)))
  have b5 : Box W (w.heap.size + 1 + 1) 24 #[.bool false, .slice none 0 0] := by rw [hW]; exact (by repeat (first | with_reducible assumption | with_reducible exact Box.new _ _ _ | (with_reducible refine Box.new_at _ _ _ ?_; (simp only [wsz]; done)) | with_reducible refine Box.drewN ?_ _ | with_reducible refine Box.drew ?_ | with_reducible refine Box.alloc ?_ _ | with_reducible apply Box.drewN | with_reducible apply Box.drew | with_reducible apply Box.alloc | with_reducible refine Box.set_ ?_ _ _ | (with_reducible refine Box.far ?_ ?_ _; rotate_left; (simp only [ne_eq]; omega)) | (with_reducible refine Box.ext ?_ (by with_reducible assumption)) | (refine Box.new_at _ _ _ ?_; simp only [wsz]; done)))
  have hE : Ext w W := by rw [hW]; exact (by repeat (first | with_reducible assumption | with_reducible exact Ext.refl _ | with_reducible refine Ext.drewN ?_ _ | with_reducible refine Ext.drew ?_ | with_reducible refine Ext.alloc ?_ _ | (with_reducible refine Ext.setCell ?_ ?_ _; rotate_left; (first | exact Nat.le_refl _ | (dsimp only; omega) | (simp only [wsz]; omega))) | (with_reducible refine Ext.trans ?_ (by with_reducible assumption))))
  clear hW
  have hWl := b5.lt
  go_loopw [11] (fun iv wr => ∃ k B2 d2, ∃ z : Z, k ≤ t.ps.length ∧ iv = .int .i64 (k : Nat) ∧ Box wr (w.heap.size + 1 + 1) 24 #[.bool z.neg, .slice B2 z.mag.length d2] ∧ Nl wr (fun c => w.heap.size + 1 + 1 < c) B2 d2 z.mag ∧ Hid (z.v = cf (vl (t.ps.take k)) x) ∧
      z.mag.length ≤ N + N ∧ Kp (fun c => c ≠ w.heap.size + 1 + 1) W wr ∧ Ext w wr) (fun iv _ => t.ps.length - (intOf iv).toNat)
  case atStart => exact ⟨0, none, 0, ⟨false, []⟩, Nat.zero_le _, rfl, b5, Sl.nil0 _ _ _, Lib.hid (by simp [Z.v, nv, vl, cf]), Nat.zero_le _, Kp.refl _, hE⟩
  case round =>
    clear b5
    obtain ⟨k, B2, d2, z, hk, rfl, b5, hNz, hz, hzm, kp, hxr⟩ := hrel
    have b4k := b4.keep (X := fun c => c ≠ w.heap.size + 1 + 1) (by omega) kp
    have b4r := b4k.rules
    have b4l := b4k.lt
    have b5r := b5.rules
    have b5l := b5.lt
    by_cases hlt : k < t.ps.length
    · obtain ⟨b, o, B', d', rfl, hX, hc0, hc1, hc2, hi, hN2⟩ := (h1.ext hxr).at_ hlt
      have hb := World.block_lt_of_cell? _ _ hc0
      have kl : (k : Int) < (t.ps.length : Int) := by omega
      by_cases he : (pth t.ps k).1 = x
      · have e1 : ((pth t.ps k).1 == x) = true := by rw [he]; exact beq_self_eq_true _
        have He := Lib.hid he; clear he
        go_wp2_with fail
        refine (zadd_c (x := z) (y := (pth t.ps k).2) ⟨_, _, rfl, hNz.ext (by repeat (first | with_reducible assumption | with_reducible exact Ext.refl _ | with_reducible refine Ext.drewN ?_ _ | with_reducible refine Ext.drew ?_ | with_reducible refine Ext.alloc ?_ _ | (with_reducible refine Ext.setCell ?_ ?_ _; rotate_left; (first | exact Nat.le_refl _ | (dsimp only; omega) | (simp only [wsz]; omega))) | (with_reducible refine Ext.trans ?_ (by with_reducible assumption))))⟩ ⟨_, _, rfl, hN2.ext (by repeat (first | with_reducible assumption | with_reducible exact Ext.refl _ | with_reducible refine Ext.drewN ?_ _ | with_reducible refine Ext.drew ?_ | with_reducible refine Ext.alloc ?_ _ | (with_reducible refine Ext.setCell ?_ ?_ _; rotate_left; (first | exact Nat.le_refl _ | (dsimp only; omega) | (simp only [wsz]; omega))) | (with_reducible refine Ext.trans ?_ (by with_reducible assumption))))⟩ (by omega) (Nat.le_trans (s2 _ (pth_mem hlt)) (by omega))).mono ?_
        rintro e w1 ⟨r, rfl, ⟨A4, c4, rfl, hN4⟩, hx1⟩
        (have hs1 := Ext.size hx1; (try simp only [wsz] at hs1))
        have hx2 : Ext wr w1 := (by repeat (first | with_reducible assumption | with_reducible exact Ext.refl _ | with_reducible refine Ext.drewN ?_ _ | with_reducible refine Ext.drew ?_ | with_reducible refine Ext.alloc ?_ _ | (with_reducible refine Ext.setCell ?_ ?_ _; rotate_left; (first | exact Nat.le_refl _ | (dsimp only; omega) | (simp only [wsz]; omega))) | (with_reducible refine Ext.trans ?_ (by with_reducible assumption))))
        have b5' := b5.ext hx2
        have b5r' := b5'.rules
        have b5l' := b5'.lt
        clear b5r b4r
        go_wp2_with fail
        have hv2 : z.v + (pth t.ps k).2.v = cf (vl (t.ps.take (k + 1))) x := by rw [hz.out, cf_hit hlt He.out]
        have hlen : (cz (z.v + (pth t.ps k).2.v)).mag.length ≤ N + N := by
          rw [cz_len, hv2]
          have := zl_cf (l := vl (t.ps.take (k + 1))) (N := N) (fun p hp => hzl p (List.map_subset _ (List.take_subset _ _) hp)) x
          rw [vl_len, List.length_take] at this
          omega
        have HV := Lib.hid hv2; clear hv2
        have b5s : Box ((w1.setCell ⟨w.heap.size + 1 + 1, 0, none⟩ (.bool (cz (z.v + (pth t.ps k).2.v)).neg)).setCell ⟨w.heap.size + 1 + 1, 1, none⟩ (.slice A4 (cz (z.v + (pth t.ps k).2.v)).mag.length c4)) (w.heap.size + 1 + 1) 24 #[.bool (cz (z.v + (pth t.ps k).2.v)).neg, .slice A4 (cz (z.v + (pth t.ps k).2.v)).mag.length c4] := (b5'.set_ 0 _).set_ 1 _
        go_roundw
        case rel =>
          refine ⟨k + 1, A4, c4, cz (z.v + (pth t.ps k).2.v), by omega, by go_num, b5s, ?_, Lib.hid (by rw [cz_v]; exact HV.out), hlen, ((kp.ext hx2).setCell (fun h => h rfl) _).setCell (fun h => h rfl) _, ((hxr.trans hx2).setCell (by simp only; omega) _).setCell (by simp only; omega) _⟩
          exact ((hN4.widen (Y := fun c => w.heap.size + 1 + 1 < c) fun c hc _ => by simp only [wsz] at hc; omega).keep ((Kp.refl w1).setCell (fun h => by simp only at h; omega) _)).keep ((Kp.refl _).setCell (fun h => by simp only at h; omega) _)
        case measure => simp [intOf] <;> omega
      · have e1 : ((pth t.ps k).1 == x) = false := by rw [beq_eq_false_iff_ne]; exact he
        have He := Lib.hid he; clear he
        go_wp2_with fail
        go_roundw
        case rel => exact ⟨k + 1, B2, d2, z, by omega, by go_num, (by repeat (first | with_reducible assumption | with_reducible exact Box.new _ _ _ | (with_reducible refine Box.new_at _ _ _ ?_; (simp only [wsz]; done)) | with_reducible refine Box.drewN ?_ _ | with_reducible refine Box.drew ?_ | with_reducible refine Box.alloc ?_ _ | with_reducible apply Box.drewN | with_reducible apply Box.drew | with_reducible apply Box.alloc | with_reducible refine Box.set_ ?_ _ _ | (with_reducible refine Box.far ?_ ?_ _; rotate_left; (simp only [ne_eq]; omega)) | (with_reducible refine Box.ext ?_ (by with_reducible assumption)) | (refine Box.new_at _ _ _ ?_; simp only [wsz]; done))), hNz.ext (by repeat (first | with_reducible assumption | with_reducible exact Ext.refl _ | with_reducible refine Ext.drewN ?_ _ | with_reducible refine Ext.drew ?_ | with_reducible refine Ext.alloc ?_ _ | (with_reducible refine Ext.setCell ?_ ?_ _; rotate_left; (first | exact Nat.le_refl _ | (dsimp only; omega) | (simp only [wsz]; omega))) | (with_reducible refine Ext.trans ?_ (by with_reducible assumption)))), Lib.hid (hz.out.trans (cf_miss hlt He.out).symm), hzm, kp.ext (by repeat (first | with_reducible assumption | with_reducible exact Ext.refl _ | with_reducible refine Ext.drewN ?_ _ | with_reducible refine Ext.drew ?_ | with_reducible refine Ext.alloc ?_ _ | (with_reducible refine Ext.setCell ?_ ?_ _; rotate_left; (first | exact Nat.le_refl _ | (dsimp only; omega) | (simp only [wsz]; omega))) | (with_reducible refine Ext.trans ?_ (by with_reducible assumption)))), hxr.trans (by repeat (first | with_reducible assumption | with_reducible exact Ext.refl _ | with_reducible refine Ext.drewN ?_ _ | with_reducible refine Ext.drew ?_ | with_reducible refine Ext.alloc ?_ _ | (with_reducible refine Ext.setCell ?_ ?_ _; rotate_left; (first | exact Nat.le_refl _ | (dsimp only; omega) | (simp only [wsz]; omega))) | (with_reducible refine Ext.trans ?_ (by with_reducible assumption))))⟩
        case measure => simp [intOf] <;> omega
    · obtain rfl : k = t.ps.length := by omega
      go_wp2_with fail
      refine (znorm_c (z := z) ⟨_, _, rfl, hNz⟩ (by omega)).mono ?_
      rintro e w1 ⟨r, rfl, ⟨A4, c4, rfl, hN4⟩, hx1⟩
      (have hs1 := Ext.size hx1; (try simp only [wsz] at hs1))
      have b4' := b4k.ext hx1
      have b4r' := b4'.rules
      have b4l' := b4'.lt
      clear b4r b5r
      go_wp2_with fail
      (refine bodyPost_ret (v := ?_) ?_ rfl ?_; rotate_left; (simp only [results, Tryz.results127]; go_simp; (first | done | with_reducible rfl)))
      have hv := hz.out
      rw [List.take_length] at hv
      rw [hv] at hN4 ⊢
      refine ⟨_, rfl, ⟨_, _, rfl, ?_⟩, ((hxr.trans hx1).setCell (by simp only; omega) _).setCell (by simp only; omega) _⟩
      exact (((hN4.widen (Y := fun c => w.heap.size + 1 < c) fun c hc _ => by omega).keep ((Kp.refl w1).setCell (fun h => by simp only at h; omega) _)).keep ((Kp.refl _).setCell (fun h => by simp only at h; omega) _)).widen fun c hc _ => by omega

end Go.Proofs.YthmjgbkakjpfkaaGreatDoor
