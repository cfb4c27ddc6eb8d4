/- atom: divisions as function values; a term mapped. No conditions. Atoms in plain words; in memory. No conditions. Forms of atoms in plain words: no smaller form says the same. No conditions. What atoms say, in plain words: a form says what the raw atom says. No conditions. A form's form is the form. No conditions. -/
import Derived.Test.YthmjgbkakjpfkaaGreatDoorGLooksAq
import Derived.Test.YthmjgbkakjpfkaaGreatDoorGLooksAw
import Derived.Test.YthmjgbkakjpfkaaGreatDoorGLooksAt
import Derived.Test.YthmjgbkakjpfkaaGreatDoorGLooksAy
import Derived.Test.YthmjgbkakjpfkaaGreatDoorGLooksAs
import Derived.Test.YthmjgbkakjpfkaaGreatDoorGLooksAa
namespace Go.Proofs.YthmjgbkakjpfkaaGreatDoor
open Go.RowKit

def Bz (V : World) (X : Nat → Prop) (g : Nat) (z : Z) : Prop := ∃ A c, Box V g 24 #[.bool z.neg, .slice A z.mag.length c] ∧ Nl V X A c z.mag
theorem Bz.ext {V V' : World} {X : Nat → Prop} {g : Nat} {z : Z} (h : Bz V X g z) (k : Ext V V') : Bz V' X g z := let ⟨A, c, h1, h2⟩ := h; ⟨A, c, h1.ext k, h2.ext k⟩
theorem Bz.keep {V V' : World} {X Y : Nat → Prop} {g : Nat} {z : Z} (h : Bz V X g z) (k : Kp Y V V') (hg : Y g) (hX : ∀ b, X b → Y b) : Bz V' X g z := let ⟨A, c, h1, h2⟩ := h; ⟨A, c, h1.keep hg k, h2.keep (Kp.imp k hX)⟩
theorem Bz.widen {V : World} {X Y : Nat → Prop} {g : Nat} {z : Z} (h : Bz V X g z) (k : ∀ b, X b → b < V.heap.size → Y b) : Bz V Y g z := let ⟨A, c, h1, h2⟩ := h; ⟨A, c, h1, h2.widen k⟩
def Fz (w : World) (n : FuncId) (a : Addr) (N : Nat) (F : Int → Int) : Prop :=
  (∀ args W, (callFunc n args).run Tryz.prog W = .ok (.enter n args) W) ∧
  ∀ W, Ext w W → ∀ v x (Y : Nat → Prop), Zi W Y v x → x.mag.length ≤ N → Calls Tryz.prog n #[v, .pointer (some a)] W fun e w' => ∃ r, e = .returned r ∧ Zi w' (W.heap.size ≤ ·) r (cz (F x.v)) ∧ Ext W w'
theorem Fz.ext {w w' : World} {n : FuncId} {a : Addr} {N : Nat} {F : Int → Int} (h : Fz w n a N F) (k : Ext w w') : Fz w' n a N F := ⟨h.1, fun W hW => h.2 W (k.trans hW)⟩
set_option maxHeartbeats 1600000 in
theorem overf_c {g N : Nat} {d : Z} {w : World} {X : Nat → Prop} (hb : Bz w X g d) (h0 : d.v ≠ 0) (hN : N ≤ 1099511627770) (hl : d.mag.length ≤ N) :
    Fz w 102 ⟨g, 0, none⟩ N (·.fdiv d.v) := by
  obtain ⟨D, c, hb, hd⟩ := hb
  refine ⟨fun args W => by go_simp, ?_⟩
  intro W hW v x Y hx hxl
  obtain ⟨A, a, rfl, hx⟩ := hx
  have b1 := hb.ext hW
  have hdv := fun (U : World) (hU : Ext W U) => zdivg_c (⟨A, a, rfl, hx.ext hU⟩ : Zi U Y (.agg #[.bool x.neg, .slice A x.mag.length a]) x) (⟨D, c, rfl, hd.ext (hW.trans hU)⟩ : Zi U X (.agg #[.bool d.neg, .slice D d.mag.length c]) d) h0 (by omega) (by omega)
  obtain ⟨q, hq⟩ : ∃ q, q = cz (x.v.fdiv d.v) := ⟨_, rfl⟩
  obtain ⟨r, hr⟩ : ∃ q, q = cz (x.v.fmod d.v) := ⟨_, rfl⟩
  simp only [← hq, ← hr] at hdv
  have HD := Lib.hid hdv; have HQ := Lib.hid hq
  clear hdv hq hr
  show Calls _ _ _ W fun e w' => ∃ r, e = .returned r ∧ Zi w' (W.heap.size ≤ ·) r (cz (x.v.fdiv d.v)) ∧ Ext W w'
  rw [← HQ.out]
  have b1r := b1.rules; have b1l := b1.lt
  go_enter Tryz.func102, Tryz.ntmps102
  go_wp2_with fail
  refine (HD.out _ xt).mono ?_
  rintro e w1 ⟨_, _, rfl, ⟨A1, c1, rfl, h1⟩, ⟨A2, c2, rfl, h2⟩, hx1⟩
  have hc := hx1.cells
  have hs1 := hx1.size
  simp only [wsz] at hs1
  have hl1 : W.heap.size + 1 < w1.heap.size := by omega
  have hl2 : W.heap.size < w1.heap.size := by omega
  clear b1r
  go_wp2_with fail
  (refine bodyPost_ret (v := ?_) ?_ rfl ?_; rotate_left; (simp only [results, Tryz.results102]; go_simp; (first | done | with_reducible rfl)))
  refine ⟨_, rfl, ⟨A1, c1, rfl, Nl.widen (X := fun b => W.heap.size + 1 < b) (Nl.keep (h1.widen fun b hb _ => ?_) ?_) fun b hb _ => ?_⟩, xt⟩
  · simp only [wsz] at hb
    omega
  · exact kpt
  · have h : W.heap.size + 1 < b := hb
    omega

set_option maxHeartbeats 1600000 in
theorem modf_c {g N : Nat} {d : Z} {w : World} {X : Nat → Prop} (hb : Bz w X g d) (h0 : d.v ≠ 0) (hN : N ≤ 1099511627770) (hl : d.mag.length ≤ N) :
    Fz w 120 ⟨g, 0, none⟩ N (·.fmod d.v) := by
  obtain ⟨D, c, hb, hd⟩ := hb
  refine ⟨fun args W => by go_simp, ?_⟩
  intro W hW v x Y hx hxl
  obtain ⟨A, a, rfl, hx⟩ := hx
  have b1 := hb.ext hW
  have hdv := fun (U : World) (hU : Ext W U) => zdivg_c (⟨A, a, rfl, hx.ext hU⟩ : Zi U Y (.agg #[.bool x.neg, .slice A x.mag.length a]) x) (⟨D, c, rfl, hd.ext (hW.trans hU)⟩ : Zi U X (.agg #[.bool d.neg, .slice D d.mag.length c]) d) h0 (by omega) (by omega)
  obtain ⟨q, hq⟩ : ∃ q, q = cz (x.v.fdiv d.v) := ⟨_, rfl⟩
  obtain ⟨r, hr⟩ : ∃ q, q = cz (x.v.fmod d.v) := ⟨_, rfl⟩
  simp only [← hq, ← hr] at hdv
  have HD := Lib.hid hdv; have HQ := Lib.hid hr
  clear hdv hq hr
  show Calls _ _ _ W fun e w' => ∃ r, e = .returned r ∧ Zi w' (W.heap.size ≤ ·) r (cz (x.v.fmod d.v)) ∧ Ext W w'
  rw [← HQ.out]
  have b1r := b1.rules; have b1l := b1.lt
  go_enter Tryz.func120, Tryz.ntmps120
  go_wp2_with fail
  refine (HD.out _ xt).mono ?_
  rintro e w1 ⟨_, _, rfl, ⟨A1, c1, rfl, h1⟩, ⟨A2, c2, rfl, h2⟩, hx1⟩
  have hc := hx1.cells
  have hs1 := hx1.size
  simp only [wsz] at hs1
  have hl1 : W.heap.size + 1 < w1.heap.size := by omega
  have hl2 : W.heap.size < w1.heap.size := by omega
  clear b1r
  go_wp2_with fail
  (refine bodyPost_ret (v := ?_) ?_ rfl ?_; rotate_left; (simp only [results, Tryz.results120]; go_simp; (first | done | with_reducible rfl)))
  refine ⟨_, rfl, ⟨A2, c2, rfl, Nl.widen (X := fun b => W.heap.size + 1 < b) (Nl.keep (h2.widen fun b hb _ => ?_) ?_) fun b hb _ => ?_⟩, xt⟩
  · simp only [wsz] at hb
    omega
  · exact kpt
  · have h : W.heap.size + 1 < b := hb
    omega

set_option maxHeartbeats 800000 in
theorem over_c {v : Value} {d : Z} {w : World} {X : Nat → Prop} (hd : Zi w X v d) :
    Calls Tryz.prog 58 #[v] w fun e w' => ∃ g, e = .returned (.func (.func 102) #[] #[.pointer (some ⟨g, 0, none⟩)]) ∧ w.heap.size ≤ g ∧ Bz w' X g d ∧ Ext w w' := by
  obtain ⟨D, c, rfl, hd⟩ := hd
  go_enter Tryz.func58, Tryz.ntmps58
  go_wp2_with fail
  go_ret
  exact ⟨_, rfl, Nat.le_refl _, ⟨D, c, Box.new w _ _, hd.ext ((Ext.refl w).alloc _)⟩, xt⟩
set_option maxHeartbeats 800000 in
theorem mod_c {v : Value} {d : Z} {w : World} {X : Nat → Prop} (hd : Zi w X v d) :
    Calls Tryz.prog 76 #[v] w fun e w' => ∃ g, e = .returned (.func (.func 120) #[] #[.pointer (some ⟨g, 0, none⟩)]) ∧ w.heap.size ≤ g ∧ Bz w' X g d ∧ Ext w w' := by
  obtain ⟨D, c, rfl, hd⟩ := hd
  go_enter Tryz.func76, Tryz.ntmps76
  go_wp2_with fail
  go_ret
  exact ⟨_, rfl, Nat.le_refl _, ⟨D, c, Box.new w _ _, hd.ext ((Ext.refl w).alloc _)⟩, xt⟩
def fmz (F : Int → Int) (ps : List (Int × Z)) : List (Int × Z) := ps.map fun p => (p.1, cz (F p.2.v))
def fm (F : Int → Int) (l : List (Int × Int)) : List (Int × Int) := l.map fun p => (p.1, F p.2)
theorem vl_fmz (F : Int → Int) (ps : List (Int × Z)) : vl (fmz F ps) = fm F (vl ps) := by
  simp only [vl, fmz, fm, List.map_map]
  apply List.map_congr_left
  intro p _
  simp [Function.comp, cz_v]
theorem fmz_len (F : Int → Int) (ps : List (Int × Z)) : (fmz F ps).length = ps.length := by simp [fmz]
theorem fm_len (F : Int → Int) (l : List (Int × Int)) : (fm F l).length = l.length := by simp [fm]
theorem fmz_step (F : Int → Int) {ps : List (Int × Z)} {k : Nat} (h : k < ps.length) : fmz F (ps.take (k + 1)) = fmz F (ps.take k) ++ [((pth ps k).1, cz (F (pth ps k).2.v))] := by
  rw [take_pth ps k h]
  simp [fmz]
theorem nf_fmz (F G : Int → Int) (t : T) : (⟨fmz F t.ps, cz (G t.k.v)⟩ : T).nf = ct (fm F (vl t.ps)) (G t.k.v) := by
  show ct (vl (fmz F t.ps)) (cz (G t.k.v)).v = _
  rw [vl_fmz, cz_v]

set_option maxRecDepth 100000 in
set_option maxHeartbeats 3200000 in
theorem mapped_c {v : Value} {t : T} {w : World} {X : Nat → Prop} {N M : Nat} {n1 n2 : FuncId} {a1 a2 : Addr} {F G : Int → Int} (h : Tv w X v t) (hs : t.sz N) (hNM : N ≤ M) (hM : M ≤ 17179869184) (hf : Fz w n1 a1 N F) (hg : Fz w n2 a2 N G) (hF : ∀ x, zl x ≤ N → zl (F x) ≤ M) (hG : ∀ x, zl x ≤ N → zl (G x) ≤ M) :
    Calls Tryz.prog 60 #[v, .func (.func n1) #[] #[.pointer (some a1)], .func (.func n2) #[] #[.pointer (some a2)]] w fun e w' => ∃ r, e = .returned r ∧ TvF w' w.heap.size r (ct (fm F (vl t.ps)) (G t.k.v)) ∧ Ext w w' := by
  have lt := h.lb
  obtain ⟨s1, s2, s3⟩ := hs
  have hzl := zl_vl lt.1 s2
  obtain ⟨A, c, B, d, rfl, h1, h2⟩ := h
  have hzk : zl t.k.v ≤ N := Nat.le_trans (zl_of h2.lb) s3
  obtain ⟨gz, hgz⟩ : ∃ z, z = cz (G t.k.v) := ⟨_, rfl⟩
  have hen1 := hf.1; have hen2 := hg.1
  have hgk := fun (U : World) (hU : Ext w U) => hg.2 U hU _ _ _ (⟨B, d, rfl, h2.ext hU⟩ : Zi U X (.agg #[.bool t.k.neg, .slice B t.k.mag.length d]) t.k) s3
  simp only [← hgz] at hgk
  have HGK := Lib.hid hgk; have HGZ := Lib.hid hgz; have HF := Lib.hid hF; have HG := Lib.hid hG; have Hf := Lib.hid hf
  clear hgk hgz hF hG hf hg
  go_enter Tryz.func60, Tryz.ntmps60
  go_wp2_with fail
  refine (HGK.out _ xt).mono ?_
  rintro e w1 ⟨_, rfl, ⟨A1, c1, rfl, hK⟩, hx1⟩
  have hc1 := hx1.cells
  have hs1 := hx1.size
  simp only [wsz] at hs1
  have hl1 : w.heap.size + 1 < w1.heap.size := by omega
  have hl2 : w.heap.size < w1.heap.size := by omega
  go_wp2_with fail
  refine wp_named fun W hW => ?_
  have hx12 : Ext ((w.alloc (.cells #[.slice A t.ps.length c, .bool t.k.neg, .slice B t.k.mag.length d] 27)).alloc (.cells #[.slice none 0 0, .bool false, .slice none 0 0] 27)) W := by rw [hW]; exact hx1.alloc _
  have b3W : Box W w.heap.size 27 #[.slice A t.ps.length c, .bool t.k.neg, .slice B t.k.mag.length d] := Box.ext ((Box.new w _ _).alloc _) hx12
  have b6W : Box W (w.heap.size + 1) 27 #[.slice none 0 0, .bool false, .slice none 0 0] := Box.ext (Box.new_at _ _ _ (by simp only [wsz])) hx12
  obtain ⟨g, hg⟩ : ∃ g, g = w1.heap.size := ⟨_, rfl⟩
  have b7W : Box W g 27 #[.slice none 0 0, .bool gz.neg, .slice A1 gz.mag.length c1] := by rw [hW, hg]; exact Box.new _ _ _
  have hE : Ext w W := ((Ext.refl w).alloc _ |>.alloc _).trans hx12
  have hsW : W.heap.size = g + 1 := by rw [hW, hg]; simp only [wsz]
  have hKW : Nl W (fun b => w.heap.size + 2 ≤ b ∧ b < g) A1 c1 gz.mag := by
    rw [hW]
    refine Nl.ext (hK.widen fun b hb hl => ?_) ((Ext.refl w1).alloc _)
    simp only [wsz] at hb
    omega
  rw [← hg]
  rw [← hg] at hl1 hl2
  have HSW := Lib.hid hsW
  have hsW1 : g < W.heap.size := by omega
  have hsW2 : W.heap.size ≤ g + 1 := by omega
  clear hW hg hc1 hs1 hx1 hx12 hK hsW
  have h1b := h1.below
  go_loopw [18] (fun iv wr => ∃ (k : Nat) (lv : Value), k ≤ t.ps.length ∧ iv = .int .i64 (k : Int) ∧ Own 3 EP wr (W.heap.size ≤ ·) W.heap.size 37 lv (fmz F (t.ps.take k)) ∧ Box wr g 27 #[lv, .bool gz.neg, .slice A1 gz.mag.length c1] ∧ Kp (fun b => b < W.heap.size ∧ b ≠ g) W wr ∧ Ext w wr ∧ W.heap.size ≤ wr.heap.size) (fun iv _ => t.ps.length - (intOf iv).toNat)
  case atStart => exact ⟨0, _, Nat.zero_le _, rfl, Own.nil _ _ _ _, b7W, Kp.refl _, hE, Nat.le_refl _⟩
  case round =>
    clear b7W
    obtain ⟨k, lv, hk, rfl, hO, b7, kp, hxr, hsr⟩ := hrel
    have b3 := b3W.keep (X := fun b => b < W.heap.size ∧ b ≠ g) ⟨by omega, by omega⟩ kp
    have b6 := b6W.keep (X := fun b => b < W.heap.size ∧ b ≠ g) ⟨by omega, by omega⟩ kp
    have hNK : Nl wr (fun b => w.heap.size + 2 ≤ b ∧ b < g) A1 c1 gz.mag := hKW.keep (kp.imp fun b hb => ⟨by omega, by omega⟩)
    have b7r := b7.rules; have b7l := b7.lt
    have hrow := hO.row
    obtain ⟨A0, c0, rfl, hP0⟩ := Own.sl hO (by omega) (X := (W.heap.size ≤ ·)) (fun b hb => hb.elim id id)
    have hP0 : Pl wr (W.heap.size ≤ ·) A0 c0 (fmz F (t.ps.take k)) := hP0
    have hsl : (fmz F (t.ps.take k)).length ≤ k := by rw [fmz_len, List.length_take]; omega
    by_cases hlt : k < t.ps.length
    · obtain ⟨b, o, B', d', rfl, hX, hc0, hc1, hc2, hi, hN2⟩ := (h1b.ext hxr).at_ hlt
      have hb := World.block_lt_of_cell? _ _ hc0
      have kl : (k : Int) < (t.ps.length : Int) := by omega
      have hpz : (pth t.ps k).2.mag.length ≤ N := s2 _ (pth_mem hlt)
      have hstp := fmz_step F hlt
      obtain ⟨p, hp⟩ : ∃ p, p = pth t.ps k := ⟨_, rfl⟩
      rw [← hp] at hc0 hc1 hc2 hi hN2 hpz hstp
      have HST := Lib.hid hstp
      obtain ⟨fz, hfz⟩ : ∃ z, z = cz (F p.2.v) := ⟨_, rfl⟩
      have hfk := fun (U : World) (hU : Ext wr U) => Hf.out.2 U (hxr.trans hU) _ _ _ (⟨B', d', rfl, hN2.ext hU⟩ : Zi U _ (.agg #[.bool p.2.neg, .slice B' p.2.mag.length d']) p.2) hpz
      simp only [← hfz] at hfk
      rw [← hfz] at hstp
      have HST := Lib.hid hstp; have HFK := Lib.hid hfk
      obtain ⟨lk, hlk⟩ : ∃ n, n = (fmz F (t.ps.take k)).length := ⟨_, rfl⟩
      have HLK := Lib.hid hlk
      have hlk2 : lk ≤ k := by omega
      clear hstp hfk hfz hp hlk
      go_upto_region 5 with fail
      refine wp_named fun V hV => ?_
      have c9 : Box V wr.heap.size 37 #[.int .i64 p.1, .bool p.2.neg, .slice B' p.2.mag.length d'] := by rw [hV]; exact Box.new _ _ _
      have hxV : Ext wr V := by rw [hV]; exact (Ext.refl wr).alloc _
      have c7 := b7.ext hxV
      have c7r := c7.rules; have c7l := c7.lt
      have c9r := c9.rules; have c9l := c9.lt
      clear hV b7r
      refine wp_region_late [(0, true), (1, true), (2, true), (3, true), (4, true), (5, true), (6, true), (7, false), (8, true), (9, false)] [10, 11, 12] rfl (by kernel_rfl) (by intro _ _ d _ _ h; cases d <;> exact h) ?_
      (repeat (refine sh_take (v := ?_) rfl rfl ?_ ?_; rotate_left; (intro w' hx'; have hc' := hx'.cells.1; (try simp only [wcd] at hc'); go_simp; (first | done | with_reducible rfl)); (try simp only [pt])))
      (refine sh_loud rfl rfl fun K hK => ?_; go_simp)
      refine (HFK.out _ (hxV.trans xt)).mono ?_
      rintro e w4 ⟨_, rfl, ⟨A4, c4, rfl, hN4⟩, hx4⟩
      have hy4 : Ext V w4 := xt
      (refine hK _ _ xt ?_; clear hK K; (try simp only [pt]))
      (repeat (refine sh_take (v := ?_) rfl rfl ?_ ?_; rotate_left; (intro w' hx'; have hc' := hx'.cells.1; (try simp only [wcd] at hc'); go_simp; (first | done | with_reducible rfl)); (try simp only [pt])))
      (refine sh_loud rfl rfl fun K hK => ?_; go_simp)
      (refine hK _ _ xt ?_; clear hK K; (try simp only [pt]))
      refine sh_done ?_
      have hyr : Ext wr w4 := hxV.trans hy4
      have hs4 := hyr.size
      have hsV : V.heap.size = wr.heap.size + 1 ∨ True := .inr trivial
      have hV4 := hx4.size
      simp only [wsz] at hV4
      refine sh_appp1 (.tmp 23) (.tmp 31) (hO.ext hyr) hi (hN4.widen fun q hq _ => ⟨by simp only [wsz] at hq; omega, fun e => by have := (hrow _ e).2; simp only [wsz] at hq; omega⟩) (by rw [← HLK.out]; omega) (by omega) rfl rfl rfl rfl rfl ?_
      intro v2 w2 hO2 hg2 hv2
      (try simp only [pt])
      have hrow2 := hO2.row
      rw [← HST.out] at hO2
      obtain ⟨A2, c2, rfl, -⟩ := Own.sl hO2 (by omega) (X := fun _ => True) (fun _ _ => trivial)
      have hy5 : wr.grownBy w2 (Value.ownBlock (.slice A0 (fmz F (t.ps.take k)).length c0)) := ext_then (hyr.alloc _) hg2
      have d7 := b7.grown hy5 (fun e => by have := (hrow _ e.symm).1; omega)
      have d7r := d7.rules; have d7l := d7.lt
      have hE2 : Ext w w2 := hxr.grown hy5 fun j hj => by have := (hrow j hj).1; omega
      have kp2 : Kp (fun b => b < W.heap.size ∧ b ≠ g) W w2 := kp.grown hy5 fun j hj h => by have := (hrow j hj).1; omega
      have hs5 := hy5.size
      clear c7r c9r
      (refine sh_late rfl rfl fun K hK => ?_; go_simp; refine hK _ _ ?_; clear hK K)
      (refine sh_late rfl rfl fun K hK => ?_; go_simp; refine hK _ _ ?_; clear hK K)
      refine sh_end ?_
      go_wp2_with fail
      go_roundw
      case rel =>
        refine ⟨k + 1, _, by omega, by go_num, hO2.keep ((Kp.refl w2).setCell (fun h => ?_) _), d7.set_ 0 _, kp2.setCell (fun h => h.2 rfl) _, hE2.setCell (by simp only; omega) _, by simp only [wsz]; omega⟩
        rcases h with h | h
        · simp only at h; omega
        · have := (hrow2 _ h).1; simp only at this; omega
      case measure => simp [intOf] <;> omega
    · obtain rfl : k = t.ps.length := by omega
      simp only [List.take_length] at b7 b7r hP0 hO hsl hrow
      have hzf : ∀ q ∈ fmz F t.ps, q.2.mag.length ≤ M := by
        intro q hq
        obtain ⟨q0, hq0, rfl⟩ := List.mem_map.1 hq
        exact HF.out _ (Nat.le_trans (zl_of (lt.1 _ hq0)) (s2 _ hq0))
      have hgl : gz.mag.length ≤ M := by rw [HGZ.out, cz_len]; exact HG.out _ hzk
      have hnf := nf_fmz F G t
      rw [← HGZ.out] at hnf
      have hno := fun (U : World) (hU : Ext wr U) => tnorm_f (w := U) (t := ⟨fmz F t.ps, gz⟩) (X := fun _ => True) (N := M) ⟨A0, c0, A1, c1, rfl, (hP0.ext hU).widen fun _ _ _ => trivial, (hNK.ext hU).widen fun _ _ _ => trivial⟩ hM ⟨by rw [fmz_len]; omega, hzf, hgl⟩
      rw [hnf] at hno
      obtain ⟨rt, hrt⟩ : ∃ x, x = ct (fm F (vl t.ps)) (G t.k.v) := ⟨_, rfl⟩
      rw [← hrt] at hno
      have HNO := Lib.hid hno; have HRT := Lib.hid hrt
      clear hno hnf hrt hzf hgl
      have b6r := b6.rules; have b6l := b6.lt
      go_wp2_with fail
      refine (HNO.out _ xt).mono ?_
      rintro e w5 ⟨_, rfl, hT, hx5⟩
      have d6 := b6.ext hx5
      have d6r := d6.rules; have d6l := d6.lt
      have hs5 := hx5.size
      have hT0 := hT
      obtain ⟨A5, c5, C5, e5, rfl, hO5, hS5, hN5⟩ := hT
      clear b7r b6r
      go_wp2_with fail
      (refine bodyPost_ret (v := ?_) ?_ rfl ?_; rotate_left; (simp only [results, Tryz.results60]; go_simp; (first | done | with_reducible rfl)))
      rw [← HRT.out]
      refine ⟨_, rfl, (hT0.keep ?_).lower (by omega), xt⟩
      exact kpt

end Go.Proofs.YthmjgbkakjpfkaaGreatDoor

namespace Go.Proofs.YthmjgbkakjpfkaaGreatDoor
open Go.RowKit

structure Ar where
  kd : Int
  d : Z
  t : T
def constA (b : Bool) : Ar := ⟨if b then 1 else 0, cz 0, ct [] 0⟩
def lessA (l : List (Int × Int)) (k : Int) : Ar :=
  if (cn l).length = 0 then constA (decide (0 < k)) else ⟨2, cz 0, ct (fm (·.fdiv (gcdL ((cn l).map Prod.snd))) (cn l)) ((k - 1).fdiv (gcdL ((cn l).map Prod.snd)) + 1)⟩
def lesser (d2 : Int) (n : List (Int × Int)) (k : Int) : T :=
  if ordT (ct (fm (·.fmod d2) (cn (sc (-1) n))) ((-k).fmod d2)) (ct n k) < 0 then ct (fm (·.fmod d2) (cn (sc (-1) n))) ((-k).fmod d2) else ct n k
def partedB (m : Int) (n : List (Int × Int)) (k1 : Int) (g : Int) (not : Bool) : Ar :=
  if n.length = 0 then constA (decide (k1 = 0) != not) else if k1.fmod g ≠ 0 then constA not else if m.fdiv g = 1 then constA (!not) else
    ⟨if not then 4 else 3, cz (m.fdiv g), lesser (m.fdiv g) (cn (fm (·.fdiv g) n)) (k1.fdiv g)⟩
def partedA (d : Int) (l : List (Int × Int)) (k : Int) (not : Bool) : Ar :=
  partedB (d.natAbs : Nat) (cn (fm (·.fmod (d.natAbs : Nat)) (cn l))) (k.fmod (d.natAbs : Nat)) (gcdL ((cn (fm (·.fmod (d.natAbs : Nat)) (cn l))).map Prod.snd ++ [(d.natAbs : Int)])) not
def normA (a : Ar) : Ar × Int :=
  if a.kd = 0 ∨ a.kd = 1 then (constA (decide (a.kd = 1)), 0)
  else if a.kd = 2 then (lessA (vl a.t.ps) a.t.k.v, 0)
  else if a.kd = 3 ∨ a.kd = 4 then (if a.d.v = 0 then (constA false, 11) else (partedA a.d.v (vl a.t.ps) a.t.k.v (decide (a.kd = 4)), 0))
  else (constA false, 1)

def Av (w : World) (X : Nat → Prop) (v : Value) (a : Ar) : Prop :=
  ∃ D c A e C f, v = .agg #[.int .i64 a.kd, .bool a.d.neg, .slice D a.d.mag.length c, .slice A a.t.ps.length e, .bool a.t.k.neg, .slice C a.t.k.mag.length f] ∧ i64 a.kd ∧ Nl w X D c a.d.mag ∧ Pl w X A e a.t.ps ∧ Nl w X C f a.t.k.mag
theorem Av.keep {w w' : World} {X : Nat → Prop} {v : Value} {a : Ar} (h : Av w X v a) (k : Kp X w w') : Av w' X v a := let ⟨D, c, A, e, C, f, h0, h1, h2, h3, h4⟩ := h; ⟨D, c, A, e, C, f, h0, h1, h2.keep k, h3.keep k, h4.keep k⟩
theorem Av.ext {w w' : World} {X : Nat → Prop} {v : Value} {a : Ar} (h : Av w X v a) (k : Ext w w') : Av w' X v a := h.keep (.of_ext k)
def AvF (w : World) (B : Nat) (v : Value) (a : Ar) : Prop :=
  ∃ D c A e C f, v = .agg #[.int .i64 a.kd, .bool a.d.neg, .slice D a.d.mag.length c, .slice A a.t.ps.length e, .bool a.t.k.neg, .slice C a.t.k.mag.length f] ∧ i64 a.kd ∧ Nl w (B ≤ ·) D c a.d.mag ∧
    Own 3 EP w (B ≤ ·) B 37 (.slice A a.t.ps.length e) a.t.ps ∧ Spp w (.slice A a.t.ps.length e) ∧ Nl w (B ≤ ·) C f a.t.k.mag
theorem AvF.av {w : World} {B : Nat} {v : Value} {a : Ar} (h : AvF w B v a) : Av w (B ≤ ·) v a := by
  obtain ⟨D, c, A, e, C, f, rfl, h1, h2, hO, hS, h4⟩ := h
  obtain ⟨A', c', he, hs⟩ := Own.sl hO (by omega) (X := (B ≤ ·)) (fun b hb => hb.elim id id)
  injection he with e1 e2 e3
  subst e1; subst e3
  exact ⟨D, c, A, e, C, f, rfl, h1, h2, hs, h4⟩
theorem AvF.keep {w w' : World} {B : Nat} {v : Value} {a : Ar} (h : AvF w B v a) (k : Kp (B ≤ ·) w w') : AvF w' B v a := by
  obtain ⟨D, c, A, e, C, f, rfl, h1, h2, hO, hS, h4⟩ := h
  have hrow := hO.row
  exact ⟨D, c, A, e, C, f, rfl, h1, h2.keep k, hO.keep (k.imp fun b hb => hb.elim id fun e => (hrow b e).1), hS.keep (fun b e => (hrow b e).2) (k.imp fun b e => (hrow b e).1), h4.keep k⟩
theorem AvF.lower {w : World} {B B' : Nat} {v : Value} {a : Ar} (h : AvF w B v a) (hB : B' ≤ B) : AvF w B' v a := by
  obtain ⟨D, c, A, e, C, f, rfl, h1, h2, hO, hS, h4⟩ := h
  exact ⟨D, c, A, e, C, f, rfl, h1, h2.widen fun b hb _ => by omega, (hO.lower hB).widen fun b hb _ => by omega, hS, h4.widen fun b hb _ => by omega⟩
theorem AvF.const (w : World) (B : Nat) (b : Bool) {x : Int} (hx : x = if b then 1 else 0) : AvF w B (.agg #[.int .i64 x, .bool false, .slice none 0 0, .slice none 0 0, .bool false, .slice none 0 0]) (constA b) :=
  ⟨none, 0, none, 0, none, 0, by rw [hx]; rfl, by unfold constA; cases b <;> exact ⟨by decide, by decide⟩, Sl.nil0 _ _ _, Own.nil _ _ _ _, Spz.nil _ _ _, Sl.nil0 _ _ _⟩
def Ar.sz (a : Ar) (N : Nat) : Prop := a.d.mag.length ≤ N ∧ a.t.sz N

set_option maxHeartbeats 400000 in
theorem truth_c (b : Bool) (w : World) :
    Calls Tryz.prog 57 #[.bool b] w fun e w' => ∃ r, e = .returned r ∧ AvF w' w.heap.size r (constA b) ∧ Ext w w' := by
  cases b
  · go_enter Tryz.func57, Tryz.ntmps57
    go_wp2_with fail
    (refine bodyPost_ret (v := ?_) ?_ rfl ?_; rotate_left; (simp only [results, Tryz.results57]; go_simp; (first | done | with_reducible rfl)))
    exact ⟨_, rfl, AvF.const _ _ false rfl, xt⟩
  · go_enter Tryz.func57, Tryz.ntmps57
    go_wp2_with fail
    (refine bodyPost_ret (v := ?_) ?_ rfl ?_; rotate_left; (simp only [results, Tryz.results57]; go_simp; (first | done | with_reducible rfl)))
    exact ⟨_, rfl, AvF.const _ _ true rfl, xt⟩

set_option maxHeartbeats 1600000 in
theorem coefs_c {v : Value} {t : T} {w : World} {X : Nat → Prop} (h : Tv w X v t) (hl : t.ps.length ≤ 1099511627776) :
    Calls Tryz.prog 59 #[v] w fun e w' => ∃ r, e = .returned r ∧ Own 2 EZ w' (fun b => X b ∧ b < w.heap.size) w.heap.size 24 r (t.ps.map Prod.snd) ∧ Ext w w' := by
  obtain ⟨A, c, B, d, rfl, h1, h2⟩ := h
  go_enter Tryz.func59, Tryz.ntmps59
  go_wp2_with fail
  refine wp_named fun W hW => ?_
  have hE : Ext w W := by rw [hW]; exact xt
  have hsW : w.heap.size + 1 ≤ W.heap.size := by rw [hW]; simp only [wsz]; omega
  clear hW
  have h1b := h1.widen (Y := fun b => X b ∧ b < w.heap.size) fun b hb hl => ⟨hb, hl⟩
  go_loopw [3, 9] (fun lv iv wr => ∃ k : Nat, k ≤ t.ps.length ∧ iv = .int .i64 (k : Int) ∧ Own 2 EZ wr (fun b => X b ∧ b < w.heap.size) W.heap.size 24 lv ((t.ps.take k).map Prod.snd) ∧ Ext W wr) (fun _ iv _ => t.ps.length - (intOf iv).toNat)
  case atStart => exact ⟨0, Nat.zero_le _, rfl, Own.nil _ _ _ _, Ext.refl _⟩
  case round =>
    obtain ⟨k, hk, rfl, hO, hx⟩ := hrel
    have hrow := hO.row
    have hsx := hx.size
    by_cases hlt : k < t.ps.length
    · obtain ⟨b, o, B', d', rfl, hX, hc0, hc1, hc2, hi, hN2⟩ := (h1b.ext (hE.trans hx)).at_ hlt
      have hb := World.block_lt_of_cell? _ _ hc0
      have kl : (k : Int) < (t.ps.length : Int) := by omega
      have hst : (t.ps.take (k + 1)).map Prod.snd = (t.ps.take k).map Prod.snd ++ [(pth t.ps k).2] := by rw [take_pth _ _ hlt]; simp
      have hll : ((t.ps.take k).map Prod.snd).length ≤ 2199023255552 := by simp; omega
      obtain ⟨p, hp⟩ : ∃ p, p = pth t.ps k := ⟨_, rfl⟩
      rw [← hp] at hc0 hc1 hc2 hN2 hst
      have HST := Lib.hid hst; have HLL := Lib.hid hll
      clear hst hll hp hi
      go_upto_region 5 with fail
      refine wp_named fun V hV => ?_
      have c5 : Box V wr.heap.size 37 #[.int .i64 p.1, .bool p.2.neg, .slice B' p.2.mag.length d'] := by rw [hV]; exact Box.new _ _ _
      have hxV : Ext wr V := by rw [hV]; exact (Ext.refl wr).alloc _
      have c5r := c5.rules; have c5l := c5.lt
      have hsV := hxV.size
      clear hV
      go_wp2_with (first
        | (at_builtin
           (refine wpList_appz1 (.tmp 13) (.tmp 16) (hO.ext hxV) ((hN2.ext hxV).widen fun q hq _ => ⟨hq, fun e => by have h3 := (hrow _ e).1; have h4 := hq.2; omega⟩) HLL.out (by omega) rfl rfl rfl rfl ?_)
           intro v2 w2 hO2 hg2 hv2)
        | fail)
      rw [← HST.out] at hO2
      have hx2 : Ext W w2 := Ext.grown ((hx.trans hxV).alloc _) hg2 fun j hj => (hrow j hj).1
      go_wp2_with fail
      go_roundw
      case rel => exact ⟨k + 1, by omega, by go_num, hO2, hx2⟩
      case measure => simp [intOf] <;> omega
    · obtain rfl : k = t.ps.length := by omega
      simp only [List.take_length] at hO
      go_wp2_with fail
      go_ret
      exact ⟨_, rfl, hO.lower (by omega), hE.trans hx⟩

end Go.Proofs.YthmjgbkakjpfkaaGreatDoor

namespace Go.Proofs.YthmjgbkakjpfkaaGreatDoor

theorem foldl_gcd_dvd (e : Nat) : ∀ (l : List Int) (g : Nat), e ∣ l.foldl (fun g x => Nat.gcd g x.natAbs) g ↔ e ∣ g ∧ ∀ x ∈ l, e ∣ x.natAbs
  | [], g => by simp
  | x :: l, g => by
    simp only [List.foldl_cons, List.mem_cons, forall_eq_or_imp]
    rw [foldl_gcd_dvd e l, Nat.dvd_gcd_iff]
    exact and_assoc
theorem pos_of_mul {a b : Int} (h : 0 < a * b) (ha : 0 < a) : 0 < b := Decidable.byContradiction fun hb => by
  have := Int.mul_le_mul_of_nonneg_left (show b ≤ 0 by omega) (show 0 ≤ a by omega)
  rw [Int.mul_zero] at this
  omega
theorem dvd_gcdL {e : Nat} {l : List Int} : e ∣ gcdL l ↔ ∀ x ∈ l, (e : Int) ∣ x := by
  unfold gcdL
  rw [foldl_gcd_dvd]
  simp only [Nat.dvd_zero, true_and, Int.ofNat_dvd_left]
theorem gcdL_mem {l : List Int} {x : Int} (h : x ∈ l) : ((gcdL l : Nat) : Int) ∣ x := dvd_gcdL.1 (Nat.dvd_refl _) x h
theorem gcdL_pos0 {l : List Int} {x : Int} (h : x ∈ l) (h0 : x ≠ 0) : 0 < gcdL l := by
  apply Nat.pos_of_ne_zero
  intro e
  have h1 := gcdL_mem h
  rw [e] at h1
  exact h0 (Int.zero_dvd.1 h1)
theorem gcdL_quot {l : List Int} (h : 0 < gcdL l) : gcdL (l.map (·.fdiv (gcdL l : Int))) = 1 := by
  obtain ⟨e, he⟩ : ∃ e, e = gcdL (l.map (·.fdiv (gcdL l : Int))) := ⟨_, rfl⟩
  have h1 : (e * gcdL l) ∣ gcdL l := by
    rw [dvd_gcdL]
    intro x hx
    obtain ⟨y, hy⟩ := gcdL_mem hx
    have h2 : ((gcdL (l.map (·.fdiv (gcdL l : Int))) : Nat) : Int) ∣ x.fdiv (gcdL l : Int) := gcdL_mem (List.mem_map.2 ⟨x, hx, rfl⟩)
    rw [← he] at h2
    have h3 : x.fdiv (gcdL l : Int) = y := by rw [hy]; exact Int.mul_fdiv_cancel_left _ (by omega)
    rw [h3] at h2
    rw [hy, Int.natCast_mul, Int.mul_comm (e : Int)]
    exact Int.mul_dvd_mul (Int.dvd_refl _) h2
  rw [← he]
  have h2 := Nat.le_of_dvd h h1
  have h3 : e ≠ 0 := by
    rintro rfl
    rw [Nat.zero_mul] at h1
    have := Nat.eq_zero_of_zero_dvd h1
    omega
  have h4 : e * gcdL l ≤ 1 * gcdL l := by omega
  have h5 := Nat.le_of_mul_le_mul_right h4 h
  omega
theorem canon_fm {l : List (Int × Int)} {F : Int → Int} (h : Canon l) (h0 : ∀ p ∈ l, F p.2 ≠ 0) : Canon (fm F l) := by
  refine ⟨?_, ?_⟩
  · unfold fm
    exact List.Pairwise.map _ (fun _ _ h => h) h.1
  · intro p hp
    obtain ⟨q, hq, rfl⟩ := List.mem_map.1 hp
    exact h0 q hq
theorem rise_fm {l : List (Int × Int)} (F : Int → Int) (h : Rise l) : Rise (fm F l) := by
  unfold fm
  exact List.Pairwise.map _ (fun _ _ h => h) h
theorem fm_snd (F : Int → Int) (l : List (Int × Int)) : (fm F l).map Prod.snd = (l.map Prod.snd).map F := by simp [fm]
theorem mem_cn {l : List (Int × Int)} (h : Rise l) {p : Int × Int} (hp : p ∈ cn l) : p ∈ l ∧ p.2 ≠ 0 := by
  obtain ⟨h1, h2⟩ := cn_mem hp
  obtain ⟨q, hq, e⟩ := mem_of_cf (l := l) (x := p.1) (by rw [h1]; exact h2)
  have h3 := cf_mem h hq
  rw [e, h1] at h3
  have : q = p := Prod.ext e h3.symm
  exact ⟨this ▸ hq, h2⟩
theorem sc_fm (l : List (Int × Int)) : sc (-1) l = fm (fun x => -x) l := by simp [sc, fm]

def Fine (n : Ar) : Prop := (n.kd = 2 ∧ n.d = cz 0 ∨ (n.kd = 3 ∨ n.kd = 4) ∧ 1 < n.d.v ∧ n.d = cz n.d.v ∧ ∀ p ∈ vl n.t.ps, 0 < p.2 ∧ p.2 < n.d.v) ∧
  ∃ l k, Canon l ∧ n.t = ct l k ∧ l ≠ [] ∧ gcdL (n.d.v :: l.map Prod.snd) = 1
theorem fine_ps {l : List (Int × Int)} (h : Canon l) (k : Int) : vl (ct l k).ps = l := by
  unfold ct
  rw [vl_cl, cn_canon h]
theorem gcdL_nought (l : List Int) : gcdL (0 :: l) = gcdL l := by simp [gcdL]
theorem gcdL_perm {l m : List Int} (h : ∀ x, x ∈ l ↔ x ∈ m) : gcdL l = gcdL m :=
  Nat.dvd_antisymm (dvd_gcdL.2 fun x hx => gcdL_mem ((h x).2 hx)) (dvd_gcdL.2 fun x hx => gcdL_mem ((h x).1 hx))
theorem lessA_fine (l : List (Int × Int)) (k : Int) : (∃ b, lessA l k = constA b) ∨ Fine (lessA l k) := by
  unfold lessA
  by_cases h : (cn l).length = 0
  · rw [if_pos h]; exact .inl ⟨_, rfl⟩
  · rw [if_neg h]
    right
    obtain ⟨n, hn⟩ : ∃ n, n = cn l := ⟨_, rfl⟩
    have hc : Canon n := by rw [hn]; exact canon_cn l
    rw [← hn] at h ⊢
    obtain ⟨g, hg⟩ : ∃ g, g = gcdL (n.map Prod.snd) := ⟨_, rfl⟩
    rw [← hg]
    have hne : n ≠ [] := fun e => h (by rw [e]; rfl)
    obtain ⟨p, hp⟩ := List.exists_mem_of_ne_nil n hne
    have hg0 : 0 < g := by rw [hg]; exact gcdL_pos0 (List.mem_map.2 ⟨p, hp, rfl⟩) (hc.2 p hp)
    have hc2 : Canon (fm (·.fdiv (g : Int)) n) := canon_fm hc fun q hq e => by
      obtain ⟨y, hy⟩ : (g : Int) ∣ q.2 := by rw [hg]; exact gcdL_mem (List.mem_map.2 ⟨q, hq, rfl⟩)
      have h3 : q.2.fdiv (g : Int) = y := by rw [hy]; exact Int.mul_fdiv_cancel_left _ (by omega)
      have h4 : y = 0 := by rw [← h3]; exact e
      exact hc.2 q hq (by rw [hy, h4, Int.mul_zero])
    refine ⟨.inl ⟨rfl, rfl⟩, _, _, hc2, rfl, ?_, ?_⟩
    · intro e
      have := congrArg List.length e
      rw [fm_len] at this
      exact h this
    · simp only [cz_v]
      rw [gcdL_nought, fm_snd, hg]
      exact gcdL_quot (by rw [← hg]; exact hg0)
theorem neg_fmod {x d : Int} (h0 : 0 < x) (h1 : x < d) : (-x).fmod d = d - x := by
  have : -x = (d - x) + d * (-1) := by omega
  rw [this, Int.add_mul_fmod_self_left, Int.fmod_eq_emod_of_nonneg _ (by omega), Int.emod_eq_of_lt (by omega) (by omega)]
theorem lesser_fine {d2 : Int} {n : List (Int × Int)} {k : Int} (hc : Canon n) (hr : ∀ p ∈ n, 0 < p.2 ∧ p.2 < d2) (hne : n ≠ []) (hg : gcdL (n.map Prod.snd ++ [d2]) = 1) :
    ∃ l k', Canon l ∧ lesser d2 n k = ct l k' ∧ l ≠ [] ∧ gcdL (d2 :: l.map Prod.snd) = 1 ∧ ∀ p ∈ l, 0 < p.2 ∧ p.2 < d2 := by
  unfold lesser
  have hs : Canon (sc (-1) n) := by rw [sc_fm]; exact canon_fm hc fun p hp => by have := (hr p hp).1; omega
  rw [cn_canon hs]
  have he : fm (·.fmod d2) (sc (-1) n) = fm (fun x => d2 - x) n := by
    rw [sc_fm]
    unfold fm
    rw [List.map_map]
    exact List.map_congr_left fun p hp => by
      have := hr p hp
      simp only [Function.comp]
      rw [neg_fmod this.1 this.2]
  rw [he]
  have hc3 : Canon (fm (fun x => d2 - x) n) := canon_fm hc fun p hp => by have := (hr p hp).2; omega
  split
  · refine ⟨_, _, hc3, rfl, ?_, ?_, ?_⟩
    · intro e
      have := congrArg List.length e
      rw [fm_len] at this
      exact hne (List.eq_nil_of_length_eq_zero this)
    · have h1 : gcdL (d2 :: (fm (fun x => d2 - x) n).map Prod.snd) ∣ gcdL (n.map Prod.snd ++ [d2]) := by
        rw [dvd_gcdL]
        intro x hx
        have hd : ((gcdL (d2 :: (fm (fun x => d2 - x) n).map Prod.snd) : Nat) : Int) ∣ d2 := gcdL_mem (List.mem_cons_self ..)
        rcases List.mem_append.1 hx with hx | hx
        · have h2 : ((gcdL (d2 :: (fm (fun x => d2 - x) n).map Prod.snd) : Nat) : Int) ∣ d2 - x := gcdL_mem (List.mem_cons_of_mem _ (by rw [fm_snd]; exact List.mem_map.2 ⟨x, hx, rfl⟩))
          have h3 := Int.dvd_sub hd h2
          rwa [show d2 - (d2 - x) = x by omega] at h3
        · rw [List.mem_singleton.1 hx]; exact hd
      rw [hg] at h1
      exact Nat.eq_one_of_dvd_one h1
    · intro p hp
      obtain ⟨q, hq, rfl⟩ := List.mem_map.1 hp
      have := hr q hq
      dsimp only
      omega
  · refine ⟨_, _, hc, rfl, hne, ?_, hr⟩
    rw [← hg]
    exact gcdL_perm fun x => by simp [or_comm]
theorem partedA_fine (d : Int) (l : List (Int × Int)) (k : Int) (not : Bool) (hd : d ≠ 0) : (∃ b, partedA d l k not = constA b) ∨ Fine (partedA d l k not) := by
  unfold partedA
  obtain ⟨m, hm⟩ : ∃ m : Int, m = (d.natAbs : Nat) := ⟨_, rfl⟩
  have hm0 : 0 < m := by omega
  rw [← hm]
  obtain ⟨n1, hn1⟩ : ∃ n, n = cn (fm (·.fmod m) (cn l)) := ⟨_, rfl⟩
  rw [← hn1]
  obtain ⟨g, hg⟩ : ∃ g, g = gcdL (n1.map Prod.snd ++ [m]) := ⟨_, rfl⟩
  rw [← hg]
  unfold partedB
  have hc1 : Canon n1 := by rw [hn1]; exact canon_cn _
  by_cases h1 : n1.length = 0
  · rw [if_pos h1]; exact .inl ⟨_, rfl⟩
  rw [if_neg h1]
  by_cases h2 : (k.fmod m).fmod g ≠ 0
  · rw [if_pos h2]; exact .inl ⟨_, rfl⟩
  rw [if_neg h2]
  by_cases h3 : m.fdiv g = 1
  · rw [if_pos h3]; exact .inl ⟨_, rfl⟩
  rw [if_neg h3]
  right
  have hr1 : ∀ p ∈ n1, 0 < p.2 ∧ p.2 < m := fun p hp => by
    rw [hn1] at hp
    obtain ⟨hp1, hp2⟩ := mem_cn (rise_fm _ (canon_cn l).1) hp
    obtain ⟨q, -, rfl⟩ := List.mem_map.1 hp1
    dsimp only at hp2 ⊢
    rw [Int.fmod_eq_emod_of_nonneg _ (by omega)] at hp2 ⊢
    have h4 := Int.emod_nonneg q.2 (show m ≠ 0 by omega)
    have h5 := Int.emod_lt_of_pos q.2 hm0
    omega
  have hg0 : 0 < g := by rw [hg]; exact gcdL_pos0 (List.mem_append_right _ (List.mem_singleton.2 rfl)) (by omega)
  obtain ⟨d2, hd2⟩ : (g : Int) ∣ m := by rw [hg]; exact gcdL_mem (List.mem_append_right _ (List.mem_singleton.2 rfl))
  have hdv : ∀ y : Int, ((g : Int) * y).fdiv (g : Int) = y := fun y => Int.mul_fdiv_cancel_left _ (by omega)
  have e2 : m.fdiv (g : Int) = d2 := by rw [hd2]; exact hdv d2
  have hr2 : ∀ p ∈ n1, 0 < p.2.fdiv (g : Int) ∧ p.2.fdiv (g : Int) < d2 := fun p hp => by
    obtain ⟨y, hy⟩ : (g : Int) ∣ p.2 := by rw [hg]; exact gcdL_mem (List.mem_append_left _ (List.mem_map.2 ⟨p, hp, rfl⟩))
    have := hr1 p hp
    rw [hy, hd2] at this
    rw [hy, hdv]
    refine ⟨?_, Int.lt_of_mul_lt_mul_left this.2 (by omega)⟩
    exact pos_of_mul this.1 (by omega)
  have hc2 : Canon (fm (·.fdiv (g : Int)) n1) := canon_fm hc1 fun p hp => by have := (hr2 p hp).1; omega
  rw [e2] at h3 ⊢
  rw [cn_canon hc2]
  have hgd : gcdL ((fm (·.fdiv (g : Int)) n1).map Prod.snd ++ [d2]) = 1 := by
    have h := gcdL_quot (l := n1.map Prod.snd ++ [m]) (by rw [← hg]; exact hg0)
    rw [← hg, List.map_append, ← fm_snd, List.map_singleton, e2] at h
    exact h
  have hd20 : 0 < d2 := pos_of_mul (by rw [← hd2]; exact hm0) (by omega)
  obtain ⟨l', k', x1, x2, x3, x4, x5⟩ := lesser_fine (k := (k.fmod m).fdiv g) hc2 (fun p hp => by obtain ⟨q, hq, rfl⟩ := List.mem_map.1 hp; exact hr2 q hq) (fun e => h1 (by have := congrArg List.length e; rwa [fm_len] at this)) hgd
  refine ⟨.inr ⟨by cases not <;> simp, by simp only [cz_v]; omega, by rw [cz_v], ?_⟩, l', k', x1, x2, x3, by simp only [cz_v]; exact x4⟩
  dsimp only
  rw [x2, fine_ps x1, cz_v]
  exact x5
theorem normA_fine (a : Ar) : (∃ b, (normA a).1 = constA b) ∨ ((normA a).2 = 0 ∧ Fine (normA a).1) := by
  unfold normA
  by_cases h : a.kd = 0 ∨ a.kd = 1
  · rw [if_pos h]; exact .inl ⟨_, rfl⟩
  rw [if_neg h]
  by_cases h2 : a.kd = 2
  · rw [if_pos h2]
    rcases lessA_fine (vl a.t.ps) a.t.k.v with ⟨b, h3⟩ | h3
    · exact .inl ⟨b, h3⟩
    · exact .inr ⟨rfl, h3⟩
  rw [if_neg h2]
  by_cases h3 : a.kd = 3 ∨ a.kd = 4
  · rw [if_pos h3]
    by_cases h4 : a.d.v = 0
    · rw [if_pos h4]; exact .inl ⟨_, rfl⟩
    · rw [if_neg h4]
      rcases partedA_fine a.d.v (vl a.t.ps) a.t.k.v (decide (a.kd = 4)) h4 with ⟨b, h5⟩ | h5
      · exact .inl ⟨b, h5⟩
      · exact .inr ⟨rfl, h5⟩
  · rw [if_neg h3]; exact .inl ⟨_, rfl⟩

end Go.Proofs.YthmjgbkakjpfkaaGreatDoor

namespace Go.Proofs.YthmjgbkakjpfkaaGreatDoor

def holdsA (n : Ar) (x : Int) : Bool :=
  if n.kd = 2 then decide (0 < x) else if n.kd = 3 then decide (x.fmod n.d.v = 0) else if n.kd = 4 then !decide (x.fmod n.d.v = 0) else decide (n.kd = 1)
def tev (f : Int → Int) (t : T) : Int := ev f (vl t.ps) + t.k.v
theorem fmod_zero {x m : Int} : x.fmod m = 0 ↔ m ∣ x := ⟨Int.dvd_of_fmod_eq_zero, Int.fmod_eq_zero_of_dvd⟩
end Go.Proofs.YthmjgbkakjpfkaaGreatDoor

namespace Go.Proofs.YthmjgbkakjpfkaaGreatDoor

theorem fmod_small {x d : Int} (h0 : 0 ≤ x) (h1 : x < d) : x.fmod d = x := by rw [Int.fmod_eq_emod_of_nonneg _ (by omega), Int.emod_eq_of_lt h0 h1]
def oppL (d2 : Int) (n : List (Int × Int)) : List (Int × Int) := fm (·.fmod d2) (cn (sc (-1) n))
theorem opp_eq {d2 : Int} {n : List (Int × Int)} (hc : Canon n) (hr : ∀ p ∈ n, 0 < p.2 ∧ p.2 < d2) : oppL d2 n = fm (fun x => d2 - x) n := by
  unfold oppL
  have hs : Canon (sc (-1) n) := by rw [sc_fm]; exact canon_fm hc fun p hp => by have := (hr p hp).1; omega
  rw [cn_canon hs, sc_fm]
  unfold fm
  rw [List.map_map]
  exact List.map_congr_left fun p hp => by
    have := hr p hp
    simp only [Function.comp]
    rw [neg_fmod this.1 this.2]
theorem opp_canon {d2 : Int} {n : List (Int × Int)} (hc : Canon n) (hr : ∀ p ∈ n, 0 < p.2 ∧ p.2 < d2) : Canon (oppL d2 n) ∧ ∀ p ∈ oppL d2 n, 0 < p.2 ∧ p.2 < d2 := by
  rw [opp_eq hc hr]
  refine ⟨canon_fm hc fun p hp => by have := (hr p hp).2; omega, fun p hp => ?_⟩
  obtain ⟨q, hq, rfl⟩ := List.mem_map.1 hp
  have := hr q hq
  dsimp only
  omega
theorem opp_opp {d2 : Int} {n : List (Int × Int)} (hc : Canon n) (hr : ∀ p ∈ n, 0 < p.2 ∧ p.2 < d2) : oppL d2 (oppL d2 n) = n := by
  obtain ⟨h1, h2⟩ := opp_canon hc hr
  rw [opp_eq h1 h2, opp_eq hc hr]
  unfold fm
  rw [List.map_map]
  have : ∀ p ∈ n, ((fun p : Int × Int => (p.1, (fun x => d2 - x) p.2)) ∘ fun p => (p.1, (fun x => d2 - x) p.2)) p = id p := fun p _ => by
    simp only [Function.comp, id]
    exact Prod.ext rfl (by dsimp only; omega)
  rw [List.map_congr_left this, List.map_id]
theorem oppk {d2 k : Int} (h0 : 0 ≤ k) (h1 : k < d2) : (-((-k).fmod d2)).fmod d2 = k := by
  by_cases hk : k = 0
  · subst hk
    rw [Int.neg_zero, fmod_small (by omega) h1, Int.neg_zero, fmod_small (by omega) h1]
  · rw [neg_fmod (by omega) h1, neg_fmod (by omega) (by omega)]
    omega
theorem oppk_range {d2 k : Int} (h1 : 0 < d2) : 0 ≤ (-k).fmod d2 ∧ (-k).fmod d2 < d2 := by
  rw [Int.fmod_eq_emod_of_nonneg _ (by omega)]
  exact ⟨Int.emod_nonneg _ (by omega), Int.emod_lt_of_pos _ h1⟩
def Least (d2 : Int) (t : T) : Prop := ∃ l k, Canon l ∧ (∀ p ∈ l, 0 < p.2 ∧ p.2 < d2) ∧ l ≠ [] ∧ gcdL (l.map Prod.snd ++ [d2]) = 1 ∧ 0 ≤ k ∧ k < d2 ∧ t = ct l k ∧ lesser d2 l k = ct l k
theorem lesser_opp (d2 : Int) (n : List (Int × Int)) (k : Int) : lesser d2 n k = if ordT (ct (oppL d2 n) ((-k).fmod d2)) (ct n k) < 0 then ct (oppL d2 n) ((-k).fmod d2) else ct n k := rfl
theorem lesser_least {d2 : Int} {n : List (Int × Int)} {k : Int} (hc : Canon n) (hr : ∀ p ∈ n, 0 < p.2 ∧ p.2 < d2) (hne : n ≠ []) (hg : gcdL (n.map Prod.snd ++ [d2]) = 1) (h0 : 0 ≤ k) (h1 : k < d2) : Least d2 (lesser d2 n k) := by
  obtain ⟨c1, c2⟩ := opp_canon hc hr
  by_cases ho : ordT (ct (oppL d2 n) ((-k).fmod d2)) (ct n k) < 0
  · have e1 : lesser d2 n k = ct (oppL d2 n) ((-k).fmod d2) := by rw [lesser_opp, if_pos ho]
    have hk := oppk_range (k := k) (d2 := d2) (by omega)
    refine ⟨oppL d2 n, (-k).fmod d2, c1, c2, ?_, ?_, hk.1, hk.2, e1, ?_⟩
    · intro e
      rw [opp_eq hc hr] at e
      have := congrArg List.length e
      rw [fm_len] at this
      exact hne (List.eq_nil_of_length_eq_zero this)
    · have hd : gcdL ((oppL d2 n).map Prod.snd ++ [d2]) ∣ gcdL (n.map Prod.snd ++ [d2]) := by
        rw [dvd_gcdL]
        intro x hx
        have hdd : ((gcdL ((oppL d2 n).map Prod.snd ++ [d2]) : Nat) : Int) ∣ d2 := gcdL_mem (List.mem_append_right _ (List.mem_singleton.2 rfl))
        rcases List.mem_append.1 hx with hx | hx
        · have h2 : ((gcdL ((oppL d2 n).map Prod.snd ++ [d2]) : Nat) : Int) ∣ d2 - x := gcdL_mem (List.mem_append_left _ (by rw [opp_eq hc hr, fm_snd]; exact List.mem_map.2 ⟨x, hx, rfl⟩))
          have h3 := Int.dvd_sub hdd h2
          rwa [show d2 - (d2 - x) = x by omega] at h3
        · rw [List.mem_singleton.1 hx]; exact hdd
      rw [hg] at hd
      exact Nat.eq_one_of_dvd_one hd
    · rw [lesser_opp, opp_opp hc hr, oppk h0 h1, if_neg]
      rw [ordT_swap]
      omega
  · have e1 : lesser d2 n k = ct n k := by rw [lesser_opp, if_neg ho]
    exact ⟨n, k, hc, hr, hne, hg, h0, h1, e1, e1⟩
def Form (n : Ar) : Prop := (∃ b, n = constA b) ∨ (n.kd = 2 ∧ n.d = cz 0 ∧ ∃ l k, Canon l ∧ l ≠ [] ∧ gcdL (l.map Prod.snd) = 1 ∧ n.t = ct l k) ∨
  ((n.kd = 3 ∨ n.kd = 4) ∧ 1 < n.d.v ∧ n.d = cz n.d.v ∧ Least n.d.v n.t)
theorem lessA_form (l : List (Int × Int)) (k : Int) : Form (lessA l k) := by
  unfold lessA
  by_cases h : (cn l).length = 0
  · rw [if_pos h]; exact .inl ⟨_, rfl⟩
  · rw [if_neg h]
    obtain ⟨g, hg⟩ : ∃ g, g = gcdL ((cn l).map Prod.snd) := ⟨_, rfl⟩
    rw [← hg]
    have hne : cn l ≠ [] := fun e => h (by rw [e]; rfl)
    obtain ⟨p, hp⟩ := List.exists_mem_of_ne_nil _ hne
    have hg0 : 0 < g := by rw [hg]; exact gcdL_pos0 (List.mem_map.2 ⟨p, hp, rfl⟩) ((canon_cn l).2 p hp)
    refine .inr (.inl ⟨rfl, rfl, _, _, canon_fm (canon_cn l) fun q hq e => ?_, ?_, ?_, rfl⟩)
    · obtain ⟨y, hy⟩ : (g : Int) ∣ q.2 := by rw [hg]; exact gcdL_mem (List.mem_map.2 ⟨q, hq, rfl⟩)
      have h3 : q.2.fdiv (g : Int) = y := by rw [hy]; exact Int.mul_fdiv_cancel_left _ (by omega)
      have h4 : y = 0 := by rw [← h3]; exact e
      exact (canon_cn l).2 q hq (by rw [hy, h4, Int.mul_zero])
    · intro e
      have := congrArg List.length e
      rw [fm_len] at this
      exact h this
    · rw [fm_snd, hg]
      exact gcdL_quot (by rw [← hg]; exact hg0)
theorem partedA_form (d : Int) (l : List (Int × Int)) (k : Int) (not : Bool) (hd : d ≠ 0) : Form (partedA d l k not) := by
  unfold partedA
  obtain ⟨m, hm⟩ : ∃ m : Int, m = (d.natAbs : Nat) := ⟨_, rfl⟩
  have hm0 : 0 < m := by omega
  rw [← hm]
  obtain ⟨n1, hn1⟩ : ∃ n, n = cn (fm (·.fmod m) (cn l)) := ⟨_, rfl⟩
  rw [← hn1]
  obtain ⟨g, hg⟩ : ∃ g, g = gcdL (n1.map Prod.snd ++ [m]) := ⟨_, rfl⟩
  rw [← hg]
  unfold partedB
  have hc1 : Canon n1 := by rw [hn1]; exact canon_cn _
  by_cases h1 : n1.length = 0
  · rw [if_pos h1]; exact .inl ⟨_, rfl⟩
  rw [if_neg h1]
  by_cases h2 : (k.fmod m).fmod g ≠ 0
  · rw [if_pos h2]; exact .inl ⟨_, rfl⟩
  rw [if_neg h2]
  by_cases h3 : m.fdiv g = 1
  · rw [if_pos h3]; exact .inl ⟨_, rfl⟩
  rw [if_neg h3]
  have hr1 : ∀ p ∈ n1, 0 < p.2 ∧ p.2 < m := fun p hp => by
    rw [hn1] at hp
    obtain ⟨hp1, hp2⟩ := mem_cn (rise_fm _ (canon_cn l).1) hp
    obtain ⟨q, -, rfl⟩ := List.mem_map.1 hp1
    dsimp only at hp2 ⊢
    rw [Int.fmod_eq_emod_of_nonneg _ (by omega)] at hp2 ⊢
    have h4 := Int.emod_nonneg q.2 (show m ≠ 0 by omega)
    have h5 := Int.emod_lt_of_pos q.2 hm0
    omega
  have hg0 : 0 < g := by rw [hg]; exact gcdL_pos0 (List.mem_append_right _ (List.mem_singleton.2 rfl)) (by omega)
  obtain ⟨d2, hd2⟩ : (g : Int) ∣ m := by rw [hg]; exact gcdL_mem (List.mem_append_right _ (List.mem_singleton.2 rfl))
  have hdv : ∀ y : Int, ((g : Int) * y).fdiv (g : Int) = y := fun y => Int.mul_fdiv_cancel_left _ (by omega)
  have e2 : m.fdiv (g : Int) = d2 := by rw [hd2]; exact hdv d2
  have hr2 : ∀ p ∈ n1, 0 < p.2.fdiv (g : Int) ∧ p.2.fdiv (g : Int) < d2 := fun p hp => by
    obtain ⟨y, hy⟩ : (g : Int) ∣ p.2 := by rw [hg]; exact gcdL_mem (List.mem_append_left _ (List.mem_map.2 ⟨p, hp, rfl⟩))
    have := hr1 p hp
    rw [hy, hd2] at this
    rw [hy, hdv]
    exact ⟨pos_of_mul this.1 (by omega), Int.lt_of_mul_lt_mul_left this.2 (by omega)⟩
  have hc2 : Canon (fm (·.fdiv (g : Int)) n1) := canon_fm hc1 fun p hp => by have := (hr2 p hp).1; omega
  rw [e2] at h3 ⊢
  rw [cn_canon hc2]
  have hgd : gcdL ((fm (·.fdiv (g : Int)) n1).map Prod.snd ++ [d2]) = 1 := by
    have h := gcdL_quot (l := n1.map Prod.snd ++ [m]) (by rw [← hg]; exact hg0)
    rw [← hg, List.map_append, ← fm_snd, List.map_singleton, e2] at h
    exact h
  have hd20 : 0 < d2 := pos_of_mul (by rw [← hd2]; exact hm0) (by omega)
  have hk : 0 ≤ k.fmod m ∧ k.fmod m < m := by
    rw [Int.fmod_eq_emod_of_nonneg _ (by omega)]
    exact ⟨Int.emod_nonneg _ (by omega), Int.emod_lt_of_pos _ hm0⟩
  obtain ⟨k2, hk2⟩ : (g : Int) ∣ k.fmod m := fmod_zero.1 (Decidable.not_not.1 h2)
  have hkd : (k.fmod m).fdiv g = k2 := by rw [hk2]; exact hdv k2
  have hk0 : 0 ≤ k2 ∧ k2 < d2 := by
    rw [hk2, hd2] at hk
    refine ⟨?_, Int.lt_of_mul_lt_mul_left hk.2 (by omega)⟩
    apply Decidable.byContradiction
    intro hn
    have := Int.mul_le_mul_of_nonneg_left (show k2 ≤ -1 by omega) (show (0 : Int) ≤ g by omega)
    omega
  rw [hkd]
  have hL := lesser_least (k := k2) hc2 (fun p hp => by obtain ⟨q, hq, rfl⟩ := List.mem_map.1 hp; exact hr2 q hq) (fun e => h1 (by have := congrArg List.length e; rwa [fm_len] at this)) hgd hk0.1 hk0.2
  refine .inr (.inr ⟨by cases not <;> simp, by simp only [cz_v]; omega, by rw [cz_v], ?_⟩)
  simp only [cz_v]
  exact hL
theorem normA_form (a : Ar) : Form (normA a).1 := by
  unfold normA
  split
  · exact .inl ⟨_, rfl⟩
  split
  · exact lessA_form _ _
  split
  · split
    · exact .inl ⟨_, rfl⟩
    · rename_i h
      exact partedA_form _ _ _ _ h
  · exact .inl ⟨_, rfl⟩
theorem form_facts {n : Ar} (h : Form n) : n.d.ok = true ∧ n.t.valid = true ∧ n.t.lb ∧ Lb n.d.mag ∧ ordT n.t n.t = 0 := by
  have ho : ordT n.t n.t = 0 := ordT_zero.2 ⟨rfl, rfl⟩
  rcases h with ⟨b, hb⟩ | ⟨-, hd, l, k, -, -, -, ht⟩ | ⟨-, -, hd, l, k, -, -, -, -, -, -, ht, -⟩
  · refine ⟨by rw [hb]; cases b <;> exact cz_ok 0, by rw [hb]; cases b <;> exact ct_valid [] 0, by rw [hb]; cases b <;> exact ct_lb [] 0, by rw [hb]; cases b <;> exact lb_lim _, ho⟩
  · exact ⟨by rw [hd]; exact cz_ok _, by rw [ht]; exact ct_valid _ _, by rw [ht]; exact ct_lb _ _, by rw [hd]; exact lb_lim _, ho⟩
  · exact ⟨by rw [hd]; exact cz_ok _, by rw [ht]; exact ct_valid _ _, by rw [ht]; exact ct_lb _ _, by rw [hd]; exact lb_lim _, ho⟩

end Go.Proofs.YthmjgbkakjpfkaaGreatDoor
