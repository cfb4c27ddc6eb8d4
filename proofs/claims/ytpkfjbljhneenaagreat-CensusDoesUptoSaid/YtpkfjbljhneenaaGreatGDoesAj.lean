/- slices.Grow, Concat at numbers. No conditions. census: num, less, plus; the law's num, ints. No conditions. census: part. No conditions. census: stops. No conditions. -/
import Derived.Test.YtpkfjbljhneenaaGreatGDoesAi
import Derived.Lib.AppendZeros
import Derived.Test.YtpkfjbljhneenaaGreatGDoesAg
import Derived.Test.YtpkfjbljhneenaaGreatGDoesAc
namespace Go.Proofs.YtpkfjbljhneenaaGreat
open Go.RowKit Go.Shelf

theorem wpList_appzs {w : World} {ops : Array Oper} {rest : List Oper} {o : Oper} {a : Act} {Q : Exit → Act → World → Prop} (s x : Operand) {Zp X : Nat → Prop} {base : Nat} {v : Value} {l m : List Z} {A : Option Addr} {c : Nat}
    (h : Own 2 EZ w Zp base 25 v l) (hm : Zs w X A c m) (hX : ∀ b, X b → b < w.heap.size → Zp b ∧ v.ownBlock ≠ some b) (hl : l.length + m.length ≤ 2199023255552) (hbase : base ≤ w.heap.size)
    (hgd : o.guard = none) (ho : o.op = .call { callee := .builtin .append, args := #[s, x], argTypes := #[35, 35] }) (hs : a.eval s = v) (hx : a.eval x = .slice A m.length c)
    (H : ∀ v' w', Own 2 EZ w' Zp base 25 v' (l ++ m) → w.grownBy w' v.ownBlock → (v'.ownBlock = v.ownBlock ∨ v'.ownBlock = some w.heap.size) → wpList Tryz.prog ops Q rest (a.put o.dst v') w') :
    wpList Tryz.prog ops Q (o :: rest) a w := by
  obtain ⟨ys, hf, hfc⟩ := (Sl.widen hm (by omega) (Y := fun b => Zp b ∧ v.ownBlock ≠ some b) hX).flat
  exact wpList_app ety_z s x h hf (fun h0 => by
    obtain ⟨b, o, hA, _, hc⟩ := hfc h0
    exact ⟨b, o, hA, hc⟩) (by omega) (by simp only [maxLen]; omega) hbase hgd ho hs hx H

set_option maxHeartbeats 800000 in
theorem growz_c (w : World) (n : Nat) (hn : n ≤ 1099511627776) (Zp : Nat → Prop) :
    Calls Tryz.prog 131 #[.slice none 0 0, .int .i64 (n : Int)] w fun e w' => ∃ v, e = .returned v ∧ Own 2 EZ w' Zp w.heap.size 25 v [] ∧ Ext w w' := by
  go_enter Tryz.func131, Tryz.ntmps131
  have hn0 : ¬ (n : Int) < 0 := by omega
  have ew := w64n (n := n) (by omega)
  rcases Nat.eq_zero_or_pos n with h0 | h0
  · subst h0
    go_wp2_with fail
    go_ret
    exact ⟨_, rfl, Own.nil _ _ _ _, Ext.refl _⟩
  · have hi : (0 : Int) < (n : Int) := by omega
    obtain ⟨i, hinf, hz, hsize, hby⟩ := info_parts ety_z.info
    have hr := fun ty => Lib.run_append_nil_zeros (P := Tryz.prog) w 35 3 ty 25 i (.agg #[.bool false, .slice none 0 0]) .i64 .i64 ety_z.under Tryz.underlying3 hinf hz n h0 (by rw [hsize]; omega) (by omega) (by rw [hby]; omega)
    have hge := grownCap_ge w n 0 25; have hle := grownCap_le_maxLen w n 0 25 (by simp only [maxLen]; omega); obtain ⟨cap, hcap⟩ : ∃ cap, cap = grownCap w n 0 25 := ⟨_, rfl⟩; rw [← hcap] at hr hge hle; clear hcap
    go_wp2_with (first
      | (at_builtin
         (refine Lib.wpList_append_run _ rfl _ _ _ _ rfl _ _ rfl rfl _ _ (hr _) ?_))
      | fail)
    go_ret
    refine ⟨_, rfl, ⟨[], ⟨rfl, .inr ⟨w.heap.size, cap, _, rfl, Nat.le_refl _, heap_alloc_new w _, Nat.zero_le _, hle, ?_, by simp⟩⟩, Fl.nil _ _⟩, xt⟩; simp [size_zeroCells]
    omega

set_option maxHeartbeats 1600000 in
theorem concat_c {w : World} {g : Nat} {ty : TypeId} {A B : Option Addr} {c d : Nat} {l m : List Z} {Zp : Nat → Prop} (hZ : ∀ b, Zp b → b < w.heap.size) (hg : Box w g ty #[.slice A l.length c, .slice B m.length d]) (sl : Zs w Zp A c l) (sm : Zs w Zp B d m) (hL : l.length + m.length ≤ 1099511627776) :
    Calls Tryz.prog 118 #[.slice (some ⟨g, 0, none⟩) 2 2] w fun e w' => ∃ v, e = .returned v ∧ Own 2 EZ w' Zp w.heap.size 25 v (l ++ m) ∧ Ext w w' := by
  have gr := hg.rules; have gl := hg.lt
  go_enter Tryz.func118, Tryz.ntmps118
  go_wp2_with fail
  go_loopw [3, 11] (fun sv iv wr => ((iv = .int .i64 0 ∧ sv = .int .i64 0) ∨ (iv = .int .i64 1 ∧ sv = .int .i64 (l.length : Nat)) ∨ (iv = .int .i64 2 ∧ sv = .int .i64 ((l.length + m.length : Nat) : Int))) ∧ wr = w) (fun _ iv _ => 2 - (intOf iv).toNat)
  case atStart => exact ⟨.inl ⟨rfl, rfl⟩, rfl⟩
  case round =>
    obtain ⟨hcase, rfl⟩ := hrel; have w1 := w64n (n := l.length) (by omega); have w2 : IntKind.i64.wrap ((l.length : Int) + (m.length : Int)) = (l.length : Int) + (m.length : Int) := w64 ⟨by omega, by omega⟩
    have n1 : ¬ (l.length : Int) < 0 := by omega
    have n2 : ¬ (l.length : Int) + (m.length : Int) < 0 := by omega
    rcases hcase with ⟨rfl, rfl⟩ | ⟨rfl, rfl⟩ | ⟨rfl, rfl⟩
    · go_wp2_with fail
      go_roundw
      case rel => exact ⟨.inr (.inl ⟨rfl, rfl⟩), trivial⟩
      case measure => simp [intOf] <;> omega
    · go_wp2_with fail
      go_roundw
      case rel => exact ⟨.inr (.inr ⟨rfl, by simp⟩), trivial⟩
      case measure => simp [intOf] <;> omega
    · go_wp2_with fail
      refine (growz_c _ (l.length + m.length) hL Zp).mono ?_; rintro e w1 ⟨v1, rfl, hO1, hx1⟩; have hg1 := hg.ext hx1
      have sl1 := Sl.keep sl (.of_ext hx1); have sm1 := Sl.keep sm (.of_ext hx1)
      have r1 := hO1.row; have hs1 := hx1.size; clear gr gl w2 n2
      go_wp2_with fail
      obtain ⟨V, rfl⟩ : ∃ V, V = wr := ⟨_, rfl⟩
      go_loopw [6, 27] (fun lv iv wz => ((iv = .int .i64 0 ∧ Own 2 EZ wz Zp V.heap.size 25 lv []) ∨ (iv = .int .i64 1 ∧ Own 2 EZ wz Zp V.heap.size 25 lv l) ∨ (iv = .int .i64 2 ∧ Own 2 EZ wz Zp V.heap.size 25 lv (l ++ m))) ∧ Ext V wz) (fun _ iv _ => 2 - (intOf iv).toNat)
      case atStart => exact ⟨.inl ⟨rfl, hO1⟩, hx1⟩
      case round =>
        obtain ⟨hcase, hxz⟩ := hrel; have hgz := hg.ext hxz
        have gr := hgz.rules; have gl := hgz.lt
        have sl1 := Sl.keep sl (.of_ext hxz); have sm1 := Sl.keep sm (.of_ext hxz)
        have hsz := hxz.size
        rcases hcase with ⟨rfl, hO⟩ | ⟨rfl, hO⟩ | ⟨rfl, hO⟩
        · have hrow := hO.row
          go_wp2_with (first
            | (at_builtin
               (refine wpList_appzs (.tmp 31) (.tmp 32) hO sl1 (fun q hq _ => ⟨hq, fun e => by have := (hrow _ e).1; have := hZ q hq; omega⟩) (by simp only [List.length_nil]; omega) (by omega) rfl rfl rfl rfl ?_)
               intro v2 w2 hO2 hg2 hv2)
            | fail)
          have hxx : Ext V w2 := hxz.grown hg2 (fun j hj => (hrow _ hj).1)
          go_roundw
          case rel => exact ⟨.inr (.inl ⟨rfl, by simpa using hO2⟩), hxx⟩
          case measure => simp [intOf] <;> omega
        · have hrow := hO.row
          go_wp2_with (first
            | (at_builtin
               (refine wpList_appzs (.tmp 31) (.tmp 32) hO sm1 (fun q hq _ => ⟨hq, fun e => by have := (hrow _ e).1; have := hZ q hq; omega⟩) (by omega) (by omega) rfl rfl rfl rfl ?_)
               intro v2 w2 hO2 hg2 hv2)
            | fail)
          have hxx : Ext V w2 := hxz.grown hg2 (fun j hj => (hrow _ hj).1)
          go_roundw
          case rel => exact ⟨.inr (.inr ⟨rfl, hO2⟩), hxx⟩
          case measure => simp [intOf] <;> omega
        · go_wp2_with fail
          go_ret
          exact ⟨_, rfl, hO, hxz⟩

end Go.Proofs.YtpkfjbljhneenaaGreat

namespace Go.Proofs.YtpkfjbljhneenaaGreat
open Go.RowKit Go.Shelf

set_option maxHeartbeats 400000 in
theorem cnum_c (n : Int) (hn : -9223372036854775808 ≤ n) (hn2 : n ≤ 9223372036854775807) (w : World) :
  Calls Tryz.prog 30 #[.int .i64 n] w fun e w' => ∃ r, e = .returned r ∧ Zi w' (w.heap.size ≤ ·) r (cz n) ∧ Ext w w' := by
 obtain ⟨z, hz⟩ : ∃ z, z = cz n := ⟨_, rfl⟩
 have hcall := fun (V : World) => zof_c n hn hn2 V
 rw [← hz] at hcall ⊢; clear hz
 go_enter Tryz.func30, Tryz.ntmps30
 go_wp2_with fail
 refine (hcall _).mono ?_; rintro e w1 ⟨r, rfl, ⟨A1, c1, rfl, h1⟩, hx⟩; have hc := hx.cells
 go_wp2_with fail
 (refine bodyPost_ret (v := ?_) ?_ rfl ?_; rotate_left; (simp only [results, Tryz.results30]; go_simp; (first | done | with_reducible rfl)))
 exact ⟨_, rfl, ⟨A1, c1, rfl, (h1.keep kpt).widen (fun b hb _ => by first | omega | (dsimp only at hb ⊢; omega) | (dsimp only at hb; omega) | (simp only [wsz] at hb ⊢; omega) | (simp only [wsz] at hb; omega))⟩, xt⟩

set_option maxHeartbeats 400000 in
theorem lnum_c (n : Int) (hn : -9223372036854775808 ≤ n) (hn2 : n ≤ 9223372036854775807) (w : World) :
  Calls Tryz.prog 26 #[.int .i64 n] w fun e w' => ∃ r, e = .returned r ∧ Zi w' (w.heap.size ≤ ·) r (cz n) ∧ Ext w w' := by
 obtain ⟨z, hz⟩ : ∃ z, z = cz n := ⟨_, rfl⟩
 have hcall := fun (V : World) => rof_c n hn hn2 V
 rw [← hz] at hcall ⊢; clear hz
 go_enter Tryz.func26, Tryz.ntmps26
 go_wp2_with fail
 refine (hcall _).mono ?_; rintro e w1 ⟨r, rfl, ⟨A1, c1, rfl, h1⟩, hx⟩; have hc := hx.cells
 go_wp2_with fail
 (refine bodyPost_ret (v := ?_) ?_ rfl ?_; rotate_left; (simp only [results, Tryz.results26]; go_simp; (first | done | with_reducible rfl)))
 exact ⟨_, rfl, ⟨A1, c1, rfl, (h1.keep kpt).widen (fun b hb _ => by first | omega | (dsimp only at hb ⊢; omega) | (dsimp only at hb; omega) | (simp only [wsz] at hb ⊢; omega) | (simp only [wsz] at hb; omega))⟩, xt⟩

set_option maxHeartbeats 400000 in
theorem less_c {u v : Value} {x y : Z} {w : World} {X Y : Nat → Prop} (hx : Zi w X u x) (hy : Zi w Y v y) :
  Calls Tryz.prog 31 #[u, v] w fun e w' => e = .returned (.bool (decide (x.v < y.v))) ∧ Ext w w' := by
 have hx0 := hx; have hy0 := hy
 have hc := fun (V : World) (hV : Ext w V) => zcmp_c (hx0.ext hV) (hy0.ext hV)
 have hd : decide (cmpI x.v y.v < 0) = decide (x.v < y.v) := by congr 1; exact propext cmpI_neg
 obtain ⟨cm, hcm⟩ : ∃ cm, cm = cmpI x.v y.v := ⟨_, rfl⟩; rw [← hcm] at hc hd; rw [← hd]; clear hd hcm; obtain ⟨A, c, rfl, _⟩ := hx; obtain ⟨B, d, rfl, _⟩ := hy
 go_enter Tryz.func31, Tryz.ntmps31
 go_wp2_with fail
 refine (hc _ xt).mono ?_; rintro e w1 ⟨rfl, hx1⟩
 go_wp2_with fail
 go_ret
 exact ⟨rfl, Ext.trans xt hx1⟩

set_option maxHeartbeats 800000 in
theorem plus_c {v : Value} {x : Z} {w : World} {X : Nat → Prop} (h : Zi w X v x) (hL : x.mag.length ≤ 1099511627775) (n : Int) (hn : -9223372036854775808 ≤ n) (hn2 : n ≤ 9223372036854775807) :
  Calls Tryz.prog 33 #[v, .int .i64 n] w fun e w' => ∃ r, e = .returned r ∧ Zi w' (w.heap.size ≤ ·) r (cz (x.v + n)) ∧ Ext w w' := by
 have hz := h; obtain ⟨zz, hzz⟩ : ∃ zz, zz = cz (x.v + n) := ⟨_, rfl⟩
 have hadd := fun (V : World) (v1 : Value) (Y : Nat → Prop) (hV : Ext w V) (h1 : Zi V Y v1 (cz n)) => zadd_c (hz.ext hV) h1 (by omega) (by rw [cz_len]; have := zl_word (x := n) (by omega); omega)
 rw [cz_v, ← hzz] at hadd; rw [← hzz]; obtain ⟨zn, hzn⟩ : ∃ zn, zn = cz n := ⟨_, rfl⟩
 have hnum := fun (V : World) => cnum_c n hn hn2 V
 rw [← hzn] at hadd hnum; clear hzz hzn; obtain ⟨A, c, rfl, h⟩ := h
 go_enter Tryz.func33, Tryz.ntmps33
 go_wp2_with fail
 refine wp_named fun W hW => ?_
 have b2 : Box W w.heap.size 25 #[.bool x.neg, .slice A x.mag.length c] := by rw [hW]; exact bxt
 have b4 : Box W (w.heap.size + 1) 25 #[.bool false, .slice none 0 0] := by rw [hW]; exact bxt
 have hE : Ext w W := by rw [hW]; exact xt
 clear hW
 have b2r := b2.rules; have b2l := b2.lt
 refine wp_region_late [(0, true), (1, true), (2, false), (3, false)] [4] rfl (by kernel_rfl) (by intro _ _ d _ _ h; cases d <;> exact h) ?_
 (repeat (refine sh_take (v := ?_) rfl rfl ?_ ?_; rotate_left; exact tk2; (try simp only [pt])))
 (refine sh_loud rfl rfl fun K hK => ?_; go_simp)
 refine (hnum _).mono ?_; rintro e w1 ⟨r1, rfl, h1, hx1⟩
 (refine hK _ _ xt ?_; clear hK K; (try simp only [pt]))
 (refine sh_loud rfl rfl fun K hK => ?_; go_simp)
 refine (hadd _ _ _ (hE.trans (Ext.trans (Ext.refl W).drew hx1)) h1).mono ?_; rintro e w2 ⟨r2, rfl, ⟨A2, c2, rfl, h2⟩, hx2⟩
 (refine hK _ _ xt ?_; clear hK K; (try simp only [pt]))
 refine sh_done ?_; have hx12 := hx1.trans hx2; have b42 := (b4.drew.ext hx12)
 have b42r := b42.rules; have b42l := b42.lt
 have hs := hE.size; have hs1 := hx1.size; have hs2 := hx2.size
 simp only [wsz] at hs1; clear b2r
 (refine sh_late rfl rfl fun K hK => ?_; go_simp; refine hK _ _ ?_; clear hK K)
 refine sh_end ?_
 refine x_named fun T hT => ?_
 have kT : Kp (fun b => w.heap.size + 1 < b) w2 T := by rw [hT]; exact kpt
 have bT : Box T (w.heap.size + 1) 25 #[.bool zz.neg, .slice A2 zz.mag.length c2] := by rw [hT]; exact (b42.set_ 0 _).set_ 1 _
 have hET : Ext w T := by
  rw [hT]; exact ((hE.trans (Ext.trans (Ext.refl W).drew hx12)).setCell (by dsimp only; omega) _).setCell (by dsimp only; omega) _
 clear hT b42r b42
 have bTr := bT.rules; have bTl := bT.lt
 have h2T := (h2.widen (Y := fun b => w.heap.size + 1 < b) fun b hb _ => by have := b4.lt; omega).keep kT
 go_wp2_with fail
 (refine bodyPost_ret (v := ?_) ?_ rfl ?_; rotate_left; (simp only [results, Tryz.results33]; go_simp; (first | done | with_reducible rfl)))
 exact ⟨_, rfl, ⟨A2, c2, rfl, h2T.widen fun b hb _ => by omega⟩, hET⟩

end Go.Proofs.YtpkfjbljhneenaaGreat

namespace Go.Proofs.YtpkfjbljhneenaaGreat
open Go.RowKit Go.Shelf

theorem zl_abs {x y : Int} (h : x.natAbs ≤ y.natAbs) : zl x ≤ zl y := by
 refine zl_le (Nat.lt_of_le_of_lt h ?_); have h1 := nv_lt (lb_lim y.natAbs)
 rwa [nv_lim] at h1
def nin (s : Ps) (a : Int) (k : Nat) : Nat := ((List.range k).filter fun i => s.has (a + (i : Nat))).length
theorem nin_step (s : Ps) (a : Int) (k : Nat) : nin s a (k + 1) = nin s a k + if s.has (a + (k : Nat)) then 1 else 0 := by
 rw [nin, List.range_succ, List.filter_append, List.length_append, nin]
 congr 1
 by_cases h : s.has (a + (k : Nat)) <;> simp [h]
theorem nin_le (s : Ps) (a : Int) : ∀ k, nin s a k ≤ k
 | 0 => Nat.le_refl _
 | k + 1 => by
  have := nin_le s a k; rw [nin_step]
  split <;> omega
def partV (s : Ps) (a n : Int) : Int := n / (s.per : Int) * (nin s a s.per : Nat) + (nin s a (n % (s.per : Int)).toNat : Nat)

set_option maxRecDepth 100000 in
set_option maxHeartbeats 3200000 in
theorem part_c {g N : Nat} {s : Ps} {w : World} {X Y Z' : Nat → Prop} {u v : Value} {a n : Z} (hs : SetV w X g s) (hsk : s.ok N) (ha : Zi w Y u a) (hn : Zi w Z' v n) (hn0 : 0 ≤ n.v) (hLa : a.mag.length ≤ 1099511627774) (hLn : n.mag.length ≤ 549755813887) :
  Calls Tryz.prog 35 #[.pointer (some ⟨g, 0, none⟩), u, v] w fun e w' => ∃ r, e = .returned r ∧ Zi w' (w.heap.size ≤ ·) r (cz (partV s a.v n.v)) ∧ Ext w w' := by
 have p0 := hsk.per0; have p1 := hsk.per1
 have hai := ha; have hni := hn
 have hpc := fun (V : World) (hV : Ext w V) => period_set_c (hs.ext hV)
 obtain ⟨p, hp⟩ : ∃ p, p = s.per := ⟨_, rfl⟩; have hpV : Hid (partV s a.v n.v = n.v / (p : Int) * (nin s a.v p : Nat) + (nin s a.v (n.v % (p : Int)).toNat : Nat)) := Lib.hid (by rw [hp]; rfl); rw [← hp] at p0 p1 hpc; obtain ⟨A, c, rfl, ha⟩ := ha; obtain ⟨B, d, rfl, hn⟩ := hn; clear hp
 go_enter Tryz.func35, Tryz.ntmps35
 go_wp2_with fail
 refine (hpc _ xt).mono ?_; rintro e w1 ⟨rfl, hx1⟩
 (have b4 := Box.ext (g := w.heap.size) bxt hx1; have b4r := b4.rules; have b4l := b4.lt)
 (have b5 := Box.ext (g := w.heap.size + 1) bxt hx1; have b5r := b5.rules; have b5l := b5.lt)
 (have b6 := Box.ext (g := w.heap.size + 1 + 1) bxt hx1; have b6r := b6.rules; have b6l := b6.lt)
 have hE : Ext w w1 := xt; have hwl := hE.size; clear b4r b6r hpc
 go_wp2_with fail
 refine wp_region_free [(0, 19, []), (1, 20, []), (2, 21, [(1, 20)]), (3, 22, [(0, 19), (2, 21)]), (4, 18, [(3, 22)]), (5, 23, [(4, 18)]), (6, 24, [(4, 18)]), (7, 25, [(4, 18)]), (8, 8, []), (9, 9, [])] [10, 11, 12] [19, 20, 21, 22, 18, 23, 24, 25, 8, 9] [8, 9] [6, 7] [phiEq (.agg #[.bool n.neg, .slice B n.mag.length d]), phiEq (.int .i64 (p : Int)), phiZ (fun _ => True) (cz p), ⟨_, phi_left (X := fun _ => True) (q := n.v / p) (r := n.v % p)⟩, ⟨_, phi_left (X := fun _ => True) (q := n.v / p) (r := n.v % p)⟩,
  phiZ (fun _ => True) (cz (n.v / p)), phiZ (fun _ => True) (cz (n.v % p)), phiEq (.int .i64 0), phiBox w1.heap.size 25 #[.bool false, .slice none 0 0], phiBox w1.heap.size 25 #[.bool false, .slice none 0 0]] rfl (by kernel_rfl) (by intro _ _ d _ _ h; cases d <;> exact h) (by kernel_rfl) (by kernel_rfl) ?_ ?_
 ·have hcb : w1.cell? ⟨w.heap.size + 1, 0, none⟩ = some (.bool n.neg) := by rw [b5.cell]; rfl
  have hcb1 : w1.cell? ⟨w.heap.size + 1, 1, none⟩ = some (.slice B n.mag.length d) := by rw [b5.cell]; rfl
  (refine ps_eq rfl rfl rfl rfl rfl rfl ?_ ?_; focus exact tk0)
  (refine ps_eq rfl rfl rfl rfl rfl rfl ?_ ?_; focus exact tk0)
  (refine ps_loud rfl rfl rfl rfl rfl (fun f w1 hx hd K hK => ?_) ?_)
  ·(have hc' := hx.cells.1; (try simp only [wcd] at hc'); (dsimp only [PhiDeps, phiAt, phiEq, phiZ, phiAny, phiBox] at hd); simp only [fillA, Act.put, List.setIfInBounds_toArray, List.set_cons_zero, List.set_cons_succ] at hK; (simp only [fillA]; (try simp only [pt])); (try simp only [hd] at hK ⊢); go_simp)
   refine (cnum_c (p : Int) (by omega) (by omega) _).mono ?_; rintro e w2 ⟨r, rfl, hr, hx2⟩
   (refine hK _ _ xt ?_; dsimp only [phiAt, phiEq, phiZ, phiAny, phiBox])
   exact hr.widen fun _ _ _ => trivial
  (refine ps_loud rfl rfl rfl rfl rfl (fun f w1 hx hd K hK => ?_) ?_)
  ·(have hc' := hx.cells.1; (try simp only [wcd] at hc'); (dsimp only [PhiDeps, phiAt, phiEq, phiZ, phiAny, phiBox] at hd); simp only [fillA, Act.put, List.setIfInBounds_toArray, List.set_cons_zero, List.set_cons_succ] at hK; (simp only [fillA]; (try simp only [pt])); (try simp only [hd] at hK ⊢); go_simp)
   refine (zdiv_c (P := p) (hni.ext (hE.trans xt)) hd.2.1 (by rw [cz_v]) p0 (by omega) (by omega) (by rw [cz_len]; have := zl_word (x := (p : Int)) (by omega); omega)).mono ?_; rintro e w2 ⟨q, r, rfl, hq, hr, hx2⟩
   (refine hK _ _ xt ?_; dsimp only [phiAt, phiEq, phiZ, phiAny, phiBox])
   exact ⟨q, r, rfl, hq.widen fun _ _ _ => trivial, hr.widen fun _ _ _ => trivial⟩
  refine ps_take rfl rfl rfl rfl rfl ?_ ?_
  ·intro f w1 hx hd
   (dsimp only [PhiDeps, phiAt, phiEq, phiZ, phiAny, phiBox] at hd)
   refine ⟨f 22, ?_, hd.1⟩
   (simp only [fillA]; (try simp only [pt]))
   go_simp
  refine ps_take rfl rfl rfl rfl rfl ?_ ?_
  ·intro f w1 hx hd
   (dsimp only [PhiDeps, phiAt, phiEq, phiZ, phiAny, phiBox] at hd)
   obtain ⟨⟨a, b, e, h1, h2⟩, -⟩ := hd; refine ⟨a, ?_, h1⟩
   (simp only [fillA]; (try simp only [pt]))
   simp only [e]
   go_simp
  refine ps_pure rfl rfl rfl rfl ?_ ?_
  ·intro f w1 hx hd
   (dsimp only [PhiDeps, phiAt, phiEq, phiZ, phiAny, phiBox] at hd)
   obtain ⟨⟨a, b, e, h1, h2⟩, -⟩ := hd; refine ⟨b, ?_, h2⟩; intro w'
   (simp only [fillA]; (try simp only [pt]))
   simp only [e]
   go_simp
  refine ps_peq rfl rfl rfl rfl rfl ?_ ?_
  ·intro f w1 hx hd w'
   (dsimp only [PhiDeps, phiAt, phiEq, phiZ, phiAny, phiBox] at hd)
   obtain ⟨⟨a, b, e, h1, h2⟩, -⟩ := hd
   (simp only [fillA]; (try simp only [pt]))
   simp only [e]
   go_simp
  (refine ps_alloc rfl rfl rfl rfl rfl ?_ (by repeat (first | exact ab_nil | refine ab_cons rfl ?_)) ?_ ?_; (focus (first | omega | (simp only [wsz]; done) | (simp only [wsz]; omega))); (focus (intro f w1; (simp only [fillA]; (try simp only [pt])); go_simp; try (with_reducible rfl))))
  (refine ps_alloc rfl rfl rfl rfl rfl ?_ (by repeat (first | exact ab_nil | refine ab_cons rfl ?_)) ?_ ?_; (focus (first | omega | (simp only [wsz]; done) | (simp only [wsz]; omega))); (focus (intro f w1; (simp only [fillA]; (try simp only [pt])); go_simp; try (with_reducible rfl))))
  exact ps_nil
 ·intro f w2 hx hall hne
  (dsimp only [PhiAll, phiAt, phiEq, phiZ, phiAny, phiBox] at hall)
  obtain ⟨f11, f12, f13, f14, f10, ⟨aq, cq, eq, hq⟩, ⟨ar, cr, er, hr⟩, f17, ⟨g5, e5, l5, x5⟩, ⟨g6, e6, l6, x6⟩, -⟩ := hall
  (simp only [fillA]; (try simp only [pt]))
  simp only [f11, f12, f17, eq, er, e5, e6]
  have hne56 : g6 ≠ g5 := fun e => hne (8, 8, []) (by simp) (9, 9, []) (by simp) rfl rfl (by decide) (by rw [e5, e6, e])
  have x5r := x5.rules; have x5l := x5.lt
  have x6r := x6.rules; have x6l := x6.lt
  obtain ⟨q, hqe⟩ : ∃ q, q = n.v / (p : Int) := ⟨_, rfl⟩; have hlt := Int.emod_lt_of_pos n.v (show (0 : Int) < (p : Int) by omega); have hge := Int.emod_nonneg n.v (show (p : Int) ≠ 0 by omega); obtain ⟨m, hm⟩ : ∃ m : Nat, (m : Int) = n.v % (p : Int) := ⟨(n.v % (p : Int)).toNat, by omega⟩; rw [← hm] at hr hlt hpV ⊢; rw [← hqe] at hq hpV ⊢
  have hq0 : 0 ≤ q := by rw [hqe]; exact Int.ediv_nonneg hn0 (by omega)
  have hqz : zl q ≤ n.mag.length := by
   refine Nat.le_trans (zl_abs ?_) (zl_of hn.lb); have h2 := Int.ediv_le_self (p : Int) hn0; rw [← hqe] at h2
   omega
  have hmp : m < p := by omega
  clear hqe hm hge hlt hne
  (refine sh_late rfl rfl fun K hK => ?_; go_simp; refine hK _ _ ?_; clear hK K)
  (refine sh_late rfl rfl fun K hK => ?_; go_simp; refine hK _ _ ?_; clear hK K)
  (refine sh_late rfl rfl fun K hK => ?_; go_simp; refine hK _ _ ?_; clear hK K)
  refine sh_end ?_
  refine x_named fun V hV => ?_
  have u5 : Box V g5 25 #[.bool (cz q).neg, .slice aq (cz q).mag.length cq] := by rw [hV]; exact (((x5.set_ 0 _).set_ 1 _).far (by simp only; omega) _).far (by simp only; omega) _
  have u6 : Box V g6 25 #[.bool (cz (m : Int)).neg, .slice ar (cz (m : Int)).mag.length cr] := by rw [hV]; exact (((x6.far hne56 _).far hne56 _).set_ 0 _).set_ 1 _
  have hE1V : Ext w1 V := by
   rw [hV]; have h1 := Ext.trans (Ext.refl w1).drew hx; exact (((h1.setCell (by simp only; omega) _).setCell (by simp only; omega) _).setCell (by simp only; omega) _).setCell (by simp only; omega) _
  have hq2 : Nl V (fun _ => True) aq cq (cz q).mag := by
   rw [hV]
   refine (Nl.keep ((hq.off x5 (by simp)).off x6 (by simp)) ?_).widen fun _ _ _ => trivial
   exact ((((Kp.refl w2).setCell (fun h => h.1.2 rfl) _).setCell (fun h => h.1.2 rfl) _).setCell (fun h => h.2 rfl) _).setCell (fun h => h.2 rfl) _
  have hr2 : Nl V (fun _ => True) ar cr (cz (m : Int)).mag := by
   rw [hV]
   refine (Nl.keep ((hr.off x5 (by simp)).off x6 (by simp)) ?_).widen fun _ _ _ => trivial
   exact ((((Kp.refl w2).setCell (fun h => h.1.2 rfl) _).setCell (fun h => h.1.2 rfl) _).setCell (fun h => h.2 rfl) _).setCell (fun h => h.2 rfl) _
  clear hV x5r x6r x5l x6l b5r
  have u6r := u6.rules; have u6l := u6.lt
  have hr64 : i64 (m : Int) := ⟨by omega, by omega⟩
  have hi64 := fun (U : World) (hU : Ext V U) => zint64_c (z := cz (m : Int)) (⟨_, _, rfl, hr2.ext hU⟩ : Zi U (fun _ => True) (.agg #[.bool (cz (m : Int)).neg, .slice ar (cz (m : Int)).mag.length cr]) (cz (m : Int))) (by rw [cz_len]; have := zl_word (x := (m : Int)) (by omega); omega)
  rw [cz_v, (i64_in hr64).1, (i64_in hr64).2] at hi64; obtain ⟨zm, hzm⟩ : ∃ zm, zm = cz (m : Int) := ⟨_, rfl⟩; rw [← hzm] at hi64 u6 u6r; clear hzm hr2 hr64 hr
  go_wp2_with fail
  refine (hi64 _ xt).mono ?_; rintro e w3 ⟨rfl, hx3⟩; clear hi64 u6r u6 u6l; obtain ⟨sg, hsg⟩ : ∃ sg, sg = sgn q := ⟨_, rfl⟩
  have hsign := fun (U : World) (hU : Ext V U) => zsign_c (z := cz q) (⟨_, _, rfl, hq2.ext hU⟩ : Zi U (fun _ => True) (.agg #[.bool (cz q).neg, .slice aq (cz q).mag.length cq]) (cz q))
  rw [cz_v, ← hsg] at hsign; have Hsg := Lib.hid hsg; clear hsg; have hEV := hE.trans hE1V
  have hplus := fun (U : World) (hU : Ext V U) (i : Nat) (hi : i < 4096) => plus_c (hai.ext (hEV.trans hU)) (by omega) (i : Int) (by omega) (by omega)
  have hLp : ∀ i : Nat, i < 4096 → (cz (a.v + (i : Nat))).mag.length ≤ 1099511627776 := fun i hi => by
   rw [cz_len]; have h1 : zl a.v ≤ 1099511627774 := Nat.le_trans (zl_of ha.lb) hLa; have h2 : zl (i : Int) ≤ 1099511627774 := Nat.le_trans (zl_word (by omega)) (by omega); have := zl_add h1 h2
   omega
  have hhas := fun (U : World) (hU : Ext V U) (i : Nat) (hi : i < 4096) (r : Value) (h : Zi U (fun _ => True) r (cz (a.v + (i : Nat)))) => has_c (hs.ext (hEV.trans hU)) hsk h (hLp i hi)
  simp only [cz_v] at hhas
  have hmul := fun (U : World) (hU : Ext V U) (r : Value) (k : Nat) (hk : k ≤ 4096) (h : Zi U (fun _ => True) r (cz (k : Nat))) => zmul_c (⟨_, _, rfl, hq2.ext hU⟩ : Zi U (fun _ => True) (.agg #[.bool (cz q).neg, .slice aq (cz q).mag.length cq]) (cz q)) h (by rw [cz_len]; omega) (by rw [cz_len]; have := zl_word (x := (k : Int)) (by omega); omega)
  simp only [cz_v] at hmul; obtain ⟨zq, hzq⟩ : ∃ zq, zq = cz q := ⟨_, rfl⟩; rw [← hzq] at hq2 hmul hsign u5 ⊢; have HZQ := Lib.hid hzq; clear hzq
  have HH := Lib.hid hhas; have HPl := Lib.hid hplus; have HM := Lib.hid hmul; have HSg := Lib.hid hsign
  have hp4 : p ≤ 4096 := p1
  have b4V := b4.ext hE1V; have b6V := b6.ext hE1V
  clear hhas hplus hmul hsign hLp hs hLa hai hni b5 hE hE1V hx hx1
  go_wp2_with fail
  go_loopw [13, 14, 32] (fun rv mv iv wr => ∃ i : Nat, i ≤ p ∧ iv = .int .i64 i ∧ rv = .int .i64 (nin s a.v i : Nat) ∧ mv = .int .i64 (nin s a.v (Nat.min i m) : Nat) ∧ Ext V wr) (fun _ _ iv _ => p - (intOf iv).toNat)
  case atStart => exact ⟨0, Nat.zero_le _, rfl, by simp [nin], by simp [nin], hx3⟩
  case round =>
   obtain ⟨i, hi, rfl, rfl, rfl, hxr⟩ := hrel; obtain ⟨rd, hrd⟩ : ∃ rd, rd = nin s a.v i := ⟨_, rfl⟩; obtain ⟨md, hmd⟩ : ∃ md, md = nin s a.v (Nat.min i m) := ⟨_, rfl⟩
   have hrl : rd ≤ 4096 := by rw [hrd]; exact Nat.le_trans (nin_le s a.v i) (by omega)
   have hml : md ≤ 4096 := by rw [hmd]; exact Nat.le_trans (nin_le s a.v _) (Nat.le_trans (Nat.min_le_left _ _) (by omega))
   rw [← hrd, ← hmd]
   have HRD := Lib.hid hrd; have HMD := Lib.hid hmd
   clear hrd hmd
   have c5 := u5.ext hxr; have c4 := b4V.ext hxr
   have c5r := c5.rules; have c5l := c5.lt
   have c4r := c4.rules; have c4l := c4.lt
   have iw := w64n (n := i) (by omega); have rw1 := w64n (n := rd) (by omega); have mw1 := w64n (n := md) (by omega)
   by_cases hgo : i < p ∧ (i < m ∨ ¬ sg = 0)
   ·obtain ⟨hlt, hor⟩ := hgo
    have il : (i : Int) < (p : Int) := by omega
    obtain ⟨hb, hhb⟩ : ∃ hb, hb = s.has (a.v + (i : Nat)) := ⟨_, rfl⟩
    have hcall1 := fun (U : World) (hU : Ext wr U) => HPl.out U (hxr.trans hU) i (by omega)
    have hcall2 := fun (U : World) (hU : Ext wr U) (r : Value) (h : Zi U (fun _ => True) r (cz (a.v + (i : Nat)))) => HH.out U (hxr.trans hU) i (by omega) r h
    have hcall0 := HSg.out; simp only [← hhb] at hcall2; have HB := Lib.hid hhb; have hnext : Hid (rd + (if hb then 1 else 0) = nin s a.v (i + 1)) := Lib.hid (by rw [nin_step, ← hhb, HRD.out]); obtain ⟨za, hza⟩ : ∃ za, za = cz (a.v + (i : Nat)) := ⟨_, rfl⟩; simp only [← hza] at hcall1 hcall2; clear hhb hza
    have hm2 : Hid (md + (if (hb && decide (i < m)) then 1 else 0) = nin s a.v (Nat.min (i + 1) m)) := Lib.hid (by
     by_cases him : i < m
     ·have e1 : Nat.min (i + 1) m = i + 1 := Nat.min_eq_left (by omega); have e2 : Nat.min i m = i := Nat.min_eq_left (by omega); rw [e1, nin_step, ← HB.out, HMD.out, e2]; simp [him]
     ·have e1 : Nat.min (i + 1) m = m := Nat.min_eq_right (by omega); have e2 : Nat.min i m = m := Nat.min_eq_right (by omega); rw [e1, HMD.out, e2]
      simp [him])
    have h3 : (i < m ∧ sg = 0) ∨ (i < m ∧ ¬ sg = 0) ∨ (¬ i < m ∧ ¬ sg = 0) := by omega
    clear hor
    rcases h3 with ⟨him, hs0⟩ | ⟨him, hs0⟩ | ⟨him, hs0⟩
    ·have hs0' : (sg == 0) = true := by rw [hs0]; rfl
     have him' := Lib.hid him
     have i1 : (i : Int) < (m : Int) := by omega
     have i2 : ¬ (m : Int) ≤ (i : Int) := by omega
     clear hs0 him
     go_wp2_with fail
     refine (hcall0 _ (hxr.trans xt)).mono ?_; rintro e w4 ⟨rfl, hx4⟩; have hx4' : Ext wr w4 := xt; have d4 := c4.ext hx4'
     have d4r := d4.rules; have d4l := d4.lt
     clear c5r c4r
     go_wp2_with fail
     refine (hcall1 _ hx4').mono ?_; rintro e w5 ⟨r5, rfl, hr5, hx5⟩; have hx5' := hx4'.trans hx5; clear d4r
     go_wp2_with fail
     refine (hcall2 _ hx5' _ (hr5.widen fun _ _ _ => trivial)).mono ?_; rintro e w6 ⟨rfl, hx6⟩; have hx6' := hxr.trans (hx5'.trans hx6)
     cases hb
     ·go_wp2_with fail
      go_roundw
      case rel => exact ⟨i + 1, by omega, by go_num, by rw [← hnext.out]; simp, by rw [← hm2.out]; simp, hx6'.trans xt⟩
      case measure => simp [intOf] <;> omega
     ·go_wp2_with fail
      go_roundw
      case rel => exact ⟨i + 1, by omega, by go_num, by rw [← hnext.out]; simp, by rw [← hm2.out]; simp [him'.out], hx6'.trans xt⟩
      case measure => simp [intOf] <;> omega
    ·have hs0' : (sg == 0) = false := by rw [beq_eq_false_iff_ne]; exact hs0
     have him' := Lib.hid him
     have i1 : (i : Int) < (m : Int) := by omega
     have i2 : ¬ (m : Int) ≤ (i : Int) := by omega
     clear hs0 him
     go_wp2_with fail
     refine (hcall0 _ (hxr.trans xt)).mono ?_; rintro e w4 ⟨rfl, hx4⟩; have hx4' : Ext wr w4 := xt; have d4 := c4.ext hx4'
     have d4r := d4.rules; have d4l := d4.lt
     clear c5r c4r
     go_wp2_with fail
     refine (hcall1 _ hx4').mono ?_; rintro e w5 ⟨r5, rfl, hr5, hx5⟩; have hx5' := hx4'.trans hx5; clear d4r
     go_wp2_with fail
     refine (hcall2 _ hx5' _ (hr5.widen fun _ _ _ => trivial)).mono ?_; rintro e w6 ⟨rfl, hx6⟩; have hx6' := hxr.trans (hx5'.trans hx6)
     cases hb
     ·go_wp2_with fail
      go_roundw
      case rel => exact ⟨i + 1, by omega, by go_num, by rw [← hnext.out]; simp, by rw [← hm2.out]; simp, hx6'.trans xt⟩
      case measure => simp [intOf] <;> omega
     ·go_wp2_with fail
      go_roundw
      case rel => exact ⟨i + 1, by omega, by go_num, by rw [← hnext.out]; simp, by rw [← hm2.out]; simp [him'.out], hx6'.trans xt⟩
      case measure => simp [intOf] <;> omega
    ·have hs0' : (sg == 0) = false := by rw [beq_eq_false_iff_ne]; exact hs0
     have him' := Lib.hid him
     have i1 : ¬ (i : Int) < (m : Int) := by omega
     clear hs0 him
     go_wp2_with fail
     refine (hcall0 _ (hxr.trans xt)).mono ?_; rintro e w4 ⟨rfl, hx4⟩; have hx4' : Ext wr w4 := xt; have d4 := c4.ext hx4'
     have d4r := d4.rules; have d4l := d4.lt
     clear c5r c4r
     go_wp2_with fail
     refine (hcall1 _ hx4').mono ?_; rintro e w5 ⟨r5, rfl, hr5, hx5⟩; have hx5' := hx4'.trans hx5; clear d4r
     go_wp2_with fail
     refine (hcall2 _ hx5' _ (hr5.widen fun _ _ _ => trivial)).mono ?_; rintro e w6 ⟨rfl, hx6⟩; have hx6' := hxr.trans (hx5'.trans hx6)
     cases hb
     ·go_wp2_with fail
      go_roundw
      case rel => exact ⟨i + 1, by omega, by go_num, by rw [← hnext.out]; simp, by rw [← hm2.out]; simp, hx6'.trans xt⟩
      case measure => simp [intOf] <;> omega
     ·go_wp2_with fail
      go_roundw
      case rel => exact ⟨i + 1, by omega, by go_num, by rw [← hnext.out]; simp, by rw [← hm2.out]; simp [him'.out], hx6'.trans xt⟩
      case measure => simp [intOf] <;> omega
   ·have hex : (¬ i < p) ∨ (i < p ∧ sg = 0 ∧ ¬ i < m) := by omega
    clear hgo
    rcases hex with hip | ⟨hip, hs0, him⟩
    ·have hF : q * (rd : Int) + (md : Int) = partV s a.v n.v := by
      have e1 : i = p := by omega
      have e2 : Nat.min i m = m := Nat.min_eq_right (by omega); rw [hpV.out, HRD.out, HMD.out, e2, e1]; simp
     have HF := Lib.hid hF; clear hF
     have il : ¬ (i : Int) < (p : Int) := by omega
     go_wp2_with fail
     obtain ⟨U, hUe⟩ : ∃ U, U = wr := ⟨_, rfl⟩
     have hU : Ext wr U := by rw [hUe]; exact Ext.refl _
     rw [← hUe]; have f5 := c5.ext hU
     have f5r := f5.rules; have f5l := f5.lt
     clear c5r c4r hUe; refine wp_region_late [(0, true), (1, true), (4, true), (2, false), (3, false), (5, false)] [6] rfl (by kernel_rfl) (by intro _ _ d _ _ h; cases d <;> exact h) ?_
     (repeat (refine sh_take (v := ?_) rfl rfl ?_ ?_; rotate_left; exact tk2; (try simp only [pt])))
     (refine sh_loud rfl rfl fun K hK => ?_; go_simp)
     refine (cnum_c (rd : Int) (by omega) (by omega) _).mono ?_; rintro e w7 ⟨r7, rfl, hr7, hx7⟩
     (refine hK _ _ xt ?_; clear hK K; (try simp only [pt]))
     (refine sh_loud rfl rfl fun K hK => ?_; go_simp)
     have hxU7 : Ext U w7 := xt; refine (HM.out _ ((hxr.trans hU).trans hxU7) _ rd hrl (hr7.widen fun _ _ _ => trivial)).mono ?_; rintro e w8 ⟨r8, rfl, hr8, hx8⟩
     (refine hK _ _ xt ?_; clear hK K; (try simp only [pt]))
     (refine sh_loud rfl rfl fun K hK => ?_; go_simp)
     refine (plus_c hr8 (by rw [cz_len]; have := zl_mul q (rd : Int); have := zl_word (x := (rd : Int)) (by omega); omega) (md : Int) (by omega) (by omega)).mono ?_; rw [cz_v, HF.out]; rintro e w9 ⟨r9, rfl, hr9, hx9⟩
     (refine hK _ _ xt ?_; clear hK K; (try simp only [pt]))
     refine sh_done ?_; have hxU9 := (hxU7.trans hx8).trans hx9; have hV9 := (hxr.trans hU).trans hxU9; have d6 := b6V.ext hV9
     have d6r := d6.rules; have d6l := d6.lt
     have hs9 := (hxU7.trans hx8).size; have hsU := ((hxr.trans hU)).size; have hE9 := hEV.trans hV9; obtain ⟨zp, hzp⟩ : ∃ zp, zp = cz (partV s a.v n.v) := ⟨_, rfl⟩; rw [← hzp] at hr9; have HZP := Lib.hid hzp; obtain ⟨A9, c9, rfl, h9⟩ := hr9; clear f5r hzp
     (refine sh_late rfl rfl fun K hK => ?_; go_simp; refine hK _ _ ?_; clear hK K)
     refine sh_end ?_
     refine x_named fun T hT => ?_
     have kT : Kp (fun b => w.heap.size + 1 + 1 < b) w9 T := by rw [hT]; exact kpt
     have bT : Box T (w.heap.size + 1 + 1) 25 #[.bool zp.neg, .slice A9 zp.mag.length c9] := by rw [hT]; exact (d6.set_ 0 _).set_ 1 _
     have hET : Ext w T := by
      rw [hT]; exact (hE9.setCell (by dsimp only; omega) _).setCell (by dsimp only; omega) _
     clear hT d6r d6
     have bTr := bT.rules; have bTl := bT.lt
     have h9T := (h9.widen (Y := fun b => w.heap.size + 1 + 1 < b) fun b hb _ => by have := b6V.lt; omega).keep kT
     go_wp2_with fail
     (refine bodyPost_ret (v := ?_) ?_ rfl ?_; rotate_left; (simp only [results, Tryz.results35]; go_simp; (first | done | with_reducible rfl)))
     refine ⟨_, rfl, ?_, hET⟩; rw [← HZP.out]; exact ⟨A9, c9, rfl, h9T.widen fun b hb _ => by omega⟩
    ·have hF : q * (rd : Int) + (md : Int) = partV s a.v n.v := by
      have e1 : q = 0 := sgn_zero.1 (by rw [← Hsg.out]; exact hs0); have e2 : Nat.min i m = m := Nat.min_eq_right (by omega); rw [hpV.out, HMD.out, e2, e1]; simp
     have HF := Lib.hid hF
     have hs0' : (sg == 0) = true := by rw [hs0]; rfl
     have il : (i : Int) < (p : Int) := by omega
     have i2 : (m : Int) ≤ (i : Int) := by omega
     clear hF hs0
     go_wp2_with fail
     refine (HSg.out _ (hxr.trans xt)).mono ?_; rintro e U ⟨rfl, hU0⟩; have hU : Ext wr U := xt; have f5 := c5.ext hU
     have f5r := f5.rules; have f5l := f5.lt
     clear c5r c4r
     go_wp2_with fail
     refine wp_region_late [(0, true), (1, true), (4, true), (2, false), (3, false), (5, false)] [6] rfl (by kernel_rfl) (by intro _ _ d _ _ h; cases d <;> exact h) ?_
     (repeat (refine sh_take (v := ?_) rfl rfl ?_ ?_; rotate_left; exact tk2; (try simp only [pt])))
     (refine sh_loud rfl rfl fun K hK => ?_; go_simp)
     refine (cnum_c (rd : Int) (by omega) (by omega) _).mono ?_; rintro e w7 ⟨r7, rfl, hr7, hx7⟩
     (refine hK _ _ xt ?_; clear hK K; (try simp only [pt]))
     (refine sh_loud rfl rfl fun K hK => ?_; go_simp)
     have hxU7 : Ext U w7 := xt; refine (HM.out _ ((hxr.trans hU).trans hxU7) _ rd hrl (hr7.widen fun _ _ _ => trivial)).mono ?_; rintro e w8 ⟨r8, rfl, hr8, hx8⟩
     (refine hK _ _ xt ?_; clear hK K; (try simp only [pt]))
     (refine sh_loud rfl rfl fun K hK => ?_; go_simp)
     refine (plus_c hr8 (by rw [cz_len]; have := zl_mul q (rd : Int); have := zl_word (x := (rd : Int)) (by omega); omega) (md : Int) (by omega) (by omega)).mono ?_; rw [cz_v, HF.out]; rintro e w9 ⟨r9, rfl, hr9, hx9⟩
     (refine hK _ _ xt ?_; clear hK K; (try simp only [pt]))
     refine sh_done ?_; have hxU9 := (hxU7.trans hx8).trans hx9; have hV9 := (hxr.trans hU).trans hxU9; have d6 := b6V.ext hV9
     have d6r := d6.rules; have d6l := d6.lt
     have hs9 := (hxU7.trans hx8).size; have hsU := ((hxr.trans hU)).size; have hE9 := hEV.trans hV9; obtain ⟨zp, hzp⟩ : ∃ zp, zp = cz (partV s a.v n.v) := ⟨_, rfl⟩; rw [← hzp] at hr9; have HZP := Lib.hid hzp; obtain ⟨A9, c9, rfl, h9⟩ := hr9; clear f5r hzp
     (refine sh_late rfl rfl fun K hK => ?_; go_simp; refine hK _ _ ?_; clear hK K)
     refine sh_end ?_
     refine x_named fun T hT => ?_
     have kT : Kp (fun b => w.heap.size + 1 + 1 < b) w9 T := by rw [hT]; exact kpt
     have bT : Box T (w.heap.size + 1 + 1) 25 #[.bool zp.neg, .slice A9 zp.mag.length c9] := by rw [hT]; exact (d6.set_ 0 _).set_ 1 _
     have hET : Ext w T := by
      rw [hT]; exact (hE9.setCell (by dsimp only; omega) _).setCell (by dsimp only; omega) _
     clear hT d6r d6
     have bTr := bT.rules; have bTl := bT.lt
     have h9T := (h9.widen (Y := fun b => w.heap.size + 1 + 1 < b) fun b hb _ => by have := b6V.lt; omega).keep kT
     go_wp2_with fail
     (refine bodyPost_ret (v := ?_) ?_ rfl ?_; rotate_left; (simp only [results, Tryz.results35]; go_simp; (first | done | with_reducible rfl)))
     refine ⟨_, rfl, ?_, hET⟩; rw [← HZP.out]; exact ⟨A9, c9, rfl, h9T.widen fun b hb _ => by omega⟩

end Go.Proofs.YtpkfjbljhneenaaGreat

namespace Go.Proofs.YtpkfjbljhneenaaGreat
open Go.RowKit Go.Shelf

theorem Own.onez {w : World} {Zp : Nat → Prop} {base : Nat} {t : TypeId} {A : Option Addr} {c : Nat} {z : Z} (hb : base ≤ w.heap.size) (h : Nl w (fun b => Zp b ∧ b ≠ w.heap.size) A c z.mag) :
    Own 2 EZ (w.alloc (.cells #[.bool z.neg, .slice A z.mag.length c] t)) Zp base t (.slice (some ⟨w.heap.size, 0, none⟩) 1 1) [z] := by
  refine ⟨[.bool z.neg, .slice A z.mag.length c], ⟨by simp, .inr ⟨w.heap.size, 1, #[.bool z.neg, .slice A z.mag.length c], rfl, hb, heap_alloc_new w _, by simp, by simp [maxLen], by simp, by simp⟩⟩, Fl.one ⟨A, c, rfl, ?_⟩ rfl⟩
  exact (h.keep ((Kp.refl w).alloc _)).widen fun b hb _ => ⟨hb.1, fun e => hb.2 (by injection e with e; exact e.symm)⟩

theorem Own.offz {w : World} {Zp : Nat → Prop} {base g : Nat} {e t : TypeId} {v : Value} {l : List Z} {cs : Array Value} (h : Own 2 EZ w Zp base e v l) (hb : Box w g t cs) (hcs : ∀ u ∈ cs.toList, ∀ x, u ≠ .int .u32 x) : Own 2 EZ w (fun b => Zp b ∧ b ≠ g) base e v l := by
  obtain ⟨xs, h1, h2⟩ := h; refine ⟨xs, h1, h2.1, fun i hi => ?_⟩; obtain ⟨A, c, e1, h3⟩ := h2.2 i hi; exact ⟨A, c, e1, (Nl.off h3 hb hcs).widen fun b hb _ => ⟨⟨hb.1.1, hb.2⟩, hb.1.2⟩⟩

def stpsF (lo e : Z) (l : List Z) : List Z := l.filter fun c => decide (lo.v < c.v) && decide (c.v < e.v)
def stps (s : Ps) (lo e : Z) : List Z := lo :: (stpsF lo e s.cuts ++ [e])

set_option maxRecDepth 100000 in
set_option maxHeartbeats 3200000 in
theorem stops_c {g N : Nat} {s : Ps} {w : World} {X Y Y' : Nat → Prop} {u v : Value} {lo en : Z} (hs : SetV w X g s) (hsk : s.ok N) (hN : N ≤ 1099511627776) (hlo : Zi w Y u lo) (hen : Zi w Y' v en) :
    Calls Tryz.prog 32 #[.pointer (some ⟨g, 0, none⟩), u, v] w fun e w' => ∃ r, e = .returned r ∧ Own 2 EZ w' (fun _ => True) w.heap.size 25 r (stps s lo en) ∧ Ext w w' := by
  have hcl := hsk.len
  have hcu := fun (V : World) (hV : Ext w V) => cuts_c (hs.ext hV) hsk hN
  have hls := fun (U : World) (hU : Ext w U) (r : Value) (z : Z) (Q : Nat → Prop) (h : Zi U Q r z) => less_c (hlo.ext hU) h
  have hle := fun (U : World) (hU : Ext w U) (r : Value) (z : Z) (Q : Nat → Prop) (h : Zi U Q r z) => less_c h (hen.ext hU)
  obtain ⟨A, c, rfl, hlo⟩ := hlo; obtain ⟨B, d, rfl, hen⟩ := hen
  have hlo := hlo.widen (Y := fun b => b < w.heap.size) fun b _ h => h
  have hen := hen.widen (Y := fun b => b < w.heap.size) fun b _ h => h
  go_enter Tryz.func32, Tryz.ntmps32
  go_upto_region 2 with fail
  refine wp_named fun W hW => ?_
  have b4 : Box W w.heap.size 25 #[.bool lo.neg, .slice A lo.mag.length c] := by rw [hW]; exact bxt
  have b5 : Box W (w.heap.size + 1) 25 #[.bool en.neg, .slice B en.mag.length d] := by rw [hW]; exact bxt
  have hE : Ext w W := by rw [hW]; exact xt
  have hWs : W.heap.size = w.heap.size + 1 + 1 + 1 := by rw [hW]; simp only [wsz]
  have hO0 : Own 2 EZ W (fun b => b ≠ w.heap.size + 2) w.heap.size 25 (.slice (some ⟨w.heap.size + 1 + 1, 0, none⟩) 1 1) [lo] := by
    rw [hW]
    have h1 := Own.onez (w := (w.alloc (.cells #[.bool lo.neg, .slice A lo.mag.length c] 25)).alloc (.cells #[.bool en.neg, .slice B en.mag.length d] 25)) (Zp := fun b => b ≠ w.heap.size + 2) (base := w.heap.size) (t := 25) (A := A) (c := c) (z := lo) (by simp only [wsz]; omega)
      ((hlo.keep (((Kp.refl w).alloc _).alloc _)).widen fun b hb _ => ⟨by omega, by simp only [wsz]; omega⟩)
    simp only [wsz] at h1; exact h1
  clear hW
  have b4r := b4.rules; have b4l := b4.lt
  have b5r := b5.rules; have b5l := b5.lt
  go_wp2_with fail
  refine (hcu _ hE).mono ?_; rintro e w1 ⟨A1, c1, rfl, hZ1, hx1⟩; have hE1 := hE.trans hx1; have hs1 := hx1.size
  have hZ1 := Sl.widen hZ1 (by omega) (Y := fun b => W.heap.size ≤ b ∧ b < w1.heap.size) fun b hb hl => ⟨hb, hl⟩
  have hO1 := (hO0.ext hx1)
  have hlc := hZ1.1; have hlm := hZ1.2.1
  simp only [maxLen] at hlm
  have c4 := b4.ext hx1; have c5 := b5.ext hx1
  have hlo1 := hlo.ext hE1; have hen1 := hen.ext hE1
  clear b4r b5r hcu
  go_wp2_with fail
  go_loopw [7, 15] (fun lv iv wr => ∃ k : Nat, k ≤ s.cuts.length ∧ iv = .int .i64 k ∧ Own 2 EZ wr (fun b => b ≠ w.heap.size + 2 ∧ b < w1.heap.size) w.heap.size 25 lv (lo :: stpsF lo en (s.cuts.take k)) ∧
    (∀ b, lv.ownBlock = some b → b = w.heap.size + 2 ∨ w1.heap.size ≤ b) ∧ Kp (fun b => b ≠ w.heap.size + 2) w1 wr ∧ Ext w wr ∧ w1.heap.size ≤ wr.heap.size) (fun _ iv _ => s.cuts.length - (intOf iv).toNat)
  case atStart => exact ⟨0, Nat.zero_le _, rfl, by simpa [stpsF] using hO1.widen (fun b hb hl => ⟨hb, hl⟩), fun b e => .inl (by injection e with e; exact e.symm), Kp.refl _, hE1, Nat.le_refl _⟩
  case round =>
    obtain ⟨k, hk, rfl, hO, hvb, hkp, hxw, hsz⟩ := hrel; have hrow := hO.row
    by_cases hlt : k < s.cuts.length
    · have hZr := Sl.keep hZ1 (hkp.imp fun b hb => by omega); obtain ⟨b, o, B', d', rfl, hX, q0, q1, hN2⟩ := Zs.at_ hZr hlt; have hbw := World.block_lt_of_cell? _ _ q0
      have kl : (k : Int) < (s.cuts.length : Int) := by omega
      have e2 := take_zth s.cuts k hlt; obtain ⟨zc, hzc⟩ : ∃ zc, zc = zth s.cuts k := ⟨_, rfl⟩; rw [← hzc] at q0 q1 hN2 e2; obtain ⟨p1, hp1⟩ : ∃ p1, p1 = decide (lo.v < zc.v) := ⟨_, rfl⟩; obtain ⟨p2, hp2⟩ : ∃ p2, p2 = decide (zc.v < en.v) := ⟨_, rfl⟩
      have hstep : Hid (stpsF lo en (s.cuts.take (k + 1)) = stpsF lo en (s.cuts.take k) ++ if p1 && p2 then [zc] else []) := Lib.hid (by
        rw [e2, stpsF, List.filter_append, ← stpsF, hp1, hp2]
        congr 1
        by_cases h1 : lo.v < zc.v <;> by_cases h2 : zc.v < en.v <;> simp [h1, h2])
      have hc1 := fun (U : World) (hU : Ext wr U) => hls U (hxw.trans hU) (.agg #[.bool zc.neg, .slice B' zc.mag.length d']) zc _ ⟨_, _, rfl, hN2.ext hU⟩
      have hc2 := fun (U : World) (hU : Ext wr U) => hle U (hxw.trans hU) (.agg #[.bool zc.neg, .slice B' zc.mag.length d']) zc _ ⟨_, _, rfl, hN2.ext hU⟩
      simp only [← hp1] at hc1; simp only [← hp2] at hc2; have d4 := c4.keep (X := fun b => b ≠ w.heap.size + 2) (by omega) hkp; have d5 := c5.keep (X := fun b => b ≠ w.heap.size + 2) (by omega) hkp
      have d4r := d4.rules; have d4l := d4.lt
      have d5r := d5.rules; have d5l := d5.lt
      have hls' := Lib.hid hls; have hle' := Lib.hid hle
      clear hp1 hp2 hls hle e2 hzc
      go_wp2_with fail
      refine (hc1 _ xt).mono ?_; rintro e w2 ⟨rfl, hx2⟩; have hxr2 : Ext wr w2 := xt
      (have b9 := Box.ext (g := wr.heap.size) bxt hx2; have b9r := b9.rules; have b9l := b9.lt)
      have f5 := d5.ext hxr2
      have f5r := f5.rules; have f5l := f5.lt
      clear d4r d5r
      cases p1
      · go_wp2_with fail
        go_roundw
        case rel => exact ⟨k + 1, by omega, by go_num, by rw [hstep.out]; simpa using hO.ext hxr2, hvb, hkp.ext hxr2, hxw.trans hxr2, by have := hxr2.size; omega⟩
        case measure => simp [intOf] <;> omega
      · go_wp2_with fail
        refine (hc2 _ hxr2).mono ?_; rintro e w3 ⟨rfl, hx3⟩; have hxr3 := hxr2.trans hx3; have f9 := b9.ext hx3
        have f9r := f9.rules; have f9l := f9.lt
        clear b9r f5r; have hO3 := hO.ext hxr3; have hs3 := hxr3.size
        cases p2
        · go_wp2_with fail
          go_roundw
          case rel => exact ⟨k + 1, by omega, by go_num, by rw [hstep.out]; simpa using hO3, hvb, hkp.ext hxr3, hxw.trans hxr3, by omega⟩
          case measure => simp [intOf] <;> omega
        · have hN3 := hN2.ext hxr3
          have hlen : (lo :: stpsF lo en (s.cuts.take k)).length ≤ 2199023255552 := by
            have h1 := List.length_filter_le (fun c : Z => decide (lo.v < c.v) && decide (c.v < en.v)) (s.cuts.take k); rw [List.length_take] at h1; simp only [List.length_cons, stpsF]
            omega
          have hlen' := Lib.hid hlen; clear hlen
          go_wp2_with (first
            | (at_builtin
               (refine wpList_appz1 (.tmp 27) (.tmp 29) hO3 (hN3.widen fun q hq _ => ⟨by omega, fun e => by have := hvb q e; omega⟩) hlen'.out (by omega) rfl rfl rfl rfl ?_)
               intro v4 w4 hO4 hg4 hv4)
            | fail)
          have hxx : Ext w w4 := ((hxw.trans hxr3).alloc _).grown hg4 (fun j hj => (hrow _ hj).1); have hg4s := hg4.size; simp only [wsz] at hg4s
          go_roundw
          case rel =>
            refine ⟨k + 1, by omega, by go_num, by rw [hstep.out]; simpa using hO4, fun b e => ?_, fun b hb hl => ?_, hxx, by omega⟩
            · rcases hv4 with hv4 | hv4
              · exact hvb b (hv4 ▸ e)
              · rw [hv4] at e; injection e with e; omega
            · refine (hg4.block b (by simp only [wsz]; omega) fun e => ?_).trans (((Ext.refl w3).alloc _).block b (by omega) |>.trans ((hkp.ext hxr3) b hb hl))
              rcases hvb b e.symm with h | h
              · exact hb h
              · omega
          case measure => simp [intOf] <;> omega
    · obtain rfl : k = s.cuts.length := by omega
      rw [List.take_length] at hO; have d5 := c5.keep (X := fun b => b ≠ w.heap.size + 2) (by omega) hkp
      have d5r := d5.rules; have d5l := d5.lt
      have hN3 := hen.ext hxw; have hws := hxw.size
      have hlen : (lo :: stpsF lo en s.cuts).length ≤ 2199023255552 := by
        have h1 := List.length_filter_le (fun c : Z => decide (lo.v < c.v) && decide (c.v < en.v)) s.cuts; simp only [List.length_cons, stpsF]
        omega
      have hlen' := Lib.hid hlen; clear hlen
      go_wp2_with (first
        | (at_builtin
           (refine wpList_appz1 (.tmp 32) (.tmp 34) hO (hN3.widen fun q hq _ => ⟨by omega, fun e => by have := hvb q e; omega⟩) hlen'.out (by omega) rfl rfl rfl rfl ?_)
           intro v4 w4 hO4 hg4 hv4)
        | fail)
      have hxx : Ext w w4 := (hxw.alloc _).grown hg4 (fun j hj => (hrow _ hj).1)
      go_ret
      exact ⟨_, rfl, hO4.widen (fun _ _ _ => trivial), hxx⟩

def fatK (s : Ps) (step a : Int) (k : Nat) : Option Int := ((List.range k).map fun i : Nat => a + step * (i : Int)).find? s.has
theorem fatK_step (s : Ps) (step a : Int) (k : Nat) (h : fatK s step a k = none) : fatK s step a (k + 1) = if s.has (a + step * (k : Nat)) then some (a + step * (k : Nat)) else none := by
  unfold fatK at h ⊢; rw [List.range_succ, List.map_append, List.find?_append, h]
  by_cases h2 : s.has (a + step * (k : Nat)) <;> simp [h2]
theorem fatK_some {s : Ps} {step a : Int} {k : Nat} {x : Int} : ∀ {m : Nat}, k ≤ m → fatK s step a k = some x → fatK s step a m = some x := by
  intro m hm h; unfold fatK at h ⊢; obtain ⟨d, rfl⟩ : ∃ d, m = k + d := ⟨m - k, by omega⟩; rw [List.range_add, List.map_append, List.find?_append, h]
  rfl
def fndV (s : Ps) (step : Int) (l : List Z) : Option Int := l.findSome? fun a => fatK s step a.v s.per
theorem fndV_step {s : Ps} {step : Int} {l : List Z} {k : Nat} (hk : k < l.length) (h : fndV s step (l.take k) = none) : fndV s step (l.take (k + 1)) = fatK s step (zth l k).v s.per := by
  rw [take_zth l k hk, fndV, List.findSome?_append, ← fndV, h]; simp
theorem fndV_some {s : Ps} {step : Int} {l : List Z} {k : Nat} {x : Int} (h : fndV s step (l.take k) = some x) : fndV s step l = some x := by
  have : l = l.take k ++ l.drop k := (List.take_append_drop k l).symm; rw [this, fndV, List.findSome?_append, ← fndV, h]
  rfl

set_option maxRecDepth 100000 in
set_option maxHeartbeats 400000 in
theorem found_c {g N : Nat} {s : Ps} {w : World} {X Y : Nat → Prop} {A : Option Addr} {c : Nat} {l : List Z} {step : Int} (hs : SetV w X g s) (hsk : s.ok N) (hl : Zs w Y A c l) (hst : step = 1 ∨ step = -1) (hLl : ∀ a ∈ l, a.mag.length ≤ 1099511627774) :
    Calls Tryz.prog 45 #[.pointer (some ⟨g, 0, none⟩), .int .i64 step, .slice A l.length c] w fun e w' => ∃ r, e = .returned (.tuple #[r, .bool (fndV s step l).isSome]) ∧ Zi w' (w.heap.size ≤ ·) r (cz ((fndV s step l).getD 0)) ∧ Ext w w' := by
  have p0 := hsk.per0; have p1 := hsk.per1
  have hlc := hl.1; have hlm := hl.2.1
  simp only [maxLen] at hlm
  have hpc := fun (V : World) (hV : Ext w V) => period_set_c (hs.ext hV)
  have hhas := fun (U : World) (hU : Ext w U) (r : Value) (z : Z) (Q : Nat → Prop) (hz : z.mag.length ≤ 1099511627776) (h : Zi U Q r z) => has_c (hs.ext hU) hsk h hz
  obtain ⟨p, hp⟩ : ∃ p, p = s.per := ⟨_, rfl⟩; have HP := Lib.hid hp; rw [← hp] at p0 p1 hpc
  have hsl : ∀ i : Nat, i < 4096 → -9223372036854775808 ≤ step * (i : Int) ∧ step * (i : Int) ≤ 9223372036854775807 := fun i hi => by rcases hst with rfl | rfl <;> omega
  clear hs hp
  go_enter Tryz.func45, Tryz.ntmps45
  go_wp2_with fail
  refine wp_named fun W hW => ?_
  have b6 : Box W w.heap.size 25 #[.bool false, .slice none 0 0] := by rw [hW]; exact bxt
  have hE : Ext w W := by rw [hW]; exact xt
  have hWs : W.heap.size = w.heap.size + 1 := by rw [hW]; simp only [wsz]
  clear hW
  go_loopw [14] (fun iv wr => ∃ k : Nat, k ≤ l.length ∧ iv = .int .i64 k ∧ fndV s step (l.take k) = none ∧ Ext W wr) (fun iv _ => l.length - (intOf iv).toNat)
  case atStart => exact ⟨0, Nat.zero_le _, rfl, rfl, Ext.refl _⟩
  case round =>
    rename World => wo
    obtain ⟨k, hk, rfl, hno, hx⟩ := hrel; have HNo := Lib.hid hno; clear hno
    by_cases hlt : k < l.length
    · obtain ⟨b, o, B', d', rfl, hX, q0, q1, hN2⟩ := (hl.ext (hE.trans hx)).at_ hlt; have hbw := World.block_lt_of_cell? _ _ q0
      have kl : (k : Int) < (l.length : Int) := by omega
      have hza := hLl _ (zth_mem hlt); have hfs := Lib.hid (fndV_step (step := step) (s := s) hlt HNo.out); have hlb := hN2.lb; obtain ⟨z, hz⟩ : ∃ z, z = zth l k := ⟨_, rfl⟩; rw [← hz] at q0 q1 hN2 hza hfs hlb; clear hz
      go_wp2_with fail
      refine (hpc _ ((hE.trans hx).trans xt)).mono ?_; rintro e w1 ⟨rfl, hx1⟩
      (have b9 := Box.ext (g := wo.heap.size) bxt hx1; have b9r := b9.rules; have b9l := b9.lt)
      have hxw1 : Ext wo w1 := xt; clear b9r
      have hHas := fun (U : World) (hU : Ext wo U) (i : Nat) (hi : i < p) (r : Value) (h : Zi U (fun _ => True) r (cz (z.v + step * (i : Nat)))) => (by
        have h1 := hsl i (by omega); have h2 := zl_word (x := step * (i : Nat)) (by rcases hst with rfl | rfl <;> omega); have h3 := zl_of hlb; have h4 := zl_add (k := Nat.max z.mag.length 2) (Nat.le_trans h3 (Nat.le_max_left _ _)) (Nat.le_trans h2 (Nat.le_max_right _ _)); have h5 : Nat.max z.mag.length 2 ≤ 1099511627774 := Nat.max_le.2 ⟨hza, by omega⟩; have := hhas U ((hE.trans hx).trans hU) r _ _ (by rw [cz_len]; omega) h; rw [cz_v] at this
        exact this : Calls Tryz.prog 74 #[.pointer (some ⟨g, 0, none⟩), r] U fun e w' => e = .returned (.bool (s.has (z.v + step * (i : Nat)))) ∧ Ext U w')
      have hPl := fun (U : World) (hU : Ext wo U) (i : Nat) (hi : i < p) => plus_c (w := U) (x := z) (X := fun _ => True) ⟨B', d', rfl, (hN2.ext hU).widen fun _ _ _ => trivial⟩ (by omega) (step * (i : Nat)) (hsl i (by omega)).1 (hsl i (by omega)).2
      have HPl := Lib.hid hPl; have HHas := Lib.hid hHas; have HST := Lib.hid hst
      clear hPl hHas hst hhas hpc
      go_wp2_with fail
      go_loopw [20] (fun iv wr2 => ∃ i : Nat, i ≤ p ∧ iv = .int .i64 i ∧ Hid (fatK s step z.v i = none) ∧ Ext w1 wr2) (fun iv _ => p - (intOf iv).toNat)
      case atStart => exact ⟨0, Nat.zero_le _, rfl, Lib.hid rfl, Ext.refl _⟩
      case round =>
        obtain ⟨i, hi, rfl, hni, hx2⟩ := hrel; have d9 := b9.ext hx2
        have d9r := d9.rules; have d9l := d9.lt
        have hxr := hxw1.trans hx2; have hsx := hxr.size
        by_cases hip : i < p
        · have il : (i : Int) < (p : Int) := by omega
          have hw := w64 (n := step * (i : Int)) (hsl i (by omega)); have hnx := Lib.hid (fatK_step s step z.v i hni.out)
          have hc1 := fun (U : World) (hU : Ext wo U) => HPl.out U hU i hip
          have hc2 := fun (U : World) (hU : Ext wo U) => HHas.out U hU i hip
          obtain ⟨x, hxx⟩ : ∃ x, x = z.v + step * (i : Nat) := ⟨_, rfl⟩; rw [← hxx] at hnx; simp only [← hxx] at hc1 hc2; obtain ⟨hb, hhb⟩ : ∃ hb, hb = s.has x := ⟨_, rfl⟩; rw [← hhb] at hnx; simp only [← hhb] at hc2; clear hhb; have HX := Lib.hid hxx; clear hxx; have Hcz := Lib.hid (cz_v x); obtain ⟨zx, hzx⟩ : ∃ zx, zx = cz x := ⟨_, rfl⟩; simp only [← hzx] at hc1 hc2; have HZX := Lib.hid hzx; clear hzx
          go_wp2_with fail
          refine (hc1 _ (hxr.trans xt)).mono ?_; rintro e w5 ⟨_, rfl, ⟨A5, c5, rfl, hr5⟩, hx5⟩; have hx25 : Ext wr w5 := xt; have hx5' : Ext wo w5 := hxr.trans hx25; have hx15 : Ext w1 w5 := hx2.trans hx25
          have hh5 := fun (U : World) (hU : Ext w5 U) => hc2 U (hx5'.trans hU) _ ⟨A5, c5, rfl, (hr5.ext hU).widen fun _ _ _ => trivial⟩
          have hs5 := hx5'.size; clear hc1 hc2
          go_wp2_with fail
          refine (hh5 _ xt).mono ?_; rintro e w6 ⟨rfl, hx6⟩
          (have b11 := Box.ext (g := w5.heap.size) bxt hx6; have b11r := b11.rules; have b11l := b11.lt)
          have hx56 : Ext w5 w6 := xt; have hx6' := hx5'.trans hx56; have e6 := b6.ext (hx.trans hx6')
          have e6r := e6.rules; have e6l := e6.lt
          clear hh5 d9r
          cases hb
          · go_wp2_with fail
            go_roundw
            case rel => exact ⟨i + 1, by omega, by go_num, Lib.hid (by rw [hnx.out]; rfl), hx15.trans hx56⟩
            case measure => simp [intOf] <;> omega
          · go_wp2_with fail
            (refine bodyPost_ret (v := ?_) ?_ rfl ?_; rotate_left; (simp only [results, Tryz.results45]; go_simp; (first | done | with_reducible rfl)))
            have hF : fndV s step l = some x := fndV_some (k := k + 1) (by rw [hfs.out, ← HP.out]; exact fatK_some (k := i + 1) (by omega) (by rw [hnx.out]; rfl))
            have hF2 : cz ((fndV s step l).getD 0) = zx := by rw [hF, HZX.out]; rfl
            have hsW := (hE.trans hx).size; refine ⟨_, by rw [hF]; rfl, ?_, (((hE.trans hx).trans hx6').setCell (by dsimp only; omega) _).setCell (by dsimp only; omega) _⟩; rw [hF2]; exact ⟨A5, c5, rfl, ((hr5.ext hx56).keep kpt).widen (fun b hb _ => by first | omega | (dsimp only at hb ⊢; omega) | (dsimp only at hb; omega) | (simp only [wsz] at hb ⊢; omega) | (simp only [wsz] at hb; omega))⟩
        · obtain rfl : i = p := by omega
          have hn := hni.out
          go_wp2_with fail
          go_roundw
          case rel => exact ⟨k + 1, by omega, by go_num, by rw [hfs.out, ← HP.out]; exact hn, hx.trans hxr⟩
          case measure => simp [intOf] <;> omega
    · obtain rfl : k = l.length := by omega
      have hn := HNo.out; rw [List.take_length] at hn; have HN := Lib.hid hn; clear hn; have c6 := b6.ext hx
      have c6r := c6.rules; have c6l := c6.lt
      have hsx := hx.size
      go_wp2_with fail
      (refine bodyPost_ret (v := ?_) ?_ rfl ?_; rotate_left; (simp only [results, Tryz.results45]; go_simp; (first | done | with_reducible rfl)))
      have hF : fndV s step l = none := HN.out; rw [hF]; exact ⟨_, rfl, ⟨none, 0, rfl, Sl.nil0 _ _ _⟩, ((hE.trans hx).setCell (by dsimp only; omega) _).setCell (by dsimp only; omega) _⟩

end Go.Proofs.YtpkfjbljhneenaaGreat
