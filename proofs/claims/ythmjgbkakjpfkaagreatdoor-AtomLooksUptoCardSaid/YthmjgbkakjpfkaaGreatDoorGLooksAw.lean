/- term.gathered. No conditions. term.sum. No conditions. term.Norm. No conditions. term.Coef. No conditions. term.Add, Sub, Scale. No conditions. term.Without, term.Put. No conditions. riddleref05.Add, Scale, Sub, Coef, Without, Put. No conditions. -/
import Derived.Test.YthmjgbkakjpfkaaGreatDoorGLooksAt
import Derived.Test.YthmjgbkakjpfkaaGreatDoorGLooksAv
import Derived.Test.YthmjgbkakjpfkaaGreatDoorGLooksAd
import Derived.Test.YthmjgbkakjpfkaaGreatDoorGLooksAs
import Derived.Test.YthmjgbkakjpfkaaGreatDoorGLooksAk
import Derived.Test.YthmjgbkakjpfkaaGreatDoorGLooksAa
import Derived.Test.YthmjgbkakjpfkaaGreatDoorGLooksAx
namespace Go.Proofs.YthmjgbkakjpfkaaGreatDoor
open Go.RowKit Go.Maps

set_option maxHeartbeats 1600000 in
theorem gath_c {B : Nat} {w : World} {X Y : Nat → Prop} {b n : Nat} {f : Int → Int} {kv : Value} {k : Z} (hM : Mp w X b n f) (hk : Zi w Y kv k) (hL : k.mag.length ≤ 4398046511104) (hn : n ≤ 1099511627776) (hf : ∀ x, f x ≠ 0 → i64 x) (hB : B ≤ w.heap.size) (hX : ∀ c, X c → B ≤ c) :
    Calls Tryz.prog 132 #[.map (some b), kv] w fun e w' => ∃ r l, e = .returned r ∧ Canon l ∧ (∀ x, cf l x = f x) ∧ TvF w' B r ⟨cl l, cz k.v⟩ ∧ Ext w w' := by
  obtain ⟨A, c, rfl, hk⟩ := hk
  have hM0 : Mp w (fun c => X c ∧ c < w.heap.size) b n f := hM.widen fun c hc hl => ⟨hc, hl⟩
  clear hM
  go_enter Tryz.func132, Tryz.ntmps132
  go_wp2_with fail
  refine (znorm_c (z := k) ⟨_, _, rfl, hk.ext xt⟩ hL).mono ?_
  rintro e w1 ⟨r, rfl, ⟨A1, c1, rfl, h1⟩, hx⟩
  (have b4 := Box.ext (g := w.heap.size + 1) bxt hx; have b4r := b4.rules; have b4l := b4.lt)
  (have hs := Ext.size hx; (try simp only [wsz] at hs))
  go_wp2_with (first
    | (at_range
       refine wpList_rg (.tmp 11) (Mp.ext hM0 xt) hf rfl rfl rfl ?_
       intro W lf cnt hR hcnt hlf hxW hsW)
    | fail)
  go_frame
  simp only [World.size_alloc] at hR ⊢
  have hb4 := b4.ext (w' := W) xt
  have hb5 : Box W w1.heap.size 27 #[.slice none 0 0, .bool (cz k.v).neg, .slice A1 (cz k.v).mag.length c1] := bxt
  have hN1 : Nl W (fun c => w.heap.size + 2 ≤ c ∧ c < w1.heap.size) A1 c1 (cz k.v).mag := Nl.ext (h1.widen fun b hb hl => ⟨by simp only [World.size_alloc] at hb; omega, hl⟩) xt
  have hWl : Ext w W := xt
  simp only [World.size_alloc] at hsW
  go_loopw [] (fun wr => ∃ lf cnt l v, Rg wr (fun c => X c ∧ c < w.heap.size) b (w1.heap.size + 1) n f lf cnt ∧ l.length + cnt ≤ n ∧ (l.map Prod.fst).Nodup ∧ (∀ p ∈ l, (p.2 = f p.1 ∧ p.2 ≠ 0) ∧ i64 p.1 ∧ lf p.1 = false) ∧
      (∀ x, f x ≠ 0 → lf x = true ∨ x ∈ l.map Prod.fst) ∧ Own 3 EP wr (fun c => X c ∧ c < w.heap.size) W.heap.size 37 v (cl l) ∧ Spp wr v ∧
      Box wr w1.heap.size 27 #[v, .bool (cz k.v).neg, .slice A1 (cz k.v).mag.length c1] ∧ Box wr (w.heap.size + 1) 27 #[.slice none 0 0, .bool false, .slice none 0 0] ∧ Ext w wr ∧
      W.heap.size ≤ wr.heap.size ∧ Nl wr (fun c => w.heap.size + 2 ≤ c ∧ c < w1.heap.size) A1 c1 (cz k.v).mag) (fun wr => wr.rangeLeft b (w1.heap.size + 1))
  case atStart =>
    refine ⟨lf, cnt, [], _, hR, by simpa using hcnt, by simp, by simp, fun x hx => .inl (hlf x hx), Own.nil _ _ _ _, Spz.nil _ _ _, hb5, hb4, hWl, Nat.le_refl _, hN1⟩
  case round =>
    clear hR hcnt hlf hb5 hb4 hN1
    obtain ⟨lf, cnt, l, v, hR, hcnt, hnd, hl, hlf, hO, hSp, hb5, hb4, hxr, hsr, hN1⟩ := hrel
    have hsl := hxr.size
    have hRl := hR.lt
    go_wp2_with (first
      | (at_next
         refine wpList_rgnext (.tmp 12) hR (by omega) rfl rfl rfl ?_ ?_)
      | fail)
    · intro hdone
      have hb4r := hb4.rules
      have hb5r := hb5.rules
      obtain ⟨A2, c2, rfl, hs2⟩ := Own.sl hO (by omega) (X := fun c => (X c ∧ c < w.heap.size) ∨ w.heap.size ≤ c) (fun c hc => by rcases hc with hc | hc; exact .inl hc; exact .inr (by omega))
      clear hs2
      go_wp2_with fail
      refine (sortp_c hO (by rw [cl_len]; omega)).mono ?_
      rintro e w3 ⟨rfl, m, hp, hsrt, hO3, hg3, hSp3⟩
      have hSp3 := hSp3 hSp
      have hrow3 := hO3.row
      have hown : ∀ g, Value.ownBlock (.slice A2 (cl l).length c2) = some g → W.heap.size ≤ g := fun g hg => (hO.row g hg).1
      have hb5' := hb5.grown hg3 (fun e => by have := hown _ e.symm; omega)
      have hb4' := hb4.grown hg3 (fun e => by have := hown _ e.symm; omega)
      have hx3 := hxr.grown hg3 (fun g hg => by have := hown g hg; omega)
      have kp3 : Kp (fun c => w.heap.size + 2 ≤ c ∧ c < w1.heap.size) wr w3 := fun c hc hl => hg3.block c hl (fun e => by have := hown c e.symm; omega)
      have hN3 := hN1.keep kp3
      obtain ⟨e1, hcan, hcf⟩ := sorted_canon hp hsrt hnd (fun p hp => (hl p hp).1) (fun x hx => (hlf x hx).resolve_left (by rw [hdone x (hf x hx)]; simp))
      obtain ⟨A3, c3, e3, hs3⟩ := Own.sl hO3 (by omega) (X := fun c => (X c ∧ c < w.heap.size) ∨ W.heap.size ≤ c) (fun c hc => hc)
      injection e3 with e3 e4 e5
      subst e3; subst e5
      clear hs3
      have hb4r' := hb4'.rules
      have hb5r' := hb5'.rules
      have E1 := Lib.hid e1; have E4 := Lib.hid e4; have HC := Lib.hid hcf
      clear hb4r hb5r hcnt hl hlf e1 e4 hcf
      go_wp2_with fail
      (refine bodyPost_ret (v := ?_) ?_ rfl ?_; rotate_left; (simp only [results, Tryz.results132]; go_simp; (first | done | with_reducible rfl)))
      have e4 := E4.out
      have e6 : (cl l).length = (cl (vl m)).length := by rw [← E1.out]; exact e4
      have hO4 : Own 3 EP w3 (fun c => X c ∧ c < w.heap.size) W.heap.size 37 (.slice A2 (cl (vl m)).length c2) (cl (vl m)) := by
        have h := hO3
        rw [E1.out] at h
        rwa [e6] at h
      have hSp4 : Spp w3 (.slice A2 (cl (vl m)).length c2) := by rw [← e6]; exact hSp3
      have hrow4 := hO4.row
      refine ⟨_, vl m, rfl, hcan, HC.out, ⟨A2, c2, A1, c1, ?_, Own.widen (Own.lower (b2 := B) (Own.keep hO4 (Kp.imp (Y := fun c => c < w.heap.size ∨ W.heap.size ≤ c) kpt ?_)) (by omega)) ?_, Spz.keep hSp4 (fun c hc => (hrow4 c hc).2) (Kp.imp (Y := fun c => c < w.heap.size ∨ W.heap.size ≤ c) kpt ?_), (hN3.keep kpt).widen ?_⟩, xt⟩
      · rw [e6]
      · intro c hc
        rcases hc with hc | hc
        · exact .inl hc.2
        · exact .inr (hrow4 c hc).1
      · intro c hc _
        exact hX c hc.1
      · intro c hc
        exact .inr (hrow4 c hc).1
      · intro c hc _
        show B ≤ c
        omega
    · intro x A2 c2 w2 cnt2 hi hlx hN2 hR2 hlt hg2 hs2 hen
      have hx2 := hxr.grown hg2 (fun g hg => by injection hg; omega)
      have kp2 := Kp.grown1 hg2
      go_wp2_with fail
      refine (zsign_c (z := cz (f x)) ⟨_, _, rfl, hN2.ext xt⟩).mono ?_
      rintro e w3 ⟨rfl, hx3⟩
      rw [cz_v]
      have hxx : Ext w w3 := xt
      have kp3 := Kp.ext (kp2.alloc _) hx3
      have hb5' := hb5.keep (by omega) kp3
      have hb4' := hb4.keep (by omega) kp3
      have hO3 := hO.keep (kp3.imp fun c hc => by
        rcases hc with hc | hc
        · omega
        · have := (hO.row c hc).1; omega)
      have hN3 := hN1.keep (kp3.imp fun c hc => by omega)
      have hSp3 := hSp.keep (fun c hc => (hO.row c hc).2) (kp3.imp fun c hc => by have := (hO.row c hc).1; omega)
      have hR3 := Rg.ext hR2 ((Ext.alloc (Ext.refl _) _).trans hx3)
      (have hsz := Ext.size hx3; (try simp only [wsz] at hsz))
      by_cases h0 : f x = 0
      · have e0 : (sgn (f x) != 0) = false := by rw [h0]; rfl
        go_wp2_with fail
        go_roundw
        case rel =>
          refine ⟨_, cnt2, l, v, hR3, by omega, hnd, fun p hp => ⟨(hl p hp).1, (hl p hp).2.1, by rw [(hl p hp).2.2]; rfl⟩, fun z hz => ?_, hO3, hSp3, hb5', hb4', hxx, by omega, hN3⟩
          rcases hlf z hz with h | h
          · have : z ≠ x := fun e => hz (e ▸ h0)
            exact .inl (by simp [h, this])
          · exact .inr h
        case measure => rw [hR3.cnt, hR.cnt]; exact hlt
      · have e0 : (sgn (f x) != 0) = true := by rw [bne_iff_ne]; exact fun h => h0 (sgn_zero.1 h)
        have hb5r := hb5'.rules
        have bp := Box.ext (g := wr.heap.size) (Box.new_at _ _ _ hs2.symm) hx3
        have bpr := bp.rules
        have hcl : (cl l ++ [(x, cz (f x))]) = cl (l ++ [(x, f x)]) := by rw [cl_append]; rfl
        have hlen := Lib.hid (cl_len l)
        have hNX : Nl w3 (fun b => (X b ∧ b < w.heap.size) ∧ v.ownBlock ≠ some b) A2 c2 (cz (f x)).mag := (hN2.ext ((Ext.alloc (Ext.refl _) _).trans hx3)).widen fun c hc _ => ⟨hc, fun e => by have := (hO.row c e).1; omega⟩
        go_wp2_with (first
          | (at_builtin
             refine wpList_apppz (.tmp 22) (.tmp 26) hO3 hSp3 hi hNX (by rw [hlen.out]; omega) (by omega) rfl rfl rfl rfl ?_
             intro v4 w4 hO4 hSp4 hg4 hv4
             have hb5s := Box.grown (hb5'.alloc _) hg4 (fun e => by have := (hO.row _ e.symm).1; omega)
             have hb5sr := hb5s.rules
             obtain ⟨A4, c4, rfl, hj⟩ := Own.sl hO4 (by omega) (X := fun _ => True) (fun _ _ => trivial)
             clear hj)
          | fail)
        rw [hcl] at hO4 hSp4
        have hrow := hO.row
        have hrow4 := hO4.row
        have hbw := hM0.lt
        have kp4 : Kp (fun c => ¬ (v.ownBlock = some c) ∧ c ≠ w1.heap.size) w3 (w4.setCell ⟨w1.heap.size, 0, none⟩ (.slice A4 (cl (l ++ [(x, f x)])).length c4)) :=
          (((Kp.refl w3).alloc _).grown hg4 (fun k hk h => h.1 hk)).setCell (fun h => h.2 rfl) _
        have hR4 : Rg (w4.setCell ⟨w1.heap.size, 0, none⟩ (.slice A4 (cl (l ++ [(x, f x)])).length c4)) _ _ _ _ _ _ _ := hR3.kept (kp4.imp fun c hc => ⟨fun e => by
          have := hrow c e
          rcases hc with hc | hc | hc <;> omega, by rcases hc with hc | hc | hc <;> omega⟩)
        go_roundw
        case rel =>
          refine ⟨_, cnt2, l ++ [(x, f x)], _, hR4, ?_, ?_, fun p hp => ?_, fun z hz => ?_, hO4.keep ?_, hSp4.far (fun e => by have := (hrow4 _ e).1; simp only at this; omega) _, ?_, ?_, ?_, ?_, hN3.keep (kp4.imp fun c hc => ⟨fun e => ?_, ?_⟩)⟩
          · simp only [List.length_append, List.length_cons, List.length_nil]; omega
          · rw [List.map_append, List.nodup_append]
            refine ⟨hnd, by simp, fun a ha c hc => ?_⟩
            obtain ⟨p, hp, rfl⟩ := List.mem_map.1 ha
            simp only [List.map_cons, List.map_nil, List.mem_singleton] at hc
            intro e
            have h5 := (hl p hp).2.2
            rw [e, hc, hlx] at h5
            cases h5
          · rcases List.mem_append.1 hp with hp | hp
            · exact ⟨(hl p hp).1, (hl p hp).2.1, by rw [(hl p hp).2.2]; rfl⟩
            · rw [List.mem_singleton.1 hp]
              exact ⟨⟨rfl, h0⟩, hi, by simp⟩
          · rw [List.map_append, List.mem_append]
            by_cases e : z = x
            · exact .inr (.inr (by simp [e]))
            · rcases hlf z hz with h | h
              · exact .inl (by simp [h, e])
              · exact .inr (.inl h)
          · refine (Kp.refl w4).setCell ?_ _
            intro h
            rcases h with h | h
            · simp only at h; omega
            · have := (hrow4 _ h).1; simp only at this; omega
          · have := hb5s.set_ 0 (.slice A4 (cl (l ++ [(x, f x)])).length c4)
            simpa using this
          · exact ((hb4'.alloc _).grown hg4 (fun e => by have := (hrow _ e.symm).1; omega)).far (by simp only [ne_eq]; omega) _
          · exact ((hxx.alloc _).grown hg4 (fun k hk => by have := (hrow k hk).1; omega)).setCell (by simp only; omega) _
          · have := hg4.size
            simp only [World.size_alloc, World.size_setCell] at this ⊢
            omega
          · have := hrow c e; omega
          · omega
        case measure => rw [hR4.cnt, hR.cnt]; exact hlt

end Go.Proofs.YthmjgbkakjpfkaaGreatDoor

namespace Go.Proofs.YthmjgbkakjpfkaaGreatDoor
open Go.RowKit Go.Maps

theorem vl_take (ps : List (Int × Z)) (j : Nat) (h : j < ps.length) : vl (ps.take (j + 1)) = vl (ps.take j) ++ [((pth ps j).1, (pth ps j).2.v)] := by
  rw [take_pth ps j h, vl_append]; rfl
theorem sc_append (k : Int) (l m : List (Int × Int)) : sc k (l ++ m) = sc k l ++ sc k m := by simp [sc]
theorem zl_sc {k : Int} {l : List (Int × Int)} {K M : Nat} (hk : zl k ≤ K) (h : ∀ p ∈ l, zl p.2 ≤ M) : ∀ p ∈ sc k l, zl p.2 ≤ K + M := by
  intro p hp
  obtain ⟨q, hq, rfl⟩ := List.mem_map.1 hp
  have h1 := zl_mul k q.2
  have h2 := h q hq
  show zl (k * q.2) ≤ _
  omega
theorem cf_part (f g : Int → Int) (k : Int) (ps : List (Int × Z)) (j : Nat) (h : j < ps.length) (hf : ∀ x, f x = cf (sc k (vl (ps.take j))) x + g x) :
    (fun z => if z = (pth ps j).1 then f (pth ps j).1 + k * (pth ps j).2.v else f z) = fun x => cf (sc k (vl (ps.take (j + 1)))) x + g x := by
  funext z
  rw [vl_take ps j h, sc_append, cf_append]
  simp only [sc, List.map_cons, List.map_nil, cf]
  have hz := hf z
  simp only [sc] at hz
  by_cases e : z = (pth ps j).1
  · subst e
    rw [if_pos rfl, if_pos rfl]
    omega
  · rw [if_neg e, if_neg (fun h => e h.symm)]
    omega

theorem zl_part {k : Int} {ps : List (Int × Z)} {N : Nat} (hk : zl k ≤ N) (h : ∀ p ∈ vl ps, zl p.2 ≤ N) (hl : ps.length ≤ N) (j : Nat) (x : Int) : zl (cf (sc k (vl (ps.take j))) x) ≤ 3 * N := by
  have h1 := zl_cf (l := sc k (vl (ps.take j))) (N := N + N) (zl_sc hk fun p hp => h p (List.map_subset _ (List.take_subset _ _) hp)) x
  rw [sc_len, vl_len, List.length_take] at h1
  omega
theorem sc_i64 {k : Int} {ps : List (Int × Z)} (h : ∀ p ∈ ps, i64 p.1) {x : Int} (hx : cf (sc k (vl ps)) x ≠ 0) : i64 x := by
  obtain ⟨p, hp, rfl⟩ := mem_of_cf hx
  obtain ⟨q, hq, rfl⟩ := List.mem_map.1 hp
  obtain ⟨r, hr, rfl⟩ := List.mem_map.1 hq
  exact h r hr

set_option maxHeartbeats 3200000 in
theorem sum_c {w : World} {X1 X2 X3 X4 : Nat → Prop} {kv av lv bv : Value} {k l : Z} {a b : T} {N : Nat} (hk : Zi w X1 kv k) (ha : Tv w X2 av a) (hl : Zi w X3 lv l) (hb : Tv w X4 bv b)
    (hN : N ≤ 34359738368) (sk : k.mag.length ≤ N) (sa : a.sz N) (sl : l.mag.length ≤ N) (sb : b.sz N) :
    Calls Tryz.prog 94 #[kv, av, lv, bv] w fun e w' => ∃ r, e = .returned r ∧ TvF w' w.heap.size r (ct (sc k.v (vl a.ps) ++ sc l.v (vl b.ps)) (k.v * a.k.v + l.v * b.k.v)) ∧ Ext w w' := by
  obtain ⟨K, kc, rfl, hk⟩ := hk
  obtain ⟨A, ac, AK, akc, rfl, ha, hak⟩ := ha
  obtain ⟨L, lc, rfl, hl⟩ := hl
  obtain ⟨B, bc, BK, bkc, rfl, hb, hbk⟩ := hb
  obtain ⟨sa1, sa2, sa3⟩ := sa
  obtain ⟨sb1, sb2, sb3⟩ := sb
  have hmm := @run_makeMap Tryz.prog
  go_enter Tryz.func94, Tryz.ntmps94
  go_wp2_with fail
  refine wp_named fun W hW => ?_
  have b4 : Box W (w.heap.size) 24 #[.bool k.neg, .slice K k.mag.length kc] := by rw [hW]; exact bxt
  have b5 : Box W (w.heap.size + 1) 27 #[.slice A a.ps.length ac, .bool a.k.neg, .slice AK a.k.mag.length akc] := by rw [hW]; exact bxt
  have b6 : Box W (w.heap.size + 1 + 1) 24 #[.bool l.neg, .slice L l.mag.length lc] := by rw [hW]; exact bxt
  have b7 : Box W (w.heap.size + 1 + 1 + 1) 27 #[.slice B b.ps.length bc, .bool b.k.neg, .slice BK b.k.mag.length bkc] := by rw [hW]; exact bxt
  have b8 : Box W (w.heap.size + 1 + 1 + 1 + 1) 27 #[.slice none 0 0, .bool false, .slice none 0 0] := by rw [hW]; exact bxt
  have hE : Ext w W := by rw [hW]; exact xt
  have hM : Mp W (fun c => w.heap.size + 1 + 1 + 1 + 1 + 1 < c) (w.heap.size + 1 + 1 + 1 + 1 + 1) 0 fun _ => 0 := by
    rw [hW]
    have h := Mp.made (((((w.alloc (.cells #[.bool k.neg, .slice K k.mag.length kc] 24)).alloc (.cells #[.slice A a.ps.length ac, .bool a.k.neg, .slice AK a.k.mag.length akc] 27)).alloc (.cells #[.bool l.neg, .slice L l.mag.length lc] 24)).alloc
      (.cells #[.slice B b.ps.length bc, .bool b.k.neg, .slice BK b.k.mag.length bkc] 27)).alloc (.cells #[.slice none 0 0, .bool false, .slice none 0 0] 27)) (fun c => w.heap.size + 1 + 1 + 1 + 1 + 1 < c)
    simpa only [World.size_alloc] using h
  clear hW
  have hbm := hM.lt
  have zk : zl k.v ≤ N := Nat.le_trans (zl_of hk.lb) sk
  have zll : zl l.v ≤ N := Nat.le_trans (zl_of hl.lb) sl
  have zka : ∀ p ∈ vl a.ps, zl p.2 ≤ N := zl_vl ha.lb sa2
  have zkb : ∀ p ∈ vl b.ps, zl p.2 ≤ N := zl_vl hb.lb sb2
  go_loopw [18] (fun iv wr => ∃ j : Nat, j ≤ a.ps.length ∧ iv = .int .i64 j ∧ Mp wr (fun c => w.heap.size + 1 + 1 + 1 + 1 + 1 < c) (w.heap.size + 1 + 1 + 1 + 1 + 1) (j) (fun x => cf (sc k.v (vl (a.ps.take j))) x + 0) ∧ Kp (· < w.heap.size + 1 + 1 + 1 + 1 + 1) W wr ∧ Ext w wr) (fun iv _ => a.ps.length - (intOf iv).toNat)
  case atStart => exact ⟨0, Nat.zero_le _, rfl, by simpa [vl, sc, cf] using hM, Kp.refl _, hE⟩
  case round =>
    obtain ⟨j, hj, rfl, hMj, kpj, hxr⟩ := hrel
    have hsr := hMj.lt
    have b4' := b4.keep (X := (· < w.heap.size + 1 + 1 + 1 + 1 + 1)) (by omega) kpj
    have b5' := b5.keep (X := (· < w.heap.size + 1 + 1 + 1 + 1 + 1)) (by omega) kpj
    have b6' := b6.keep (X := (· < w.heap.size + 1 + 1 + 1 + 1 + 1)) (by omega) kpj
    have b7' := b7.keep (X := (· < w.heap.size + 1 + 1 + 1 + 1 + 1)) (by omega) kpj
    have b8' := b8.keep (X := (· < w.heap.size + 1 + 1 + 1 + 1 + 1)) (by omega) kpj
    have b4r := b4'.rules
    have b5r := b5'.rules
    have b4l := b4'.lt
    have b5l := b5'.lt
    by_cases hlt : j < a.ps.length
    · obtain ⟨q, o, D, d, rfl, hX, hc0, hc1, hc2, hi, hN2⟩ := (ha.ext hxr).at_ hlt
      have hq := World.block_lt_of_cell? _ _ hc0
      have hsz : (pth a.ps j).2.mag.length ≤ N := sa2 _ (pth_mem hlt)
      have zp := zl_of hN2.lb
      have hfz : zl (cf (sc k.v (vl (a.ps.take j))) (pth a.ps j).1 + 0) ≤ 17179869184 * 8 := by
        have := zl_part (N := N) zk zka sa1 j (pth a.ps j).1; rw [Int.add_zero]; omega
      have hl1 : w.heap.size < wr.heap.size + 1 := by omega
      have hPx : Ext wr (wr.alloc (.cells #[.int .i64 (pth a.ps j).1, .bool (pth a.ps j).2.neg, .slice D (pth a.ps j).2.mag.length d] 37)).drew := xt
      obtain ⟨cv, hzc, hlk⟩ := (hMj.ext hPx).look hi
      go_wp2_with fail
      refine wp_region_seq 12 [(0, true), (1, true), (2, true), (3, true), (4, true), (5, true), (6, true), (7, true), (8, true), (9, true), (10, false), (11, false), (12, false)] rfl (by kernel_rfl) (by intro _ _ d _ _ h; cases d <;> exact h) ?_
      (repeat (refine sq_take (v := ?_) rfl rfl ?_ ?_; rotate_left; (intro w' hx'; have hc' := hx'.cells.1; (try simp only [wcd] at hc'); go_simp; (first | done | with_reducible rfl)); (try simp only [pt])))
      (refine sq_loud rfl rfl fun K hK => ?_; go_simp)
      refine (zmul_c (x := k) (y := (pth a.ps j).2) ⟨_, _, rfl, hk.ext (Ext.trans hxr xt)⟩ ⟨_, _, rfl, hN2.ext xt⟩ (by omega) (by omega)).mono ?_
      rintro e w1 ⟨r1, rfl, hz1, hx1⟩
      (refine hK _ _ xt ?_; clear hK K; (try simp only [pt]))
      (refine sq_loud rfl rfl fun K hK => ?_; go_simp)
      refine (zadd_c (hzc.ext hx1) hz1 (by rw [cz_len]; omega) (by rw [cz_len]; have := zl_mul k.v (pth a.ps j).2.v; omega)).mono ?_
      rw [cz_v, cz_v]
      rintro e w2 ⟨r2, rfl, hz2, hx2⟩
      (refine hK _ _ xt ?_; clear hK K; (try simp only [pt]))
      have hx3 : Ext wr w2 := xt
      have hs3 := hx3.size
      obtain ⟨w3, hrun, hM3, hg3⟩ := (hMj.ext hx3).set (by omega) (by simp only [maxLen]; omega) hi (hz2.widen fun c hc _ => by have := hPx.size; have := hx1.size; omega)
      refine sq_upd rfl rfl rfl rfl rfl rfl hrun ?_
      have kp3 : Kp (· < w.heap.size + 1 + 1 + 1 + 1 + 1) W w3 := (kpj.ext hx3).trans ((Kp.grown1 hg3).imp fun c hc => by omega)
      have hxr3 : Ext w w3 := (hxr.trans hx3).grown hg3 fun c hc => by injection hc; omega
      rw [cf_part _ (fun x => 0) k.v a.ps j hlt (fun _ => rfl)] at hM3
      go_wp2_with fail
      go_roundw
      case rel => exact ⟨j + 1, by omega, by go_num, hM3, kp3, hxr3⟩
      case measure => simp [intOf] <;> omega
    · obtain rfl : j = a.ps.length := by omega
      rw [List.take_length] at hMj
      clear hM
      have b7q := b7'.rules
      go_wp2_with fail
      clear b7q b4r b5r b4' b5' b6' b7' b8'
      go_loopw [38] (fun iv wr => ∃ j : Nat, j ≤ b.ps.length ∧ iv = .int .i64 j ∧ Mp wr (fun c => w.heap.size + 1 + 1 + 1 + 1 + 1 < c) (w.heap.size + 1 + 1 + 1 + 1 + 1) (a.ps.length + j) (fun x => cf (sc l.v (vl (b.ps.take j))) x + cf (sc k.v (vl a.ps)) x) ∧ Kp (· < w.heap.size + 1 + 1 + 1 + 1 + 1) W wr ∧ Ext w wr) (fun iv _ => b.ps.length - (intOf iv).toNat)
      case atStart => exact ⟨0, Nat.zero_le _, rfl, by simpa [vl, sc, cf] using hMj, kpj, hxr⟩
      case round =>
        obtain ⟨j, hj, rfl, hMj, kpj, hxr⟩ := hrel
        have hsr := hMj.lt
        have b4' := b4.keep (X := (· < w.heap.size + 1 + 1 + 1 + 1 + 1)) (by omega) kpj
        have b5' := b5.keep (X := (· < w.heap.size + 1 + 1 + 1 + 1 + 1)) (by omega) kpj
        have b6' := b6.keep (X := (· < w.heap.size + 1 + 1 + 1 + 1 + 1)) (by omega) kpj
        have b7' := b7.keep (X := (· < w.heap.size + 1 + 1 + 1 + 1 + 1)) (by omega) kpj
        have b8' := b8.keep (X := (· < w.heap.size + 1 + 1 + 1 + 1 + 1)) (by omega) kpj
        have b6r := b6'.rules
        have b7r := b7'.rules
        have b6l := b6'.lt
        have b7l := b7'.lt
        by_cases hlt : j < b.ps.length
        · obtain ⟨q, o, D, d, rfl, hX, hc0, hc1, hc2, hi, hN2⟩ := (hb.ext hxr).at_ hlt
          have hq := World.block_lt_of_cell? _ _ hc0
          have hsz : (pth b.ps j).2.mag.length ≤ N := sb2 _ (pth_mem hlt)
          have zp := zl_of hN2.lb
          have hfz : zl (cf (sc l.v (vl (b.ps.take j))) (pth b.ps j).1 + cf (sc k.v (vl a.ps)) (pth b.ps j).1) ≤ 17179869184 * 8 := by
            have h1 := zl_part (N := N) zll zkb sb1 j (pth b.ps j).1; have h2 := zl_part (N := N) zk zka sa1 a.ps.length (pth b.ps j).1; rw [List.take_length] at h2; have := zl_add (k := 3 * N) h1 h2; omega
          have hl1 : w.heap.size + 1 + 1 < wr.heap.size + 1 := by omega
          have hPx : Ext wr (wr.alloc (.cells #[.int .i64 (pth b.ps j).1, .bool (pth b.ps j).2.neg, .slice D (pth b.ps j).2.mag.length d] 37)).drew := xt
          obtain ⟨cv, hzc, hlk⟩ := (hMj.ext hPx).look hi
          go_wp2_with fail
          refine wp_region_seq 12 [(0, true), (1, true), (2, true), (3, true), (4, true), (5, true), (6, true), (7, true), (8, true), (9, true), (10, false), (11, false), (12, false)] rfl (by kernel_rfl) (by intro _ _ d _ _ h; cases d <;> exact h) ?_
          (repeat (refine sq_take (v := ?_) rfl rfl ?_ ?_; rotate_left; (intro w' hx'; have hc' := hx'.cells.1; (try simp only [wcd] at hc'); go_simp; (first | done | with_reducible rfl)); (try simp only [pt])))
          (refine sq_loud rfl rfl fun K hK => ?_; go_simp)
          refine (zmul_c (x := l) (y := (pth b.ps j).2) ⟨_, _, rfl, hl.ext (Ext.trans hxr xt)⟩ ⟨_, _, rfl, hN2.ext xt⟩ (by omega) (by omega)).mono ?_
          rintro e w1 ⟨r1, rfl, hz1, hx1⟩
          (refine hK _ _ xt ?_; clear hK K; (try simp only [pt]))
          (refine sq_loud rfl rfl fun K hK => ?_; go_simp)
          refine (zadd_c (hzc.ext hx1) hz1 (by rw [cz_len]; omega) (by rw [cz_len]; have := zl_mul l.v (pth b.ps j).2.v; omega)).mono ?_
          rw [cz_v, cz_v]
          rintro e w2 ⟨r2, rfl, hz2, hx2⟩
          (refine hK _ _ xt ?_; clear hK K; (try simp only [pt]))
          have hx3 : Ext wr w2 := xt
          have hs3 := hx3.size
          obtain ⟨w3, hrun, hM3, hg3⟩ := (hMj.ext hx3).set (by omega) (by simp only [maxLen]; omega) hi (hz2.widen fun c hc _ => by have := hPx.size; have := hx1.size; omega)
          refine sq_upd rfl rfl rfl rfl rfl rfl hrun ?_
          have kp3 : Kp (· < w.heap.size + 1 + 1 + 1 + 1 + 1) W w3 := (kpj.ext hx3).trans ((Kp.grown1 hg3).imp fun c hc => by omega)
          have hxr3 : Ext w w3 := (hxr.trans hx3).grown hg3 fun c hc => by injection hc; omega
          rw [cf_part _ (fun x => cf (sc k.v (vl a.ps)) x) l.v b.ps j hlt (fun _ => rfl)] at hM3
          go_wp2_with fail
          go_roundw
          case rel => exact ⟨j + 1, by omega, by go_num, hM3, kp3, hxr3⟩
          case measure => simp [intOf] <;> omega
        · obtain rfl : j = b.ps.length := by omega
          rw [List.take_length] at hMj
          have b4q := b4'.rules; have b5q := b5'.rules; have b8q := b8'.rules
          have b4m := b4'.lt; have b5m := b5'.lt; have b8m := b8'.lt
          clear b6r b7r
          have b6q := b6'.rules; have b7q := b7'.rules
          go_wp2_with fail
          refine wp_region_seq 11 [(0, true), (1, true), (2, true), (3, true), (5, true), (6, true), (7, true), (4, false), (8, false), (9, false), (10, false), (11, false)] rfl (by kernel_rfl) (by intro _ _ d _ _ h; cases d <;> exact h) ?_
          (repeat (refine sq_take (v := ?_) rfl rfl ?_ ?_; rotate_left; (intro w' hx'; have hc' := hx'.cells.1; (try simp only [wcd] at hc'); go_simp; (first | done | with_reducible rfl)); (try simp only [pt])))
          have eK : (cz (k.v * a.k.v)).v + (cz (l.v * b.k.v)).v = k.v * a.k.v + l.v * b.k.v := by rw [cz_v, cz_v]
          have EK := Lib.hid eK; clear eK
          have zka2 := Nat.le_trans (zl_of hak.lb) sa3
          have zkb2 := Nat.le_trans (zl_of hbk.lb) sb3
          (refine sq_loud rfl rfl fun K hK => ?_; go_simp)
          refine (zmul_c (x := k) (y := a.k) ⟨_, _, rfl, hk.ext (Ext.trans hxr xt)⟩ ⟨_, _, rfl, hak.ext (Ext.trans hxr xt)⟩ (by omega) (by omega)).mono ?_
          rintro e w1 ⟨r1, rfl, hz1, hx1⟩
          (refine hK _ _ xt ?_; clear hK K; (try simp only [pt]))
          (refine sq_loud rfl rfl fun K hK => ?_; go_simp)
          refine (zmul_c (x := l) (y := b.k) ⟨_, _, rfl, hl.ext (Ext.trans hxr xt)⟩ ⟨_, _, rfl, hbk.ext (Ext.trans hxr xt)⟩ (by omega) (by omega)).mono ?_
          rintro e w2 ⟨r2, rfl, hz2, hx2⟩
          (refine hK _ _ xt ?_; clear hK K; (try simp only [pt]))
          (refine sq_loud rfl rfl fun K hK => ?_; go_simp)
          refine (zadd_c (hz1.ext hx2) hz2 (by rw [cz_len]; have := zl_mul k.v a.k.v; omega) (by rw [cz_len]; have := zl_mul l.v b.k.v; omega)).mono ?_
          rw [EK.out]
          rintro e w3 ⟨r3, rfl, hz3, hx3⟩
          (refine hK _ _ xt ?_; clear hK K; (try simp only [pt]))
          have hxx : Ext wr w3 := xt
          have hs3 := hxx.size
          (refine sq_loud rfl rfl fun K hK => ?_; go_simp)
          refine (gath_c (B := w.heap.size + 1 + 1 + 1 + 1 + 1 + 1) (hMj.ext hxx) hz3 (by rw [cz_len]; have h1 := zl_mul k.v a.k.v; have h2 := zl_mul l.v b.k.v; have := zl_add (k := 2 * N) (x := k.v * a.k.v) (y := l.v * b.k.v) (by omega) (by omega); omega) (by omega) (fun x hx => ?_) (by omega) (fun c hc => by omega)).mono ?_
          · by_cases h0 : cf (sc l.v (vl b.ps)) x = 0
            · refine sc_i64 ha.i64 (k := k.v) (x := x) (fun h => hx ?_)
              show _ + _ = (0 : Int)
              rw [h0, h]; rfl
            · exact sc_i64 hb.i64 h0
          rintro e w4 ⟨r4, lf, rfl, hcan, hcf, hT, hx4⟩
          (refine hK _ _ xt ?_; clear hK K; (try simp only [pt]))
          have hT2 : TvF w4 (w.heap.size + 1 + 1 + 1 + 1 + 1 + 1) r4 (ct (sc k.v (vl a.ps) ++ sc l.v (vl b.ps)) (k.v * a.k.v + l.v * b.k.v)) := by
            have e1 : lf = cn (sc k.v (vl a.ps) ++ sc l.v (vl b.ps)) := canon_ext hcan (canon_cn _) fun x => by
              rw [hcf, cf_cn, cf_append]
              show cf (sc l.v (vl b.ps)) x + cf (sc k.v (vl a.ps)) x = _
              omega
            rw [e1, cz_v] at hT
            exact hT
          have hTF := hT2
          obtain ⟨A5, c5, B5, d5, rfl, -, -, -⟩ := hT2
          have b8z := b8'.ext (hxx.trans hx4)
          have b8zr := b8z.rules
          have b8zl := b8z.lt
          (refine sq_last rfl rfl fun K hK => ?_; go_simp; refine hK _ _ ?_; clear hK K)
          go_wp2_with fail
          have hxf : Ext w w4 := Ext.trans hxr (Ext.trans hxx hx4)
          (refine bodyPost_ret (v := ?_) ?_ rfl ?_; rotate_left; (simp only [results, Tryz.results94]; go_simp; (first | done | with_reducible rfl)))
          exact ⟨_, rfl, (TvF.keep hTF kpt).lower (by omega), xt⟩

end Go.Proofs.YthmjgbkakjpfkaaGreatDoor

namespace Go.Proofs.YthmjgbkakjpfkaaGreatDoor
open Go.RowKit

theorem nf_sum (t : T) : ct (sc (cz 1).v (vl t.ps) ++ sc (Z.v ⟨false, []⟩) (vl [])) ((cz 1).v * t.k.v + Z.v ⟨false, []⟩ * Z.v ⟨false, []⟩) = t.nf := by
  refine ct_congr (fun x => ?_) ?_
  · rw [cf_append, cf_sc, cz_v, Int.one_mul]
    simp [vl, sc, cf]
  · rw [cz_v]
    simp [Z.v, nv]
theorem valid_cz {t : T} (h : t.valid = true) (hb : t.lb) : ∀ p ∈ t.ps, cz p.2.v = p.2 := by
  have h1 := (valid_iff hb).1 h
  unfold T.valid at h
  rw [Bool.and_eq_true, validF_iff _ _ hb.1] at h
  obtain ⟨⟨h2, _⟩, _⟩ := h
  intro p hp
  obtain ⟨k, hk, rfl⟩ := List.getElem_of_mem hp
  have : (cl (vl t.ps))[k]'(by rw [h2]; exact hk) = t.ps[k] := by simp only [h2]
  simp only [cl, vl, List.getElem_map] at this
  exact congrArg Prod.snd this
theorem valid_kz {t : T} (h : t.valid = true) (hb : t.lb) : cz t.k.v = t.k := by
  unfold T.valid at h
  rw [Bool.and_eq_true, ok_iff hb.2] at h
  exact h.2
theorem one_le (N : Nat) : (cz 1).mag.length ≤ N + 2 := by
  rw [cz_len]
  exact Nat.le_trans (zl_word (x := 1) (by omega)) (by omega)

theorem end_norm {w wr : World} {t : T} {A3 B3 : Option Addr} {c3 d3 : Nat} (hP : Own 3 EP wr (w.heap.size + 2 ≤ ·) (w.heap.size + 2) 37 (.slice A3 t.ps.length c3) t.ps) (hS : Spp wr (.slice A3 t.ps.length c3)) (hN : Nl wr (w.heap.size + 2 ≤ ·) B3 d3 (cz t.k.v).mag) (hK : cz t.k.v = t.k) (hnf : t.nf = t) (hx : Ext w wr) :
    ∃ r, Ending.returned (.agg #[.slice A3 t.ps.length c3, .bool (cz t.k.v).neg, .slice B3 (cz t.k.v).mag.length d3]) = .returned r ∧
      TvF (((wr.setCell ⟨w.heap.size + 1, 0, none⟩ (.slice A3 t.ps.length c3)).setCell ⟨w.heap.size + 1, 1, none⟩ (.bool (cz t.k.v).neg)).setCell ⟨w.heap.size + 1, 2, none⟩ (.slice B3 (cz t.k.v).mag.length d3)) w.heap.size r t.nf ∧
      Ext w (((wr.setCell ⟨w.heap.size + 1, 0, none⟩ (.slice A3 t.ps.length c3)).setCell ⟨w.heap.size + 1, 1, none⟩ (.bool (cz t.k.v).neg)).setCell ⟨w.heap.size + 1, 2, none⟩ (.slice B3 (cz t.k.v).mag.length d3)) := by
  rw [hK] at hN ⊢
  rw [hnf]
  have kp : Kp (w.heap.size + 2 ≤ ·) wr (((wr.setCell ⟨w.heap.size + 1, 0, none⟩ (.slice A3 t.ps.length c3)).setCell ⟨w.heap.size + 1, 1, none⟩ (.bool t.k.neg)).setCell ⟨w.heap.size + 1, 2, none⟩ (.slice B3 t.k.mag.length d3)) :=
    (((Kp.refl wr).setCell (by simp only; omega) _).setCell (by simp only; omega) _).setCell (by simp only; omega) _
  have hF : TvF wr (w.heap.size + 2) _ t := ⟨A3, c3, B3, d3, rfl, hP, hS, hN⟩
  exact ⟨_, rfl, (hF.keep kp).lower (by omega), ((hx.setCell (by simp only; omega) _).setCell (by simp only; omega) _).setCell (by simp only; omega) _⟩

def NormAt (w W : World) (t : T) (g : Nat) (A3 : Option Addr) (c3 : Nat) (B3 : Option Addr) (d3 : Nat) : Prop :=
  w.heap.size + 2 ≤ g ∧ Ext w W ∧ Box W g 27 #[.slice A3 t.ps.length c3, .bool (cz t.k.v).neg, .slice B3 (cz t.k.v).mag.length d3] ∧ Box W (w.heap.size + 1) 27 #[.slice none 0 0, .bool false, .slice none 0 0] ∧
    (∃ base, w.heap.size + 2 ≤ base ∧ Own 3 EP W (· < w.heap.size) base 37 (.slice A3 t.ps.length c3) t.ps ∧ Spp W (.slice A3 t.ps.length c3)) ∧ Value.ownBlock (.slice A3 t.ps.length c3) ≠ some g ∧
    Nl W (fun c => w.heap.size + 2 ≤ c ∧ Value.ownBlock (.slice A3 t.ps.length c3) ≠ some c) B3 d3 (cz t.k.v).mag
theorem norm_at {w W : World} {t : T} {g base : Nat} {A3 B3 : Option Addr} {c3 d3 : Nat} (hE : Ext w W) (hg : w.heap.size + 2 ≤ g) (hb : Box W g 27 #[.slice none 0 0, .bool false, .slice none 0 0]) (hb2 : Box W (w.heap.size + 1) 27 #[.slice none 0 0, .bool false, .slice none 0 0])
    (hbase : w.heap.size + 2 ≤ base) (hO : Own 3 EP W (· < w.heap.size) base 37 (.slice A3 t.ps.length c3) t.ps) (hS : Spp W (.slice A3 t.ps.length c3)) (hne : Value.ownBlock (.slice A3 t.ps.length c3) ≠ some g)
    (hN : Nl W (fun c => w.heap.size + 2 ≤ c ∧ Value.ownBlock (.slice A3 t.ps.length c3) ≠ some c ∧ c ≠ g) B3 d3 (cz t.k.v).mag) :
    NormAt w (((W.setCell ⟨g, 0, none⟩ (.slice A3 t.ps.length c3)).setCell ⟨g, 1, none⟩ (.bool (cz t.k.v).neg)).setCell ⟨g, 2, none⟩ (.slice B3 (cz t.k.v).mag.length d3)) t g A3 c3 B3 d3 := by
  have kp : Kp (fun c => c ≠ g) W (((W.setCell ⟨g, 0, none⟩ (.slice A3 t.ps.length c3)).setCell ⟨g, 1, none⟩ (.bool (cz t.k.v).neg)).setCell ⟨g, 2, none⟩ (.slice B3 (cz t.k.v).mag.length d3)) :=
    (((Kp.refl W).setCell (fun h => h rfl) _).setCell (fun h => h rfl) _).setCell (fun h => h rfl) _
  refine ⟨hg, xt, ?_, hb2.keep (X := fun c => c ≠ g) (by omega) kp, ⟨base, hbase, hO.keep (kp.imp fun c hc e => ?_), ((hS.far hne _).far hne _).far hne _⟩, hne, (hN.keep (kp.imp fun c hc => hc.2.2)).widen fun c hc _ => ⟨hc.1, hc.2.1⟩⟩
  · exact ((hb.set_ 0 _).set_ 1 _).set_ 2 _
  · rcases hc with hc | hc
    · omega
    · exact hne (by rw [hc, e])

set_option maxHeartbeats 1000000 in
theorem tnorm_f {v : Value} {t : T} {w : World} {X : Nat → Prop} {N : Nat} (h : Tv w X v t) (hN : N ≤ 17179869184) (hs : t.sz N) :
    Calls Tryz.prog 56 #[v] w fun e w' => ∃ r, e = .returned r ∧ TvF w' w.heap.size r t.nf ∧ Ext w w' := by
  have htv := h
  have hlb := h.lb
  obtain ⟨A, c, B, d, rfl, h1, h2⟩ := h
  have hs2 : t.sz (N + 2) := hs.mono (by omega)
  obtain ⟨s1, s2, s3⟩ := hs
  go_enter Tryz.func56, Tryz.ntmps56
  go_wp2_with fail
  refine (tvalid_c (htv.ext xt)).mono ?_
  rintro e w1 ⟨rfl, hx⟩
  (have b1 := Box.ext (g := w.heap.size) bxt hx; have b1r := b1.rules; have b1l := b1.lt)
  (have b2 := Box.ext (g := w.heap.size + 1) bxt hx; have b2r := b2.rules; have b2l := b2.lt)
  (have hsz := Ext.size hx; (try simp only [wsz] at hsz))
  have hE : Ext w w1 := xt
  rcases hval : t.valid with _ | _
  · go_wp2_with fail
    refine wp_region_seq 5 [(1, true), (2, true), (3, true), (0, false), (4, false), (5, false)] rfl (by kernel_rfl) (by intro _ _ d _ _ h; cases d <;> exact h) ?_
    (repeat (refine sq_take (v := ?_) rfl rfl ?_ ?_; rotate_left; (intro w' hx'; have hc' := hx'.cells.1; (try simp only [wcd] at hc'); go_simp; (first | done | with_reducible rfl)); (try simp only [pt])))
    (refine sq_loud rfl rfl fun K hK => ?_; go_simp)
    refine (zof_c 1 (by omega) (by omega) _).mono ?_
    rintro e w2 ⟨r, rfl, hz, hx2⟩
    (refine hK _ _ xt ?_; clear hK K; (try simp only [pt]))
    (repeat (refine sq_take (v := ?_) rfl rfl ?_ ?_; rotate_left; (intro w' hx'; have hc' := hx'.cells.1; (try simp only [wcd] at hc'); go_simp; (first | done | with_reducible rfl)); (try simp only [pt])))
    (refine sq_loud rfl rfl fun K hK => ?_; go_simp)
    refine (sum_c (hz) (htv.ext (hE.trans xt)) (zero_zi _ (fun _ => True)) (zero_tv _ (fun _ => True)) (N := N + 2) (by omega) (one_le N) hs2 (Nat.zero_le _) ⟨Nat.zero_le _, by simp, Nat.zero_le _⟩).mono ?_
    rw [nf_sum]
    rintro e w3 ⟨r3, rfl, h3, hx3⟩
    (refine hK _ _ xt ?_; clear hK K; (try simp only [pt]))
    have hF3 := h3
    obtain ⟨A3, c3, B3, d3, rfl, -, -, -⟩ := h3
    (have hsz2 := Ext.size hx2; (try simp only [wsz] at hsz2))
    (have hsz3 := Ext.size hx3; (try simp only [wsz] at hsz3))
    have hb3 : Box w3 (w.heap.size + 1) 27 #[.slice none 0 0, .bool false, .slice none 0 0] := (b2.drew.ext hx2).ext hx3
    have hb3r := hb3.rules
    have hb3l := hb3.lt
    have hE3 : Ext w w3 := hE.trans xt
    (repeat (refine sq_take (v := ?_) rfl rfl ?_ ?_; rotate_left; (intro w' hx'; have hc' := hx'.cells.1; (try simp only [wcd] at hc'); go_simp; (first | done | with_reducible rfl)); (try simp only [pt])))
    (refine sq_last rfl rfl fun K hK => ?_; go_simp; refine hK _ _ ?_; clear hK K)
    go_wp2_with fail
    (refine bodyPost_ret (v := ?_) ?_ rfl ?_; rotate_left; (simp only [results, Tryz.results56]; go_simp; (first | done | with_reducible rfl)))
    exact ⟨_, rfl, (hF3.keep kpt).lower (by first | omega | (simp only [wsz]; omega)), xt⟩
  · have hcz := valid_cz hval hlb
    have hkz := valid_kz hval hlb
    have HC := Lib.hid hcz; have HK := Lib.hid hkz; clear hcz hkz
    have hnf := Lib.hid ((valid_iff hlb).1 hval)
    go_wp2_with fail
    refine wp_region_tree 8 (.quiet 0 (.quiet 1 (.quiet 3 (.quiet 4 (.two 2 7 (.two 5 7 (.line [(6, true), (7, false), (8, false)]) (.line [(5, false), (6, true), (8, false)])) (.line [(2, false), (5, false), (6, true), (8, false)])))))) rfl (by kernel_rfl) (by intro _ _ d _ _ h; cases d <;> exact h) ?_
    (repeat (refine tr_take (v := ?_) rfl rfl ?_ ?_; rotate_left; (intro w' hx'; have hc' := hx'.cells.1; (try simp only [wcd] at hc'); go_simp; (first | done | with_reducible rfl)); (try simp only [pt])))
    obtain ⟨V, hV⟩ : ∃ V, V = w1.drew := ⟨_, rfl⟩
    have hVx : Ext w1 V := by rw [hV]; exact xt
    rw [← hV]
    clear hV
    have hVs := hVx.size
    clear b1r b2r
    have h1b : Pl V (· < w.heap.size) A c t.ps := (h1.below.ext hE).ext hVx
    refine tr_two rfl rfl rfl rfl (fun K hK => ?one) (fun K hK => ?two)
    case' one =>
      go_simp
      refine (clonep_c h1b (by omega)).mono ?_
      rintro e w2 ⟨v3, rfl, hO, hSp, hx2⟩
      have hO := hO.widen (Z' := fun b => b < w.heap.size) fun b hb _ => hb.1
      obtain ⟨A3, c3, rfl, hj⟩ := Own.sl hO (by omega) (X := fun _ => True) (fun _ _ => trivial)
      clear hj
      (have hsz2 := Ext.size hx2; (try simp only [wsz] at hsz2))
      refine hK _ _ xt ?_
      clear hK K
      (try simp only [pt])
      refine tr_two rfl rfl rfl rfl (fun K hK => ?oneA) (fun K hK => ?oneB)
    case' oneA =>
      go_simp
      refine (znorm_c (z := t.k) ⟨_, _, rfl, (h2.ext (hE.trans hVx)).ext xt⟩ (by omega)).mono ?_
      rintro e w3 ⟨r, rfl, ⟨B3, d3, rfl, hN3⟩, hx3⟩
      (have hsz3 := Ext.size hx3; (try simp only [wsz] at hsz3))
      refine hK _ _ xt ?_
      clear hK K
      (try simp only [pt])
      refine tr_line ?_
      (repeat (refine sq_take (v := ?_) rfl rfl ?_ ?_; rotate_left; (intro w' hx'; have hc' := hx'.cells.1; (try simp only [wcd] at hc'); go_simp; (first | done | with_reducible rfl)); (try simp only [pt])))
      (refine sq_loud rfl rfl fun K hK => ?_; go_simp)
      (refine hK _ _ xt ?_; clear hK K; (try simp only [pt]))
      obtain ⟨W, hW⟩ : ∃ W, W = w3.alloc (.cells #[.slice none 0 0, .bool false, .slice none 0 0] 27) := ⟨_, rfl⟩
      obtain ⟨g, hg⟩ : ∃ g, g = w3.heap.size := ⟨_, rfl⟩
      have hge : g ≤ w3.heap.size ∧ w3.heap.size ≤ g := ⟨Nat.le_of_eq hg, Nat.le_of_eq hg.symm⟩
      have hx4 : Ext w3 W := by rw [hW]; exact xt
      have hbx : Box W g 27 #[.slice none 0 0, .bool false, .slice none 0 0] := by rw [hW, hg]; exact Box.new _ _ _
      rw [← hW, ← hg]
      clear hW hg
      have hrow := hO.row
      have fin := norm_at (t := t) (c3 := c3) (g := g) ((hE.trans hVx).trans (Ext.trans (Ext.refl _) (hx2.trans (hx3.trans hx4)))) (by omega) hbx ((((b2.ext hVx).ext hx2).ext hx3).ext hx4) (base := V.heap.size) (by omega) ((hO.ext hx3).ext hx4) (Spz.ext hSp (fun c hc => (hrow c hc).2) (hx3.trans hx4)) (fun e => by have := hrow _ e; omega)
        ((hN3.widen fun b hb hl => ⟨by omega, fun e => by have := (hrow _ e).2; omega, by omega⟩).ext hx4)
      have hgr := hbx.rules
      have hgl := hbx.lt
      (refine sq_last rfl rfl fun K hK => ?_; go_simp; refine hK _ _ ?_; clear hK K)
      obtain ⟨Wf, hWf⟩ : ∃ Wf, Wf = (((W.setCell ⟨g, 0, none⟩ (.slice A3 t.ps.length c3)).setCell ⟨g, 1, none⟩ (.bool (cz t.k.v).neg)).setCell ⟨g, 2, none⟩ (.slice B3 (cz t.k.v).mag.length d3)) := ⟨_, rfl⟩
      rw [← hWf] at fin ⊢
      clear hWf
    case' oneB =>
      go_simp
      refine hK _ _ xt ?_
      clear hK K
      (try simp only [pt])
      refine tr_line ?_
      obtain ⟨W1, hW⟩ : ∃ W1, W1 = w2.alloc (.cells #[.slice none 0 0, .bool false, .slice none 0 0] 27) := ⟨_, rfl⟩
      obtain ⟨g, hg⟩ : ∃ g, g = w2.heap.size := ⟨_, rfl⟩
      have hge : g ≤ w2.heap.size ∧ w2.heap.size ≤ g := ⟨Nat.le_of_eq hg, Nat.le_of_eq hg.symm⟩
      have hx3 : Ext w2 W1 := by rw [hW]; exact xt
      have hbx0 : Box W1 g 27 #[.slice none 0 0, .bool false, .slice none 0 0] := by rw [hW, hg]; exact Box.new _ _ _
      rw [← hW, ← hg]
      clear hW hg
      (refine sq_loud rfl rfl fun K hK => ?_; go_simp)
      refine (znorm_c (z := t.k) ⟨_, _, rfl, (h2.ext (hE.trans hVx)).ext xt⟩ (by omega)).mono ?_
      rintro e W ⟨r, rfl, ⟨B3, d3, rfl, hN3⟩, hx4⟩
      (refine hK _ _ xt ?_; clear hK K; (try simp only [pt]))
      (repeat (refine sq_take (v := ?_) rfl rfl ?_ ?_; rotate_left; (intro w' hx'; have hc' := hx'.cells.1; (try simp only [wcd] at hc'); go_simp; (first | done | with_reducible rfl)); (try simp only [pt])))
      have hbx := hbx0.ext hx4
      have hrow := hO.row
      have hgl0 := hbx0.lt
      have fin := norm_at (t := t) (c3 := c3) (g := g) ((hE.trans hVx).trans (Ext.trans (Ext.refl _) (hx2.trans (hx3.trans hx4)))) (by omega) hbx ((((b2.ext hVx).ext hx2).ext hx3).ext hx4) (base := V.heap.size) (by omega) ((hO.ext hx3).ext hx4) (Spz.ext hSp (fun c hc => (hrow c hc).2) (hx3.trans hx4)) (fun e => by have := hrow _ e; omega)
        (hN3.widen fun b hb hl => ⟨by omega, fun e => by have := (hrow _ e).2; omega, by omega⟩)
      have hgr := hbx.rules
      have hgl := hbx.lt
      (refine sq_last rfl rfl fun K hK => ?_; go_simp; refine hK _ _ ?_; clear hK K)
      obtain ⟨Wf, hWf⟩ : ∃ Wf, Wf = (((W.setCell ⟨g, 0, none⟩ (.slice A3 t.ps.length c3)).setCell ⟨g, 1, none⟩ (.bool (cz t.k.v).neg)).setCell ⟨g, 2, none⟩ (.slice B3 (cz t.k.v).mag.length d3)) := ⟨_, rfl⟩
      rw [← hWf] at fin ⊢
      clear hWf
    case' two =>
      go_simp
      refine hK _ _ xt ?_
      clear hK K
      (try simp only [pt])
      refine tr_line ?_
      obtain ⟨W1, hW⟩ : ∃ W1, W1 = V.alloc (.cells #[.slice none 0 0, .bool false, .slice none 0 0] 27) := ⟨_, rfl⟩
      obtain ⟨g, hg⟩ : ∃ g, g = V.heap.size := ⟨_, rfl⟩
      have hge : g ≤ V.heap.size ∧ V.heap.size ≤ g := ⟨Nat.le_of_eq hg, Nat.le_of_eq hg.symm⟩
      have hx2 : Ext V W1 := by rw [hW]; exact xt
      have hbx0 : Box W1 g 27 #[.slice none 0 0, .bool false, .slice none 0 0] := by rw [hW, hg]; exact Box.new _ _ _
      rw [← hW, ← hg]
      clear hW hg
      have hgl0 := hbx0.lt
      (refine sq_loud rfl rfl fun K hK => ?_; go_simp)
      refine (clonep_c (h1b.ext hx2) (by omega)).mono ?_
      rintro e w3 ⟨v3, rfl, hO, hSp, hx3⟩
      have hO := hO.widen (Z' := fun b => b < w.heap.size) fun b hb _ => hb.1
      obtain ⟨A3, c3, rfl, hj⟩ := Own.sl hO (by omega) (X := fun _ => True) (fun _ _ => trivial)
      clear hj
      (have hsz3 := Ext.size hx3; (try simp only [wsz] at hsz3))
      (refine hK _ _ xt ?_; clear hK K; (try simp only [pt]))
      (refine sq_loud rfl rfl fun K hK => ?_; go_simp)
      refine (znorm_c (z := t.k) ⟨_, _, rfl, (h2.ext (hE.trans hVx)).ext xt⟩ (by omega)).mono ?_
      rintro e W ⟨r, rfl, ⟨B3, d3, rfl, hN3⟩, hx4⟩
      (refine hK _ _ xt ?_; clear hK K; (try simp only [pt]))
      (repeat (refine sq_take (v := ?_) rfl rfl ?_ ?_; rotate_left; (intro w' hx'; have hc' := hx'.cells.1; (try simp only [wcd] at hc'); go_simp; (first | done | with_reducible rfl)); (try simp only [pt])))
      have hbx := (hbx0.ext hx3).ext hx4
      have hrow := hO.row
      have fin := norm_at (t := t) (c3 := c3) (g := g) ((hE.trans hVx).trans (Ext.trans (Ext.refl _) (hx2.trans (hx3.trans hx4)))) (by omega) hbx ((((b2.ext hVx).ext hx2).ext hx3).ext hx4) (base := W1.heap.size) (by omega) (hO.ext hx4) (Spz.ext hSp (fun c hc => (hrow c hc).2) hx4) (fun e => by have := hrow _ e; omega)
        (hN3.widen fun b hb hl => ⟨by omega, fun e => by have := (hrow _ e).2; omega, by omega⟩)
      have hgr := hbx.rules
      have hgl := hbx.lt
      (refine sq_last rfl rfl fun K hK => ?_; go_simp; refine hK _ _ ?_; clear hK K)
      obtain ⟨Wf, hWf⟩ : ∃ Wf, Wf = (((W.setCell ⟨g, 0, none⟩ (.slice A3 t.ps.length c3)).setCell ⟨g, 1, none⟩ (.bool (cz t.k.v).neg)).setCell ⟨g, 2, none⟩ (.slice B3 (cz t.k.v).mag.length d3)) := ⟨_, rfl⟩
      rw [← hWf] at fin ⊢
      clear hWf
    all_goals
      obtain ⟨hgs, hEW, hbg, hbr, ⟨base, hbs, hOW, hSW⟩, hne, hNk⟩ := fin
      have hOF : Own 3 (EPF (w.heap.size + 2)) Wf (fun _ => True) base 37 (.slice A3 t.ps.length c3) (flg t.ps 0) := by
        have := hOW.conv (E' := EPF (w.heap.size + 2)) (Z2 := fun _ => True) (fun p => (false, p)) (fun cs a _ h => Stab.widen (E := EP) h fun b hb _ => ⟨⟨trivial, hb.2⟩, fun h => absurd h (by simp)⟩)
        simpa [flg] using this
      clear hOW
      have hgr := hbg.rules
      have hgl := hbg.lt
      go_wp2_with fail
      go_loopw [24] (fun iv wr => ∃ k : Nat, k ≤ t.ps.length ∧ iv = .int .i64 k ∧ Own 3 (EPF (w.heap.size + 2)) wr (fun _ => True) base 37 (.slice A3 t.ps.length c3) (flg t.ps k) ∧ Spp wr (.slice A3 t.ps.length c3) ∧ Kp (fun c => Value.ownBlock (.slice A3 t.ps.length c3) ≠ some c) Wf wr ∧ Ext w wr ∧ Wf.heap.size ≤ wr.heap.size) (fun iv _ => t.ps.length - (intOf iv).toNat)
      case atStart => exact ⟨0, Nat.zero_le _, rfl, hOF, hSW, Kp.refl _, hEW, Nat.le_refl _⟩
      case round =>
        clear hOF hgr hgl
        obtain ⟨k, hk, rfl, hO, hSp, kp, hx4, hsr⟩ := hrel
        have hrow := hO.row
        have hbgk := hbg.keep (X := fun c => Value.ownBlock (.slice A3 t.ps.length c3) ≠ some c) hne kp
        have hgr := hbgk.rules
        have hgl := hbgk.lt
        have hbrk := hbr.keep (X := fun c => Value.ownBlock (.slice A3 t.ps.length c3) ≠ some c) (fun e => by have := (hO.row _ e).1; omega) kp
        have hbrr := hbrk.rules
        have hbrl := hbrk.lt
        by_cases hlt : k < t.ps.length
        · have hP : Own 3 EP wr (fun _ => True) base 37 (.slice A3 t.ps.length c3) t.ps := by
            have := hO.conv (E' := EP) (Z2 := fun _ => True) Prod.snd (fun cs a _ h => Stab.widen (E := EP) h fun b hb _ => hb.1)
            rwa [flg_snd] at this
          obtain ⟨A4, c4, e4, hs4⟩ := Own.sl hP (by omega) (X := fun _ => True) (fun _ _ => trivial)
          injection e4 with e4 e5 e6
          subst e4; subst e6
          clear e5
          obtain ⟨b, o, B', d', rfl, hX, hc0, hc1, hc2, hi, hN2⟩ := Pl.at_ hs4 hlt
          obtain ⟨rfl, -, hbb, hbw⟩ := hP.adr
          simp only [Nat.zero_add] at hc0 hc1 hc2
          have kl : (k : Int) < (t.ps.length : Int) := by omega
          have kw := w64n (n := k) (by omega)
          have hbf : ∀ o, wr.frozen? ⟨b, o, none⟩ = false := Own.frz hP
          go_wp2_with fail
          refine wp_region_seq2 8 [(0, true), (1, true), (2, true), (3, true), (4, true), (5, false), (6, true), (7, true), (8, false)] rfl (by kernel_rfl) (by intro _ _ d _ _ h; cases d <;> exact h) ?_
          (repeat (refine sq_take (v := ?_) rfl rfl ?_ ?_; rotate_left; (intro w' hx'; have hc' := hx'.cells.1; (try simp only [wcd] at hc'); go_simp; (first | done | with_reducible rfl)); (try simp only [pt])))
          (refine sq_loud rfl rfl fun K hK => ?_; go_simp)
          refine (znorm_c (z := (pth t.ps k).2) ⟨_, _, rfl, hN2.ext xt⟩ (Nat.le_trans (s2 _ (pth_mem hlt)) (by omega))).mono ?_
          rw [HC.out _ (pth_mem hlt)]
          rintro e w4 ⟨r, rfl, ⟨B4, d4, rfl, hN4⟩, hx5⟩
          (have hsz5 := Ext.size hx5; (try simp only [wsz] at hsz5))
          (refine hK _ _ xt ?_; clear hK K; (try simp only [pt]))
          (repeat (refine sq_take (v := ?_) rfl rfl ?_ ?_; rotate_left; (intro w' hx'; have hc' := hx'.cells.1; (try simp only [wcd] at hc'); go_simp; (first | done | with_reducible rfl)); (try simp only [pt])))
          have hxx : Ext wr w4 := xt
          have hO4 := hO.ext hxx
          have hbf4 : ∀ o, w4.frozen? ⟨b, o, none⟩ = false := Own.frz hO4
          have hcc := hxx.cells.1
          have hSp4 := Spz.ext hSp (fun c hc => (hrow c hc).2) hxx
          (refine sq_last rfl rfl fun K hK => ?_; go_simp; refine hK _ _ ?_; clear hK K)
          go_wp2_with fail
          have p2 := own_norm (d4 := d4) (B4 := B4) hO4 hlt ((hN4.widen fun c hc hl => by
            simp only [wsz] at hc
            exact ⟨by omega, by omega⟩))
          obtain ⟨q1, q2, q3⟩ := step_norm (w := w) (b := b) (v := .slice (some ⟨b, 0, none⟩) t.ps.length c3) (o1 := k * 3 + 1) (o2 := k * 3 + 2) (u1 := .bool (pth t.ps k).2.neg) (u2 := .slice B4 (pth t.ps k).2.mag.length d4) kp (hx4.trans hxx) hxx hsr rfl (by omega)
          go_roundw
          case rel => exact ⟨k + 1, by omega, by go_num, p2, (hSp4.put (by omega) _).put (by omega) _, q1, q2, q3⟩
          case measure => simp [intOf] <;> omega
        · obtain rfl : k = t.ps.length := by omega
          have hP : Own 3 EP wr (w.heap.size + 2 ≤ ·) base 37 (.slice A3 t.ps.length c3) t.ps := by
            have := hO.conv (E' := EP) (Z2 := (w.heap.size + 2 ≤ ·)) Prod.snd (fun cs a ha h => Stab.widen (E := EP) h fun b hb _ => ⟨hb.2 (by
              simp only [flg, List.take_length, List.drop_length, List.map_nil, List.append_nil, List.mem_map] at ha
              obtain ⟨p, _, rfl⟩ := ha
              rfl), hb.1.2⟩)
            rwa [flg_snd] at this
          have hNr := (hNk.keep (kp.imp fun c hc => hc.2)).widen (Y := (w.heap.size + 2 ≤ ·)) fun c hc _ => hc.1
          go_wp2_with fail
          (refine bodyPost_ret (v := ?_) ?_ rfl ?_; rotate_left; (simp only [results, Tryz.results56]; go_simp; (first | done | with_reducible rfl)))
          exact end_norm (hP.lower hbs) hSp hNr HK.out hnf.out hx4

theorem tnorm_c {v : Value} {t : T} {w : World} {X : Nat → Prop} {N : Nat} (h : Tv w X v t) (hN : N ≤ 17179869184) (hs : t.sz N) :
    Calls Tryz.prog 56 #[v] w fun e w' => ∃ r, e = .returned r ∧ Tv w' (w.heap.size ≤ ·) r t.nf ∧ Ext w w' :=
  (tnorm_f h hN hs).mono fun _ _ ⟨r, e, h1, h2⟩ => ⟨r, e, h1.tv, h2⟩

end Go.Proofs.YthmjgbkakjpfkaaGreatDoor

namespace Go.Proofs.YthmjgbkakjpfkaaGreatDoor
open Go.RowKit

end Go.Proofs.YthmjgbkakjpfkaaGreatDoor

namespace Go.Proofs.YthmjgbkakjpfkaaGreatDoor
open Go.RowKit

theorem nf_add (a b : T) : ct (sc (cz 1).v (vl a.ps) ++ sc (cz 1).v (vl b.ps)) ((cz 1).v * a.k.v + (cz 1).v * b.k.v) = ct (vl a.ps ++ vl b.ps) (a.k.v + b.k.v) := by
  rw [cz_v, sc_one, sc_one, Int.one_mul, Int.one_mul]
theorem nf_scale (k : Z) (t : T) : ct (sc k.v (vl t.ps) ++ sc (Z.v ⟨false, []⟩) (vl [])) (k.v * t.k.v + Z.v ⟨false, []⟩ * Z.v ⟨false, []⟩) = ct (sc k.v (vl t.ps)) (k.v * t.k.v) := by
  refine ct_congr (fun x => ?_) ?_
  · rw [cf_append]; simp [vl, sc, cf]
  · simp [Z.v, nv]

set_option maxHeartbeats 800000 in
theorem tscale_f {kv v : Value} {k : Z} {t : T} {w : World} {X Y : Nat → Prop} {N : Nat} (hk : Zi w X kv k) (h : Tv w Y v t) (hN : N ≤ 34359738368) (sk : k.mag.length ≤ N) (s : t.sz N) :
    Calls Tryz.prog 42 #[kv, v] w fun e w' => ∃ r, e = .returned r ∧ TvF w' w.heap.size r (ct (sc k.v (vl t.ps)) (k.v * t.k.v)) ∧ Ext w w' := by
  obtain ⟨K, kc, rfl, hk⟩ := hk
  obtain ⟨A, c, B, d, rfl, h1, h2⟩ := h
  go_enter Tryz.func42, Tryz.ntmps42
  go_wp2_with fail
  refine (sum_c (k := k) (a := t) ⟨_, _, rfl, hk.ext xt⟩ ⟨_, _, _, _, rfl, h1.ext xt, h2.ext xt⟩ (zero_zi _ (fun _ => True)) (zero_tv _ (fun _ => True)) hN sk s (Nat.zero_le _) ⟨Nat.zero_le _, by simp, Nat.zero_le _⟩).mono ?_
  rw [nf_scale]
  rintro e w1 ⟨r, rfl, hF, hx⟩
  have hF3 := hF
  obtain ⟨A1, c1, B1, d1, rfl, -, -, -⟩ := hF
  have hc := hx.cells
  (have hs := Ext.size hx; (try simp only [wsz] at hs))
  go_wp2_with fail
  (refine bodyPost_ret (v := ?_) ?_ rfl ?_; rotate_left; (simp only [results, Tryz.results42]; go_simp; (first | done | with_reducible rfl)))
  exact ⟨_, rfl, (hF3.keep kpt).lower (by first | omega | (simp only [wsz]; omega)), xt⟩

theorem tscale_c {kv v : Value} {k : Z} {t : T} {w : World} {X Y : Nat → Prop} {N : Nat} (hk : Zi w X kv k) (h : Tv w Y v t) (hN : N ≤ 34359738368) (sk : k.mag.length ≤ N) (s : t.sz N) :
    Calls Tryz.prog 42 #[kv, v] w fun e w' => ∃ r, e = .returned r ∧ Tv w' (w.heap.size ≤ ·) r (ct (sc k.v (vl t.ps)) (k.v * t.k.v)) ∧ Ext w w' :=
  (tscale_f hk h hN sk s).mono fun _ _ ⟨r, e, h1, h2⟩ => ⟨r, e, h1.tv, h2⟩

theorem one_len (N : Nat) (h : 2 ≤ N) : (cz 1).mag.length ≤ N ∧ (cz (-1)).mag.length ≤ N := by
  rw [cz_len, cz_len]
  exact ⟨Nat.le_trans (zl_word (x := 1) (by omega)) h, Nat.le_trans (zl_word (x := -1) (by omega)) h⟩

set_option maxHeartbeats 800000 in
theorem tadd_f {av bv : Value} {a b : T} {w : World} {X Y : Nat → Prop} {N : Nat} (ha : Tv w X av a) (hb : Tv w Y bv b) (hN : N ≤ 34359738368) (h2N : 2 ≤ N) (sa : a.sz N) (sb : b.sz N) :
    Calls Tryz.prog 44 #[av, bv] w fun e w' => ∃ r, e = .returned r ∧ TvF w' w.heap.size r (ct (vl a.ps ++ vl b.ps) (a.k.v + b.k.v)) ∧ Ext w w' := by
  obtain ⟨A, c, AK, d, rfl, ha1, ha2⟩ := ha
  obtain ⟨B, c', BK, d', rfl, hb1, hb2⟩ := hb
  go_enter Tryz.func44, Tryz.ntmps44
  go_wp2_with fail
  refine wp_region_seq 5 [(1, true), (3, true), (0, false), (2, false), (4, false), (5, false)] rfl (by kernel_rfl) (by intro _ _ d _ _ h; cases d <;> exact h) ?_
  (repeat (refine sq_take (v := ?_) rfl rfl ?_ ?_; rotate_left; (intro w' hx'; have hc' := hx'.cells.1; (try simp only [wcd] at hc'); go_simp; (first | done | with_reducible rfl)); (try simp only [pt])))
  (refine sq_loud rfl rfl fun K hK => ?_; go_simp)
  refine (zof_c 1 (by omega) (by omega) _).mono ?_
  rintro e w1 ⟨r1, rfl, hz1, hx1⟩
  (have hs1 := Ext.size hx1; (try simp only [wsz] at hs1))
  (refine hK _ _ xt ?_; clear hK K; (try simp only [pt]))
  (refine sq_loud rfl rfl fun K hK => ?_; go_simp)
  refine (zof_c 1 (by omega) (by omega) _).mono ?_
  rintro e w2 ⟨r2, rfl, hz2, hx2⟩
  (have hs2 := Ext.size hx2; (try simp only [wsz] at hs2))
  (refine hK _ _ xt ?_; clear hK K; (try simp only [pt]))
  (refine sq_loud rfl rfl fun K hK => ?_; go_simp)
  refine (sum_c (a := a) (b := b) (hz1.ext hx2) ⟨_, _, _, _, rfl, ha1.ext xt, ha2.ext xt⟩ hz2 ⟨_, _, _, _, rfl, hb1.ext xt, hb2.ext xt⟩ hN (one_len N h2N).1 sa (one_len N h2N).1 sb).mono ?_
  rw [nf_add]
  rintro e w3 ⟨r, rfl, hF, hx3⟩
  have hF3 := hF
  obtain ⟨A1, c1, B1, d1, rfl, -, -, -⟩ := hF
  (have hs3 := Ext.size hx3; (try simp only [wsz] at hs3))
  have hb3 : Box w3 (w.heap.size + 1 + 1) 27 #[.slice none 0 0, .bool false, .slice none 0 0] := bxt
  have hb3r := hb3.rules
  have hb3l := hb3.lt
  (refine hK _ _ xt ?_; clear hK K; (try simp only [pt]))
  (repeat (refine sq_take (v := ?_) rfl rfl ?_ ?_; rotate_left; (intro w' hx'; have hc' := hx'.cells.1; (try simp only [wcd] at hc'); go_simp; (first | done | with_reducible rfl)); (try simp only [pt])))
  (refine sq_last rfl rfl fun K hK => ?_; go_simp; refine hK _ _ ?_; clear hK K)
  go_wp2_with fail
  (refine bodyPost_ret (v := ?_) ?_ rfl ?_; rotate_left; (simp only [results, Tryz.results44]; go_simp; (first | done | with_reducible rfl)))
  exact ⟨_, rfl, (hF3.keep kpt).lower (by first | omega | (simp only [wsz]; omega)), xt⟩

theorem tadd_c {av bv : Value} {a b : T} {w : World} {X Y : Nat → Prop} {N : Nat} (ha : Tv w X av a) (hb : Tv w Y bv b) (hN : N ≤ 34359738368) (h2N : 2 ≤ N) (sa : a.sz N) (sb : b.sz N) :
    Calls Tryz.prog 44 #[av, bv] w fun e w' => ∃ r, e = .returned r ∧ Tv w' (w.heap.size ≤ ·) r (ct (vl a.ps ++ vl b.ps) (a.k.v + b.k.v)) ∧ Ext w w' :=
  (tadd_f ha hb hN h2N sa sb).mono fun _ _ ⟨r, e, h1, h2⟩ => ⟨r, e, h1.tv, h2⟩

end Go.Proofs.YthmjgbkakjpfkaaGreatDoor

namespace Go.Proofs.YthmjgbkakjpfkaaGreatDoor
open Go.RowKit Go.Shelf

end Go.Proofs.YthmjgbkakjpfkaaGreatDoor

namespace Go.Proofs.YthmjgbkakjpfkaaGreatDoor
open Go.RowKit Go.Shelf

end Go.Proofs.YthmjgbkakjpfkaaGreatDoor
