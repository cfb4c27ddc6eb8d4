/- term.gathered. No conditions. -/
import Derived.Test.YtbblgjjomgipfaaRg
import Derived.Test.YtbblgjjomgipfaaSortP
import Derived.Test.YtbblgjjomgipfaaZint
namespace Go.Proofs.Ytbblgjjomgipfaa
open Go.RowKit Go.Maps

set_option maxHeartbeats 1600000 in
theorem gath_c {B : Nat} {w : World} {X Y : Nat → Prop} {b n : Nat} {f : Int → Int} {kv : Value} {k : Z} (hM : Mp w X b n f) (hk : Zi w Y kv k) (hL : k.mag.length ≤ 4398046511104) (hn : n ≤ 1099511627776) (hf : ∀ x, f x ≠ 0 → i64 x) (hB : B ≤ w.heap.size) (hX : ∀ c, X c → B ≤ c) :
    Calls Try.prog 103 #[.map (some b), kv] w fun e w' => ∃ r l, e = .returned r ∧ Canon l ∧ (∀ x, cf l x = f x) ∧ TvF w' B r ⟨cl l, cz k.v⟩ ∧ Ext w w' := by
  obtain ⟨A, c, rfl, hk⟩ := hk
  have hM0 : Mp w (fun c => X c ∧ c < w.heap.size) b n f := hM.widen fun c hc hl => ⟨hc, hl⟩
  clear hM
  go_enter Try.func103, Try.ntmps103
  go_wp2_with fail
  refine (znorm_c (z := k) ⟨_, _, rfl, hk.ext (by repeat (first | with_reducible assumption | with_reducible exact Ext.refl _ | with_reducible refine Ext.drewN ?_ _ | with_reducible refine Ext.drew ?_ | with_reducible refine Ext.alloc ?_ _ | (with_reducible refine Ext.setCell ?_ ?_ _; rotate_left; (first | exact Nat.le_refl _ | (dsimp only; omega) | (simp only [wsz]; omega))) | (with_reducible refine Ext.trans ?_ (by with_reducible assumption))))⟩ hL).mono ?_
  rintro e w1 ⟨r, rfl, ⟨A1, c1, rfl, h1⟩, hx⟩
  (have b4 := Box.ext (g := w.heap.size + 1) (by repeat (first | with_reducible assumption | with_reducible exact Box.new _ _ _ | (with_reducible refine Box.new_at _ _ _ ?_; (simp only [wsz]; done)) | with_reducible refine Box.drewN ?_ _ | with_reducible refine Box.drew ?_ | with_reducible refine Box.alloc ?_ _ | with_reducible apply Box.drewN | with_reducible apply Box.drew | with_reducible apply Box.alloc | with_reducible refine Box.set_ ?_ _ _ | (with_reducible refine Box.far ?_ ?_ _; rotate_left; (simp only [ne_eq]; omega)) | (with_reducible refine Box.ext ?_ (by with_reducible assumption)) | (refine Box.new_at _ _ _ ?_; simp only [wsz]; done))) hx; have b4r := b4.rules; have b4l := b4.lt)
  (have hs := Ext.size hx; (try simp only [wsz] at hs))
  go_wp2_with (first
    | (at_range
       refine wpList_rg (.tmp 11) (Mp.ext hM0 (by repeat (first | with_reducible assumption | with_reducible exact Ext.refl _ | with_reducible refine Ext.drewN ?_ _ | with_reducible refine Ext.drew ?_ | with_reducible refine Ext.alloc ?_ _ | (with_reducible refine Ext.setCell ?_ ?_ _; rotate_left; (first | exact Nat.le_refl _ | (dsimp only; omega) | (simp only [wsz]; omega))) | (with_reducible refine Ext.trans ?_ (by with_reducible assumption))))) hf rfl rfl rfl ?_
       intro W lf cnt hR hcnt hlf hxW hsW)
    | fail)
  go_frame
  simp only [World.size_alloc] at hR ⊢
  have hb4 := b4.ext (w' := W) (by repeat (first | with_reducible assumption | with_reducible exact Ext.refl _ | with_reducible refine Ext.drewN ?_ _ | with_reducible refine Ext.drew ?_ | with_reducible refine Ext.alloc ?_ _ | (with_reducible refine Ext.setCell ?_ ?_ _; rotate_left; (first | exact Nat.le_refl _ | (dsimp only; omega) | (simp only [wsz]; omega))) | (with_reducible refine Ext.trans ?_ (by with_reducible assumption))))
  have hb5 : Box W w1.heap.size 27 #[.slice none 0 0, .bool (cz k.v).neg, .slice A1 (cz k.v).mag.length c1] := (by repeat (first | with_reducible assumption | with_reducible exact Box.new _ _ _ | (with_reducible refine Box.new_at _ _ _ ?_; (simp only [wsz]; done)) | with_reducible refine Box.drewN ?_ _ | with_reducible refine Box.drew ?_ | with_reducible refine Box.alloc ?_ _ | with_reducible apply Box.drewN | with_reducible apply Box.drew | with_reducible apply Box.alloc | with_reducible refine Box.set_ ?_ _ _ | (with_reducible refine Box.far ?_ ?_ _; rotate_left; (simp only [ne_eq]; omega)) | (with_reducible refine Box.ext ?_ (by with_reducible assumption)) | (refine Box.new_at _ _ _ ?_; simp only [wsz]; done)))
  have hN1 : Nl W (fun c => w.heap.size + 2 ≤ c ∧ c < w1.heap.size) A1 c1 (cz k.v).mag := Nl.ext (h1.widen fun b hb hl => ⟨by simp only [World.size_alloc] at hb; omega, hl⟩) (by repeat (first | with_reducible assumption | with_reducible exact Ext.refl _ | with_reducible refine Ext.drewN ?_ _ | with_reducible refine Ext.drew ?_ | with_reducible refine Ext.alloc ?_ _ | (with_reducible refine Ext.setCell ?_ ?_ _; rotate_left; (first | exact Nat.le_refl _ | (dsimp only; omega) | (simp only [wsz]; omega))) | (with_reducible refine Ext.trans ?_ (by with_reducible assumption))))
  have hWl : Ext w W := (by repeat (first | with_reducible assumption | with_reducible exact Ext.refl _ | with_reducible refine Ext.drewN ?_ _ | with_reducible refine Ext.drew ?_ | with_reducible refine Ext.alloc ?_ _ | (with_reducible refine Ext.setCell ?_ ?_ _; rotate_left; (first | exact Nat.le_refl _ | (dsimp only; omega) | (simp only [wsz]; omega))) | (with_reducible refine Ext.trans ?_ (by with_reducible assumption))))
  simp only [World.size_alloc] at hsW
  go_loopw [] (fun wr => ∃ lf cnt l v, Rg wr (fun c => X c ∧ c < w.heap.size) b (w1.heap.size + 1) n f lf cnt ∧ l.length + cnt ≤ n ∧ (l.map Prod.fst).Nodup ∧ (∀ p ∈ l, (p.2 = f p.1 ∧ p.2 ≠ 0) ∧ i64 p.1 ∧ lf p.1 = false) ∧
      (∀ x, f x ≠ 0 → lf x = true ∨ x ∈ l.map Prod.fst) ∧ Own 3 EP wr (fun c => X c ∧ c < w.heap.size) W.heap.size 69 v (cl l) ∧ Spp wr v ∧
      Box wr w1.heap.size 27 #[v, .bool (cz k.v).neg, .slice A1 (cz k.v).mag.length c1] ∧ Box wr (w.heap.size + 1) 27 #[.slice none 0 0, .bool false, .slice none 0 0] ∧ Ext w wr ∧
      W.heap.size ≤ wr.heap.size ∧ Nl wr (fun c => w.heap.size + 2 ≤ c ∧ c < w1.heap.size) A1 c1 (cz k.v).mag) (fun wr => wr.rangeLeft b (w1.heap.size + 1))
  case atStart =>
    refine ⟨lf, cnt, [], _, hR, by simpa using hcnt, by simp, by simp, fun x hx => .inl (hlf x hx), Own.nil _ _ _ _, Spz.nil _ _ _, hb5, hb4, hWl, Nat.le_refl _, hN1⟩
  case round =>
    clear hR hcnt hlf hb5 hb4 hN1
    obtain ⟨lf, cnt, l, v, hR, hcnt, hnd, hl, hlf, hO, hSp, hb5, hb4, hxr, hsr, hN1⟩ := hrel
    have hsl := hxr.size
    have hRl := hR.lt
    go_wp2_with (first
      | (at_next
         refine wpList_rgnext (.tmp 12) hR (by omega) rfl rfl rfl ?_ ?_)
      | fail)
    · intro hdone
      have hb4r := hb4.rules
      have hb5r := hb5.rules
      obtain ⟨A2, c2, rfl, hs2⟩ := Own.sl hO (by omega) (X := fun c => (X c ∧ c < w.heap.size) ∨ w.heap.size ≤ c) (fun c hc => by rcases hc with hc | hc; exact .inl hc; exact .inr (by omega))
      clear hs2
      go_wp2_with fail
      refine (sortp_c hO (by rw [cl_len]; omega)).mono ?_
      rintro e w3 ⟨rfl, m, hp, hsrt, hO3, hg3, hSp3⟩
      have hSp3 := hSp3 hSp
      have hrow3 := hO3.row
      have hown : ∀ g, Value.ownBlock (.slice A2 (cl l).length c2) = some g → W.heap.size ≤ g := fun g hg => (hO.row g hg).1
      have hb5' := hb5.grown hg3 (fun e => by have := hown _ e.symm; omega)
      have hb4' := hb4.grown hg3 (fun e => by have := hown _ e.symm; omega)
      have hx3 := hxr.grown hg3 (fun g hg => by have := hown g hg; omega)
      have kp3 : Kp (fun c => w.heap.size + 2 ≤ c ∧ c < w1.heap.size) wr w3 := fun c hc hl => hg3.block c hl (fun e => by have := hown c e.symm; omega)
      have hN3 := hN1.keep kp3
      obtain ⟨e1, hcan, hcf⟩ := sorted_canon hp hsrt hnd (fun p hp => (hl p hp).1) (fun x hx => (hlf x hx).resolve_left (by rw [hdone x (hf x hx)]; simp))
      obtain ⟨A3, c3, e3, hs3⟩ := Own.sl hO3 (by omega) (X := fun c => (X c ∧ c < w.heap.size) ∨ W.heap.size ≤ c) (fun c hc => hc)
      injection e3 with e3 e4 e5
      subst e3; subst e5
      clear hs3
      have hb4r' := hb4'.rules
      have hb5r' := hb5'.rules
      have E1 := Lib.hid e1; have E4 := Lib.hid e4; have HC := Lib.hid hcf
      clear hb4r hb5r hcnt hl hlf e1 e4 hcf
      go_wp2_with fail
      (refine bodyPost_ret (v := ?_) ?_ rfl ?_; rotate_left; (simp only [results, Try.results103]; go_simp; (first | done | with_reducible rfl)))
      have e4 := E4.out
      have e6 : (cl l).length = (cl (vl m)).length := by rw [← E1.out]; exact e4
      have hO4 : Own 3 EP w3 (fun c => X c ∧ c < w.heap.size) W.heap.size 69 (.slice A2 (cl (vl m)).length c2) (cl (vl m)) := by
        have h := hO3
        rw [E1.out] at h
        rwa [e6] at h
      have hSp4 : Spp w3 (.slice A2 (cl (vl m)).length c2) := by rw [← e6]; exact hSp3
      have hrow4 := hO4.row
      refine ⟨_, vl m, rfl, hcan, HC.out, ⟨A2, c2, A1, c1, ?_, Own.widen (Own.lower (b2 := B) (Own.keep hO4 (Kp.imp (Y := fun c => c < w.heap.size ∨ W.heap.size ≤ c) (by repeat (first | with_reducible exact Kp.refl _ | with_reducible refine Kp.drewN ?_ _ | with_reducible refine Kp.drew ?_ | with_reducible refine Kp.alloc ?_ _ | (with_reducible refine Kp.setCell ?_ ?_ _; rotate_left; (first | (dsimp only; omega) | (simp only [wsz]; omega))) | (with_reducible exact Kp.of_ext (by with_reducible assumption)) | (with_reducible refine Kp.ext ?_ (by with_reducible assumption)))) ?_)) (by omega)) ?_, Spz.keep hSp4 (fun c hc => (hrow4 c hc).2) (Kp.imp (Y := fun c => c < w.heap.size ∨ W.heap.size ≤ c) (by repeat (first | with_reducible exact Kp.refl _ | with_reducible refine Kp.drewN ?_ _ | with_reducible refine Kp.drew ?_ | with_reducible refine Kp.alloc ?_ _ | (with_reducible refine Kp.setCell ?_ ?_ _; rotate_left; (first | (dsimp only; omega) | (simp only [wsz]; omega))) | (with_reducible exact Kp.of_ext (by with_reducible assumption)) | (with_reducible refine Kp.ext ?_ (by with_reducible assumption)))) ?_), (hN3.keep (by repeat (first | with_reducible exact Kp.refl _ | with_reducible refine Kp.drewN ?_ _ | with_reducible refine Kp.drew ?_ | with_reducible refine Kp.alloc ?_ _ | (with_reducible refine Kp.setCell ?_ ?_ _; rotate_left; (first | (dsimp only; omega) | (simp only [wsz]; omega))) | (with_reducible exact Kp.of_ext (by with_reducible assumption)) | (with_reducible refine Kp.ext ?_ (by with_reducible assumption))))).widen ?_⟩, (by repeat (first | with_reducible assumption | with_reducible exact Ext.refl _ | with_reducible refine Ext.drewN ?_ _ | with_reducible refine Ext.drew ?_ | with_reducible refine Ext.alloc ?_ _ | (with_reducible refine Ext.setCell ?_ ?_ _; rotate_left; (first | exact Nat.le_refl _ | (dsimp only; omega) | (simp only [wsz]; omega))) | (with_reducible refine Ext.trans ?_ (by with_reducible assumption))))⟩
      · rw [e6]
      · intro c hc
        rcases hc with hc | hc
        · exact .inl hc.2
        · exact .inr (hrow4 c hc).1
      · intro c hc _
        exact hX c hc.1
      · intro c hc
        exact .inr (hrow4 c hc).1
      · intro c hc _
        show B ≤ c
        omega
    · intro x A2 c2 w2 cnt2 hi hlx hN2 hR2 hlt hg2 hs2 hen
      have hx2 := hxr.grown hg2 (fun g hg => by injection hg; omega)
      have kp2 := Kp.grown1 hg2
      go_wp2_with fail
      refine (zsign_c (z := cz (f x)) ⟨_, _, rfl, hN2.ext (by repeat (first | with_reducible assumption | with_reducible exact Ext.refl _ | with_reducible refine Ext.drewN ?_ _ | with_reducible refine Ext.drew ?_ | with_reducible refine Ext.alloc ?_ _ | (with_reducible refine Ext.setCell ?_ ?_ _; rotate_left; (first | exact Nat.le_refl _ | (dsimp only; omega) | (simp only [wsz]; omega))) | (with_reducible refine Ext.trans ?_ (by with_reducible assumption))))⟩).mono ?_
      rintro e w3 ⟨rfl, hx3⟩
      rw [cz_v]
      have hxx : Ext w w3 := (by repeat (first | with_reducible assumption | with_reducible exact Ext.refl _ | with_reducible refine Ext.drewN ?_ _ | with_reducible refine Ext.drew ?_ | with_reducible refine Ext.alloc ?_ _ | (with_reducible refine Ext.setCell ?_ ?_ _; rotate_left; (first | exact Nat.le_refl _ | (dsimp only; omega) | (simp only [wsz]; omega))) | (with_reducible refine Ext.trans ?_ (by with_reducible assumption))))
      have kp3 := Kp.ext (kp2.alloc _) hx3
      have hb5' := hb5.keep (by omega) kp3
      have hb4' := hb4.keep (by omega) kp3
      have hO3 := hO.keep (kp3.imp fun c hc => by
        rcases hc with hc | hc
        · omega
        · have := (hO.row c hc).1; omega)
      have hN3 := hN1.keep (kp3.imp fun c hc => by omega)
      have hSp3 := hSp.keep (fun c hc => (hO.row c hc).2) (kp3.imp fun c hc => by have := (hO.row c hc).1; omega)
      have hR3 := Rg.ext hR2 ((Ext.alloc (Ext.refl _) _).trans hx3)
      (have hsz := Ext.size hx3; (try simp only [wsz] at hsz))
      by_cases h0 : f x = 0
      · have e0 : (sgn (f x) != 0) = false := by rw [h0]; rfl
        go_wp2_with fail
        go_roundw
        case rel =>
          refine ⟨_, cnt2, l, v, hR3, by omega, hnd, fun p hp => ⟨(hl p hp).1, (hl p hp).2.1, by rw [(hl p hp).2.2]; rfl⟩, fun z hz => ?_, hO3, hSp3, hb5', hb4', hxx, by omega, hN3⟩
          rcases hlf z hz with h | h
          · have : z ≠ x := fun e => hz (e ▸ h0)
            exact .inl (by simp [h, this])
          · exact .inr h
        case measure => rw [hR3.cnt, hR.cnt]; exact hlt
      · have e0 : (sgn (f x) != 0) = true := by rw [bne_iff_ne]; exact fun h => h0 (sgn_zero.1 h)
        have hb5r := hb5'.rules
        have bp := Box.ext (g := wr.heap.size) (Box.new_at _ _ _ hs2.symm) hx3
        have bpr := bp.rules
        have hcl : (cl l ++ [(x, cz (f x))]) = cl (l ++ [(x, f x)]) := by rw [cl_append]; rfl
        have hlen := Lib.hid (cl_len l)
        have hNX : Nl w3 (fun b => (X b ∧ b < w.heap.size) ∧ v.ownBlock ≠ some b) A2 c2 (cz (f x)).mag := (hN2.ext ((Ext.alloc (Ext.refl _) _).trans hx3)).widen fun c hc _ => ⟨hc, fun e => by have := (hO.row c e).1; omega⟩
        go_wp2_with (first
          | (at_builtin
             refine wpList_apppz (.tmp 22) (.tmp 26) hO3 hSp3 hi hNX (by rw [hlen.out]; omega) (by omega) rfl rfl rfl rfl ?_
             intro v4 w4 hO4 hSp4 hg4 hv4
             have hb5s := Box.grown (hb5'.alloc _) hg4 (fun e => by have := (hO.row _ e.symm).1; omega)
             have hb5sr := hb5s.rules
             obtain ⟨A4, c4, rfl, hj⟩ := Own.sl hO4 (by omega) (X := fun _ => True) (fun _ _ => trivial)
             clear hj)
          | fail)
        rw [hcl] at hO4 hSp4
        have hrow := hO.row
        have hrow4 := hO4.row
        have hbw := hM0.lt
        have kp4 : Kp (fun c => ¬ (v.ownBlock = some c) ∧ c ≠ w1.heap.size) w3 (w4.setCell ⟨w1.heap.size, 0, none⟩ (.slice A4 (cl (l ++ [(x, f x)])).length c4)) :=
          (((Kp.refl w3).alloc _).grown hg4 (fun k hk h => h.1 hk)).setCell (fun h => h.2 rfl) _
        have hR4 : Rg (w4.setCell ⟨w1.heap.size, 0, none⟩ (.slice A4 (cl (l ++ [(x, f x)])).length c4)) _ _ _ _ _ _ _ := hR3.kept (kp4.imp fun c hc => ⟨fun e => by
          have := hrow c e
          rcases hc with hc | hc | hc <;> omega, by rcases hc with hc | hc | hc <;> omega⟩)
        go_roundw
        case rel =>
          refine ⟨_, cnt2, l ++ [(x, f x)], _, hR4, ?_, ?_, fun p hp => ?_, fun z hz => ?_, hO4.keep ?_, hSp4.far (fun e => by have := (hrow4 _ e).1; simp only at this; omega) _, ?_, ?_, ?_, ?_, hN3.keep (kp4.imp fun c hc => ⟨fun e => ?_, ?_⟩)⟩
          · simp only [List.length_append, List.length_cons, List.length_nil]; omega
          · rw [List.map_append, List.nodup_append]
            refine ⟨hnd, by simp, fun a ha c hc => ?_⟩
            obtain ⟨p, hp, rfl⟩ := List.mem_map.1 ha
            simp only [List.map_cons, List.map_nil, List.mem_singleton] at hc
            intro e
            have h5 := (hl p hp).2.2
            rw [e, hc, hlx] at h5
            cases h5
          · rcases List.mem_append.1 hp with hp | hp
            · exact ⟨(hl p hp).1, (hl p hp).2.1, by rw [(hl p hp).2.2]; rfl⟩
            · rw [List.mem_singleton.1 hp]
              exact ⟨⟨rfl, h0⟩, hi, by simp⟩
          · rw [List.map_append, List.mem_append]
            by_cases e : z = x
            · exact .inr (.inr (by simp [e]))
            · rcases hlf z hz with h | h
              · exact .inl (by simp [h, e])
              · exact .inr (.inl h)
          · refine (Kp.refl w4).setCell ?_ _
            intro h
            rcases h with h | h
            · simp only at h; omega
            · have := (hrow4 _ h).1; simp only at this; omega
          · have := hb5s.set_ 0 (.slice A4 (cl (l ++ [(x, f x)])).length c4)
            simpa using this
          · exact ((hb4'.alloc _).grown hg4 (fun e => by have := (hrow _ e.symm).1; omega)).far (by simp only [ne_eq]; omega) _
          · exact ((hxx.alloc _).grown hg4 (fun k hk => by have := (hrow k hk).1; omega)).setCell (by simp only; omega) _
          · have := hg4.size
            simp only [World.size_alloc, World.size_setCell] at this ⊢
            omega
          · have := hrow c e; omega
          · omega
        case measure => rw [hR4.cnt, hR.cnt]; exact hlt

end Go.Proofs.Ytbblgjjomgipfaa
