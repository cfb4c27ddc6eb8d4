/- census: List of a set. No conditions. -/
import Derived.Test.YtpkfjbljhneenaaGreatGDoesAk
namespace Go.Proofs.YtpkfjbljhneenaaGreat
open Go.RowKit Go.Shelf

theorem zl_mid {a b y : Int} {L : Nat} (h1 : a ≤ y) (h2 : y ≤ b) (ha : zl a ≤ L) (hb : zl b ≤ L) : zl y ≤ L := by
  by_cases h : 0 ≤ y
  · exact Nat.le_trans (zl_abs (by omega)) hb
  · exact Nat.le_trans (zl_abs (by omega)) ha
def slen : Value → Nat
  | .slice _ n _ => n
  | _ => 0
theorem own_slen {w : World} {Zp : Nat → Prop} {base : Nat} {t : TypeId} {v : Value} {l : List Z} (h : Own 2 EZ w Zp base t v l) : slen v = l.length := by
  obtain ⟨A, c, rfl, _⟩ := Own.sl h (by omega) (X := fun _ => True) (fun _ _ => trivial)
  rfl
def LInv (s : Ps) (lo hi : Int) (w0 : World) (m : List Int) (ov xv bv : Value) (wr : World) : Prop :=
  ∃ (a zx : Z) (out : List Int) (gx : Nat) (Ax : Option Addr) (cx : Nat), Hid (lo ≤ a.v) ∧ Hid (out ++ mbs s a.v hi = m) ∧ xv = .pointer (some ⟨gx, 0, none⟩) ∧ bv = .bool (nxtV s a).isSome ∧ Hid (zx = cz ((nxtV s a).getD 0)) ∧
    w0.heap.size + 1 < gx ∧ Box wr gx 25 #[.bool zx.neg, .slice Ax zx.mag.length cx] ∧ Nl wr (fun b => w0.heap.size ≤ b ∧ b ≠ gx ∧ ov.ownBlock ≠ some b) Ax cx zx.mag ∧
    Own 2 EZ wr (w0.heap.size ≤ ·) w0.heap.size 25 ov (out.map cz) ∧ Ext w0 wr ∧ Hid (some gx ≠ ov.ownBlock) ∧ Hid (∀ b, ov.ownBlock = some b → w0.heap.size + 1 < b)

set_option maxRecDepth 100000 in
set_option maxHeartbeats 3200000 in
theorem list_c {g N L : Nat} {s : Ps} {w : World} {X Y Y' : Nat → Prop} {u v : Value} {lo hi : Z} (hs : SetV w X g s) (hsk : s.ok N) (hN : N ≤ L) (hL : L ≤ 274877906940) (hlo : Zi w Y u lo) (hhi : Zi w Y' v hi) (hLl : lo.mag.length ≤ L) (hLh : hi.mag.length ≤ L) :
    Calls Tryz.prog 11 #[.pointer (some ⟨g, 0, none⟩), u, v] w fun e w' =>
      ((1000 < (mbs s lo.v hi.v).length ∧ e = .returned (.tuple #[.slice none 0 0, .int .i64 2])) ∨
        ((mbs s lo.v hi.v).length ≤ 1000 ∧ ∃ r, e = .returned (.tuple #[r, .int .i64 0]) ∧ Own 2 EZ w' (w.heap.size ≤ ·) w.heap.size 25 r ((mbs s lo.v hi.v).map cz))) ∧ Ext w w' := by
  have hct := fun (U : World) (hU : Ext w U) => count_c (hs.ext hU) hsk hN hL (hlo.ext hU) (hhi.ext hU) hLl hLh
  rw [mbs_cnt hsk] at hct
  have hlh := fun (U : World) (hU : Ext w U) (r : Value) (z : Z) (Q : Nat → Prop) (h : Zi U Q r z) => less_c (hhi.ext hU) h
  have hn1 := fun (U : World) (hU : Ext w U) => next_c (hs.ext hU) hsk hN (by omega) (hlo.ext hU) hLl
  have hn2 := fun (U : World) (hU : Ext w U) (r : Value) (z : Z) (Q : Nat → Prop) (h : Zi U Q r z) (hz : z.mag.length ≤ L + 1) => next_c (hs.ext hU) hsk (by omega) (by omega) h hz
  have hzlo := Nat.le_trans (zl_of hlo.lb) hLl; have hzhi := Nat.le_trans (zl_of hhi.lb) hLh
  have HN1 := Lib.hid hn1; have HN2 := Lib.hid hn2; have HLH := Lib.hid hlh
  clear hn1 hn2 hlh; obtain ⟨A, c, rfl, hlo⟩ := hlo; obtain ⟨B, d, rfl, hhi⟩ := hhi; obtain ⟨m, hm⟩ : ∃ m, m = mbs s lo.v hi.v := ⟨_, rfl⟩; rw [← hm] at hct ⊢; obtain ⟨zn, hzn⟩ : ∃ zn, zn = cz ((m.length : Nat) : Int) := ⟨_, rfl⟩; rw [← hzn] at hct; have HZN := Lib.hid hzn; have HM := Lib.hid hm; clear hzn hm
  have hnum := fun (V : World) => cnum_c 1000 (by omega) (by omega) V
  obtain ⟨zk, hzk⟩ : ∃ zk, zk = cz 1000 := ⟨_, rfl⟩; rw [← hzk] at hnum; have HZK := Lib.hid hzk; clear hzk
  go_enter Tryz.func11, Tryz.ntmps11
  go_wp2_with fail
  refine (hct _ xt).mono ?_; rintro e w1 ⟨_, rfl, ⟨A1, c1, rfl, hr1⟩, hx1⟩; have b4 := Box.ext (g := w.heap.size) bxt hx1; have b5 := Box.ext (g := w.heap.size + 1) bxt hx1; have hE1 : Ext w w1 := xt; have hs1 := hx1.size; simp only [wsz] at hs1
  go_upto_region 4 with fail
  refine wp_named fun W hW => ?_
  have b4' : Box W w.heap.size 25 #[.bool lo.neg, .slice A lo.mag.length c] := by rw [hW]; exact bxt
  have b5' : Box W (w.heap.size + 1) 25 #[.bool hi.neg, .slice B hi.mag.length d] := by rw [hW]; exact bxt
  have b8' : Box W w1.heap.size 25 #[.bool zn.neg, .slice A1 zn.mag.length c1] := by rw [hW]; exact bxt
  have hE : Ext w W := by rw [hW]; exact xt
  have hr1' : Nl W (fun b => w.heap.size + 1 < b ∧ b ≠ w1.heap.size) A1 c1 zn.mag := by
    rw [hW]; exact ((hr1.widen (Y := fun b => w.heap.size + 1 < b ∧ b ≠ w1.heap.size) fun b hb hl => ⟨by simp only [wsz] at hb; omega, by omega⟩).keep kpt)
  clear hW b4 b5 hr1
  have b8r := b8'.rules; have b8l := b8'.lt
  refine wp_region_seq 2 [(1, true), (0, false), (2, false)] rfl (by kernel_rfl) (by intro _ _ d _ _ h; cases d <;> exact h) ?_
  (repeat (first | (refine sq_take (v := ?_) rfl rfl ?_ ?_; rotate_left; exact tk2; (try simp only [pt])) | (refine sq_skip rfl rfl ?_; (try simp only [pt])) | (refine sq_noloud rfl rfl ?_; (try simp only [pt])) | (refine sq_takeg (v := ?_) rfl rfl ?_ ?_; rotate_left; exact tk2; (try simp only [pt]))))
  (refine sq_loudg rfl rfl fun K hK => ?_; go_simp)
  refine (hnum _).mono ?_; rintro e w2 ⟨r2, rfl, hr2, hx2⟩; have hxW2 : Ext W w2 := xt; have c8 := b8'.ext hxW2
  have c8r := c8.rules; have c8l := c8.lt
  clear b8r
  (refine hK _ _ xt ?_; clear hK K; (try simp only [pt]))
  (repeat (first | (refine sq_take (v := ?_) rfl rfl ?_ ?_; rotate_left; exact tk2; (try simp only [pt])) | (refine sq_skip rfl rfl ?_; (try simp only [pt])) | (refine sq_noloud rfl rfl ?_; (try simp only [pt])) | (refine sq_takeg (v := ?_) rfl rfl ?_ ?_; rotate_left; exact tk2; (try simp only [pt]))))
  (refine sq_loudg rfl rfl fun K hK => ?_; go_simp)
  refine (less_c hr2 ⟨_, _, rfl, hr1'.ext hxW2⟩).mono ?_
  have hdec : decide (zk.v < zn.v) = decide (1000 < m.length) := by rw [HZK.out, HZN.out, cz_v, cz_v]; congr 1; exact propext (by omega)
  rw [hdec]; rintro e w3 ⟨rfl, hx3⟩; have hE3 : Ext w w3 := (hE.trans hxW2).trans xt; have hxW3 : Ext W w3 := hxW2.trans xt
  (refine hK _ _ xt ?_; clear hK K; (try simp only [pt]))
  (repeat (first | (refine sq_take (v := ?_) rfl rfl ?_ ?_; rotate_left; exact tk2; (try simp only [pt])) | (refine sq_skip rfl rfl ?_; (try simp only [pt])) | (refine sq_noloud rfl rfl ?_; (try simp only [pt])) | (refine sq_takeg (v := ?_) rfl rfl ?_ ?_; rotate_left; exact tk2; (try simp only [pt]))))
  refine sq_done ?_
  have c5 := b5'.ext hxW3; have c4 := b4'.ext hxW3
  have c5l := c5.lt; clear c8r b8l
  by_cases hlong : 1000 < m.length
  · have hd := decide_eq_true hlong; rw [hd]
    go_wp2_with fail
    (refine bodyPost_ret (v := ?_) ?_ rfl ?_; rotate_left; (simp only [results, Tryz.results11]; go_simp; (first | done | with_reducible rfl)))
    exact ⟨.inl ⟨hlong, rfl⟩, hE3⟩
  · have hd := decide_eq_false hlong; rw [hd]
    have c4r := c4.rules; have c4l := c4.lt
    have hm1 : m.length ≤ 1000 := by omega
    have HLong := Lib.hid hm1; clear hlong hd hm1 hdec
    go_wp2_with fail
    have hn1 := HN1.out; obtain ⟨zx, hzx⟩ : ∃ zx, zx = cz ((nxtV s lo).getD 0) := ⟨_, rfl⟩; obtain ⟨bx, hbx⟩ : ∃ bx, bx = (nxtV s lo).isSome := ⟨_, rfl⟩; rw [← hzx, ← hbx] at hn1
    have HZX := Lib.hid hzx; have HBX := Lib.hid hbx
    clear hzx hbx; refine (hn1 _ (hE3.trans xt)).mono ?_; rintro e w4 ⟨_, rfl, ⟨A4, d4, rfl, hr4⟩, hx4⟩; have hE4 : Ext w w4 := hE3.trans xt; have hs34 : w3.heap.size ≤ w4.heap.size := hx4.size; have hs4 := hE3.size; have d5 := Box.ext (g := w.heap.size + 1) c5 (w' := w4) xt; clear c4r; clear hn1
    go_wp2_with fail
    refine wp_named fun V hV => ?_
    have hEV : Ext w V := by rw [hV]; exact xt
    have d5V : Box V (w.heap.size + 1) 25 #[.bool hi.neg, .slice B hi.mag.length d] := by rw [hV]; exact bxt
    have bxV : Box V w4.heap.size 25 #[.bool zx.neg, .slice A4 zx.mag.length d4] := by rw [hV]; exact bxt
    have hrV : Nl V (fun b => w.heap.size ≤ b ∧ b ≠ w4.heap.size) A4 d4 zx.mag := by
      rw [hV]; exact ((hr4.widen (Y := fun b => w.heap.size ≤ b ∧ b ≠ w4.heap.size) fun b hb hl => ⟨by omega, by omega⟩).keep kpt)
    clear hV hr4
    have d5k := fun (U : World) (hU : Ext V U) => d5V.ext hU
    go_loopw [10, 11, 12] (fun ov xv bv wr => LInv s lo.v hi.v w m ov xv bv wr ∧ Box wr (w.heap.size + 1) 25 #[.bool hi.neg, .slice B hi.mag.length d]) (fun ov _ _ _ => m.length - slen ov)
    case atStart =>
      refine ⟨⟨lo, zx, [], w4.heap.size, A4, d4, Lib.hid (Int.le_refl _), Lib.hid (by rw [HM.out]; rfl), rfl, by rw [HBX.out], Lib.hid HZX.out, by omega, bxV, hrV.widen fun b hb _ => ⟨hb.1, hb.2, by simp [Value.ownBlock]⟩, Own.nil _ _ _ _, hEV, Lib.hid (by simp [Value.ownBlock]), Lib.hid (by simp [Value.ownBlock])⟩, d5V⟩
    case round =>
      obtain ⟨⟨a, zx, out, gx, Ax, cx, hla, hout, rfl, rfl, hzx, hgx, bX, hNx, hO, hxr, hgr, hgv⟩, d5⟩ := hrel
      have d5r := d5.rules; have d5l := d5.lt
      cases hnx : nxtV s a with
      | none =>
        have hnx' := Lib.hid hnx; clear hnx
        go_wp2_with fail
        have hm0 : out = m := by
          have := hout.out; rw [mbs_none hsk hnx'.out, List.append_nil] at this; exact this
        have hm1 := HLong.out
        (refine bodyPost_ret (v := ?_) ?_ rfl ?_; rotate_left; (simp only [results, Tryz.results11]; go_simp; (first | done | with_reducible rfl)))
        exact ⟨.inr ⟨hm1, _, rfl, hm0 ▸ hO⟩, hxr⟩
      | some y =>
        have hnx' := Lib.hid hnx; have hzy : Hid (zx = cz y) := Lib.hid (by have := hzx.out; rw [hnx] at this; exact this)
        have hcl := fun (U : World) (hU : Ext wr U) => HLH.out U (hxr.trans hU) (.agg #[.bool zx.neg, .slice Ax zx.mag.length cx]) zx _ ⟨_, _, rfl, hNx.ext hU⟩
        have hzv : zx.v = y := by rw [hzy.out, cz_v]
        rw [hzv] at hcl
        have bXr := bX.rules; have bXl := bX.lt
        clear hnx hzx hzv; obtain ⟨q, hq⟩ : ∃ q, q = decide (hi.v < y) := ⟨_, rfl⟩; simp only [← hq] at hcl; have HQ := Lib.hid hq; clear hq
        go_wp2_with fail
        refine (hcl _ xt).mono ?_; rintro e w5 ⟨rfl, hx5⟩; have hxr5 : Ext wr w5 := xt; have e5 := d5.ext hxr5; have eX := bX.ext hxr5
        have eXr := eX.rules; have eXl := eX.lt
        have hN5 := hNx.ext hxr5; have hO5 := hO.ext hxr5; clear bXr hcl d5r
        cases q
        · have hyh : ¬ hi.v < y := by have := HQ.out; exact of_decide_eq_false this.symm
          have hnext := mbs_next hsk hnx'.out hyh
          have hout2 : (out ++ [y]) ++ mbs s (y + 1) hi.v = m := by rw [List.append_assoc, List.singleton_append, ← hnext]; exact hout.out
          have hHO := Lib.hid hout2; have hya := (nxt_some hsk hnx'.out).1; have hla' := hla.out; have hzyL : zl y ≤ L := zl_mid (a := lo.v) (b := hi.v) (by omega) (by omega) hzlo hzhi
          have hzyL1 : zl (y + 1) ≤ L + 1 := by
            rcases Nat.eq_zero_or_pos L with h | h
            · have h0 : y = 0 := by
                have h3 := hzyL; rw [h] at h3; unfold zl at h3; have h4 := List.eq_nil_of_length_eq_zero (Nat.le_zero.1 h3); rw [lim_nil_iff] at h4
                omega
              rw [h0]; exact Nat.le_trans (show zl (0 + 1) ≤ 1 by decide) (by omega)
            · exact zl_add hzyL (Nat.le_trans (show zl 1 ≤ 1 by decide) h)
          have hlen : (out ++ [y]).length ≤ m.length := by rw [← hout2]; simp
          rw [List.length_append, List.length_singleton] at hlen; have HB := Lib.hid (show lo.v ≤ y + 1 ∧ zl y ≤ L ∧ zl (y + 1) ≤ L + 1 ∧ out.length + 1 ≤ m.length from ⟨by omega, hzyL, hzyL1, hlen⟩)
          have hol : (out.map cz).length ≤ 2199023255552 := by rw [List.length_map]; have := HLong.out; omega
          have hol' := Lib.hid hol; have hrow := hO5.row
          have hsr := hxr.size; have hs5 := hxr5.size
          clear hol hlen hzyL1 hzyL hla' hya hout2 hnext hyh
          go_wp2_with (first
            | (at_builtin
               (refine wpList_appz1 (.tmp 46) (.tmp 48) hO5 (hN5.widen fun q hq _ => ⟨hq.1, hq.2.2⟩) hol'.out (by omega) rfl rfl rfl rfl ?_)
               intro v6 w6 hO6 hg6 hv6; have gX := (eX.alloc _).grown hg6 hgr.out
               have gXr := gX.rules; have gXl := gX.lt
               clear eXr eXl)
            | fail)
          have hN6 := hN5.keep (((Kp.refl w5).alloc (.cells #[.bool zx.neg, .slice Ax zx.mag.length cx] 25)).grown hg6 (fun k hk hX => hX.2.2 hk)); have hE6 : Ext w w6 := ((hxr.trans hxr5).alloc _).grown hg6 (fun j hj => (hrow j hj).1); have hs6 := hg6.size; simp only [wsz] at hs6; have hrow6 := hO6.row; have d6 := (e5.alloc (.cells #[.bool zx.neg, .slice Ax zx.mag.length cx] 25)).grown hg6 (fun e => by have := hgv.out _ e.symm; omega); have hpl := plus_c (w := w6.alloc (.cells #[.bool zx.neg, .slice Ax zx.mag.length cx] 25)) (⟨_, _, rfl, hN6.ext ((Ext.refl w6).alloc _)⟩ : Zi _ _ (.agg #[.bool zx.neg, .slice Ax zx.mag.length cx]) zx) (by rw [hzy.out, cz_len]; have := HB.out; omega) 1 (by omega) (by omega)
          have hzv : zx.v = y := by rw [hzy.out, cz_v]
          rw [hzv] at hpl; obtain ⟨zp, hzp⟩ : ∃ zp, zp = cz (y + 1) := ⟨_, rfl⟩; rw [← hzp] at hpl; have HZP := Lib.hid hzp
          have hzpl : zp.mag.length ≤ L + 1 := by rw [hzp, cz_len]; exact HB.out.2.2.1
          have hn2 := fun (U : World) (hU : Ext w U) (r : Value) (Q : Nat → Prop) (h : Zi U Q r zp) => HN2.out U hU r zp Q h hzpl
          obtain ⟨zx2, hzx2⟩ : ∃ zx, zx = cz ((nxtV s zp).getD 0) := ⟨_, rfl⟩; obtain ⟨bx2, hbx2⟩ : ∃ bx, bx = (nxtV s zp).isSome := ⟨_, rfl⟩; simp only [← hzx2, ← hbx2] at hn2
          have HZX2 := Lib.hid hzx2; have HBX2 := Lib.hid hbx2
          clear hzx2 hbx2 hzp hzv hzpl gXr gXl; refine hpl.mono ?_; rintro e w7 ⟨r7, rfl, hr7, hx7⟩; have hE67 : Ext w6 w7 := ((Ext.refl w6).alloc _).trans hx7; have b7 : Box w7 w6.heap.size 25 #[.bool zx.neg, .slice Ax zx.mag.length cx] := (Box.new w6 _ _).ext hx7
          have b7r := b7.rules; have b7l := b7.lt
          clear hpl
          go_wp2_with fail
          refine (hn2 _ (hE6.trans hE67) _ _ hr7).mono ?_; rintro e w8 ⟨_, rfl, ⟨A8, c8', rfl, hr8⟩, hx8⟩; have b8 := b7.ext hx8; have hE68 := hE67.trans hx8
          have b8r := b8.rules; have b8l := b8.lt
          have hs67 := hE67.size; have hs68 := hE68.size
          clear b7r b7l hn2
          go_wp2_with fail
          have hvg : ∀ b, v6.ownBlock = some b → b < w6.heap.size := fun b e => (hrow6 b e).2
          have hOb := (hO6.widen (Z' := fun b => w.heap.size ≤ b ∧ b < w6.heap.size) fun b hb hl => ⟨hb, hl⟩).ext hE68
          go_roundw
          case rel =>
            refine ⟨⟨zp, zx2, out ++ [y], w6.heap.size, A8, c8', Lib.hid (by rw [HZP.out, cz_v]; exact HB.out.1), Lib.hid (by rw [HZP.out, cz_v]; exact hHO.out), rfl, by rw [HBX2.out], HZX2, d6.lt, (b8.set_ 0 _).set_ 1 _, ?_, ?_, ?_, Lib.hid (fun e => by have := hvg _ e.symm; omega), Lib.hid (fun b e => by
              rcases hv6 with hv6 | hv6
              · exact hgv.out b (hv6 ▸ e)
              · rw [hv6] at e; injection e with e; omega)⟩, ?_⟩
            · exact (hr8.widen (Y := fun b => w.heap.size ≤ b ∧ b ≠ w6.heap.size ∧ v6.ownBlock ≠ some b) fun b hb hl => (by have h1 : w7.heap.size ≤ b := hb; have h2 := b7.lt; have h3 := hE6.size; exact ⟨by omega, by omega, fun e => by have := hvg b e; omega⟩)).keep (((Kp.refl w8).setCell (fun h => h.2.1 rfl) _).setCell (fun h => h.2.1 rfl) _)
            · rw [List.map_append, List.map_singleton]
              have e0 : [cz y] = [zx] := by rw [hzy.out]
              rw [e0]
              refine (hOb.keep (((Kp.refl w8).setCell (fun h => ?_) _).setCell (fun h => ?_) _)).widen fun b hb _ => hb.1
              · rcases h with h | h
                · have := h.2; simp only at this; omega
                · have := hvg _ h; simp only at this; omega
              · rcases h with h | h
                · have := h.2; simp only at this; omega
                · have := hvg _ h; simp only at this; omega
            · exact ((hE6.trans hE68).setCell (by have := hE6.size; dsimp only; omega) _).setCell (by have := hE6.size; dsimp only; omega) _
            · exact ((d6.ext hE68).far (by have := hE6.size; simp only; omega) _).far (by have := hE6.size; simp only; omega) _
          case measure =>
            rw [own_slen hO6, own_slen hO5]; have := HB.out.2.2.2; simp only [List.length_append, List.length_map, List.length_singleton]
            omega
        · have hyh : hi.v < y := by have := HQ.out; exact of_decide_eq_true this.symm
          have hm0 : out = m := by
            have := hout.out; rw [mbs_far hsk hnx'.out hyh, List.append_nil] at this; exact this
          have hm1 := HLong.out; clear hyh
          go_wp2_with fail
          (refine bodyPost_ret (v := ?_) ?_ rfl ?_; rotate_left; (simp only [results, Tryz.results11]; go_simp; (first | done | with_reducible rfl)))
          exact ⟨.inr ⟨hm1, _, rfl, hm0 ▸ hO5⟩, hxr.trans hxr5⟩

end Go.Proofs.YtpkfjbljhneenaaGreat
