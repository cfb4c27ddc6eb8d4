/- riddleref05.laid. No conditions. -/
import Derived.Test.YthmjgbkakjpfkaaGreatDoorGTurnsAs
import Derived.Test.YthmjgbkakjpfkaaGreatDoorGTurnsAh
import Derived.Test.YthmjgbkakjpfkaaGreatDoorGTurnsAd
namespace Go.Proofs.YthmjgbkakjpfkaaGreatDoor
open Go.RowKit

theorem grown_trans {a b c : World} {row row' : Option Nat} (h : a.grownBy b row) (k : b.grownBy c row') (hr : ∀ g, row' = some g → row = some g ∨ a.heap.size ≤ g) : a.grownBy c row := by
  refine ⟨k.os.trans h.os, k.tape.trans h.tape, k.output.trans h.output, Nat.le_trans h.size k.size, fun i hi hn => (k.block i (Nat.lt_of_lt_of_le hi h.size) fun e => ?_).trans (h.block i hi hn)⟩
  rcases hr i e.symm with h1 | h1
  · exact hn h1.symm
  · omega
theorem grown_set {a b : World} {row : Option Nat} {g : Nat} (h : a.grownBy b row) (hr : row = some g ∨ a.heap.size ≤ g) (o : Nat) (u : Value) : a.grownBy (b.setCell ⟨g, o, none⟩ u) row :=
  ⟨h.os, h.tape, h.output, by simpa [World.setCell] using h.size, fun i hi hn => (Below.heap_setCell b ⟨g, o, none⟩ u i (fun e => by
    have e : i = g := e
    rcases hr with hr | hr
    · exact hn (by rw [hr, e])
    · omega)).trans (h.block i hi hn)⟩
theorem lay_skip : ∀ (m : List (Int × Int)) (p : Int × Int) (k : Nat) (hk : k < m.length), m[k].1 < p.1 → lay m p = m.take k ++ lay (m.drop k) p → lay m p = m.take (k + 1) ++ lay (m.drop (k + 1)) p := by
  intro m p k hk hlt h; rw [h, List.drop_eq_getElem_cons hk, List.take_succ_eq_append_getElem hk]
  conv => lhs; unfold lay
  rw [if_pos hlt]; simp only [List.append_assoc, List.singleton_append]
theorem lay_hit {m : List (Int × Int)} {p : Int × Int} {k : Nat} (hk : k < m.length) (he : m[k].1 = p.1) (h : lay m p = m.take k ++ lay (m.drop k) p) : lay m p = m.set k (p.1, m[k].2 + p.2) := by
  rw [h, List.drop_eq_getElem_cons hk]; unfold lay; rw [if_neg (by omega), if_pos he, List.set_eq_take_append_cons_drop, if_pos hk, he]
theorem lay_put {m : List (Int × Int)} {p : Int × Int} {k : Nat} (hk : k ≤ m.length) (he : ∀ h : k < m.length, p.1 < m[k].1) (h : lay m p = m.take k ++ lay (m.drop k) p) : lay m p = m.take k ++ p :: m.drop k := by
  rw [h]
  rcases Nat.eq_or_lt_of_le hk with e | hk
  · rw [e, List.drop_length]; rfl
  · rw [List.drop_eq_getElem_cons hk]; have := he hk; unfold lay; rw [if_neg (by omega), if_neg (by omega)]
theorem shift_set {α : Type} (m : List α) (k : Nat) (hk : k ≤ m.length) (d x : α) :
    (((m ++ [d]).take (k + 1) ++ ((m ++ [d]).drop k).take ((m ++ [d]).length - (k + 1))).set k x) = m.take k ++ x :: m.drop k := by
  have h1 : ((m ++ [d]).drop k).take ((m ++ [d]).length - (k + 1)) = m.drop k := by
    rw [List.drop_append_of_le_length hk, List.length_append, List.length_singleton, show m.length + 1 - (k + 1) = (m.drop k).length from by rw [List.length_drop]; omega]; rw [List.take_append_of_le_length (Nat.le_refl _), List.take_length]
  have h2 : (m ++ [d]).take (k + 1) = (m ++ [d]).take k ++ [(m ++ [d])[k]'(by simp; omega)] := List.take_succ_eq_append_getElem _; rw [h1, h2, List.take_append_of_le_length hk]; rw [List.append_assoc, List.set_append_right _ _ (by rw [List.length_take]; omega)]; rw [List.length_take, Nat.min_eq_left hk, Nat.sub_self]
  rfl

theorem pth_cl (m : List (Int × Int)) (k : Nat) (h : k < m.length) : pth (cl m) k = (m[k].1, cz m[k].2) := by
  rw [pth_eq _ _ (by rw [cl_len]; exact h)]; simp [cl]

section
variable {P : Program} {ops : Array Oper} {Q : Exit → Act → World → Prop}
theorem sh_copy {i : Nat} {r : List Nat} {a : Act} {w w' : World} {o : Oper} {d s : Operand} {t t' : TypeId} {v u v' : Value} (ho : opAt ops.toList i = some o) (hg : o.guard = none)
    (hop : o.op = .call { callee := .builtin .copy, args := #[d, s], argTypes := #[t, t'] }) (hd : a.eval d = v) (hs : a.eval s = u) (hr : ∀ ty, (Builtin.copy_ #[t, t'] ty #[v, u]).run P w = .ok v' w')
    (h : LateW P ops Q r (a.put o.dst v') w') : LateW P ops Q (i :: r) a w := by
  refine sh_late ho hg fun K hK => ?_
  unfold Oper.wp execOp; simp only [hop, resolve, invoke, builtin, Sem.run_bind, Sem.run_pure, Result.andThen_ok, List.map_toArray, List.map_cons, List.map_nil, hd, hs, hr]; exact hK _ _ h
end
theorem own_putz {w : World} {Zp : Nat → Prop} {base g n c k : Nat} {e : TypeId} {l : List (Int × Z)} {z : Z} {B : Option Addr} {d : Nat} (h : Own 3 EP w Zp base e (.slice (some ⟨g, 0, none⟩) n c) l) (hk : k < l.length)
    (hN : Nl w (fun b => Zp b ∧ b ≠ g) B d z.mag) :
    Own 3 EP ((w.setCell ⟨g, k * 3 + 1, none⟩ (.bool z.neg)).setCell ⟨g, k * 3 + 2, none⟩ (.slice B z.mag.length d)) Zp base e (.slice (some ⟨g, 0, none⟩) n c) (l.set k ((pth l k).1, z)) := by
  have e0 := pth_eq l k hk
  have p1 := Own.put h (k := k) (r := 1) (u := .bool z.neg) (a' := ((pth l k).1, ⟨z.neg, l[k].2.mag⟩)) hk (by omega) (by
    rintro cs ⟨A', c', rfl, hi', hN'⟩ _
    exact ⟨A', c', by rw [e0]; rfl, by rw [e0]; exact hi', hN'⟩)
  have h2 : k < (l.set k ((pth l k).1, (⟨z.neg, l[k].2.mag⟩ : Z))).length := by rw [List.length_set]; exact hk
  have p2 := Own.put p1 (k := k) (r := 2) (u := .slice B z.mag.length d) (a' := ((pth l k).1, z)) h2 (by omega) (by
    rw [List.getElem_set_self]; rintro cs ⟨A', c', rfl, hi', hN'⟩ _
    exact ⟨B, d, rfl, hi', hN.keep ((Kp.refl w).setCell (fun h => h.2 rfl) _)⟩)
  rw [List.set_set] at p2; exact p2
theorem cl_set (m : List (Int × Int)) (k : Nat) (p : Int × Int) : (cl m).set k (p.1, cz p.2) = cl (m.set k p) := by simp [cl, List.map_set]

set_option maxHeartbeats 3200000 in
theorem laid_c {w : World} {base : Nat} {v : Value} {m : List (Int × Int)} {x : Int} {z : Z} {A : Option Addr} {c : Nat} (hO : Own 3 EP w (base ≤ ·) base 37 v (cl m)) (hbase : base ≤ w.heap.size)
    (hi : i64 x) (hN : Nl w (· < base) A c z.mag) (hL : m.length ≤ 1099511627776) (hz : z.mag.length ≤ 1099511627776) (hm : ∀ p ∈ m, zl p.2 ≤ 1099511627776) :
    Calls Tryz.prog 111 #[v, .agg #[.int .i64 x, .bool z.neg, .slice A z.mag.length c]] w fun e w' => ∃ v', e = .returned v' ∧ Own 3 EP w' (base ≤ ·) base 37 v' (cl (lay m (x, z.v))) ∧ w.grownBy w' v.ownBlock := by
  obtain ⟨A0, c0, rfl, hs⟩ := Own.sl hO (by omega) (X := fun c => base ≤ c) (fun c hc => hc.elim id id); have hrow := hO.row; have hlm := cl_len m
  have HL := Lib.hid hlm; clear hlm
  have hs' : Pl w (base ≤ ·) A0 c0 (cl m) := hs; clear hs; rw [HL.out] at hO hrow; rw [HL.out]
  go_enter Tryz.func111, Tryz.ntmps111
  go_wp2_with fail
  refine wp_named fun W hW => ?_
  have hb0 : Box W w.heap.size 37 #[.int .i64 x, .bool z.neg, .slice A z.mag.length c] := by rw [hW]; exact bxt
  have hE : Ext w W := by rw [hW]; exact xt
  clear hW; have hbl := hb0.lt
  go_loopw [5] (fun iv wr => ∃ k : Nat, k ≤ m.length ∧ iv = .int .i64 k ∧ lay m (x, z.v) = m.take k ++ lay (m.drop k) (x, z.v) ∧ Ext W wr) (fun iv _ => m.length - (intOf iv).toNat)
  case atStart => exact ⟨0, Nat.zero_le _, rfl, rfl, xt⟩
  case round =>
    obtain ⟨k, hk, rfl, hlay, hx⟩ := hrel
    have Hlay := Lib.hid hlay; clear hlay
    have hsx := hx.size; have r0 := (hb0.ext hx).rules; have r0l := (hb0.ext hx).lt; have hxw := hE.trans hx
    by_cases hlt : k < m.length
    · obtain ⟨b, o, B', d', rfl, hX, hc0, hc1, hc2, hi2, hN2⟩ := (Pl.ext hs' hxw).at_ (k := k) (by rw [HL.out]; exact hlt); obtain ⟨rfl, -, hbb, hbw⟩ := hO.adr; rw [pth_cl m k hlt] at hc0 hc1 hc2 hi2 hN2; obtain ⟨q, hq⟩ : ∃ q, q = m[k] := ⟨_, rfl⟩; rw [← hq] at hc0 hc1 hc2 hi2 hN2
      have Hq := Lib.hid hq; clear hq
      have hbr : b < wr.heap.size := World.block_lt_of_cell? _ _ hc0; simp only [Nat.zero_add] at hc0 hc1 hc2
      have kl : (k : Int) < (m.length : Int) := by omega
      have kw := w64n (n := k) (by omega)
      by_cases h1 : q.1 < x
      · go_wp2_with fail
        refine wp_region_seq 14 [(0, true), (1, true), (2, true), (3, true), (4, true), (5, true), (6, true), (7, true), (8, true), (9, true), (10, true), (11, true), (12, true), (13, true)] rfl (by kernel_rfl) (by intro _ _ d _ _ h; cases d <;> exact h) ?_
        (repeat (first | (refine sq_take (v := ?_) rfl rfl ?_ ?_; rotate_left; (intro w' hx'; have hc' := hx'.cells.1; (try simp only [wcd] at hc'); go_simp; (first | done | with_reducible rfl)); (try simp only [pt])) | (refine sq_skip rfl rfl ?_; (try simp only [pt])) | (refine sq_noloud rfl rfl ?_; (try simp only [pt])) | (refine sq_takeg (v := ?_) rfl rfl ?_ ?_; rotate_left; (intro w' hx'; have hc' := hx'.cells.1; (try simp only [wcd] at hc'); go_simp; (first | done | with_reducible rfl)); (try simp only [pt]))))
        refine sq_done ?_
        go_wp2_with fail
        go_roundw
        case rel => exact ⟨k + 1, by omega, by go_num, lay_skip m _ k hlt (by rw [← Hq.out]; exact h1) Hlay.out, xt⟩
        case measure => simp [intOf] <;> omega
      · by_cases h2 : q.1 = x
        · have e2 : (q.1 == x) = true := by rw [h2]; exact beq_self_eq_true _
          go_wp2_with fail
          refine wp_region_seq 14 [(0, true), (1, true), (2, true), (3, true), (4, true), (5, true), (6, true), (7, true), (8, true), (9, true), (10, true), (11, true), (12, true), (13, true)] rfl (by kernel_rfl) (by intro _ _ d _ _ h; cases d <;> exact h) ?_
          (repeat (first | (refine sq_take (v := ?_) rfl rfl ?_ ?_; rotate_left; (intro w' hx'; have hc' := hx'.cells.1; (try simp only [wcd] at hc'); go_simp; (first | done | with_reducible rfl)); (try simp only [pt])) | (refine sq_skip rfl rfl ?_; (try simp only [pt])) | (refine sq_noloud rfl rfl ?_; (try simp only [pt])) | (refine sq_takeg (v := ?_) rfl rfl ?_ ?_; rotate_left; (intro w' hx'; have hc' := hx'.cells.1; (try simp only [wcd] at hc'); go_simp; (first | done | with_reducible rfl)); (try simp only [pt]))))
          refine sq_done ?_
          go_wp2_with fail
          refine wp_region_seq 14 [(0, true), (1, true), (2, true), (3, true), (4, true), (5, true), (6, true), (7, true), (8, true), (9, true), (10, true), (11, true), (12, true), (13, true)] rfl (by kernel_rfl) (by intro _ _ d _ _ h; cases d <;> exact h) ?_
          (repeat (first | (refine sq_take (v := ?_) rfl rfl ?_ ?_; rotate_left; (intro w' hx'; have hc' := hx'.cells.1; (try simp only [wcd] at hc'); go_simp; (first | done | with_reducible rfl)); (try simp only [pt])) | (refine sq_skip rfl rfl ?_; (try simp only [pt])) | (refine sq_noloud rfl rfl ?_; (try simp only [pt])) | (refine sq_takeg (v := ?_) rfl rfl ?_ ?_; rotate_left; (intro w' hx'; have hc' := hx'.cells.1; (try simp only [wcd] at hc'); go_simp; (first | done | with_reducible rfl)); (try simp only [pt]))))
          refine sq_done ?_
          go_wp2_with fail
          refine wp_region_seq2 12 [(0, true), (1, true), (2, true), (3, true), (4, true), (5, true), (6, true), (7, true), (8, true), (9, false), (10, true), (11, true), (12, false)] rfl (by kernel_rfl) (by intro _ _ d _ _ h; cases d <;> exact h) ?_
          (repeat (refine sq_take (v := ?_) rfl rfl ?_ ?_; rotate_left; (intro w' hx'; have hc' := hx'.cells.1; (try simp only [wcd] at hc'); go_simp; (first | done | with_reducible rfl)); (try simp only [pt])))
          have hq0 : zl q.2 ≤ 1099511627776 := by rw [Hq.out]; exact hm _ (List.getElem_mem hlt)
          (refine sq_loud rfl rfl fun K hK => ?_; go_simp)
          refine (raddz_c (x := cz q.2) (y := z) ⟨_, _, rfl, hN2.ext xt⟩ ⟨_, _, rfl, hN.ext (Ext.trans hxw xt)⟩ (by rw [cz_len]; exact hq0) hz).mono ?_; rw [cz_v]; rintro e w1 ⟨r, rfl, ⟨A1, c1, rfl, hr1⟩, hx1⟩
          (refine hK _ _ xt ?_; clear hK K; (try simp only [pt]))
          (repeat (refine sq_take (v := ?_) rfl rfl ?_ ?_; rotate_left; (intro w' hx'; have hc' := hx'.cells.1; (try simp only [wcd] at hc'); go_simp; (first | done | with_reducible rfl)); (try simp only [pt])))
          have hxx : Ext wr w1 := xt; have hb1 := Nat.lt_of_lt_of_le hbr hxx.size; have hO1 := hO.ext (hxw.trans hxx); have hq1 := (hxx.cells.1 b (k * 3 + 1) hbr).trans hc1; have hq2 := (hxx.cells.1 b (k * 3 + 2) hbr).trans hc2
          have hfz := fun o => Own.frz hO1 o
          (refine sq_last rfl rfl fun K hK => ?_; go_simp; refine hK _ _ ?_; clear hK K)
          have hne := hrow; have p2 := own_putz (k := k) hO1 (by rw [HL.out]; exact hlt) (hr1.widen (Y := fun c => base ≤ c ∧ c ≠ b) fun c hc _ => by simp only [wsz] at hc; exact ⟨by omega, by omega⟩)
          go_wp2_with fail
          go_ret
          have hgr : w.grownBy w1 (some b) := ext_then (hxw.trans hxx) (World.grownBy.refl _ _); refine ⟨_, rfl, ?_, grownBy_store (grownBy_store hgr _ _) _ _⟩; have hl2 := lay_hit (p := (x, z.v)) hlt (by rw [← Hq.out]; exact h2) Hlay.out
          have hp1 : (pth (cl m) k).1 = x := by rw [pth_cl m k hlt, ← Hq.out]; exact h2
          rw [hl2, ← cl_set, ← hp1, ← Hq.out]; exact p2
        · have e2 : (q.1 == x) = false := by rw [beq_eq_false_iff_ne]; exact h2
          have hge : ∀ h : k < m.length, x < m[k].1 := fun _ => by rw [← Hq.out]; omega
          go_wp2_with fail
          refine wp_region_seq 14 [(0, true), (1, true), (2, true), (3, true), (4, true), (5, true), (6, true), (7, true), (8, true), (9, true), (10, true), (11, true), (12, true), (13, true)] rfl (by kernel_rfl) (by intro _ _ d _ _ h; cases d <;> exact h) ?_
          (repeat (first | (refine sq_take (v := ?_) rfl rfl ?_ ?_; rotate_left; (intro w' hx'; have hc' := hx'.cells.1; (try simp only [wcd] at hc'); go_simp; (first | done | with_reducible rfl)); (try simp only [pt])) | (refine sq_skip rfl rfl ?_; (try simp only [pt])) | (refine sq_noloud rfl rfl ?_; (try simp only [pt])) | (refine sq_takeg (v := ?_) rfl rfl ?_ ?_; rotate_left; (intro w' hx'; have hc' := hx'.cells.1; (try simp only [wcd] at hc'); go_simp; (first | done | with_reducible rfl)); (try simp only [pt]))))
          refine sq_done ?_
          go_wp2_with fail
          refine wp_region_seq 14 [(0, true), (1, true), (2, true), (3, true), (4, true), (5, true), (6, true), (7, true), (8, true), (9, true), (10, true), (11, true), (12, true), (13, true)] rfl (by kernel_rfl) (by intro _ _ d _ _ h; cases d <;> exact h) ?_
          (repeat (first | (refine sq_take (v := ?_) rfl rfl ?_ ?_; rotate_left; (intro w' hx'; have hc' := hx'.cells.1; (try simp only [wcd] at hc'); go_simp; (first | done | with_reducible rfl)); (try simp only [pt])) | (refine sq_skip rfl rfl ?_; (try simp only [pt])) | (refine sq_noloud rfl rfl ?_; (try simp only [pt])) | (refine sq_takeg (v := ?_) rfl rfl ?_ ?_; rotate_left; (intro w' hx'; have hc' := hx'.cells.1; (try simp only [wcd] at hc'); go_simp; (first | done | with_reducible rfl)); (try simp only [pt]))))
          refine sq_done ?_; have hOr : Own 3 EP wr.drew.drew (base ≤ ·) base 37 (.slice (some ⟨b, 0, none⟩) m.length c0) (cl m) := hO.ext (Ext.drew (Ext.drew hxw))
          have hbase2 : base ≤ wr.drew.drew.heap.size := by have := hxw.size; simp only [wsz]; omega
          go_wp2_with (first
            | (at_builtin
               go_loud (refine wpList_appp1 (p := 0) (z := ⟨false, []⟩) (A := none) (c := 0) (.tmp 49) (.tmp 51) hOr ⟨by omega, by omega⟩ (Sl.nil0 _ _ _) (by rw [HL.out]; omega) hbase2 rfl rfl rfl rfl ?_)
               intro v1 w1 hO1 hg1 hv1)
            | fail)
          have hlen1 : (cl m ++ [((0 : Int), (⟨false, []⟩ : Z))]).length = m.length + 1 := by rw [List.length_append, HL.out]; rfl
          obtain ⟨A1, c1, rfl, hP1⟩ := Own.sl hO1 (by omega) (X := fun _ => True) (fun _ _ => trivial); have hlc1 := hP1.1; have hcm1 := hP1.2.1; obtain ⟨g1, o1, hA1, -, -⟩ := hP1.2.2.1 (by rw [hlen1]; omega); subst hA1; obtain ⟨rfl, -, hgb, hgw⟩ := hO1.adr; rw [hlen1] at hO1 hlc1 ⊢; simp only [maxLen] at hcm1; have kw1 := w64n (n := k) (by omega); have kw2 : IntKind.i64.wrap ((k : Int) + 1) = (k : Int) + 1 := w64 ⟨by omega, by omega⟩
          have kl1 : (k : Int) + 1 ≤ (m.length : Int) + 1 := by omega
          have kl2 : (k : Int) ≤ (m.length : Int) + 1 := by omega
          have kl3 : (0 : Int) ≤ (k : Int) + 1 := by omega
          have kl4 : (m.length : Int) + 1 ≤ (c1 : Int) := by omega
          obtain ⟨w2, hrun, hO2, hg2⟩ := Own.shift ety_p (hO1.ext (Ext.drew (Ext.refl w1))) (k := k) (by rw [hlen1]; omega) (dp := if c1 = k + 1 then some ⟨g1, 0, none⟩ else some ⟨g1, (k + 1) * 3, none⟩) (fun h => by rw [hlen1] at h; rw [if_neg (by omega)]) (c1 - (k + 1)) (c1 - k); rw [hlen1, show m.length + 1 - (k + 1) = m.length - k from by omega] at hrun
          have hck : ¬ c1 = k := by omega
          clear hlen1
          go_wp2_with fail
          refine wp_region_late [(0, true), (1, true), (2, true), (3, true), (4, true), (5, true), (6, true)] [7] rfl (by kernel_rfl) (by intro _ _ d _ _ h; cases d <;> exact h) ?_
          (repeat (refine sh_take (v := ?_) rfl rfl ?_ ?_; rotate_left; (intro w' hx'; have hc' := hx'.cells.1; (try simp only [wcd] at hc'); go_simp; (first | done | with_reducible rfl)); (try simp only [pt])))
          refine sh_done ?_; refine sh_copy (v' := goInt ((m.length - k : Nat) : Int)) (w' := w2) rfl rfl rfl rfl rfl (fun ty => by first | exact hrun ty | (go_simp; done) | (go_simp; rfl)) ?_
          (try simp only [pt])
          refine sh_end ?_; generalize (if c1 = k + 1 then some (⟨g1, 0, none⟩ : Addr) else some ⟨g1, (k + 1) * 3, none⟩) = dp
          have hg1ne : g1 ≠ w.heap.size ∧ (Value.ownBlock (.slice (some ⟨b, 0, none⟩) m.length c0) = some g1 ∨ w.heap.size ≤ g1) := by
            rcases hv1 with h | h
            · have h2 : Value.ownBlock (.slice (some ⟨b, 0, none⟩) m.length c0) = some g1 := h.symm; have := (hrow g1 h2).2; exact ⟨by omega, .inl h2⟩
            · have h2 : g1 = wr.drew.drew.heap.size + 1 := by injection h
              simp only [wsz] at h2; exact ⟨by omega, .inr (by omega)⟩
          have hbw : Box w2 w.heap.size 37 #[.int .i64 x, .bool z.neg, .slice A z.mag.length c] :=
            Box.grown (Box.drew (Box.grown (((hb0.ext hx).drew.drew).alloc _) hg1 (fun e => by have := (hrow _ e.symm).2; omega))) hg2 (fun e => by
              have e2 : w.heap.size = g1 := by injection e
              omega)
          have hgw1 : w.grownBy w1 (Value.ownBlock (.slice (some ⟨b, 0, none⟩) m.length c0)) := ext_then (Ext.alloc (Ext.drew (Ext.drew hxw)) _) hg1
          have hgw2 : w.grownBy w2 (Value.ownBlock (.slice (some ⟨b, 0, none⟩) m.length c0)) := grown_trans (grownBy_drew hgw1) hg2 (fun j hj => by
            have e2 : g1 = j := by injection hj
            rw [← e2]
            exact hg1ne.2)
          have hN2 : Nl w2 (· < base) A c z.mag := hN.keep ((Kp.refl w).grown hgw2 fun j hj h => by have := (hrow j hj).1; omega); have hbr := hbw.rules; have hbl2 := hbw.lt; have hs12 := hgw2.size; have hg1w := (hO2.row g1 rfl).2
          have kl5 : (k : Int) < (m.length : Int) + 1 := by omega
          clear r0 hrun hg1 hg2 hv1
          go_wp2_with fail
          refine wp_region_seq 9 [(0, true), (1, true), (2, true), (3, true), (4, true), (5, true), (6, false), (7, true), (8, true), (9, false)] rfl (by kernel_rfl) (by intro _ _ d _ _ h; cases d <;> exact h) ?_
          (repeat (refine sq_take (v := ?_) rfl rfl ?_ ?_; rotate_left; (intro w' hx'; have hc' := hx'.cells.1; (try simp only [wcd] at hc'); go_simp; (first | done | with_reducible rfl)); (try simp only [pt])))
          (refine sq_loud rfl rfl fun K hK => ?_; go_simp)
          refine (rnorm_c (z := z) ⟨_, _, rfl, hN2.ext xt⟩ (by omega)).mono ?_; rintro e w3 ⟨r, rfl, ⟨A4, c4, rfl, hN4⟩, hx3⟩
          (refine hK _ _ xt ?_; clear hK K; (try simp only [pt]))
          (repeat (refine sq_take (v := ?_) rfl rfl ?_ ?_; rotate_left; (intro w' hx'; have hc' := hx'.cells.1; (try simp only [wcd] at hc'); go_simp; (first | done | with_reducible rfl)); (try simp only [pt])))
          have hxx : Ext w2 w3 := xt; have hO3 := hO2.ext hxx
          have hll : (List.take (k + 1) (cl m ++ [((0 : Int), (⟨false, []⟩ : Z))]) ++ List.take ((cl m ++ [((0 : Int), (⟨false, []⟩ : Z))]).length - (k + 1)) (List.drop k (cl m ++ [((0 : Int), (⟨false, []⟩ : Z))]))).length = m.length + 1 := by
            simp only [List.length_append, List.length_take, List.length_drop, List.length_singleton, HL.out]
            omega
          obtain ⟨B3, d3, q0, q1, q2, -, -⟩ := own_at hO3 (k := k) (by rw [hll]; omega)
          have hfz := fun o => Own.frz hO3 o
          have p3 := own_put3 (p := (x, cz z.v)) hO3 (k := k) (by rw [hll]; omega) hi (hN4.widen (Y := fun c => base ≤ c ∧ c ≠ g1) fun c hc _ => by simp only [wsz] at hc; exact ⟨by omega, by omega⟩); have hsh := shift_set (cl m) k (by rw [HL.out]; omega) ((0 : Int), (⟨false, []⟩ : Z)) (x, cz z.v); rw [hsh] at p3
          have hfin : (cl m).take k ++ (x, cz z.v) :: (cl m).drop k = cl (lay m (x, z.v)) := by
            rw [lay_put (p := (x, z.v)) hk hge Hlay.out]; simp only [cl, List.map_append, List.map_cons, List.map_take, List.map_drop]
          rw [hfin] at p3; clear hsh hfin hll
          (refine sq_last rfl rfl fun K hK => ?_; go_simp; refine hK _ _ ?_; clear hK K)
          go_wp2_with fail
          go_ret
          exact ⟨_, rfl, p3, grown_set (grown_set (grown_set (grown_then hgw2 hxx) hg1ne.2 _ _) hg1ne.2 _ _) hg1ne.2 _ _⟩
    · have hkn : k = m.length := by omega
      subst hkn
      have hge : ∀ h : m.length < m.length, x < m[m.length].1 := fun h => absurd h (Nat.lt_irrefl _)
      go_wp2_with fail
      refine wp_region_seq 14 [(0, true), (1, true), (2, true), (3, true), (4, true), (5, true), (6, true), (7, true), (8, true), (9, true), (10, true), (11, true), (12, true), (13, true)] rfl (by kernel_rfl) (by intro _ _ d _ _ h; cases d <;> exact h) ?_
      (repeat (first | (refine sq_take (v := ?_) rfl rfl ?_ ?_; rotate_left; (intro w' hx'; have hc' := hx'.cells.1; (try simp only [wcd] at hc'); go_simp; (first | done | with_reducible rfl)); (try simp only [pt])) | (refine sq_skip rfl rfl ?_; (try simp only [pt])) | (refine sq_noloud rfl rfl ?_; (try simp only [pt])) | (refine sq_takeg (v := ?_) rfl rfl ?_ ?_; rotate_left; (intro w' hx'; have hc' := hx'.cells.1; (try simp only [wcd] at hc'); go_simp; (first | done | with_reducible rfl)); (try simp only [pt]))))
      refine sq_done ?_
      go_wp2_with fail
      refine wp_region_seq 14 [(0, true), (1, true), (2, true), (3, true), (4, true), (5, true), (6, true), (7, true), (8, true), (9, true), (10, true), (11, true), (12, true), (13, true)] rfl (by kernel_rfl) (by intro _ _ d _ _ h; cases d <;> exact h) ?_
      (repeat (first | (refine sq_take (v := ?_) rfl rfl ?_ ?_; rotate_left; (intro w' hx'; have hc' := hx'.cells.1; (try simp only [wcd] at hc'); go_simp; (first | done | with_reducible rfl)); (try simp only [pt])) | (refine sq_skip rfl rfl ?_; (try simp only [pt])) | (refine sq_noloud rfl rfl ?_; (try simp only [pt])) | (refine sq_takeg (v := ?_) rfl rfl ?_ ?_; rotate_left; (intro w' hx'; have hc' := hx'.cells.1; (try simp only [wcd] at hc'); go_simp; (first | done | with_reducible rfl)); (try simp only [pt]))))
      refine sq_done ?_; have hOr : Own 3 EP wr.drew.drew (base ≤ ·) base 37 (.slice A0 m.length c0) (cl m) := hO.ext (Ext.drew (Ext.drew hxw))
      have hbase2 : base ≤ wr.drew.drew.heap.size := by have := hxw.size; simp only [wsz]; omega
      go_wp2_with (first
        | (at_builtin
           go_loud (refine wpList_appp1 (p := 0) (z := ⟨false, []⟩) (A := none) (c := 0) (.tmp 49) (.tmp 51) hOr ⟨by omega, by omega⟩ (Sl.nil0 _ _ _) (by rw [HL.out]; omega) hbase2 rfl rfl rfl rfl ?_)
           intro v1 w1 hO1 hg1 hv1)
        | fail)
      have hlen1 : (cl m ++ [((0 : Int), (⟨false, []⟩ : Z))]).length = m.length + 1 := by rw [List.length_append, HL.out]; rfl
      obtain ⟨A1, c1, rfl, hP1⟩ := Own.sl hO1 (by omega) (X := fun _ => True) (fun _ _ => trivial); have hlc1 := hP1.1; have hcm1 := hP1.2.1; obtain ⟨g1, o1, hA1, -, -⟩ := hP1.2.2.1 (by rw [hlen1]; omega); subst hA1; obtain ⟨rfl, -, hgb, hgw⟩ := hO1.adr; rw [hlen1] at hO1 hlc1 ⊢; simp only [maxLen] at hcm1; have kw1 := w64n (n := m.length) (by omega); have kw2 : IntKind.i64.wrap ((m.length : Int) + 1) = (m.length : Int) + 1 := w64 ⟨by omega, by omega⟩
      have kl1 : (m.length : Int) + 1 ≤ (m.length : Int) + 1 := by omega
      have kl2 : (m.length : Int) ≤ (m.length : Int) + 1 := by omega
      have kl3 : (0 : Int) ≤ (m.length : Int) + 1 := by omega
      have kl4 : (m.length : Int) + 1 ≤ (c1 : Int) := by omega
      obtain ⟨w2, hrun, hO2, hg2⟩ := Own.shift ety_p (hO1.ext (Ext.drew (Ext.refl w1))) (k := m.length) (by rw [hlen1]; omega) (dp := if c1 = m.length + 1 then some ⟨g1, 0, none⟩ else some ⟨g1, (m.length + 1) * 3, none⟩) (fun h => by rw [hlen1] at h; rw [if_neg (by omega)]) (c1 - (m.length + 1)) (c1 - m.length); rw [hlen1, show m.length + 1 - (m.length + 1) = 0 from by omega] at hrun; rw [show m.length + 1 - m.length = 1 from by omega] at hrun
      have hck : ¬ c1 = m.length := by omega
      clear hlen1
      go_wp2_with fail
      refine wp_region_late [(0, true), (1, true), (2, true), (3, true), (4, true), (5, true), (6, true)] [7] rfl (by kernel_rfl) (by intro _ _ d _ _ h; cases d <;> exact h) ?_
      (repeat (refine sh_take (v := ?_) rfl rfl ?_ ?_; rotate_left; (intro w' hx'; have hc' := hx'.cells.1; (try simp only [wcd] at hc'); go_simp; (first | done | with_reducible rfl)); (try simp only [pt])))
      refine sh_done ?_; refine sh_copy (v' := goInt ((0 : Nat) : Int)) (w' := w2) rfl rfl rfl rfl rfl (fun ty => by first | exact hrun ty | (go_simp; done) | (go_simp; rfl)) ?_
      (try simp only [pt])
      refine sh_end ?_; generalize (if c1 = m.length + 1 then some (⟨g1, 0, none⟩ : Addr) else some ⟨g1, (m.length + 1) * 3, none⟩) = dp
      have hg1ne : g1 ≠ w.heap.size ∧ (Value.ownBlock (.slice A0 m.length c0) = some g1 ∨ w.heap.size ≤ g1) := by
        rcases hv1 with h | h
        · have h2 : Value.ownBlock (.slice A0 m.length c0) = some g1 := h.symm; have := (hrow g1 h2).2; exact ⟨by omega, .inl h2⟩
        · have h2 : g1 = wr.drew.drew.heap.size + 1 := by injection h
          simp only [wsz] at h2; exact ⟨by omega, .inr (by omega)⟩
      have hbw : Box w2 w.heap.size 37 #[.int .i64 x, .bool z.neg, .slice A z.mag.length c] :=
        Box.grown (Box.drew (Box.grown (((hb0.ext hx).drew.drew).alloc _) hg1 (fun e => by have := (hrow _ e.symm).2; omega))) hg2 (fun e => by
          have e2 : w.heap.size = g1 := by injection e
          omega)
      have hgw1 : w.grownBy w1 (Value.ownBlock (.slice A0 m.length c0)) := ext_then (Ext.alloc (Ext.drew (Ext.drew hxw)) _) hg1
      have hgw2 : w.grownBy w2 (Value.ownBlock (.slice A0 m.length c0)) := grown_trans (grownBy_drew hgw1) hg2 (fun j hj => by
        have e2 : g1 = j := by injection hj
        rw [← e2]
        exact hg1ne.2)
      have hN2 : Nl w2 (· < base) A c z.mag := hN.keep ((Kp.refl w).grown hgw2 fun j hj h => by have := (hrow j hj).1; omega); have hbr := hbw.rules; have hbl2 := hbw.lt; have hs12 := hgw2.size; have hg1w := (hO2.row g1 rfl).2
      have kl5 : (m.length : Int) < (m.length : Int) + 1 := by omega
      clear r0 hrun hg1 hg2 hv1
      go_wp2_with fail
      refine wp_region_seq 9 [(0, true), (1, true), (2, true), (3, true), (4, true), (5, true), (6, false), (7, true), (8, true), (9, false)] rfl (by kernel_rfl) (by intro _ _ d _ _ h; cases d <;> exact h) ?_
      (repeat (refine sq_take (v := ?_) rfl rfl ?_ ?_; rotate_left; (intro w' hx'; have hc' := hx'.cells.1; (try simp only [wcd] at hc'); go_simp; (first | done | with_reducible rfl)); (try simp only [pt])))
      (refine sq_loud rfl rfl fun K hK => ?_; go_simp)
      refine (rnorm_c (z := z) ⟨_, _, rfl, hN2.ext xt⟩ (by omega)).mono ?_; rintro e w3 ⟨r, rfl, ⟨A4, c4, rfl, hN4⟩, hx3⟩
      (refine hK _ _ xt ?_; clear hK K; (try simp only [pt]))
      (repeat (refine sq_take (v := ?_) rfl rfl ?_ ?_; rotate_left; (intro w' hx'; have hc' := hx'.cells.1; (try simp only [wcd] at hc'); go_simp; (first | done | with_reducible rfl)); (try simp only [pt])))
      have hxx : Ext w2 w3 := xt; have hO3 := hO2.ext hxx
      have hll : (List.take (m.length + 1) (cl m ++ [((0 : Int), (⟨false, []⟩ : Z))]) ++ List.take ((cl m ++ [((0 : Int), (⟨false, []⟩ : Z))]).length - (m.length + 1)) (List.drop m.length (cl m ++ [((0 : Int), (⟨false, []⟩ : Z))]))).length = m.length + 1 := by
        simp only [List.length_append, List.length_take, List.length_drop, List.length_singleton, HL.out]
        omega
      obtain ⟨B3, d3, q0, q1, q2, -, -⟩ := own_at hO3 (k := m.length) (by rw [hll]; omega)
      have hfz := fun o => Own.frz hO3 o
      have p3 := own_put3 (p := (x, cz z.v)) hO3 (k := m.length) (by rw [hll]; omega) hi (hN4.widen (Y := fun c => base ≤ c ∧ c ≠ g1) fun c hc _ => by simp only [wsz] at hc; exact ⟨by omega, by omega⟩); have hsh := shift_set (cl m) m.length (by rw [HL.out]; omega) ((0 : Int), (⟨false, []⟩ : Z)) (x, cz z.v); rw [hsh] at p3
      have hfin : (cl m).take m.length ++ (x, cz z.v) :: (cl m).drop m.length = cl (lay m (x, z.v)) := by
        rw [lay_put (p := (x, z.v)) hk hge Hlay.out]; simp only [cl, List.map_append, List.map_cons, List.map_take, List.map_drop]
      rw [hfin] at p3; clear hsh hfin hll
      (refine sq_last rfl rfl fun K hK => ?_; go_simp; refine hK _ _ ?_; clear hK K)
      go_wp2_with fail
      go_ret
      exact ⟨_, rfl, p3, grown_set (grown_set (grown_set (grown_then hgw2 hxx) hg1ne.2 _ _) hg1ne.2 _ _) hg1ne.2 _ _⟩

end Go.Proofs.YthmjgbkakjpfkaaGreatDoor
