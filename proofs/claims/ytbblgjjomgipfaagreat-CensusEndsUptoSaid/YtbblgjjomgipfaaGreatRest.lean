/- periods: None, Rest; Meet and Join where the period grows too long. No conditions. -/
import Derived.Test.YtbblgjjomgipfaaGreatJsem
import Derived.Test.YtbblgjjomgipfaaGreatJoin
namespace Go.Proofs.YtbblgjjomgipfaaGreat
open Go.RowKit Go.Shelf

/-- A set without numbers. -/
def noneP : Ps := ⟨1, [], [[false]]⟩
/-- What is not in a set. -/
def notL (r : List Bool) : List Bool := r.map not
def restP (s : Ps) : Ps := ⟨s.per, s.cuts, s.rows.map notL⟩
theorem notL_len (r : List Bool) : (notL r).length = r.length := by simp [notL]
theorem notL_at {r : List Bool} {k : Nat} (h : k < r.length) : bth (notL r) k = !(bth r k) := by
  rw [bth_eq _ _ (by rw [notL_len]; exact h), bth_eq _ _ h]
  simp [notL]
theorem rest_ok {s : Ps} {N : Nat} (hs : s.ok N) : (restP s).ok N :=
  ⟨hs.per0, hs.per1, by simp [restP, hs.rows], fun r hr => by
    obtain ⟨q, hq, rfl⟩ := List.mem_map.1 hr
    rw [notL_len]; exact hs.row q hq, hs.ris, hs.len, hs.cut⟩
theorem rest_has {s : Ps} {N : Nat} (hs : s.ok N) (x : Int) : (restP s).has x = !(s.has x) := by
  have p1 := plc_le (zv s.cuts) x
  rw [zv_len] at p1
  have hr := hs.rows
  have hlt := Int.emod_lt_of_pos x (show (0 : Int) < (s.per : Int) by have := hs.per0; omega)
  have hge := Int.emod_nonneg x (show (s.per : Int) ≠ 0 by have := hs.per0; omega)
  have r1 : (rth s.rows (plc (zv s.cuts) x)).length = s.per := by rw [rth_eq _ _ (by omega)]; exact hs.row _ (List.getElem_mem _)
  have e : rth (s.rows.map notL) (plc (zv s.cuts) x) = notL (rth s.rows (plc (zv s.cuts) x)) := by
    rw [rth_eq _ _ (by rw [List.length_map]; omega), rth_eq _ _ (by omega), List.getElem_map]
  show bth (rth (s.rows.map notL) (plc (zv s.cuts) x)) (x % (s.per : Int)).toNat = _
  rw [e, notL_at (by omega)]
  rfl
theorem none_ok {N : Nat} : noneP.ok N := ⟨by simp [noneP], by simp [noneP], rfl, by simp [noneP], by simp [noneP, zv], by simp [noneP], by simp [noneP]⟩
theorem none_has (x : Int) : noneP.has x = false := by
  have e : x % ((1 : Nat) : Int) = 0 := by omega
  show bth (rth [[false]] (plc (zv []) x)) (x % ((1 : Nat) : Int)).toNat = false
  rw [e]
  rfl

set_option maxHeartbeats 400000 in
theorem none_c (w : World) :
    Calls Tryz.prog 32 #[] w fun e w' => ∃ g, e = .returned (.pointer (some ⟨g, 0, none⟩)) ∧ SetV w' (w.heap.size ≤ ·) g noneP ∧ Ext w w' := by
  go_enter Tryz.func32, Tryz.ntmps32
  go_wp2_with fail
  have hR : Rl (w.alloc (.cells #[.bool false] 4)) (w.heap.size ≤ ·) (some ⟨w.heap.size, 0, none⟩) 1 [false] := Rl.one rfl (Nat.le_refl _)
  refine (whole_c (r := [false]) hR).mono ?_
  rintro e w1 ⟨g, rfl, hS, hx1⟩
  go_wp2_with fail
  go_ret
  exact ⟨g, rfl, hS.widen fun b hb _ => by rcases hb with h | h; exact h; simp only [wsz] at h; omega, ((Ext.refl w).alloc _).trans hx1⟩

theorem wpList_appr1 {w : World} {ops : Array Oper} {rest : List Oper} {o : Oper} {a : Act} {Q : Exit → Act → World → Prop} (s x : Operand) {Zp : Nat → Prop} {base : Nat} {v : Value} {l : List (List Bool)} {r : List Bool} {A : Option Addr} {c n : Nat} (hn : n = r.length)
    (h : Own 1 ER w Zp base 81 v l) (hN : Rl w (fun b => Zp b ∧ v.ownBlock ≠ some b) A c r) (hl : l.length ≤ 2199023255552) (hbase : base ≤ w.heap.size)
    (hgd : o.guard = none) (ho : o.op = .call { callee := .builtin .append, args := #[s, x], argTypes := #[77, 77] }) (hs : a.eval s = v) (hx : a.eval x = .slice (some ⟨w.heap.size, 0, none⟩) 1 1)
    (H : ∀ v' w', Own 1 ER w' Zp base 81 v' (l ++ [r]) → (w.alloc (.cells #[.slice A n c] 81)).grownBy w' v.ownBlock →
      (v'.ownBlock = v.ownBlock ∨ v'.ownBlock = some (w.heap.size + 1)) → wpList Tryz.prog ops Q rest (a.put o.dst v') w') :
    wpList Tryz.prog ops Q (o :: rest) a (w.alloc (.cells #[.slice A n c] 81)) := by
  subst hn
  refine wpList_app (m := [r]) ety_r s x (Own.ext h ((Ext.refl w).alloc _)) (Fl.one (cs := [.slice A r.length c]) ⟨A, c, rfl, Sl.keep hN ((Kp.refl w).alloc _)⟩ rfl) (fun _ => ⟨_, _, rfl, fun j u hu => ?_⟩) ?_ ?_ ?_ hgd ho hs hx fun v' w' h1 h2 h3 => H v' w' h1 h2 (by simpa using h3)
  · rw [World.cell?_alloc_at (hn := rfl)]
    match j, hu with
    | 0, hu => simpa using hu
  · simp only [List.length_cons, List.length_nil]; omega
  · simp only [List.length_cons, List.length_nil, maxLen]; omega
  · simp only [World.size_alloc]; omega

theorem Rl.inb {w : World} {X : Nat → Prop} {g o c : Nat} {r : List Bool} (h : Rl w X (some ⟨g, o, none⟩) c r) : Rl w (· = g) (some ⟨g, o, none⟩) c r := by
  refine ⟨h.1, h.2.1, fun h0 => ?_, h.2.2.2⟩
  obtain ⟨b, o', hA, _, hi⟩ := h.2.2.1 h0
  injection hA with hA
  injection hA with e1 e2
  subst e1; subst e2
  exact ⟨g, o, rfl, rfl, hi⟩
theorem ext_drew_alloc (w : World) (o : Obj) : Ext w.drew (w.alloc o).drew := by
  have h := ((Ext.refl w).alloc o).drew
  exact ⟨h.os, h.tape, h.output, h.size, h.block⟩

set_option maxRecDepth 100000 in
set_option maxHeartbeats 3200000 in
theorem rest_c {g N : Nat} {s : Ps} {w : World} {X : Nat → Prop} (hs : SetV w X g s) (hsk : s.ok N) :
    Calls Tryz.prog 14 #[.pointer (some ⟨g, 0, none⟩)] w fun e w' => ∃ r, e = .returned (.pointer (some ⟨r, 0, none⟩)) ∧ SetV w' (fun b => X b ∨ w.heap.size ≤ b) r (restP s) ∧ Ext w w' := by
  have hmade := fun (V : World) (hV : Ext w V) => made_set_c (l := [(g, s)]) (w := V.alloc (.cells #[.pointer (some ⟨g, 0, none⟩)] 31)) (g := V.heap.size) (ty := 31) (Box.new_at _ _ _ rfl) (fun p hp => by
    simp only [List.mem_cons, List.not_mem_nil, or_false] at hp
    subst hp
    exact ⟨X, (hs.ext hV).ext ((Ext.refl V).alloc _), by have := hsk.rows; show 0 < s.rows.length; omega⟩) (by simp) 1 rfl
  have hcl := hsk.len; have hp1 := hsk.per1
  have HRL := Lib.hid hsk.rows
  have hrow := hsk.row
  obtain ⟨cA, c, rA, d, hb, hX, hc, hr⟩ := hs
  have bgr := hb.rules; have bgl := hb.lt
  have hm := hmade w (Ext.refl w)
  clear hmade
  have HRow := Lib.hid hrow
  clear hrow
  go_enter Tryz.func14, Tryz.ntmps14
  go_wp2_with fail
  refine hm.mono ?_
  rintro e w1 ⟨rfl, hx1⟩
  have hE1 : Ext w w1 := ((Ext.refl w).alloc _).trans hx1
  have bg := hb.ext hE1
  have bg1r := bg.rules; have bg1l := bg.lt
  have HE1 := Lib.hid hE1
  clear bgr bgl hm hE1 hx1
  go_upto_region 3 with fail
  refine wp_region_seq 10 [(0, true), (1, true), (2, true), (3, true), (4, true), (5, true), (6, true), (7, true), (8, true), (9, false), (10, false)] rfl (by kernel_rfl) (by intro _ _ d _ _ h; cases d <;> exact h) ?_
  (repeat (first | (refine sq_take (v := ?_) rfl rfl ?_ ?_; rotate_left; (intro w' hx'; have hc' := hx'.cells.1; (try simp only [wcd] at hc'); go_simp; (first | done | with_reducible rfl)); (try simp only [Act.put, List.setIfInBounds_toArray, List.set_cons_zero, List.set_cons_succ])) | (refine sq_skip rfl rfl ?_; (try simp only [Act.put, List.setIfInBounds_toArray, List.set_cons_zero, List.set_cons_succ])) | (refine sq_noloud rfl rfl ?_; (try simp only [Act.put, List.setIfInBounds_toArray, List.set_cons_zero, List.set_cons_succ])) | (refine sq_takeg (v := ?_) rfl rfl ?_ ?_; rotate_left; (intro w' hx'; have hc' := hx'.cells.1; (try simp only [wcd] at hc'); go_simp; (first | done | with_reducible rfl)); (try simp only [Act.put, List.setIfInBounds_toArray, List.set_cons_zero, List.set_cons_succ]))))
  (refine sq_loudg rfl rfl fun K hK => ?_; go_simp)
  refine hK _ _ (ext_drew_alloc w1 _) ?_
  clear hK K
  (try simp only [Act.put, List.setIfInBounds_toArray, List.set_cons_zero, List.set_cons_succ])
  (repeat (first | (refine sq_take (v := ?_) rfl rfl ?_ ?_; rotate_left; (intro w' hx'; have hc' := hx'.cells.1; (try simp only [wcd] at hc'); go_simp; (first | done | with_reducible rfl)); (try simp only [Act.put, List.setIfInBounds_toArray, List.set_cons_zero, List.set_cons_succ])) | (refine sq_skip rfl rfl ?_; (try simp only [Act.put, List.setIfInBounds_toArray, List.set_cons_zero, List.set_cons_succ])) | (refine sq_noloud rfl rfl ?_; (try simp only [Act.put, List.setIfInBounds_toArray, List.set_cons_zero, List.set_cons_succ])) | (refine sq_takeg (v := ?_) rfl rfl ?_ ?_; rotate_left; (intro w' hx'; have hc' := hx'.cells.1; (try simp only [wcd] at hc'); go_simp; (first | done | with_reducible rfl)); (try simp only [Act.put, List.setIfInBounds_toArray, List.set_cons_zero, List.set_cons_succ]))))
  (refine sq_last rfl rfl fun K hK => ?_; go_simp; refine hK _ _ ?_; clear hK K)
  go_upto_region 4 with fail
  refine wp_named fun W hW => ?_
  have bO : Box W w1.heap.size 79 #[.int .i64 (s.per : Nat), .slice cA s.cuts.length c, .slice none 0 0] := by rw [hW]; exact (by repeat (first | with_reducible assumption | with_reducible exact Box.new _ _ _ | (with_reducible refine Box.new_at _ _ _ ?_; (simp only [wsz]; done)) | with_reducible refine Box.drewN ?_ _ | with_reducible refine Box.drew ?_ | with_reducible refine Box.alloc ?_ _ | with_reducible apply Box.drewN | with_reducible apply Box.drew | with_reducible apply Box.alloc | with_reducible refine Box.set_ ?_ _ _ | (with_reducible refine Box.far ?_ ?_ _; rotate_left; (simp only [ne_eq]; omega)) | (with_reducible refine Box.ext ?_ (by with_reducible assumption)) | (refine Box.new_at _ _ _ ?_; simp only [wsz]; done)))
  have hxW : Ext w1 W := by rw [hW]; exact (by repeat (first | with_reducible assumption | with_reducible exact Ext.refl _ | with_reducible refine Ext.drewN ?_ _ | with_reducible refine Ext.drew ?_ | with_reducible refine Ext.alloc ?_ _ | (with_reducible refine Ext.setCell ?_ ?_ _; rotate_left; (first | exact Nat.le_refl _ | (dsimp only; omega) | (simp only [wsz]; omega))) | (with_reducible refine Ext.trans ?_ (by with_reducible assumption))))
  have hWs : W.heap.size = w1.heap.size + 1 := by rw [hW]; simp only [wsz]
  clear hW
  have hE1 := HE1.out
  have hEW := hE1.trans hxW
  have bgW := bg.ext hxW
  have bgWr := bgW.rules; have bgWl := bgW.lt
  have hcW := Sl.keep hc (.of_ext hEW)
  have hlmd := hr.2.1
  simp only [maxLen] at hlmd
  obtain ⟨gO, hgO⟩ : ∃ gO, gO = w1.heap.size := ⟨_, rfl⟩
  rw [← hgO] at bO hWs ⊢
  have hgw : w.heap.size ≤ gO := by rw [hgO]; exact hE1.size
  have hgl := bO.lt
  clear hgO bg1r bg1l
  go_wp2_with fail
  go_loopw [27] (fun iv wr => ∃ k : Nat, k ≤ s.rows.length ∧ iv = .int .i64 k ∧ (∃ vR, Box wr gO 79 #[.int .i64 (s.per : Nat), .slice cA s.cuts.length c, vR] ∧ Own 1 ER wr (gO < ·) (gO + 1) 81 vR ((s.rows.take k).map notL)) ∧ Ext w wr) (fun iv _ => s.rows.length - (intOf iv).toNat)
  case atStart => exact ⟨0, Nat.zero_le _, rfl, ⟨_, bO, by simpa using Own.nil W _ _ _⟩, hEW⟩
  case round =>
    rename World => wo
    obtain ⟨k, hk, rfl, ⟨vR, hB, hO⟩, hx⟩ := hrel
    by_cases hlt : k < s.rows.length
    · obtain ⟨b, o, B, d2, rfl, hXb, q0, hRl⟩ := Rs.at_ (Sl.keep hr (.of_ext hx)) hlt
      have hbw := World.block_lt_of_cell? _ _ q0
      have kl : (k : Int) < (s.rows.length : Int) := by omega
      have hkb : k ≤ 1048577 := by have := HRL.out; omega
      have HKL := Lib.hid (show k + 1 ≤ s.rows.length from hlt)
      have hrk : (rth s.rows k).length = s.per := by rw [rth_eq _ _ hlt]; exact HRow.out _ (List.getElem_mem _)
      have htk : Hid ((s.rows.take (k + 1)).map notL = (s.rows.take k).map notL ++ [notL (rth s.rows k)]) := Lib.hid (by rw [List.take_succ_eq_append_getElem hlt, List.map_append, rth_eq _ _ hlt]; rfl)
      obtain ⟨r, hrr⟩ : ∃ r, r = rth s.rows k := ⟨_, rfl⟩
      rw [← hrr] at q0 hRl hrk htk
      obtain ⟨n, hn⟩ : ∃ n, n = r.length := ⟨_, rfl⟩
      rw [← hn] at q0 hrk
      have hn1 : n ≤ 4096 := by omega
      have HN := Lib.hid hn
      have HRK := Lib.hid hrk
      clear hrr hn hrk
      have hBl := hB.lt
      have hcells : Hid (∀ j, j < n → ∃ b2 o2, B = some ⟨b2, o2, none⟩ ∧ wo.cell? ⟨b2, o2 + j, none⟩ = some (.bool (bth r j))) := Lib.hid fun j hj => by
        obtain ⟨b2, o2, e1, _, e2⟩ := hRl.at_ (k := j) (by rw [← HN.out]; exact hj)
        exact ⟨b2, o2, e1, e2⟩
      go_wp2_with (first
        | (at_make
           (refine wpList_makeb (.tmp 32) (.tmp 32) (fun _ => False) (gO + 1) n (by omega) (by omega) rfl rfl rfl rfl rfl rfl ?_)
           intro w3 hO3 hx3)
        | fail)
      have HO := Lib.hid hO
      have hE3 : Ext w w3 := hx.trans hx3
      have hg1 := hO3.adr
      have hcc : Hid (∀ (U : World), Ext wo U → ∀ j, j < n → ∃ b2 o2, B = some ⟨b2, o2, none⟩ ∧ U.cell? ⟨b2, o2 + j, none⟩ = some (.bool (bth r j)) ∧ b2 < U.heap.size) := Lib.hid fun U hU j hj => by
        obtain ⟨b2, o2, e1, e2⟩ := hcells.out j hj
        have h3 := (hU.cells.1 b2 _ (World.block_lt_of_cell? _ _ e2)).trans e2
        exact ⟨b2, o2, e1, h3, World.block_lt_of_cell? _ _ h3⟩
      have hrl2 : Hid (r.length = n) := Lib.hid HN.out.symm
      clear hcells hRl q0 hbw hO hc hr bgWr bgWl hg1
      obtain ⟨gx, hgx⟩ : ∃ gx, gx = wo.heap.size := ⟨_, rfl⟩
      rw [← hgx] at hO3 ⊢
      have HGX := Lib.hid hgx
      clear hgx
      go_loopw [36] (fun iv wr2 => ∃ (j : Nat) (q : List Bool), j ≤ n ∧ iv = .int .i64 j ∧ Own 1 EB wr2 (fun _ => False) (gO + 1) 4 (.slice (some ⟨gx, 0, none⟩) n n) q ∧ Hid (q.length = n) ∧ Hid (q.take j = (notL r).take j) ∧ Ext wo wr2) (fun iv _ => n - (intOf iv).toNat)
      case atStart => exact ⟨0, _, Nat.zero_le _, rfl, hO3, Lib.hid (by simp), Lib.hid (by simp), hx3⟩
      case round =>
        obtain ⟨j, q, hj, rfl, hOq, hql, hqt, hx4⟩ := hrel
        by_cases hlt2 : j < n
        · obtain ⟨b2, o2, rfl, hcb, hcbl⟩ := hcc.out _ hx4 j hlt2
          have jl : (j : Int) < (n : Int) := by omega
          have hjq : j < q.length := by rw [hql.out]; exact hlt2
          have z1 := bown_at hOq hjq
          have hfz := fun o => Own.frz hOq o
          have hgxl := hOq.adr.2.2.2
          go_wp2_with fail
          go_roundw
          case rel =>
            refine ⟨j + 1, q.set j (!(bth r j)), by omega, by go_num, bown_put hOq hjq, Lib.hid (by rw [List.length_set]; exact hql.out), Lib.hid ?_, hx4.setCell (by have := HGX.out; simp only; omega) _⟩
            rw [bset_take q j _ hjq, hqt.out, take_bth _ _ (by rw [notL_len, hrl2.out]; exact hlt2), notL_at (by rw [hrl2.out]; exact hlt2)]
          case measure => simp [intOf] <;> omega
        · obtain rfl : j = n := by omega
          have hq0 : q = notL r := by
            have h2 := hqt.out
            rw [List.take_of_length_le (by rw [hql.out]; exact Nat.le_refl _), List.take_of_length_le (by rw [notL_len, hrl2.out]; exact Nat.le_refl _)] at h2
            exact h2
          have hHx := HGX.out
          have hO4 := HO.out.ext hx4
          have hrow := HO.out.row
          have hB4 := hB.ext hx4
          have hB4r := hB4.rules; have hB4l := hB4.lt
          have hRx : Rl wr (fun b => gO < b ∧ vR.ownBlock ≠ some b) (some ⟨gx, 0, none⟩) j (notL r) := by
            obtain ⟨A1, d1, e1, h1⟩ := Own.sl hOq (by omega) (X := fun _ => True) (fun _ _ => trivial)
            injection e1 with e1 e2 e3
            subst e1; subst e3
            rw [hq0] at h1
            exact Sl.widen (Rl.inb h1) (by omega) fun b hb _ => ⟨by omega, fun e => by have := (hrow b e).2; omega⟩
          have hlen : ((s.rows.take k).map notL).length ≤ 2199023255552 := by rw [List.length_map, List.length_take]; have := HRL.out; omega
          have hlen' := Lib.hid hlen
          have hjn : Hid (j = (notL r).length) := Lib.hid (by rw [notL_len]; exact hrl2.out.symm)
          have hs4 := hx4.size
          clear hlen hq0 hO3 hx3 hE3 hHx
          go_wp2_with (first
            | (at_builtin
               (refine wpList_appr1 (.tmp 52) (.tmp 54) hjn.out hO4 hRx hlen'.out (by omega) rfl rfl rfl rfl ?_)
               intro v5 w5 hO5 hg5 hv5
               obtain ⟨A5, n5, c5, rfl⟩ : ∃ A n c, v5 = Value.slice A n c := (by obtain ⟨A, c, e, _⟩ := Own.sl hO5 (by omega) (X := fun _ => True) (fun _ _ => trivial); exact ⟨_, _, _, e⟩)
               have hB5 := (hB4.alloc (.cells #[.slice (some ⟨gx, 0, none⟩) j j] 81)).grown hg5 (fun e => by have := (hrow _ e.symm).1; omega)
               have hB5r := hB5.rules; have hB5l := hB5.lt
               clear hB4r hB4l)
            | fail)
          have hE5 : Ext w w5 := ((hx.trans hx4).alloc _).grown hg5 (fun j hj => by have := (hrow j hj).1; omega)
          have hg5s := hg5.size
          simp only [wsz] at hg5s
          go_roundw
          case rel =>
            refine ⟨k + 1, HKL.out, by go_num, ⟨.slice A5 n5 c5, hB5.set_ 2 _, ?_⟩, hE5.setCell (by simp only; omega) _⟩
            rw [htk.out]
            exact (hO5.widen (Z' := fun b => gO < b) fun b hb _ => hb).keep ((Kp.refl w5).setCell (fun h => by
              rcases h with h | h
              · have h2 : gO < gO := h; omega
              · have h2 : gO + 1 ≤ gO := (hO5.row _ h).1; omega) _)
          case measure => have := HKL.out; simp [intOf] <;> omega
    · obtain rfl : k = s.rows.length := by omega
      rw [List.take_length] at hO
      obtain ⟨A5, c5, rfl, hR5⟩ := Own.sl hO (by omega) (X := fun b => gO < b) (fun b hb => by rcases hb with hb | hb; exact hb; omega)
      have hRL := HRL.out
      have hcX := Sl.keep hc (.of_ext hx)
      clear hRL
      go_wp2_with fail
      go_ret
      exact ⟨gO, rfl, ⟨cA, c, A5, c5, hB, .inr hgw, Sl.widen hcX (by omega) fun b hb _ => .inl hb, Sl.widen hR5 (by omega) fun b hb _ => .inr (by omega)⟩, hx⟩

set_option maxRecDepth 100000 in
set_option maxHeartbeats 1600000 in
theorem joined_no_c {g h fi N : Nat} {s o : Ps} {w : World} {X Y : Nat → Prop} (hs : SetV w X g s) (ho : SetV w Y h o) (hsk : s.ok N) (hok : o.ok N) (hq : ¬ Nat.lcm s.per o.per ≤ 4096) :
    Calls Tryz.prog 72 #[.pointer (some ⟨g, 0, none⟩), .pointer (some ⟨h, 0, none⟩), .func (.func fi) #[] #[]] w fun e w' =>
      e = .returned (.tuple #[.pointer none, .int .i64 180]) ∧ Ext w w' := by
  have p1 := hsk.per0; have p2 := hok.per0
  have hmade := fun (V : World) (hV : Ext w V) => made_set_c (l := [(g, s), (h, o)]) (w := V.alloc (.cells #[.pointer (some ⟨g, 0, none⟩), .pointer (some ⟨h, 0, none⟩)] 31)) (g := V.heap.size) (ty := 31) (Box.new_at _ _ _ rfl) (fun p hp => by
    simp only [List.mem_cons, List.not_mem_nil, or_false] at hp
    rcases hp with rfl | rfl
    · exact ⟨X, (hs.ext hV).ext ((Ext.refl V).alloc _), by have := hsk.rows; show 0 < s.rows.length; omega⟩
    · exact ⟨Y, (ho.ext hV).ext ((Ext.refl V).alloc _), by have := hok.rows; show 0 < o.rows.length; omega⟩) (by simp) 2 rfl
  have hcom := fun (V : World) => common_c s.per o.per p1 p2 hsk.per1 hok.per1 V
  obtain ⟨q, hqe⟩ : ∃ q, q = Nat.lcm s.per o.per := ⟨_, rfl⟩
  rw [← hqe] at hq hcom
  have hq9 : q ≤ 16777216 := by
    rw [hqe]
    have h1 := Nat.lcm_dvd_mul s.per o.per
    have h2 := Nat.le_of_dvd (Nat.mul_pos p1 p2) h1
    have h3 := Nat.mul_le_mul hsk.per1 hok.per1
    omega
  clear hqe
  obtain ⟨cA, c, rA, d, hb, hX, hc, hr⟩ := id hs
  obtain ⟨cB, c', rB, d', hb', hX', hc', hr'⟩ := id ho
  have bgr := hb.rules; have bgl := hb.lt
  have bhr := hb'.rules; have bhl := hb'.lt
  clear hc hr hc' hr' hX hX'
  go_enter Tryz.func72, Tryz.ntmps72
  go_upto_region 1 with fail
  refine wp_named fun W hW => ?_
  have b3 : Box W w.heap.size 31 #[.pointer (some ⟨g, 0, none⟩)] := by rw [hW]; exact (by repeat (first | with_reducible assumption | with_reducible exact Box.new _ _ _ | (with_reducible refine Box.new_at _ _ _ ?_; (simp only [wsz]; done)) | with_reducible refine Box.drewN ?_ _ | with_reducible refine Box.drew ?_ | with_reducible refine Box.alloc ?_ _ | with_reducible apply Box.drewN | with_reducible apply Box.drew | with_reducible apply Box.alloc | with_reducible refine Box.set_ ?_ _ _ | (with_reducible refine Box.far ?_ ?_ _; rotate_left; (simp only [ne_eq]; omega)) | (with_reducible refine Box.ext ?_ (by with_reducible assumption)) | (refine Box.new_at _ _ _ ?_; simp only [wsz]; done)))
  have b4 : Box W (w.heap.size + 1) 31 #[.pointer (some ⟨h, 0, none⟩)] := by rw [hW]; exact (by repeat (first | with_reducible assumption | with_reducible exact Box.new _ _ _ | (with_reducible refine Box.new_at _ _ _ ?_; (simp only [wsz]; done)) | with_reducible refine Box.drewN ?_ _ | with_reducible refine Box.drew ?_ | with_reducible refine Box.alloc ?_ _ | with_reducible apply Box.drewN | with_reducible apply Box.drew | with_reducible apply Box.alloc | with_reducible refine Box.set_ ?_ _ _ | (with_reducible refine Box.far ?_ ?_ _; rotate_left; (simp only [ne_eq]; omega)) | (with_reducible refine Box.ext ?_ (by with_reducible assumption)) | (refine Box.new_at _ _ _ ?_; simp only [wsz]; done)))
  have b5 : Box W (w.heap.size + 1 + 1) 98 #[.func (.func fi) #[] #[]] := by rw [hW]; exact (by repeat (first | with_reducible assumption | with_reducible exact Box.new _ _ _ | (with_reducible refine Box.new_at _ _ _ ?_; (simp only [wsz]; done)) | with_reducible refine Box.drewN ?_ _ | with_reducible refine Box.drew ?_ | with_reducible refine Box.alloc ?_ _ | with_reducible apply Box.drewN | with_reducible apply Box.drew | with_reducible apply Box.alloc | with_reducible refine Box.set_ ?_ _ _ | (with_reducible refine Box.far ?_ ?_ _; rotate_left; (simp only [ne_eq]; omega)) | (with_reducible refine Box.ext ?_ (by with_reducible assumption)) | (refine Box.new_at _ _ _ ?_; simp only [wsz]; done)))
  have hE : Ext w W := by rw [hW]; exact (by repeat (first | with_reducible assumption | with_reducible exact Ext.refl _ | with_reducible refine Ext.drewN ?_ _ | with_reducible refine Ext.drew ?_ | with_reducible refine Ext.alloc ?_ _ | (with_reducible refine Ext.setCell ?_ ?_ _; rotate_left; (first | exact Nat.le_refl _ | (dsimp only; omega) | (simp only [wsz]; omega))) | (with_reducible refine Ext.trans ?_ (by with_reducible assumption))))
  have hWs : W.heap.size = w.heap.size + 1 + 1 + 1 := by rw [hW]; simp only [wsz]
  clear hW
  have hm := hmade W hE
  have b3r := b3.rules; have b3l := b3.lt
  have b4r := b4.rules; have b4l := b4.lt
  have HWs := Lib.hid hWs
  clear hmade hWs bgr bhr
  go_wp2_with fail
  refine hm.mono ?_
  rintro e w1 ⟨rfl, hx1⟩
  have hE1 : Ext w w1 := hE.trans (Ext.trans ((Ext.refl W).alloc _) hx1)
  have c3 := (b3.alloc (.cells #[.pointer (some ⟨g, 0, none⟩), .pointer (some ⟨h, 0, none⟩)] 31)).ext hx1
  have c4 := (b4.alloc (.cells #[.pointer (some ⟨g, 0, none⟩), .pointer (some ⟨h, 0, none⟩)] 31)).ext hx1
  have c5 := (b5.alloc (.cells #[.pointer (some ⟨g, 0, none⟩), .pointer (some ⟨h, 0, none⟩)] 31)).ext hx1
  have b3r := c3.rules; have b3l := c3.lt
  have b4r := c4.rules; have b4l := c4.lt
  have bg := hb.ext hE1; have bh := hb'.ext hE1
  have bgr := bg.rules; have bgl := bg.lt
  have bhr := bh.rules; have bhl := bh.lt
  clear b3 b4 b5 hb hb' hm
  go_wp2_with fail
  refine wp_region_free [(0, 19, []), (1, 20, [(0, 19)]), (2, 21, [(1, 20)]), (3, 22, [(2, 21)]), (4, 23, []), (5, 24, [(4, 23)]), (6, 25, [(5, 24)]), (7, 26, [(6, 25)]), (8, 27, [(3, 22), (7, 26)]), (9, 8, [])] [10] [19, 20, 21, 22, 23, 24, 25, 26, 27, 8] [9] [] [phiEq (.pointer (some ⟨g, 0, none⟩)), phiEq (.pointer (some ⟨g, 0, none⟩)), phiEq (.pointer (some ⟨g, 0, none⟩)), phiEq (.int .i64 (s.per : Nat)), phiEq (.pointer (some ⟨h, 0, none⟩)), phiEq (.pointer (some ⟨h, 0, none⟩)), phiEq (.pointer (some ⟨h, 0, none⟩)), phiEq (.int .i64 (o.per : Nat)),
    phiEq (.int .i64 (q : Nat)), phiBox w1.heap.size 3 #[.int .i64 0]] rfl (by kernel_rfl) (by intro _ _ d _ _ h; cases d <;> exact h) (by kernel_rfl) (by kernel_rfl) ?_ ?_
  · (refine ps_eq rfl rfl rfl rfl rfl rfl ?_ ?_; focus (intro f w1 hx hd; have hc' := hx.cells.1; (try simp only [wcd] at hc'); (dsimp only [PhiDeps, phiAt, phiEq, phiZ, phiAny, phiBox] at hd); (simp only [fillA]; (try simp only [Act.put, List.setIfInBounds_toArray, List.set_cons_zero, List.set_cons_succ])); (try simp only [hd]); go_simp; (first | done | with_reducible rfl)))
    (refine ps_eq rfl rfl rfl rfl rfl rfl ?_ ?_; focus (intro f w1 hx hd; have hc' := hx.cells.1; (try simp only [wcd] at hc'); (dsimp only [PhiDeps, phiAt, phiEq, phiZ, phiAny, phiBox] at hd); (simp only [fillA]; (try simp only [Act.put, List.setIfInBounds_toArray, List.set_cons_zero, List.set_cons_succ])); (try simp only [hd]); go_simp; (first | done | with_reducible rfl)))
    (refine ps_eq rfl rfl rfl rfl rfl rfl ?_ ?_; focus (intro f w1 hx hd; have hc' := hx.cells.1; (try simp only [wcd] at hc'); (dsimp only [PhiDeps, phiAt, phiEq, phiZ, phiAny, phiBox] at hd); (simp only [fillA]; (try simp only [Act.put, List.setIfInBounds_toArray, List.set_cons_zero, List.set_cons_succ])); (try simp only [hd]); go_simp; (first | done | with_reducible rfl)))
    (refine ps_eq rfl rfl rfl rfl rfl rfl ?_ ?_; focus (intro f w1 hx hd; have hc' := hx.cells.1; (try simp only [wcd] at hc'); (dsimp only [PhiDeps, phiAt, phiEq, phiZ, phiAny, phiBox] at hd); (simp only [fillA]; (try simp only [Act.put, List.setIfInBounds_toArray, List.set_cons_zero, List.set_cons_succ])); (try simp only [hd]); go_simp; (first | done | with_reducible rfl)))
    (refine ps_eq rfl rfl rfl rfl rfl rfl ?_ ?_; focus (intro f w1 hx hd; have hc' := hx.cells.1; (try simp only [wcd] at hc'); (dsimp only [PhiDeps, phiAt, phiEq, phiZ, phiAny, phiBox] at hd); (simp only [fillA]; (try simp only [Act.put, List.setIfInBounds_toArray, List.set_cons_zero, List.set_cons_succ])); (try simp only [hd]); go_simp; (first | done | with_reducible rfl)))
    (refine ps_eq rfl rfl rfl rfl rfl rfl ?_ ?_; focus (intro f w1 hx hd; have hc' := hx.cells.1; (try simp only [wcd] at hc'); (dsimp only [PhiDeps, phiAt, phiEq, phiZ, phiAny, phiBox] at hd); (simp only [fillA]; (try simp only [Act.put, List.setIfInBounds_toArray, List.set_cons_zero, List.set_cons_succ])); (try simp only [hd]); go_simp; (first | done | with_reducible rfl)))
    (refine ps_eq rfl rfl rfl rfl rfl rfl ?_ ?_; focus (intro f w1 hx hd; have hc' := hx.cells.1; (try simp only [wcd] at hc'); (dsimp only [PhiDeps, phiAt, phiEq, phiZ, phiAny, phiBox] at hd); (simp only [fillA]; (try simp only [Act.put, List.setIfInBounds_toArray, List.set_cons_zero, List.set_cons_succ])); (try simp only [hd]); go_simp; (first | done | with_reducible rfl)))
    (refine ps_eq rfl rfl rfl rfl rfl rfl ?_ ?_; focus (intro f w1 hx hd; have hc' := hx.cells.1; (try simp only [wcd] at hc'); (dsimp only [PhiDeps, phiAt, phiEq, phiZ, phiAny, phiBox] at hd); (simp only [fillA]; (try simp only [Act.put, List.setIfInBounds_toArray, List.set_cons_zero, List.set_cons_succ])); (try simp only [hd]); go_simp; (first | done | with_reducible rfl)))
    (refine ps_loud rfl rfl rfl rfl rfl (fun f w1 hx hd K hK => ?_) ?_)
    · (have hc' := hx.cells.1; (try simp only [wcd] at hc'); (dsimp only [PhiDeps, phiAt, phiEq, phiZ, phiAny, phiBox] at hd); simp only [fillA, Act.put, List.setIfInBounds_toArray, List.set_cons_zero, List.set_cons_succ] at hK; (simp only [fillA]; (try simp only [Act.put, List.setIfInBounds_toArray, List.set_cons_zero, List.set_cons_succ])); (try simp only [hd] at hK ⊢); go_simp)
      refine (hcom _).mono ?_
      rintro e w2 ⟨rfl, hx2⟩
      (refine hK _ _ (by repeat (first | with_reducible assumption | with_reducible exact Ext.refl _ | with_reducible refine Ext.drewN ?_ _ | with_reducible refine Ext.drew ?_ | with_reducible refine Ext.alloc ?_ _ | (with_reducible refine Ext.setCell ?_ ?_ _; rotate_left; (first | exact Nat.le_refl _ | (dsimp only; omega) | (simp only [wsz]; omega))) | (with_reducible refine Ext.trans ?_ (by with_reducible assumption)))) ?_; dsimp only [phiAt, phiEq, phiZ, phiAny, phiBox])
    (refine ps_alloc rfl rfl rfl rfl rfl ?_ (by repeat (first | exact ab_nil | refine ab_cons rfl ?_)) ?_ ?_; (focus (first | omega | (simp only [wsz]; done) | (simp only [wsz]; omega))); (focus (intro f w1; (simp only [fillA]; (try simp only [Act.put, List.setIfInBounds_toArray, List.set_cons_zero, List.set_cons_succ])); go_simp; try (with_reducible rfl))))
    exact ps_nil
  · intro fv w2 hx2 hall hne
    (dsimp only [PhiAll, phiAt, phiEq, phiZ, phiAny, phiBox] at hall)
    obtain ⟨v19, v20, v21, v22, v23, v24, v25, v26, v27, ⟨g8, v8, hg8, hB8⟩, -⟩ := hall
    clear hne
    have B8r := hB8.rules; have B8l := hB8.lt
    have hx2' : Ext w1 w2 := (Ext.refl w1).drew.trans hx2
    have hE2 := hE1.trans hx2'
    clear b3r b4r bgr bhr
    (simp only [fillA]; (try simp only [Act.put, List.setIfInBounds_toArray, List.set_cons_zero, List.set_cons_succ]))
    simp only [v19, v20, v21, v22, v23, v24, v25, v26, v27, v8]
    (refine sh_late rfl rfl fun K hK => ?_; go_simp; refine hK _ _ ?_; clear hK K)
    refine sh_end ?_
    refine x_named fun T hT => ?_
    have hET : Ext w1 T := by rw [hT]; exact hx2'.setCell hg8 _
    have b8 : Box T g8 3 #[.int .i64 (q : Nat)] := by rw [hT]; exact hB8.set_ 0 _
    clear hT B8r B8l hB8 hx2 hx2' v19 v20 v21 v22 v23 v24 v25 v26 v27 v8
    have hEwT := hE1.trans hET
    have b8r := b8.rules; have b8l := b8.lt
    have hqn : (4096 : Int) < (q : Int) := by omega
    go_wp2_with fail
    (refine bodyPost_ret (v := ?_) ?_ rfl ?_; rotate_left; (simp only [results, Tryz.results72]; go_simp; (first | done | with_reducible rfl)))
    exact ⟨rfl, hEwT⟩

/-- What joined makes of two sets. -/
def joinP (f : Bool → Bool → Bool) (s o : Ps) (l : List Z) : Ps := ⟨Nat.lcm s.per o.per, (jfold f s o (Nat.lcm s.per o.per) l).1, (jfold f s o (Nat.lcm s.per o.per) l).2⟩

set_option maxHeartbeats 800000 in
theorem meet_no_c {g h N : Nat} {s o : Ps} {w : World} {X Y : Nat → Prop} (hs : SetV w X g s) (ho : SetV w Y h o) (hsk : s.ok N) (hok : o.ok N) (hq : ¬ Nat.lcm s.per o.per ≤ 4096) :
    Calls Tryz.prog 36 #[.pointer (some ⟨g, 0, none⟩), .pointer (some ⟨h, 0, none⟩)] w fun e w' => e = .returned (.tuple #[.pointer none, .int .i64 180]) ∧ Ext w w' := by
  have hc := joined_no_c (fi := 73) hs ho hsk hok hq
  clear hq
  go_enter Tryz.func36, Tryz.ntmps36
  go_wp2_with fail
  refine hc.mono ?_
  rintro e w1 ⟨rfl, hx1⟩
  go_wp2_with fail
  (refine bodyPost_ret (v := ?_) ?_ rfl ?_; rotate_left; (simp only [results, Tryz.results36]; go_simp; (first | done | with_reducible rfl)))
  exact ⟨rfl, hx1⟩
set_option maxHeartbeats 800000 in
theorem join_no_c {g h N : Nat} {s o : Ps} {w : World} {X Y : Nat → Prop} (hs : SetV w X g s) (ho : SetV w Y h o) (hsk : s.ok N) (hok : o.ok N) (hq : ¬ Nat.lcm s.per o.per ≤ 4096) :
    Calls Tryz.prog 68 #[.pointer (some ⟨g, 0, none⟩), .pointer (some ⟨h, 0, none⟩)] w fun e w' => e = .returned (.tuple #[.pointer none, .int .i64 180]) ∧ Ext w w' := by
  have hc := joined_no_c (fi := 98) hs ho hsk hok hq
  clear hq
  go_enter Tryz.func68, Tryz.ntmps68
  go_wp2_with fail
  refine hc.mono ?_
  rintro e w1 ⟨rfl, hx1⟩
  go_wp2_with fail
  (refine bodyPost_ret (v := ?_) ?_ rfl ?_; rotate_left; (simp only [results, Tryz.results68]; go_simp; (first | done | with_reducible rfl)))
  exact ⟨rfl, hx1⟩
set_option maxHeartbeats 400000 in
theorem join1_c (x y : Bool) (w : World) :
    Calls Tryz.prog 98 #[.bool x, .bool y] w fun e w' => e = .returned (.bool (x || y)) ∧ Ext w w' := by
  go_enter Tryz.func98, Tryz.ntmps98
  cases x
  · go_wp2_with fail
    go_ret
    exact ⟨by simp, (by repeat (first | with_reducible assumption | with_reducible exact Ext.refl _ | with_reducible refine Ext.drewN ?_ _ | with_reducible refine Ext.drew ?_ | with_reducible refine Ext.alloc ?_ _ | (with_reducible refine Ext.setCell ?_ ?_ _; rotate_left; (first | exact Nat.le_refl _ | (dsimp only; omega) | (simp only [wsz]; omega))) | (with_reducible refine Ext.trans ?_ (by with_reducible assumption))))⟩
  · go_wp2_with fail
    go_ret
    exact ⟨rfl, (by repeat (first | with_reducible assumption | with_reducible exact Ext.refl _ | with_reducible refine Ext.drewN ?_ _ | with_reducible refine Ext.drew ?_ | with_reducible refine Ext.alloc ?_ _ | (with_reducible refine Ext.setCell ?_ ?_ _; rotate_left; (first | exact Nat.le_refl _ | (dsimp only; omega) | (simp only [wsz]; omega))) | (with_reducible refine Ext.trans ?_ (by with_reducible assumption))))⟩
set_option maxHeartbeats 800000 in
theorem join_c {g h N : Nat} {s o : Ps} {w : World} {X Y : Nat → Prop} (hs : SetV w X g s) (ho : SetV w Y h o) (hsk : s.ok N) (hok : o.ok N) (hq : Nat.lcm s.per o.per ≤ 4096) :
    Calls Tryz.prog 68 #[.pointer (some ⟨g, 0, none⟩), .pointer (some ⟨h, 0, none⟩)] w fun e w' =>
      ∃ r l, Mrg s o l ∧ e = .returned (.tuple #[.pointer (some ⟨r, 0, none⟩), .int .i64 0]) ∧ SetV w' (fun b => X b ∨ Y b ∨ w.heap.size ≤ b) r ⟨Nat.lcm s.per o.per, (jfold or s o (Nat.lcm s.per o.per) l).1, (jfold or s o (Nat.lcm s.per o.per) l).2⟩ ∧ Ext w w' := by
  have eg : ∀ args w, (callFunc 98 args).run Tryz.prog w = .ok (.enter 98 args) w := enters_of Tryz.func98 (by kernel_rfl) rfl
  have hc := joined_c (fi := 98) (f := or) hs ho hsk hok eg (fun x y W => join1_c x y W) hq
  obtain ⟨R, hR⟩ : ∃ R : List Z → Ps, R = fun l => ⟨Nat.lcm s.per o.per, (jfold or s o (Nat.lcm s.per o.per) l).1, (jfold or s o (Nat.lcm s.per o.per) l).2⟩ := ⟨_, rfl⟩
  have hR' : ∀ l, (⟨Nat.lcm s.per o.per, (jfold or s o (Nat.lcm s.per o.per) l).1, (jfold or s o (Nat.lcm s.per o.per) l).2⟩ : Ps) = R l := fun l => by rw [hR]
  simp only [hR'] at hc ⊢
  clear hR hR'
  go_enter Tryz.func68, Tryz.ntmps68
  go_wp2_with fail
  refine hc.mono ?_
  rintro e w1 ⟨r, l, hM, rfl, hS, hx1⟩
  go_wp2_with fail
  (refine bodyPost_ret (v := ?_) ?_ rfl ?_; rotate_left; (simp only [results, Tryz.results68]; go_simp; (first | done | with_reducible rfl)))
  exact ⟨r, l, hM, rfl, hS, hx1⟩

set_option maxHeartbeats 1600000 in
theorem class_zero_c {u v : Value} {x y : Z} {w : World} {X Y : Nat → Prop} (hx : Zi w X u x) (hy : Zi w Y v y) (h0 : x.v = 0) :
    Calls Tryz.prog 34 #[u, v] w fun e w' => e = .returned (.tuple #[.pointer none, .int .i64 11]) ∧ Ext w w' := by
  have hxi := hx
  have hsg : sgn x.v = 0 := sgn_zero.2 h0
  have hsign := fun (V : World) (hV : Ext w V) => zsign_c (hxi.ext hV)
  rw [hsg] at hsign
  clear hsg h0
  obtain ⟨A, c, rfl, hx⟩ := hx
  obtain ⟨B, d, rfl, hy⟩ := hy
  go_enter Tryz.func34, Tryz.ntmps34
  go_wp2_with fail
  refine (hsign _ (by repeat (first | with_reducible assumption | with_reducible exact Ext.refl _ | with_reducible refine Ext.drewN ?_ _ | with_reducible refine Ext.drew ?_ | with_reducible refine Ext.alloc ?_ _ | (with_reducible refine Ext.setCell ?_ ?_ _; rotate_left; (first | exact Nat.le_refl _ | (dsimp only; omega) | (simp only [wsz]; omega))) | (with_reducible refine Ext.trans ?_ (by with_reducible assumption))))).mono ?_
  rintro e w1 ⟨rfl, hx1⟩
  have hE : Ext w w1 := (by repeat (first | with_reducible assumption | with_reducible exact Ext.refl _ | with_reducible refine Ext.drewN ?_ _ | with_reducible refine Ext.drew ?_ | with_reducible refine Ext.alloc ?_ _ | (with_reducible refine Ext.setCell ?_ ?_ _; rotate_left; (first | exact Nat.le_refl _ | (dsimp only; omega) | (simp only [wsz]; omega))) | (with_reducible refine Ext.trans ?_ (by with_reducible assumption))))
  go_wp2_with fail
  (refine bodyPost_ret (v := ?_) ?_ rfl ?_; rotate_left; (simp only [results, Tryz.results34]; go_simp; (first | done | with_reducible rfl)))
  exact ⟨rfl, (by repeat (first | with_reducible assumption | with_reducible exact Ext.refl _ | with_reducible refine Ext.drewN ?_ _ | with_reducible refine Ext.drew ?_ | with_reducible refine Ext.alloc ?_ _ | (with_reducible refine Ext.setCell ?_ ?_ _; rotate_left; (first | exact Nat.le_refl _ | (dsimp only; omega) | (simp only [wsz]; omega))) | (with_reducible refine Ext.trans ?_ (by with_reducible assumption))))⟩
set_option maxHeartbeats 1600000 in
theorem class_long_c {u v : Value} {x y : Z} {w : World} {X Y : Nat → Prop} (hx : Zi w X u x) (hy : Zi w Y v y) (hLx : x.mag.length ≤ 1099511627776) (h0 : x.v ≠ 0) (h1 : ¬ x.v.natAbs ≤ 4096) :
    Calls Tryz.prog 34 #[u, v] w fun e w' => e = .returned (.tuple #[.pointer none, .int .i64 180]) ∧ Ext w w' := by
  have hxi := hx
  have hsg : (sgn x.v == 0) = false := by rw [beq_eq_false_iff_ne]; exact fun h => h0 (sgn_zero.1 h)
  obtain ⟨sg, hsge⟩ : ∃ sg, sg = sgn x.v := ⟨_, rfl⟩
  have hsign := fun (V : World) (hV : Ext w V) => zsign_c (hxi.ext hV)
  have hper := fun (V : World) (hV : Ext w V) => period_c (hxi.ext hV) hLx
  have hd : decide (x.v.natAbs ≤ 4096) = false := decide_eq_false h1
  rw [← hsge] at hsign hsg
  clear hsge h0
  obtain ⟨A, c, rfl, hx⟩ := hx
  obtain ⟨B, d, rfl, hy⟩ := hy
  go_enter Tryz.func34, Tryz.ntmps34
  go_wp2_with fail
  have hE0 : Ext w _ := (((Ext.refl w).alloc (.cells #[.bool x.neg, .slice A x.mag.length c] 25)).alloc (.cells #[.bool y.neg, .slice B y.mag.length d] 25))
  refine (hsign _ hE0).mono ?_
  rintro e w1 ⟨rfl, hx1⟩
  have b2 : Box w1 w.heap.size 25 #[.bool x.neg, .slice A x.mag.length c] := Box.ext (by repeat (first | with_reducible assumption | with_reducible exact Box.new _ _ _ | (with_reducible refine Box.new_at _ _ _ ?_; (simp only [wsz]; done)) | with_reducible refine Box.drewN ?_ _ | with_reducible refine Box.drew ?_ | with_reducible refine Box.alloc ?_ _ | with_reducible apply Box.drewN | with_reducible apply Box.drew | with_reducible apply Box.alloc | with_reducible refine Box.set_ ?_ _ _ | (with_reducible refine Box.far ?_ ?_ _; rotate_left; (simp only [ne_eq]; omega)) | (with_reducible refine Box.ext ?_ (by with_reducible assumption)) | (refine Box.new_at _ _ _ ?_; simp only [wsz]; done))) hx1
  have hE := hE0.trans hx1
  have b2r := b2.rules; have b2l := b2.lt
  clear hE0
  rw [hd] at hper
  obtain ⟨pv, hpv⟩ : ∃ pv, pv = i64v ((x.v.natAbs : Nat) : Int) := ⟨_, rfl⟩
  rw [← hpv] at hper
  clear hpv hd h1
  go_wp2_with fail
  refine (hper _ hE).mono ?_
  rintro e w2 ⟨rfl, hx2⟩
  have hE2 := hE.trans hx2
  go_wp2_with fail
  (refine bodyPost_ret (v := ?_) ?_ rfl ?_; rotate_left; (simp only [results, Tryz.results34]; go_simp; (first | done | with_reducible rfl)))
  exact ⟨rfl, (by repeat (first | with_reducible assumption | with_reducible exact Ext.refl _ | with_reducible refine Ext.drewN ?_ _ | with_reducible refine Ext.drew ?_ | with_reducible refine Ext.alloc ?_ _ | (with_reducible refine Ext.setCell ?_ ?_ _; rotate_left; (first | exact Nat.le_refl _ | (dsimp only; omega) | (simp only [wsz]; omega))) | (with_reducible refine Ext.trans ?_ (by with_reducible assumption))))⟩

end Go.Proofs.YtbblgjjomgipfaaGreat
