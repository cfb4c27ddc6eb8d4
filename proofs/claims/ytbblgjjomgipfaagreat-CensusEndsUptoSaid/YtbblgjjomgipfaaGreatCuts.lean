/- periods: Cuts, whole, Class, Above. No conditions. -/
import Derived.Test.YtbblgjjomgipfaaGreatAt
import Derived.Test.YtbblgjjomgipfaaGreatOwn2
namespace Go.Proofs.YtbblgjjomgipfaaGreat
open Go.RowKit Go.Shelf

theorem ety_z : Ety Tryz.prog 41 25 2 32 (.agg #[.bool false, .slice none 0 0]) := ⟨Tryz.underlying41, by kernel_rfl, by simp [Value.cells], by omega⟩
theorem ety_b : Ety Tryz.prog 81 4 1 1 (.bool false) := ⟨by kernel_rfl, by kernel_rfl, by simp [Value.cells], by omega⟩
theorem ety_r : Ety Tryz.prog 77 81 1 24 (.slice none 0 0) := ⟨Tryz.underlying77, by kernel_rfl, by simp [Value.cells], by omega⟩

/-- append(l, Int{..}). -/
theorem wpList_appz1 {w : World} {ops : Array Oper} {rest : List Oper} {o : Oper} {a : Act} {Q : Exit → Act → World → Prop} (s x : Operand) {Zp : Nat → Prop} {base : Nat} {v : Value} {l : List Z} {z : Z} {A : Option Addr} {c : Nat}
    (h : Own 2 EZ w Zp base 25 v l) (hN : Nl w (fun b => Zp b ∧ v.ownBlock ≠ some b) A c z.mag) (hl : l.length ≤ 2199023255552) (hbase : base ≤ w.heap.size)
    (hgd : o.guard = none) (ho : o.op = .call { callee := .builtin .append, args := #[s, x], argTypes := #[41, 41] }) (hs : a.eval s = v) (hx : a.eval x = .slice (some ⟨w.heap.size, 0, none⟩) 1 1)
    (H : ∀ v' w', Own 2 EZ w' Zp base 25 v' (l ++ [z]) → (w.alloc (.cells #[.bool z.neg, .slice A z.mag.length c] 25)).grownBy w' v.ownBlock →
      (v'.ownBlock = v.ownBlock ∨ v'.ownBlock = some (w.heap.size + 1)) → wpList Tryz.prog ops Q rest (a.put o.dst v') w') :
    wpList Tryz.prog ops Q (o :: rest) a (w.alloc (.cells #[.bool z.neg, .slice A z.mag.length c] 25)) := by
  refine wpList_app (m := [z]) ety_z s x (Own.ext h ((Ext.refl w).alloc _)) (Fl.one (cs := [.bool z.neg, .slice A z.mag.length c]) ⟨A, c, rfl, hN.ext ((Ext.refl w).alloc _)⟩ rfl) (fun _ => ⟨_, _, rfl, fun j u hu => ?_⟩) ?_ ?_ ?_ hgd ho hs hx fun v' w' h1 h2 h3 => H v' w' h1 h2 (by simpa using h3)
  · rw [World.cell?_alloc_at (hn := rfl)]
    match j, hu with
    | 0, hu => simpa using hu
    | 1, hu => simpa using hu
  · simp only [List.length_cons, List.length_nil]; omega
  · simp only [List.length_cons, List.length_nil, maxLen]; omega
  · simp only [World.size_alloc]; omega

set_option maxHeartbeats 1600000 in
theorem cuts_c {g : Nat} {s : Ps} {w : World} {X : Nat → Prop} {N : Nat} (h : SetV w X g s) (hs : s.ok N) (hN : N ≤ 1099511627776) :
    Calls Tryz.prog 31 #[.pointer (some ⟨g, 0, none⟩)] w fun e w' => ∃ A c, e = .returned (.slice A s.cuts.length c) ∧ Zs w' (w.heap.size ≤ ·) A c s.cuts ∧ Ext w w' := by
  have hcl := hs.len; have hcut := hs.cut
  obtain ⟨cA, c, rA, d, hb, hX, hc, hr⟩ := h
  have bgr := hb.rules; have bgl := hb.lt
  go_enter Tryz.func31, Tryz.ntmps31
  go_wp2_with fail
  go_loopw [3, 13] (fun lv iv wr => ∃ k : Nat, k ≤ s.cuts.length ∧ iv = .int .i64 k ∧ Own 2 EZ wr (w.heap.size ≤ ·) w.heap.size 25 lv (s.cuts.take k) ∧ Ext w wr) (fun _ iv _ => s.cuts.length - (intOf iv).toNat)
  case atStart => exact ⟨0, Nat.zero_le _, rfl, Own.nil _ _ _ _, Ext.refl _⟩
  case round =>
    obtain ⟨k, hkk, rfl, hO, hxr⟩ := hrel
    have hrow := hO.row
    have hsr := hxr.size
    by_cases hlt : k < s.cuts.length
    · obtain ⟨b, o, B', d', rfl, hXb, hc0, hc1, hN2⟩ := (hc.ext hxr).at_ hlt
      have hbw := World.block_lt_of_cell? _ _ hc0
      have kl : (k : Int) < (s.cuts.length : Int) := by omega
      obtain ⟨hz1, hz2⟩ := hcut _ (zth_mem hlt)
      have hcall := fun (V : World) (hV : Ext wr V) => znorm_c (z := zth s.cuts k) ⟨_, _, rfl, hN2.ext hV⟩ (by omega)
      rw [hz2] at hcall
      obtain ⟨zc, hzc⟩ : ∃ zc, zc = zth s.cuts k := ⟨_, rfl⟩
      have e2 := take_zth s.cuts k hlt
      rw [← hzc] at hcall hc0 hc1 hN2 hz1 e2
      have HE := Lib.hid e2
      clear hz2 hzc e2
      go_wp2_with fail
      refine (hcall _ (by repeat (first | with_reducible assumption | with_reducible exact Ext.refl _ | with_reducible refine Ext.drewN ?_ _ | with_reducible refine Ext.drew ?_ | with_reducible refine Ext.alloc ?_ _ | (with_reducible refine Ext.setCell ?_ ?_ _; rotate_left; (first | exact Nat.le_refl _ | (dsimp only; omega) | (simp only [wsz]; omega))) | (with_reducible refine Ext.trans ?_ (by with_reducible assumption))))).mono ?_
      rintro e w1 ⟨r1, rfl, ⟨A1, c1, rfl, hN1⟩, hx1⟩
      have hx2 : Ext wr w1 := (by repeat (first | with_reducible assumption | with_reducible exact Ext.refl _ | with_reducible refine Ext.drewN ?_ _ | with_reducible refine Ext.drew ?_ | with_reducible refine Ext.alloc ?_ _ | (with_reducible refine Ext.setCell ?_ ?_ _; rotate_left; (first | exact Nat.le_refl _ | (dsimp only; omega) | (simp only [wsz]; omega))) | (with_reducible refine Ext.trans ?_ (by with_reducible assumption))))
      have hO1 := hO.ext hx2
      have hs1 := hx2.size
      go_wp2_with (first
        | (at_builtin
           (refine wpList_appz1 (.tmp 17) (.tmp 20) hO1 (hN1.widen fun q hq _ => ⟨by simp only [wsz] at hq; omega, fun e => by have := (hrow _ e).2; simp only [wsz] at hq; omega⟩) (by rw [List.length_take]; omega) (by omega) rfl rfl rfl rfl ?_)
           intro v2 w2 hO2 hg2 hv2)
        | fail)
      have hxx : Ext w w2 := ((hxr.trans hx2).alloc _).grown hg2 (fun j hj => (hrow _ hj).1)
      go_roundw
      case rel => exact ⟨k + 1, by omega, by go_num, by rw [HE.out]; exact hO2, hxx⟩
      case measure => simp [intOf] <;> omega
    · obtain rfl : k = s.cuts.length := by omega
      rw [List.take_length] at hO
      obtain ⟨A1, c1, rfl, hP1⟩ := Own.sl hO (by omega) (X := (w.heap.size ≤ ·)) (fun q hq => hq.elim id id)
      go_wp2_with fail
      go_ret
      exact ⟨A1, c1, rfl, hP1, hxr⟩

/-- One row of remainders, one set of it. -/
theorem Rs.one {w : World} {X : Nat → Prop} {g : Nat} {A : Option Addr} {c : Nat} {r : List Bool} (hg : g = w.heap.size) (hX : X g) (h : Rl w X A c r) : Rs (w.alloc (.cells #[.slice A r.length c] 81)) X (some ⟨g, 0, none⟩) 1 [r] :=
  Sl.of_flat (by simp) (by simp [maxLen]) (Thaw.new hg _ _) (Fl.one ⟨A, c, rfl, Sl.keep h ((Kp.refl w).alloc _)⟩ rfl) fun _ => ⟨_, _, rfl, hX, fun j u hu => by
    rw [World.cell?_alloc_at (hn := hg)]
    match j, hu with
    | 0, hu => simpa using hu⟩

set_option maxHeartbeats 800000 in
theorem whole_c {A : Option Addr} {c : Nat} {r : List Bool} {w : World} {X : Nat → Prop} (h : Rl w X A c r) :
    Calls Tryz.prog 67 #[.slice A r.length c] w fun e w' => ∃ g, e = .returned (.pointer (some ⟨g, 0, none⟩)) ∧ SetV w' (fun b => X b ∨ w.heap.size ≤ b) g ⟨r.length, [], [r]⟩ ∧ Ext w w' := by
  have hm := h.2.1; have hlc := h.1
  simp only [maxLen] at hm
  go_enter Tryz.func67, Tryz.ntmps67
  go_wp2_with fail
  go_ret
  refine ⟨_, rfl, ⟨none, 0, _, _, Box.new_at _ _ _ (by simp only [wsz]), .inr (by omega), Sl.nil0 _ _ _, Sl.keep (Rs.one rfl (.inr (Nat.le_refl _)) (Sl.widen h (by omega) fun b hb _ => .inl hb)) ((Kp.refl _).alloc _)⟩, (by repeat (first | with_reducible assumption | with_reducible exact Ext.refl _ | with_reducible refine Ext.drewN ?_ _ | with_reducible refine Ext.drew ?_ | with_reducible refine Ext.alloc ?_ _ | (with_reducible refine Ext.setCell ?_ ?_ _; rotate_left; (first | exact Nat.le_refl _ | (dsimp only; omega) | (simp only [wsz]; omega))) | (with_reducible refine Ext.trans ?_ (by with_reducible assumption))))⟩

/-- make(row, n). -/
theorem wpList_makeb {w : World} {ops : Array Oper} {rest : List Oper} {o : Oper} {a : Act} {Q : Exit → Act → World → Prop} (x y : Operand) (Zp : Nat → Prop) (base n : Nat) {L C : Int}
    (hb : base ≤ w.heap.size) (hn : n ≤ 35184372088832) (hL : L = (n : Int)) (hC : C = (n : Int)) (hg : o.guard = none) (hop : o.op = Op.makeSlice 81 x y) (hl : a.eval x = .int .i64 L) (hc : a.eval y = .int .i64 C)
    (hK : ∀ w', Own 1 EB w' Zp base 4 (.slice (some ⟨w.heap.size, 0, none⟩) n n) (List.replicate n false) → Ext w w' → wpList Tryz.prog ops Q rest (a.put o.dst (.slice (some ⟨w.heap.size, 0, none⟩) n n)) w') :
    wpList Tryz.prog ops Q (o :: rest) a w := by
  obtain ⟨i, hi, hz, hsize, hby⟩ := info_parts ety_b.info
  refine wpList_make_full w hg x y _ hop base _ i (.bool false) 1 ety_b.under hi hz hsize .i64 .i64 L C n hl hc hL hC (by rw [hby]; omega) (by simp only [maxLen]; omega) hb fun w' h1 h2 => hK w' ⟨List.replicate n (.bool false), ?_, ?_⟩ ?_
  · have e : (madeCells (Value.cells (.bool false)) (n * 1)).toList = List.replicate n (.bool false) := by
      rw [Nat.mul_one]
      show (madeCells #[Value.bool false] n).toList = _
      rw [toList_madeCells_one]
    rw [e] at h1
    simpa using h1
  · refine ⟨by simp, fun k hk => ?_⟩
    rw [List.getElem_replicate]
    rw [List.length_replicate] at hk
    rw [Nat.mul_one, List.drop_replicate, List.take_replicate, show min 1 (n - k) = 1 from by omega]
    rfl
  · exact (Ext.refl w).grown h2 (by simp)

set_option maxHeartbeats 1600000 in
theorem class_c {u v : Value} {x y : Z} {w : World} {X Y : Nat → Prop} (hx : Zi w X u x) (hy : Zi w Y v y) (hLx : x.mag.length ≤ 1099511627776) (hLy : y.mag.length ≤ 1099511627776) (h0 : x.v ≠ 0) (h1 : x.v.natAbs ≤ 4096) :
    Calls Tryz.prog 34 #[u, v] w fun e w' => ∃ g, e = .returned (.tuple #[.pointer (some ⟨g, 0, none⟩), .int .i64 0]) ∧
      SetV w' (w.heap.size ≤ ·) g ⟨x.v.natAbs, [], [(List.replicate x.v.natAbs false).set (y.v % (x.v.natAbs : Nat)).toNat true]⟩ ∧ Ext w w' := by
  have hxi := hx; have hyi := hy
  have hsg : ¬ sgn x.v = 0 := fun h => h0 (sgn_zero.1 h)
  obtain ⟨p, hp⟩ : ∃ p, p = x.v.natAbs := ⟨_, rfl⟩
  have hsign := fun (V : World) (hV : Ext w V) => zsign_c (hxi.ext hV)
  have hper := fun (V : World) (hV : Ext w V) => period_c (hxi.ext hV) hLx
  have hin : i64 ((x.v.natAbs : Nat) : Int) := ⟨by omega, by omega⟩
  rw [(i64_in hin).1, decide_eq_true h1] at hper
  rw [← hp] at hper ⊢
  have hp0 : 0 < p := by omega
  have hp1 : p ≤ 4096 := by omega
  have hleft := fun (V : World) (hV : Ext w V) => left_c (hyi.ext hV) hLy hp0 (by omega)
  have hlt := Int.emod_lt_of_pos y.v (show (0 : Int) < (p : Int) by omega)
  have hge := Int.emod_nonneg y.v (show (p : Int) ≠ 0 by omega)
  obtain ⟨m, hm⟩ : ∃ m : Nat, (m : Int) = y.v % (p : Int) := ⟨(y.v % (p : Int)).toNat, by omega⟩
  rw [← hm] at hleft hlt ⊢
  have hmp : m < p := by omega
  obtain ⟨sg, hsg0⟩ : ∃ sg, sg = sgn x.v := ⟨_, rfl⟩
  rw [← hsg0] at hsign hsg
  clear hin hp h1 h0 hm hge hsg0
  obtain ⟨A, c, rfl, hx⟩ := hx
  obtain ⟨B, d, rfl, hy⟩ := hy
  go_enter Tryz.func34, Tryz.ntmps34
  go_wp2_with fail
  refine (hsign _ (by repeat (first | with_reducible assumption | with_reducible exact Ext.refl _ | with_reducible refine Ext.drewN ?_ _ | with_reducible refine Ext.drew ?_ | with_reducible refine Ext.alloc ?_ _ | (with_reducible refine Ext.setCell ?_ ?_ _; rotate_left; (first | exact Nat.le_refl _ | (dsimp only; omega) | (simp only [wsz]; omega))) | (with_reducible refine Ext.trans ?_ (by with_reducible assumption))))).mono ?_
  rintro e w1 ⟨rfl, hx1⟩
  (have b2 := Box.ext (g := w.heap.size) (by repeat (first | with_reducible assumption | with_reducible exact Box.new _ _ _ | (with_reducible refine Box.new_at _ _ _ ?_; (simp only [wsz]; done)) | with_reducible refine Box.drewN ?_ _ | with_reducible refine Box.drew ?_ | with_reducible refine Box.alloc ?_ _ | with_reducible apply Box.drewN | with_reducible apply Box.drew | with_reducible apply Box.alloc | with_reducible refine Box.set_ ?_ _ _ | (with_reducible refine Box.far ?_ ?_ _; rotate_left; (simp only [ne_eq]; omega)) | (with_reducible refine Box.ext ?_ (by with_reducible assumption)) | (refine Box.new_at _ _ _ ?_; simp only [wsz]; done))) hx1; have b2r := b2.rules; have b2l := b2.lt)
  (have b3 := Box.ext (g := w.heap.size + 1) (by repeat (first | with_reducible assumption | with_reducible exact Box.new _ _ _ | (with_reducible refine Box.new_at _ _ _ ?_; (simp only [wsz]; done)) | with_reducible refine Box.drewN ?_ _ | with_reducible refine Box.drew ?_ | with_reducible refine Box.alloc ?_ _ | with_reducible apply Box.drewN | with_reducible apply Box.drew | with_reducible apply Box.alloc | with_reducible refine Box.set_ ?_ _ _ | (with_reducible refine Box.far ?_ ?_ _; rotate_left; (simp only [ne_eq]; omega)) | (with_reducible refine Box.ext ?_ (by with_reducible assumption)) | (refine Box.new_at _ _ _ ?_; simp only [wsz]; done))) hx1; have b3r := b3.rules; have b3l := b3.lt)
  have hE1 : Ext w w1 := (by repeat (first | with_reducible assumption | with_reducible exact Ext.refl _ | with_reducible refine Ext.drewN ?_ _ | with_reducible refine Ext.drew ?_ | with_reducible refine Ext.alloc ?_ _ | (with_reducible refine Ext.setCell ?_ ?_ _; rotate_left; (first | exact Nat.le_refl _ | (dsimp only; omega) | (simp only [wsz]; omega))) | (with_reducible refine Ext.trans ?_ (by with_reducible assumption))))
  clear hsign
  go_wp2_with fail
  refine (hper _ hE1).mono ?_
  rintro e w2 ⟨rfl, hx2⟩
  have b32 := b3.ext hx2
  have b32r := b32.rules; have b32l := b32.lt
  have hE2 := hE1.trans hx2
  clear b2r b3r hper
  go_wp2_with (first
    | (at_make
       (refine wpList_makeb (.tmp 19) (.tmp 19) (fun _ => False) w2.heap.size p (Nat.le_refl _) (by omega) rfl rfl rfl rfl rfl rfl ?_)
       intro w3 hO3 hx3
       have b33 := b32.ext hx3
       have b33r := b33.rules
       have b33l := b33.lt
       have hE3 := hE2.trans hx3
       clear b32r)
    | fail)
  refine (hleft _ hE3).mono ?_
  rintro e w4 ⟨rfl, hx4⟩
  have hO4 := hO3.ext hx4
  obtain ⟨u0, hu0⟩ := hO4.there (j := m) (by omega)
  have hf0 := hO4.frz m
  have hg4 := hO4.adr.2.2.2
  have hE4 := hE3.trans hx4
  have mp : (m : Int) < (p : Int) := by omega
  clear b33r hleft
  go_wp2_with fail
  have hO5 := Own.put hO4 (k := m) (r := 0) (u := .bool true) (a' := true) (by rw [List.length_replicate]; exact hmp) (by omega) (by
    rintro cs h1 h2
    unfold EB at h1
    subst h1
    rfl)
  rw [Nat.mul_one, Nat.add_zero] at hO5
  have hs2 := hE2.size
  obtain ⟨A5, c5, e5, hP5⟩ := Own.sl hO5 (by omega) (X := (w.heap.size ≤ ·)) (fun b hb => hb.elim False.elim fun h => by omega)
  have hlen : ((List.replicate p false).set m true).length = p := by rw [List.length_set, List.length_replicate]
  have hw := whole_c hP5
  rw [hlen, ← (show p = p from rfl)] at hw
  injection e5 with e51 e52 e53
  subst e51; subst e53
  have hE5 : Ext w (w4.setCell ⟨w2.heap.size, m, none⟩ (.bool true)) := hE4.setCell hs2 _
  obtain ⟨row, hrow⟩ : ∃ row, row = (List.replicate p false).set m true := ⟨_, rfl⟩
  have HR : Hid (row = (List.replicate p false).set ((m : Int)).toNat true) := Lib.hid (by rw [Int.toNat_natCast]; exact hrow)
  rw [← hrow] at hw
  clear hO5 hP5 hlen hrow hO4 hu0 hf0
  refine hw.mono ?_
  rintro e w6 ⟨g, rfl, hS, hx6⟩
  clear e52
  go_wp2_with fail
  (refine bodyPost_ret (v := ?_) ?_ rfl ?_; rotate_left; (simp only [results, Tryz.results34]; go_simp; (first | done | with_reducible rfl)))
  have hs5 := hE5.size
  refine ⟨g, rfl, ?_, hE5.trans hx6⟩
  rw [← HR.out]
  exact hS.widen fun b hb _ => hb.elim id fun h => by omega

end Go.Proofs.YtbblgjjomgipfaaGreat
