/- riddleref05.Scale, Sub. No conditions. term.Order: slices.CompareFunc at parts, and what Order hands it. No conditions. term.Order. No conditions. Terms compared, in plain words. No program here. riddleref05.Order, Same. No conditions. riddleref05.Sub, Coef, Without, Put. No conditions. riddleref05.Without, Put. No conditions. term.Eval. No conditions. -/
import Derived.Test.YthmjgbkakjpfkaaGreatDoorGLooksAw
import Derived.Shelf.Abstract
import Derived.Test.YthmjgbkakjpfkaaGreatDoorGLooksAk
import Derived.Test.YthmjgbkakjpfkaaGreatDoorGLooksAx
import Derived.Test.YthmjgbkakjpfkaaGreatDoorGLooksBb
import Derived.Test.YthmjgbkakjpfkaaGreatDoorGLooksAs
import Derived.Test.YthmjgbkakjpfkaaGreatDoorGLooksAa
namespace Go.Proofs.YthmjgbkakjpfkaaGreatDoor
open Go.RowKit Go.Shelf

section
variable {ops : Array Oper} {Q : Exit → Act → World → Prop}
theorem sh_appp1 {i : Nat} {r : List Nat} {w : World} {o : Oper} {a : Act} (s x : Operand) {Zp : Nat → Prop} {base : Nat} {v : Value} {l : List (Int × Z)} {p : Int} {z : Z} {A : Option Addr} {c : Nat}
    (h : Own 3 EP w Zp base 37 v l) (hi : i64 p) (hN : Nl w (fun b => Zp b ∧ v.ownBlock ≠ some b) A c z.mag) (hl : l.length ≤ 2199023255552) (hbase : base ≤ w.heap.size)
    (hop : opAt ops.toList i = some o) (hgd : o.guard = none) (ho : o.op = .call { callee := .builtin .append, args := #[s, x], argTypes := #[25, 25] }) (hs : a.eval s = v) (hx : a.eval x = .slice (some ⟨w.heap.size, 0, none⟩) 1 1)
    (H : ∀ v' w', Own 3 EP w' Zp base 37 v' (l ++ [(p, z)]) → (w.alloc (.cells #[.int .i64 p, .bool z.neg, .slice A z.mag.length c] 37)).grownBy w' v.ownBlock →
      (v'.ownBlock = v.ownBlock ∨ v'.ownBlock = some (w.heap.size + 1)) → LateW Tryz.prog ops Q r (a.put o.dst v') w') :
    LateW Tryz.prog ops Q (i :: r) a (w.alloc (.cells #[.int .i64 p, .bool z.neg, .slice A z.mag.length c] 37)) := by
  refine sh_late hop hgd fun K hK => ?_
  obtain ⟨v', w', hrun, h5, h6, h7⟩ := run_app (m := [(p, z)]) (P := Tryz.prog) (ty := o.type) (A := some ⟨w.heap.size, 0, none⟩) (c := 1) ety_p (Own.ext h ((Ext.refl w).alloc (.cells #[.int .i64 p, .bool z.neg, .slice A z.mag.length c] 37))) (Fl.one (cs := [.int .i64 p, .bool z.neg, .slice A z.mag.length c]) ⟨A, c, rfl, hi, hN.ext ((Ext.refl w).alloc _)⟩ rfl) (fun _ => ⟨_, _, rfl, fun j u hu => by
    rw [World.cell?_alloc_at (hn := rfl)]
    match j, hu with
    | 0, hu => simpa using hu
    | 1, hu => simpa using hu
    | 2, hu => simpa using hu⟩) (by simp only [List.length_cons, List.length_nil]; omega) (by simp only [List.length_cons, List.length_nil, maxLen]; omega) (by simp only [World.size_alloc]; omega)
  unfold Oper.wp execOp
  simp only [List.length_cons, List.length_nil, Nat.zero_add] at hrun
  simp only [ho, resolve, invoke, builtin, Sem.run_bind, Sem.run_pure, Result.andThen_ok, List.map_toArray, List.map_cons, List.map_nil, hs, hx, hrun]
  exact hK _ _ (H v' w' h5 h6 (by simpa using h7))
end

def scz (k : Z) (ps : List (Int × Z)) : List (Int × Z) := ps.map fun p => (p.1, cz (k.v * p.2.v))
theorem vl_scz (k : Z) (ps : List (Int × Z)) : vl (scz k ps) = sc k.v (vl ps) := by
  simp only [vl, scz, sc, List.map_map]
  apply List.map_congr_left
  intro p _
  simp [Function.comp, cz_v]
theorem scz_len (k : Z) (ps : List (Int × Z)) : (scz k ps).length = ps.length := by simp [scz]
theorem scz_step (z : Z) {ps : List (Int × Z)} {k : Nat} (h : k < ps.length) : scz z (ps.take (k + 1)) = scz z (ps.take k) ++ [((pth ps k).1, cz (z.v * (pth ps k).2.v))] := by
  rw [take_pth ps k h]
  simp [scz]
theorem nf_scz (k : Z) (t : T) : (⟨scz k t.ps, cz (k.v * t.k.v)⟩ : T).nf = ct (sc k.v (vl t.ps)) (k.v * t.k.v) := by
  show ct (vl (scz k t.ps)) (cz (k.v * t.k.v)).v = _
  rw [vl_scz, cz_v]

set_option maxHeartbeats 1600000 in
theorem rscale5_c {u v : Value} {kz : Z} {t : T} {w : World} {X Y : Nat → Prop} {N : Nat} (hk : Zi w X u kz) (h : Tv w Y v t) (hN : N ≤ 4294967296) (sk : kz.mag.length ≤ N) (hs : t.sz N) :
    Calls Tryz.prog 110 #[u, v] w fun e w' => ∃ r, e = .returned r ∧ Tv w' (w.heap.size ≤ ·) r (ct (sc kz.v (vl t.ps)) (kz.v * t.k.v)) ∧ Ext w w' := by
  have lk := hk.lb; have lt := h.lb
  obtain ⟨s1, s2, s3⟩ := hs
  have hzl := zl_vl lt.1 s2
  obtain ⟨KA, kc, rfl, hk⟩ := hk
  obtain ⟨A, c, B, d, rfl, h1, h2⟩ := h
  go_enter Tryz.func110, Tryz.ntmps110
  go_wp2_with fail
  refine wp_named fun W hW => ?_
  have b2 : Box W w.heap.size 24 #[.bool kz.neg, .slice KA kz.mag.length kc] := by rw [hW]; exact bxt
  have b3 : Box W (w.heap.size + 1) 27 #[.slice A t.ps.length c, .bool t.k.neg, .slice B t.k.mag.length d] := by rw [hW]; exact bxt
  have b4 : Box W (w.heap.size + 1 + 1) 27 #[.slice none 0 0, .bool false, .slice none 0 0] := by rw [hW]; exact bxt
  have hE : Ext w W := by rw [hW]; exact xt
  clear hW
  have hWl := b4.lt
  have h1b := h1.below
  go_loopw [5, 6] (fun lv iv wr => ∃ k : Nat, k ≤ t.ps.length ∧ iv = .int .i64 k ∧ Own 3 EP wr (W.heap.size ≤ ·) W.heap.size 37 lv (scz kz (t.ps.take k)) ∧ Ext W wr) (fun _ iv _ => t.ps.length - (intOf iv).toNat)
  case atStart => exact ⟨0, Nat.zero_le _, rfl, Own.nil _ _ _ _, Ext.refl _⟩
  case round =>
    obtain ⟨k, hkk, rfl, hO, hxr⟩ := hrel
    have q2 := b2.ext hxr; have q3 := b3.ext hxr; have q4 := b4.ext hxr
    have q2r := q2.rules; have q2l := q2.lt
    have q3r := q3.rules; have q3l := q3.lt
    have hxw := hE.trans hxr
    have hrow := hO.row
    obtain ⟨A0, c0, rfl, hP0⟩ := Own.sl hO (by omega) (X := fun _ => True) (fun _ _ => trivial)
    have hP0 : Pl wr (fun _ => True) A0 c0 (scz kz (t.ps.take k)) := hP0
    have hsl : (scz kz (t.ps.take k)).length = k := by rw [scz_len, List.length_take]; omega
    by_cases hlt : k < t.ps.length
    · obtain ⟨b, o, B', d', rfl, hX, hc0, hc1, hc2, hi, hN2⟩ := (h1b.ext hxw).at_ hlt
      have hb := World.block_lt_of_cell? _ _ hc0
      have kl : (k : Int) < (t.ps.length : Int) := by omega
      have hpz : (pth t.ps k).2.mag.length ≤ N := s2 _ (pth_mem hlt)
      go_wp2_with fail
      refine wp_region_late [(0, true), (1, true), (2, true), (3, true), (4, true), (5, true), (6, true), (7, true), (8, true), (9, true), (10, true), (11, true), (12, true), (13, true), (14, false), (15, true), (16, false)] [17, 18] rfl (by kernel_rfl) (by intro _ _ d _ _ h; cases d <;> exact h) ?_
      (repeat (refine sh_take (v := ?_) rfl rfl ?_ ?_; rotate_left; (intro w' hx'; have hc' := hx'.cells.1; (try simp only [wcd] at hc'); go_simp; (first | done | with_reducible rfl)); (try simp only [pt])))
      (refine sh_loud rfl rfl fun K hK => ?_; go_simp)
      refine (rmulz_c (x := kz) (y := (pth t.ps k).2) ⟨_, _, rfl, hk.ext (hxw.trans xt)⟩ ⟨_, _, rfl, hN2.ext xt⟩ (by omega) (by omega)).mono ?_
      rintro e w1 ⟨r, rfl, ⟨A4, c4, rfl, hN4⟩, hx1⟩
      (have hs1 := Ext.size hx1; (try simp only [wsz] at hs1))
      have hx2 : Ext wr w1 := xt
      (refine hK _ _ xt ?_; clear hK K; (try simp only [pt]))
      (repeat (refine sh_take (v := ?_) rfl rfl ?_ ?_; rotate_left; (intro w' hx'; have hc' := hx'.cells.1; (try simp only [wcd] at hc'); go_simp; (first | done | with_reducible rfl)); (try simp only [pt])))
      (refine sh_loud rfl rfl fun K hK => ?_; go_simp)
      (refine hK _ _ xt ?_; clear hK K; (try simp only [pt]))
      refine sh_done ?_
      refine sh_appp1 (.tmp 14) (.tmp 30) (hO.ext hx2) hi (hN4.widen fun q hq _ => ⟨by have := hxr.size; simp only [wsz] at hq; omega, fun e => by have := (hrow _ e).2; simp only [wsz] at hq; omega⟩) (by rw [hsl]; omega) (by have := hxr.size; omega) rfl rfl rfl (by rw [hsl]; rfl) rfl ?_
      intro v2 w2 hO2 hg2 hv2
      (try simp only [pt])
      (refine sh_late rfl rfl fun K hK => ?_; go_simp; refine hK _ _ ?_; clear hK K)
      refine sh_end ?_
      have hxx : Ext W w2 := (hxr.trans (hx2.alloc _)).grown hg2 (fun j hj => (hrow _ hj).1)
      rw [← scz_step kz hlt] at hO2
      go_wp2_with fail
      go_roundw
      case rel => exact ⟨k + 1, by omega, by go_num, hO2, hxx⟩
      case measure => simp [intOf] <;> omega
    · obtain rfl : k = t.ps.length := by omega
      rw [List.take_length] at hO hP0 hsl
      go_wp2_with fail
      refine (rmulz_c (x := kz) (y := t.k) ⟨_, _, rfl, hk.ext (hxw.trans xt)⟩ ⟨_, _, rfl, h2.ext (hxw.trans xt)⟩ (by omega) (by omega)).mono ?_
      rintro e w1 ⟨r1, rfl, ⟨A1, c1, rfl, hK1⟩, hx1⟩
      have hx2 : Ext wr w1 := xt
      go_wp2_with fail
      refine (rnorm5_c (t := ⟨scz kz t.ps, cz (kz.v * t.k.v)⟩) (N := N + N) ⟨_, _, _, _, by simp only [scz_len], (hP0.ext hx2).ext xt, (hK1.widen (Y := fun _ => True) fun _ _ _ => trivial).ext xt⟩ (by omega) ⟨?_, ?_, ?_⟩).mono ?_
      · rw [scz_len]; omega
      · intro p hp
        obtain ⟨q, hq, rfl⟩ := List.mem_map.1 hp
        have h3 : zl q.2.v ≤ N := hzl (q.1, q.2.v) (List.mem_map.2 ⟨q, hq, rfl⟩)
        show (cz (kz.v * q.2.v)).mag.length ≤ _
        rw [cz_len]
        have := zl_mul kz.v q.2.v
        have := zl_of lk
        omega
      · show (cz (kz.v * t.k.v)).mag.length ≤ _
        rw [cz_len]
        have := zl_mul kz.v t.k.v
        have := zl_of lk
        have := zl_of lt.2
        omega
      rw [nf_scz]
      rintro e w4 ⟨r4, rfl, ⟨A4, c4, B4, d4, rfl, h41, h42⟩, hx4⟩
      have hx5 : Ext wr w4 := hx2.trans xt
      have g4 := q4.ext hx5
      have g4r := g4.rules
      have g4l := g4.lt
      have hE4 := hxw.trans hx5
      have hs3 := (hxr.trans hx2).size
      clear q2r q3r
      go_wp2_with fail
      (refine bodyPost_ret (v := ?_) ?_ rfl ?_; rotate_left; (simp only [results, Tryz.results110]; go_simp; (first | done | with_reducible rfl)))
      refine ⟨_, rfl, ⟨_, _, _, _, rfl, (Pl.keep (h41.widen (Y := fun c => w.heap.size + 1 + 1 < c) fun c hc _ => by omega) kpt).widen fun c hc _ => by omega, (Nl.keep (h42.widen (Y := fun c => w.heap.size + 1 + 1 < c) fun c hc _ => by omega) kpt).widen fun c hc _ => by omega⟩, ?_⟩
      exact ((hE4.setCell (by simp only; omega) _).setCell (by simp only; omega) _).setCell (by simp only; omega) _

end Go.Proofs.YthmjgbkakjpfkaaGreatDoor

namespace Go.Proofs.YthmjgbkakjpfkaaGreatDoor
open Go.RowKit Go.Shelf

def cmpP (p q : Int × Z) : Int := if p.1 < q.1 then -1 else if q.1 < p.1 then 1 else cmpI p.2.v q.2.v
def cmpL : List (Int × Z) → List (Int × Z) → Int
  | [], [] => 0
  | [], _ :: _ => -1
  | _ :: _, [] => 1
  | p :: l, q :: m => if cmpP p q = 0 then cmpL l m else cmpP p q

set_option maxHeartbeats 800000 in
theorem order1_c {W : World} {X Y : Nat → Prop} {p q : Int × Z} {A B : Option Addr} {c d : Nat} (h1 : Nl W X A c p.2.mag) (h2 : Nl W Y B d q.2.mag) :
    Calls Tryz.prog 119 #[.agg #[.int .i64 p.1, .bool p.2.neg, .slice A p.2.mag.length c], .agg #[.int .i64 q.1, .bool q.2.neg, .slice B q.2.mag.length d]] W fun e w' => e = .returned (.int .i64 (cmpP p q)) ∧ Ext W w' := by
  by_cases h : p.1 < q.1
  · have e1 : cmpP p q = -1 := by unfold cmpP; rw [if_pos h]
    rw [e1]
    clear e1
    go_enter Tryz.func119, Tryz.ntmps119
    go_wp2_with fail
    go_ret
    exact ⟨rfl, xt⟩
  · by_cases h' : q.1 < p.1
    · have e1 : cmpP p q = 1 := by unfold cmpP; rw [if_neg h, if_pos h']
      rw [e1]
      clear e1
      go_enter Tryz.func119, Tryz.ntmps119
      go_wp2_with fail
      go_ret
      exact ⟨rfl, xt⟩
    · have e1 : cmpP p q = cmpI p.2.v q.2.v := by unfold cmpP; rw [if_neg h, if_neg h']
      rw [e1]
      clear e1
      go_enter Tryz.func119, Tryz.ntmps119
      go_wp2_with fail
      refine (zcmp_c (x := p.2) (y := q.2) ⟨_, _, rfl, h1.ext xt⟩ ⟨_, _, rfl, h2.ext xt⟩).mono ?_
      rintro e w1 ⟨rfl, hx⟩
      go_wp2_with fail
      go_ret
      exact ⟨rfl, xt⟩

theorem cmpL_step : ∀ (l m : List (Int × Z)) (k : Nat), (∀ i, i < k → ∃ (h : i < l.length) (h' : i < m.length), cmpP l[i] m[i] = 0) → cmpL l m = cmpL (l.drop k) (m.drop k)
  | _, _, 0, _ => rfl
  | [], _, k + 1, h => by obtain ⟨h1, _⟩ := h 0 (by omega); cases h1
  | _ :: _, [], k + 1, h => by obtain ⟨_, h1, _⟩ := h 0 (by omega); cases h1
  | p :: l, q :: m, k + 1, h => by
    obtain ⟨_, _, h0⟩ := h 0 (by omega)
    have h0 : cmpP p q = 0 := h0
    have ih := cmpL_step l m k fun i hi => by
      obtain ⟨h1, h2, h3⟩ := h (i + 1) (by omega)
      exact ⟨by simpa using h1, by simpa using h2, h3⟩
    rw [List.drop_succ_cons, List.drop_succ_cons, ← ih]
    conv => lhs; unfold cmpL
    rw [if_pos h0]

set_option maxHeartbeats 1600000 in
theorem cmpf_c {w : World} {X Y : Nat → Prop} {A B : Option Addr} {c d : Nat} {l m : List (Int × Z)} (h : Pl w X A c l) (h' : Pl w Y B d m) :
    Calls Tryz.prog 118 #[.slice A l.length c, .slice B m.length d, .func (.func 119) #[] #[]] w fun e w' => e = .returned (.int .i64 (cmpL l m)) ∧ Ext w w' := by
  have hm := h.2.1; have hlc := h.1
  have hm' := h'.2.1; have hlc' := h'.1
  simp only [maxLen] at hm hm'
  have eg : ∀ args w, (callFunc 119 args).run Tryz.prog w = .ok (.enter 119 args) w := enters_of Tryz.func119 (by kernel_rfl) rfl
  go_enter Tryz.func118, Tryz.ntmps118
  go_wp2_with fail
  go_loopw [13] (fun iv wr => ∃ k : Nat, k ≤ l.length ∧ iv = .int .i64 k ∧ Hid (∀ i, i < k → ∃ (h : i < l.length) (h' : i < m.length), cmpP l[i] m[i] = 0) ∧ Ext w wr) (fun iv _ => l.length - (intOf iv).toNat)
  case atStart => exact ⟨0, Nat.zero_le _, rfl, Lib.hid fun _ h => absurd h (Nat.not_lt_zero _), xt⟩
  case round =>
    obtain ⟨k, hk, rfl, hno, hx⟩ := hrel
    have hkm : k ≤ m.length := by
      rcases Nat.eq_zero_or_pos k with e | e
      · omega
      · obtain ⟨_, h1, _⟩ := hno.out (k - 1) (by omega)
        omega
    by_cases hlt : k < l.length
    · obtain ⟨b, o, B', d', rfl, hX, hc0, hc1, hc2, hi, hN⟩ := (h.ext hx).at_ hlt
      have hb := World.block_lt_of_cell? _ _ hc0
      have kl : (k : Int) < (l.length : Int) := by omega
      by_cases hlt' : k < m.length
      · obtain ⟨b', o', B2, d2, rfl, hX', hc0', hc1', hc2', hi', hN'⟩ := (h'.ext hx).at_ hlt'
        have hb' := World.block_lt_of_cell? _ _ hc0'
        have kl' : (k : Int) < (m.length : Int) := by omega
        have kl'' : ¬ (m.length : Int) ≤ (k : Int) := by omega
        have hcall := fun (W : World) (hW : Ext wr W) => order1_c (p := pth l k) (q := pth m k) (hN.ext hW) (hN'.ext hW)
        by_cases he : cmpP (pth l k) (pth m k) = 0
        · have e0 : (cmpP (pth l k) (pth m k) != 0) = false := by rw [he]; rfl
          have He := Lib.hid he; clear he
          go_wp2_with (first | (go_at_fn 119; refine (hcall _ xt).mono ?_; rintro e w1 ⟨rfl, hx1⟩) | fail)
          go_roundw
          case rel =>
            refine ⟨k + 1, by omega, by go_num, Lib.hid fun i hik => ?_, hx.trans xt⟩
            by_cases e : i = k
            · subst e; exact ⟨hlt, hlt', by rw [← pth_eq l i hlt, ← pth_eq m i hlt']; exact He.out⟩
            · exact hno.out i (by omega)
          case measure => simp [intOf] <;> omega
        · have e0 : (cmpP (pth l k) (pth m k) != 0) = true := by rw [bne_iff_ne]; exact he
          have He := Lib.hid he; clear he
          go_wp2_with (first | (go_at_fn 119; refine (hcall _ xt).mono ?_; rintro e w1 ⟨rfl, hx1⟩) | fail)
          go_ret
          refine ⟨ret_int ?_, hx.trans xt⟩
          rw [cmpL_step l m k hno.out, drop_pth l k hlt, drop_pth m k hlt', cmpL, if_neg He.out]
      · have kl' : (m.length : Int) ≤ (k : Int) := by omega
        go_wp2_with fail
        go_ret
        refine ⟨ret_int ?_, hx.trans xt⟩
        have e : m.drop k = [] := List.drop_eq_nil_of_le (by omega)
        rw [cmpL_step l m k hno.out, drop_pth l k hlt, e]
        rfl
    · obtain rfl : k = l.length := by omega
      have hfin := Lib.hid (show cmpL l m = cmpL [] (m.drop l.length) by rw [cmpL_step l m l.length hno.out, List.drop_length])
      by_cases hlt' : l.length < m.length
      · have kl' : (l.length : Int) < (m.length : Int) := by omega
        go_wp2_with fail
        go_ret
        refine ⟨ret_int ?_, hx.trans xt⟩
        rw [hfin.out, drop_pth m _ hlt']
        rfl
      · have kl' : ¬ (l.length : Int) < (m.length : Int) := by omega
        go_wp2_with fail
        go_ret
        refine ⟨ret_int ?_, hx.trans xt⟩
        have e : m.drop l.length = [] := List.drop_eq_nil_of_le (by omega)
        rw [hfin.out, e]
        rfl

end Go.Proofs.YthmjgbkakjpfkaaGreatDoor

namespace Go.Proofs.YthmjgbkakjpfkaaGreatDoor
open Go.RowKit Go.Shelf

def ordT (a b : T) : Int := if cmpL a.nf.ps b.nf.ps = 0 then cmpI a.k.v b.k.v else cmpL a.nf.ps b.nf.ps

set_option maxHeartbeats 1600000 in
theorem torder_c {av bv : Value} {a b : T} {w : World} {X Y : Nat → Prop} {N : Nat} (ha : Tv w X av a) (hb : Tv w Y bv b) (hN : N ≤ 1073741824) (sa : a.sz N) (sb : b.sz N) :
    Calls Tryz.prog 75 #[av, bv] w fun e w' => e = .returned (.int .i64 (ordT a b)) ∧ Ext w w' := by
  have hav := ha; have hbv := hb
  obtain ⟨A, c, AK, d, rfl, ha1, ha2⟩ := ha
  obtain ⟨B, c', BK, d', rfl, hb1, hb2⟩ := hb
  have hka : a.nf.k = cz a.k.v := rfl
  have hkb : b.nf.k = cz b.k.v := rfl
  obtain ⟨an, han⟩ : ∃ an, an = a.nf := ⟨_, rfl⟩
  obtain ⟨bn, hbn⟩ : ∃ bn, bn = b.nf := ⟨_, rfl⟩
  obtain ⟨r, hr⟩ : ∃ r, r = ordT a b := ⟨_, rfl⟩
  have hna := fun W (h : Ext w W) => tnorm_c (hav.ext h) (N := N) (by omega) sa
  have hnb := fun W (h : Ext w W) => tnorm_c (hbv.ext h) (N := N) (by omega) sb
  unfold ordT at hr
  rw [← han, ← hbn] at hr
  rw [← han] at hna hka
  rw [← hbn] at hnb hkb
  have HR := Lib.hid hr; have HA := Lib.hid hka; have HB := Lib.hid hkb
  have hgoal := Lib.hid (show ordT a b = r by rw [hr]; unfold ordT; rw [han, hbn])
  rw [hgoal.out]
  clear hr hka hkb han hbn hgoal
  go_enter Tryz.func75, Tryz.ntmps75
  go_wp2_with fail
  refine wp_named fun W hW => ?_
  have b2 : Box W (w.heap.size) 27 #[.slice A a.ps.length c, .bool a.k.neg, .slice AK a.k.mag.length d] := by rw [hW]; exact bxt
  have b3 : Box W (w.heap.size + 1) 27 #[.slice B b.ps.length c', .bool b.k.neg, .slice BK b.k.mag.length d'] := by rw [hW]; exact bxt
  have hE : Ext w W := by rw [hW]; exact xt
  have hWs : w.heap.size + 2 ≤ W.heap.size := by rw [hW]; simp
  clear hW
  have b2r := b2.rules
  have b3r := b3.rules
  have b2l := b2.lt
  have b3l := b3.lt
  refine wp_region_late [(0, true), (2, true), (1, false), (3, false)] [4, 5] rfl (by kernel_rfl) (by intro _ _ d _ _ h; cases d <;> exact h) ?_
  (repeat (refine sh_take (v := ?_) rfl rfl ?_ ?_; rotate_left; (intro w' hx'; have hc' := hx'.cells.1; (try simp only [wcd] at hc'); go_simp; (first | done | with_reducible rfl)); (try simp only [pt])))
  (refine sh_loud rfl rfl fun K hK => ?_; go_simp)
  refine (hna _ (hE.trans xt)).mono ?_
  rintro e w1 ⟨r1, rfl, ⟨A1, c1, B1, d1, rfl, h1, h2⟩, hx1⟩
  (have hs1 := Ext.size hx1; (try simp only [wsz] at hs1))
  (refine hK _ _ xt ?_; clear hK K; (try simp only [pt]))
  (refine sh_loud rfl rfl fun K hK => ?_; go_simp)
  refine (hnb _ (hE.trans xt)).mono ?_
  rintro e w2 ⟨r2, rfl, ⟨A2, c2, B2, d2, rfl, h3, h4⟩, hx2⟩
  (have hs2 := Ext.size hx2; (try simp only [wsz] at hs2))
  have b2' := (b2.drew.ext hx1).ext hx2
  have b3' := (b3.drew.ext hx1).ext hx2
  have b2r' := b2'.rules
  have b3r' := b3'.rules
  have b2l' := b2'.lt
  have b3l' := b3'.lt
  clear b2r b3r
  (refine hK _ _ xt ?_; clear hK K; (try simp only [pt]))
  refine sh_done ?_
  (refine sh_late rfl rfl fun K hK => ?_; go_simp; refine hK _ _ ?_; clear hK K)
  (refine sh_late rfl rfl fun K hK => ?_; go_simp; refine hK _ _ ?_; clear hK K)
  refine sh_end ?_
  have hE2 : Ext w w2 := (hE.trans (Ext.drew (Ext.refl _))).trans (hx1.trans hx2)
  clear b2r' b3r' b2l b3l
  obtain ⟨S, hS⟩ : ∃ S, S = ((((((w2.setCell ⟨w.heap.size, 0, none⟩ (.slice A1 an.ps.length c1)).setCell ⟨w.heap.size, 1, none⟩ (.bool an.k.neg)).setCell ⟨w.heap.size, 2, none⟩ (.slice B1 an.k.mag.length d1)).setCell ⟨w.heap.size + 1, 0, none⟩ (.slice A2 bn.ps.length c2)).setCell ⟨w.heap.size + 1, 1, none⟩ (.bool bn.k.neg)).setCell ⟨w.heap.size + 1, 2, none⟩ (.slice B2 bn.k.mag.length d2)) := ⟨_, rfl⟩
  have b2s : Box S (w.heap.size) 27 #[.slice A1 an.ps.length c1, .bool an.k.neg, .slice B1 an.k.mag.length d1] := by
    rw [hS]; exact ((((((b2'.set_ 0 _).set_ 1 _).set_ 2 _).far (by simp only [ne_eq]; omega) _).far (by simp only [ne_eq]; omega) _).far (by simp only [ne_eq]; omega) _)
  have b3s : Box S (w.heap.size + 1) 27 #[.slice A2 bn.ps.length c2, .bool bn.k.neg, .slice B2 bn.k.mag.length d2] := by
    rw [hS]; exact ((((((b3'.far (by simp only [ne_eq]; omega) _).far (by simp only [ne_eq]; omega) _).far (by simp only [ne_eq]; omega) _).set_ 0 _).set_ 1 _).set_ 2 _)
  have kpS : Kp (w.heap.size + 2 ≤ ·) w2 S := by
    rw [hS]; exact ((((((Kp.refl w2).setCell (by simp only; omega) _).setCell (by simp only; omega) _).setCell (by simp only; omega) _).setCell (by simp only; omega) _).setCell (by simp only; omega) _).setCell (by simp only; omega) _
  have hES : Ext w S := by
    rw [hS]; exact ((((((hE2.setCell (by simp only; omega) _).setCell (by simp only; omega) _).setCell (by simp only; omega) _).setCell (by simp only; omega) _).setCell (by simp only; omega) _).setCell (by simp only; omega) _)
  rw [← hS]
  clear hS
  have h1s : Pl S (w.heap.size + 2 ≤ ·) A1 c1 an.ps := Pl.keep ((h1.ext hx2).widen fun b hb _ => by simp only [World.size_drew] at hb; omega) kpS
  have h2s : Nl S (w.heap.size + 2 ≤ ·) B1 d1 an.k.mag := Nl.keep ((h2.ext hx2).widen fun b hb _ => by simp only [World.size_drew] at hb; omega) kpS
  have h3s : Pl S (w.heap.size + 2 ≤ ·) A2 c2 bn.ps := Pl.keep (h3.widen fun b hb _ => by omega) kpS
  have h4s : Nl S (w.heap.size + 2 ≤ ·) B2 d2 bn.k.mag := Nl.keep (h4.widen fun b hb _ => by omega) kpS
  have b2r := b2s.rules
  have b3r := b3s.rules
  have b2l := b2s.lt
  have b3l := b3s.lt
  by_cases h0 : cmpL an.ps bn.ps = 0
  · have hr : r = cmpI a.k.v b.k.v := by rw [HR.out, if_pos h0]
    have HR2 := Lib.hid hr
    have H0 := Lib.hid h0
    clear h0 hr
    go_wp2_with fail
    refine (cmpf_c h1s h3s).mono ?_
    rw [H0.out]
    rintro e w3 ⟨rfl, hx3⟩
    have b2t := b2s.ext hx3
    have b3t := b3s.ext hx3
    have b2tr := b2t.rules
    have b3tr := b3t.rules
    clear b2r b3r
    go_wp2_with fail
    refine (zcmp_c (x := an.k) (y := bn.k) ⟨_, _, rfl, h2s.ext hx3⟩ ⟨_, _, rfl, h4s.ext hx3⟩).mono ?_
    rw [HA.out, HB.out, cz_v, cz_v, ← HR2.out]
    rintro e w4 ⟨rfl, hx4⟩
    go_wp2_with fail
    go_ret
    exact ⟨rfl, (hES.trans hx3).trans hx4⟩
  · have hr : r = cmpL an.ps bn.ps := by rw [HR.out, if_neg h0]
    have hne : (r != 0) = true := by rw [bne_iff_ne, hr]; exact h0
    have HR2 := Lib.hid hr
    clear h0 hr
    go_wp2_with fail
    refine (cmpf_c h1s h3s).mono ?_
    rw [← HR2.out]
    rintro e w3 ⟨rfl, hx3⟩
    go_wp2_with fail
    go_ret
    exact ⟨rfl, hES.trans hx3⟩

end Go.Proofs.YthmjgbkakjpfkaaGreatDoor

namespace Go.Proofs.YthmjgbkakjpfkaaGreatDoor

def cmpQ (p q : Int × Int) : Int := if p.1 < q.1 then -1 else if q.1 < p.1 then 1 else cmpI p.2 q.2
def cmpV : List (Int × Int) → List (Int × Int) → Int
  | [], [] => 0
  | [], _ :: _ => -1
  | _ :: _, [] => 1
  | p :: l, q :: m => if cmpQ p q = 0 then cmpV l m else cmpQ p q
theorem cmpL_cl : ∀ (l m : List (Int × Int)), cmpL (cl l) (cl m) = cmpV l m
  | [], [] => rfl
  | [], _ :: _ => rfl
  | _ :: _, [] => rfl
  | p :: l, q :: m => by
    have e : cmpP (p.1, cz p.2) (q.1, cz q.2) = cmpQ p q := by unfold cmpP cmpQ; rw [cz_v, cz_v]
    have ih := cmpL_cl l m
    show (if cmpP (p.1, cz p.2) (q.1, cz q.2) = 0 then cmpL (cl l) (cl m) else cmpP (p.1, cz p.2) (q.1, cz q.2)) = _
    rw [e, ih]; rfl
theorem cmpQ_swap (p q : Int × Int) : cmpQ q p = -cmpQ p q := by
  unfold cmpQ
  rw [cmpI_swap]
  split <;> (try split) <;> (try split) <;> omega
theorem cmpQ_zero {p q : Int × Int} : cmpQ p q = 0 ↔ p = q := by
  obtain ⟨a, b⟩ := p
  obtain ⟨c, d⟩ := q
  unfold cmpQ
  simp only [Prod.mk.injEq]
  have := cmpI_zero (a := b) (b := d)
  split
  · constructor
    · intro h; omega
    · intro h; omega
  · split
    · constructor
      · intro h; omega
      · intro h; omega
    · rw [this]
      constructor
      · intro h; exact ⟨by omega, h⟩
      · intro h; exact h.2
theorem cmpV_swap : ∀ (l m : List (Int × Int)), cmpV m l = -cmpV l m
  | [], [] => rfl
  | [], _ :: _ => rfl
  | _ :: _, [] => rfl
  | p :: l, q :: m => by
    have h := cmpQ_swap p q
    have ih := cmpV_swap l m
    unfold cmpV
    by_cases e : cmpQ p q = 0
    · rw [if_pos e, if_pos (by omega), ih]
    · rw [if_neg e, if_neg (by omega), h]
theorem cmpV_zero : ∀ {l m : List (Int × Int)}, cmpV l m = 0 ↔ l = m
  | [], [] => by simp [cmpV]
  | [], _ :: _ => by simp [cmpV]
  | _ :: _, [] => by simp [cmpV]
  | p :: l, q :: m => by
    have h := cmpQ_zero (p := p) (q := q)
    have ih := cmpV_zero (l := l) (m := m)
    unfold cmpV
    rw [List.cons.injEq]
    by_cases e : cmpQ p q = 0
    · rw [if_pos e, ih]
      exact ⟨fun h1 => ⟨h.1 e, h1⟩, fun h1 => h1.2⟩
    · rw [if_neg e]
      exact ⟨fun h1 => absurd h1 e, fun h1 => absurd (h.2 h1.1) e⟩
theorem ordT_eq (a b : T) : ordT a b = if cmpV (cn (vl a.ps)) (cn (vl b.ps)) = 0 then cmpI a.k.v b.k.v else cmpV (cn (vl a.ps)) (cn (vl b.ps)) := by
  unfold ordT
  have e : ∀ t : T, t.nf.ps = cl (cn (vl t.ps)) := fun _ => rfl
  rw [e, e, cmpL_cl]
theorem ordT_swap (a b : T) : ordT b a = -ordT a b := by
  rw [ordT_eq, ordT_eq, cmpV_swap (cn (vl a.ps)), cmpI_swap a.k.v]
  by_cases e : cmpV (cn (vl a.ps)) (cn (vl b.ps)) = 0
  · rw [if_pos e, if_pos (by omega)]
  · rw [if_neg e, if_neg (by omega)]
theorem ordT_zero {a b : T} : ordT a b = 0 ↔ cn (vl a.ps) = cn (vl b.ps) ∧ a.k.v = b.k.v := by
  rw [ordT_eq]
  by_cases e : cmpV (cn (vl a.ps)) (cn (vl b.ps)) = 0
  · rw [if_pos e, cmpI_zero]
    exact ⟨fun h => ⟨cmpV_zero.1 e, h⟩, fun h => h.2⟩
  · rw [if_neg e]
    exact ⟨fun h => absurd h e, fun h => absurd (cmpV_zero.2 h.1) e⟩
theorem ordT_bd (a b : T) : -1 ≤ ordT a b ∧ ordT a b ≤ 1 := by
  have key : ∀ l m, -1 ≤ cmpV l m ∧ cmpV l m ≤ 1 := by
    intro l
    induction l with
    | nil => intro m; cases m <;> simp [cmpV]
    | cons p l ih =>
      intro m
      cases m with
      | nil => simp [cmpV]
      | cons q m =>
        unfold cmpV
        split
        · exact ih m
        · unfold cmpQ
          have := cmpI_bd p.2 q.2
          split <;> (try split) <;> omega
  rw [ordT_eq]
  have h1 := key (cn (vl a.ps)) (cn (vl b.ps))
  have h2 := cmpI_bd a.k.v b.k.v
  split <;> omega
end Go.Proofs.YthmjgbkakjpfkaaGreatDoor

namespace Go.Proofs.YthmjgbkakjpfkaaGreatDoor
open Go.RowKit Go.Shelf

set_option maxHeartbeats 3200000 in
theorem rorder5_c {av bv : Value} {a b : T} {w : World} {X Y : Nat → Prop} {N : Nat} (ha : Tv w X av a) (hb : Tv w Y bv b) (hN : N ≤ 1073741824) (sa : a.sz N) (sb : b.sz N) :
    Calls Tryz.prog 82 #[av, bv] w fun e w' => e = .returned (.int .i64 (ordT a b)) ∧ Ext w w' := by
  have hav := ha; have hbv := hb
  have sna := nf_sz sa ha.lb
  have snb := nf_sz sb hb.lb
  obtain ⟨A, c, AK, d, rfl, ha1, ha2⟩ := ha
  obtain ⟨B, c', BK, d', rfl, hb1, hb2⟩ := hb
  have hka : a.nf.k = cz a.k.v := rfl
  have hkb : b.nf.k = cz b.k.v := rfl
  obtain ⟨an, han⟩ : ∃ an, an = a.nf := ⟨_, rfl⟩
  obtain ⟨bn, hbn⟩ : ∃ bn, bn = b.nf := ⟨_, rfl⟩
  have hord : ordT a b = if cmpL an.ps bn.ps = 0 then cmpI an.k.v bn.k.v else cmpL an.ps bn.ps := by
    rw [han, hbn, hka, hkb, cz_v, cz_v]; rfl
  have hna := fun W (h : Ext w W) => rnorm5_c (hav.ext h) (N := N) (by omega) sa
  have hnb := fun W (h : Ext w W) => rnorm5_c (hbv.ext h) (N := N) (by omega) sb
  rw [← han] at hna sna
  rw [← hbn] at hnb snb
  rw [hord]
  clear hka hkb han hbn hord
  obtain ⟨sa1, sa2, sa3⟩ := sna
  obtain ⟨sb1, sb2, sb3⟩ := snb
  obtain ⟨r, hr⟩ : ∃ r, r = if cmpL an.ps bn.ps = 0 then cmpI an.k.v bn.k.v else cmpL an.ps bn.ps := ⟨_, rfl⟩
  rw [← hr]
  have HR := Lib.hid hr; clear hr
  go_enter Tryz.func82, Tryz.ntmps82
  go_wp2_with fail
  refine (hna _ xt).mono ?_
  rintro e w1 ⟨r1, rfl, ⟨A1, c1, B1, d1, rfl, h1, h2⟩, hx1⟩
  (have b3 := Box.ext (g := w.heap.size + 1) bxt hx1; have b3r := b3.rules; have b3l := b3.lt)
  have hE1 : Ext w w1 := xt
  go_wp2_with fail
  refine (hnb _ (hE1.trans xt)).mono ?_
  rintro e w2 ⟨r2, rfl, ⟨A2, c2, B2, d2, rfl, h3, h4⟩, hx2⟩
  have b5 := Box.ext (g := w1.heap.size) (Box.new_at _ _ _ rfl) hx2
  have h1' : Pl w2 (fun _ => True) A1 c1 an.ps := (h1.widen fun _ _ _ => trivial).ext xt
  have h2' : Nl w2 (fun _ => True) B1 d1 an.k.mag := (h2.widen fun _ _ _ => trivial).ext xt
  have hE2 : Ext w w2 := hE1.trans xt
  clear h1 h2 b3r hx1 hna hnb
  go_wp2_with fail
  refine wp_named fun W hW => ?_
  obtain ⟨g5, hg5⟩ : ∃ g5, g5 = w1.heap.size := ⟨_, rfl⟩
  obtain ⟨g6, hg6⟩ : ∃ g6, g6 = w2.heap.size := ⟨_, rfl⟩
  have b5W : Box W g5 27 #[.slice A1 an.ps.length c1, .bool an.k.neg, .slice B1 an.k.mag.length d1] := by rw [hW, hg5]; exact b5.alloc _
  have b6W : Box W g6 27 #[.slice A2 bn.ps.length c2, .bool bn.k.neg, .slice B2 bn.k.mag.length d2] := by rw [hW, hg6]; exact Box.new _ _ _
  have hE : Ext w W := by rw [hW]; exact hE2.alloc _
  have pa : Pl W (fun _ => True) A1 c1 an.ps := by rw [hW]; exact h1'.ext (Ext.alloc (Ext.refl _) _)
  have ka : Nl W (fun _ => True) B1 d1 an.k.mag := by rw [hW]; exact h2'.ext (Ext.alloc (Ext.refl _) _)
  have pb : Pl W (fun _ => True) A2 c2 bn.ps := by rw [hW]; exact (h3.widen fun _ _ _ => trivial).ext (Ext.alloc (Ext.refl _) _)
  have kb : Nl W (fun _ => True) B2 d2 bn.k.mag := by rw [hW]; exact (h4.widen fun _ _ _ => trivial).ext (Ext.alloc (Ext.refl _) _)
  rw [← hg5, ← hg6]
  clear hW hg5 hg6 h1' h2' h3 h4 b5 hE2 hE1 hx2 b3 b3l
  have ma := pa.1; have ma2 := pa.2.1
  have mb := pb.1; have mb2 := pb.2.1
  simp only [maxLen] at ma2 mb2
  go_loopw [7] (fun iv wr => ∃ k : Nat, k ≤ an.ps.length ∧ iv = .int .i64 k ∧ Hid (∀ i, i < k → ∃ (h : i < an.ps.length) (h' : i < bn.ps.length), cmpP an.ps[i] bn.ps[i] = 0) ∧ Ext W wr) (fun iv _ => an.ps.length - (intOf iv).toNat)
  case atStart => exact ⟨0, Nat.zero_le _, rfl, Lib.hid fun _ h => absurd h (Nat.not_lt_zero _), xt⟩
  case round =>
    obtain ⟨k, hk, rfl, hno, hx⟩ := hrel
    have hkm : k ≤ bn.ps.length := by
      rcases Nat.eq_zero_or_pos k with e | e
      · omega
      · obtain ⟨_, h1, _⟩ := hno.out (k - 1) (by omega)
        omega
    have b5r := (b5W.ext hx).rules
    have b6r := (b6W.ext hx).rules
    have b5l := (b5W.ext hx).lt
    have b6l := (b6W.ext hx).lt
    have kw := w64n (n := k) (by omega)
    by_cases hlt : k < an.ps.length
    · have kl : (k : Int) < (an.ps.length : Int) := by omega
      by_cases hlt' : k < bn.ps.length
      · have kl' : (k : Int) < (bn.ps.length : Int) := by omega
        obtain ⟨b1, o1, B', d', rfl, -, hc0, hc1, hc2, hi, hNa⟩ := (pa.ext hx).at_ hlt
        obtain ⟨b2, o2, B2', d2', rfl, -, hq0, hq1, hq2, hj, hNb⟩ := (pb.ext hx).at_ hlt'
        have hb1 := World.block_lt_of_cell? _ _ hc0
        have hb2 := World.block_lt_of_cell? _ _ hq0
        have hstep : cmpL an.ps bn.ps = if cmpP (pth an.ps k) (pth bn.ps k) = 0 then cmpL (an.ps.drop (k + 1)) (bn.ps.drop (k + 1)) else cmpP (pth an.ps k) (pth bn.ps k) := by
          rw [cmpL_step _ _ k hno.out, drop_pth _ k hlt, drop_pth _ k hlt', cmpL]
        have HS := Lib.hid hstep; clear hstep
        by_cases e1 : (pth an.ps k).1 < (pth bn.ps k).1
        · have n1 : ((pth an.ps k).1 != (pth bn.ps k).1) = true := by rw [bne_iff_ne]; omega
          have hr : r = -1 := by
            have : cmpP (pth an.ps k) (pth bn.ps k) = -1 := by unfold cmpP; rw [if_pos e1]
            have h2 : cmpL an.ps bn.ps = -1 := by rw [HS.out, this]; rfl
            rw [HR.out, h2]; rfl
          have HR2 := Lib.hid hr; clear hr
          go_wp2_with fail
          refine wp_region_seq 13 [(0, true), (1, true), (2, true), (3, true), (4, true), (5, true), (6, true), (7, true), (8, true), (9, true), (10, true), (11, true), (12, true)] rfl (by kernel_rfl) (by intro _ _ d _ _ h; cases d <;> exact h) ?_
          (repeat (refine sq_take (v := ?_) rfl rfl ?_ ?_; rotate_left; (intro w' hx'; have hc' := hx'.cells.1; (try simp only [wcd] at hc'); go_simp; (first | done | with_reducible rfl)); (try simp only [pt])))
          refine sq_done ?_
          go_wp2_with fail
          refine wp_region_seq 13 [(0, true), (1, true), (2, true), (3, true), (4, true), (5, true), (6, true), (7, true), (8, true), (9, true), (10, true), (11, true), (12, true)] rfl (by kernel_rfl) (by intro _ _ d _ _ h; cases d <;> exact h) ?_
          (repeat (refine sq_take (v := ?_) rfl rfl ?_ ?_; rotate_left; (intro w' hx'; have hc' := hx'.cells.1; (try simp only [wcd] at hc'); go_simp; (first | done | with_reducible rfl)); (try simp only [pt])))
          refine sq_done ?_
          go_wp2_with fail
          go_ret
          exact ⟨ret_int HR2.out.symm, hE.trans (hx.trans xt)⟩
        · by_cases e2 : (pth bn.ps k).1 < (pth an.ps k).1
          · have n1 : ((pth an.ps k).1 != (pth bn.ps k).1) = true := by rw [bne_iff_ne]; omega
            have hr : r = 1 := by
              have : cmpP (pth an.ps k) (pth bn.ps k) = 1 := by unfold cmpP; rw [if_neg e1, if_pos e2]
              have h2 : cmpL an.ps bn.ps = 1 := by rw [HS.out, this]; rfl
              rw [HR.out, h2]; rfl
            have HR2 := Lib.hid hr; clear hr
            go_wp2_with fail
            refine wp_region_seq 13 [(0, true), (1, true), (2, true), (3, true), (4, true), (5, true), (6, true), (7, true), (8, true), (9, true), (10, true), (11, true), (12, true)] rfl (by kernel_rfl) (by intro _ _ d _ _ h; cases d <;> exact h) ?_
            (repeat (refine sq_take (v := ?_) rfl rfl ?_ ?_; rotate_left; (intro w' hx'; have hc' := hx'.cells.1; (try simp only [wcd] at hc'); go_simp; (first | done | with_reducible rfl)); (try simp only [pt])))
            refine sq_done ?_
            go_wp2_with fail
            refine wp_region_seq 13 [(0, true), (1, true), (2, true), (3, true), (4, true), (5, true), (6, true), (7, true), (8, true), (9, true), (10, true), (11, true), (12, true)] rfl (by kernel_rfl) (by intro _ _ d _ _ h; cases d <;> exact h) ?_
            (repeat (refine sq_take (v := ?_) rfl rfl ?_ ?_; rotate_left; (intro w' hx'; have hc' := hx'.cells.1; (try simp only [wcd] at hc'); go_simp; (first | done | with_reducible rfl)); (try simp only [pt])))
            refine sq_done ?_
            go_wp2_with fail
            go_ret
            exact ⟨ret_int HR2.out.symm, hE.trans (hx.trans xt)⟩
          · have n1 : ((pth an.ps k).1 != (pth bn.ps k).1) = false := by
              have : (pth an.ps k).1 = (pth bn.ps k).1 := by omega
              rw [this]; simp
            have hcP : cmpP (pth an.ps k) (pth bn.ps k) = cmpI (pth an.ps k).2.v (pth bn.ps k).2.v := by unfold cmpP; rw [if_neg e1, if_neg e2]
            have HP := Lib.hid hcP; clear hcP
            by_cases e3 : cmpI (pth an.ps k).2.v (pth bn.ps k).2.v = 0
            · have n3 : (cmpI (pth an.ps k).2.v (pth bn.ps k).2.v != 0) = false := by rw [e3]; rfl
              have E3 := Lib.hid e3; clear e3
              go_wp2_with fail
              refine wp_region_seq 13 [(0, true), (1, true), (2, true), (3, true), (4, true), (5, true), (6, true), (7, true), (8, true), (9, true), (10, true), (11, true), (12, true)] rfl (by kernel_rfl) (by intro _ _ d _ _ h; cases d <;> exact h) ?_
              (repeat (refine sq_take (v := ?_) rfl rfl ?_ ?_; rotate_left; (intro w' hx'; have hc' := hx'.cells.1; (try simp only [wcd] at hc'); go_simp; (first | done | with_reducible rfl)); (try simp only [pt])))
              refine sq_done ?_
              go_wp2_with fail
              refine wp_region_seq 13 [(0, true), (1, true), (2, true), (3, true), (4, true), (5, true), (6, true), (7, true), (8, true), (9, true), (10, true), (11, true), (12, false), (13, false)] rfl (by kernel_rfl) (by intro _ _ d _ _ h; cases d <;> exact h) ?_
              (repeat (refine sq_take (v := ?_) rfl rfl ?_ ?_; rotate_left; (intro w' hx'; have hc' := hx'.cells.1; (try simp only [wcd] at hc'); go_simp; (first | done | with_reducible rfl)); (try simp only [pt])))
              (refine sq_loud rfl rfl fun K hK => ?_; go_simp)
              refine (rcmpz_c (x := (pth an.ps k).2) (y := (pth bn.ps k).2) ⟨_, _, rfl, hNa.ext xt⟩ ⟨_, _, rfl, hNb.ext xt⟩ (Nat.le_trans (sa2 _ (pth_mem hlt)) (by omega)) (Nat.le_trans (sb2 _ (pth_mem hlt')) (by omega))).mono ?_
              rintro e w5 ⟨rfl, hx5⟩
              (refine hK _ _ xt ?_; clear hK K; (try simp only [pt]))
              (refine sq_last rfl rfl fun K hK => ?_; go_simp; refine hK _ _ ?_; clear hK K)
              go_wp2_with fail
              go_roundw
              case rel =>
                refine ⟨k + 1, by omega, by go_num, Lib.hid fun i hik => ?_, hx.trans xt⟩
                by_cases e : i = k
                · subst e; exact ⟨hlt, hlt', by rw [← pth_eq _ i hlt, ← pth_eq _ i hlt', HP.out]; exact E3.out⟩
                · exact hno.out i (by omega)
              case measure => simp [intOf] <;> omega
            · have n3 : (cmpI (pth an.ps k).2.v (pth bn.ps k).2.v != 0) = true := by rw [bne_iff_ne]; exact e3
              have hr : r = cmpI (pth an.ps k).2.v (pth bn.ps k).2.v := by
                have h2 : cmpL an.ps bn.ps = cmpI (pth an.ps k).2.v (pth bn.ps k).2.v := by rw [HS.out, HP.out, if_neg e3]
                rw [HR.out, h2, if_neg e3]
              have HR2 := Lib.hid hr; clear hr e3
              go_wp2_with fail
              refine wp_region_seq 13 [(0, true), (1, true), (2, true), (3, true), (4, true), (5, true), (6, true), (7, true), (8, true), (9, true), (10, true), (11, true), (12, true)] rfl (by kernel_rfl) (by intro _ _ d _ _ h; cases d <;> exact h) ?_
              (repeat (refine sq_take (v := ?_) rfl rfl ?_ ?_; rotate_left; (intro w' hx'; have hc' := hx'.cells.1; (try simp only [wcd] at hc'); go_simp; (first | done | with_reducible rfl)); (try simp only [pt])))
              refine sq_done ?_
              go_wp2_with fail
              refine wp_region_seq 13 [(0, true), (1, true), (2, true), (3, true), (4, true), (5, true), (6, true), (7, true), (8, true), (9, true), (10, true), (11, true), (12, false), (13, false)] rfl (by kernel_rfl) (by intro _ _ d _ _ h; cases d <;> exact h) ?_
              (repeat (refine sq_take (v := ?_) rfl rfl ?_ ?_; rotate_left; (intro w' hx'; have hc' := hx'.cells.1; (try simp only [wcd] at hc'); go_simp; (first | done | with_reducible rfl)); (try simp only [pt])))
              (refine sq_loud rfl rfl fun K hK => ?_; go_simp)
              refine (rcmpz_c (x := (pth an.ps k).2) (y := (pth bn.ps k).2) ⟨_, _, rfl, hNa.ext xt⟩ ⟨_, _, rfl, hNb.ext xt⟩ (Nat.le_trans (sa2 _ (pth_mem hlt)) (by omega)) (Nat.le_trans (sb2 _ (pth_mem hlt')) (by omega))).mono ?_
              rintro e w5 ⟨rfl, hx5⟩
              (refine hK _ _ xt ?_; clear hK K; (try simp only [pt]))
              (refine sq_last rfl rfl fun K hK => ?_; go_simp; refine hK _ _ ?_; clear hK K)
              go_wp2_with fail
              go_ret
              exact ⟨ret_int HR2.out.symm, hE.trans (hx.trans xt)⟩
      · have kl' : ¬ (k : Int) < (bn.ps.length : Int) := by omega
        have hr : r = 1 := by
          have h2 : cmpL an.ps bn.ps = 1 := by
            have e : bn.ps.drop k = [] := List.drop_eq_nil_of_le (by omega)
            rw [cmpL_step _ _ k hno.out, drop_pth _ k hlt, e]; rfl
          rw [HR.out, h2]; rfl
        have HR2 := Lib.hid hr; clear hr
        have n1 : ((an.ps.length : Int) != (bn.ps.length : Int)) = true := by rw [bne_iff_ne]; omega
        have n2 : ¬ (an.ps.length : Int) < (bn.ps.length : Int) := by omega
        go_wp2_with fail
        go_ret
        exact ⟨ret_int HR2.out.symm, hE.trans (hx.trans xt)⟩
    · obtain rfl : k = an.ps.length := by omega
      have hfin : cmpL an.ps bn.ps = cmpL [] (bn.ps.drop an.ps.length) := by rw [cmpL_step _ _ _ hno.out, List.drop_length]
      by_cases hlt' : an.ps.length < bn.ps.length
      · have hr : r = -1 := by
          have h2 : cmpL an.ps bn.ps = -1 := by rw [hfin, drop_pth _ _ hlt']; rfl
          rw [HR.out, h2]; rfl
        have HR2 := Lib.hid hr; clear hr hfin
        have n1 : ((an.ps.length : Int) != (bn.ps.length : Int)) = true := by rw [bne_iff_ne]; omega
        have n2 : (an.ps.length : Int) < (bn.ps.length : Int) := by omega
        go_wp2_with fail
        go_ret
        exact ⟨ret_int HR2.out.symm, hE.trans (hx.trans xt)⟩
      · have hr : r = cmpI an.k.v bn.k.v := by
          have h2 : cmpL an.ps bn.ps = 0 := by
            have e : bn.ps.drop an.ps.length = [] := List.drop_eq_nil_of_le (by omega)
            rw [hfin, e]; rfl
          rw [HR.out, if_pos h2]
        have HR2 := Lib.hid hr; clear hr hfin
        have n1 : ((an.ps.length : Int) != (bn.ps.length : Int)) = false := by
          have : an.ps.length = bn.ps.length := by omega
          rw [this]; simp
        have n2 : ¬ (an.ps.length : Int) < (bn.ps.length : Int) := by omega
        go_wp2_with fail
        refine (rcmpz_c (x := an.k) (y := bn.k) ⟨_, _, rfl, ka.ext xt⟩ ⟨_, _, rfl, kb.ext xt⟩ (by omega) (by omega)).mono ?_
        rw [← HR2.out]
        rintro e w5 ⟨rfl, hx5⟩
        go_wp2_with fail
        go_ret
        exact ⟨rfl, hE.trans (hx.trans xt)⟩

end Go.Proofs.YthmjgbkakjpfkaaGreatDoor

namespace Go.Proofs.YthmjgbkakjpfkaaGreatDoor
open Go.RowKit Go.Shelf

end Go.Proofs.YthmjgbkakjpfkaaGreatDoor

namespace Go.Proofs.YthmjgbkakjpfkaaGreatDoor
open Go.RowKit Go.Shelf

end Go.Proofs.YthmjgbkakjpfkaaGreatDoor

namespace Go.Proofs.YthmjgbkakjpfkaaGreatDoor
open Go.RowKit Go.Shelf

def EvR (w : World) (X : Nat → Prop) (e : Ending) (t : T) (vals : List (Int × Z)) : Prop :=
  if cov vals (cn (vl t.ps)) then ∃ r, e = .returned (.tuple #[r, .int .i64 0]) ∧ Zi w X r (cz (t.k.v + ev (fv vals) (vl t.ps)))
  else e = .returned (.tuple #[.agg #[.bool false, .slice none 0 0], .int .i64 170])

theorem cov_no {vals : List (Int × Z)} {l : List (Int × Int)} {p : Int × Int} (hp : p ∈ l) (h : lk vals p.1 = none) : cov vals l = false := by
  unfold cov
  rw [List.all_eq_false]
  exact ⟨p, hp, by rw [h]; simp⟩
theorem vl_mem {ps : List (Int × Z)} {p : Int × Z} (h : p ∈ ps) : (p.1, p.2.v) ∈ vl ps := List.mem_map.2 ⟨p, h, rfl⟩
theorem ev_step {f : Int → Int} {ps : List (Int × Z)} {k : Nat} (h : k < ps.length) : ev f (vl (ps.take (k + 1))) = ev f (vl (ps.take k)) + (pth ps k).2.v * f (pth ps k).1 := by
  rw [vl_take ps k h, ev_append]
  simp [ev]
theorem cov_step {vals : List (Int × Z)} {ps : List (Int × Z)} {k : Nat} (h : k < ps.length) (hc : cov vals (vl (ps.take k)) = true) (hl : (lk vals (pth ps k).1).isSome = true) : cov vals (vl (ps.take (k + 1))) = true := by
  rw [vl_take ps k h]
  unfold cov at *
  rw [List.all_append, hc]
  simpa using hl
theorem ev_zl {vals ps : List (Int × Z)} {N M k : Nat} (hb : ∀ p ∈ vals, Lb p.2.mag) (h : ∀ p ∈ vals, p.2.mag.length ≤ N) (hp : ∀ p ∈ vl ps, zl p.2 ≤ M) (hl : ps.length ≤ M) : zl (ev (fv vals) (vl (ps.take k))) ≤ M + N + M := by
  have h1 := zl_ev (f := fv vals) (l := vl (ps.take k)) (N := M) (M := N) fun p hp' => ⟨hp p (List.map_subset _ (List.take_subset _ _) hp'), lk_zl hb h p.1⟩
  rw [vl_len, List.length_take] at h1
  omega

set_option maxHeartbeats 1600000 in
theorem teval_c {v : Value} {t : T} {w : World} {X Y : Nat → Prop} {A : Option Addr} {c : Nat} {vals : List (Int × Z)} {N : Nat} (h : Tv w X v t) (hv : Pl w Y A c vals) (hN : N ≤ 1073741824) (hs : t.sz N) (hvs : ∀ p ∈ vals, p.2.mag.length ≤ N) :
    Calls Tryz.prog 41 #[v, .slice A vals.length c] w fun e w' => EvR w' (w.heap.size ≤ ·) e t vals ∧ Ext w w' := by
  have htv := h
  have hlb := h.lb
  have hsz := nf_sz hs hlb
  have hnb := ct_lb (vl t.ps) t.k.v
  have hn1 : vl t.nf.ps = cn (vl t.ps) := vl_cl _
  have hn2 : t.nf.k = cz t.k.v := rfl
  have htk : zl t.k.v ≤ N := Nat.le_trans (zl_of hlb.2) hs.2.2
  have hvb := hv.lb
  obtain ⟨TA, tc, TB, td, rfl, h1, h2⟩ := h
  have hvl := hv.1; have hvm := hv.2.1
  simp only [maxLen] at hvm
  obtain ⟨tn, htn⟩ : ∃ tn, tn = t.nf := ⟨_, rfl⟩
  have hnorm := fun W (h : Ext w W) => tnorm_c (htv.ext h) (N := N) (by omega) hs
  rw [← htn] at hnorm hn1 hn2 hsz
  have hnb : tn.lb := by rw [htn]; exact hnb
  have HN1 := Lib.hid hn1; have HN2 := Lib.hid hn2
  clear hn1 hn2 htn
  obtain ⟨s1, s2, s3⟩ := hsz
  have hzl := zl_vl hnb.1 s2
  go_enter Tryz.func41, Tryz.ntmps41
  go_wp2_with fail
  refine (hnorm _ xt).mono ?_
  clear hnorm
  rintro e w1 ⟨r1, rfl, ⟨A1, c1, B1, d1, rfl, h3, h4⟩, hx⟩
  (have b2 := Box.ext (g := w.heap.size) bxt hx; have b2r := b2.rules; have b2l := b2.lt)
  (have b4 := Box.ext (g := w.heap.size + 1) bxt hx; have b4r := b4.rules; have b4l := b4.lt)
  (have hs1 := Ext.size hx; (try simp only [wsz] at hs1))
  have hxw1 : Ext w w1 := xt
  go_wp2_with fail
  refine wp_named fun W hW => ?_
  obtain ⟨g, hg1, hg2⟩ : ∃ g, g = w1.heap.size ∧ w.heap.size + 2 ≤ g := ⟨_, rfl, by omega⟩
  have hb6 : Box W g 24 #[.bool tn.k.neg, .slice B1 tn.k.mag.length d1] := by rw [hW, hg1]; exact Box.new_at _ _ _ (by simp only [World.size_setCell])
  have hb4 : Box W (w.heap.size + 1) 24 #[.bool false, .slice none 0 0] := by
    rw [hW]
    exact ((((b4.far (by simp only [ne_eq]; omega) _).far (by simp only [ne_eq]; omega) _).far (by simp only [ne_eq]; omega) _).alloc _)
  have hE : Ext w W := by
    rw [hW]
    exact (((hxw1.setCell (Nat.le_refl _) _).setCell (Nat.le_refl _) _).setCell (Nat.le_refl _) _).alloc _
  have kpW : Kp (w.heap.size + 2 ≤ ·) w1 W := by
    rw [hW]
    exact ((((Kp.refl w1).setCell (by simp only; omega) _).setCell (by simp only; omega) _).setCell (by simp only; omega) _).alloc _
  have hP : Pl W (fun c => w.heap.size + 2 ≤ c ∧ c ≠ g) A1 c1 tn.ps := (((h3.widen (Y := fun c => w.heap.size + 2 ≤ c ∧ c < w1.heap.size) fun c hc hl => ⟨by simp only [World.size_alloc] at hc; omega, hl⟩).keep (kpW.imp fun c hc => hc.1)).widen fun c hc _ => ⟨hc.1, by omega⟩)
  have hNk : Nl W (fun c => w.heap.size + 2 ≤ c ∧ c ≠ g) B1 d1 tn.k.mag := (((h4.widen (Y := fun c => w.heap.size + 2 ≤ c ∧ c < w1.heap.size) fun c hc hl => ⟨by simp only [World.size_alloc] at hc; omega, hl⟩).keep (kpW.imp fun c hc => hc.1)).widen fun c hc _ => ⟨hc.1, by omega⟩)
  rw [← hg1]
  have hWs : W.heap.size = g + 1 := by rw [hW, hg1]; simp
  have hWs2 : g < W.heap.size := by omega
  clear hW hg1 b2 b2r b2l b4 b4r b4l hWs kpW h3 h4
  go_loopw [17] (fun iv wr => ∃ k B2 d2, ∃ z : Z, k ≤ tn.ps.length ∧ iv = .int .i64 (k : Nat) ∧ Box wr g 24 #[.bool z.neg, .slice B2 z.mag.length d2] ∧ Nl wr (fun c => w.heap.size + 2 ≤ c ∧ c ≠ g) B2 d2 z.mag ∧ Hid (z = cz (t.k.v + ev (fv vals) (vl (tn.ps.take k)))) ∧
      Hid (cov vals (vl (tn.ps.take k)) = true) ∧ Kp (fun c => c ≠ g) W wr ∧ Ext w wr) (fun iv _ => tn.ps.length - (intOf iv).toNat)
  case atStart => exact ⟨0, B1, d1, tn.k, Nat.zero_le _, rfl, hb6, hNk, Lib.hid (by rw [HN2.out]; simp [vl, ev]), Lib.hid rfl, Kp.refl _, hE⟩
  case round =>
    clear hb6 hNk
    obtain ⟨k, B2, d2, z, hk, rfl, hb6, hNz, hz, hcv, kp, hxr⟩ := hrel
    have hb4k := hb4.keep (X := fun c => c ≠ g) (by omega) kp
    have hb4r := hb4k.rules
    have hb4l := hb4k.lt
    have hb6r := hb6.rules
    have hb6l := hb6.lt
    by_cases hlt : k < tn.ps.length
    · obtain ⟨b, o, B', d', rfl, hX, hc0, hc1, hc2, hi, hN2⟩ := (hP.keep (kp.imp fun c hc => hc.2)).at_ hlt
      have hb := World.block_lt_of_cell? _ _ hc0
      have kl : (k : Int) < (tn.ps.length : Int) := by omega
      have hidx := indexf_c (g := wr.heap.size) (x := (pth tn.ps k).1) (hv.ext (hxr.alloc (.cells #[.int .i64 (pth tn.ps k).1, .bool (pth tn.ps k).2.neg, .slice B' (pth tn.ps k).2.mag.length d'] 37))) (by simp) (by simp)
      rcases hix : ix vals (pth tn.ps k).1 with _ | i
      · rw [hix] at hidx
        have hno := Lib.hid (ix_none hix)
        clear hix
        go_wp2_with fail
        refine hidx.mono ?_
        rintro e w2 ⟨rfl, hx2⟩
        have hb4s := hb4k.alloc (.cells #[.int .i64 (pth tn.ps k).1, .bool (pth tn.ps k).2.neg, .slice B' (pth tn.ps k).2.mag.length d'] 37)
        have hb4q := hb4s.ext hx2
        have hb4qr := hb4q.rules
        have hb4ql := hb4q.lt
        clear hb4r hb6r
        go_wp2_with fail
        (refine bodyPost_ret (v := ?_) ?_ rfl ?_; rotate_left; (simp only [results, Tryz.results41]; go_simp; (first | done | with_reducible rfl)))
        have hxx : Ext w w2 := hxr.trans xt
        refine ⟨?_, (hxx.setCell (by simp only; omega) _).setCell (by simp only; omega) _⟩
        unfold EvR
        rw [← HN1.out, if_neg (by rw [cov_no (vl_mem (pth_mem hlt)) hno.out]; simp)]
      · rw [hix] at hidx
        obtain ⟨hil, hiv⟩ := ix_some hix
        have hq := hiv hil
        rw [← pth_eq vals i hil] at hq
        have HQ := Lib.hid hq
        clear hq hiv hix
        obtain ⟨b2, o2, Bv, dv, rfl, hXv, hv0, hv1, hv2, hvi, hNv⟩ := (hv.ext hxr).at_ hil
        have hbv := World.block_lt_of_cell? _ _ hv0
        have hiz : ¬ ((ixv (some i)) < 0) := by show ¬ ((i : Int) < 0); omega
        have hizn : ixv (some i) = (i : Int) := rfl
        rw [hizn] at hidx hiz
        clear hizn
        have hil2 : (i : Int) < (vals.length : Int) := by omega
        have hiw := w64n (n := i) (by omega)
        have hzlen : z.mag.length ≤ N + N + N + N + N + N + 1 := by
          rw [hz.out, cz_len]
          have h1 := ev_zl (vals := vals) (ps := tn.ps) (N := N) (M := N + N) (k := k) hvb hvs hzl s1
          have := zl_add (x := t.k.v) (y := ev (fv vals) (vl (tn.ps.take k))) (k := N + N + N + N + N) (by omega) (by omega)
          omega
        go_wp2_with fail
        refine hidx.mono ?_
        rintro e w2 ⟨rfl, hx2⟩
        have bp := Box.ext (g := wr.heap.size) (Box.new_at _ _ _ rfl) hx2
        have bpr := bp.rules
        have bpl := bp.lt
        have hb6q := (hb6.alloc (.cells #[.int .i64 (pth tn.ps k).1, .bool (pth tn.ps k).2.neg, .slice B' (pth tn.ps k).2.mag.length d'] 37)).ext hx2
        have hb6qr := hb6q.rules
        have hb6ql := hb6q.lt
        have hxw2 : Ext wr w2 := xt
        have hcv2 := hxw2.cells.1
        have hbv2 := Nat.lt_of_lt_of_le hbv hxw2.size
        have hv2' := (hxw2.cells.1 b2 (o2 + i * 3 + 1) hbv).trans hv1
        have hv2'' := (hxw2.cells.1 b2 (o2 + i * 3 + 2) hbv).trans hv2
        clear hb4r hb6r hcv2
        go_wp2_with fail
        refine wp_region_seq 10 [(0, true), (1, true), (2, true), (3, true), (4, true), (5, true), (6, true), (7, true), (8, false), (9, false), (10, false)] rfl (by kernel_rfl) (by intro _ _ d _ _ h; cases d <;> exact h) ?_
        (repeat (refine sq_take (v := ?_) rfl rfl ?_ ?_; rotate_left; (intro w' hx'; have hc' := hx'.cells.1; (try simp only [wcd] at hc'); go_simp; (first | done | with_reducible rfl)); (try simp only [pt])))
        have hpz : (pth tn.ps k).2.mag.length ≤ N + N := s2 _ (pth_mem hlt)
        have hqz : (pth vals i).2.mag.length ≤ N := hvs _ (pth_mem hil)
        (refine sq_loud rfl rfl fun K hK => ?_; go_simp)
        refine (zmul_c (x := (pth tn.ps k).2) (y := (pth vals i).2) ⟨_, _, rfl, hN2.ext xt⟩ ⟨_, _, rfl, hNv.ext xt⟩ (by omega) (by omega)).mono ?_
        rintro e w3 ⟨r3, rfl, hz3, hx3⟩
        (have hs3 := Ext.size hx3; (try simp only [wsz] at hs3))
        (refine hK _ _ xt ?_; clear hK K; (try simp only [pt]))
        have hxw3 : Ext wr w3 := xt
        (refine sq_loud rfl rfl fun K hK => ?_; go_simp)
        refine (zadd_c (x := z) ⟨_, _, rfl, hNz.ext hxw3⟩ hz3 (by omega) (by rw [cz_len]; have := zl_mul (pth tn.ps k).2.v (pth vals i).2.v; have := zl_of hN2.lb; have := zl_of hNv.lb; omega)).mono ?_
        rw [cz_v]
        rintro e w4 ⟨r4, rfl, ⟨A4, c4, rfl, hN4⟩, hx4⟩
        (have hs4 := Ext.size hx4; (try simp only [wsz] at hs4))
        (refine hK _ _ xt ?_; clear hK K; (try simp only [pt]))
        have hxw4 : Ext wr w4 := hxw3.trans xt
        have hb6z := hb6.ext hxw4
        have hb6zr := hb6z.rules
        have hb6zl := hb6z.lt
        have hsz3 := hxw3.size
        (refine sq_last rfl rfl fun K hK => ?_; go_simp; refine hK _ _ ?_; clear hK K)
        go_wp2_with fail
        have hb6s : Box ((w4.setCell ⟨g, 0, none⟩ (.bool (cz (z.v + (pth tn.ps k).2.v * (pth vals i).2.v)).neg)).setCell ⟨g, 1, none⟩ (.slice A4 (cz (z.v + (pth tn.ps k).2.v * (pth vals i).2.v)).mag.length c4)) g 24 #[.bool (cz (z.v + (pth tn.ps k).2.v * (pth vals i).2.v)).neg, .slice A4 (cz (z.v + (pth tn.ps k).2.v * (pth vals i).2.v)).mag.length c4] := (hb6z.set_ 0 _).set_ 1 _
        go_roundw
        case rel =>
          refine ⟨k + 1, A4, c4, cz (z.v + (pth tn.ps k).2.v * (pth vals i).2.v), by omega, by go_num, hb6s, ?_, Lib.hid ?_, Lib.hid ?_, ((kp.ext hxw4).setCell (fun h => h rfl) _).setCell (fun h => h rfl) _, ((hxr.trans hxw4).setCell (by simp only; omega) _).setCell (by simp only; omega) _⟩
          · exact ((hN4.widen (Y := fun c => w.heap.size + 2 ≤ c ∧ c ≠ g) fun c hc _ => ⟨by omega, by omega⟩).keep ((Kp.refl w4).setCell (fun h => h.2 rfl) _)).keep ((Kp.refl _).setCell (fun h => h.2 rfl) _)
          · rw [ev_step hlt, hz.out, cz_v, show fv vals (pth tn.ps k).1 = (pth vals i).2.v from by rw [fv, HQ.out.2]; rfl, Int.add_assoc]
          · exact cov_step hlt hcv.out (by rw [HQ.out.2]; rfl)
        case measure => simp [intOf] <;> omega
    · obtain rfl : k = tn.ps.length := by omega
      go_wp2_with fail
      (refine bodyPost_ret (v := ?_) ?_ rfl ?_; rotate_left; (simp only [results, Tryz.results41]; go_simp; (first | done | with_reducible rfl)))
      refine ⟨?_, (hxr.setCell (by simp only; omega) _).setCell (by simp only; omega) _⟩
      unfold EvR
      have h1 := hcv.out
      have h2 := hz.out
      rw [List.take_length, HN1.out] at h1 h2
      rw [if_pos h1]
      rw [h2, ev_cn] at hNz ⊢
      refine ⟨_, rfl, _, _, rfl, ?_⟩
      exact (((hNz.widen (Y := fun c => w.heap.size + 2 ≤ c) fun c hc _ => hc.1).keep ((Kp.refl _).setCell (by simp only; omega) _)).keep ((Kp.refl _).setCell (by simp only; omega) _)).widen fun c hc _ => by omega

end Go.Proofs.YthmjgbkakjpfkaaGreatDoor
