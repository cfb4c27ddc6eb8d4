/- slices.Grow, Concat at numbers. No conditions. -/
import Derived.Test.YtbblgjjomgipfaaGreatAbove
import Derived.Lib.AppendZeros
namespace Go.Proofs.YtbblgjjomgipfaaGreat
open Go.RowKit Go.Shelf

/-- append(l, m...) of numbers. -/
theorem wpList_appzs {w : World} {ops : Array Oper} {rest : List Oper} {o : Oper} {a : Act} {Q : Exit → Act → World → Prop} (s x : Operand) {Zp X : Nat → Prop} {base : Nat} {v : Value} {l m : List Z} {A : Option Addr} {c : Nat}
    (h : Own 2 EZ w Zp base 25 v l) (hm : Zs w X A c m) (hX : ∀ b, X b → b < w.heap.size → Zp b ∧ v.ownBlock ≠ some b) (hl : l.length + m.length ≤ 2199023255552) (hbase : base ≤ w.heap.size)
    (hgd : o.guard = none) (ho : o.op = .call { callee := .builtin .append, args := #[s, x], argTypes := #[41, 41] }) (hs : a.eval s = v) (hx : a.eval x = .slice A m.length c)
    (H : ∀ v' w', Own 2 EZ w' Zp base 25 v' (l ++ m) → w.grownBy w' v.ownBlock → (v'.ownBlock = v.ownBlock ∨ v'.ownBlock = some w.heap.size) → wpList Tryz.prog ops Q rest (a.put o.dst v') w') :
    wpList Tryz.prog ops Q (o :: rest) a w := by
  obtain ⟨ys, hf, hfc⟩ := (Sl.widen hm (by omega) (Y := fun b => Zp b ∧ v.ownBlock ≠ some b) hX).flat
  exact wpList_app ety_z s x h hf (fun h0 => by
    obtain ⟨b, o, hA, _, hc⟩ := hfc h0
    exact ⟨b, o, hA, hc⟩) (by omega) (by simp only [maxLen]; omega) hbase hgd ho hs hx H

set_option maxHeartbeats 800000 in
theorem growz_c (w : World) (n : Nat) (hn : n ≤ 1099511627776) (Zp : Nat → Prop) :
    Calls Tryz.prog 134 #[.slice none 0 0, .int .i64 (n : Int)] w fun e w' => ∃ v, e = .returned v ∧ Own 2 EZ w' Zp w.heap.size 25 v [] ∧ Ext w w' := by
  go_enter Tryz.func134, Tryz.ntmps134
  have hn0 : ¬ (n : Int) < 0 := by omega
  have ew := w64n (n := n) (by omega)
  rcases Nat.eq_zero_or_pos n with h0 | h0
  · subst h0
    go_wp2_with fail
    go_ret
    exact ⟨_, rfl, Own.nil _ _ _ _, Ext.refl _⟩
  · have hi : (0 : Int) < (n : Int) := by omega
    obtain ⟨i, hinf, hz, hsize, hby⟩ := info_parts ety_z.info
    have hr := fun ty => Lib.run_append_nil_zeros (P := Tryz.prog) w 41 3 ty 25 i (.agg #[.bool false, .slice none 0 0]) .i64 .i64 ety_z.under Tryz.underlying3 hinf hz n h0 (by rw [hsize]; omega) (by omega) (by rw [hby]; omega)
    have hge := grownCap_ge w n 0 25
    have hle := grownCap_le_maxLen w n 0 25 (by simp only [maxLen]; omega)
    obtain ⟨cap, hcap⟩ : ∃ cap, cap = grownCap w n 0 25 := ⟨_, rfl⟩
    rw [← hcap] at hr hge hle
    clear hcap
    go_wp2_with (first
      | (at_builtin
         (refine Lib.wpList_append_run _ rfl _ _ _ _ rfl _ _ rfl rfl _ _ (hr _) ?_))
      | fail)
    go_ret
    refine ⟨_, rfl, ⟨[], ⟨rfl, .inr ⟨w.heap.size, cap, _, rfl, Nat.le_refl _, heap_alloc_new w _, Nat.zero_le _, hle, ?_, by simp⟩⟩, Fl.nil _ _⟩, (by repeat (first | with_reducible assumption | with_reducible exact Ext.refl _ | with_reducible refine Ext.drewN ?_ _ | with_reducible refine Ext.drew ?_ | with_reducible refine Ext.alloc ?_ _ | (with_reducible refine Ext.setCell ?_ ?_ _; rotate_left; (first | exact Nat.le_refl _ | (dsimp only; omega) | (simp only [wsz]; omega))) | (with_reducible refine Ext.trans ?_ (by with_reducible assumption))))⟩
    simp [size_zeroCells]
    omega

set_option maxHeartbeats 1600000 in
theorem concat_c {w : World} {g : Nat} {ty : TypeId} {A B : Option Addr} {c d : Nat} {l m : List Z} {Zp : Nat → Prop} (hZ : ∀ b, Zp b → b < w.heap.size) (hg : Box w g ty #[.slice A l.length c, .slice B m.length d]) (sl : Zs w Zp A c l) (sm : Zs w Zp B d m) (hL : l.length + m.length ≤ 1099511627776) :
    Calls Tryz.prog 117 #[.slice (some ⟨g, 0, none⟩) 2 2] w fun e w' => ∃ v, e = .returned v ∧ Own 2 EZ w' Zp w.heap.size 25 v (l ++ m) ∧ Ext w w' := by
  have gr := hg.rules; have gl := hg.lt
  go_enter Tryz.func117, Tryz.ntmps117
  go_wp2_with fail
  go_loopw [3, 11] (fun sv iv wr => ((iv = .int .i64 0 ∧ sv = .int .i64 0) ∨ (iv = .int .i64 1 ∧ sv = .int .i64 (l.length : Nat)) ∨ (iv = .int .i64 2 ∧ sv = .int .i64 ((l.length + m.length : Nat) : Int))) ∧ wr = w) (fun _ iv _ => 2 - (intOf iv).toNat)
  case atStart => exact ⟨.inl ⟨rfl, rfl⟩, rfl⟩
  case round =>
    obtain ⟨hcase, rfl⟩ := hrel
    have w1 := w64n (n := l.length) (by omega)
    have w2 : IntKind.i64.wrap ((l.length : Int) + (m.length : Int)) = (l.length : Int) + (m.length : Int) := w64 ⟨by omega, by omega⟩
    have n1 : ¬ (l.length : Int) < 0 := by omega
    have n2 : ¬ (l.length : Int) + (m.length : Int) < 0 := by omega
    rcases hcase with ⟨rfl, rfl⟩ | ⟨rfl, rfl⟩ | ⟨rfl, rfl⟩
    · go_wp2_with fail
      go_roundw
      case rel => exact ⟨.inr (.inl ⟨rfl, rfl⟩), trivial⟩
      case measure => simp [intOf] <;> omega
    · go_wp2_with fail
      go_roundw
      case rel => exact ⟨.inr (.inr ⟨rfl, by simp⟩), trivial⟩
      case measure => simp [intOf] <;> omega
    · go_wp2_with fail
      refine (growz_c _ (l.length + m.length) hL Zp).mono ?_
      rintro e w1 ⟨v1, rfl, hO1, hx1⟩
      have hg1 := hg.ext hx1
      have sl1 := Sl.keep sl (.of_ext hx1); have sm1 := Sl.keep sm (.of_ext hx1)
      have r1 := hO1.row
      have hs1 := hx1.size
      clear gr gl w2 n2
      go_wp2_with fail
      obtain ⟨V, rfl⟩ : ∃ V, V = wr := ⟨_, rfl⟩
      go_loopw [6, 27] (fun lv iv wz => ((iv = .int .i64 0 ∧ Own 2 EZ wz Zp V.heap.size 25 lv []) ∨ (iv = .int .i64 1 ∧ Own 2 EZ wz Zp V.heap.size 25 lv l) ∨ (iv = .int .i64 2 ∧ Own 2 EZ wz Zp V.heap.size 25 lv (l ++ m))) ∧ Ext V wz) (fun _ iv _ => 2 - (intOf iv).toNat)
      case atStart => exact ⟨.inl ⟨rfl, hO1⟩, hx1⟩
      case round =>
        obtain ⟨hcase, hxz⟩ := hrel
        have hgz := hg.ext hxz
        have gr := hgz.rules; have gl := hgz.lt
        have sl1 := Sl.keep sl (.of_ext hxz); have sm1 := Sl.keep sm (.of_ext hxz)
        have hsz := hxz.size
        rcases hcase with ⟨rfl, hO⟩ | ⟨rfl, hO⟩ | ⟨rfl, hO⟩
        · have hrow := hO.row
          go_wp2_with (first
            | (at_builtin
               (refine wpList_appzs (.tmp 31) (.tmp 32) hO sl1 (fun q hq _ => ⟨hq, fun e => by have := (hrow _ e).1; have := hZ q hq; omega⟩) (by simp only [List.length_nil]; omega) (by omega) rfl rfl rfl rfl ?_)
               intro v2 w2 hO2 hg2 hv2)
            | fail)
          have hxx : Ext V w2 := hxz.grown hg2 (fun j hj => (hrow _ hj).1)
          go_roundw
          case rel => exact ⟨.inr (.inl ⟨rfl, by simpa using hO2⟩), hxx⟩
          case measure => simp [intOf] <;> omega
        · have hrow := hO.row
          go_wp2_with (first
            | (at_builtin
               (refine wpList_appzs (.tmp 31) (.tmp 32) hO sm1 (fun q hq _ => ⟨hq, fun e => by have := (hrow _ e).1; have := hZ q hq; omega⟩) (by omega) (by omega) rfl rfl rfl rfl ?_)
               intro v2 w2 hO2 hg2 hv2)
            | fail)
          have hxx : Ext V w2 := hxz.grown hg2 (fun j hj => (hrow _ hj).1)
          go_roundw
          case rel => exact ⟨.inr (.inr ⟨rfl, hO2⟩), hxx⟩
          case measure => simp [intOf] <;> omega
        · go_wp2_with fail
          go_ret
          exact ⟨_, rfl, hO, hxz⟩

end Go.Proofs.YtbblgjjomgipfaaGreat
