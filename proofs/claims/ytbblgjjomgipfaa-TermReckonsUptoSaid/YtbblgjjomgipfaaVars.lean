/- Rows of ints; term.Vars. No conditions. -/
import Derived.Test.YtbblgjjomgipfaaNorm
namespace Go.Proofs.Ytbblgjjomgipfaa
open Go.RowKit

/-- One int. -/
def EI (_ : World) (_ : Nat → Prop) (cs : List Value) (x : Int) : Prop := cs = [.int .i64 x]
instance : Stab EI := ⟨fun h _ => h, fun h _ => h, fun h => by subst h; simp [Value.oneCell']⟩
theorem ety_i : Ety Try.prog 56 3 1 8 (.int .i64 0) := ⟨Try.underlying56, by kernel_rfl, by simp [Value.cells], by omega⟩
/-- A slice of ints. -/
abbrev Il (w : World) (X : Nat → Prop) (A : Option Addr) (c : Nat) (l : List Int) : Prop := Sl 1 EI w X A c l
theorem Il.keep {w w' : World} {X : Nat → Prop} {A : Option Addr} {c : Nat} {l : List Int} (h : Il w X A c l) (k : Kp X w w') : Il w' X A c l := Sl.keep h k
theorem Il.ext {w w' : World} {X : Nat → Prop} {A : Option Addr} {c : Nat} {l : List Int} (h : Il w X A c l) (k : Ext w w') : Il w' X A c l := Sl.keep h (.of_ext k)
theorem Il.widen {w : World} {X Y : Nat → Prop} {A : Option Addr} {c : Nat} {l : List Int} (h : Il w X A c l) (k : ∀ b, X b → b < w.heap.size → Y b) : Il w Y A c l := Sl.widen h (by omega) k
theorem Il.at_ {w : World} {X : Nat → Prop} {A : Option Addr} {c : Nat} {l : List Int} (h : Il w X A c l) {k : Nat} (hk : k < l.length) :
    ∃ b o, A = some ⟨b, o, none⟩ ∧ X b ∧ w.cell? ⟨b, o + k, none⟩ = some (.int .i64 (l.getD k 0)) := by
  obtain ⟨b, o, hA, hX, hi⟩ := h.2.2.1 (by omega)
  obtain ⟨cs, _, hc, rfl⟩ := hi k hk
  refine ⟨b, o, hA, hX, ?_⟩
  have := hc 0 (by simp)
  simpa [hk] using this
/-- append(l, x) of one int. -/
theorem wpList_appi1 {w : World} {ops : Array Oper} {rest : List Oper} {o : Oper} {a : Act} {Q : Exit → Act → World → Prop} (s x : Operand) {base g : Nat} {v : Value} {l : List Int} {y : Int} (hg : g = w.heap.size)
    (h : Own 1 EI w (fun _ => False) base 3 v l) (hl : l.length ≤ 4398046511104) (hbase : base ≤ w.heap.size)
    (hgd : o.guard = none) (ho : o.op = .call { callee := .builtin .append, args := #[s, x], argTypes := #[56, 56] }) (hs : a.eval s = v) (hx : a.eval x = .slice (some ⟨g, 0, none⟩) 1 1)
    (H : ∀ v' w', Own 1 EI w' (fun _ => False) base 3 v' (l ++ [y]) → (w.alloc (.cells #[.int .i64 y] 3)).grownBy w' v.ownBlock → wpList Try.prog ops Q rest (a.put o.dst v') w') : wpList Try.prog ops Q (o :: rest) a (w.alloc (.cells #[.int .i64 y] 3)) := by
  subst hg
  refine wpList_app (m := [y]) ety_i s x (Own.ext h ((Ext.refl w).alloc _)) (Fl.one (cs := [.int .i64 y]) rfl rfl) (fun _ => ⟨_, _, rfl, fun j u hu => ?_⟩) ?_ ?_ ?_ hgd ho hs hx fun v' w' h1 h2 _ => H v' w' h1 h2
  · rw [World.cell?_alloc_at (hn := rfl)]
    match j, hu with
    | 0, hu => simpa using hu
  · simp only [List.length_cons, List.length_nil]; omega
  · simp only [List.length_cons, List.length_nil, maxLen]; omega
  · simp only [World.size_alloc]; omega

theorem fst_take (ps : List (Int × Z)) (k : Nat) (h : k < ps.length) : (ps.take (k + 1)).map Prod.fst = (ps.take k).map Prod.fst ++ [(pth ps k).1] := by
  rw [take_pth ps k h, List.map_append]; rfl
theorem fst_cl (l : List (Int × Int)) : (cl l).map Prod.fst = l.map Prod.fst := by
  rw [cl, List.map_map]; rfl
/-- A term's parts, of a value. -/
theorem run_tparts (a b c : Value) (w : World) : Sem.run Try.prog (Instr.field 27 (.agg #[a, b, c]) 0) w = .ok a w := by kernel_rfl
/-- The variables of a term. -/
def T.vars (t : T) : List Int := (cn (vl t.ps)).map Prod.fst

set_option maxHeartbeats 800000 in
theorem tvars_c {v : Value} {t : T} {w : World} {X : Nat → Prop} {N : Nat} (h : Tv w X v t) (hN : N ≤ 1073741824) (hs : t.sz N) :
    Calls Try.prog 44 #[v] w fun e w' => ∃ A c, e = .returned (.slice A t.vars.length c) ∧ Il w' (w.heap.size ≤ ·) A c t.vars ∧ Ext w w' := by
  have htv := h
  have hlb := h.lb
  have hsz := nf_sz hs hlb
  have hn1 : t.nf.ps.map Prod.fst = t.vars := fst_cl _
  obtain ⟨TA, tc, TB, td, rfl, h1, h2⟩ := h
  obtain ⟨tn, htn⟩ : ∃ tn, tn = t.nf := ⟨_, rfl⟩
  have hnorm := fun W (h : Ext w W) => tnorm_c (htv.ext h) (N := N) (by omega) hs
  rw [← htn] at hnorm hn1 hsz
  have HN1 := Lib.hid hn1
  clear hn1 htn
  obtain ⟨s1, s2, s3⟩ := hsz
  have hfield := run_tparts
  go_enter Try.func44, Try.ntmps44
  go_wp2_with fail
  refine (hnorm _ (by repeat (first | with_reducible assumption | with_reducible exact Ext.refl _ | with_reducible refine Ext.drewN ?_ _ | with_reducible refine Ext.drew ?_ | with_reducible refine Ext.alloc ?_ _ | (with_reducible refine Ext.setCell ?_ ?_ _; rotate_left; (first | exact Nat.le_refl _ | (dsimp only; omega) | (simp only [wsz]; omega))) | (with_reducible refine Ext.trans ?_ (by with_reducible assumption))))).mono ?_
  clear hnorm
  rintro e w1 ⟨r1, rfl, ⟨A1, c1, B1, d1, rfl, h3, h4⟩, hx⟩
  (have hs1 := Ext.size hx; (try simp only [wsz] at hs1))
  have hxw1 : Ext w w1 := (by repeat (first | with_reducible assumption | with_reducible exact Ext.refl _ | with_reducible refine Ext.drewN ?_ _ | with_reducible refine Ext.drew ?_ | with_reducible refine Ext.alloc ?_ _ | (with_reducible refine Ext.setCell ?_ ?_ _; rotate_left; (first | exact Nat.le_refl _ | (dsimp only; omega) | (simp only [wsz]; omega))) | (with_reducible refine Ext.trans ?_ (by with_reducible assumption))))
  go_wp2_with fail
  go_loopw [3, 10] (fun sv iv wr => ∃ k : Nat, k ≤ tn.ps.length ∧ iv = .int .i64 k ∧ Own 1 EI wr (fun _ => False) w1.heap.size 3 sv ((tn.ps.take k).map Prod.fst) ∧ Ext w1 wr) (fun _ iv _ => tn.ps.length - (intOf iv).toNat)
  case atStart => exact ⟨0, Nat.zero_le _, rfl, Own.nil _ _ _ _, (by repeat (first | with_reducible assumption | with_reducible exact Ext.refl _ | with_reducible refine Ext.drewN ?_ _ | with_reducible refine Ext.drew ?_ | with_reducible refine Ext.alloc ?_ _ | (with_reducible refine Ext.setCell ?_ ?_ _; rotate_left; (first | exact Nat.le_refl _ | (dsimp only; omega) | (simp only [wsz]; omega))) | (with_reducible refine Ext.trans ?_ (by with_reducible assumption))))⟩
  case round =>
    obtain ⟨k, hk, rfl, hO, hxr⟩ := hrel
    have hsr := hxr.size
    by_cases hlt : k < tn.ps.length
    · obtain ⟨b, o, B', d', rfl, hX, hc0, hc1, hc2, hi, hN2⟩ := (h3.ext hxr).at_ hlt
      have hb := World.block_lt_of_cell? _ _ hc0
      have kl : (k : Int) < (tn.ps.length : Int) := by omega
      have hOa := hO.ext (Ext.alloc (Ext.refl wr) (.cells #[.int .i64 (pth tn.ps k).1, .bool (pth tn.ps k).2.neg, .slice B' (pth tn.ps k).2.mag.length d'] 69))
      have hrow := hO.row
      go_wp2_with (first
        | (at_builtin
           refine wpList_appi1 (g := wr.heap.size + 1) (y := (pth tn.ps k).1) (.tmp 14) (.tmp 17) (by simp) hOa (by simp; omega) (by simp; omega) rfl rfl rfl rfl ?_
           intro v4 w4 hO4 hg4)
        | fail)
      have hx4 : Ext w1 w4 := ((hxr.alloc _).alloc _).grown hg4 fun g hg => (hrow g hg).1
      rw [← fst_take _ _ hlt] at hO4
      go_roundw
      case rel => exact ⟨k + 1, by omega, by go_num, hO4, hx4⟩
      case measure => simp [intOf] <;> omega
    · obtain rfl : k = tn.ps.length := by omega
      rw [List.take_length, HN1.out] at hO
      obtain ⟨A4, c4, rfl, hj⟩ := Own.sl hO (by omega) (X := (w.heap.size ≤ ·)) (fun b hb => hb.elim False.elim fun h => by omega)
      go_wp2_with fail
      go_ret
      exact ⟨_, _, rfl, hj, hxw1.trans hxr⟩

end Go.Proofs.Ytbblgjjomgipfaa
