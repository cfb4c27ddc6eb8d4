/- slices.Backward at numbers: what it hands back goes through a row from its end. No conditions. -/
import Derived.RangeFuncNested
import Derived.RangeFuncBound
import Derived.RangeFuncCalls
import Derived.RangeFuncLeaves
import Derived.Shelf.Abstract
import Derived.Shelf.RegionOpen
import Derived.WalkKit
import Derived.OwnWalkIn
import Derived.TacticsInMore
import Derived.LoopNIn
import Derived.LoopIn
import Derived.Test.YtbblgjjomgipfaaGreatNext
import Derived.Test.YtbblgjjomgipfaaGreatCnt0
namespace Go.Proofs.YtbblgjjomgipfaaGreat
open Go.RowKit Go.Shelf
attribute [local go_sem] Oper.semAt_some

/-- What lies in blocks of R is as it was. -/
def KpR (R : Nat → Prop) (w w' : World) : Prop := ∀ b, R b → w'.heap[b]? = w.heap[b]?
theorem KpR.refl {R : Nat → Prop} (w : World) : KpR R w w := fun _ _ => rfl
theorem KpR.trans {R : Nat → Prop} {a b c : World} (h : KpR R a b) (k : KpR R b c) : KpR R a c := fun i hi => (k i hi).trans (h i hi)
/-- The indices, from the last one on, j of them. -/
def bks (n j : Nat) : List Nat := (List.range j).map fun i => n - 1 - i
theorem bks_succ (n j : Nat) : bks n (j + 1) = bks n j ++ [n - 1 - j] := by simp [bks, List.range_succ]
theorem bks_len (n j : Nat) : (bks n j).length = j := by simp [bks]

/-- A number with where its limbs lie. -/
def encB (l : List Z) (Bf : Nat → Option Addr) (df : Nat → Nat) (k : Nat) : Array Value := #[.int .i64 (k : Nat), .agg #[.bool (zth l k).neg, .slice (Bf k) (zth l k).mag.length (df k)]]

set_option maxHeartbeats 400000 in
theorem backward_c (A : Option Addr) (n c : Nat) (w : World) :
    Calls Tryz.prog 56 #[.slice A n c] w fun e w' => e = .returned (.func (.func 87) #[] #[.pointer (some ⟨w.heap.size, 0, none⟩)]) ∧ w' = w.alloc (.cells #[.slice A n c] 41) := by
  go_enter Tryz.func56, Tryz.ntmps56
  go_wp2_with fail
  go_ret
  exact ⟨rfl, rfl⟩

set_option maxRecDepth 100000 in
set_option maxHeartbeats 2000000 in
theorem back_stops {w0 : World} {bb c m : Nat} {A : Option Addr} {l : List Z} {Bf : Nat → Option Addr} {df : Nat → Nat} {R : Nat → Prop} (hm : 1 ≤ m) (hR : ∀ b, R b → b < w0.heap.size) (hb : R bb) (hbox : w0.cell? ⟨bb, 0, none⟩ = some (.slice A l.length c)) (hll : l.length ≤ 1099511627776)
    (hc : ∀ k, k < l.length → ∃ b o, A = some ⟨b, o, none⟩ ∧ R b ∧ w0.cell? ⟨b, o + k * 2, none⟩ = some (.bool (zth l k).neg) ∧ w0.cell? ⟨b, o + k * 2 + 1, none⟩ = some (.slice (Bf k) (zth l k).mag.length (df k))) :
    SeqStopsK Fence.wide m Tryz.prog 87 #[.pointer (some ⟨bb, 0, none⟩)] (encB l Bf df) (KpR R) (fun ys => ys = bks l.length l.length) (fun _ => True) l.length w0 := fun lp J Jx W hW _ _ hY h0 => by
  have hkW : KpR R w0 W := fun b hb => Below.block hW b (hR b hb)
  have hbox' : W.cell? ⟨bb, 0, none⟩ = some (.slice A l.length c) := (World.cell?_of_block (a := ⟨bb, 0, none⟩) (hkW bb hb)).trans hbox
  have hc' : ∀ k, k < l.length → ∃ b o, A = some ⟨b, o, none⟩ ∧ R b ∧ W.cell? ⟨b, o + k * 2, none⟩ = some (.bool (zth l k).neg) ∧ W.cell? ⟨b, o + k * 2 + 1, none⟩ = some (.slice (Bf k) (zth l k).mag.length (df k)) := fun k hk => by
    obtain ⟨b, o, h1, h2, h3, h4⟩ := hc k hk
    exact ⟨b, o, h1, h2, (World.cell?_of_block (a := ⟨b, o + k * 2, none⟩) (hkW b h2)).trans h3, (World.cell?_of_block (a := ⟨b, o + k * 2 + 1, none⟩) (hkW b h2)).trans h4⟩
  have hbl := World.block_lt_of_cell? _ _ hbox'
  have HC := Lib.hid hc'
  clear hc hc' hbox hkW hW
  refine callsIn_of_wp Tryz.func87 rfl trivial ?_ rfl
  simp only [Tryz.ntmps87, List.size_toArray, List.length_cons, List.length_nil, Nat.reduceAdd, Nat.reduceSub, Array.replicate_succ, Array.replicate_zero, List.push_toArray, List.append_toArray, List.nil_append, List.cons_append]
  have w1 : IntKind.i64.wrap ((l.length : Int) - 1) = (l.length : Int) - 1 := w64 ⟨by omega, by omega⟩
  gi_wp2
  gi_loopw [3] (fun iv wr => ∃ j : Nat, j ≤ l.length ∧ iv = .int .i64 ((l.length : Int) - 1 - j) ∧ J (bks l.length j) wr ∧ KpR R W wr) (fun iv _ => ((intOf iv) + 1).toNat)
  case atStart => exact ⟨0, Nat.zero_le _, by simp, h0, KpR.refl _⟩
  case round =>
    obtain ⟨j, hj, rfl, hJ, hkp⟩ := hrel
    by_cases hlt : j < l.length
    · obtain ⟨k, hk⟩ : ∃ k, k = l.length - 1 - j := ⟨_, rfl⟩
      have hki : (l.length : Int) - 1 - j = (k : Nat) := by omega
      obtain ⟨b, o, rfl, hRb, q0, q1⟩ := HC.out k (by omega)
      have p0 := (World.cell?_of_block (a := ⟨b, o + k * 2, none⟩) (hkp b hRb)).trans q0
      have p1 := (World.cell?_of_block (a := ⟨b, o + k * 2 + 1, none⟩) (hkp b hRb)).trans q1
      have p2 := (World.cell?_of_block (a := ⟨bb, 0, none⟩) (hkp bb hb)).trans hbox'
      have pl := World.block_lt_of_cell? _ _ p0
      have pl2 := World.block_lt_of_cell? _ _ p2
      have kl : (k : Int) < (l.length : Int) := by omega
      have hs1 : IntKind.i64.wrap ((k : Int) - 1) = (k : Int) - 1 := w64 ⟨by omega, by omega⟩
      rw [hki]
      obtain ⟨fn, tmps, assign, body, hy, hRd⟩ := hY _ k wr hJ (by rw [bks_len]; exact hlt)
      unfold encB at hy
      have HK := Lib.hid hk
      clear q0 q1 hki hk
      gi_wp2
      refine hRd.mono ?_
      rintro e W3 (⟨rfl, hJ3, hk3⟩ | ⟨rfl, hJx3⟩)
      · gi_wp2
        go_roundw
        case rel => exact ⟨j + 1, by omega, by congr 1; have := HK.out; omega, by rw [bks_succ, ← HK.out]; exact hJ3, hkp.trans hk3⟩
        case measure => have := HK.out; simp [intOf] <;> omega
      · gi_wp2
        refine bodyPost_ret (results_none rfl _ _ _) rfl ?_
        exact ⟨⟨_, rfl⟩, .inr ⟨_, trivial, hJx3⟩⟩
    · obtain rfl : j = l.length := by omega
      have hneg : ¬ (0 : Int) ≤ (l.length : Int) - 1 - (l.length : Nat) := by omega
      gi_wp2
      go_end0
      exact ⟨⟨_, rfl⟩, .inl hJ⟩

end Go.Proofs.YtbblgjjomgipfaaGreat
