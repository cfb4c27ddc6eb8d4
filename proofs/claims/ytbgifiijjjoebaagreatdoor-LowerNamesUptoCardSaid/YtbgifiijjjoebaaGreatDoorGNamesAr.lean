/- riddle/syntax.shaped. No conditions. The elder contracts in the new words: limbs, numbers, parts, terms. No conditions. A law in the new words, called. No conditions. -/
import Derived.Test.YtbgifiijjjoebaaGreatDoorGNamesAo
import Derived.Test.YtbgifiijjjoebaaGreatDoorGNamesAq
namespace Go.Proofs.YtbgifiijjjoebaaGreatDoor
open Go.RowKit

def shC (k : Int) : List CV := match shp k with
 | some h => [.b h.name, .b h.names, .b h.number, .i .i64 h.least, .i .i64 h.most, .b h.inner, .b h.formula]
 | none => [.b false, .b false, .b false, .i .i64 0, .i .i64 0, .b false, .b false]
set_option maxHeartbeats 6400000 in
theorem shaped_v (k : Int) : Fn Tryz.prog 75 [.c (.i .i64 k)] (.t [.g (shC k), .c (.b (shp k).isSome)]) := by
 refine Fn.intro' Tryz.func75 [.cell 2 114, .tmp 3] 57 fun _ => ?_
 have hk : (k < 1 ∨ 22 < k) ∨ k = 1 ∨ k = 2 ∨ k = 3 ∨ k = 4 ∨ k = 5 ∨ k = 6 ∨ k = 7 ∨ k = 8 ∨ k = 9 ∨ k = 10 ∨ k = 11 ∨ k = 12 ∨ k = 13 ∨ k = 14 ∨ k = 15 ∨ k = 16 ∨ k = 17 ∨ k = 18 ∨ k = 19 ∨ k = 20 ∨ k = 21 ∨ k = 22 := by omega
 rcases hk with hk | rfl | rfl | rfl | rfl | rfl | rfl | rfl | rfl | rfl | rfl | rfl | rfl | rfl | rfl | rfl | rfl | rfl | rfl | rfl | rfl | rfl | rfl
 ·have e : shp k = none := by unfold shp; repeat (rw [if_neg (by omega)])
  have h : ∀ j : Int, 1 ≤ j → j ≤ 22 → ¬ k = j := fun j _ _ => by omega
  have h1 := h 1 (by decide) (by decide); have h2 := h 2 (by decide) (by decide); have h3 := h 3 (by decide) (by decide); have h4 := h 4 (by decide) (by decide); have h5 := h 5 (by decide) (by decide); have h6 := h 6 (by decide) (by decide); have h7 := h 7 (by decide) (by decide); have h8 := h 8 (by decide) (by decide)
  have h9 := h 9 (by decide) (by decide); have h10 := h 10 (by decide) (by decide); have h11 := h 11 (by decide) (by decide); have h12 := h 12 (by decide) (by decide); have h13 := h 13 (by decide) (by decide); have h14 := h 14 (by decide) (by decide); have h15 := h 15 (by decide) (by decide); have h16 := h 16 (by decide) (by decide)
  have h17 := h 17 (by decide) (by decide); have h18 := h 18 (by decide) (by decide); have h19 := h 19 (by decide) (by decide); have h20 := h 20 (by decide) (by decide); have h21 := h 21 (by decide) (by decide); have h22 := h 22 (by decide) (by decide)
  clear h hk; unfold shC; rw [e]
  (repeat first | refine hku ?_ | refine sw_seqk fun _ _ => ?_ | refine sw_reg ?_ | (refine sw_reg2 ?_; conv in reord _ => simp [reord, freeO]) | ((first | refine aops_k fun _ _ => ?_ | with_reducible refine rw_own ?_); simp [go_sem, h1, h2, h3, h4, h5, h6, h7, h8, h9, h10, h11, h12, h13, h14, h15, h16, h17, h18, h19, h20, h21, h22]; try go_ints) | refine sw_block ?_ | refine sw_t ?_ | refine sw_f ?_ | refine sw_e ?_ | refine ai ?_ | simp only [])
  simp [go_sem]
 all_goals
  (repeat first | refine hku ?_ | refine sw_seqk fun _ _ => ?_ | refine sw_reg ?_ | (refine sw_reg2 ?_; conv in reord _ => simp [reord, freeO]) | ((first | refine aops_k fun _ _ => ?_ | with_reducible refine rw_own ?_); simp [go_sem]; try go_ints) | refine sw_block ?_ | refine sw_t ?_ | refine sw_f ?_ | refine sw_e ?_ | refine ai ?_ | simp only [thn, inB])
  simp [go_sem, shC, shp]
end Go.Proofs.YtbgifiijjjoebaaGreatDoor

namespace Go.Proofs.YtbgifiijjjoebaaGreatDoor
open Go.RowKit

section
variable {α : Type} {E : World → (Nat → Prop) → List Value → α → Prop} {enc : α → List D} {sz : Nat} {w : World} {X : Nat → Prop} {A : Option Addr} {c : Nat} {l : List α}
theorem Sl.to_enc (hE : ∀ cs a, E w X cs a → ED w X cs (enc a)) (h : Sl sz E w X A c l) : Sl sz ED w X A c (l.map enc) := by
 refine ⟨by simpa using h.1, h.2.1, fun h0 => ?_, by simpa using h.2.2.2⟩; obtain ⟨b, o, h1, h2, h3⟩ := h.2.2.1 (by simpa using h0); refine ⟨b, o, h1, h2, fun i hi => ?_⟩; obtain ⟨cs, q1, q2, q3⟩ := h3 i (by simpa using hi); exact ⟨cs, q1, q2, by rw [List.getElem_map]; exact hE _ _ q3⟩
theorem Sl.of_enc (hE : ∀ cs a, ED w X cs (enc a) → E w X cs a) (h : Sl sz ED w X A c (l.map enc)) : Sl sz E w X A c l := by
 refine ⟨by simpa using h.1, h.2.1, fun h0 => ?_, by simpa using h.2.2.2⟩; obtain ⟨b, o, h1, h2, h3⟩ := h.2.2.1 (by simpa using h0); refine ⟨b, o, h1, h2, fun i hi => ?_⟩; obtain ⟨cs, q1, q2, q3⟩ := h3 i (by simpa using hi); exact ⟨cs, q1, q2, hE _ _ (by rw [List.getElem_map] at q3; exact q3)⟩
theorem Rp.of_enc {v : Value} (hsz : 0 < sz) (hlen : ∀ a, (enc a).length = sz) (hE : ∀ cs a, ED w X cs (enc a) → E w X cs a) (h : Rp w X v (.l (l.map enc))) : ∃ A c, v = .slice A l.length c ∧ Sl sz E w X A c l := by
 obtain ⟨A, c, sz', h0, rfl, hs, hl⟩ := Rp.sl h; refine ⟨A, c, by simp, ?_⟩
 cases l with
 | nil => exact Sl.nil _ _ _ _ hs.2.1
 | cons a r =>
  have : sz' = sz := by rw [← hl (enc a) (by simp), hlen]
  subst this; exact Sl.of_enc hE hs
theorem Rp.to_enc (hsz : 0 < sz) (hE : ∀ cs a, E w X cs a → ED w X cs (enc a)) (h : Sl sz E w X A c l) : Rp w X (.slice A l.length c) (.l (l.map enc)) := by
 have := Rp.of_sl hsz (Sl.to_enc hE h)
 rwa [List.length_map] at this
end
section
variable {P : Program} {w : World} {X : Nat → Prop}
theorem ed_u {cs : List Value} {x : Nat} : ED w X cs [.i .u32 (x : Int)] ↔ EU w X cs x := by
 constructor
 ·intro h
  cases h with
  | cons h1 h2 =>
   cases h2
   cases h1 with
   | i h1 h2 =>
    have h2 := h2; simp only [z_min] at h2; exact ⟨rfl, by omega⟩
 ·rintro ⟨rfl, h⟩; exact .cons (.i (by simp only [z_min]; omega) (by simp only [z_min]; omega)) .nil
theorem rp_n {v : Value} {l : List Nat} : Rp w X v (.l (dN l)) ↔ ∃ A c, v = .slice A l.length c ∧ Nl w X A c l := by
 constructor
 ·exact fun h => Rp.of_enc (sz := 1) (by omega) (fun _ => rfl) (fun _ _ h => ed_u.1 h) h
 ·rintro ⟨A, c, rfl, h⟩; exact Rp.to_enc (by omega) (fun _ _ h => ed_u.2 h) h
theorem ed_z {cs : List Value} {z : Z} : ED w X cs (dZ z) ↔ ∃ A c, cs = [.bool z.neg, .slice A z.mag.length c] ∧ Nl w X A c z.mag := by
 constructor
 ·intro h
  cases h with
  | cons h1 h2 =>
   cases h2 with
   | cons h2 h3 =>
    cases h3
    cases h1
    obtain ⟨A, c, rfl, h⟩ := rp_n.1 h2; exact ⟨A, c, rfl, h⟩
 ·rintro ⟨A, c, rfl, h⟩; exact .cons .b (.cons (rp_n.2 ⟨A, c, rfl, h⟩) .nil)
theorem agg_list {vs : Array Value} {l : List Value} (h : vs.toList = l) : Value.agg vs = .agg l.toArray := by rw [← h]
theorem relD_z {v : Value} {z : Z} : RelD w X v (.g (dZ z)) ↔ Zi w X v z := by
 constructor
 ·rintro ⟨vs, rfl, h⟩; obtain ⟨A, c, e, h⟩ := ed_z.1 h; exact ⟨A, c, agg_list e, h⟩
 ·rintro ⟨A, c, rfl, h⟩; exact ⟨_, rfl, ed_z.2 ⟨A, c, rfl, h⟩⟩
def cAns (X : Nat → Prop) (w w' : World) : Cx := ⟨fun _ => 0, fun _ => undef, fun b => X b ∨ w.heap.size ≤ b ∧ b < w'.heap.size, w.heap.size⟩
theorem fn1 {f : FuncId} {a : AD} {r : SV} (h : ∀ w X v, RelD w X v a → Calls P f #[v] w fun e w' => ∃ u, e = .returned u ∧ RelR (cAns X w w') [] w' u r ∧ Ext w w') : Fn P f [a] r := fun w X vs _ _ ha => by
 obtain ⟨l, rfl⟩ : ∃ l : List Value, vs = l.toArray := ⟨vs.toList, by simp⟩
 cases ha with
 | cons h1 h2 =>
  cases h2
  exact (h w X _ h1).mono fun e w' ⟨u, h3, h4, h5⟩ => ⟨u, h3, h5, h4⟩
end

end Go.Proofs.YtbgifiijjjoebaaGreatDoor

namespace Go.Proofs.YtbgifiijjjoebaaGreatDoor
open Go.RowKit

theorem RelD.all {w : World} {X : Nat → Prop} {v : Value} {d : AD} (h : RelD w X v d) : RelD w (· < w.heap.size) v d := by
 cases d with
 | c d => exact Rp.widen h fun b _ hb => hb
 | g ds =>
  obtain ⟨vs, e, h⟩ := h; exact ⟨vs, e, forall2_mono (fun _ _ h => Rp.widen h fun b _ hb => hb) h⟩
theorem law_of {P : Program} {f : FuncId} {w : World} {ads : List AD} {vs : List Value} (h : Fn P f ads (.c (.b true))) (hl : Lay w) (ha : F2 (fun v d => ∃ X, RelD w X v d) vs ads) : Calls P f vs.toArray w fun e w' => e = .returned (.bool true) ∧ Ext w w' :=
 (h w (· < w.heap.size) vs.toArray hl (fun _ h => h) (by rw [List.toList_toArray]; exact forall2_mono (fun _ _ ⟨_, h⟩ => h.all) ha)).mono fun _ _ ⟨v, e, hx, hr⟩ => ⟨by rw [e]; exact congrArg _ hr, hx⟩
end Go.Proofs.YtbgifiijjjoebaaGreatDoor
