/- slices.Clone of parts. No conditions. -/
import Derived.Test.YtbblgjjomgipfaaPut
namespace Go.Proofs.Ytbblgjjomgipfaa
open Go.RowKit

section
variable {α β : Type} {sz : Nat} {E : World → (Nat → Prop) → List Value → α → Prop} {E' : World → (Nat → Prop) → List Value → β → Prop}
theorem Sl.conv {w : World} {X Y : Nat → Prop} {A : Option Addr} {c : Nat} {l : List α} (f : α → β) (h : Sl sz E w X A c l) (hX : ∀ b, X b → Y b) (hE : ∀ cs, ∀ a ∈ l, E w X cs a → E' w Y cs (f a)) : Sl sz E' w Y A c (l.map f) := by
  refine ⟨by rw [List.length_map]; exact h.1, h.2.1, fun h0 => ?_, by rw [List.length_map]; exact h.2.2.2⟩
  obtain ⟨b, o, hA, hXb, hi⟩ := h.2.2.1 (by simpa using h0)
  refine ⟨b, o, hA, hX _ hXb, fun i hl => ?_⟩
  rw [List.length_map] at hl
  obtain ⟨cs, h1, h2, h3⟩ := hi i hl
  refine ⟨cs, h1, h2, ?_⟩
  rw [List.getElem_map]
  exact hE cs _ (List.getElem_mem hl) h3
theorem Own.conv {w : World} {Z1 Z2 : Nat → Prop} {base : Nat} {e : TypeId} {v : Value} {l : List α} (f : α → β) (h : Own sz E w Z1 base e v l) (hE : ∀ cs, ∀ a ∈ l, E w (fun b => Z1 b ∧ v.ownBlock ≠ some b) cs a → E' w (fun b => Z2 b ∧ v.ownBlock ≠ some b) cs (f a)) : Own sz E' w Z2 base e v (l.map f) := by
  obtain ⟨xs, h1, h2⟩ := h
  refine ⟨xs, by rw [List.length_map]; exact h1, by rw [List.length_map]; exact h2.1, fun i hi => ?_⟩
  rw [List.length_map] at hi
  rw [List.getElem_map]
  exact hE _ _ (List.getElem_mem hi) (h2.2 i hi)
theorem Fl.conv {w : World} {X Y : Nat → Prop} {xs : List Value} {l : List α} (f : α → β) (h : Fl sz E w X xs l) (hE : ∀ cs, ∀ a ∈ l, E w X cs a → E' w Y cs (f a)) : Fl sz E' w Y xs (l.map f) := by
  refine ⟨by rw [List.length_map]; exact h.1, fun i hi => ?_⟩
  rw [List.length_map] at hi
  rw [List.getElem_map]
  exact hE _ _ (List.getElem_mem hi) (h.2 i hi)
end

/-- A part whose limbs are new, or not yet. -/
def EPF (base : Nat) (w : World) (X : Nat → Prop) (cs : List Value) (a : Bool × (Int × Z)) : Prop := EP w (fun c => X c ∧ (a.1 = true → base ≤ c)) cs a.2
instance (base : Nat) : Stab (EPF base) :=
  ⟨fun h k => Stab.keep (E := EP) h fun b hb hl => k b hb.1 hl, fun h k => Stab.widen (E := EP) h fun b hb hl => ⟨k b hb.1 hl, hb.2⟩, fun h => Stab.one (E := EP) h⟩

set_option maxHeartbeats 400000 in
theorem clonep_c {A : Option Addr} {c : Nat} {l : List (Int × Z)} {w : World} {X : Nat → Prop} (h : Pl w X A c l) (hL : l.length ≤ 2199023255552) :
    Calls Try.prog 62 #[.slice A l.length c] w fun e w' => ∃ v', e = .returned v' ∧ Own 3 EP w' (fun b => X b ∧ b < w.heap.size) w.heap.size 69 v' l ∧ Spp w' v' ∧ Ext w w' := by
  have hn := fun (W : World) (A : Option Addr) (n c : Nat) => Lib.run_eql_slice_nil (P := Try.prog) W 22 69 A n c 0 0 Try.underlying22
  cases A with
  | none =>
    have h0 : l = [] := by
      rcases Nat.eq_zero_or_pos l.length with h0 | h0
      · exact List.eq_nil_of_length_eq_zero h0
      · obtain ⟨b, o, hA, _⟩ := h.2.2.1 h0
        cases hA
    subst h0
    go_enter Try.func62, Try.ntmps62
    go_wp2
    go_ret
    exact ⟨_, rfl, Own.nil _ _ _ _, Spz.nil _ _ _, Ext.refl _⟩
  | some ad =>
    have h1 : Pl w (fun b => X b ∧ b < w.heap.size) (some ad) c l := h.widen fun b hb hl => ⟨hb, hl⟩
    obtain ⟨xs, hf, hc⟩ := (h1.keep ((Kp.refl w).alloc (.cells #[] 69))).flat
    have hf2 : Fl 3 EP (w.alloc (.cells #[] 69)) (fun b => (X b ∧ b < w.heap.size) ∧ Value.ownBlock (.slice (some ⟨w.heap.size, 0, none⟩) 0 0) ≠ some b) xs l :=
      hf.widen fun b hb _ => ⟨hb, fun e => by injection e with e; simp only at e; omega⟩
    go_enter Try.func62, Try.ntmps62
    go_wp2_with (first
      | (at_builtin
         refine wpList_appz ety_p (.tmp 5) (.tmp 6) (base := w.heap.size) (Z := fun b => X b ∧ b < w.heap.size) (Own.empty w _ _ (Nat.le_refl _)) (Spz.empty _ _ _ _) hf2 (fun h0 => (hc h0).imp fun b h => h.imp fun o h => ⟨h.1, h.2.2⟩) (by simp; omega) (by simp [maxLen]; omega) (by simp) rfl rfl rfl rfl ?_
         intro v1 w2 hown hsp hg hat))
    go_ret
    exact ⟨v1, rfl, by simpa using hown, hsp, ((Ext.refl w).alloc _).grown hg (by simp [Value.ownBlock])⟩

theorem zero_zi (w : World) (X : Nat → Prop) : Zi w X (.agg #[.bool false, .slice none 0 0]) ⟨false, []⟩ := ⟨none, 0, rfl, Sl.nil0 _ _ _⟩
theorem zero_tv (w : World) (X : Nat → Prop) : Tv w X (.agg #[.slice none 0 0, .bool false, .slice none 0 0]) ⟨[], ⟨false, []⟩⟩ := ⟨none, 0, none, 0, rfl, Sl.nil0 _ _ _, Sl.nil0 _ _ _⟩

theorem Own.adr {α : Type} {sz : Nat} {E : World → (Nat → Prop) → List Value → α → Prop} {w : World} {Zp : Nat → Prop} {base g o n c : Nat} {e : TypeId} {l : List α} (h : Own sz E w Zp base e (.slice (some ⟨g, o, none⟩) n c) l) :
    o = 0 ∧ n = l.length ∧ base ≤ g ∧ g < w.heap.size := by
  obtain ⟨xs, h1, _⟩ := h
  rcases h1.2 with ⟨hv, _⟩ | ⟨g', cap', cur, hv, hb, hg, _⟩
  · cases hv
  · injection hv with e1 e2 e3
    injection e1 with e1
    injection e1 with e1 e4
    subst e1
    exact ⟨e4, e2, hb, lt_of_some hg⟩
theorem Own.frz {α : Type} {sz : Nat} {E : World → (Nat → Prop) → List Value → α → Prop} {w : World} {Zp : Nat → Prop} {base g n c : Nat} {e : TypeId} {l : List α} (h : Own sz E w Zp base e (.slice (some ⟨g, 0, none⟩) n c) l) (o : Nat) :
    w.frozen? ⟨g, o, none⟩ = false := by
  have hn := h.adr.2.1
  subst hn
  obtain ⟨xs, h1, _⟩ := h
  exact h1.frozenAt o
/-- Done up to k. -/
def flg (l : List (Int × Z)) (k : Nat) : List (Bool × (Int × Z)) := (l.take k).map (fun p => (true, p)) ++ (l.drop k).map fun p => (false, p)
theorem flg_len (l : List (Int × Z)) (k : Nat) : (flg l k).length = l.length := by
  rw [flg, List.length_append, List.length_map, List.length_map, List.length_take, List.length_drop]; omega
theorem flg_snd (l : List (Int × Z)) (k : Nat) : (flg l k).map Prod.snd = l := by
  rw [flg, List.map_append, List.map_map, List.map_map]
  show (l.take k).map id ++ (l.drop k).map id = l
  rw [List.map_id, List.map_id, List.take_append_drop]
theorem flg_get (l : List (Int × Z)) (k : Nat) (h : k < l.length) : (flg l k)[k]'(by rw [flg_len]; exact h) = (false, pth l k) := by
  simp only [flg]
  rw [List.getElem_append_right (by simp; omega)]
  simp [pth_eq l k h, Nat.min_eq_left (Nat.le_of_lt h)]
theorem flg_set (l : List (Int × Z)) (k : Nat) (h : k < l.length) : (flg l k).set k (true, pth l k) = flg l (k + 1) := by
  unfold flg
  rw [List.set_append_right _ _ (by simp; omega), take_pth l k h, drop_pth l k h]
  simp [Nat.min_eq_left (Nat.le_of_lt h)]

theorem step_norm {w W wr w4 : World} {v : Value} {b o1 o2 : Nat} {u1 u2 : Value} (kp : Kp (fun c => v.ownBlock ≠ some c) W wr) (hx : Ext w w4) (hxx : Ext wr w4) (hsr : W.heap.size ≤ wr.heap.size) (hv : v.ownBlock = some b) (hb : w.heap.size ≤ b) :
    Kp (fun c => v.ownBlock ≠ some c) W ((w4.setCell ⟨b, o1, none⟩ u1).setCell ⟨b, o2, none⟩ u2) ∧ Ext w ((w4.setCell ⟨b, o1, none⟩ u1).setCell ⟨b, o2, none⟩ u2) ∧ W.heap.size ≤ ((w4.setCell ⟨b, o1, none⟩ u1).setCell ⟨b, o2, none⟩ u2).heap.size :=
  ⟨((kp.ext hxx).setCell (fun h => h hv) _).setCell (fun h => h hv) _, (hx.setCell hb _).setCell hb _, by simp only [World.size_setCell]; exact Nat.le_trans hsr hxx.size⟩
theorem own_norm {w : World} {B base b n c k : Nat} {l : List (Int × Z)} {B4 : Option Addr} {d4 : Nat} (h : Own 3 (EPF B) w (fun _ => True) base 69 (.slice (some ⟨b, 0, none⟩) n c) (flg l k)) (hlt : k < l.length)
    (hN : Nl w (fun c => B ≤ c ∧ c ≠ b) B4 d4 (pth l k).2.mag) :
    Own 3 (EPF B) ((w.setCell ⟨b, k * 3 + 1, none⟩ (.bool (pth l k).2.neg)).setCell ⟨b, k * 3 + 2, none⟩ (.slice B4 (pth l k).2.mag.length d4)) (fun _ => True) base 69 (.slice (some ⟨b, 0, none⟩) n c) (flg l (k + 1)) := by
  have hkl : k < (flg l k).length := by rw [flg_len]; exact hlt
  have hg := flg_get l k hlt
  have p1 := Own.put h (k := k) (r := 1) (u := .bool (pth l k).2.neg) (a' := (false, pth l k)) hkl (by omega) (by
    rw [hg]
    rintro cs ⟨A', c', rfl, hi', hN'⟩ _
    exact ⟨A', c', rfl, hi', hN'⟩)
  have e1 : (flg l k).set k (false, pth l k) = flg l k := by rw [← hg]; exact List.set_getElem_self _
  rw [e1] at p1
  have p2 := Own.put p1 (k := k) (r := 2) (u := .slice B4 (pth l k).2.mag.length d4) (a' := (true, pth l k)) hkl (by omega) (by
    rw [hg]
    rintro cs ⟨A', c', rfl, hi', hN'⟩ _
    refine ⟨B4, d4, rfl, hi', ?_⟩
    exact (hN.keep ((Kp.refl _).setCell (fun h => h.2 rfl) _)).widen fun c hc _ => ⟨⟨trivial, hc.2⟩, fun _ => hc.1⟩)
  rw [flg_set l k hlt] at p2
  exact p2

end Go.Proofs.Ytbblgjjomgipfaa
