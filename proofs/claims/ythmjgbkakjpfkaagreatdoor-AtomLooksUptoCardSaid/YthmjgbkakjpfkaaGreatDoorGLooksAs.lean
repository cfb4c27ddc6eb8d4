/- Rows of parts of the call's own. No conditions. Rows of parts, and rows that are written. No conditions. slices.Clone of parts. No conditions. copy(l[k+1:], l[k:]) in a row of the call's own. No conditions. slices.IndexFunc at values, and what Eval hands it. No conditions. slices.DeleteFunc at parts, and what Without hands it. No conditions. riddleref05.laid. No conditions. -/
import Derived.Test.YthmjgbkakjpfkaaGreatDoorGLooksAd
import Derived.Test.YthmjgbkakjpfkaaGreatDoorGLooksAg
import Derived.Test.YthmjgbkakjpfkaaGreatDoorGLooksAr
import Derived.Test.YthmjgbkakjpfkaaGreatDoorGLooksAc
import Derived.Test.YthmjgbkakjpfkaaGreatDoorGLooksAa
import Derived.Shelf.Abstract
import Derived.Test.YthmjgbkakjpfkaaGreatDoorGLooksAk
namespace Go.Proofs.YthmjgbkakjpfkaaGreatDoor
open Go.RowKit

abbrev El := (Int × Z) × (Option Addr × Nat)
def encP (x : El) : List Value := [.int .i64 x.1.1, .bool x.1.2.neg, .slice x.2.1 x.1.2.mag.length x.2.2]
instance : Inhabited El := ⟨((0, ⟨false, []⟩), (none, 0))⟩
def ElOk (w : World) (X : Nat → Prop) (x : El) : Prop := i64 x.1.1 ∧ Nl w X x.2.1 x.2.2 x.1.2.mag

theorem fl_els {w : World} {X : Nat → Prop} : ∀ {l : List (Int × Z)} {xs : List Value}, Fl 3 EP w X xs l → ∃ els : List El, els.map Prod.fst = l ∧ xs = els.flatMap encP ∧ ∀ x ∈ els, ElOk w X x
  | [], xs, h => ⟨[], rfl, by have := h.1; simp at this; simp [this], by simp⟩
  | p :: l, xs, h => by
    obtain ⟨A, c, h1, h2, h3⟩ := h.2 0 (by simp)
    simp only [Nat.zero_mul, List.drop_zero, List.getElem_cons_zero] at h1 h2 h3
    have hlen : xs.length = 3 + l.length * 3 := by rw [h.1, List.length_cons, Nat.add_mul]; omega
    obtain ⟨els, e1, e2, e3⟩ := fl_els (l := l) (xs := xs.drop 3) ⟨by rw [List.length_drop]; omega, fun i hi => by
      have := h.2 (i + 1) (by simp; omega)
      rw [List.drop_drop]
      rw [Nat.add_mul, Nat.one_mul, Nat.add_comm] at this
      exact this⟩
    refine ⟨((p.1, p.2), (A, c)) :: els, by simp [e1], ?_, fun x hx => ?_⟩
    · rw [List.flatMap_cons, ← e2]
      show xs = [.int .i64 p.1, .bool p.2.neg, .slice A p.2.mag.length c] ++ xs.drop 3
      rw [← h1, List.take_append_drop]
    · rcases List.mem_cons.1 hx with rfl | hx
      · exact ⟨h2, h3⟩
      · exact e3 x hx
theorem fl_of_els {w : World} {X : Nat → Prop} : ∀ {els : List El}, (∀ x ∈ els, ElOk w X x) → Fl 3 EP w X (els.flatMap encP) (els.map Prod.fst)
  | [], _ => Fl.nil _ _
  | x :: els, h => by
    have h1 := fl_of_els (els := els) fun y hy => h y (by simp [hy])
    obtain ⟨h2, h3⟩ := h x (by simp)
    have h4 : Fl 3 EP w X (encP x) [x.1] := Fl.one ⟨x.2.1, x.2.2, rfl, h2, h3⟩ rfl
    have := h4.append h1
    simpa using this
theorem flat_at : ∀ (els : List El) (t : Nat), (els.flatMap encP)[t]? = if t < els.length * 3 then some (encP els.toArray[t / 3]!)[t % 3]! else none
  | [], t => by simp
  | x :: els, t => by
    rw [List.flatMap_cons]
    have hl : (encP x).length = 3 := rfl
    by_cases h : t < 3
    · rw [List.getElem?_append_left (by omega), if_pos (by simp; omega)]
      have h1 : t / 3 = 0 := by omega
      have h2 : t % 3 = t := by omega
      rw [h1, h2]
      simp only [List.size_toArray, List.length_cons, Nat.zero_lt_succ, getElem!_pos, List.getElem_toArray, List.getElem_cons_zero]
      rw [List.getElem?_eq_getElem (by omega), getElem!_pos (encP x) t (by omega)]
    · rw [List.getElem?_append_right (by omega), hl, flat_at els (t - 3)]
      have e1 : t / 3 = (t - 3) / 3 + 1 := by omega
      have e2 : t % 3 = (t - 3) % 3 := by omega
      rw [e1, e2]
      by_cases h3 : t - 3 < els.length * 3
      · rw [if_pos h3, if_pos (by simp; omega)]
        have h4 : (t - 3) / 3 < els.length := by omega
        congr 2
        rw [getElem!_pos els.toArray _ (by simpa using h4), getElem!_pos (x :: els).toArray _ (by simp; omega)]
        simp
      · rw [if_neg h3, if_neg (by simp; omega)]

theorem wpList_appp1 {w : World} {ops : Array Oper} {rest : List Oper} {o : Oper} {a : Act} {Q : Exit → Act → World → Prop} (s x : Operand) {Zp : Nat → Prop} {base : Nat} {v : Value} {l : List (Int × Z)} {p : Int} {z : Z} {A : Option Addr} {c : Nat}
    (h : Own 3 EP w Zp base 37 v l) (hi : i64 p) (hN : Nl w (fun b => Zp b ∧ v.ownBlock ≠ some b) A c z.mag) (hl : l.length ≤ 2199023255552) (hbase : base ≤ w.heap.size)
    (hgd : o.guard = none) (ho : o.op = .call { callee := .builtin .append, args := #[s, x], argTypes := #[25, 25] }) (hs : a.eval s = v) (hx : a.eval x = .slice (some ⟨w.heap.size, 0, none⟩) 1 1)
    (H : ∀ v' w', Own 3 EP w' Zp base 37 v' (l ++ [(p, z)]) → (w.alloc (.cells #[.int .i64 p, .bool z.neg, .slice A z.mag.length c] 37)).grownBy w' v.ownBlock →
      (v'.ownBlock = v.ownBlock ∨ v'.ownBlock = some (w.heap.size + 1)) → wpList Tryz.prog ops Q rest (a.put o.dst v') w') :
    wpList Tryz.prog ops Q (o :: rest) a (w.alloc (.cells #[.int .i64 p, .bool z.neg, .slice A z.mag.length c] 37)) := by
  refine wpList_app (m := [(p, z)]) ety_p s x (Own.ext h ((Ext.refl w).alloc _)) (Fl.one (cs := [.int .i64 p, .bool z.neg, .slice A z.mag.length c]) ⟨A, c, rfl, hi, hN.ext ((Ext.refl w).alloc _)⟩ rfl) (fun _ => ⟨_, _, rfl, fun j u hu => ?_⟩) ?_ ?_ ?_ hgd ho hs hx fun v' w' h1 h2 h3 => H v' w' h1 h2 (by simpa using h3)
  · rw [World.cell?_alloc_at (hn := rfl)]
    match j, hu with
    | 0, hu => simpa using hu
    | 1, hu => simpa using hu
    | 2, hu => simpa using hu
  · simp only [List.length_cons, List.length_nil]; omega
  · simp only [List.length_cons, List.length_nil, maxLen]; omega
  · simp only [World.size_alloc]; omega

abbrev Spp (w : World) (v : Value) : Prop := Spz 3 (.agg #[.int .i64 0, .bool false, .slice none 0 0]) w v
theorem wpList_apppz {w : World} {ops : Array Oper} {rest : List Oper} {o : Oper} {a : Act} {Q : Exit → Act → World → Prop} (s x : Operand) {Zp : Nat → Prop} {base : Nat} {v : Value} {l : List (Int × Z)} {p : Int} {z : Z} {A : Option Addr} {c : Nat}
    (h : Own 3 EP w Zp base 37 v l) (hsp : Spp w v) (hi : i64 p) (hN : Nl w (fun b => Zp b ∧ v.ownBlock ≠ some b) A c z.mag) (hl : l.length ≤ 2199023255552) (hbase : base ≤ w.heap.size)
    (hgd : o.guard = none) (ho : o.op = .call { callee := .builtin .append, args := #[s, x], argTypes := #[25, 25] }) (hs : a.eval s = v) (hx : a.eval x = .slice (some ⟨w.heap.size, 0, none⟩) 1 1)
    (H : ∀ v' w', Own 3 EP w' Zp base 37 v' (l ++ [(p, z)]) → Spp w' v' → (w.alloc (.cells #[.int .i64 p, .bool z.neg, .slice A z.mag.length c] 37)).grownBy w' v.ownBlock →
      (v'.ownBlock = v.ownBlock ∨ v'.ownBlock = some (w.heap.size + 1)) → wpList Tryz.prog ops Q rest (a.put o.dst v') w') :
    wpList Tryz.prog ops Q (o :: rest) a (w.alloc (.cells #[.int .i64 p, .bool z.neg, .slice A z.mag.length c] 37)) := by
  refine wpList_appz (m := [(p, z)]) ety_p s x (Own.ext h ((Ext.refl w).alloc _)) (hsp.ext (fun k hk => (h.row k hk).2) ((Ext.refl w).alloc _)) (Fl.one (cs := [.int .i64 p, .bool z.neg, .slice A z.mag.length c]) ⟨A, c, rfl, hi, hN.ext ((Ext.refl w).alloc _)⟩ rfl) (fun _ => ⟨_, _, rfl, fun j u hu => ?_⟩) ?_ ?_ ?_ hgd ho hs hx fun v' w' h1 h4 h2 h3 => H v' w' h1 h4 h2 (by simpa using h3)
  · rw [World.cell?_alloc_at (hn := rfl)]
    match j, hu with
    | 0, hu => simpa using hu
    | 1, hu => simpa using hu
    | 2, hu => simpa using hu
  · simp only [List.length_cons, List.length_nil]; omega
  · simp only [List.length_cons, List.length_nil, maxLen]; omega
  · simp only [World.size_alloc]; omega

def TvF (w : World) (B : Nat) (r : Value) (t : T) : Prop :=
  ∃ A c C d, r = .agg #[.slice A t.ps.length c, .bool t.k.neg, .slice C t.k.mag.length d] ∧ Own 3 EP w (B ≤ ·) B 37 (.slice A t.ps.length c) t.ps ∧ Spp w (.slice A t.ps.length c) ∧ Nl w (B ≤ ·) C d t.k.mag
theorem TvF.tv {w : World} {B : Nat} {r : Value} {t : T} (h : TvF w B r t) : Tv w (B ≤ ·) r t := by
  obtain ⟨A, c, C, d, rfl, hO, _, hN⟩ := h
  obtain ⟨A', c', e, hs⟩ := Own.sl hO (by omega) (X := (B ≤ ·)) (fun b hb => hb.elim id id)
  injection e with e1 e2 e3
  subst e1; subst e3
  exact ⟨A, c, C, d, rfl, hs, hN⟩
theorem TvF.keep {w w' : World} {B : Nat} {r : Value} {t : T} (h : TvF w B r t) (k : Kp (B ≤ ·) w w') : TvF w' B r t := by
  obtain ⟨A, c, C, d, rfl, hO, hS, hN⟩ := h
  have hrow := hO.row
  exact ⟨A, c, C, d, rfl, hO.keep (k.imp fun b hb => hb.elim id fun e => (hrow b e).1), hS.keep (fun b e => (hrow b e).2) (k.imp fun b e => (hrow b e).1), hN.keep k⟩
theorem TvF.ext {w w' : World} {B : Nat} {r : Value} {t : T} (h : TvF w B r t) (k : Ext w w') : TvF w' B r t := h.keep (.of_ext k)
theorem TvF.lower {w : World} {B B' : Nat} {r : Value} {t : T} (h : TvF w B r t) (hB : B' ≤ B) : TvF w B' r t := by
  obtain ⟨A, c, C, d, rfl, hO, hS, hN⟩ := h
  exact ⟨A, c, C, d, rfl, (hO.lower hB).widen fun b hb _ => by omega, hS, hN.widen fun b hb _ => by omega⟩

end Go.Proofs.YthmjgbkakjpfkaaGreatDoor



namespace Go.Proofs.YthmjgbkakjpfkaaGreatDoor
open Go.RowKit

section
variable {α β : Type} {sz : Nat} {E : World → (Nat → Prop) → List Value → α → Prop} {E' : World → (Nat → Prop) → List Value → β → Prop}
theorem Own.conv {w : World} {Z1 Z2 : Nat → Prop} {base : Nat} {e : TypeId} {v : Value} {l : List α} (f : α → β) (h : Own sz E w Z1 base e v l) (hE : ∀ cs, ∀ a ∈ l, E w (fun b => Z1 b ∧ v.ownBlock ≠ some b) cs a → E' w (fun b => Z2 b ∧ v.ownBlock ≠ some b) cs (f a)) : Own sz E' w Z2 base e v (l.map f) := by
  obtain ⟨xs, h1, h2⟩ := h
  refine ⟨xs, by rw [List.length_map]; exact h1, by rw [List.length_map]; exact h2.1, fun i hi => ?_⟩
  rw [List.length_map] at hi
  rw [List.getElem_map]
  exact hE _ _ (List.getElem_mem hi) (h2.2 i hi)
end

def EPF (base : Nat) (w : World) (X : Nat → Prop) (cs : List Value) (a : Bool × (Int × Z)) : Prop := EP w (fun c => X c ∧ (a.1 = true → base ≤ c)) cs a.2
instance (base : Nat) : Stab (EPF base) :=
  ⟨fun h k => Stab.keep (E := EP) h fun b hb hl => k b hb.1 hl, fun h k => Stab.widen (E := EP) h fun b hb hl => ⟨k b hb.1 hl, hb.2⟩, fun h => Stab.one (E := EP) h⟩

set_option maxHeartbeats 400000 in
theorem clonep_c {A : Option Addr} {c : Nat} {l : List (Int × Z)} {w : World} {X : Nat → Prop} (h : Pl w X A c l) (hL : l.length ≤ 2199023255552) :
    Calls Tryz.prog 101 #[.slice A l.length c] w fun e w' => ∃ v', e = .returned v' ∧ Own 3 EP w' (fun b => X b ∧ b < w.heap.size) w.heap.size 37 v' l ∧ Spp w' v' ∧ Ext w w' := by
  have hn := fun (W : World) (A : Option Addr) (n c : Nat) => Lib.run_eql_slice_nil (P := Tryz.prog) W 25 37 A n c 0 0 Tryz.underlying25
  cases A with
  | none =>
    have h0 : l = [] := by
      rcases Nat.eq_zero_or_pos l.length with h0 | h0
      · exact List.eq_nil_of_length_eq_zero h0
      · obtain ⟨b, o, hA, _⟩ := h.2.2.1 h0
        cases hA
    subst h0
    go_enter Tryz.func101, Tryz.ntmps101
    go_wp2
    go_ret
    exact ⟨_, rfl, Own.nil _ _ _ _, Spz.nil _ _ _, Ext.refl _⟩
  | some ad =>
    have h1 : Pl w (fun b => X b ∧ b < w.heap.size) (some ad) c l := h.widen fun b hb hl => ⟨hb, hl⟩
    obtain ⟨xs, hf, hc⟩ := (h1.keep ((Kp.refl w).alloc (.cells #[] 37))).flat
    have hf2 : Fl 3 EP (w.alloc (.cells #[] 37)) (fun b => (X b ∧ b < w.heap.size) ∧ Value.ownBlock (.slice (some ⟨w.heap.size, 0, none⟩) 0 0) ≠ some b) xs l :=
      hf.widen fun b hb _ => ⟨hb, fun e => by injection e with e; simp only at e; omega⟩
    go_enter Tryz.func101, Tryz.ntmps101
    go_wp2_with (first
      | (at_builtin
         refine wpList_appz ety_p (.tmp 5) (.tmp 6) (base := w.heap.size) (Z := fun b => X b ∧ b < w.heap.size) (Own.empty w _ _ (Nat.le_refl _)) (Spz.empty _ _ _ _) hf2 (fun h0 => (hc h0).imp fun b h => h.imp fun o h => ⟨h.1, h.2.2⟩) (by simp; omega) (by simp [maxLen]; omega) (by simp) rfl rfl rfl rfl ?_
         intro v1 w2 hown hsp hg hat))
    go_ret
    exact ⟨v1, rfl, by simpa using hown, hsp, ((Ext.refl w).alloc _).grown hg (by simp [Value.ownBlock])⟩

theorem zero_zi (w : World) (X : Nat → Prop) : Zi w X (.agg #[.bool false, .slice none 0 0]) ⟨false, []⟩ := ⟨none, 0, rfl, Sl.nil0 _ _ _⟩
theorem zero_tv (w : World) (X : Nat → Prop) : Tv w X (.agg #[.slice none 0 0, .bool false, .slice none 0 0]) ⟨[], ⟨false, []⟩⟩ := ⟨none, 0, none, 0, rfl, Sl.nil0 _ _ _, Sl.nil0 _ _ _⟩

def flg (l : List (Int × Z)) (k : Nat) : List (Bool × (Int × Z)) := (l.take k).map (fun p => (true, p)) ++ (l.drop k).map fun p => (false, p)
theorem flg_len (l : List (Int × Z)) (k : Nat) : (flg l k).length = l.length := by
  rw [flg, List.length_append, List.length_map, List.length_map, List.length_take, List.length_drop]; omega
theorem flg_snd (l : List (Int × Z)) (k : Nat) : (flg l k).map Prod.snd = l := by
  rw [flg, List.map_append, List.map_map, List.map_map]
  show (l.take k).map id ++ (l.drop k).map id = l
  rw [List.map_id, List.map_id, List.take_append_drop]
theorem flg_get (l : List (Int × Z)) (k : Nat) (h : k < l.length) : (flg l k)[k]'(by rw [flg_len]; exact h) = (false, pth l k) := by
  simp only [flg]
  rw [List.getElem_append_right (by simp; omega)]
  simp [pth_eq l k h, Nat.min_eq_left (Nat.le_of_lt h)]
theorem flg_set (l : List (Int × Z)) (k : Nat) (h : k < l.length) : (flg l k).set k (true, pth l k) = flg l (k + 1) := by
  unfold flg
  rw [List.set_append_right _ _ (by simp; omega), take_pth l k h, drop_pth l k h]
  simp [Nat.min_eq_left (Nat.le_of_lt h)]

theorem step_norm {w W wr w4 : World} {v : Value} {b o1 o2 : Nat} {u1 u2 : Value} (kp : Kp (fun c => v.ownBlock ≠ some c) W wr) (hx : Ext w w4) (hxx : Ext wr w4) (hsr : W.heap.size ≤ wr.heap.size) (hv : v.ownBlock = some b) (hb : w.heap.size ≤ b) :
    Kp (fun c => v.ownBlock ≠ some c) W ((w4.setCell ⟨b, o1, none⟩ u1).setCell ⟨b, o2, none⟩ u2) ∧ Ext w ((w4.setCell ⟨b, o1, none⟩ u1).setCell ⟨b, o2, none⟩ u2) ∧ W.heap.size ≤ ((w4.setCell ⟨b, o1, none⟩ u1).setCell ⟨b, o2, none⟩ u2).heap.size :=
  ⟨((kp.ext hxx).setCell (fun h => h hv) _).setCell (fun h => h hv) _, (hx.setCell hb _).setCell hb _, by simp only [World.size_setCell]; exact Nat.le_trans hsr hxx.size⟩
theorem own_norm {w : World} {B base b n c k : Nat} {l : List (Int × Z)} {B4 : Option Addr} {d4 : Nat} (h : Own 3 (EPF B) w (fun _ => True) base 37 (.slice (some ⟨b, 0, none⟩) n c) (flg l k)) (hlt : k < l.length)
    (hN : Nl w (fun c => B ≤ c ∧ c ≠ b) B4 d4 (pth l k).2.mag) :
    Own 3 (EPF B) ((w.setCell ⟨b, k * 3 + 1, none⟩ (.bool (pth l k).2.neg)).setCell ⟨b, k * 3 + 2, none⟩ (.slice B4 (pth l k).2.mag.length d4)) (fun _ => True) base 37 (.slice (some ⟨b, 0, none⟩) n c) (flg l (k + 1)) := by
  have hkl : k < (flg l k).length := by rw [flg_len]; exact hlt
  have hg := flg_get l k hlt
  have p1 := Own.put h (k := k) (r := 1) (u := .bool (pth l k).2.neg) (a' := (false, pth l k)) hkl (by omega) (by
    rw [hg]
    rintro cs ⟨A', c', rfl, hi', hN'⟩ _
    exact ⟨A', c', rfl, hi', hN'⟩)
  have e1 : (flg l k).set k (false, pth l k) = flg l k := by rw [← hg]; exact List.set_getElem_self _
  rw [e1] at p1
  have p2 := Own.put p1 (k := k) (r := 2) (u := .slice B4 (pth l k).2.mag.length d4) (a' := (true, pth l k)) hkl (by omega) (by
    rw [hg]
    rintro cs ⟨A', c', rfl, hi', hN'⟩ _
    refine ⟨B4, d4, rfl, hi', ?_⟩
    exact (hN.keep ((Kp.refl _).setCell (fun h => h.2 rfl) _)).widen fun c hc _ => ⟨⟨trivial, hc.2⟩, fun _ => hc.1⟩)
  rw [flg_set l k hlt] at p2
  exact p2

end Go.Proofs.YthmjgbkakjpfkaaGreatDoor

namespace Go.Proofs.YthmjgbkakjpfkaaGreatDoor
open Go.RowKit

section
variable {α : Type} {sz : Nat} {E : World → (Nat → Prop) → List Value → α → Prop}
theorem run_copyn {P : Program} {t e : TypeId} {bytes : Nat} {z : Value} (T : Ety P t e sz bytes z) (w : World) (ty : TypeId) (g o dLen dCap : Nat) (a : Addr) (sLen sCap n : Nat) (cur : Array Value) (u : TypeId) (cs : List Value)
    (hg : w.heap[g]? = some (.cells cur u (0, 0))) (hn : n = Nat.min sLen dLen) (hc : cs.length = n * sz)
    (hsrc : ∀ j v, cs[j]? = some v → w.cell? (a.add j) = some v) (hfit : o + cs.length ≤ cur.size) (h1 : ∀ v ∈ cs, v.oneCell' = true) :
    (Builtin.copy_ #[t, t] ty #[.slice (some ⟨g, o, none⟩) dLen dCap, .slice (some a) sLen sCap]).run P w =
      .ok (goInt n) (w.setRow g (cur.toList.take o ++ (cs ++ cur.toList.drop (o + cs.length))).toArray) := by
  have hl := run_loadCells_list (P := P) w a cs hsrc
  have hst := run_storeCells_at P g o u cs 0 cur w hg (by simpa using hfit) h1
  obtain ⟨i, hi, hz, hsize, hby⟩ := info_parts T.info
  subst hn
  rw [hc] at hl
  simp [Builtin.copy_, run_underlying T.under, Builtin.lenOf, Builtin.firstCells, sizeOf, typeInfo, hi, hsize, hl, hst]
theorem run_copyz {P : Program} {t e : TypeId} {bytes : Nat} {z : Value} (T : Ety P t e sz bytes z) (w : World) (ty : TypeId) (d a : Option Addr) (dLen dCap sLen sCap : Nat) (hn : Nat.min sLen dLen = 0) :
    (Builtin.copy_ #[t, t] ty #[.slice d dLen dCap, .slice a sLen sCap]).run P w = .ok (goInt 0) w := by
  obtain ⟨i, hi, hz, hsize, hby⟩ := info_parts T.info
  cases a <;> cases d <;> simp [Builtin.copy_, run_underlying T.under, Builtin.lenOf, Builtin.firstCells, sizeOf, typeInfo, hi, hn, loadCells, loadCellsFrom, storeCells]

theorem Own.shift [Stab E] {P : Program} {t e : TypeId} {bytes : Nat} {z : Value} (T : Ety P t e sz bytes z) {w : World} {Zp : Nat → Prop} {base g n cap k : Nat} {l : List α} (h : Own sz E w Zp base e (.slice (some ⟨g, 0, none⟩) n cap) l)
    (hk : k + 1 ≤ l.length) {dp : Option Addr} (hdp : k + 1 < l.length → dp = some ⟨g, (k + 1) * sz, none⟩) (dc sc : Nat) :
    ∃ w', (∀ ty, (Builtin.copy_ #[t, t] ty #[.slice dp (l.length - (k + 1)) dc, .slice (some ⟨g, k * sz, none⟩) (l.length - k) sc]).run P w = .ok (goInt (l.length - (k + 1) : Nat)) w') ∧
      Own sz E w' Zp base e (.slice (some ⟨g, 0, none⟩) n cap) (l.take (k + 1) ++ (l.drop k).take (l.length - (k + 1))) ∧ w.grownBy w' (some g) := by
  have hlen : (l.take (k + 1) ++ (l.drop k).take (l.length - (k + 1))).length = l.length := by
    rw [List.length_append, List.length_take, List.length_take, List.length_drop]; omega
  rcases Nat.eq_or_lt_of_le hk with hk0 | hk0
  · refine ⟨w, fun ty => ?_, ?_, World.grownBy.refl _ _⟩
    · rw [← hk0, Nat.sub_self]
      exact run_copyz T w ty _ _ _ _ _ _ (Nat.min_zero _)
    · have e0 : l.take (k + 1) ++ (l.drop k).take (l.length - (k + 1)) = l := by rw [← hk0, Nat.sub_self, List.take_zero, List.append_nil, hk0, List.take_length]
      rw [e0]
      exact h
  · obtain ⟨xs, h1, h2⟩ := h
    rcases h1.2 with ⟨hv, _⟩ | ⟨g', cap', cur, hv, hb, hg, hnc, hcm, hcs, htake⟩
    · cases hv
    · injection hv with e1 e2 e3
      injection e1 with e1
      injection e1 with e1
      subst e1; subst e3; subst e2
      rw [hdp hk0]
      have hm1 : (k + 1) * sz + (l.length - (k + 1)) * sz = l.length * sz := by rw [← Nat.add_mul]; congr 1; omega
      have hm2 : (k + 1) * sz = k * sz + sz := Nat.succ_mul k sz
      have hcm2 : l.length * sz ≤ cur.size := by rw [hcs]; exact Nat.mul_le_mul_right _ hnc
      have hpos := T.pos
      have hxl := h2.1
      have hfl := (h2.take (k + 1)).append ((h2.drop k).take (l.length - (k + 1)))
      have hcl : ((xs.drop (k * sz)).take ((l.length - (k + 1)) * sz)).length = (l.length - (k + 1)) * sz := by
        rw [List.length_take, List.length_drop]; omega
      have hrow : ∀ j u, xs[j]? = some u → w.cell? ⟨g, j, none⟩ = some u := fun j u hj => by
        have := h1.cells (g := g) rfl j u hj
        simpa [Addr.add_lit] using this
      refine ⟨_, fun ty => run_copyn T w ty g _ _ dc ⟨g, k * sz, none⟩ _ sc _ cur e ((xs.drop (k * sz)).take ((l.length - (k + 1)) * sz)) hg ?_ hcl ?_ ?_ ?_, ⟨xs.take ((k + 1) * sz) ++ (xs.drop (k * sz)).take ((l.length - (k + 1)) * sz), ⟨?_, .inr ⟨g, cap, _, ?_, hb, setRow_heap w g _ _ _ _ hg, ?_, hcm, ?_, ?_⟩⟩, ?_⟩, ⟨rfl, rfl, rfl, by simp, fun i _ hne => setRow_other w g i _ (fun e => hne (by rw [e]))⟩⟩
      · show _ = min _ _
        omega
      · intro j v hj
        have hjl := (List.getElem?_eq_some_iff.1 hj).1
        rw [hcl] at hjl
        rw [List.getElem?_take_of_lt hjl, List.getElem?_drop] at hj
        rw [Addr.add_lit]
        exact hrow _ _ hj
      · rw [hcl]; omega
      · intro v hv
        exact h2.ones T.pos v (List.mem_of_mem_drop (List.mem_of_mem_take hv))
      · exact hfl.1
      · rw [hlen]
      · rw [hlen]; exact hnc
      · simp only [List.size_toArray, List.length_append, List.length_take, List.length_drop, Array.length_toList]
        omega
      · rw [hlen, hcl, hm1]
        have e1 : cur.toList.take ((k + 1) * sz) = xs.take ((k + 1) * sz) := by
          rw [← htake, List.take_take, Nat.min_eq_left (by omega)]
        rw [e1]
        rw [List.toList_toArray, ← List.append_assoc, List.take_append_of_le_length (by rw [List.length_append, hcl, List.length_take]; omega), List.take_of_length_le (by rw [List.length_append, hcl, List.length_take]; omega)]
      · refine hfl.keep fun b hb _ => setRow_other w g b _ fun e => hb.2 (by rw [e]; rfl)
end

section
variable {P : Program} {ops : Array Oper} {Q : Exit → Act → World → Prop} {L : Nat}
end

end Go.Proofs.YthmjgbkakjpfkaaGreatDoor

namespace Go.Proofs.YthmjgbkakjpfkaaGreatDoor
open Go.RowKit Go.Shelf

set_option maxHeartbeats 400000 in
theorem eval1_c {W : World} {g : Nat} {x p : Int} {b n : Value} (hg : W.cell? ⟨g, 0, none⟩ = some (.int .i64 x)) (hl : g < W.heap.size) :
    Calls Tryz.prog 92 #[.agg #[.int .i64 p, b, n], .pointer (some ⟨g, 0, none⟩)] W fun e w' => e = .returned (.bool (p == x)) ∧ Ext W w' := by
  go_enter Tryz.func92, Tryz.ntmps92
  go_wp2
  all_goals (go_ret; exact ⟨by simp_all, xt⟩)

def ixv (o : Option Nat) : Int := o.elim (-1) fun i => (i : Int)
set_option maxHeartbeats 800000 in
theorem indexf_c {w : World} {X : Nat → Prop} {A : Option Addr} {c : Nat} {l : List (Int × Z)} {g : Nat} {x : Int} (h : Pl w X A c l) (hg : w.cell? ⟨g, 0, none⟩ = some (.int .i64 x)) (hgl : g < w.heap.size) :
    Calls Tryz.prog 91 #[.slice A l.length c, .func (.func 92) #[] #[.pointer (some ⟨g, 0, none⟩)]] w fun e w' => e = .returned (.int .i64 (ixv (ix l x))) ∧ Ext w w' := by
  have hm := h.2.1; have hlc := h.1
  simp only [maxLen] at hm
  have eg : ∀ args w, (callFunc 92 args).run Tryz.prog w = .ok (.enter 92 args) w := enters_of Tryz.func92 (by kernel_rfl) rfl
  go_enter Tryz.func91, Tryz.ntmps91
  go_wp2_with fail
  go_loopw [8] (fun iv wr => ∃ k : Nat, k ≤ l.length ∧ iv = .int .i64 k ∧ Hid (∀ i (h : i < l.length), i < k → l[i].1 ≠ x) ∧ Ext w wr) (fun iv _ => l.length - (intOf iv).toNat)
  case atStart => exact ⟨0, Nat.zero_le _, rfl, Lib.hid fun _ _ h => absurd h (Nat.not_lt_zero _), xt⟩
  case round =>
    obtain ⟨k, hk, rfl, hno, hx⟩ := hrel
    by_cases hlt : k < l.length
    · obtain ⟨b, o, B', d', rfl, hX, hc0, hc1, hc2, hi, hN⟩ := (h.ext hx).at_ hlt
      have hb := World.block_lt_of_cell? _ _ hc0
      have kl : (k : Int) < (l.length : Int) := by omega
      have hgr := (hx.cells.1 g 0 hgl).trans hg
      have hgl' := Nat.lt_of_lt_of_le hgl hx.size
      have hcall := eval1_c (p := (pth l k).1) (b := .bool (pth l k).2.neg) (n := .slice B' (pth l k).2.mag.length d') hgr hgl'
      clear hg hgr
      by_cases he : (pth l k).1 = x
      · have e1 : ((pth l k).1 == x) = true := by rw [he]; exact beq_self_eq_true _
        rw [e1] at hcall
        have He := Lib.hid he; clear he e1
        go_wp2_with (first | (go_at_fn 92; refine hcall.mono ?_; rintro e w1 ⟨rfl, hx1⟩) | fail)
        go_ret
        refine ⟨ret_int ?_, hx.trans xt⟩
        rw [ix_step l x k hno.out, drop_pth l k hlt]
        simp [ix, He.out, ixv]
      · have e1 : ((pth l k).1 == x) = false := by rw [beq_eq_false_iff_ne]; exact he
        rw [e1] at hcall
        have He := Lib.hid he; clear he e1
        go_wp2_with (first | (go_at_fn 92; refine hcall.mono ?_; rintro e w1 ⟨rfl, hx1⟩) | fail)
        go_roundw
        case rel =>
          refine ⟨k + 1, by omega, by go_num, Lib.hid fun i hil hik => ?_, hx.trans xt⟩
          by_cases e : i = k
          · subst e; rw [← pth_eq l i hil]; exact He.out
          · exact hno.out i hil (by omega)
        case measure => simp [intOf] <;> omega
    · obtain rfl : k = l.length := by omega
      go_wp2_with fail
      go_ret
      refine ⟨ret_int ?_, hx.trans xt⟩
      rw [ix_step l x l.length hno.out, List.drop_length]
      rfl

end Go.Proofs.YthmjgbkakjpfkaaGreatDoor

namespace Go.Proofs.YthmjgbkakjpfkaaGreatDoor
open Go.RowKit Go.Shelf

theorem own_at {w : World} {Zp : Nat → Prop} {base g n c k : Nat} {e : TypeId} {l : List (Int × Z)} (h : Own 3 EP w Zp base e (.slice (some ⟨g, 0, none⟩) n c) l) (hk : k < l.length) :
    ∃ B d, w.cell? ⟨g, k * 3, none⟩ = some (.int .i64 (pth l k).1) ∧ w.cell? ⟨g, k * 3 + 1, none⟩ = some (.bool (pth l k).2.neg) ∧ w.cell? ⟨g, k * 3 + 2, none⟩ = some (.slice B (pth l k).2.mag.length d) ∧ i64 (pth l k).1 ∧
      Nl w (fun b => Zp b ∧ b ≠ g) B d (pth l k).2.mag := by
  obtain ⟨xs, h1, h2⟩ := h
  obtain ⟨B, d, hcs, hi, hN⟩ := h2.2 k hk
  rw [← pth_eq l k hk] at hcs hi hN
  have hc : ∀ j u, xs[j]? = some u → w.cell? ⟨g, j, none⟩ = some u := fun j u hj => by
    have := h1.cells (g := g) rfl j u hj
    simpa [Addr.add_lit] using this
  have e0 := hc _ _ (nth_of_slice (l := [.int .i64 (pth l k).1, .bool (pth l k).2.neg, .slice B (pth l k).2.mag.length d]) hcs 0 (by simp))
  have e1 := hc _ _ (nth_of_slice (l := [.int .i64 (pth l k).1, .bool (pth l k).2.neg, .slice B (pth l k).2.mag.length d]) hcs 1 (by simp))
  have e2 := hc _ _ (nth_of_slice (l := [.int .i64 (pth l k).1, .bool (pth l k).2.neg, .slice B (pth l k).2.mag.length d]) hcs 2 (by simp))
  exact ⟨B, d, e0, e1, e2, hi, hN.widen fun b hb _ => ⟨hb.1, fun e => hb.2 (by rw [e]; rfl)⟩⟩
theorem own_put3 {w : World} {Zp : Nat → Prop} {base g n c k : Nat} {e : TypeId} {l : List (Int × Z)} {p : Int × Z} {B : Option Addr} {d : Nat} (h : Own 3 EP w Zp base e (.slice (some ⟨g, 0, none⟩) n c) l) (hk : k < l.length) (hi : i64 p.1)
    (hN : Nl w (fun b => Zp b ∧ b ≠ g) B d p.2.mag) :
    Own 3 EP (((w.setCell ⟨g, k * 3, none⟩ (.int .i64 p.1)).setCell ⟨g, k * 3 + 1, none⟩ (.bool p.2.neg)).setCell ⟨g, k * 3 + 2, none⟩ (.slice B p.2.mag.length d)) Zp base e (.slice (some ⟨g, 0, none⟩) n c) (l.set k p) := by
  have p0 := Own.put h (k := k) (r := 0) (u := .int .i64 p.1) (a' := (p.1, l[k].2)) hk (by omega) (by
    rintro cs ⟨A', c', rfl, hi', hN'⟩ _
    exact ⟨A', c', rfl, hi, hN'⟩)
  have h1 : k < (l.set k (p.1, l[k].2)).length := by rw [List.length_set]; exact hk
  have e1 : (l.set k (p.1, l[k].2))[k] = (p.1, l[k].2) := List.getElem_set_self _
  have p1 := Own.put p0 (k := k) (r := 1) (u := .bool p.2.neg) (a' := (p.1, ⟨p.2.neg, l[k].2.mag⟩)) h1 (by omega) (by
    rw [e1]
    rintro cs ⟨A', c', rfl, hi', hN'⟩ _
    exact ⟨A', c', rfl, hi, hN'⟩)
  rw [List.set_set] at p1
  have h2 : k < (l.set k (p.1, (⟨p.2.neg, l[k].2.mag⟩ : Z))).length := by rw [List.length_set]; exact hk
  have p2 := Own.put p1 (k := k) (r := 2) (u := .slice B p.2.mag.length d) (a' := p) h2 (by omega) (by
    rw [List.getElem_set_self]
    rintro cs ⟨A', c', rfl, hi', hN'⟩ _
    exact ⟨B, d, rfl, hi, (hN.keep ((Kp.refl w).setCell (fun h => h.2 rfl) _)).keep ((Kp.refl _).setCell (fun h => h.2 rfl) _)⟩)
  rw [List.set_set] at p2
  exact p2

end Go.Proofs.YthmjgbkakjpfkaaGreatDoor

namespace Go.Proofs.YthmjgbkakjpfkaaGreatDoor
open Go.RowKit

theorem grown_trans {a b c : World} {row row' : Option Nat} (h : a.grownBy b row) (k : b.grownBy c row') (hr : ∀ g, row' = some g → row = some g ∨ a.heap.size ≤ g) : a.grownBy c row := by
  refine ⟨k.os.trans h.os, k.tape.trans h.tape, k.output.trans h.output, Nat.le_trans h.size k.size, fun i hi hn => (k.block i (Nat.lt_of_lt_of_le hi h.size) fun e => ?_).trans (h.block i hi hn)⟩
  rcases hr i e.symm with h1 | h1
  · exact hn h1.symm
  · omega
theorem grown_set {a b : World} {row : Option Nat} {g : Nat} (h : a.grownBy b row) (hr : row = some g ∨ a.heap.size ≤ g) (o : Nat) (u : Value) : a.grownBy (b.setCell ⟨g, o, none⟩ u) row :=
  ⟨h.os, h.tape, h.output, by simpa [World.setCell] using h.size, fun i hi hn => (Below.heap_setCell b ⟨g, o, none⟩ u i (fun e => by
    have e : i = g := e
    rcases hr with hr | hr
    · exact hn (by rw [hr, e])
    · omega)).trans (h.block i hi hn)⟩
theorem lay_skip : ∀ (m : List (Int × Int)) (p : Int × Int) (k : Nat) (hk : k < m.length), m[k].1 < p.1 → lay m p = m.take k ++ lay (m.drop k) p → lay m p = m.take (k + 1) ++ lay (m.drop (k + 1)) p := by
  intro m p k hk hlt h
  rw [h, List.drop_eq_getElem_cons hk, List.take_succ_eq_append_getElem hk]
  conv => lhs; unfold lay
  rw [if_pos hlt]
  simp only [List.append_assoc, List.singleton_append]
theorem lay_hit {m : List (Int × Int)} {p : Int × Int} {k : Nat} (hk : k < m.length) (he : m[k].1 = p.1) (h : lay m p = m.take k ++ lay (m.drop k) p) : lay m p = m.set k (p.1, m[k].2 + p.2) := by
  rw [h, List.drop_eq_getElem_cons hk]
  unfold lay
  rw [if_neg (by omega), if_pos he, List.set_eq_take_append_cons_drop, if_pos hk, he]
theorem lay_put {m : List (Int × Int)} {p : Int × Int} {k : Nat} (hk : k ≤ m.length) (he : ∀ h : k < m.length, p.1 < m[k].1) (h : lay m p = m.take k ++ lay (m.drop k) p) : lay m p = m.take k ++ p :: m.drop k := by
  rw [h]
  rcases Nat.eq_or_lt_of_le hk with e | hk
  · rw [e, List.drop_length]; rfl
  · rw [List.drop_eq_getElem_cons hk]
    have := he hk
    unfold lay
    rw [if_neg (by omega), if_neg (by omega)]
theorem shift_set {α : Type} (m : List α) (k : Nat) (hk : k ≤ m.length) (d x : α) :
    (((m ++ [d]).take (k + 1) ++ ((m ++ [d]).drop k).take ((m ++ [d]).length - (k + 1))).set k x) = m.take k ++ x :: m.drop k := by
  have h1 : ((m ++ [d]).drop k).take ((m ++ [d]).length - (k + 1)) = m.drop k := by
    rw [List.drop_append_of_le_length hk, List.length_append, List.length_singleton, show m.length + 1 - (k + 1) = (m.drop k).length from by rw [List.length_drop]; omega]
    rw [List.take_append_of_le_length (Nat.le_refl _), List.take_length]
  have h2 : (m ++ [d]).take (k + 1) = (m ++ [d]).take k ++ [(m ++ [d])[k]'(by simp; omega)] := List.take_succ_eq_append_getElem _
  rw [h1, h2, List.take_append_of_le_length hk]
  rw [List.append_assoc, List.set_append_right _ _ (by rw [List.length_take]; omega)]
  rw [List.length_take, Nat.min_eq_left hk, Nat.sub_self]
  rfl

theorem pth_cl (m : List (Int × Int)) (k : Nat) (h : k < m.length) : pth (cl m) k = (m[k].1, cz m[k].2) := by
  rw [pth_eq _ _ (by rw [cl_len]; exact h)]
  simp [cl]

section
variable {P : Program} {ops : Array Oper} {Q : Exit → Act → World → Prop}
theorem sh_copy {i : Nat} {r : List Nat} {a : Act} {w w' : World} {o : Oper} {d s : Operand} {t t' : TypeId} {v u v' : Value} (ho : opAt ops.toList i = some o) (hg : o.guard = none)
    (hop : o.op = .call { callee := .builtin .copy, args := #[d, s], argTypes := #[t, t'] }) (hd : a.eval d = v) (hs : a.eval s = u) (hr : ∀ ty, (Builtin.copy_ #[t, t'] ty #[v, u]).run P w = .ok v' w')
    (h : LateW P ops Q r (a.put o.dst v') w') : LateW P ops Q (i :: r) a w := by
  refine sh_late ho hg fun K hK => ?_
  unfold Oper.wp execOp
  simp only [hop, resolve, invoke, builtin, Sem.run_bind, Sem.run_pure, Result.andThen_ok, List.map_toArray, List.map_cons, List.map_nil, hd, hs, hr]
  exact hK _ _ h
end
theorem own_putz {w : World} {Zp : Nat → Prop} {base g n c k : Nat} {e : TypeId} {l : List (Int × Z)} {z : Z} {B : Option Addr} {d : Nat} (h : Own 3 EP w Zp base e (.slice (some ⟨g, 0, none⟩) n c) l) (hk : k < l.length)
    (hN : Nl w (fun b => Zp b ∧ b ≠ g) B d z.mag) :
    Own 3 EP ((w.setCell ⟨g, k * 3 + 1, none⟩ (.bool z.neg)).setCell ⟨g, k * 3 + 2, none⟩ (.slice B z.mag.length d)) Zp base e (.slice (some ⟨g, 0, none⟩) n c) (l.set k ((pth l k).1, z)) := by
  have e0 := pth_eq l k hk
  have p1 := Own.put h (k := k) (r := 1) (u := .bool z.neg) (a' := ((pth l k).1, ⟨z.neg, l[k].2.mag⟩)) hk (by omega) (by
    rintro cs ⟨A', c', rfl, hi', hN'⟩ _
    exact ⟨A', c', by rw [e0]; rfl, by rw [e0]; exact hi', hN'⟩)
  have h2 : k < (l.set k ((pth l k).1, (⟨z.neg, l[k].2.mag⟩ : Z))).length := by rw [List.length_set]; exact hk
  have p2 := Own.put p1 (k := k) (r := 2) (u := .slice B z.mag.length d) (a' := ((pth l k).1, z)) h2 (by omega) (by
    rw [List.getElem_set_self]
    rintro cs ⟨A', c', rfl, hi', hN'⟩ _
    exact ⟨B, d, rfl, hi', hN.keep ((Kp.refl w).setCell (fun h => h.2 rfl) _)⟩)
  rw [List.set_set] at p2
  exact p2
theorem cl_set (m : List (Int × Int)) (k : Nat) (p : Int × Int) : (cl m).set k (p.1, cz p.2) = cl (m.set k p) := by simp [cl, List.map_set]

set_option maxHeartbeats 3200000 in
theorem laid_c {w : World} {base : Nat} {v : Value} {m : List (Int × Int)} {x : Int} {z : Z} {A : Option Addr} {c : Nat} (hO : Own 3 EP w (base ≤ ·) base 37 v (cl m)) (hbase : base ≤ w.heap.size)
    (hi : i64 x) (hN : Nl w (· < base) A c z.mag) (hL : m.length ≤ 1099511627776) (hz : z.mag.length ≤ 1099511627776) (hm : ∀ p ∈ m, zl p.2 ≤ 1099511627776) :
    Calls Tryz.prog 111 #[v, .agg #[.int .i64 x, .bool z.neg, .slice A z.mag.length c]] w fun e w' => ∃ v', e = .returned v' ∧ Own 3 EP w' (base ≤ ·) base 37 v' (cl (lay m (x, z.v))) ∧ w.grownBy w' v.ownBlock := by
  obtain ⟨A0, c0, rfl, hs⟩ := Own.sl hO (by omega) (X := fun c => base ≤ c) (fun c hc => hc.elim id id)
  have hrow := hO.row
  have hlm := cl_len m
  have HL := Lib.hid hlm; clear hlm
  have hs' : Pl w (base ≤ ·) A0 c0 (cl m) := hs
  clear hs
  rw [HL.out] at hO hrow
  rw [HL.out]
  go_enter Tryz.func111, Tryz.ntmps111
  go_wp2_with fail
  refine wp_named fun W hW => ?_
  have hb0 : Box W w.heap.size 37 #[.int .i64 x, .bool z.neg, .slice A z.mag.length c] := by rw [hW]; exact bxt
  have hE : Ext w W := by rw [hW]; exact xt
  clear hW
  have hbl := hb0.lt
  go_loopw [5] (fun iv wr => ∃ k : Nat, k ≤ m.length ∧ iv = .int .i64 k ∧ lay m (x, z.v) = m.take k ++ lay (m.drop k) (x, z.v) ∧ Ext W wr) (fun iv _ => m.length - (intOf iv).toNat)
  case atStart => exact ⟨0, Nat.zero_le _, rfl, rfl, xt⟩
  case round =>
    obtain ⟨k, hk, rfl, hlay, hx⟩ := hrel
    have Hlay := Lib.hid hlay; clear hlay
    have hsx := hx.size
    have r0 := (hb0.ext hx).rules
    have r0l := (hb0.ext hx).lt
    have hxw := hE.trans hx
    by_cases hlt : k < m.length
    · obtain ⟨b, o, B', d', rfl, hX, hc0, hc1, hc2, hi2, hN2⟩ := (Pl.ext hs' hxw).at_ (k := k) (by rw [HL.out]; exact hlt)
      obtain ⟨rfl, -, hbb, hbw⟩ := hO.adr
      rw [pth_cl m k hlt] at hc0 hc1 hc2 hi2 hN2
      obtain ⟨q, hq⟩ : ∃ q, q = m[k] := ⟨_, rfl⟩
      rw [← hq] at hc0 hc1 hc2 hi2 hN2
      have Hq := Lib.hid hq; clear hq
      have hbr : b < wr.heap.size := World.block_lt_of_cell? _ _ hc0
      simp only [Nat.zero_add] at hc0 hc1 hc2
      have kl : (k : Int) < (m.length : Int) := by omega
      have kw := w64n (n := k) (by omega)
      by_cases h1 : q.1 < x
      · go_wp2_with fail
        refine wp_region_seq 14 [(0, true), (1, true), (2, true), (3, true), (4, true), (5, true), (6, true), (7, true), (8, true), (9, true), (10, true), (11, true), (12, true), (13, true)] rfl (by kernel_rfl) (by intro _ _ d _ _ h; cases d <;> exact h) ?_
        (repeat (first | (refine sq_take (v := ?_) rfl rfl ?_ ?_; rotate_left; (intro w' hx'; have hc' := hx'.cells.1; (try simp only [wcd] at hc'); go_simp; (first | done | with_reducible rfl)); (try simp only [pt])) | (refine sq_skip rfl rfl ?_; (try simp only [pt])) | (refine sq_noloud rfl rfl ?_; (try simp only [pt])) | (refine sq_takeg (v := ?_) rfl rfl ?_ ?_; rotate_left; (intro w' hx'; have hc' := hx'.cells.1; (try simp only [wcd] at hc'); go_simp; (first | done | with_reducible rfl)); (try simp only [pt]))))
        refine sq_done ?_
        go_wp2_with fail
        go_roundw
        case rel => exact ⟨k + 1, by omega, by go_num, lay_skip m _ k hlt (by rw [← Hq.out]; exact h1) Hlay.out, xt⟩
        case measure => simp [intOf] <;> omega
      · by_cases h2 : q.1 = x
        · have e2 : (q.1 == x) = true := by rw [h2]; exact beq_self_eq_true _
          go_wp2_with fail
          refine wp_region_seq 14 [(0, true), (1, true), (2, true), (3, true), (4, true), (5, true), (6, true), (7, true), (8, true), (9, true), (10, true), (11, true), (12, true), (13, true)] rfl (by kernel_rfl) (by intro _ _ d _ _ h; cases d <;> exact h) ?_
          (repeat (first | (refine sq_take (v := ?_) rfl rfl ?_ ?_; rotate_left; (intro w' hx'; have hc' := hx'.cells.1; (try simp only [wcd] at hc'); go_simp; (first | done | with_reducible rfl)); (try simp only [pt])) | (refine sq_skip rfl rfl ?_; (try simp only [pt])) | (refine sq_noloud rfl rfl ?_; (try simp only [pt])) | (refine sq_takeg (v := ?_) rfl rfl ?_ ?_; rotate_left; (intro w' hx'; have hc' := hx'.cells.1; (try simp only [wcd] at hc'); go_simp; (first | done | with_reducible rfl)); (try simp only [pt]))))
          refine sq_done ?_
          go_wp2_with fail
          refine wp_region_seq 14 [(0, true), (1, true), (2, true), (3, true), (4, true), (5, true), (6, true), (7, true), (8, true), (9, true), (10, true), (11, true), (12, true), (13, true)] rfl (by kernel_rfl) (by intro _ _ d _ _ h; cases d <;> exact h) ?_
          (repeat (first | (refine sq_take (v := ?_) rfl rfl ?_ ?_; rotate_left; (intro w' hx'; have hc' := hx'.cells.1; (try simp only [wcd] at hc'); go_simp; (first | done | with_reducible rfl)); (try simp only [pt])) | (refine sq_skip rfl rfl ?_; (try simp only [pt])) | (refine sq_noloud rfl rfl ?_; (try simp only [pt])) | (refine sq_takeg (v := ?_) rfl rfl ?_ ?_; rotate_left; (intro w' hx'; have hc' := hx'.cells.1; (try simp only [wcd] at hc'); go_simp; (first | done | with_reducible rfl)); (try simp only [pt]))))
          refine sq_done ?_
          go_wp2_with fail
          refine wp_region_seq2 12 [(0, true), (1, true), (2, true), (3, true), (4, true), (5, true), (6, true), (7, true), (8, true), (9, false), (10, true), (11, true), (12, false)] rfl (by kernel_rfl) (by intro _ _ d _ _ h; cases d <;> exact h) ?_
          (repeat (refine sq_take (v := ?_) rfl rfl ?_ ?_; rotate_left; (intro w' hx'; have hc' := hx'.cells.1; (try simp only [wcd] at hc'); go_simp; (first | done | with_reducible rfl)); (try simp only [pt])))
          have hq0 : zl q.2 ≤ 1099511627776 := by rw [Hq.out]; exact hm _ (List.getElem_mem hlt)
          (refine sq_loud rfl rfl fun K hK => ?_; go_simp)
          refine (raddz_c (x := cz q.2) (y := z) ⟨_, _, rfl, hN2.ext xt⟩ ⟨_, _, rfl, hN.ext (Ext.trans hxw xt)⟩ (by rw [cz_len]; exact hq0) hz).mono ?_
          rw [cz_v]
          rintro e w1 ⟨r, rfl, ⟨A1, c1, rfl, hr1⟩, hx1⟩
          (refine hK _ _ xt ?_; clear hK K; (try simp only [pt]))
          (repeat (refine sq_take (v := ?_) rfl rfl ?_ ?_; rotate_left; (intro w' hx'; have hc' := hx'.cells.1; (try simp only [wcd] at hc'); go_simp; (first | done | with_reducible rfl)); (try simp only [pt])))
          have hxx : Ext wr w1 := xt
          have hb1 := Nat.lt_of_lt_of_le hbr hxx.size
          have hO1 := hO.ext (hxw.trans hxx)
          have hq1 := (hxx.cells.1 b (k * 3 + 1) hbr).trans hc1
          have hq2 := (hxx.cells.1 b (k * 3 + 2) hbr).trans hc2
          have hfz := fun o => Own.frz hO1 o
          (refine sq_last rfl rfl fun K hK => ?_; go_simp; refine hK _ _ ?_; clear hK K)
          have hne := hrow
          have p2 := own_putz (k := k) hO1 (by rw [HL.out]; exact hlt) (hr1.widen (Y := fun c => base ≤ c ∧ c ≠ b) fun c hc _ => by simp only [wsz] at hc; exact ⟨by omega, by omega⟩)
          go_wp2_with fail
          go_ret
          have hgr : w.grownBy w1 (some b) := ext_then (hxw.trans hxx) (World.grownBy.refl _ _)
          refine ⟨_, rfl, ?_, grownBy_store (grownBy_store hgr _ _) _ _⟩
          have hl2 := lay_hit (p := (x, z.v)) hlt (by rw [← Hq.out]; exact h2) Hlay.out
          have hp1 : (pth (cl m) k).1 = x := by rw [pth_cl m k hlt, ← Hq.out]; exact h2
          rw [hl2, ← cl_set, ← hp1, ← Hq.out]
          exact p2
        · have e2 : (q.1 == x) = false := by rw [beq_eq_false_iff_ne]; exact h2
          have hge : ∀ h : k < m.length, x < m[k].1 := fun _ => by rw [← Hq.out]; omega
          go_wp2_with fail
          refine wp_region_seq 14 [(0, true), (1, true), (2, true), (3, true), (4, true), (5, true), (6, true), (7, true), (8, true), (9, true), (10, true), (11, true), (12, true), (13, true)] rfl (by kernel_rfl) (by intro _ _ d _ _ h; cases d <;> exact h) ?_
          (repeat (first | (refine sq_take (v := ?_) rfl rfl ?_ ?_; rotate_left; (intro w' hx'; have hc' := hx'.cells.1; (try simp only [wcd] at hc'); go_simp; (first | done | with_reducible rfl)); (try simp only [pt])) | (refine sq_skip rfl rfl ?_; (try simp only [pt])) | (refine sq_noloud rfl rfl ?_; (try simp only [pt])) | (refine sq_takeg (v := ?_) rfl rfl ?_ ?_; rotate_left; (intro w' hx'; have hc' := hx'.cells.1; (try simp only [wcd] at hc'); go_simp; (first | done | with_reducible rfl)); (try simp only [pt]))))
          refine sq_done ?_
          go_wp2_with fail
          refine wp_region_seq 14 [(0, true), (1, true), (2, true), (3, true), (4, true), (5, true), (6, true), (7, true), (8, true), (9, true), (10, true), (11, true), (12, true), (13, true)] rfl (by kernel_rfl) (by intro _ _ d _ _ h; cases d <;> exact h) ?_
          (repeat (first | (refine sq_take (v := ?_) rfl rfl ?_ ?_; rotate_left; (intro w' hx'; have hc' := hx'.cells.1; (try simp only [wcd] at hc'); go_simp; (first | done | with_reducible rfl)); (try simp only [pt])) | (refine sq_skip rfl rfl ?_; (try simp only [pt])) | (refine sq_noloud rfl rfl ?_; (try simp only [pt])) | (refine sq_takeg (v := ?_) rfl rfl ?_ ?_; rotate_left; (intro w' hx'; have hc' := hx'.cells.1; (try simp only [wcd] at hc'); go_simp; (first | done | with_reducible rfl)); (try simp only [pt]))))
          refine sq_done ?_
          have hOr : Own 3 EP wr.drew.drew (base ≤ ·) base 37 (.slice (some ⟨b, 0, none⟩) m.length c0) (cl m) := hO.ext (Ext.drew (Ext.drew hxw))
          have hbase2 : base ≤ wr.drew.drew.heap.size := by have := hxw.size; simp only [wsz]; omega
          go_wp2_with (first
            | (at_builtin
               go_loud (refine wpList_appp1 (p := 0) (z := ⟨false, []⟩) (A := none) (c := 0) (.tmp 49) (.tmp 51) hOr ⟨by omega, by omega⟩ (Sl.nil0 _ _ _) (by rw [HL.out]; omega) hbase2 rfl rfl rfl rfl ?_)
               intro v1 w1 hO1 hg1 hv1)
            | fail)
          have hlen1 : (cl m ++ [((0 : Int), (⟨false, []⟩ : Z))]).length = m.length + 1 := by rw [List.length_append, HL.out]; rfl
          obtain ⟨A1, c1, rfl, hP1⟩ := Own.sl hO1 (by omega) (X := fun _ => True) (fun _ _ => trivial)
          have hlc1 := hP1.1
          have hcm1 := hP1.2.1
          obtain ⟨g1, o1, hA1, -, -⟩ := hP1.2.2.1 (by rw [hlen1]; omega)
          subst hA1
          obtain ⟨rfl, -, hgb, hgw⟩ := hO1.adr
          rw [hlen1] at hO1 hlc1 ⊢
          simp only [maxLen] at hcm1
          have kw1 := w64n (n := k) (by omega)
          have kw2 : IntKind.i64.wrap ((k : Int) + 1) = (k : Int) + 1 := w64 ⟨by omega, by omega⟩
          have kl1 : (k : Int) + 1 ≤ (m.length : Int) + 1 := by omega
          have kl2 : (k : Int) ≤ (m.length : Int) + 1 := by omega
          have kl3 : (0 : Int) ≤ (k : Int) + 1 := by omega
          have kl4 : (m.length : Int) + 1 ≤ (c1 : Int) := by omega
          obtain ⟨w2, hrun, hO2, hg2⟩ := Own.shift ety_p (hO1.ext (Ext.drew (Ext.refl w1))) (k := k) (by rw [hlen1]; omega) (dp := if c1 = k + 1 then some ⟨g1, 0, none⟩ else some ⟨g1, (k + 1) * 3, none⟩) (fun h => by rw [hlen1] at h; rw [if_neg (by omega)]) (c1 - (k + 1)) (c1 - k)
          rw [hlen1, show m.length + 1 - (k + 1) = m.length - k from by omega] at hrun
          have hck : ¬ c1 = k := by omega
          clear hlen1
          go_wp2_with fail
          refine wp_region_late [(0, true), (1, true), (2, true), (3, true), (4, true), (5, true), (6, true)] [7] rfl (by kernel_rfl) (by intro _ _ d _ _ h; cases d <;> exact h) ?_
          (repeat (refine sh_take (v := ?_) rfl rfl ?_ ?_; rotate_left; (intro w' hx'; have hc' := hx'.cells.1; (try simp only [wcd] at hc'); go_simp; (first | done | with_reducible rfl)); (try simp only [pt])))
          refine sh_done ?_
          refine sh_copy (v' := goInt ((m.length - k : Nat) : Int)) (w' := w2) rfl rfl rfl rfl rfl (fun ty => by first | exact hrun ty | (go_simp; done) | (go_simp; rfl)) ?_
          (try simp only [pt])
          refine sh_end ?_
          generalize (if c1 = k + 1 then some (⟨g1, 0, none⟩ : Addr) else some ⟨g1, (k + 1) * 3, none⟩) = dp
          have hg1ne : g1 ≠ w.heap.size ∧ (Value.ownBlock (.slice (some ⟨b, 0, none⟩) m.length c0) = some g1 ∨ w.heap.size ≤ g1) := by
            rcases hv1 with h | h
            · have h2 : Value.ownBlock (.slice (some ⟨b, 0, none⟩) m.length c0) = some g1 := h.symm
              have := (hrow g1 h2).2
              exact ⟨by omega, .inl h2⟩
            · have h2 : g1 = wr.drew.drew.heap.size + 1 := by injection h
              simp only [wsz] at h2
              exact ⟨by omega, .inr (by omega)⟩
          have hbw : Box w2 w.heap.size 37 #[.int .i64 x, .bool z.neg, .slice A z.mag.length c] :=
            Box.grown (Box.drew (Box.grown (((hb0.ext hx).drew.drew).alloc _) hg1 (fun e => by have := (hrow _ e.symm).2; omega))) hg2 (fun e => by
              have e2 : w.heap.size = g1 := by injection e
              omega)
          have hgw1 : w.grownBy w1 (Value.ownBlock (.slice (some ⟨b, 0, none⟩) m.length c0)) := ext_then (Ext.alloc (Ext.drew (Ext.drew hxw)) _) hg1
          have hgw2 : w.grownBy w2 (Value.ownBlock (.slice (some ⟨b, 0, none⟩) m.length c0)) := grown_trans (grownBy_drew hgw1) hg2 (fun j hj => by
            have e2 : g1 = j := by injection hj
            rw [← e2]
            exact hg1ne.2)
          have hN2 : Nl w2 (· < base) A c z.mag := hN.keep ((Kp.refl w).grown hgw2 fun j hj h => by have := (hrow j hj).1; omega)
          have hbr := hbw.rules
          have hbl2 := hbw.lt
          have hs12 := hgw2.size
          have hg1w := (hO2.row g1 rfl).2
          have kl5 : (k : Int) < (m.length : Int) + 1 := by omega
          clear r0 hrun hg1 hg2 hv1
          go_wp2_with fail
          refine wp_region_seq 9 [(0, true), (1, true), (2, true), (3, true), (4, true), (5, true), (6, false), (7, true), (8, true), (9, false)] rfl (by kernel_rfl) (by intro _ _ d _ _ h; cases d <;> exact h) ?_
          (repeat (refine sq_take (v := ?_) rfl rfl ?_ ?_; rotate_left; (intro w' hx'; have hc' := hx'.cells.1; (try simp only [wcd] at hc'); go_simp; (first | done | with_reducible rfl)); (try simp only [pt])))
          (refine sq_loud rfl rfl fun K hK => ?_; go_simp)
          refine (rnorm_c (z := z) ⟨_, _, rfl, hN2.ext xt⟩ (by omega)).mono ?_
          rintro e w3 ⟨r, rfl, ⟨A4, c4, rfl, hN4⟩, hx3⟩
          (refine hK _ _ xt ?_; clear hK K; (try simp only [pt]))
          (repeat (refine sq_take (v := ?_) rfl rfl ?_ ?_; rotate_left; (intro w' hx'; have hc' := hx'.cells.1; (try simp only [wcd] at hc'); go_simp; (first | done | with_reducible rfl)); (try simp only [pt])))
          have hxx : Ext w2 w3 := xt
          have hO3 := hO2.ext hxx
          have hll : (List.take (k + 1) (cl m ++ [((0 : Int), (⟨false, []⟩ : Z))]) ++ List.take ((cl m ++ [((0 : Int), (⟨false, []⟩ : Z))]).length - (k + 1)) (List.drop k (cl m ++ [((0 : Int), (⟨false, []⟩ : Z))]))).length = m.length + 1 := by
            simp only [List.length_append, List.length_take, List.length_drop, List.length_singleton, HL.out]
            omega
          obtain ⟨B3, d3, q0, q1, q2, -, -⟩ := own_at hO3 (k := k) (by rw [hll]; omega)
          have hfz := fun o => Own.frz hO3 o
          have p3 := own_put3 (p := (x, cz z.v)) hO3 (k := k) (by rw [hll]; omega) hi (hN4.widen (Y := fun c => base ≤ c ∧ c ≠ g1) fun c hc _ => by simp only [wsz] at hc; exact ⟨by omega, by omega⟩)
          have hsh := shift_set (cl m) k (by rw [HL.out]; omega) ((0 : Int), (⟨false, []⟩ : Z)) (x, cz z.v)
          rw [hsh] at p3
          have hfin : (cl m).take k ++ (x, cz z.v) :: (cl m).drop k = cl (lay m (x, z.v)) := by
            rw [lay_put (p := (x, z.v)) hk hge Hlay.out]
            simp only [cl, List.map_append, List.map_cons, List.map_take, List.map_drop]
          rw [hfin] at p3
          clear hsh hfin hll
          (refine sq_last rfl rfl fun K hK => ?_; go_simp; refine hK _ _ ?_; clear hK K)
          go_wp2_with fail
          go_ret
          exact ⟨_, rfl, p3, grown_set (grown_set (grown_set (grown_then hgw2 hxx) hg1ne.2 _ _) hg1ne.2 _ _) hg1ne.2 _ _⟩
    · have hkn : k = m.length := by omega
      subst hkn
      have hge : ∀ h : m.length < m.length, x < m[m.length].1 := fun h => absurd h (Nat.lt_irrefl _)
      go_wp2_with fail
      refine wp_region_seq 14 [(0, true), (1, true), (2, true), (3, true), (4, true), (5, true), (6, true), (7, true), (8, true), (9, true), (10, true), (11, true), (12, true), (13, true)] rfl (by kernel_rfl) (by intro _ _ d _ _ h; cases d <;> exact h) ?_
      (repeat (first | (refine sq_take (v := ?_) rfl rfl ?_ ?_; rotate_left; (intro w' hx'; have hc' := hx'.cells.1; (try simp only [wcd] at hc'); go_simp; (first | done | with_reducible rfl)); (try simp only [pt])) | (refine sq_skip rfl rfl ?_; (try simp only [pt])) | (refine sq_noloud rfl rfl ?_; (try simp only [pt])) | (refine sq_takeg (v := ?_) rfl rfl ?_ ?_; rotate_left; (intro w' hx'; have hc' := hx'.cells.1; (try simp only [wcd] at hc'); go_simp; (first | done | with_reducible rfl)); (try simp only [pt]))))
      refine sq_done ?_
      go_wp2_with fail
      refine wp_region_seq 14 [(0, true), (1, true), (2, true), (3, true), (4, true), (5, true), (6, true), (7, true), (8, true), (9, true), (10, true), (11, true), (12, true), (13, true)] rfl (by kernel_rfl) (by intro _ _ d _ _ h; cases d <;> exact h) ?_
      (repeat (first | (refine sq_take (v := ?_) rfl rfl ?_ ?_; rotate_left; (intro w' hx'; have hc' := hx'.cells.1; (try simp only [wcd] at hc'); go_simp; (first | done | with_reducible rfl)); (try simp only [pt])) | (refine sq_skip rfl rfl ?_; (try simp only [pt])) | (refine sq_noloud rfl rfl ?_; (try simp only [pt])) | (refine sq_takeg (v := ?_) rfl rfl ?_ ?_; rotate_left; (intro w' hx'; have hc' := hx'.cells.1; (try simp only [wcd] at hc'); go_simp; (first | done | with_reducible rfl)); (try simp only [pt]))))
      refine sq_done ?_
      have hOr : Own 3 EP wr.drew.drew (base ≤ ·) base 37 (.slice A0 m.length c0) (cl m) := hO.ext (Ext.drew (Ext.drew hxw))
      have hbase2 : base ≤ wr.drew.drew.heap.size := by have := hxw.size; simp only [wsz]; omega
      go_wp2_with (first
        | (at_builtin
           go_loud (refine wpList_appp1 (p := 0) (z := ⟨false, []⟩) (A := none) (c := 0) (.tmp 49) (.tmp 51) hOr ⟨by omega, by omega⟩ (Sl.nil0 _ _ _) (by rw [HL.out]; omega) hbase2 rfl rfl rfl rfl ?_)
           intro v1 w1 hO1 hg1 hv1)
        | fail)
      have hlen1 : (cl m ++ [((0 : Int), (⟨false, []⟩ : Z))]).length = m.length + 1 := by rw [List.length_append, HL.out]; rfl
      obtain ⟨A1, c1, rfl, hP1⟩ := Own.sl hO1 (by omega) (X := fun _ => True) (fun _ _ => trivial)
      have hlc1 := hP1.1
      have hcm1 := hP1.2.1
      obtain ⟨g1, o1, hA1, -, -⟩ := hP1.2.2.1 (by rw [hlen1]; omega)
      subst hA1
      obtain ⟨rfl, -, hgb, hgw⟩ := hO1.adr
      rw [hlen1] at hO1 hlc1 ⊢
      simp only [maxLen] at hcm1
      have kw1 := w64n (n := m.length) (by omega)
      have kw2 : IntKind.i64.wrap ((m.length : Int) + 1) = (m.length : Int) + 1 := w64 ⟨by omega, by omega⟩
      have kl1 : (m.length : Int) + 1 ≤ (m.length : Int) + 1 := by omega
      have kl2 : (m.length : Int) ≤ (m.length : Int) + 1 := by omega
      have kl3 : (0 : Int) ≤ (m.length : Int) + 1 := by omega
      have kl4 : (m.length : Int) + 1 ≤ (c1 : Int) := by omega
      obtain ⟨w2, hrun, hO2, hg2⟩ := Own.shift ety_p (hO1.ext (Ext.drew (Ext.refl w1))) (k := m.length) (by rw [hlen1]; omega) (dp := if c1 = m.length + 1 then some ⟨g1, 0, none⟩ else some ⟨g1, (m.length + 1) * 3, none⟩) (fun h => by rw [hlen1] at h; rw [if_neg (by omega)]) (c1 - (m.length + 1)) (c1 - m.length)
      rw [hlen1, show m.length + 1 - (m.length + 1) = 0 from by omega] at hrun
      rw [show m.length + 1 - m.length = 1 from by omega] at hrun
      have hck : ¬ c1 = m.length := by omega
      clear hlen1
      go_wp2_with fail
      refine wp_region_late [(0, true), (1, true), (2, true), (3, true), (4, true), (5, true), (6, true)] [7] rfl (by kernel_rfl) (by intro _ _ d _ _ h; cases d <;> exact h) ?_
      (repeat (refine sh_take (v := ?_) rfl rfl ?_ ?_; rotate_left; (intro w' hx'; have hc' := hx'.cells.1; (try simp only [wcd] at hc'); go_simp; (first | done | with_reducible rfl)); (try simp only [pt])))
      refine sh_done ?_
      refine sh_copy (v' := goInt ((0 : Nat) : Int)) (w' := w2) rfl rfl rfl rfl rfl (fun ty => by first | exact hrun ty | (go_simp; done) | (go_simp; rfl)) ?_
      (try simp only [pt])
      refine sh_end ?_
      generalize (if c1 = m.length + 1 then some (⟨g1, 0, none⟩ : Addr) else some ⟨g1, (m.length + 1) * 3, none⟩) = dp
      have hg1ne : g1 ≠ w.heap.size ∧ (Value.ownBlock (.slice A0 m.length c0) = some g1 ∨ w.heap.size ≤ g1) := by
        rcases hv1 with h | h
        · have h2 : Value.ownBlock (.slice A0 m.length c0) = some g1 := h.symm
          have := (hrow g1 h2).2
          exact ⟨by omega, .inl h2⟩
        · have h2 : g1 = wr.drew.drew.heap.size + 1 := by injection h
          simp only [wsz] at h2
          exact ⟨by omega, .inr (by omega)⟩
      have hbw : Box w2 w.heap.size 37 #[.int .i64 x, .bool z.neg, .slice A z.mag.length c] :=
        Box.grown (Box.drew (Box.grown (((hb0.ext hx).drew.drew).alloc _) hg1 (fun e => by have := (hrow _ e.symm).2; omega))) hg2 (fun e => by
          have e2 : w.heap.size = g1 := by injection e
          omega)
      have hgw1 : w.grownBy w1 (Value.ownBlock (.slice A0 m.length c0)) := ext_then (Ext.alloc (Ext.drew (Ext.drew hxw)) _) hg1
      have hgw2 : w.grownBy w2 (Value.ownBlock (.slice A0 m.length c0)) := grown_trans (grownBy_drew hgw1) hg2 (fun j hj => by
        have e2 : g1 = j := by injection hj
        rw [← e2]
        exact hg1ne.2)
      have hN2 : Nl w2 (· < base) A c z.mag := hN.keep ((Kp.refl w).grown hgw2 fun j hj h => by have := (hrow j hj).1; omega)
      have hbr := hbw.rules
      have hbl2 := hbw.lt
      have hs12 := hgw2.size
      have hg1w := (hO2.row g1 rfl).2
      have kl5 : (m.length : Int) < (m.length : Int) + 1 := by omega
      clear r0 hrun hg1 hg2 hv1
      go_wp2_with fail
      refine wp_region_seq 9 [(0, true), (1, true), (2, true), (3, true), (4, true), (5, true), (6, false), (7, true), (8, true), (9, false)] rfl (by kernel_rfl) (by intro _ _ d _ _ h; cases d <;> exact h) ?_
      (repeat (refine sq_take (v := ?_) rfl rfl ?_ ?_; rotate_left; (intro w' hx'; have hc' := hx'.cells.1; (try simp only [wcd] at hc'); go_simp; (first | done | with_reducible rfl)); (try simp only [pt])))
      (refine sq_loud rfl rfl fun K hK => ?_; go_simp)
      refine (rnorm_c (z := z) ⟨_, _, rfl, hN2.ext xt⟩ (by omega)).mono ?_
      rintro e w3 ⟨r, rfl, ⟨A4, c4, rfl, hN4⟩, hx3⟩
      (refine hK _ _ xt ?_; clear hK K; (try simp only [pt]))
      (repeat (refine sq_take (v := ?_) rfl rfl ?_ ?_; rotate_left; (intro w' hx'; have hc' := hx'.cells.1; (try simp only [wcd] at hc'); go_simp; (first | done | with_reducible rfl)); (try simp only [pt])))
      have hxx : Ext w2 w3 := xt
      have hO3 := hO2.ext hxx
      have hll : (List.take (m.length + 1) (cl m ++ [((0 : Int), (⟨false, []⟩ : Z))]) ++ List.take ((cl m ++ [((0 : Int), (⟨false, []⟩ : Z))]).length - (m.length + 1)) (List.drop m.length (cl m ++ [((0 : Int), (⟨false, []⟩ : Z))]))).length = m.length + 1 := by
        simp only [List.length_append, List.length_take, List.length_drop, List.length_singleton, HL.out]
        omega
      obtain ⟨B3, d3, q0, q1, q2, -, -⟩ := own_at hO3 (k := m.length) (by rw [hll]; omega)
      have hfz := fun o => Own.frz hO3 o
      have p3 := own_put3 (p := (x, cz z.v)) hO3 (k := m.length) (by rw [hll]; omega) hi (hN4.widen (Y := fun c => base ≤ c ∧ c ≠ g1) fun c hc _ => by simp only [wsz] at hc; exact ⟨by omega, by omega⟩)
      have hsh := shift_set (cl m) m.length (by rw [HL.out]; omega) ((0 : Int), (⟨false, []⟩ : Z)) (x, cz z.v)
      rw [hsh] at p3
      have hfin : (cl m).take m.length ++ (x, cz z.v) :: (cl m).drop m.length = cl (lay m (x, z.v)) := by
        rw [lay_put (p := (x, z.v)) hk hge Hlay.out]
        simp only [cl, List.map_append, List.map_cons, List.map_take, List.map_drop]
      rw [hfin] at p3
      clear hsh hfin hll
      (refine sq_last rfl rfl fun K hK => ?_; go_simp; refine hK _ _ ?_; clear hK K)
      go_wp2_with fail
      go_ret
      exact ⟨_, rfl, p3, grown_set (grown_set (grown_set (grown_then hgw2 hxx) hg1ne.2 _ _) hg1ne.2 _ _) hg1ne.2 _ _⟩

end Go.Proofs.YthmjgbkakjpfkaaGreatDoor
