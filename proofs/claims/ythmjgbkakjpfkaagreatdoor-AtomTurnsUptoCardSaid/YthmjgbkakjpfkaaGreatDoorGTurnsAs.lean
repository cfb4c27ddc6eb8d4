/- Rows of parts of the call's own. No conditions. Rows of parts, and rows that are written. No conditions. slices.Clone of parts. No conditions. copy(l[k+1:], l[k:]) in a row of the call's own. No conditions. slices.IndexFunc at values, and what Eval hands it. No conditions. slices.DeleteFunc at parts, and what Without hands it. No conditions. -/
import Derived.Test.YthmjgbkakjpfkaaGreatDoorGTurnsAd
import Derived.Test.YthmjgbkakjpfkaaGreatDoorGTurnsAg
import Derived.Test.YthmjgbkakjpfkaaGreatDoorGTurnsAr
import Derived.Test.YthmjgbkakjpfkaaGreatDoorGTurnsAc
import Derived.Test.YthmjgbkakjpfkaaGreatDoorGTurnsAa
import Derived.Shelf.Abstract
namespace Go.Proofs.YthmjgbkakjpfkaaGreatDoor
open Go.RowKit

abbrev El := (Int × Z) × (Option Addr × Nat)
def encP (x : El) : List Value := [.int .i64 x.1.1, .bool x.1.2.neg, .slice x.2.1 x.1.2.mag.length x.2.2]
instance : Inhabited El := ⟨((0, ⟨false, []⟩), (none, 0))⟩
def ElOk (w : World) (X : Nat → Prop) (x : El) : Prop := i64 x.1.1 ∧ Nl w X x.2.1 x.2.2 x.1.2.mag

theorem fl_els {w : World} {X : Nat → Prop} : ∀ {l : List (Int × Z)} {xs : List Value}, Fl 3 EP w X xs l → ∃ els : List El, els.map Prod.fst = l ∧ xs = els.flatMap encP ∧ ∀ x ∈ els, ElOk w X x
  | [], xs, h => ⟨[], rfl, by have := h.1; simp at this; simp [this], by simp⟩
  | p :: l, xs, h => by
    obtain ⟨A, c, h1, h2, h3⟩ := h.2 0 (by simp); simp only [Nat.zero_mul, List.drop_zero, List.getElem_cons_zero] at h1 h2 h3
    have hlen : xs.length = 3 + l.length * 3 := by rw [h.1, List.length_cons, Nat.add_mul]; omega
    obtain ⟨els, e1, e2, e3⟩ := fl_els (l := l) (xs := xs.drop 3) ⟨by rw [List.length_drop]; omega, fun i hi => by
      have := h.2 (i + 1) (by simp; omega); rw [List.drop_drop]; rw [Nat.add_mul, Nat.one_mul, Nat.add_comm] at this
      exact this⟩
    refine ⟨((p.1, p.2), (A, c)) :: els, by simp [e1], ?_, fun x hx => ?_⟩
    · rw [List.flatMap_cons, ← e2]
      show xs = [.int .i64 p.1, .bool p.2.neg, .slice A p.2.mag.length c] ++ xs.drop 3
      rw [← h1, List.take_append_drop]
    · rcases List.mem_cons.1 hx with rfl | hx
      · exact ⟨h2, h3⟩
      · exact e3 x hx
theorem fl_of_els {w : World} {X : Nat → Prop} : ∀ {els : List El}, (∀ x ∈ els, ElOk w X x) → Fl 3 EP w X (els.flatMap encP) (els.map Prod.fst)
  | [], _ => Fl.nil _ _
  | x :: els, h => by
    have h1 := fl_of_els (els := els) fun y hy => h y (by simp [hy])
    obtain ⟨h2, h3⟩ := h x (by simp); have h4 : Fl 3 EP w X (encP x) [x.1] := Fl.one ⟨x.2.1, x.2.2, rfl, h2, h3⟩ rfl; have := h4.append h1
    simpa using this
theorem flat_at : ∀ (els : List El) (t : Nat), (els.flatMap encP)[t]? = if t < els.length * 3 then some (encP els.toArray[t / 3]!)[t % 3]! else none
  | [], t => by simp
  | x :: els, t => by
    rw [List.flatMap_cons]; have hl : (encP x).length = 3 := rfl
    by_cases h : t < 3
    · rw [List.getElem?_append_left (by omega), if_pos (by simp; omega)]
      have h1 : t / 3 = 0 := by omega
      have h2 : t % 3 = t := by omega
      rw [h1, h2]; simp only [List.size_toArray, List.length_cons, Nat.zero_lt_succ, getElem!_pos, List.getElem_toArray, List.getElem_cons_zero]; rw [List.getElem?_eq_getElem (by omega), getElem!_pos (encP x) t (by omega)]
    · rw [List.getElem?_append_right (by omega), hl, flat_at els (t - 3)]
      have e1 : t / 3 = (t - 3) / 3 + 1 := by omega
      have e2 : t % 3 = (t - 3) % 3 := by omega
      rw [e1, e2]
      by_cases h3 : t - 3 < els.length * 3
      · rw [if_pos h3, if_pos (by simp; omega)]
        have h4 : (t - 3) / 3 < els.length := by omega
        congr 2
        rw [getElem!_pos els.toArray _ (by simpa using h4), getElem!_pos (x :: els).toArray _ (by simp; omega)]; simp
      · rw [if_neg h3, if_neg (by simp; omega)]

theorem wpList_appp1 {w : World} {ops : Array Oper} {rest : List Oper} {o : Oper} {a : Act} {Q : Exit → Act → World → Prop} (s x : Operand) {Zp : Nat → Prop} {base : Nat} {v : Value} {l : List (Int × Z)} {p : Int} {z : Z} {A : Option Addr} {c : Nat}
    (h : Own 3 EP w Zp base 37 v l) (hi : i64 p) (hN : Nl w (fun b => Zp b ∧ v.ownBlock ≠ some b) A c z.mag) (hl : l.length ≤ 2199023255552) (hbase : base ≤ w.heap.size)
    (hgd : o.guard = none) (ho : o.op = .call { callee := .builtin .append, args := #[s, x], argTypes := #[25, 25] }) (hs : a.eval s = v) (hx : a.eval x = .slice (some ⟨w.heap.size, 0, none⟩) 1 1)
    (H : ∀ v' w', Own 3 EP w' Zp base 37 v' (l ++ [(p, z)]) → (w.alloc (.cells #[.int .i64 p, .bool z.neg, .slice A z.mag.length c] 37)).grownBy w' v.ownBlock →
      (v'.ownBlock = v.ownBlock ∨ v'.ownBlock = some (w.heap.size + 1)) → wpList Tryz.prog ops Q rest (a.put o.dst v') w') :
    wpList Tryz.prog ops Q (o :: rest) a (w.alloc (.cells #[.int .i64 p, .bool z.neg, .slice A z.mag.length c] 37)) := by
  refine wpList_app (m := [(p, z)]) ety_p s x (Own.ext h ((Ext.refl w).alloc _)) (Fl.one (cs := [.int .i64 p, .bool z.neg, .slice A z.mag.length c]) ⟨A, c, rfl, hi, hN.ext ((Ext.refl w).alloc _)⟩ rfl) (fun _ => ⟨_, _, rfl, fun j u hu => ?_⟩) ?_ ?_ ?_ hgd ho hs hx fun v' w' h1 h2 h3 => H v' w' h1 h2 (by simpa using h3)
  · rw [World.cell?_alloc_at (hn := rfl)]
    match j, hu with
    | 0, hu => simpa using hu
    | 1, hu => simpa using hu
    | 2, hu => simpa using hu
  · simp only [List.length_cons, List.length_nil]; omega
  · simp only [List.length_cons, List.length_nil, maxLen]; omega
  · simp only [World.size_alloc]; omega

abbrev Spp (w : World) (v : Value) : Prop := Spz 3 (.agg #[.int .i64 0, .bool false, .slice none 0 0]) w v
theorem wpList_apppz {w : World} {ops : Array Oper} {rest : List Oper} {o : Oper} {a : Act} {Q : Exit → Act → World → Prop} (s x : Operand) {Zp : Nat → Prop} {base : Nat} {v : Value} {l : List (Int × Z)} {p : Int} {z : Z} {A : Option Addr} {c : Nat}
    (h : Own 3 EP w Zp base 37 v l) (hsp : Spp w v) (hi : i64 p) (hN : Nl w (fun b => Zp b ∧ v.ownBlock ≠ some b) A c z.mag) (hl : l.length ≤ 2199023255552) (hbase : base ≤ w.heap.size)
    (hgd : o.guard = none) (ho : o.op = .call { callee := .builtin .append, args := #[s, x], argTypes := #[25, 25] }) (hs : a.eval s = v) (hx : a.eval x = .slice (some ⟨w.heap.size, 0, none⟩) 1 1)
    (H : ∀ v' w', Own 3 EP w' Zp base 37 v' (l ++ [(p, z)]) → Spp w' v' → (w.alloc (.cells #[.int .i64 p, .bool z.neg, .slice A z.mag.length c] 37)).grownBy w' v.ownBlock →
      (v'.ownBlock = v.ownBlock ∨ v'.ownBlock = some (w.heap.size + 1)) → wpList Tryz.prog ops Q rest (a.put o.dst v') w') :
    wpList Tryz.prog ops Q (o :: rest) a (w.alloc (.cells #[.int .i64 p, .bool z.neg, .slice A z.mag.length c] 37)) := by
  refine wpList_appz (m := [(p, z)]) ety_p s x (Own.ext h ((Ext.refl w).alloc _)) (hsp.ext (fun k hk => (h.row k hk).2) ((Ext.refl w).alloc _)) (Fl.one (cs := [.int .i64 p, .bool z.neg, .slice A z.mag.length c]) ⟨A, c, rfl, hi, hN.ext ((Ext.refl w).alloc _)⟩ rfl) (fun _ => ⟨_, _, rfl, fun j u hu => ?_⟩) ?_ ?_ ?_ hgd ho hs hx fun v' w' h1 h4 h2 h3 => H v' w' h1 h4 h2 (by simpa using h3)
  · rw [World.cell?_alloc_at (hn := rfl)]
    match j, hu with
    | 0, hu => simpa using hu
    | 1, hu => simpa using hu
    | 2, hu => simpa using hu
  · simp only [List.length_cons, List.length_nil]; omega
  · simp only [List.length_cons, List.length_nil, maxLen]; omega
  · simp only [World.size_alloc]; omega

def TvF (w : World) (B : Nat) (r : Value) (t : T) : Prop :=
  ∃ A c C d, r = .agg #[.slice A t.ps.length c, .bool t.k.neg, .slice C t.k.mag.length d] ∧ Own 3 EP w (B ≤ ·) B 37 (.slice A t.ps.length c) t.ps ∧ Spp w (.slice A t.ps.length c) ∧ Nl w (B ≤ ·) C d t.k.mag
theorem TvF.tv {w : World} {B : Nat} {r : Value} {t : T} (h : TvF w B r t) : Tv w (B ≤ ·) r t := by
  obtain ⟨A, c, C, d, rfl, hO, _, hN⟩ := h; obtain ⟨A', c', e, hs⟩ := Own.sl hO (by omega) (X := (B ≤ ·)) (fun b hb => hb.elim id id)
  injection e with e1 e2 e3
  subst e1; subst e3
  exact ⟨A, c, C, d, rfl, hs, hN⟩
theorem TvF.keep {w w' : World} {B : Nat} {r : Value} {t : T} (h : TvF w B r t) (k : Kp (B ≤ ·) w w') : TvF w' B r t := by
  obtain ⟨A, c, C, d, rfl, hO, hS, hN⟩ := h; have hrow := hO.row; exact ⟨A, c, C, d, rfl, hO.keep (k.imp fun b hb => hb.elim id fun e => (hrow b e).1), hS.keep (fun b e => (hrow b e).2) (k.imp fun b e => (hrow b e).1), hN.keep k⟩
theorem TvF.ext {w w' : World} {B : Nat} {r : Value} {t : T} (h : TvF w B r t) (k : Ext w w') : TvF w' B r t := h.keep (.of_ext k)
theorem TvF.lower {w : World} {B B' : Nat} {r : Value} {t : T} (h : TvF w B r t) (hB : B' ≤ B) : TvF w B' r t := by
  obtain ⟨A, c, C, d, rfl, hO, hS, hN⟩ := h; exact ⟨A, c, C, d, rfl, (hO.lower hB).widen fun b hb _ => by omega, hS, hN.widen fun b hb _ => by omega⟩

end Go.Proofs.YthmjgbkakjpfkaaGreatDoor



namespace Go.Proofs.YthmjgbkakjpfkaaGreatDoor
open Go.RowKit

section
variable {α β : Type} {sz : Nat} {E : World → (Nat → Prop) → List Value → α → Prop} {E' : World → (Nat → Prop) → List Value → β → Prop}
theorem Own.conv {w : World} {Z1 Z2 : Nat → Prop} {base : Nat} {e : TypeId} {v : Value} {l : List α} (f : α → β) (h : Own sz E w Z1 base e v l) (hE : ∀ cs, ∀ a ∈ l, E w (fun b => Z1 b ∧ v.ownBlock ≠ some b) cs a → E' w (fun b => Z2 b ∧ v.ownBlock ≠ some b) cs (f a)) : Own sz E' w Z2 base e v (l.map f) := by
  obtain ⟨xs, h1, h2⟩ := h; refine ⟨xs, by rw [List.length_map]; exact h1, by rw [List.length_map]; exact h2.1, fun i hi => ?_⟩; rw [List.length_map] at hi; rw [List.getElem_map]; exact hE _ _ (List.getElem_mem hi) (h2.2 i hi)
end

def EPF (base : Nat) (w : World) (X : Nat → Prop) (cs : List Value) (a : Bool × (Int × Z)) : Prop := EP w (fun c => X c ∧ (a.1 = true → base ≤ c)) cs a.2
instance (base : Nat) : Stab (EPF base) :=
  ⟨fun h k => Stab.keep (E := EP) h fun b hb hl => k b hb.1 hl, fun h k => Stab.widen (E := EP) h fun b hb hl => ⟨k b hb.1 hl, hb.2⟩, fun h => Stab.one (E := EP) h⟩

set_option maxHeartbeats 400000 in
theorem clonep_c {A : Option Addr} {c : Nat} {l : List (Int × Z)} {w : World} {X : Nat → Prop} (h : Pl w X A c l) (hL : l.length ≤ 2199023255552) :
    Calls Tryz.prog 101 #[.slice A l.length c] w fun e w' => ∃ v', e = .returned v' ∧ Own 3 EP w' (fun b => X b ∧ b < w.heap.size) w.heap.size 37 v' l ∧ Spp w' v' ∧ Ext w w' := by
  have hn := fun (W : World) (A : Option Addr) (n c : Nat) => Lib.run_eql_slice_nil (P := Tryz.prog) W 25 37 A n c 0 0 Tryz.underlying25
  cases A with
  | none =>
    have h0 : l = [] := by
      rcases Nat.eq_zero_or_pos l.length with h0 | h0
      · exact List.eq_nil_of_length_eq_zero h0
      · obtain ⟨b, o, hA, _⟩ := h.2.2.1 h0
        cases hA
    subst h0
    go_enter Tryz.func101, Tryz.ntmps101
    go_wp2
    go_ret
    exact ⟨_, rfl, Own.nil _ _ _ _, Spz.nil _ _ _, Ext.refl _⟩
  | some ad =>
    have h1 : Pl w (fun b => X b ∧ b < w.heap.size) (some ad) c l := h.widen fun b hb hl => ⟨hb, hl⟩
    obtain ⟨xs, hf, hc⟩ := (h1.keep ((Kp.refl w).alloc (.cells #[] 37))).flat
    have hf2 : Fl 3 EP (w.alloc (.cells #[] 37)) (fun b => (X b ∧ b < w.heap.size) ∧ Value.ownBlock (.slice (some ⟨w.heap.size, 0, none⟩) 0 0) ≠ some b) xs l :=
      hf.widen fun b hb _ => ⟨hb, fun e => by injection e with e; simp only at e; omega⟩
    go_enter Tryz.func101, Tryz.ntmps101
    go_wp2_with (first
      | (at_builtin
         refine wpList_appz ety_p (.tmp 5) (.tmp 6) (base := w.heap.size) (Z := fun b => X b ∧ b < w.heap.size) (Own.empty w _ _ (Nat.le_refl _)) (Spz.empty _ _ _ _) hf2 (fun h0 => (hc h0).imp fun b h => h.imp fun o h => ⟨h.1, h.2.2⟩) (by simp; omega) (by simp [maxLen]; omega) (by simp) rfl rfl rfl rfl ?_
         intro v1 w2 hown hsp hg hat))
    go_ret
    exact ⟨v1, rfl, by simpa using hown, hsp, ((Ext.refl w).alloc _).grown hg (by simp [Value.ownBlock])⟩

theorem zero_zi (w : World) (X : Nat → Prop) : Zi w X (.agg #[.bool false, .slice none 0 0]) ⟨false, []⟩ := ⟨none, 0, rfl, Sl.nil0 _ _ _⟩
theorem zero_tv (w : World) (X : Nat → Prop) : Tv w X (.agg #[.slice none 0 0, .bool false, .slice none 0 0]) ⟨[], ⟨false, []⟩⟩ := ⟨none, 0, none, 0, rfl, Sl.nil0 _ _ _, Sl.nil0 _ _ _⟩

def flg (l : List (Int × Z)) (k : Nat) : List (Bool × (Int × Z)) := (l.take k).map (fun p => (true, p)) ++ (l.drop k).map fun p => (false, p)
theorem flg_len (l : List (Int × Z)) (k : Nat) : (flg l k).length = l.length := by
  rw [flg, List.length_append, List.length_map, List.length_map, List.length_take, List.length_drop]; omega
theorem flg_snd (l : List (Int × Z)) (k : Nat) : (flg l k).map Prod.snd = l := by
  rw [flg, List.map_append, List.map_map, List.map_map]
  show (l.take k).map id ++ (l.drop k).map id = l
  rw [List.map_id, List.map_id, List.take_append_drop]
theorem flg_get (l : List (Int × Z)) (k : Nat) (h : k < l.length) : (flg l k)[k]'(by rw [flg_len]; exact h) = (false, pth l k) := by
  simp only [flg]; rw [List.getElem_append_right (by simp; omega)]; simp [pth_eq l k h, Nat.min_eq_left (Nat.le_of_lt h)]
theorem flg_set (l : List (Int × Z)) (k : Nat) (h : k < l.length) : (flg l k).set k (true, pth l k) = flg l (k + 1) := by
  unfold flg; rw [List.set_append_right _ _ (by simp; omega), take_pth l k h, drop_pth l k h]; simp [Nat.min_eq_left (Nat.le_of_lt h)]

theorem step_norm {w W wr w4 : World} {v : Value} {b o1 o2 : Nat} {u1 u2 : Value} (kp : Kp (fun c => v.ownBlock ≠ some c) W wr) (hx : Ext w w4) (hxx : Ext wr w4) (hsr : W.heap.size ≤ wr.heap.size) (hv : v.ownBlock = some b) (hb : w.heap.size ≤ b) :
    Kp (fun c => v.ownBlock ≠ some c) W ((w4.setCell ⟨b, o1, none⟩ u1).setCell ⟨b, o2, none⟩ u2) ∧ Ext w ((w4.setCell ⟨b, o1, none⟩ u1).setCell ⟨b, o2, none⟩ u2) ∧ W.heap.size ≤ ((w4.setCell ⟨b, o1, none⟩ u1).setCell ⟨b, o2, none⟩ u2).heap.size :=
  ⟨((kp.ext hxx).setCell (fun h => h hv) _).setCell (fun h => h hv) _, (hx.setCell hb _).setCell hb _, by simp only [World.size_setCell]; exact Nat.le_trans hsr hxx.size⟩
theorem own_norm {w : World} {B base b n c k : Nat} {l : List (Int × Z)} {B4 : Option Addr} {d4 : Nat} (h : Own 3 (EPF B) w (fun _ => True) base 37 (.slice (some ⟨b, 0, none⟩) n c) (flg l k)) (hlt : k < l.length)
    (hN : Nl w (fun c => B ≤ c ∧ c ≠ b) B4 d4 (pth l k).2.mag) :
    Own 3 (EPF B) ((w.setCell ⟨b, k * 3 + 1, none⟩ (.bool (pth l k).2.neg)).setCell ⟨b, k * 3 + 2, none⟩ (.slice B4 (pth l k).2.mag.length d4)) (fun _ => True) base 37 (.slice (some ⟨b, 0, none⟩) n c) (flg l (k + 1)) := by
  have hkl : k < (flg l k).length := by rw [flg_len]; exact hlt
  have hg := flg_get l k hlt
  have p1 := Own.put h (k := k) (r := 1) (u := .bool (pth l k).2.neg) (a' := (false, pth l k)) hkl (by omega) (by
    rw [hg]; rintro cs ⟨A', c', rfl, hi', hN'⟩ _
    exact ⟨A', c', rfl, hi', hN'⟩)
  have e1 : (flg l k).set k (false, pth l k) = flg l k := by rw [← hg]; exact List.set_getElem_self _
  rw [e1] at p1
  have p2 := Own.put p1 (k := k) (r := 2) (u := .slice B4 (pth l k).2.mag.length d4) (a' := (true, pth l k)) hkl (by omega) (by
    rw [hg]; rintro cs ⟨A', c', rfl, hi', hN'⟩ _; refine ⟨B4, d4, rfl, hi', ?_⟩
    exact (hN.keep ((Kp.refl _).setCell (fun h => h.2 rfl) _)).widen fun c hc _ => ⟨⟨trivial, hc.2⟩, fun _ => hc.1⟩)
  rw [flg_set l k hlt] at p2; exact p2

end Go.Proofs.YthmjgbkakjpfkaaGreatDoor

namespace Go.Proofs.YthmjgbkakjpfkaaGreatDoor
open Go.RowKit

section
variable {α : Type} {sz : Nat} {E : World → (Nat → Prop) → List Value → α → Prop}
theorem run_copyn {P : Program} {t e : TypeId} {bytes : Nat} {z : Value} (T : Ety P t e sz bytes z) (w : World) (ty : TypeId) (g o dLen dCap : Nat) (a : Addr) (sLen sCap n : Nat) (cur : Array Value) (u : TypeId) (cs : List Value)
    (hg : w.heap[g]? = some (.cells cur u (0, 0))) (hn : n = Nat.min sLen dLen) (hc : cs.length = n * sz)
    (hsrc : ∀ j v, cs[j]? = some v → w.cell? (a.add j) = some v) (hfit : o + cs.length ≤ cur.size) (h1 : ∀ v ∈ cs, v.oneCell' = true) :
    (Builtin.copy_ #[t, t] ty #[.slice (some ⟨g, o, none⟩) dLen dCap, .slice (some a) sLen sCap]).run P w =
      .ok (goInt n) (w.setRow g (cur.toList.take o ++ (cs ++ cur.toList.drop (o + cs.length))).toArray) := by
  have hl := run_loadCells_list (P := P) w a cs hsrc; have hst := run_storeCells_at P g o u cs 0 cur w hg (by simpa using hfit) h1; obtain ⟨i, hi, hz, hsize, hby⟩ := info_parts T.info; subst hn; rw [hc] at hl; simp [Builtin.copy_, run_underlying T.under, Builtin.lenOf, Builtin.firstCells, sizeOf, typeInfo, hi, hsize, hl, hst]
theorem run_copyz {P : Program} {t e : TypeId} {bytes : Nat} {z : Value} (T : Ety P t e sz bytes z) (w : World) (ty : TypeId) (d a : Option Addr) (dLen dCap sLen sCap : Nat) (hn : Nat.min sLen dLen = 0) :
    (Builtin.copy_ #[t, t] ty #[.slice d dLen dCap, .slice a sLen sCap]).run P w = .ok (goInt 0) w := by
  obtain ⟨i, hi, hz, hsize, hby⟩ := info_parts T.info
  cases a <;> cases d <;> simp [Builtin.copy_, run_underlying T.under, Builtin.lenOf, Builtin.firstCells, sizeOf, typeInfo, hi, hn, loadCells, loadCellsFrom, storeCells]

theorem Own.shift [Stab E] {P : Program} {t e : TypeId} {bytes : Nat} {z : Value} (T : Ety P t e sz bytes z) {w : World} {Zp : Nat → Prop} {base g n cap k : Nat} {l : List α} (h : Own sz E w Zp base e (.slice (some ⟨g, 0, none⟩) n cap) l)
    (hk : k + 1 ≤ l.length) {dp : Option Addr} (hdp : k + 1 < l.length → dp = some ⟨g, (k + 1) * sz, none⟩) (dc sc : Nat) :
    ∃ w', (∀ ty, (Builtin.copy_ #[t, t] ty #[.slice dp (l.length - (k + 1)) dc, .slice (some ⟨g, k * sz, none⟩) (l.length - k) sc]).run P w = .ok (goInt (l.length - (k + 1) : Nat)) w') ∧
      Own sz E w' Zp base e (.slice (some ⟨g, 0, none⟩) n cap) (l.take (k + 1) ++ (l.drop k).take (l.length - (k + 1))) ∧ w.grownBy w' (some g) := by
  have hlen : (l.take (k + 1) ++ (l.drop k).take (l.length - (k + 1))).length = l.length := by
    rw [List.length_append, List.length_take, List.length_take, List.length_drop]; omega
  rcases Nat.eq_or_lt_of_le hk with hk0 | hk0
  · refine ⟨w, fun ty => ?_, ?_, World.grownBy.refl _ _⟩
    · rw [← hk0, Nat.sub_self]; exact run_copyz T w ty _ _ _ _ _ _ (Nat.min_zero _)
    · have e0 : l.take (k + 1) ++ (l.drop k).take (l.length - (k + 1)) = l := by rw [← hk0, Nat.sub_self, List.take_zero, List.append_nil, hk0, List.take_length]
      rw [e0]; exact h
  · obtain ⟨xs, h1, h2⟩ := h
    rcases h1.2 with ⟨hv, _⟩ | ⟨g', cap', cur, hv, hb, hg, hnc, hcm, hcs, htake⟩
    · cases hv
    · injection hv with e1 e2 e3
      injection e1 with e1
      injection e1 with e1
      subst e1; subst e3; subst e2
      rw [hdp hk0]
      have hm1 : (k + 1) * sz + (l.length - (k + 1)) * sz = l.length * sz := by rw [← Nat.add_mul]; congr 1; omega
      have hm2 : (k + 1) * sz = k * sz + sz := Nat.succ_mul k sz
      have hcm2 : l.length * sz ≤ cur.size := by rw [hcs]; exact Nat.mul_le_mul_right _ hnc
      have hpos := T.pos; have hxl := h2.1; have hfl := (h2.take (k + 1)).append ((h2.drop k).take (l.length - (k + 1)))
      have hcl : ((xs.drop (k * sz)).take ((l.length - (k + 1)) * sz)).length = (l.length - (k + 1)) * sz := by
        rw [List.length_take, List.length_drop]; omega
      have hrow : ∀ j u, xs[j]? = some u → w.cell? ⟨g, j, none⟩ = some u := fun j u hj => by
        have := h1.cells (g := g) rfl j u hj
        simpa [Addr.add_lit] using this
      refine ⟨_, fun ty => run_copyn T w ty g _ _ dc ⟨g, k * sz, none⟩ _ sc _ cur e ((xs.drop (k * sz)).take ((l.length - (k + 1)) * sz)) hg ?_ hcl ?_ ?_ ?_, ⟨xs.take ((k + 1) * sz) ++ (xs.drop (k * sz)).take ((l.length - (k + 1)) * sz), ⟨?_, .inr ⟨g, cap, _, ?_, hb, setRow_heap w g _ _ _ _ hg, ?_, hcm, ?_, ?_⟩⟩, ?_⟩, ⟨rfl, rfl, rfl, by simp, fun i _ hne => setRow_other w g i _ (fun e => hne (by rw [e]))⟩⟩
      · show _ = min _ _
        omega
      · intro j v hj; have hjl := (List.getElem?_eq_some_iff.1 hj).1; rw [hcl] at hjl; rw [List.getElem?_take_of_lt hjl, List.getElem?_drop] at hj; rw [Addr.add_lit]; exact hrow _ _ hj
      · rw [hcl]; omega
      · intro v hv; exact h2.ones T.pos v (List.mem_of_mem_drop (List.mem_of_mem_take hv))
      · exact hfl.1
      · rw [hlen]
      · rw [hlen]; exact hnc
      · simp only [List.size_toArray, List.length_append, List.length_take, List.length_drop, Array.length_toList]
        omega
      · rw [hlen, hcl, hm1]
        have e1 : cur.toList.take ((k + 1) * sz) = xs.take ((k + 1) * sz) := by
          rw [← htake, List.take_take, Nat.min_eq_left (by omega)]
        rw [e1]; rw [List.toList_toArray, ← List.append_assoc, List.take_append_of_le_length (by rw [List.length_append, hcl, List.length_take]; omega), List.take_of_length_le (by rw [List.length_append, hcl, List.length_take]; omega)]
      · refine hfl.keep fun b hb _ => setRow_other w g b _ fun e => hb.2 (by rw [e]; rfl)
end

section
variable {P : Program} {ops : Array Oper} {Q : Exit → Act → World → Prop} {L : Nat}
end

end Go.Proofs.YthmjgbkakjpfkaaGreatDoor

namespace Go.Proofs.YthmjgbkakjpfkaaGreatDoor
open Go.RowKit Go.Shelf

def ixv (o : Option Nat) : Int := o.elim (-1) fun i => (i : Int)
end Go.Proofs.YthmjgbkakjpfkaaGreatDoor

namespace Go.Proofs.YthmjgbkakjpfkaaGreatDoor
open Go.RowKit Go.Shelf

theorem own_at {w : World} {Zp : Nat → Prop} {base g n c k : Nat} {e : TypeId} {l : List (Int × Z)} (h : Own 3 EP w Zp base e (.slice (some ⟨g, 0, none⟩) n c) l) (hk : k < l.length) :
    ∃ B d, w.cell? ⟨g, k * 3, none⟩ = some (.int .i64 (pth l k).1) ∧ w.cell? ⟨g, k * 3 + 1, none⟩ = some (.bool (pth l k).2.neg) ∧ w.cell? ⟨g, k * 3 + 2, none⟩ = some (.slice B (pth l k).2.mag.length d) ∧ i64 (pth l k).1 ∧
      Nl w (fun b => Zp b ∧ b ≠ g) B d (pth l k).2.mag := by
  obtain ⟨xs, h1, h2⟩ := h; obtain ⟨B, d, hcs, hi, hN⟩ := h2.2 k hk; rw [← pth_eq l k hk] at hcs hi hN
  have hc : ∀ j u, xs[j]? = some u → w.cell? ⟨g, j, none⟩ = some u := fun j u hj => by
    have := h1.cells (g := g) rfl j u hj
    simpa [Addr.add_lit] using this
  have e0 := hc _ _ (nth_of_slice (l := [.int .i64 (pth l k).1, .bool (pth l k).2.neg, .slice B (pth l k).2.mag.length d]) hcs 0 (by simp)); have e1 := hc _ _ (nth_of_slice (l := [.int .i64 (pth l k).1, .bool (pth l k).2.neg, .slice B (pth l k).2.mag.length d]) hcs 1 (by simp)); have e2 := hc _ _ (nth_of_slice (l := [.int .i64 (pth l k).1, .bool (pth l k).2.neg, .slice B (pth l k).2.mag.length d]) hcs 2 (by simp)); exact ⟨B, d, e0, e1, e2, hi, hN.widen fun b hb _ => ⟨hb.1, fun e => hb.2 (by rw [e]; rfl)⟩⟩
theorem own_put3 {w : World} {Zp : Nat → Prop} {base g n c k : Nat} {e : TypeId} {l : List (Int × Z)} {p : Int × Z} {B : Option Addr} {d : Nat} (h : Own 3 EP w Zp base e (.slice (some ⟨g, 0, none⟩) n c) l) (hk : k < l.length) (hi : i64 p.1)
    (hN : Nl w (fun b => Zp b ∧ b ≠ g) B d p.2.mag) :
    Own 3 EP (((w.setCell ⟨g, k * 3, none⟩ (.int .i64 p.1)).setCell ⟨g, k * 3 + 1, none⟩ (.bool p.2.neg)).setCell ⟨g, k * 3 + 2, none⟩ (.slice B p.2.mag.length d)) Zp base e (.slice (some ⟨g, 0, none⟩) n c) (l.set k p) := by
  have p0 := Own.put h (k := k) (r := 0) (u := .int .i64 p.1) (a' := (p.1, l[k].2)) hk (by omega) (by
    rintro cs ⟨A', c', rfl, hi', hN'⟩ _
    exact ⟨A', c', rfl, hi, hN'⟩)
  have h1 : k < (l.set k (p.1, l[k].2)).length := by rw [List.length_set]; exact hk
  have e1 : (l.set k (p.1, l[k].2))[k] = (p.1, l[k].2) := List.getElem_set_self _
  have p1 := Own.put p0 (k := k) (r := 1) (u := .bool p.2.neg) (a' := (p.1, ⟨p.2.neg, l[k].2.mag⟩)) h1 (by omega) (by
    rw [e1]; rintro cs ⟨A', c', rfl, hi', hN'⟩ _
    exact ⟨A', c', rfl, hi, hN'⟩)
  rw [List.set_set] at p1
  have h2 : k < (l.set k (p.1, (⟨p.2.neg, l[k].2.mag⟩ : Z))).length := by rw [List.length_set]; exact hk
  have p2 := Own.put p1 (k := k) (r := 2) (u := .slice B p.2.mag.length d) (a' := p) h2 (by omega) (by
    rw [List.getElem_set_self]; rintro cs ⟨A', c', rfl, hi', hN'⟩ _
    exact ⟨B, d, rfl, hi, (hN.keep ((Kp.refl w).setCell (fun h => h.2 rfl) _)).keep ((Kp.refl _).setCell (fun h => h.2 rfl) _)⟩)
  rw [List.set_set] at p2; exact p2

theorem zero_one (m : Nat) : ∀ v ∈ (Builtin.zeroCells (Value.cells (.agg #[.int .i64 0, .bool false, .slice none 0 0])) m).toList, v.oneCell' = true := by
  intro v hv; simp only [Builtin.zeroCells, Array.toList_map, List.mem_map] at hv; obtain ⟨i, _, rfl⟩ := hv; have hsz : (Value.cells (.agg #[.int .i64 0, .bool false, .slice none 0 0])).size = 3 := rfl; rw [hsz]; have : i % 3 < 3 := Nat.mod_lt _ (by omega)
  rcases (by omega : i % 3 = 0 ∨ i % 3 = 1 ∨ i % 3 = 2) with e | e | e <;> rw [e] <;> rfl

set_option maxHeartbeats 400000 in
theorem without1_c {W : World} {g : Nat} {x p : Int} {b n : Value} (hg : W.cell? ⟨g, 0, none⟩ = some (.int .i64 x)) (hl : g < W.heap.size) :
    Calls Tryz.prog 150 #[.agg #[.int .i64 p, b, n], .pointer (some ⟨g, 0, none⟩)] W fun e w' => e = .returned (.bool (p == x)) ∧ Ext W w' := by
  go_enter Tryz.func150, Tryz.ntmps150
  go_wp2
  all_goals (go_ret; exact ⟨by simp_all, xt⟩)

set_option maxHeartbeats 800000 in
theorem indexp_c {w : World} {X : Nat → Prop} {A : Option Addr} {c : Nat} {l : List (Int × Z)} {g : Nat} {x : Int} (h : Pl w X A c l) (hg : w.cell? ⟨g, 0, none⟩ = some (.int .i64 x)) (hgl : g < w.heap.size) :
    Calls Tryz.prog 162 #[.slice A l.length c, .func (.func 150) #[] #[.pointer (some ⟨g, 0, none⟩)]] w fun e w' => e = .returned (.int .i64 (ixv (ix l x))) ∧ Ext w w' := by
  have hm := h.2.1; have hlc := h.1
  simp only [maxLen] at hm
  have eg : ∀ args w, (callFunc 150 args).run Tryz.prog w = .ok (.enter 150 args) w := enters_of Tryz.func150 (by kernel_rfl) rfl
  go_enter Tryz.func162, Tryz.ntmps162
  go_wp2_with fail
  go_loopw [8] (fun iv wr => ∃ k : Nat, k ≤ l.length ∧ iv = .int .i64 k ∧ Hid (∀ i (h : i < l.length), i < k → l[i].1 ≠ x) ∧ Ext w wr) (fun iv _ => l.length - (intOf iv).toNat)
  case atStart => exact ⟨0, Nat.zero_le _, rfl, Lib.hid fun _ _ h => absurd h (Nat.not_lt_zero _), xt⟩
  case round =>
    obtain ⟨k, hk, rfl, hno, hx⟩ := hrel
    by_cases hlt : k < l.length
    · obtain ⟨b, o, B', d', rfl, hX, hc0, hc1, hc2, hi, hN⟩ := (h.ext hx).at_ hlt; have hb := World.block_lt_of_cell? _ _ hc0
      have kl : (k : Int) < (l.length : Int) := by omega
      have hgr := (hx.cells.1 g 0 hgl).trans hg; have hgl' := Nat.lt_of_lt_of_le hgl hx.size
      have hcall := without1_c (p := (pth l k).1) (b := .bool (pth l k).2.neg) (n := .slice B' (pth l k).2.mag.length d') hgr hgl'
      clear hg hgr
      by_cases he : (pth l k).1 = x
      · have e1 : ((pth l k).1 == x) = true := by rw [he]; exact beq_self_eq_true _
        rw [e1] at hcall
        have He := Lib.hid he; clear he e1
        go_wp2_with (first | (go_at_fn 150; refine hcall.mono ?_; rintro e w1 ⟨rfl, hx1⟩) | fail)
        go_ret
        refine ⟨ret_int ?_, hx.trans xt⟩; rw [ix_step l x k hno.out, drop_pth l k hlt]; simp [ix, He.out, ixv]
      · have e1 : ((pth l k).1 == x) = false := by rw [beq_eq_false_iff_ne]; exact he
        rw [e1] at hcall
        have He := Lib.hid he; clear he e1
        go_wp2_with (first | (go_at_fn 150; refine hcall.mono ?_; rintro e w1 ⟨rfl, hx1⟩) | fail)
        go_roundw
        case rel =>
          refine ⟨k + 1, by omega, by go_num, Lib.hid fun i hil hik => ?_, hx.trans xt⟩
          by_cases e : i = k
          · subst e; rw [← pth_eq l i hil]; exact He.out
          · exact hno.out i hil (by omega)
        case measure => simp [intOf] <;> omega
    · obtain rfl : k = l.length := by omega
      go_wp2_with fail
      go_ret
      refine ⟨ret_int ?_, hx.trans xt⟩; rw [ix_step l x l.length hno.out, List.drop_length]
      rfl

def wo (x : Int) (l : List (Int × Z)) : List (Int × Z) := l.filter fun p => p.1 != x
theorem wo_none {l : List (Int × Z)} {x : Int} (h : ix l x = none) : wo x l = l := by
  unfold wo; rw [List.filter_eq_self]
  induction l with
  | nil => simp
  | cons p l ih =>
    unfold ix at h
    by_cases e : p.1 = x
    · rw [if_pos e] at h; cases h
    · rw [if_neg e] at h; intro q hq
      rcases List.mem_cons.1 hq with rfl | hq
      · simpa using e
      · exact ih (by simpa using h) q hq
theorem wo_first {l : List (Int × Z)} {x : Int} {i : Nat} (h : ix l x = some i) : i < l.length ∧ wo x (l.take (i + 1)) = l.take i := by
  induction l generalizing i with
  | nil => simp [ix] at h
  | cons p l ih =>
    unfold ix at h
    by_cases e : p.1 = x
    · rw [if_pos e] at h
      injection h with h
      subst h; exact ⟨by simp, by simp [wo, e]⟩
    · rw [if_neg e] at h
      rcases h2 : ix l x with _ | j
      · rw [h2] at h; simp at h
      · rw [h2] at h; simp only [Option.map_some, Option.some.injEq] at h; subst h; obtain ⟨h3, h4⟩ := ih h2; refine ⟨by simp; omega, ?_⟩; rw [List.take_succ_cons, List.take_succ_cons, ← h4]; unfold wo; rw [List.filter_cons, if_pos (by simpa using e)]
theorem wo_hit {l : List (Int × Z)} {x : Int} {j : Nat} (h : j < l.length) (he : (pth l j).1 = x) : wo x (l.take (j + 1)) = wo x (l.take j) := by
  rw [take_pth l j h, wo, List.filter_append, wo]; simp [he]
theorem wo_keep {l : List (Int × Z)} {x : Int} {j : Nat} (h : j < l.length) (he : (pth l j).1 ≠ x) : wo x (l.take (j + 1)) = wo x (l.take j) ++ [pth l j] := by
  rw [take_pth l j h, wo, List.filter_append, wo]; simp [he]
theorem set_take (r : List (Int × Z)) (i : Nat) (p : Int × Z) (h : i < r.length) : (r.set i p).take (i + 1) = r.take i ++ [p] := by
  rw [List.take_succ_eq_append_getElem (by rw [List.length_set]; exact h), List.getElem_set_self]
  congr 1
  apply List.ext_getElem?
  intro k
  by_cases hk : k < i
  · rw [List.getElem?_take_of_lt hk, List.getElem?_take_of_lt hk, List.getElem?_set_ne (by omega)]
  · rw [List.getElem?_take_eq_none (by omega), List.getElem?_take_eq_none (by omega)]
theorem set_drop (r : List (Int × Z)) (i j : Nat) (p : Int × Z) (h : i < j) : (r.set i p).drop j = r.drop j := by
  apply List.ext_getElem?
  intro k; rw [List.getElem?_drop, List.getElem?_drop, List.getElem?_set_ne (by omega)]

set_option maxHeartbeats 1600000 in
theorem delf_c {w : World} {Zp : Nat → Prop} {base gx : Nat} {v : Value} {l : List (Int × Z)} {x : Int} (hO : Own 3 EP w Zp base 37 v l) (hg : w.cell? ⟨gx, 0, none⟩ = some (.int .i64 x)) (hgl : gx < w.heap.size) (hne : v.ownBlock ≠ some gx) (_hL : l.length ≤ 1099511627776) :
    Calls Tryz.prog 149 #[v, .func (.func 150) #[] #[.pointer (some ⟨gx, 0, none⟩)]] w fun e w' => ∃ v', e = .returned v' ∧ Own 3 EP w' Zp base 37 v' (wo x l) ∧ w.grownBy w' v.ownBlock := by
  obtain ⟨A, c, rfl, hs⟩ := Own.sl hO (by omega) (X := fun c => Zp c ∨ base ≤ c) (fun c hc => hc); have hs : Pl w (fun c => Zp c ∨ base ≤ c) A c l := hs
  have hcl := hs.1; have hcm := hs.2.1
  simp only [maxLen] at hcm; have hidx := indexp_c (x := x) hs hg hgl
  have eg : ∀ args w, (callFunc 150 args).run Tryz.prog w = .ok (.enter 150 args) w := enters_of Tryz.func150 (by kernel_rfl) rfl
  rcases hix : ix l x with _ | i0
  · rw [hix, show ixv none = -1 from rfl] at hidx; have hw := Lib.hid (wo_none hix); clear hix
    go_enter Tryz.func149, Tryz.ntmps149
    go_wp2_with fail
    refine hidx.mono ?_; rintro e w1 ⟨rfl, hx1⟩
    go_wp2_with fail
    go_ret
    refine ⟨_, rfl, ?_, ext_then hx1 (World.grownBy.refl _ _)⟩; rw [hw.out]; exact hO.ext hx1
  · rw [hix, show ixv (some i0) = (i0 : Int) from rfl] at hidx; obtain ⟨hi0, hw0⟩ := wo_first hix; have HW := Lib.hid hw0; clear hix hw0; obtain ⟨g, o, B, d, rfl, _, hcc0, _, _, _, _⟩ := hs.at_ hi0; obtain ⟨rfl, -, hbb, hbw⟩ := hO.adr
    have hgne : gx ≠ g := fun e => hne (by rw [e]; rfl)
    have hne1 : ((i0 : Int) == -1) = false := by rw [beq_eq_false_iff_ne]; omega
    have hw0' := w64n (n := i0) (by omega); clear hcc0
    go_enter Tryz.func149, Tryz.ntmps149
    go_wp2_with fail
    refine hidx.mono ?_; rintro e w1 ⟨rfl, hx1⟩; have hO1 := hO.ext hx1; have hg1 := (hx1.cells.1 gx 0 hgl).trans hg; have hgl1 := Nat.lt_of_lt_of_le hgl hx1.size; clear hg
    go_wp2_with fail
    go_loopw [5, 6] (fun iv jv wr => ∃ i j : Nat, ∃ r : List (Int × Z), iv = .int .i64 i ∧ jv = .int .i64 j ∧ i < j ∧ j ≤ l.length ∧ Hid (r.length = l.length) ∧ Hid (r.take i = wo x (l.take j)) ∧ Hid (r.drop j = l.drop j) ∧
      Own 3 EP wr Zp base 37 (.slice (some ⟨g, 0, none⟩) l.length c) r ∧ w1.grownBy wr (some g)) (fun _ jv _ => l.length - (intOf jv).toNat)
    case atStart =>
      exact ⟨i0, i0 + 1, l, rfl, by go_num, by omega, by omega, Lib.hid rfl, Lib.hid HW.out.symm, Lib.hid rfl, hO1, World.grownBy.refl _ _⟩
    case round =>
      obtain ⟨i, j, r, rfl, rfl, hij, hj, hrl, hrt, hrd, hOr, hgr⟩ := hrel; have hgx := (grown_cell (o := 0) hgr hgl1 hgne).trans hg1; have hgxl := World.block_lt_of_cell? _ _ hgx; have hgl' : gx < wr.heap.size := hgxl
      by_cases hlt : j < l.length
      · have hjr : j < r.length := by rw [hrl.out]; exact hlt
        have hpe : pth r j = pth l j := by
          have h1 := hrd.out; rw [drop_pth r j hjr, drop_pth l j hlt] at h1
          injection h1
        obtain ⟨B', d', hc0, hc1, hc2, hi64, hN⟩ := own_at hOr hjr; rw [hpe] at hc0 hc1 hc2 hi64 hN; have HP := Lib.hid hpe; clear hpe; have hgw := World.block_lt_of_cell? _ _ hc0; have hgw : g < wr.heap.size := hgw
        have jl : (j : Int) < (l.length : Int) := by omega
        have il : (i : Int) < (l.length : Int) := by omega
        have il2 : i < l.length := by omega
        have jw := w64n (n := j) (by omega); have iw := w64n (n := i) (by omega)
        have hcall := fun (W : World) (hW : Ext wr W) => without1_c (p := (pth l j).1) (b := .bool (pth l j).2.neg) (n := .slice B' (pth l j).2.mag.length d') ((hW.cells.1 gx 0 hgl').trans hgx) (Nat.lt_of_lt_of_le hgl' hW.size)
        clear hgx hgxl hg1
        by_cases he : (pth l j).1 = x
        · have e1 : ((pth l j).1 == x) = true := by rw [he]; exact beq_self_eq_true _
          simp only [e1] at hcall
          have He := Lib.hid he; clear he e1
          go_wp2_with (first | (go_at_fn 150; refine (hcall _ xt).mono ?_; rintro e w3 ⟨rfl, hx3⟩) | fail)
          go_roundw
          case rel => exact ⟨i, j + 1, r, rfl, by go_num, by omega, by omega, hrl, Lib.hid (hrt.out.trans (wo_hit hlt He.out).symm), Lib.hid (by rw [← List.drop_drop, hrd.out, List.drop_drop]), hOr.ext xt, grown_then hgr xt⟩
          case measure => simp [intOf] <;> omega
        · have e1 : ((pth l j).1 == x) = false := by rw [beq_eq_false_iff_ne]; exact he
          simp only [e1] at hcall
          have He := Lib.hid he; clear he e1
          have hir : i < r.length := by rw [hrl.out]; exact il2
          go_wp2_with (first
            | (go_at_fn 150
               refine (hcall _ xt).mono ?_; rintro e w3 ⟨rfl, hx3⟩; have bp := Box.ext (g := wr.heap.size) (Box.new_at _ _ _ rfl) hx3; have bpr := bp.rules; have bpl := bp.lt; have hxx : Ext wr w3 := xt; have hO3 := hOr.ext hxx; obtain ⟨B3, d3, q0, q1, q2, _, _⟩ := own_at hO3 hir
               have hfz := fun o => Own.frz hO3 o)
            | fail)
          have p3 := own_put3 hO3 hir hi64 (hN.ext hxx)
          go_roundw
          case rel =>
            refine ⟨i + 1, j + 1, r.set i (pth l j), by go_num, by go_num, by omega, by omega, Lib.hid (by rw [List.length_set]; exact hrl.out), Lib.hid ?_, Lib.hid ?_, p3, ?_⟩
            · rw [set_take r i _ hir, hrt.out, wo_keep hlt He.out]
            · rw [set_drop r i (j + 1) _ (by omega), ← List.drop_drop, hrd.out, List.drop_drop]
            · exact grownBy_store (grownBy_store (grownBy_store (grown_then hgr hxx) _ _) _ _) _ _
          case measure => simp [intOf] <;> omega
      · obtain rfl : j = l.length := by omega
        have hir : i < r.length := by rw [hrl.out]; exact hij
        obtain ⟨w4, hrun, hO4, hg4⟩ := Own.clear ety_p hOr hir zero_one (c - i); rw [hrl.out] at hrun
        have il : (i : Int) < (l.length : Int) := by omega
        have ic : (i : Int) ≤ (c : Int) := by omega
        have iw := w64n (n := i) (by omega); have hrow := hrt.out; rw [List.take_length] at hrow; rw [hrow] at hO4; clear hrow
        go_wp2_with (first
          | (at_builtin
             refine wpList_clear (.tmp 38) rfl rfl rfl hrun ?_)
          | fail)
        go_ret
        exact ⟨_, rfl, hO4, ext_then hx1 (grown_both hgr hg4)⟩

end Go.Proofs.YthmjgbkakjpfkaaGreatDoor
