/- Rows of parts of the call's own. No conditions. -/
import Derived.Test.YtbblgjjomgipfaaPart
import Derived.Test.YtbblgjjomgipfaaSpare
namespace Go.Proofs.Ytbblgjjomgipfaa
open Go.RowKit

/-- A part and where its limbs lie. -/
abbrev El := (Int × Z) × (Option Addr × Nat)
def encP (x : El) : List Value := [.int .i64 x.1.1, .bool x.1.2.neg, .slice x.2.1 x.1.2.mag.length x.2.2]
instance : Inhabited El := ⟨((0, ⟨false, []⟩), (none, 0))⟩
def pthE (l : List El) (k : Nat) : El := l.getD k ((0, ⟨false, []⟩), (none, 0))
theorem pthE_eq (l : List El) (k : Nat) (h : k < l.length) : pthE l k = l[k] := by simp [pthE, h]
def ElOk (w : World) (X : Nat → Prop) (x : El) : Prop := i64 x.1.1 ∧ Nl w X x.2.1 x.2.2 x.1.2.mag

theorem fl_els {w : World} {X : Nat → Prop} : ∀ {l : List (Int × Z)} {xs : List Value}, Fl 3 EP w X xs l → ∃ els : List El, els.map Prod.fst = l ∧ xs = els.flatMap encP ∧ ∀ x ∈ els, ElOk w X x
  | [], xs, h => ⟨[], rfl, by have := h.1; simp at this; simp [this], by simp⟩
  | p :: l, xs, h => by
    obtain ⟨A, c, h1, h2, h3⟩ := h.2 0 (by simp)
    simp only [Nat.zero_mul, List.drop_zero, List.getElem_cons_zero] at h1 h2 h3
    have hlen : xs.length = 3 + l.length * 3 := by rw [h.1, List.length_cons, Nat.add_mul]; omega
    obtain ⟨els, e1, e2, e3⟩ := fl_els (l := l) (xs := xs.drop 3) ⟨by rw [List.length_drop]; omega, fun i hi => by
      have := h.2 (i + 1) (by simp; omega)
      rw [List.drop_drop]
      rw [Nat.add_mul, Nat.one_mul, Nat.add_comm] at this
      exact this⟩
    refine ⟨((p.1, p.2), (A, c)) :: els, by simp [e1], ?_, fun x hx => ?_⟩
    · rw [List.flatMap_cons, ← e2]
      show xs = [.int .i64 p.1, .bool p.2.neg, .slice A p.2.mag.length c] ++ xs.drop 3
      rw [← h1, List.take_append_drop]
    · rcases List.mem_cons.1 hx with rfl | hx
      · exact ⟨h2, h3⟩
      · exact e3 x hx
theorem fl_of_els {w : World} {X : Nat → Prop} : ∀ {els : List El}, (∀ x ∈ els, ElOk w X x) → Fl 3 EP w X (els.flatMap encP) (els.map Prod.fst)
  | [], _ => Fl.nil _ _
  | x :: els, h => by
    have h1 := fl_of_els (els := els) fun y hy => h y (by simp [hy])
    obtain ⟨h2, h3⟩ := h x (by simp)
    have h4 : Fl 3 EP w X (encP x) [x.1] := Fl.one ⟨x.2.1, x.2.2, rfl, h2, h3⟩ rfl
    have := h4.append h1
    simpa using this
theorem flat_at : ∀ (els : List El) (t : Nat), (els.flatMap encP)[t]? = if t < els.length * 3 then some (encP els.toArray[t / 3]!)[t % 3]! else none
  | [], t => by simp
  | x :: els, t => by
    rw [List.flatMap_cons]
    have hl : (encP x).length = 3 := rfl
    by_cases h : t < 3
    · rw [List.getElem?_append_left (by omega), if_pos (by simp; omega)]
      have h1 : t / 3 = 0 := by omega
      have h2 : t % 3 = t := by omega
      rw [h1, h2]
      simp only [List.size_toArray, List.length_cons, Nat.zero_lt_succ, getElem!_pos, List.getElem_toArray, List.getElem_cons_zero]
      rw [List.getElem?_eq_getElem (by omega), getElem!_pos (encP x) t (by omega)]
    · rw [List.getElem?_append_right (by omega), hl, flat_at els (t - 3)]
      have e1 : t / 3 = (t - 3) / 3 + 1 := by omega
      have e2 : t % 3 = (t - 3) % 3 := by omega
      rw [e1, e2]
      by_cases h3 : t - 3 < els.length * 3
      · rw [if_pos h3, if_pos (by simp; omega)]
        have h4 : (t - 3) / 3 < els.length := by omega
        congr 2
        rw [getElem!_pos els.toArray _ (by simpa using h4), getElem!_pos (x :: els).toArray _ (by simp; omega)]
        simp
      · rw [if_neg h3, if_neg (by simp; omega)]

theorem set_bool : ∀ (els : List El) (k : Nat) (z : Z) (A : Option Addr) (c : Nat), k < els.length → ∀ p, p = (pthE els k).1.1 →
    ((els.flatMap encP).set (k * 3 + 1) (.bool z.neg)).set (k * 3 + 2) (.slice A z.mag.length c) = (els.set k ((p, z), (A, c))).flatMap encP
  | [], k, _, _, _, h, _, _ => absurd h (by simp)
  | x :: els, 0, z, A, c, _, p, hp => by
    subst hp
    simp [encP, pthE]
  | x :: els, k + 1, z, A, c, h, p, hp => by
    have ih := set_bool els k z A c (by simpa using h) p (by simpa [pthE] using hp)
    rw [List.flatMap_cons, List.set_cons_succ, List.flatMap_cons, ← ih]
    have e1 : (k + 1) * 3 + 1 = (encP x).length + (k * 3 + 1) := by simp [encP]; omega
    have e2 : (k + 1) * 3 + 2 = (encP x).length + (k * 3 + 2) := by simp [encP]; omega
    rw [e1, e2, List.set_append_right _ _ (by omega), List.set_append_right _ _ (by omega)]
    simp

/-- append(l, Part{..}). -/
theorem wpList_appp1 {w : World} {ops : Array Oper} {rest : List Oper} {o : Oper} {a : Act} {Q : Exit → Act → World → Prop} (s x : Operand) {Zp : Nat → Prop} {base : Nat} {v : Value} {l : List (Int × Z)} {p : Int} {z : Z} {A : Option Addr} {c : Nat}
    (h : Own 3 EP w Zp base 69 v l) (hi : i64 p) (hN : Nl w (fun b => Zp b ∧ v.ownBlock ≠ some b) A c z.mag) (hl : l.length ≤ 2199023255552) (hbase : base ≤ w.heap.size)
    (hgd : o.guard = none) (ho : o.op = .call { callee := .builtin .append, args := #[s, x], argTypes := #[22, 22] }) (hs : a.eval s = v) (hx : a.eval x = .slice (some ⟨w.heap.size, 0, none⟩) 1 1)
    (H : ∀ v' w', Own 3 EP w' Zp base 69 v' (l ++ [(p, z)]) → (w.alloc (.cells #[.int .i64 p, .bool z.neg, .slice A z.mag.length c] 69)).grownBy w' v.ownBlock →
      (v'.ownBlock = v.ownBlock ∨ v'.ownBlock = some (w.heap.size + 1)) → wpList Try.prog ops Q rest (a.put o.dst v') w') :
    wpList Try.prog ops Q (o :: rest) a (w.alloc (.cells #[.int .i64 p, .bool z.neg, .slice A z.mag.length c] 69)) := by
  refine wpList_app (m := [(p, z)]) ety_p s x (Own.ext h ((Ext.refl w).alloc _)) (Fl.one (cs := [.int .i64 p, .bool z.neg, .slice A z.mag.length c]) ⟨A, c, rfl, hi, hN.ext ((Ext.refl w).alloc _)⟩ rfl) (fun _ => ⟨_, _, rfl, fun j u hu => ?_⟩) ?_ ?_ ?_ hgd ho hs hx fun v' w' h1 h2 h3 => H v' w' h1 h2 (by simpa using h3)
  · rw [World.cell?_alloc_at (hn := rfl)]
    match j, hu with
    | 0, hu => simpa using hu
    | 1, hu => simpa using hu
    | 2, hu => simpa using hu
  · simp only [List.length_cons, List.length_nil]; omega
  · simp only [List.length_cons, List.length_nil, maxLen]; omega
  · simp only [World.size_alloc]; omega

/-- Behind its length a row of parts holds noughts. -/
abbrev Spp (w : World) (v : Value) : Prop := Spz 3 (.agg #[.int .i64 0, .bool false, .slice none 0 0]) w v
/-- The same, with what lies behind the length. -/
theorem wpList_apppz {w : World} {ops : Array Oper} {rest : List Oper} {o : Oper} {a : Act} {Q : Exit → Act → World → Prop} (s x : Operand) {Zp : Nat → Prop} {base : Nat} {v : Value} {l : List (Int × Z)} {p : Int} {z : Z} {A : Option Addr} {c : Nat}
    (h : Own 3 EP w Zp base 69 v l) (hsp : Spp w v) (hi : i64 p) (hN : Nl w (fun b => Zp b ∧ v.ownBlock ≠ some b) A c z.mag) (hl : l.length ≤ 2199023255552) (hbase : base ≤ w.heap.size)
    (hgd : o.guard = none) (ho : o.op = .call { callee := .builtin .append, args := #[s, x], argTypes := #[22, 22] }) (hs : a.eval s = v) (hx : a.eval x = .slice (some ⟨w.heap.size, 0, none⟩) 1 1)
    (H : ∀ v' w', Own 3 EP w' Zp base 69 v' (l ++ [(p, z)]) → Spp w' v' → (w.alloc (.cells #[.int .i64 p, .bool z.neg, .slice A z.mag.length c] 69)).grownBy w' v.ownBlock →
      (v'.ownBlock = v.ownBlock ∨ v'.ownBlock = some (w.heap.size + 1)) → wpList Try.prog ops Q rest (a.put o.dst v') w') :
    wpList Try.prog ops Q (o :: rest) a (w.alloc (.cells #[.int .i64 p, .bool z.neg, .slice A z.mag.length c] 69)) := by
  refine wpList_appz (m := [(p, z)]) ety_p s x (Own.ext h ((Ext.refl w).alloc _)) (hsp.ext (fun k hk => (h.row k hk).2) ((Ext.refl w).alloc _)) (Fl.one (cs := [.int .i64 p, .bool z.neg, .slice A z.mag.length c]) ⟨A, c, rfl, hi, hN.ext ((Ext.refl w).alloc _)⟩ rfl) (fun _ => ⟨_, _, rfl, fun j u hu => ?_⟩) ?_ ?_ ?_ hgd ho hs hx fun v' w' h1 h4 h2 h3 => H v' w' h1 h4 h2 (by simpa using h3)
  · rw [World.cell?_alloc_at (hn := rfl)]
    match j, hu with
    | 0, hu => simpa using hu
    | 1, hu => simpa using hu
    | 2, hu => simpa using hu
  · simp only [List.length_cons, List.length_nil]; omega
  · simp only [List.length_cons, List.length_nil, maxLen]; omega
  · simp only [World.size_alloc]; omega

/-- A term in memory of the call's own (from block B on): its row, and what lies behind the row's length. -/
def TvF (w : World) (B : Nat) (r : Value) (t : T) : Prop :=
  ∃ A c C d, r = .agg #[.slice A t.ps.length c, .bool t.k.neg, .slice C t.k.mag.length d] ∧ Own 3 EP w (B ≤ ·) B 69 (.slice A t.ps.length c) t.ps ∧ Spp w (.slice A t.ps.length c) ∧ Nl w (B ≤ ·) C d t.k.mag
theorem TvF.tv {w : World} {B : Nat} {r : Value} {t : T} (h : TvF w B r t) : Tv w (B ≤ ·) r t := by
  obtain ⟨A, c, C, d, rfl, hO, _, hN⟩ := h
  obtain ⟨A', c', e, hs⟩ := Own.sl hO (by omega) (X := (B ≤ ·)) (fun b hb => hb.elim id id)
  injection e with e1 e2 e3
  subst e1; subst e3
  exact ⟨A, c, C, d, rfl, hs, hN⟩
theorem TvF.keep {w w' : World} {B : Nat} {r : Value} {t : T} (h : TvF w B r t) (k : Kp (B ≤ ·) w w') : TvF w' B r t := by
  obtain ⟨A, c, C, d, rfl, hO, hS, hN⟩ := h
  have hrow := hO.row
  exact ⟨A, c, C, d, rfl, hO.keep (k.imp fun b hb => hb.elim id fun e => (hrow b e).1), hS.keep (fun b e => (hrow b e).2) (k.imp fun b e => (hrow b e).1), hN.keep k⟩
theorem TvF.ext {w w' : World} {B : Nat} {r : Value} {t : T} (h : TvF w B r t) (k : Ext w w') : TvF w' B r t := h.keep (.of_ext k)
theorem Own.lower {α : Type} {sz : Nat} {E : World → (Nat → Prop) → List Value → α → Prop} {w : World} {Z : Nat → Prop} {base b2 : Nat} {e : TypeId} {v : Value} {l : List α} (h : Own sz E w Z base e v l) (hb : b2 ≤ base) : Own sz E w Z b2 e v l := by
  obtain ⟨xs, ⟨h1, h2⟩, h3⟩ := h
  refine ⟨xs, ⟨h1, ?_⟩, h3⟩
  rcases h2 with h2 | ⟨g, cap, cur, e1, e2, r⟩
  · exact .inl h2
  · exact .inr ⟨g, cap, cur, e1, Nat.le_trans hb e2, r⟩
theorem TvF.lower {w : World} {B B' : Nat} {r : Value} {t : T} (h : TvF w B r t) (hB : B' ≤ B) : TvF w B' r t := by
  obtain ⟨A, c, C, d, rfl, hO, hS, hN⟩ := h
  exact ⟨A, c, C, d, rfl, (hO.lower hB).widen fun b hb _ => by omega, hS, hN.widen fun b hb _ => by omega⟩

end Go.Proofs.Ytbblgjjomgipfaa
