/- The spare cells of a row of the call's own: noughts. No conditions. -/
import Derived.Test.YtbblgjjomgipfaaGreatBase
namespace Go.Proofs.YtbblgjjomgipfaaGreat
open Go.RowKit

theorem Kp.imp {X Y : Nat → Prop} {a b : World} (h : Kp Y a b) (k : ∀ c, X c → Y c) : Kp X a b := fun c hc hl => h c (k c hc) hl
/-- Behind its length the row v holds z's cells, again and again. -/
def Spz (sz : Nat) (z : Value) (w : World) (v : Value) : Prop :=
  ∀ g n c, v = .slice (some ⟨g, 0, none⟩) n c → ∀ i j, n ≤ i → i < c → j < sz → w.cell? ⟨g, i * sz + j, none⟩ = z.cells[j]?
theorem Spz.nil (sz : Nat) (z : Value) (w : World) : Spz sz z w (.slice none 0 0) := fun _ _ _ h => by cases h
theorem Spz.empty (sz : Nat) (z : Value) (w : World) (g : Nat) : Spz sz z w (.slice (some ⟨g, 0, none⟩) 0 0) := fun _ _ _ h i _ h1 h2 => by
  injection h with _ _ h3
  omega
theorem Spz.full (sz : Nat) (z : Value) (w : World) (A : Option Addr) (n : Nat) : Spz sz z w (.slice A n n) := fun _ _ _ h i _ h1 h2 => by
  injection h with _ h2 h3
  omega
theorem Spz.keep {sz : Nat} {z : Value} {w w' : World} {v : Value} (h : Spz sz z w v) (hl : ∀ k, v.ownBlock = some k → k < w.heap.size) (k : Kp (fun b => v.ownBlock = some b) w w') : Spz sz z w' v := fun g n c hv i j h1 h2 h3 => by
  have e : v.ownBlock = some g := by rw [hv]; rfl
  exact (World.cell?_of_block (a := ⟨g, i * sz + j, none⟩) (k g e (hl g e))).trans (h g n c hv i j h1 h2 h3)
theorem Spz.ext {sz : Nat} {z : Value} {w w' : World} {v : Value} (h : Spz sz z w v) (hl : ∀ k, v.ownBlock = some k → k < w.heap.size) (k : Ext w w') : Spz sz z w' v := h.keep hl (.of_ext k)
/-- A cell ahead of the length is written. -/
theorem Spz.put {sz : Nat} {z : Value} {w : World} {g n c k : Nat} (h : Spz sz z w (.slice (some ⟨g, 0, none⟩) n c)) (hk : k < n * sz) (u : Value) : Spz sz z (w.setCell ⟨g, k, none⟩ u) (.slice (some ⟨g, 0, none⟩) n c) := fun g' n' c' hv i j h1 h2 h3 => by
  injection hv with e1 e2 e3
  injection e1 with e1
  injection e1 with e1
  subst e1; subst e2; subst e3
  rw [World.cell?_setCell_other _ _ _ _ (fun e => by
    injection e with _ e
    have := Nat.mul_le_mul_right sz h1
    omega)]
  exact h g n c rfl i j h1 h2 h3
theorem Spz.far {sz : Nat} {z : Value} {w : World} {v : Value} (h : Spz sz z w v) {p : Addr} (hp : v.ownBlock ≠ some p.block) (u : Value) : Spz sz z (w.setCell p u) v := fun g n c hv i j h1 h2 h3 => by
  rw [World.cell?_setCell_other _ _ _ _ (fun e => hp (by rw [e, hv]; rfl))]
  exact h g n c hv i j h1 h2 h3

theorem zeroCells_at (z : Array Value) {sz : Nat} (hz : z.size = sz) (m k j : Nat) (hk : k < m) (hj : j < sz) : (Builtin.zeroCells z m)[k * sz + j]? = z[j]? := by
  have hlt : k * sz + j < m * sz := by
    have := Nat.mul_le_mul_right sz (show k + 1 ≤ m from hk)
    rw [Nat.succ_mul] at this
    omega
  have hmod : (k * sz + j) % sz = j := by rw [Nat.add_comm, Nat.add_mul_mod_self_right, Nat.mod_eq_of_lt hj]
  subst hz
  simp only [Builtin.zeroCells, Array.getElem?_map]
  rw [Array.getElem?_eq_getElem (by simpa using hlt)]
  simp only [Array.getElem_range, Option.map_some, hmod]
  rw [getElem!_pos z j hj, Array.getElem?_eq_getElem hj]

/-- Behind append, too. -/
theorem spz_append {P : Program} {w : World} (base : Nat) (t ty e : TypeId) (i : TypeInfo) (z : Value) (size bytes : Nat) (ht : P.underlying t = some (.slice e)) (hi : P.info? e = some i) (hz : i.zero = some z)
    (hsize : i.size = size) (hby : i.bytes = bytes) (hzs : z.cells.size = size)
    (v : Value) (n : Nat) (xs : List Value) (hown : w.ownsRow base e size v n xs) (hsp : Spz size z w v)
    (a : Addr) (m c : Nat) (news : List Value) (hl : news.length = m * size) (hnews : ∀ j u, news[j]? = some u → w.cell? (a.add j) = some u) (h1 : ∀ u ∈ news, u.oneCell' = true)
    (h63 : n + m ≤ maxLen) (hbytes : (n + m) * bytes ≤ 140737488355328) :
    ∃ v' w', (Builtin.append_ #[t, t] ty #[v, .slice (some a) m c]).run P w = .ok v' w' ∧ Spz size z w' v' := by
  subst hsize
  subst hby
  have hsmall : n + m ≤ 9223372036854775807 := by simp only [maxLen] at h63; omega
  have grown : ∀ (old : Nat), xs.length = n * i.size → Spz i.size z (w.drew.alloc (.cells (xs.toArray ++ news.toArray ++ Builtin.zeroCells z.cells (grownCap w (n + m) old e - (n + m))) e)) (.slice (some ⟨w.heap.size, 0, none⟩) (n + m) (grownCap w (n + m) old e)) := by
    intro old hxl g' n' c' hv k j h2 h3 h4
    injection hv with e1 e2 e3
    injection e1 with e1
    injection e1 with e1
    subst e1; subst e2; subst e3
    rw [show w.heap.size = w.drew.heap.size from rfl, World.cell?_alloc_at (hn := rfl)]
    have hal : (xs.toArray ++ news.toArray).size = (n + m) * i.size := by simp only [Array.size_append, List.size_toArray, hxl, hl, Nat.add_mul]
    have hge : (n + m) * i.size ≤ k * i.size + j := Nat.le_trans (Nat.mul_le_mul_right _ h2) (Nat.le_add_right _ _)
    rw [Array.getElem?_append_right (by rw [hal]; exact hge), hal]
    have e4 : k * i.size + j - (n + m) * i.size = (k - (n + m)) * i.size + j := by
      have := Nat.mul_le_mul_right i.size h2
      rw [Nat.sub_mul]
      omega
    rw [e4]
    exact zeroCells_at z.cells hzs _ _ _ (by omega) h4
  rcases hown.2 with ⟨rfl, rfl⟩ | ⟨g, cap, cur, rfl, hbg, hg, hnc, hcm, hcs, htake⟩
  · have hx : xs = [] := List.eq_nil_of_length_eq_zero (by simpa using hown.1)
    subst hx
    by_cases hm : m = 0
    · subst hm
      have hn : news = [] := List.eq_nil_of_length_eq_zero (by simpa using hl)
      subst hn
      refine ⟨.slice none 0 0, w, ?_, Spz.nil _ _ _⟩
      simp [Builtin.append_, run_underlying ht, sizeOf, typeInfo, hi, Builtin.lenOf, Builtin.firstCells, loadCells, loadCellsFrom]
    · have hr := run_append_nil (P := P) w t ty e i z ht hi hz a m c news hl hnews (by omega) (by omega) (by have hb := hbytes; simp only [Nat.zero_add] at hb; omega)
      have hgr := grown 0 (by simp)
      simp only [Nat.zero_add, Array.empty_append] at hgr
      exact ⟨_, _, hr, hgr⟩
  · by_cases hroom : n + m ≤ cap
    · have hfit : n * i.size + news.length ≤ cur.size := by rw [hl, hcs, ← Nat.add_mul]; exact Nat.mul_le_mul_right _ hroom
      have hr := run_append_room (P := P) w t ty e i ht hi g n cap cur hg a m c news hl hnews h1 hroom hfit
      refine ⟨_, _, hr, ?_⟩
      intro g' n' c' hv k j h2 h3 h4
      injection hv with e1 e2 e3
      injection e1 with e1
      injection e1 with e1
      subst e1; subst e2; subst e3
      have hold := hsp g n cap rfl k j (by omega) h3 h4
      have hge : n * i.size + m * i.size ≤ k * i.size + j := by rw [← Nat.add_mul]; exact Nat.le_trans (Nat.mul_le_mul_right _ h2) (Nat.le_add_right _ _)
      have hcl : (cur.toList.take (n * i.size)).length = n * i.size := by
        rw [htake]; exact hown.1
      have hold2 : cur[k * i.size + j]? = z.cells[j]? := by
        rw [← hold]; simp [World.cell?, hg]
      rw [cell_setRow_same w g _ cur _ e _ hg, ← hold2]
      simp only [List.getElem?_toArray]
      rw [List.getElem?_append_right (by rw [List.length_append, hcl, hl]; omega), List.length_append, hcl, hl, List.getElem?_drop]
      rw [← Array.getElem?_toList]
      congr 1
      omega
    · have holds : ∀ j u, xs[j]? = some u → w.cell? ((⟨g, 0, none⟩ : Addr).add j) = some u := hown.cells (g := g) rfl
      have hr := run_append_grow (P := P) w t ty e i z ht hi hz ⟨g, 0, none⟩ n cap xs hown.1 holds a m c news hl hnews (by omega) (by omega) (growslice_fits (by omega) hbytes)
      exact ⟨_, _, hr, grown cap hown.1⟩

section
variable {α : Type} {sz : Nat} {E : World → (Nat → Prop) → List Value → α → Prop}
theorem run_appz [Stab E] {P : Program} {t e : TypeId} {bytes : Nat} {z : Value} (T : Ety P t e sz bytes z) {w : World} {ty : TypeId} {Z : Nat → Prop} {base : Nat} {v : Value} {l m : List α} {A : Option Addr} {c : Nat} {ys : List Value}
    (h : Own sz E w Z base e v l) (hsp : Spz sz z w v) (h3 : Fl sz E w (fun b => Z b ∧ v.ownBlock ≠ some b) ys m) (h4 : 0 < m.length → ∃ b o, A = some ⟨b, o, none⟩ ∧ ∀ j u, ys[j]? = some u → w.cell? ⟨b, o + j, none⟩ = some u)
    (hlen : (l.length + m.length) * bytes ≤ 140737488355328) (hL : l.length + m.length ≤ maxLen) (hbase : base ≤ w.heap.size) :
    ∃ v' w', (Builtin.append_ #[t, t] ty #[v, .slice A m.length c]).run P w = .ok v' w' ∧ (Own sz E w' Z base e v' (l ++ m) ∧ Spz sz z w' v') ∧ w.grownBy w' v.ownBlock ∧ (v'.ownBlock = v.ownBlock ∨ v'.ownBlock = some w.heap.size) := by
  obtain ⟨v', w', hrun, k1, k2, k3⟩ := run_app (P := P) (ty := ty) (c := c) T h h3 h4 hlen hL hbase
  refine ⟨v', w', hrun, ⟨k1, ?_⟩, k2, k3⟩
  obtain ⟨i, hi, hz, hsize, hby⟩ := info_parts T.info
  obtain ⟨xs, h1, h2⟩ := h
  cases A with
  | none =>
    have h0 : m = [] := by
      rcases Nat.eq_zero_or_pos m.length with h0 | h0
      · exact List.eq_nil_of_length_eq_zero h0
      · obtain ⟨b, o, hA, _⟩ := h4 h0
        cases hA
    subst h0
    have hv : v' = v ∧ w' = w := by
      have hx : (Builtin.append_ #[t, t] ty #[v, .slice none 0 c]).run P w = .ok v w := by
        rcases h1.2 with ⟨rfl, hn⟩ | ⟨g, cap, cur, rfl, _, _, hnc, _⟩
        · simp [Builtin.append_, run_underlying T.under, sizeOf, typeInfo, hi, Builtin.lenOf, Builtin.firstCells]
        · simp [Builtin.append_, run_underlying T.under, sizeOf, typeInfo, hi, Builtin.lenOf, Builtin.firstCells, hnc, storeCells]
      have := hrun.symm.trans hx
      injection this with e1 e2
      exact ⟨e1, e2⟩
    rw [hv.1, hv.2]
    exact hsp
  | some ad =>
    have hcells : ∀ j u, ys[j]? = some u → w.cell? (ad.add j) = some u := by
      intro j u hj
      rcases Nat.eq_zero_or_pos m.length with h0 | h0
      · have : ys = [] := List.eq_nil_of_length_eq_zero (by rw [h3.1, h0, Nat.zero_mul])
        subst this
        simp at hj
      · obtain ⟨b, o, hA, hc⟩ := h4 h0
        injection hA with hA
        subst hA
        rw [Addr.add_lit]
        exact hc j u hj
    obtain ⟨v2, w2, hr2, h5⟩ := spz_append (P := P) (w := w) base t ty e i z sz bytes T.under hi hz hsize hby T.zs v l.length xs h1 hsp ad m.length c ys h3.1 hcells (h3.ones T.pos) hL hlen
    have := hrun.symm.trans hr2
    injection this with e1 e2
    rw [e1, e2]
    exact h5

theorem wpList_appz [Stab E] {P : Program} {t e : TypeId} {bytes : Nat} {z : Value} (T : Ety P t e sz bytes z) {w : World} {ops : Array Oper} {rest : List Oper} {o : Oper} {a : Act} {Q : Exit → Act → World → Prop} (s x : Operand)
    {Z : Nat → Prop} {base : Nat} {v : Value} {l m : List α} {A : Option Addr} {c : Nat} {ys : List Value}
    (h : Own sz E w Z base e v l) (hsp : Spz sz z w v) (h3 : Fl sz E w (fun b => Z b ∧ v.ownBlock ≠ some b) ys m) (h4 : 0 < m.length → ∃ b o, A = some ⟨b, o, none⟩ ∧ ∀ j u, ys[j]? = some u → w.cell? ⟨b, o + j, none⟩ = some u)
    (hlen : (l.length + m.length) * bytes ≤ 140737488355328) (hL : l.length + m.length ≤ maxLen) (hbase : base ≤ w.heap.size)
    (hgd : o.guard = none) (ho : o.op = .call { callee := .builtin .append, args := #[s, x], argTypes := #[t, t] }) (hs : a.eval s = v) (hx : a.eval x = .slice A m.length c)
    (H : ∀ v' w', Own sz E w' Z base e v' (l ++ m) → Spz sz z w' v' → w.grownBy w' v.ownBlock → (v'.ownBlock = v.ownBlock ∨ v'.ownBlock = some w.heap.size) → wpList P ops Q rest (a.put o.dst v') w') : wpList P ops Q (o :: rest) a w := by
  refine wpList_plain hgd fun K hK => ?_
  obtain ⟨v', w', hrun, ⟨h5, h8⟩, h6, h7⟩ := run_appz (P := P) (ty := o.type) T (c := c) h hsp h3 h4 hlen hL hbase
  unfold Oper.wp execOp
  simp only [ho, resolve, invoke, builtin, Sem.run_bind, Sem.run_pure, Result.andThen_ok, List.map_toArray, List.map_cons, List.map_nil, hs, hx, hrun]
  exact hK _ _ (H v' w' h5 h8 h6 h7)
end

end Go.Proofs.YtbblgjjomgipfaaGreat
