/- copy(l[k+1:], l[k:]) in a row of the call's own. No conditions. -/
import Derived.Test.YtbblgjjomgipfaaPut
import Derived.Test.YtbblgjjomgipfaaReg
namespace Go.Proofs.Ytbblgjjomgipfaa
open Go.RowKit

section
variable {α : Type} {sz : Nat} {E : World → (Nat → Prop) → List Value → α → Prop}
theorem Fl.take {w : World} {X : Nat → Prop} {xs : List Value} {l : List α} (h : Fl sz E w X xs l) (k : Nat) : Fl sz E w X (xs.take (k * sz)) (l.take k) := by
  refine ⟨?_, fun i hi => ?_⟩
  · rw [List.length_take, List.length_take, h.1]
    rcases Nat.le_total k l.length with hk | hk
    · rw [Nat.min_eq_left hk, Nat.min_eq_left (Nat.mul_le_mul_right _ hk)]
    · rw [Nat.min_eq_right hk, Nat.min_eq_right (Nat.mul_le_mul_right _ hk)]
  · rw [List.length_take] at hi
    have h1 := h.2 i (by omega)
    have h2 : i * sz + sz ≤ k * sz := by rw [← Nat.succ_mul]; exact Nat.mul_le_mul_right _ (by omega)
    rw [List.getElem_take, List.drop_take, List.take_take, Nat.min_eq_left (by omega)]
    exact h1
theorem Fl.drop {w : World} {X : Nat → Prop} {xs : List Value} {l : List α} (h : Fl sz E w X xs l) (k : Nat) : Fl sz E w X (xs.drop (k * sz)) (l.drop k) := by
  refine ⟨by rw [List.length_drop, List.length_drop, h.1, Nat.sub_mul], fun i hi => ?_⟩
  rw [List.length_drop] at hi
  have h1 := h.2 (k + i) (by omega)
  rw [List.getElem_drop, List.drop_drop, ← Nat.add_mul]
  exact h1

theorem run_copyn {P : Program} {t e : TypeId} {bytes : Nat} {z : Value} (T : Ety P t e sz bytes z) (w : World) (ty : TypeId) (g o dLen dCap : Nat) (a : Addr) (sLen sCap n : Nat) (cur : Array Value) (u : TypeId) (cs : List Value)
    (hg : w.heap[g]? = some (.cells cur u (0, 0))) (hn : n = Nat.min sLen dLen) (hc : cs.length = n * sz)
    (hsrc : ∀ j v, cs[j]? = some v → w.cell? (a.add j) = some v) (hfit : o + cs.length ≤ cur.size) (h1 : ∀ v ∈ cs, v.oneCell' = true) :
    (Builtin.copy_ #[t, t] ty #[.slice (some ⟨g, o, none⟩) dLen dCap, .slice (some a) sLen sCap]).run P w =
      .ok (goInt n) (w.setRow g (cur.toList.take o ++ (cs ++ cur.toList.drop (o + cs.length))).toArray) := by
  have hl := run_loadCells_list (P := P) w a cs hsrc
  have hst := run_storeCells_at P g o u cs 0 cur w hg (by simpa using hfit) h1
  obtain ⟨i, hi, hz, hsize, hby⟩ := info_parts T.info
  subst hn
  rw [hc] at hl
  simp [Builtin.copy_, run_underlying T.under, Builtin.lenOf, Builtin.firstCells, sizeOf, typeInfo, hi, hsize, hl, hst]
theorem run_copyz {P : Program} {t e : TypeId} {bytes : Nat} {z : Value} (T : Ety P t e sz bytes z) (w : World) (ty : TypeId) (d a : Option Addr) (dLen dCap sLen sCap : Nat) (hn : Nat.min sLen dLen = 0) :
    (Builtin.copy_ #[t, t] ty #[.slice d dLen dCap, .slice a sLen sCap]).run P w = .ok (goInt 0) w := by
  obtain ⟨i, hi, hz, hsize, hby⟩ := info_parts T.info
  cases a <;> cases d <;> simp [Builtin.copy_, run_underlying T.under, Builtin.lenOf, Builtin.firstCells, sizeOf, typeInfo, hi, hn, loadCells, loadCellsFrom, storeCells]

theorem Own.shift [Stab E] {P : Program} {t e : TypeId} {bytes : Nat} {z : Value} (T : Ety P t e sz bytes z) {w : World} {Zp : Nat → Prop} {base g n cap k : Nat} {l : List α} (h : Own sz E w Zp base e (.slice (some ⟨g, 0, none⟩) n cap) l)
    (hk : k + 1 ≤ l.length) {dp : Option Addr} (hdp : k + 1 < l.length → dp = some ⟨g, (k + 1) * sz, none⟩) (dc sc : Nat) :
    ∃ w', (∀ ty, (Builtin.copy_ #[t, t] ty #[.slice dp (l.length - (k + 1)) dc, .slice (some ⟨g, k * sz, none⟩) (l.length - k) sc]).run P w = .ok (goInt (l.length - (k + 1) : Nat)) w') ∧
      Own sz E w' Zp base e (.slice (some ⟨g, 0, none⟩) n cap) (l.take (k + 1) ++ (l.drop k).take (l.length - (k + 1))) ∧ w.grownBy w' (some g) := by
  have hlen : (l.take (k + 1) ++ (l.drop k).take (l.length - (k + 1))).length = l.length := by
    rw [List.length_append, List.length_take, List.length_take, List.length_drop]; omega
  rcases Nat.eq_or_lt_of_le hk with hk0 | hk0
  · refine ⟨w, fun ty => ?_, ?_, World.grownBy.refl _ _⟩
    · rw [← hk0, Nat.sub_self]
      exact run_copyz T w ty _ _ _ _ _ _ (Nat.min_zero _)
    · have e0 : l.take (k + 1) ++ (l.drop k).take (l.length - (k + 1)) = l := by rw [← hk0, Nat.sub_self, List.take_zero, List.append_nil, hk0, List.take_length]
      rw [e0]
      exact h
  · obtain ⟨xs, h1, h2⟩ := h
    rcases h1.2 with ⟨hv, _⟩ | ⟨g', cap', cur, hv, hb, hg, hnc, hcm, hcs, htake⟩
    · cases hv
    · injection hv with e1 e2 e3
      injection e1 with e1
      injection e1 with e1
      subst e1; subst e3; subst e2
      rw [hdp hk0]
      have hm1 : (k + 1) * sz + (l.length - (k + 1)) * sz = l.length * sz := by rw [← Nat.add_mul]; congr 1; omega
      have hm2 : (k + 1) * sz = k * sz + sz := Nat.succ_mul k sz
      have hcm2 : l.length * sz ≤ cur.size := by rw [hcs]; exact Nat.mul_le_mul_right _ hnc
      have hpos := T.pos
      have hxl := h2.1
      have hfl := (h2.take (k + 1)).append ((h2.drop k).take (l.length - (k + 1)))
      have hcl : ((xs.drop (k * sz)).take ((l.length - (k + 1)) * sz)).length = (l.length - (k + 1)) * sz := by
        rw [List.length_take, List.length_drop]; omega
      have hrow : ∀ j u, xs[j]? = some u → w.cell? ⟨g, j, none⟩ = some u := fun j u hj => by
        have := h1.cells (g := g) rfl j u hj
        simpa [Addr.add_lit] using this
      refine ⟨_, fun ty => run_copyn T w ty g _ _ dc ⟨g, k * sz, none⟩ _ sc _ cur e ((xs.drop (k * sz)).take ((l.length - (k + 1)) * sz)) hg ?_ hcl ?_ ?_ ?_, ⟨xs.take ((k + 1) * sz) ++ (xs.drop (k * sz)).take ((l.length - (k + 1)) * sz), ⟨?_, .inr ⟨g, cap, _, ?_, hb, setRow_heap w g _ _ _ _ hg, ?_, hcm, ?_, ?_⟩⟩, ?_⟩, ⟨rfl, rfl, rfl, by simp, fun i _ hne => setRow_other w g i _ (fun e => hne (by rw [e]))⟩⟩
      · show _ = min _ _
        omega
      · intro j v hj
        have hjl := (List.getElem?_eq_some_iff.1 hj).1
        rw [hcl] at hjl
        rw [List.getElem?_take_of_lt hjl, List.getElem?_drop] at hj
        rw [Addr.add_lit]
        exact hrow _ _ hj
      · rw [hcl]; omega
      · intro v hv
        exact h2.ones T.pos v (List.mem_of_mem_drop (List.mem_of_mem_take hv))
      · exact hfl.1
      · rw [hlen]
      · rw [hlen]; exact hnc
      · simp only [List.size_toArray, List.length_append, List.length_take, List.length_drop, Array.length_toList]
        omega
      · rw [hlen, hcl, hm1]
        have e1 : cur.toList.take ((k + 1) * sz) = xs.take ((k + 1) * sz) := by
          rw [← htake, List.take_take, Nat.min_eq_left (by omega)]
        rw [e1]
        rw [List.toList_toArray, ← List.append_assoc, List.take_append_of_le_length (by rw [List.length_append, hcl, List.length_take]; omega), List.take_of_length_le (by rw [List.length_append, hcl, List.length_take]; omega)]
      · refine hfl.keep fun b hb _ => setRow_other w g b _ fun e => hb.2 (by rw [e]; rfl)
end

section
variable {P : Program} {ops : Array Oper} {Q : Exit → Act → World → Prop} {L : Nat}
/-- copy, the region's last operation. -/
theorem sq_copy {a : Act} {w w' : World} {o : Oper} {d s : Operand} {t t' : TypeId} {v u v' : Value} (ho : opAt ops.toList L = some o) (hg : o.guard = none)
    (hop : o.op = .call { callee := .builtin .copy, args := #[d, s], argTypes := #[t, t'] }) (hd : a.eval d = v) (hs : a.eval s = u) (hr : ∀ ty, (Builtin.copy_ #[t, t'] ty #[v, u]).run P w = .ok v' w')
    (h : Q .normal (a.put o.dst v') w') : SeqW P ops Q L [(L, false)] a w := by
  refine sq_last ho hg fun K hK => ?_
  unfold Oper.wp execOp
  simp only [hop, resolve, invoke, builtin, Sem.run_bind, Sem.run_pure, Result.andThen_ok, List.map_toArray, List.map_cons, List.map_nil, hd, hs, hr]
  exact hK _ _ h
end

end Go.Proofs.Ytbblgjjomgipfaa
