/- slices.SortFunc of parts by rising variables. No conditions. -/
import Derived.Test.YthmjgbkakjpfkaaGreatDoorGLooksAs
import Derived.Test.YthmjgbkakjpfkaaGreatDoorGLooksAu
import Derived.Shelf.SlSortCmp.NoneTotal
namespace Go.Proofs.YthmjgbkakjpfkaaGreatDoor
open Go.RowKit Go.Sort Go.Shelf

theorem flatK_list (els : List El) : (flatK encP 3 els.toArray).toList = els.flatMap encP := by
  apply List.ext_getElem?
  intro t
  rw [flat_at]
  by_cases h : t < els.length * 3
  · rw [if_pos h, Array.getElem?_toList, Array.getElem?_eq_getElem (by simpa using h), ← get_flatK encP 3 els.toArray t (by simpa using h), getElem!_pos _ t (by simpa using h)]
  · rw [if_neg h, List.getElem?_eq_none (by simp; omega)]
theorem take_put (cur F : Array Value) (h : F.size ≤ cur.size) : (putCells id 0 F cur).toList.take F.size = F.toList := by
  apply List.ext_getElem?
  intro j
  by_cases hj : j < F.size
  · rw [List.getElem?_take_of_lt hj, Array.getElem?_toList]
    simp [putCells, hj, show j < cur.size by omega]
  · rw [List.getElem?_take_eq_none (by omega), List.getElem?_eq_none (by simp; omega)]
theorem heap_put {w : World} {g n : Nat} {os : Array Obj} {cur : Array Value} {e : TypeId} {fr : Nat × Nat} (F : Array Value) (hb : w.heap[g]? = some (.cells cur e fr)) :
    (grow (putRow id (Sort.ahead w n) g 0 F) os).heap[g]? = some (.cells (putCells id 0 F cur) e fr) := by
  have hg : g < w.heap.size := (Array.getElem?_eq_some_iff.1 hb).1
  rw [heap_grow_old _ _ (by simpa using hg)]
  simp [putRow, mapBlock, Sort.ahead, Array.getElem?_modify, hb, onCells]
theorem grown_put {w : World} {g n : Nat} {os : Array Obj} (F : Array Value) : w.grownBy (grow (putRow id (Sort.ahead w n) g 0 F) os) (some g) := by
  refine ⟨rfl, rfl, rfl, by simp, fun k hk hne => ?_⟩
  rw [heap_grow_old _ _ (by simpa using hk)]
  have : g ≠ k := fun e => hne (by rw [e])
  simp [putRow, mapBlock, Sort.ahead, Array.getElem?_modify, this]

theorem cell_put {w : World} {g n : Nat} {os : Array Obj} {cur : Array Value} {e : TypeId} {fr : Nat × Nat} (F : Array Value) (hb : w.heap[g]? = some (.cells cur e fr)) (k : Nat) (hk : F.size ≤ k) :
    (grow (putRow id (Sort.ahead w n) g 0 F) os).cell? ⟨g, k, none⟩ = w.cell? ⟨g, k, none⟩ := by
  have h := heap_put (n := n) (os := os) F hb
  unfold World.cell?
  simp only [h, hb]
  have hge : ¬ k < F.size := by omega
  by_cases hlt : k < cur.size
  · simp [putCells, hlt, hge]
  · simp [putCells, hlt]

def cfP (x y : El) : Int := if x.1.1 < y.1.1 then -1 else 1
theorem lt_cfP (x y : El) : ltOf cfP x y = decide (x.1.1 < y.1.1) := by
  unfold ltOf cfP
  by_cases h : x.1.1 < y.1.1 <;> simp [h]
theorem swo_P : SWO (ltOf cfP) where
  irrefl x := by rw [lt_cfP]; simp
  trans x y z h1 h2 := by rw [lt_cfP] at *; simp at *; omega
  ntrans x y z h1 h2 := by rw [lt_cfP] at *; simp at *; omega

set_option maxHeartbeats 1000000 in
theorem less_c (x y : El) (W : World) : Calls Tryz.prog 152 #[.agg (encP x).toArray, .agg (encP y).toArray] W fun e w' => e = .returned (.int .i64 (cfP x y)) ∧ ∃ q os', w' = grow (W.drewN q) os' := by
  obtain ⟨r, hr⟩ : ∃ r, r = cfP x y := ⟨_, rfl⟩
  rw [← hr]
  unfold encP
  unfold cfP at hr
  have Hr := Lib.hid hr
  clear hr
  by_cases h : x.1.1 < y.1.1
  · have e1 : r = -1 := by rw [Hr.out, if_pos h]
    have E1 := Lib.hid e1; clear e1
    go_enter Tryz.func152, Tryz.ntmps152
    go_wp2
    go_ret
    exact ⟨ret_int E1.out.symm, 0, _, by rw [alloc_eq_grow, alloc_eq_grow, grow_grow]; rfl⟩
  · have e1 : r = 1 := by rw [Hr.out, if_neg h]
    have E1 := Lib.hid e1; clear e1
    go_enter Tryz.func152, Tryz.ntmps152
    go_wp2
    go_ret
    exact ⟨ret_int E1.out.symm, 0, _, by rw [alloc_eq_grow, alloc_eq_grow, grow_grow]; rfl⟩

theorem sortp_c {w : World} {Zp : Nat → Prop} {base : Nat} {A : Option Addr} {n c : Nat} {l : List (Int × Z)} (h : Own 3 EP w Zp base 37 (.slice A n c) l) (hn : l.length < 4611686018427387904) :
    Calls Tryz.prog 151 #[.slice A n c, .func (.func 152) #[] #[]] w fun e w' => e = .returned (.tuple #[]) ∧
      ∃ l', l'.Perm l ∧ l'.Pairwise (fun p q => ¬ q.1 < p.1) ∧ Own 3 EP w' Zp base 37 (.slice A n c) l' ∧ w.grownBy w' (Value.ownBlock (.slice A n c)) ∧ (Spp w (.slice A n c) → Spp w' (.slice A n c)) := by
  obtain ⟨xs, h1, h2⟩ := h
  rcases h1.2 with ⟨hv, hl⟩ | ⟨g, cap, cur, hv, hb, hg, hnc, hcm, hcs, htake⟩
  · injection hv with e1 e2 e3
    subst e1; subst e2; subst e3
    have h0 : l = [] := List.eq_nil_of_length_eq_zero hl
    subst h0
    have hcon := AnyF.slices_SortFunc_none Tryz.laySort none 0 (.func (.func 152) #[] #[]) w
    refine hcon.mono ?_
    rintro e w' ⟨rfl, rfl⟩
    exact ⟨rfl, [], .refl _, .nil, ⟨xs, h1, h2⟩, World.grownBy.refl _ _, id⟩
  · injection hv with e1 e2 e3
    subst e1; subst e2; subst e3
    obtain ⟨els, e1, e2, e3⟩ := fl_els h2
    have hlen : els.length = l.length := by rw [← e1, List.length_map]
    have hglt := lt_of_some hg
    have hH : HoldsK encP 3 w g 0 els.toArray := by
      intro j hj
      have hj' : j < els.length * 3 := by simpa using hj
      refine ⟨?_, by simp [World.frozen?, hg]⟩
      have h3 : xs[j]? = some (flatK encP 3 els.toArray)[j]! := by
        rw [e2, ← flatK_list, Array.getElem?_toList, Array.getElem?_eq_getElem hj, getElem!_pos _ j hj]
      have h4 := h1.cells (g := g) rfl j _ h3
      simpa [Addr.add_lit] using h4
    have eg : ∀ args w, (callFunc 152 args).run Tryz.prog w = .ok (.enter 152 args) w := enters_of Tryz.func152 (by kernel_rfl) rfl
    have hcon := AnyQ.slices_SortFunc Tryz.laySort 3 Tryz.isAgg37 Tryz.sizeOf37 encP (fun _ => rfl) (fun x v hv => by simp [encP] at hv; rcases hv with rfl | rfl | rfl <;> rfl) cfP swo_P 152 #[] g 0 c els.toArray w eg (fun _ _ _ _ x y => less_c x y _) hH hglt (by rw [List.size_toArray]; omega)
    change Calls Tryz.prog 151 _ _ _ at hcon
    have ea : (#[.slice (some ⟨g, 0, none⟩) l.length c, .func (.func 152) #[] #[]] : Array Value) = #[.slice (some ⟨g, 0, none⟩) els.toArray.size c, .func (.func 152) #[] #[]] := by
      rw [List.size_toArray, hlen]
    rw [ea]
    refine hcon.mono ?_
    rintro e w' ⟨rfl, d', n, os, hp, hs, rfl⟩
    obtain ⟨p1, _, p2⟩ := hp
    have p0 : d'.size = els.toArray.size := p1
    have p1' : d'.size = l.length := by rw [p0, List.size_toArray, hlen]
    have p3 : d'.toList.Perm els := by
      have x1 : d'.extract 0 els.toArray.size = d' := by rw [← p0]; simp
      have x2 : els.toArray.extract 0 els.toArray.size = els.toArray := by simp
      have p4 : (d'.extract 0 els.toArray.size).toList.Perm (els.toArray.extract 0 els.toArray.size).toList := p2
      rw [x1, x2] at p4
      exact p4
    have pL : (d'.toList.map Prod.fst).length = l.length := by rw [List.length_map]; exact p1'
    have hd : d' = d'.toList.toArray := by simp
    refine ⟨rfl, d'.toList.map Prod.fst, by rw [← e1]; exact p3.map _, ?_, ?_, ?_, ?_⟩
    · rw [List.pairwise_map, List.pairwise_iff_getElem]
      intro i j hi hj hij
      have := hs i j (Nat.zero_le _) hij (by rw [← p0]; exact hj)
      rw [lt_cfP] at this
      rw [getElem!_pos d' i (by simpa using hi), getElem!_pos d' j (by simpa using hj)] at this
      simpa using this
    · have hgr := grown_put (w := w) (g := g) (n := n) (os := os) (flatK encP 3 d')
      refine ⟨d'.toList.flatMap encP, ⟨?_, .inr ⟨g, c, _, ?_, hb, heap_put _ hg, ?_, hcm, ?_, ?_⟩⟩, ?_⟩
      · have x1 := congrArg List.length (flatK_list d'.toList)
        simp only [Array.length_toList, size_flatK, List.size_toArray] at x1
        rw [← x1, List.length_map, Array.length_toList]
      · rw [pL]
      · rw [pL]; exact hnc
      · simp [putCells, hcs]
      · have x1 : (flatK encP 3 d').size = (d'.toList.map Prod.fst).length * 3 := by simp
        rw [← x1, take_put _ _ (by rw [size_flatK, p1', hcs]; exact Nat.mul_le_mul_right _ hnc)]
        conv => lhs; rw [hd]
        exact flatK_list _
      · refine fl_of_els fun x hx => ?_
        obtain ⟨h5, h6⟩ := e3 x (p3.mem_iff.1 hx)
        refine ⟨h5, ?_⟩
        exact h6.keep fun b hbX hbl => hgr.block b hbl (fun e => hbX.2 e.symm)
    · exact grown_put _
    · intro hsp g' n' c' hv i j i1 i2 i3
      injection hv with v1 v2 v3
      injection v1 with v1
      injection v1 with v1
      subst v1; subst v2; subst v3
      have hF : (flatK encP 3 d').size = l.length * 3 := by rw [size_flatK, p1']
      exact (cell_put (flatK encP 3 d') hg (i * 3 + j) (by rw [hF]; omega)).trans (hsp g l.length c rfl i j i1 i2 i3)

end Go.Proofs.YthmjgbkakjpfkaaGreatDoor
