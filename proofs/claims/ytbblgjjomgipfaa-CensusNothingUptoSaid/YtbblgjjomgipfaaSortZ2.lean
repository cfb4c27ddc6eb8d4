/- slices.SortFunc of numbers by zint.Cmp. No conditions. -/
import Derived.Test.YtbblgjjomgipfaaMerge
import Derived.Test.YtbblgjjomgipfaaGrw
import Derived.Shelf.SlSortCmp.NoneTotal
namespace Go.Proofs.Ytbblgjjomgipfaa
open Go.RowKit Go.Sort Go.Shelf

/-- A number and where its limbs lie. -/
abbrev Ez := Z × (Option Addr × Nat)
def encz (x : Ez) : List Value := [.bool x.1.neg, .slice x.2.1 x.1.mag.length x.2.2]
/-- A number whose limbs lie outside the row. -/
abbrev EzAt (w : World) (Y : Nat → Prop) : Type := { x : Ez // Nl w Y x.2.1 x.2.2 x.1.mag }
instance (w : World) (Y : Nat → Prop) : Inhabited (EzAt w Y) := ⟨⟨(⟨false, []⟩, (none, 0)), Sl.nil0 _ _ _⟩⟩
def encA {w : World} {Y : Nat → Prop} (x : EzAt w Y) : List Value := encz x.1

theorem flz_els {w : World} {Y : Nat → Prop} : ∀ {l : List Z} {xs : List Value}, Fl 2 EZ w Y xs l → ∃ els : List (EzAt w Y), els.map (fun x => x.1.1) = l ∧ xs = els.flatMap encA
  | [], xs, h => ⟨[], rfl, by have := h.1; simp at this; simp [this]⟩
  | p :: l, xs, h => by
    obtain ⟨A, c, h1, h3⟩ := h.2 0 (by simp)
    simp only [Nat.zero_mul, List.drop_zero, List.getElem_cons_zero] at h1 h3
    have hlen : xs.length = 2 + l.length * 2 := by rw [h.1, List.length_cons, Nat.add_mul]; omega
    obtain ⟨els, e1, e2⟩ := flz_els (l := l) (xs := xs.drop 2) ⟨by rw [List.length_drop]; omega, fun i hi => by
      have := h.2 (i + 1) (by simp; omega)
      rw [List.drop_drop]
      rw [Nat.add_mul, Nat.one_mul, Nat.add_comm] at this
      exact this⟩
    refine ⟨⟨(p, (A, c)), h3⟩ :: els, by simp [e1], ?_⟩
    rw [List.flatMap_cons, ← e2]
    show xs = [.bool p.neg, .slice A p.mag.length c] ++ xs.drop 2
    rw [← h1, List.take_append_drop]
theorem flz_of_els {w w' : World} {Y X : Nat → Prop} : ∀ {els : List (EzAt w Y)}, (∀ x ∈ els, Nl w' X x.1.2.1 x.1.2.2 x.1.1.mag) → Fl 2 EZ w' X (els.flatMap encA) (els.map fun x => x.1.1)
  | [], _ => Fl.nil _ _
  | x :: els, h => by
    have h1 := flz_of_els (els := els) fun y hy => h y (by simp [hy])
    have h4 : Fl 2 EZ w' X (encA x) [x.1.1] := Fl.one ⟨x.1.2.1, x.1.2.2, rfl, h x (by simp)⟩ rfl
    have := h4.append h1
    simpa using this
theorem flatz_at {w : World} {Y : Nat → Prop} : ∀ (els : List (EzAt w Y)) (t : Nat), (els.flatMap encA)[t]? = if t < els.length * 2 then some (encA els.toArray[t / 2]!)[t % 2]! else none
  | [], t => by simp
  | x :: els, t => by
    rw [List.flatMap_cons]
    have hl : (encA x).length = 2 := rfl
    by_cases h : t < 2
    · rw [List.getElem?_append_left (by omega), if_pos (by simp; omega)]
      have h1 : t / 2 = 0 := by omega
      have h2 : t % 2 = t := by omega
      rw [h1, h2]
      simp only [List.size_toArray, List.length_cons, Nat.zero_lt_succ, getElem!_pos, List.getElem_toArray, List.getElem_cons_zero]
      rw [List.getElem?_eq_getElem (by omega), getElem!_pos (encA x) t (by omega)]
    · rw [List.getElem?_append_right (by omega), hl, flatz_at els (t - 2)]
      have e1 : t / 2 = (t - 2) / 2 + 1 := by omega
      have e2 : t % 2 = (t - 2) % 2 := by omega
      rw [e1, e2]
      by_cases h3 : t - 2 < els.length * 2
      · rw [if_pos h3, if_pos (by simp; omega)]
        have h4 : (t - 2) / 2 < els.length := by omega
        congr 2
        rw [getElem!_pos els.toArray _ (by simpa using h4), getElem!_pos (x :: els).toArray _ (by simp; omega)]
        simp
      · rw [if_neg h3, if_neg (by simp; omega)]
theorem flatz_list {w : World} {Y : Nat → Prop} (els : List (EzAt w Y)) : (flatK encA 2 els.toArray).toList = els.flatMap encA := by
  apply List.ext_getElem?
  intro t
  rw [flatz_at]
  by_cases h : t < els.length * 2
  · rw [if_pos h, Array.getElem?_toList, Array.getElem?_eq_getElem (by simpa using h), ← get_flatK encA 2 els.toArray t (by simpa using h), getElem!_pos _ t (by simpa using h)]
  · rw [if_neg h, List.getElem?_eq_none (by simp; omega)]
theorem takez_put (cur F : Array Value) (h : F.size ≤ cur.size) : (putCells id 0 F cur).toList.take F.size = F.toList := by
  apply List.ext_getElem?
  intro j
  by_cases hj : j < F.size
  · rw [List.getElem?_take_of_lt hj, Array.getElem?_toList]
    simp [putCells, hj, show j < cur.size by omega]
  · rw [List.getElem?_take_eq_none (by omega), List.getElem?_eq_none (by simp; omega)]
theorem heapz_put {w : World} {g n : Nat} {os : Array Obj} {cur : Array Value} {e : TypeId} {fr : Nat × Nat} (F : Array Value) (hb : w.heap[g]? = some (.cells cur e fr)) :
    (grow (putRow id (Sort.ahead w n) g 0 F) os).heap[g]? = some (.cells (putCells id 0 F cur) e fr) := by
  have hg : g < w.heap.size := (Array.getElem?_eq_some_iff.1 hb).1
  rw [heap_grow_old _ _ (by simpa using hg)]
  simp [putRow, mapBlock, Sort.ahead, Array.getElem?_modify, hb, onCells]
theorem grownz_put {w : World} {g n : Nat} {os : Array Obj} (F : Array Value) : w.grownBy (grow (putRow id (Sort.ahead w n) g 0 F) os) (some g) := by
  refine ⟨rfl, rfl, rfl, by simp, fun k hk hne => ?_⟩
  rw [heap_grow_old _ _ (by simpa using hk)]
  have : g ≠ k := fun e => hne (by rw [e])
  simp [putRow, mapBlock, Sort.ahead, Array.getElem?_modify, this]

def cfZ {w : World} {Y : Nat → Prop} (x y : EzAt w Y) : Int := cmpI x.1.1.v y.1.1.v
theorem lt_cfZ {w : World} {Y : Nat → Prop} (x y : EzAt w Y) : ltOf cfZ x y = decide (x.1.1.v < y.1.1.v) := by
  unfold ltOf cfZ
  rw [show (decide (cmpI x.1.1.v y.1.1.v < 0)) = decide (x.1.1.v < y.1.1.v) from by congr 1; exact propext cmpI_neg]
theorem swo_Z {w : World} {Y : Nat → Prop} : SWO (ltOf (cfZ (w := w) (Y := Y))) where
  irrefl x := by rw [lt_cfZ]; simp
  trans x y z h1 h2 := by rw [lt_cfZ] at *; simp at *; omega
  ntrans x y z h1 h2 := by rw [lt_cfZ] at *; simp at *; omega

/-- The sort: what comes is what was there, rising. -/
theorem sortz_c {w : World} {Zp : Nat → Prop} {base : Nat} {A : Option Addr} {n c : Nat} {l : List Z} (h : Own 2 EZ w Zp base 25 (.slice A n c) l) (hn : l.length < 4611686018427387904) :
    Calls Try.prog 147 #[.slice A n c, .func (.func 27) #[] #[]] w fun e w' => e = .returned (.tuple #[]) ∧
      ∃ l', l'.Perm l ∧ l'.Pairwise (fun p q => ¬ q.v < p.v) ∧ Own 2 EZ w' Zp base 25 (.slice A n c) l' ∧ w.grownBy w' (Value.ownBlock (.slice A n c)) := by
  obtain ⟨xs, h1, h2⟩ := h
  rcases h1.2 with ⟨hv, hl⟩ | ⟨g, cap, cur, hv, hb, hg, hnc, hcm, hcs, htake⟩
  · injection hv with e1 e2 e3
    subst e1; subst e2; subst e3
    have h0 : l = [] := List.eq_nil_of_length_eq_zero hl
    subst h0
    have hcon := AnyF.slices_SortFunc_none Try.laySortZ none 0 (.func (.func 27) #[] #[]) w
    refine hcon.mono ?_
    rintro e w' ⟨rfl, rfl⟩
    exact ⟨rfl, [], .refl _, .nil, ⟨xs, h1, h2⟩, World.grownBy.refl _ _⟩
  · injection hv with e1 e2 e3
    subst e1; subst e2; subst e3
    have hX : (fun b => Zp b ∧ Value.ownBlock (.slice (some ⟨g, 0, none⟩) l.length c) ≠ some b) = fun b => Zp b ∧ b ≠ g := by
      funext b
      apply propext
      constructor
      · rintro ⟨h3, h4⟩; exact ⟨h3, fun e => h4 (by rw [e]; rfl)⟩
      · rintro ⟨h3, h4⟩; exact ⟨h3, fun e => h4 (Option.some.inj e).symm⟩
    rw [hX] at h2
    obtain ⟨els, e1, e2⟩ := flz_els h2
    have hlen : els.length = l.length := by rw [← e1, List.length_map]
    have hglt := lt_of_some hg
    have hH : HoldsK encA 2 w g 0 els.toArray := by
      intro j hj
      have hj' : j < els.length * 2 := by simpa using hj
      refine ⟨?_, by simp [World.frozen?, hg]⟩
      have h3 : xs[j]? = some (flatK encA 2 els.toArray)[j]! := by
        rw [e2, ← flatz_list, Array.getElem?_toList, Array.getElem?_eq_getElem hj, getElem!_pos _ j hj]
      have h4 := h1.cells (g := g) rfl j _ h3
      simpa [Addr.add_lit] using h4
    have eg : ∀ args w, (callFunc 27 args).run Try.prog w = .ok (.enter 27 args) w := enters_of Try.func27 (by kernel_rfl) rfl
    have hkeep : ∀ (m : Nat) (os : Array Obj) (dk : Array (EzAt w fun b => Zp b ∧ b ≠ g)), Kp (fun b => b ≠ g) w (sortWorldK encA 2 w g 0 m dk os) := fun m os dk => by
      have hgr := grownz_put (w := w) (g := g) (n := m) (os := os) (flatK encA 2 dk)
      exact fun b hb hl => hgr.block b hl (fun e => hb (Option.some.inj e))
    have hcmp : CmpLays Try.prog 27 #[] (encA (w := w) (Y := fun b => Zp b ∧ b ≠ g)) 2 cfZ g 0 els.toArray.size w := fun m os dk _ x y =>
      (zcmp_g (x := x.1.1) (y := y.1.1) ⟨_, _, rfl, x.2.keep ((hkeep m os dk).imp fun b hb => hb.2)⟩ ⟨_, _, rfl, y.2.keep ((hkeep m os dk).imp fun b hb => hb.2)⟩).mono fun _ _ ⟨he, hgw⟩ => ⟨he, hgw.grow⟩
    have hcon := AnyQ.slices_SortFunc Try.laySortZ 2 Try.isAgg25 Try.sizeOf25 encA (fun _ => rfl) (fun x v hv => by simp [encA, encz] at hv; rcases hv with rfl | rfl <;> rfl) cfZ swo_Z 27 #[] g 0 c els.toArray w eg hcmp hH hglt (by rw [List.size_toArray]; omega)
    change Calls Try.prog 147 _ _ _ at hcon
    have ea : (#[.slice (some ⟨g, 0, none⟩) l.length c, .func (.func 27) #[] #[]] : Array Value) = #[.slice (some ⟨g, 0, none⟩) els.toArray.size c, .func (.func 27) #[] #[]] := by
      rw [List.size_toArray, hlen]
    rw [ea]
    refine hcon.mono ?_
    rintro e w' ⟨rfl, d', n, os, hp, hs, rfl⟩
    obtain ⟨p1, _, p2⟩ := hp
    have p0 : d'.size = els.toArray.size := p1
    have p1' : d'.size = l.length := by rw [p0, List.size_toArray, hlen]
    have p3 : d'.toList.Perm els := by
      have x1 : d'.extract 0 els.toArray.size = d' := by rw [← p0]; simp
      have x2 : els.toArray.extract 0 els.toArray.size = els.toArray := by simp
      have p4 : (d'.extract 0 els.toArray.size).toList.Perm (els.toArray.extract 0 els.toArray.size).toList := p2
      rw [x1, x2] at p4
      exact p4
    have pL : (d'.toList.map fun x => x.1.1).length = l.length := by rw [List.length_map]; exact p1'
    have hd : d' = d'.toList.toArray := by simp
    have hgr := grownz_put (w := w) (g := g) (n := n) (os := os) (flatK encA 2 d')
    refine ⟨rfl, d'.toList.map (fun x => x.1.1), by rw [← e1]; exact p3.map _, ?_, ?_, hgr⟩
    · rw [List.pairwise_map, List.pairwise_iff_getElem]
      intro i j hi hj hij
      have := hs i j (Nat.zero_le _) hij (by rw [← p0]; exact hj)
      rw [lt_cfZ] at this
      rw [getElem!_pos d' i (by simpa using hi), getElem!_pos d' j (by simpa using hj)] at this
      simpa using this
    · refine ⟨d'.toList.flatMap encA, ⟨?_, .inr ⟨g, c, _, ?_, hb, heapz_put _ hg, ?_, hcm, ?_, ?_⟩⟩, ?_⟩
      · have x1 := congrArg List.length (flatz_list d'.toList)
        simp only [Array.length_toList, size_flatK, List.size_toArray] at x1
        rw [← x1, List.length_map, Array.length_toList]
      · rw [pL]
      · rw [pL]; exact hnc
      · simp [putCells, hcs]
      · have x1 : (flatK encA 2 d').size = (d'.toList.map fun x => x.1.1).length * 2 := by simp
        rw [← x1, takez_put _ _ (by rw [size_flatK, p1', hcs]; exact Nat.mul_le_mul_right _ hnc)]
        conv => lhs; rw [hd]
        exact flatz_list _
      · have hX2 : (fun b => Zp b ∧ Value.ownBlock (.slice (some ⟨g, 0, none⟩) l.length c) ≠ some b) = fun b => Zp b ∧ b ≠ g := hX
        rw [hX2]
        exact flz_of_els fun x _ => x.2.keep (fun b hb hl => hgr.block b hl (fun e => hb.2 (Option.some.inj e)))

end Go.Proofs.Ytbblgjjomgipfaa
