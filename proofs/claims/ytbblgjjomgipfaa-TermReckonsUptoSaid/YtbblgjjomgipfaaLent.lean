/- riddlelaw05.number, numbers, lent, stays. No conditions. -/
import Derived.Test.YtbblgjjomgipfaaRB
import Derived.Test.YtbblgjjomgipfaaOver
namespace Go.Proofs.Ytbblgjjomgipfaa
open Go.RowKit Go.Shelf

theorem nown_any {w : World} {X : Nat → Prop} {base : Nat} {v : Value} {l : List Nat} (h : Own 1 EU w X base 85 v l) : Nown w base v l := by
  obtain ⟨xs, k1, k2⟩ := h
  exact ⟨xs, k1, k2⟩

set_option maxHeartbeats 800000 in
theorem number_c {v : Value} {z : Z} {w : World} {X : Nat → Prop} (h : Zi w X v z) (hL : z.mag.length ≤ 8796093022208) :
    Calls Try.prog 79 #[v] w fun e w' => ∃ r, e = .returned r ∧ Zi w' (w.heap.size ≤ ·) r z ∧ Ext w w' := by
  obtain ⟨A, c, rfl, h1⟩ := h
  have h1b := h1.below
  go_enter Try.func79, Try.ntmps79
  go_wp2_with (first
    | (at_builtin
       refine wpl_named fun W hW => ?_
       have b1 : Box W w.heap.size 25 #[.bool z.neg, .slice A z.mag.length c] := by rw [hW]; exact (by repeat (first | with_reducible assumption | with_reducible exact Box.new _ _ _ | (with_reducible refine Box.new_at _ _ _ ?_; (simp only [wsz]; done)) | with_reducible refine Box.drewN ?_ _ | with_reducible refine Box.drew ?_ | with_reducible refine Box.alloc ?_ _ | with_reducible apply Box.drewN | with_reducible apply Box.drew | with_reducible apply Box.alloc | with_reducible refine Box.set_ ?_ _ _ | (with_reducible refine Box.far ?_ ?_ _; rotate_left; (simp only [ne_eq]; omega)) | (with_reducible refine Box.ext ?_ (by with_reducible assumption)) | (refine Box.new_at _ _ _ ?_; simp only [wsz]; done)))
       have b2 : Box W (w.heap.size + 1) 25 #[.bool false, .slice none 0 0] := by rw [hW]; exact (by repeat (first | with_reducible assumption | with_reducible exact Box.new _ _ _ | (with_reducible refine Box.new_at _ _ _ ?_; (simp only [wsz]; done)) | with_reducible refine Box.drewN ?_ _ | with_reducible refine Box.drew ?_ | with_reducible refine Box.alloc ?_ _ | with_reducible apply Box.drewN | with_reducible apply Box.drew | with_reducible apply Box.alloc | with_reducible refine Box.set_ ?_ _ _ | (with_reducible refine Box.far ?_ ?_ _; rotate_left; (simp only [ne_eq]; omega)) | (with_reducible refine Box.ext ?_ (by with_reducible assumption)) | (refine Box.new_at _ _ _ ?_; simp only [wsz]; done)))
       have hE : Ext w W := by rw [hW]; exact (by repeat (first | with_reducible assumption | with_reducible exact Ext.refl _ | with_reducible refine Ext.drewN ?_ _ | with_reducible refine Ext.drew ?_ | with_reducible refine Ext.alloc ?_ _ | (with_reducible refine Ext.setCell ?_ ?_ _; rotate_left; (first | exact Nat.le_refl _ | (dsimp only; omega) | (simp only [wsz]; omega))) | (with_reducible refine Ext.trans ?_ (by with_reducible assumption))))
       clear hW
       have b2l := b2.lt
       obtain ⟨ys, hf, hfc⟩ := ((h1b.ext hE).widen (Y := fun b => False ∨ b < w.heap.size) fun b hb _ => .inr hb).flat
       (refine wpList_app (sz := 1) (E := EU) (l := []) (m := z.mag) (Z := fun _ => True) (base := W.heap.size) ety_u (.tmp 4) (.tmp 6) (Own.nil _ _ _ _) (hf.widen fun b _ _ => ⟨trivial, by simp [Value.ownBlock]⟩) (fun h0 => by
          obtain ⟨b, o, hA, _, hc⟩ := hfc h0
          exact ⟨b, o, hA, hc⟩) (by simp only [List.length_nil]; omega) (by simp only [List.length_nil, maxLen]; omega) (Nat.le_refl _) rfl rfl rfl rfl ?_)
       intro v1 w1 hO hg hv
       rw [List.nil_append] at hO
       have hx : Ext W w1 := (Ext.refl W).grown hg (by simp [Value.ownBlock])
       have hO : Nown w1 W.heap.size v1 z.mag := nown_any hO
       obtain ⟨A1, c1, rfl, hN⟩ := hO.nl
       have q1 := b1.ext hx
       have q2 := b2.ext hx
       have q1r := q1.rules
       have q1l := q1.lt
       have q2r := q2.rules
       have q2l := q2.lt
       have hE1 := hE.trans hx)
    | fail)
  (refine bodyPost_ret (v := ?_) ?_ rfl ?_; rotate_left; (simp only [results, Try.results79]; go_simp; (first | done | with_reducible rfl)))
  refine ⟨_, rfl, ⟨A1, c1, rfl, (Nl.keep (hN.widen (Y := fun c => w.heap.size + 1 < c) fun c hc _ => by omega) (by repeat (first | with_reducible exact Kp.refl _ | with_reducible refine Kp.drewN ?_ _ | with_reducible refine Kp.drew ?_ | with_reducible refine Kp.alloc ?_ _ | (with_reducible refine Kp.setCell ?_ ?_ _; rotate_left; (first | (dsimp only; omega) | (simp only [wsz]; omega))) | (with_reducible exact Kp.of_ext (by with_reducible assumption)) | (with_reducible refine Kp.ext ?_ (by with_reducible assumption))))).widen fun c hc _ => by omega⟩, ?_⟩
  exact (hE1.setCell (by simp only; omega) _).setCell (by simp only; omega) _

set_option maxHeartbeats 800000 in
theorem numbers_c {u v : Value} {z : Z} {w : World} {X Y : Nat → Prop} (hx : Zi w X u z) (hy : Zi w Y v z) (hL : z.mag.length ≤ 4398046511104) :
    Calls Try.prog 82 #[u, v] w fun e w' => e = .returned (.bool true) ∧ Ext w w' := by
  obtain ⟨A, c, rfl, h1⟩ := hx
  obtain ⟨B, d, rfl, h2⟩ := hy
  go_enter Try.func82, Try.ntmps82
  go_wp2_with fail
  refine wp_named fun W hW => ?_
  have b2 : Box W w.heap.size 25 #[.bool z.neg, .slice A z.mag.length c] := by rw [hW]; exact (by repeat (first | with_reducible assumption | with_reducible exact Box.new _ _ _ | (with_reducible refine Box.new_at _ _ _ ?_; (simp only [wsz]; done)) | with_reducible refine Box.drewN ?_ _ | with_reducible refine Box.drew ?_ | with_reducible refine Box.alloc ?_ _ | with_reducible apply Box.drewN | with_reducible apply Box.drew | with_reducible apply Box.alloc | with_reducible refine Box.set_ ?_ _ _ | (with_reducible refine Box.far ?_ ?_ _; rotate_left; (simp only [ne_eq]; omega)) | (with_reducible refine Box.ext ?_ (by with_reducible assumption)) | (refine Box.new_at _ _ _ ?_; simp only [wsz]; done)))
  have b3 : Box W (w.heap.size + 1) 25 #[.bool z.neg, .slice B z.mag.length d] := by rw [hW]; exact (by repeat (first | with_reducible assumption | with_reducible exact Box.new _ _ _ | (with_reducible refine Box.new_at _ _ _ ?_; (simp only [wsz]; done)) | with_reducible refine Box.drewN ?_ _ | with_reducible refine Box.drew ?_ | with_reducible refine Box.alloc ?_ _ | with_reducible apply Box.drewN | with_reducible apply Box.drew | with_reducible apply Box.alloc | with_reducible refine Box.set_ ?_ _ _ | (with_reducible refine Box.far ?_ ?_ _; rotate_left; (simp only [ne_eq]; omega)) | (with_reducible refine Box.ext ?_ (by with_reducible assumption)) | (refine Box.new_at _ _ _ ?_; simp only [wsz]; done)))
  have hE : Ext w W := by rw [hW]; exact (by repeat (first | with_reducible assumption | with_reducible exact Ext.refl _ | with_reducible refine Ext.drewN ?_ _ | with_reducible refine Ext.drew ?_ | with_reducible refine Ext.alloc ?_ _ | (with_reducible refine Ext.setCell ?_ ?_ _; rotate_left; (first | exact Nat.le_refl _ | (dsimp only; omega) | (simp only [wsz]; omega))) | (with_reducible refine Ext.trans ?_ (by with_reducible assumption))))
  clear hW
  go_loopw [5] (fun iv wr => ∃ k : Nat, k ≤ z.mag.length ∧ iv = .int .i64 k ∧ Ext W wr) (fun iv _ => z.mag.length - (intOf iv).toNat)
  case atStart => exact ⟨0, Nat.zero_le _, rfl, Ext.refl _⟩
  case round =>
    obtain ⟨k, hk, rfl, hxr⟩ := hrel
    have q2 := b2.ext hxr; have q3 := b3.ext hxr
    have q2r := q2.rules; have q2l := q2.lt
    have q3r := q3.rules; have q3l := q3.lt
    by_cases hlt : k < z.mag.length
    · obtain ⟨b, o, rfl, -, hc, hb⟩ := (h1.ext (hE.trans hxr)).at_ hlt
      obtain ⟨b', o', rfl, -, hc', -⟩ := (h2.ext (hE.trans hxr)).at_ hlt
      have c0 := hc k hlt
      have c1 := hc' k hlt
      have l0 := World.block_lt_of_cell? _ _ c0
      have l1 := World.block_lt_of_cell? _ _ c1
      clear hc hc'
      have kl : (k : Int) < (z.mag.length : Int) := by omega
      have kw := w64n (n := k) (by omega)
      have e0 : (((nth z.mag k : Nat) : Int) != ((nth z.mag k : Nat) : Int)) = false := by simp
      go_wp2_with fail
      refine wp_region_seq 11 [(0, true), (1, true), (2, true), (3, true), (4, true), (5, true), (6, true), (7, true), (8, true), (9, true), (10, true)] rfl (by kernel_rfl) (by intro _ _ d _ _ h; cases d <;> exact h) ?_
      (repeat (refine sq_take (v := ?_) rfl rfl ?_ ?_; rotate_left; (intro w' hx'; have hc' := hx'.cells.1; (try simp only [wcd] at hc'); go_simp; (first | done | with_reducible rfl)); (try simp only [Act.put, List.setIfInBounds_toArray, List.set_cons_zero, List.set_cons_succ])))
      refine sq_done ?_
      go_wp2_with fail
      go_roundw
      case rel => exact ⟨k + 1, by omega, by go_num, hxr.trans (by repeat (first | with_reducible assumption | with_reducible exact Ext.refl _ | with_reducible refine Ext.drewN ?_ _ | with_reducible refine Ext.drew ?_ | with_reducible refine Ext.alloc ?_ _ | (with_reducible refine Ext.setCell ?_ ?_ _; rotate_left; (first | exact Nat.le_refl _ | (dsimp only; omega) | (simp only [wsz]; omega))) | (with_reducible refine Ext.trans ?_ (by with_reducible assumption))))⟩
      case measure => simp [intOf] <;> omega
    · obtain rfl : k = z.mag.length := by omega
      go_wp2_with fail
      go_ret
      exact ⟨rfl, hE.trans hxr⟩

/-- A lent term: it reads as t, and behind its row stands 77. -/
def LentV (w : World) (X : Nat → Prop) (r : Value) (t : T) : Prop := ∃ g c C d, r = .agg #[.slice (some ⟨g, 0, none⟩) t.ps.length c, .bool t.k.neg, .slice C t.k.mag.length d] ∧ Pl w X (some ⟨g, 0, none⟩) c t.ps ∧ Nl w X C d t.k.mag ∧ t.ps.length < c ∧ X g ∧ g < w.heap.size ∧
  w.cell? ⟨g, t.ps.length * 3, none⟩ = some (.int .i64 77)
theorem LentV.tv {w : World} {X : Nat → Prop} {r : Value} {t : T} (h : LentV w X r t) : Tv w X r t := by
  obtain ⟨g, c, C, d, e, h1, h2, -⟩ := h
  exact ⟨_, c, C, d, e, h1, h2⟩
theorem LentV.keep {w w' : World} {X : Nat → Prop} {r : Value} {t : T} (h : LentV w X r t) (k : Kp X w w') : LentV w' X r t := by
  obtain ⟨g, c, C, d, e, h1, h2, h3, h4, h5, h6⟩ := h
  exact ⟨g, c, C, d, e, Pl.keep h1 k, h2.keep k, h3, h4, k.lt h4 h5, (World.cell?_of_block (a := ⟨g, t.ps.length * 3, none⟩) (k g h4 h5)).trans h6⟩
theorem LentV.widen {w : World} {X Y : Nat → Prop} {r : Value} {t : T} (h : LentV w X r t) (k : ∀ b, X b → b < w.heap.size → Y b) : LentV w Y r t := by
  obtain ⟨g, c, C, d, e, h1, h2, h3, h4, h5, h6⟩ := h
  exact ⟨g, c, C, d, e, h1.widen k, h2.widen k, h3, k g h4 h5, h5, h6⟩

theorem Own.spare {α : Type} {sz : Nat} {E : World → (Nat → Prop) → List Value → α → Prop} [Stab E] {w : World} {Zp : Nat → Prop} {base g n c j : Nat} {e : TypeId} {l : List α} (h : Own sz E w Zp base e (.slice (some ⟨g, 0, none⟩) n c) l) (hj : n * sz ≤ j) (u : Value) :
    Own sz E (w.setCell ⟨g, j, none⟩ u) Zp base e (.slice (some ⟨g, 0, none⟩) n c) l := by
  have hn := h.adr.2.1
  subst hn
  obtain ⟨xs, h1, h2⟩ := h
  have h3 := (h1.stored j u).1
  rw [List.set_eq_of_length_le (by rw [h2.1]; exact hj)] at h3
  exact ⟨xs, h3, h2.keep ((Kp.refl w).setCell (fun h => h.2 rfl) u)⟩
theorem Own.there {α : Type} {sz : Nat} {E : World → (Nat → Prop) → List Value → α → Prop} {w : World} {Zp : Nat → Prop} {base g n c j : Nat} {e : TypeId} {l : List α} (h : Own sz E w Zp base e (.slice (some ⟨g, 0, none⟩) n c) l) (hj : j < c * sz) :
    ∃ u, w.cell? ⟨g, j, none⟩ = some u := by
  have hn := h.adr.2.1
  subst hn
  obtain ⟨xs, h1, _⟩ := h
  rcases h1.2 with ⟨hv, _⟩ | ⟨g', cap', cur, hv, hb, hg, hnc, hcm, hcs, htake⟩
  · cases hv
  · injection hv with e1 e2 e3
    injection e1 with e1
    injection e1 with e1
    subst e1; subst e3
    rw [cell_of_row w g j cur _ (0, 0) hg]
    exact ⟨cur[j]'(by omega), Array.getElem?_eq_getElem _⟩
/-- make([]Part, 0, n). -/
theorem wpList_makep {w : World} {ops : Array Oper} {rest : List Oper} {o : Oper} {a : Act} {Q : Exit → Act → World → Prop} (x y : Operand) (Zp : Nat → Prop) (base n : Nat) {C : Int}
    (hb : base ≤ w.heap.size) (hn : n ≤ 1099511627776) (hC : C = (n : Int)) (hg : o.guard = none) (hop : o.op = Op.makeSlice 22 x y) (hl : a.eval x = .int .i64 0) (hc : a.eval y = .int .i64 C)
    (hK : ∀ w', Own 3 EP w' Zp base 69 (.slice (some ⟨w.heap.size, 0, none⟩) 0 n) [] → Ext w w' → wpList Try.prog ops Q rest (a.put o.dst (.slice (some ⟨w.heap.size, 0, none⟩) 0 n)) w') :
    wpList Try.prog ops Q (o :: rest) a w := by
  obtain ⟨i, hi, hz, hsize, hby⟩ := info_parts ety_p.info
  refine wpList_make_own w hg x y _ hop base _ i _ 3 ety_p.under hi hz hsize .i64 .i64 C n hl hc hC (by rw [hby]; omega) (by simp only [maxLen]; omega) hb fun w' h1 h2 => hK w' ⟨[], h1, Fl.nil _ _⟩ ?_
  exact (Ext.refl w).grown h2 (by simp)
/-- append(l, Part{..}) where the row has room. -/
theorem sh_appp1r {ops : Array Oper} {Q : Exit → Act → World → Prop} {i : Nat} {r : List Nat} {w : World} {o : Oper} {a : Act} (s x : Operand) {Zp : Nat → Prop} {base g cap : Nat} {l : List (Int × Z)} {p : Int} {z : Z} {A : Option Addr} {c : Nat}
    (h : Own 3 EP w Zp base 69 (.slice (some ⟨g, 0, none⟩) l.length cap) l) (hi : i64 p) (hN : Nl w (fun b => Zp b ∧ b ≠ g) A c z.mag) (hroom : l.length + 1 ≤ cap)
    (hop : opAt ops.toList i = some o) (hgd : o.guard = none) (ho : o.op = .call { callee := .builtin .append, args := #[s, x], argTypes := #[22, 22] }) (hs : a.eval s = .slice (some ⟨g, 0, none⟩) l.length cap) (hx : a.eval x = .slice (some ⟨w.heap.size, 0, none⟩) 1 1)
    (H : ∀ w', Own 3 EP w' Zp base 69 (.slice (some ⟨g, 0, none⟩) (l.length + 1) cap) (l ++ [(p, z)]) → (w.alloc (.cells #[.int .i64 p, .bool z.neg, .slice A z.mag.length c] 69)).grownBy w' (some g) →
      LateW Try.prog ops Q r (a.put o.dst (.slice (some ⟨g, 0, none⟩) (l.length + 1) cap)) w') :
    LateW Try.prog ops Q (i :: r) a (w.alloc (.cells #[.int .i64 p, .bool z.neg, .slice A z.mag.length c] 69)) := by
  refine sh_late hop hgd fun K hK => ?_
  obtain ⟨inf, hi1, hz, hsize, hby⟩ := info_parts ety_p.info
  have h' := Own.ext h ((Ext.refl w).alloc (.cells #[.int .i64 p, .bool z.neg, .slice A z.mag.length c] 69))
  have hN' := hN.ext ((Ext.refl w).alloc (.cells #[.int .i64 p, .bool z.neg, .slice A z.mag.length c] 69))
  obtain ⟨xs, h1, h2⟩ := h'
  obtain ⟨w', hrun, r1, r2⟩ := run_append_fits (P := Try.prog) (w.alloc (.cells #[.int .i64 p, .bool z.neg, .slice A z.mag.length c] 69)) base _ o.type _ inf 3 ety_p.under hi1 hsize g l.length cap xs h1 ⟨w.heap.size, 0, none⟩ 1 1 [.int .i64 p, .bool z.neg, .slice A z.mag.length c] rfl (fun j u hu => by
    rw [Addr.add_lit, World.cell?_alloc_at (hn := rfl)]
    match j, hu with
    | 0, hu => simpa using hu
    | 1, hu => simpa using hu
    | 2, hu => simpa using hu) (by simp [Value.oneCell']) hroom
  unfold Oper.wp execOp
  simp only [ho, resolve, invoke, builtin, Sem.run_bind, Sem.run_pure, Result.andThen_ok, List.map_toArray, List.map_cons, List.map_nil, hs, hx, hrun]
  refine hK _ _ (H w' ⟨_, by simpa using r1, ?_⟩ r2)
  have hX : ∀ n m, (fun b => Zp b ∧ Value.ownBlock (.slice (some ⟨g, 0, none⟩) n m) ≠ some b) = fun b => Zp b ∧ b ≠ g := fun n m => by
    funext b
    apply propext
    constructor
    · rintro ⟨h3, h4⟩; exact ⟨h3, fun e => h4 (by rw [e]; rfl)⟩
    · rintro ⟨h3, h4⟩; exact ⟨h3, fun e => h4 (Option.some.inj e).symm⟩
  rw [hX] at h2 ⊢
  have h3 : Fl 3 EP (w.alloc (.cells #[.int .i64 p, .bool z.neg, .slice A z.mag.length c] 69)) (fun b => Zp b ∧ b ≠ g) (xs ++ [.int .i64 p, .bool z.neg, .slice A z.mag.length c]) (l ++ [(p, z)]) := h2.append (Fl.one ⟨A, c, rfl, hi, hN'⟩ rfl)
  exact h3.keep (Kp.of_grown r2 (fun h => h.2 rfl))

set_option maxHeartbeats 1600000 in
theorem lent_c {v : Value} {t : T} {w : World} {X : Nat → Prop} {N : Nat} (h : Tv w X v t) (hN : N ≤ 4294967296) (hs : t.sz N) :
    Calls Try.prog 31 #[v] w fun e w' => ∃ r, e = .returned r ∧ LentV w' (w.heap.size ≤ ·) r t ∧ Ext w w' := by
  obtain ⟨s1, s2, s3⟩ := hs
  obtain ⟨A, c, B, d, rfl, h1, h2⟩ := h
  have h1b := h1.below
  have nw : IntKind.i64.wrap ((t.ps.length : Int) + 1) = (t.ps.length : Int) + 1 := w64 ⟨by omega, by omega⟩
  go_enter Try.func31, Try.ntmps31
  go_wp2_with (first
    | (at_make
       refine wpl_named fun W hW => ?_
       have b1 : Box W w.heap.size 27 #[.slice A t.ps.length c, .bool t.k.neg, .slice B t.k.mag.length d] := by rw [hW]; exact (by repeat (first | with_reducible assumption | with_reducible exact Box.new _ _ _ | (with_reducible refine Box.new_at _ _ _ ?_; (simp only [wsz]; done)) | with_reducible refine Box.drewN ?_ _ | with_reducible refine Box.drew ?_ | with_reducible refine Box.alloc ?_ _ | with_reducible apply Box.drewN | with_reducible apply Box.drew | with_reducible apply Box.alloc | with_reducible refine Box.set_ ?_ _ _ | (with_reducible refine Box.far ?_ ?_ _; rotate_left; (simp only [ne_eq]; omega)) | (with_reducible refine Box.ext ?_ (by with_reducible assumption)) | (refine Box.new_at _ _ _ ?_; simp only [wsz]; done)))
       have b2 : Box W (w.heap.size + 1) 27 #[.slice none 0 0, .bool false, .slice none 0 0] := by rw [hW]; exact (by repeat (first | with_reducible assumption | with_reducible exact Box.new _ _ _ | (with_reducible refine Box.new_at _ _ _ ?_; (simp only [wsz]; done)) | with_reducible refine Box.drewN ?_ _ | with_reducible refine Box.drew ?_ | with_reducible refine Box.alloc ?_ _ | with_reducible apply Box.drewN | with_reducible apply Box.drew | with_reducible apply Box.alloc | with_reducible refine Box.set_ ?_ _ _ | (with_reducible refine Box.far ?_ ?_ _; rotate_left; (simp only [ne_eq]; omega)) | (with_reducible refine Box.ext ?_ (by with_reducible assumption)) | (refine Box.new_at _ _ _ ?_; simp only [wsz]; done)))
       have hE : Ext w W := by rw [hW]; exact (by repeat (first | with_reducible assumption | with_reducible exact Ext.refl _ | with_reducible refine Ext.drewN ?_ _ | with_reducible refine Ext.drew ?_ | with_reducible refine Ext.alloc ?_ _ | (with_reducible refine Ext.setCell ?_ ?_ _; rotate_left; (first | exact Nat.le_refl _ | (dsimp only; omega) | (simp only [wsz]; omega))) | (with_reducible refine Ext.trans ?_ (by with_reducible assumption))))
       clear hW
       have b2l := b2.lt
       (refine wpList_makep _ (.tmp 9) (W.heap.size ≤ ·) W.heap.size (t.ps.length + 1) (Nat.le_refl _) (by omega) (by omega) rfl rfl rfl rfl ?_)
       intro w1 hO1 hx1)
    | fail)
  have q1W := b1.ext hx1
  have q2W := b2.ext hx1
  have hE1 := hE.trans hx1
  have hWs := hE.size
  obtain ⟨-, -, hg1, hg2⟩ := hO1.adr
  go_loopw [3, 4] (fun lv iv wr => ∃ k : Nat, k ≤ t.ps.length ∧ iv = .int .i64 k ∧ lv = .slice (some ⟨W.heap.size, 0, none⟩) k (t.ps.length + 1) ∧ Own 3 EP wr (W.heap.size ≤ ·) W.heap.size 69 (.slice (some ⟨W.heap.size, 0, none⟩) k (t.ps.length + 1)) (t.ps.take k) ∧ Ext W wr ∧ w1.heap.size ≤ wr.heap.size) (fun _ iv _ => t.ps.length - (intOf iv).toNat)
  case atStart => exact ⟨0, Nat.zero_le _, rfl, rfl, hO1, hx1, Nat.le_refl _⟩
  case round =>
    clear hO1 q1W q2W
    obtain ⟨k, hkk, rfl, rfl, hO, hxr, hsr⟩ := hrel
    have q1 := b1.ext hxr; have q2 := b2.ext hxr
    have q1r := q1.rules; have q1l := q1.lt
    have hxw := hE.trans hxr
    by_cases hlt : k < t.ps.length
    · obtain ⟨b, o, B', d', rfl, hX, hc0, hc1, hc2, hi, hN2⟩ := (h1b.ext hxw).at_ hlt
      have hb := World.block_lt_of_cell? _ _ hc0
      have kl : (k : Int) < (t.ps.length : Int) := by omega
      have hpz : (pth t.ps k).2.mag.length ≤ N := s2 _ (pth_mem hlt)
      have hsl : (t.ps.take k).length = k := by rw [List.length_take]; omega
      go_wp2_with fail
      refine wp_region_late [(0, true), (1, true), (2, true), (3, true), (4, true), (5, true), (6, true), (7, true), (8, true), (9, true), (10, true), (11, true), (12, true), (13, false), (14, true), (15, false)] [16, 17] rfl (by kernel_rfl) (by intro _ _ d _ _ h; cases d <;> exact h) ?_
      (repeat (refine sh_take (v := ?_) rfl rfl ?_ ?_; rotate_left; (intro w' hx'; have hc' := hx'.cells.1; (try simp only [wcd] at hc'); go_simp; (first | done | with_reducible rfl)); (try simp only [Act.put, List.setIfInBounds_toArray, List.set_cons_zero, List.set_cons_succ])))
      (refine sh_loud rfl rfl fun K hK => ?_; go_simp)
      refine (number_c (z := (pth t.ps k).2) ⟨_, _, rfl, hN2.ext (by repeat (first | with_reducible assumption | with_reducible exact Ext.refl _ | with_reducible refine Ext.drewN ?_ _ | with_reducible refine Ext.drew ?_ | with_reducible refine Ext.alloc ?_ _ | (with_reducible refine Ext.setCell ?_ ?_ _; rotate_left; (first | exact Nat.le_refl _ | (dsimp only; omega) | (simp only [wsz]; omega))) | (with_reducible refine Ext.trans ?_ (by with_reducible assumption))))⟩ (by omega)).mono ?_
      rintro e w2 ⟨r, rfl, ⟨A4, c4, rfl, hN4⟩, hx2⟩
      (have hs1 := Ext.size hx2; (try simp only [wsz] at hs1))
      have hx3 : Ext wr w2 := (by repeat (first | with_reducible assumption | with_reducible exact Ext.refl _ | with_reducible refine Ext.drewN ?_ _ | with_reducible refine Ext.drew ?_ | with_reducible refine Ext.alloc ?_ _ | (with_reducible refine Ext.setCell ?_ ?_ _; rotate_left; (first | exact Nat.le_refl _ | (dsimp only; omega) | (simp only [wsz]; omega))) | (with_reducible refine Ext.trans ?_ (by with_reducible assumption))))
      (refine hK _ _ (by repeat (first | with_reducible assumption | with_reducible exact Ext.refl _ | with_reducible refine Ext.drewN ?_ _ | with_reducible refine Ext.drew ?_ | with_reducible refine Ext.alloc ?_ _ | (with_reducible refine Ext.setCell ?_ ?_ _; rotate_left; (first | exact Nat.le_refl _ | (dsimp only; omega) | (simp only [wsz]; omega))) | (with_reducible refine Ext.trans ?_ (by with_reducible assumption)))) ?_; clear hK K; (try simp only [Act.put, List.setIfInBounds_toArray, List.set_cons_zero, List.set_cons_succ]))
      (repeat (refine sh_take (v := ?_) rfl rfl ?_ ?_; rotate_left; (intro w' hx'; have hc' := hx'.cells.1; (try simp only [wcd] at hc'); go_simp; (first | done | with_reducible rfl)); (try simp only [Act.put, List.setIfInBounds_toArray, List.set_cons_zero, List.set_cons_succ])))
      (refine sh_loud rfl rfl fun K hK => ?_; go_simp)
      (refine hK _ _ (by repeat (first | with_reducible assumption | with_reducible exact Ext.refl _ | with_reducible refine Ext.drewN ?_ _ | with_reducible refine Ext.drew ?_ | with_reducible refine Ext.alloc ?_ _ | (with_reducible refine Ext.setCell ?_ ?_ _; rotate_left; (first | exact Nat.le_refl _ | (dsimp only; omega) | (simp only [wsz]; omega))) | (with_reducible refine Ext.trans ?_ (by with_reducible assumption)))) ?_; clear hK K; (try simp only [Act.put, List.setIfInBounds_toArray, List.set_cons_zero, List.set_cons_succ]))
      refine sh_done ?_
      have hO2 : Own 3 EP w2 (W.heap.size ≤ ·) W.heap.size 69 (.slice (some ⟨W.heap.size, 0, none⟩) (t.ps.take k).length (t.ps.length + 1)) (t.ps.take k) := by rw [hsl]; exact hO.ext hx3
      refine sh_appp1r (.tmp 18) (.tmp 33) hO2 hi (hN4.widen fun q hq _ => ⟨by simp only [wsz] at hq; omega, by simp only [wsz] at hq; omega⟩) (by rw [hsl]; omega) rfl rfl rfl (by rw [hsl]; rfl) rfl ?_
      rw [hsl]
      intro w3 hO3 hg3
      (try simp only [Act.put, List.setIfInBounds_toArray, List.set_cons_zero, List.set_cons_succ])
      (refine sh_late rfl rfl fun K hK => ?_; go_simp; refine hK _ _ ?_; clear hK K)
      refine sh_end ?_
      have hxx : Ext W w3 := (hxr.trans (hx3.alloc _)).grown hg3 (fun j hj => by have := Option.some.inj hj; omega)
      have hs3 := hg3.size
      simp only [wsz] at hs3
      have e2 : t.ps.take (k + 1) = t.ps.take k ++ [((pth t.ps k).1, (pth t.ps k).2)] := take_pth t.ps k hlt
      rw [← e2] at hO3
      go_wp2_with fail
      go_roundw
      case rel => exact ⟨k + 1, by omega, by go_num, by go_num, hO3, hxx, by omega⟩
      case measure => simp [intOf] <;> omega
    · obtain rfl : k = t.ps.length := by omega
      rw [List.take_length] at hO
      obtain ⟨u0, hu0⟩ := hO.there (j := t.ps.length * 3) (by omega)
      have hf0 := hO.frz (t.ps.length * 3)
      have hgr : W.heap.size < wr.heap.size := by omega
      have nl : (t.ps.length : Int) < (t.ps.length : Int) + 1 := by omega
      go_wp2_with fail
      have hO2 := hO.spare (j := t.ps.length * 3) (Nat.le_refl _) (.int .i64 77)
      have hx2 : Ext w (wr.setCell ⟨W.heap.size, t.ps.length * 3, none⟩ (.int .i64 77)) := hxw.setCell hWs _
      have hc77 : (wr.setCell ⟨W.heap.size, t.ps.length * 3, none⟩ (.int .i64 77)).cell? ⟨W.heap.size, t.ps.length * 3, none⟩ = some (.int .i64 77) := World.cell?_setCell_same' _ _ _ (by rw [hu0]; rfl)
      have q2' := q2.far (p := ⟨W.heap.size, t.ps.length * 3, none⟩) (by simp only; omega) (.int .i64 77)
      have hsz := World.size_setCell wr ⟨W.heap.size, t.ps.length * 3, none⟩ (.int .i64 77)
      obtain ⟨V, hV⟩ : ∃ V, V = wr.setCell ⟨W.heap.size, t.ps.length * 3, none⟩ (.int .i64 77) := ⟨_, rfl⟩
      rw [← hV] at hO2 hx2 hc77 q2' hsz ⊢
      clear hV
      refine (number_c (z := t.k) ⟨_, _, rfl, h2.ext hx2⟩ (by omega)).mono ?_
      rintro e w3 ⟨r3, rfl, ⟨A3, c3, rfl, hN3⟩, hx3⟩
      have q3 := q2'.ext hx3
      have q3r := q3.rules
      have q3l := q3.lt
      have hE3 := hx2.trans hx3
      have hO3 := hO2.ext hx3
      have hg3 := hO3.adr.2.2.2
      have hc3 := (hx3.cells.1 W.heap.size (t.ps.length * 3) (by omega)).trans hc77
      obtain ⟨A5, c5, e5, hP5⟩ := Own.sl hO3 (by omega) (X := (W.heap.size ≤ ·)) (fun b hb => hb.elim id id)
      injection e5 with e51 e52 e53
      subst e51; subst e53
      have hP5 : Pl w3 (W.heap.size ≤ ·) (some ⟨W.heap.size, 0, none⟩) (t.ps.length + 1) t.ps := hP5
      clear q1r
      go_wp2_with fail
      (refine bodyPost_ret (v := ?_) ?_ rfl ?_; rotate_left; (simp only [results, Try.results31]; go_simp; (first | done | with_reducible rfl)))
      have kp : Kp (fun c => w.heap.size + 1 < c) w3 (((w3.setCell ⟨w.heap.size + 1, 0, none⟩ (.slice (some ⟨W.heap.size, 0, none⟩) t.ps.length (t.ps.length + 1))).setCell ⟨w.heap.size + 1, 1, none⟩ (.bool t.k.neg)).setCell ⟨w.heap.size + 1, 2, none⟩ (.slice A3 t.k.mag.length c3)) := (by repeat (first | with_reducible exact Kp.refl _ | with_reducible refine Kp.drewN ?_ _ | with_reducible refine Kp.drew ?_ | with_reducible refine Kp.alloc ?_ _ | (with_reducible refine Kp.setCell ?_ ?_ _; rotate_left; (first | (dsimp only; omega) | (simp only [wsz]; omega))) | (with_reducible exact Kp.of_ext (by with_reducible assumption)) | (with_reducible refine Kp.ext ?_ (by with_reducible assumption))))
      refine ⟨_, rfl, ?_, ((hE3.setCell (by simp only; omega) _).setCell (by simp only; omega) _).setCell (by simp only; omega) _⟩
      have hV : LentV w3 (fun c => w.heap.size + 1 < c) (.agg #[.slice (some ⟨W.heap.size, 0, none⟩) t.ps.length (t.ps.length + 1), .bool t.k.neg, .slice A3 t.k.mag.length c3]) t := ⟨W.heap.size, t.ps.length + 1, A3, c3, rfl, hP5.widen fun b hb _ => by omega, hN3.widen fun b hb _ => by omega, by omega, by omega, hg3, hc3⟩
      exact (hV.keep kp).widen fun b hb _ => by omega

end Go.Proofs.Ytbblgjjomgipfaa
