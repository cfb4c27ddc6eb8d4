/- periods: sets and rows in memory; slices.BinarySearchFunc at numbers. No conditions. -/
import Derived.Test.YtbblgjjomgipfaaGreatPer
import Derived.Shelf.Abstract
namespace Go.Proofs.YtbblgjjomgipfaaGreat
open Go.RowKit Go.Shelf

/-- One remainder. -/
def EB (_ : World) (_ : Nat → Prop) (cs : List Value) (b : Bool) : Prop := cs = [.bool b]
instance : Stab EB := ⟨fun h _ => h, fun h _ => h, fun h => by unfold EB at h; subst h; simp [Value.oneCell']⟩
abbrev Rl (w : World) (X : Nat → Prop) (A : Option Addr) (c : Nat) (r : List Bool) : Prop := Sl 1 EB w X A c r
/-- One row. -/
def ER (w : World) (X : Nat → Prop) (cs : List Value) (r : List Bool) : Prop := ∃ A c, cs = [.slice A r.length c] ∧ Rl w X A c r
instance : Stab ER := ⟨fun ⟨A, c, h, k⟩ kp => ⟨A, c, h, Sl.keep k kp⟩, fun ⟨A, c, h, k⟩ kp => ⟨A, c, h, Sl.widen k (by omega) kp⟩, fun ⟨A, c, h, _⟩ => by subst h; simp [Value.oneCell']⟩
/-- Numbers in a row. -/
abbrev Zs (w : World) (X : Nat → Prop) (A : Option Addr) (c : Nat) (l : List Z) : Prop := Sl 2 EZ w X A c l
def zth (l : List Z) (k : Nat) : Z := l.getD k ⟨false, []⟩
theorem zth_eq (l : List Z) (k : Nat) (h : k < l.length) : zth l k = l[k] := by simp [zth, h]
theorem zth_mem {l : List Z} {k : Nat} (h : k < l.length) : zth l k ∈ l := by rw [zth_eq l k h]; exact List.getElem_mem h
theorem drop_zth (l : List Z) (k : Nat) (h : k < l.length) : l.drop k = zth l k :: l.drop (k + 1) := by
  rw [zth_eq l k h]; exact List.drop_eq_getElem_cons h
theorem take_zth (l : List Z) (k : Nat) (h : k < l.length) : l.take (k + 1) = l.take k ++ [zth l k] := by
  rw [zth_eq l k h]; exact List.take_succ_eq_append_getElem h
theorem Zs.at_ {w : World} {X : Nat → Prop} {A : Option Addr} {c : Nat} {l : List Z} (h : Zs w X A c l) {k : Nat} (hk : k < l.length) :
    ∃ b o B d, A = some ⟨b, o, none⟩ ∧ X b ∧ w.cell? ⟨b, o + k * 2, none⟩ = some (.bool (zth l k).neg) ∧ w.cell? ⟨b, o + k * 2 + 1, none⟩ = some (.slice B (zth l k).mag.length d) ∧ Nl w X B d (zth l k).mag := by
  obtain ⟨b, o, hA, hX, hi⟩ := h.2.2.1 (by omega)
  obtain ⟨cs, _, hc, B, d, rfl, h1⟩ := hi k hk
  rw [zth_eq l k hk]
  exact ⟨b, o, B, d, hA, hX, hc 0 (by simp), hc 1 (by simp), h1⟩
theorem Zs.ext {w w' : World} {X : Nat → Prop} {A : Option Addr} {c : Nat} {l : List Z} (h : Zs w X A c l) (k : Ext w w') : Zs w' X A c l := Sl.keep h (.of_ext k)
def bth (l : List Bool) (k : Nat) : Bool := l.getD k false
theorem bth_eq (l : List Bool) (k : Nat) (h : k < l.length) : bth l k = l[k] := by simp [bth, h]
theorem Rl.at_ {w : World} {X : Nat → Prop} {A : Option Addr} {c : Nat} {l : List Bool} (h : Rl w X A c l) {k : Nat} (hk : k < l.length) :
    ∃ b o, A = some ⟨b, o, none⟩ ∧ X b ∧ w.cell? ⟨b, o + k, none⟩ = some (.bool (bth l k)) := by
  obtain ⟨b, o, hA, hX, hi⟩ := h.2.2.1 (by omega)
  obtain ⟨cs, _, hc, h1⟩ := hi k hk
  unfold EB at h1
  subst h1
  have := hc 0 (by simp)
  rw [bth_eq l k hk]
  exact ⟨b, o, hA, hX, by simpa using this⟩
def rth (l : List (List Bool)) (k : Nat) : List Bool := l.getD k []
theorem rth_eq (l : List (List Bool)) (k : Nat) (h : k < l.length) : rth l k = l[k] := by simp [rth, h]
abbrev Rs (w : World) (X : Nat → Prop) (A : Option Addr) (c : Nat) (l : List (List Bool)) : Prop := Sl 1 ER w X A c l
theorem Rs.at_ {w : World} {X : Nat → Prop} {A : Option Addr} {c : Nat} {l : List (List Bool)} (h : Rs w X A c l) {k : Nat} (hk : k < l.length) :
    ∃ b o B d, A = some ⟨b, o, none⟩ ∧ X b ∧ w.cell? ⟨b, o + k, none⟩ = some (.slice B (rth l k).length d) ∧ Rl w X B d (rth l k) := by
  obtain ⟨b, o, hA, hX, hi⟩ := h.2.2.1 (by omega)
  obtain ⟨cs, _, hc, B, d, rfl, h1⟩ := hi k hk
  have := hc 0 (by simp)
  rw [rth_eq l k hk]
  exact ⟨b, o, B, d, hA, hX, by simpa using this, h1⟩

/-- A set: its period, cuts, rows. -/
structure Ps where
  per : Nat
  cuts : List Z
  rows : List (List Bool)
def SetV (w : World) (X : Nat → Prop) (g : Nat) (s : Ps) : Prop :=
  ∃ cA c rA d, Box w g 79 #[.int .i64 (s.per : Nat), .slice cA s.cuts.length c, .slice rA s.rows.length d] ∧ X g ∧ Zs w X cA c s.cuts ∧ Rs w X rA d s.rows
theorem SetV.keep {w w' : World} {X : Nat → Prop} {g : Nat} {s : Ps} (h : SetV w X g s) (k : Kp X w w') : SetV w' X g s := by
  obtain ⟨cA, c, rA, d, h1, h2, h3, h4⟩ := h
  exact ⟨cA, c, rA, d, h1.keep h2 k, h2, Sl.keep h3 k, Sl.keep h4 k⟩
theorem SetV.ext {w w' : World} {X : Nat → Prop} {g : Nat} {s : Ps} (h : SetV w X g s) (k : Ext w w') : SetV w' X g s := h.keep (.of_ext k)
theorem SetV.widen {w : World} {X Y : Nat → Prop} {g : Nat} {s : Ps} (h : SetV w X g s) (k : ∀ b, X b → b < w.heap.size → Y b) : SetV w Y g s := by
  obtain ⟨cA, c, rA, d, h1, h2, h3, h4⟩ := h
  exact ⟨cA, c, rA, d, h1, k g h2 h1.lt, Sl.widen h3 (by omega) k, Sl.widen h4 (by omega) k⟩

/-- How many numbers at the head are below x. -/
def lbd : List Int → Int → Nat
  | [], _ => 0
  | c :: r, x => if c < x then lbd r x + 1 else 0
theorem lbd_le : ∀ (l : List Int) (x : Int), lbd l x ≤ l.length
  | [], _ => Nat.le_refl _
  | c :: r, x => by
    unfold lbd
    split
    · have := lbd_le r x
      simp only [List.length_cons]
      omega
    · exact Nat.zero_le _
theorem lbd_eq : ∀ {l : List Int} {x : Int} {p : Nat}, p ≤ l.length → (∀ j (h : j < l.length), j < p → l[j] < x) → (∀ j (h : j < l.length), p ≤ j → ¬ l[j] < x) → lbd l x = p
  | [], _, p, hp, _, _ => by simp at hp; subst hp; rfl
  | c :: r, x, 0, _, _, h2 => by
    have h0 : ¬ c < x := h2 0 (by simp) (Nat.le_refl _)
    unfold lbd
    rw [if_neg h0]
  | c :: r, x, p + 1, hp, h1, h2 => by
    have h0 : c < x := h1 0 (by simp) (by omega)
    unfold lbd
    rw [if_pos h0, lbd_eq (l := r) (p := p) (by simpa using hp) (fun j hj hjp => h1 (j + 1) (by simpa using hj) (by omega)) (fun j hj hjp => h2 (j + 1) (by simpa using hj) (by omega))]
def zv (l : List Z) : List Int := l.map Z.v
theorem zv_len (l : List Z) : (zv l).length = l.length := by simp [zv]
theorem zv_at (l : List Z) (k : Nat) (h : k < l.length) : (zv l)[k]'(by rw [zv_len]; exact h) = (zth l k).v := by simp [zv, zth_eq l k h]
/-- Rising. -/
abbrev Ris (l : List Int) : Prop := l.Pairwise (· < ·)
theorem Ris.lt {l : List Int} (h : Ris l) {i j : Nat} (hi : i < l.length) (hj : j < l.length) (hij : i < j) : l[i] < l[j] := List.pairwise_iff_getElem.1 h i j hi hj hij
/-- Is x there? -/
def fnd (l : List Int) (x : Int) : Bool := decide (l[lbd l x]? = some x)

set_option maxHeartbeats 1600000 in
theorem bsearch_c {w : World} {X Y : Nat → Prop} {A : Option Addr} {c : Nat} {l : List Z} {v : Value} {z : Z} (h : Zs w X A c l) (hz : Zi w Y v z) (hs : Ris (zv l)) (hl : l.length ≤ 1099511627776) :
    Calls Tryz.prog 86 #[.slice A l.length c, v, .func (.func 75) #[] #[]] w fun e w' =>
      e = .returned (.tuple #[.int .i64 (lbd (zv l) z.v : Nat), .bool (fnd (zv l) z.v)]) ∧ Ext w w' := by
  have hzi := hz
  obtain ⟨B, d, rfl, hz⟩ := hz
  have hlc := h.1; have hm := h.2.1
  simp only [maxLen] at hm
  have eg : ∀ args w, (callFunc 75 args).run Tryz.prog w = .ok (.enter 75 args) w := enters_of Tryz.func75 (by kernel_rfl) rfl
  go_enter Tryz.func86, Tryz.ntmps86
  go_wp2_with fail
  refine wp_named fun W hW => ?_
  have b4 : Box W w.heap.size 25 #[.bool z.neg, .slice B z.mag.length d] := by rw [hW]; exact (by repeat (first | with_reducible assumption | with_reducible exact Box.new _ _ _ | (with_reducible refine Box.new_at _ _ _ ?_; (simp only [wsz]; done)) | with_reducible refine Box.drewN ?_ _ | with_reducible refine Box.drew ?_ | with_reducible refine Box.alloc ?_ _ | with_reducible apply Box.drewN | with_reducible apply Box.drew | with_reducible apply Box.alloc | with_reducible refine Box.set_ ?_ _ _ | (with_reducible refine Box.far ?_ ?_ _; rotate_left; (simp only [ne_eq]; omega)) | (with_reducible refine Box.ext ?_ (by with_reducible assumption)) | (refine Box.new_at _ _ _ ?_; simp only [wsz]; done)))
  have hE : Ext w W := by rw [hW]; exact (by repeat (first | with_reducible assumption | with_reducible exact Ext.refl _ | with_reducible refine Ext.drewN ?_ _ | with_reducible refine Ext.drew ?_ | with_reducible refine Ext.alloc ?_ _ | (with_reducible refine Ext.setCell ?_ ?_ _; rotate_left; (first | exact Nat.le_refl _ | (dsimp only; omega) | (simp only [wsz]; omega))) | (with_reducible refine Ext.trans ?_ (by with_reducible assumption))))
  clear hW
  go_loopw [9, 10] (fun iv jv wr => ∃ i j : Nat, i ≤ j ∧ j ≤ l.length ∧ iv = .int .i64 i ∧ jv = .int .i64 j ∧ Hid (∀ k (h : k < (zv l).length), k < i → (zv l)[k] < z.v) ∧ Hid (∀ k (h : k < (zv l).length), j ≤ k → z.v ≤ (zv l)[k]) ∧ Ext W wr) (fun iv jv _ => (intOf jv).toNat - (intOf iv).toNat)
  case atStart => exact ⟨0, l.length, Nat.zero_le _, Nat.le_refl _, rfl, rfl, Lib.hid fun _ _ h => absurd h (Nat.not_lt_zero _), Lib.hid fun k hk h => absurd hk (by rw [zv_len]; omega), Ext.refl _⟩
  case round =>
    obtain ⟨i, j, hij, hj, rfl, rfl, hlo, hhi, hxr⟩ := hrel
    have q4 := b4.ext hxr
    have q4r := q4.rules; have q4l := q4.lt
    have hxw := hE.trans hxr
    by_cases hlt : i < j
    · have hli : (i : Int) < (j : Int) := by omega
      obtain ⟨m, hm0⟩ : ∃ m, m = (i + j) / 2 := ⟨_, rfl⟩
      have hm1 : i ≤ m := by omega
      have hm2 : m < j := by omega
      have em : ((i : Int) + (j : Int)) / 2 = (m : Int) := by omega
      clear hm0
      obtain ⟨b, o, B', d', rfl, hX, hc0, hc1, hN⟩ := (h.ext hxw).at_ (k := m) (by omega)
      have hb := World.block_lt_of_cell? _ _ hc0
      have ml : (m : Int) < (l.length : Int) := by omega
      have hcall := fun (V : World) (hV : Ext wr V) => zcmp_c (x := zth l m) (y := z) ⟨_, _, rfl, hN.ext hV⟩ (hzi.ext (hxw.trans hV))
      by_cases hcm : (zth l m).v < z.v
      · have e1 : cmpI (zth l m).v z.v = -1 := cmpI_lt hcm
        rw [e1] at hcall
        have Hcm := Lib.hid hcm; clear hcm e1
        go_wp2_with fail
        refine wp_region_seq 8 [(0, true), (1, true), (2, true), (3, true), (4, true), (5, true), (6, false), (7, true)] rfl (by kernel_rfl) (by intro _ _ d _ _ h; cases d <;> exact h) ?_
        (repeat (refine sq_take (v := ?_) rfl rfl ?_ ?_; rotate_left; (intro w' hx'; have hc' := hx'.cells.1; (try simp only [wcd] at hc'); go_simp; (first | done | with_reducible rfl)); (try simp only [Act.put, List.setIfInBounds_toArray, List.set_cons_zero, List.set_cons_succ])))
        (refine sq_loud rfl rfl fun K hK => ?_; go_simp)
        refine (hcall _ (by repeat (first | with_reducible assumption | with_reducible exact Ext.refl _ | with_reducible refine Ext.drewN ?_ _ | with_reducible refine Ext.drew ?_ | with_reducible refine Ext.alloc ?_ _ | (with_reducible refine Ext.setCell ?_ ?_ _; rotate_left; (first | exact Nat.le_refl _ | (dsimp only; omega) | (simp only [wsz]; omega))) | (with_reducible refine Ext.trans ?_ (by with_reducible assumption))))).mono ?_
        rintro e w1 ⟨rfl, hx1⟩
        (refine hK _ _ (by repeat (first | with_reducible assumption | with_reducible exact Ext.refl _ | with_reducible refine Ext.drewN ?_ _ | with_reducible refine Ext.drew ?_ | with_reducible refine Ext.alloc ?_ _ | (with_reducible refine Ext.setCell ?_ ?_ _; rotate_left; (first | exact Nat.le_refl _ | (dsimp only; omega) | (simp only [wsz]; omega))) | (with_reducible refine Ext.trans ?_ (by with_reducible assumption)))) ?_; clear hK K; (try simp only [Act.put, List.setIfInBounds_toArray, List.set_cons_zero, List.set_cons_succ]))
        (repeat (refine sq_take (v := ?_) rfl rfl ?_ ?_; rotate_left; (intro w' hx'; have hc' := hx'.cells.1; (try simp only [wcd] at hc'); go_simp; (first | done | with_reducible rfl)); (try simp only [Act.put, List.setIfInBounds_toArray, List.set_cons_zero, List.set_cons_succ])))
        refine sq_done ?_
        go_wp2_with fail
        go_roundw
        case rel =>
          refine ⟨m + 1, j, by omega, by omega, by go_num, rfl, Lib.hid fun k hk hkm => ?_, hhi, hxr.trans (by repeat (first | with_reducible assumption | with_reducible exact Ext.refl _ | with_reducible refine Ext.drewN ?_ _ | with_reducible refine Ext.drew ?_ | with_reducible refine Ext.alloc ?_ _ | (with_reducible refine Ext.setCell ?_ ?_ _; rotate_left; (first | exact Nat.le_refl _ | (dsimp only; omega) | (simp only [wsz]; omega))) | (with_reducible refine Ext.trans ?_ (by with_reducible assumption))))⟩
          have h1 := Hcm.out
          have h2 := zv_at l m (by omega)
          rw [← h2] at h1
          by_cases e : k = m
          · subst e; exact h1
          · exact Int.lt_trans (hs.lt hk (by rw [zv_len]; omega) (by omega)) h1
        case measure => simp [intOf] <;> omega
      · have e1 : ¬ cmpI (zth l m).v z.v < 0 := fun h => hcm (cmpI_neg.1 h)
        have Hcm := Lib.hid hcm; clear hcm
        go_wp2_with fail
        refine wp_region_seq 8 [(0, true), (1, true), (2, true), (3, true), (4, true), (5, true), (6, false), (7, true)] rfl (by kernel_rfl) (by intro _ _ d _ _ h; cases d <;> exact h) ?_
        (repeat (refine sq_take (v := ?_) rfl rfl ?_ ?_; rotate_left; (intro w' hx'; have hc' := hx'.cells.1; (try simp only [wcd] at hc'); go_simp; (first | done | with_reducible rfl)); (try simp only [Act.put, List.setIfInBounds_toArray, List.set_cons_zero, List.set_cons_succ])))
        (refine sq_loud rfl rfl fun K hK => ?_; go_simp)
        refine (hcall _ (by repeat (first | with_reducible assumption | with_reducible exact Ext.refl _ | with_reducible refine Ext.drewN ?_ _ | with_reducible refine Ext.drew ?_ | with_reducible refine Ext.alloc ?_ _ | (with_reducible refine Ext.setCell ?_ ?_ _; rotate_left; (first | exact Nat.le_refl _ | (dsimp only; omega) | (simp only [wsz]; omega))) | (with_reducible refine Ext.trans ?_ (by with_reducible assumption))))).mono ?_
        rintro e w1 ⟨rfl, hx1⟩
        (refine hK _ _ (by repeat (first | with_reducible assumption | with_reducible exact Ext.refl _ | with_reducible refine Ext.drewN ?_ _ | with_reducible refine Ext.drew ?_ | with_reducible refine Ext.alloc ?_ _ | (with_reducible refine Ext.setCell ?_ ?_ _; rotate_left; (first | exact Nat.le_refl _ | (dsimp only; omega) | (simp only [wsz]; omega))) | (with_reducible refine Ext.trans ?_ (by with_reducible assumption)))) ?_; clear hK K; (try simp only [Act.put, List.setIfInBounds_toArray, List.set_cons_zero, List.set_cons_succ]))
        (repeat (refine sq_take (v := ?_) rfl rfl ?_ ?_; rotate_left; (intro w' hx'; have hc' := hx'.cells.1; (try simp only [wcd] at hc'); go_simp; (first | done | with_reducible rfl)); (try simp only [Act.put, List.setIfInBounds_toArray, List.set_cons_zero, List.set_cons_succ])))
        refine sq_done ?_
        go_wp2_with fail
        go_roundw
        case rel =>
          refine ⟨i, m, by omega, by omega, rfl, by go_num, hlo, Lib.hid fun k hk hkm => ?_, hxr.trans (by repeat (first | with_reducible assumption | with_reducible exact Ext.refl _ | with_reducible refine Ext.drewN ?_ _ | with_reducible refine Ext.drew ?_ | with_reducible refine Ext.alloc ?_ _ | (with_reducible refine Ext.setCell ?_ ?_ _; rotate_left; (first | exact Nat.le_refl _ | (dsimp only; omega) | (simp only [wsz]; omega))) | (with_reducible refine Ext.trans ?_ (by with_reducible assumption))))⟩
          have h1 := Hcm.out
          have h2 := zv_at l m (by omega)
          rw [← h2] at h1
          by_cases e : k = m
          · subst e; omega
          · have := hs.lt (i := m) (j := k) (by rw [zv_len]; omega) hk (by omega)
            omega
        case measure => simp [intOf] <;> omega
    · obtain rfl : i = j := by omega
      have hlb := lbd_eq (l := zv l) (x := z.v) (p := i) (by rw [zv_len]; omega) hlo.out (fun k hk hik => by have := hhi.out k hk hik; omega)
      have Hlb := Lib.hid hlb; clear hlb
      have ii : ¬ (i : Int) < (i : Int) := by omega
      by_cases hin : i < l.length
      · have il : (i : Int) < (l.length : Int) := by omega
        obtain ⟨b, o, B', d', rfl, hX, hc0, hc1, hN⟩ := (h.ext hxw).at_ (k := i) hin
        have hb := World.block_lt_of_cell? _ _ hc0
        have hcall := fun (V : World) (hV : Ext wr V) => zcmp_c (x := zth l i) (y := z) ⟨_, _, rfl, hN.ext hV⟩ (hzi.ext (hxw.trans hV))
        go_wp2_with fail
        refine wp_region_seq 15 [(0, true), (1, true), (2, true), (3, true), (4, true), (5, true), (6, true), (7, true), (8, true), (9, true), (10, true), (11, false), (12, true), (13, true), (14, false), (15, false)] rfl (by kernel_rfl) (by intro _ _ d _ _ h; cases d <;> exact h) ?_
        (repeat (first | (refine sq_take (v := ?_) rfl rfl ?_ ?_; rotate_left; (intro w' hx'; have hc' := hx'.cells.1; (try simp only [wcd] at hc'); go_simp; (first | done | with_reducible rfl)); (try simp only [Act.put, List.setIfInBounds_toArray, List.set_cons_zero, List.set_cons_succ])) | (refine sq_skip rfl rfl ?_; (try simp only [Act.put, List.setIfInBounds_toArray, List.set_cons_zero, List.set_cons_succ])) | (refine sq_noloud rfl rfl ?_; (try simp only [Act.put, List.setIfInBounds_toArray, List.set_cons_zero, List.set_cons_succ])) | (refine sq_takeg (v := ?_) rfl rfl ?_ ?_; rotate_left; (intro w' hx'; have hc' := hx'.cells.1; (try simp only [wcd] at hc'); go_simp; (first | done | with_reducible rfl)); (try simp only [Act.put, List.setIfInBounds_toArray, List.set_cons_zero, List.set_cons_succ]))))
        (refine sq_loudg rfl rfl fun K hK => ?_; go_simp)
        refine (hcall _ (by repeat (first | with_reducible assumption | with_reducible exact Ext.refl _ | with_reducible refine Ext.drewN ?_ _ | with_reducible refine Ext.drew ?_ | with_reducible refine Ext.alloc ?_ _ | (with_reducible refine Ext.setCell ?_ ?_ _; rotate_left; (first | exact Nat.le_refl _ | (dsimp only; omega) | (simp only [wsz]; omega))) | (with_reducible refine Ext.trans ?_ (by with_reducible assumption))))).mono ?_
        rintro e w1 ⟨rfl, hx1⟩
        (refine hK _ _ (by repeat (first | with_reducible assumption | with_reducible exact Ext.refl _ | with_reducible refine Ext.drewN ?_ _ | with_reducible refine Ext.drew ?_ | with_reducible refine Ext.alloc ?_ _ | (with_reducible refine Ext.setCell ?_ ?_ _; rotate_left; (first | exact Nat.le_refl _ | (dsimp only; omega) | (simp only [wsz]; omega))) | (with_reducible refine Ext.trans ?_ (by with_reducible assumption)))) ?_; clear hK K; (try simp only [Act.put, List.setIfInBounds_toArray, List.set_cons_zero, List.set_cons_succ]))
        (repeat (first | (refine sq_take (v := ?_) rfl rfl ?_ ?_; rotate_left; (intro w' hx'; have hc' := hx'.cells.1; (try simp only [wcd] at hc'); go_simp; (first | done | with_reducible rfl)); (try simp only [Act.put, List.setIfInBounds_toArray, List.set_cons_zero, List.set_cons_succ])) | (refine sq_skip rfl rfl ?_; (try simp only [Act.put, List.setIfInBounds_toArray, List.set_cons_zero, List.set_cons_succ])) | (refine sq_noloud rfl rfl ?_; (try simp only [Act.put, List.setIfInBounds_toArray, List.set_cons_zero, List.set_cons_succ])) | (refine sq_takeg (v := ?_) rfl rfl ?_ ?_; rotate_left; (intro w' hx'; have hc' := hx'.cells.1; (try simp only [wcd] at hc'); go_simp; (first | done | with_reducible rfl)); (try simp only [Act.put, List.setIfInBounds_toArray, List.set_cons_zero, List.set_cons_succ]))))
        (refine sq_loud rfl rfl fun K hK => ?_; go_simp)
        (refine hK _ _ (by repeat (first | with_reducible assumption | with_reducible exact Ext.refl _ | with_reducible refine Ext.drewN ?_ _ | with_reducible refine Ext.drew ?_ | with_reducible refine Ext.alloc ?_ _ | (with_reducible refine Ext.setCell ?_ ?_ _; rotate_left; (first | exact Nat.le_refl _ | (dsimp only; omega) | (simp only [wsz]; omega))) | (with_reducible refine Ext.trans ?_ (by with_reducible assumption)))) ?_; clear hK K; (try simp only [Act.put, List.setIfInBounds_toArray, List.set_cons_zero, List.set_cons_succ]))
        (refine sq_last rfl rfl fun K hK => ?_; go_simp; refine hK _ _ ?_; clear hK K)
        go_wp2_with fail
        (refine bodyPost_ret (v := ?_) ?_ rfl ?_; rotate_left; (simp only [results, Tryz.results86]; go_simp; (first | done | with_reducible rfl)))
        refine ⟨?_, hxw.trans (by repeat (first | with_reducible assumption | with_reducible exact Ext.refl _ | with_reducible refine Ext.drewN ?_ _ | with_reducible refine Ext.drew ?_ | with_reducible refine Ext.alloc ?_ _ | (with_reducible refine Ext.setCell ?_ ?_ _; rotate_left; (first | exact Nat.le_refl _ | (dsimp only; omega) | (simp only [wsz]; omega))) | (with_reducible refine Ext.trans ?_ (by with_reducible assumption))))⟩
        rw [Hlb.out]
        have h3 : fnd (zv l) z.v = (cmpI (zth l i).v z.v == 0) := by
          unfold fnd
          rw [Hlb.out, List.getElem?_eq_getElem (by rw [zv_len]; exact hin), zv_at l i hin]
          by_cases e : (zth l i).v = z.v
          · rw [cmpI_eq e, e]; simp
          · have h4 : ¬ cmpI (zth l i).v z.v = 0 := fun h => e (cmpI_zero.1 h)
            simp [e, h4]
        rw [h3]
      · have il : ¬ (i : Int) < (l.length : Int) := by omega
        go_wp2_with fail
        refine wp_region_seq 15 [(0, true), (1, true), (2, true), (3, true), (4, true), (5, true), (6, true), (7, true), (8, true), (9, true), (10, true), (11, false), (12, true), (13, true), (14, false), (15, false)] rfl (by kernel_rfl) (by intro _ _ d _ _ h; cases d <;> exact h) ?_
        (repeat (first | (refine sq_take (v := ?_) rfl rfl ?_ ?_; rotate_left; (intro w' hx'; have hc' := hx'.cells.1; (try simp only [wcd] at hc'); go_simp; (first | done | with_reducible rfl)); (try simp only [Act.put, List.setIfInBounds_toArray, List.set_cons_zero, List.set_cons_succ])) | (refine sq_skip rfl rfl ?_; (try simp only [Act.put, List.setIfInBounds_toArray, List.set_cons_zero, List.set_cons_succ])) | (refine sq_noloud rfl rfl ?_; (try simp only [Act.put, List.setIfInBounds_toArray, List.set_cons_zero, List.set_cons_succ])) | (refine sq_takeg (v := ?_) rfl rfl ?_ ?_; rotate_left; (intro w' hx'; have hc' := hx'.cells.1; (try simp only [wcd] at hc'); go_simp; (first | done | with_reducible rfl)); (try simp only [Act.put, List.setIfInBounds_toArray, List.set_cons_zero, List.set_cons_succ]))))
        (refine sq_loud rfl rfl fun K hK => ?_; go_simp)
        (refine hK _ _ (by repeat (first | with_reducible assumption | with_reducible exact Ext.refl _ | with_reducible refine Ext.drewN ?_ _ | with_reducible refine Ext.drew ?_ | with_reducible refine Ext.alloc ?_ _ | (with_reducible refine Ext.setCell ?_ ?_ _; rotate_left; (first | exact Nat.le_refl _ | (dsimp only; omega) | (simp only [wsz]; omega))) | (with_reducible refine Ext.trans ?_ (by with_reducible assumption)))) ?_; clear hK K; (try simp only [Act.put, List.setIfInBounds_toArray, List.set_cons_zero, List.set_cons_succ]))
        (refine sq_last rfl rfl fun K hK => ?_; go_simp; refine hK _ _ ?_; clear hK K)
        go_wp2_with fail
        (refine bodyPost_ret (v := ?_) ?_ rfl ?_; rotate_left; (simp only [results, Tryz.results86]; go_simp; (first | done | with_reducible rfl)))
        refine ⟨?_, hxw.trans (by repeat (first | with_reducible assumption | with_reducible exact Ext.refl _ | with_reducible refine Ext.drewN ?_ _ | with_reducible refine Ext.drew ?_ | with_reducible refine Ext.alloc ?_ _ | (with_reducible refine Ext.setCell ?_ ?_ _; rotate_left; (first | exact Nat.le_refl _ | (dsimp only; omega) | (simp only [wsz]; omega))) | (with_reducible refine Ext.trans ?_ (by with_reducible assumption))))⟩
        rw [Hlb.out]
        have h3 : fnd (zv l) z.v = false := by
          unfold fnd
          rw [Hlb.out, List.getElem?_eq_none (by rw [zv_len]; omega)]
          simp
        rw [h3]

end Go.Proofs.YtbblgjjomgipfaaGreat
