/- periods: sets and rows in memory; slices.BinarySearchFunc at numbers. No conditions. periods: at, Has, Period. No conditions. periods: Cuts, whole, Class, Above. No conditions. periods: Above. No conditions. -/
import Derived.Test.YtpkfjbljhneenaaGreatGDoesAg
import Derived.Test.YtpkfjbljhneenaaGreatGDoesAe
import Derived.Shelf.Abstract
namespace Go.Proofs.YtpkfjbljhneenaaGreat
open Go.RowKit Go.Shelf

def EB (_ : World) (_ : Nat → Prop) (cs : List Value) (b : Bool) : Prop := cs = [.bool b]
instance : Stab EB := ⟨fun h _ => h, fun h _ => h, fun h => by unfold EB at h; subst h; simp [Value.oneCell']⟩
abbrev Rl (w : World) (X : Nat → Prop) (A : Option Addr) (c : Nat) (r : List Bool) : Prop := Sl 1 EB w X A c r
def ER (w : World) (X : Nat → Prop) (cs : List Value) (r : List Bool) : Prop := ∃ A c, cs = [.slice A r.length c] ∧ Rl w X A c r
instance : Stab ER := ⟨fun ⟨A, c, h, k⟩ kp => ⟨A, c, h, Sl.keep k kp⟩, fun ⟨A, c, h, k⟩ kp => ⟨A, c, h, Sl.widen k (by omega) kp⟩, fun ⟨A, c, h, _⟩ => by subst h; simp [Value.oneCell']⟩
def bth (l : List Bool) (k : Nat) : Bool := l.getD k false
theorem bth_eq (l : List Bool) (k : Nat) (h : k < l.length) : bth l k = l[k] := by simp [bth, h]
theorem Rl.at_ {w : World} {X : Nat → Prop} {A : Option Addr} {c : Nat} {l : List Bool} (h : Rl w X A c l) {k : Nat} (hk : k < l.length) :
  ∃ b o, A = some ⟨b, o, none⟩ ∧ X b ∧ w.cell? ⟨b, o + k, none⟩ = some (.bool (bth l k)) := by
 obtain ⟨b, o, hA, hX, hi⟩ := h.2.2.1 (by omega); obtain ⟨cs, _, hc, h1⟩ := hi k hk; unfold EB at h1; subst h1; have := hc 0 (by simp); rw [bth_eq l k hk]; exact ⟨b, o, hA, hX, by simpa using this⟩
def rth (l : List (List Bool)) (k : Nat) : List Bool := l.getD k []
theorem rth_eq (l : List (List Bool)) (k : Nat) (h : k < l.length) : rth l k = l[k] := by simp [rth, h]
abbrev Rs (w : World) (X : Nat → Prop) (A : Option Addr) (c : Nat) (l : List (List Bool)) : Prop := Sl 1 ER w X A c l
theorem Rs.at_ {w : World} {X : Nat → Prop} {A : Option Addr} {c : Nat} {l : List (List Bool)} (h : Rs w X A c l) {k : Nat} (hk : k < l.length) :
  ∃ b o B d, A = some ⟨b, o, none⟩ ∧ X b ∧ w.cell? ⟨b, o + k, none⟩ = some (.slice B (rth l k).length d) ∧ Rl w X B d (rth l k) := by
 obtain ⟨b, o, hA, hX, hi⟩ := h.2.2.1 (by omega); obtain ⟨cs, _, hc, B, d, rfl, h1⟩ := hi k hk; have := hc 0 (by simp); rw [rth_eq l k hk]; exact ⟨b, o, B, d, hA, hX, by simpa using this, h1⟩

structure Ps where
 per : Nat
 cuts : List Z
 rows : List (List Bool)
def SetV (w : World) (X : Nat → Prop) (g : Nat) (s : Ps) : Prop :=
 ∃ cA c rA d, Box w g 94 #[.int .i64 (s.per : Nat), .slice cA s.cuts.length c, .slice rA s.rows.length d] ∧ X g ∧ Zs w X cA c s.cuts ∧ Rs w X rA d s.rows
theorem SetV.keep {w w' : World} {X : Nat → Prop} {g : Nat} {s : Ps} (h : SetV w X g s) (k : Kp X w w') : SetV w' X g s := by
 obtain ⟨cA, c, rA, d, h1, h2, h3, h4⟩ := h; exact ⟨cA, c, rA, d, h1.keep h2 k, h2, Sl.keep h3 k, Sl.keep h4 k⟩
theorem SetV.ext {w w' : World} {X : Nat → Prop} {g : Nat} {s : Ps} (h : SetV w X g s) (k : Ext w w') : SetV w' X g s := h.keep (.of_ext k)
theorem SetV.widen {w : World} {X Y : Nat → Prop} {g : Nat} {s : Ps} (h : SetV w X g s) (k : ∀ b, X b → b < w.heap.size → Y b) : SetV w Y g s := by
 obtain ⟨cA, c, rA, d, h1, h2, h3, h4⟩ := h; exact ⟨cA, c, rA, d, h1, k g h2 h1.lt, Sl.widen h3 (by omega) k, Sl.widen h4 (by omega) k⟩

def lbd : List Int → Int → Nat
 | [], _ => 0
 | c :: r, x => if c < x then lbd r x + 1 else 0
theorem lbd_le : ∀ (l : List Int) (x : Int), lbd l x ≤ l.length
 | [], _ => Nat.le_refl _
 | c :: r, x => by
  unfold lbd
  split
  ·have := lbd_le r x; simp only [List.length_cons]
   omega
  ·exact Nat.zero_le _
theorem lbd_eq : ∀ {l : List Int} {x : Int} {p : Nat}, p ≤ l.length → (∀ j (h : j < l.length), j < p → l[j] < x) → (∀ j (h : j < l.length), p ≤ j → ¬ l[j] < x) → lbd l x = p
 | [], _, p, hp, _, _ => by simp at hp; subst hp; rfl
 | c :: r, x, 0, _, _, h2 => by
  have h0 : ¬ c < x := h2 0 (by simp) (Nat.le_refl _); unfold lbd; rw [if_neg h0]
 | c :: r, x, p + 1, hp, h1, h2 => by
  have h0 : c < x := h1 0 (by simp) (by omega); unfold lbd; rw [if_pos h0, lbd_eq (l := r) (p := p) (by simpa using hp) (fun j hj hjp => h1 (j + 1) (by simpa using hj) (by omega)) (fun j hj hjp => h2 (j + 1) (by simpa using hj) (by omega))]
def zv (l : List Z) : List Int := l.map Z.v
theorem zv_len (l : List Z) : (zv l).length = l.length := by simp [zv]
theorem zv_at (l : List Z) (k : Nat) (h : k < l.length) : (zv l)[k]'(by rw [zv_len]; exact h) = (zth l k).v := by simp [zv, zth_eq l k h]
abbrev Ris (l : List Int) : Prop := l.Pairwise (· < ·)
theorem Ris.lt {l : List Int} (h : Ris l) {i j : Nat} (hi : i < l.length) (hj : j < l.length) (hij : i < j) : l[i] < l[j] := List.pairwise_iff_getElem.1 h i j hi hj hij
def fnd (l : List Int) (x : Int) : Bool := decide (l[lbd l x]? = some x)

set_option maxHeartbeats 1600000 in
theorem bsearch_c {w : World} {X Y : Nat → Prop} {A : Option Addr} {c : Nat} {l : List Z} {v : Value} {z : Z} (h : Zs w X A c l) (hz : Zi w Y v z) (hs : Ris (zv l)) (hl : l.length ≤ 1099511627776) :
  Calls Tryz.prog 122 #[.slice A l.length c, v, .func (.func 66) #[] #[]] w fun e w' =>
   e = .returned (.tuple #[.int .i64 (lbd (zv l) z.v : Nat), .bool (fnd (zv l) z.v)]) ∧ Ext w w' := by
 have hzi := hz; obtain ⟨B, d, rfl, hz⟩ := hz
 have hlc := h.1; have hm := h.2.1
 simp only [maxLen] at hm
 have eg : ∀ args w, (callFunc 66 args).run Tryz.prog w = .ok (.enter 66 args) w := enters_of Tryz.func66 (by kernel_rfl) rfl
 go_enter Tryz.func122, Tryz.ntmps122
 go_wp2_with fail
 refine wp_named fun W hW => ?_
 have b4 : Box W w.heap.size 25 #[.bool z.neg, .slice B z.mag.length d] := by rw [hW]; exact bxt
 have hE : Ext w W := by rw [hW]; exact xt
 clear hW
 go_loopw [9, 10] (fun iv jv wr => ∃ i j : Nat, i ≤ j ∧ j ≤ l.length ∧ iv = .int .i64 i ∧ jv = .int .i64 j ∧ Hid (∀ k (h : k < (zv l).length), k < i → (zv l)[k] < z.v) ∧ Hid (∀ k (h : k < (zv l).length), j ≤ k → z.v ≤ (zv l)[k]) ∧ Ext W wr) (fun iv jv _ => (intOf jv).toNat - (intOf iv).toNat)
 case atStart => exact ⟨0, l.length, Nat.zero_le _, Nat.le_refl _, rfl, rfl, Lib.hid fun _ _ h => absurd h (Nat.not_lt_zero _), Lib.hid fun k hk h => absurd hk (by rw [zv_len]; omega), Ext.refl _⟩
 case round =>
  obtain ⟨i, j, hij, hj, rfl, rfl, hlo, hhi, hxr⟩ := hrel; have q4 := b4.ext hxr
  have q4r := q4.rules; have q4l := q4.lt
  have hxw := hE.trans hxr
  by_cases hlt : i < j
  ·have hli : (i : Int) < (j : Int) := by omega
   obtain ⟨m, hm0⟩ : ∃ m, m = (i + j) / 2 := ⟨_, rfl⟩
   have hm1 : i ≤ m := by omega
   have hm2 : m < j := by omega
   have em : ((i : Int) + (j : Int)) / 2 = (m : Int) := by omega
   clear hm0; obtain ⟨b, o, B', d', rfl, hX, hc0, hc1, hN⟩ := (h.ext hxw).at_ (k := m) (by omega); have hb := World.block_lt_of_cell? _ _ hc0
   have ml : (m : Int) < (l.length : Int) := by omega
   have hcall := fun (V : World) (hV : Ext wr V) => zcmp_c (x := zth l m) (y := z) ⟨_, _, rfl, hN.ext hV⟩ (hzi.ext (hxw.trans hV))
   by_cases hcm : (zth l m).v < z.v
   ·have e1 : cmpI (zth l m).v z.v = -1 := cmpI_lt hcm; rw [e1] at hcall
    have Hcm := Lib.hid hcm; clear hcm e1
    go_wp2_with fail
    refine wp_region_seq 8 [(0, true), (1, true), (2, true), (3, true), (4, true), (5, true), (6, false), (7, true)] rfl (by kernel_rfl) (by intro _ _ d _ _ h; cases d <;> exact h) ?_
    (repeat (refine sq_take (v := ?_) rfl rfl ?_ ?_; rotate_left; exact tk2; (try simp only [pt])))
    (refine sq_loud rfl rfl fun K hK => ?_; go_simp)
    refine (hcall _ xt).mono ?_; rintro e w1 ⟨rfl, hx1⟩
    (refine hK _ _ xt ?_; clear hK K; (try simp only [pt]))
    (repeat (refine sq_take (v := ?_) rfl rfl ?_ ?_; rotate_left; exact tk2; (try simp only [pt])))
    refine sq_done ?_
    go_wp2_with fail
    go_roundw
    case rel =>
     refine ⟨m + 1, j, by omega, by omega, by go_num, rfl, Lib.hid fun k hk hkm => ?_, hhi, hxr.trans xt⟩; have h1 := Hcm.out; have h2 := zv_at l m (by omega); rw [← h2] at h1
     by_cases e : k = m
     ·subst e; exact h1
     ·exact Int.lt_trans (hs.lt hk (by rw [zv_len]; omega) (by omega)) h1
    case measure => simp [intOf] <;> omega
   ·have e1 : ¬ cmpI (zth l m).v z.v < 0 := fun h => hcm (cmpI_neg.1 h)
    have Hcm := Lib.hid hcm; clear hcm
    go_wp2_with fail
    refine wp_region_seq 8 [(0, true), (1, true), (2, true), (3, true), (4, true), (5, true), (6, false), (7, true)] rfl (by kernel_rfl) (by intro _ _ d _ _ h; cases d <;> exact h) ?_
    (repeat (refine sq_take (v := ?_) rfl rfl ?_ ?_; rotate_left; exact tk2; (try simp only [pt])))
    (refine sq_loud rfl rfl fun K hK => ?_; go_simp)
    refine (hcall _ xt).mono ?_; rintro e w1 ⟨rfl, hx1⟩
    (refine hK _ _ xt ?_; clear hK K; (try simp only [pt]))
    (repeat (refine sq_take (v := ?_) rfl rfl ?_ ?_; rotate_left; exact tk2; (try simp only [pt])))
    refine sq_done ?_
    go_wp2_with fail
    go_roundw
    case rel =>
     refine ⟨i, m, by omega, by omega, rfl, by go_num, hlo, Lib.hid fun k hk hkm => ?_, hxr.trans xt⟩; have h1 := Hcm.out; have h2 := zv_at l m (by omega); rw [← h2] at h1
     by_cases e : k = m
     ·subst e; omega
     ·have := hs.lt (i := m) (j := k) (by rw [zv_len]; omega) hk (by omega)
      omega
    case measure => simp [intOf] <;> omega
  ·obtain rfl : i = j := by omega
   have hlb := lbd_eq (l := zv l) (x := z.v) (p := i) (by rw [zv_len]; omega) hlo.out (fun k hk hik => by have := hhi.out k hk hik; omega)
   have Hlb := Lib.hid hlb; clear hlb
   have ii : ¬ (i : Int) < (i : Int) := by omega
   by_cases hin : i < l.length
   ·have il : (i : Int) < (l.length : Int) := by omega
    obtain ⟨b, o, B', d', rfl, hX, hc0, hc1, hN⟩ := (h.ext hxw).at_ (k := i) hin; have hb := World.block_lt_of_cell? _ _ hc0
    have hcall := fun (V : World) (hV : Ext wr V) => zcmp_c (x := zth l i) (y := z) ⟨_, _, rfl, hN.ext hV⟩ (hzi.ext (hxw.trans hV))
    go_wp2_with fail
    refine wp_region_seq 15 [(0, true), (1, true), (2, true), (3, true), (4, true), (5, true), (6, true), (7, true), (8, true), (9, true), (10, true), (11, false), (12, true), (13, true), (14, false), (15, false)] rfl (by kernel_rfl) (by intro _ _ d _ _ h; cases d <;> exact h) ?_
    (repeat (first | (refine sq_take (v := ?_) rfl rfl ?_ ?_; rotate_left; exact tk2; (try simp only [pt])) | (refine sq_skip rfl rfl ?_; (try simp only [pt])) | (refine sq_noloud rfl rfl ?_; (try simp only [pt])) | (refine sq_takeg (v := ?_) rfl rfl ?_ ?_; rotate_left; exact tk2; (try simp only [pt]))))
    (refine sq_loudg rfl rfl fun K hK => ?_; go_simp)
    refine (hcall _ xt).mono ?_; rintro e w1 ⟨rfl, hx1⟩
    (refine hK _ _ xt ?_; clear hK K; (try simp only [pt]))
    (repeat (first | (refine sq_take (v := ?_) rfl rfl ?_ ?_; rotate_left; exact tk2; (try simp only [pt])) | (refine sq_skip rfl rfl ?_; (try simp only [pt])) | (refine sq_noloud rfl rfl ?_; (try simp only [pt])) | (refine sq_takeg (v := ?_) rfl rfl ?_ ?_; rotate_left; exact tk2; (try simp only [pt]))))
    (refine sq_loud rfl rfl fun K hK => ?_; go_simp)
    (refine hK _ _ xt ?_; clear hK K; (try simp only [pt]))
    (refine sq_last rfl rfl fun K hK => ?_; go_simp; refine hK _ _ ?_; clear hK K)
    go_wp2_with fail
    (refine bodyPost_ret (v := ?_) ?_ rfl ?_; rotate_left; (simp only [results, Tryz.results122]; go_simp; (first | done | with_reducible rfl)))
    refine ⟨?_, hxw.trans xt⟩; rw [Hlb.out]
    have h3 : fnd (zv l) z.v = (cmpI (zth l i).v z.v == 0) := by
     unfold fnd; rw [Hlb.out, List.getElem?_eq_getElem (by rw [zv_len]; exact hin), zv_at l i hin]
     by_cases e : (zth l i).v = z.v
     ·rw [cmpI_eq e, e]; simp
     ·have h4 : ¬ cmpI (zth l i).v z.v = 0 := fun h => e (cmpI_zero.1 h)
      simp [e, h4]
    rw [h3]
   ·have il : ¬ (i : Int) < (l.length : Int) := by omega
    go_wp2_with fail
    refine wp_region_seq 15 [(0, true), (1, true), (2, true), (3, true), (4, true), (5, true), (6, true), (7, true), (8, true), (9, true), (10, true), (11, false), (12, true), (13, true), (14, false), (15, false)] rfl (by kernel_rfl) (by intro _ _ d _ _ h; cases d <;> exact h) ?_
    (repeat (first | (refine sq_take (v := ?_) rfl rfl ?_ ?_; rotate_left; exact tk2; (try simp only [pt])) | (refine sq_skip rfl rfl ?_; (try simp only [pt])) | (refine sq_noloud rfl rfl ?_; (try simp only [pt])) | (refine sq_takeg (v := ?_) rfl rfl ?_ ?_; rotate_left; exact tk2; (try simp only [pt]))))
    (refine sq_loud rfl rfl fun K hK => ?_; go_simp)
    (refine hK _ _ xt ?_; clear hK K; (try simp only [pt]))
    (refine sq_last rfl rfl fun K hK => ?_; go_simp; refine hK _ _ ?_; clear hK K)
    go_wp2_with fail
    (refine bodyPost_ret (v := ?_) ?_ rfl ?_; rotate_left; (simp only [results, Tryz.results122]; go_simp; (first | done | with_reducible rfl)))
    refine ⟨?_, hxw.trans xt⟩; rw [Hlb.out]
    have h3 : fnd (zv l) z.v = false := by
     unfold fnd; rw [Hlb.out, List.getElem?_eq_none (by rw [zv_len]; omega)]; simp
    rw [h3]

end Go.Proofs.YtpkfjbljhneenaaGreat

namespace Go.Proofs.YtpkfjbljhneenaaGreat
open Go.RowKit Go.Shelf

theorem lbd_below : ∀ {l : List Int} {x : Int} {j : Nat} (h : j < l.length), j < lbd l x → l[j] < x
 | c :: r, x, 0, _, hj => by
  unfold lbd at hj
  split at hj
  ·assumption
  ·omega
 | c :: r, x, j + 1, h, hj => by
  unfold lbd at hj
  split at hj
  ·exact lbd_below (l := r) (j := j) (by simpa using h) (by omega)
  ·omega
theorem lbd_above : ∀ {l : List Int} {x : Int} {j : Nat} (_ : Ris l) (h : j < l.length), lbd l x ≤ j → x ≤ l[j]
 | c :: r, x, 0, hr, _, hj => by
  unfold lbd at hj
  split at hj
  ·omega
  ·show x ≤ c
   omega
 | c :: r, x, j + 1, hr, h, hj => by
  obtain ⟨h1, h2⟩ := List.pairwise_cons.1 hr; unfold lbd at hj
  split at hj
  ·exact lbd_above (l := r) (j := j) h2 (by simpa using h) (by omega)
  ·have hj2 : j < r.length := by simpa using h
   have := h1 r[j] (List.getElem_mem hj2)
   show x ≤ r[j]
   omega
def plc (l : List Int) (x : Int) : Nat := lbd l (x + 1)
theorem plc_eq {l : List Int} (h : Ris l) (x : Int) : plc l x = lbd l x + (if fnd l x then 1 else 0) := by
 have hle := lbd_le l x; unfold plc fnd
 by_cases hf : l[lbd l x]? = some x
 ·simp only [hf, decide_true, if_true]; obtain ⟨hp, he⟩ := List.getElem?_eq_some_iff.1 hf; refine lbd_eq (by omega) (fun j hj hjp => ?_) (fun j hj hjp => ?_)
  ·rcases Nat.lt_or_ge j (lbd l x) with h1 | h1
   ·have := lbd_below hj h1; omega
   ·obtain rfl : j = lbd l x := by omega
    omega
  ·have := h.lt hp hj (by omega)
   omega
 ·simp only [hf, decide_false, Bool.false_eq_true, if_false, Nat.add_zero]; refine lbd_eq hle (fun j hj hjp => ?_) (fun j hj hjp => ?_)
  ·have := lbd_below hj hjp; omega
  ·have h1 := lbd_above h hj hjp
   rcases Nat.lt_or_ge (lbd l x) j with h2 | h2
   ·have h3 := h.lt (by omega) hj h2; have h4 := lbd_above (x := x) (j := lbd l x) h (by omega) (Nat.le_refl _)
    omega
   ·obtain rfl : j = lbd l x := by omega
    rw [List.getElem?_eq_getElem hj] at hf
    have : l[lbd l x] ≠ x := fun e => hf (by rw [e])
    omega
theorem plc_le (l : List Int) (x : Int) : plc l x ≤ l.length := lbd_le _ _

set_option maxHeartbeats 1600000 in
theorem at_set_c {v : Value} {z : Z} {g : Nat} {s : Ps} {w : World} {X Y : Nat → Prop} (h : SetV w X g s) (hz : Zi w Y v z) (hs : Ris (zv s.cuts)) (hl : s.cuts.length ≤ 1099511627776) :
  Calls Tryz.prog 101 #[.pointer (some ⟨g, 0, none⟩), v] w fun e w' => e = .returned (.int .i64 (plc (zv s.cuts) z.v : Nat)) ∧ Ext w w' := by
 have hpe := Lib.hid (plc_eq hs z.v); have hlb := lbd_le (zv s.cuts) z.v; rw [zv_len] at hlb; have hzi := hz; obtain ⟨cA, c, rA, d, hb, hX, hc, hr⟩ := h; obtain ⟨B, d2, rfl, hz⟩ := hz
 go_enter Tryz.func101, Tryz.ntmps101
 go_wp2_with fail
 refine wp_named fun W hW => ?_
 have b3 : Box W w.heap.size 25 #[.bool z.neg, .slice B z.mag.length d2] := by rw [hW]; exact bxt
 have hE : Ext w W := by rw [hW]; exact xt
 clear hW; have bg := hb.ext hE
 have b3r := b3.rules; have b3l := b3.lt
 have bgr := bg.rules; have bgl := bg.lt
 have hcall := fun (V : World) (hV : Ext W V) => bsearch_c (hc.ext (hE.trans hV)) (hzi.ext (hE.trans hV)) hs hl
 obtain ⟨p, hp⟩ : ∃ p, p = lbd (zv s.cuts) z.v := ⟨_, rfl⟩; obtain ⟨f, hf⟩ : ∃ f, f = fnd (zv s.cuts) z.v := ⟨_, rfl⟩; rw [← hp] at hcall hlb; rw [← hf] at hcall; rw [← hp, ← hf] at hpe; clear hp hf; refine wp_region_seq 10 [(0, true), (1, true), (2, true), (3, true), (4, true), (5, false), (6, true), (7, true), (8, true), (9, false), (10, false)] rfl (by kernel_rfl) (by intro _ _ d _ _ h; cases d <;> exact h) ?_
 (repeat (refine sq_take (v := ?_) rfl rfl ?_ ?_; rotate_left; exact tk2; (try simp only [pt])))
 (refine sq_loud rfl rfl fun K hK => ?_; go_simp)
 refine (hcall _ xt).mono ?_; rintro e w1 ⟨rfl, hx1⟩
 (refine hK _ _ xt ?_; clear hK K; (try simp only [pt]))
 (repeat (refine sq_take (v := ?_) rfl rfl ?_ ?_; rotate_left; exact tk2; (try simp only [pt])))
 (refine sq_loud rfl rfl fun K hK => ?_; go_simp)
 (refine hK _ _ xt ?_; clear hK K; (try simp only [pt]))
 (refine sq_last rfl rfl fun K hK => ?_; go_simp; refine hK _ _ ?_; clear hK K)
 have hEw : Ext w w1 := hE.trans xt; clear hcall b3r bgr
 cases f
 ·go_wp2_with fail
  go_ret
  exact ⟨ret_int (by rw [hpe.out]; simp), hEw⟩
 ·go_wp2_with fail
  go_ret
  exact ⟨ret_int (by rw [hpe.out]; simp), hEw⟩

theorem period_set_c {g : Nat} {s : Ps} {w : World} {X : Nat → Prop} (h : SetV w X g s) :
  Calls Tryz.prog 71 #[.pointer (some ⟨g, 0, none⟩)] w fun e w' => e = .returned (.int .i64 (s.per : Nat)) ∧ Ext w w' := by
 obtain ⟨cA, c, rA, d, hb, hX, hc, hr⟩ := h
 have bgr := hb.rules; have bgl := hb.lt
 go_enter Tryz.func71, Tryz.ntmps71
 go_wp2_with fail
 go_ret
 exact ⟨rfl, xt⟩

structure Ps.ok (s : Ps) (N : Nat) : Prop where
 per0 : 0 < s.per
 per1 : s.per ≤ 4096
 rows : s.rows.length = s.cuts.length + 1
 row : ∀ r ∈ s.rows, r.length = s.per
 ris : Ris (zv s.cuts)
 len : s.cuts.length ≤ 1048576
 cut : ∀ c ∈ s.cuts, c.mag.length ≤ N ∧ cz c.v = c
def Ps.has (s : Ps) (x : Int) : Bool := bth (rth s.rows (plc (zv s.cuts) x)) (x % (s.per : Int)).toNat

set_option maxHeartbeats 3200000 in
theorem has_c {v : Value} {z : Z} {g : Nat} {s : Ps} {w : World} {X Y : Nat → Prop} {N : Nat} (h : SetV w X g s) (hs : s.ok N) (hz : Zi w Y v z) (hL : z.mag.length ≤ 1099511627776) :
  Calls Tryz.prog 74 #[.pointer (some ⟨g, 0, none⟩), v] w fun e w' => e = .returned (.bool (s.has z.v)) ∧ Ext w w' := by
 have hset := h; have hzi := hz; obtain ⟨cA, c, rA, d, hb, hX, hc, hr⟩ := h
 have p0 := hs.per0; have p1 := hs.per1; have hrl := hs.rows; have hcl := hs.len
 have hplc := plc_le (zv s.cuts) z.v; rw [zv_len] at hplc; have hlt := Int.emod_lt_of_pos z.v (show (0 : Int) < (s.per : Int) by omega); have hge := Int.emod_nonneg z.v (show (s.per : Int) ≠ 0 by omega)
 have hat := fun (V : World) (hV : Ext w V) => at_set_c (hset.ext hV) (hzi.ext hV) hs.ris (by omega)
 have hle := fun (V : World) (hV : Ext w V) => left_c (hzi.ext hV) hL p0 (by omega)
 obtain ⟨q, hq⟩ : ∃ q, q = plc (zv s.cuts) z.v := ⟨_, rfl⟩; obtain ⟨m, hm⟩ : ∃ m : Nat, (m : Int) = z.v % (s.per : Int) := ⟨(z.v % (s.per : Int)).toNat, by omega⟩
 have hhas : s.has z.v = bth (rth s.rows q) m := by
  unfold Ps.has; rw [← hq, ← hm]
  congr 1
 rw [hhas]; rw [← hq] at hat hplc; rw [← hm] at hle hlt; clear hq hm hhas hge
 have hrow : (rth s.rows q).length = s.per := by
  rw [rth_eq _ _ (by omega)]; exact hs.row _ (List.getElem_mem _)
 have hml : m < (rth s.rows q).length := by omega
 obtain ⟨b, o, B', d', rfl, hXr, hc0, hrl2⟩ := hr.at_ (k := q) (by omega); obtain ⟨b2, o2, rfl, hXb, hc1⟩ := hrl2.at_ hml; have hbl := World.block_lt_of_cell? _ _ hc0; have hbl2 := World.block_lt_of_cell? _ _ hc1
 have iq : (q : Int) < (s.rows.length : Int) := by omega
 have im : (m : Int) < ((rth s.rows q).length : Int) := by omega
 have ir : 0 < s.rows.length := by omega
 have irn : s.rows ≠ [] := List.ne_nil_of_length_pos ir; clear hrl hrow hcl; obtain ⟨B, d2, rfl, hz⟩ := hz
 go_enter Tryz.func74, Tryz.ntmps74
 go_wp2_with fail
 refine wp_named fun W hW => ?_
 have b3 : Box W w.heap.size 25 #[.bool z.neg, .slice B z.mag.length d2] := by rw [hW]; exact bxt
 have hE : Ext w W := by rw [hW]; exact xt
 clear hW; have bg := hb.ext hE
 have b3r := b3.rules; have b3l := b3.lt
 have bgr := bg.rules; have bgl := bg.lt
 have hcW0 := (hE.cells.1 b _ hbl).trans hc0; have hcW1 := (hE.cells.1 b2 _ hbl2).trans hc1; have hblW := Nat.lt_of_lt_of_le hbl hE.size; have hbl2W := Nat.lt_of_lt_of_le hbl2 hE.size; clear hc0 hc1; refine wp_region_seq 29 [(0, true), (1, true), (2, true), (3, true), (4, true), (5, true), (6, true), (7, true), (8, true), (9, true), (10, true), (11, true), (12, true), (13, true), (14, true), (15, true), (16, true), (20, true), (21, true), (22, true), (23, true), (24, true), (17, false), (18, true), (19, true), (25, false), (26, true), (27, true), (28, true), (29, false)] rfl (by kernel_rfl) (by intro _ _ d _ _ h; cases d <;> exact h) ?_
 (repeat (first | (refine sq_take (v := ?_) rfl rfl ?_ ?_; rotate_left; exact tk2; (try simp only [pt])) | (refine sq_skip rfl rfl ?_; (try simp only [pt])) | (refine sq_noloud rfl rfl ?_; (try simp only [pt])) | (refine sq_takeg (v := ?_) rfl rfl ?_ ?_; rotate_left; exact tk2; (try simp only [pt]))))
 (refine sq_loudg rfl rfl fun K hK => ?_; go_simp)
 refine (hat _ (hE.trans xt)).mono ?_; rintro e w1 ⟨rfl, hx1⟩
 have c3 := b3.drew.ext hx1; have cg := bg.drew.ext hx1
 have c3r := c3.rules; have c3l := c3.lt
 have cgr := cg.rules; have cgl := cg.lt
 have hx1' : Ext W w1 := xt; have hd0 := (hx1'.cells.1 b _ hblW).trans hcW0; have hd1 := (hx1'.cells.1 b2 _ hbl2W).trans hcW1; have hbl1 := Nat.lt_of_lt_of_le hblW hx1'.size; have hbl21 := Nat.lt_of_lt_of_le hbl2W hx1'.size; clear b3r bgr hcW0 hcW1
 (refine hK _ _ xt ?_; clear hK K; (try simp only [pt]))
 (repeat (first | (refine sq_take (v := ?_) rfl rfl ?_ ?_; rotate_left; exact tk2; (try simp only [pt])) | (refine sq_skip rfl rfl ?_; (try simp only [pt])) | (refine sq_noloud rfl rfl ?_; (try simp only [pt])) | (refine sq_takeg (v := ?_) rfl rfl ?_ ?_; rotate_left; exact tk2; (try simp only [pt]))))
 (refine sq_loudg rfl rfl fun K hK => ?_; go_simp)
 refine (hle _ (hE.trans xt)).mono ?_; rintro e w2 ⟨rfl, hx2⟩; have hd3 := (hx2.cells.1 b2 _ hbl21).trans hd1; have hbl22 := Nat.lt_of_lt_of_le hbl21 hx2.size; clear c3r cgr hd0 hd1
 (refine hK _ _ xt ?_; clear hK K; (try simp only [pt]))
 (repeat (first | (refine sq_take (v := ?_) rfl rfl ?_ ?_; rotate_left; exact tk2; (try simp only [pt])) | (refine sq_skip rfl rfl ?_; (try simp only [pt])) | (refine sq_noloud rfl rfl ?_; (try simp only [pt])) | (refine sq_takeg (v := ?_) rfl rfl ?_ ?_; rotate_left; exact tk2; (try simp only [pt]))))
 (refine sq_last rfl rfl fun K hK => ?_; go_simp; refine hK _ _ ?_; clear hK K)
 go_wp2_with fail
 go_ret
 exact ⟨rfl, hE.trans xt⟩

end Go.Proofs.YtpkfjbljhneenaaGreat

namespace Go.Proofs.YtpkfjbljhneenaaGreat
open Go.RowKit Go.Shelf

set_option maxHeartbeats 1600000 in
theorem cuts_c {g : Nat} {s : Ps} {w : World} {X : Nat → Prop} {N : Nat} (h : SetV w X g s) (hs : s.ok N) (hN : N ≤ 1099511627776) :
    Calls Tryz.prog 44 #[.pointer (some ⟨g, 0, none⟩)] w fun e w' => ∃ A c, e = .returned (.slice A s.cuts.length c) ∧ Zs w' (w.heap.size ≤ ·) A c s.cuts ∧ Ext w w' := by
  have hcl := hs.len; have hcut := hs.cut
  obtain ⟨cA, c, rA, d, hb, hX, hc, hr⟩ := h
  have bgr := hb.rules; have bgl := hb.lt
  go_enter Tryz.func44, Tryz.ntmps44
  go_wp2_with fail
  go_loopw [3, 13] (fun lv iv wr => ∃ k : Nat, k ≤ s.cuts.length ∧ iv = .int .i64 k ∧ Own 2 EZ wr (w.heap.size ≤ ·) w.heap.size 25 lv (s.cuts.take k) ∧ Ext w wr) (fun _ iv _ => s.cuts.length - (intOf iv).toNat)
  case atStart => exact ⟨0, Nat.zero_le _, rfl, Own.nil _ _ _ _, Ext.refl _⟩
  case round =>
    obtain ⟨k, hkk, rfl, hO, hxr⟩ := hrel; have hrow := hO.row; have hsr := hxr.size
    by_cases hlt : k < s.cuts.length
    · obtain ⟨b, o, B', d', rfl, hXb, hc0, hc1, hN2⟩ := (hc.ext hxr).at_ hlt; have hbw := World.block_lt_of_cell? _ _ hc0
      have kl : (k : Int) < (s.cuts.length : Int) := by omega
      obtain ⟨hz1, hz2⟩ := hcut _ (zth_mem hlt)
      have hcall := fun (V : World) (hV : Ext wr V) => znorm_c (z := zth s.cuts k) ⟨_, _, rfl, hN2.ext hV⟩ (by omega)
      rw [hz2] at hcall; obtain ⟨zc, hzc⟩ : ∃ zc, zc = zth s.cuts k := ⟨_, rfl⟩; have e2 := take_zth s.cuts k hlt; rw [← hzc] at hcall hc0 hc1 hN2 hz1 e2; have HE := Lib.hid e2; clear hz2 hzc e2
      go_wp2_with fail
      refine (hcall _ xt).mono ?_; rintro e w1 ⟨r1, rfl, ⟨A1, c1, rfl, hN1⟩, hx1⟩; have hx2 : Ext wr w1 := xt; have hO1 := hO.ext hx2; have hs1 := hx2.size
      go_wp2_with (first
        | (at_builtin
           (refine wpList_appz1 (.tmp 17) (.tmp 20) hO1 (hN1.widen fun q hq _ => ⟨by simp only [wsz] at hq; omega, fun e => by have := (hrow _ e).2; simp only [wsz] at hq; omega⟩) (by rw [List.length_take]; omega) (by omega) rfl rfl rfl rfl ?_)
           intro v2 w2 hO2 hg2 hv2)
        | fail)
      have hxx : Ext w w2 := ((hxr.trans hx2).alloc _).grown hg2 (fun j hj => (hrow _ hj).1)
      go_roundw
      case rel => exact ⟨k + 1, by omega, by go_num, by rw [HE.out]; exact hO2, hxx⟩
      case measure => simp [intOf] <;> omega
    · obtain rfl : k = s.cuts.length := by omega
      rw [List.take_length] at hO; obtain ⟨A1, c1, rfl, hP1⟩ := Own.sl hO (by omega) (X := (w.heap.size ≤ ·)) (fun q hq => hq.elim id id)
      go_wp2_with fail
      go_ret
      exact ⟨A1, c1, rfl, hP1, hxr⟩

theorem Rs.one {w : World} {X : Nat → Prop} {g : Nat} {A : Option Addr} {c : Nat} {r : List Bool} (hg : g = w.heap.size) (hX : X g) (h : Rl w X A c r) : Rs (w.alloc (.cells #[.slice A r.length c] 84)) X (some ⟨g, 0, none⟩) 1 [r] :=
  Sl.of_flat (by simp) (by simp [maxLen]) (Thaw.new hg _ _) (Fl.one ⟨A, c, rfl, Sl.keep h ((Kp.refl w).alloc _)⟩ rfl) fun _ => ⟨_, _, rfl, hX, fun j u hu => by
    rw [World.cell?_alloc_at (hn := hg)]
    match j, hu with
    | 0, hu => simpa using hu⟩

set_option maxHeartbeats 800000 in
theorem whole_c {A : Option Addr} {c : Nat} {r : List Bool} {w : World} {X : Nat → Prop} (h : Rl w X A c r) :
    Calls Tryz.prog 50 #[.slice A r.length c] w fun e w' => ∃ g, e = .returned (.pointer (some ⟨g, 0, none⟩)) ∧ SetV w' (fun b => X b ∨ w.heap.size ≤ b) g ⟨r.length, [], [r]⟩ ∧ Ext w w' := by
  have hm := h.2.1; have hlc := h.1
  simp only [maxLen] at hm
  go_enter Tryz.func50, Tryz.ntmps50
  go_wp2_with fail
  go_ret
  refine ⟨_, rfl, ⟨none, 0, _, _, Box.new_at _ _ _ (by simp only [wsz]), .inr (by omega), Sl.nil0 _ _ _, Sl.keep (Rs.one rfl (.inr (Nat.le_refl _)) (Sl.widen h (by omega) fun b hb _ => .inl hb)) ((Kp.refl _).alloc _)⟩, xt⟩

theorem wpList_makeb {w : World} {ops : Array Oper} {rest : List Oper} {o : Oper} {a : Act} {Q : Exit → Act → World → Prop} (x y : Operand) (Zp : Nat → Prop) (base n : Nat) {L C : Int}
    (hb : base ≤ w.heap.size) (hn : n ≤ 35184372088832) (hL : L = (n : Int)) (hC : C = (n : Int)) (hg : o.guard = none) (hop : o.op = Op.makeSlice 84 x y) (hl : a.eval x = .int .i64 L) (hc : a.eval y = .int .i64 C)
    (hK : ∀ w', Own 1 EB w' Zp base 4 (.slice (some ⟨w.heap.size, 0, none⟩) n n) (List.replicate n false) → Ext w w' → wpList Tryz.prog ops Q rest (a.put o.dst (.slice (some ⟨w.heap.size, 0, none⟩) n n)) w') :
    wpList Tryz.prog ops Q (o :: rest) a w := by
  obtain ⟨i, hi, hz, hsize, hby⟩ := info_parts ety_b.info
  refine wpList_make_full w hg x y _ hop base _ i (.bool false) 1 ety_b.under hi hz hsize .i64 .i64 L C n hl hc hL hC (by rw [hby]; omega) (by simp only [maxLen]; omega) hb fun w' h1 h2 => hK w' ⟨List.replicate n (.bool false), ?_, ?_⟩ ?_
  · have e : (madeCells (Value.cells (.bool false)) (n * 1)).toList = List.replicate n (.bool false) := by
      rw [Nat.mul_one]
      show (madeCells #[Value.bool false] n).toList = _
      rw [toList_madeCells_one]
    rw [e] at h1
    simpa using h1
  · refine ⟨by simp, fun k hk => ?_⟩; rw [List.getElem_replicate]; rw [List.length_replicate] at hk; rw [Nat.mul_one, List.drop_replicate, List.take_replicate, show min 1 (n - k) = 1 from by omega]
    rfl
  · exact (Ext.refl w).grown h2 (by simp)

set_option maxHeartbeats 1600000 in
theorem class_c {u v : Value} {x y : Z} {w : World} {X Y : Nat → Prop} (hx : Zi w X u x) (hy : Zi w Y v y) (hLx : x.mag.length ≤ 1099511627776) (hLy : y.mag.length ≤ 1099511627776) (h0 : x.v ≠ 0) (h1 : x.v.natAbs ≤ 4096) :
    Calls Tryz.prog 25 #[u, v] w fun e w' => ∃ g, e = .returned (.tuple #[.pointer (some ⟨g, 0, none⟩), .int .i64 0]) ∧
      SetV w' (w.heap.size ≤ ·) g ⟨x.v.natAbs, [], [(List.replicate x.v.natAbs false).set (y.v % (x.v.natAbs : Nat)).toNat true]⟩ ∧ Ext w w' := by
  have hxi := hx; have hyi := hy
  have hsg : ¬ sgn x.v = 0 := fun h => h0 (sgn_zero.1 h)
  obtain ⟨p, hp⟩ : ∃ p, p = x.v.natAbs := ⟨_, rfl⟩
  have hsign := fun (V : World) (hV : Ext w V) => zsign_c (hxi.ext hV)
  have hper := fun (V : World) (hV : Ext w V) => period_c (hxi.ext hV) hLx
  have hin : i64 ((x.v.natAbs : Nat) : Int) := ⟨by omega, by omega⟩; rw [(i64_in hin).1, decide_eq_true h1] at hper; rw [← hp] at hper ⊢
  have hp0 : 0 < p := by omega
  have hp1 : p ≤ 4096 := by omega
  have hleft := fun (V : World) (hV : Ext w V) => left_c (hyi.ext hV) hLy hp0 (by omega)
  have hlt := Int.emod_lt_of_pos y.v (show (0 : Int) < (p : Int) by omega); have hge := Int.emod_nonneg y.v (show (p : Int) ≠ 0 by omega); obtain ⟨m, hm⟩ : ∃ m : Nat, (m : Int) = y.v % (p : Int) := ⟨(y.v % (p : Int)).toNat, by omega⟩; rw [← hm] at hleft hlt ⊢
  have hmp : m < p := by omega
  obtain ⟨sg, hsg0⟩ : ∃ sg, sg = sgn x.v := ⟨_, rfl⟩; rw [← hsg0] at hsign hsg; clear hin hp h1 h0 hm hge hsg0; obtain ⟨A, c, rfl, hx⟩ := hx; obtain ⟨B, d, rfl, hy⟩ := hy
  go_enter Tryz.func25, Tryz.ntmps25
  go_wp2_with fail
  refine (hsign _ xt).mono ?_; rintro e w1 ⟨rfl, hx1⟩
  (have b2 := Box.ext (g := w.heap.size) bxt hx1; have b2r := b2.rules; have b2l := b2.lt)
  (have b3 := Box.ext (g := w.heap.size + 1) bxt hx1; have b3r := b3.rules; have b3l := b3.lt)
  have hE1 : Ext w w1 := xt; clear hsign
  go_wp2_with fail
  refine (hper _ hE1).mono ?_; rintro e w2 ⟨rfl, hx2⟩; have b32 := b3.ext hx2
  have b32r := b32.rules; have b32l := b32.lt
  have hE2 := hE1.trans hx2; clear b2r b3r hper
  go_wp2_with (first
    | (at_make
       (refine wpList_makeb (.tmp 19) (.tmp 19) (fun _ => False) w2.heap.size p (Nat.le_refl _) (by omega) rfl rfl rfl rfl rfl rfl ?_)
       intro w3 hO3 hx3; have b33 := b32.ext hx3; have b33r := b33.rules; have b33l := b33.lt; have hE3 := hE2.trans hx3
       clear b32r)
    | fail)
  refine (hleft _ hE3).mono ?_; rintro e w4 ⟨rfl, hx4⟩; have hO4 := hO3.ext hx4; obtain ⟨u0, hu0⟩ := hO4.there (j := m) (by omega); have hf0 := hO4.frz m; have hg4 := hO4.adr.2.2.2; have hE4 := hE3.trans hx4
  have mp : (m : Int) < (p : Int) := by omega
  clear b33r hleft
  go_wp2_with fail
  have hO5 := Own.put hO4 (k := m) (r := 0) (u := .bool true) (a' := true) (by rw [List.length_replicate]; exact hmp) (by omega) (by
    rintro cs h1 h2; unfold EB at h1; subst h1
    rfl)
  rw [Nat.mul_one, Nat.add_zero] at hO5; have hs2 := hE2.size; obtain ⟨A5, c5, e5, hP5⟩ := Own.sl hO5 (by omega) (X := (w.heap.size ≤ ·)) (fun b hb => hb.elim False.elim fun h => by omega)
  have hlen : ((List.replicate p false).set m true).length = p := by rw [List.length_set, List.length_replicate]
  have hw := whole_c hP5; rw [hlen, ← (show p = p from rfl)] at hw
  injection e5 with e51 e52 e53
  subst e51; subst e53
  have hE5 : Ext w (w4.setCell ⟨w2.heap.size, m, none⟩ (.bool true)) := hE4.setCell hs2 _; obtain ⟨row, hrow⟩ : ∃ row, row = (List.replicate p false).set m true := ⟨_, rfl⟩; have HR : Hid (row = (List.replicate p false).set ((m : Int)).toNat true) := Lib.hid (by rw [Int.toNat_natCast]; exact hrow); rw [← hrow] at hw; clear hO5 hP5 hlen hrow hO4 hu0 hf0; refine hw.mono ?_; rintro e w6 ⟨g, rfl, hS, hx6⟩; clear e52
  go_wp2_with fail
  (refine bodyPost_ret (v := ?_) ?_ rfl ?_; rotate_left; (simp only [results, Tryz.results25]; go_simp; (first | done | with_reducible rfl)))
  have hs5 := hE5.size; refine ⟨g, rfl, ?_, hE5.trans hx6⟩; rw [← HR.out]
  exact hS.widen fun b hb _ => hb.elim id fun h => by omega

end Go.Proofs.YtpkfjbljhneenaaGreat

namespace Go.Proofs.YtpkfjbljhneenaaGreat
open Go.RowKit Go.Shelf

def phiRow (b : Nat) (r : List Bool) : PhiT := ⟨fun v w => ∃ A c, v = .slice A r.length c ∧ Rl w (b ≤ ·) A c r, fun _ _ _ hx ⟨A, c, h1, h2⟩ => ⟨A, c, h1, Sl.keep h2 (.of_ext hx)⟩⟩
def phiRows (b : Nat) (l : List (List Bool)) : PhiT := ⟨fun v w => ∃ A c, v = .slice A l.length c ∧ Rs w (b ≤ ·) A c l, fun _ _ _ hx ⟨A, c, h1, h2⟩ => ⟨A, c, h1, Sl.keep h2 (.of_ext hx)⟩⟩
def phiZs (b : Nat) (l : List Z) : PhiT := ⟨fun v w => ∃ A c, v = .slice A l.length c ∧ Zs w (b ≤ ·) A c l, fun _ _ _ hx ⟨A, c, h1, h2⟩ => ⟨A, c, h1, Sl.keep h2 (.of_ext hx)⟩⟩
def phiStr (b : Nat) (s : Ps) : PhiT := ⟨fun v w => ∃ cA c rA d, v = .agg #[.int .i64 (s.per : Nat), .slice cA s.cuts.length c, .slice rA s.rows.length d] ∧ Zs w (b ≤ ·) cA c s.cuts ∧ Rs w (b ≤ ·) rA d s.rows,
 fun _ _ _ hx ⟨cA, c, rA, d, h1, h2, h3⟩ => ⟨cA, c, rA, d, h1, Sl.keep h2 (.of_ext hx), Sl.keep h3 (.of_ext hx)⟩⟩
def phiSet (b : Nat) (s : Ps) : PhiT := ⟨fun v w => ∃ g, v = .pointer (some ⟨g, 0, none⟩) ∧ SetV w (b ≤ ·) g s, fun _ _ _ hx ⟨g, h1, h2⟩ => ⟨g, h1, h2.ext hx⟩⟩

theorem Rl.one {w : World} {X : Nat → Prop} {g : Nat} {b : Bool} {t : TypeId} (hg : g = w.heap.size) (hX : X g) : Rl (w.alloc (.cells #[.bool b] t)) X (some ⟨g, 0, none⟩) 1 [b] :=
 Sl.of_flat (by simp) (by simp [maxLen]) (Thaw.new hg _ _) (Fl.one rfl rfl) fun _ => ⟨_, _, rfl, hX, fun j u hu => by
  rw [World.cell?_alloc_at (hn := hg)]
  match j, hu with
  | 0, hu => simpa using hu⟩
theorem Zs.one {w : World} {X : Nat → Prop} {g : Nat} {A : Option Addr} {c : Nat} {z : Z} {t : TypeId} (hg : g = w.heap.size) (hX : X g) (h : Nl w X A c z.mag) : Zs (w.alloc (.cells #[.bool z.neg, .slice A z.mag.length c] t)) X (some ⟨g, 0, none⟩) 1 [z] :=
 Sl.of_flat (by simp) (by simp [maxLen]) (Thaw.new hg _ _) (Fl.one ⟨A, c, rfl, h.keep ((Kp.refl w).alloc _)⟩ rfl) fun _ => ⟨_, _, rfl, hX, fun j u hu => by
  rw [World.cell?_alloc_at (hn := hg)]
  match j, hu with
  | 0, hu => simpa using hu
  | 1, hu => simpa using hu⟩
theorem Rs.two {w : World} {X : Nat → Prop} {g : Nat} {A B : Option Addr} {c d : Nat} {q r : List Bool} {t : TypeId} (hg : g = w.heap.size) (hX : X g) (h : Rl w X A c q) (h' : Rl w X B d r) : Rs (w.alloc (.cells #[.slice A q.length c, .slice B r.length d] t)) X (some ⟨g, 0, none⟩) 2 [q, r] :=
 Sl.of_flat (by simp) (by simp [maxLen]) (Thaw.new hg _ _) (Fl.append (xs := [.slice A q.length c]) (ys := [.slice B r.length d]) (l := [q]) (m := [r]) (Fl.one ⟨A, c, rfl, Sl.keep h ((Kp.refl w).alloc _)⟩ rfl) (Fl.one ⟨B, d, rfl, Sl.keep h' ((Kp.refl w).alloc _)⟩ rfl)) fun _ => ⟨_, _, rfl, hX, fun j u hu => by
  rw [World.cell?_alloc_at (hn := hg)]
  match j, hu with
  | 0, hu => simpa using hu
  | 1, hu => simpa using hu⟩

set_option maxRecDepth 100000 in
set_option maxHeartbeats 1600000 in
theorem above_c {v : Value} {z : Z} {w : World} {X : Nat → Prop} (h : Zi w X v z) (hL : z.mag.length ≤ 1099511627775) :
  Calls Tryz.prog 27 #[v] w fun e w' => ∃ g, e = .returned (.pointer (some ⟨g, 0, none⟩)) ∧ SetV w' (w.heap.size ≤ ·) g ⟨1, [cz (z.v + 1)], [[false], [true]]⟩ ∧ Ext w w' := by
 have hz := h; obtain ⟨zz, hzz⟩ : ∃ zz, zz = cz (z.v + 1) := ⟨_, rfl⟩
 have hadd := fun (V : World) (v1 : Value) (Y : Nat → Prop) (hV : Ext w V) (h1 : Zi V Y v1 (cz 1)) => zadd_c (hz.ext hV) h1 (by omega) (by rw [cz_len]; have := zl_word (x := 1) (by omega); omega)
 rw [cz_v, ← hzz] at hadd; rw [← hzz]; clear hzz; obtain ⟨A, c, rfl, h⟩ := h
 go_enter Tryz.func27, Tryz.ntmps27
 go_wp2_with fail
 refine wp_named fun W hW => ?_
 have b2 : Box W w.heap.size 25 #[.bool z.neg, .slice A z.mag.length c] := by rw [hW]; exact bxt
 have hE : Ext w W := by rw [hW]; exact xt
 clear hW; have b2l := b2.lt
 have hcb : W.cell? ⟨w.heap.size, 0, none⟩ = some (.bool z.neg) := by rw [b2.cell]; rfl
 have hcb1 : W.cell? ⟨w.heap.size, 1, none⟩ = some (.slice A z.mag.length c) := by rw [b2.cell]; rfl
 refine wp_region_free [(0, 3, []), (1, 4, []), (2, 5, [(0, 3), (1, 4)]), (3, 6, [(2, 5)]), (4, 7, []), (5, 8, []), (6, 9, [(4, 7), (5, 8)]), (7, 10, [(3, 6), (6, 9)]), (8, 11, [(7, 10)])] [9] [3, 4, 5, 6, 7, 8, 9, 10, 11] [] [] [phiEq (.agg #[.bool z.neg, .slice A z.mag.length c]), phiZ (w.heap.size ≤ ·) (cz 1), phiZ (w.heap.size ≤ ·) (zz), phiZs w.heap.size [zz], phiRow w.heap.size [false], phiRow w.heap.size [true], phiRows w.heap.size [[false], [true]],
  phiStr w.heap.size ⟨1, [zz], [[false], [true]]⟩, phiSet w.heap.size ⟨1, [zz], [[false], [true]]⟩] rfl (by kernel_rfl) (by intro _ _ d _ _ h; cases d <;> exact h) (by kernel_rfl) (by kernel_rfl) ?_ ?_
 ·(refine ps_eq rfl rfl rfl rfl rfl rfl ?_ ?_; focus exact tk0)
  (refine ps_loud rfl rfl rfl rfl rfl (fun f w1 hx hd K hK => ?_) ?_)
  ·(have hc' := hx.cells.1; (try simp only [wcd] at hc'); (dsimp only [PhiDeps, phiAt, phiEq, phiZ, phiAny, phiBox] at hd); simp only [fillA, Act.put, List.setIfInBounds_toArray, List.set_cons_zero, List.set_cons_succ] at hK; (simp only [fillA]; (try simp only [pt])); (try simp only [hd] at hK ⊢); go_simp)
   refine (zof_c 1 (by omega) (by omega) _).mono ?_; rintro e w2 ⟨r, rfl, hr, hx2⟩
   (refine hK _ _ xt ?_; dsimp only [phiAt, phiEq, phiZ, phiAny, phiBox])
   have := (hE.trans (Ext.trans (Ext.refl W).drew hx)).size
   exact hr.widen fun b hb _ => by omega
  (refine ps_loud rfl rfl rfl rfl rfl (fun f w1 hx hd K hK => ?_) ?_)
  ·(have hc' := hx.cells.1; (try simp only [wcd] at hc'); simp only [fillA, Act.put, List.setIfInBounds_toArray, List.set_cons_zero, List.set_cons_succ] at hK; (simp only [fillA]; (try simp only [pt])); (dsimp only [PhiDeps, PhiAll, phiAt, phiEq, phiZ, phiAny, phiBox, phiRow, phiRows, phiZs, phiStr, phiSet] at hd))
   have h3 := hd.1; have h4 := hd.2.1
   ((try simp only [h3] at hK ⊢); go_simp)
   refine (hadd _ _ _ (hE.trans xt) h4).mono ?_; rintro e w2 ⟨r, rfl, hr, hx2⟩
   (refine hK _ _ xt ?_; dsimp only [PhiDeps, PhiAll, phiAt, phiEq, phiZ, phiAny, phiBox, phiRow, phiRows, phiZs, phiStr, phiSet])
   have := (hE.trans (Ext.trans (Ext.refl W).drew hx)).size
   exact hr.widen fun b hb _ => by omega
  (refine ps_loud rfl rfl rfl rfl rfl (fun f w1 hx hd K hK => ?_) ?_)
  ·(have hc' := hx.cells.1; (try simp only [wcd] at hc'); simp only [fillA, Act.put, List.setIfInBounds_toArray, List.set_cons_zero, List.set_cons_succ] at hK; (simp only [fillA]; (try simp only [pt])); (dsimp only [PhiDeps, PhiAll, phiAt, phiEq, phiZ, phiAny, phiBox, phiRow, phiRows, phiZs, phiStr, phiSet] at hd))
   obtain ⟨A4, c4, e4, h4⟩ := hd.1
   ((try simp only [e4] at hK ⊢); go_simp)
   have := (hE.trans (Ext.trans (Ext.refl W).drew hx)).size
   (refine hK _ _ xt ?_; dsimp only [PhiDeps, PhiAll, phiAt, phiEq, phiZ, phiAny, phiBox, phiRow, phiRows, phiZs, phiStr, phiSet])
   exact ⟨_, _, rfl, Zs.one rfl (by omega) h4⟩
  (refine ps_loud rfl rfl rfl rfl rfl (fun f w1 hx hd K hK => ?_) ?_)
  ·(have hc' := hx.cells.1; (try simp only [wcd] at hc'); simp only [fillA, Act.put, List.setIfInBounds_toArray, List.set_cons_zero, List.set_cons_succ] at hK; (simp only [fillA]; (try simp only [pt])); (dsimp only [PhiDeps, PhiAll, phiAt, phiEq, phiZ, phiAny, phiBox, phiRow, phiRows, phiZs, phiStr, phiSet] at hd))
   ((try simp only [wsz] at hK ⊢); go_simp)
   have := (hE.trans (Ext.trans (Ext.refl W).drew hx)).size
   (refine hK _ _ xt ?_; dsimp only [PhiDeps, PhiAll, phiAt, phiEq, phiZ, phiAny, phiBox, phiRow, phiRows, phiZs, phiStr, phiSet])
   exact ⟨_, _, rfl, Rl.one rfl (by omega)⟩
  (refine ps_loud rfl rfl rfl rfl rfl (fun f w1 hx hd K hK => ?_) ?_)
  ·(have hc' := hx.cells.1; (try simp only [wcd] at hc'); simp only [fillA, Act.put, List.setIfInBounds_toArray, List.set_cons_zero, List.set_cons_succ] at hK; (simp only [fillA]; (try simp only [pt])); (dsimp only [PhiDeps, PhiAll, phiAt, phiEq, phiZ, phiAny, phiBox, phiRow, phiRows, phiZs, phiStr, phiSet] at hd))
   ((try simp only [wsz] at hK ⊢); go_simp)
   have := (hE.trans (Ext.trans (Ext.refl W).drew hx)).size
   (refine hK _ _ xt ?_; dsimp only [PhiDeps, PhiAll, phiAt, phiEq, phiZ, phiAny, phiBox, phiRow, phiRows, phiZs, phiStr, phiSet])
   exact ⟨_, _, rfl, Rl.one rfl (by omega)⟩
  (refine ps_loud rfl rfl rfl rfl rfl (fun f w1 hx hd K hK => ?_) ?_)
  ·(have hc' := hx.cells.1; (try simp only [wcd] at hc'); simp only [fillA, Act.put, List.setIfInBounds_toArray, List.set_cons_zero, List.set_cons_succ] at hK; (simp only [fillA]; (try simp only [pt])); (dsimp only [PhiDeps, PhiAll, phiAt, phiEq, phiZ, phiAny, phiBox, phiRow, phiRows, phiZs, phiStr, phiSet] at hd))
   obtain ⟨A7, c7, e7, h7⟩ := hd.1; obtain ⟨A8, c8, e8, h8⟩ := hd.2.1
   ((try simp only [e7, e8] at hK ⊢); go_simp)
   have := (hE.trans (Ext.trans (Ext.refl W).drew hx)).size
   (refine hK _ _ xt ?_; dsimp only [PhiDeps, PhiAll, phiAt, phiEq, phiZ, phiAny, phiBox, phiRow, phiRows, phiZs, phiStr, phiSet])
   exact ⟨_, _, rfl, Rs.two rfl (by omega) h7 h8⟩
  refine ps_take rfl rfl rfl rfl rfl ?_ ?_
  ·intro f w1 hx hd
   (dsimp only [PhiDeps, PhiAll, phiAt, phiEq, phiZ, phiAny, phiBox, phiRow, phiRows, phiZs, phiStr, phiSet] at hd)
   obtain ⟨A6, c6, e6, h6⟩ := hd.1; obtain ⟨A9, c9, e9, h9⟩ := hd.2.1; refine ⟨.agg #[.int .i64 1, .slice A6 1 c6, .slice A9 2 c9], ?_, ⟨A6, c6, A9, c9, rfl, h6, h9⟩⟩
   (simp only [fillA]; (try simp only [pt]))
   simp only [e6, e9]
   go_simp
  (refine ps_loud rfl rfl rfl rfl rfl (fun f w1 hx hd K hK => ?_) ?_)
  ·(have hc' := hx.cells.1; (try simp only [wcd] at hc'); simp only [fillA, Act.put, List.setIfInBounds_toArray, List.set_cons_zero, List.set_cons_succ] at hK; (simp only [fillA]; (try simp only [pt])); (dsimp only [PhiDeps, PhiAll, phiAt, phiEq, phiZ, phiAny, phiBox, phiRow, phiRows, phiZs, phiStr, phiSet] at hd))
   obtain ⟨A6, c6, A9, c9, e, h6, h9⟩ := hd.1
   ((try simp only [e] at hK ⊢); go_simp)
   have := (hE.trans (Ext.trans (Ext.refl W).drew hx)).size
   (refine hK _ _ xt ?_; dsimp only [PhiDeps, PhiAll, phiAt, phiEq, phiZ, phiAny, phiBox, phiRow, phiRows, phiZs, phiStr, phiSet])
   exact ⟨_, rfl, A6, c6, A9, c9, Box.new _ _ _, by omega, Sl.keep h6 ((Kp.refl _).alloc _), Sl.keep h9 ((Kp.refl _).alloc _)⟩
  exact ps_nil
 ·intro f w1 hx hall hne
  (dsimp only [PhiDeps, PhiAll, phiAt, phiEq, phiZ, phiAny, phiBox, phiRow, phiRows, phiZs, phiStr, phiSet] at hall)
  obtain ⟨-, -, -, -, -, -, -, -, ⟨g, eg, hS⟩, -⟩ := hall
  (simp only [fillA]; (try simp only [pt]))
  simp only [eg]
  (refine sh_late rfl rfl fun K hK => ?_; go_simp; refine hK _ _ ?_; clear hK K)
  refine sh_end ?_
  go_wp2_with fail
  go_ret
  exact ⟨g, rfl, hS, hE.trans (Ext.trans (Ext.refl W).drew hx)⟩

theorem tk1 {p : Prop} (h : p := by intro f w1 hx hd; (dsimp only [PhiDeps, PhiAll, phiAt, phiEq, phiZ, phiAny, phiBox, phiRow, phiRows, phiZs, phiStr, phiSet] at hd); (simp only [fillA]; (try simp only [pt])); (try simp only [hd]); go_simp; (first | done | with_reducible rfl)) : p := h
end Go.Proofs.YtpkfjbljhneenaaGreat
