/- The program's sets as data; census in the new words. No conditions. riddlelaw19.CensusDoes: what is asked is taken apart. No conditions. riddlelaw19.CensusDoes. No conditions. -/
import Derived.Test.YtpkfjbljhneenaaGreatGDoesBl
import Derived.Test.YtpkfjbljhneenaaGreatGDoesAw
import Derived.Test.YtpkfjbljhneenaaGreatGDoesAk
import Derived.Test.YtpkfjbljhneenaaGreatGDoesAu
import Derived.Test.YtpkfjbljhneenaaGreatGDoesAv
import Derived.Test.YtpkfjbljhneenaaGreatGDoesBn
import Derived.BigRegion
import Derived.RegionTactic
import Derived.Deep.RegionHeld3
import Derived.Test.YtpkfjbljhneenaaGreatGDoesBm
import Derived.Test.YtpkfjbljhneenaaGreatGDoesBq
import Derived.Test.YtpkfjbljhneenaaGreatGDoesBh
namespace Go.Proofs.YtpkfjbljhneenaaGreat
open Go.RowKit

def dQ (s : Ps) : D := .p 94 (dS s)
section
variable {w : World} {X : Nat → Prop}
theorem rp_q {v : Value} {s : Ps} (h : Rp w X v (dQ s)) : ∃ g, v = .pointer (some ⟨g, 0, none⟩) ∧ SetV w X g s := by
 cases h with
 | @p b _ _ vs h1 h2 h3 h4 =>
  have h3 : vs.size = 3 := h3; have q0 : Rp w X (vs.getD 0 undef) (.i .i64 (s.per : Int)) := h4 0 (by simp [dS]); have q1 : Rp w X (vs.getD 1 undef) (.l (s.cuts.map dZ)) := h4 1 (by simp [dS]); have q2 : Rp w X (vs.getD 2 undef) (.l (dR s.rows)) := h4 2 (by simp [dS]); obtain ⟨l, rfl⟩ : ∃ l : List Value, vs = l.toArray := ⟨vs.toList, by simp⟩
  match l, h3 with
  | [v0, v1, v2], _ =>
   have q0 : Rp w X v0 (.i .i64 (s.per : Int)) := q0; have q1 : Rp w X v1 (.l (s.cuts.map dZ)) := q1; have q2 : Rp w X v2 (.l (dR s.rows)) := q2; obtain ⟨A, c, rfl, k1⟩ := rp_zs.1 q1; obtain ⟨B, d, rfl, k2⟩ := rp_r.1 q2
   cases q0
   exact ⟨b, rfl, A, c, B, d, h2, h1, k1, k2⟩
theorem rp_q' {g : Nat} {s : Ps} (h : SetV w X g s) (hs : s.per ≤ 4096) : Rp w X (.pointer (some ⟨g, 0, none⟩)) (dQ s) := by
 obtain ⟨A, c, B, d, h2, h1, k1, k2⟩ := h
 refine .p h1 h2 rfl fun i hi => ?_
 have hi : i < 3 := hi
 match i, hi with
 | 0, _ => exact .i (by simp only [z_min]; omega) (by simp only [z_min]; omega)
 | 1, _ => exact rp_zs.2 ⟨A, c, rfl, k1⟩
 | 2, _ => exact rp_r.2 ⟨B, d, rfl, k2⟩
theorem relD_ms {v : Value} {ms : List Mk} (h : RelD w X v (.c (.l (ms.map dM)))) : ∃ A c, v = .slice A ms.length c ∧ Ms w X A c ms :=
 Rp.of_enc (sz := 7) (by omega) (fun _ => rfl) (fun _ _ h => (ed_m.1 h).1) h
end
theorem psets_v (ms : List Mk) (N : Nat) (hN : 2 ≤ N) (hN2 : N ≤ 4294967296) (hsz : ∀ m ∈ ms, m.sz N) (hk : ∀ s ∈ buildF ms, s.per ≤ 4096) : Fn Tryz.prog 4 [.c (.l (ms.map dM))] (.c (.l true ((buildF ms).map fun s => [dQ s]))) :=
 fn1 fun w X v hv => by
  obtain ⟨A, c, rfl, hm⟩ := relD_ms hv
  refine (sets_c hm hN hN2 hsz).mono fun _ w' ⟨r, e, h, x⟩ => ⟨r, e, ?_, x⟩
  have hr := h.row; obtain ⟨B, d, rfl, h2⟩ := Own.sl h (by omega) (X := fun b => w.heap.size ≤ b) (fun _ h => h.elim id id)
  have h2 := Sl.widen (Y := (cAns X w w').Y true) h2 (by omega) fun b hb hl => ⟨.inr ⟨hb, hl⟩, fun _ => hb⟩
  have h3 : Sl 1 (fun w X cs (s : Ps) => EPs w X cs s ∧ s.per ≤ 4096) w' ((cAns X w w').Y true) B d (buildF ms) := ⟨h2.1, h2.2.1, fun h0 => by
   obtain ⟨b, o, e1, e2, e3⟩ := h2.2.2.1 h0
   exact ⟨b, o, e1, e2, fun i hi => by
    obtain ⟨cs, q1, q2, q3⟩ := e3 i hi
    exact ⟨cs, q1, q2, q3, hk _ (List.getElem_mem hi)⟩⟩, h2.2.2.2⟩
  refine Rp.to_enc (by omega) (fun cs s ⟨⟨g, e, hS⟩, h4⟩ => ?_) h3; rw [e]; exact .cons (rp_q' hS h4) .nil
theorem known_v : Fn Tryz.prog 6 [] (.c (.b true)) := fun w X vs _ _ ha => by
 obtain ⟨l, rfl⟩ : ∃ l : List Value, vs = l.toArray := ⟨vs.toList, by simp⟩
 cases ha
 exact (known_c w).mono fun _ _ ⟨e, x⟩ => ⟨_, e, x, rfl⟩
theorem ppick_v (c : Int) (hc : i64 c) (n : Nat) (h0 : 0 < n) (hn : n ≤ 4611686018427387904) : Fn Tryz.prog 7 [.c (.i .i64 c), .c (.i .i64 (n : Nat))] (.c (.i .i64 (pickN c n : Nat))) :=
 fn2 fun w _ u v hu hv => by
  obtain ⟨rfl, _⟩ := relD_i hu; obtain ⟨rfl, _⟩ := relD_i hv; have := pickN_lt c h0
  exact (pick19_c c hc n h0 hn w).mono fun _ _ ⟨e, x⟩ => ⟨_, e, cI ⟨by omega, by omega⟩, x⟩
theorem ints_v (z : Z) : Fn Tryz.prog 9 [.g (dZ z), .g (dZ z)] (.c (.b true)) :=
 fn2 fun w _ u v hu hv => (lints_c (relD_z.1 hu) (relD_z.1 hv)).mono fun _ _ ⟨e, x⟩ => ⟨_, e, rfl, x⟩
theorem pcount_v (s : Ps) (N : Nat) (hs : s.ok N) (hN : N ≤ 274877906940) (lo hi : Z) (h1 : lo.mag.length ≤ N) (h2 : hi.mag.length ≤ N) : Fn Tryz.prog 8 [.c (dQ s), .g (dZ lo), .g (dZ hi)] (.t [aZ true (cz (cntV s lo hi.v)), .c (.i .i64 0)]) :=
 fn3 fun w _ u v z hu hv hz => by
  obtain ⟨g, rfl, hS⟩ := rp_q hu
  exact (count_c hS hs (Nat.le_refl _) hN (relD_z.1 hv) (relD_z.1 hz) h1 h2).mono fun _ _ ⟨r, e, h, x⟩ => ⟨_, e, ⟨_, rfl, .cons (ansA_z h) (.cons (cI ⟨by omega, by omega⟩) .nil)⟩, x⟩
theorem pnext_v (s : Ps) (N : Nat) (hs : s.ok N) (hN : N ≤ 274877906940) (lo : Z) (h1 : lo.mag.length ≤ N) : Fn Tryz.prog 13 [.c (dQ s), .g (dZ lo)] (.t [aZ true (cz ((nxtV s lo).getD 0)), .c (.b (nxtV s lo).isSome)]) :=
 fn2 fun w _ u v hu hv => by
  obtain ⟨g, rfl, hS⟩ := rp_q hu
  exact (next_c hS hs (Nat.le_refl _) (by omega) (relD_z.1 hv) h1).mono fun _ _ ⟨r, e, h, x⟩ => ⟨_, e, ⟨_, rfl, .cons (ansA_z h) (.cons rfl .nil)⟩, x⟩
theorem plast_v (s : Ps) (N : Nat) (hs : s.ok N) (hN : N ≤ 274877906940) (lo : Z) (h1 : lo.mag.length ≤ N) : Fn Tryz.prog 15 [.c (dQ s), .g (dZ lo)] (.t [aZ true (cz ((lstV s lo).getD 0)), .c (.b (lstV s lo).isSome)]) :=
 fn2 fun w _ u v hu hv => by
  obtain ⟨g, rfl, hS⟩ := rp_q hu
  exact (last_c hS hs (Nat.le_refl _) (by omega) (relD_z.1 hv) h1).mono fun _ _ ⟨r, e, h, x⟩ => ⟨_, e, ⟨_, rfl, .cons (ansA_z h) (.cons rfl .nil)⟩, x⟩
theorem pleast_v (s : Ps) (N : Nat) (hs : s.ok N) (hN : N ≤ 274877906940) : Fn Tryz.prog 17 [.c (dQ s)] (.t [aZ true (cz ((lstE s).getD 0)), .c (.b (lstE s).isSome)]) :=
 fn1 fun w _ u hu => by
  obtain ⟨g, rfl, hS⟩ := rp_q hu
  exact (least_c hS hs (by omega)).mono fun _ _ ⟨r, e, h, x⟩ => ⟨_, e, ⟨_, rfl, .cons (ansA_z h) (.cons rfl .nil)⟩, x⟩
theorem pfin_v (s : Ps) (N : Nat) (hs : s.ok N) (hN : N ≤ 274877906940) : Fn Tryz.prog 19 [.c (dQ s)] (.t [aZ true (cz ((finV s).getD 0)), .c (.b (finV s).isSome)]) :=
 fn1 fun w _ u hu => by
  obtain ⟨g, rfl, hS⟩ := rp_q hu
  exact (finite_c hS hs (by omega)).mono fun _ _ ⟨r, e, h, x⟩ => ⟨_, e, ⟨_, rfl, .cons (ansA_z h) (.cons rfl .nil)⟩, x⟩

end Go.Proofs.YtpkfjbljhneenaaGreat

namespace Go.Proofs.YtpkfjbljhneenaaGreat
open Go.RowKit Go.Shelf

theorem look_keep {W U : World} {g : Nat} {v0 v1 v2 v3 v4 v5 v6 : Value} (hK : Ext W U) (hl : g < W.heap.size) (h : W.cell? ⟨g, 0, none⟩ = some v0 ∧ W.cell? ⟨g, 1, none⟩ = some v1 ∧ W.cell? ⟨g, 2, none⟩ = some v2 ∧ W.cell? ⟨g, 3, none⟩ = some v3 ∧ W.cell? ⟨g, 4, none⟩ = some v4 ∧ W.cell? ⟨g, 5, none⟩ = some v5 ∧ W.cell? ⟨g, 6, none⟩ = some v6) :
  U.cell? ⟨g, 0, none⟩ = some v0 ∧ U.cell? ⟨g, 1, none⟩ = some v1 ∧ U.cell? ⟨g, 2, none⟩ = some v2 ∧ U.cell? ⟨g, 3, none⟩ = some v3 ∧ U.cell? ⟨g, 4, none⟩ = some v4 ∧ U.cell? ⟨g, 5, none⟩ = some v5 ∧ U.cell? ⟨g, 6, none⟩ = some v6 :=
 ⟨(hK.cells.1 _ _ hl).trans h.1, (hK.cells.1 _ _ hl).trans h.2.1, (hK.cells.1 _ _ hl).trans h.2.2.1, (hK.cells.1 _ _ hl).trans h.2.2.2.1, (hK.cells.1 _ _ hl).trans h.2.2.2.2.1, (hK.cells.1 _ _ hl).trans h.2.2.2.2.2.1, (hK.cells.1 _ _ hl).trans h.2.2.2.2.2.2⟩
theorem rel_cells {c : Cx} {m : Mem} {w : World} {f : Bool} : ∀ {ds : List D} {vs : List Value}, F2 (RelC c m w) vs (ds.map (toC f)) → ED w (c.Y f) vs ds
 | [], _, .nil => .nil
 | d :: r, _, .cons (a := v) h1 h2 => .cons (by
   cases d with
   | i k n => obtain ⟨rfl, q1, q2⟩ := (h1 : _ ∧ _ ∧ _); exact .i q1 q2
   | b x => obtain rfl := (h1 : v = .bool x); exact .b
   | s x => obtain ⟨rfl, q1⟩ := (h1 : _ ∧ _); exact .s q1
   | l xs => exact h1
   | p T ds => exact h1
   | np => obtain rfl := (h1 : v = .pointer none); exact .np) (rel_cells h2)
set_option maxRecDepth 100000 in
theorem act_lit3 {a : Act} (hd : a.defers = []) (hs : a.tmps.size = 264) {v0 v3 : Value} (h0 : a.tmps.getD 0 undef = v0) (h3 : a.tmps.getD 3 undef = v3) : ∃ x : Nat → Value, a = ⟨#[v0, x 1, x 2, v3, x 4, x 5, x 6, x 7, x 8, x 9, x 10, x 11, x 12, x 13, x 14, x 15, x 16, x 17, x 18, x 19, x 20, x 21, x 22, x 23, x 24, x 25, x 26, x 27, x 28, x 29, x 30, x 31, x 32, x 33, x 34, x 35, x 36, x 37, x 38, x 39, x 40, x 41, x 42, x 43, x 44, x 45, x 46, x 47, x 48, x 49, x 50, x 51, x 52, x 53, x 54, x 55, x 56, x 57, x 58, x 59, x 60, x 61, x 62, x 63, x 64, x 65, x 66, x 67, x 68, x 69, x 70, x 71, x 72, x 73, x 74, x 75, x 76, x 77, x 78, x 79, x 80, x 81, x 82, x 83, x 84, x 85, x 86, x 87, x 88, x 89, x 90, x 91, x 92, x 93, x 94, x 95, x 96, x 97, x 98, x 99, x 100, x 101, x 102, x 103, x 104, x 105, x 106, x 107, x 108, x 109, x 110, x 111, x 112, x 113, x 114, x 115, x 116, x 117, x 118, x 119, x 120, x 121, x 122, x 123, x 124, x 125, x 126, x 127, x 128, x 129, x 130, x 131, x 132, x 133, x 134, x 135, x 136, x 137, x 138, x 139, x 140, x 141, x 142, x 143, x 144, x 145, x 146, x 147, x 148, x 149, x 150, x 151, x 152, x 153, x 154, x 155, x 156, x 157, x 158, x 159, x 160, x 161, x 162, x 163, x 164, x 165, x 166, x 167, x 168, x 169, x 170, x 171, x 172, x 173, x 174, x 175, x 176, x 177, x 178, x 179, x 180, x 181, x 182, x 183, x 184, x 185, x 186, x 187, x 188, x 189, x 190, x 191, x 192, x 193, x 194, x 195, x 196, x 197, x 198, x 199, x 200, x 201, x 202, x 203, x 204, x 205, x 206, x 207, x 208, x 209, x 210, x 211, x 212, x 213, x 214, x 215, x 216, x 217, x 218, x 219, x 220, x 221, x 222, x 223, x 224, x 225, x 226, x 227, x 228, x 229, x 230, x 231, x 232, x 233, x 234, x 235, x 236, x 237, x 238, x 239, x 240, x 241, x 242, x 243, x 244, x 245, x 246, x 247, x 248, x 249, x 250, x 251, x 252, x 253, x 254, x 255, x 256, x 257, x 258, x 259, x 260, x 261, x 262, x 263], []⟩ := by
 obtain ⟨tm, df⟩ := a
 subst hd; subst h0; subst h3
 refine ⟨fun t => tm.getD t undef, congrArg (Act.mk · []) ?_⟩
 have e : tm = ((List.range 264).map fun t => tm.getD t undef).toArray := by
  apply Array.ext
  ·simpa using hs
  ·intro i h1 h2; have hs : tm.size = 264 := hs; simp [Array.getD, h1]
 exact e
set_option maxRecDepth 100000 in
set_option maxHeartbeats 6400000 in
theorem does_r1 {S : AS} {N : AS → Prop} {Q : Exit → AS → Prop} {xs : List (List D)} {i : Int} {lo hi zz : Z} (h0 : S.n = 264) (h1 : S.f 0 = .c (.l false xs)) (h2 : S.f 3 = .c (.p 3 0)) (h3 : S.m = [(3, .x (.i .i64 i :: (dZ lo ++ dZ hi ++ dZ zz).map (toC false)))])
  (hN : N ⟨264, lst (fun _ => .u) 0 [(0, .c (.l false xs)), (5, .c (.i .i64 i)), (6, .c (.p 6 0)), (7, .c (.p 7 0))], [(6, .x ((dZ lo).map (toC false))), (7, .x ((dZ hi).map (toC false)))]⟩) : SW Tryz.prog (seqL (seqR (Tryz.f3.body.getD .skip))) (thn N Q) S := by
 intro w0 a w ⟨c, h⟩; have hsz : a.tmps.size = 264 := h.sz.trans h0; have h30 := h.sl 3 (by rw [h0]; omega); rw [h2] at h30; have h00 := h.sl 0 (by rw [h0]; omega); rw [h1] at h00; have h30 : a.tmps.getD 3 undef = .pointer (some ⟨c.β 3, 0, none⟩) := h30.1; obtain ⟨-, hX3, vs, T3, b3, f3⟩ := h.mem 3 (.x (.i .i64 i :: (dZ lo ++ dZ hi ++ dZ zz).map (toC false))) (by rw [h3]; rfl); have e := rel_cells (ds := .i .i64 i :: (dZ lo ++ dZ hi ++ dZ zz)) f3; obtain ⟨l, rfl⟩ : ∃ l : List Value, vs = l.toArray := ⟨vs.toList, by simp⟩; rw [List.toList_toArray] at e
 cases e with
 | cons q0 e =>
 cases e with
 | cons q1 e =>
 cases e with
 | cons q2 e =>
 cases e with
 | cons q3 e =>
 cases e with
 | cons q4 e =>
 cases e with
 | cons q5 e =>
 cases e with
 | cons q6 e =>
 cases e
 cases q1; cases q3; cases q5
 cases q0 with
 | i hi1 hi2 =>
 obtain ⟨A, ca, rfl, nA⟩ := rp_n.1 q2; obtain ⟨B, cb, rfl, nB⟩ := rp_n.1 q4; obtain ⟨C, cc, rfl, nC⟩ := rp_n.1 q6; obtain ⟨v0, hv0⟩ : ∃ v, v = a.tmps.getD 0 undef := ⟨_, rfl⟩; obtain ⟨x, hx⟩ := act_lit3 h.df hsz hv0.symm h30; rw [← hv0] at h00; have hn0 := h.n0; have hsw := h.ext.size
 have hfin : ∀ (a' : Act) (w' : World) (g6 g7 T6 T7 : Nat), a'.defers = [] → a'.tmps.size = 264 → a'.tmps.getD 0 undef = v0 → a'.tmps.getD 5 undef = .int .i64 i → a'.tmps.getD 6 undef = .pointer (some ⟨g6, 0, none⟩) → a'.tmps.getD 7 undef = .pointer (some ⟨g7, 0, none⟩) →
   Box w' g6 T6 #[.bool lo.neg, .slice A lo.mag.length ca] → Box w' g7 T7 #[.bool hi.neg, .slice B hi.mag.length cb] → g6 ≠ g7 → w.heap.size ≤ g6 → w.heap.size ≤ g7 → Ext w w' →
   Rel w0 ⟨264, lst (fun _ => .u) 0 [(0, .c (.l false xs)), (5, .c (.i .i64 i)), (6, .c (.p 6 0)), (7, .c (.p 7 0))], [(6, .x ((dZ lo).map (toC false))), (7, .x ((dZ hi).map (toC false)))]⟩ a' w' := by
  intro a' w' g6 g7 T6 T7 hd hs s0 s5 s6 s7 b6 b7 hne l6 l7 hx
  have n1 := h.new (k := 6) (ob := .x ((dZ lo).map (toC false))) (by rw [h3]; rfl) (w' := w') (β' := fun j => if j = 6 then g6 else c.β j) (ρ' := c.ρ) (fun j hj => if_neg hj) (fun _ _ => rfl) hx (fun b hb => by injection hb with hb; subst hb; exact l6)
   (fun _ => ⟨by show c.n0 ≤ g6; omega, fun hX => by have := h.xl g6 hX; omega, _, T6, b6, .cons rfl (.cons (rp_n.2 ⟨A, ca, rfl, nA.ext hx⟩) .nil)⟩)
  have n2 := n1.newd (k := 7) (ob := .x ((dZ hi).map (toC false))) (by rw [h3]; rfl) (w' := w') (β' := fun j => if j = 7 then g7 else if j = 6 then g6 else c.β j) (ρ' := c.ρ) (fun j hj => if_neg hj) (fun _ _ => rfl) (Ext.refl w') (fun b hb j oj hj => by
    injection hb with hb
    have hb : g7 = b := hb; subst hb; rw [h3] at hj; unfold mat at hj
    split at hj
    ·rename_i e; subst e; injection hj with hj; subst hj; intro e; injection e with e; exact hne e
    ·unfold mat at hj
     split at hj
     ·rename_i e; subst e; injection hj with hj; subst hj; intro e; injection e with e; have e : c.β 3 = g7 := e; have := b3.lt; omega
     ·cases hj)
   (fun _ => ⟨by show c.n0 ≤ g7; omega, fun hX => by have := h.xl g7 hX; omega, _, T7, b7, .cons rfl (.cons (rp_n.2 ⟨B, cb, rfl, nB.ext hx⟩) .nil)⟩)
  rw [h3] at n2
  have n3 : Rel w0 ⟨264, lst (fun _ => .u) 0 [(0, .c (.l false xs)), (5, .c (.i .i64 i)), (6, .c (.p 6 0)), (7, .c (.p 7 0))], [(7, .x ((dZ hi).map (toC false))), (6, .x ((dZ lo).map (toC false))), (3, .x (.i .i64 i :: (dZ lo ++ dZ hi ++ dZ zz).map (toC false)))]⟩ a' w' := by
   refine ⟨_, n2.n0, n2.ext, hd, n2.xl, n2.xo, hs, fun t ht => ?_, n2.mem, n2.dis⟩
   by_cases t0 : t = 0
   ·subst t0; rw [s0]; exact Rp.keep h00 (.of_ext hx)
   ·by_cases t5 : t = 5
    ·subst t5; rw [s5]; exact ⟨rfl, hi1, hi2⟩
    ·by_cases t6 : t = 6
     ·subst t6; rw [s6]; exact ⟨rfl, _, rfl⟩
     ·by_cases t7 : t = 7
      ·subst t7; rw [s7]; exact ⟨rfl, _, rfl⟩
      ·have : lst (fun _ => SV.u) 0 [(0, .c (.l false xs)), (5, .c (.i .i64 i)), (6, .c (.p 6 0)), (7, .c (.p 7 0))] t = .u := by simp [lst, alook, Ne.symm t0, Ne.symm t5, Ne.symm t6, Ne.symm t7]
       simp only [this]; trivial
  refine chk_le (n := 264) ?_ w0 a' w' n3; simp [go_sem, lst]
 have HF := Lib.hid hfin; rw [hx]
 refine wp_mono (Q := Exit.then (fun a' w' => Rel w0 ⟨264, lst (fun _ => .u) 0 [(0, .c (.l false xs)), (5, .c (.i .i64 i)), (6, .c (.p 6 0)), (7, .c (.p 7 0))], [(6, .x ((dZ lo).map (toC false))), (7, .x ((dZ hi).map (toC false)))]⟩ a' w') (fun _ _ _ => False)) ?_ fun e a' w' hq => ?_
 ·have b3l := b3.lt
  have cs : w.cell? ⟨c.β 3, 0, none⟩ = some (.int .i64 i) ∧ w.cell? ⟨c.β 3, 1, none⟩ = some (.bool lo.neg) ∧ w.cell? ⟨c.β 3, 2, none⟩ = some (.slice A lo.mag.length ca) ∧ w.cell? ⟨c.β 3, 3, none⟩ = some (.bool hi.neg) ∧ w.cell? ⟨c.β 3, 4, none⟩ = some (.slice B hi.mag.length cb) ∧ w.cell? ⟨c.β 3, 5, none⟩ = some (.bool zz.neg) ∧ w.cell? ⟨c.β 3, 6, none⟩ = some (.slice C zz.mag.length cc) := by
   refine ⟨?_, ?_, ?_, ?_, ?_, ?_, ?_⟩ <;> (rw [b3.cell]; rfl)
  obtain ⟨g, hg⟩ : ∃ g, g = c.β 3 := ⟨_, rfl⟩; rw [← hg] at cs b3l ⊢; clear hfin hx h hv0 h0 h1 h2 h3 hsz h30 h00 hn0 hX3 f3 q2 q4 q6 b3 hg
  conv => arg 2; whnf
  go_region_held3 (fun U => U.cell? ⟨g, 0, none⟩ = some (.int .i64 i) ∧ U.cell? ⟨g, 1, none⟩ = some (.bool lo.neg) ∧ U.cell? ⟨g, 2, none⟩ = some (.slice A lo.mag.length ca) ∧ U.cell? ⟨g, 3, none⟩ = some (.bool hi.neg) ∧ U.cell? ⟨g, 4, none⟩ = some (.slice B hi.mag.length cb) ∧ U.cell? ⟨g, 5, none⟩ = some (.bool zz.neg) ∧ U.cell? ⟨g, 6, none⟩ = some (.slice C zz.mag.length cc)) (exact look_keep xt b3l cs) (fail)
  all_goals
   show Rel w0 _ _ _
   refine HF.out _ _ ?_ ?_ 25 25 ?_ ?_ ?_ ?_ ?_ ?_ ?_ ?_ ?_ ?_ ?_ ?_
   rotate_left 2
   ·rfl
   ·rfl
   ·rfl
   ·rfl
   ·rfl
   ·rfl
   ·refine Box.drew ?_; first | exact Box.new_at _ _ _ (by simp only [wsz]) | exact (Box.new _ _ _).alloc _
   ·refine Box.drew ?_; first | exact Box.new_at _ _ _ (by simp only [wsz]) | exact (Box.new _ _ _).alloc _
   ·omega
   ·omega
   ·omega
   ·exact xt
 ·cases e with
  | normal => exact ⟨_, hN, hq⟩
  | _ => exact hq.elim

end Go.Proofs.YtpkfjbljhneenaaGreat

namespace Go.Proofs.YtpkfjbljhneenaaGreat
open Go.RowKit

set_option maxRecDepth 100000 in
theorem act_lit {a : Act} (hd : a.defers = []) (hs : a.tmps.size = 264) {v6 v7 v10 v11 : Value} (h6 : a.tmps.getD 6 undef = v6) (h7 : a.tmps.getD 7 undef = v7) (h10 : a.tmps.getD 10 undef = v10) (h11 : a.tmps.getD 11 undef = v11) :
  ∃ x : Nat → Value, a = ⟨#[x 0, x 1, x 2, x 3, x 4, x 5, v6, v7, x 8, x 9, v10, v11, x 12, x 13, x 14, x 15, x 16, x 17, x 18, x 19, x 20, x 21, x 22, x 23, x 24, x 25, x 26, x 27, x 28, x 29, x 30, x 31, x 32, x 33, x 34, x 35, x 36, x 37, x 38, x 39, x 40, x 41, x 42, x 43, x 44, x 45, x 46, x 47, x 48, x 49, x 50, x 51, x 52, x 53, x 54, x 55, x 56, x 57, x 58, x 59, x 60, x 61, x 62, x 63, x 64, x 65, x 66, x 67, x 68, x 69, x 70, x 71, x 72, x 73, x 74, x 75, x 76, x 77, x 78, x 79, x 80, x 81, x 82, x 83, x 84, x 85, x 86, x 87, x 88, x 89, x 90, x 91, x 92, x 93, x 94, x 95, x 96, x 97, x 98, x 99, x 100, x 101, x 102, x 103, x 104, x 105, x 106, x 107, x 108, x 109, x 110, x 111, x 112, x 113, x 114, x 115, x 116, x 117, x 118, x 119, x 120, x 121, x 122, x 123, x 124, x 125, x 126, x 127, x 128, x 129, x 130, x 131, x 132, x 133, x 134, x 135, x 136, x 137, x 138, x 139, x 140, x 141, x 142, x 143, x 144, x 145, x 146, x 147, x 148, x 149, x 150, x 151, x 152, x 153, x 154, x 155, x 156, x 157, x 158, x 159, x 160, x 161, x 162, x 163, x 164, x 165, x 166, x 167, x 168, x 169, x 170, x 171, x 172, x 173, x 174, x 175, x 176, x 177, x 178, x 179, x 180, x 181, x 182, x 183, x 184, x 185, x 186, x 187, x 188, x 189, x 190, x 191, x 192, x 193, x 194, x 195, x 196, x 197, x 198, x 199, x 200, x 201, x 202, x 203, x 204, x 205, x 206, x 207, x 208, x 209, x 210, x 211, x 212, x 213, x 214, x 215, x 216, x 217, x 218, x 219, x 220, x 221, x 222, x 223, x 224, x 225, x 226, x 227, x 228, x 229, x 230, x 231, x 232, x 233, x 234, x 235, x 236, x 237, x 238, x 239, x 240, x 241, x 242, x 243, x 244, x 245, x 246, x 247, x 248, x 249, x 250, x 251, x 252, x 253, x 254, x 255, x 256, x 257, x 258, x 259, x 260, x 261, x 262, x 263], []⟩ := by
 obtain ⟨tm, df⟩ := a
 subst hd; subst h6; subst h7; subst h10; subst h11
 refine ⟨fun t => tm.getD t undef, congrArg (Act.mk · []) ?_⟩
 have e : tm = ((List.range 264).map fun t => tm.getD t undef).toArray := by
  apply Array.ext
  ·simpa using hs
  ·intro i h1 h2; have hs : tm.size = 264 := hs; simp [Array.getD, h1]
 exact e
theorem cnt_zl {s : Ps} {N L : Nat} {lo : Z} {hi : Int} (hs : s.ok N) (h1 : zl lo.v ≤ L) (h2 : zl hi ≤ L) (h3 : 1 ≤ L) : zl (cntV s lo hi) ≤ L + 2 := by
 rw [cnt_nin hs]; have h := nin_le s lo.v (hi + 1 - lo.v).toNat; refine Nat.le_trans (zl_abs (y := hi + 1 - lo.v) (by omega)) ?_; exact zl_sub (k := L + 1) (zl_add h2 (Nat.le_trans (show zl 1 ≤ 1 by decide) h3)) (by omega)
def llst (s : Ps) (lo hi : Int) : List Z := if 1000 < (mbs s lo hi).length then [] else (mbs s lo hi).map cz
def lerr (s : Ps) (lo hi : Int) : Int := if 1000 < (mbs s lo hi).length then 2 else 0
theorem llst_len (s : Ps) (lo hi : Int) : (llst s lo hi).length ≤ 1000 := by
 unfold llst
 split
 ·exact Nat.zero_le _
 ·rw [List.length_map]; omega
theorem plist_c {g N : Nat} {s : Ps} {w : World} {X Y Y' : Nat → Prop} {u v : Value} {lo hi : Z} (hs : SetV w X g s) (hsk : s.ok N) (hL : N ≤ 274877906940) (hlo : Zi w Y u lo) (hhi : Zi w Y' v hi) (hLl : lo.mag.length ≤ N) (hLh : hi.mag.length ≤ N) :
  Calls Tryz.prog 11 #[.pointer (some ⟨g, 0, none⟩), u, v] w fun e w' => ∃ r, e = .returned (.tuple #[r, .int .i64 (lerr s lo.v hi.v)]) ∧ Own 2 EZ w' (w.heap.size ≤ ·) w.heap.size 25 r (llst s lo.v hi.v) ∧ Ext w w' :=
 (list_c hs hsk (Nat.le_refl _) hL hlo hhi hLl hLh).mono fun e w' ⟨h, hx⟩ => by
  unfold lerr llst
  rcases h with ⟨h1, rfl⟩ | ⟨h1, r, rfl, h2⟩
  ·rw [if_pos h1, if_pos h1]; exact ⟨_, rfl, Own.nil _ _ _ _, hx⟩
  ·rw [if_neg (by omega), if_neg (by omega)]; exact ⟨r, rfl, h2, hx⟩
theorem rlist_c {s : Ps} {N : Nat} (hs : s.ok N) (hN : N ≤ 137438953472) {lo hi : Z} (hlo : lo.mag.length ≤ 137438953472) (hhi : hi.mag.length ≤ 137438953472) (hzc : zl ((mbs s lo.v hi.v).length : Int) ≤ 137438953474) {w : World} {X : Nat → Prop} {a b d : Value} (hl : Lay w) (h1 : RelD w X a (.g (dS s))) (h2 : RelD w X b (.g (dZ lo))) (h3 : RelD w X d (.g (dZ hi))) (hX : ∀ b, X b → b < w.heap.size) :
  Calls Tryz.prog 12 #[a, b, d] w fun e w' => ∃ C cc, e = .returned (.tuple #[.slice C (llst s lo.v hi.v).length cc, .int .i64 (lerr s lo.v hi.v)]) ∧ Zs w' (w.heap.size ≤ ·) C cc (llst s lo.v hi.v) ∧ Ext w w' :=
 (nlist_v s N hs hN lo hi hlo hhi hzc _ rfl w X #[a, b, d] hl hX (.cons h1 (.cons h2 (.cons h3 .nil)))).mono fun e w' ⟨r, he, hx, hr⟩ => by
  unfold lerr llst
  by_cases h : 1000 < (mbs s lo.v hi.v).length
  ·rw [decide_eq_true h] at hr; simp only [if_true] at hr; obtain ⟨vs, rfl, hr⟩ := hr; obtain ⟨l, rfl⟩ : ∃ l : List Value, vs = l.toArray := ⟨vs.toList, by simp⟩; rw [List.toList_toArray] at hr
   cases hr with
   | cons q1 hr =>
    cases hr with
    | cons q2 hr =>
     cases hr
     obtain rfl := (q1 : _ = _); obtain ⟨rfl, -, -⟩ := (q2 : _ ∧ _ ∧ _); rw [if_pos h, if_pos h]; exact ⟨none, 0, he, Sl.nil0 _ _ _, hx⟩
  ·rw [decide_eq_false h] at hr; simp only [Bool.false_eq_true, if_false] at hr; obtain ⟨vs, rfl, hr⟩ := hr; obtain ⟨l, rfl⟩ : ∃ l : List Value, vs = l.toArray := ⟨vs.toList, by simp⟩; rw [List.toList_toArray] at hr
   cases hr with
   | cons q1 hr =>
    cases hr with
    | cons q2 hr =>
     cases hr
     obtain ⟨rfl, -, -⟩ := (q2 : _ ∧ _ ∧ _); rw [if_neg h, if_neg h]; have q1 : Rp w' _ _ (.l ((mbs s lo.v hi.v).map fun y => dZ (cz y))) := q1; rw [show ((mbs s lo.v hi.v).map fun y => dZ (cz y)) = (((mbs s lo.v hi.v).map cz).map dZ) by rw [List.map_map]; rfl] at q1; obtain ⟨C, cc, rfl, q3⟩ := rp_zs.1 q1; exact ⟨C, cc, he, Sl.widen q3 (by omega) fun b hb _ => hb.2 rfl, hx⟩
def sMid (s : Ps) (lo hi : Z) : AS := ⟨264, lst (fun _ => .u) 0 [(6, .c (.p 6 0)), (7, .c (.p 7 0)), (10, .c (.d true 94 (dS s))), (11, .c (.p 11 0))], [(6, .x ((dZ lo).map (toC false))), (7, .x ((dZ hi).map (toC false))), (11, .x ((dS s).map (toC false)))]⟩
theorem does_join {s : Ps} {N : Nat} {lo hi : Z} {Q : Exit → AS → Prop} (hs : s.ok N) (hN : N ≤ 137438953472) (hlo : lo.mag.length ≤ N) (hhi : hi.mag.length ≤ N) (hzc : zl ((mbs s lo.v hi.v).length : Int) ≤ 137438953474) (hQ : ∀ c S, ¬ Q (.panic c) S)
  (h30 : SW Tryz.prog (seqL cE) (thn (SW Tryz.prog (seqR cE) Q) Q) (sMid s lo hi)) : SW Tryz.prog cM Q (sMid s lo hi) := by
 intro w0 a w ⟨c, h⟩; have h6 : a.tmps.getD 6 undef = .pointer (some ⟨c.β 6, 0, none⟩) := (h.sl 6 (show 6 < 264 by omega)).1; have h7 : a.tmps.getD 7 undef = .pointer (some ⟨c.β 7, 0, none⟩) := (h.sl 7 (show 7 < 264 by omega)).1; have h11 : a.tmps.getD 11 undef = .pointer (some ⟨c.β 11, 0, none⟩) := (h.sl 11 (show 11 < 264 by omega)).1; have h10 : Rp w (c.Y true) (a.tmps.getD 10 undef) (dQ s) := h.sl 10 (show 10 < 264 by omega); obtain ⟨g, h10, hS⟩ := rp_q h10; obtain ⟨-, -, vs6, T6, b6, f6⟩ := h.mem 6 (.x ((dZ lo).map (toC false))) rfl; obtain ⟨-, -, vs7, T7, b7, f7⟩ := h.mem 7 (.x ((dZ hi).map (toC false))) rfl; obtain ⟨-, -, vs11, T11, b11, f11⟩ := h.mem 11 (.x ((dS s).map (toC false))) rfl; have e6 := rel_cells f6; have e7 := rel_cells f7; have e11 := rel_cells f11; obtain ⟨A6, c6, q6, n6⟩ := ed_z.1 e6; obtain ⟨A7, c7, q7, n7⟩ := ed_z.1 e7
 have q6 : vs6 = #[.bool lo.neg, .slice A6 lo.mag.length c6] := by rw [← Array.toArray_toList (xs := vs6), q6]
 have q7 : vs7 = #[.bool hi.neg, .slice A7 hi.mag.length c7] := by rw [← Array.toArray_toList (xs := vs7), q7]
 rw [q6] at b6; rw [q7] at b7; have hsz : a.tmps.size = 264 := h.sz; obtain ⟨x, hx⟩ := act_lit h.df hsz h6 h7 h10 h11
 have hY : ∀ b, c.Y false b → b < w.heap.size := fun b hb => h.xl b hb.1
 have hv11 : vs11.size = 3 := by have := forall2_len e11; simpa [dS] using this
 rw [hx]
 refine does_mid (la := llst s lo.v hi.v) (e0 := lerr s lo.v hi.v) hv11 b6 b7 b11 (llst_len _ _ _) (fun U hU => plist_c (hS.ext hU) hs (by omega) (⟨A6, c6, rfl, n6.ext hU⟩ : Zi U (c.Y false) _ lo) (⟨A7, c7, rfl, n7.ext hU⟩ : Zi U (c.Y false) _ hi) hlo hhi)
  (fun U hU => ?_) (fun c a w h => hQ _ _ h.choose_spec.1) ?_
 ·have hlay : Lay U := w0.lay.ext (h.ext.trans hU)
  exact rlist_c hs hN (by omega) (by omega) hzc hlay (X := c.Y false) ⟨vs11, rfl, forall2_mono (fun _ _ r => r.keep (.of_ext hU)) e11⟩ (relD_z.2 (⟨A6, c6, rfl, n6.ext hU⟩ : Zi U (c.Y false) _ lo)) (relD_z.2 (⟨A7, c7, rfl, n7.ext hU⟩ : Zi U (c.Y false) _ hi)) fun b hb => Nat.lt_of_lt_of_le (hY b hb) hU.size
 ·intro K1 hK1 a' w' hd' hs' k6 k7 k10 k11 hx'; have h2 := h.call hx'
  have rel : Rel w0 (sMid s lo hi) a' w' := ⟨_, h2.n0, h2.ext, hd', h2.xl, h2.xo, hs', fun t ht => by
   have h3 := h2.sl t ht
   by_cases t6 : t = 6
   ·subst t6; rw [h6] at h3; rw [k6]; exact h3
   ·by_cases t7 : t = 7
    ·subst t7; rw [h7] at h3; rw [k7]; exact h3
    ·by_cases t10 : t = 10
     ·subst t10; rw [h10] at h3; rw [k10]; exact h3
     ·by_cases t11 : t = 11
      ·subst t11; rw [h11] at h3; rw [k11]; exact h3
      ·have : (sMid s lo hi).f t = .u := by simp [sMid, lst, alook, Ne.symm t6, Ne.symm t7, Ne.symm t10, Ne.symm t11]
       rw [this]; trivial, h2.mem, h2.dis⟩
  refine wp_mono (h30 w0 a' w' rel) fun e a2 w2 ⟨S', q1, q2⟩ => ?_
  cases e with
  | normal => exact hK1 a2 w2 (q1 w0 a2 w2 q2)
  | _ => exact ⟨S', q1, q2⟩
set_option maxRecDepth 100000 in
set_option maxHeartbeats 6400000 in
theorem does_v (ms : List Mk) (i : Int) (lo hi zz : Z) (N : Nat) (hN : 2 ≤ N) (hN2 : N ≤ 1048576) (hsz : ∀ m ∈ ms, m.sz N) (hz : ∀ m ∈ ms, zl (m.k.v + 1) ≤ N + 1) (hlen : ms.length ≤ 9223372036854775807) (hi64 : i64 i) (h1 : lo.mag.length ≤ N) (h2 : hi.mag.length ≤ N)
  (hpos : 0 < (buildF ms).length) (hl13 : (buildF ms).length ≤ 13) (hok : ∀ s ∈ buildF ms, s.ok (N + 1)) :
  Fn Tryz.prog 3 [.c (.l (ms.map dM)), .g (.i .i64 i :: (dZ lo ++ dZ hi ++ dZ zz))] (.c (.b true)) := by
 refine Fn.intro' Tryz.func3 [.tmp 4] 264 fun hga => ?_
 have k1 := psets_v ms N hN (by omega) hsz (fun s hs => (hok s hs).per1); have k2 := rbuild_v ms N (by omega) (by omega) hsz hz hlen; have k3 := known_v; have k4 := ppick_v i hi64 (buildF ms).length hpos (by omega); have hp := pickN_lt i hpos; generalize buildF ms = L at *; generalize pickN i L.length = q at *
 have hjl : L.length - 1 - q < L.length := by omega
 have hs := hok _ (List.getElem_mem hjl); have hq : L[L.length - 1 - q]? = some L[L.length - 1 - q] := List.getElem?_eq_getElem hjl; generalize L[L.length - 1 - q] = s at hs hq
 have hzc : zl ((mbs s lo.v hi.v).length : Int) ≤ 137438953474 := by
  rw [← mbs_cnt hs]; have zlo : zl lo.v ≤ N + 1 := Nat.le_trans (zl_of (ok_z fun d hd => hga (.g (.i .i64 i :: (dZ lo ++ dZ hi ++ dZ zz))) (by simp) d (by simp [hd]))) (by omega); have zhi : zl hi.v ≤ N + 1 := Nat.le_trans (zl_of (ok_z fun d hd => hga (.g (.i .i64 i :: (dZ lo ++ dZ hi ++ dZ zz))) (by simp) d (by simp [hd]))) (by omega); exact Nat.le_trans (cnt_zl hs zlo zhi (by omega)) (by omega)
 have k5 := pcount_v s (N + 1) hs (by omega) lo hi (by omega) (by omega); have k6 := ncount_v s (N + 1) hs (by omega) lo hi (by omega) (by omega); generalize cz (cntV s lo hi.v) = zc at k5 k6
 (repeat ((fail_if_success (first | (show SW _ (Code.region 1 _ _) _ _) | (show SW _ (Code.seq (Code.region 1 _ _) _) _ _))); first | refine hku ?_ | refine sw_seqk fun _ _ => ?_ | refine sw_reg ?_ | ((first | refine aops_k fun _ _ => ?_ | with_reducible refine rw_own ?_); simp [go_sem]; try go_ints) | refine sw_block ?_ | refine sw_t ?_ | refine sw_f ?_ | refine sw_e ?_ | refine ai ?_ | simp only [aops, thn, inB, ↓reduceIte, Nat.reduceEqDiff]))
 refine sw_seqk fun _ _ => ?_
 refine does_r1 (i := i) (lo := lo) (hi := hi) (zz := zz) (xs := ms.map dM) rfl (by simp [go_sem]) (by simp [go_sem]) (by simp [go_sem]) ?_
 (repeat first | refine hku ?_ | refine sw_seqk fun _ _ => ?_ | refine sw_reg ?_ | ((first | refine aops_k fun _ _ => ?_ | with_reducible refine rw_own ?_); simp [go_sem]; try go_ints) | refine sw_block ?_ | refine sw_t ?_ | refine sw_f ?_ | refine sw_e ?_ | refine ai ?_ | simp only [aops, thn, inB, ↓reduceIte, Nat.reduceEqDiff])
 (refine ⟨.v _, k1, ?_⟩; simp [go_sem]; (repeat first | refine hku ?_ | refine sw_seqk fun _ _ => ?_ | refine sw_reg ?_ | ((first | refine aops_k fun _ _ => ?_ | with_reducible refine rw_own ?_); simp [go_sem]; try go_ints) | refine sw_block ?_ | refine sw_t ?_ | refine sw_f ?_ | refine sw_e ?_ | refine ai ?_ | simp only [aops, thn, inB, ↓reduceIte, Nat.reduceEqDiff]))
 (refine ⟨.v _, k2, ?_⟩; simp [go_sem]; (repeat first | refine hku ?_ | refine sw_seqk fun _ _ => ?_ | refine sw_reg ?_ | ((first | refine aops_k fun _ _ => ?_ | with_reducible refine rw_own ?_); simp [go_sem, hpos]; try go_ints) | refine sw_block ?_ | refine sw_t ?_ | refine sw_f ?_ | refine sw_e ?_ | refine ai ?_ | simp only [aops, thn, inB, ↓reduceIte, Nat.reduceEqDiff]))
 (refine ⟨.v _, k3, ?_⟩; simp [go_sem]; (repeat first | refine hku ?_ | refine sw_seqk fun _ _ => ?_ | refine sw_reg ?_ | ((first | refine aops_k fun _ _ => ?_ | with_reducible refine rw_own ?_); simp [go_sem]; try go_ints) | refine sw_block ?_ | refine sw_t ?_ | refine sw_f ?_ | refine sw_e ?_ | refine ai ?_ | simp only [aops, thn, inB, ↓reduceIte, Nat.reduceEqDiff]))
 (refine ⟨.v _, k4, ?_⟩; simp [go_sem]; (repeat first | refine hku ?_ | refine sw_seqk fun _ _ => ?_ | refine sw_reg ?_ | ((first | refine aops_k fun _ _ => ?_ | with_reducible refine rw_own ?_); simp [go_sem, hq, dQ]; try go_ints) | refine sw_block ?_ | refine sw_t ?_ | refine sw_f ?_ | refine sw_e ?_ | refine ai ?_ | simp only [aops, thn, inB, ↓reduceIte, Nat.reduceEqDiff]))
 (refine ⟨.v _, k4, ?_⟩; simp [go_sem]; (repeat first | refine hku ?_ | refine sw_seqk fun _ _ => ?_ | refine sw_reg ?_ | ((first | refine aops_k fun _ _ => ?_ | with_reducible refine rw_own ?_); simp [go_sem, hq, dQ]; try go_ints) | refine sw_block ?_ | refine sw_t ?_ | refine sw_f ?_ | refine sw_e ?_ | refine ai ?_ | simp only [aops, thn, inB, ↓reduceIte, Nat.reduceEqDiff]))
 (refine ⟨.v _, k5, ?_⟩; simp [go_sem]; (repeat first | refine hku ?_ | refine sw_seqk fun _ _ => ?_ | refine sw_reg ?_ | ((first | refine aops_k fun _ _ => ?_ | with_reducible refine rw_own ?_); simp [go_sem]; try go_ints) | refine sw_block ?_ | refine sw_t ?_ | refine sw_f ?_ | refine sw_e ?_ | refine ai ?_ | simp only [aops, thn, inB, ↓reduceIte, Nat.reduceEqDiff]))
 (refine ⟨.v _, k6, ?_⟩; simp [go_sem]; (repeat first | refine hku ?_ | refine sw_seqk fun _ _ => ?_ | refine sw_reg ?_ | ((first | refine aops_k fun _ _ => ?_ | with_reducible refine rw_own ?_); simp [go_sem]; try go_ints) | refine sw_block ?_ | refine sw_t ?_ | refine sw_f ?_ | refine sw_e ?_ | refine ai ?_ | simp only [aops, thn, inB, ↓reduceIte, Nat.reduceEqDiff]))
 refine ⟨.v _, ints_v zc, ?_⟩; simp [go_sem]
 (repeat ((fail_if_success (first | (show SW _ (Code.region 11 _ _) _ _) | (show SW _ (Code.seq (Code.region 11 _ _) _) _ _))); first | refine hku ?_ | refine sw_seqk fun _ _ => ?_ | refine sw_reg ?_ | ((first | refine aops_k fun _ _ => ?_ | with_reducible refine rw_own ?_); simp [go_sem]; try go_ints) | refine sw_block ?_ | refine sw_t ?_ | refine sw_f ?_ | refine sw_e ?_ | refine ai ?_ | simp only [aops, thn, inB, ↓reduceIte, Nat.reduceEqDiff]))
 refine sw_restate [(6, .c (.p 6 0)), (7, .c (.p 7 0)), (10, .c (.d true 94 (dS s))), (11, .c (.p 11 0))] [(6, .x ((dZ lo).map (toC false))), (7, .x ((dZ hi).map (toC false))), (11, .x ((dS s).map (toC false)))] ?_ ?_
 ·simp [go_sem, lst]
 refine does_join (N := N + 1) hs (by omega) (by omega) (by omega) hzc (fun c S h => h.1.elim) ?_; have k7 := pnext_v s (N + 1) hs (by omega) lo (by omega); have k8 := nnext_v s (N + 1) hs (by omega) lo (by omega); have k9 := plast_v s (N + 1) hs (by omega) hi (by omega); have k10 := nlast_v s (N + 1) hs (by omega) hi (by omega); have k11 := pleast_v s (N + 1) hs (by omega); have k12 := nleast_v s (N + 1) hs (by omega); have k13 := pfin_v s (N + 1) hs (by omega); have k14 := nfin_v s (N + 1) hs (by omega); clear k1 k2 k3 k4 k5 k6 hok hs hq hzc hsz hz; generalize cz ((nxtV s lo).getD 0) = z1 at k7 k8; generalize (nxtV s lo).isSome = y1 at k7 k8; generalize cz ((lstV s hi).getD 0) = z2 at k9 k10; generalize (lstV s hi).isSome = y2 at k9 k10; generalize cz ((lstE s).getD 0) = z3 at k11 k12; generalize (lstE s).isSome = y3 at k11 k12; generalize cz ((finV s).getD 0) = z4 at k13 k14
 generalize (finV s).isSome = y4 at k13 k14; unfold sMid
 conv => arg 2; whnf
 (repeat first | refine hku ?_ | refine sw_seqk fun _ _ => ?_ | refine sw_reg ?_ | ((first | refine aops_k fun _ _ => ?_ | with_reducible refine rw_own ?_); simp [go_sem]; try go_ints) | refine sw_block ?_ | refine sw_t ?_ | refine sw_f ?_ | refine sw_e ?_ | refine ai ?_ | simp only [aops, thn, inB, ↓reduceIte, Nat.reduceEqDiff])
 (refine ⟨.v _, k7, ?_⟩; simp [go_sem]; (repeat first | refine hku ?_ | refine sw_seqk fun _ _ => ?_ | refine sw_reg ?_ | ((first | refine aops_k fun _ _ => ?_ | with_reducible refine rw_own ?_); simp [go_sem]; try go_ints) | refine sw_block ?_ | refine sw_t ?_ | refine sw_f ?_ | refine sw_e ?_ | refine ai ?_ | simp only [aops, thn, inB, ↓reduceIte, Nat.reduceEqDiff]))
 (refine ⟨.v _, k8, ?_⟩; simp [go_sem]; (repeat first | refine hku ?_ | refine sw_seqk fun _ _ => ?_ | refine sw_reg ?_ | ((first | refine aops_k fun _ _ => ?_ | with_reducible refine rw_own ?_); simp [go_sem]; try go_ints) | refine sw_block ?_ | refine sw_t ?_ | refine sw_f ?_ | refine sw_e ?_ | refine ai ?_ | simp only [aops, thn, inB, ↓reduceIte, Nat.reduceEqDiff]))
 (refine ⟨.v _, ints_v z1, ?_⟩; simp [go_sem]; (repeat first | refine hku ?_ | refine sw_seqk fun _ _ => ?_ | refine sw_reg ?_ | ((first | refine aops_k fun _ _ => ?_ | with_reducible refine rw_own ?_); simp [go_sem]; try go_ints) | refine sw_block ?_ | refine sw_t ?_ | refine sw_f ?_ | refine sw_e ?_ | refine ai ?_ | simp only [aops, thn, inB, ↓reduceIte, Nat.reduceEqDiff]))
 (refine ⟨.v _, k9, ?_⟩; simp [go_sem]; (repeat first | refine hku ?_ | refine sw_seqk fun _ _ => ?_ | refine sw_reg ?_ | ((first | refine aops_k fun _ _ => ?_ | with_reducible refine rw_own ?_); simp [go_sem]; try go_ints) | refine sw_block ?_ | refine sw_t ?_ | refine sw_f ?_ | refine sw_e ?_ | refine ai ?_ | simp only [aops, thn, inB, ↓reduceIte, Nat.reduceEqDiff]))
 (refine ⟨.v _, k10, ?_⟩; simp [go_sem]; (repeat first | refine hku ?_ | refine sw_seqk fun _ _ => ?_ | refine sw_reg ?_ | ((first | refine aops_k fun _ _ => ?_ | with_reducible refine rw_own ?_); simp [go_sem]; try go_ints) | refine sw_block ?_ | refine sw_t ?_ | refine sw_f ?_ | refine sw_e ?_ | refine ai ?_ | simp only [aops, thn, inB, ↓reduceIte, Nat.reduceEqDiff]))
 (refine ⟨.v _, ints_v z2, ?_⟩; simp [go_sem]; (repeat first | refine hku ?_ | refine sw_seqk fun _ _ => ?_ | refine sw_reg ?_ | ((first | refine aops_k fun _ _ => ?_ | with_reducible refine rw_own ?_); simp [go_sem]; try go_ints) | refine sw_block ?_ | refine sw_t ?_ | refine sw_f ?_ | refine sw_e ?_ | refine ai ?_ | simp only [aops, thn, inB, ↓reduceIte, Nat.reduceEqDiff]))
 (refine ⟨.v _, k11, ?_⟩; simp [go_sem]; (repeat first | refine hku ?_ | refine sw_seqk fun _ _ => ?_ | refine sw_reg ?_ | ((first | refine aops_k fun _ _ => ?_ | with_reducible refine rw_own ?_); simp [go_sem]; try go_ints) | refine sw_block ?_ | refine sw_t ?_ | refine sw_f ?_ | refine sw_e ?_ | refine ai ?_ | simp only [aops, thn, inB, ↓reduceIte, Nat.reduceEqDiff]))
 (refine ⟨.v _, k12, ?_⟩; simp [go_sem]; (repeat first | refine hku ?_ | refine sw_seqk fun _ _ => ?_ | refine sw_reg ?_ | ((first | refine aops_k fun _ _ => ?_ | with_reducible refine rw_own ?_); simp [go_sem]; try go_ints) | refine sw_block ?_ | refine sw_t ?_ | refine sw_f ?_ | refine sw_e ?_ | refine ai ?_ | simp only [aops, thn, inB, ↓reduceIte, Nat.reduceEqDiff]))
 (refine ⟨.v _, ints_v z3, ?_⟩; simp [go_sem]; (repeat first | refine hku ?_ | refine sw_seqk fun _ _ => ?_ | refine sw_reg ?_ | ((first | refine aops_k fun _ _ => ?_ | with_reducible refine rw_own ?_); simp [go_sem]; try go_ints) | refine sw_block ?_ | refine sw_t ?_ | refine sw_f ?_ | refine sw_e ?_ | refine ai ?_ | simp only [aops, thn, inB, ↓reduceIte, Nat.reduceEqDiff]))
 (refine ⟨.v _, k13, ?_⟩; simp [go_sem]; (repeat first | refine hku ?_ | refine sw_seqk fun _ _ => ?_ | refine sw_reg ?_ | ((first | refine aops_k fun _ _ => ?_ | with_reducible refine rw_own ?_); simp [go_sem]; try go_ints) | refine sw_block ?_ | refine sw_t ?_ | refine sw_f ?_ | refine sw_e ?_ | refine ai ?_ | simp only [aops, thn, inB, ↓reduceIte, Nat.reduceEqDiff]))
 (refine ⟨.v _, k14, ?_⟩; simp [go_sem]; (repeat first | refine hku ?_ | refine sw_seqk fun _ _ => ?_ | refine sw_reg ?_ | ((first | refine aops_k fun _ _ => ?_ | with_reducible refine rw_own ?_); simp [go_sem]; try go_ints) | refine sw_block ?_ | refine sw_t ?_ | refine sw_f ?_ | refine sw_e ?_ | refine ai ?_ | simp only [aops, thn, inB, ↓reduceIte, Nat.reduceEqDiff]))
 (refine ⟨.v _, ints_v z4, ?_⟩; simp [go_sem]; (repeat first | refine hku ?_ | refine sw_seqk fun _ _ => ?_ | refine sw_reg ?_ | ((first | refine aops_k fun _ _ => ?_ | with_reducible refine rw_own ?_); simp [go_sem]; try go_ints) | refine sw_block ?_ | refine sw_t ?_ | refine sw_f ?_ | refine sw_e ?_ | refine ai ?_ | simp only [aops, thn, inB, ↓reduceIte, Nat.reduceEqDiff]))
 simp [go_sem]

end Go.Proofs.YtpkfjbljhneenaaGreat
