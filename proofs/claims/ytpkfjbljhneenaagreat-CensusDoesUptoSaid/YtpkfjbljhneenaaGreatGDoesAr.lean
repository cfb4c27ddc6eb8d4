/- periods: joined. No conditions. -/
import Derived.Test.YtpkfjbljhneenaaGreatGDoesAp
import Derived.Test.YtpkfjbljhneenaaGreatGDoesAq
namespace Go.Proofs.YtpkfjbljhneenaaGreat
open Go.RowKit Go.Shelf

def jAt (f : Bool → Bool → Bool) (s o : Ps) (q : Nat) (c : Z) : List Bool := jrow f (rth s.rows (plc (zv s.cuts) c.v)) (rth o.rows (plc (zv o.cuts) c.v)) q
def jstep (f : Bool → Bool → Bool) (s o : Ps) (q : Nat) (cr : List Z × List (List Bool)) (c : Z) : List Z × List (List Bool) :=
 if jAt f s o q c = rth cr.2 (cr.2.length - 1) then cr else (cr.1 ++ [c], cr.2 ++ [jAt f s o q c])
def jfold (f : Bool → Bool → Bool) (s o : Ps) (q : Nat) (l : List Z) : List Z × List (List Bool) := l.foldl (jstep f s o q) ([], [jrow f (rth s.rows 0) (rth o.rows 0) q])

theorem jfold_pos (f : Bool → Bool → Bool) (s o : Ps) (q : Nat) (l : List Z) : 0 < (jfold f s o q l).2.length := by
 unfold jfold
 have : ∀ (l : List Z) (cr : List Z × List (List Bool)), 0 < cr.2.length → 0 < (l.foldl (jstep f s o q) cr).2.length := by
  intro l
  induction l with
  | nil => exact fun cr h => h
  | cons c l ih =>
   intro cr h; rw [List.foldl_cons]; refine ih _ ?_; unfold jstep
   split
   ·exact h
   ·simp
 exact this l _ (by simp)
def Out (w : World) (BC BR g q : Nat) (Zp : Nat → Prop) (vC vR : Value) (cuts : List Z) (rows : List (List Bool)) : Prop :=
 Box w g 94 #[.int .i64 (q : Nat), vC, vR] ∧ Own 2 EZ w Zp BC 25 vC cuts ∧ Own 1 ER w (fun b => BR ≤ b ∧ b ≠ g ∧ vC.ownBlock ≠ some b) BR 84 vR rows ∧
  vC.ownBlock ≠ some g ∧ vR.ownBlock ≠ some g ∧ (∀ b, vC.ownBlock = some b → vR.ownBlock ≠ some b)
theorem jfold_len (f : Bool → Bool → Bool) (s o : Ps) (q : Nat) (l : List Z) : (jfold f s o q l).1.length ≤ l.length ∧ (jfold f s o q l).2.length ≤ l.length + 1 := by
 unfold jfold
 have : ∀ (l : List Z) (cr : List Z × List (List Bool)), (l.foldl (jstep f s o q) cr).1.length ≤ cr.1.length + l.length ∧ (l.foldl (jstep f s o q) cr).2.length ≤ cr.2.length + l.length := by
  intro l
  induction l with
  | nil => exact fun cr => ⟨Nat.le_refl _, Nat.le_refl _⟩
  | cons c l ih =>
   intro cr; rw [List.foldl_cons]; have h := ih (jstep f s o q cr c)
   have h2 : (jstep f s o q cr c).1.length ≤ cr.1.length + 1 ∧ (jstep f s o q cr c).2.length ≤ cr.2.length + 1 := by
    unfold jstep
    split
    ·omega
    ·simp
   simp only [List.length_cons]
   omega
 have h := this l ([], [jrow f (rth s.rows 0) (rth o.rows 0) q]); simp only [List.length_cons, List.length_nil] at h
 omega
def JInv (U : Nat → Prop) (f : Bool → Bool → Bool) (s o : Ps) (q : Nat) (l : List Z) (n g10 g9 : Nat) (w5 T : World) (iv : Value) (wr : World) : Prop :=
 ∃ (k : Nat) (vC vR : Value), k ≤ l.length ∧ iv = .int .i64 k ∧ Out wr w5.heap.size T.heap.size g10 q (fun b => U b ∧ b < n) vC vR (jfold f s o q (l.take k)).1 (jfold f s o q (l.take k)).2 ∧
  (∀ b, vR.ownBlock = some b → b = g9 ∨ w5.heap.size ≤ b) ∧ Kp (fun b => b ≠ g10 ∧ b ≠ g9) w5 wr ∧ Ext T wr ∧ w5.heap.size ≤ wr.heap.size
theorem out_step1 {U : Nat → Prop} {v w' : World} {n5 nT g q n : Nat} {vC vR vC' : Value} {cs : List Z} {rs : List (List Bool)} (h : Out v n5 nT g q (fun b => U b ∧ b < n) vC vR cs rs) (hg : v.grownBy w' vC.ownBlock)
  (hv : vC'.ownBlock = vC.ownBlock ∨ ∀ b, vC'.ownBlock = some b → v.heap.size ≤ b) :
  Box w' g 94 #[.int .i64 (q : Nat), vC, vR] ∧ Own 1 ER w' (fun b => nT ≤ b ∧ b ≠ g ∧ vC'.ownBlock ≠ some b) nT 84 vR rs := by
 obtain ⟨hB, hC, hR, n1, n2, n3⟩ := h; refine ⟨hB.grown hg (fun e => n1 e.symm), ?_⟩
 have hR2 : Own 1 ER v (fun b => (nT ≤ b ∧ b ≠ g ∧ vC.ownBlock ≠ some b) ∧ b < v.heap.size) nT 84 vR rs := hR.widen fun b hb hl => ⟨hb, hl⟩
 refine (hR2.keep (fun b hb hl => hg.block b hl fun e => ?_)).widen fun b hb _ => ⟨hb.1.1, hb.1.2.1, fun e => ?_⟩
 ·rcases hb with hb | hb
  ·exact hb.1.2.2 e.symm
  ·exact n3 b e.symm hb
 ·rcases hv with hv | hv
  ·exact hb.1.2.2 (hv ▸ e)
  ·have := hv b e; have := hb.2
   omega
theorem out_step2 {U : Nat → Prop} {v w' w2 : World} {n5 nT g q n : Nat} {vC vR vC' vR' : Value} {cs cs' : List Z} {rs rs' : List (List Bool)} (h : Out v n5 nT g q (fun b => U b ∧ b < n) vC vR cs rs) (hn : n ≤ nT) (_hT : nT ≤ n5) (hg : v.grownBy w' vC.ownBlock) (hgv : g < v.heap.size)
  (hC' : Own 2 EZ w' (fun b => U b ∧ b < n) n5 25 vC' cs') (hv : vC'.ownBlock = vC.ownBlock ∨ ∀ b, vC'.ownBlock = some b → v.heap.size ≤ b)
  (hR' : Own 1 ER w2 (fun b => nT ≤ b ∧ b ≠ g ∧ vC'.ownBlock ≠ some b) nT 84 vR' rs') (hg2 : w'.grownBy w2 vR.ownBlock) (hv2 : vR'.ownBlock = vR.ownBlock ∨ vR'.ownBlock = some w'.heap.size) (hgn : n ≤ g) :
  Out ((w2.setCell ⟨g, 1, none⟩ vC').setCell ⟨g, 2, none⟩ vR') n5 nT g q (fun b => U b ∧ b < n) vC' vR' cs' rs' := by
 obtain ⟨hB, hC, hR, n1, n2, n3⟩ := h; have hs := hg.size
 have m1 : vC'.ownBlock ≠ some g := fun e => by
  rcases hv with hv | hv
  ·exact n1 (hv ▸ e)
  ·have := hv g e; omega
 have m2 : vR'.ownBlock ≠ some g := fun e => by
  rcases hv2 with hv2 | hv2
  ·exact n2 (hv2 ▸ e)
  ·rw [hv2] at e; injection e with e; omega
 have hB2 : Box w2 g 94 #[.int .i64 (q : Nat), vC, vR] := (hB.grown hg (fun e => n1 e.symm)).grown hg2 (fun e => n2 e.symm)
 have m3 : ∀ b, vC'.ownBlock = some b → vR.ownBlock ≠ some b := fun b e e2 => by
  rcases hv with hv | hv
  ·exact n3 b (hv ▸ e) e2
  ·have := hv b e; have := (hR.row b e2).2
   omega
 have hC2 : Own 2 EZ w2 (fun b => U b ∧ b < n) n5 25 vC' cs' := hC'.keep fun b hb hl => hg2.block b hl fun e => by
  rcases hb with hb | hb
  ·have := (hR.row b e.symm).1
   omega
  ·exact m3 b hb e.symm
 refine ⟨(hB2.set_ 1 _).set_ 2 _, hC2.keep (((Kp.refl _).setCell ?_ _).setCell ?_ _), hR'.keep (((Kp.refl _).setCell ?_ _).setCell ?_ _), m1, m2, fun b e e2 => ?_⟩
 ·rintro (hb | hb)
  ·simp only at hb; omega
  ·exact m1 hb
 ·rintro (hb | hb)
  ·simp only at hb; omega
  ·exact m1 hb
 ·rintro (hb | hb)
  ·exact hb.2.1 rfl
  ·exact m2 hb
 ·rintro (hb | hb)
  ·exact hb.2.1 rfl
  ·exact m2 hb
 ·rcases hv2 with hv2 | hv2
  ·exact m3 b e (hv2 ▸ e2)
  ·rw [hv2] at e2
   injection e2 with e2
   have := (hC'.row b e).2
   omega
theorem box_gr {w w1 : World} {g : Nat} {t : TypeId} {cs : Array Value} {row : Option Nat} (h : Box w g t cs) (hg : w.drew.grownBy w1 row) (hn : row ≠ some g) :
  ((∀ i, w1.cell? ⟨g, i, none⟩ = cs[i]?) ∧ (∀ i, w1.frozen? ⟨g, i, none⟩ = false)) ∧ g < w1.heap.size :=
 have h1 : Box w1 g t cs := Box.grown (w := w.drew) h hg fun e => hn e.symm
 ⟨h1.rules, h1.lt⟩
def phiOne (b : Nat) (t : TypeId) (cs : Array Value) : PhiT := ⟨fun v w => ∃ g, v = .slice (some ⟨g, 0, none⟩) 1 1 ∧ b ≤ g ∧ Box w g t cs, fun _ _ _ hx ⟨g, h1, h2, h3⟩ => ⟨g, h1, h2, h3.ext hx⟩⟩
theorem rst_one {row : Option Nat} {wr n b : Nat} {t : TypeId} {cs : Array Value} {L : List PhiT} (hr : ∀ k, row = some k → k < b) (h : RSt row wr (n + 1) L) : RSt row wr n (phiOne b t cs :: L) :=
 ⟨fun _ _ _ _ hg ⟨g, h1, h2, h3⟩ => ⟨g, h1, h2, h3.grown hg fun e => by have := hr g e.symm; omega⟩, h⟩
def phiCuts (U : Nat → Prop) (n n5 n4 : Nat) (vC : Value) (cs : List Z) : PhiT := ⟨fun v w => Own 2 EZ w (fun b => U b ∧ b < n) n5 25 v cs ∧ (v.ownBlock = vC.ownBlock ∨ ∀ b, v.ownBlock = some b → n4 ≤ b), fun _ _ _ hx ⟨h1, h2⟩ => ⟨h1.ext hx, h2⟩⟩

theorem Own.one {w : World} {Zp : Nat → Prop} {base : Nat} {t : TypeId} {A : Option Addr} {c : Nat} {r : List Bool} (hb : base ≤ w.heap.size) (h : Rl w (fun b => Zp b ∧ b ≠ w.heap.size) A c r) :
  Own 1 ER (w.alloc (.cells #[.slice A r.length c] t)) Zp base t (.slice (some ⟨w.heap.size, 0, none⟩) 1 1) [r] := by
 refine ⟨[.slice A r.length c], ⟨by simp, .inr ⟨w.heap.size, 1, #[.slice A r.length c], rfl, hb, heap_alloc_new w _, by simp, by simp [maxLen], by simp, by simp⟩⟩, Fl.one ⟨A, c, rfl, ?_⟩ rfl⟩
 exact Sl.widen (Sl.keep h ((Kp.refl w).alloc _)) (by omega) fun b hb _ => ⟨hb.1, fun e => hb.2 (by injection e with e; exact e.symm)⟩

set_option maxHeartbeats 800000 in
theorem whole2_c {A : Option Addr} {c : Nat} {r : List Bool} {w : World} {X : Nat → Prop} (h : Rl w X A c r) :
  Calls Tryz.prog 50 #[.slice A r.length c] w fun e w' => ∃ g g', e = .returned (.pointer (some ⟨g, 0, none⟩)) ∧ Box w' g 94 #[.int .i64 (r.length : Nat), .slice none 0 0, .slice (some ⟨g', 0, none⟩) 1 1] ∧
   Own 1 ER w' (fun b => X b ∧ b < w.heap.size) w.heap.size 84 (.slice (some ⟨g', 0, none⟩) 1 1) [r] ∧ g' ≠ g ∧ w.heap.size ≤ g ∧ w.heap.size ≤ g' ∧ g < w'.heap.size ∧ g' < w'.heap.size ∧ Ext w w' := by
 have hm := h.2.1; have hlc := h.1
 simp only [maxLen] at hm
 go_enter Tryz.func50, Tryz.ntmps50
 go_wp2_with fail
 go_ret
 refine ⟨_, _, rfl, Box.new_at _ _ _ (by simp only [wsz]), (Own.one (Nat.le_refl _) (Sl.widen h (by omega) fun b hb hl => ⟨⟨hb, hl⟩, by omega⟩)).ext ((Ext.refl _).alloc _), by omega, by omega, by omega, by simp only [wsz]; omega, by simp only [wsz]; omega, xt⟩

set_option maxRecDepth 100000 in
set_option maxHeartbeats 3200000 in
theorem joined_c {g h fi N : Nat} {s o : Ps} {w : World} {X Y : Nat → Prop} {f : Bool → Bool → Bool} (hs : SetV w X g s) (ho : SetV w Y h o) (hsk : s.ok N) (hok : o.ok N)
  (eg : ∀ args w, (callFunc fi args).run Tryz.prog w = .ok (.enter fi args) w) (hf : ∀ x y W, Calls Tryz.prog fi #[.bool x, .bool y] W fun e w' => e = .returned (.bool (f x y)) ∧ Ext W w') (hq : Nat.lcm s.per o.per ≤ 4096) :
  Calls Tryz.prog 64 #[.pointer (some ⟨g, 0, none⟩), .pointer (some ⟨h, 0, none⟩), .func (.func fi) #[] #[]] w fun e w' =>
   ∃ r l, Mrg s o l ∧ e = .returned (.tuple #[.pointer (some ⟨r, 0, none⟩), .int .i64 0]) ∧ SetV w' (fun b => X b ∨ Y b ∨ w.heap.size ≤ b) r ⟨Nat.lcm s.per o.per, (jfold f s o (Nat.lcm s.per o.per) l).1, (jfold f s o (Nat.lcm s.per o.per) l).2⟩ ∧ Ext w w' := by
 have p1 := hsk.per0; have p2 := hok.per0
 have hmade := fun (V : World) (hV : Ext w V) => made_set_c (l := [(g, s), (h, o)]) (w := V.alloc (.cells #[.pointer (some ⟨g, 0, none⟩), .pointer (some ⟨h, 0, none⟩)] 33)) (g := V.heap.size) (ty := 33) (Box.new_at _ _ _ rfl) (fun p hp => by
  simp only [List.mem_cons, List.not_mem_nil, or_false] at hp
  rcases hp with rfl | rfl
  ·exact ⟨X, (hs.ext hV).ext ((Ext.refl V).alloc _), by have := hsk.rows; show 0 < s.rows.length; omega⟩
  ·exact ⟨Y, (ho.ext hV).ext ((Ext.refl V).alloc _), by have := hok.rows; show 0 < o.rows.length; omega⟩) (by simp) 2 rfl
 have hcom := fun (V : World) => common_c s.per o.per p1 p2 hsk.per1 hok.per1 V
 obtain ⟨q, hqe⟩ : ∃ q, q = Nat.lcm s.per o.per := ⟨_, rfl⟩; rw [← hqe] at hq hcom ⊢; have d1 : Hid (s.per ∣ q) := Lib.hid (by rw [hqe]; exact Nat.dvd_lcm_left _ _); have d2 : Hid (o.per ∣ q) := Lib.hid (by rw [hqe]; exact Nat.dvd_lcm_right _ _); clear hqe; obtain ⟨cA, c, rA, d, hb, hX, hc, hr⟩ := id hs; obtain ⟨cB, c', rB, d', hb', hX', hc', hr'⟩ := id ho
 have bgr := hb.rules; have bgl := hb.lt
 have bhr := hb'.rules; have bhl := hb'.lt
 clear hc hr hc' hr' hX hX'
 go_enter Tryz.func64, Tryz.ntmps64
 go_upto_region 1 with fail
 refine wp_named fun W hW => ?_
 have b3 : Box W w.heap.size 33 #[.pointer (some ⟨g, 0, none⟩)] := by rw [hW]; exact bxt
 have b4 : Box W (w.heap.size + 1) 33 #[.pointer (some ⟨h, 0, none⟩)] := by rw [hW]; exact bxt
 have b5 : Box W (w.heap.size + 1 + 1) 96 #[.func (.func fi) #[] #[]] := by rw [hW]; exact bxt
 have hE : Ext w W := by rw [hW]; exact xt
 have hWs : W.heap.size = w.heap.size + 1 + 1 + 1 := by rw [hW]; simp only [wsz]
 clear hW; have hm := hmade W hE
 have b3r := b3.rules; have b3l := b3.lt
 have b4r := b4.rules; have b4l := b4.lt
 have HWs := Lib.hid hWs; clear hmade hWs bgr bhr
 go_wp2_with fail
 refine hm.mono ?_; rintro e w1 ⟨rfl, hx1⟩; have hE1 : Ext w w1 := hE.trans (Ext.trans ((Ext.refl W).alloc _) hx1); have c3 := (b3.alloc (.cells #[.pointer (some ⟨g, 0, none⟩), .pointer (some ⟨h, 0, none⟩)] 33)).ext hx1; have c4 := (b4.alloc (.cells #[.pointer (some ⟨g, 0, none⟩), .pointer (some ⟨h, 0, none⟩)] 33)).ext hx1; have c5 := (b5.alloc (.cells #[.pointer (some ⟨g, 0, none⟩), .pointer (some ⟨h, 0, none⟩)] 33)).ext hx1
 have b3r := c3.rules; have b3l := c3.lt
 have b4r := c4.rules; have b4l := c4.lt
 have bg := hb.ext hE1; have bh := hb'.ext hE1
 have bgr := bg.rules; have bgl := bg.lt
 have bhr := bh.rules; have bhl := bh.lt
 clear b3 b4 b5 hb hb' hm
 go_wp2_with fail
 refine wp_region_free [(0, 19, []), (1, 20, [(0, 19)]), (2, 21, [(1, 20)]), (3, 22, [(2, 21)]), (4, 23, []), (5, 24, [(4, 23)]), (6, 25, [(5, 24)]), (7, 26, [(6, 25)]), (8, 27, [(3, 22), (7, 26)]), (9, 8, [])] [10] [19, 20, 21, 22, 23, 24, 25, 26, 27, 8] [9] [] [phiEq (.pointer (some ⟨g, 0, none⟩)), phiEq (.pointer (some ⟨g, 0, none⟩)), phiEq (.pointer (some ⟨g, 0, none⟩)), phiEq (.int .i64 (s.per : Nat)), phiEq (.pointer (some ⟨h, 0, none⟩)), phiEq (.pointer (some ⟨h, 0, none⟩)), phiEq (.pointer (some ⟨h, 0, none⟩)), phiEq (.int .i64 (o.per : Nat)),
  phiEq (.int .i64 (q : Nat)), phiBox w1.heap.size 3 #[.int .i64 0]] rfl (by kernel_rfl) (by intro _ _ d _ _ h; cases d <;> exact h) (by kernel_rfl) (by kernel_rfl) ?_ ?_
 ·(refine ps_eq rfl rfl rfl rfl rfl rfl ?_ ?_; focus exact tk0)
  (refine ps_eq rfl rfl rfl rfl rfl rfl ?_ ?_; focus exact tk0)
  (refine ps_eq rfl rfl rfl rfl rfl rfl ?_ ?_; focus exact tk0)
  (refine ps_eq rfl rfl rfl rfl rfl rfl ?_ ?_; focus exact tk0)
  (refine ps_eq rfl rfl rfl rfl rfl rfl ?_ ?_; focus exact tk0)
  (refine ps_eq rfl rfl rfl rfl rfl rfl ?_ ?_; focus exact tk0)
  (refine ps_eq rfl rfl rfl rfl rfl rfl ?_ ?_; focus exact tk0)
  (refine ps_eq rfl rfl rfl rfl rfl rfl ?_ ?_; focus exact tk0)
  (refine ps_loud rfl rfl rfl rfl rfl (fun f w1 hx hd K hK => ?_) ?_)
  ·(have hc' := hx.cells.1; (try simp only [wcd] at hc'); (dsimp only [PhiDeps, phiAt, phiEq, phiZ, phiAny, phiBox] at hd); simp only [fillA, Act.put, List.setIfInBounds_toArray, List.set_cons_zero, List.set_cons_succ] at hK; (simp only [fillA]; (try simp only [pt])); (try simp only [hd] at hK ⊢); go_simp)
   refine (hcom _).mono ?_; rintro e w2 ⟨rfl, hx2⟩
   (refine hK _ _ xt ?_; dsimp only [phiAt, phiEq, phiZ, phiAny, phiBox])
  (refine ps_alloc rfl rfl rfl rfl rfl ?_ (by repeat (first | exact ab_nil | refine ab_cons rfl ?_)) ?_ ?_; (focus (first | omega | (simp only [wsz]; done) | (simp only [wsz]; omega))); (focus (intro f w1; (simp only [fillA]; (try simp only [pt])); go_simp; try (with_reducible rfl))))
  exact ps_nil
 ·intro fv w2 hx2 hall hne
  (dsimp only [PhiAll, phiAt, phiEq, phiZ, phiAny, phiBox] at hall)
  obtain ⟨v19, v20, v21, v22, v23, v24, v25, v26, v27, ⟨g8, v8, hg8, hB8⟩, -⟩ := hall; clear hne
  have B8r := hB8.rules; have B8l := hB8.lt
  have hx2' : Ext w1 w2 := (Ext.refl w1).drew.trans hx2; have hE2 := hE1.trans hx2'; clear b3r b4r bgr bhr
  (simp only [fillA]; (try simp only [pt]))
  simp only [v19, v20, v21, v22, v23, v24, v25, v26, v27, v8]
  (refine sh_late rfl rfl fun K hK => ?_; go_simp; refine hK _ _ ?_; clear hK K)
  refine sh_end ?_
  refine x_named fun T hT => ?_
  have hET : Ext w1 T := by rw [hT]; exact hx2'.setCell hg8 _
  have b8 : Box T g8 3 #[.int .i64 (q : Nat)] := by rw [hT]; exact hB8.set_ 0 _
  clear hT B8r B8l hB8 hx2 hx2' v19 v20 v21 v22 v23 v24 v25 v26 v27 v8; have hEwT := hE1.trans hET
  have b3 := c3.ext hET; have b4 := c4.ext hET; have b5 := c5.ext hET
  have b8r := b8.rules; have b8l := b8.lt
  have hsT := hs.ext hEwT; have hoT := ho.ext hEwT
  have hlen1 : ∀ r ∈ s.rows, r.length = s.per := hsk.row; have hlen2 : ∀ r ∈ o.rows, r.length = o.per := hok.row
  have hrw1 : ∀ i, i < s.rows.length → (rth s.rows i).length = s.per := fun i hi => by rw [rth_eq _ _ hi]; exact hlen1 _ (List.getElem_mem _)
  have hrw2 : ∀ i, i < o.rows.length → (rth o.rows i).length = o.per := fun i hi => by rw [rth_eq _ _ hi]; exact hlen2 _ (List.getElem_mem _)
  have hr1 := hsk.rows; have hr2 := hok.rows
  have hjr := fun (V : World) (hV : Ext T V) (i k : Nat) (hi : i < s.rows.length) (hk : k < o.rows.length) => jrow_c (i := i) (k := k) (q := q) (f := f) (hsT.ext hV) (hoT.ext hV) (b3.ext hV) (b8.ext hV) (b4.ext hV) (b5.ext hV) eg hf hi hk (by rw [hrw1 i hi]; exact p1) (by rw [hrw2 k hk]; exact p2) (by rw [hrw1 i hi]; exact d1.out) (by rw [hrw2 k hk]; exact d2.out) (by omega)
  have HJ := Lib.hid hjr; have hj0 := hjr T (Ext.refl T) 0 0 (by omega) (by omega); clear hjr hf hcom eg
  have q4 : ¬ (4096 : Int) < (q : Int) := by omega
  have eg2 : ∀ args w, (callFunc 98 args).run Tryz.prog w = .ok (.enter 98 args) w := enters_of Tryz.func98 (by kernel_rfl) rfl
  go_wp2_with (first | (go_at_fn 98; refine hj0.mono ?_; rintro e w3 ⟨R3, rfl, hR3, hx3⟩) | fail)
  clear hj0
  have hw2 := fun (h : Rl w3 (T.heap.size ≤ ·) R3 q (jrow f (rth s.rows 0) (rth o.rows 0) q)) => whole2_c h
  rw [jrow_len] at hw2; refine (hw2 hR3).mono ?_; clear hw2; rintro e w4 ⟨g10, g9, rfl, hB10, hO9, hne, hg10, hg9, hl10, hl9, hx4⟩
  have hs3 := hx3.size; have hs4 := hx4.size
  have hx34 := hx3.trans hx4; have hmg := merged_c (((hs.widen (Y := fun b => X b ∧ b < w.heap.size) fun b hb hl => ⟨hb, hl⟩).ext hEwT).ext hx34) (((ho.widen (Y := fun b => Y b ∧ b < w.heap.size) fun b hb hl => ⟨hb, hl⟩).ext hEwT).ext hx34) hsk.len hok.len
  have b3r := (b3.ext hx34).rules; have b3l := (b3.ext hx34).lt
  have b4r := (b4.ext hx34).rules; have b4l := (b4.ext hx34).lt
  go_wp2_with fail
  refine hmg.mono ?_; clear hmg; rintro e w5 ⟨vL, l, rfl, hOL, hM, hx5⟩; obtain ⟨AL, cL, rfl, hL⟩ := Own.sl hOL (by omega) (X := fun _ => True) (fun _ _ => trivial)
  have hLc := hL.1; have hLm := hL.2.1
  simp only [maxLen] at hLm; have hM4 := hM.2.2.2
  have hsk4 := hsk.len; have hok4 := hok.len
  have hll : l.length ≤ 2097152 := by omega
  have hwT := hEwT.size
  have hOL := hOL.widen (Z' := (fun b => (X b ∨ Y b) ∧ b < w.heap.size)) fun b hb _ => ⟨hb.1.imp (·.1) (·.1), hb.1.elim (·.2) (·.2)⟩
  have hs5 := hx5.size; have hx45 := hx34.trans hx5
  have hOut0 : Out w5 w5.heap.size T.heap.size g10 q (fun b => (X b ∨ Y b) ∧ b < w.heap.size) (.slice none 0 0) (.slice (some ⟨g9, 0, none⟩) 1 1) [] [jrow f (rth s.rows 0) (rth o.rows 0) q] :=
   ⟨hB10.ext hx5, Own.nil _ _ _ _, ((hO9.ext hx5).lower hs3).widen fun b hb _ => ⟨hb.1, by omega, by simp [Value.ownBlock]⟩, by simp [Value.ownBlock], by simp [Value.ownBlock]; omega, by simp [Value.ownBlock]⟩
  have HM := Lib.hid hM; clear hO9 hB10 b3r b4r b8r hL hM hM4 hsk4 hok4
  go_wp2_with fail
  go_loopw [38] (fun iv wr => JInv (fun b => X b ∨ Y b) f s o q l w.heap.size g10 g9 w5 T iv wr) (fun iv _ => l.length - (intOf iv).toNat)
  case atStart => exact ⟨0, _, _, Nat.zero_le _, rfl, hOut0, fun b hb => .inl (by injection hb with hb; exact hb.symm), Kp.refl _, hx45, Nat.le_refl _⟩
  case round =>
   obtain ⟨k, vC, vR, hk, rfl, hOut, hvR, hkp, hxT, hws⟩ := hrel
   by_cases hlt : k < l.length
   ·obtain ⟨hBo, hOC, hOR, n1, n2, n3⟩ := hOut
    have hOLk := hOL.keep (w' := wr) (hkp.imp fun b hb => by
     rcases hb with hb | hb
     ·exact ⟨by omega, by omega⟩
     ·have := (hOL.row b hb).1
      exact ⟨by omega, by omega⟩)
    obtain ⟨AL', cL', e1, hL'⟩ := Own.sl hOLk (by omega) (X := fun _ => True) (fun _ _ => trivial)
    injection e1 with e1 e1' e2
    subst e1; subst e2
    clear e1'; obtain ⟨gL, oL, _, _, rfl, _⟩ := Zs.at_ hL' hlt; obtain ⟨rfl, -, hgLb, hgLl⟩ := hOLk.adr; clear hL'; obtain ⟨B12, d12', q0, q1, hN⟩ := zown_at hOLk hlt
    have kl : (k : Int) < (l.length : Int) := by omega
    obtain ⟨z, hz⟩ : ∃ z, z = zth l k := ⟨_, rfl⟩
    have hfold : Hid (jfold f s o q (l.take (k + 1)) = jstep f s o q (jfold f s o q (l.take k)) z) := Lib.hid (by
     rw [take_zth l k hlt, jfold, List.foldl_append, hz]; rfl)
    rw [← hz] at q0 q1 hN; clear hz; obtain ⟨cs, hcs⟩ : ∃ cs, cs = (jfold f s o q (l.take k)).1 := ⟨_, rfl⟩; obtain ⟨rs, hrs⟩ : ∃ rs, rs = (jfold f s o q (l.take k)).2 := ⟨_, rfl⟩; rw [← hcs] at hOC; rw [← hrs] at hOR
    have HC := Lib.hid hcs; have HR := Lib.hid hrs
    clear hcs hrs; have hgLw : gL < wr.heap.size := hgLl; obtain ⟨i1, hi1⟩ : ∃ i1, i1 = plc (zv s.cuts) z.v := ⟨_, rfl⟩; obtain ⟨i2, hi2⟩ : ∃ i2, i2 = plc (zv o.cuts) z.v := ⟨_, rfl⟩
    have hj1 := plc_le (zv s.cuts) z.v; have hj2 := plc_le (zv o.cuts) z.v
    rw [zv_len] at hj1 hj2
    rw [← hi1] at hj1; rw [← hi2] at hj2
    have hat1 := fun (V : World) (hV : Ext wr V) => at_set_c (hsT.ext (hxT.trans hV)) (⟨_, _, rfl, hN.ext hV⟩ : Zi V (fun b => ((X b ∨ Y b) ∧ b < w.heap.size) ∧ b ≠ gL) (.agg #[.bool z.neg, .slice B12 z.mag.length d12']) z) hsk.ris (by have := hsk.len; omega)
    have hat2 := fun (V : World) (hV : Ext wr V) => at_set_c (hoT.ext (hxT.trans hV)) (⟨_, _, rfl, hN.ext hV⟩ : Zi V (fun b => ((X b ∨ Y b) ∧ b < w.heap.size) ∧ b ≠ gL) (.agg #[.bool z.neg, .slice B12 z.mag.length d12']) z) hok.ris (by have := hok.len; omega)
    rw [← hi1] at hat1; rw [← hi2] at hat2
    have hcl := fun (V : World) (hV : Ext wr V) => HJ.out V (hxT.trans hV) i1 i2 (by omega) (by omega)
    obtain ⟨rn, hrn⟩ : ∃ rn, rn = jrow f (rth s.rows i1) (rth o.rows i2) q := ⟨_, rfl⟩
    have hrl : rn.length = q := by rw [hrn, jrow_len]
    rw [← hrn] at hcl; have hjat : Hid (jAt f s o q z = rn) := Lib.hid (by rw [jAt, ← hi1, ← hi2, hrn]); have HRL := Lib.hid hrl; clear hrn hi1 hi2 hrl
    have b3x := (b3.ext hxT).rules; have b3y := (b3.ext hxT).lt
    have b4x := (b4.ext hxT).rules; have b4y := (b4.ext hxT).lt
    go_upto_region 11 with fail
    refine wp_named fun V hV => ?_
    have b12 : Box V wr.heap.size 25 #[.bool z.neg, .slice B12 z.mag.length d12'] := by rw [hV]; exact bxt
    have hxV : Ext wr V := by rw [hV]; exact xt
    have hVs : wr.heap.size < V.heap.size := b12.lt; clear hV b3x b4x; have hTV := hxT.trans hxV
    have b3x := (b3.ext hTV).rules; have b3y := (b3.ext hTV).lt
    have b4x := (b4.ext hTV).rules; have b4y := (b4.ext hTV).lt
    have b12r := b12.rules; have b12l := b12.lt
    refine wp_region_seq 8 [(0, true), (1, true), (2, true), (4, true), (5, true), (3, false), (6, false), (7, false), (8, false)] rfl (by kernel_rfl) (by intro _ _ d _ _ h; cases d <;> exact h) ?_
    (repeat (refine sq_take (v := ?_) rfl rfl ?_ ?_; rotate_left; exact tk2; (try simp only [pt])))
    (refine sq_loud rfl rfl fun K hK => ?_; go_simp)
    refine (hat1 _ (hxV.trans xt)).mono ?_; rintro e v1 ⟨rfl, hy1⟩
    (refine hK _ _ xt ?_; clear hK K; (try simp only [pt]))
    (repeat (refine sq_take (v := ?_) rfl rfl ?_ ?_; rotate_left; exact tk2; (try simp only [pt])))
    (refine sq_loud rfl rfl fun K hK => ?_; go_simp)
    refine (hat2 _ (hxV.trans (Ext.trans (show Ext V v1 from xt) xt))).mono ?_; rintro e v2 ⟨rfl, hy2⟩
    (refine hK _ _ xt ?_; clear hK K; (try simp only [pt]))
    (repeat (refine sq_take (v := ?_) rfl rfl ?_ ?_; rotate_left; exact tk2; (try simp only [pt])))
    (refine sq_loud rfl rfl fun K hK => ?_; go_simp)
    have hy02 : Ext V v2 := Ext.trans (show Ext V v1 from xt) hy2; refine (hcl _ (hxV.trans hy02)).mono ?_; rintro e v3 ⟨R, rfl, hR, hy3⟩; have hy03 := hy02.trans hy3; have hE3 := hxV.trans hy03; have hT3 := hxT.trans hE3
    (refine hK _ _ xt ?_; clear hK K; (try simp only [pt]))
    (refine sq_last rfl rfl fun K hK => ?_; go_simp; refine hK _ _ ?_; clear hK K)
    have c12 := b12.ext hy03; have cBo := hBo.ext hE3; have hOC3 := hOC.ext hE3; have hOR3 := hOR.ext hE3
    have hr0 : 0 < rs.length := by rw [HR.out]; exact jfold_pos _ _ _ _ _
    obtain ⟨A2, c2, rfl, hRs⟩ := Own.sl hOR3 (by omega) (X := fun _ => True) (fun _ _ => trivial); obtain ⟨m, hm⟩ : ∃ m, m = rs.length - 1 := ⟨_, rfl⟩
    have hml : m < rs.length := by omega
    obtain ⟨bR, oR, R2, d2', rfl, -, hcR, hRl2⟩ := Rs.at_ hRs hml; have hbR := World.block_lt_of_cell? _ _ hcR
    have heq := fun (U : World) (hU : Ext v3 U) => equal_c (Sl.keep hR (.of_ext hU)) (Sl.keep hRl2 (.of_ext hU))
    rw [HRL.out] at heq; obtain ⟨bb, hbb⟩ : ∃ bb, bb = decide (rn = rth rs m) := ⟨_, rfl⟩; simp only [← hbb] at heq
    have HB := Lib.hid hbb; clear hbb
    have im : (rs.length : Int) - 1 = (m : Int) := by omega
    have imw := w64n (n := m) (by have := hRs.1; have := hRs.2.1; simp only [maxLen] at *; omega)
    have iml : (m : Int) < (rs.length : Int) := by omega
    have cBr := cBo.rules; have cBl := cBo.lt
    have c12r := c12.rules; have c12l := c12.lt
    have HMe := Lib.hid hm; clear hat1 hat2 hcl b3x b4x b12r hm
    go_wp2_with fail
    refine wp_region_seq 15 [(0, true), (1, true), (2, true), (3, true), (4, true), (5, true), (6, true), (7, true), (8, true), (9, true), (10, true), (11, true), (12, true), (13, false), (14, true)] rfl (by kernel_rfl) (by intro _ _ d _ _ h; cases d <;> exact h) ?_
    (repeat (refine sq_take (v := ?_) rfl rfl ?_ ?_; rotate_left; exact tk2; (try simp only [pt])))
    (refine sq_loud rfl rfl fun K hK => ?_; go_simp)
    refine (heq _ xt).mono ?_; rintro e v4 ⟨rfl, hy4⟩; have hy34 : Ext v3 v4 := xt
    (refine hK _ _ xt ?_; clear hK K; (try simp only [pt]))
    (repeat (refine sq_take (v := ?_) rfl rfl ?_ ?_; rotate_left; exact tk2; (try simp only [pt])))
    refine sq_done ?_; have hE4 := hE3.trans hy34
    cases bb
    ·have hO4 : Out v4 w5.heap.size T.heap.size g10 q (fun b => (X b ∨ Y b) ∧ b < w.heap.size) vC (.slice (some ⟨bR, oR, none⟩) rs.length c2) cs rs := ⟨cBo.ext hy34, hOC3.ext hy34, hOR3.ext hy34, n1, n2, n3⟩; obtain ⟨vR, hvRe⟩ : ∃ vR, vR = Value.slice (some ⟨bR, oR, none⟩) rs.length c2 := ⟨_, rfl⟩; have d12 := c12.ext hy34; have hN4 := hN.ext hE4; have hR4 := Sl.keep hR (.of_ext hy34); have hrow := hO4.2.1.row; have hrowR := hO4.2.2.1.row
     have e1r := hO4.1.rules; have e1l := hO4.1.lt
     have e2r := d12.rules; have e2l := d12.lt
     have hs34 := hE4.size; rw [← hvRe] at hO4 hvR hrowR n2 n3 e1r ⊢
     have hcsl : cs.length ≤ 2097152 := by have := (jfold_len f s o q (l.take k)).1; rw [← HC.out, List.length_take] at this; omega
     have hrsl : rs.length ≤ 2097153 := by have := (jfold_len f s o q (l.take k)).2; rw [← HR.out, List.length_take] at this; omega
     have hn5 : w.heap.size ≤ w5.heap.size := by omega
     have h54 : w5.heap.size ≤ v4.heap.size := by omega
     have hvn : ∀ k, vC.ownBlock = some k → k < v4.heap.size := fun k hk => (hrow k hk).2
     have hnot12 : vC.ownBlock ≠ some wr.heap.size := fun e => by
      have := (hOC.row _ e).2
      omega
     clear c12r cBr
     go_wp2_with fail
     refine wp_region_freew [(0, 65, []), (1, 66, []), (2, 67, []), (3, 68, [(2, 67)]), (4, 69, [(3, 68)]), (5, 70, [(4, 69)]), (6, 71, []), (7, 72, [(6, 71)]), (8, 73, [(5, 70), (7, 72)]), (9, 74, []), (10, 75, [(9, 74)]), (11, 76, [(10, 75)]), (12, 77, [(11, 76)]), (13, 78, []), (14, 79, [(13, 78)])] [15, 16, 17, 18, 19, 20, 21] [65, 66, 67, 68, 69, 70, 71, 72, 73, 74, 75, 76, 77, 78, 79] [] [0, 1] 8 vC.ownBlock [phiEq (.pointer (some ⟨g10, 0, none⟩)), phiEq (.pointer (some ⟨g10, 0, none⟩)), phiEq (.pointer (some ⟨g10, 0, none⟩)), phiEq (.pointer (some ⟨g10, 0, none⟩)), phiEq (.pointer (some ⟨g10, 1, none⟩)), phiEq vC, phiEq (.agg #[.bool z.neg, .slice B12 z.mag.length d12']),
      phiOne v4.heap.size 25 #[.bool z.neg, .slice B12 z.mag.length d12'], phiCuts (fun b => X b ∨ Y b) w.heap.size w5.heap.size v4.heap.size vC (cs ++ [z]), phiEq (.pointer (some ⟨g10, 0, none⟩)), phiEq (.pointer (some ⟨g10, 0, none⟩)), phiEq (.pointer (some ⟨g10, 2, none⟩)), phiEq vR, phiEq (.slice R q q), phiOne v4.heap.size 84 #[.slice R q q]]
      rfl (by kernel_rfl) (by intro _ _ d _ _ h; cases d <;> exact h) (by kernel_rfl) (by kernel_rfl) (by
       repeat (first | exact rst_nil | refine rst_eq ?_ | refine rst_one hvn ?_ | refine rst_wr ?_)) ?_ ?_
     ·try clear hR4
      try clear h10
      try clear hl10
      try clear hlt
      try clear hll
      try clear hs5
      try clear hwT
      try clear hws
      try clear c12l
      try clear cBl
      try clear hvR
      try clear HRL
      try clear hvRe
      try clear hrowR
      try clear e2l
      try clear e2r
      try clear e1l
      try clear e1r
      try clear n3
      try clear n2
      try clear hOR
      try clear hOC
      try clear hR
      try clear hN
      try clear hEwT
      try clear hx5
      try clear hx45
      try clear hx34
      try clear hx4
      try clear hx3
      try clear hE4
      try clear hy34
      try clear hy4
      try clear HB
      try clear HMe
      try clear iml
      try clear imw
      try clear im
      try clear heq
      try clear hbR
      try clear hRl2
      try clear hcR
      try clear hml
      try clear hRs
      try clear hr0
      try clear hOR3
      try clear hOC3
      try clear cBo
      try clear c12
      try clear hT3
      try clear hE3
      try clear hy03
      try clear hy3
      try clear hy02
      try clear hy2
      try clear hy1
      try clear hVs
      try clear hxV
      try clear hTV
      try clear hjat
      try clear HR
      try clear HC
      try clear hfold
      try clear hxT
      try clear hkp
      try clear hk
      try clear HM
      try clear hcl
      try clear hat2
      try clear hat1
      try clear b4x
      try clear b3x
      try clear b12l
      try clear b12
      try clear b4y
      try clear b3y
      try clear hj2
      try clear hj1
      try clear hgLw
      try clear q0
      try clear q1
      try clear kl
      try clear hgLl
      try clear hgLb
      try clear hOLk
      try clear hOL
      try clear hOut0
      try clear hLm
      try clear hLc
      try clear hs4
      try clear hs3
      try clear hl9
      try clear hg9
      try clear hg10
      try clear hne
      try clear q4
      try clear hR3
      try clear eg2
      try clear HJ
      try clear hr2
      try clear hr1
      try clear hrw2
      try clear hrw1
      try clear hlen2
      try clear hlen1
      try clear hoT
      try clear hsT
      try clear b8l
      try clear b5
      try clear b4
      try clear b3
      try clear b8
      try clear hET
      try clear hE2
      try clear hg8
      try clear bhl
      try clear bgl
      try clear bh
      try clear bg
      try clear c5
      try clear c4
      try clear c3
      try clear hE1
      try clear hx1
      try clear HWs
      try clear b4l
      try clear b4r
      try clear b3l
      try clear b3r
      try clear hE
      try clear d2
      try clear d1
      try clear hq
      try clear p2
      try clear p1
      try clear hok
      try clear hsk
      try clear ho
      try clear hs
      (refine pw_peq rfl rfl rfl rfl rfl rfl ?_ ?_; focus (intro f w1 hx hd w2; (dsimp only [PhiDeps, PhiAll, phiAt, phiEq, phiZ, phiAny, phiBox, phiRow, phiRows, phiZs, phiStr, phiSet] at hd); (simp only [fillA]; (try simp only [pt])); (try simp only [hd]); go_simp; (first | done | with_reducible rfl)))
      (refine pw_peq rfl rfl rfl rfl rfl rfl ?_ ?_; focus (intro f w1 hx hd w2; (dsimp only [PhiDeps, PhiAll, phiAt, phiEq, phiZ, phiAny, phiBox, phiRow, phiRows, phiZs, phiStr, phiSet] at hd); (simp only [fillA]; (try simp only [pt])); (try simp only [hd]); go_simp; (first | done | with_reducible rfl)))
      (refine pw_eq rfl rfl rfl rfl rfl rfl ?_ ?_; focus exact tk1)
      (refine pw_eq rfl rfl rfl rfl rfl rfl ?_ ?_; focus exact tk1)
      (refine pw_eq rfl rfl rfl rfl rfl rfl ?_ ?_; focus exact tk1)
      (refine pw_eq rfl rfl rfl rfl rfl rfl ?_ ?_; focus (intro f w1 hx hd; obtain ⟨e1, e2⟩ := box_gr hO4.1 hx n1; (dsimp only [PhiDeps, PhiAll, phiAt, phiEq, phiZ, phiAny, phiBox, phiRow, phiRows, phiZs, phiStr, phiSet] at hd); (simp only [fillA]; (try simp only [pt])); (try simp only [hd]); go_simp; (first | done | with_reducible rfl)))
      (refine pw_eq rfl rfl rfl rfl rfl rfl ?_ ?_; focus (intro f w1 hx hd; obtain ⟨e1, e2⟩ := box_gr d12 hx hnot12; (dsimp only [PhiDeps, PhiAll, phiAt, phiEq, phiZ, phiAny, phiBox, phiRow, phiRows, phiZs, phiStr, phiSet] at hd); (simp only [fillA]; (try simp only [pt])); (try simp only [hd]); go_simp; (first | done | with_reducible rfl)))
      (refine pw_loud rfl rfl rfl rfl rfl (fun f w1 hx hd K hK => ?_) ?_)
      ·(simp only [fillA, Act.put, List.setIfInBounds_toArray, List.set_cons_zero, List.set_cons_succ] at hK; (simp only [fillA]; (try simp only [pt])); dsimp only [PhiDeps, PhiAll, phiAt, phiEq, phiZ, phiAny, phiBox, phiRow, phiRows, phiZs, phiStr, phiSet, phiOne, phiCuts] at hd)
       have e6 := hd.1; have hs1 := hx.size; simp only [wsz] at hs1
       ((try simp only [e6] at hK ⊢); go_simp)
       refine hK _ _ xt ?_; exact ⟨_, rfl, hs1, Box.new _ _ _⟩
      (refine pw_write rfl rfl rfl rfl rfl (fun f w1 hx hd K hK => ?_) ?_)
      ·(simp only [fillA, Act.put, List.setIfInBounds_toArray, List.set_cons_zero, List.set_cons_succ] at hK; (simp only [fillA]; (try simp only [pt])); dsimp only [PhiDeps, PhiAll, phiAt, phiEq, phiZ, phiAny, phiBox, phiRow, phiRows, phiZs, phiStr, phiSet, phiOne, phiCuts] at hd)
       obtain ⟨e5, ⟨gb, e7, hgb, hBb⟩, -⟩ := hd; simp only [e5, e7] at hK ⊢; have hx' : Ext v4 w1 := (Ext.refl v4).drew.trans hx; have hs1 := hx'.size
       refine op_app ety_z (.tmp 70) (.tmp 72) (m := [z]) (A := some ⟨gb, 0, none⟩) (c := 1) (hO4.2.1.ext hx') (Fl.one (cs := [.bool z.neg, .slice B12 z.mag.length d12']) ⟨B12, d12', rfl, (hN4.ext hx').widen fun b hb _ => ⟨hb.1, fun e => by have := (hrow b e).1; have := hb.1.2; omega⟩⟩ rfl)
        (fun _ => ⟨gb, 0, rfl, fun j u hu => by rw [Nat.zero_add, hBb.cell]; match j, hu with
         | 0, hu => simpa using hu
         | 1, hu => simpa using hu⟩) (by simp only [List.length_cons, List.length_nil]; omega) (by simp only [List.length_cons, List.length_nil, maxLen]; omega) (by omega) rfl rfl rfl ?_
       intro v' w' h1 h2 h3; refine hK v' w' h2 ⟨h1, ?_⟩
       rcases h3 with h3 | h3
       ·exact .inl h3
       ·exact .inr fun b e => by rw [h3] at e; injection e with e; omega
      (refine pw_eq rfl rfl rfl rfl rfl rfl ?_ ?_; focus exact tk1)
      (refine pw_eq rfl rfl rfl rfl rfl rfl ?_ ?_; focus exact tk1)
      (refine pw_eq rfl rfl rfl rfl rfl rfl ?_ ?_; focus exact tk1)
      (refine pw_eq rfl rfl rfl rfl rfl rfl ?_ ?_; focus (intro f w1 hx hd; obtain ⟨e1, e2⟩ := box_gr hO4.1 hx n1; (dsimp only [PhiDeps, PhiAll, phiAt, phiEq, phiZ, phiAny, phiBox, phiRow, phiRows, phiZs, phiStr, phiSet] at hd); (simp only [fillA]; (try simp only [pt])); (try simp only [hd]); go_simp; (first | done | with_reducible rfl)))
      (refine pw_eq rfl rfl rfl rfl rfl rfl ?_ ?_; focus exact tk1)
      (refine pw_loud rfl rfl rfl rfl rfl (fun f w1 hx hd K hK => ?_) ?_)
      ·(simp only [fillA, Act.put, List.setIfInBounds_toArray, List.set_cons_zero, List.set_cons_succ] at hK; (simp only [fillA]; (try simp only [pt])); dsimp only [PhiDeps, PhiAll, phiAt, phiEq, phiZ, phiAny, phiBox, phiRow, phiRows, phiZs, phiStr, phiSet, phiOne, phiCuts] at hd)
       have e6 := hd.1; have hs1 := hx.size; simp only [wsz] at hs1
       ((try simp only [e6] at hK ⊢); go_simp)
       refine hK _ _ xt ?_; exact ⟨_, rfl, hs1, Box.new _ _ _⟩
      exact pw_nil
     ·intro fv5 v5 hg5 hall; dsimp only [PhiDeps, PhiAll, phiAt, phiEq, phiZ, phiAny, phiBox, phiRow, phiRows, phiZs, phiStr, phiSet, phiOne, phiCuts] at hall; obtain ⟨a65, a66, a67, a68, a69, a70, a71, -, ⟨hC5, hv5⟩, a74, a75, a76, a77, a78, ⟨gr, a79, hgr, hBr⟩, -⟩ := hall; have hg5' : v4.grownBy v5 vC.ownBlock := ⟨hg5.os, hg5.tape, hg5.output, hg5.size, hg5.block⟩; obtain ⟨hB5, hR5⟩ := out_step1 hO4 hg5' hv5
      (simp only [fillA]; (try simp only [pt]))
      simp only [a65, a66, a67, a68, a69, a70, a71, a74, a75, a76, a77, a78, a79]; obtain ⟨vC', hvC'⟩ : ∃ v, v = fv5 73 := ⟨_, rfl⟩; rw [← hvC'] at hC5 hv5 hR5 ⊢; have hs5' := hg5'.size
      have hCr := fun b hb => (hOC.row b hb).2
      have hRr := fun b hb => (hOR.row b hb).2
      have hs2 := (hxV.trans hy02).size
      have hR6 : Rl v5 (fun b => (T.heap.size ≤ b ∧ b ≠ g10 ∧ vC'.ownBlock ≠ some b) ∧ vR.ownBlock ≠ some b) R q rn := by
       have h1 : Rl v4 (fun b => v2.heap.size ≤ b ∧ b < v4.heap.size) R q rn := Sl.widen hR4 (by omega) fun b hb hl => ⟨hb, hl⟩
       have hsT2 := (hTV.trans hy02).size
       refine Sl.widen (Sl.keep h1 (fun b hb hl => hg5'.block b hl fun e => ?_)) (by omega) fun b hb _ => ⟨⟨by have := hb.1; omega, fun e => ?_, fun e => ?_⟩, fun e => ?_⟩
       ·have := hCr b e.symm; have := hb.1
        omega
       ·have := hBo.lt; have := hb.1
        omega
       ·rcases hv5 with hv5 | hv5
        ·have := hCr b (hv5 ▸ e); have := hb.1
         omega
        ·have := hv5 b e; have := hb.2
         omega
       ·rw [hvRe] at e; have := hRr b e; have := hb.1
        omega
      refine sh_late rfl rfl fun K hK => ?_
      refine op_app ety_r (.tmp 77) (.tmp 79) (m := [rn]) (A := some ⟨gr, 0, none⟩) (c := 1) hR5 (Fl.one (cs := [.slice R q q]) ⟨R, q, by rw [HRL.out], hR6⟩ rfl)
       (fun _ => ⟨gr, 0, rfl, fun j u hu => by rw [Nat.zero_add, hBr.cell]; match j, hu with
        | 0, hu => simpa using hu⟩) (by simp only [List.length_cons, List.length_nil]; omega) (by simp only [List.length_cons, List.length_nil, maxLen]; omega) (by have := hEwT.size; have := hx45.size; omega) rfl rfl rfl ?_
      intro vR' v6 h1 h2 h3; have hO6 := out_step2 hO4 hwT (by have := hx45.size; omega) hg5' hO4.1.lt hC5 hv5 h1 h2 h3 (by omega); have hB6 := hB5.grown h2 (fun e => n2 e.symm)
      have k1 := hB6.rules; have k2 := hB6.lt
      refine hK _ _ ?_; clear hK K
      (try simp only [pt])
      have hstep : jfold f s o q (l.take (k + 1)) = (cs ++ [z], rs ++ [rn]) := by
       rw [hfold.out, jstep, if_neg, ← HC.out, ← HR.out, hjat.out]; rw [hjat.out, ← HR.out, ← HMe.out]; exact of_decide_eq_false HB.out.symm
      have Hst := Lib.hid hstep
      have hvR6 : ∀ b, vR'.ownBlock = some b → b = g9 ∨ w5.heap.size ≤ b := fun b e => by
       rcases h3 with h3 | h3
       ·exact hvR b (h3 ▸ e)
       ·rw [h3] at e; injection e with e; exact .inr (by omega)
      have hT6 : Ext T v6 := ((hxT.trans hE4).grown hg5' (fun b e => by have := (hrow b e).1; have := hx45.size; omega)).grown h2 (fun b e => (hrowR b e).1)
      have hkp6 : Kp (fun b => b ≠ g10 ∧ b ≠ g9) w5 v6 := fun b hb hl => ((h2.block b (by omega) fun e => by
       rcases hvR b e.symm with h | h
       ·exact hb.2 h
       ·omega).trans (hg5'.block b (by omega) fun e => by have := (hrow b e.symm).1; omega)).trans ((hkp.ext hE4) b hb hl)
      have hs6 := h2.size
      have hgT : T.heap.size ≤ g10 := by omega
      obtain ⟨AC, nC, cC, eC⟩ : ∃ A n c, vC' = Value.slice A n c := by
       obtain ⟨A, c, e, _⟩ := Own.sl hC5 (by omega) (X := fun _ => True) (fun _ _ => trivial); exact ⟨A, _, c, e⟩
      obtain ⟨AR, nR, cR, eR⟩ : ∃ A n c, vR' = Value.slice A n c := by
       obtain ⟨A, c, e, _⟩ := Own.sl h1 (by omega) (X := fun _ => True) (fun _ _ => trivial); exact ⟨A, _, c, e⟩
      clear hvC'
      subst eC; subst eR
      try clear hvRe
      try clear n3
      try clear n2
      try clear n1
      try clear hrowR
      try clear hvR
      try clear heq
      try clear hRr
      try clear hCr
      try clear hnot12
      try clear hvn
      try clear hrow
      try clear hR4
      try clear hN4
      try clear d12
      try clear hO4
      try clear hBo
      try clear hOR4
      try clear hOR
      try clear hOC
      try clear hR
      try clear hN
      try clear hx5
      try clear hx45
      try clear hx34
      try clear hx4
      try clear hx3
      try clear hE4
      try clear hy34
      try clear hy4
      try clear HB
      try clear HMe
      try clear iml
      try clear imw
      try clear im
      try clear hbR
      try clear hRl2
      try clear hcR
      try clear hml
      try clear hRs
      try clear hr0
      try clear hOR3
      try clear hOC3
      try clear cBo
      try clear c12
      try clear hT3
      try clear hE3
      try clear hy03
      try clear hy3
      try clear hy02
      try clear hy2
      try clear hy1
      try clear hVs
      try clear hxV
      try clear hTV
      try clear hjat
      try clear HR
      try clear HC
      try clear hfold
      try clear hxT
      try clear hkp
      try clear HM
      try clear b12l
      try clear b12
      try clear b4y
      try clear b3y
      try clear hj2
      try clear hj1
      try clear hgLw
      try clear q0
      try clear q1
      try clear kl
      try clear hgLl
      try clear hgLb
      try clear hOLk
      try clear hOL
      try clear hOut0
      try clear hLm
      try clear hLc
      try clear hs4
      try clear hs3
      try clear hl9
      try clear hg9
      try clear hg10
      try clear hne
      try clear q4
      try clear hR3
      try clear eg2
      try clear HJ
      try clear hr2
      try clear hr1
      try clear hrw2
      try clear hrw1
      try clear hlen2
      try clear hlen1
      try clear hoT
      try clear hsT
      try clear b8l
      try clear b5
      try clear b4
      try clear b3
      try clear hEwT
      try clear b8
      try clear hET
      try clear hE2
      try clear hg8
      try clear bhl
      try clear bgl
      try clear bh
      try clear bg
      try clear c5
      try clear c4
      try clear c3
      try clear hE1
      try clear hx1
      try clear HWs
      try clear b4l
      try clear b4r
      try clear b3l
      try clear b3r
      try clear hE
      try clear d2
      try clear d1
      try clear hq
      try clear p2
      try clear p1
      try clear hok
      try clear hsk
      try clear ho
      try clear hs
      clear hstep e1r e2r hB5 hB6 hR5 hR6 hBr h1 h3 hg5' hg5 hC5 hv5
      (refine sh_late rfl rfl fun K hK => ?_; go_simp; refine hK _ _ ?_; clear hK K)
      (refine sh_late rfl rfl fun K hK => ?_; go_simp; refine hK _ _ ?_; clear hK K)
      (refine sh_late rfl rfl fun K hK => ?_; go_simp; refine hK _ _ ?_; clear hK K)
      (refine sh_late rfl rfl fun K hK => ?_; go_simp; refine hK _ _ ?_; clear hK K)
      (refine sh_late rfl rfl fun K hK => ?_; go_simp; refine hK _ _ ?_; clear hK K)
      (refine sh_late rfl rfl fun K hK => ?_; go_simp; refine hK _ _ ?_; clear hK K)
      refine sh_end ?_
      go_wp2_with fail
      go_roundw
      case rel =>
       refine ⟨k + 1, .slice AC nC cC, .slice AR nR cR, by omega, by go_num, ?_, hvR6, ?_, (hT6.setCell hgT _).setCell hgT _, by simp only [wsz]; omega⟩
       ·rw [Hst.out]; exact hO6
       ·exact (hkp6.setCell (fun h => h.1 rfl) _).setCell (fun h => h.1 rfl) _
      case measure => simp [intOf] <;> omega
    ·have hstep : jfold f s o q (l.take (k + 1)) = jfold f s o q (l.take k) := by
      rw [hfold.out, jstep, if_pos]; rw [hjat.out, ← HR.out, ← HMe.out]; exact of_decide_eq_true HB.out.symm
     have Hst := Lib.hid hstep; clear hstep
     go_wp2_with fail
     go_roundw
     case rel =>
      refine ⟨k + 1, vC, _, by omega, by go_num, ?_, hvR, hkp.ext hE4, hxT.trans hE4, by have := hE4.size; omega⟩; rw [Hst.out, ← HC.out, ← HR.out]; exact ⟨cBo.ext hy34, hOC3.ext hy34, hOR3.ext hy34, n1, n2, n3⟩
     case measure => simp [intOf] <;> omega
   ·obtain rfl : k = l.length := by omega
    rw [List.take_length] at hOut
    go_wp2_with fail
    (refine bodyPost_ret (v := ?_) ?_ rfl ?_; rotate_left; (simp only [results, Tryz.results64]; go_simp; (first | done | with_reducible rfl)))
    obtain ⟨hBo, hOC, hOR, n1, n2, n3⟩ := hOut
    obtain ⟨A1, c1, rfl, z1⟩ := Own.sl hOC (by omega) (X := fun b => X b ∨ Y b ∨ w.heap.size ≤ b) (fun b hb => by
     rcases hb with hb | hb
     ·rcases hb.1 with h | h
      ·exact .inl h
      ·exact .inr (.inl h)
     ·exact .inr (.inr (by omega)))
    obtain ⟨A2, c2, rfl, z2⟩ := Own.sl hOR (by omega) (X := fun b => X b ∨ Y b ∨ w.heap.size ≤ b) (fun b hb => by
     rcases hb with hb | hb
     ·have := hb.1; exact .inr (.inr (by omega))
     ·exact .inr (.inr (by omega)))
    exact ⟨g10, l, HM.out, rfl, ⟨A1, c1, A2, c2, hBo, .inr (.inr (by omega)), z1, z2⟩, hEwT.trans hxT⟩

set_option maxHeartbeats 800000 in
theorem meet_c {g h N : Nat} {s o : Ps} {w : World} {X Y : Nat → Prop} (hs : SetV w X g s) (ho : SetV w Y h o) (hsk : s.ok N) (hok : o.ok N) (hq : Nat.lcm s.per o.per ≤ 4096) :
  Calls Tryz.prog 28 #[.pointer (some ⟨g, 0, none⟩), .pointer (some ⟨h, 0, none⟩)] w fun e w' =>
   ∃ r l, Mrg s o l ∧ e = .returned (.tuple #[.pointer (some ⟨r, 0, none⟩), .int .i64 0]) ∧ SetV w' (fun b => X b ∨ Y b ∨ w.heap.size ≤ b) r ⟨Nat.lcm s.per o.per, (jfold and s o (Nat.lcm s.per o.per) l).1, (jfold and s o (Nat.lcm s.per o.per) l).2⟩ ∧ Ext w w' := by
 have eg : ∀ args w, (callFunc 65 args).run Tryz.prog w = .ok (.enter 65 args) w := enters_of Tryz.func65 (by kernel_rfl) rfl
 have hc := joined_c (fi := 65) (f := and) hs ho hsk hok eg (fun x y W => meet1_c x y W) hq
 obtain ⟨R, hR⟩ : ∃ R : List Z → Ps, R = fun l => ⟨Nat.lcm s.per o.per, (jfold and s o (Nat.lcm s.per o.per) l).1, (jfold and s o (Nat.lcm s.per o.per) l).2⟩ := ⟨_, rfl⟩
 have hR' : ∀ l, (⟨Nat.lcm s.per o.per, (jfold and s o (Nat.lcm s.per o.per) l).1, (jfold and s o (Nat.lcm s.per o.per) l).2⟩ : Ps) = R l := fun l => by rw [hR]
 simp only [hR'] at hc ⊢; clear hR hR'
 go_enter Tryz.func28, Tryz.ntmps28
 go_wp2_with fail
 refine hc.mono ?_; rintro e w1 ⟨r, l, hM, rfl, hS, hx1⟩
 go_wp2_with fail
 (refine bodyPost_ret (v := ?_) ?_ rfl ?_; rotate_left; (simp only [results, Tryz.results28]; go_simp; (first | done | with_reducible rfl)))
 exact ⟨r, l, hM, rfl, hS, hx1⟩

end Go.Proofs.YtpkfjbljhneenaaGreat
