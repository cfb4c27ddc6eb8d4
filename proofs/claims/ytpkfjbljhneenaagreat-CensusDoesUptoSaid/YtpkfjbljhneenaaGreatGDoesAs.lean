/- periods, in plain words: what joined sets have. No conditions. periods: None, Rest; Meet and Join where the period grows too long. No conditions. The sets that are wanted, in plain words: which, how they are made, that they may be. No conditions. -/
import Derived.Test.YtpkfjbljhneenaaGreatGDoesAk
import Derived.Test.YtpkfjbljhneenaaGreatGDoesAp
import Derived.Test.YtpkfjbljhneenaaGreatGDoesAr
namespace Go.Proofs.YtpkfjbljhneenaaGreat
open Go.RowKit Go.Shelf

theorem lbd_snoc_gt : ∀ {l : List Int} {c x : Int}, x ≤ c → lbd (l ++ [c]) x = lbd l x
 | [], c, x, h => by
  show lbd [c] x = 0
  unfold lbd; rw [if_neg (by omega)]
 | b :: l, c, x, h => by
  rw [List.cons_append]; unfold lbd; rw [lbd_snoc_gt h]
theorem lbd_all : ∀ {l : List Int} {x : Int}, (∀ c ∈ l, c < x) → lbd l x = l.length
 | [], _, _ => rfl
 | b :: l, x, h => by
  unfold lbd; rw [if_pos (h b (by simp)), lbd_all fun c hc => h c (List.mem_cons_of_mem _ hc)]
  rfl
theorem lbd_none : ∀ {l : List Int} {x : Int}, (∀ c ∈ l, x ≤ c) → lbd l x = 0
 | [], _, _ => rfl
 | b :: l, x, h => by
  unfold lbd; rw [if_neg (by have := h b (by simp); omega)]
def jx (f : Bool → Bool → Bool) (s o : Ps) (q : Nat) (x : Int) : List Bool := jrow f (rth s.rows (plc (zv s.cuts) x)) (rth o.rows (plc (zv o.cuts) x)) q
theorem jx_same {f : Bool → Bool → Bool} {s o : Ps} {q : Nat} {a x : Int} (h : a ≤ x) (h1 : Fre (zv s.cuts) a x) (h2 : Fre (zv o.cuts) a x) : jx f s o q a = jx f s o q x := by
 unfold jx; rw [plc_same h h1, plc_same h h2]
theorem zv_snoc (l : List Z) (c : Z) : zv (l ++ [c]) = zv l ++ [c.v] := by simp [zv]
theorem rth_last (l : List (List Bool)) (r : List Bool) : rth (l ++ [r]) l.length = r := by simp [rth]
theorem rth_fore (l : List (List Bool)) (r : List Bool) {k : Nat} (h : k < l.length) : rth (l ++ [r]) k = rth l k := by
 unfold rth; rw [List.getD_eq_getElem?_getD, List.getD_eq_getElem?_getD, List.getElem?_append_left h]
structure JG (f : Bool → Bool → Bool) (s o : Ps) (q : Nat) (pre post : List Z) (cr : List Z × List (List Bool)) : Prop where
 len : cr.2.length = cr.1.length + 1
 ris : Ris (zv cr.1)
 sub : ∀ z ∈ cr.1, z ∈ pre
 rows : ∀ r ∈ cr.2, r.length = q
 tell : ∀ x, (∀ c ∈ post, x < c.v) → rth cr.2 (plc (zv cr.1) x) = jx f s o q x
theorem jg_step {f : Bool → Bool → Bool} {s o : Ps} {q : Nat} {pre post : List Z} {c : Z} {cr : List Z × List (List Bool)} (hr : Ris (zv (pre ++ c :: post))) (hs : ∀ z ∈ s.cuts, z.v ∈ zv (pre ++ c :: post)) (ho : ∀ z ∈ o.cuts, z.v ∈ zv (pre ++ c :: post))
  (h : JG f s o q pre (c :: post) cr) : JG f s o q (pre ++ [c]) post (jstep f s o q cr c) := by
 have hr' := hr; rw [Ris, zv, List.map_append, List.map_cons, List.pairwise_append, List.pairwise_cons] at hr'; obtain ⟨_, ⟨hcp, hpp⟩, hpre⟩ := hr'
 have hlow : ∀ z ∈ cr.1, z.v < c.v := fun z hz => hpre z.v (List.mem_map.2 ⟨z, h.sub z hz, rfl⟩) c.v (by simp)
 have hfre : ∀ x, c.v ≤ x → (∀ d ∈ post, x < d.v) → jx f s o q c.v = jx f s o q x := fun x hx hp => by
  have key : ∀ {l : List Z}, (∀ z ∈ l, z.v ∈ zv (pre ++ c :: post)) → Fre (zv l) c.v x := fun {l} hl k hk ⟨h1, h2⟩ => by
   obtain ⟨z, hz, rfl⟩ := List.mem_map.1 hk; have := hl z hz; rw [zv, List.map_append, List.map_cons] at this
   rcases List.mem_append.1 this with h3 | h3
   ·have := hpre _ h3 c.v (by simp); omega
   ·rcases List.mem_cons.1 h3 with h3 | h3
    ·omega
    ·obtain ⟨d, hd, h4⟩ := List.mem_map.1 h3
     have := hp d hd; omega
  exact jx_same hx (key hs) (key ho)
 have hbelow : ∀ x, x < c.v → ∀ d ∈ c :: post, x < d.v := fun x hx d hd => by
  rcases List.mem_cons.1 hd with rfl | hd
  ·exact hx
  ·have := hcp d.v (List.mem_map.2 ⟨d, hd, rfl⟩); omega
 have hlastp : ∀ x, c.v ≤ x → plc (zv cr.1) x = cr.1.length := fun x hx => by
  unfold plc; rw [lbd_all, zv_len]; intro k hk; obtain ⟨z, hz, rfl⟩ := List.mem_map.1 hk
  have := hlow z hz; omega
 unfold jstep
 split
 ·rename_i heq
  refine ⟨h.len, h.ris, fun z hz => List.mem_append_left _ (h.sub z hz), h.rows, fun x hx => ?_⟩
  by_cases hc : x < c.v
  ·exact h.tell x (hbelow x hc)
  ·rw [hlastp x (by omega), ← hfre x (by omega) hx]
   have e : cr.1.length = cr.2.length - 1 := by rw [h.len]; rfl
   rw [e, ← heq]
   rfl
 ·refine ⟨by simp [h.len], ?_, fun z hz => ?_, fun r hr => ?_, fun x hx => ?_⟩
  ·rw [zv_snoc, Ris, List.pairwise_append]; refine ⟨h.ris, by simp, fun a ha b hb => ?_⟩; obtain ⟨z, hz, rfl⟩ := List.mem_map.1 ha
   obtain rfl : b = c.v := by simpa using hb
   exact hlow z hz
  ·rcases List.mem_append.1 hz with hz | hz
   ·exact List.mem_append_left _ (h.sub z hz)
   ·exact List.mem_append_right _ hz
  ·rcases List.mem_append.1 hr with hr | hr
   ·exact h.rows r hr
   ·obtain rfl : r = jAt f s o q c := by simpa using hr
    exact jrow_len _ _ _ _
  ·simp only; rw [zv_snoc]
   by_cases hc : x < c.v
   ·have e : plc (zv cr.1 ++ [c.v]) x = plc (zv cr.1) x := lbd_snoc_gt (by omega); have hle := plc_le (zv cr.1) x; rw [zv_len] at hle; rw [e, rth_fore _ _ (by rw [h.len]; omega)]; exact h.tell x (hbelow x hc)
   ·have e : plc (zv cr.1 ++ [c.v]) x = cr.2.length := by
     unfold plc; rw [lbd_all, List.length_append, zv_len, h.len]
     ·rfl
     ·intro k hk
      rcases List.mem_append.1 hk with hk | hk
      ·obtain ⟨z, hz, rfl⟩ := List.mem_map.1 hk
       have := hlow z hz; omega
      ·obtain rfl : k = c.v := by simpa using hk
       omega
    rw [e, rth_last, ← hfre x (by omega) hx]
    rfl
theorem jg_all {f : Bool → Bool → Bool} {s o : Ps} {q : Nat} : ∀ {post pre : List Z} {cr : List Z × List (List Bool)}, Ris (zv (pre ++ post)) → (∀ z ∈ s.cuts, z.v ∈ zv (pre ++ post)) → (∀ z ∈ o.cuts, z.v ∈ zv (pre ++ post)) → JG f s o q pre post cr →
  JG f s o q (pre ++ post) [] (post.foldl (jstep f s o q) cr)
 | [], pre, cr, _, _, _, h => by simpa using h
 | c :: post, pre, cr, hr, hs, ho, h => by
  have e : pre ++ c :: post = pre ++ [c] ++ post := by simp
  rw [List.foldl_cons, e]; exact jg_all (by rw [← e]; exact hr) (by rw [← e]; exact hs) (by rw [← e]; exact ho) (jg_step hr hs ho h)
theorem jg_end {f : Bool → Bool → Bool} {s o : Ps} {q : Nat} {l : List Z} (hm : Mrg s o l) : JG f s o q l [] (jfold f s o q l) := by
 have := jg_all (f := f) (s := s) (o := o) (q := q) (post := l) (pre := []) (cr := ([], [jrow f (rth s.rows 0) (rth o.rows 0) q])) hm.1 (fun z hz => hm.2.2.1 z (.inl hz)) (fun z hz => hm.2.2.1 z (.inr hz))
  ⟨rfl, by simp [zv], by simp, by simp [jrow_len], fun x hx => by
   have key : ∀ {k : List Z}, (∀ z ∈ k, z.v ∈ zv l) → plc (zv k) x = 0 := fun {k} hk => lbd_none fun c hc => by
    obtain ⟨z, hz, rfl⟩ := List.mem_map.1 hc; obtain ⟨d, hd, e⟩ := List.mem_map.1 (hk z hz)
    have := hx d hd; omega
   unfold jx; rw [key fun z hz => hm.2.2.1 z (.inl hz), key fun z hz => hm.2.2.1 z (.inr hz)]
   rfl⟩
 rw [List.nil_append] at this; exact this
theorem joined_ok {f : Bool → Bool → Bool} {s o : Ps} {q N : Nat} {l : List Z} (hs : s.ok N) (ho : o.ok N) (hm : Mrg s o l) (hq0 : 0 < q) (hq : q ≤ 4096) (hl : s.cuts.length + o.cuts.length ≤ 1048576) : (⟨q, (jfold f s o q l).1, (jfold f s o q l).2⟩ : Ps).ok N := by
 have h := jg_end (f := f) (q := q) hm; have h1 := (jfold_len f s o q l).1; have h2 := hm.2.2.2; refine ⟨hq0, hq, h.len, h.rows, h.ris, by simp only; omega, fun c hc => ?_⟩
 rcases hm.2.1 c (h.sub c hc) with h3 | h3
 ·exact hs.cut c h3
 ·exact ho.cut c h3
theorem mod_dvd {x : Int} {p q : Nat} (hp : 0 < p) (hq : 0 < q) (hd : p ∣ q) : (x % (q : Int)).toNat % p = (x % (p : Int)).toNat := by
 have h1 := Int.emod_nonneg x (show (q : Int) ≠ 0 by omega); have h2 := Int.emod_nonneg x (show (p : Int) ≠ 0 by omega); have h3 : ((x % (q : Int)).toNat : Int) = x % (q : Int) := Int.toNat_of_nonneg h1
 have h4 : (((x % (q : Int)).toNat % p : Nat) : Int) = x % (p : Int) := by
  rw [Int.natCast_emod, h3]; exact Int.emod_emod_of_dvd x (Int.natCast_dvd_natCast.2 hd)
 omega
theorem joined_has {f : Bool → Bool → Bool} {s o : Ps} {q N : Nat} {l : List Z} (hs : s.ok N) (ho : o.ok N) (hm : Mrg s o l) (hq0 : 0 < q) (h1 : s.per ∣ q) (h2 : o.per ∣ q) (x : Int) : (⟨q, (jfold f s o q l).1, (jfold f s o q l).2⟩ : Ps).has x = f (s.has x) (o.has x) := by
 have h := jg_end (f := f) (q := q) hm; have e := h.tell x (by simp)
 have p1 := plc_le (zv s.cuts) x; have p2 := plc_le (zv o.cuts) x
 rw [zv_len] at p1 p2
 have r1 : (rth s.rows (plc (zv s.cuts) x)).length = s.per := by rw [rth_eq _ _ (by have := hs.rows; omega)]; exact hs.row _ (List.getElem_mem _)
 have r2 : (rth o.rows (plc (zv o.cuts) x)).length = o.per := by rw [rth_eq _ _ (by have := ho.rows; omega)]; exact ho.row _ (List.getElem_mem _)
 have hlt := Int.emod_lt_of_pos x (show (0 : Int) < (q : Int) by omega); have hge := Int.emod_nonneg x (show (q : Int) ≠ 0 by omega); unfold Ps.has; simp only; rw [e]; unfold jx; rw [jrow_at (by omega), r1, r2, mod_dvd hs.per0 hq0 h1, mod_dvd ho.per0 hq0 h2]

theorem above_ok {z : Int} {N : Nat} (h : zl (z + 1) ≤ N) : (⟨1, [cz (z + 1)], [[false], [true]]⟩ : Ps).ok N :=
 ⟨by simp, by simp, rfl, by simp, by simp [zv], by simp, fun c hc => by
  obtain rfl : c = cz (z + 1) := by simpa using hc
  exact ⟨h, by rw [cz_v]⟩⟩
theorem above_has (z x : Int) : (⟨1, [cz (z + 1)], [[false], [true]]⟩ : Ps).has x = decide (z < x) := by
 unfold Ps.has
 have e : x % ((1 : Nat) : Int) = 0 := by omega
 simp only [zv, List.map_cons, List.map_nil, cz_v, e]; unfold plc
 by_cases h : z < x
 ·rw [lbd_all (by simp; omega), decide_eq_true h]; rfl
 ·rw [lbd_none (by simp; omega), decide_eq_false h]; rfl
theorem class_ok {p i : Nat} {N : Nat} (h0 : 0 < p) (h1 : p ≤ 4096) : (⟨p, [], [(List.replicate p false).set i true]⟩ : Ps).ok N :=
 ⟨h0, h1, rfl, by simp, by simp [zv], by simp, by simp⟩
theorem class_has {p : Nat} (y x : Int) (h0 : 0 < p) : (⟨p, [], [(List.replicate p false).set (y % (p : Int)).toNat true]⟩ : Ps).has x = decide (x % (p : Int) = y % (p : Int)) := by
 have hlt := Int.emod_lt_of_pos x (show (0 : Int) < (p : Int) by omega); have hge := Int.emod_nonneg x (show (p : Int) ≠ 0 by omega); have hge2 := Int.emod_nonneg y (show (p : Int) ≠ 0 by omega); have e : (⟨p, [], [(List.replicate p false).set (y % (p : Int)).toNat true]⟩ : Ps).has x = bth ((List.replicate p false).set (y % (p : Int)).toNat true) (x % (p : Int)).toNat := rfl; rw [e, bth_eq _ _ (by simp; omega), List.getElem_set]
 by_cases h : x % (p : Int) = y % (p : Int)
 ·rw [if_pos (by omega), decide_eq_true h]
 ·rw [if_neg (by omega), decide_eq_false h]; simp

end Go.Proofs.YtpkfjbljhneenaaGreat

namespace Go.Proofs.YtpkfjbljhneenaaGreat
open Go.RowKit Go.Shelf

def noneP : Ps := ⟨1, [], [[false]]⟩
def notL (r : List Bool) : List Bool := r.map not
def restP (s : Ps) : Ps := ⟨s.per, s.cuts, s.rows.map notL⟩
theorem notL_len (r : List Bool) : (notL r).length = r.length := by simp [notL]
theorem notL_at {r : List Bool} {k : Nat} (h : k < r.length) : bth (notL r) k = !(bth r k) := by
  rw [bth_eq _ _ (by rw [notL_len]; exact h), bth_eq _ _ h]; simp [notL]
theorem rest_ok {s : Ps} {N : Nat} (hs : s.ok N) : (restP s).ok N :=
  ⟨hs.per0, hs.per1, by simp [restP, hs.rows], fun r hr => by
    obtain ⟨q, hq, rfl⟩ := List.mem_map.1 hr
    rw [notL_len]; exact hs.row q hq, hs.ris, hs.len, hs.cut⟩
theorem none_ok {N : Nat} : noneP.ok N := ⟨by simp [noneP], by simp [noneP], rfl, by simp [noneP], by simp [noneP, zv], by simp [noneP], by simp [noneP]⟩
set_option maxHeartbeats 400000 in
theorem none_c (w : World) :
    Calls Tryz.prog 21 #[] w fun e w' => ∃ g, e = .returned (.pointer (some ⟨g, 0, none⟩)) ∧ SetV w' (w.heap.size ≤ ·) g noneP ∧ Ext w w' := by
  go_enter Tryz.func21, Tryz.ntmps21
  go_wp2_with fail
  have hR : Rl (w.alloc (.cells #[.bool false] 4)) (w.heap.size ≤ ·) (some ⟨w.heap.size, 0, none⟩) 1 [false] := Rl.one rfl (Nat.le_refl _); refine (whole_c (r := [false]) hR).mono ?_; rintro e w1 ⟨g, rfl, hS, hx1⟩
  go_wp2_with fail
  go_ret
  exact ⟨g, rfl, hS.widen fun b hb _ => by rcases hb with h | h; exact h; simp only [wsz] at h; omega, ((Ext.refl w).alloc _).trans hx1⟩

theorem wpList_appr1 {w : World} {ops : Array Oper} {rest : List Oper} {o : Oper} {a : Act} {Q : Exit → Act → World → Prop} (s x : Operand) {Zp : Nat → Prop} {base : Nat} {v : Value} {l : List (List Bool)} {r : List Bool} {A : Option Addr} {c n : Nat} (hn : n = r.length)
    (h : Own 1 ER w Zp base 84 v l) (hN : Rl w (fun b => Zp b ∧ v.ownBlock ≠ some b) A c r) (hl : l.length ≤ 2199023255552) (hbase : base ≤ w.heap.size)
    (hgd : o.guard = none) (ho : o.op = .call { callee := .builtin .append, args := #[s, x], argTypes := #[92, 92] }) (hs : a.eval s = v) (hx : a.eval x = .slice (some ⟨w.heap.size, 0, none⟩) 1 1)
    (H : ∀ v' w', Own 1 ER w' Zp base 84 v' (l ++ [r]) → (w.alloc (.cells #[.slice A n c] 84)).grownBy w' v.ownBlock →
      (v'.ownBlock = v.ownBlock ∨ v'.ownBlock = some (w.heap.size + 1)) → wpList Tryz.prog ops Q rest (a.put o.dst v') w') :
    wpList Tryz.prog ops Q (o :: rest) a (w.alloc (.cells #[.slice A n c] 84)) := by
  subst hn
  refine wpList_app (m := [r]) ety_r s x (Own.ext h ((Ext.refl w).alloc _)) (Fl.one (cs := [.slice A r.length c]) ⟨A, c, rfl, Sl.keep hN ((Kp.refl w).alloc _)⟩ rfl) (fun _ => ⟨_, _, rfl, fun j u hu => ?_⟩) ?_ ?_ ?_ hgd ho hs hx fun v' w' h1 h2 h3 => H v' w' h1 h2 (by simpa using h3)
  · rw [World.cell?_alloc_at (hn := rfl)]
    match j, hu with
    | 0, hu => simpa using hu
  · simp only [List.length_cons, List.length_nil]; omega
  · simp only [List.length_cons, List.length_nil, maxLen]; omega
  · simp only [World.size_alloc]; omega

theorem Rl.inb {w : World} {X : Nat → Prop} {g o c : Nat} {r : List Bool} (h : Rl w X (some ⟨g, o, none⟩) c r) : Rl w (· = g) (some ⟨g, o, none⟩) c r := by
  refine ⟨h.1, h.2.1, fun h0 => ?_, h.2.2.2⟩; obtain ⟨b, o', hA, _, hi⟩ := h.2.2.1 h0
  injection hA with hA
  injection hA with e1 e2
  subst e1; subst e2
  exact ⟨g, o, rfl, rfl, hi⟩
theorem ext_drew_alloc (w : World) (o : Obj) : Ext w.drew (w.alloc o).drew := by
  have h := ((Ext.refl w).alloc o).drew; exact ⟨h.os, h.tape, h.output, h.size, h.block⟩

set_option maxRecDepth 100000 in
set_option maxHeartbeats 3200000 in
theorem rest_c {g N : Nat} {s : Ps} {w : World} {X : Nat → Prop} (hs : SetV w X g s) (hsk : s.ok N) :
    Calls Tryz.prog 51 #[.pointer (some ⟨g, 0, none⟩)] w fun e w' => ∃ r, e = .returned (.pointer (some ⟨r, 0, none⟩)) ∧ SetV w' (fun b => X b ∨ w.heap.size ≤ b) r (restP s) ∧ Ext w w' := by
  have hmade := fun (V : World) (hV : Ext w V) => made_set_c (l := [(g, s)]) (w := V.alloc (.cells #[.pointer (some ⟨g, 0, none⟩)] 33)) (g := V.heap.size) (ty := 33) (Box.new_at _ _ _ rfl) (fun p hp => by
    simp only [List.mem_cons, List.not_mem_nil, or_false] at hp; subst hp
    exact ⟨X, (hs.ext hV).ext ((Ext.refl V).alloc _), by have := hsk.rows; show 0 < s.rows.length; omega⟩) (by simp) 1 rfl
  have hcl := hsk.len; have hp1 := hsk.per1
  have HRL := Lib.hid hsk.rows; have hrow := hsk.row; obtain ⟨cA, c, rA, d, hb, hX, hc, hr⟩ := hs
  have bgr := hb.rules; have bgl := hb.lt
  have hm := hmade w (Ext.refl w); clear hmade; have HRow := Lib.hid hrow; clear hrow
  go_enter Tryz.func51, Tryz.ntmps51
  go_wp2_with fail
  refine hm.mono ?_; rintro e w1 ⟨rfl, hx1⟩; have hE1 : Ext w w1 := ((Ext.refl w).alloc _).trans hx1; have bg := hb.ext hE1
  have bg1r := bg.rules; have bg1l := bg.lt
  have HE1 := Lib.hid hE1; clear bgr bgl hm hE1 hx1
  go_upto_region 3 with fail
  refine wp_region_seq 10 [(0, true), (1, true), (2, true), (3, true), (4, true), (5, true), (6, true), (7, true), (8, true), (9, false), (10, false)] rfl (by kernel_rfl) (by intro _ _ d _ _ h; cases d <;> exact h) ?_
  (repeat (first | (refine sq_take (v := ?_) rfl rfl ?_ ?_; rotate_left; exact tk2; (try simp only [pt])) | (refine sq_skip rfl rfl ?_; (try simp only [pt])) | (refine sq_noloud rfl rfl ?_; (try simp only [pt])) | (refine sq_takeg (v := ?_) rfl rfl ?_ ?_; rotate_left; exact tk2; (try simp only [pt]))))
  (refine sq_loudg rfl rfl fun K hK => ?_; go_simp)
  refine hK _ _ (ext_drew_alloc w1 _) ?_; clear hK K
  (try simp only [pt])
  (repeat (first | (refine sq_take (v := ?_) rfl rfl ?_ ?_; rotate_left; exact tk2; (try simp only [pt])) | (refine sq_skip rfl rfl ?_; (try simp only [pt])) | (refine sq_noloud rfl rfl ?_; (try simp only [pt])) | (refine sq_takeg (v := ?_) rfl rfl ?_ ?_; rotate_left; exact tk2; (try simp only [pt]))))
  (refine sq_last rfl rfl fun K hK => ?_; go_simp; refine hK _ _ ?_; clear hK K)
  go_upto_region 4 with fail
  refine wp_named fun W hW => ?_
  have bO : Box W w1.heap.size 94 #[.int .i64 (s.per : Nat), .slice cA s.cuts.length c, .slice none 0 0] := by rw [hW]; exact bxt
  have hxW : Ext w1 W := by rw [hW]; exact xt
  have hWs : W.heap.size = w1.heap.size + 1 := by rw [hW]; simp only [wsz]
  clear hW; have hE1 := HE1.out; have hEW := hE1.trans hxW; have bgW := bg.ext hxW
  have bgWr := bgW.rules; have bgWl := bgW.lt
  have hcW := Sl.keep hc (.of_ext hEW); have hlmd := hr.2.1; simp only [maxLen] at hlmd; obtain ⟨gO, hgO⟩ : ∃ gO, gO = w1.heap.size := ⟨_, rfl⟩; rw [← hgO] at bO hWs ⊢
  have hgw : w.heap.size ≤ gO := by rw [hgO]; exact hE1.size
  have hgl := bO.lt; clear hgO bg1r bg1l
  go_wp2_with fail
  go_loopw [27] (fun iv wr => ∃ k : Nat, k ≤ s.rows.length ∧ iv = .int .i64 k ∧ (∃ vR, Box wr gO 94 #[.int .i64 (s.per : Nat), .slice cA s.cuts.length c, vR] ∧ Own 1 ER wr (gO < ·) (gO + 1) 84 vR ((s.rows.take k).map notL)) ∧ Ext w wr) (fun iv _ => s.rows.length - (intOf iv).toNat)
  case atStart => exact ⟨0, Nat.zero_le _, rfl, ⟨_, bO, by simpa using Own.nil W _ _ _⟩, hEW⟩
  case round =>
    rename World => wo
    obtain ⟨k, hk, rfl, ⟨vR, hB, hO⟩, hx⟩ := hrel
    by_cases hlt : k < s.rows.length
    · obtain ⟨b, o, B, d2, rfl, hXb, q0, hRl⟩ := Rs.at_ (Sl.keep hr (.of_ext hx)) hlt; have hbw := World.block_lt_of_cell? _ _ q0
      have kl : (k : Int) < (s.rows.length : Int) := by omega
      have hkb : k ≤ 1048577 := by have := HRL.out; omega
      have HKL := Lib.hid (show k + 1 ≤ s.rows.length from hlt)
      have hrk : (rth s.rows k).length = s.per := by rw [rth_eq _ _ hlt]; exact HRow.out _ (List.getElem_mem _)
      have htk : Hid ((s.rows.take (k + 1)).map notL = (s.rows.take k).map notL ++ [notL (rth s.rows k)]) := Lib.hid (by rw [List.take_succ_eq_append_getElem hlt, List.map_append, rth_eq _ _ hlt]; rfl); obtain ⟨r, hrr⟩ : ∃ r, r = rth s.rows k := ⟨_, rfl⟩; rw [← hrr] at q0 hRl hrk htk; obtain ⟨n, hn⟩ : ∃ n, n = r.length := ⟨_, rfl⟩; rw [← hn] at q0 hrk
      have hn1 : n ≤ 4096 := by omega
      have HN := Lib.hid hn; have HRK := Lib.hid hrk; clear hrr hn hrk; have hBl := hB.lt
      have hcells : Hid (∀ j, j < n → ∃ b2 o2, B = some ⟨b2, o2, none⟩ ∧ wo.cell? ⟨b2, o2 + j, none⟩ = some (.bool (bth r j))) := Lib.hid fun j hj => by
        obtain ⟨b2, o2, e1, _, e2⟩ := hRl.at_ (k := j) (by rw [← HN.out]; exact hj); exact ⟨b2, o2, e1, e2⟩
      go_wp2_with (first
        | (at_make
           (refine wpList_makeb (.tmp 32) (.tmp 32) (fun _ => False) (gO + 1) n (by omega) (by omega) rfl rfl rfl rfl rfl rfl ?_)
           intro w3 hO3 hx3)
        | fail)
      have HO := Lib.hid hO; have hE3 : Ext w w3 := hx.trans hx3; have hg1 := hO3.adr
      have hcc : Hid (∀ (U : World), Ext wo U → ∀ j, j < n → ∃ b2 o2, B = some ⟨b2, o2, none⟩ ∧ U.cell? ⟨b2, o2 + j, none⟩ = some (.bool (bth r j)) ∧ b2 < U.heap.size) := Lib.hid fun U hU j hj => by
        obtain ⟨b2, o2, e1, e2⟩ := hcells.out j hj; have h3 := (hU.cells.1 b2 _ (World.block_lt_of_cell? _ _ e2)).trans e2; exact ⟨b2, o2, e1, h3, World.block_lt_of_cell? _ _ h3⟩
      have hrl2 : Hid (r.length = n) := Lib.hid HN.out.symm; clear hcells hRl q0 hbw hO hc hr bgWr bgWl hg1; obtain ⟨gx, hgx⟩ : ∃ gx, gx = wo.heap.size := ⟨_, rfl⟩; rw [← hgx] at hO3 ⊢; have HGX := Lib.hid hgx; clear hgx
      go_loopw [36] (fun iv wr2 => ∃ (j : Nat) (q : List Bool), j ≤ n ∧ iv = .int .i64 j ∧ Own 1 EB wr2 (fun _ => False) (gO + 1) 4 (.slice (some ⟨gx, 0, none⟩) n n) q ∧ Hid (q.length = n) ∧ Hid (q.take j = (notL r).take j) ∧ Ext wo wr2) (fun iv _ => n - (intOf iv).toNat)
      case atStart => exact ⟨0, _, Nat.zero_le _, rfl, hO3, Lib.hid (by simp), Lib.hid (by simp), hx3⟩
      case round =>
        obtain ⟨j, q, hj, rfl, hOq, hql, hqt, hx4⟩ := hrel
        by_cases hlt2 : j < n
        · obtain ⟨b2, o2, rfl, hcb, hcbl⟩ := hcc.out _ hx4 j hlt2
          have jl : (j : Int) < (n : Int) := by omega
          have hjq : j < q.length := by rw [hql.out]; exact hlt2
          have z1 := bown_at hOq hjq
          have hfz := fun o => Own.frz hOq o
          have hgxl := hOq.adr.2.2.2
          go_wp2_with fail
          go_roundw
          case rel =>
            refine ⟨j + 1, q.set j (!(bth r j)), by omega, by go_num, bown_put hOq hjq, Lib.hid (by rw [List.length_set]; exact hql.out), Lib.hid ?_, hx4.setCell (by have := HGX.out; simp only; omega) _⟩; rw [bset_take q j _ hjq, hqt.out, take_bth _ _ (by rw [notL_len, hrl2.out]; exact hlt2), notL_at (by rw [hrl2.out]; exact hlt2)]
          case measure => simp [intOf] <;> omega
        · obtain rfl : j = n := by omega
          have hq0 : q = notL r := by
            have h2 := hqt.out; rw [List.take_of_length_le (by rw [hql.out]; exact Nat.le_refl _), List.take_of_length_le (by rw [notL_len, hrl2.out]; exact Nat.le_refl _)] at h2; exact h2
          have hHx := HGX.out; have hO4 := HO.out.ext hx4; have hrow := HO.out.row; have hB4 := hB.ext hx4
          have hB4r := hB4.rules; have hB4l := hB4.lt
          have hRx : Rl wr (fun b => gO < b ∧ vR.ownBlock ≠ some b) (some ⟨gx, 0, none⟩) j (notL r) := by
            obtain ⟨A1, d1, e1, h1⟩ := Own.sl hOq (by omega) (X := fun _ => True) (fun _ _ => trivial)
            injection e1 with e1 e2 e3
            subst e1; subst e3
            rw [hq0] at h1
            exact Sl.widen (Rl.inb h1) (by omega) fun b hb _ => ⟨by omega, fun e => by have := (hrow b e).2; omega⟩
          have hlen : ((s.rows.take k).map notL).length ≤ 2199023255552 := by rw [List.length_map, List.length_take]; have := HRL.out; omega
          have hlen' := Lib.hid hlen; have hjn : Hid (j = (notL r).length) := Lib.hid (by rw [notL_len]; exact hrl2.out.symm); have hs4 := hx4.size; clear hlen hq0 hO3 hx3 hE3 hHx
          go_wp2_with (first
            | (at_builtin
               (refine wpList_appr1 (.tmp 52) (.tmp 54) hjn.out hO4 hRx hlen'.out (by omega) rfl rfl rfl rfl ?_)
               intro v5 w5 hO5 hg5 hv5; obtain ⟨A5, n5, c5, rfl⟩ : ∃ A n c, v5 = Value.slice A n c := (by obtain ⟨A, c, e, _⟩ := Own.sl hO5 (by omega) (X := fun _ => True) (fun _ _ => trivial); exact ⟨_, _, _, e⟩); have hB5 := (hB4.alloc (.cells #[.slice (some ⟨gx, 0, none⟩) j j] 84)).grown hg5 (fun e => by have := (hrow _ e.symm).1; omega)
               have hB5r := hB5.rules; have hB5l := hB5.lt
               clear hB4r hB4l)
            | fail)
          have hE5 : Ext w w5 := ((hx.trans hx4).alloc _).grown hg5 (fun j hj => by have := (hrow j hj).1; omega); have hg5s := hg5.size; simp only [wsz] at hg5s
          go_roundw
          case rel =>
            refine ⟨k + 1, HKL.out, by go_num, ⟨.slice A5 n5 c5, hB5.set_ 2 _, ?_⟩, hE5.setCell (by simp only; omega) _⟩; rw [htk.out]
            exact (hO5.widen (Z' := fun b => gO < b) fun b hb _ => hb).keep ((Kp.refl w5).setCell (fun h => by
              rcases h with h | h
              · have h2 : gO < gO := h; omega
              · have h2 : gO + 1 ≤ gO := (hO5.row _ h).1; omega) _)
          case measure => have := HKL.out; simp [intOf] <;> omega
    · obtain rfl : k = s.rows.length := by omega
      rw [List.take_length] at hO; obtain ⟨A5, c5, rfl, hR5⟩ := Own.sl hO (by omega) (X := fun b => gO < b) (fun b hb => by rcases hb with hb | hb; exact hb; omega); have hRL := HRL.out; have hcX := Sl.keep hc (.of_ext hx); clear hRL
      go_wp2_with fail
      go_ret
      exact ⟨gO, rfl, ⟨cA, c, A5, c5, hB, .inr hgw, Sl.widen hcX (by omega) fun b hb _ => .inl hb, Sl.widen hR5 (by omega) fun b hb _ => .inr (by omega)⟩, hx⟩

set_option maxRecDepth 100000 in
set_option maxHeartbeats 1600000 in
theorem joined_no_c {g h fi N : Nat} {s o : Ps} {w : World} {X Y : Nat → Prop} (hs : SetV w X g s) (ho : SetV w Y h o) (hsk : s.ok N) (hok : o.ok N) (hq : ¬ Nat.lcm s.per o.per ≤ 4096) :
    Calls Tryz.prog 64 #[.pointer (some ⟨g, 0, none⟩), .pointer (some ⟨h, 0, none⟩), .func (.func fi) #[] #[]] w fun e w' =>
      e = .returned (.tuple #[.pointer none, .int .i64 180]) ∧ Ext w w' := by
  have p1 := hsk.per0; have p2 := hok.per0
  have hmade := fun (V : World) (hV : Ext w V) => made_set_c (l := [(g, s), (h, o)]) (w := V.alloc (.cells #[.pointer (some ⟨g, 0, none⟩), .pointer (some ⟨h, 0, none⟩)] 33)) (g := V.heap.size) (ty := 33) (Box.new_at _ _ _ rfl) (fun p hp => by
    simp only [List.mem_cons, List.not_mem_nil, or_false] at hp
    rcases hp with rfl | rfl
    · exact ⟨X, (hs.ext hV).ext ((Ext.refl V).alloc _), by have := hsk.rows; show 0 < s.rows.length; omega⟩
    · exact ⟨Y, (ho.ext hV).ext ((Ext.refl V).alloc _), by have := hok.rows; show 0 < o.rows.length; omega⟩) (by simp) 2 rfl
  have hcom := fun (V : World) => common_c s.per o.per p1 p2 hsk.per1 hok.per1 V
  obtain ⟨q, hqe⟩ : ∃ q, q = Nat.lcm s.per o.per := ⟨_, rfl⟩; rw [← hqe] at hq hcom
  have hq9 : q ≤ 16777216 := by
    rw [hqe]; have h1 := Nat.lcm_dvd_mul s.per o.per; have h2 := Nat.le_of_dvd (Nat.mul_pos p1 p2) h1; have h3 := Nat.mul_le_mul hsk.per1 hok.per1
    omega
  clear hqe; obtain ⟨cA, c, rA, d, hb, hX, hc, hr⟩ := id hs; obtain ⟨cB, c', rB, d', hb', hX', hc', hr'⟩ := id ho
  have bgr := hb.rules; have bgl := hb.lt
  have bhr := hb'.rules; have bhl := hb'.lt
  clear hc hr hc' hr' hX hX'
  go_enter Tryz.func64, Tryz.ntmps64
  go_upto_region 1 with fail
  refine wp_named fun W hW => ?_
  have b3 : Box W w.heap.size 33 #[.pointer (some ⟨g, 0, none⟩)] := by rw [hW]; exact bxt
  have b4 : Box W (w.heap.size + 1) 33 #[.pointer (some ⟨h, 0, none⟩)] := by rw [hW]; exact bxt
  have b5 : Box W (w.heap.size + 1 + 1) 96 #[.func (.func fi) #[] #[]] := by rw [hW]; exact bxt
  have hE : Ext w W := by rw [hW]; exact xt
  have hWs : W.heap.size = w.heap.size + 1 + 1 + 1 := by rw [hW]; simp only [wsz]
  clear hW; have hm := hmade W hE
  have b3r := b3.rules; have b3l := b3.lt
  have b4r := b4.rules; have b4l := b4.lt
  have HWs := Lib.hid hWs; clear hmade hWs bgr bhr
  go_wp2_with fail
  refine hm.mono ?_; rintro e w1 ⟨rfl, hx1⟩; have hE1 : Ext w w1 := hE.trans (Ext.trans ((Ext.refl W).alloc _) hx1); have c3 := (b3.alloc (.cells #[.pointer (some ⟨g, 0, none⟩), .pointer (some ⟨h, 0, none⟩)] 33)).ext hx1; have c4 := (b4.alloc (.cells #[.pointer (some ⟨g, 0, none⟩), .pointer (some ⟨h, 0, none⟩)] 33)).ext hx1; have c5 := (b5.alloc (.cells #[.pointer (some ⟨g, 0, none⟩), .pointer (some ⟨h, 0, none⟩)] 33)).ext hx1
  have b3r := c3.rules; have b3l := c3.lt
  have b4r := c4.rules; have b4l := c4.lt
  have bg := hb.ext hE1; have bh := hb'.ext hE1
  have bgr := bg.rules; have bgl := bg.lt
  have bhr := bh.rules; have bhl := bh.lt
  clear b3 b4 b5 hb hb' hm
  go_wp2_with fail
  refine wp_region_free [(0, 19, []), (1, 20, [(0, 19)]), (2, 21, [(1, 20)]), (3, 22, [(2, 21)]), (4, 23, []), (5, 24, [(4, 23)]), (6, 25, [(5, 24)]), (7, 26, [(6, 25)]), (8, 27, [(3, 22), (7, 26)]), (9, 8, [])] [10] [19, 20, 21, 22, 23, 24, 25, 26, 27, 8] [9] [] [phiEq (.pointer (some ⟨g, 0, none⟩)), phiEq (.pointer (some ⟨g, 0, none⟩)), phiEq (.pointer (some ⟨g, 0, none⟩)), phiEq (.int .i64 (s.per : Nat)), phiEq (.pointer (some ⟨h, 0, none⟩)), phiEq (.pointer (some ⟨h, 0, none⟩)), phiEq (.pointer (some ⟨h, 0, none⟩)), phiEq (.int .i64 (o.per : Nat)),
    phiEq (.int .i64 (q : Nat)), phiBox w1.heap.size 3 #[.int .i64 0]] rfl (by kernel_rfl) (by intro _ _ d _ _ h; cases d <;> exact h) (by kernel_rfl) (by kernel_rfl) ?_ ?_
  · (refine ps_eq rfl rfl rfl rfl rfl rfl ?_ ?_; focus exact tk0)
    (refine ps_eq rfl rfl rfl rfl rfl rfl ?_ ?_; focus exact tk0)
    (refine ps_eq rfl rfl rfl rfl rfl rfl ?_ ?_; focus exact tk0)
    (refine ps_eq rfl rfl rfl rfl rfl rfl ?_ ?_; focus exact tk0)
    (refine ps_eq rfl rfl rfl rfl rfl rfl ?_ ?_; focus exact tk0)
    (refine ps_eq rfl rfl rfl rfl rfl rfl ?_ ?_; focus exact tk0)
    (refine ps_eq rfl rfl rfl rfl rfl rfl ?_ ?_; focus exact tk0)
    (refine ps_eq rfl rfl rfl rfl rfl rfl ?_ ?_; focus exact tk0)
    (refine ps_loud rfl rfl rfl rfl rfl (fun f w1 hx hd K hK => ?_) ?_)
    · (have hc' := hx.cells.1; (try simp only [wcd] at hc'); (dsimp only [PhiDeps, phiAt, phiEq, phiZ, phiAny, phiBox] at hd); simp only [fillA, Act.put, List.setIfInBounds_toArray, List.set_cons_zero, List.set_cons_succ] at hK; (simp only [fillA]; (try simp only [pt])); (try simp only [hd] at hK ⊢); go_simp)
      refine (hcom _).mono ?_; rintro e w2 ⟨rfl, hx2⟩
      (refine hK _ _ xt ?_; dsimp only [phiAt, phiEq, phiZ, phiAny, phiBox])
    (refine ps_alloc rfl rfl rfl rfl rfl ?_ (by repeat (first | exact ab_nil | refine ab_cons rfl ?_)) ?_ ?_; (focus (first | omega | (simp only [wsz]; done) | (simp only [wsz]; omega))); (focus (intro f w1; (simp only [fillA]; (try simp only [pt])); go_simp; try (with_reducible rfl))))
    exact ps_nil
  · intro fv w2 hx2 hall hne
    (dsimp only [PhiAll, phiAt, phiEq, phiZ, phiAny, phiBox] at hall)
    obtain ⟨v19, v20, v21, v22, v23, v24, v25, v26, v27, ⟨g8, v8, hg8, hB8⟩, -⟩ := hall; clear hne
    have B8r := hB8.rules; have B8l := hB8.lt
    have hx2' : Ext w1 w2 := (Ext.refl w1).drew.trans hx2; have hE2 := hE1.trans hx2'; clear b3r b4r bgr bhr
    (simp only [fillA]; (try simp only [pt]))
    simp only [v19, v20, v21, v22, v23, v24, v25, v26, v27, v8]
    (refine sh_late rfl rfl fun K hK => ?_; go_simp; refine hK _ _ ?_; clear hK K)
    refine sh_end ?_
    refine x_named fun T hT => ?_
    have hET : Ext w1 T := by rw [hT]; exact hx2'.setCell hg8 _
    have b8 : Box T g8 3 #[.int .i64 (q : Nat)] := by rw [hT]; exact hB8.set_ 0 _
    clear hT B8r B8l hB8 hx2 hx2' v19 v20 v21 v22 v23 v24 v25 v26 v27 v8; have hEwT := hE1.trans hET
    have b8r := b8.rules; have b8l := b8.lt
    have hqn : (4096 : Int) < (q : Int) := by omega
    go_wp2_with fail
    (refine bodyPost_ret (v := ?_) ?_ rfl ?_; rotate_left; (simp only [results, Tryz.results64]; go_simp; (first | done | with_reducible rfl)))
    exact ⟨rfl, hEwT⟩

def joinP (f : Bool → Bool → Bool) (s o : Ps) (l : List Z) : Ps := ⟨Nat.lcm s.per o.per, (jfold f s o (Nat.lcm s.per o.per) l).1, (jfold f s o (Nat.lcm s.per o.per) l).2⟩

set_option maxHeartbeats 800000 in
theorem meet_no_c {g h N : Nat} {s o : Ps} {w : World} {X Y : Nat → Prop} (hs : SetV w X g s) (ho : SetV w Y h o) (hsk : s.ok N) (hok : o.ok N) (hq : ¬ Nat.lcm s.per o.per ≤ 4096) :
    Calls Tryz.prog 28 #[.pointer (some ⟨g, 0, none⟩), .pointer (some ⟨h, 0, none⟩)] w fun e w' => e = .returned (.tuple #[.pointer none, .int .i64 180]) ∧ Ext w w' := by
  have hc := joined_no_c (fi := 65) hs ho hsk hok hq; clear hq
  go_enter Tryz.func28, Tryz.ntmps28
  go_wp2_with fail
  refine hc.mono ?_; rintro e w1 ⟨rfl, hx1⟩
  go_wp2_with fail
  (refine bodyPost_ret (v := ?_) ?_ rfl ?_; rotate_left; (simp only [results, Tryz.results28]; go_simp; (first | done | with_reducible rfl)))
  exact ⟨rfl, hx1⟩
set_option maxHeartbeats 800000 in
theorem join_no_c {g h N : Nat} {s o : Ps} {w : World} {X Y : Nat → Prop} (hs : SetV w X g s) (ho : SetV w Y h o) (hsk : s.ok N) (hok : o.ok N) (hq : ¬ Nat.lcm s.per o.per ≤ 4096) :
    Calls Tryz.prog 52 #[.pointer (some ⟨g, 0, none⟩), .pointer (some ⟨h, 0, none⟩)] w fun e w' => e = .returned (.tuple #[.pointer none, .int .i64 180]) ∧ Ext w w' := by
  have hc := joined_no_c (fi := 90) hs ho hsk hok hq; clear hq
  go_enter Tryz.func52, Tryz.ntmps52
  go_wp2_with fail
  refine hc.mono ?_; rintro e w1 ⟨rfl, hx1⟩
  go_wp2_with fail
  (refine bodyPost_ret (v := ?_) ?_ rfl ?_; rotate_left; (simp only [results, Tryz.results52]; go_simp; (first | done | with_reducible rfl)))
  exact ⟨rfl, hx1⟩
set_option maxHeartbeats 400000 in
theorem join1_c (x y : Bool) (w : World) :
    Calls Tryz.prog 90 #[.bool x, .bool y] w fun e w' => e = .returned (.bool (x || y)) ∧ Ext w w' := by
  go_enter Tryz.func90, Tryz.ntmps90
  cases x
  · go_wp2_with fail
    go_ret
    exact ⟨by simp, xt⟩
  · go_wp2_with fail
    go_ret
    exact ⟨rfl, xt⟩
set_option maxHeartbeats 800000 in
theorem join_c {g h N : Nat} {s o : Ps} {w : World} {X Y : Nat → Prop} (hs : SetV w X g s) (ho : SetV w Y h o) (hsk : s.ok N) (hok : o.ok N) (hq : Nat.lcm s.per o.per ≤ 4096) :
    Calls Tryz.prog 52 #[.pointer (some ⟨g, 0, none⟩), .pointer (some ⟨h, 0, none⟩)] w fun e w' =>
      ∃ r l, Mrg s o l ∧ e = .returned (.tuple #[.pointer (some ⟨r, 0, none⟩), .int .i64 0]) ∧ SetV w' (fun b => X b ∨ Y b ∨ w.heap.size ≤ b) r ⟨Nat.lcm s.per o.per, (jfold or s o (Nat.lcm s.per o.per) l).1, (jfold or s o (Nat.lcm s.per o.per) l).2⟩ ∧ Ext w w' := by
  have eg : ∀ args w, (callFunc 90 args).run Tryz.prog w = .ok (.enter 90 args) w := enters_of Tryz.func90 (by kernel_rfl) rfl
  have hc := joined_c (fi := 90) (f := or) hs ho hsk hok eg (fun x y W => join1_c x y W) hq
  obtain ⟨R, hR⟩ : ∃ R : List Z → Ps, R = fun l => ⟨Nat.lcm s.per o.per, (jfold or s o (Nat.lcm s.per o.per) l).1, (jfold or s o (Nat.lcm s.per o.per) l).2⟩ := ⟨_, rfl⟩
  have hR' : ∀ l, (⟨Nat.lcm s.per o.per, (jfold or s o (Nat.lcm s.per o.per) l).1, (jfold or s o (Nat.lcm s.per o.per) l).2⟩ : Ps) = R l := fun l => by rw [hR]
  simp only [hR'] at hc ⊢; clear hR hR'
  go_enter Tryz.func52, Tryz.ntmps52
  go_wp2_with fail
  refine hc.mono ?_; rintro e w1 ⟨r, l, hM, rfl, hS, hx1⟩
  go_wp2_with fail
  (refine bodyPost_ret (v := ?_) ?_ rfl ?_; rotate_left; (simp only [results, Tryz.results52]; go_simp; (first | done | with_reducible rfl)))
  exact ⟨r, l, hM, rfl, hS, hx1⟩

set_option maxHeartbeats 1600000 in
theorem class_zero_c {u v : Value} {x y : Z} {w : World} {X Y : Nat → Prop} (hx : Zi w X u x) (hy : Zi w Y v y) (h0 : x.v = 0) :
    Calls Tryz.prog 25 #[u, v] w fun e w' => e = .returned (.tuple #[.pointer none, .int .i64 11]) ∧ Ext w w' := by
  have hxi := hx; have hsg : sgn x.v = 0 := sgn_zero.2 h0
  have hsign := fun (V : World) (hV : Ext w V) => zsign_c (hxi.ext hV)
  rw [hsg] at hsign; clear hsg h0; obtain ⟨A, c, rfl, hx⟩ := hx; obtain ⟨B, d, rfl, hy⟩ := hy
  go_enter Tryz.func25, Tryz.ntmps25
  go_wp2_with fail
  refine (hsign _ xt).mono ?_; rintro e w1 ⟨rfl, hx1⟩; have hE : Ext w w1 := xt
  go_wp2_with fail
  (refine bodyPost_ret (v := ?_) ?_ rfl ?_; rotate_left; (simp only [results, Tryz.results25]; go_simp; (first | done | with_reducible rfl)))
  exact ⟨rfl, xt⟩
set_option maxHeartbeats 1600000 in
theorem class_long_c {u v : Value} {x y : Z} {w : World} {X Y : Nat → Prop} (hx : Zi w X u x) (hy : Zi w Y v y) (hLx : x.mag.length ≤ 1099511627776) (h0 : x.v ≠ 0) (h1 : ¬ x.v.natAbs ≤ 4096) :
    Calls Tryz.prog 25 #[u, v] w fun e w' => e = .returned (.tuple #[.pointer none, .int .i64 180]) ∧ Ext w w' := by
  have hxi := hx
  have hsg : (sgn x.v == 0) = false := by rw [beq_eq_false_iff_ne]; exact fun h => h0 (sgn_zero.1 h)
  obtain ⟨sg, hsge⟩ : ∃ sg, sg = sgn x.v := ⟨_, rfl⟩
  have hsign := fun (V : World) (hV : Ext w V) => zsign_c (hxi.ext hV)
  have hper := fun (V : World) (hV : Ext w V) => period_c (hxi.ext hV) hLx
  have hd : decide (x.v.natAbs ≤ 4096) = false := decide_eq_false h1; rw [← hsge] at hsign hsg; clear hsge h0; obtain ⟨A, c, rfl, hx⟩ := hx; obtain ⟨B, d, rfl, hy⟩ := hy
  go_enter Tryz.func25, Tryz.ntmps25
  go_wp2_with fail
  have hE0 : Ext w _ := (((Ext.refl w).alloc (.cells #[.bool x.neg, .slice A x.mag.length c] 25)).alloc (.cells #[.bool y.neg, .slice B y.mag.length d] 25)); refine (hsign _ hE0).mono ?_; rintro e w1 ⟨rfl, hx1⟩; have b2 : Box w1 w.heap.size 25 #[.bool x.neg, .slice A x.mag.length c] := Box.ext bxt hx1; have hE := hE0.trans hx1
  have b2r := b2.rules; have b2l := b2.lt
  clear hE0; rw [hd] at hper; obtain ⟨pv, hpv⟩ : ∃ pv, pv = i64v ((x.v.natAbs : Nat) : Int) := ⟨_, rfl⟩; rw [← hpv] at hper; clear hpv hd h1
  go_wp2_with fail
  refine (hper _ hE).mono ?_; rintro e w2 ⟨rfl, hx2⟩; have hE2 := hE.trans hx2
  go_wp2_with fail
  (refine bodyPost_ret (v := ?_) ?_ rfl ?_; rotate_left; (simp only [results, Tryz.results25]; go_simp; (first | done | with_reducible rfl)))
  exact ⟨rfl, xt⟩

end Go.Proofs.YtpkfjbljhneenaaGreat

namespace Go.Proofs.YtpkfjbljhneenaaGreat
open Go.RowKit Go.Shelf

def mg : List Z → List Z → List Z
 | [], b => b
 | x :: a, [] => x :: a
 | x :: a, y :: b => if x.v < y.v then x :: mg a (y :: b) else if y.v < x.v then y :: mg (x :: a) b else x :: mg a b
termination_by a b => a.length + b.length
theorem ris_ext : ∀ {a b : List Int}, Ris a → Ris b → (∀ x, x ∈ a ↔ x ∈ b) → a = b
 | [], [], _, _, _ => rfl
 | [], y :: b, _, _, h => by have := (h y).2 (by simp); simp at this
 | x :: a, [], _, _, h => by have := (h x).1 (by simp); simp at this
 | x :: a, y :: b, ha, hb, h => by
  obtain ⟨h1, h2⟩ := List.pairwise_cons.1 ha; obtain ⟨h3, h4⟩ := List.pairwise_cons.1 hb
  have e : x = y := by
   have k1 := (h x).1 (by simp); have k2 := (h y).2 (by simp)
   rcases List.mem_cons.1 k1 with e | k1
   ·exact e
   ·rcases List.mem_cons.1 k2 with e | k2
    ·exact e.symm
    ·have := h3 x k1; have := h1 y k2; omega
  subst e
  congr 1
  refine ris_ext h2 h4 fun z => ⟨fun hz => ?_, fun hz => ?_⟩
  ·rcases List.mem_cons.1 ((h z).1 (List.mem_cons_of_mem _ hz)) with e | k
   ·have := h1 z hz; omega
   ·exact k
  ·rcases List.mem_cons.1 ((h z).2 (List.mem_cons_of_mem _ hz)) with e | k
   ·have := h3 z hz; omega
   ·exact k
theorem mg_mem : ∀ {a b : List Z} {z : Z}, z ∈ mg a b → z ∈ a ∨ z ∈ b
 | [], b, z, h => by rw [mg] at h; exact .inr h
 | x :: a, [], z, h => by rw [mg] at h; exact .inl h
 | x :: a, y :: b, z, h => by
  rw [mg] at h
  split at h
  ·rcases List.mem_cons.1 h with e | h
   ·exact .inl (by rw [e]; simp)
   ·exact (mg_mem h).imp (List.mem_cons_of_mem _) id
  ·split at h
   ·rcases List.mem_cons.1 h with e | h
    ·exact .inr (by rw [e]; simp)
    ·exact (mg_mem h).imp id (List.mem_cons_of_mem _)
   ·rcases List.mem_cons.1 h with e | h
    ·exact .inl (by rw [e]; simp)
    ·exact (mg_mem h).imp (List.mem_cons_of_mem _) (List.mem_cons_of_mem _)
termination_by a b => a.length + b.length
theorem mg_has : ∀ {a b : List Z} {z : Z}, z ∈ a ∨ z ∈ b → z.v ∈ zv (mg a b)
 | [], b, z, h => by
  rw [mg]
  rcases h with h | h
  ·simp at h
  ·exact List.mem_map.2 ⟨z, h, rfl⟩
 | x :: a, [], z, h => by
  rw [mg]
  rcases h with h | h
  ·exact List.mem_map.2 ⟨z, h, rfl⟩
  ·simp at h
 | x :: a, y :: b, z, h => by
  rw [mg]
  have h' : z = x ∨ z ∈ a ∨ z = y ∨ z ∈ b := by
   rcases h with h | h
   ·rcases List.mem_cons.1 h with h | h
    ·exact .inl h
    ·exact .inr (.inl h)
   ·rcases List.mem_cons.1 h with h | h
    ·exact .inr (.inr (.inl h))
    ·exact .inr (.inr (.inr h))
  split
  ·simp only [zv, List.map_cons, List.mem_cons]
   rcases h' with h | h | h | h
   ·exact .inl (by rw [h])
   ·exact .inr (mg_has (.inl h))
   ·exact .inr (mg_has (.inr (by rw [h]; simp)))
   ·exact .inr (mg_has (.inr (List.mem_cons_of_mem _ h)))
  ·split
   ·simp only [zv, List.map_cons, List.mem_cons]
    rcases h' with h | h | h | h
    ·exact .inr (mg_has (.inl (by rw [h]; simp)))
    ·exact .inr (mg_has (.inl (List.mem_cons_of_mem _ h)))
    ·exact .inl (by rw [h])
    ·exact .inr (mg_has (.inr h))
   ·simp only [zv, List.map_cons, List.mem_cons]
    rcases h' with h | h | h | h
    ·exact .inl (by rw [h])
    ·exact .inr (mg_has (.inl h))
    ·exact .inl (by rw [h]; omega)
    ·exact .inr (mg_has (.inr h))
termination_by a b => a.length + b.length
theorem mg_ris : ∀ {a b : List Z}, Ris (zv a) → Ris (zv b) → Ris (zv (mg a b))
 | [], b, _, hb => by rw [mg]; exact hb
 | x :: a, [], ha, _ => by rw [mg]; exact ha
 | x :: a, y :: b, ha, hb => by
  have ha' := ha; have hb' := hb
  obtain ⟨h1, h2⟩ := List.pairwise_cons.1 ha; obtain ⟨h3, h4⟩ := List.pairwise_cons.1 hb
  have ma : ∀ z ∈ a, x.v < z.v := fun z hz => h1 z.v (List.mem_map.2 ⟨z, hz, rfl⟩)
  have mb : ∀ z ∈ b, y.v < z.v := fun z hz => h3 z.v (List.mem_map.2 ⟨z, hz, rfl⟩)
  rw [mg]
  split
  ·refine List.pairwise_cons.2 ⟨fun k hk => ?_, mg_ris h2 hb'⟩; obtain ⟨z, hz, rfl⟩ := List.mem_map.1 hk
   rcases mg_mem hz with hz | hz
   ·exact ma z hz
   ·rcases List.mem_cons.1 hz with e | hz
    ·rw [e]; assumption
    ·have := mb z hz; omega
  ·split
   ·refine List.pairwise_cons.2 ⟨fun k hk => ?_, mg_ris ha' h4⟩; obtain ⟨z, hz, rfl⟩ := List.mem_map.1 hk
    rcases mg_mem hz with hz | hz
    ·rcases List.mem_cons.1 hz with e | hz
     ·rw [e]; assumption
     ·have := ma z hz; omega
    ·exact mb z hz
   ·refine List.pairwise_cons.2 ⟨fun k hk => ?_, mg_ris h2 h4⟩; obtain ⟨z, hz, rfl⟩ := List.mem_map.1 hk
    rcases mg_mem hz with hz | hz
    ·exact ma z hz
    ·have := mb z hz; omega
termination_by a b => a.length + b.length
theorem mg_len : ∀ (a b : List Z), (mg a b).length ≤ a.length + b.length
 | [], b => by rw [mg]; simp
 | x :: a, [] => by rw [mg]; simp
 | x :: a, y :: b => by
  rw [mg]
  split
  ·have := mg_len a (y :: b); simp only [List.length_cons] at this ⊢; omega
  ·split
   ·have := mg_len (x :: a) b; simp only [List.length_cons] at this ⊢; omega
   ·have := mg_len a b; simp only [List.length_cons] at this ⊢; omega
termination_by a b => a.length + b.length
theorem mrg_mg {s o : Ps} {N : Nat} (hs : s.ok N) (ho : o.ok N) : Mrg s o (mg s.cuts o.cuts) := ⟨mg_ris hs.ris ho.ris, fun _ h => mg_mem h, fun _ h => mg_has h, mg_len _ _⟩
theorem mrg_eq {s o : Ps} {N : Nat} {l : List Z} (hs : s.ok N) (ho : o.ok N) (h : Mrg s o l) : l = mg s.cuts o.cuts := by
 have h' := mrg_mg hs ho
 have hcz : ∀ k : List Z, Mrg s o k → k = (zv k).map cz := fun k hk => by
  rw [zv, List.map_map]
  conv => lhs; rw [← List.map_id k]
  apply List.map_congr_left
  intro z hz
  rcases hk.2.1 z hz with h1 | h1
  ·exact (hs.cut z h1).2.symm
  ·exact (ho.cut z h1).2.symm
 have hin : ∀ {k m : List Z}, Mrg s o k → Mrg s o m → ∀ x, x ∈ zv k → x ∈ zv m := fun {k m} hk hm x hx => by
  obtain ⟨z, hz, rfl⟩ := List.mem_map.1 hx; exact hm.2.2.1 z (hk.2.1 z hz)
 have e : zv l = zv (mg s.cuts o.cuts) := ris_ext h.1 h'.1 fun x => ⟨hin h h' x, hin h' h x⟩
 rw [hcz l h, hcz _ h', e]

def pickN (c : Int) (n : Nat) : Nat := (if c < 0 then -(c + 1) else c).toNat % n
theorem pickN_lt (c : Int) {n : Nat} (h : 0 < n) : pickN c n < n := Nat.mod_lt _ h
structure Mk where
 kind : Int
 a : Int
 b : Int
 k : Z
 d : Z
def sth (l : List Ps) (k : Nat) : Ps := l.getD k noneP
theorem sth_eq (l : List Ps) (k : Nat) (h : k < l.length) : sth l k = l[k] := by simp [sth, h]
theorem sth_mem {l : List Ps} {k : Nat} (h : k < l.length) : sth l k ∈ l := by rw [sth_eq l k h]; exact List.getElem_mem h
def meetP (s o : Ps) : Ps := joinP and s o (mg s.cuts o.cuts)
def jnP (s o : Ps) : Ps := joinP or s o (mg s.cuts o.cuts)
def aboveP (x : Int) : Ps := ⟨1, [cz (x + 1)], [[false], [true]]⟩
def classP (p : Nat) (y : Int) : Ps := ⟨p, [], [(List.replicate p false).set (y % (p : Int)).toNat true]⟩
def doF (m : Mk) (l : List Ps) : Except Int Ps :=
 if pickN m.kind 8 ≤ 1 then .ok (aboveP m.k.v)
 else if pickN m.kind 8 ≤ 3 then if m.d.v = 0 then .error 11 else if m.d.v.natAbs ≤ 4096 then .ok (classP m.d.v.natAbs m.k.v) else .error 180
 else if pickN m.kind 8 = 4 then .ok (restP (sth l (pickN m.a l.length)))
 else if Nat.lcm (sth l (pickN m.a l.length)).per (sth l (pickN m.b l.length)).per ≤ 4096 then
  .ok (if pickN m.kind 8 ≤ 6 then meetP (sth l (pickN m.a l.length)) (sth l (pickN m.b l.length)) else jnP (sth l (pickN m.a l.length)) (sth l (pickN m.b l.length)))
 else .error 180
def addF (l : List Ps) (m : Mk) : List Ps := match doF m l with
 | .ok s => l ++ [s]
 | .error _ => l
def buildF (ms : List Mk) : List Ps := (ms.take 12).foldl addF [noneP]
theorem buildF_step {ms : List Mk} {k : Nat} (h : k < ms.length) : (ms.take (k + 1)).foldl addF [noneP] = addF ((ms.take k).foldl addF [noneP]) ms[k] := by
 rw [List.take_succ_eq_append_getElem h, List.foldl_append]; rfl
structure LOk (N j : Nat) (l : List Ps) : Prop where
 pos : 0 < l.length
 len : l.length ≤ j + 1
 ok : ∀ s ∈ l, s.ok N
 cut : ∀ s ∈ l, s.cuts.length ≤ 2 ^ j
theorem lok_zero (N : Nat) : LOk N 0 [noneP] := ⟨by simp, by simp, fun s hs => by
 obtain rfl : s = noneP := by simpa using hs
 exact none_ok, fun s hs => by
 obtain rfl : s = noneP := by simpa using hs
 simp [noneP]⟩
theorem lcm_pos {s o : Ps} {N : Nat} (hs : s.ok N) (ho : o.ok N) : 0 < Nat.lcm s.per o.per := Nat.lcm_pos hs.per0 ho.per0
theorem joinP_ok {f : Bool → Bool → Bool} {s o : Ps} {N : Nat} (hs : s.ok N) (ho : o.ok N) (hq : Nat.lcm s.per o.per ≤ 4096) (hl : s.cuts.length + o.cuts.length ≤ 1048576) : (joinP f s o (mg s.cuts o.cuts)).ok N ∧ (joinP f s o (mg s.cuts o.cuts)).cuts.length ≤ s.cuts.length + o.cuts.length :=
 ⟨joined_ok hs ho (mrg_mg hs ho) (lcm_pos hs ho) hq hl, Nat.le_trans (jfold_len f s o _ _).1 (mg_len _ _)⟩
theorem doF_ok {m : Mk} {l : List Ps} {N j : Nat} (hl : LOk N j l) (hj : j ≤ 12) (hk : zl (m.k.v + 1) ≤ N) {s : Ps} (h : doF m l = .ok s) : s.ok N ∧ s.cuts.length ≤ 2 ^ (j + 1) := by
 have h2 : 2 ^ (j + 1) = 2 ^ j + 2 ^ j := by rw [Nat.pow_succ]; omega
 have h3 : 1 ≤ 2 ^ j := Nat.one_le_two_pow; have h4 : 2 ^ j ≤ 4096 := Nat.pow_le_pow_right (by omega) (show j ≤ 12 from hj)
 have ma := sth_mem (pickN_lt m.a hl.pos); have mb := sth_mem (pickN_lt m.b hl.pos)
 have oa := hl.ok _ ma; have ob := hl.ok _ mb; have ca := hl.cut _ ma; have cb := hl.cut _ mb
 unfold doF at h
 split at h
 ·injection h with h; subst h
  exact ⟨above_ok hk, by show 1 ≤ _; omega⟩
 ·split at h
  ·split at h
   ·cases h
   ·split at h
    ·injection h with h; subst h
     exact ⟨class_ok (by omega) (by assumption), by show 0 ≤ _; omega⟩
    ·cases h
  ·split at h
   ·injection h with h; subst h
    exact ⟨rest_ok oa, by show (sth l (pickN m.a l.length)).cuts.length ≤ _; omega⟩
   ·split at h
    ·rename_i hq
     injection h with h; subst h
     split
     ·have := joinP_ok (f := and) oa ob hq (by omega); exact ⟨this.1, Nat.le_trans this.2 (by omega)⟩
     ·have := joinP_ok (f := or) oa ob hq (by omega); exact ⟨this.1, Nat.le_trans this.2 (by omega)⟩
    ·cases h
theorem addF_ok {m : Mk} {l : List Ps} {N j : Nat} (hl : LOk N j l) (hj : j ≤ 12) (hk : zl (m.k.v + 1) ≤ N) : LOk N (j + 1) (addF l m) := by
 have h2 : 2 ^ (j + 1) = 2 ^ j + 2 ^ j := by rw [Nat.pow_succ]; omega
 unfold addF
 cases h : doF m l with
 | ok s =>
  have h1 := doF_ok hl hj hk h; refine ⟨by simp, by simp only [List.length_append, List.length_singleton]; have := hl.len; omega, fun t ht => ?_, fun t ht => ?_⟩
  ·rcases List.mem_append.1 ht with ht | ht
   ·exact hl.ok t ht
   ·obtain rfl : t = s := by simpa using ht
    exact h1.1
  ·rcases List.mem_append.1 ht with ht | ht
   ·have := hl.cut t ht; omega
   ·obtain rfl : t = s := by simpa using ht
    exact h1.2
 | error x => exact ⟨hl.pos, by have := hl.len; simp only; omega, hl.ok, fun t ht => by have := hl.cut t ht; omega⟩
theorem buildK_ok {ms : List Mk} {N : Nat} (hm : ∀ m ∈ ms, zl (m.k.v + 1) ≤ N) : ∀ {k : Nat}, k ≤ ms.length → k ≤ 12 → LOk N k ((ms.take k).foldl addF [noneP])
 | 0, _, _ => lok_zero N
 | k + 1, h, h12 => by
  rw [buildF_step (by omega)]; exact addF_ok (buildK_ok hm (by omega) (by omega)) (by omega) (hm _ (List.getElem_mem _))

end Go.Proofs.YtpkfjbljhneenaaGreat
