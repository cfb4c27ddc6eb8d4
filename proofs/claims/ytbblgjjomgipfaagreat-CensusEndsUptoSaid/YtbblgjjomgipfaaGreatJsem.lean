/- periods, in plain words: what joined sets have. No conditions. -/
import Derived.Test.YtbblgjjomgipfaaGreatCnt0
import Derived.Test.YtbblgjjomgipfaaGreatMade
import Derived.Test.YtbblgjjomgipfaaGreatJoin
namespace Go.Proofs.YtbblgjjomgipfaaGreat
open Go.RowKit Go.Shelf

theorem lbd_snoc_gt : ∀ {l : List Int} {c x : Int}, x ≤ c → lbd (l ++ [c]) x = lbd l x
  | [], c, x, h => by
    show lbd [c] x = 0
    unfold lbd
    rw [if_neg (by omega)]
  | b :: l, c, x, h => by
    rw [List.cons_append]
    unfold lbd
    rw [lbd_snoc_gt h]
theorem lbd_all : ∀ {l : List Int} {x : Int}, (∀ c ∈ l, c < x) → lbd l x = l.length
  | [], _, _ => rfl
  | b :: l, x, h => by
    unfold lbd
    rw [if_pos (h b (by simp)), lbd_all fun c hc => h c (List.mem_cons_of_mem _ hc)]
    rfl
theorem lbd_none : ∀ {l : List Int} {x : Int}, (∀ c ∈ l, x ≤ c) → lbd l x = 0
  | [], _, _ => rfl
  | b :: l, x, h => by
    unfold lbd
    rw [if_neg (by have := h b (by simp); omega)]
/-- What both say where x is. -/
def jx (f : Bool → Bool → Bool) (s o : Ps) (q : Nat) (x : Int) : List Bool := jrow f (rth s.rows (plc (zv s.cuts) x)) (rth o.rows (plc (zv o.cuts) x)) q
theorem jx_same {f : Bool → Bool → Bool} {s o : Ps} {q : Nat} {a x : Int} (h : a ≤ x) (h1 : Fre (zv s.cuts) a x) (h2 : Fre (zv o.cuts) a x) : jx f s o q a = jx f s o q x := by
  unfold jx
  rw [plc_same h h1, plc_same h h2]
theorem zv_snoc (l : List Z) (c : Z) : zv (l ++ [c]) = zv l ++ [c.v] := by simp [zv]
theorem rth_last (l : List (List Bool)) (r : List Bool) : rth (l ++ [r]) l.length = r := by simp [rth]
theorem rth_fore (l : List (List Bool)) (r : List Bool) {k : Nat} (h : k < l.length) : rth (l ++ [r]) k = rth l k := by
  unfold rth
  rw [List.getD_eq_getElem?_getD, List.getD_eq_getElem?_getD, List.getElem?_append_left h]
/-- What the fold holds behind its first elements. -/
structure JG (f : Bool → Bool → Bool) (s o : Ps) (q : Nat) (pre post : List Z) (cr : List Z × List (List Bool)) : Prop where
  len : cr.2.length = cr.1.length + 1
  ris : Ris (zv cr.1)
  sub : ∀ z ∈ cr.1, z ∈ pre
  rows : ∀ r ∈ cr.2, r.length = q
  tell : ∀ x, (∀ c ∈ post, x < c.v) → rth cr.2 (plc (zv cr.1) x) = jx f s o q x
theorem jg_step {f : Bool → Bool → Bool} {s o : Ps} {q : Nat} {pre post : List Z} {c : Z} {cr : List Z × List (List Bool)} (hr : Ris (zv (pre ++ c :: post))) (hs : ∀ z ∈ s.cuts, z.v ∈ zv (pre ++ c :: post)) (ho : ∀ z ∈ o.cuts, z.v ∈ zv (pre ++ c :: post))
    (h : JG f s o q pre (c :: post) cr) : JG f s o q (pre ++ [c]) post (jstep f s o q cr c) := by
  have hr' := hr
  rw [Ris, zv, List.map_append, List.map_cons, List.pairwise_append, List.pairwise_cons] at hr'
  obtain ⟨_, ⟨hcp, hpp⟩, hpre⟩ := hr'
  have hlow : ∀ z ∈ cr.1, z.v < c.v := fun z hz => hpre z.v (List.mem_map.2 ⟨z, h.sub z hz, rfl⟩) c.v (by simp)
  have hfre : ∀ x, c.v ≤ x → (∀ d ∈ post, x < d.v) → jx f s o q c.v = jx f s o q x := fun x hx hp => by
    have key : ∀ {l : List Z}, (∀ z ∈ l, z.v ∈ zv (pre ++ c :: post)) → Fre (zv l) c.v x := fun {l} hl k hk ⟨h1, h2⟩ => by
      obtain ⟨z, hz, rfl⟩ := List.mem_map.1 hk
      have := hl z hz
      rw [zv, List.map_append, List.map_cons] at this
      rcases List.mem_append.1 this with h3 | h3
      · have := hpre _ h3 c.v (by simp); omega
      · rcases List.mem_cons.1 h3 with h3 | h3
        · omega
        · obtain ⟨d, hd, h4⟩ := List.mem_map.1 h3
          have := hp d hd; omega
    exact jx_same hx (key hs) (key ho)
  have hbelow : ∀ x, x < c.v → ∀ d ∈ c :: post, x < d.v := fun x hx d hd => by
    rcases List.mem_cons.1 hd with rfl | hd
    · exact hx
    · have := hcp d.v (List.mem_map.2 ⟨d, hd, rfl⟩); omega
  have hlastp : ∀ x, c.v ≤ x → plc (zv cr.1) x = cr.1.length := fun x hx => by
    unfold plc
    rw [lbd_all, zv_len]
    intro k hk
    obtain ⟨z, hz, rfl⟩ := List.mem_map.1 hk
    have := hlow z hz; omega
  unfold jstep
  split
  · rename_i heq
    refine ⟨h.len, h.ris, fun z hz => List.mem_append_left _ (h.sub z hz), h.rows, fun x hx => ?_⟩
    by_cases hc : x < c.v
    · exact h.tell x (hbelow x hc)
    · rw [hlastp x (by omega), ← hfre x (by omega) hx]
      have e : cr.1.length = cr.2.length - 1 := by rw [h.len]; rfl
      rw [e, ← heq]
      rfl
  · refine ⟨by simp [h.len], ?_, fun z hz => ?_, fun r hr => ?_, fun x hx => ?_⟩
    · rw [zv_snoc, Ris, List.pairwise_append]
      refine ⟨h.ris, by simp, fun a ha b hb => ?_⟩
      obtain ⟨z, hz, rfl⟩ := List.mem_map.1 ha
      obtain rfl : b = c.v := by simpa using hb
      exact hlow z hz
    · rcases List.mem_append.1 hz with hz | hz
      · exact List.mem_append_left _ (h.sub z hz)
      · exact List.mem_append_right _ hz
    · rcases List.mem_append.1 hr with hr | hr
      · exact h.rows r hr
      · obtain rfl : r = jAt f s o q c := by simpa using hr
        exact jrow_len _ _ _ _
    · simp only
      rw [zv_snoc]
      by_cases hc : x < c.v
      · have e : plc (zv cr.1 ++ [c.v]) x = plc (zv cr.1) x := lbd_snoc_gt (by omega)
        have hle := plc_le (zv cr.1) x
        rw [zv_len] at hle
        rw [e, rth_fore _ _ (by rw [h.len]; omega)]
        exact h.tell x (hbelow x hc)
      · have e : plc (zv cr.1 ++ [c.v]) x = cr.2.length := by
          unfold plc
          rw [lbd_all, List.length_append, zv_len, h.len]
          · rfl
          · intro k hk
            rcases List.mem_append.1 hk with hk | hk
            · obtain ⟨z, hz, rfl⟩ := List.mem_map.1 hk
              have := hlow z hz; omega
            · obtain rfl : k = c.v := by simpa using hk
              omega
        rw [e, rth_last, ← hfre x (by omega) hx]
        rfl
theorem jg_all {f : Bool → Bool → Bool} {s o : Ps} {q : Nat} : ∀ {post pre : List Z} {cr : List Z × List (List Bool)}, Ris (zv (pre ++ post)) → (∀ z ∈ s.cuts, z.v ∈ zv (pre ++ post)) → (∀ z ∈ o.cuts, z.v ∈ zv (pre ++ post)) → JG f s o q pre post cr →
    JG f s o q (pre ++ post) [] (post.foldl (jstep f s o q) cr)
  | [], pre, cr, _, _, _, h => by simpa using h
  | c :: post, pre, cr, hr, hs, ho, h => by
    have e : pre ++ c :: post = pre ++ [c] ++ post := by simp
    rw [List.foldl_cons, e]
    exact jg_all (by rw [← e]; exact hr) (by rw [← e]; exact hs) (by rw [← e]; exact ho) (jg_step hr hs ho h)
theorem jg_end {f : Bool → Bool → Bool} {s o : Ps} {q : Nat} {l : List Z} (hm : Mrg s o l) : JG f s o q l [] (jfold f s o q l) := by
  have := jg_all (f := f) (s := s) (o := o) (q := q) (post := l) (pre := []) (cr := ([], [jrow f (rth s.rows 0) (rth o.rows 0) q])) hm.1 (fun z hz => hm.2.2.1 z (.inl hz)) (fun z hz => hm.2.2.1 z (.inr hz))
    ⟨rfl, by simp [zv], by simp, by simp [jrow_len], fun x hx => by
      have key : ∀ {k : List Z}, (∀ z ∈ k, z.v ∈ zv l) → plc (zv k) x = 0 := fun {k} hk => lbd_none fun c hc => by
        obtain ⟨z, hz, rfl⟩ := List.mem_map.1 hc
        obtain ⟨d, hd, e⟩ := List.mem_map.1 (hk z hz)
        have := hx d hd; omega
      unfold jx
      rw [key fun z hz => hm.2.2.1 z (.inl hz), key fun z hz => hm.2.2.1 z (.inr hz)]
      rfl⟩
  rw [List.nil_append] at this
  exact this
theorem joined_ok {f : Bool → Bool → Bool} {s o : Ps} {q N : Nat} {l : List Z} (hs : s.ok N) (ho : o.ok N) (hm : Mrg s o l) (hq0 : 0 < q) (hq : q ≤ 4096) (hl : s.cuts.length + o.cuts.length ≤ 1048576) : (⟨q, (jfold f s o q l).1, (jfold f s o q l).2⟩ : Ps).ok N := by
  have h := jg_end (f := f) (q := q) hm
  have h1 := (jfold_len f s o q l).1
  have h2 := hm.2.2.2
  refine ⟨hq0, hq, h.len, h.rows, h.ris, by simp only; omega, fun c hc => ?_⟩
  rcases hm.2.1 c (h.sub c hc) with h3 | h3
  · exact hs.cut c h3
  · exact ho.cut c h3
theorem mod_dvd {x : Int} {p q : Nat} (hp : 0 < p) (hq : 0 < q) (hd : p ∣ q) : (x % (q : Int)).toNat % p = (x % (p : Int)).toNat := by
  have h1 := Int.emod_nonneg x (show (q : Int) ≠ 0 by omega)
  have h2 := Int.emod_nonneg x (show (p : Int) ≠ 0 by omega)
  have h3 : ((x % (q : Int)).toNat : Int) = x % (q : Int) := Int.toNat_of_nonneg h1
  have h4 : (((x % (q : Int)).toNat % p : Nat) : Int) = x % (p : Int) := by
    rw [Int.natCast_emod, h3]
    exact Int.emod_emod_of_dvd x (Int.natCast_dvd_natCast.2 hd)
  omega
theorem joined_has {f : Bool → Bool → Bool} {s o : Ps} {q N : Nat} {l : List Z} (hs : s.ok N) (ho : o.ok N) (hm : Mrg s o l) (hq0 : 0 < q) (h1 : s.per ∣ q) (h2 : o.per ∣ q) (x : Int) : (⟨q, (jfold f s o q l).1, (jfold f s o q l).2⟩ : Ps).has x = f (s.has x) (o.has x) := by
  have h := jg_end (f := f) (q := q) hm
  have e := h.tell x (by simp)
  have p1 := plc_le (zv s.cuts) x; have p2 := plc_le (zv o.cuts) x
  rw [zv_len] at p1 p2
  have r1 : (rth s.rows (plc (zv s.cuts) x)).length = s.per := by rw [rth_eq _ _ (by have := hs.rows; omega)]; exact hs.row _ (List.getElem_mem _)
  have r2 : (rth o.rows (plc (zv o.cuts) x)).length = o.per := by rw [rth_eq _ _ (by have := ho.rows; omega)]; exact ho.row _ (List.getElem_mem _)
  have hlt := Int.emod_lt_of_pos x (show (0 : Int) < (q : Int) by omega)
  have hge := Int.emod_nonneg x (show (q : Int) ≠ 0 by omega)
  unfold Ps.has
  simp only
  rw [e]
  unfold jx
  rw [jrow_at (by omega), r1, r2, mod_dvd hs.per0 hq0 h1, mod_dvd ho.per0 hq0 h2]

theorem above_ok {z : Int} {N : Nat} (h : zl (z + 1) ≤ N) : (⟨1, [cz (z + 1)], [[false], [true]]⟩ : Ps).ok N :=
  ⟨by simp, by simp, rfl, by simp, by simp [zv], by simp, fun c hc => by
    obtain rfl : c = cz (z + 1) := by simpa using hc
    exact ⟨h, by rw [cz_v]⟩⟩
theorem above_has (z x : Int) : (⟨1, [cz (z + 1)], [[false], [true]]⟩ : Ps).has x = decide (z < x) := by
  unfold Ps.has
  have e : x % ((1 : Nat) : Int) = 0 := by omega
  simp only [zv, List.map_cons, List.map_nil, cz_v, e]
  unfold plc
  by_cases h : z < x
  · rw [lbd_all (by simp; omega), decide_eq_true h]; rfl
  · rw [lbd_none (by simp; omega), decide_eq_false h]; rfl
theorem class_ok {p i : Nat} {N : Nat} (h0 : 0 < p) (h1 : p ≤ 4096) : (⟨p, [], [(List.replicate p false).set i true]⟩ : Ps).ok N :=
  ⟨h0, h1, rfl, by simp, by simp [zv], by simp, by simp⟩
theorem class_has {p : Nat} (y x : Int) (h0 : 0 < p) : (⟨p, [], [(List.replicate p false).set (y % (p : Int)).toNat true]⟩ : Ps).has x = decide (x % (p : Int) = y % (p : Int)) := by
  have hlt := Int.emod_lt_of_pos x (show (0 : Int) < (p : Int) by omega)
  have hge := Int.emod_nonneg x (show (p : Int) ≠ 0 by omega)
  have hge2 := Int.emod_nonneg y (show (p : Int) ≠ 0 by omega)
  have e : (⟨p, [], [(List.replicate p false).set (y % (p : Int)).toNat true]⟩ : Ps).has x = bth ((List.replicate p false).set (y % (p : Int)).toNat true) (x % (p : Int)).toNat := rfl
  rw [e, bth_eq _ _ (by simp; omega), List.getElem_set]
  by_cases h : x % (p : Int) = y % (p : Int)
  · rw [if_pos (by omega), decide_eq_true h]
  · rw [if_neg (by omega), decide_eq_false h]; simp

end Go.Proofs.YtbblgjjomgipfaaGreat
