/- The sets that are wanted, in plain words: which, how they are made, that they may be. No conditions. -/
import Derived.Test.YtbblgjjomgipfaaGreatRest
namespace Go.Proofs.YtbblgjjomgipfaaGreat
open Go.RowKit Go.Shelf

/-- The cuts of two sets, rising, each once. -/
def mg : List Z → List Z → List Z
  | [], b => b
  | x :: a, [] => x :: a
  | x :: a, y :: b => if x.v < y.v then x :: mg a (y :: b) else if y.v < x.v then y :: mg (x :: a) b else x :: mg a b
termination_by a b => a.length + b.length
theorem ris_ext : ∀ {a b : List Int}, Ris a → Ris b → (∀ x, x ∈ a ↔ x ∈ b) → a = b
  | [], [], _, _, _ => rfl
  | [], y :: b, _, _, h => by have := (h y).2 (by simp); simp at this
  | x :: a, [], _, _, h => by have := (h x).1 (by simp); simp at this
  | x :: a, y :: b, ha, hb, h => by
    obtain ⟨h1, h2⟩ := List.pairwise_cons.1 ha
    obtain ⟨h3, h4⟩ := List.pairwise_cons.1 hb
    have e : x = y := by
      have k1 := (h x).1 (by simp)
      have k2 := (h y).2 (by simp)
      rcases List.mem_cons.1 k1 with e | k1
      · exact e
      · rcases List.mem_cons.1 k2 with e | k2
        · exact e.symm
        · have := h3 x k1; have := h1 y k2; omega
    subst e
    congr 1
    refine ris_ext h2 h4 fun z => ⟨fun hz => ?_, fun hz => ?_⟩
    · rcases List.mem_cons.1 ((h z).1 (List.mem_cons_of_mem _ hz)) with e | k
      · have := h1 z hz; omega
      · exact k
    · rcases List.mem_cons.1 ((h z).2 (List.mem_cons_of_mem _ hz)) with e | k
      · have := h3 z hz; omega
      · exact k
theorem mg_mem : ∀ {a b : List Z} {z : Z}, z ∈ mg a b → z ∈ a ∨ z ∈ b
  | [], b, z, h => by rw [mg] at h; exact .inr h
  | x :: a, [], z, h => by rw [mg] at h; exact .inl h
  | x :: a, y :: b, z, h => by
    rw [mg] at h
    split at h
    · rcases List.mem_cons.1 h with e | h
      · exact .inl (by rw [e]; simp)
      · exact (mg_mem h).imp (List.mem_cons_of_mem _) id
    · split at h
      · rcases List.mem_cons.1 h with e | h
        · exact .inr (by rw [e]; simp)
        · exact (mg_mem h).imp id (List.mem_cons_of_mem _)
      · rcases List.mem_cons.1 h with e | h
        · exact .inl (by rw [e]; simp)
        · exact (mg_mem h).imp (List.mem_cons_of_mem _) (List.mem_cons_of_mem _)
termination_by a b => a.length + b.length
theorem mg_has : ∀ {a b : List Z} {z : Z}, z ∈ a ∨ z ∈ b → z.v ∈ zv (mg a b)
  | [], b, z, h => by
    rw [mg]
    rcases h with h | h
    · simp at h
    · exact List.mem_map.2 ⟨z, h, rfl⟩
  | x :: a, [], z, h => by
    rw [mg]
    rcases h with h | h
    · exact List.mem_map.2 ⟨z, h, rfl⟩
    · simp at h
  | x :: a, y :: b, z, h => by
    rw [mg]
    have h' : z = x ∨ z ∈ a ∨ z = y ∨ z ∈ b := by
      rcases h with h | h
      · rcases List.mem_cons.1 h with h | h
        · exact .inl h
        · exact .inr (.inl h)
      · rcases List.mem_cons.1 h with h | h
        · exact .inr (.inr (.inl h))
        · exact .inr (.inr (.inr h))
    split
    · simp only [zv, List.map_cons, List.mem_cons]
      rcases h' with h | h | h | h
      · exact .inl (by rw [h])
      · exact .inr (mg_has (.inl h))
      · exact .inr (mg_has (.inr (by rw [h]; simp)))
      · exact .inr (mg_has (.inr (List.mem_cons_of_mem _ h)))
    · split
      · simp only [zv, List.map_cons, List.mem_cons]
        rcases h' with h | h | h | h
        · exact .inr (mg_has (.inl (by rw [h]; simp)))
        · exact .inr (mg_has (.inl (List.mem_cons_of_mem _ h)))
        · exact .inl (by rw [h])
        · exact .inr (mg_has (.inr h))
      · simp only [zv, List.map_cons, List.mem_cons]
        rcases h' with h | h | h | h
        · exact .inl (by rw [h])
        · exact .inr (mg_has (.inl h))
        · exact .inl (by rw [h]; omega)
        · exact .inr (mg_has (.inr h))
termination_by a b => a.length + b.length
theorem mg_ris : ∀ {a b : List Z}, Ris (zv a) → Ris (zv b) → Ris (zv (mg a b))
  | [], b, _, hb => by rw [mg]; exact hb
  | x :: a, [], ha, _ => by rw [mg]; exact ha
  | x :: a, y :: b, ha, hb => by
    have ha' := ha; have hb' := hb
    obtain ⟨h1, h2⟩ := List.pairwise_cons.1 ha
    obtain ⟨h3, h4⟩ := List.pairwise_cons.1 hb
    have ma : ∀ z ∈ a, x.v < z.v := fun z hz => h1 z.v (List.mem_map.2 ⟨z, hz, rfl⟩)
    have mb : ∀ z ∈ b, y.v < z.v := fun z hz => h3 z.v (List.mem_map.2 ⟨z, hz, rfl⟩)
    rw [mg]
    split
    · refine List.pairwise_cons.2 ⟨fun k hk => ?_, mg_ris h2 hb'⟩
      obtain ⟨z, hz, rfl⟩ := List.mem_map.1 hk
      rcases mg_mem hz with hz | hz
      · exact ma z hz
      · rcases List.mem_cons.1 hz with e | hz
        · rw [e]; assumption
        · have := mb z hz; omega
    · split
      · refine List.pairwise_cons.2 ⟨fun k hk => ?_, mg_ris ha' h4⟩
        obtain ⟨z, hz, rfl⟩ := List.mem_map.1 hk
        rcases mg_mem hz with hz | hz
        · rcases List.mem_cons.1 hz with e | hz
          · rw [e]; assumption
          · have := ma z hz; omega
        · exact mb z hz
      · refine List.pairwise_cons.2 ⟨fun k hk => ?_, mg_ris h2 h4⟩
        obtain ⟨z, hz, rfl⟩ := List.mem_map.1 hk
        rcases mg_mem hz with hz | hz
        · exact ma z hz
        · have := mb z hz; omega
termination_by a b => a.length + b.length
theorem mg_len : ∀ (a b : List Z), (mg a b).length ≤ a.length + b.length
  | [], b => by rw [mg]; simp
  | x :: a, [] => by rw [mg]; simp
  | x :: a, y :: b => by
    rw [mg]
    split
    · have := mg_len a (y :: b); simp only [List.length_cons] at this ⊢; omega
    · split
      · have := mg_len (x :: a) b; simp only [List.length_cons] at this ⊢; omega
      · have := mg_len a b; simp only [List.length_cons] at this ⊢; omega
termination_by a b => a.length + b.length
theorem mrg_mg {s o : Ps} {N : Nat} (hs : s.ok N) (ho : o.ok N) : Mrg s o (mg s.cuts o.cuts) := ⟨mg_ris hs.ris ho.ris, fun _ h => mg_mem h, fun _ h => mg_has h, mg_len _ _⟩
theorem mrg_eq {s o : Ps} {N : Nat} {l : List Z} (hs : s.ok N) (ho : o.ok N) (h : Mrg s o l) : l = mg s.cuts o.cuts := by
  have h' := mrg_mg hs ho
  have hcz : ∀ k : List Z, Mrg s o k → k = (zv k).map cz := fun k hk => by
    rw [zv, List.map_map]
    conv => lhs; rw [← List.map_id k]
    apply List.map_congr_left
    intro z hz
    rcases hk.2.1 z hz with h1 | h1
    · exact (hs.cut z h1).2.symm
    · exact (ho.cut z h1).2.symm
  have hin : ∀ {k m : List Z}, Mrg s o k → Mrg s o m → ∀ x, x ∈ zv k → x ∈ zv m := fun {k m} hk hm x hx => by
    obtain ⟨z, hz, rfl⟩ := List.mem_map.1 hx
    exact hm.2.2.1 z (hk.2.1 z hz)
  have e : zv l = zv (mg s.cuts o.cuts) := ris_ext h.1 h'.1 fun x => ⟨hin h h' x, hin h' h x⟩
  rw [hcz l h, hcz _ h', e]

/-- Which of n things c speaks of. -/
def pickN (c : Int) (n : Nat) : Nat := (if c < 0 then -(c + 1) else c).toNat % n
theorem pickN_lt (c : Int) {n : Nat} (h : 0 < n) : pickN c n < n := Nat.mod_lt _ h
/-- A set that is wanted. -/
structure Mk where
  kind : Int
  a : Int
  b : Int
  k : Z
  d : Z
def sth (l : List Ps) (k : Nat) : Ps := l.getD k noneP
theorem sth_eq (l : List Ps) (k : Nat) (h : k < l.length) : sth l k = l[k] := by simp [sth, h]
theorem sth_mem {l : List Ps} {k : Nat} (h : k < l.length) : sth l k ∈ l := by rw [sth_eq l k h]; exact List.getElem_mem h
def meetP (s o : Ps) : Ps := joinP and s o (mg s.cuts o.cuts)
def jnP (s o : Ps) : Ps := joinP or s o (mg s.cuts o.cuts)
def aboveP (x : Int) : Ps := ⟨1, [cz (x + 1)], [[false], [true]]⟩
def classP (p : Nat) (y : Int) : Ps := ⟨p, [], [(List.replicate p false).set (y % (p : Int)).toNat true]⟩
/-- One, of those that there are; or the error. -/
def doF (m : Mk) (l : List Ps) : Except Int Ps :=
  if pickN m.kind 8 ≤ 1 then .ok (aboveP m.k.v)
  else if pickN m.kind 8 ≤ 3 then if m.d.v = 0 then .error 11 else if m.d.v.natAbs ≤ 4096 then .ok (classP m.d.v.natAbs m.k.v) else .error 180
  else if pickN m.kind 8 = 4 then .ok (restP (sth l (pickN m.a l.length)))
  else if Nat.lcm (sth l (pickN m.a l.length)).per (sth l (pickN m.b l.length)).per ≤ 4096 then
    .ok (if pickN m.kind 8 ≤ 6 then meetP (sth l (pickN m.a l.length)) (sth l (pickN m.b l.length)) else jnP (sth l (pickN m.a l.length)) (sth l (pickN m.b l.length)))
  else .error 180
def addF (l : List Ps) (m : Mk) : List Ps := match doF m l with
  | .ok s => l ++ [s]
  | .error _ => l
def buildF (ms : List Mk) : List Ps := (ms.take 12).foldl addF [noneP]
theorem buildF_step {ms : List Mk} {k : Nat} (h : k < ms.length) : (ms.take (k + 1)).foldl addF [noneP] = addF ((ms.take k).foldl addF [noneP]) ms[k] := by
  rw [List.take_succ_eq_append_getElem h, List.foldl_append]; rfl
/-- What there is behind j rounds. -/
structure LOk (N j : Nat) (l : List Ps) : Prop where
  pos : 0 < l.length
  len : l.length ≤ j + 1
  ok : ∀ s ∈ l, s.ok N
  cut : ∀ s ∈ l, s.cuts.length ≤ 2 ^ j
theorem lok_zero (N : Nat) : LOk N 0 [noneP] := ⟨by simp, by simp, fun s hs => by
  obtain rfl : s = noneP := by simpa using hs
  exact none_ok, fun s hs => by
  obtain rfl : s = noneP := by simpa using hs
  simp [noneP]⟩
theorem lcm_pos {s o : Ps} {N : Nat} (hs : s.ok N) (ho : o.ok N) : 0 < Nat.lcm s.per o.per := Nat.lcm_pos hs.per0 ho.per0
theorem joinP_ok {f : Bool → Bool → Bool} {s o : Ps} {N : Nat} (hs : s.ok N) (ho : o.ok N) (hq : Nat.lcm s.per o.per ≤ 4096) (hl : s.cuts.length + o.cuts.length ≤ 1048576) : (joinP f s o (mg s.cuts o.cuts)).ok N ∧ (joinP f s o (mg s.cuts o.cuts)).cuts.length ≤ s.cuts.length + o.cuts.length :=
  ⟨joined_ok hs ho (mrg_mg hs ho) (lcm_pos hs ho) hq hl, Nat.le_trans (jfold_len f s o _ _).1 (mg_len _ _)⟩
theorem doF_ok {m : Mk} {l : List Ps} {N j : Nat} (hl : LOk N j l) (hj : j ≤ 12) (hk : zl (m.k.v + 1) ≤ N) {s : Ps} (h : doF m l = .ok s) : s.ok N ∧ s.cuts.length ≤ 2 ^ (j + 1) := by
  have h2 : 2 ^ (j + 1) = 2 ^ j + 2 ^ j := by rw [Nat.pow_succ]; omega
  have h3 : 1 ≤ 2 ^ j := Nat.one_le_two_pow
  have h4 : 2 ^ j ≤ 4096 := Nat.pow_le_pow_right (by omega) (show j ≤ 12 from hj)
  have ma := sth_mem (pickN_lt m.a hl.pos); have mb := sth_mem (pickN_lt m.b hl.pos)
  have oa := hl.ok _ ma; have ob := hl.ok _ mb; have ca := hl.cut _ ma; have cb := hl.cut _ mb
  unfold doF at h
  split at h
  · injection h with h; subst h
    exact ⟨above_ok hk, by show 1 ≤ _; omega⟩
  · split at h
    · split at h
      · cases h
      · split at h
        · injection h with h; subst h
          exact ⟨class_ok (by omega) (by assumption), by show 0 ≤ _; omega⟩
        · cases h
    · split at h
      · injection h with h; subst h
        exact ⟨rest_ok oa, by show (sth l (pickN m.a l.length)).cuts.length ≤ _; omega⟩
      · split at h
        · rename_i hq
          injection h with h; subst h
          split
          · have := joinP_ok (f := and) oa ob hq (by omega)
            exact ⟨this.1, Nat.le_trans this.2 (by omega)⟩
          · have := joinP_ok (f := or) oa ob hq (by omega)
            exact ⟨this.1, Nat.le_trans this.2 (by omega)⟩
        · cases h
theorem addF_ok {m : Mk} {l : List Ps} {N j : Nat} (hl : LOk N j l) (hj : j ≤ 12) (hk : zl (m.k.v + 1) ≤ N) : LOk N (j + 1) (addF l m) := by
  have h2 : 2 ^ (j + 1) = 2 ^ j + 2 ^ j := by rw [Nat.pow_succ]; omega
  unfold addF
  cases h : doF m l with
  | ok s =>
    have h1 := doF_ok hl hj hk h
    refine ⟨by simp, by simp only [List.length_append, List.length_singleton]; have := hl.len; omega, fun t ht => ?_, fun t ht => ?_⟩
    · rcases List.mem_append.1 ht with ht | ht
      · exact hl.ok t ht
      · obtain rfl : t = s := by simpa using ht
        exact h1.1
    · rcases List.mem_append.1 ht with ht | ht
      · have := hl.cut t ht; omega
      · obtain rfl : t = s := by simpa using ht
        exact h1.2
  | error x => exact ⟨hl.pos, by have := hl.len; simp only; omega, hl.ok, fun t ht => by have := hl.cut t ht; omega⟩
theorem buildK_ok {ms : List Mk} {N : Nat} (hm : ∀ m ∈ ms, zl (m.k.v + 1) ≤ N) : ∀ {k : Nat}, k ≤ ms.length → k ≤ 12 → LOk N k ((ms.take k).foldl addF [noneP])
  | 0, _, _ => lok_zero N
  | k + 1, h, h12 => by
    rw [buildF_step (by omega)]
    exact addF_ok (buildK_ok hm (by omega) (by omega)) (by omega) (hm _ (List.getElem_mem _))

end Go.Proofs.YtbblgjjomgipfaaGreat
