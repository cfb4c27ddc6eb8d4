/- census, in plain words: sums over the stops, what Next, Last and List tell. No conditions. -/
import Derived.Test.YtbblgjjomgipfaaGreatStop
namespace Go.Proofs.YtbblgjjomgipfaaGreat
open Go.RowKit Go.Shelf

theorem partV_nn (s : Ps) (a : Int) {n : Int} (hn : 0 ≤ n) : 0 ≤ partV s a n := by
  unfold partV
  have h1 : 0 ≤ n / (s.per : Int) := Int.ediv_nonneg hn (by omega)
  have h2 : 0 ≤ n / (s.per : Int) * (nin s a s.per : Nat) := Int.mul_nonneg h1 (by omega)
  omega
theorem partV_le (s : Ps) (a : Int) {n : Int} (hp : 0 < s.per) (hn : 0 ≤ n) : partV s a n ≤ n := by
  unfold partV
  have h1 : 0 ≤ n / (s.per : Int) := Int.ediv_nonneg hn (by omega)
  have h2 : n / (s.per : Int) * (nin s a s.per : Nat) ≤ n / (s.per : Int) * (s.per : Nat) := Int.mul_le_mul_of_nonneg_left (by have := nin_le s a s.per; omega) h1
  have h3 : n % (s.per : Int) = n - n / (s.per : Int) * (s.per : Nat) := by rw [Int.emod_def, Int.mul_comm]
  have h4 : 0 ≤ n % (s.per : Int) := Int.emod_nonneg _ (by omega)
  have h5 := nin_le s a (n % (s.per : Int)).toNat
  omega
/-- The sum over the first k parts. -/
def sumK (s : Ps) (l : List Z) : Nat → Int
  | 0 => 0
  | k + 1 => sumK s l k + partV s (zth l k).v ((zth l (k + 1)).v - (zth l k).v)
/-- What Count tells. -/
def cntV (s : Ps) (lo : Z) (hi : Int) : Int := if hi < lo.v then 0 else sumK s (stps s lo (cz (hi + 1))) ((stps s lo (cz (hi + 1))).length - 1)
theorem stps_ris {s : Ps} {N : Nat} (hs : s.ok N) {lo e : Z} (h : lo.v ≤ e.v) : (zv (stps s lo e)).Pairwise (· ≤ ·) := by
  have h1 : (zv (stpsF lo e s.cuts)).Pairwise (· ≤ ·) := by
    have h2 : (zv s.cuts).Pairwise (· ≤ ·) := hs.ris.imp fun h => Int.le_of_lt h
    rw [zv, List.pairwise_map] at h2 ⊢
    exact h2.sublist List.filter_sublist
  have hm : ∀ a ∈ stpsF lo e s.cuts, lo.v < a.v ∧ a.v < e.v := fun a ha => by
    have := (List.mem_filter.1 ha).2
    simpa using this
  unfold stps
  rw [zv, List.map_cons, List.map_append, List.pairwise_cons, List.pairwise_append]
  refine ⟨fun x hx => ?_, h1, by simp, fun x hx y hy => ?_⟩
  · rcases List.mem_append.1 hx with hx | hx
    · obtain ⟨a, ha, rfl⟩ := List.mem_map.1 hx
      exact Int.le_of_lt (hm a ha).1
    · obtain rfl : x = e.v := by simpa using hx
      exact h
  · obtain ⟨a, ha, rfl⟩ := List.mem_map.1 hx
    obtain rfl : y = e.v := by simpa using hy
    exact Int.le_of_lt (hm a ha).2
theorem zth_map {l : List Z} {k : Nat} (h : k < l.length) : (zth l k).v = (zv l)[k]'(by simpa [zv] using h) := by
  simp [zv, zth_eq l k h]
theorem ris_le {l : List Z} (h : (zv l).Pairwise (· ≤ ·)) {i j : Nat} (hij : i ≤ j) (hj : j < l.length) : (zth l i).v ≤ (zth l j).v := by
  rw [zth_map (by omega), zth_map hj]
  rcases Nat.lt_or_ge i j with h1 | h1
  · exact List.pairwise_iff_getElem.1 h i j (by simp [zv]; omega) (by simpa [zv] using hj) h1
  · obtain rfl : i = j := by omega
    exact Int.le_refl _
theorem sumK_bd {s : Ps} {l : List Z} (hp : 0 < s.per) (h : (zv l).Pairwise (· ≤ ·)) : ∀ {k : Nat}, k < l.length → 0 ≤ sumK s l k ∧ sumK s l k ≤ (zth l k).v - (zth l 0).v
  | 0, _ => ⟨Int.le_refl _, by simp [sumK]⟩
  | k + 1, hk => by
    obtain ⟨h1, h2⟩ := sumK_bd hp h (k := k) (by omega)
    have h3 := ris_le h (i := k) (j := k + 1) (by omega) hk
    have h4 := partV_nn s (zth l k).v (n := (zth l (k + 1)).v - (zth l k).v) (by omega)
    have h5 := partV_le s (zth l k).v (n := (zth l (k + 1)).v - (zth l k).v) hp (by omega)
    unfold sumK
    omega
theorem stps_zl {s : Ps} {N L : Nat} (hs : s.ok N) {lo e : Z} (hN : N ≤ L) (h1 : lo.mag.length ≤ L) (hl : Lb lo.mag) (h2 : e.mag.length ≤ L) (hl2 : Lb e.mag) : ∀ z ∈ stps s lo e, z.mag.length ≤ L ∧ zl z.v ≤ L := fun z hz => by
  rcases List.mem_cons.1 hz with rfl | hz
  · exact ⟨h1, Nat.le_trans (zl_of hl) h1⟩
  · rcases List.mem_append.1 hz with hz | hz
    · obtain ⟨h3, h4⟩ := hs.cut z (List.mem_filter.1 hz).1
      refine ⟨by omega, ?_⟩
      rw [← cz_len, h4]
      omega
    · obtain rfl : z = e := by simpa using hz
      exact ⟨h2, Nat.le_trans (zl_of hl2) h2⟩
/-- What Next looks from. -/
def nxtS (s : Ps) (x : Z) : List Z := x :: s.cuts.filter fun c => decide (x.v < c.v)
def nxtV (s : Ps) (x : Z) : Option Int := fndV s 1 (nxtS s x)
/-- What Last looks from. -/
def lstG (x : Int) (l : List Z) : List Z := (l.map fun c => cz (c.v + -1)).filter fun c => decide (c.v < x)
def lstS (s : Ps) (x : Z) : List Z := x :: lstG x.v s.cuts.reverse
def lstV (s : Ps) (x : Z) : Option Int := fndV s (-1) (lstS s x)
theorem nxtS_zl {s : Ps} {N L : Nat} (hs : s.ok N) {x : Z} (hN : N ≤ L) (h1 : x.mag.length ≤ L) : ∀ z ∈ nxtS s x, z.mag.length ≤ L := fun z hz => by
  rcases List.mem_cons.1 hz with rfl | hz
  · exact h1
  · have := (hs.cut z (List.mem_filter.1 hz).1).1
    omega
theorem lstS_zl {s : Ps} {N L : Nat} (hs : s.ok N) {x : Z} (hN : N ≤ L) (h1 : x.mag.length ≤ L) : ∀ z ∈ lstS s x, z.mag.length ≤ L + 1 := fun z hz => by
  rcases List.mem_cons.1 hz with rfl | hz
  · omega
  · obtain ⟨c, hc, rfl⟩ := List.mem_map.1 (List.mem_filter.1 hz).1
    obtain ⟨h2, h3⟩ := hs.cut c (List.mem_reverse.1 hc)
    rw [cz_len]
    have h4 : zl c.v ≤ Nat.max L 1 := by rw [← cz_len, h3]; exact Nat.le_trans h2 (Nat.le_trans hN (Nat.le_max_left _ _))
    rcases Nat.eq_zero_or_pos L with rfl | hL
    · have : c.v = 0 := by
        have h5 : c.mag.length = 0 := by omega
        rw [← h3, cz_mag, List.length_eq_zero_iff, lim_nil_iff] at h5
        omega
      rw [this]
      decide
    · have h5 : Nat.max L 1 = L := Nat.max_eq_left hL
      rw [h5] at h4
      exact zl_add h4 (Nat.le_trans (show zl (-1) ≤ 1 by decide) (by omega))
/-- What List tells, in at most so many steps. -/
def lstOk (s : Ps) (hi : Int) : Nat → Z → List Int → Prop
  | 0, _, _ => False
  | n + 1, x, l => match nxtV s x with
    | none => l = []
    | some y => if hi < y then l = [] else ∃ t, l = y :: t ∧ lstOk s hi n (cz (y + 1)) t

/-- No cut lies above a and not above z. -/
def Fre (l : List Int) (a z : Int) : Prop := ∀ c ∈ l, ¬ (a < c ∧ c ≤ z)
theorem Fre.mono {l : List Int} {a z b y : Int} (h : Fre l a z) (h1 : a ≤ b) (h2 : y ≤ z) : Fre l b y := fun c hc => by have := h c hc; omega
theorem lbd_same : ∀ {l : List Int} {x y : Int}, (∀ c ∈ l, c < x ↔ c < y) → lbd l x = lbd l y
  | [], _, _, _ => rfl
  | c :: r, x, y, h => by
    have h0 := h c (by simp)
    have ih := lbd_same (l := r) (x := x) (y := y) fun c hc => h c (List.mem_cons_of_mem _ hc)
    unfold lbd
    by_cases hx : c < x
    · rw [if_pos hx, if_pos (h0.1 hx), ih]
    · rw [if_neg hx, if_neg (fun e => hx (h0.2 e))]
theorem plc_same {l : List Int} {a z : Int} (haz : a ≤ z) (h : Fre l a z) : plc l a = plc l z :=
  lbd_same fun c hc => by have := h c hc; omega
theorem has_mod {s : Ps} {a z y : Int} (h : Fre (zv s.cuts) a z) (h1 : a ≤ y) (h2 : y ≤ z) (e : y % (s.per : Int) = z % (s.per : Int)) : s.has y = s.has z := by
  have e1 := plc_same h1 (h.mono (Int.le_refl _) h2)
  have e2 := plc_same (Int.le_trans h1 h2) h
  unfold Ps.has
  rw [← e1, e2, e]

theorem nin_add (s : Ps) (a : Int) (j : Nat) : ∀ k, nin s a (j + k) = nin s a j + nin s (a + (j : Nat)) k
  | 0 => by simp [nin]
  | k + 1 => by
    rw [← Nat.add_assoc, nin_step, nin_step, nin_add s a j k]
    have : a + ((j + k : Nat) : Int) = a + (j : Nat) + (k : Nat) := by omega
    rw [this, Nat.add_assoc]
theorem nin_congr {s t : Ps} {a b : Int} : ∀ {k : Nat}, (∀ i : Nat, i < k → s.has (a + (i : Nat)) = t.has (b + (i : Nat))) → nin s a k = nin t b k
  | 0, _ => rfl
  | k + 1, h => by rw [nin_step, nin_step, nin_congr (k := k) (fun i hi => h i (by omega)), h k (by omega)]
theorem nin_shift {s : Ps} {a : Int} {j k : Nat} (h : Fre (zv s.cuts) a (a + ((s.per * j + k : Nat) : Int) - 1)) : nin s (a + ((s.per * j : Nat) : Int)) k = nin s a k :=
  nin_congr fun i hi => (has_mod (a := a) (y := a + (i : Nat)) (h.mono (Int.le_refl _) (by omega)) (by omega) (by omega) (by
    have e : a + ((s.per * j : Nat) : Int) + (i : Nat) = (a + (i : Nat)) + (s.per : Int) * (j : Nat) := by rw [Int.natCast_mul]; omega
    rw [e, Int.add_mul_emod_self_left])).symm
theorem nin_muls {s : Ps} {a : Int} : ∀ {q : Nat}, Fre (zv s.cuts) a (a + ((s.per * q : Nat) : Int) - 1) → nin s a (s.per * q) = q * nin s a s.per
  | 0, _ => by simp [nin]
  | q + 1, h => by
    rw [Nat.mul_succ] at h
    rw [Nat.mul_succ, nin_add, nin_muls (q := q) (h.mono (Int.le_refl _) (by omega)), nin_shift h, Nat.succ_mul]
theorem part_nin {s : Ps} {a : Int} {m : Nat} (h : Fre (zv s.cuts) a (a + (m : Nat) - 1)) : partV s a (m : Nat) = (nin s a m : Nat) := by
  have e1 : ((m : Nat) : Int) / (s.per : Int) = ((m / s.per : Nat) : Int) := rfl
  have e2 : (((m : Nat) : Int) % (s.per : Int)).toNat = m % s.per := rfl
  have e3 : s.per * (m / s.per) + m % s.per = m := Nat.div_add_mod m s.per
  have h1 := nin_add s a (s.per * (m / s.per)) (m % s.per)
  have h2 := nin_muls (s := s) (a := a) (q := m / s.per) (h.mono (Int.le_refl _) (by omega))
  have h3 := nin_shift (s := s) (a := a) (j := m / s.per) (k := m % s.per) (by rw [e3]; exact h)
  rw [e3, h2, h3] at h1
  unfold partV
  rw [e1, e2, h1, Int.natCast_add, Int.natCast_mul]
theorem sumK_nin {s : Ps} {l : List Z} (hr : (zv l).Pairwise (· ≤ ·)) (hf : ∀ k, k + 1 < l.length → Fre (zv s.cuts) (zth l k).v ((zth l (k + 1)).v - 1)) : ∀ {k : Nat}, k < l.length → sumK s l k = (nin s (zth l 0).v ((zth l k).v - (zth l 0).v).toNat : Nat)
  | 0, _ => by simp [sumK, nin]
  | k + 1, hk => by
    have ih := sumK_nin hr hf (k := k) (by omega)
    have h1 := ris_le hr (i := 0) (j := k) (Nat.zero_le _) (by omega)
    have h2 := ris_le hr (i := k) (j := k + 1) (by omega) hk
    unfold sumK
    rw [ih]
    obtain ⟨m, hm⟩ : ∃ m : Nat, (m : Int) = (zth l (k + 1)).v - (zth l k).v := ⟨((zth l (k + 1)).v - (zth l k).v).toNat, by omega⟩
    rw [← hm, part_nin ((hf k hk).mono (Int.le_refl _) (by omega))]
    have e : ((zth l (k + 1)).v - (zth l 0).v).toNat = ((zth l k).v - (zth l 0).v).toNat + m := by omega
    have e2 : (zth l 0).v + ((((zth l k).v - (zth l 0).v).toNat : Nat) : Int) = (zth l k).v := by omega
    rw [e, nin_add, e2, Int.natCast_add]
theorem stps_last (s : Ps) (lo e : Z) : zth (stps s lo e) ((stps s lo e).length - 1) = e := by
  simp [stps, zth]
theorem stps_free {s : Ps} {N : Nat} (hs : s.ok N) {lo e : Z} (h : lo.v ≤ e.v) : ∀ k, k + 1 < (stps s lo e).length → Fre (zv s.cuts) (zth (stps s lo e) k).v ((zth (stps s lo e) (k + 1)).v - 1) := by
  intro k hk c hc ⟨h1, h2⟩
  have hr := stps_ris hs h
  obtain ⟨z, hz, rfl⟩ := List.mem_map.1 hc
  have h0 : (zth (stps s lo e) 0).v = lo.v := rfl
  have hlast : (zth (stps s lo e) ((stps s lo e).length - 1)).v = e.v := by rw [stps_last]
  have hge := ris_le hr (i := 0) (j := k) (Nat.zero_le _) (by omega)
  have hle := ris_le hr (i := k + 1) (j := (stps s lo e).length - 1) (by omega) (by omega)
  have hm : z ∈ stps s lo e := List.mem_cons_of_mem _ (List.mem_append_left _ (List.mem_filter.2 ⟨hz, by simp only [Bool.and_eq_true, decide_eq_true_eq]; omega⟩))
  obtain ⟨j, hj, rfl⟩ := List.getElem_of_mem hm
  rw [← zth_eq _ j hj] at h1 h2
  rcases Nat.lt_or_ge k j with hkj | hkj
  · have := ris_le hr (i := k + 1) (j := j) (by omega) hj; omega
  · have := ris_le hr (i := j) (j := k) hkj (by omega); omega
/-- Count tells how many there are. -/
theorem cnt_nin {s : Ps} {N : Nat} (hs : s.ok N) (lo : Z) (hi : Int) : cntV s lo hi = (nin s lo.v (hi + 1 - lo.v).toNat : Nat) := by
  unfold cntV
  by_cases h : hi < lo.v
  · have : (hi + 1 - lo.v).toNat = 0 := by omega
    rw [if_pos h, this]; rfl
  · have he : lo.v ≤ (cz (hi + 1)).v := by rw [cz_v]; omega
    have h1 := sumK_nin (stps_ris hs he) (stps_free hs he) (k := (stps s lo (cz (hi + 1))).length - 1) (by simp [stps])
    rw [if_neg h, h1, stps_last, cz_v]
    rfl

theorem fat_none {s : Ps} {step a : Int} {k : Nat} (h : fatK s step a k = none) : ∀ i : Nat, i < k → s.has (a + step * (i : Nat)) = false := fun i hi => by
  unfold fatK at h
  have := List.find?_eq_none.1 h _ (List.mem_map.2 ⟨i, List.mem_range.2 hi, rfl⟩)
  simpa using this
theorem fat_some {s : Ps} {step a x : Int} : ∀ {k : Nat}, fatK s step a k = some x → ∃ i : Nat, i < k ∧ x = a + step * (i : Nat) ∧ s.has x = true ∧ ∀ j : Nat, j < i → s.has (a + step * (j : Nat)) = false
  | 0, h => by simp [fatK] at h
  | k + 1, h => by
    cases e : fatK s step a k with
    | none =>
      rw [fatK_step s step a k e] at h
      split at h
      · rename_i hh
        injection h with h
        subst h
        exact ⟨k, by omega, rfl, hh, fat_none e⟩
      · cases h
    | some y =>
      have h2 := fatK_some (m := k + 1) (by omega) e
      rw [h] at h2
      injection h2 with h2
      subst h2
      obtain ⟨i, hi, h3⟩ := fat_some e
      exact ⟨i, by omega, h3⟩

/-- Starts that rise, with no cut between two and none behind the last. -/
def Zup (cs : List Int) : List Z → Int → Prop
  | [], a => ∀ z, Fre cs a z
  | b :: r, a => Fre cs a (b.v - 1) ∧ a < b.v ∧ Zup cs r b.v
theorem zup_of {cs : List Int} : ∀ {l : List Z} {a : Int}, Ris (a :: zv l) → (∀ c ∈ cs, a < c → c ∈ zv l) → Zup cs l a
  | [], a, _, h => fun z c hc ⟨h1, _⟩ => by have := h c hc h1; simp [zv] at this
  | b :: r, a, hr, h => by
    obtain ⟨h1, h2⟩ := List.pairwise_cons.1 hr
    have hab : a < b.v := h1 b.v (by simp [zv])
    obtain ⟨h3, h4⟩ := List.pairwise_cons.1 h2
    refine ⟨fun c hc ⟨h5, h6⟩ => ?_, hab, zup_of h2 fun c hc h5 => ?_⟩
    · rcases List.mem_cons.1 (h c hc h5) with e | e
      · omega
      · have := h3 c e; omega
    · rcases List.mem_cons.1 (h c hc (by omega)) with e | e
      · omega
      · exact e
theorem up_none {s : Ps} {a z : Int} (hp : 0 < s.per) (h : fatK s 1 a s.per = none) (hz : a ≤ z) (hf : Fre (zv s.cuts) a z) : s.has z = false := by
  have h0 : (0 : Int) < (s.per : Int) := by omega
  have h1 := Int.emod_nonneg (z - a) (show (s.per : Int) ≠ 0 by omega)
  have h2 := Int.emod_lt_of_pos (z - a) h0
  have h3 : (z - a) % (s.per : Int) ≤ z - a := by
    have := Int.mul_nonneg (Int.le_of_lt h0) (Int.ediv_nonneg (show 0 ≤ z - a by omega) (Int.le_of_lt h0))
    have := Int.mul_ediv_add_emod (z - a) (s.per : Int)
    omega
  have e : (a + (z - a) % (s.per : Int)) % (s.per : Int) = z % (s.per : Int) := by
    rw [Int.add_emod_emod]; congr 1; omega
  rw [← has_mod hf (y := a + (z - a) % (s.per : Int)) (by omega) (by omega) e]
  have := fat_none h ((z - a) % (s.per : Int)).toNat (by omega)
  rw [Int.one_mul, Int.toNat_of_nonneg h1] at this
  exact this
theorem nxt_go {s : Ps} (hp : 0 < s.per) : ∀ {l : List Z} {a : Z}, Zup (zv s.cuts) l a.v → (fndV s 1 (a :: l) = none → ∀ z, a.v ≤ z → s.has z = false) ∧ ∀ x, fndV s 1 (a :: l) = some x → a.v ≤ x ∧ s.has x = true ∧ ∀ z, a.v ≤ z → z < x → s.has z = false
  | l, a, hz => by
    have e0 : fndV s 1 (a :: l) = match fatK s 1 a.v s.per with | some x => some x | none => fndV s 1 l := by
      unfold fndV; rw [List.findSome?_cons]; cases fatK s 1 a.v s.per <;> rfl
    cases e : fatK s 1 a.v s.per with
    | some y =>
      rw [e] at e0
      simp only at e0
      obtain ⟨i, hi, hy, h1, h2⟩ := fat_some e
      refine ⟨fun h => (by rw [e0] at h; cases h), fun x hx => ?_⟩
      rw [e0] at hx
      injection hx with hx
      subst hx
      refine ⟨by omega, h1, fun z hz1 hz2 => ?_⟩
      have := h2 (z - a.v).toNat (by omega)
      rw [Int.one_mul, Int.toNat_of_nonneg (by omega)] at this
      rw [← this]; congr 1; omega
    | none =>
      rw [e] at e0
      simp only at e0
      rw [e0]
      match l, hz with
      | [], hz => exact ⟨fun _ z h => up_none hp e h (hz z), fun x hx => by simp [fndV] at hx⟩
      | b :: r, ⟨h1, h2, h3⟩ =>
        obtain ⟨g1, g2⟩ := nxt_go hp (l := r) (a := b) h3
        have hlow : ∀ z, a.v ≤ z → z < b.v → s.has z = false := fun z hz1 hz2 => up_none hp e hz1 (h1.mono (Int.le_refl _) (by omega))
        refine ⟨fun h z hz1 => ?_, fun x hx => ?_⟩
        · by_cases hb : z < b.v
          · exact hlow z hz1 hb
          · exact g1 h z (by omega)
        · obtain ⟨k1, k2, k3⟩ := g2 x hx
          refine ⟨by omega, k2, fun z hz1 hz2 => ?_⟩
          by_cases hb : z < b.v
          · exact hlow z hz1 hb
          · exact k3 z (by omega) hz2
theorem nxtS_zup {s : Ps} {N : Nat} (hs : s.ok N) (x : Z) : Zup (zv s.cuts) (s.cuts.filter fun c => decide (x.v < c.v)) x.v := by
  refine zup_of (List.pairwise_cons.2 ⟨fun c hc => ?_, ?_⟩) fun c hc h => ?_
  · obtain ⟨z, hz, rfl⟩ := List.mem_map.1 hc
    simpa using (List.mem_filter.1 hz).2
  · have h2 := hs.ris
    rw [Ris, zv, List.pairwise_map] at h2
    rw [zv, List.pairwise_map]
    exact h2.sublist List.filter_sublist
  · obtain ⟨z, hz, rfl⟩ := List.mem_map.1 hc
    exact List.mem_map.2 ⟨z, List.mem_filter.2 ⟨hz, by simpa using h⟩, rfl⟩
theorem nxt_none {s : Ps} {N : Nat} (hs : s.ok N) {x : Z} (h : nxtV s x = none) : ∀ z, x.v ≤ z → s.has z = false := (nxt_go hs.per0 (nxtS_zup hs x)).1 h
theorem nxt_some {s : Ps} {N : Nat} (hs : s.ok N) {x : Z} {y : Int} (h : nxtV s x = some y) : x.v ≤ y ∧ s.has y = true ∧ ∀ z, x.v ≤ z → z < y → s.has z = false := (nxt_go hs.per0 (nxtS_zup hs x)).2 y h

/-- The like downwards: b + 1 is a cut. -/
def Zdn (cs : List Int) : List Z → Int → Prop
  | [], a => ∀ z, Fre cs z a
  | b :: r, a => Fre cs (b.v + 1) a ∧ b.v < a ∧ Zdn cs r b.v
theorem zdn_of {cs : List Int} : ∀ {l : List Z} {a : Int}, (a :: zv l).Pairwise (· > ·) → (∀ c ∈ cs, c - 1 < a → c - 1 ∈ zv l) → Zdn cs l a
  | [], a, _, h => fun z c hc ⟨_, h1⟩ => by have := h c hc (by omega); simp [zv] at this
  | b :: r, a, hr, h => by
    obtain ⟨h1, h2⟩ := List.pairwise_cons.1 hr
    have hab : a > b.v := h1 b.v (by simp [zv])
    obtain ⟨h3, h4⟩ := List.pairwise_cons.1 h2
    refine ⟨fun c hc ⟨h5, h6⟩ => ?_, hab, zdn_of h2 fun c hc h5 => ?_⟩
    · rcases List.mem_cons.1 (h c hc (by omega)) with e | e
      · omega
      · have := h3 _ e; omega
    · rcases List.mem_cons.1 (h c hc (by omega)) with e | e
      · omega
      · exact e
theorem dn_none {s : Ps} {a z : Int} (hp : 0 < s.per) (h : fatK s (-1) a s.per = none) (hz : z ≤ a) (hf : Fre (zv s.cuts) z a) : s.has z = false := by
  have h0 : (0 : Int) < (s.per : Int) := by omega
  have h1 := Int.emod_nonneg (a - z) (show (s.per : Int) ≠ 0 by omega)
  have h2 := Int.emod_lt_of_pos (a - z) h0
  have h3 : (a - z) % (s.per : Int) ≤ a - z := by
    have := Int.mul_nonneg (Int.le_of_lt h0) (Int.ediv_nonneg (show 0 ≤ a - z by omega) (Int.le_of_lt h0))
    have := Int.mul_ediv_add_emod (a - z) (s.per : Int)
    omega
  have e : z % (s.per : Int) = (a - (a - z) % (s.per : Int)) % (s.per : Int) := by
    rw [Int.sub_emod_emod]; congr 1; omega
  rw [has_mod (hf.mono (Int.le_refl _) (by omega)) (Int.le_refl _) (z := a - (a - z) % (s.per : Int)) (by omega) e]
  have := fat_none h ((a - z) % (s.per : Int)).toNat (by omega)
  rw [Int.toNat_of_nonneg h1] at this
  rw [← this]; congr 1; omega
theorem lst_go {s : Ps} (hp : 0 < s.per) : ∀ {l : List Z} {a : Z}, Zdn (zv s.cuts) l a.v → (fndV s (-1) (a :: l) = none → ∀ z, z ≤ a.v → s.has z = false) ∧ ∀ x, fndV s (-1) (a :: l) = some x → x ≤ a.v ∧ s.has x = true ∧ ∀ z, z ≤ a.v → x < z → s.has z = false
  | l, a, hz => by
    have e0 : fndV s (-1) (a :: l) = match fatK s (-1) a.v s.per with | some x => some x | none => fndV s (-1) l := by
      unfold fndV; rw [List.findSome?_cons]; cases fatK s (-1) a.v s.per <;> rfl
    cases e : fatK s (-1) a.v s.per with
    | some y =>
      rw [e] at e0
      simp only at e0
      obtain ⟨i, hi, hy, h1, h2⟩ := fat_some e
      refine ⟨fun h => (by rw [e0] at h; cases h), fun x hx => ?_⟩
      rw [e0] at hx
      injection hx with hx
      subst hx
      refine ⟨by omega, h1, fun z hz1 hz2 => ?_⟩
      have := h2 (a.v - z).toNat (by omega)
      rw [Int.toNat_of_nonneg (by omega)] at this
      rw [← this]; congr 1; omega
    | none =>
      rw [e] at e0
      simp only at e0
      rw [e0]
      match l, hz with
      | [], hz => exact ⟨fun _ z h => dn_none hp e h (hz z), fun x hx => by simp [fndV] at hx⟩
      | b :: r, ⟨h1, h2, h3⟩ =>
        obtain ⟨g1, g2⟩ := lst_go hp (l := r) (a := b) h3
        have hlow : ∀ z, z ≤ a.v → b.v < z → s.has z = false := fun z hz1 hz2 => dn_none hp e hz1 (h1.mono (by omega) (Int.le_refl _))
        refine ⟨fun h z hz1 => ?_, fun x hx => ?_⟩
        · by_cases hb : b.v < z
          · exact hlow z hz1 hb
          · exact g1 h z (by omega)
        · obtain ⟨k1, k2, k3⟩ := g2 x hx
          refine ⟨by omega, k2, fun z hz1 hz2 => ?_⟩
          by_cases hb : b.v < z
          · exact hlow z hz1 hb
          · exact k3 z (by omega) hz2
theorem lstS_zdn {s : Ps} {N : Nat} (hs : s.ok N) (x : Z) : Zdn (zv s.cuts) (lstG x.v s.cuts.reverse) x.v := by
  refine zdn_of (List.pairwise_cons.2 ⟨fun c hc => ?_, ?_⟩) fun c hc h => ?_
  · obtain ⟨z, hz, rfl⟩ := List.mem_map.1 hc
    simpa using (List.mem_filter.1 hz).2
  · have h2 := hs.ris
    rw [Ris, zv, List.pairwise_map] at h2
    rw [zv, List.pairwise_map, lstG]
    refine List.Pairwise.sublist List.filter_sublist ?_
    rw [List.pairwise_map, List.pairwise_reverse]
    refine h2.imp fun h => ?_
    rw [cz_v, cz_v]; omega
  · obtain ⟨z, hz, rfl⟩ := List.mem_map.1 hc
    refine List.mem_map.2 ⟨cz (z.v + -1), List.mem_filter.2 ⟨List.mem_map.2 ⟨z, List.mem_reverse.2 hz, rfl⟩, ?_⟩, by rw [cz_v]; omega⟩
    rw [cz_v, decide_eq_true_eq]; omega
theorem lst_none {s : Ps} {N : Nat} (hs : s.ok N) {x : Z} (h : lstV s x = none) : ∀ z, z ≤ x.v → s.has z = false := (lst_go hs.per0 (lstS_zdn hs x)).1 h
theorem lst_some {s : Ps} {N : Nat} (hs : s.ok N) {x : Z} {y : Int} (h : lstV s x = some y) : y ≤ x.v ∧ s.has y = true ∧ ∀ z, z ≤ x.v → y < z → s.has z = false := (lst_go hs.per0 (lstS_zdn hs x)).2 y h

/-- The numbers of a set from a on, k of them looked at. -/
def mem_ (s : Ps) (a : Int) (k : Nat) : List Int := ((List.range k).map fun i : Nat => a + (i : Int)).filter s.has
theorem mem_len (s : Ps) (a : Int) (k : Nat) : (mem_ s a k).length = nin s a k := by
  rw [mem_, nin, List.filter_map, List.length_map]
  rfl
theorem mem_succ (s : Ps) (a : Int) (k : Nat) : mem_ s a (k + 1) = (if s.has a then [a] else []) ++ mem_ s (a + 1) k := by
  have e : ((List.range (k + 1)).map fun i : Nat => a + (i : Int)) = a :: (List.range k).map fun i : Nat => a + 1 + (i : Int) := by
    rw [List.range_succ_eq_map, List.map_cons, List.map_map]
    congr 1
    · simp
    · apply List.map_congr_left
      intro i _
      simp only [Function.comp_apply]
      omega
  rw [mem_, e, List.filter_cons, ← mem_]
  split <;> rfl
theorem mem_skip {s : Ps} {a : Int} : ∀ {j k : Nat}, (∀ z, a ≤ z → z < a + (j : Nat) → s.has z = false) → mem_ s a (j + k) = mem_ s (a + (j : Nat)) k
  | 0, k, _ => by simp
  | j + 1, k, h => by
    have h1 := mem_skip (s := s) (a := a) (j := j) (k := k + 1) fun z h1 h2 => h z h1 (by omega)
    have e : j + 1 + k = j + (k + 1) := by omega
    rw [e, h1, mem_succ, h (a + (j : Nat)) (by omega) (by omega)]
    have e2 : a + (j : Nat) + 1 = a + ((j + 1 : Nat) : Int) := by omega
    rw [e2]; rfl
theorem mem_nil {s : Ps} {a : Int} {k : Nat} (h : ∀ z, a ≤ z → z < a + (k : Nat) → s.has z = false) : mem_ s a k = [] := by
  have := mem_skip (k := 0) h
  rw [Nat.add_zero] at this
  rw [this]; rfl
/-- The members from one number to another one. -/
def mbs (s : Ps) (lo hi : Int) : List Int := mem_ s lo (hi + 1 - lo).toNat
theorem mbs_cnt {s : Ps} {N : Nat} (hs : s.ok N) (lo : Z) (hi : Int) : cntV s lo hi = ((mbs s lo.v hi).length : Nat) := by rw [cnt_nin hs, mbs, mem_len]
theorem mbs_none {s : Ps} {N : Nat} (hs : s.ok N) {x : Z} {hi : Int} (h : nxtV s x = none) : mbs s x.v hi = [] := mem_nil fun z h1 _ => nxt_none hs h z h1
theorem mbs_far {s : Ps} {N : Nat} (hs : s.ok N) {x : Z} {y hi : Int} (h : nxtV s x = some y) (hy : hi < y) : mbs s x.v hi = [] := mem_nil fun z h1 h2 => (nxt_some hs h).2.2 z h1 (by omega)
theorem mbs_next {s : Ps} {N : Nat} (hs : s.ok N) {x : Z} {y hi : Int} (h : nxtV s x = some y) (hy : ¬ hi < y) : mbs s x.v hi = y :: mbs s (y + 1) hi := by
  obtain ⟨h1, h2, h3⟩ := nxt_some hs h
  have e : (hi + 1 - x.v).toNat = (y - x.v).toNat + ((hi + 1 - (y + 1)).toNat + 1) := by omega
  have e2 : x.v + (((y - x.v).toNat : Nat) : Int) = y := by omega
  rw [mbs, e, mem_skip (fun z hz1 hz2 => h3 z hz1 (by omega)), e2, mem_succ, h2]
  rfl

theorem zl_near {x : Int} {i L : Nat} (h : zl x ≤ L) (hL : 1 ≤ L) (hi : i ≤ 4096) (step : Int) (hs : step = 1 ∨ step = -1) : zl (x + step * (i : Nat)) ≤ L + 1 := by
  refine zl_add h (Nat.le_trans (zl_small ?_) hL)
  rcases hs with rfl | rfl <;> omega
theorem fnd_zl {s : Ps} {N L : Nat} (hs : s.ok N) {l : List Z} {step y : Int} (h : fndV s step l = some y) (hst : step = 1 ∨ step = -1) (hl : ∀ z ∈ l, zl z.v ≤ L) (hL : 1 ≤ L) : zl y ≤ L + 1 := by
  obtain ⟨a, ha, e⟩ := List.exists_of_findSome?_eq_some h
  obtain ⟨i, hi, rfl, _⟩ := fat_some e
  exact zl_near (hl a ha) hL (by have := hs.per1; omega) step hst
theorem cut_zl {s : Ps} {N : Nat} (hs : s.ok N) : ∀ c ∈ s.cuts, zl c.v ≤ N := fun c hc => by
  obtain ⟨h1, h2⟩ := hs.cut c hc
  rw [← cz_len, h2]; exact h1
theorem nxt_zl {s : Ps} {N L : Nat} (hs : s.ok N) {x : Z} {y : Int} (h : nxtV s x = some y) (hx : zl x.v ≤ L) (hN : N ≤ L) (hL : 1 ≤ L) : zl y ≤ L + 1 :=
  fnd_zl hs h (.inl rfl) (fun z hz => by
    rcases List.mem_cons.1 hz with rfl | hz
    · exact hx
    · exact Nat.le_trans (cut_zl hs z (List.mem_filter.1 hz).1) hN) hL
theorem lst_zl {s : Ps} {N L : Nat} (hs : s.ok N) {x : Z} {y : Int} (h : lstV s x = some y) (hx : zl x.v ≤ L + 1) (hN : N ≤ L) (hL : 1 ≤ L) : zl y ≤ L + 2 :=
  fnd_zl hs h (.inr rfl) (fun z hz => by
    rcases List.mem_cons.1 hz with rfl | hz
    · exact hx
    · obtain ⟨c, hc, rfl⟩ := List.mem_map.1 (List.mem_filter.1 hz).1
      rw [cz_v]
      exact zl_add (Nat.le_trans (cut_zl hs c (List.mem_reverse.1 hc)) hN) (Nat.le_trans (show zl (-1) ≤ 1 by decide) hL)) (by omega)

theorem finds_up {s : Ps} {N : Nat} (hs : s.ok N) {x : Z} {y : Int} (h : nxtV s x = some y) : cntV s x y = 1 := by
  rw [mbs_cnt hs, mbs_next hs h (by omega)]
  have e : (y + 1 - (y + 1)).toNat = 0 := by omega
  rw [mbs, e]
  rfl
theorem finds_up0 {s : Ps} {N : Nat} (hs : s.ok N) {x : Z} (h : nxtV s x = none) (hi : Int) : cntV s x hi = 0 := by
  rw [mbs_cnt hs, mbs_none hs h]; rfl
theorem finds_dn {s : Ps} {N : Nat} (hs : s.ok N) {x z : Z} {y : Int} (h : lstV s x = some y) (hz : z.v = y) : cntV s z x.v = 1 := by
  obtain ⟨h1, h2, h3⟩ := lst_some hs h
  have e : (x.v + 1 - z.v).toNat = (x.v - y).toNat + 1 := by omega
  rw [mbs_cnt hs, mbs, e, mem_succ, hz, h2, mem_nil fun w h4 h5 => h3 w (by omega) (by omega)]
  rfl
theorem finds_dn0 {s : Ps} {N : Nat} (hs : s.ok N) {x : Z} (h : lstV s x = none) (lo : Z) : cntV s lo x.v = 0 := by
  rw [mbs_cnt hs, mbs, mem_nil fun w h4 h5 => lst_none hs h w (by omega)]
  rfl
/-- Two parts. -/
theorem parts_add {s : Ps} {N : Nat} (hs : s.ok N) {a : Z} {b c : Int} {b1 : Z} (hb1 : b1.v = b + 1) (h1 : a.v ≤ b) (h2 : b ≤ c) : cntV s a b + cntV s b1 c = cntV s a c := by
  rw [cnt_nin hs, cnt_nin hs, cnt_nin hs, hb1]
  have e : (c + 1 - a.v).toNat = (b + 1 - a.v).toNat + (c + 1 - (b + 1)).toNat := by omega
  have e2 : a.v + (((b + 1 - a.v).toNat : Nat) : Int) = b + 1 := by omega
  rw [e, nin_add, e2, Int.natCast_add]
/-- A set and what is not in it. -/
theorem nin_not {s t : Ps} (h : ∀ x, t.has x = !(s.has x)) (a : Int) : ∀ k, nin s a k + nin t a k = k
  | 0 => rfl
  | k + 1 => by
    have := nin_not h a k
    rw [nin_step, nin_step, h]
    cases s.has (a + (k : Nat)) <;> simp <;> omega
theorem parts_not {s t : Ps} {N : Nat} (hs : s.ok N) (ht : t.ok N) (h : ∀ x, t.has x = !(s.has x)) {a : Z} {c : Int} (hac : a.v ≤ c) : cntV s a c + cntV t a c = c - a.v + 1 := by
  rw [cnt_nin hs, cnt_nin ht]
  have := nin_not h a.v (c + 1 - a.v).toNat
  omega
theorem mem_prop (s : Ps) (a : Int) : ∀ (k : Nat), (∀ x ∈ mem_ s a k, s.has x = true ∧ a ≤ x ∧ x < a + (k : Nat)) ∧ Ris (mem_ s a k)
  | 0 => by simp [mem_]
  | k + 1 => by
    have e : mem_ s a (k + 1) = mem_ s a k ++ (if s.has (a + (k : Nat)) then [a + (k : Nat)] else []) := by
      unfold mem_
      rw [List.range_succ, List.map_append, List.filter_append, List.map_singleton, List.filter_cons, List.filter_nil]
    obtain ⟨h1, h2⟩ := mem_prop s a k
    rw [e]
    refine ⟨fun x hx => ?_, List.pairwise_append.2 ⟨h2, ?_, fun x hx y hy => ?_⟩⟩
    · rcases List.mem_append.1 hx with hx | hx
      · have := h1 x hx; exact ⟨this.1, this.2.1, by omega⟩
      · split at hx
        · rename_i hh
          obtain rfl : x = a + (k : Nat) := by simpa using hx
          exact ⟨hh, by omega, by omega⟩
        · simp at hx
    · split <;> simp
    · have := h1 x hx
      split at hy
      · obtain rfl : y = a + (k : Nat) := by simpa using hy
        omega
      · simp at hy
theorem mbs_prop (s : Ps) (lo hi : Int) : (∀ x ∈ mbs s lo hi, s.has x = true ∧ lo ≤ x ∧ x ≤ hi) ∧ Ris (mbs s lo hi) := by
  obtain ⟨h1, h2⟩ := mem_prop s lo (hi + 1 - lo).toNat
  exact ⟨fun x hx => by have := h1 x hx; exact ⟨this.1, this.2.1, by omega⟩, h2⟩

end Go.Proofs.YtbblgjjomgipfaaGreat
