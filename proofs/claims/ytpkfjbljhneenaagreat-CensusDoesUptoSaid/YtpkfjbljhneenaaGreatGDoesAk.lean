/- census, in plain words: sums over the stops, what Next, Last and List tell. No conditions. riddlelaw19.ints at two numbers that are the same. No conditions. census: Count of a set. No conditions. census: Next. No conditions. -/
import Derived.Test.YtpkfjbljhneenaaGreatGDoesAj
namespace Go.Proofs.YtpkfjbljhneenaaGreat
open Go.RowKit Go.Shelf

theorem partV_nn (s : Ps) (a : Int) {n : Int} (hn : 0 ≤ n) : 0 ≤ partV s a n := by
 unfold partV; have h1 : 0 ≤ n / (s.per : Int) := Int.ediv_nonneg hn (by omega); have h2 : 0 ≤ n / (s.per : Int) * (nin s a s.per : Nat) := Int.mul_nonneg h1 (by omega)
 omega
theorem partV_le (s : Ps) (a : Int) {n : Int} (hp : 0 < s.per) (hn : 0 ≤ n) : partV s a n ≤ n := by
 unfold partV; have h1 : 0 ≤ n / (s.per : Int) := Int.ediv_nonneg hn (by omega); have h2 : n / (s.per : Int) * (nin s a s.per : Nat) ≤ n / (s.per : Int) * (s.per : Nat) := Int.mul_le_mul_of_nonneg_left (by have := nin_le s a s.per; omega) h1
 have h3 : n % (s.per : Int) = n - n / (s.per : Int) * (s.per : Nat) := by rw [Int.emod_def, Int.mul_comm]
 have h4 : 0 ≤ n % (s.per : Int) := Int.emod_nonneg _ (by omega); have h5 := nin_le s a (n % (s.per : Int)).toNat
 omega
def sumK (s : Ps) (l : List Z) : Nat → Int
 | 0 => 0
 | k + 1 => sumK s l k + partV s (zth l k).v ((zth l (k + 1)).v - (zth l k).v)
def cntV (s : Ps) (lo : Z) (hi : Int) : Int := if hi < lo.v then 0 else sumK s (stps s lo (cz (hi + 1))) ((stps s lo (cz (hi + 1))).length - 1)
theorem stps_ris {s : Ps} {N : Nat} (hs : s.ok N) {lo e : Z} (h : lo.v ≤ e.v) : (zv (stps s lo e)).Pairwise (· ≤ ·) := by
 have h1 : (zv (stpsF lo e s.cuts)).Pairwise (· ≤ ·) := by
  have h2 : (zv s.cuts).Pairwise (· ≤ ·) := hs.ris.imp fun h => Int.le_of_lt h
  rw [zv, List.pairwise_map] at h2 ⊢; exact h2.sublist List.filter_sublist
 have hm : ∀ a ∈ stpsF lo e s.cuts, lo.v < a.v ∧ a.v < e.v := fun a ha => by
  have := (List.mem_filter.1 ha).2
  simpa using this
 unfold stps; rw [zv, List.map_cons, List.map_append, List.pairwise_cons, List.pairwise_append]; refine ⟨fun x hx => ?_, h1, by simp, fun x hx y hy => ?_⟩
 ·rcases List.mem_append.1 hx with hx | hx
  ·obtain ⟨a, ha, rfl⟩ := List.mem_map.1 hx; exact Int.le_of_lt (hm a ha).1
  ·obtain rfl : x = e.v := by simpa using hx
   exact h
 ·obtain ⟨a, ha, rfl⟩ := List.mem_map.1 hx
  obtain rfl : y = e.v := by simpa using hy
  exact Int.le_of_lt (hm a ha).2
theorem zth_map {l : List Z} {k : Nat} (h : k < l.length) : (zth l k).v = (zv l)[k]'(by simpa [zv] using h) := by
 simp [zv, zth_eq l k h]
theorem ris_le {l : List Z} (h : (zv l).Pairwise (· ≤ ·)) {i j : Nat} (hij : i ≤ j) (hj : j < l.length) : (zth l i).v ≤ (zth l j).v := by
 rw [zth_map (by omega), zth_map hj]
 rcases Nat.lt_or_ge i j with h1 | h1
 ·exact List.pairwise_iff_getElem.1 h i j (by simp [zv]; omega) (by simpa [zv] using hj) h1
 ·obtain rfl : i = j := by omega
  exact Int.le_refl _
theorem sumK_bd {s : Ps} {l : List Z} (hp : 0 < s.per) (h : (zv l).Pairwise (· ≤ ·)) : ∀ {k : Nat}, k < l.length → 0 ≤ sumK s l k ∧ sumK s l k ≤ (zth l k).v - (zth l 0).v
 | 0, _ => ⟨Int.le_refl _, by simp [sumK]⟩
 | k + 1, hk => by
  obtain ⟨h1, h2⟩ := sumK_bd hp h (k := k) (by omega); have h3 := ris_le h (i := k) (j := k + 1) (by omega) hk; have h4 := partV_nn s (zth l k).v (n := (zth l (k + 1)).v - (zth l k).v) (by omega); have h5 := partV_le s (zth l k).v (n := (zth l (k + 1)).v - (zth l k).v) hp (by omega); unfold sumK
  omega
theorem stps_zl {s : Ps} {N L : Nat} (hs : s.ok N) {lo e : Z} (hN : N ≤ L) (h1 : lo.mag.length ≤ L) (hl : Lb lo.mag) (h2 : e.mag.length ≤ L) (hl2 : Lb e.mag) : ∀ z ∈ stps s lo e, z.mag.length ≤ L ∧ zl z.v ≤ L := fun z hz => by
 rcases List.mem_cons.1 hz with rfl | hz
 ·exact ⟨h1, Nat.le_trans (zl_of hl) h1⟩
 ·rcases List.mem_append.1 hz with hz | hz
  ·obtain ⟨h3, h4⟩ := hs.cut z (List.mem_filter.1 hz).1; refine ⟨by omega, ?_⟩; rw [← cz_len, h4]
   omega
  ·obtain rfl : z = e := by simpa using hz
   exact ⟨h2, Nat.le_trans (zl_of hl2) h2⟩
def nxtS (s : Ps) (x : Z) : List Z := x :: s.cuts.filter fun c => decide (x.v < c.v)
def nxtV (s : Ps) (x : Z) : Option Int := fndV s 1 (nxtS s x)
def lstG (x : Int) (l : List Z) : List Z := (l.map fun c => cz (c.v + -1)).filter fun c => decide (c.v < x)
def lstS (s : Ps) (x : Z) : List Z := x :: lstG x.v s.cuts.reverse
def lstV (s : Ps) (x : Z) : Option Int := fndV s (-1) (lstS s x)
theorem nxtS_zl {s : Ps} {N L : Nat} (hs : s.ok N) {x : Z} (hN : N ≤ L) (h1 : x.mag.length ≤ L) : ∀ z ∈ nxtS s x, z.mag.length ≤ L := fun z hz => by
 rcases List.mem_cons.1 hz with rfl | hz
 ·exact h1
 ·have := (hs.cut z (List.mem_filter.1 hz).1).1
  omega
theorem lstS_zl {s : Ps} {N L : Nat} (hs : s.ok N) {x : Z} (hN : N ≤ L) (h1 : x.mag.length ≤ L) : ∀ z ∈ lstS s x, z.mag.length ≤ L + 1 := fun z hz => by
 rcases List.mem_cons.1 hz with rfl | hz
 ·omega
 ·obtain ⟨c, hc, rfl⟩ := List.mem_map.1 (List.mem_filter.1 hz).1; obtain ⟨h2, h3⟩ := hs.cut c (List.mem_reverse.1 hc); rw [cz_len]
  have h4 : zl c.v ≤ Nat.max L 1 := by rw [← cz_len, h3]; exact Nat.le_trans h2 (Nat.le_trans hN (Nat.le_max_left _ _))
  rcases Nat.eq_zero_or_pos L with rfl | hL
  ·have : c.v = 0 := by
    have h5 : c.mag.length = 0 := by omega
    rw [← h3, cz_mag, List.length_eq_zero_iff, lim_nil_iff] at h5
    omega
   rw [this]
   decide
  ·have h5 : Nat.max L 1 = L := Nat.max_eq_left hL; rw [h5] at h4; exact zl_add h4 (Nat.le_trans (show zl (-1) ≤ 1 by decide) (by omega))
def Fre (l : List Int) (a z : Int) : Prop := ∀ c ∈ l, ¬ (a < c ∧ c ≤ z)
theorem Fre.mono {l : List Int} {a z b y : Int} (h : Fre l a z) (h1 : a ≤ b) (h2 : y ≤ z) : Fre l b y := fun c hc => by have := h c hc; omega
theorem lbd_same : ∀ {l : List Int} {x y : Int}, (∀ c ∈ l, c < x ↔ c < y) → lbd l x = lbd l y
 | [], _, _, _ => rfl
 | c :: r, x, y, h => by
  have h0 := h c (by simp)
  have ih := lbd_same (l := r) (x := x) (y := y) fun c hc => h c (List.mem_cons_of_mem _ hc)
  unfold lbd
  by_cases hx : c < x
  ·rw [if_pos hx, if_pos (h0.1 hx), ih]
  ·rw [if_neg hx, if_neg (fun e => hx (h0.2 e))]
theorem plc_same {l : List Int} {a z : Int} (haz : a ≤ z) (h : Fre l a z) : plc l a = plc l z :=
 lbd_same fun c hc => by have := h c hc; omega
theorem has_mod {s : Ps} {a z y : Int} (h : Fre (zv s.cuts) a z) (h1 : a ≤ y) (h2 : y ≤ z) (e : y % (s.per : Int) = z % (s.per : Int)) : s.has y = s.has z := by
 have e1 := plc_same h1 (h.mono (Int.le_refl _) h2); have e2 := plc_same (Int.le_trans h1 h2) h; unfold Ps.has; rw [← e1, e2, e]

theorem nin_add (s : Ps) (a : Int) (j : Nat) : ∀ k, nin s a (j + k) = nin s a j + nin s (a + (j : Nat)) k
 | 0 => by simp [nin]
 | k + 1 => by
  rw [← Nat.add_assoc, nin_step, nin_step, nin_add s a j k]
  have : a + ((j + k : Nat) : Int) = a + (j : Nat) + (k : Nat) := by omega
  rw [this, Nat.add_assoc]
theorem nin_congr {s t : Ps} {a b : Int} : ∀ {k : Nat}, (∀ i : Nat, i < k → s.has (a + (i : Nat)) = t.has (b + (i : Nat))) → nin s a k = nin t b k
 | 0, _ => rfl
 | k + 1, h => by rw [nin_step, nin_step, nin_congr (k := k) (fun i hi => h i (by omega)), h k (by omega)]
theorem nin_shift {s : Ps} {a : Int} {j k : Nat} (h : Fre (zv s.cuts) a (a + ((s.per * j + k : Nat) : Int) - 1)) : nin s (a + ((s.per * j : Nat) : Int)) k = nin s a k :=
 nin_congr fun i hi => (has_mod (a := a) (y := a + (i : Nat)) (h.mono (Int.le_refl _) (by omega)) (by omega) (by omega) (by
  have e : a + ((s.per * j : Nat) : Int) + (i : Nat) = (a + (i : Nat)) + (s.per : Int) * (j : Nat) := by rw [Int.natCast_mul]; omega
  rw [e, Int.add_mul_emod_self_left])).symm
theorem nin_muls {s : Ps} {a : Int} : ∀ {q : Nat}, Fre (zv s.cuts) a (a + ((s.per * q : Nat) : Int) - 1) → nin s a (s.per * q) = q * nin s a s.per
 | 0, _ => by simp [nin]
 | q + 1, h => by
  rw [Nat.mul_succ] at h; rw [Nat.mul_succ, nin_add, nin_muls (q := q) (h.mono (Int.le_refl _) (by omega)), nin_shift h, Nat.succ_mul]
theorem part_nin {s : Ps} {a : Int} {m : Nat} (h : Fre (zv s.cuts) a (a + (m : Nat) - 1)) : partV s a (m : Nat) = (nin s a m : Nat) := by
 have e1 : ((m : Nat) : Int) / (s.per : Int) = ((m / s.per : Nat) : Int) := rfl; have e2 : (((m : Nat) : Int) % (s.per : Int)).toNat = m % s.per := rfl; have e3 : s.per * (m / s.per) + m % s.per = m := Nat.div_add_mod m s.per; have h1 := nin_add s a (s.per * (m / s.per)) (m % s.per); have h2 := nin_muls (s := s) (a := a) (q := m / s.per) (h.mono (Int.le_refl _) (by omega)); have h3 := nin_shift (s := s) (a := a) (j := m / s.per) (k := m % s.per) (by rw [e3]; exact h); rw [e3, h2, h3] at h1; unfold partV; rw [e1, e2, h1, Int.natCast_add, Int.natCast_mul]
theorem sumK_nin {s : Ps} {l : List Z} (hr : (zv l).Pairwise (· ≤ ·)) (hf : ∀ k, k + 1 < l.length → Fre (zv s.cuts) (zth l k).v ((zth l (k + 1)).v - 1)) : ∀ {k : Nat}, k < l.length → sumK s l k = (nin s (zth l 0).v ((zth l k).v - (zth l 0).v).toNat : Nat)
 | 0, _ => by simp [sumK, nin]
 | k + 1, hk => by
  have ih := sumK_nin hr hf (k := k) (by omega); have h1 := ris_le hr (i := 0) (j := k) (Nat.zero_le _) (by omega); have h2 := ris_le hr (i := k) (j := k + 1) (by omega) hk; unfold sumK; rw [ih]; obtain ⟨m, hm⟩ : ∃ m : Nat, (m : Int) = (zth l (k + 1)).v - (zth l k).v := ⟨((zth l (k + 1)).v - (zth l k).v).toNat, by omega⟩; rw [← hm, part_nin ((hf k hk).mono (Int.le_refl _) (by omega))]
  have e : ((zth l (k + 1)).v - (zth l 0).v).toNat = ((zth l k).v - (zth l 0).v).toNat + m := by omega
  have e2 : (zth l 0).v + ((((zth l k).v - (zth l 0).v).toNat : Nat) : Int) = (zth l k).v := by omega
  rw [e, nin_add, e2, Int.natCast_add]
theorem stps_last (s : Ps) (lo e : Z) : zth (stps s lo e) ((stps s lo e).length - 1) = e := by
 simp [stps, zth]
theorem stps_free {s : Ps} {N : Nat} (hs : s.ok N) {lo e : Z} (h : lo.v ≤ e.v) : ∀ k, k + 1 < (stps s lo e).length → Fre (zv s.cuts) (zth (stps s lo e) k).v ((zth (stps s lo e) (k + 1)).v - 1) := by
 intro k hk c hc ⟨h1, h2⟩; have hr := stps_ris hs h; obtain ⟨z, hz, rfl⟩ := List.mem_map.1 hc; have h0 : (zth (stps s lo e) 0).v = lo.v := rfl
 have hlast : (zth (stps s lo e) ((stps s lo e).length - 1)).v = e.v := by rw [stps_last]
 have hge := ris_le hr (i := 0) (j := k) (Nat.zero_le _) (by omega); have hle := ris_le hr (i := k + 1) (j := (stps s lo e).length - 1) (by omega) (by omega); have hm : z ∈ stps s lo e := List.mem_cons_of_mem _ (List.mem_append_left _ (List.mem_filter.2 ⟨hz, by simp only [Bool.and_eq_true, decide_eq_true_eq]; omega⟩)); obtain ⟨j, hj, rfl⟩ := List.getElem_of_mem hm; rw [← zth_eq _ j hj] at h1 h2
 rcases Nat.lt_or_ge k j with hkj | hkj
 ·have := ris_le hr (i := k + 1) (j := j) (by omega) hj; omega
 ·have := ris_le hr (i := j) (j := k) hkj (by omega); omega
theorem cnt_nin {s : Ps} {N : Nat} (hs : s.ok N) (lo : Z) (hi : Int) : cntV s lo hi = (nin s lo.v (hi + 1 - lo.v).toNat : Nat) := by
 unfold cntV
 by_cases h : hi < lo.v
 ·have : (hi + 1 - lo.v).toNat = 0 := by omega
  rw [if_pos h, this]; rfl
 ·have he : lo.v ≤ (cz (hi + 1)).v := by rw [cz_v]; omega
  have h1 := sumK_nin (stps_ris hs he) (stps_free hs he) (k := (stps s lo (cz (hi + 1))).length - 1) (by simp [stps]); rw [if_neg h, h1, stps_last, cz_v]
  rfl

theorem fat_none {s : Ps} {step a : Int} {k : Nat} (h : fatK s step a k = none) : ∀ i : Nat, i < k → s.has (a + step * (i : Nat)) = false := fun i hi => by
 unfold fatK at h; have := List.find?_eq_none.1 h _ (List.mem_map.2 ⟨i, List.mem_range.2 hi, rfl⟩)
 simpa using this
theorem fat_some {s : Ps} {step a x : Int} : ∀ {k : Nat}, fatK s step a k = some x → ∃ i : Nat, i < k ∧ x = a + step * (i : Nat) ∧ s.has x = true ∧ ∀ j : Nat, j < i → s.has (a + step * (j : Nat)) = false
 | 0, h => by simp [fatK] at h
 | k + 1, h => by
  cases e : fatK s step a k with
  | none =>
   rw [fatK_step s step a k e] at h
   split at h
   ·rename_i hh
    injection h with h
    subst h; exact ⟨k, by omega, rfl, hh, fat_none e⟩
   ·cases h
  | some y =>
   have h2 := fatK_some (m := k + 1) (by omega) e; rw [h] at h2
   injection h2 with h2
   subst h2; obtain ⟨i, hi, h3⟩ := fat_some e; exact ⟨i, by omega, h3⟩

def Zup (cs : List Int) : List Z → Int → Prop
 | [], a => ∀ z, Fre cs a z
 | b :: r, a => Fre cs a (b.v - 1) ∧ a < b.v ∧ Zup cs r b.v
theorem zup_of {cs : List Int} : ∀ {l : List Z} {a : Int}, Ris (a :: zv l) → (∀ c ∈ cs, a < c → c ∈ zv l) → Zup cs l a
 | [], a, _, h => fun z c hc ⟨h1, _⟩ => by have := h c hc h1; simp [zv] at this
 | b :: r, a, hr, h => by
  obtain ⟨h1, h2⟩ := List.pairwise_cons.1 hr; have hab : a < b.v := h1 b.v (by simp [zv]); obtain ⟨h3, h4⟩ := List.pairwise_cons.1 h2; refine ⟨fun c hc ⟨h5, h6⟩ => ?_, hab, zup_of h2 fun c hc h5 => ?_⟩
  ·rcases List.mem_cons.1 (h c hc h5) with e | e
   ·omega
   ·have := h3 c e; omega
  ·rcases List.mem_cons.1 (h c hc (by omega)) with e | e
   ·omega
   ·exact e
theorem up_none {s : Ps} {a z : Int} (hp : 0 < s.per) (h : fatK s 1 a s.per = none) (hz : a ≤ z) (hf : Fre (zv s.cuts) a z) : s.has z = false := by
 have h0 : (0 : Int) < (s.per : Int) := by omega
 have h1 := Int.emod_nonneg (z - a) (show (s.per : Int) ≠ 0 by omega); have h2 := Int.emod_lt_of_pos (z - a) h0
 have h3 : (z - a) % (s.per : Int) ≤ z - a := by
  have := Int.mul_nonneg (Int.le_of_lt h0) (Int.ediv_nonneg (show 0 ≤ z - a by omega) (Int.le_of_lt h0)); have := Int.mul_ediv_add_emod (z - a) (s.per : Int)
  omega
 have e : (a + (z - a) % (s.per : Int)) % (s.per : Int) = z % (s.per : Int) := by
  rw [Int.add_emod_emod]; congr 1; omega
 rw [← has_mod hf (y := a + (z - a) % (s.per : Int)) (by omega) (by omega) e]; have := fat_none h ((z - a) % (s.per : Int)).toNat (by omega); rw [Int.one_mul, Int.toNat_of_nonneg h1] at this; exact this
theorem nxt_go {s : Ps} (hp : 0 < s.per) : ∀ {l : List Z} {a : Z}, Zup (zv s.cuts) l a.v → (fndV s 1 (a :: l) = none → ∀ z, a.v ≤ z → s.has z = false) ∧ ∀ x, fndV s 1 (a :: l) = some x → a.v ≤ x ∧ s.has x = true ∧ ∀ z, a.v ≤ z → z < x → s.has z = false
 | l, a, hz => by
  have e0 : fndV s 1 (a :: l) = match fatK s 1 a.v s.per with | some x => some x | none => fndV s 1 l := by
   unfold fndV; rw [List.findSome?_cons]; cases fatK s 1 a.v s.per <;> rfl
  cases e : fatK s 1 a.v s.per with
  | some y =>
   rw [e] at e0; simp only at e0; obtain ⟨i, hi, hy, h1, h2⟩ := fat_some e; refine ⟨fun h => (by rw [e0] at h; cases h), fun x hx => ?_⟩; rw [e0] at hx
   injection hx with hx
   subst hx; refine ⟨by omega, h1, fun z hz1 hz2 => ?_⟩; have := h2 (z - a.v).toNat (by omega); rw [Int.one_mul, Int.toNat_of_nonneg (by omega)] at this
   rw [← this]; congr 1; omega
  | none =>
   rw [e] at e0; simp only at e0; rw [e0]
   match l, hz with
   | [], hz => exact ⟨fun _ z h => up_none hp e h (hz z), fun x hx => by simp [fndV] at hx⟩
   | b :: r, ⟨h1, h2, h3⟩ =>
    obtain ⟨g1, g2⟩ := nxt_go hp (l := r) (a := b) h3
    have hlow : ∀ z, a.v ≤ z → z < b.v → s.has z = false := fun z hz1 hz2 => up_none hp e hz1 (h1.mono (Int.le_refl _) (by omega))
    refine ⟨fun h z hz1 => ?_, fun x hx => ?_⟩
    ·by_cases hb : z < b.v
     ·exact hlow z hz1 hb
     ·exact g1 h z (by omega)
    ·obtain ⟨k1, k2, k3⟩ := g2 x hx; refine ⟨by omega, k2, fun z hz1 hz2 => ?_⟩
     by_cases hb : z < b.v
     ·exact hlow z hz1 hb
     ·exact k3 z (by omega) hz2
theorem nxtS_zup {s : Ps} {N : Nat} (hs : s.ok N) (x : Z) : Zup (zv s.cuts) (s.cuts.filter fun c => decide (x.v < c.v)) x.v := by
 refine zup_of (List.pairwise_cons.2 ⟨fun c hc => ?_, ?_⟩) fun c hc h => ?_
 ·obtain ⟨z, hz, rfl⟩ := List.mem_map.1 hc
  simpa using (List.mem_filter.1 hz).2
 ·have h2 := hs.ris; rw [Ris, zv, List.pairwise_map] at h2; rw [zv, List.pairwise_map]; exact h2.sublist List.filter_sublist
 ·obtain ⟨z, hz, rfl⟩ := List.mem_map.1 hc; exact List.mem_map.2 ⟨z, List.mem_filter.2 ⟨hz, by simpa using h⟩, rfl⟩
theorem nxt_none {s : Ps} {N : Nat} (hs : s.ok N) {x : Z} (h : nxtV s x = none) : ∀ z, x.v ≤ z → s.has z = false := (nxt_go hs.per0 (nxtS_zup hs x)).1 h
theorem nxt_some {s : Ps} {N : Nat} (hs : s.ok N) {x : Z} {y : Int} (h : nxtV s x = some y) : x.v ≤ y ∧ s.has y = true ∧ ∀ z, x.v ≤ z → z < y → s.has z = false := (nxt_go hs.per0 (nxtS_zup hs x)).2 y h

def Zdn (cs : List Int) : List Z → Int → Prop
 | [], a => ∀ z, Fre cs z a
 | b :: r, a => Fre cs (b.v + 1) a ∧ b.v < a ∧ Zdn cs r b.v
theorem zdn_of {cs : List Int} : ∀ {l : List Z} {a : Int}, (a :: zv l).Pairwise (· > ·) → (∀ c ∈ cs, c - 1 < a → c - 1 ∈ zv l) → Zdn cs l a
 | [], a, _, h => fun z c hc ⟨_, h1⟩ => by have := h c hc (by omega); simp [zv] at this
 | b :: r, a, hr, h => by
  obtain ⟨h1, h2⟩ := List.pairwise_cons.1 hr; have hab : a > b.v := h1 b.v (by simp [zv]); obtain ⟨h3, h4⟩ := List.pairwise_cons.1 h2; refine ⟨fun c hc ⟨h5, h6⟩ => ?_, hab, zdn_of h2 fun c hc h5 => ?_⟩
  ·rcases List.mem_cons.1 (h c hc (by omega)) with e | e
   ·omega
   ·have := h3 _ e; omega
  ·rcases List.mem_cons.1 (h c hc (by omega)) with e | e
   ·omega
   ·exact e
theorem dn_none {s : Ps} {a z : Int} (hp : 0 < s.per) (h : fatK s (-1) a s.per = none) (hz : z ≤ a) (hf : Fre (zv s.cuts) z a) : s.has z = false := by
 have h0 : (0 : Int) < (s.per : Int) := by omega
 have h1 := Int.emod_nonneg (a - z) (show (s.per : Int) ≠ 0 by omega); have h2 := Int.emod_lt_of_pos (a - z) h0
 have h3 : (a - z) % (s.per : Int) ≤ a - z := by
  have := Int.mul_nonneg (Int.le_of_lt h0) (Int.ediv_nonneg (show 0 ≤ a - z by omega) (Int.le_of_lt h0)); have := Int.mul_ediv_add_emod (a - z) (s.per : Int)
  omega
 have e : z % (s.per : Int) = (a - (a - z) % (s.per : Int)) % (s.per : Int) := by
  rw [Int.sub_emod_emod]; congr 1; omega
 rw [has_mod (hf.mono (Int.le_refl _) (by omega)) (Int.le_refl _) (z := a - (a - z) % (s.per : Int)) (by omega) e]; have := fat_none h ((a - z) % (s.per : Int)).toNat (by omega); rw [Int.toNat_of_nonneg h1] at this
 rw [← this]; congr 1; omega
theorem lst_go {s : Ps} (hp : 0 < s.per) : ∀ {l : List Z} {a : Z}, Zdn (zv s.cuts) l a.v → (fndV s (-1) (a :: l) = none → ∀ z, z ≤ a.v → s.has z = false) ∧ ∀ x, fndV s (-1) (a :: l) = some x → x ≤ a.v ∧ s.has x = true ∧ ∀ z, z ≤ a.v → x < z → s.has z = false
 | l, a, hz => by
  have e0 : fndV s (-1) (a :: l) = match fatK s (-1) a.v s.per with | some x => some x | none => fndV s (-1) l := by
   unfold fndV; rw [List.findSome?_cons]; cases fatK s (-1) a.v s.per <;> rfl
  cases e : fatK s (-1) a.v s.per with
  | some y =>
   rw [e] at e0; simp only at e0; obtain ⟨i, hi, hy, h1, h2⟩ := fat_some e; refine ⟨fun h => (by rw [e0] at h; cases h), fun x hx => ?_⟩; rw [e0] at hx
   injection hx with hx
   subst hx; refine ⟨by omega, h1, fun z hz1 hz2 => ?_⟩; have := h2 (a.v - z).toNat (by omega); rw [Int.toNat_of_nonneg (by omega)] at this
   rw [← this]; congr 1; omega
  | none =>
   rw [e] at e0; simp only at e0; rw [e0]
   match l, hz with
   | [], hz => exact ⟨fun _ z h => dn_none hp e h (hz z), fun x hx => by simp [fndV] at hx⟩
   | b :: r, ⟨h1, h2, h3⟩ =>
    obtain ⟨g1, g2⟩ := lst_go hp (l := r) (a := b) h3
    have hlow : ∀ z, z ≤ a.v → b.v < z → s.has z = false := fun z hz1 hz2 => dn_none hp e hz1 (h1.mono (by omega) (Int.le_refl _))
    refine ⟨fun h z hz1 => ?_, fun x hx => ?_⟩
    ·by_cases hb : b.v < z
     ·exact hlow z hz1 hb
     ·exact g1 h z (by omega)
    ·obtain ⟨k1, k2, k3⟩ := g2 x hx; refine ⟨by omega, k2, fun z hz1 hz2 => ?_⟩
     by_cases hb : b.v < z
     ·exact hlow z hz1 hb
     ·exact k3 z (by omega) hz2
theorem lstS_zdn {s : Ps} {N : Nat} (hs : s.ok N) (x : Z) : Zdn (zv s.cuts) (lstG x.v s.cuts.reverse) x.v := by
 refine zdn_of (List.pairwise_cons.2 ⟨fun c hc => ?_, ?_⟩) fun c hc h => ?_
 ·obtain ⟨z, hz, rfl⟩ := List.mem_map.1 hc
  simpa using (List.mem_filter.1 hz).2
 ·have h2 := hs.ris; rw [Ris, zv, List.pairwise_map] at h2; rw [zv, List.pairwise_map, lstG]; refine List.Pairwise.sublist List.filter_sublist ?_; rw [List.pairwise_map, List.pairwise_reverse]
  refine h2.imp fun h => ?_
  rw [cz_v, cz_v]; omega
 ·obtain ⟨z, hz, rfl⟩ := List.mem_map.1 hc; refine List.mem_map.2 ⟨cz (z.v + -1), List.mem_filter.2 ⟨List.mem_map.2 ⟨z, List.mem_reverse.2 hz, rfl⟩, ?_⟩, by rw [cz_v]; omega⟩
  rw [cz_v, decide_eq_true_eq]; omega
theorem lst_none {s : Ps} {N : Nat} (hs : s.ok N) {x : Z} (h : lstV s x = none) : ∀ z, z ≤ x.v → s.has z = false := (lst_go hs.per0 (lstS_zdn hs x)).1 h
theorem lst_some {s : Ps} {N : Nat} (hs : s.ok N) {x : Z} {y : Int} (h : lstV s x = some y) : y ≤ x.v ∧ s.has y = true ∧ ∀ z, z ≤ x.v → y < z → s.has z = false := (lst_go hs.per0 (lstS_zdn hs x)).2 y h

def mem_ (s : Ps) (a : Int) (k : Nat) : List Int := ((List.range k).map fun i : Nat => a + (i : Int)).filter s.has
theorem mem_len (s : Ps) (a : Int) (k : Nat) : (mem_ s a k).length = nin s a k := by
 rw [mem_, nin, List.filter_map, List.length_map]
 rfl
theorem mem_succ (s : Ps) (a : Int) (k : Nat) : mem_ s a (k + 1) = (if s.has a then [a] else []) ++ mem_ s (a + 1) k := by
 have e : ((List.range (k + 1)).map fun i : Nat => a + (i : Int)) = a :: (List.range k).map fun i : Nat => a + 1 + (i : Int) := by
  rw [List.range_succ_eq_map, List.map_cons, List.map_map]
  congr 1
  ·simp
  ·apply List.map_congr_left
   intro i _; simp only [Function.comp_apply]
   omega
 rw [mem_, e, List.filter_cons, ← mem_]
 split <;> rfl
theorem mem_skip {s : Ps} {a : Int} : ∀ {j k : Nat}, (∀ z, a ≤ z → z < a + (j : Nat) → s.has z = false) → mem_ s a (j + k) = mem_ s (a + (j : Nat)) k
 | 0, k, _ => by simp
 | j + 1, k, h => by
  have h1 := mem_skip (s := s) (a := a) (j := j) (k := k + 1) fun z h1 h2 => h z h1 (by omega)
  have e : j + 1 + k = j + (k + 1) := by omega
  rw [e, h1, mem_succ, h (a + (j : Nat)) (by omega) (by omega)]
  have e2 : a + (j : Nat) + 1 = a + ((j + 1 : Nat) : Int) := by omega
  rw [e2]; rfl
theorem mem_nil {s : Ps} {a : Int} {k : Nat} (h : ∀ z, a ≤ z → z < a + (k : Nat) → s.has z = false) : mem_ s a k = [] := by
 have := mem_skip (k := 0) h; rw [Nat.add_zero] at this
 rw [this]; rfl
def mbs (s : Ps) (lo hi : Int) : List Int := mem_ s lo (hi + 1 - lo).toNat
theorem mbs_cnt {s : Ps} {N : Nat} (hs : s.ok N) (lo : Z) (hi : Int) : cntV s lo hi = ((mbs s lo.v hi).length : Nat) := by rw [cnt_nin hs, mbs, mem_len]
theorem mbs_none {s : Ps} {N : Nat} (hs : s.ok N) {x : Z} {hi : Int} (h : nxtV s x = none) : mbs s x.v hi = [] := mem_nil fun z h1 _ => nxt_none hs h z h1
theorem mbs_far {s : Ps} {N : Nat} (hs : s.ok N) {x : Z} {y hi : Int} (h : nxtV s x = some y) (hy : hi < y) : mbs s x.v hi = [] := mem_nil fun z h1 h2 => (nxt_some hs h).2.2 z h1 (by omega)
theorem mbs_next {s : Ps} {N : Nat} (hs : s.ok N) {x : Z} {y hi : Int} (h : nxtV s x = some y) (hy : ¬ hi < y) : mbs s x.v hi = y :: mbs s (y + 1) hi := by
 obtain ⟨h1, h2, h3⟩ := nxt_some hs h
 have e : (hi + 1 - x.v).toNat = (y - x.v).toNat + ((hi + 1 - (y + 1)).toNat + 1) := by omega
 have e2 : x.v + (((y - x.v).toNat : Nat) : Int) = y := by omega
 rw [mbs, e, mem_skip (fun z hz1 hz2 => h3 z hz1 (by omega)), e2, mem_succ, h2]
 rfl

theorem zl_near {x : Int} {i L : Nat} (h : zl x ≤ L) (hL : 1 ≤ L) (hi : i ≤ 4096) (step : Int) (hs : step = 1 ∨ step = -1) : zl (x + step * (i : Nat)) ≤ L + 1 := by
 refine zl_add h (Nat.le_trans (zl_small ?_) hL)
 rcases hs with rfl | rfl <;> omega
theorem fnd_zl {s : Ps} {N L : Nat} (hs : s.ok N) {l : List Z} {step y : Int} (h : fndV s step l = some y) (hst : step = 1 ∨ step = -1) (hl : ∀ z ∈ l, zl z.v ≤ L) (hL : 1 ≤ L) : zl y ≤ L + 1 := by
 obtain ⟨a, ha, e⟩ := List.exists_of_findSome?_eq_some h; obtain ⟨i, hi, rfl, _⟩ := fat_some e; exact zl_near (hl a ha) hL (by have := hs.per1; omega) step hst
theorem cut_zl {s : Ps} {N : Nat} (hs : s.ok N) : ∀ c ∈ s.cuts, zl c.v ≤ N := fun c hc => by
 obtain ⟨h1, h2⟩ := hs.cut c hc
 rw [← cz_len, h2]; exact h1
theorem nxt_zl {s : Ps} {N L : Nat} (hs : s.ok N) {x : Z} {y : Int} (h : nxtV s x = some y) (hx : zl x.v ≤ L) (hN : N ≤ L) (hL : 1 ≤ L) : zl y ≤ L + 1 :=
 fnd_zl hs h (.inl rfl) (fun z hz => by
  rcases List.mem_cons.1 hz with rfl | hz
  ·exact hx
  ·exact Nat.le_trans (cut_zl hs z (List.mem_filter.1 hz).1) hN) hL
end Go.Proofs.YtpkfjbljhneenaaGreat

namespace Go.Proofs.YtpkfjbljhneenaaGreat
open Go.RowKit Go.Shelf

set_option maxHeartbeats 1600000 in
theorem lints_c {u v : Value} {z : Z} {w : World} {X Y : Nat → Prop} (hx : Zi w X u z) (hy : Zi w Y v z) :
  Calls Tryz.prog 9 #[u, v] w fun e w' => e = .returned (.bool true) ∧ Ext w w' := by
 obtain ⟨A, c, rfl, h⟩ := hx; obtain ⟨B, d, rfl, h'⟩ := hy
 have hm := h.2.1; have hlc := h.1
 simp only [maxLen] at hm; obtain ⟨n, l⟩ := z; simp only at h h' hm hlc ⊢
 go_enter Tryz.func9, Tryz.ntmps9
 have hbn : (n != n) = false := by cases n <;> rfl
 go_upto_region 1 with fail
 refine wp_named fun W hW => ?_
 have b2 : Box W w.heap.size 25 #[.bool n, .slice A l.length c] := by rw [hW]; exact bxt
 have b3 : Box W (w.heap.size + 1) 25 #[.bool n, .slice B l.length d] := by rw [hW]; exact bxt
 have hE : Ext w W := by rw [hW]; exact xt
 have hs := hE.size; clear hW
 have b2r := b2.rules; have b2l := b2.lt
 have b3r := b3.rules; have b3l := b3.lt
 go_wp2_with fail
 go_loopw [5] (fun iv wr => ∃ k : Nat, k ≤ l.length ∧ iv = .int .i64 k ∧ Ext W wr) (fun iv _ => l.length - (intOf iv).toNat)
 case atStart => exact ⟨0, Nat.zero_le _, rfl, xt⟩
 case round =>
  obtain ⟨k, hk, rfl, hx⟩ := hrel
  have c2 := b2.ext hx; have c3 := b3.ext hx
  have c2r := c2.rules; have c2l := c2.lt
  have c3r := c3.rules; have c3l := c3.lt
  clear b2r b3r
  by_cases hlt : k < l.length
  ·obtain ⟨b, o, rfl, _, hc, _⟩ := (h.ext (hE.trans hx)).at_ hlt; obtain ⟨b2, o2, rfl, _, hc2, _⟩ := (h'.ext (hE.trans hx)).at_ hlt; have hc := hc k hlt; have hc2 := hc2 k hlt; have hb := World.block_lt_of_cell? _ _ hc; have hb2 := World.block_lt_of_cell? _ _ hc2
   have kl : (k : Int) < (l.length : Int) := by omega
   have kw := w64n (n := k) (by omega); generalize nth l k = y at hc hc2
   go_wp2_with fail
   refine wp_region_seq 11 [(0, true), (1, true), (2, true), (3, true), (4, true), (5, true), (6, true), (7, true), (8, true), (9, true), (10, true)] rfl (by kernel_rfl) (by intro _ _ d _ _ h; cases d <;> exact h) ?_
   (repeat (refine sq_take (v := ?_) rfl rfl ?_ ?_; rotate_left; exact tk2; (try simp only [pt])))
   refine sq_done ?_
   go_wp2_with fail
   go_roundw
   case rel => exact ⟨k + 1, by omega, by go_num, xt⟩
   case measure => simp [intOf] <;> omega
  ·obtain rfl : k = l.length := by omega
   go_wp2_with fail
   go_ret
   exact ⟨rfl, hE.trans hx⟩

end Go.Proofs.YtpkfjbljhneenaaGreat

namespace Go.Proofs.YtpkfjbljhneenaaGreat
open Go.RowKit Go.Shelf

set_option maxRecDepth 100000 in
set_option maxHeartbeats 3200000 in
theorem count_c {g N L : Nat} {s : Ps} {w : World} {X Y Y' : Nat → Prop} {u v : Value} {lo hi : Z} (hs : SetV w X g s) (hsk : s.ok N) (hN : N ≤ L) (hL : L ≤ 274877906940) (hlo : Zi w Y u lo) (hhi : Zi w Y' v hi) (hLl : lo.mag.length ≤ L) (hLh : hi.mag.length ≤ L) :
  Calls Tryz.prog 8 #[.pointer (some ⟨g, 0, none⟩), u, v] w fun e w' => ∃ r, e = .returned (.tuple #[r, .int .i64 0]) ∧ Zi w' (w.heap.size ≤ ·) r (cz (cntV s lo hi.v)) ∧ Ext w w' := by
 have hcl := hsk.len
 have hzh : zl (hi.v + 1) ≤ L + 1 := by
  have h1 := zl_of hhi.lb
  rcases Nat.eq_zero_or_pos L with rfl | h
  ·have h2 : hi.v = 0 := by
    have h3 : hi.mag = [] := List.eq_nil_of_length_eq_zero (by omega); obtain ⟨hn, hm⟩ := hi
    cases h3
    cases hn <;> rfl
   rw [h2]
   decide
  ·exact zl_add (Nat.le_trans h1 hLh) (Nat.le_trans (show zl 1 ≤ 1 by decide) (by omega))
 have HZH := Lib.hid hzh
 have hle := fun (U : World) (hU : Ext w U) => less_c (hhi.ext hU) (hlo.ext hU)
 have hpl := fun (U : World) (hU : Ext w U) => plus_c (hhi.ext hU) (by omega) 1 (by omega) (by omega)
 have hst := fun (U : World) (hU : Ext w U) (r : Value) (Q : Nat → Prop) (h : Zi U Q r (cz (hi.v + 1))) => stops_c (hs.ext hU) hsk (by omega) (hlo.ext hU) h
 have hpt := fun (U : World) (hU : Ext w U) (r q : Value) (Q Q' : Nat → Prop) (a n : Z) (ha : Zi U Q r a) (hn : Zi U Q' q n) => part_c (hs.ext hU) hsk ha hn
 have hlb := hlo.lb; obtain ⟨A, c, rfl, hlo⟩ := hlo; obtain ⟨B, d, rfl, hhi⟩ := hhi; have p0s := hsk.per0
 have hris : ¬ hi.v < lo.v → (zv (stps s lo (cz (hi.v + 1)))).Pairwise (· ≤ ·) := fun h => stps_ris hsk (by rw [cz_v]; omega)
 have hzl : ∀ z ∈ stps s lo (cz (hi.v + 1)), z.mag.length ≤ L + 1 ∧ zl z.v ≤ L + 1 := stps_zl hsk (by omega) (by omega) hlb (by rw [cz_len]; exact hzh) (lb_lim _)
 have hcV : cntV s lo hi.v = if hi.v < lo.v then 0 else sumK s (stps s lo (cz (hi.v + 1))) ((stps s lo (cz (hi.v + 1))).length - 1) := rfl
 have hl0 : 0 < (stps s lo (cz (hi.v + 1))).length := by simp [stps]
 obtain ⟨vv, hvv⟩ : ∃ vv, vv = cntV s lo hi.v := ⟨_, rfl⟩; rw [← hvv] at hcV ⊢; have HV := Lib.hid hcV; obtain ⟨l, hlE⟩ : ∃ l, l = stps s lo (cz (hi.v + 1)) := ⟨_, rfl⟩; simp only [← hlE] at hris hzl hl0 hst HV; have HRis := Lib.hid hris; have HZL := Lib.hid hzl; clear hvv hcV hlE hzh hris hzl
 go_enter Tryz.func8, Tryz.ntmps8
 go_wp2_with fail
 obtain ⟨z0, hz0⟩ : ∃ z0, z0 = cz 0 := ⟨_, rfl⟩
 have hnum := fun (V : World) => cnum_c 0 (by omega) (by omega) V
 rw [← hz0] at hnum; have HZ0 := Lib.hid hz0; clear hz0; refine (hnum _).mono ?_; rintro e w1 ⟨_, rfl, ⟨A1, c1, rfl, hr1⟩, hx1⟩; have b4 := Box.ext (g := w.heap.size) bxt hx1; have b5 := Box.ext (g := w.heap.size + 1) bxt hx1; have b6 := Box.ext (g := w.heap.size + 1 + 1) bxt hx1; have hE1 : Ext w w1 := xt; have hs1 := hx1.size; simp only [wsz] at hs1
 go_upto_region 4 with fail
 refine wp_named fun W hW => ?_
 have b4' : Box W w.heap.size 25 #[.bool lo.neg, .slice A lo.mag.length c] := by rw [hW]; exact bxt
 have b5' : Box W (w.heap.size + 1) 25 #[.bool hi.neg, .slice B hi.mag.length d] := by rw [hW]; exact bxt
 have b6' : Box W (w.heap.size + 1 + 1) 25 #[.bool false, .slice none 0 0] := by rw [hW]; exact bxt
 have b8' : Box W w1.heap.size 25 #[.bool z0.neg, .slice A1 z0.mag.length c1] := by rw [hW]; exact bxt
 have hE : Ext w W := by rw [hW]; exact xt
 have hr1' : Nl W (fun b => w.heap.size + 1 + 1 < b ∧ b ≠ w1.heap.size) A1 c1 z0.mag := by
  rw [hW]; exact ((hr1.widen (Y := fun b => w.heap.size + 1 + 1 < b ∧ b ≠ w1.heap.size) fun b hb hl => ⟨by simp only [wsz] at hb; omega, by omega⟩).keep kpt)
 have hWs : W.heap.size = w1.heap.size + 1 := by rw [hW]; simp only [wsz]
 clear hW b4 b5 b6 hr1
 have b4r := b4'.rules; have b4l := b4'.lt
 have b5r := b5'.rules; have b5l := b5'.lt
 have b6r := b6'.rules; have b6l := b6'.lt
 have b8r := b8'.rules; have b8l := b8'.lt
 clear hnum hE1 hx1; have HLE := Lib.hid hle; clear b6r b8r
 go_wp2_with fail
 refine (HLE.out _ (hE.trans xt)).mono ?_; rintro e w2 ⟨rfl, hx2⟩; have hxW2 : Ext W w2 := xt; have hE2 := hE.trans hxW2
 have c4 := b4'.ext hxW2; have c5 := b5'.ext hxW2; have c6 := b6'.ext hxW2; have c8 := b8'.ext hxW2
 have hr2 := hr1'.ext hxW2; have hs2 := hxW2.size; clear b4r b5r b4l b5l b6l b8l
 by_cases hlt : hi.v < lo.v
 ·have hcl' := decide_eq_true hlt
  have c6r := c6.rules; have c6l := c6.lt
  have c8r := c8.rules; have c8l := c8.lt
  have hV : cz vv = z0 := by rw [HV.out, if_pos hlt, HZ0.out]
  go_wp2_with fail
  (refine bodyPost_ret (v := ?_) ?_ rfl ?_; rotate_left; (simp only [results, Tryz.results8]; go_simp; (first | done | with_reducible rfl)))
  refine ⟨_, rfl, ?_, ((hE2.setCell (by dsimp only; omega) _).setCell (by dsimp only; omega) _)⟩; rw [hV]; exact ⟨A1, c1, rfl, (hr2.keep kpt).widen (fun b hb _ => by first | omega | (dsimp only at hb ⊢; omega) | (dsimp only at hb; omega) | (simp only [wsz] at hb ⊢; omega) | (simp only [wsz] at hb; omega))⟩
 ·have hcl' := decide_eq_false hlt
  have c5r := c5.rules; have c5l := c5.lt
  have c4r := c4.rules; have c4l := c4.lt
  have hlt' : ¬ hi.v < lo.v := by omega
  have hris := HRis.out (by omega)
  have hV : vv = sumK s l (l.length - 1) := by rw [HV.out, if_neg (by omega)]
  have HVV := Lib.hid hV; clear HRis; have HRis := Lib.hid hris; clear HV hris hV
  go_upto_region 6 with fail
  refine wp_region_seq 5 [(0, true), (1, true), (2, true), (3, false), (4, false), (5, false)] rfl (by kernel_rfl) (by intro _ _ d _ _ h; cases d <;> exact h) ?_
  (repeat (first | (refine sq_take (v := ?_) rfl rfl ?_ ?_; rotate_left; exact tk2; (try simp only [pt])) | (refine sq_skip rfl rfl ?_; (try simp only [pt])) | (refine sq_noloud rfl rfl ?_; (try simp only [pt])) | (refine sq_takeg (v := ?_) rfl rfl ?_ ?_; rotate_left; exact tk2; (try simp only [pt]))))
  (refine sq_loudg rfl rfl fun K hK => ?_; go_simp)
  refine (hpl _ (hE2.trans xt)).mono ?_; rintro e w3 ⟨r3, rfl, hr3, hx3⟩
  (refine hK _ _ xt ?_; clear hK K; (try simp only [pt]))
  (repeat (first | (refine sq_take (v := ?_) rfl rfl ?_ ?_; rotate_left; exact tk2; (try simp only [pt])) | (refine sq_skip rfl rfl ?_; (try simp only [pt])) | (refine sq_noloud rfl rfl ?_; (try simp only [pt])) | (refine sq_takeg (v := ?_) rfl rfl ?_ ?_; rotate_left; exact tk2; (try simp only [pt]))))
  (refine sq_loudg rfl rfl fun K hK => ?_; go_simp)
  have hx23 : Ext w2 w3 := xt; refine (hst _ (hE2.trans hx23) _ _ hr3).mono ?_; rintro e w4 ⟨v4, rfl, hO4, hx4⟩; have hx24 := hx23.trans hx4
  (refine hK _ _ xt ?_; clear hK K; (try simp only [pt]))
  (repeat (first | (refine sq_take (v := ?_) rfl rfl ?_ ?_; rotate_left; exact tk2; (try simp only [pt])) | (refine sq_skip rfl rfl ?_; (try simp only [pt])) | (refine sq_noloud rfl rfl ?_; (try simp only [pt])) | (refine sq_takeg (v := ?_) rfl rfl ?_ ?_; rotate_left; exact tk2; (try simp only [pt]))))
  (refine sq_last rfl rfl fun K hK => ?_; go_simp; refine hK _ _ ?_; clear hK K)
  have hs23 := hx23.size; have hs24 := hx24.size
  have d6 := c6.ext hx24; have d8 := c8.ext hx24
  have hO5 := Own.offz hO4 d8 (by simp); obtain ⟨A4, c4', rfl, hZ4⟩ := Own.sl hO5 (by omega) (X := fun b => b ≠ w1.heap.size) (fun b hb => by rcases hb with hb | hb; exact hb.2; omega); have hr4 := hr2.ext hx24; have hE4 := hE2.trans hx24
  have hll := hZ4.1; have hlm := hZ4.2.1
  simp only [maxLen] at hlm; have lw := w64n (n := l.length - 1) (by omega)
  go_wp2_with fail
  have d6k := fun (U : World) (hU : Kp (fun b => b ≠ w1.heap.size) w4 U) => d6.keep (X := fun b => b ≠ w1.heap.size) (by omega) hU
  have hw4 := hE4.size; clear lw c4r c5r c4l c5l HLE hpl hst
  go_loopw [27] (fun iv wr => ∃ k : Nat, k ≤ l.length - 1 ∧ iv = .int .i64 k ∧ (∃ z A c, Hid (z = cz (sumK s l k)) ∧ Box wr w1.heap.size 25 #[.bool z.neg, .slice A z.mag.length c] ∧ Nl wr (fun b => w.heap.size + 1 + 1 < b ∧ b ≠ w1.heap.size) A c z.mag) ∧ Kp (fun b => b ≠ w1.heap.size) w4 wr ∧ Ext w wr) (fun iv _ => l.length - 1 - (intOf iv).toNat)
  case atStart => exact ⟨0, Nat.zero_le _, rfl, ⟨z0, A1, c1, Lib.hid (by rw [HZ0.out]; rfl), d8, hr4⟩, Kp.refl _, hE4⟩
  case round =>
   obtain ⟨k, hk, rfl, ⟨z, Az, cz', HZK, hB, hNz⟩, hkp, hxr⟩ := hrel; have e6 := d6k _ hkp
   have hBr := hB.rules; have hBl := hB.lt
   by_cases hlt : k < l.length - 1
   ·have hZr := Sl.keep hZ4 hkp; obtain ⟨b, o, B1, d1, rfl, hX, q0, q1, hN1⟩ := Zs.at_ hZr (k := k) (by omega); obtain ⟨j, hj⟩ : ∃ j, j = k + 1 := ⟨_, rfl⟩
    have iw : IntKind.i64.wrap ((k : Int) + 1) = (j : Int) := by rw [w64 (n := (k : Int) + 1) ⟨by omega, by omega⟩]; omega
    have kl2 : (j : Int) < (l.length : Int) := by omega
    obtain ⟨b', o', B2, d2, hA, _, p0, p1, hN2⟩ := Zs.at_ hZr (k := j) (by omega); have HJ := Lib.hid hj; clear hj
    injection hA with hA
    injection hA with hb ho
    subst hb; subst ho
    have hbw := World.block_lt_of_cell? _ _ q0
    have kl : (k : Int) < (l.length : Int) - 1 := by omega
    have kl1 : (k : Int) < (l.length : Int) := by omega
    obtain ⟨n, hn⟩ : ∃ n, n = (zth l j).v - (zth l k).v := ⟨_, rfl⟩; have hRis := HRis.out
    have hn0 : 0 ≤ n := by
     have := ris_le hRis (i := k) (j := j) (by have := HJ.out; omega) (by omega)
     omega
    have hbd := sumK_bd p0s hRis (k := k) (by omega); have hzk := HZL.out _ (zth_mem (l := l) (k := k) (by omega)); have hzj := HZL.out _ (zth_mem (l := l) (k := j) (by omega)); have hz00 := HZL.out _ (zth_mem (l := l) (k := 0) (by omega))
    have hzn : zl n ≤ L + 2 := by rw [hn]; exact zl_sub (k := L + 1) hzj.2 hzk.2
    have hpv0 := partV_nn s (zth l k).v hn0; have hpv1 := partV_le s (zth l k).v p0s hn0; have hzp : zl (partV s (zth l k).v n) ≤ L + 2 := Nat.le_trans (zl_abs (by omega)) hzn; have hzs : zl (sumK s l k) ≤ L + 2 := Nat.le_trans (zl_abs (y := (zth l k).v - (zth l 0).v) (by omega)) (zl_sub (k := L + 1) hzk.2 hz00.2)
    have hsum : sumK s l (k + 1) = sumK s l k + partV s (zth l k).v n := by rw [hn, HJ.out]; rfl
    have HSum := Lib.hid hsum; have Hlt := Lib.hid hlt; clear hlt
    have hsub := fun (U : World) (hU : Ext wr U) => zsub_c (x := zth l j) (y := zth l k) (⟨_, _, rfl, hN2.ext hU⟩ : Zi U (fun b => b ≠ w1.heap.size) (.agg #[.bool (zth l j).neg, .slice B2 (zth l j).mag.length d2]) (zth l j)) (⟨_, _, rfl, hN1.ext hU⟩ : Zi U (fun b => b ≠ w1.heap.size) (.agg #[.bool (zth l k).neg, .slice B1 (zth l k).mag.length d1]) (zth l k)) (by omega) (by omega)
    rw [← hn] at hsub
    have hpart := fun (U : World) (hU : Ext wr U) (q : Value) (Q : Nat → Prop) (hq : Zi U Q q (cz n)) => hpt U (hxr.trans hU) (.agg #[.bool (zth l k).neg, .slice B1 (zth l k).mag.length d1]) q (fun b => b ≠ w1.heap.size) Q (zth l k) (cz n) (⟨_, _, rfl, hN1.ext hU⟩) hq (by rw [cz_v]; exact hn0) (by omega) (by rw [cz_len]; omega)
    simp only [cz_v] at hpart; obtain ⟨pv, hpv⟩ : ∃ pv, pv = partV s (zth l k).v n := ⟨_, rfl⟩; simp only [← hpv] at hpart
    have hadd := fun (U : World) (hU : Ext wr U) (q : Value) (Q : Nat → Prop) (hq : Zi U Q q (cz pv)) => zadd_c (⟨_, _, rfl, hNz.ext hU⟩ : Zi U (fun b => w.heap.size + 1 + 1 < b ∧ b ≠ w1.heap.size) (.agg #[.bool z.neg, .slice Az z.mag.length cz']) z) hq (by rw [HZK.out, cz_len]; omega) (by rw [cz_len, hpv]; omega)
    have hzv : z.v + (cz pv).v = sumK s l (k + 1) := by rw [cz_v, HZK.out, cz_v, hsum, hpv]
    rw [hzv] at hadd
    have HAdd := Lib.hid hadd; have HPart := Lib.hid hpart; have HSub := Lib.hid hsub
    clear hsub hpart hadd hzv hpv hsum hzs hzp hpv0 hpv1 hzn hz00 hzj hzk hbd hn0 hRis hn
    go_upto_region 10 with fail
    refine wp_region_seq 18 [(0, true), (1, true), (2, true), (3, true), (4, true), (5, true), (6, true), (7, true), (8, true), (9, true), (10, true), (11, true), (12, true), (13, true), (14, true), (15, false), (16, false), (17, false), (18, false)] rfl (by kernel_rfl) (by intro _ _ d _ _ h; cases d <;> exact h) ?_
    (repeat (first | (refine sq_take (v := ?_) rfl rfl ?_ ?_; rotate_left; exact tk2; (try simp only [pt])) | (refine sq_skip rfl rfl ?_; (try simp only [pt])) | (refine sq_noloud rfl rfl ?_; (try simp only [pt])) | (refine sq_takeg (v := ?_) rfl rfl ?_ ?_; rotate_left; exact tk2; (try simp only [pt]))))
    (refine sq_loudg rfl rfl fun K hK => ?_; go_simp)
    refine (HSub.out _ xt).mono ?_; rintro e w5 ⟨r5, rfl, hr5, hx5⟩
    (refine hK _ _ xt ?_; clear hK K; (try simp only [pt]))
    (repeat (first | (refine sq_take (v := ?_) rfl rfl ?_ ?_; rotate_left; exact tk2; (try simp only [pt])) | (refine sq_skip rfl rfl ?_; (try simp only [pt])) | (refine sq_noloud rfl rfl ?_; (try simp only [pt])) | (refine sq_takeg (v := ?_) rfl rfl ?_ ?_; rotate_left; exact tk2; (try simp only [pt]))))
    (refine sq_loudg rfl rfl fun K hK => ?_; go_simp)
    have hxr5 : Ext wr w5 := xt; refine (HPart.out _ hxr5 _ _ hr5).mono ?_; rintro e w6 ⟨r6, rfl, hr6, hx6⟩; have hxr6 := hxr5.trans hx6
    (refine hK _ _ xt ?_; clear hK K; (try simp only [pt]))
    (repeat (first | (refine sq_take (v := ?_) rfl rfl ?_ ?_; rotate_left; exact tk2; (try simp only [pt])) | (refine sq_skip rfl rfl ?_; (try simp only [pt])) | (refine sq_noloud rfl rfl ?_; (try simp only [pt])) | (refine sq_takeg (v := ?_) rfl rfl ?_ ?_; rotate_left; exact tk2; (try simp only [pt]))))
    (refine sq_loudg rfl rfl fun K hK => ?_; go_simp)
    refine (HAdd.out _ hxr6 _ _ hr6).mono ?_; rintro e w7 ⟨r7, rfl, hr7, hx7⟩; have hxr7 := hxr6.trans hx7; obtain ⟨zz, hzz⟩ : ∃ zz, zz = cz (sumK s l (k + 1)) := ⟨_, rfl⟩; rw [← hzz] at hr7; have HZZ := Lib.hid hzz; clear hzz; obtain ⟨A7, c7, rfl, hr7⟩ := hr7; have f8 := hB.ext hxr7
    have f8r := f8.rules; have f8l := f8.lt
    have hs6 := hxr6.size; clear hBr
    (refine hK _ _ xt ?_; clear hK K; (try simp only [pt]))
    (repeat (first | (refine sq_take (v := ?_) rfl rfl ?_ ?_; rotate_left; exact tk2; (try simp only [pt])) | (refine sq_skip rfl rfl ?_; (try simp only [pt])) | (refine sq_noloud rfl rfl ?_; (try simp only [pt])) | (refine sq_takeg (v := ?_) rfl rfl ?_ ?_; rotate_left; exact tk2; (try simp only [pt]))))
    (refine sq_last rfl rfl fun K hK => ?_; go_simp; refine hK _ _ ?_; clear hK K)
    go_wp2_with fail
    go_roundw
    case rel => exact ⟨j, by have := HJ.out; have := Hlt.out; omega, rfl, ⟨zz, A7, c7, Lib.hid (by rw [HZZ.out, HJ.out]), (f8.set_ 0 _).set_ 1 _, (hr7.widen (Y := fun b => w.heap.size + 1 + 1 < b ∧ b ≠ w1.heap.size) fun b hb _ => ⟨by omega, by omega⟩).keep kpt⟩, ((hkp.ext hxr7).setCell (fun h => h rfl) _).setCell (fun h => h rfl) _, ((hxr.trans hxr7).setCell (by dsimp only; omega) _).setCell (by dsimp only; omega) _⟩
    case measure => have := Hlt.out; have := HJ.out; simp [intOf]; omega
   ·obtain rfl : k = l.length - 1 := by omega
    have hkl : ¬ ((l.length - 1 : Nat) : Int) < (l.length : Int) - 1 := by omega
    have e6r := e6.rules; have e6l := e6.lt
    have hZV : z = cz vv := by rw [HVV.out, HZK.out]
    have HZV := Lib.hid hZV; clear hZV
    go_wp2_with fail
    (refine bodyPost_ret (v := ?_) ?_ rfl ?_; rotate_left; (simp only [results, Tryz.results8]; go_simp; (first | done | with_reducible rfl)))
    refine ⟨_, rfl, ?_, (hxr.setCell (by dsimp only; omega) _).setCell (by dsimp only; omega) _⟩; rw [← HZV.out]; exact ⟨Az, cz', rfl, (hNz.keep kpt).widen (fun b hb _ => by first | omega | (dsimp only at hb ⊢; omega) | (dsimp only at hb; omega) | (simp only [wsz] at hb ⊢; omega) | (simp only [wsz] at hb; omega))⟩

end Go.Proofs.YtpkfjbljhneenaaGreat

namespace Go.Proofs.YtpkfjbljhneenaaGreat
open Go.RowKit Go.Shelf

def nxtF (x : Z) (l : List Z) : List Z := l.filter fun c => decide (x.v < c.v)

set_option maxRecDepth 100000 in
set_option maxHeartbeats 3200000 in
theorem next_c {g N L : Nat} {s : Ps} {w : World} {X Y : Nat → Prop} {u : Value} {lo : Z} (hs : SetV w X g s) (hsk : s.ok N) (hN : N ≤ L) (hL : L ≤ 1099511627774) (hlo : Zi w Y u lo) (hLl : lo.mag.length ≤ L) :
    Calls Tryz.prog 13 #[.pointer (some ⟨g, 0, none⟩), u] w fun e w' => ∃ r, e = .returned (.tuple #[r, .bool (nxtV s lo).isSome]) ∧ Zi w' (w.heap.size ≤ ·) r (cz ((nxtV s lo).getD 0)) ∧ Ext w w' := by
  have hcl := hsk.len
  have hcu := fun (V : World) (hV : Ext w V) => cuts_c (hs.ext hV) hsk (by omega)
  have hls := fun (U : World) (hU : Ext w U) (r : Value) (z : Z) (Q : Nat → Prop) (h : Zi U Q r z) => less_c (hlo.ext hU) h
  have hzl := nxtS_zl hsk hN hLl
  have hfd := fun (U : World) (hU : Ext w U) (Q : Nat → Prop) (A : Option Addr) (c : Nat) (h : Zs U Q A c (nxtS s lo)) => found_c (step := 1) (hs.ext hU) hsk h (.inl rfl) (fun a ha => by have := hzl a ha; omega)
  have HFd := Lib.hid hfd; clear hfd hzl; obtain ⟨ov, hov⟩ : ∃ ov, ov = nxtV s lo := ⟨_, rfl⟩; have hov' := Lib.hid (show fndV s 1 (nxtS s lo) = ov from hov.symm); rw [← hov]; clear hov; have hov := hov'; clear hov'; obtain ⟨zn, hzn⟩ : ∃ zn, zn = cz (ov.getD 0) := ⟨_, rfl⟩; obtain ⟨bn, hbn⟩ : ∃ bn, bn = ov.isSome := ⟨_, rfl⟩; rw [← hzn, ← hbn]
  have HZN := Lib.hid hzn; have HBN := Lib.hid hbn
  clear hzn hbn; obtain ⟨A, c, rfl, hlo⟩ := hlo
  have hlo := hlo.widen (Y := fun b => b < w.heap.size) fun b _ h => h
  go_enter Tryz.func13, Tryz.ntmps13
  go_upto_region 3 with fail
  refine wp_named fun W1 hW1 => ?_
  have b4' : Box W1 w.heap.size 25 #[.bool lo.neg, .slice A lo.mag.length c] := by rw [hW1]; exact bxt
  have b5' : Box W1 (w.heap.size + 1) 25 #[.bool false, .slice none 0 0] := by rw [hW1]; exact bxt
  have hEW : Ext w W1 := by rw [hW1]; exact xt
  have hW1s : W1.heap.size = w.heap.size + 1 + 1 := by rw [hW1]; simp only [wsz]
  clear hW1
  have b4r := b4'.rules; have b4l := b4'.lt
  have b5r := b5'.rules; have b5l := b5'.lt
  go_upto_region 4 with fail
  refine wp_named fun W hW => ?_
  have b4 : Box W w.heap.size 25 #[.bool lo.neg, .slice A lo.mag.length c] := by rw [hW]; exact b4'.alloc _
  have b5 : Box W (w.heap.size + 1) 25 #[.bool false, .slice none 0 0] := by rw [hW]; exact b5'.alloc _
  have hE : Ext w W := by rw [hW]; exact hEW.alloc _
  have hWs : W.heap.size = w.heap.size + 1 + 1 + 1 := by rw [hW]; simp only [wsz]; omega
  have hO0 : Own 2 EZ W (fun b => b ≠ w.heap.size + 2) w.heap.size 25 (.slice (some ⟨w.heap.size + 1 + 1, 0, none⟩) 1 1) [lo] := by
    rw [hW]
    have h1 := Own.onez (w := W1) (Zp := fun b => b ≠ w.heap.size + 2) (base := w.heap.size) (t := 25) (A := A) (c := c) (z := lo) (by omega)
      ((hlo.ext hEW).widen fun b hb _ => ⟨by omega, by omega⟩)
    rw [hW1s] at h1; exact h1
  clear hW b4r b5r b4' b5'
  have b4r := b4.rules; have b4l := b4.lt
  have b5r := b5.rules; have b5l := b5.lt
  have HO0 := Lib.hid hO0; clear hO0
  go_wp2_with fail
  refine (hcu _ hE).mono ?_; rintro e w1 ⟨A1, c1, rfl, hZ1, hx1⟩; have hE1 := hE.trans hx1; have hs1 := hx1.size
  have hZ1 := Sl.widen hZ1 (by omega) (Y := fun b => W.heap.size ≤ b ∧ b < w1.heap.size) fun b hb hl => ⟨hb, hl⟩
  have hO1 := (HO0.out.ext hx1)
  have hlc := hZ1.1; have hlm := hZ1.2.1
  simp only [maxLen] at hlm
  have c4 := b4.ext hx1; have c5 := b5.ext hx1
  have hlo1 := hlo.ext hE1; clear b4r b5r hcu
  go_wp2_with fail
  go_loopw [6, 17] (fun lv iv wr => ∃ k : Nat, k ≤ s.cuts.length ∧ iv = .int .i64 k ∧ Own 2 EZ wr (fun b => b ≠ w.heap.size + 2 ∧ b < w1.heap.size) w.heap.size 25 lv (lo :: nxtF lo (s.cuts.take k)) ∧
    (∀ b, lv.ownBlock = some b → b = w.heap.size + 2 ∨ w1.heap.size ≤ b) ∧ Kp (fun b => b ≠ w.heap.size + 2) w1 wr ∧ Ext w wr ∧ w1.heap.size ≤ wr.heap.size) (fun _ iv _ => s.cuts.length - (intOf iv).toNat)
  case atStart => exact ⟨0, Nat.zero_le _, rfl, by simpa [nxtF] using hO1.widen (fun b hb hl => ⟨hb, hl⟩), fun b e => .inl (by injection e with e; exact e.symm), Kp.refl _, hE1, Nat.le_refl _⟩
  case round =>
    obtain ⟨k, hk, rfl, hO, hvb, hkp, hxw, hsz⟩ := hrel; have hrow := hO.row
    by_cases hlt : k < s.cuts.length
    · have hZr := Sl.keep hZ1 (hkp.imp fun b hb => by omega); obtain ⟨b, o, B', d', rfl, hX, q0, q1, hN2⟩ := Zs.at_ hZr hlt; have hbw := World.block_lt_of_cell? _ _ q0
      have kl : (k : Int) < (s.cuts.length : Int) := by omega
      have e2 := take_zth s.cuts k hlt; obtain ⟨zc, hzc⟩ : ∃ zc, zc = zth s.cuts k := ⟨_, rfl⟩; rw [← hzc] at q0 q1 hN2 e2; obtain ⟨p1, hp1⟩ : ∃ p1, p1 = decide (lo.v < zc.v) := ⟨_, rfl⟩
      have hstep : Hid (nxtF lo (s.cuts.take (k + 1)) = nxtF lo (s.cuts.take k) ++ if p1 then [zc] else []) := Lib.hid (by
        rw [e2, nxtF, List.filter_append, ← nxtF, hp1]
        congr 1
        by_cases h1 : lo.v < zc.v <;> simp [h1])
      have hc1 := fun (U : World) (hU : Ext wr U) => hls U (hxw.trans hU) (.agg #[.bool zc.neg, .slice B' zc.mag.length d']) zc _ ⟨_, _, rfl, hN2.ext hU⟩
      simp only [← hp1] at hc1; have d4 := c4.keep (X := fun b => b ≠ w.heap.size + 2) (by omega) hkp; have d5 := c5.keep (X := fun b => b ≠ w.heap.size + 2) (by omega) hkp
      have d4r := d4.rules; have d4l := d4.lt
      have hls' := Lib.hid hls; clear hp1 hls e2 hzc
      go_wp2_with fail
      refine (hc1 _ xt).mono ?_; rintro e w2 ⟨rfl, hx2⟩; have hxr2 : Ext wr w2 := xt
      (have b9 := Box.ext (g := wr.heap.size) bxt hx2; have b9r := b9.rules; have b9l := b9.lt)
      clear d4r
      cases p1
      · go_wp2_with fail
        go_roundw
        case rel => exact ⟨k + 1, by omega, by go_num, by rw [hstep.out]; simpa using hO.ext hxr2, hvb, hkp.ext hxr2, hxw.trans hxr2, by have := hxr2.size; omega⟩
        case measure => simp [intOf] <;> omega
      · have hO3 := hO.ext hxr2; have hs3 := hxr2.size; have hN3 := hN2.ext hxr2
        have hlen : (lo :: nxtF lo (s.cuts.take k)).length ≤ 2199023255552 := by
          have h1 := List.length_filter_le (fun c : Z => decide (lo.v < c.v)) (s.cuts.take k); rw [List.length_take] at h1; simp only [List.length_cons, nxtF]
          omega
        have hlen' := Lib.hid hlen; clear hlen
        go_wp2_with (first
          | (at_builtin
             (refine wpList_appz1 (.tmp 24) (.tmp 26) hO3 (hN3.widen fun q hq _ => ⟨by omega, fun e => by have := hvb q e; omega⟩) hlen'.out (by omega) rfl rfl rfl rfl ?_)
             intro v4 w4 hO4 hg4 hv4)
          | fail)
        have hxx : Ext w w4 := ((hxw.trans hxr2).alloc _).grown hg4 (fun j hj => (hrow _ hj).1); have hg4s := hg4.size; simp only [wsz] at hg4s
        go_roundw
        case rel =>
          refine ⟨k + 1, by omega, by go_num, by rw [hstep.out]; simpa using hO4, fun b e => ?_, fun b hb hl => ?_, hxx, by omega⟩
          · rcases hv4 with hv4 | hv4
            · exact hvb b (hv4 ▸ e)
            · rw [hv4] at e; injection e with e; omega
          · refine (hg4.block b (by simp only [wsz]; omega) fun e => ?_).trans (((Ext.refl w2).alloc _).block b (by omega) |>.trans ((hkp.ext hxr2) b hb hl))
            rcases hvb b e.symm with h | h
            · exact hb h
            · omega
        case measure => simp [intOf] <;> omega
    · obtain rfl : k = s.cuts.length := by omega
      rw [List.take_length] at hO; have hws := hxw.size; obtain ⟨A4, c4', rfl, hZ4⟩ := Own.sl hO (by omega) (X := fun _ => True) (fun _ _ => trivial); have e4 : lo :: nxtF lo s.cuts = nxtS s lo := rfl; rw [e4] at hZ4; have hF := HFd.out wr hxw _ _ _ hZ4; have d5 := c5.keep (X := fun b => b ≠ w.heap.size + 2) (by omega) hkp
      have d5r := d5.rules; have d5l := d5.lt
      rw [hov.out] at hF; rw [← HZN.out, ← HBN.out] at hF
      go_wp2_with fail
      refine hF.mono ?_; rintro e w5 ⟨_, rfl, ⟨A5, c5, rfl, h5⟩, hx5⟩; have f5 := d5.ext hx5
      have f5r := f5.rules; have f5l := f5.lt
      clear d5r
      go_wp2_with fail
      (refine bodyPost_ret (v := ?_) ?_ rfl ?_; rotate_left; (simp only [results, Tryz.results13]; go_simp; (first | done | with_reducible rfl)))
      exact ⟨_, rfl, ⟨A5, c5, rfl, ((h5.widen (Y := fun b => w.heap.size + 1 < b) fun b hb _ => by omega).keep kpt).widen (fun b hb _ => by first | omega | (dsimp only at hb ⊢; omega) | (dsimp only at hb; omega) | (simp only [wsz] at hb ⊢; omega) | (simp only [wsz] at hb; omega))⟩, ((hxw.trans hx5).setCell (by dsimp only; omega) _).setCell (by dsimp only; omega) _⟩

end Go.Proofs.YtpkfjbljhneenaaGreat
