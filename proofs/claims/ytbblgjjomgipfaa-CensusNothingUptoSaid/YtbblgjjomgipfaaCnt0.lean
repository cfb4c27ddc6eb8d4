/- census, in plain words: sums over the stops, what Next, Last and List tell. No conditions. -/
import Derived.Test.YtbblgjjomgipfaaFound
namespace Go.Proofs.Ytbblgjjomgipfaa
open Go.RowKit Go.Shelf

theorem partV_nn (s : Ps) (a : Int) {n : Int} (hn : 0 ≤ n) : 0 ≤ partV s a n := by
  unfold partV
  have h1 : 0 ≤ n / (s.per : Int) := Int.ediv_nonneg hn (by omega)
  have h2 : 0 ≤ n / (s.per : Int) * (nin s a s.per : Nat) := Int.mul_nonneg h1 (by omega)
  omega
theorem partV_le (s : Ps) (a : Int) {n : Int} (hp : 0 < s.per) (hn : 0 ≤ n) : partV s a n ≤ n := by
  unfold partV
  have h1 : 0 ≤ n / (s.per : Int) := Int.ediv_nonneg hn (by omega)
  have h2 : n / (s.per : Int) * (nin s a s.per : Nat) ≤ n / (s.per : Int) * (s.per : Nat) := Int.mul_le_mul_of_nonneg_left (by have := nin_le s a s.per; omega) h1
  have h3 : n % (s.per : Int) = n - n / (s.per : Int) * (s.per : Nat) := by rw [Int.emod_def, Int.mul_comm]
  have h4 : 0 ≤ n % (s.per : Int) := Int.emod_nonneg _ (by omega)
  have h5 := nin_le s a (n % (s.per : Int)).toNat
  omega
/-- The sum over the first k parts. -/
def sumK (s : Ps) (l : List Z) : Nat → Int
  | 0 => 0
  | k + 1 => sumK s l k + partV s (zth l k).v ((zth l (k + 1)).v - (zth l k).v)
/-- What Count tells. -/
def cntV (s : Ps) (lo : Z) (hi : Int) : Int := if hi < lo.v then 0 else sumK s (stps s lo (cz (hi + 1))) ((stps s lo (cz (hi + 1))).length - 1)
theorem stps_ris {s : Ps} {N : Nat} (hs : s.ok N) {lo e : Z} (h : lo.v ≤ e.v) : (zv (stps s lo e)).Pairwise (· ≤ ·) := by
  have h1 : (zv (stpsF lo e s.cuts)).Pairwise (· ≤ ·) := by
    have h2 : (zv s.cuts).Pairwise (· ≤ ·) := hs.ris.imp fun h => Int.le_of_lt h
    rw [zv, List.pairwise_map] at h2 ⊢
    exact h2.sublist List.filter_sublist
  have hm : ∀ a ∈ stpsF lo e s.cuts, lo.v < a.v ∧ a.v < e.v := fun a ha => by
    have := (List.mem_filter.1 ha).2
    simpa using this
  unfold stps
  rw [zv, List.map_cons, List.map_append, List.pairwise_cons, List.pairwise_append]
  refine ⟨fun x hx => ?_, h1, by simp, fun x hx y hy => ?_⟩
  · rcases List.mem_append.1 hx with hx | hx
    · obtain ⟨a, ha, rfl⟩ := List.mem_map.1 hx
      exact Int.le_of_lt (hm a ha).1
    · obtain rfl : x = e.v := by simpa using hx
      exact h
  · obtain ⟨a, ha, rfl⟩ := List.mem_map.1 hx
    obtain rfl : y = e.v := by simpa using hy
    exact Int.le_of_lt (hm a ha).2
theorem zth_map {l : List Z} {k : Nat} (h : k < l.length) : (zth l k).v = (zv l)[k]'(by simpa [zv] using h) := by
  simp [zv, zth_eq l k h]
theorem ris_le {l : List Z} (h : (zv l).Pairwise (· ≤ ·)) {i j : Nat} (hij : i ≤ j) (hj : j < l.length) : (zth l i).v ≤ (zth l j).v := by
  rw [zth_map (by omega), zth_map hj]
  rcases Nat.lt_or_ge i j with h1 | h1
  · exact List.pairwise_iff_getElem.1 h i j (by simp [zv]; omega) (by simpa [zv] using hj) h1
  · obtain rfl : i = j := by omega
    exact Int.le_refl _
theorem sumK_bd {s : Ps} {l : List Z} (hp : 0 < s.per) (h : (zv l).Pairwise (· ≤ ·)) : ∀ {k : Nat}, k < l.length → 0 ≤ sumK s l k ∧ sumK s l k ≤ (zth l k).v - (zth l 0).v
  | 0, _ => ⟨Int.le_refl _, by simp [sumK]⟩
  | k + 1, hk => by
    obtain ⟨h1, h2⟩ := sumK_bd hp h (k := k) (by omega)
    have h3 := ris_le h (i := k) (j := k + 1) (by omega) hk
    have h4 := partV_nn s (zth l k).v (n := (zth l (k + 1)).v - (zth l k).v) (by omega)
    have h5 := partV_le s (zth l k).v (n := (zth l (k + 1)).v - (zth l k).v) hp (by omega)
    unfold sumK
    omega
theorem stps_zl {s : Ps} {N L : Nat} (hs : s.ok N) {lo e : Z} (hN : N ≤ L) (h1 : lo.mag.length ≤ L) (hl : Lb lo.mag) (h2 : e.mag.length ≤ L) (hl2 : Lb e.mag) : ∀ z ∈ stps s lo e, z.mag.length ≤ L ∧ zl z.v ≤ L := fun z hz => by
  rcases List.mem_cons.1 hz with rfl | hz
  · exact ⟨h1, Nat.le_trans (zl_of hl) h1⟩
  · rcases List.mem_append.1 hz with hz | hz
    · obtain ⟨h3, h4⟩ := hs.cut z (List.mem_filter.1 hz).1
      refine ⟨by omega, ?_⟩
      rw [← cz_len, h4]
      omega
    · obtain rfl : z = e := by simpa using hz
      exact ⟨h2, Nat.le_trans (zl_of hl2) h2⟩
/-- What Next looks from. -/
def nxtS (s : Ps) (x : Z) : List Z := x :: s.cuts.filter fun c => decide (x.v < c.v)
def nxtV (s : Ps) (x : Z) : Option Int := fndV s 1 (nxtS s x)
/-- What Last looks from. -/
def lstG (x : Int) (l : List Z) : List Z := (l.map fun c => cz (c.v + -1)).filter fun c => decide (c.v < x)
def lstS (s : Ps) (x : Z) : List Z := x :: lstG x.v s.cuts.reverse
def lstV (s : Ps) (x : Z) : Option Int := fndV s (-1) (lstS s x)
theorem nxtS_zl {s : Ps} {N L : Nat} (hs : s.ok N) {x : Z} (hN : N ≤ L) (h1 : x.mag.length ≤ L) : ∀ z ∈ nxtS s x, z.mag.length ≤ L := fun z hz => by
  rcases List.mem_cons.1 hz with rfl | hz
  · exact h1
  · have := (hs.cut z (List.mem_filter.1 hz).1).1
    omega
theorem lstS_zl {s : Ps} {N L : Nat} (hs : s.ok N) {x : Z} (hN : N ≤ L) (h1 : x.mag.length ≤ L) : ∀ z ∈ lstS s x, z.mag.length ≤ L + 1 := fun z hz => by
  rcases List.mem_cons.1 hz with rfl | hz
  · omega
  · obtain ⟨c, hc, rfl⟩ := List.mem_map.1 (List.mem_filter.1 hz).1
    obtain ⟨h2, h3⟩ := hs.cut c (List.mem_reverse.1 hc)
    rw [cz_len]
    have h4 : zl c.v ≤ Nat.max L 1 := by rw [← cz_len, h3]; exact Nat.le_trans h2 (Nat.le_trans hN (Nat.le_max_left _ _))
    rcases Nat.eq_zero_or_pos L with rfl | hL
    · have : c.v = 0 := by
        have h5 : c.mag.length = 0 := by omega
        rw [← h3, cz_mag, List.length_eq_zero_iff, lim_nil_iff] at h5
        omega
      rw [this]
      decide
    · have h5 : Nat.max L 1 = L := Nat.max_eq_left hL
      rw [h5] at h4
      exact zl_add h4 (Nat.le_trans (show zl (-1) ≤ 1 by decide) (by omega))
/-- What List tells, in at most so many steps. -/
def lstOk (s : Ps) (hi : Int) : Nat → Z → List Int → Prop
  | 0, _, _ => False
  | n + 1, x, l => match nxtV s x with
    | none => l = []
    | some y => if hi < y then l = [] else ∃ t, l = y :: t ∧ lstOk s hi n (cz (y + 1)) t

end Go.Proofs.Ytbblgjjomgipfaa
