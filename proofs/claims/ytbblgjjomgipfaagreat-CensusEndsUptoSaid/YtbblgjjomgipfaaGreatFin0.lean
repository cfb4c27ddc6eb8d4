/- Whether a set has an end, and its least number: plain laws. -/
import Derived.Test.YtbblgjjomgipfaaGreatRest
namespace Go.Proofs.YtbblgjjomgipfaaGreat
open Go.RowKit Go.Shelf

def lowV (s : Ps) : Bool := if s.cuts.length = 0 then (nxtV s (cz 0)).isSome else (lstV s (cz ((zth s.cuts 0).v + -1))).isSome
def highV (s : Ps) : Bool := if s.cuts.length = 0 then (nxtV s (cz 0)).isSome else (nxtV s (zth s.cuts (s.cuts.length - 1))).isSome
/-- How many, if there is an end to them. -/
def finV (s : Ps) : Option Int := if lowV s || highV s then none else if s.cuts.length = 0 then some 0 else some (cntV s (zth s.cuts 0) (zth s.cuts (s.cuts.length - 1)).v)
/-- The least one. -/
def lstE (s : Ps) : Option Int := if lowV s || decide (s.cuts.length = 0) then none else nxtV s (zth s.cuts 0)
/-- From where to where the laws count. -/
def endL (s : Ps) : Z := if s.cuts.length = 0 then cz 0 else zth s.cuts 0
def endH (s : Ps) : Z := if s.cuts.length = 0 then cz 0 else zth s.cuts (s.cuts.length - 1)

theorem has_free {s : Ps} {N : Nat} (hs : s.ok N) (h0 : s.cuts.length = 0) (x : Int) : s.has x = s.has (x % (s.per : Int)) := by
  have hp : (0 : Int) < (s.per : Int) := by have := hs.per0; omega
  have e : s.cuts = [] := List.length_eq_zero_iff.1 h0
  unfold Ps.has
  rw [e, Int.emod_emod_of_dvd x (Int.dvd_refl _)]
  rfl
theorem low_free {s : Ps} {N : Nat} (hs : s.ok N) (h0 : s.cuts.length = 0) (h : lowV s = false) (x : Int) : s.has x = false := by
  rw [lowV, if_pos h0] at h
  have hn : nxtV s (cz 0) = none := by simpa using h
  rw [has_free hs h0]
  refine nxt_none hs hn _ ?_
  rw [cz_v]
  exact Int.emod_nonneg _ (by have := hs.per0; omega)
theorem low_none {s : Ps} {N : Nat} (hs : s.ok N) (h0 : s.cuts.length ≠ 0) (h : lowV s = false) {x : Int} (hx : x < (zth s.cuts 0).v) : s.has x = false := by
  rw [lowV, if_neg h0] at h
  have hn : lstV s (cz ((zth s.cuts 0).v + -1)) = none := by simpa using h
  exact lst_none hs hn _ (by rw [cz_v]; omega)
theorem high_none {s : Ps} {N : Nat} (hs : s.ok N) (h0 : s.cuts.length ≠ 0) (h : highV s = false) {x : Int} (hx : (zth s.cuts (s.cuts.length - 1)).v ≤ x) : s.has x = false := by
  rw [highV, if_neg h0] at h
  have hn : nxtV s (zth s.cuts (s.cuts.length - 1)) = none := by simpa using h
  exact nxt_none hs hn _ hx
theorem low_has {s : Ps} {N : Nat} (hs : s.ok N) (h : lowV s = false) : ∃ x, s.has x = false := by
  by_cases h0 : s.cuts.length = 0
  · exact ⟨0, low_free hs h0 h 0⟩
  · exact ⟨_, low_none hs h0 h (x := (zth s.cuts 0).v - 1) (by omega)⟩
/-- Not both of a set and its rest have an end. -/
theorem fin_not {s : Ps} {N : Nat} (hs : s.ok N) : ((finV s).isSome && (finV (restP s)).isSome) = false := by
  rcases hl : lowV s with _ | _
  · rcases hr : lowV (restP s) with _ | _
    · exfalso
      have hro := rest_ok hs
      have hh := rest_has hs
      by_cases h0 : s.cuts.length = 0
      · have h1 := low_free hs h0 hl 0
        have h2 := low_free hro (by exact h0) hr 0
        rw [hh, h1] at h2
        cases h2
      · have h1 := low_none hs h0 hl (x := (zth s.cuts 0).v - 1) (by omega)
        have h2 := low_none hro (by exact h0) hr (x := (zth s.cuts 0).v - 1) (show (zth s.cuts 0).v - 1 < (zth s.cuts 0).v by omega)
        rw [hh, h1] at h2
        cases h2
    · simp [finV, hr]
  · simp [finV, hl]
theorem nin_zero {s : Ps} {a : Int} : ∀ {k : Nat}, (∀ i : Nat, i < k → s.has (a + (i : Nat)) = false) → nin s a k = 0
  | 0, _ => by have := nin_le s a 0; omega
  | k + 1, h => by rw [nin_step, nin_zero (k := k) fun i hi => h i (by omega), h k (by omega)]; rfl
theorem low_low {s : Ps} {N : Nat} (hs : s.ok N) (h : lowV s = false) {x : Int} (hx : x < (endL s).v) : s.has x = false := by
  by_cases h0 : s.cuts.length = 0
  · exact low_free hs h0 h x
  · exact low_none hs h0 h (by rw [endL, if_neg h0] at hx; exact hx)
theorem high_high {s : Ps} {N : Nat} (hs : s.ok N) (hl : lowV s = false) (h : highV s = false) {x : Int} (hx : (endH s).v ≤ x) : s.has x = false := by
  by_cases h0 : s.cuts.length = 0
  · exact low_free hs h0 hl x
  · exact high_none hs h0 h (by rw [endH, if_neg h0] at hx; exact hx)
theorem end_le {s : Ps} {N : Nat} (hs : s.ok N) : (endL s).v ≤ (endH s).v := by
  by_cases h0 : s.cuts.length = 0
  · rw [endL, endH, if_pos h0, if_pos h0]; exact Int.le_refl _
  · rw [endL, endH, if_neg h0, if_neg h0]
    exact ris_le (hs.ris.imp fun h => Int.le_of_lt h) (Nat.zero_le _) (by omega)
/-- How many there are, counted by one who goes beyond its ends. -/
theorem fin_count {s : Ps} {N : Nat} (hs : s.ok N) {n : Int} (h : finV s = some n) {lo : Z} {hi : Int} (h1 : lo.v ≤ (endL s).v) (h2 : (endH s).v ≤ hi) : cntV s lo hi = n := by
  have hlh : lowV s = false ∧ highV s = false := by
    rw [finV] at h
    rcases hl : lowV s with _ | _ <;> rcases hr : highV s with _ | _ <;> simp_all
  have hle := end_le hs
  have e : n = (nin s (endL s).v ((endH s).v + 1 - (endL s).v).toNat : Nat) := by
    by_cases h0 : s.cuts.length = 0
    · have hn : n = 0 := by
        rw [finV, hlh.1, hlh.2, if_neg (by decide), if_pos h0] at h
        exact (Option.some.inj h).symm
      rw [hn, nin_zero fun i _ => low_free hs h0 hlh.1 _]
      rfl
    · rw [finV, hlh.1, hlh.2, if_neg (by decide), if_neg h0] at h
      rw [← Option.some.inj h, cnt_nin hs, endL, endH, if_neg h0, if_neg h0]
  rw [e, cnt_nin hs]
  obtain ⟨j, hj⟩ : ∃ j : Nat, (endL s).v = lo.v + (j : Nat) := ⟨((endL s).v - lo.v).toNat, by omega⟩
  obtain ⟨k, hk⟩ : ∃ k : Nat, hi = (endH s).v + (k : Nat) := ⟨(hi - (endH s).v).toNat, by omega⟩
  have e1 : (hi + 1 - lo.v).toNat = j + (((endH s).v + 1 - (endL s).v).toNat + k) := by omega
  rw [e1, nin_add, nin_add, ← hj, nin_zero (k := j) fun i hi' => low_low hs hlh.1 (by omega), nin_zero (k := k) fun i _ => high_high hs hlh.1 hlh.2 (by omega)]
  omega
/-- The least one. -/
theorem lstE_prop {s : Ps} {N : Nat} (hs : s.ok N) {y : Int} (h : lstE s = some y) : s.has y = true ∧ ∀ z, z < y → s.has z = false := by
  rw [lstE] at h
  rcases hl : lowV s with _ | _
  · by_cases h0 : s.cuts.length = 0
    · rw [hl, if_pos (by simp [h0])] at h; cases h
    · rw [hl, if_neg (by simp [h0])] at h
      obtain ⟨h1, h2, h3⟩ := nxt_some hs h
      refine ⟨h2, fun z hz => ?_⟩
      rcases Int.lt_or_le z (zth s.cuts 0).v with hc | hc
      · exact low_none hs h0 hl hc
      · exact h3 z hc hz
  · rw [hl, if_pos (by simp)] at h; cases h
theorem lstE_count {s : Ps} {N : Nat} (hs : s.ok N) {y : Int} (h : lstE s = some y) {lo : Z} (hlo : lo.v ≤ y) : cntV s lo y = 1 := by
  obtain ⟨h1, h2⟩ := lstE_prop hs h
  rw [cnt_nin hs]
  obtain ⟨j, hj⟩ : ∃ j : Nat, y = lo.v + (j : Nat) := ⟨(y - lo.v).toNat, by omega⟩
  have e1 : (y + 1 - lo.v).toNat = j + 1 := by omega
  rw [e1, nin_step, nin_zero fun i hi' => h2 _ (by omega), ← hj, h1]
  rfl
/-- There is a least one where there is one. -/
theorem fin_least {s : Ps} {N : Nat} (hs : s.ok N) {n : Int} (h : finV s = some n) : (lstE s).isSome = decide (0 < (cz n).mag.length) := by
  have hlh : lowV s = false ∧ highV s = false := by
    rw [finV] at h
    rcases hl : lowV s with _ | _ <;> rcases hr : highV s with _ | _ <;> simp_all
  rw [finV, hlh.1, hlh.2, if_neg (by decide)] at h
  have hz : ∀ x : Int, decide (0 < (cz x).mag.length) = decide (x ≠ 0) := fun x => by
    rw [cz_mag]
    by_cases hx : x = 0
    · subst hx; rfl
    · rw [lim_pos (by omega)]
      simp [hx]
  rw [hz, lstE, hlh.1]
  by_cases h0 : s.cuts.length = 0
  · rw [if_pos h0] at h
    rw [if_pos (by simp [h0]), ← Option.some.inj h]
    rfl
  · rw [if_neg h0] at h
    rw [if_neg (by simp [h0]), ← Option.some.inj h]
    cases hn : nxtV s (zth s.cuts 0) with
    | none => rw [finds_up0 hs hn]; rfl
    | some y =>
      obtain ⟨g1, g2, g3⟩ := nxt_some hs hn
      have hy : y < (zth s.cuts (s.cuts.length - 1)).v := by
        rcases Int.lt_or_le y (zth s.cuts (s.cuts.length - 1)).v with hc | hc
        · exact hc
        · rw [high_none hs h0 hlh.2 hc] at g2; cases g2
      rw [cnt_nin hs]
      obtain ⟨j, hj⟩ : ∃ j : Nat, y = (zth s.cuts 0).v + (j : Nat) := ⟨(y - (zth s.cuts 0).v).toNat, by omega⟩
      obtain ⟨k, hk⟩ : ∃ k : Nat, ((zth s.cuts (s.cuts.length - 1)).v + 1 - (zth s.cuts 0).v).toNat = (j + 1) + k := ⟨((zth s.cuts (s.cuts.length - 1)).v + 1 - (zth s.cuts 0).v).toNat - (j + 1), by omega⟩
      rw [hk, nin_add, nin_step, ← hj, g2]
      simp
      omega

end Go.Proofs.YtbblgjjomgipfaaGreat
