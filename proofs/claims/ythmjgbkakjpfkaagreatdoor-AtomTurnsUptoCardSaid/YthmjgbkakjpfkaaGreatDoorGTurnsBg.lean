/- A form's form is the form. No conditions. -/
import Derived.Test.YthmjgbkakjpfkaaGreatDoorGTurnsBa
namespace Go.Proofs.YthmjgbkakjpfkaaGreatDoor

theorem fm_id {F : Int → Int} {l : List (Int × Int)} (h : ∀ p ∈ l, F p.2 = p.2) : fm F l = l := by
  unfold fm
  have : ∀ p ∈ l, (p.1, F p.2) = id p := fun p hp => by rw [h p hp]; rfl
  rw [List.map_congr_left this, List.map_id]
theorem fdiv_one (x : Int) : x.fdiv 1 = x := by rw [Int.fdiv_eq_ediv_of_nonneg _ (by omega), Int.ediv_one]
theorem fmod_small {x d : Int} (h0 : 0 ≤ x) (h1 : x < d) : x.fmod d = x := by rw [Int.fmod_eq_emod_of_nonneg _ (by omega), Int.emod_eq_of_lt h0 h1]
def oppL (d2 : Int) (n : List (Int × Int)) : List (Int × Int) := fm (·.fmod d2) (cn (sc (-1) n))
theorem opp_eq {d2 : Int} {n : List (Int × Int)} (hc : Canon n) (hr : ∀ p ∈ n, 0 < p.2 ∧ p.2 < d2) : oppL d2 n = fm (fun x => d2 - x) n := by
  unfold oppL
  have hs : Canon (sc (-1) n) := by rw [sc_fm]; exact canon_fm hc fun p hp => by have := (hr p hp).1; omega
  rw [cn_canon hs, sc_fm]; unfold fm; rw [List.map_map]
  exact List.map_congr_left fun p hp => by
    have := hr p hp; simp only [Function.comp]; rw [neg_fmod this.1 this.2]
theorem opp_canon {d2 : Int} {n : List (Int × Int)} (hc : Canon n) (hr : ∀ p ∈ n, 0 < p.2 ∧ p.2 < d2) : Canon (oppL d2 n) ∧ ∀ p ∈ oppL d2 n, 0 < p.2 ∧ p.2 < d2 := by
  rw [opp_eq hc hr]; refine ⟨canon_fm hc fun p hp => by have := (hr p hp).2; omega, fun p hp => ?_⟩; obtain ⟨q, hq, rfl⟩ := List.mem_map.1 hp; have := hr q hq; dsimp only
  omega
theorem opp_opp {d2 : Int} {n : List (Int × Int)} (hc : Canon n) (hr : ∀ p ∈ n, 0 < p.2 ∧ p.2 < d2) : oppL d2 (oppL d2 n) = n := by
  obtain ⟨h1, h2⟩ := opp_canon hc hr; rw [opp_eq h1 h2, opp_eq hc hr]; unfold fm; rw [List.map_map]
  have : ∀ p ∈ n, ((fun p : Int × Int => (p.1, (fun x => d2 - x) p.2)) ∘ fun p => (p.1, (fun x => d2 - x) p.2)) p = id p := fun p _ => by
    simp only [Function.comp, id]; exact Prod.ext rfl (by dsimp only; omega)
  rw [List.map_congr_left this, List.map_id]
theorem oppk {d2 k : Int} (h0 : 0 ≤ k) (h1 : k < d2) : (-((-k).fmod d2)).fmod d2 = k := by
  by_cases hk : k = 0
  · subst hk; rw [Int.neg_zero, fmod_small (by omega) h1, Int.neg_zero, fmod_small (by omega) h1]
  · rw [neg_fmod (by omega) h1, neg_fmod (by omega) (by omega)]
    omega
theorem oppk_range {d2 k : Int} (h1 : 0 < d2) : 0 ≤ (-k).fmod d2 ∧ (-k).fmod d2 < d2 := by
  rw [Int.fmod_eq_emod_of_nonneg _ (by omega)]; exact ⟨Int.emod_nonneg _ (by omega), Int.emod_lt_of_pos _ h1⟩
def Least (d2 : Int) (t : T) : Prop := ∃ l k, Canon l ∧ (∀ p ∈ l, 0 < p.2 ∧ p.2 < d2) ∧ l ≠ [] ∧ gcdL (l.map Prod.snd ++ [d2]) = 1 ∧ 0 ≤ k ∧ k < d2 ∧ t = ct l k ∧ lesser d2 l k = ct l k
theorem lesser_opp (d2 : Int) (n : List (Int × Int)) (k : Int) : lesser d2 n k = if ordT (ct (oppL d2 n) ((-k).fmod d2)) (ct n k) < 0 then ct (oppL d2 n) ((-k).fmod d2) else ct n k := rfl
theorem lesser_least {d2 : Int} {n : List (Int × Int)} {k : Int} (hc : Canon n) (hr : ∀ p ∈ n, 0 < p.2 ∧ p.2 < d2) (hne : n ≠ []) (hg : gcdL (n.map Prod.snd ++ [d2]) = 1) (h0 : 0 ≤ k) (h1 : k < d2) : Least d2 (lesser d2 n k) := by
  obtain ⟨c1, c2⟩ := opp_canon hc hr
  by_cases ho : ordT (ct (oppL d2 n) ((-k).fmod d2)) (ct n k) < 0
  · have e1 : lesser d2 n k = ct (oppL d2 n) ((-k).fmod d2) := by rw [lesser_opp, if_pos ho]
    have hk := oppk_range (k := k) (d2 := d2) (by omega); refine ⟨oppL d2 n, (-k).fmod d2, c1, c2, ?_, ?_, hk.1, hk.2, e1, ?_⟩
    · intro e; rw [opp_eq hc hr] at e; have := congrArg List.length e; rw [fm_len] at this; exact hne (List.eq_nil_of_length_eq_zero this)
    · have hd : gcdL ((oppL d2 n).map Prod.snd ++ [d2]) ∣ gcdL (n.map Prod.snd ++ [d2]) := by
        rw [dvd_gcdL]; intro x hx; have hdd : ((gcdL ((oppL d2 n).map Prod.snd ++ [d2]) : Nat) : Int) ∣ d2 := gcdL_mem (List.mem_append_right _ (List.mem_singleton.2 rfl))
        rcases List.mem_append.1 hx with hx | hx
        · have h2 : ((gcdL ((oppL d2 n).map Prod.snd ++ [d2]) : Nat) : Int) ∣ d2 - x := gcdL_mem (List.mem_append_left _ (by rw [opp_eq hc hr, fm_snd]; exact List.mem_map.2 ⟨x, hx, rfl⟩)); have h3 := Int.dvd_sub hdd h2
          rwa [show d2 - (d2 - x) = x by omega] at h3
        · rw [List.mem_singleton.1 hx]; exact hdd
      rw [hg] at hd; exact Nat.eq_one_of_dvd_one hd
    · rw [lesser_opp, opp_opp hc hr, oppk h0 h1, if_neg]; rw [ordT_swap]
      omega
  · have e1 : lesser d2 n k = ct n k := by rw [lesser_opp, if_neg ho]
    exact ⟨n, k, hc, hr, hne, hg, h0, h1, e1, e1⟩
def Form (n : Ar) : Prop := (∃ b, n = constA b) ∨ (n.kd = 2 ∧ n.d = cz 0 ∧ ∃ l k, Canon l ∧ l ≠ [] ∧ gcdL (l.map Prod.snd) = 1 ∧ n.t = ct l k) ∨
  ((n.kd = 3 ∨ n.kd = 4) ∧ 1 < n.d.v ∧ n.d = cz n.d.v ∧ Least n.d.v n.t)
theorem lessA_form (l : List (Int × Int)) (k : Int) : Form (lessA l k) := by
  unfold lessA
  by_cases h : (cn l).length = 0
  · rw [if_pos h]; exact .inl ⟨_, rfl⟩
  · rw [if_neg h]; obtain ⟨g, hg⟩ : ∃ g, g = gcdL ((cn l).map Prod.snd) := ⟨_, rfl⟩; rw [← hg]
    have hne : cn l ≠ [] := fun e => h (by rw [e]; rfl)
    obtain ⟨p, hp⟩ := List.exists_mem_of_ne_nil _ hne
    have hg0 : 0 < g := by rw [hg]; exact gcdL_pos0 (List.mem_map.2 ⟨p, hp, rfl⟩) ((canon_cn l).2 p hp)
    refine .inr (.inl ⟨rfl, rfl, _, _, canon_fm (canon_cn l) fun q hq e => ?_, ?_, ?_, rfl⟩)
    · obtain ⟨y, hy⟩ : (g : Int) ∣ q.2 := by rw [hg]; exact gcdL_mem (List.mem_map.2 ⟨q, hq, rfl⟩)
      have h3 : q.2.fdiv (g : Int) = y := by rw [hy]; exact Int.mul_fdiv_cancel_left _ (by omega)
      have h4 : y = 0 := by rw [← h3]; exact e
      exact (canon_cn l).2 q hq (by rw [hy, h4, Int.mul_zero])
    · intro e; have := congrArg List.length e; rw [fm_len] at this; exact h this
    · rw [fm_snd, hg]; exact gcdL_quot (by rw [← hg]; exact hg0)
theorem partedA_form (d : Int) (l : List (Int × Int)) (k : Int) (not : Bool) (hd : d ≠ 0) : Form (partedA d l k not) := by
  unfold partedA; obtain ⟨m, hm⟩ : ∃ m : Int, m = (d.natAbs : Nat) := ⟨_, rfl⟩
  have hm0 : 0 < m := by omega
  rw [← hm]; obtain ⟨n1, hn1⟩ : ∃ n, n = cn (fm (·.fmod m) (cn l)) := ⟨_, rfl⟩; rw [← hn1]; obtain ⟨g, hg⟩ : ∃ g, g = gcdL (n1.map Prod.snd ++ [m]) := ⟨_, rfl⟩; rw [← hg]; unfold partedB
  have hc1 : Canon n1 := by rw [hn1]; exact canon_cn _
  by_cases h1 : n1.length = 0
  · rw [if_pos h1]; exact .inl ⟨_, rfl⟩
  rw [if_neg h1]
  by_cases h2 : (k.fmod m).fmod g ≠ 0
  · rw [if_pos h2]; exact .inl ⟨_, rfl⟩
  rw [if_neg h2]
  by_cases h3 : m.fdiv g = 1
  · rw [if_pos h3]; exact .inl ⟨_, rfl⟩
  rw [if_neg h3]
  have hr1 : ∀ p ∈ n1, 0 < p.2 ∧ p.2 < m := fun p hp => by
    rw [hn1] at hp; obtain ⟨hp1, hp2⟩ := mem_cn (rise_fm _ (canon_cn l).1) hp; obtain ⟨q, -, rfl⟩ := List.mem_map.1 hp1; dsimp only at hp2 ⊢; rw [Int.fmod_eq_emod_of_nonneg _ (by omega)] at hp2 ⊢; have h4 := Int.emod_nonneg q.2 (show m ≠ 0 by omega); have h5 := Int.emod_lt_of_pos q.2 hm0
    omega
  have hg0 : 0 < g := by rw [hg]; exact gcdL_pos0 (List.mem_append_right _ (List.mem_singleton.2 rfl)) (by omega)
  obtain ⟨d2, hd2⟩ : (g : Int) ∣ m := by rw [hg]; exact gcdL_mem (List.mem_append_right _ (List.mem_singleton.2 rfl))
  have hdv : ∀ y : Int, ((g : Int) * y).fdiv (g : Int) = y := fun y => Int.mul_fdiv_cancel_left _ (by omega)
  have e2 : m.fdiv (g : Int) = d2 := by rw [hd2]; exact hdv d2
  have hr2 : ∀ p ∈ n1, 0 < p.2.fdiv (g : Int) ∧ p.2.fdiv (g : Int) < d2 := fun p hp => by
    obtain ⟨y, hy⟩ : (g : Int) ∣ p.2 := by rw [hg]; exact gcdL_mem (List.mem_append_left _ (List.mem_map.2 ⟨p, hp, rfl⟩))
    have := hr1 p hp; rw [hy, hd2] at this; rw [hy, hdv]; exact ⟨pos_of_mul this.1 (by omega), Int.lt_of_mul_lt_mul_left this.2 (by omega)⟩
  have hc2 : Canon (fm (·.fdiv (g : Int)) n1) := canon_fm hc1 fun p hp => by have := (hr2 p hp).1; omega
  rw [e2] at h3 ⊢; rw [cn_canon hc2]
  have hgd : gcdL ((fm (·.fdiv (g : Int)) n1).map Prod.snd ++ [d2]) = 1 := by
    have h := gcdL_quot (l := n1.map Prod.snd ++ [m]) (by rw [← hg]; exact hg0); rw [← hg, List.map_append, ← fm_snd, List.map_singleton, e2] at h; exact h
  have hd20 : 0 < d2 := pos_of_mul (by rw [← hd2]; exact hm0) (by omega)
  have hk : 0 ≤ k.fmod m ∧ k.fmod m < m := by
    rw [Int.fmod_eq_emod_of_nonneg _ (by omega)]; exact ⟨Int.emod_nonneg _ (by omega), Int.emod_lt_of_pos _ hm0⟩
  obtain ⟨k2, hk2⟩ : (g : Int) ∣ k.fmod m := fmod_zero.1 (Decidable.not_not.1 h2)
  have hkd : (k.fmod m).fdiv g = k2 := by rw [hk2]; exact hdv k2
  have hk0 : 0 ≤ k2 ∧ k2 < d2 := by
    rw [hk2, hd2] at hk; refine ⟨?_, Int.lt_of_mul_lt_mul_left hk.2 (by omega)⟩
    apply Decidable.byContradiction
    intro hn; have := Int.mul_le_mul_of_nonneg_left (show k2 ≤ -1 by omega) (show (0 : Int) ≤ g by omega)
    omega
  rw [hkd]; have hL := lesser_least (k := k2) hc2 (fun p hp => by obtain ⟨q, hq, rfl⟩ := List.mem_map.1 hp; exact hr2 q hq) (fun e => h1 (by have := congrArg List.length e; rwa [fm_len] at this)) hgd hk0.1 hk0.2; refine .inr (.inr ⟨by cases not <;> simp, by simp only [cz_v]; omega, by rw [cz_v], ?_⟩); simp only [cz_v]; exact hL
theorem normA_form (a : Ar) : Form (normA a).1 := by
  unfold normA
  split
  · exact .inl ⟨_, rfl⟩
  split
  · exact lessA_form _ _
  split
  · split
    · exact .inl ⟨_, rfl⟩
    · rename_i h
      exact partedA_form _ _ _ _ h
  · exact .inl ⟨_, rfl⟩
theorem form_norm {n : Ar} (h : Form n) : normA n = (n, 0) := by
  obtain ⟨kd, d, t⟩ := n
  rcases h with ⟨b, h⟩ | ⟨hk, hd, l, k, hc, hne, hg, ht⟩ | ⟨hk, hd1, hd, l, k, hc, hr, hne, hg, h0, h1, ht, hl⟩
  · rw [h]; cases b <;> rfl
  · dsimp only at hk hd ht
    subst hk; subst hd; subst ht
    have e1 : vl (ct l k).ps = l := fine_ps hc k; have e2 : (ct l k).k.v = k := cz_v k; have hR : normA ⟨2, cz 0, ct l k⟩ = (lessA (vl (ct l k).ps) (ct l k).k.v, 0) := rfl; rw [hR, e1, e2]; unfold lessA; rw [cn_canon hc, if_neg (fun e => hne (List.eq_nil_of_length_eq_zero e)), hg]
    have e3 : fm (·.fdiv ((1 : Nat) : Int)) l = l := fm_id fun p _ => fdiv_one _
    have e4 : (k - 1).fdiv ((1 : Nat) : Int) + 1 = k := by rw [show ((1 : Nat) : Int) = 1 from rfl, fdiv_one]; omega
    rw [e3, e4]
  · dsimp only at hk hd1 hd hr hg h1 ht hl; obtain ⟨D, hD⟩ : ∃ D, D = d.v := ⟨_, rfl⟩; rw [← hD] at hd1 hd hr hg h1 hl; subst ht; subst hd; have e1 : vl (ct l k).ps = l := fine_ps hc k; have e2 : (ct l k).k.v = k := cz_v k
    have hm : ((D.natAbs : Nat) : Int) = D := by omega
    have hA : ∀ not, partedA D l k not = ⟨if not = true then 4 else 3, cz D, ct l k⟩ := fun not => by
      unfold partedA; rw [hm, cn_canon hc]
      have e3 : fm (·.fmod D) l = l := fm_id fun p hp => fmod_small (by have := (hr p hp).1; omega) (hr p hp).2
      rw [e3, cn_canon hc, fmod_small h0 h1, hg]; unfold partedB; rw [if_neg (fun e => hne (List.eq_nil_of_length_eq_zero e))]; rw [show ((1 : Nat) : Int) = 1 from rfl, fdiv_one, fdiv_one, if_neg (by rw [Decidable.not_not]; exact fmod_zero.2 (Int.one_dvd _)), if_neg (by omega)]
      have e5 : fm (·.fdiv 1) l = l := fm_id fun p _ => fdiv_one _
      rw [e5, cn_canon hc, hl]
    have hN : ∀ c : Int, c = 3 ∨ c = 4 → normA ⟨c, cz D, ct l k⟩ = (partedA (cz D).v (vl (ct l k).ps) (ct l k).k.v (decide (c = 4)), 0) := fun c hc4 => by
      unfold normA; dsimp only; rw [if_neg (by omega), if_neg (by omega), if_pos hc4, if_neg (by rw [cz_v]; omega)]
    rw [hN kd hk, cz_v, e1, e2, hA]
    rcases hk with rfl | rfl <;> rfl
theorem form_facts {n : Ar} (h : Form n) : n.d.ok = true ∧ n.t.valid = true ∧ n.t.lb ∧ Lb n.d.mag ∧ ordT n.t n.t = 0 := by
  have ho : ordT n.t n.t = 0 := ordT_zero.2 ⟨rfl, rfl⟩
  rcases h with ⟨b, hb⟩ | ⟨-, hd, l, k, -, -, -, ht⟩ | ⟨-, -, hd, l, k, -, -, -, -, -, -, ht, -⟩
  · refine ⟨by rw [hb]; cases b <;> exact cz_ok 0, by rw [hb]; cases b <;> exact ct_valid [] 0, by rw [hb]; cases b <;> exact ct_lb [] 0, by rw [hb]; cases b <;> exact lb_lim _, ho⟩
  · exact ⟨by rw [hd]; exact cz_ok _, by rw [ht]; exact ct_valid _ _, by rw [ht]; exact ct_lb _ _, by rw [hd]; exact lb_lim _, ho⟩
  · exact ⟨by rw [hd]; exact cz_ok _, by rw [ht]; exact ct_valid _ _, by rw [ht]; exact ct_lb _ _, by rw [hd]; exact lb_lim _, ho⟩

end Go.Proofs.YthmjgbkakjpfkaaGreatDoor
