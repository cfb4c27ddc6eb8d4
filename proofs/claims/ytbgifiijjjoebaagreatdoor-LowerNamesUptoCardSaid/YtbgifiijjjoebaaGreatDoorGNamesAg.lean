/- Memory under other names; calls that write to what is handed to them. No conditions. What one operation does to a state without addresses (V): bytes of texts, the greater of two, functions. No conditions. -/
import Derived.Test.YtbgifiijjjoebaaGreatDoorGNamesAf
namespace Go.Proofs.YtbgifiijjjoebaaGreatDoor
open Go.RowKit

def nmC : CV → List Nat
 | .p k _ => [k]
 | .r k _ => [k]
 | .f _ ks => ks.map Prod.fst
 | .m k => [k]
 | .t k => [k]
 | _ => []
def nmA : AV → List Nat
 | .c x => nmC x
 | .g cs => cs.flatMap nmC
def nmR : SV → List Nat
 | .c x => nmC x
 | .g cs => cs.flatMap nmC
 | .t xs => xs.flatMap nmA
 | .q k _ _ _ => [k]
 | _ => []
def nmO : Ob → List Nat
 | .x cs => cs.flatMap nmC
 | .it _ k _ _ => [k]
 | .g _ xs => xs.flatMap nmR
 | _ => []
def rnC (σ : Nat → Nat) : CV → CV
 | .p k o => .p (σ k) o
 | .r k n => .r (σ k) n
 | .f n ks => .f n (ks.map fun p => (σ p.1, p.2))
 | .m k => .m (σ k)
 | .t k => .t (σ k)
 | x => x
def rnA (σ : Nat → Nat) : AV → AV
 | .c x => .c (rnC σ x)
 | .g cs => .g (cs.map (rnC σ))
def rnR (σ : Nat → Nat) : SV → SV
 | .c x => .c (rnC σ x)
 | .g cs => .g (cs.map (rnC σ))
 | .t xs => .t (xs.map (rnA σ))
 | .q k n i o => .q (σ k) n i o
 | x => x
def rnO (σ : Nat → Nat) : Ob → Ob
 | .x cs => .x (cs.map (rnC σ))
 | .it fr k rem la => .it fr (σ k) rem la
 | .g vs xs => .g vs (xs.map (rnR σ))
 | o => o
def rnM (σ : Nat → Nat) (m : Mem) : Mem := m.map fun p => (σ p.1, rnO σ p.2)
def Cx.rn (c : Cx) (τ : Nat → Nat) : Cx := ⟨fun k => c.β (τ k), fun k => c.ρ (τ k), c.X, c.n0⟩
theorem mat_mem : ∀ {m : Mem} {k : Nat} {o : Ob}, mat m k = some o → (k, o) ∈ m
 | (j, a) :: r, k, o, h => by
  unfold mat at h
  split at h
  ·rename_i e; injection h with h; subst e; subst h; exact List.mem_cons_self
  ·exact List.mem_cons_of_mem _ (mat_mem h)
theorem mat_none {m : Mem} {k : Nat} : mat m k = none ↔ ∀ p ∈ m, p.1 ≠ k := by
 induction m with
 | nil => simp [mat]
 | cons p r ih =>
  obtain ⟨j, a⟩ := p; unfold mat
  by_cases e : j = k
  ·simp [e]
  ·simp [e, ih]
theorem mat_rn {σ τ : Nat → Nat} : ∀ {m : Mem}, (∀ p ∈ m, τ (σ p.1) = p.1) → ∀ {k : Nat} {o : Ob}, mat m k = some o → mat (rnM σ m) (σ k) = some (rnO σ o)
 | (j, a) :: r, hτ, k, o, h => by
  have hk := hτ _ (mat_mem h); unfold mat at h
  show mat ((σ j, rnO σ a) :: rnM σ r) (σ k) = _
  unfold mat
  split at h
  ·rename_i e; injection h with h; subst e; subst h; rw [if_pos rfl]
  ·rename_i e
   rw [if_neg fun e2 => e (by have h1 : τ (σ j) = j := hτ (j, a) List.mem_cons_self; have hk : τ (σ k) = k := hk; rw [← h1, e2, hk])]; exact mat_rn (fun p hp => hτ p (List.mem_cons_of_mem _ hp)) h
theorem mat_rn_inv {σ : Nat → Nat} : ∀ {m : Mem} {j : Nat} {o' : Ob}, mat (rnM σ m) j = some o' → ∃ k o, σ k = j ∧ mat m k = some o ∧ o' = rnO σ o
 | (i, a) :: r, j, o', h => by
  have h : mat ((σ i, rnO σ a) :: rnM σ r) j = some o' := h; unfold mat at h
  split at h
  ·rename_i e; injection h with h; exact ⟨i, a, e, by simp [mat], h.symm⟩
  ·rename_i e
   obtain ⟨k, o, h1, h2, h3⟩ := mat_rn_inv h; exact ⟨k, o, h1, by unfold mat; rw [if_neg fun e2 => e (by rw [e2, h1])]; exact h2, h3⟩
section
variable {P : Program} {w0 : Beg} {c : Cx} {m : Mem} {w : World} {σ τ : Nat → Nat}
theorem RelC.rn (hτ : ∀ p ∈ m, τ (σ p.1) = p.1) {v : Value} {x : CV} (h : RelC c m w v x) : RelC (c.rn τ) (rnM σ m) w v (rnC σ x) := by
 have e : ∀ {k o}, mat m k = some o → τ (σ k) = k := fun h => hτ _ (mat_mem h)
 cases x with
 | p k o => obtain ⟨h1, cs, h2⟩ := h; exact ⟨by show v = .pointer (some ⟨c.β (τ (σ k)), o, none⟩); rw [e h2]; exact h1, _, mat_rn hτ h2⟩
 | r k n => obtain ⟨fr, sz, T, xs, h1, h2, h3, h4⟩ := h; exact ⟨fr, sz, T, xs, mat_rn hτ h1, h2, fun hn => by show v = c.ρ (τ (σ k)); rw [e h1]; exact h3 hn, h4⟩
 | f n ks =>
  obtain ⟨cap, h1, h2⟩ := h; refine ⟨cap, h1, ?_⟩; generalize cap.toList = l at h2; clear h1
  induction h2 with
  | nil => exact .nil
  | cons h1 _ ih => obtain ⟨h3, cs, h4⟩ := h1; exact .cons ⟨by show _ = Value.pointer (some ⟨c.β (τ (σ _)), _, none⟩); rw [e h4]; exact h3, _, mat_rn hτ h4⟩ ih
 | m k => obtain ⟨h1, fr, kk, es, h2⟩ := h; exact ⟨by show v = .map (some (c.β (τ (σ k)))); rw [e h2]; exact h1, fr, kk, es, mat_rn hτ h2⟩
 | t k => obtain ⟨h1, fr, mk, rem, la, h2⟩ := h; exact ⟨by show v = .pointer (some ⟨c.β (τ (σ k)), 0, none⟩); rw [e h2]; exact h1, fr, _, rem, la, mat_rn hτ h2⟩
 | _ => exact h
theorem RelA.rn (hτ : ∀ p ∈ m, τ (σ p.1) = p.1) {v : Value} {x : AV} (h : RelA c m w v x) : RelA (c.rn τ) (rnM σ m) w v (rnA σ x) := by
 cases x with
 | c x => exact RelC.rn hτ h
 | g cs => obtain ⟨vs, e, h⟩ := h; exact ⟨vs, e, F2.map (f := rnC σ) (R' := RelC (c.rn τ) (rnM σ m) w) (fun _ _ h => RelC.rn hτ h) h⟩
theorem RelR.rn (hτ : ∀ p ∈ m, τ (σ p.1) = p.1) {v : Value} {x : SV} (h : RelR c m w v x) : RelR (c.rn τ) (rnM σ m) w v (rnR σ x) := by
 cases x with
 | c x => exact RelC.rn hτ h
 | g cs => obtain ⟨vs, e, h⟩ := h; exact ⟨vs, e, F2.map (f := rnC σ) (R' := RelC (c.rn τ) (rnM σ m) w) (fun _ _ h => RelC.rn hτ h) h⟩
 | t xs => obtain ⟨vs, e, h⟩ := h; exact ⟨vs, e, F2.map (f := rnA σ) (R' := RelA (c.rn τ) (rnM σ m) w) (fun _ _ h => RelA.rn hτ h) h⟩
 | u => trivial
 | e fr ds => exact h
 | q k n i o =>
  obtain ⟨fr, sz, T, xs, h1, h2, h3, h4⟩ := h; exact ⟨fr, sz, T, xs, mat_rn hτ h1, h2, h3, fun hn => by show ∃ g cap, c.ρ (τ (σ k)) = _ ∧ _; rw [hτ _ (mat_mem h1)]; exact h4 hn⟩
theorem RelO.rn (hτ : ∀ p ∈ m, τ (σ p.1) = p.1) {k : Nat} {o : Ob} (hk : mat m k = some o) (h : RelO c m w k o) : RelO (c.rn τ) (rnM σ m) w (σ k) (rnO σ o) := by
 have e : ∀ {k o}, mat m k = some o → τ (σ k) = k := fun h => hτ _ (mat_mem h)
 have ek := e hk
 have hβ : (c.rn τ).β (σ k) = c.β k := by show c.β (τ (σ k)) = _; rw [ek]
 have hρ : (c.rn τ).ρ (σ k) = c.ρ k := by show c.ρ (τ (σ k)) = _; rw [ek]
 cases o with
 | x cs =>
  obtain ⟨h1, h2, vs, T, h3, h4⟩ := h; exact ⟨by rw [hβ]; exact h1, by rw [hβ]; exact h2, vs, T, by rw [hβ]; exact h3, F2.map (f := rnC σ) (R' := RelC (c.rn τ) (rnM σ m) w) (fun _ _ h => RelC.rn hτ h) h4⟩
 | r fr sz T xs =>
  obtain ⟨h1, h2, h3, h4⟩ := h; exact ⟨h1, by rw [hρ]; exact h2, by rw [hρ]; exact h3, h4⟩
 | m fr kk es =>
  obtain ⟨h1, h2, ents, h3, h4, h5⟩ := h; exact ⟨by rw [hβ]; exact h1, by rw [hβ]; exact h2, ents, by rw [hβ]; exact h3, by rw [hρ]; exact h4, h5⟩
 | it fr mk rem la =>
  obtain ⟨h1, h2, ⟨fr1, kk1, es1, h0⟩, ents, clock, seen, h3, h4, h5⟩ := h; have hm := e h0; refine ⟨by rw [hβ]; exact h1, by rw [hβ]; exact h2, ⟨fr1, kk1, es1, mat_rn hτ h0⟩, ents, clock, seen, ?_, ?_, h5⟩
  ·rw [hβ]; show _ = some (Obj.mapIter (some (c.β (τ (σ mk)))) _ _ _); rw [hm]; exact h3
  ·show c.ρ (τ (σ mk)) = _; rw [hm]; exact h4
 | g vs xs => exact F2.map (f := rnR σ) (R := RelR c m w) (R' := RelR (c.rn τ) (rnM σ m) w) (fun _ _ h => RelR.rn hτ h) h
theorem blk_rn {k : Nat} {o : Ob} (ek : τ (σ k) = k) : blk (c.rn τ) (σ k) (rnO σ o) = blk c k o := by
 cases o <;> simp [blk, rnO, Cx.rn, ek]
theorem RelX.rn {n : Nat} {f : Nat → SV} {a : Act} (hτ : ∀ p ∈ m, τ (σ p.1) = p.1) (h : RelX w0 c ⟨n, f, m⟩ a w) : RelX w0 (c.rn τ) ⟨n, fun t => rnR σ (f t), rnM σ m⟩ a w := by
 refine ⟨h.n0, h.ext, h.df, h.xl, h.xo, h.sz, fun t ht => RelR.rn hτ (h.sl t ht), fun j o' hj => ?_, fun j j' o o' hne hj hj' b hb => ?_⟩
 ·obtain ⟨k, o, rfl, h1, rfl⟩ := mat_rn_inv hj; exact RelO.rn hτ h1 (h.mem k o h1)
 ·obtain ⟨k, o, rfl, h1, rfl⟩ := mat_rn_inv hj; obtain ⟨k', o', rfl, h2, rfl⟩ := mat_rn_inv hj'; rw [blk_rn (hτ _ (mat_mem h1))] at hb; rw [blk_rn (hτ _ (mat_mem h2))]; exact h.dis k k' o o' (fun e => hne (by rw [e])) h1 h2 b hb
theorem rnC_id {x : CV} (h : ∀ k ∈ nmC x, σ k = k) : rnC σ x = x := by
 cases x with
 | p k o => show CV.p (σ k) o = _; rw [h k (by simp [nmC])]
 | r k n => show CV.r (σ k) n = _; rw [h k (by simp [nmC])]
 | f n ks =>
  show CV.f n (ks.map fun p => (σ p.1, p.2)) = _
  congr 1
  rw [List.map_congr_left (g := id) fun p hp => by rw [h p.1 (List.mem_map.2 ⟨p, hp, rfl⟩)]; rfl, List.map_id]
 | m k => show CV.m (σ k) = _; rw [h k (by simp [nmC])]
 | t k => show CV.t (σ k) = _; rw [h k (by simp [nmC])]
 | _ => rfl
theorem map_id_of {α : Type} {F : α → α} {nm : α → List Nat} (hF : ∀ x, (∀ k ∈ nm x, σ k = k) → F x = x) {l : List α} (h : ∀ k ∈ l.flatMap nm, σ k = k) : l.map F = l := by
 rw [List.map_congr_left (g := id) fun x hx => hF x fun k hk => h k (List.mem_flatMap.2 ⟨x, hx, hk⟩), List.map_id]
theorem rnA_id {x : AV} (h : ∀ k ∈ nmA x, σ k = k) : rnA σ x = x := by
 cases x with
 | c x => exact congrArg _ (rnC_id h)
 | g cs => exact congrArg _ (map_id_of (fun _ => rnC_id) h)
theorem rnR_id {x : SV} (h : ∀ k ∈ nmR x, σ k = k) : rnR σ x = x := by
 cases x with
 | c x => exact congrArg _ (rnC_id h)
 | g cs => exact congrArg _ (map_id_of (fun _ => rnC_id) h)
 | t xs => exact congrArg _ (map_id_of (fun _ => rnA_id) h)
 | q k n i o => show SV.q (σ k) n i o = _; rw [h k (by simp [nmR])]
 | _ => rfl
theorem rnO_id {x : Ob} (h : ∀ k ∈ nmO x, σ k = k) : rnO σ x = x := by
 cases x with
 | x cs => exact congrArg _ (map_id_of (fun _ => rnC_id) h)
 | it fr k rem la => show Ob.it fr (σ k) rem la = _; rw [h k (by simp [nmO])]
 | g vs xs => exact congrArg _ (map_id_of (fun _ => rnR_id) h)
 | _ => rfl
theorem rnM_id {m : Mem} (h : ∀ p ∈ m, σ p.1 = p.1 ∧ ∀ k ∈ nmO p.2, σ k = k) : rnM σ m = m := by
 unfold rnM; rw [List.map_congr_left (g := id) fun p hp => by rw [(h p hp).1, rnO_id (h p hp).2]; rfl, List.map_id]
theorem rnC_comp (σ σ' : Nat → Nat) (x : CV) : rnC σ' (rnC σ x) = rnC (σ' ∘ σ) x := by
 cases x <;> simp [rnC, Function.comp]
theorem rnA_comp (σ σ' : Nat → Nat) (x : AV) : rnA σ' (rnA σ x) = rnA (σ' ∘ σ) x := by
 cases x <;> simp [rnA, rnC_comp, Function.comp_def]
theorem rnR_comp (σ σ' : Nat → Nat) (x : SV) : rnR σ' (rnR σ x) = rnR (σ' ∘ σ) x := by
 cases x <;> simp [rnR, rnC_comp, rnA_comp, Function.comp_def]
theorem rnO_comp (σ σ' : Nat → Nat) (x : Ob) : rnO σ' (rnO σ x) = rnO (σ' ∘ σ) x := by
 cases x <;> simp [rnO, rnC_comp, rnR_comp, Function.comp_def]
theorem rnM_comp (σ σ' : Nat → Nat) (m : Mem) : rnM σ' (rnM σ m) = rnM (σ' ∘ σ) m := by
 simp [rnM, rnO_comp, Function.comp_def]
end

def keys (m : Mem) : List Nat := m.map Prod.fst
def mdel : Mem → Nat → Mem
 | [], _ => []
 | (j, o) :: r, k => if j = k then mdel r k else (j, o) :: mdel r k
def mdelL (m : Mem) : List Nat → Mem
 | [] => m
 | k :: ks => mdelL (mdel m k) ks
def dedup : Mem → Mem
 | [] => []
 | (j, o) :: r => (j, o) :: mdel (dedup r) j
theorem mat_mdel : ∀ {m : Mem} {k j : Nat}, mat (mdel m k) j = if j = k then none else mat m j
 | [], k, j => by simp [mdel, mat]
 | (i, o) :: r, k, j => by
  unfold mdel
  by_cases e : i = k
  ·subst e; rw [if_pos rfl, mat_mdel]
   by_cases e2 : j = i
   ·simp [e2]
   ·simp [e2, mat, Ne.symm e2]
  ·rw [if_neg e]; unfold mat
   by_cases e2 : i = j
   ·subst e2; simp [e]
   ·simp only [e2, if_false]; exact mat_mdel
theorem mat_mdelL : ∀ {ks : List Nat} {m : Mem} {j : Nat}, mat (mdelL m ks) j = if j ∈ ks then none else mat m j
 | [], m, j => by simp [mdelL]
 | k :: ks, m, j => by
  unfold mdelL; rw [mat_mdelL, mat_mdel]
  by_cases e : j ∈ ks
  ·simp [e]
  ·by_cases e2 : j = k <;> simp [e, e2]
theorem mdel_key : ∀ {m : Mem} {k : Nat} {p : Nat × Ob}, p ∈ mdel m k → p ∈ m ∧ p.1 ≠ k
 | (i, o) :: r, k, p, h => by
  unfold mdel at h
  split at h
  ·exact ⟨List.mem_cons_of_mem _ (mdel_key h).1, (mdel_key h).2⟩
  ·rename_i e
   rcases List.mem_cons.1 h with rfl | h
   ·exact ⟨List.mem_cons_self, e⟩
   ·exact ⟨List.mem_cons_of_mem _ (mdel_key h).1, (mdel_key h).2⟩
theorem mdelL_mem : ∀ {ks : List Nat} {m : Mem} {p : Nat × Ob}, p ∈ mdelL m ks → p ∈ m
 | [], _, _, h => h
 | _ :: ks, _, _, h => (mdel_key (mdelL_mem (ks := ks) h)).1
theorem dedup_mem : ∀ {m : Mem} {p : Nat × Ob}, p ∈ dedup m → p ∈ m
 | (i, o) :: r, p, h => by
  unfold dedup at h
  rcases List.mem_cons.1 h with rfl | h
  ·exact List.mem_cons_self
  ·exact List.mem_cons_of_mem _ (dedup_mem (mdel_key h).1)
theorem mat_dedup : ∀ {m : Mem} {j : Nat}, mat (dedup m) j = mat m j
 | [], _ => rfl
 | (i, o) :: r, j => by
  unfold dedup mat
  by_cases e : i = j
  ·simp [e]
  ·simp only [e, if_false]; rw [mat_mdel, if_neg (Ne.symm e), mat_dedup]
theorem mdel_nodup : ∀ {m : Mem} {k : Nat}, (m.map Prod.fst).Nodup → ((mdel m k).map Prod.fst).Nodup
 | [], _, h => h
 | (i, o) :: r, k, h => by
  rw [List.map_cons, List.nodup_cons] at h; unfold mdel
  split
  ·exact mdel_nodup h.2
  ·rw [List.map_cons, List.nodup_cons]; refine ⟨fun h2 => h.1 ?_, mdel_nodup h.2⟩; obtain ⟨p, hp, e⟩ := List.mem_map.1 h2; exact List.mem_map.2 ⟨p, (mdel_key hp).1, e⟩
theorem dedup_nodup : ∀ {m : Mem}, ((dedup m).map Prod.fst).Nodup
 | [] => List.nodup_nil
 | (i, o) :: r => by
  unfold dedup; rw [List.map_cons, List.nodup_cons]; refine ⟨fun h2 => ?_, mdel_nodup dedup_nodup⟩; obtain ⟨p, hp, e⟩ := List.mem_map.1 h2; exact (mdel_key hp).2 e
theorem mat_app {m m' : Mem} {k : Nat} : mat (m ++ m') k = match mat m k with | some o => some o | none => mat m' k := by
 induction m with
 | nil => rfl
 | cons p r ih =>
  obtain ⟨j, o⟩ := p
  show (if j = k then some o else mat (r ++ m') k) = match (if j = k then some o else mat r k) with | some o => some o | none => mat m' k
  by_cases e : j = k
  ·simp [e]
  ·simp only [e, if_false]; exact ih
theorem mat_ks {m : Mem} {k : Nat} : k ∈ keys m ↔ mat m k ≠ none := by
 unfold keys; rw [List.mem_map]
 constructor
 ·rintro ⟨p, hp, rfl⟩ h; exact mat_none.1 h p hp rfl
 ·intro h; obtain ⟨o, ho⟩ := Option.ne_none_iff_exists'.1 h; exact ⟨_, mat_mem ho, rfl⟩
theorem bound_of (l : List Nat) : ∃ N, ∀ k ∈ l, k < N := by
 induction l with
 | nil => exact ⟨0, fun _ h => absurd h List.not_mem_nil⟩
 | cons a r ih =>
  obtain ⟨N, h⟩ := ih
  exact ⟨N + a + 1, fun k hk => by
   rcases List.mem_cons.1 hk with rfl | hk
   ·omega
   ·have := h k hk; omega⟩
def isIt : Ob → Bool
 | .it .. => true
 | _ => false
def noIt : Mem → Prop
 | [] => True
 | (_, ob) :: r => isIt ob = false ∧ noIt r
theorem noIt_mem : ∀ {m : Mem}, noIt m → ∀ p ∈ m, isIt p.2 = false
 | (_, _) :: _, h, p, hp => (List.mem_cons.1 hp).elim (fun e => e ▸ h.1) (noIt_mem h.2 p)
theorem noIt_of : ∀ {m : Mem}, (∀ p ∈ m, isIt p.2 = false) → noIt m
 | [], _ => trivial
 | (_, _) :: _, h => ⟨h _ List.mem_cons_self, noIt_of fun p hp => h p (List.mem_cons_of_mem _ hp)⟩
structure RC (L : List Nat) (R : Mem) : Prop where
 hi : ∀ k, k < 1000 → mat R k = none
 off : ∀ k ∈ L, mat R k = none
 nm : ∀ p ∈ R, ∀ j ∈ nmO p.2, 1000 ≤ j
 it : noIt R
 nd : (R.map Prod.fst).Nodup
def FnM (P : Program) (f : FuncId) (al : List SV) (m0 : Mem) (r : SV) (m1 : Mem) : Prop :=
 ∀ R : Mem, RC (keys m0 ++ keys m1) R → ∀ (w0 : Beg) (c : Cx) (w : World) (vs : Array Value), RelX w0 c ⟨0, fun _ => .u, m0 ++ R⟩ ⟨#[], []⟩ w → F2 (RelR c (m0 ++ R) w) vs.toList al →
  Calls P f vs w fun e w' => ∃ v c', e = .returned v ∧ RelX w0 c' ⟨0, fun _ => .u, m1 ++ R⟩ ⟨#[], []⟩ w' ∧ RelR c' (m1 ++ R) w' v r
def subM (m : Mem) : Mem → Prop
 | [] => True
 | (k, o) :: r => mat m k = some o ∧ subM m r
def newM (m : Mem) (ks : List Nat) : List Nat → Prop
 | [] => True
 | k :: r => (k ∈ ks ∨ mat m k = none) ∧ newM m ks r
def enterP (P : Program) (f : FuncId) : Bool :=
 match P.funcs[f]? with
 | some fn => fn.name != "runtime.NumGoroutine" && fn.body.isSome
 | none => false
theorem run_enter {P : Program} {w : World} {f : FuncId} (h : enterP P f = true) (vs : Array Value) : (callFunc f vs).run P w = .ok (.enter f vs) w := by
 unfold enterP at h
 split at h
 ·rename_i fn hf
  simp only [Bool.and_eq_true, bne_iff_ne, ne_eq] at h; obtain ⟨cb, hb⟩ := Option.isSome_iff_exists.1 h.2; simp [callFunc, hf, h.1, hb]
 ·cases h
def callN (P : Program) (f : FuncId) (m : Mem) (K : SV → Mem → Prop) (al : List SV) : Prop :=
 enterP P f = true ∧ ∃ m0 r m1, FnM P f al m0 r m1 ∧ subM m m0 ∧ ((keys m0).all fun k => decide (1000 ≤ k)) = true ∧ newM m (keys m0) (keys m1) ∧ ((al.flatMap nmR).all fun k => decide (k ∈ keys m0)) = true ∧
  ((m0.flatMap fun p => nmO p.2).all fun k => decide (k ∈ keys m0)) = true ∧ ((m1.flatMap fun p => nmO p.2).all fun k => decide (k ∈ keys m1)) = true ∧ ((nmR r).all fun k => decide (k ∈ keys m1)) = true ∧ noIt m ∧ K r (m1 ++ mdelL m (keys m0))
def callO (P : Program) (f : FuncId) (m : Mem) (al : List SV) (m0 : Mem) (r : SV) (m1 : Mem) : Prop :=
 enterP P f = true ∧ FnM P f al m0 r m1 ∧ subM m m0 ∧ ((keys m0).all fun k => decide (1000 ≤ k)) = true ∧ newM m (keys m0) (keys m1) ∧ ((al.flatMap nmR).all fun k => decide (k ∈ keys m0)) = true ∧
  ((m0.flatMap fun p => nmO p.2).all fun k => decide (k ∈ keys m0)) = true ∧ ((m1.flatMap fun p => nmO p.2).all fun k => decide (k ∈ keys m1)) = true ∧ ((nmR r).all fun k => decide (k ∈ keys m1)) = true ∧ noIt m
def callM (P : Program) (f : FuncId) (m : Mem) (K : SV → Mem → Prop) (al : List SV) : Prop := ∃ mm m0 r m1, (∀ k, mat mm k = mat m k) ∧ callO P f mm al m0 r m1 ∧ K r (m1 ++ mdelL m (keys m0))
section
variable {P : Program} {w0 : Beg} {c : Cx} {S : AS} {a : Act} {w : World} {o : Oper} {m m' : Mem} {K : SV → Mem → Prop} {Q : Exit → Act → World → Prop}
theorem mon_of {w : World} (h : ∀ k ob, mat m k = some ob → (∀ vs xs, ob ≠ .g vs xs) → mat m' k = some ob) : Mon c m w c m' w :=
 ⟨rfl, fun _ h => h, .refl w, fun k cs hk => ⟨rfl, cs, h k _ hk fun _ _ e => by cases e⟩, fun k fr sz T xs hk => ⟨fr, xs, h k _ hk (fun _ _ e => by cases e), Nat.le_refl _, fun _ => rfl⟩, fun k fr kk es hk => ⟨rfl, fr, kk, es, h k _ hk fun _ _ e => by cases e⟩,
  fun k fr mk rem la hk => ⟨rfl, rfl, rfl, fr, rem, la, h k _ hk fun _ _ e => by cases e⟩⟩
theorem RelX.eqm {n : Nat} {f : Nat → SV} (e : ∀ k, mat m' k = mat m k) (h : RelX w0 c ⟨n, f, m⟩ a w) : RelX w0 c ⟨n, f, m'⟩ a w := by
 have hm : Mon c m w c m' w := mon_of fun k ob hk _ => by rw [e]; exact hk
 refine ⟨h.n0, h.ext, h.df, h.xl, h.xo, h.sz, fun t ht => RelR.mon hm (h.sl t ht), fun k o hk => ?_, fun k k' o o' hne hk hk' => h.dis k k' o o' hne (by rw [← e]; exact hk) (by rw [← e]; exact hk')⟩
 have hk' : mat m k = some o := by rw [← e]; exact hk
 exact RelO.mon hm (h.mem k o hk') hk' hk (fun b hb => ⟨rfl, (h.bk hk' b hb).2.2⟩) rfl
theorem subM_at : ∀ {m0 : Mem}, subM m m0 → ∀ {k : Nat} {o : Ob}, mat m0 k = some o → mat m k = some o
 | (j, a) :: r, h, k, o, hk => by
  unfold mat at hk
  split at hk
  ·rename_i e; subst e; injection hk with hk; subst hk; exact h.1
  ·exact subM_at h.2 hk
theorem newM_at {ks : List Nat} : ∀ {l : List Nat}, newM m ks l → ∀ k ∈ l, k ∈ ks ∨ mat m k = none
 | _ :: _, h, k, hk => (List.mem_cons.1 hk).elim (fun e => e ▸ h.1) (newM_at h.2 k)
theorem all_in {l ks : List Nat} (h : (l.all fun k => decide (k ∈ ks)) = true) : ∀ k ∈ l, k ∈ ks := fun k hk => by simpa using List.all_eq_true.1 h k hk
theorem sim_callN (h : RelX w0 c S a w) (hd : ∀ t, o.dst = some t → t < S.n) (f : FuncId) (xs : List SV) (vs : Array Value) (hrun : (execOp a.eval o).run P w = .ok (.enter f vs) w) (hv : F2 (RelR c S.m w) vs.toList xs) (hK : callN P f S.m K xs) :
  o.wp P a w (fun a' w' => ∃ r m', K r m' ∧ Rel w0 (S.put o.dst r m') a' w') Q := by
 obtain ⟨-, m0, r, m1, hfn, hsub, hlo, hnew, hca, hc0, hc1, hcr, hit, hK⟩ := hK; have hca := all_in hca; have hc0 := all_in hc0; have hc1 := all_in hc1; have hcr := all_in hcr
 have hlo : ∀ k ∈ keys m0, 1000 ≤ k := fun k hk => by simpa using List.all_eq_true.1 hlo k hk
 obtain ⟨N, hN⟩ := bound_of (keys m0 ++ keys m1 ++ keys S.m)
 obtain ⟨N0, hN0, hb0, hb1, hbS⟩ : ∃ N0, 1000 ≤ N0 ∧ (∀ k ∈ keys m0, k < N0) ∧ (∀ k ∈ keys m1, k < N0) ∧ ∀ k ∈ keys S.m, k < N0 :=
  ⟨N + 1000, by omega, fun k hk => by have := hN k (by simp [hk]); omega, fun k hk => by have := hN k (by simp [hk]); omega, fun k hk => by have := hN k (by simp [hk]); omega⟩
 obtain ⟨dd, hdd⟩ : ∃ dd, dd = dedup (mdelL S.m (keys m0)) := ⟨_, rfl⟩
 have hddm : ∀ k, mat dd k = if k ∈ keys m0 then none else mat S.m k := fun k => by rw [hdd, mat_dedup, mat_mdelL]
 have hddk : ∀ p ∈ dd, p.1 ∉ keys m0 ∧ mat S.m p.1 ≠ none ∧ p.1 < N0 := fun p hp => by
  have h1 : mat dd p.1 ≠ none := mat_ks.1 (List.mem_map.2 ⟨p, hp, rfl⟩); rw [hddm] at h1
  split at h1
  ·exact absurd rfl h1
  ·exact ⟨‹_›, h1, hbS _ (mat_ks.2 h1)⟩
 have hddn : (dd.map Prod.fst).Nodup := by rw [hdd]; exact dedup_nodup
 have hddi : ∀ p ∈ dd, isIt p.2 = false := fun p hp => noIt_mem hit p (mdelL_mem (dedup_mem (hdd ▸ hp)))
 -- other names
 obtain ⟨σ, hσ⟩ : ∃ σ : Nat → Nat, σ = fun k => if k ∈ keys m0 then k else k + N0 := ⟨_, rfl⟩
 obtain ⟨τ, hτd⟩ : ∃ τ : Nat → Nat, τ = fun k => if k < N0 then k else k - N0 := ⟨_, rfl⟩
 have σ1 : ∀ k ∈ keys m0, σ k = k := fun k hk => by rw [hσ]; simp [hk]
 have σ2 : ∀ k, k ∉ keys m0 → σ k = k + N0 := fun k hk => by rw [hσ]; simp [hk]
 have τ1 : ∀ k, k < N0 → τ k = k := fun k hk => by rw [hτd]; simp [hk]
 have τ2 : ∀ k, τ (k + N0) = k := fun k => by
  rw [hτd]
  show (if k + N0 < N0 then k + N0 else k + N0 - N0) = k
  rw [if_neg (by omega)]; omega
 have τσ : ∀ k, τ (σ k) = k := fun k => by
  by_cases hk : k ∈ keys m0
  ·rw [σ1 k hk, τ1 k (hb0 k hk)]
  ·rw [σ2 k hk, τ2]
 have e1 : ∀ k, mat (m0 ++ dd) k = mat S.m k := fun k => by
  rw [mat_app, hddm]
  cases hk : mat m0 k with
  | some ob => exact (subM_at hsub hk).symm
  | none => rw [if_neg fun h => mat_ks.1 h hk]
 have h1 : RelX w0 c ⟨S.n, S.f, m0 ++ dd⟩ a w := h.eqm e1
 have h2 := h1.rn (σ := σ) (τ := τ) fun p _ => τσ p.1
 have em0 : rnM σ m0 = m0 := rnM_id fun p hp => ⟨σ1 _ (List.mem_map.2 ⟨p, hp, rfl⟩), fun k hk => σ1 k (hc0 k (List.mem_flatMap.2 ⟨p, hp, hk⟩))⟩
 have e2 : rnM σ (m0 ++ dd) = m0 ++ rnM σ dd := by
  have h3 : rnM σ (m0 ++ dd) = rnM σ m0 ++ rnM σ dd := by simp [rnM]
  rw [h3, em0]
 rw [e2] at h2
 -- the slots as a ghost
 obtain ⟨gx, hgx⟩ : ∃ gx, gx = (List.range S.n).map fun t => rnR σ (S.f t) := ⟨_, rfl⟩
 obtain ⟨R, hR⟩ : ∃ R, R = rnM σ dd ++ [(N0 + N0, Ob.g a.tmps.toList gx)] := ⟨_, rfl⟩
 have hkd : ∀ k ob, mat (rnM σ dd) k = some ob → N0 ≤ k ∧ k < N0 + N0 := fun k ob hk => by
  obtain ⟨j, ob', rfl, h3, rfl⟩ := mat_rn_inv hk; have := hddk _ (mat_mem h3); rw [σ2 j this.1]; have := this.2.2; simp only at this
  omega
 have hgn : mat (m0 ++ rnM σ dd) (N0 + N0) = none := by
  rw [mat_app]
  cases h3 : mat m0 (N0 + N0) with
  | some ob => have := hb0 _ (mat_ks.2 (by rw [h3]; simp)); omega
  | none =>
   cases h4 : mat (rnM σ dd) (N0 + N0) with
   | none => rfl
   | some ob => have := hkd _ _ h4; omega
 have eR : ∀ k, mat (m0 ++ R) k = if k = N0 + N0 then some (Ob.g a.tmps.toList gx) else mat (m0 ++ rnM σ dd) k := fun k => by
  rw [hR, ← List.append_assoc, mat_app]
  by_cases e : k = N0 + N0
  ·rw [e, hgn]; simp [mat]
  ·rw [if_neg e]
   cases h3 : mat (m0 ++ rnM σ dd) k with
   | some ob => rfl
   | none => simp [mat, Ne.symm e]
 have hmn : Mon (c.rn τ) (m0 ++ rnM σ dd) w (c.rn τ) (m0 ++ R) w := mon_of fun k ob hk _ => by
  rw [eR, if_neg fun e => by rw [e, hgn] at hk; cases hk]; exact hk
 have h3 : RelX w0 (c.rn τ) ⟨0, fun _ => .u, m0 ++ R⟩ ⟨#[], []⟩ w := by
  refine ⟨h2.n0, h2.ext, rfl, h2.xl, h2.xo, rfl, fun t ht => absurd ht (Nat.not_lt_zero _), fun k ob hk => ?_, fun k k' ob ob' hne hk hk' b hb => ?_⟩
  ·have hk0 : mat (m0 ++ R) k = some ob := hk; rw [eR] at hk
   split at hk
   ·injection hk with hk
    subst hk
    refine forall2_of (by rw [hgx]; simp [h.sz]) fun t h4 h5 => ?_
    have ht : t < S.n := by rw [hgx] at h5; simpa using h5
    have h6 := RelR.mon hmn (h2.sl t ht)
    have e3 : a.tmps.getD t undef = a.tmps.toList[t] := by simp [Array.getD, h.sz, ht]
    rw [e3] at h6; simp only [hgx, List.getElem_map, List.getElem_range]; exact h6
   ·exact RelO.mon hmn (h2.mem k ob hk) hk hk0 (fun b hb => ⟨rfl, (h2.bk hk b hb).2.2⟩) rfl
  ·rw [eR] at hk hk'
   split at hk
   ·injection hk with hk; subst hk; cases hb
   ·split at hk'
    ·injection hk' with hk'; subst hk'; simp [blk]
    ·exact h2.dis k k' ob ob' hne hk hk' b hb
 have hRC : RC (keys m0 ++ keys m1) R := by
  have hkR : ∀ k, k < N0 → mat R k = none := fun k hk => by
   rw [hR, mat_app]
   cases h4 : mat (rnM σ dd) k with
   | some ob => have := hkd _ _ h4; omega
   | none => simp [mat]; omega
  refine ⟨fun k hk => hkR k (by omega), fun k hk => hkR k ((List.mem_append.1 hk).elim (hb0 k) (hb1 k)), fun p hp j hj => ?_, noIt_of fun p hp => ?_, ?_⟩
  ·have key : ∀ k, 1000 ≤ σ k := fun k => by
    by_cases hk : k ∈ keys m0
    ·rw [σ1 k hk]; exact hlo k hk
    ·rw [σ2 k hk]; omega
   have nC : ∀ (x : CV), ∀ j ∈ nmC (rnC σ x), 1000 ≤ j := fun x j hj => by
    cases x <;> simp [rnC, nmC] at hj <;> first | (subst hj; exact key _) | (obtain ⟨k, ⟨_, _⟩, rfl⟩ := hj; exact key _) | (obtain ⟨k, _, _, rfl⟩ := hj; exact key _)
   have nCs : ∀ (l : List CV), ∀ j ∈ (l.map (rnC σ)).flatMap nmC, 1000 ≤ j := fun l j hj => by
    obtain ⟨y, hy, hj⟩ := List.mem_flatMap.1 hj; obtain ⟨x, _, rfl⟩ := List.mem_map.1 hy; exact nC x j hj
   have nA : ∀ (x : AV), ∀ j ∈ nmA (rnA σ x), 1000 ≤ j := fun x j hj => by
    cases x with
    | c x => exact nC x j hj
    | g l => exact nCs l j hj
   have nR : ∀ (x : SV), ∀ j ∈ nmR (rnR σ x), 1000 ≤ j := fun x j hj => by
    cases x with
    | c x => exact nC x j hj
    | g l => exact nCs l j hj
    | t l =>
     obtain ⟨y, hy, hj⟩ := List.mem_flatMap.1 hj; obtain ⟨x, _, rfl⟩ := List.mem_map.1 hy; exact nA x j hj
    | u => cases hj
    | e fr ds => cases hj
    | q k n i o => simp [rnR, nmR] at hj; subst hj; exact key _
   rw [hR] at hp
   rcases List.mem_append.1 hp with hp | hp
   ·obtain ⟨q, _, rfl⟩ := List.mem_map.1 hp; obtain ⟨k, ob⟩ := q
    cases ob with
    | x cs => exact nCs cs j hj
    | it fr mk rem la => simp [rnO, nmO] at hj; subst hj; exact key _
    | g vs xs =>
     obtain ⟨y, hy, hj⟩ := List.mem_flatMap.1 hj; obtain ⟨x, _, rfl⟩ := List.mem_map.1 hy; exact nR x j hj
    | r => cases hj
    | m => cases hj
   ·simp only [List.mem_singleton] at hp; subst hp; simp only [nmO, hgx] at hj; obtain ⟨y, hy, hj⟩ := List.mem_flatMap.1 hj; obtain ⟨t, _, rfl⟩ := List.mem_map.1 hy; exact nR _ j hj
  ·rw [hR] at hp
   rcases List.mem_append.1 hp with hp | hp
   ·obtain ⟨q, hq, rfl⟩ := List.mem_map.1 hp; have := hddi q hq; obtain ⟨k, ob⟩ := q
    cases ob <;> first | rfl | exact this
   ·simp only [List.mem_singleton] at hp; subst hp; rfl
  ·rw [hR, List.map_append, List.nodup_append]; refine ⟨?_, by simp, fun x hx y hy => ?_⟩
   ·have e3 : (rnM σ dd).map Prod.fst = (dd.map Prod.fst).map σ := by simp [rnM, Function.comp_def]
    rw [e3]; refine List.Pairwise.map _ (fun x y hne e => hne ?_) hddn; have := congrArg τ e
    rwa [τσ, τσ] at this
   ·obtain ⟨p, hp, rfl⟩ := List.mem_map.1 hx; simp only [List.map_cons, List.map_nil, List.mem_singleton] at hy; obtain ⟨q, hq, rfl⟩ := List.mem_map.1 hp; have := hddk q hq; simp only [σ2 _ this.1]
    omega
 have hargs : F2 (RelR (c.rn τ) (m0 ++ R) w) vs.toList xs := by
  refine forall2_of (forall2_len hv) fun t h4 h5 => ?_
  have h6 := forall2_get hv t h4 h5; have h7 : RelR c (m0 ++ dd) w vs.toList[t] xs[t] := RelR.mon (mon_of fun k ob hk _ => by rw [e1]; exact hk) h6; have h8 := RelR.rn (σ := σ) (τ := τ) (fun p _ => τσ p.1) h7; rw [e2, rnR_id fun k hk => σ1 k (hca k (List.mem_flatMap.2 ⟨_, List.getElem_mem h5, hk⟩))] at h8; exact RelR.mon hmn h8
 unfold Oper.wp; rw [hrun]; refine (hfn R hRC w0 (c.rn τ) w vs h3 hargs).mono ?_; rintro e w' ⟨v, c', rfl, h4, h5⟩
 -- back
 obtain ⟨σ', hσ'⟩ : ∃ σ' : Nat → Nat, σ' = fun k => if k ∈ keys m1 then k else k + N0 := ⟨_, rfl⟩
 have s1 : ∀ k ∈ keys m1, σ' k = k := fun k hk => by rw [hσ']; simp [hk]
 have s2 : ∀ k, k ∉ keys m1 → σ' k = k + N0 := fun k hk => by rw [hσ']; simp [hk]
 have hτ' : ∀ p ∈ m1 ++ R, σ' (τ p.1) = p.1 := fun p hp => by
  rcases List.mem_append.1 hp with hp | hp
  ·have h6 : p.1 ∈ keys m1 := List.mem_map.2 ⟨p, hp, rfl⟩; rw [τ1 _ (hb1 _ h6), s1 _ h6]
  ·rw [hR] at hp
   rcases List.mem_append.1 hp with hp | hp
   ·obtain ⟨q, hq, rfl⟩ := List.mem_map.1 hp; have h7 := hddk q hq
    have h8 : q.1 ∉ keys m1 := fun h8 => (newM_at hnew _ h8).elim h7.1 h7.2.1
    simp only [σ2 _ h7.1, τ2, s2 _ h8]
   ·simp only [List.mem_singleton] at hp; subst hp
    have h8 : N0 ∉ keys m1 := fun h8 => by have := hb1 _ h8; omega
    simp only [τ2, s2 _ h8]
 have h6 := h4.rn hτ'; have h7 := RelR.rn hτ' h5
 have em1 : rnM τ m1 = m1 := rnM_id fun p hp => ⟨τ1 _ (hb1 _ (List.mem_map.2 ⟨p, hp, rfl⟩)), fun k hk => τ1 k (hb1 _ (hc1 k (List.mem_flatMap.2 ⟨p, hp, hk⟩)))⟩
 have hid : (τ ∘ σ) = id := funext τσ
 have rC : ∀ x : CV, rnC id x = x := fun x => rnC_id fun _ _ => rfl
 have e7 : rnM τ (m1 ++ R) = m1 ++ (dd ++ [(N0, Ob.g a.tmps.toList ((List.range S.n).map S.f))]) := by
  have e8 : rnM τ (m1 ++ R) = rnM τ m1 ++ rnM τ R := by simp [rnM]
  have e9 : rnM τ (rnM σ dd) = dd := by rw [rnM_comp, hid]; exact rnM_id fun p _ => ⟨rfl, fun _ _ => rfl⟩
  have e10 : rnM τ R = rnM τ (rnM σ dd) ++ [(τ (N0 + N0), rnO τ (Ob.g a.tmps.toList gx))] := by rw [hR]; simp [rnM]
  rw [e8, em1, e10, e9, τ2]
  congr 3
  show (N0, Ob.g a.tmps.toList (gx.map (rnR τ))) = _
  rw [hgx, List.map_map]
  congr 2
  refine List.map_congr_left fun t _ => ?_
  show rnR τ (rnR σ (S.f t)) = S.f t
  rw [rnR_comp, hid]
  exact rnR_id fun _ _ => rfl
 rw [e7] at h6 h7; rw [rnR_id fun k hk => τ1 k (hb1 _ (hcr k hk))] at h7; obtain ⟨M6, hM6⟩ : ∃ M6, M6 = m1 ++ (dd ++ [(N0, Ob.g a.tmps.toList ((List.range S.n).map S.f))]) := ⟨_, rfl⟩; rw [← hM6] at h6 h7
 have hgone : mat m1 N0 = none := by
  cases h8 : mat m1 N0 with
  | none => rfl
  | some ob => have := hb1 _ (mat_ks.2 (by rw [h8]; simp)); omega
 have hddN : mat dd N0 = none := by
  cases h8 : mat dd N0 with
  | none => rfl
  | some ob => have := (hddk _ (mat_mem h8)).2.2; simp only at this; omega
 have e8 : ∀ k, mat M6 k = if k = N0 then some (Ob.g a.tmps.toList ((List.range S.n).map S.f)) else mat (m1 ++ mdelL S.m (keys m0)) k := fun k => by
  rw [hM6, mat_app, mat_app, mat_app]
  by_cases e : k = N0
  ·rw [e, hgone, hddN]; simp [mat]
  ·rw [if_neg e]
   cases mat m1 k with
   | some ob => rfl
   | none =>
    show (match mat dd k with | some o => some o | none => mat [(N0, _)] k) = _
    rw [hdd, mat_dedup]
    cases mat (mdelL S.m (keys m0)) k with
    | some ob => rfl
    | none => simp [mat, Ne.symm e]
 have hmf : Mon (c'.rn σ') M6 w' (c'.rn σ') (m1 ++ mdelL S.m (keys m0)) w' := mon_of fun k ob hk hng => by
  rw [e8] at hk
  split at hk
  ·injection hk with hk; exact absurd hk.symm (hng _ _)
  ·exact hk
 have hnk : ∀ {k ob}, mat (m1 ++ mdelL S.m (keys m0)) k = some ob → mat M6 k = some ob := fun {k ob} hk => by
  rw [e8, if_neg fun e => ?_]; exact hk
  subst e; rw [mat_app, hgone] at hk
  have : mat dd k = some ob := by rw [hdd, mat_dedup]; exact hk
  rw [hddN] at this
  cases this
 have hgr := h6.mem N0 _ (by rw [e8, if_pos rfl])
 have h9 : RelX w0 (c'.rn σ') ⟨S.n, S.f, m1 ++ mdelL S.m (keys m0)⟩ a w' := by
  refine ⟨h6.n0, h6.ext, h.df, h6.xl, h6.xo, h.sz, fun t ht => ?_, fun k ob hk => ?_, fun k k' ob ob' hne hk hk' => h6.dis k k' ob ob' hne (hnk hk) (hnk hk')⟩
  ·have hgr : F2 (RelR (c'.rn σ') M6 w') a.tmps.toList ((List.range S.n).map S.f) := hgr; have h10 := forall2_get hgr t (by simpa [h.sz] using ht) (by simpa using ht)
   have e3 : a.tmps.getD t undef = a.tmps.toList[t]'(by simpa [h.sz] using ht) := by
    have ht' : t < S.n := ht; simp [Array.getD, h.sz, ht']
   rw [e3]; simp only [List.getElem_map, List.getElem_range] at h10; exact RelR.mon hmf h10
  ·exact RelO.mon hmf (h6.mem k ob (hnk hk)) (hnk hk) hk (fun b hb => ⟨rfl, (h6.bk (hnk hk) b hb).2.2⟩) rfl
 exact ⟨r, _, hK, _, h9.puts hd (RelR.mon hmf h7)⟩
theorem sim_callM (h : RelX w0 c S a w) (hd : ∀ t, o.dst = some t → t < S.n) (f : FuncId) (xs : List SV) (vs : Array Value) (hrun : enterP P f = true → (execOp a.eval o).run P w = .ok (.enter f vs) w) (hv : F2 (RelR c S.m w) vs.toList xs) (hK : callM P f S.m K xs) :
  o.wp P a w (fun a' w' => ∃ r m', K r m' ∧ Rel w0 (S.put o.dst r m') a' w') Q := by
 obtain ⟨mm, m0, r, m1, he, ⟨q1, q2, q3, q4, q5, q6, q7, q8, q9, q10⟩, hK⟩ := hK; have h1 : RelX w0 c ⟨S.n, S.f, mm⟩ a w := RelX.eqm he h; have h2 := sim_callN (S := ⟨S.n, S.f, mm⟩) (K := fun r' M => r' = r ∧ M = m1 ++ mdelL mm (keys m0)) (Q := Q) h1 hd f xs vs (hrun q1) (forall2_mono (fun _ _ r => RelR.mon (mon_of fun k ob hk _ => by rw [he]; exact hk) r) hv) ⟨q1, m0, r, m1, q2, q3, q4, q5, q6, q7, q8, q9, q10, rfl, rfl⟩; refine Oper.wp_mono (fun a' w' ⟨r', M, ⟨e1, e2⟩, c', h3⟩ => ?_) h2
 subst e1; subst e2
 refine ⟨_, _, hK, c', ?_⟩
 have e3 : ∀ k, mat (m1 ++ mdelL S.m (keys m0)) k = mat (m1 ++ mdelL mm (keys m0)) k := fun k => by rw [mat_app, mat_app, mat_mdelL, mat_mdelL, he]
 exact RelX.eqm e3 h3
end

end Go.Proofs.YtbgifiijjjoebaaGreatDoor

namespace Go.Proofs.YtbgifiijjjoebaaGreatDoor
open Go.RowKit

def stP (P : Program) (t : TypeId) : Bool :=
 match P.underlying t with
 | some .string => true
 | _ => false
def byt (s : ByteArray) (i : Nat) : Nat := (s.data.getD i 0).toNat
def nckK (m : Mem) (K : SV → Mem → Prop) : SV → Prop
 | .c (.p k o) => K (.c (.p k o)) m
 | .c (.d f T ds) => K (.c (.d f T ds)) m
 | .e f ds => K (.e f ds) m
 | _ => False
def arrP (P : Program) (T : TypeId) : Option (Nat × Nat) :=
 match P.underlying T with
 | some (.array n e) => (P.info? e).map fun i => (n, i.size)
 | _ => none
def arrK (p : Nat × Nat) (m : Mem) (K : SV → Mem → Prop) : SV → SV → Prop
 | .c (.p k o), .c (.i _ n) => 0 ≤ n ∧ n.toNat < p.1 ∧ K (.c (.p k (o + n.toNat * p.2))) m
 | _, _ => False
def byteK (b : Bool) (m : Mem) (K : SV → Mem → Prop) : SV → SV → Prop
 | .c (.s s), .c (.i _ n) => b = true ∧ 0 ≤ n ∧ n.toNat < s.size ∧ K (.c (.i .u8 (byt s n.toNat : Int))) m
 | _, _ => False
def maxK (mx : Bool) (m : Mem) (K : SV → Mem → Prop) : SV → SV → Prop
 | .c (.i k x), .c (.i k' y) => k = k' ∧ (if mx then K (.c (.i k (if y > x then y else x))) m else K (.c (.i k (if y < x then y else x))) m)
 | _, _ => False
def capP : List SV → Option (List (Nat × Nat))
 | [] => some []
 | .c (.p k o) :: r => (capP r).map ((k, o) :: ·)
 | _ => none
def funK (fn : Fn) (first : List SV) (cap : List SV) (m : Mem) (K : SV → Mem → Prop) : Prop :=
 match fn, first, capP cap with
 | .func f, [], some ks => K (.c (.f f ks)) m
 | _, _, _ => False
section
variable {P : Program} {w0 : Beg} {c : Cx} {S : AS} {a : Act} {w : World} {o : Oper} {m : Mem} {K : SV → Mem → Prop} {Q : Exit → Act → World → Prop}
theorem sim_nck (h : RelX w0 c S a w) (hd : ∀ t, o.dst = some t → t < S.n) (x : Operand) (ho : o.op = .nilCheck x) (hK : nckK S.m K (ez S x)) : o.wp P a w (fun a' w' => ∃ r m', K r m' ∧ Rel w0 (S.put o.dst r m') a' w') Q := by
 have hx := h.evs x
 have hex : ∀ q, a.eval x = .pointer (some q) → (execOp a.eval o).run P w = .ok (.value (.pointer (some q))) w := fun q hq => by
  simp only [execOp, ho, hq, Sem.run_pure]
 generalize ez S x = r at hx hK; generalize a.eval x = v at hx hex; unfold nckK at hK
 split at hK
 ·rename_i k q
  have h1 := hx; obtain ⟨rfl, _⟩ := h1; exact sim_val (r := .c (.p k q)) hd (hex _ rfl) h hx hK
 ·rename_i f T ds
  have h1 : Rp w (c.Y f) v (.p T ds) := hx
  cases h1 with
  | p q1 q2 q3 q4 => exact sim_val (r := .c (.d f T ds)) hd (hex _ rfl) h hx hK
 ·rename_i f ds
  have h1 := hx; obtain ⟨b, q, rfl, _⟩ := h1; exact sim_val (r := .e f ds) hd (hex _ rfl) h hx hK
 ·exact hK.elim
theorem sim_arr (h : RelX w0 c S a w) (hd : ∀ t, o.dst = some t → t < S.n) (T : TypeId) (x y : Operand) (ho : o.op = .indexAddr T x y) {p : Nat × Nat} (hp : arrP P T = some p) (hK : arrK p S.m K (ez S x) (ez S y)) : o.wp P a w (fun a' w' => ∃ r m', K r m' ∧ Rel w0 (S.put o.dst r m') a' w') Q := by
 have hx := h.evs x; have hy := h.evs y
 have hex : ∀ v, (Instr.indexAt T (a.eval x) (a.eval y)).run P w = .ok v w → (execOp a.eval o).run P w = .ok (.value v) w := fun v hv => by
  simp only [execOp, ho, Sem.run_bind, hv, Result.andThen_ok, Sem.run_pure]
 generalize ez S x = r at hx hK; generalize ez S y = r2 at hy hK; generalize a.eval x = v at hx hex; generalize a.eval y = v2 at hy hex; unfold arrK at hK
 split at hK
 ·rename_i k q kk n
  obtain ⟨h0, hn, hK⟩ := hK; obtain ⟨rfl, h1⟩ := hx; obtain ⟨rfl, _⟩ := hy; unfold arrP at hp
  split at hp
  ·rename_i len e hu
   cases hi : P.info? e with
   | none => rw [hi] at hp; cases hp
   | some i =>
    rw [hi] at hp
    injection hp with hp
    subst hp
    have hlt : n < (len : Int) := by simp only at hn; omega
    exact sim_val (r := .c (.p k (q + n.toNat * i.size))) hd (hex _ (by simp [Instr.indexAt, asIntOf, underlying, hu, sizeOf, typeInfo, hi, h0, hlt, Instr.sureAddr, Addr.add_mid])) h ⟨rfl, h1⟩ hK
  ·cases hp
 ·exact hK.elim
theorem sim_byte (h : RelX w0 c S a w) (hd : ∀ t, o.dst = some t → t < S.n) (T : TypeId) (x y : Operand) (ho : o.op = .index T x y) (hK : byteK (stP P T) S.m K (ez S x) (ez S y)) : o.wp P a w (fun a' w' => ∃ r m', K r m' ∧ Rel w0 (S.put o.dst r m') a' w') Q := by
 have hx := h.evs x; have hy := h.evs y
 have hex : ∀ v, (Instr.index T (a.eval x) (a.eval y)).run P w = .ok v w → (execOp a.eval o).run P w = .ok (.value v) w := fun v hv => by
  simp only [execOp, ho, Sem.run_bind, hv, Result.andThen_ok, Sem.run_pure]
 generalize ez S x = r at hx hK; generalize ez S y = r2 at hy hK; generalize a.eval x = v at hx hex; generalize a.eval y = v2 at hy hex; unfold byteK at hK
 split at hK
 ·rename_i s k n
  obtain ⟨hb, h0, hn, hK⟩ := hK; obtain ⟨rfl, _⟩ := hx; obtain ⟨rfl, _, _⟩ := hy
  have hu : P.underlying T = some .string := by
   unfold stP at hb
   split at hb
   ·assumption
   ·cases hb
  have hlt : n.toNat < s.data.size := hn; refine sim_val (r := .c (.i .u8 (byt s n.toNat : Int))) (v := .int .u8 ((s.data.getD n.toNat 0).toNat : Int)) hd (hex _ ?_) h ⟨rfl, ?_, ?_⟩ hK
  ·have e1 : s[n.toNat]? = some (s.data.getD n.toNat 0) := by
    rw [getElem?_pos s n.toNat hn]; simp only [Array.getD, hlt, dif_pos]
    rfl
   simp [Instr.index, asIntOf, underlying, hu, h0, e1]
  ·simp [IntKind.min, IntKind.signed]
  ·unfold byt; have := (s.data.getD n.toNat 0).toNat_lt; generalize (s.data.getD n.toNat 0).toNat = q at this; simp only [IntKind.max, IntKind.signed, IntKind.bits]; simp
   omega
 ·exact hK.elim
theorem sim_max (h : RelX w0 c S a w) (hd : ∀ t, o.dst = some t → t < S.n) (mx : Bool) (x y : Operand) (ts : Array TypeId) (ho : o.op = .call { callee := .builtin (if mx then .max else .min), args := #[x, y], argTypes := ts }) (hK : maxK mx S.m K (ez S x) (ez S y)) :
  o.wp P a w (fun a' w' => ∃ r m', K r m' ∧ Rel w0 (S.put o.dst r m') a' w') Q := by
 have hx := h.evs x; have hy := h.evs y
 have hex : ∀ v, (if mx then Builtin.max_ ts o.type #[a.eval x, a.eval y] else Builtin.min_ ts o.type #[a.eval x, a.eval y]).run P w = .ok v w → (execOp a.eval o).run P w = .ok (.value v) w := fun v hv => by
  cases mx <;> simp only [if_true, if_false, Bool.false_eq_true] at hv ho <;> simp only [execOp, ho, resolve, invoke, builtin, Sem.run_bind, Sem.run_pure, Result.andThen_ok, List.map_toArray, List.map_cons, List.map_nil, hv]
 generalize ez S x = r at hx hK; generalize ez S y = r2 at hy hK; generalize a.eval x = v at hx hex; generalize a.eval y = v2 at hy hex; unfold maxK at hK
 split at hK
 ·rename_i k n k' n'
  obtain ⟨rfl, hK⟩ := hK; obtain ⟨rfl, h1, h2⟩ := hx; obtain ⟨rfl, h3, h4⟩ := hy
  cases mx with
  | true =>
   simp only [if_true] at hK hex; refine sim_val (r := .c (.i k (if n' > n then n' else n))) (v := .int k (if n' > n then n' else n)) hd (hex _ ?_) h ⟨rfl, ?_⟩ hK
   ·simp [Builtin.max_, Builtin.max2]
   ·by_cases e : n' > n <;> simp [e] <;> omega
  | false =>
   simp only [Bool.false_eq_true, if_false] at hK hex; refine sim_val (r := .c (.i k (if n' < n then n' else n))) (v := .int k (if n' < n then n' else n)) hd (hex _ ?_) h ⟨rfl, ?_⟩ hK
   ·simp [Builtin.min_, Builtin.min2]
   ·by_cases e : n' < n <;> simp [e] <;> omega
 ·exact hK.elim
theorem capP_rel : ∀ {xs : List SV} {vs : List Value} {ks : List (Nat × Nat)}, F2 (RelR c m w) vs xs → capP xs = some ks → F2 (fun u (p : Nat × Nat) => u = .pointer (some ⟨c.β p.1, p.2, none⟩) ∧ ∃ cs, mat m p.1 = some (.x cs)) vs ks
 | [], _, ks, .nil, h => by injection h with h; subst h; exact .nil
 | x :: r, _, ks, .cons h1 h2, h => by
  unfold capP at h
  split at h
  ·rename_i e; cases e
  ·rename_i k o r' e
   injection e with e1 e2
   subst e1; subst e2
   cases hr : capP r with
   | none => rw [hr] at h; cases h
   | some ks' =>
    rw [hr] at h
    injection h with h
    subst h; exact .cons ⟨h1.1, h1.2⟩ (capP_rel h2 hr)
  ·cases h
theorem evl_rel (h : RelX w0 c S a w) (al : Array Operand) : F2 (RelR c S.m w) (al.map a.eval).toList (al.toList.map (ez S)) := by
 rw [Array.toList_map]; generalize al.toList = l
 induction l with
 | nil => exact .nil
 | cons x r ih => exact .cons (h.evs x) ih
theorem sim_fun (h : RelX w0 c S a w) (hd : ∀ t, o.dst = some t → t < S.n) (fn : Fn) (first cap : Array Operand) (ho : o.op = .makeFunc fn first cap) (hK : funK fn (first.toList.map (ez S)) (cap.toList.map (ez S)) S.m K) : o.wp P a w (fun a' w' => ∃ r m', K r m' ∧ Rel w0 (S.put o.dst r m') a' w') Q := by
 unfold funK at hK
 split at hK
 ·rename_i f ks hf hc
  have h1 : first = #[] := by
   have := List.map_eq_nil_iff.1 hf; rw [← Array.toArray_toList (xs := first), this]
  subst h1; refine sim_val (r := .c (.f f ks)) (v := .func (.func f) #[] (cap.map a.eval)) hd ?_ h ⟨_, rfl, capP_rel (evl_rel h cap) hc⟩ hK; simp [execOp, ho, Instr.makeFunc, Sem.run_pure]
 ·exact hK.elim
end

end Go.Proofs.YtbgifiijjjoebaaGreatDoor
