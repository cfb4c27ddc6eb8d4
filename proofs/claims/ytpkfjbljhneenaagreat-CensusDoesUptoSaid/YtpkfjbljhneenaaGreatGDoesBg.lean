/- Code over states without addresses; contracts. No conditions. Contracts out of code. No conditions. -/
import Derived.Test.YtpkfjbljhneenaaGreatGDoesBf
namespace Go.Proofs.YtpkfjbljhneenaaGreat
open Go.RowKit

def Le (S' S : AS) : Prop := ∀ w0 a w, Rel w0 S a w → Rel w0 S' a w
def SW (P : Program) (c : Code) (Q : Exit → AS → Prop) (S : AS) : Prop :=
 ∀ w0 a w, Rel w0 S a w → c.wp P (fun e a' w' => ∃ S', Q e S' ∧ Rel w0 S' a' w') a w
def thn (N : AS → Prop) (Q : Exit → AS → Prop) : Exit → AS → Prop
 | .normal, S => N S
 | e, S => Q e S
def inB (id : Nat) (Q : Exit → AS → Prop) : Exit → AS → Prop
 | .exit j, S => if j = id then Q .normal S else Q (.exit j) S
 | e, S => Q e S

section
variable {P : Program} {Q : Exit → AS → Prop} {S : AS}
theorem sw_weak {c : Code} {S' : AS} (h : Le S' S) (k : SW P c Q S') : SW P c Q S := fun w0 a w hr => k w0 a w (h w0 a w hr)
theorem sw_mono {c : Code} {Q' : Exit → AS → Prop} (h : SW P c Q S) (k : ∀ e S', Q e S' → Q' e S') : SW P c Q' S := fun w0 a w hr => wp_mono (h w0 a w hr) fun e a' w' ⟨S', h1, h2⟩ => ⟨S', k e S' h1, h2⟩
theorem sw_skip (h : Q .normal S) : SW P .skip Q S := fun _ _ _ hr => wp_skip ⟨S, h, hr⟩
theorem sw_exit {id : Nat} (h : Q (.exit id) S) : SW P (.exit id) Q S := fun _ _ _ hr => wp_exit ⟨S, h, hr⟩
theorem sw_ret (h : Q .ret S) : SW P .ret Q S := fun _ _ _ hr => wp_ret ⟨S, h, hr⟩
theorem sw_seq {x y : Code} (h : SW P x (thn (SW P y Q) Q) S) : SW P (.seq x y) Q S := fun w0 a w hr => wp_seq (wp_mono (h w0 a w hr) fun e a' w' ⟨S', h1, h2⟩ => by
 cases e with
 | normal => exact h1 w0 a' w' h2
 | _ => exact ⟨S', h1, h2⟩)
theorem sw_cond {c : Operand} {x y : Code} {t : Bool} (hc : ez S c = .c (.b t)) (h1 : t = true → SW P x Q S) (h2 : t = false → SW P y Q S) : SW P (.cond c x y) Q S := fun w0 a w hr => by
 obtain ⟨cx, h⟩ := hr; have h3 := h.evs c; rw [hc] at h3; have h3 : a.eval c = .bool t := h3
 exact wp_cond_split h3 (fun e => h1 e w0 a w ⟨cx, h⟩) fun e => h2 e w0 a w ⟨cx, h⟩
theorem sw_block {id : Nat} {c : Code} (h : SW P c (inB id Q) S) : SW P (.block id c) Q S := fun w0 a w hr => wp_block (wp_mono (h w0 a w hr) fun e a' w' ⟨S', h1, h2⟩ => by
 cases e with
 | exit j =>
  simp only [Exit.inBlock, inB] at h1 ⊢
  split at h1
  ·rename_i hj; rw [if_pos hj]; exact ⟨S', h1, h2⟩
  ·rename_i hj; rw [if_neg hj]; exact ⟨S', h1, h2⟩
 | _ => exact ⟨S', h1, h2⟩)
theorem sw_region {id : Nat} {ops : Array Oper} {draw : Bool} (hm : P.follows .mixedOrders = true) (hok : draw = true → regOk P ops = true) (h : aops P ops (Q .normal) ops.toList S) : SW P (.region id ops draw) Q S := fun _ _ _ hr =>
 sim_region hm hok hr h fun S' _ _ h1 h2 => ⟨S', h1, h2⟩
theorem wp_loop_rel {c : Code} {Q : Exit → Act → World → Prop} {a : Act} {w : World} (I : Nat → Act → World → Prop) {n : Nat} (h0 : I n a w)
  (round : ∀ n a w, I n a w → c.wp P (Exit.then (fun a' w' => ∃ m, m < n ∧ I m a' w') Q) a w) : (Code.loop c).wp P Q a w := by
 intro b k cs
 have key : ∀ n a w, I n a w → ∃ e a' w', Q e a' w' ∧ Arrives P (lone (b.at a (.code c :: .inLoop c :: k)) cs w) b k cs e a' w' := by
  intro n
  induction n using Nat.strongRecOn with
  | _ n ih =>
   intro a w hI; obtain ⟨e, a1, w1, hq, harr⟩ := round n a w hI b (.inLoop c :: k) cs
   cases e with
   | normal =>
    obtain ⟨m, hm, hI1⟩ := hq; obtain ⟨e2, a2, w2, hq2, harr2⟩ := ih m hm a1 w1 hI1; exact ⟨e2, a2, w2, hq2, .of_steps (Steps.trans harr (.one step_inLoop)) harr2⟩
   | exit id => exact ⟨_, a1, w1, hq, .pass (x := .inLoop c) rfl (fun _ _ => .inl (by simp)) harr⟩
   | goto l => exact ⟨_, a1, w1, hq, .pass (x := .inLoop c) rfl (fun _ _ => .inl (by simp)) harr⟩
   | ret => exact ⟨_, a1, w1, hq, .pass (x := .inLoop c) rfl (fun _ _ => .inl (by simp)) harr⟩
   | panic ch => exact ⟨_, a1, w1, hq, .pass (x := .inLoop c) rfl (fun _ _ => .inl (by simp)) harr⟩
   | outgrown => exact ⟨_, a1, w1, hq, .pass (x := .inLoop c) rfl (fun _ _ => .inl (by simp)) harr⟩
 obtain ⟨e, a', w', hq, harr⟩ := key _ a w h0; exact ⟨e, a', w', hq, .of_steps (.one step_loop) harr⟩
theorem sw_loop {c : Code} (I : Nat → AS → Prop) (h0 : ∃ n S1, Le S1 S ∧ I n S1) (round : ∀ n S1, I n S1 → SW P c (thn (fun S2 => ∃ m S3, m < n ∧ Le S3 S2 ∧ I m S3) Q) S1) : SW P (.loop c) Q S := fun w0 a w hr => by
 obtain ⟨n, S1, h1, h2⟩ := h0
 refine wp_loop_rel (fun n a w => ∃ S1, I n S1 ∧ Rel w0 S1 a w) (n := n) ⟨S1, h2, h1 w0 a w hr⟩ fun n a w ⟨S1, h3, h4⟩ => ?_
 refine wp_mono (round n S1 h3 w0 a w h4) fun e a' w' ⟨S', h5, h6⟩ => ?_
 cases e with
 | normal =>
  obtain ⟨m, S3, h7, h8, h9⟩ := h5; exact ⟨m, h7, S3, h9, h8 w0 a' w' h6⟩
 | _ => exact ⟨S', h5, h6⟩

def shutB (m : Mem) (l : List Nat) : Bool := l.all fun k => decide (1000 ≤ k) || (mat m k).isSome
def cvLe : CV → CV → Prop
 | .u, _ => True
 | .l f' ys, .l f xs => (f' = true → f = true) ∧ ys = xs
 | .l _ ys, .nl => ys = []
 | .d f' U ys, .d f T xs => (f' = true → f = true) ∧ U = T ∧ ys = xs
 | x, y => x = y
def cvLes : List CV → List CV → Prop
 | [], [] => True
 | x :: r, y :: s => cvLe x y ∧ cvLes r s
 | _, _ => False
def svLe : SV → SV → Prop
 | .u, _ => True
 | .c x, .c y => cvLe x y
 | .g xs, .g ys => cvLes xs ys
 | x, y => x = y
def obLe : Ob → Ob → Prop
 | .x xs, .x ys => cvLes xs ys
 | .r f' s' T' ys, .r f s T xs => (f' = true → f = true) ∧ s' = s ∧ T' = T ∧ ys = xs
 | .m f' kk' ys, .m f kk xs => (f' = true → f = true) ∧ kk' = kk ∧ ys = xs
 | .it f' k' ys la', .it f k xs la => (f' = true → f = true) ∧ k' = k ∧ ys = xs ∧ la' = la
 | .g us ys, .g vs xs => us = vs ∧ ys = xs
 | _, _ => False
theorem cvLe_nm {x y : CV} (h : cvLe x y) : ∀ k ∈ nmC x, k ∈ nmC y := by
 unfold cvLe at h
 split at h
 ·intro k hk; cases hk
 ·intro k hk; cases hk
 ·intro k hk; cases hk
 ·intro k hk; cases hk
 ·subst h; exact fun _ h => h
theorem cvLes_nm : ∀ {xs ys : List CV}, cvLes xs ys → ∀ k ∈ xs.flatMap nmC, k ∈ ys.flatMap nmC
 | [], _, _, k, hk => by cases hk
 | _ :: _, [], h, _, _ => h.elim
 | x :: r, y :: s, h, k, hk => by
  rw [List.flatMap_cons, List.mem_append] at hk ⊢; exact hk.imp (cvLe_nm h.1 k) (cvLes_nm h.2 k)
theorem obLe_nm {x y : Ob} (h : obLe x y) : ∀ k ∈ nmO x, k ∈ nmO y := by
 cases x <;> cases y <;> first | exact h.elim | skip
 ·exact cvLes_nm h
 ·exact fun _ h => h
 ·exact fun _ h => h
 ·obtain ⟨_, rfl, _⟩ := h; exact fun _ h => h
 ·obtain ⟨_, rfl⟩ := h; exact fun _ h => h
theorem cvLe_rel {c : Cx} {m : Mem} {w : World} {v : Value} {x y : CV} (h : cvLe x y) (hr : RelC c m w v y) : RelC c m w v x := by
 unfold cvLe at h
 split at h
 ·exact hr.one
 ·obtain ⟨hf, rfl⟩ := h; exact Rp.le hr hf
 ·subst h; have hr : v = .slice none 0 0 := hr; rw [hr]; exact Rp.of_sl (sz := 1) (by omega) (Sl.nil0 _ _ _)
 ·obtain ⟨hf, rfl, rfl⟩ := h; exact Rp.le hr hf
 ·subst h; exact hr
theorem cvLes_rel {c : Cx} {m : Mem} {w : World} : ∀ {vs : List Value} {xs ys : List CV}, cvLes xs ys → F2 (RelC c m w) vs ys → F2 (RelC c m w) vs xs
 | _, [], _, _, .nil => .nil
 | _, _ :: _, _, h, .nil => h.elim
 | _, [], _, h, .cons _ _ => h.elim
 | _, _ :: _, _, h, .cons h1 h2 => .cons (cvLe_rel h.1 h1) (cvLes_rel h.2 h2)
theorem svLe_rel {c : Cx} {m : Mem} {w : World} {v : Value} {x y : SV} (h : svLe x y) (hr : RelR c m w v y) : RelR c m w v x := by
 unfold svLe at h
 split at h
 ·trivial
 ·exact cvLe_rel h hr
 ·obtain ⟨vs, e, hr⟩ := hr; exact ⟨vs, e, cvLes_rel h hr⟩
 ·subst h; exact hr
theorem RelC.same {c : Cx} {m m' : Mem} {w : World} (hs : ∀ k ob, mat m' k = some ob → ∃ ob0, mat m k = some ob0 ∧ obLe ob ob0) {v : Value} {x : CV} (h : RelC c m w v x) (hn : ∀ k ∈ nmC x, ∃ ob, mat m' k = some ob) : RelC c m' w v x := by
 have bx : ∀ {k cs}, mat m k = some (.x cs) → (∃ ob, mat m' k = some ob) → ∃ cs', mat m' k = some (.x cs') := fun {k cs} h2 ⟨ob, h3⟩ => by
  obtain ⟨ob0, h4, h5⟩ := hs k ob h3; rw [h2] at h4
  injection h4 with h4
  subst h4
  cases ob <;> first | exact ⟨_, h3⟩ | exact h5.elim
 cases x with
 | p k o => obtain ⟨h1, cs, h2⟩ := h; exact ⟨h1, bx h2 (hn k (by simp [nmC]))⟩
 | r k n =>
  obtain ⟨f, s, T, xs, h2, h4, h6⟩ := h; obtain ⟨ob, h3⟩ := hn k (by simp [nmC]); obtain ⟨ob0, h5, h7⟩ := hs k ob h3; rw [h2] at h5
  injection h5 with h5
  subst h5
  cases ob with
  | r f' s' T' xs' => obtain ⟨_, rfl, rfl, rfl⟩ := h7; exact ⟨_, _, _, _, h3, h4, h6⟩
  | _ => exact h7.elim
 | f n ks =>
  obtain ⟨cap, h1, h2⟩ := h; refine ⟨cap, h1, forall2_of (forall2_len h2) fun i hi hi' => ?_⟩; obtain ⟨h3, cs, h4⟩ := forall2_get h2 i hi hi'; exact ⟨h3, bx h4 (hn _ (List.mem_map.2 ⟨_, List.getElem_mem hi', rfl⟩))⟩
 | m k =>
  obtain ⟨h1, fr, kk, es, h2⟩ := h; obtain ⟨ob, h3⟩ := hn k (by simp [nmC]); obtain ⟨ob0, h5, h7⟩ := hs k ob h3; rw [h2] at h5
  injection h5 with h5
  subst h5
  cases ob with
  | m f' kk' es' => exact ⟨h1, f', kk', es', h3⟩
  | _ => exact h7.elim
 | t k =>
  obtain ⟨h1, fr, mk, rem, la, h2⟩ := h; obtain ⟨ob, h3⟩ := hn k (by simp [nmC]); obtain ⟨ob0, h5, h7⟩ := hs k ob h3; rw [h2] at h5
  injection h5 with h5
  subst h5
  cases ob with
  | it f' k' rem' la' => obtain ⟨_, rfl, _⟩ := h7; exact ⟨h1, f', _, rem', la', h3⟩
  | _ => exact h7.elim
 | i k n => exact h
 | b x => exact h
 | s x => exact h
 | l fr xs => exact h
 | d fr T ds => exact h
 | nl => exact h
 | np => exact h
 | u => exact h
 | nf => exact h
 | nm => exact h
theorem RelCs.same {c : Cx} {m m' : Mem} {w : World} (hs : ∀ k ob, mat m' k = some ob → ∃ ob0, mat m k = some ob0 ∧ obLe ob ob0) : ∀ {vs : List Value} {xs : List CV}, F2 (RelC c m w) vs xs → (∀ k ∈ xs.flatMap nmC, ∃ ob, mat m' k = some ob) → F2 (RelC c m' w) vs xs
 | _, _, .nil, _ => .nil
 | _, _, .cons h1 h2, hn => .cons (h1.same hs fun k hk => hn k (by simp [hk])) (RelCs.same hs h2 fun k hk => hn k (by rw [List.flatMap_cons]; exact List.mem_append_right _ hk))
theorem RelR.same {c : Cx} {m m' : Mem} {w : World} (hs : ∀ k ob, mat m' k = some ob → ∃ ob0, mat m k = some ob0 ∧ obLe ob ob0) {v : Value} {x : SV} (h : RelR c m w v x) (hn : ∀ k ∈ nmR x, ∃ ob, mat m' k = some ob) : RelR c m' w v x := by
 cases x with
 | c x => exact RelC.same hs h hn
 | g cs => obtain ⟨vs, e, h⟩ := h; exact ⟨vs, e, RelCs.same hs h hn⟩
 | t xs =>
  obtain ⟨vs, e, h⟩ := h; refine ⟨vs, e, ?_⟩
  have key : ∀ {vs : List Value} {xs : List AV}, F2 (RelA c m w) vs xs → (∀ k ∈ xs.flatMap nmA, ∃ ob, mat m' k = some ob) → F2 (RelA c m' w) vs xs := by
   intro vs xs h
   induction h with
   | nil => exact fun _ => .nil
   | @cons v x _ _ h1 _ ih =>
    intro hn; refine .cons ?_ (ih fun k hk => hn k (by rw [List.flatMap_cons]; exact List.mem_append_right _ hk))
    have h0 : ∀ k ∈ nmA x, ∃ ob, mat m' k = some ob := fun k hk => hn k (by rw [List.flatMap_cons]; exact List.mem_append_left _ hk)
    cases x with
    | c x => exact RelC.same hs h1 h0
    | g cs => obtain ⟨vs, e, h1⟩ := h1; exact ⟨vs, e, RelCs.same hs h1 h0⟩
  exact key h hn
 | u => trivial
 | e fr ds => exact h
 | q k n i o =>
  obtain ⟨f, s, T, xs, h2, h4⟩ := h; obtain ⟨ob, h3⟩ := hn k (by simp [nmR]); obtain ⟨ob0, h5, h7⟩ := hs k ob h3; rw [h2] at h5
  injection h5 with h5
  subst h5
  cases ob with
  | r f' s' T' xs' => obtain ⟨_, rfl, rfl, rfl⟩ := h7; exact ⟨_, _, _, _, h3, h4⟩
  | _ => exact h7.elim
theorem RelRs.same {c : Cx} {m m' : Mem} {w : World} (hs : ∀ k ob, mat m' k = some ob → ∃ ob0, mat m k = some ob0 ∧ obLe ob ob0) : ∀ {vs : List Value} {xs : List SV}, F2 (RelR c m w) vs xs → (∀ k ∈ xs.flatMap nmR, ∃ ob, mat m' k = some ob) → F2 (RelR c m' w) vs xs
 | _, _, .nil, _ => .nil
 | _, _, .cons h1 h2, hn => .cons (h1.same hs fun k hk => hn k (by simp [hk])) (RelRs.same hs h2 fun k hk => hn k (by rw [List.flatMap_cons]; exact List.mem_append_right _ hk))
theorem nm_thereRs {c : Cx} {m : Mem} {w : World} : ∀ {vs : List Value} {xs : List SV}, F2 (RelR c m w) vs xs → ∀ k ∈ xs.flatMap nmR, ∃ ob, mat m k = some ob
 | _, _, .nil, k, hk => by cases hk
 | _, _, .cons h1 h2, k, hk => by
  simp only [List.flatMap_cons, List.mem_append] at hk; exact hk.elim (nm_there h1 k) (nm_thereRs h2 k)
theorem nm_thereO {c : Cx} {m : Mem} {w : World} {k : Nat} {o : Ob} (h : RelO c m w k o) : ∀ j ∈ nmO o, ∃ ob, mat m j = some ob := by
 cases o with
 | x cs => obtain ⟨_, _, _, _, _, h⟩ := h; exact nm_thereCs h
 | r fr sz T xs => intro j hj; cases hj
 | m fr kk es => intro j hj; cases hj
 | it fr mk rem la =>
  obtain ⟨_, _, ⟨_, _, _, h⟩, _⟩ := h; intro j hj; simp only [nmO, List.mem_singleton] at hj; exact ⟨_, hj ▸ h⟩
 | g vs xs => exact nm_thereRs h
theorem RelX.sub {w0 : Beg} {c : Cx} {a : Act} {w : World} {n : Nat} {f f' : Nat → SV} {m m' : Mem} (hf : ∀ t, t < n → svLe (f' t) (f t)) (hm : ∀ k ob, mat m' k = some ob → ∃ ob0, mat m k = some ob0 ∧ obLe ob ob0) (h1 : ∀ t, t < n → shutB m' (nmR (f' t)) = true) (h2 : ∀ k ob, mat m' k = some ob → shutB m' (nmO ob) = true)
  (h3 : ∀ k, 1000 ≤ k → (mat m k).isSome = true → (mat m' k).isSome = true) (h : RelX w0 c ⟨n, f, m⟩ a w) : RelX w0 c ⟨n, f', m'⟩ a w := by
 have sh : ∀ l, shutB m' l = true → (∀ k ∈ l, ∃ ob, mat m k = some ob) → ∀ k ∈ l, ∃ ob, mat m' k = some ob := fun l hl hm k hk => by
  have h4 := List.all_eq_true.1 hl k hk; simp only [Bool.or_eq_true, decide_eq_true_eq] at h4; refine Option.isSome_iff_exists.1 (h4.elim (fun h5 => h3 k h5 ?_) id); exact Option.isSome_iff_exists.2 (hm k hk)
 refine ⟨h.n0, h.ext, h.df, h.xl, h.xo, h.sz, fun t ht => ?_, fun k o hk => ?_, fun k k' o o' hne hk hk' b hb => ?_⟩
 ·have h5 := svLe_rel (hf t ht) (h.sl t ht); exact RelR.same hm h5 (sh _ (h1 t ht) (nm_there h5))
 ·obtain ⟨o0, hk0, hle⟩ := hm k o hk; have hr := h.mem k o0 hk0
  have hnm := sh _ (h2 k o hk) fun j hj => nm_thereO hr j (obLe_nm hle j hj)
  cases o with
  | x cs =>
   cases o0 with
   | x cs0 => obtain ⟨q1, q2, vs, T, q3, q4⟩ := hr; exact ⟨q1, q2, vs, T, q3, RelCs.same hm (cvLes_rel hle q4) hnm⟩
   | _ => exact hle.elim
  | r fr s T xs =>
   cases o0 with
   | r f0 s0 T0 xs0 =>
    obtain ⟨hf, rfl, rfl, rfl⟩ := hle; obtain ⟨q1, q2, q3, q4⟩ := hr; exact ⟨q1, q2.widen fun b hb _ => hb.le hf, q3, q4⟩
   | _ => exact hle.elim
  | m fr kk es =>
   cases o0 with
   | m f0 kk0 es0 =>
    obtain ⟨hf, rfl, rfl⟩ := hle; obtain ⟨q1, q2, ents, q3, q4, q5, q6⟩ := hr; exact ⟨q1, q2, ents, q3, q4, forall2_mono (fun _ _ r => r.widen fun b hb _ => hb.le hf) q5, q6⟩
   | _ => exact hle.elim
  | it fr mk rem la =>
   cases o0 with
   | it f0 mk0 rem0 la0 =>
    obtain ⟨hf, rfl, rfl, rfl⟩ := hle; obtain ⟨q1, q2, ⟨fr1, kk1, es1, q3⟩, ents, clock, seen, q4, q5, q6, q10⟩ := hr; obtain ⟨ob, q7⟩ := hnm mk (by simp [nmO]); obtain ⟨ob0, q8, q9⟩ := hm mk ob q7; rw [q3] at q8
    injection q8 with q8
    subst q8
    cases ob with
    | m f2 kk2 es2 => exact ⟨q1, q2, ⟨f2, kk2, es2, q7⟩, ents, clock, seen, q4, q5, forall2_mono (fun _ _ r => r.widen fun b hb _ => hb.le hf) q6, fun p hp => let ⟨e, he, h9, r⟩ := q10 p hp; ⟨e, he, h9, r.widen fun b hb _ => hb.le hf⟩⟩
    | _ => exact q9.elim
   | _ => exact hle.elim
  | g vs xs =>
   cases o0 with
   | g vs0 xs0 =>
    obtain ⟨rfl, rfl⟩ := hle; exact RelRs.same hm hr hnm
   | _ => exact hle.elim
 ·obtain ⟨o0, hk0, hle⟩ := hm k o hk; obtain ⟨o0', hk0', hle'⟩ := hm k' o' hk'
  have e : ∀ {j : Nat} {x y : Ob}, obLe x y → blk c j x = blk c j y := fun {j x y} h => by cases x <;> cases y <;> first | rfl | exact h.elim
  rw [e hle] at hb; rw [e hle']; exact h.dis k k' o0 o0' hne hk0 hk0' b hb
theorem le_sub {n : Nat} {f f' : Nat → SV} {m m' : Mem} (hf : ∀ t, t < n → svLe (f' t) (f t)) (hm : ∀ k ob, mat m' k = some ob → ∃ ob0, mat m k = some ob0 ∧ obLe ob ob0) (h1 : ∀ t, t < n → shutB m' (nmR (f' t)) = true) (h2 : ∀ k ob, mat m' k = some ob → shutB m' (nmO ob) = true)
  (h3 : ∀ k, 1000 ≤ k → (mat m k).isSome = true → (mat m' k).isSome = true) : Le ⟨n, f', m'⟩ ⟨n, f, m⟩ := fun _ _ _ ⟨c, h⟩ => ⟨c, h.sub hf hm h1 h2 h3⟩
theorem le_own {n : Nat} {f : Nat → SV} {m : Mem} (t k sz : Nat) (T : TypeId) (ht : f t = .c .nl) (hk : mat m k = none) (hsz : 0 < sz) : Le ⟨n, fset f t (.c (.r k 0)), (k, .r true sz T []) :: m⟩ ⟨n, f, m⟩ := by
 rintro w0 a w ⟨c, h⟩; have hx := new_row h hk hsz (f := true) (T := T) (xs := []) (.slice none 0 0) (Ext.refl w) (fun b hb => by cases hb) (Own.nil w _ _ _) (by simp); refine ⟨_, hx.n0, hx.ext, hx.df, hx.xl, hx.xo, hx.sz, fun t' ht' => ?_, hx.mem, hx.dis⟩
 show RelR _ _ w (a.tmps.getD t' undef) (fset f t (.c (.r k 0)) t')
 unfold fset
 by_cases e : t' = t
 ·subst e; rw [if_pos rfl]; have h1 : RelR c m w (a.tmps.getD t' undef) (f t') := h.sl t' ht'; rw [ht] at h1; have h1 : a.tmps.getD t' undef = .slice none 0 0 := h1; rw [h1]; exact ⟨true, sz, T, [], by simp [mat], Nat.le_refl _, fun _ => by simp, rfl⟩
 ·rw [if_neg e]; exact hx.sl t' ht'
theorem le_ownx {n : Nat} {f : Nat → SV} {m : Mem} (j i : Nat) {cs : List CV} (k sz : Nat) (T : TypeId) (hj : mat m j = some (.x cs)) (hi : cs[i]? = some .nl) (hk : mat m k = none) (hsz : 0 < sz) : Le ⟨n, f, mset ((k, .r true sz T []) :: m) j (.x (cs.set i (.r k 0)))⟩ ⟨n, f, m⟩ := by
 rintro w0 a w ⟨c, h⟩; have hx := new_row h hk hsz (f := true) (T := T) (xs := []) (.slice none 0 0) (Ext.refl w) (fun b hb => by cases hb) (Own.nil w _ _ _) (by simp)
 have hkj : k ≠ j := fun e => by subst e; rw [hk] at hj; cases hj
 have hj' : mat ((k, .r true sz T []) :: m) j = some (.x cs) := by simp [mat, hkj, hj]
 refine ⟨_, hx.upd (ob' := .x (cs.set i (.r k 0))) hj' (ρ' := fun j => if j = k then .slice none 0 0 else c.ρ j) (fun _ _ => rfl) trivial (fun _ _ _ _ _ _ _ _ e => by cases e) hx.ext (Nat.le_refl _) (fun _ _ _ => rfl) (fun b hb => .inl hb) fun hmon => ?_⟩; obtain ⟨q1, q2, vs, T', q3, q4⟩ := hx.mem j _ hj'; refine ⟨q1, q2, vs, T', q3, ?_⟩; have q5 := forall2_mono (fun _ _ => RelC.mon hmon) q4; have hil := (List.getElem?_eq_some_iff.1 hi).1; have hvl := forall2_len q5; have h1 := forall2_get q5 i (by omega) hil; rw [(List.getElem?_eq_some_iff.1 hi).2] at h1; have h1 : vs.toList[i] = .slice none 0 0 := h1
 have h2 : vs.toList = vs.toList.set i (.slice none 0 0) := by
  rw [← h1, List.set_getElem_self]
 rw [h2]; refine forall2_set i q5 ⟨true, sz, T, [], ?_, Nat.le_refl _, fun _ => by simp, rfl⟩; rw [mat_set_other hkj]; simp [mat]
end

end Go.Proofs.YtpkfjbljhneenaaGreat

namespace Go.Proofs.YtpkfjbljhneenaaGreat
open Go.RowKit

inductive D.Ok : D → Prop
 | i {k : IntKind} {n : Int} : k.min ≤ n → n ≤ k.max → D.Ok (.i k n)
 | b {x : Bool} : D.Ok (.b x)
 | s {x : ByteArray} : x.size ≤ maxLen → D.Ok (.s x)
 | l {xs : List (List D)} : xs.length ≤ maxLen → (∀ e ∈ xs, ∀ d ∈ e, D.Ok d) → D.Ok (.l xs)
 | p {T : TypeId} {ds : List D} : (∀ d ∈ ds, D.Ok d) → D.Ok (.p T ds)
 | np : D.Ok .np
theorem ok_i {k : IntKind} {n : Int} : D.Ok (.i k n) ↔ k.min ≤ n ∧ n ≤ k.max := ⟨fun h => by cases h; exact ⟨‹_›, ‹_›⟩, fun h => .i h.1 h.2⟩
theorem ok_l {xs : List (List D)} : D.Ok (.l xs) ↔ xs.length ≤ 9223372036854775807 ∧ ∀ e ∈ xs, ∀ d ∈ e, D.Ok d := ⟨fun h => by cases h; exact ⟨by simpa [maxLen] using ‹_›, ‹_›⟩, fun h => .l (by simpa [maxLen] using h.1) h.2⟩
def AD.Ok : AD → Prop
 | .c d => D.Ok d
 | .g ds => ∀ d ∈ ds, D.Ok d
def AD.rv : AD → SV
 | .c d => .c (toC false d)
 | .g ds => .g (ds.map (toC false))
def begS (args : List AD) (n : Nat) : AS := ⟨n, fun t => (args.map AD.rv).getD t .u, []⟩
def tellC (m : Mem) : CV → CV → Prop
 | .l f xs, .l f' ys => (f' = true → f = true) ∧ xs = ys
 | .d f T xs, .d f' U ys => (f' = true → f = true) ∧ T = U ∧ xs = ys
 | .nl, .l _ ys => ys = []
 | .r k n, .l f' ys => match mat m k with
  | some (.r f _ _ xs) => n = xs.length ∧ (f' = true → f = true) ∧ xs = ys
  | _ => False
 | .i k n, .i k' n' => k = k' ∧ n = n'
 | .b x, .b y => x = y
 | .s x, .s y => x = y
 | .nl, .nl => True
 | .np, .np => True
 | _, _ => False
def tellCs (m : Mem) : List CV → List CV → Prop
 | [], [] => True
 | x :: r, y :: s => tellC m x y ∧ tellCs m r s
 | _, _ => False
def tellA (m : Mem) : AV → AV → Prop
 | .c x, .c y => tellC m x y
 | .g cs, .g ds => tellCs m cs ds
 | _, _ => False
def tellAs (m : Mem) : List AV → List AV → Prop
 | [], [] => True
 | x :: r, y :: s => tellA m x y ∧ tellAs m r s
 | _, _ => False
def resK (P : Program) (S : AS) (K : AV → Prop) : ResultVar → Prop
 | .tmp t => match ez S (.tmp t) with
  | .c x => K (.c x)
  | .g cs => K (.g cs)
  | _ => False
 | .cell t T => match ez S (.tmp t), lyt P T with
  | .c (.p k 0), some (g, n) => match mat S.m k with
   | some (.x cs) => cs.length = n ∧ (if g then K (.g cs) else match cs with
    | [x] => K (.c x)
    | _ => False)
   | _ => False
  | _, _ => False
def resKs (P : Program) (S : AS) : List ResultVar → (List AV → Prop) → Prop
 | [], K => K []
 | v :: r, K => resK P S (fun x => resKs P S r fun xs => K (x :: xs)) v
def endK (P : Program) (rs : List ResultVar) (r : SV) (e : Exit) (S : AS) : Prop :=
 (match e with | .ret => True | .normal => True | _ => False) ∧ resKs P S rs fun xs => match xs, r with
  | [x], .c y => tellA S.m x (.c y)
  | [x], .g ys => tellA S.m x (.g ys)
  | xs, .t ys => xs.length ≠ 1 ∧ tellAs S.m xs ys
  | _, _ => False

section
variable {P : Program} {w0 : Beg} {S : AS} {a : Act} {w : World} {c : Cx}
def Cx.end_ (c : Cx) (X : Nat → Prop) (n0 sz : Nat) : Cx := ⟨fun _ => 0, fun _ => undef, fun b => X b ∨ n0 ≤ b ∧ b < sz, n0⟩
theorem tellC_rel {X : Nat → Prop} (h : RelX w0 c S a w) (hX : ∀ b, c.X b → X b ∨ c.n0 ≤ b ∧ b < w.heap.size) {v : Value} {x y : CV} (hx : RelC c S.m w v x) (ht : tellC S.m x y) : RelC (c.end_ X c.n0 w.heap.size) [] w v y := by
 have hY : ∀ {f f' : Bool}, (f' = true → f = true) → ∀ b, c.Y f b → (c.end_ X c.n0 w.heap.size).Y f' b := fun hf b hb => ⟨hX b hb.1, fun e => hb.2 (hf e)⟩
 unfold tellC at ht
 split at ht
 ·rename_i f xs f' ys
  obtain ⟨hf, rfl⟩ := ht
  exact Rp.widen hx fun b hb _ => hY hf b hb
 ·rename_i f T xs f' U ys
  obtain ⟨hf, rfl, rfl⟩ := ht
  exact Rp.widen hx fun b hb _ => hY hf b hb
 ·subst ht; have hx : v = .slice none 0 0 := hx; rw [hx]; exact Rp.of_sl (sz := 1) (by omega) (Sl.nil0 _ _ _)
 ·rename_i k n f' ys
  split at ht
  ·rename_i f s T xs hm
   obtain ⟨hn, hf, rfl⟩ := ht; obtain ⟨fr0, sz0, T0, xs0, h1, h2, h3, h4⟩ := hx; rw [hm] at h1
   injection h1 with h1
   injection h1 with e1 e2 e3 e4
   subst e1; subst e2; subst e3; subst e4
   obtain ⟨h5, h6, h7, h8⟩ := h.mem k _ hm; have hr := h6.row
   have h9 : Own s ED w (c.end_ X c.n0 w.heap.size).X c.n0 T (c.ρ k) xs := h6.widen fun b hb _ => hX b hb.1
   obtain ⟨ys, q1, q2⟩ := h6; rw [h3 hn]
   rcases q1.2 with ⟨e, hn0⟩ | ⟨g, cap', cur, hv, hbg, hg, hnc, hcm, hcs, htake⟩
   ·have : xs = [] := List.eq_nil_of_length_eq_zero hn0; subst this; rw [e]; exact Rp.of_sl h5 (Sl.nil0 _ _ _)
   ·rw [hv]; refine Rp.of_sl h5 (Sl.of_flat hnc hcm (Thaw.of_heap hg _ _) (q2.widen fun b hb _ => hY hf b hb.1) fun _ => ⟨g, 0, rfl, ⟨.inr ⟨hbg, lt_of_some hg⟩, fun _ => hbg⟩, fun j u hj => ?_⟩); have := q1.cells (g := g) (by rw [hv]; rfl) j u hj
    simpa [Addr.add_lit] using this
  ·exact ht.elim
 ·obtain ⟨rfl, rfl⟩ := ht; exact hx
 ·subst ht; exact hx
 ·subst ht; exact hx
 ·exact hx
 ·exact hx
 ·exact ht.elim
theorem tellCs_rel {X : Nat → Prop} (h : RelX w0 c S a w) (hX : ∀ b, c.X b → X b ∨ c.n0 ≤ b ∧ b < w.heap.size) : ∀ {vs : List Value} {xs ys : List CV}, F2 (RelC c S.m w) vs xs → tellCs S.m xs ys → F2 (RelC (c.end_ X c.n0 w.heap.size) [] w) vs ys
 | _, _, [], .nil, _ => .nil
 | _, _, _ :: _, .nil, ht => ht.elim
 | _, _, [], .cons _ _, ht => ht.elim
 | _, _, _ :: _, .cons h1 h2, ht => .cons (tellC_rel h hX h1 ht.1) (tellCs_rel h hX h2 ht.2)
theorem tellA_rel {X : Nat → Prop} (h : RelX w0 c S a w) (hX : ∀ b, c.X b → X b ∨ c.n0 ≤ b ∧ b < w.heap.size) {v : Value} {x y : AV} (hx : RelA c S.m w v x) (ht : tellA S.m x y) : RelA (c.end_ X c.n0 w.heap.size) [] w v y := by
 unfold tellA at ht
 split at ht
 ·exact tellC_rel h hX hx ht
 ·obtain ⟨vs, e, hx⟩ := hx; exact ⟨vs, e, tellCs_rel h hX hx ht⟩
 ·exact ht.elim
theorem tellAs_rel {X : Nat → Prop} (h : RelX w0 c S a w) (hX : ∀ b, c.X b → X b ∨ c.n0 ≤ b ∧ b < w.heap.size) : ∀ {vs : List Value} {xs ys : List AV}, F2 (RelA c S.m w) vs xs → tellAs S.m xs ys → F2 (RelA (c.end_ X c.n0 w.heap.size) [] w) vs ys
 | _, _, [], .nil, _ => .nil
 | _, _, _ :: _, .nil, ht => ht.elim
 | _, _, [], .cons _ _, ht => ht.elim
 | _, _, _ :: _, .cons h1 h2, ht => .cons (tellA_rel h hX h1 ht.1) (tellAs_rel h hX h2 ht.2)
def rv1 (tmps : Array Value) : ResultVar → Sem Value
 | .tmp t => pure (tmps.getD t undef)
 | .cell p t => do loadVar t (← asAddr (tmps.getD p undef))
theorem resK_rel (h : RelX w0 c S a w) {K : AV → Prop} {v : ResultVar} (hK : resK P S K v) : ∃ u x, (rv1 a.tmps v).run P w = .ok u w ∧ RelA c S.m w u x ∧ K x := by
 cases v with
 | tmp t =>
  have h1 := h.evs (.tmp t); have h2 : a.eval (.tmp t) = a.tmps.getD t undef := rfl; simp only [resK] at hK
  split at hK
  ·rename_i x hx
   rw [hx] at h1; exact ⟨_, .c x, rfl, h1, hK⟩
  ·rename_i cs hx
   rw [hx] at h1; exact ⟨_, .g cs, rfl, h1, hK⟩
  ·exact hK.elim
 | cell p T =>
  have h1 := h.evs (.tmp p); have h2 : a.eval (.tmp p) = a.tmps.getD p undef := rfl; simp only [resK] at hK
  split at hK
  ·rename_i k g n hx hl
   rw [hx] at h1; obtain ⟨h1, _⟩ := h1; rw [h2] at h1
   split at hK
   ·rename_i cs hm
    obtain ⟨hcl, hK⟩ := hK; obtain ⟨q1, q2, vs, T', q3, q4⟩ := h.mem k _ hm; have hvl := forall2_len q4; have hr := q3.range 0 n; rw [List.drop_zero, List.take_of_length_le (by omega)] at hr; obtain ⟨r1, r2⟩ := run_load_gen (P := P) (w := w) hl (c.β k) 0 vs.toList hr (by omega); simp only [Instr.loadAt, Instr.sureAddr, Sem.run_bind, Sem.run_pure, Result.andThen_ok] at r1 r2
    cases g with
    | true =>
     simp only [if_true] at hK; refine ⟨.agg vs, .g cs, ?_, ⟨vs, rfl, q4⟩, hK⟩; simp only [rv1, h1, asAddr, Sem.run_bind, Sem.run_pure, Result.andThen_ok, r1 rfl, Array.toArray_toList]
    | false =>
     simp only [Bool.false_eq_true, if_false] at hK
     split at hK
     ·rename_i x
      cases hv : vs.toList with
      | nil => rw [hv] at hvl; simp at hvl
      | cons u r =>
       rw [hv] at q4
       cases q4 with
       | cons q4 _ =>
        refine ⟨u, .c x, ?_, q4, hK⟩; simp only [rv1, h1, asAddr, Sem.run_bind, Sem.run_pure, Result.andThen_ok, r2 rfl u (by rw [hv]; rfl)]
     ·exact hK.elim
   ·exact hK.elim
  ·exact hK.elim
theorem resKs_rel (h : RelX w0 c S a w) : ∀ {rs : List ResultVar} {K : List AV → Prop}, resKs P S rs K → ∃ us xs, (rs.mapM (rv1 a.tmps)).run P w = .ok us w ∧ F2 (RelA c S.m w) us xs ∧ K xs
 | [], K, hK => ⟨[], [], by simp, .nil, hK⟩
 | v :: r, K, hK => by
  obtain ⟨u, x, h1, h2, h3⟩ := resK_rel h hK; obtain ⟨us, xs, h4, h5, h6⟩ := resKs_rel h h3; refine ⟨u :: us, x :: xs, ?_, .cons h2 h5, h6⟩; rw [List.mapM_cons]; simp only [Sem.run_bind, h1, h4, Result.andThen_ok, Sem.run_pure]
def oneV : List Value → Value
 | [u] => u
 | us => .tuple us.toArray
theorem res_rel (h : RelX w0 c S a w) {fn : Func} {K : List AV → Prop} (hK : resKs P S fn.results.toList K) : ∃ us xs, (results fn a.tmps).run P w = .ok (oneV us) w ∧ F2 (RelA c S.m w) us xs ∧ K xs := by
 obtain ⟨us, xs, h1, h2, h3⟩ := resKs_rel h hK; refine ⟨us, xs, ?_, h2, h3⟩
 show (do let vs ← fn.results.mapM (rv1 a.tmps); pure (if h : vs.size = 1 then vs[0] else .tuple vs) : Sem Value).run P w = _
 rw [Array.mapM_eq_mapM_toList]; simp only [Sem.run_bind, map_eq_pure_bind, h1, Result.andThen_ok, Sem.run_pure]
 congr 1
 match us with
 | [] => rfl
 | [u] => rfl
 | _ :: _ :: _ => simp [oneV]
theorem beg_rel {fn : Func} {args : List AD} {X : Nat → Prop} {vs : Array Value} (hn : args.length ≤ fn.ntmps) (hlay : Lay w) (hX : ∀ b, X b → b < w.heap.size) (hargs : F2 (RelD w X) vs.toList args) : RelX ⟨w, X, hlay⟩ ⟨fun _ => 0, fun _ => undef, X, w.heap.size⟩ (begS args fn.ntmps) { tmps := vs ++ Array.replicate (fn.ntmps - vs.size) undef, defers := [] } w := by
 have hal := forall2_len hargs; simp only [Array.length_toList] at hal; refine ⟨rfl, Ext.refl w, rfl, hX, fun b hb => .inl hb, by simp [begS]; omega, fun t ht => ?_, (fun k o hk => by cases hk), (fun k k' o o' _ hk => by cases hk)⟩
 show RelR _ [] w ((vs ++ Array.replicate (fn.ntmps - vs.size) undef).getD t undef) ((args.map AD.rv).getD t .u)
 by_cases hlt : t < vs.size
 ·have h1 : (vs ++ Array.replicate (fn.ntmps - vs.size) undef).getD t undef = vs.toList[t]'(by simpa using hlt) := by
   simp [Array.getD, Array.getElem_append, hlt, Nat.lt_add_right _ hlt]
  have h2 : (args.map AD.rv).getD t .u = (args[t]'(by omega)).rv := by simp [List.getD, show t < args.length by omega]
  rw [h1, h2]; have h3 := forall2_get hargs t (by simpa using hlt) (by omega)
  cases hd : args[t]'(by omega) with
  | c d =>
   rw [hd] at h3; exact toC_rel (c := ⟨fun _ => 0, fun _ => undef, X, w.heap.size⟩) (fr := false) (Rp.widen h3 fun b hb _ => ⟨hb, fun h => by cases h⟩)
  | g ds =>
   rw [hd] at h3; obtain ⟨us, e, h3⟩ := h3; exact ⟨us, e, F2.map (fun _ _ r => toC_rel (c := ⟨fun _ => 0, fun _ => undef, X, w.heap.size⟩) (fr := false) (Rp.widen r fun b hb _ => ⟨hb, fun h => by cases h⟩)) h3⟩
 ·have : (args.map AD.rv).getD t .u = .u := by simp [List.getD, List.getElem?_eq_none (show args.length ≤ t by omega)]
  rw [this]
  trivial
theorem Fn.intro {f : FuncId} {fn : Func} {cd : Code} {args : List AD} {r : SV} (hf : P.funcs[f]? = some fn) (hb : fn.body = some cd) (hn : args.length ≤ fn.ntmps)
  (h : SW P cd (endK P fn.results.toList r) (begS args fn.ntmps)) : Fn P f args r := by
 intro w X vs hlay hX hargs; refine calls_of_wp hf hb ?_; have hR := beg_rel (fn := fn) hn hlay hX hargs
 refine wp_mono (h ⟨w, X, hlay⟩ _ w ⟨_, hR⟩) fun e a' w' ⟨S', hE, c', hR'⟩ => ?_
 obtain ⟨he, hE⟩ := hE; obtain ⟨us, xs, h1, h2, h3⟩ := res_rel (fn := fn) hR' hE
 have hX' : ∀ b, c'.X b → X b ∨ c'.n0 ≤ b ∧ b < w'.heap.size := fun b hb => (hR'.xo b hb).imp id fun h => ⟨h, hR'.xl b hb⟩
 have hn0 : c'.n0 = w.heap.size := hR'.n0
 have hce : c'.end_ X c'.n0 w'.heap.size = ⟨fun _ => 0, fun _ => undef, fun b => X b ∨ w.heap.size ≤ b ∧ b < w'.heap.size, w.heap.size⟩ := by rw [hn0]; rfl
 have hres : RelR ⟨fun _ => 0, fun _ => undef, fun b => X b ∨ w.heap.size ≤ b ∧ b < w'.heap.size, w.heap.size⟩ [] w' (oneV us) r := by
  rw [← hce]
  split at h3
  ·cases h2 with
   | cons h2 hn => cases hn; exact tellA_rel hR' hX' h2 h3
  ·cases h2 with
   | cons h2 hn => cases hn; exact tellA_rel hR' hX' h2 h3
  ·obtain ⟨hl, h3⟩ := h3; have hul := forall2_len h2; have := tellAs_rel hR' hX' h2 h3
   match us with
   | [] => exact ⟨_, rfl, by simpa using this⟩
   | [u] => simp only [List.length_cons, List.length_nil] at hul; omega
   | u :: u' :: us => exact ⟨_, rfl, by simpa using this⟩
  ·exact h3.elim
 cases e with
 | ret => exact ⟨hR'.df, _, h1, _, rfl, hR'.ext, hres⟩
 | normal => exact ⟨hR'.df, _, h1, _, rfl, hR'.ext, hres⟩
 | exit id => exact he.elim
 | goto l => exact he.elim
 | panic ch => exact he.elim
 | outgrown => exact he.elim

def endR (rs : List ResultVar) (fr : Bool) (sz : Nat) (T : TypeId) (xs : List (List D)) (e : Exit) (S : AS) : Prop :=
 (match e with | .ret => True | .normal => True | _ => False) ∧ match rs with
  | [.tmp t] => match ez S (.tmp t) with
   | .c (.r k n) => n = xs.length ∧ match mat S.m k with
    | some (.r f s U ys) => (fr = true → f = true) ∧ s = sz ∧ U = T ∧ ys = xs
    | _ => False
   | _ => False
  | _ => False
def cvP (x y : CV) : Prop := nmC x = [] ∧ cvLe y x
def cvPs : List CV → List CV → Prop
 | [], [] => True
 | x :: r, y :: s => cvP x y ∧ cvPs r s
 | _, _ => False
def tellX : Nat → List CV → List CV → Prop
 | 0, _ :: r, y :: s => y = .u ∧ cvPs r s
 | i + 1, x :: r, y :: s => cvP x y ∧ tellX i r s
 | _, _, _ => False
def endSK (m : Mem) (zs cs : List CV) (i : Nat) (fr : Bool) (sz : Nat) (T : TypeId) (xs : List (List D)) : Prop :=
 tellX i zs cs ∧ match zs[i]? with
  | some (.r k n) => n = xs.length ∧ (match mat m k with
   | some (.r f s U ys) => (fr = true → f = true) ∧ s = sz ∧ U = T ∧ ys = xs
   | _ => False)
  | _ => False
def endS (P : Program) (rs : List ResultVar) (cs : List CV) (i : Nat) (fr : Bool) (sz : Nat) (T : TypeId) (xs : List (List D)) (e : Exit) (S : AS) : Prop :=
 (match e with | .ret => True | .normal => True | _ => False) ∧ resKs P S rs fun ys => match ys with
  | [.g zs] => endSK S.m zs cs i fr sz T xs
  | _ => False
theorem cvP_rel {c1 : Cx} {m : Mem} {v : Value} {x y : CV} (h : RelC c m w v x) (hp : cvP x y) (hY : ∀ f b, c.Y f b → c1.Y f b) : RelC c1 [] w v y := by
 have h1 := cvLe_rel hp.2 h
 have hn : ∀ k, k ∉ nmC y := fun k hk => by have := cvLe_nm hp.2 k hk; rw [hp.1] at this; cases this
 cases y with
 | i k n => exact h1
 | b x => exact h1
 | s x => exact h1
 | l fr xs => exact Rp.widen h1 fun b hb _ => hY _ b hb
 | d fr T ds => exact Rp.widen h1 fun b hb _ => hY _ b hb
 | nl => exact h1
 | np => exact h1
 | u => exact h1
 | nf => exact h1
 | nm => exact h1
 | f n ks =>
  obtain ⟨cap, h2, h3⟩ := h1
  cases ks with
  | nil => exact ⟨cap, h2, by cases hc : cap.toList with | nil => exact .nil | cons a r => rw [hc] at h3; cases h3⟩
  | cons a r => exact absurd (by simp [nmC]) (hn a.1)
 | p k o => exact absurd (by simp [nmC]) (hn k)
 | r k n => exact absurd (by simp [nmC]) (hn k)
 | m k => exact absurd (by simp [nmC]) (hn k)
 | t k => exact absurd (by simp [nmC]) (hn k)
theorem cvPs_rel {c1 : Cx} {m : Mem} (hY : ∀ f b, c.Y f b → c1.Y f b) : ∀ {vs : List Value} {xs ys : List CV}, F2 (RelC c m w) vs xs → cvPs xs ys → F2 (RelC c1 [] w) vs ys
 | _, [], [], .nil, _ => .nil
 | _, _ :: _, _ :: _, .cons h1 h2, h => .cons (cvP_rel h1 h.1 hY) (cvPs_rel hY h2 h.2)
theorem tellX_rel {c1 : Cx} {m : Mem} (hY : ∀ f b, c.Y f b → c1.Y f b) : ∀ {i : Nat} {vs : List Value} {xs ys : List CV}, F2 (RelC c m w) vs xs → tellX i xs ys → F2 (RelC c1 [] w) vs ys
 | 0, _, _ :: _, _ :: _, .cons h1 h2, h => .cons (by rw [h.1]; exact RelC.one h1) (cvPs_rel hY h2 h.2)
 | i + 1, _, _ :: _, _ :: _, .cons h1 h2, h => .cons (cvP_rel h1 h.1 hY) (tellX_rel hY h2 h.2)
theorem FnS.intro {f : FuncId} {fn : Func} {cd : Code} {args : List AD} {cs : List CV} {i : Nat} {fr : Bool} {sz : Nat} {T : TypeId} {xs : List (List D)} (hf : P.funcs[f]? = some fn) (hb : fn.body = some cd) (hn : args.length ≤ fn.ntmps)
  (h : SW P cd (endS P fn.results.toList cs i fr sz T xs) (begS args fn.ntmps)) : FnS P f args cs i fr sz T xs := by
 intro w X vs hlay hX hargs; refine calls_of_wp hf hb ?_; have hR := beg_rel (fn := fn) hn hlay hX hargs
 refine wp_mono (h ⟨w, X, hlay⟩ _ w ⟨_, hR⟩) fun e a' w' ⟨S', hE, c', hR'⟩ => ?_
 obtain ⟨he, hE⟩ := hE; have hn0 : c'.n0 = w.heap.size := hR'.n0; obtain ⟨us, ys, hres, hF, hK⟩ := res_rel hR' hE
 split at hK
 ·rename_i zs
  cases hF with
  | cons hF1 hF2 =>
   cases hF2
   rename_i u
   obtain ⟨ws, rfl, hz⟩ := hF1; obtain ⟨hT, hK⟩ := hK
   split at hK
   ·rename_i k n hzi
    obtain ⟨hnx, hK⟩ := hK
    split at hK
    ·rename_i f0 s0 U xs0 hm
     obtain ⟨h1, rfl, rfl, rfl⟩ := hK; obtain ⟨hlt, hze⟩ := List.getElem?_eq_some_iff.1 hzi; have hlen := forall2_len hz
     have hlw : i < ws.toList.length := by omega
     have h2 := forall2_get hz i hlw hlt; rw [hze] at h2; obtain ⟨f1, s1, T1, x1, h3, h4, h5, h6⟩ := h2; rw [hm] at h3
     injection h3 with h3
     injection h3 with e1 e2 e3 e4
     subst e1; subst e2; subst e3; subst e4
     obtain ⟨q1, q2, q3, q4⟩ := hR'.mem k _ hm; have hv : ws.toList[i] = c'.ρ k := h5 hnx
     have hfin : Ext w w' ∧ 0 < s0 ∧ (∀ e ∈ xs0, e.length = s0) ∧ Own s0 ED w' (fun b => (X b ∨ w.heap.size ≤ b ∧ b < w'.heap.size) ∧ (fr = true → w.heap.size ≤ b)) w.heap.size U ws.toList[i] xs0 ∧
       F2 (RelC ⟨fun _ => 0, fun _ => undef, fun b => (X b ∨ w.heap.size ≤ b ∧ b < w'.heap.size) ∧ ws.toList[i].ownBlock ≠ some b, w.heap.size⟩ [] w') ws.toList cs := by
      refine ⟨hR'.ext, q1, q4, ?_, tellX_rel (fun f b hb => ?_) hz hT⟩
      ·rw [hv, ← hn0]
       exact q2.widen fun b hb hl => ⟨(hR'.xo b hb.1).imp id fun h => ⟨h, hl⟩, fun e => hb.2 (h1 e)⟩
      ·refine ⟨⟨(hR'.xo b hb.1).imp id fun h => ⟨by rw [← hn0]; exact h, hR'.xl b hb.1⟩, fun e => q3 b (by rw [← hv]; exact e) hb.1⟩, fun e => ?_⟩
       rw [← hn0]; exact hb.2 e
     have hres' : (results fn a'.tmps).run P w' = .ok (.agg ws.toList.toArray) w' := by
      rw [hres]; simp [oneV]
     cases e with
     | ret => exact ⟨hR'.df, _, hres', ws.toList, hlw, rfl, hfin⟩
     | normal => exact ⟨hR'.df, _, hres', ws.toList, hlw, rfl, hfin⟩
     | exit id => exact he.elim
     | goto l => exact he.elim
     | panic ch => exact he.elim
     | outgrown => exact he.elim
    ·exact hK.elim
   ·exact hK.elim
 ·exact hK.elim
theorem Rp.ok {X : Nat → Prop} {v : Value} {d : D} (h : Rp w X v d) : D.Ok d := by
 induction h with
 | i h1 h2 => exact .i h1 h2
 | b => exact .b
 | s h => exact .s h
 | @l A b o c sz xs cv h0 h1 h2 h3 h4 h5 h6 h7 ih =>
  refine .l (Nat.le_trans h1 h2) fun e he d hd => ?_
  obtain ⟨i, hi, rfl⟩ := List.getElem_of_mem he; obtain ⟨j, hj, rfl⟩ := List.getElem_of_mem hd; exact ih i hi j hj
 | @p b T ds vs h1 h2 h3 h4 ih =>
  refine .p fun d hd => ?_
  obtain ⟨i, hi, rfl⟩ := List.getElem_of_mem hd; exact ih i hi
 | np => exact .np
theorem ED.ok {X : Nat → Prop} : ∀ {vs : List Value} {ds : List D}, ED w X vs ds → ∀ d ∈ ds, D.Ok d
 | _, _, .nil, d, hd => by cases hd
 | _, _, .cons h1 h2, d, hd => by
  rcases List.mem_cons.1 hd with rfl | hd
  ·exact Rp.ok h1
  ·exact ED.ok h2 d hd
theorem RelD.ok {X : Nat → Prop} {v : Value} {d : AD} (h : RelD w X v d) : AD.Ok d := by
 cases d with
 | c d => exact Rp.ok h
 | g ds => obtain ⟨vs, _, h⟩ := h; exact ED.ok h
theorem RelDs.ok {X : Nat → Prop} : ∀ {vs : List Value} {ds : List AD}, F2 (RelD w X) vs ds → ∀ d ∈ ds, AD.Ok d
 | _, _, .nil, d, hd => by cases hd
 | _, _, .cons h1 h2, d, hd => by
  rcases List.mem_cons.1 hd with rfl | hd
  ·exact RelD.ok h1
  ·exact RelDs.ok h2 d hd
theorem Fn.intro' {f : FuncId} {fn : Func} {cd : Code} {args : List AD} {r : SV} (hf : P.funcs[f]? = some fn) (rs : List ResultVar) (n : Nat) (h : (∀ d ∈ args, AD.Ok d) → SW P cd (endK P rs r) (begS args n)) (hb : fn.body = some cd := by rfl) (hr : fn.results.toList = rs := by rfl) (hnn : fn.ntmps = n := by rfl) (hn : args.length ≤ n := by simp) : Fn P f args r := fun w X vs hl hX hargs => Fn.intro hf hb (by rw [hnn]; exact hn) (by rw [hr, hnn]; exact h (RelDs.ok hargs)) w X vs hl hX hargs
theorem FnS.intro' {f : FuncId} {fn : Func} {cd : Code} {args : List AD} {cs : List CV} {i : Nat} {fr : Bool} {sz : Nat} {T : TypeId} {xs : List (List D)} (hf : P.funcs[f]? = some fn) (rs : List ResultVar) (n : Nat) (h : (∀ d ∈ args, AD.Ok d) → SW P cd (endS P rs cs i fr sz T xs) (begS args n)) (hb : fn.body = some cd := by rfl) (hr : fn.results.toList = rs := by rfl) (hnn : fn.ntmps = n := by rfl) (hn : args.length ≤ n := by simp) : FnS P f args cs i fr sz T xs := fun w X vs hl hX hargs => FnS.intro hf hb (by rw [hnn]; exact hn) (by rw [hr, hnn]; exact h (RelDs.ok hargs)) w X vs hl hX hargs
end

end Go.Proofs.YtpkfjbljhneenaaGreat
