/- Regions whose order is drawn (II): the machine's chain and the program's state in any order. No conditions. Regions whose order is drawn (III): every order that is allowed does what the machine does along the text. The condition: the program's orders are the mixed ones. -/
import Derived.Test.YtbgifiijjjoebaaGreatDoorGNamesBt
namespace Go.Proofs.YtbgifiijjjoebaaGreatDoor.Cm
open Go Go.RowKit

open Classical in
noncomputable def Fv {α : Type} (d : Nat → Option Nat) (L : Nat → Prop) (x : Nat → α) (z : Nat → α) : Nat → Nat → α
 | 0, t => z t
 | k + 1, t => if L k ∧ d k = some t then x k else Fv d L x z k t
theorem Fv_same {α : Type} {d : Nat → Option Nat} {L L' : Nat → Prop} {x z : Nat → α} {t : Nat} : ∀ n, (∀ k, k < n → d k = some t → (L k ↔ L' k)) → Fv d L x z n t = Fv d L' x z n t
 | 0, _ => rfl
 | n + 1, h => by
  have e : (L n ∧ d n = some t) ↔ (L' n ∧ d n = some t) := ⟨fun ⟨h1, h2⟩ => ⟨(h n (by omega) h2).1 h1, h2⟩, fun ⟨h1, h2⟩ => ⟨(h n (by omega) h2).2 h1, h2⟩⟩
  have ih := Fv_same (x := x) (z := z) n fun k hk => h k (by omega)
  by_cases hc : L n ∧ d n = some t
  ·rw [Fv, Fv, if_pos hc, if_pos (e.1 hc)]
  ·rw [Fv, Fv, if_neg hc, if_neg fun h => hc (e.2 h)]; exact ih
theorem Fv_read {α : Type} {d : Nat → Option Nat} {L : Nat → Prop} {x z : Nat → α} {t i : Nat} : ∀ n, i ≤ n → (∀ k, k < n → d k = some t → (L k ↔ k < i)) → Fv d L x z n t = Fv d (fun _ => True) x z i t
 | 0, hi, _ => by
  have : i = 0 := by omega
  subst this; rfl
 | n + 1, hi, h => by
  by_cases e : i = n + 1
  ·subst e
   exact Fv_same _ fun k hk hd => ⟨fun _ => trivial, fun _ => (h k hk hd).2 hk⟩
  ·have : ¬ (L n ∧ d n = some t) := fun ⟨h1, h2⟩ => by have := (h n (by omega) h2).1 h1; omega
   rw [Fv, if_neg this]
   exact Fv_read n (by omega) fun k hk => h k (by omega)
theorem Fv_put {α : Type} {d : Nat → Option Nat} {L : Nat → Prop} {x z : Nat → α} {t i : Nat} : ∀ n, i < n → (∀ k, i < k → k < n → L k → d i = some t → d k ≠ some t) → Fv d (fun k => L k ∨ k = i) x z n t = if d i = some t then x i else Fv d L x z n t
 | 0, hi, _ => by omega
 | n + 1, hi, h => by
  by_cases e : n = i
  ·subst e; rw [Fv]
   by_cases hd : d n = some t
   ·rw [if_pos ⟨.inr rfl, hd⟩, if_pos hd]
   ·rw [if_neg fun h => hd h.2, if_neg hd, Fv, if_neg fun h => hd h.2]
    exact Fv_same _ fun k hk _ => ⟨fun h => h.resolve_right (by omega), .inl⟩
  ·have ih := Fv_put (x := x) (z := z) (L := L) (d := d) (t := t) n (by omega) fun k h1 h2 => h k h1 (by omega)
   rw [Fv, Fv]
   by_cases hd : L n ∧ d n = some t
   ·rw [if_pos ⟨.inl hd.1, hd.2⟩, if_pos hd, if_neg fun hi2 => h n (by omega) (by omega) hd.1 hi2 hd.2]
   ·rw [if_neg (fun h => hd ⟨h.1.resolve_right e, h.2⟩), if_neg hd]; exact ih

theorem view_get {m : Mm} {j a : Nat} {k : Bp} {x : Ob} : ∀ {al : List Al}, (view m j al a).get k = some x → (∃ e ∈ al, e.k = k ∧ e.ob = x ∧ subB e.b a = true ∧ disB e.b j = true) ∨ m.get k = some x
 | [], h => .inr h
 | e :: al, h => by
  replace h : (bif subB e.b a && disB e.b j then (view m j al a).upd e.k (some e.ob) else view m j al a).get k = some x := h
  cases hb : (subB e.b a && disB e.b j) with
  | false =>
   rw [hb] at h
   rcases view_get (al := al) h with ⟨e', h1, h2⟩ | h1
   ·exact .inl ⟨e', List.mem_cons_of_mem _ h1, h2⟩
   ·exact .inr h1
  | true =>
   rw [hb] at h
   replace h : ((view m j al a).upd e.k (some e.ob)).get k = some x := h
   rw [get_upd] at h
   split at h
   ·rename_i hk
    injection h with h
    rw [Bool.and_eq_true] at hb; exact .inl ⟨e, List.mem_cons_self, hk.symm, h, hb.1, hb.2⟩
   ·rcases view_get (al := al) h with ⟨e', h1, h2⟩ | h1
    ·exact .inl ⟨e', List.mem_cons_of_mem _ h1, h2⟩
    ·exact .inr h1
theorem his_at {P : Program} {call : CallF} {o : Oper} {f : Fm} {c : Bp} {al : List Al} {a lm : Nat} {v : SV} : ∀ {h : List Hs}, hisB P call o f c al a lm v h = true → ∀ x ∈ h, subB (Nat.land a lm) x.l = true → sameV v (oneR (opF o.op P call f (view x.m x.j al a) c)) = true
 | [], _, x, hx, _ => by cases hx
 | y :: h, hh, x, hx, hs => by
  replace hh : (bif subB (Nat.land a lm) y.l then (bif sameV v (oneR (opF o.op P call f (view y.m y.j al a) c)) then hisB P call o f c al a lm v h else false) else hisB P call o f c al a lm v h) = true := hh
  rcases List.mem_cons.1 hx with rfl | hx
  ·rw [hs] at hh; exact (cond_and hh).1
  ·cases hb : subB (Nat.land a lm) y.l with
   | false => rw [hb] at hh; exact his_at hh x hx hs
   | true => rw [hb] at hh; exact his_at (cond_and hh).2 x hx hs
theorem re_at {P : Program} {call : CallF} {m : Mm} {j : Nat} {c : Bp} {al : List Al} {a : Nat} : ∀ {q : List Qs}, reB P call m j c al a q = true → ∀ x ∈ q, subB x.b a = false → sameV x.v (oneR (opF x.o.op P call x.f (view m j al x.a) c)) = true
 | [], _, x, hx, _ => by cases hx
 | y :: q, hh, x, hx, hs => by
  replace hh : (bif subB y.b a then reB P call m j c al a q else (bif sameV y.v (oneR (opF y.o.op P call y.f (view m j al y.a) c)) then reB P call m j c al a q else false)) = true := hh
  rcases List.mem_cons.1 hx with rfl | hx
  ·rw [hs] at hh; exact (cond_and hh).1
  ·cases hb : subB y.b a with
   | true => rw [hb] at hh; exact re_at hh x hx hs
   | false => rw [hb] at hh; exact re_at (cond_and hh).2 x hx hs
theorem oneR_is {R : Res} {r : Rt} (h : oneR R = some r) : R = .one r := by
 unfold oneR at h
 split at h
 ·injection h with h; subst h; rfl
 ·cases h
theorem sameV_is {v : SV} {R : Res} (h : sameV v (oneR R) = true) : ∃ r, R = .one r ∧ r.v = v := by
 cases hr : oneR R with
 | none => rw [hr] at h; cases h
 | some r => rw [hr] at h; exact ⟨r, oneR_is hr, (svB_eq h).symm⟩
theorem nlt_cons {N k : Bp} {l : List Bp} (h : nltB N (k :: l) = true) : k.val < N.val ∧ nltB N l = true := by
 obtain ⟨h1, h2⟩ := cond_and (show (bif Nat.blt (bpN k) (bpN N) then nltB N l else false) = true from h); rw [bpN_val, bpN_val] at h1; exact ⟨by simpa [Nat.blt_eq] using h1, h2⟩
section
variable {c : Cx} {N N0 : Bp}
theorem low_C {v : Value} {x : CV} {r : List Bp} (h : RC c N v x) (hn : nltB N0 (nmC x r) = true) : RC c N0 v x ∧ nltB N0 r = true := by
 cases x with
 | p k o => obtain ⟨h1, h2⟩ := nlt_cons hn; exact ⟨⟨⟨h1, h.1.2⟩, h.2⟩, h2⟩
 | sl k o n q => obtain ⟨h1, h2⟩ := nlt_cons hn; exact ⟨⟨⟨h1, h.1.2⟩, h.2⟩, h2⟩
 | st k o n es => obtain ⟨h1, h2⟩ := nlt_cons hn; exact ⟨⟨⟨h1, h.1.2⟩, h.2⟩, h2⟩
 | m k => obtain ⟨h1, h2⟩ := nlt_cons hn; exact ⟨⟨⟨h1, h.1.2⟩, h.2⟩, h2⟩
 | f n ks =>
  obtain ⟨cap, e, hc⟩ := h
  have key : ∀ {cap : List Value} {ks : List (Bp × Nat)}, F2 (fun u p => Lv c N p.1 ∧ u = .pointer (some ⟨c.b p.1, p.2, none⟩)) cap ks → nltB N0 (ks.map (·.1) ++ r) = true → F2 (fun u p => Lv c N0 p.1 ∧ u = .pointer (some ⟨c.b p.1, p.2, none⟩)) cap ks ∧ nltB N0 r = true := by
   intro cap ks hc
   induction hc with
   | nil => intro hn; exact ⟨.nil, hn⟩
   | cons h1 _ ih =>
    intro hn; obtain ⟨q1, q2⟩ := nlt_cons hn; obtain ⟨q3, q4⟩ := ih q2; exact ⟨.cons ⟨⟨q1, h1.1.2⟩, h1.2⟩ q3, q4⟩
  obtain ⟨q1, q2⟩ := key hc hn; exact ⟨⟨cap, e, q1⟩, q2⟩
 | i k n => exact ⟨h, hn⟩
 | b x => exact ⟨h, hn⟩
 | s l => exact ⟨h, hn⟩
 | np => exact ⟨h, hn⟩
 | nl => exact ⟨h, hn⟩
 | nm => exact ⟨h, hn⟩
 | nf => exact ⟨h, hn⟩
 | u => exact ⟨h, hn⟩
theorem low_L {r : List Bp} : ∀ {vs : List Value} {xs : List CV}, F2 (RC c N) vs xs → nltB N0 (nmL xs r) = true → F2 (RC c N0) vs xs ∧ nltB N0 r = true
 | _, _, .nil, hn => ⟨.nil, hn⟩
 | _, _, .cons h1 h2, hn => by
  obtain ⟨q1, q2⟩ := low_C h1 hn; obtain ⟨q3, q4⟩ := low_L h2 q2; exact ⟨.cons q1 q3, q4⟩
theorem low_A {v : Value} {x : AV} {r : List Bp} (h : RA c N v x) (hn : nltB N0 (nmA x r) = true) : RA c N0 v x ∧ nltB N0 r = true := by
 cases x with
 | c x => exact low_C h hn
 | g l =>
  obtain ⟨vs, e, h⟩ := h; obtain ⟨q1, q2⟩ := low_L h hn; exact ⟨⟨vs, e, q1⟩, q2⟩
theorem low_S {v : Value} {x : SV} {r : List Bp} (h : RS c N v x) (hn : nltB N0 (nmS x r) = true) : RS c N0 v x := by
 cases x with
 | c x => exact (low_C h hn).1
 | g l =>
  obtain ⟨vs, e, h⟩ := h; exact ⟨vs, e, (low_L h hn).1⟩
 | t xs =>
  obtain ⟨vs, e, h⟩ := h; refine ⟨vs, e, ?_⟩
  have key : ∀ {vs : List Value} {xs : List AV}, F2 (RA c N) vs xs → nltB N0 (nmS (.t xs) r) = true → F2 (RA c N0) vs xs := by
   intro vs xs h
   induction h with
   | nil => intro _; exact .nil
   | cons h1 _ ih =>
    intro hn; obtain ⟨q1, q2⟩ := low_A h1 hn; exact .cons q1 (ih q2)
  exact key h hn
 | u => trivial
 | k => exact h
end

section
variable {P : Program} {call : CallF} {ops : Array Oper} {T : Nat → Dr} {kd : Nat → Nat} {rv : Nat → SV} {ob : Nat → Ob}
noncomputable def anc (ops : Array Oper) (k : Nat) : Nat := (ancs ops.toList).getD k 0
structure Ch (P : Program) (call : CallF) (ops : Array Oper) (T : Nat → Dr) (kd : Nat → Nat) (rv : Nat → SV) (ob : Nat → Ob) (S0 : St) : Prop where
 z : T 0 = ⟨S0, 0, 0, 0, [], [], []⟩
 step : ∀ k o, ops[k]? = some o → StepD P call ops o (Nat.shiftLeft 1 k) (anc ops k) (T k) (T (k + 1)) (kd k) (rv k) (ob k)
variable {S0 : St}
theorem Ch.at (h : Ch P call ops T kd rv ob S0) {k : Nat} (hk : k < ops.size) : ∃ o D' q v x, ops[k]? = some o ∧ T (k + 1) = D' ∧ kd k = q ∧ rv k = v ∧ ob k = x ∧ StepD P call ops o (Nat.shiftLeft 1 k) (anc ops k) (T k) D' q v x := ⟨ops[k], _, _, _, _, Array.getElem?_eq_getElem hk, rfl, rfl, rfl, rfl, h.step k _ (Array.getElem?_eq_getElem hk)⟩
theorem Ch.c1 (h : Ch P call ops T kd rv ob S0) {k : Nat} (hk : k < ops.size) : (T k).S.c.val ≤ (T (k + 1)).S.c.val := by
 obtain ⟨o, D', q, v, x, ho, hD, hq, hv, hx, hs⟩ := h.at hk; rw [hD]
 cases hs with
 | sk _ => exact Nat.le_refl _
 | pu _ _ _ => exact Nat.le_refl _
 | rd _ _ _ _ _ => exact Nat.le_refl _
 | al _ _ _ h4 => exact Nat.le_of_lt h4
 | ld _ _ _ h4 _ => exact h4
theorem Ch.mono (h : Ch P call ops T kd rv ob S0) {k : Nat} : ∀ {q : Nat}, k ≤ q → q ≤ ops.size → (T k).S.c.val ≤ (T q).S.c.val
 | 0, h1, _ => by
  have : k = 0 := by omega
  subst this; exact Nat.le_refl _
 | q + 1, h1, h2 => by
  by_cases e : k = q + 1
  ·subst e; exact Nat.le_refl _
  ·exact Nat.le_trans (Ch.mono h (by omega) (by omega)) (h.c1 (by omega))
theorem Ch.still1 (h : Ch P call ops T kd rv ob S0) {k : Nat} (hk : k < ops.size) (hn : kd k ≠ 3) : (T (k + 1)).S.m = (T k).S.m ∧ (T (k + 1)).j = (T k).j ∧ (T (k + 1)).l = (T k).l := by
 obtain ⟨o, D', q, v, x, ho, hD, hq, hv, hx, hs⟩ := h.at hk; rw [hD]
 cases hs with
 | sk _ => exact ⟨rfl, rfl, rfl⟩
 | pu _ _ _ => exact ⟨rfl, rfl, rfl⟩
 | rd _ _ _ _ _ => exact ⟨rfl, rfl, rfl⟩
 | al _ _ _ h4 => exact ⟨rfl, rfl, rfl⟩
 | ld _ _ _ h4 _ => exact absurd hq hn
theorem Ch.still (h : Ch P call ops T kd rv ob S0) {k : Nat} : ∀ {q : Nat}, k ≤ q → q ≤ ops.size → (∀ i, k ≤ i → i < q → kd i ≠ 3) → (T q).S.m = (T k).S.m ∧ (T q).j = (T k).j ∧ (T q).l = (T k).l
 | 0, h1, _, _ => by
  have : k = 0 := by omega
  subst this; exact ⟨rfl, rfl, rfl⟩
 | q + 1, h1, h2, hn => by
  by_cases e : k = q + 1
  ·subst e; exact ⟨rfl, rfl, rfl⟩
  ·obtain ⟨a1, a2, a3⟩ := Ch.still h (q := q) (by omega) (by omega) fun i hi hq => hn i hi (by omega)
   obtain ⟨b1, b2, b3⟩ := h.still1 (k := q) (by omega) (hn q (by omega) (by omega)); exact ⟨b1.trans a1, b2.trans a2, b3.trans a3⟩
theorem Ch.l_bit (h : Ch P call ops T kd rv ob S0) : ∀ {k i : Nat}, k ≤ ops.size → ((T k).l.testBit i = true ↔ i < k ∧ kd i = 3)
 | 0, i, _ => by rw [h.z]; simp
 | k + 1, i, hk => by
  have ih := Ch.l_bit h (k := k) (i := i) (by omega); obtain ⟨o, D', q, v, x, ho, hD, hq, hv, hx, hs⟩ := h.at (k := k) (by omega)
  have no : kd k ≠ 3 → (T (k + 1)).l = (T k).l → ((T (k + 1)).l.testBit i = true ↔ i < k + 1 ∧ kd i = 3) := fun h1 h2 => by
   rw [h2, ih]; refine ⟨fun ⟨q1, q2⟩ => ⟨by omega, q2⟩, fun ⟨q1, q2⟩ => ⟨?_, q2⟩⟩
   have : i ≠ k := fun e => h1 (by rw [← e]; exact q2)
   omega
  by_cases h3 : kd k = 3
  ·rw [hD]
   cases hs with
   | ld _ _ _ _ _ =>
    show (Nat.lor (T k).l (Nat.shiftLeft 1 k)).testBit i = true ↔ _
    rw [lor_bit, shl_bit, Bool.or_eq_true, ih, decide_eq_true_iff]
    constructor
    ·rintro (⟨q1, q2⟩ | rfl)
     ·exact ⟨by omega, q2⟩
     ·exact ⟨by omega, h3⟩
    ·rintro ⟨q1, q2⟩
     by_cases e : i = k
     ·exact .inr e
     ·exact .inl ⟨by omega, q2⟩
   | _ => rw [h3] at hq; cases hq
  ·exact no h3 (h.still1 (by omega) h3).2.2
theorem Ch.am_bit (h : Ch P call ops T kd rv ob S0) : ∀ {k i : Nat}, k ≤ ops.size → ((T k).am.testBit i = true ↔ i < k ∧ kd i = 2)
 | 0, i, _ => by rw [h.z]; simp
 | k + 1, i, hk => by
  have ih := Ch.am_bit h (k := k) (i := i) (by omega); obtain ⟨o, D', q, v, x, ho, hD, hq, hv, hx, hs⟩ := h.at (k := k) (by omega)
  have no : kd k ≠ 2 → (T (k + 1)).am = (T k).am → ((T (k + 1)).am.testBit i = true ↔ i < k + 1 ∧ kd i = 2) := fun h1 h2 => by
   rw [h2, ih]; refine ⟨fun ⟨q1, q2⟩ => ⟨by omega, q2⟩, fun ⟨q1, q2⟩ => ⟨?_, q2⟩⟩
   have : i ≠ k := fun e => h1 (by rw [← e]; exact q2)
   omega
  rw [hD] at no ⊢
  cases hs with
  | al _ _ _ _ =>
   show (Nat.lor (T k).am (Nat.shiftLeft 1 k)).testBit i = true ↔ _
   rw [lor_bit, shl_bit, Bool.or_eq_true, ih, decide_eq_true_iff]
   constructor
   ·rintro (⟨q1, q2⟩ | rfl)
    ·exact ⟨by omega, q2⟩
    ·exact ⟨by omega, hq⟩
   ·rintro ⟨q1, q2⟩
    by_cases e : i = k
    ·exact .inr e
    ·exact .inl ⟨by omega, q2⟩
  | _ => exact no (by rw [hq]; simp) rfl
theorem Ch.al_mem (h : Ch P call ops T kd rv ob S0) : ∀ {k : Nat}, k ≤ ops.size → ∀ e ∈ (T k).al, ∃ i, i < k ∧ kd i = 2 ∧ e = ⟨Nat.shiftLeft 1 i, (T i).S.c, ob i⟩
 | 0, _ => by rw [h.z]; intro e he; cases he
 | k + 1, hk => by
  have ih := Ch.al_mem h (k := k) (by omega); obtain ⟨o, D', q, v, x, ho, hD, hq, hv, hx, hs⟩ := h.at (k := k) (by omega)
  have no : (T (k + 1)).al = (T k).al → ∀ e ∈ (T (k + 1)).al, ∃ i, i < k + 1 ∧ kd i = 2 ∧ e = ⟨Nat.shiftLeft 1 i, (T i).S.c, ob i⟩ := fun h2 e he => by
   rw [h2] at he; obtain ⟨i, q1, q2⟩ := ih e he; exact ⟨i, by omega, q2⟩
  rw [hD] at no ⊢
  cases hs with
  | al _ _ _ _ =>
   intro e he
   rcases List.mem_cons.1 he with rfl | he
   ·exact ⟨k, by omega, hq, by rw [hx]⟩
   ·obtain ⟨i, q1, q2⟩ := ih e he; exact ⟨i, by omega, q2⟩
  | _ => exact no rfl
theorem Ch.h_mem (h : Ch P call ops T kd rv ob S0) {i : Nat} (hi : kd i = 3) : ∀ {k : Nat}, i < k → k ≤ ops.size → (⟨(T i).S.m, (T i).j, (T i).l⟩ : Hs) ∈ (T k).h
 | 0, h1, _ => by omega
 | k + 1, h1, hk => by
  obtain ⟨o, D', q, v, x, ho, hD, hq, hv, hx, hs⟩ := h.at (k := k) (by omega)
  have ih : i < k → (⟨(T i).S.m, (T i).j, (T i).l⟩ : Hs) ∈ (T k).h := fun hik => Ch.h_mem h hi (k := k) hik (by omega)
  rw [hD]
  have ne : q ≠ 3 → i < k := fun hn => by
   have : i ≠ k := fun e => by subst e; rw [hi] at hq; exact hn hq.symm
   omega
  cases hs with
  | sk _ => exact ih (ne (by simp))
  | pu _ _ _ => exact ih (ne (by simp))
  | rd _ _ _ _ _ => exact ih (ne (by simp))
  | al _ _ _ _ => exact ih (ne (by simp))
  | ld _ _ _ _ _ =>
   by_cases e : i = k
   ·subst e; exact List.mem_cons_self
   ·exact List.mem_cons_of_mem _ (ih (by omega))
theorem Ch.q_mem (h : Ch P call ops T kd rv ob S0) {i : Nat} {o : Oper} (ho : ops[i]? = some o) (hi : kd i = 1) : ∀ {k : Nat}, i < k → k ≤ ops.size → (⟨o, (T i).S.f, Nat.shiftLeft 1 i, anc ops i, rv i⟩ : Qs) ∈ (T k).q
 | 0, h1, _ => by omega
 | k + 1, h1, hk => by
  obtain ⟨o', D', q, v, x, ho', hD, hq, hv, hx, hs⟩ := h.at (k := k) (by omega)
  have ih : i < k → (⟨o, (T i).S.f, Nat.shiftLeft 1 i, anc ops i, rv i⟩ : Qs) ∈ (T k).q := fun hik => Ch.q_mem h ho hi (k := k) hik (by omega)
  rw [hD]
  have ne : q ≠ 1 → i < k := fun hn => by
   have : i ≠ k := fun e => by subst e; rw [hi] at hq; exact hn hq.symm
   omega
  cases hs with
  | sk _ => exact ih (ne (by simp))
  | pu _ _ _ => exact ih (ne (by simp))
  | al _ _ _ _ => exact ih (ne (by simp))
  | ld _ _ _ _ _ => exact ih (ne (by simp))
  | rd _ _ _ _ _ =>
   by_cases e : i = k
   ·subst e; rw [ho] at ho'
    injection ho' with ho'
    subst ho'; rw [hv]; exact List.mem_cons_self
   ·exact List.mem_cons_of_mem _ (ih (by omega))
theorem Ch.f_get (h : Ch P call ops T kd rv ob S0) (t : Nat) : ∀ {k : Nat}, k ≤ ops.size → (T k).S.f.get t = Fv (dstA ops) (fun _ => True) rv S0.f.get k t
 | 0, _ => by rw [h.z]; rfl
 | k + 1, hk => by
  obtain ⟨o, D', q, v, x, ho, hD, hq, hv, hx, hs⟩ := h.at (k := k) (by omega); have ih := Ch.f_get h t (k := k) (by omega)
  have hd : dstA ops k = o.dst := by unfold dstA; rw [ho]; rfl
  have key : (T (k + 1)).S.f = put (T k).S.f o.dst (rv k) := by
   rw [hD, hv]
   cases hs <;> rfl
  rw [key, get_put, Fv, hd, ih]; simp
end
end Go.Proofs.YtbgifiijjjoebaaGreatDoor.Cm

namespace Go.Proofs.YtbgifiijjjoebaaGreatDoor.Cm
open Go Go.RowKit

abbrev Pm := Bp → Ob → Bp → Prop
structure PR (c : Cx) (M : Pm) (w : World) : Prop where
 old : ∀ k x th, M k x th → Lv c th k
 ob : ∀ k x th, M k x th → RO c th w k x
 inj : ∀ k j x y th th', M k x th → M j y th' → c.b k = c.b j → k = j
structure PF (c0 : Cx) (N0 : Bp) (m0 : Mm) (w0 : World) (c : Cx) (M : Pm) (w : World) : Prop where
 mon : Mon c0 N0 c N0
 os : w.os = w0.os
 tape : w.tape = w0.tape
 output : w.output = w0.output
 size : w0.heap.size ≤ w.heap.size
 blk : ∀ b, b < w0.heap.size → (∀ k ob, m0.get k = some ob → c0.b k ≠ b) → w.heap[b]? = w0.heap[b]?
 own : ∀ k x th, M k x th → (∃ j y, m0.get j = some y ∧ c0.b j = c.b k) ∨ w0.heap.size ≤ c.b k
 tb : ∀ k, k.val < N0.val → c.t k → c0.t k
def Keep (c c' : Cx) : Prop := ∀ k, c.t k → c'.b k = c.b k ∧ c'.s k = c.s k ∧ c'.t k
theorem Keep.mon {c c' : Cx} (h : Keep c c') {N N' : Bp} (hn : N.val ≤ N'.val) : Mon c N c' N' := ⟨hn, fun k hk => (h k hk.2).1, fun k hk => (h k hk.2).2.1, fun k hk => (h k hk.2).2.2⟩
theorem Keep.refl (c : Cx) : Keep c c := fun _ h => ⟨rfl, rfl, h⟩
section
variable {c c' c'' c0 : Cx} {N0 N1 N2 N : Bp} {m0 m1 m2 : Mm} {M M' : Pm} {w w' w0 : World}
theorem PR.toMR (h : PR c M w) (hs : ∀ k x, m1.get k = some x → ∃ th, M k x th ∧ th.val ≤ N.val) : MR c N m1 w :=
 ⟨fun k x hk => (let ⟨th, h1, h2⟩ := hs k x hk; (h.old k x th h1).mon ((Keep.refl c).mon h2)), fun k x hk => (let ⟨th, h1, h2⟩ := hs k x hk; RO.mon ((Keep.refl c).mon h2) (h.old k x th h1) rfl (h.ob k x th h1)),
  fun k j x y hk hj e => (let ⟨th, h1, _⟩ := hs k x hk; let ⟨th', h1', _⟩ := hs j y hj; h.inj k j x y th th' h1 h1' e)⟩
theorem PR.sub (h : PR c M w) (hs : ∀ k x th, M' k x th → M k x th) : PR c M' w := ⟨fun k x th hk => h.old k x th (hs k x th hk), fun k x th hk => h.ob k x th (hs k x th hk), fun k j x y th th' hk hj => h.inj k j x y th th' (hs _ _ _ hk) (hs _ _ _ hj)⟩
theorem PF.sub (h : PF c0 N0 m0 w0 c M w) (hs : ∀ k x th, M' k x th → M k x th) : PF c0 N0 m0 w0 c M' w := ⟨h.mon, h.os, h.tape, h.output, h.size, h.blk, fun k x th hk => h.own k x th (hs _ _ _ hk), h.tb⟩
theorem PR.rest (h : PR c M w) (hs : ∀ k x, m1.get k = some x → ∃ th, M k x th) (f : Fr c N1 m1 w c' N2 m2 w') (r : MR c' N2 m2 w') (keep : Keep c c'') (up : Mon c' N2 c'' N2)
  (hm : ∀ k x th, M' k x th → (m2.get k = some x ∧ th = N2) ∨ (M k x th ∧ m1.get k = none)) : PR c'' M' w' := by
 have hb : ∀ k x th, m1.get k = none → M k x th → w'.heap[c.b k]? = w.heap[c.b k]? := fun k x th h1 h2 => by
  refine f.blk _ (h.ob k x th h2).there fun j y hj e => ?_
  obtain ⟨th', hj'⟩ := hs j y hj; have := h.inj j k y x th' th hj' h2 e; subst this
  rw [hj] at h1; cases h1
 have hx : ∀ k x th j y, m1.get k = none → M k x th → m2.get j = some y → c.b k ≠ c'.b j := fun k x th j y h1 h2 hj e => by
  rcases f.own j y hj with ⟨i, z, hi, e2⟩ | h3
  ·obtain ⟨th', hi'⟩ := hs i z hi; have := h.inj k i x z th th' h2 hi' (e.trans e2.symm); subst this
   rw [hi] at h1; cases h1
  ·have := (h.ob k x th h2).there
   omega
 refine ⟨fun k x th hk => ?_, fun k x th hk => ?_, fun k j x y th th' hk hj e => ?_⟩
 ·rcases hm k x th hk with ⟨h1, rfl⟩ | ⟨h1, h2⟩
  ·exact (r.old k x h1).mon up
  ·exact (h.old k x th h1).mon (keep.mon (Nat.le_refl _))
 ·rcases hm k x th hk with ⟨h1, rfl⟩ | ⟨h1, h2⟩
  ·exact RO.mon up (r.old k x h1) rfl (r.ob k x h1)
  ·exact RO.mon (keep.mon (Nat.le_refl _)) (h.old k x th h1) (hb k x th h2 h1) (h.ob k x th h1)
 ·rcases hm k x th hk with ⟨h1, rfl⟩ | ⟨h1, h2⟩
  ·rcases hm j y th' hj with ⟨g1, rfl⟩ | ⟨g1, g2⟩
   ·exact r.inj k j x y h1 g1 ((up.b k (r.old k x h1)).symm.trans (e.trans (up.b j (r.old j y g1))))
   ·exact absurd ((keep j (h.old j y th' g1).2).1.symm.trans (e.symm.trans (up.b k (r.old k x h1)))) (hx j y th' k x g2 g1 h1)
  ·rcases hm j y th' hj with ⟨g1, rfl⟩ | ⟨g1, g2⟩
   ·exact absurd ((keep k (h.old k x th h1).2).1.symm.trans (e.trans (up.b j (r.old j y g1)))) (hx k x th j y h2 h1 g1)
   ·exact h.inj k j x y th th' h1 g1 ((keep k (h.old k x th h1).2).1.symm.trans (e.trans (keep j (h.old j y th' g1).2).1))
theorem PF.rest (h : PR c M w) (pf : PF c0 N0 m0 w0 c M w) (hs : ∀ k x, m1.get k = some x → ∃ th, M k x th) (f : Fr c N1 m1 w c' N2 m2 w') (r : MR c' N2 m2 w') (keep : Keep c c'') (up : Mon c' N2 c'' N2) (tb : ∀ k, k.val < N0.val → c''.t k → c.t k)
  (hm : ∀ k x th, M' k x th → (m2.get k = some x ∧ th = N2) ∨ (M k x th ∧ m1.get k = none)) : PF c0 N0 m0 w0 c'' M' w' := by
 refine ⟨pf.mon.trans (keep.mon (Nat.le_refl _)), f.os.trans pf.os, f.tape.trans pf.tape, f.output.trans pf.output, Nat.le_trans pf.size f.size, fun b hb hn => ?_, fun k x th hk => ?_, fun k hk ht => pf.tb k hk (tb k hk ht)⟩
 ·refine (f.blk b (Nat.lt_of_lt_of_le hb pf.size) fun k y hk e => ?_).trans (pf.blk b hb hn); obtain ⟨th, hk'⟩ := hs k y hk
  rcases pf.own k y th hk' with ⟨j, z, hj, e2⟩ | h2
  ·exact hn j z hj (e2.trans e)
  ·omega
 ·rcases hm k x th hk with ⟨h1, rfl⟩ | ⟨h1, h2⟩
  ·rw [up.b k (r.old k x h1)]
   rcases f.own k x h1 with ⟨i, y, hi, e⟩ | h3
   ·obtain ⟨th', hi'⟩ := hs i y hi
    rcases pf.own i y th' hi' with ⟨j, z, hj, e2⟩ | h2
    ·exact .inl ⟨j, z, hj, e2.trans e⟩
    ·exact .inr (by omega)
   ·exact .inr (Nat.le_trans pf.size h3)
  ·rw [(keep k (h.old k x th h1).2).1]; exact pf.own k x th h1
noncomputable def merge (c c' : Cx) (lo hi : Bp) : Cx := ⟨fun k => if lo.val ≤ k.val ∧ k.val < hi.val then c'.b k else c.b k, fun k => if lo.val ≤ k.val ∧ k.val < hi.val then c'.s k else c.s k, fun k => if lo.val ≤ k.val ∧ k.val < hi.val then c'.t k else c.t k⟩
theorem merge_keep {lo hi : Bp} (hd : ∀ k : Bp, lo.val ≤ k.val → k.val < hi.val → ¬ c.t k) : Keep c (merge c c' lo hi) := fun k hk => by
 have : ¬ (lo.val ≤ k.val ∧ k.val < hi.val) := fun h => hd k h.1 h.2 hk
 simp only [merge, if_neg this, true_and]; exact hk
theorem merge_up {lo hi : Bp} (f : Fr c lo m1 w c' hi m2 w') : Mon c' hi (merge c c' lo hi) hi := by
 have key : ∀ k, Lv c' hi k → ¬ (lo.val ≤ k.val ∧ k.val < hi.val) → k.val < lo.val ∧ c.t k := fun k hk hn => by
  have hlt : k.val < lo.val := by
   have := hk.1
   omega
  exact ⟨hlt, f.tb k hlt hk.2⟩
 refine ⟨Nat.le_refl _, fun k hk => ?_, fun k hk => ?_, fun k hk => ?_⟩ <;> by_cases hn : lo.val ≤ k.val ∧ k.val < hi.val
 ·simp only [merge, if_pos hn]
 ·simp only [merge, if_neg hn]; exact (f.mon.b k (key k hk hn)).symm
 ·simp only [merge, if_pos hn]
 ·simp only [merge, if_neg hn]; exact (f.mon.s k (key k hk hn)).symm
 ·simp only [merge, if_pos hn]; exact hk.2
 ·simp only [merge, if_neg hn]; exact (key k hk hn).2
theorem merge_t {lo hi k : Bp} (h : (merge c c' lo hi).t k) : c.t k ∨ (lo.val ≤ k.val ∧ k.val < hi.val) := by
 by_cases hn : lo.val ≤ k.val ∧ k.val < hi.val
 ·exact .inr hn
 ·simp only [merge, if_neg hn] at h; exact .inl h
end

section
variable {P : Program} {call : CallF} {ops : Array Oper} {T : Nat → Dr} {kd : Nat → Nat} {rv : Nat → SV} {ob : Nat → Ob} {S0 : St} {c0 c : Cx} {w0 w : World} {a : Act} {nt : Nat} {Q : Exit → Act → World → Prop}
def MP (ops : Array Oper) (T : Nat → Dr) (kd : Nat → Nat) (ob : Nat → Ob) (L : Nat → Prop) (p : Nat) : Pm := fun k x th =>
 ((T p).S.m.get k = some x ∧ th = (T p).S.c) ∨ ∃ i, i < ops.size ∧ kd i = 2 ∧ L i ∧ (T p).j.testBit i = false ∧ k = (T i).S.c ∧ x = ob i ∧ th = (T (i + 1)).S.c
structure DI (ops : Array Oper) (T : Nat → Dr) (kd : Nat → Nat) (rv : Nat → SV) (ob : Nat → Ob) (S0 : St) (nt : Nat) (c0 : Cx) (w0 : World) (L : Nat → Prop) (p : Nat) (c : Cx) (a : Act) (w : World) : Prop where
 sz : a.tmps.size = nt
 df : a.defers = []
 dead : ∀ i, i < ops.size → ¬ L i → ∀ k : Bp, (T i).S.c.val ≤ k.val → k.val < (T (i + 1)).S.c.val → ¬ c.t k
 sl : ∀ t, RS c (Fv (dstA ops) L (fun i => (T (i + 1)).S.c) (fun _ => S0.c) ops.size t) (a.tmps.getD t undef) (Fv (dstA ops) L rv S0.f.get ops.size t)
 lp : p ≤ ops.size
 front : ∀ i, i < ops.size → kd i = 3 → (L i ↔ i < p)
 top : p = 0 ∨ ∃ q, p = q + 1 ∧ kd q = 3
 nn : ∀ i, i < ops.size → kd i = 2 → L i → (T p).j.testBit i = false → (T p).S.m.get (T i).S.c = none
 pr : PR c (MP ops T kd ob L p) w
 pf : PF c0 S0.c S0.m w0 c (MP ops T kd ob L p) w
structure Tx (ops : Array Oper) : Prop where
 lt : ∀ j o, ops[j]? = some o → ∀ e ∈ o.after, Region.binds .any e = true → e.on < j
 pair : ∀ i j, i < j → j < ops.size → pairB ops (ancs ops.toList) i j = true
theorem ltB_in {t : Nat} {l : List Nat} (h : t ∈ l) : ltB t l = true := by
 induction l with
 | nil => cases h
 | cons x r ih =>
  show (bif Nat.beq x t then true else ltB t r) = true
  rcases List.mem_cons.1 h with rfl | h
  ·rw [show Nat.beq t t = true from Nat.beq_refl t]; rfl
  ·rw [ih h]; cases Nat.beq x t <;> rfl
theorem Tx.two (ht : Tx ops) {i j : Nat} {o q : Oper} (hij : i < j) (hi : ops[i]? = some o) (hj : ops[j]? = some q) : (anc ops j).testBit i = true ∨
  ((∀ t, o.dst = some t → t ∉ rdsO ops q) ∧ (∀ t, o.dst = some t → q.dst ≠ some t) ∧ ∀ t, q.dst = some t → t ∉ rdsO ops o) := by
 have h := ht.pair i j hij (Array.getElem?_eq_some_iff.1 hj).1; unfold pairB at h; rw [hi, hj] at h
 replace h : (bitB (anc ops j) i || sltB o.dst (rdsO ops o) q.dst (rdsO ops q)) = true := h
 rw [bitB_is, Bool.or_eq_true] at h
 refine h.imp id fun h => ?_
 unfold sltB at h; rw [Bool.and_eq_true] at h; refine ⟨fun t ht hm => ?_, fun t ht hq => ?_, fun t hq hm => ?_⟩
 ·have h1 := h.1; rw [ht] at h1; simp only [Bool.and_eq_true, Bool.not_eq_true'] at h1; rw [ltB_in hm] at h1
  cases h1.1
 ·have h1 := h.1; rw [ht, hq] at h1; simp only [Bool.and_eq_true, Bool.not_eq_true'] at h1; have := h1.2; rw [show Nat.beq t t = true from Nat.beq_refl t] at this
  cases this
 ·have h1 := h.2; rw [hq] at h1; simp only [Bool.not_eq_true'] at h1; rw [ltB_in hm] at h1
  cases h1
theorem dst_at {k : Nat} {t : Nat} (h : dstA ops k = some t) : ∃ o, ops[k]? = some o ∧ o.dst = some t := by
 unfold dstA at h; exact Option.bind_eq_some_iff.1 h
theorem dst_of {k : Nat} {o : Oper} (h : ops[k]? = some o) : dstA ops k = o.dst := by unfold dstA; rw [h]; rfl
theorem Tx.read (ht : Tx ops) {L : Nat → Prop} (hL : Closed ops L) {i : Nat} {o : Oper} (ho : ops[i]? = some o) (hi : ¬ L i) (hd : ∀ e ∈ o.after, Region.binds .any e = true → L e.on) {t : Nat} (hr : t ∈ rdsO ops o) {k : Nat} (hk : dstA ops k = some t) : L k ↔ k < i := by
 obtain ⟨o', h1, h2⟩ := dst_at hk
 rcases Nat.lt_trichotomy k i with h | h | h
 ·refine ⟨fun _ => h, fun _ => ?_⟩
  rcases ht.two h h1 ho with h3 | ⟨h3, _⟩
  ·exact anc_in ht.lt hL i (fun o2 ho2 => by rw [ho] at ho2; injection ho2 with ho2; subst ho2; exact hd) k h3
  ·exact absurd hr (h3 t h2)
 ·subst h; exact ⟨fun h => absurd h hi, fun h => by omega⟩
 ·refine ⟨fun hLk => ?_, fun h => by omega⟩
  rcases ht.two h ho h1 with h3 | ⟨_, _, h3⟩
  ·exact absurd (anc_in ht.lt hL k (fun o2 ho2 => hL k o2 hLk ho2) i h3) hi
  ·exact absurd hr (h3 t h2)
theorem Tx.write (ht : Tx ops) {L : Nat → Prop} (hL : Closed ops L) {i : Nat} {o : Oper} (ho : ops[i]? = some o) (hi : ¬ L i) {t : Nat} (hd : o.dst = some t) {k : Nat} (hk : i < k) (hLk : L k) : dstA ops k ≠ some t := fun h => by
 obtain ⟨o', h1, h2⟩ := dst_at h
 rcases ht.two hk ho h1 with h3 | ⟨_, h3, _⟩
 ·exact absurd (anc_in ht.lt hL k (fun o2 ho2 => hL k o2 hLk ho2) i h3) hi
 ·exact h3 t hd h2
theorem DI.slot (hC : Ch P call ops T kd rv ob S0) (ht : Tx ops) {L : Nat → Prop} {p : Nat} (h : DI ops T kd rv ob S0 nt c0 w0 L p c a w) (hL : Closed ops L) {i : Nat} {o : Oper} (ho : ops[i]? = some o) (hi : ¬ L i) (hd : ∀ e ∈ o.after, Region.binds .any e = true → L e.on) {t : Nat} (hr : t ∈ rdsO ops o) :
  RS c (T i).S.c (a.tmps.getD t undef) ((T i).S.f.get t) := by
 have hlt := (Array.getElem?_eq_some_iff.1 ho).1; have h1 := h.sl t; rw [Fv_read (x := rv) ops.size (Nat.le_of_lt hlt) fun k _ hk => ht.read hL ho hi hd hr hk] at h1; rw [Fv_read (x := fun i => (T (i + 1)).S.c) ops.size (Nat.le_of_lt hlt) fun k _ hk => ht.read hL ho hi hd hr hk] at h1; rw [hC.f_get t (Nat.le_of_lt hlt)]; refine RS.mon ((Keep.refl c).mon ?_) h1
 have key : ∀ q, q ≤ i → (Fv (dstA ops) (fun _ => True) (fun i => (T (i + 1)).S.c) (fun _ => S0.c) q t).val ≤ (T i).S.c.val := by
  intro q
  induction q with
  | zero =>
   intro _
   show S0.c.val ≤ _
   have : S0.c = (T 0).S.c := by rw [hC.z]
   rw [this]; exact hC.mono (Nat.zero_le _) (Nat.le_of_lt hlt)
  | succ q ih =>
   intro hq; rw [Fv]
   split
   ·exact hC.mono hq (Nat.le_of_lt hlt)
   ·exact ih (by omega)
 exact key i (Nat.le_refl _)
theorem DI.evs (hC : Ch P call ops T kd rv ob S0) (ht : Tx ops) {L : Nat → Prop} {p : Nat} (h : DI ops T kd rv ob S0 nt c0 w0 L p c a w) (hL : Closed ops L) {i : Nat} {o : Oper} (ho : ops[i]? = some o) (hi : ¬ L i) (hd : ∀ e ∈ o.after, Region.binds .any e = true → L e.on) :
  ∀ x ∈ o.op.operands.toList, RS c (T i).S.c (a.eval x) (ev (T i).S.f x) := fun x hx => by
 cases x with
 | tmp t =>
  refine h.slot hC ht hL ho hi hd ?_; have h1 : t ∈ tmpsO o := List.mem_filterMap.2 ⟨.tmp t, hx, rfl⟩; unfold rdsO
  split
  ·split
   ·exact List.mem_cons_of_mem _ h1
   ·exact h1
  ·exact h1
 | const v => exact cSV_rel v
 | global g => trivial
 | func n => exact ⟨#[], rfl, .nil⟩
theorem DI.grd (hC : Ch P call ops T kd rv ob S0) (ht : Tx ops) {L : Nat → Prop} {p : Nat} (h : DI ops T kd rv ob S0 nt c0 w0 L p c a w) (hL : Closed ops L) {i : Nat} {o : Oper} (ho : ops[i]? = some o) (hi : ¬ L i) (hd : ∀ e ∈ o.after, Region.binds .any e = true → L e.on) {b : Bool} (hb : gOk ops (T i) o = some b) :
  Region.wanted o (yielded ops a.tmps) = b := by
 unfold gOk at hb
 cases hg : o.guard with
 | none =>
  rw [hg] at hb
  injection hb with hb
  subst hb; simp only [Region.wanted, hg]
 | some g =>
  obtain ⟨j, want⟩ := g; rw [hg] at hb
  replace hb : grdT (T i).S.f want (dstA ops j) = some b := hb
  cases hj : dstA ops j with
  | none => rw [hj] at hb; cases hb
  | some t =>
   rw [hj] at hb; have hr := h.slot hC ht hL ho hi hd (t := t) (by unfold rdsO; rw [hg]; simp only [hj]; exact List.mem_cons_self)
   -- as grd_is, of one slot
   replace hb : grdV want ((T i).S.f.get t) = some b := hb
   have hyd : yielded ops a.tmps j = (match a.tmps[t]? with | some (.bool x) => some x | _ => none) := by
    unfold yielded; have hd : (ops[j]?).bind (·.dst) = some t := hj; rw [hd]
    rfl
   unfold grdV at hb
   split at hb
   ·rename_i x hx
    rw [hx] at hr; have hr : a.tmps.getD t undef = .bool x := hr
    have hat : a.tmps[t]? = some (.bool x) := by
     rw [Array.getD_eq_getD_getElem?] at hr
     cases hq : a.tmps[t]? with
     | none => rw [hq] at hr; cases hr
     | some q => rw [hq] at hr; exact congrArg some hr
    injection hb with hb
    subst hb; simp only [Region.wanted, hg, hyd, hat]
    cases x <;> cases want <;> rfl
   ·rename_i hx
    rw [hx] at hr; have hr : a.tmps.getD t undef = undef := hr
    injection hb with hb
    subst hb; simp only [Region.wanted, hg, hyd]; rw [Array.getD_eq_getD_getElem?] at hr
    cases hq : a.tmps[t]? with
    | none => rfl
    | some q =>
     rw [hq] at hr; have hr : q = undef := hr; subst hr
     rfl
   ·cases hb
theorem DI.next (hC : Ch P call ops T kd rv ob S0) (ht : Tx ops) {L : Nat → Prop} {p : Nat} (h : DI ops T kd rv ob S0 nt c0 w0 L p c a w) (hL : Closed ops L) {i : Nat} {o : Oper} (ho : ops[i]? = some o) (hi : ¬ L i) (hds : ltO nt o.dst = true)
  {c'' : Cx} {v : Value} {w' : World} {p' : Nat} (hv : RS c'' (T (i + 1)).S.c v (rv i)) (keep : Keep c c'') (tt : ∀ k : Bp, c''.t k → c.t k ∨ ((T i).S.c.val ≤ k.val ∧ k.val < (T (i + 1)).S.c.val)) (lp : p' ≤ ops.size)
  (front : ∀ j, j < ops.size → kd j = 3 → ((L j ∨ j = i) ↔ j < p')) (top : p' = 0 ∨ ∃ q, p' = q + 1 ∧ kd q = 3) (nn : ∀ j, j < ops.size → kd j = 2 → (L j ∨ j = i) → (T p').j.testBit j = false → (T p').S.m.get (T j).S.c = none)
  (pr : PR c'' (MP ops T kd ob (fun j => L j ∨ j = i) p') w') (pf : PF c0 S0.c S0.m w0 c'' (MP ops T kd ob (fun j => L j ∨ j = i) p') w') : DI ops T kd rv ob S0 nt c0 w0 (fun j => L j ∨ j = i) p' c'' (a.put o.dst v) w' := by
 have hlt := (Array.getElem?_eq_some_iff.1 ho).1; refine ⟨by rw [put_size]; exact h.sz, by rw [put_df]; exact h.df, fun j hj hn k h1 h2 h3 => ?_, fun t => ?_, lp, front, top, nn, pr, pf⟩
 ·have hn1 : ¬ L j := fun h => hn (.inl h)
  have hn2 : j ≠ i := fun h => hn (.inr h)
  rcases tt k h3 with h4 | ⟨h4, h5⟩
  ·exact h.dead j hj hn1 k h1 h2 h4
  ·rcases Nat.lt_or_ge j i with h6 | h6
   ·have := hC.mono (k := j + 1) (q := i) (by omega) (by omega)
    omega
   ·have := hC.mono (k := i + 1) (q := j) (by omega) (by omega)
    omega
 ·rw [put_get a o.dst v t (by rw [h.sz]; exact hds)]
  have hw : ∀ k, i < k → k < ops.size → L k → dstA ops i = some t → dstA ops k ≠ some t := fun k h1 _ h2 h3 => ht.write hL ho hi (by rw [← dst_of ho]; exact h3) h1 h2
  rw [Fv_put (x := rv) ops.size hlt hw, Fv_put (x := fun i => (T (i + 1)).S.c) ops.size hlt hw, dst_of ho]
  split
  ·exact hv
  ·exact RS.mon (keep.mon (Nat.le_refl _)) (h.sl t)
theorem DI.quiet (hC : Ch P call ops T kd rv ob S0) (ht : Tx ops) {L : Nat → Prop} {p : Nat} (h : DI ops T kd rv ob S0 nt c0 w0 L p c a w) (hL : Closed ops L) {i : Nat} {o : Oper} (ho : ops[i]? = some o) (hi : ¬ L i) (hds : ltO nt o.dst = true) (h2 : kd i ≠ 2) (h3 : kd i ≠ 3) {v : Value} (hv : RS c (T (i + 1)).S.c v (rv i)) :
  DI ops T kd rv ob S0 nt c0 w0 (fun j => L j ∨ j = i) p c (a.put o.dst v) w := by
 have hM : ∀ k x th, MP ops T kd ob (fun j => L j ∨ j = i) p k x th → MP ops T kd ob L p k x th := fun k x th hm => by
  rcases hm with hm | ⟨j, q1, q2, q3, q4⟩
  ·exact .inl hm
  ·exact .inr ⟨j, q1, q2, q3.resolve_right (fun e => h2 (by rw [← e]; exact q2)), q4⟩
 refine h.next hC ht hL ho hi hds hv (.refl c) (fun k hk => .inl hk) h.lp (fun j hj hk => ?_) h.top (fun j q1 q2 q3 q4 => h.nn j q1 q2 (q3.resolve_right fun e => h2 (by rw [← e]; exact q2)) q4) (h.pr.sub hM) (h.pf.sub hM); rw [← h.front j hj hk]; exact ⟨fun q => q.resolve_right fun e => h3 (by rw [← e]; exact hk), .inl⟩
theorem anc_subset {L : Nat → Prop} (ht : Tx ops) (hL : Closed ops L) {i : Nat} {o : Oper} (ho : ops[i]? = some o) (hd : ∀ e ∈ o.after, Region.binds .any e = true → L e.on) {k : Nat} (hk : (anc ops i).testBit k = true) : L k ∧ k < i :=
 ⟨anc_in ht.lt hL i (fun o2 ho2 => by rw [ho] at ho2; injection ho2 with ho2; subst ho2; exact hd) k hk, anc_lt ht.lt i k hk⟩
theorem view_in (hC : Ch P call ops T kd rv ob S0) {L : Nat → Prop} (ht : Tx ops) (hL : Closed ops L) {i p q : Nat} {o : Oper} (ho : ops[i]? = some o) (hd : ∀ e ∈ o.after, Region.binds .any e = true → L e.on) (hq : q ≤ ops.size) {k : Bp} {x : Ob} (hk : (view (T p).S.m (T p).j (T q).al (anc ops i)).get k = some x) :
  ∃ th, MP ops T kd ob L p k x th ∧ (th = (T p).S.c ∨ th.val ≤ (T i).S.c.val) := by
 have hlt := (Array.getElem?_eq_some_iff.1 ho).1
 rcases view_get hk with ⟨e, h1, rfl, rfl, h2, h3⟩ | h1
 ·obtain ⟨j, g1, g2, rfl⟩ := hC.al_mem hq e h1; have g3 := sub_one.1 h2; have g4 := dis_one.1 h3; obtain ⟨g5, g6⟩ := anc_subset ht hL ho hd g3; exact ⟨(T (j + 1)).S.c, .inr ⟨j, by omega, g2, g5, g4, rfl, rfl, rfl⟩, .inr (hC.mono (by omega) (by omega))⟩
 ·exact ⟨_, .inl ⟨h1, rfl⟩, .inl rfl⟩
theorem DI.step (hcall : CallOK P call) (hC : Ch P call ops T kd rv ob S0) (ht : Tx ops) {L : Nat → Prop} {p : Nat} (h : DI ops T kd rv ob S0 nt c0 w0 L p c a w) (hL : Closed ops L) (_ : ∀ k, L k → k < ops.size) {i : Nat} {o : Oper} (ho : ops[i]? = some o) (hi : ¬ L i) (hds : ltO nt o.dst = true) (hd : ∀ e ∈ o.after, Region.binds .any e = true → L e.on) :
  if Region.wanted o (yielded ops a.tmps) then o.wp P a w (fun a' w' => ∃ p' c', DI ops T kd rv ob S0 nt c0 w0 (fun j => L j ∨ j = i) p' c' a' w') Q else ∃ p' c', DI ops T kd rv ob S0 nt c0 w0 (fun j => L j ∨ j = i) p' c' (a.put o.dst undef) w := by
 have hlt := (Array.getElem?_eq_some_iff.1 ho).1; have hev := h.evs hC ht hL ho hi hd; have hst := hC.step i o ho; have hdead := h.dead i hlt hi
 have hsub : ∀ {k}, (anc ops i).testBit k = true → L k ∧ k < i := fun hk => anc_subset ht hL ho hd hk
 have hemp : MR c (T i).S.c .e w := ⟨fun k x h => (by rw [get_e] at h; cases h), fun k x h => (by rw [get_e] at h; cases h), fun k j x y h => (by rw [get_e] at h; cases h)⟩
 have quiet : kd i ≠ 2 → kd i ≠ 3 → ∀ {f : Fm} {m1 : Mm} {N1 : Bp}, f = (T i).S.f → opC P o.op < 2 → MR c N1 m1 w → (T i).S.c.val ≤ N1.val → (∃ r, opF o.op P call f m1 N1 = .one r ∧ r.v = rv i) → (∀ v, RS c N1 v (rv i) → RS c (T (i + 1)).S.c v (rv i)) →
   o.wp P a w (fun a' w' => ∃ p' c', DI ops T kd rv ob S0 nt c0 w0 (fun j => L j ∨ j = i) p' c' a' w') Q := fun k2 k3 f m1 N1 hf hq hm hN ⟨r, hr, hrv⟩ hlow => by
  subst hf; obtain ⟨x, v, g1, g2, g3⟩ := op_q (f := (T i).S.f) (call := call) hm (fun y hy => RS.mon ((Keep.refl c).mon hN) (hev y hy)) hq (by rw [hr]; trivial); rw [hr] at g1
  cases g1
  unfold Oper.wp; rw [g2]; exact ⟨p, c, h.quiet hC ht hL ho hi hds k2 k3 (hlow v (by rw [← hrv]; exact g3))⟩
 have hCm := hC.c1 hlt; generalize hD : T (i + 1) = D' at hst hCm hdead; generalize hk : kd i = q at hst; generalize hv : rv i = vi at hst; generalize hx : ob i = xi at hst
 cases hst with
 | sk hg =>
  rw [if_neg (by rw [h.grd hC ht hL ho hi hd hg]; simp)]; exact ⟨p, c, h.quiet hC ht hL ho hi hds (by rw [hk]; simp) (by rw [hk]; simp) (by rw [hv]; exact rfl)⟩
 | pu hg hop hr =>
  rw [if_pos (h.grd hC ht hL ho hi hd hg)]
  refine quiet (by rw [hk]; simp) (by rw [hk]; simp) rfl (by rw [hop]; omega) hemp (Nat.le_refl _) ⟨_, oneR_is hr, hv.symm⟩ fun v hvr => ?_
  rw [hD]; exact hvr
 | rd hg hop hr hn hh =>
  rename_i r
  rw [if_pos (h.grd hC ht hL ho hi hd hg)]
  have hlow : ∀ N1 v, RS c N1 v (rv i) → RS c (T (i + 1)).S.c v (rv i) := fun N1 v hvr => by
   rw [hD]; rw [hv] at hvr ⊢; exact low_S hvr hn
  have k2 : kd i ≠ 2 := by rw [hk]; simp
  have k3 : kd i ≠ 3 := by rw [hk]; simp
  by_cases hpi : p ≤ i
  ·-- no later write is through
   have go : ∀ (m : Mm) (j : Nat), m = (T p).S.m → j = (T p).j → (∃ r', opF o.op P call (T i).S.f (view m j (T i).al (anc ops i)) (T i).S.c = .one r' ∧ r'.v = rv i) → o.wp P a w (fun a' w' => ∃ p' c', DI ops T kd rv ob S0 nt c0 w0 (fun j => L j ∨ j = i) p' c' a' w') Q := fun m j e1 e2 hr' => by
    subst e1; subst e2
    refine quiet k2 k3 rfl (by rw [hop]; omega) (h.pr.toMR fun k x hk => ?_) (Nat.le_refl _) hr' (hlow _); obtain ⟨th, g1, g2⟩ := view_in hC ht hL ho hd (by omega) hk; refine ⟨th, g1, g2.elim (fun e => ?_) id⟩
    rw [e]; exact hC.mono hpi (by omega)
   by_cases hno : ∀ j, p ≤ j → j < i → kd j ≠ 3
   ·obtain ⟨e1, e2, _⟩ := hC.still hpi (by omega) hno; exact go _ _ e1 e2 ⟨_, oneR_is hr, hv.symm⟩
   ·-- the first write behind the front
    obtain ⟨p2, g1, g2, g3, g4⟩ : ∃ p2, p ≤ p2 ∧ p2 < i ∧ kd p2 = 3 ∧ ∀ j, p ≤ j → j < p2 → kd j ≠ 3 := by
     have : ∃ j, p ≤ j ∧ j < i ∧ kd j = 3 := by
      by_cases hc : ∃ j, p ≤ j ∧ j < i ∧ kd j = 3
      ·exact hc
      ·exact absurd (fun j h1 h2 h3 => hc ⟨j, h1, h2, h3⟩) hno
     obtain ⟨j, q1, q2, q3⟩ := this
     have key : ∀ n j, j - p ≤ n → p ≤ j → j < i → kd j = 3 → ∃ p2, p ≤ p2 ∧ p2 < i ∧ kd p2 = 3 ∧ ∀ j, p ≤ j → j < p2 → kd j ≠ 3 := by
      intro n
      induction n with
      | zero => intro j h1 h2 h3 h4; exact ⟨j, h2, h3, h4, fun j' h5 h6 => by omega⟩
      | succ n ih =>
       intro j h1 h2 h3 h4
       by_cases hc : ∃ j', p ≤ j' ∧ j' < j ∧ kd j' = 3
       ·obtain ⟨j', h5, h6, h7⟩ := hc; exact ih j' (by omega) h5 (by omega) h7
       ·exact ⟨j, h2, h3, h4, fun j' h5 h6 h7 => hc ⟨j', h5, h6, h7⟩⟩
     exact key _ j (Nat.le_refl _) q1 q2 q3
    obtain ⟨e1, e2, e3⟩ := hC.still g1 (by omega) g4; have hmem := hC.h_mem g3 g2 (by omega)
    have hs := his_at hh _ hmem (by
     rw [subB_is]; intro k hk; rw [land_bit, Bool.and_eq_true] at hk; have h1 := (hC.l_bit (by omega)).1 hk.2; have h2 := (h.front k (by omega) h1.2).1 (hsub hk.1).1; rw [hC.l_bit (by omega)]
     exact ⟨by omega, h1.2⟩)
    obtain ⟨r', q1, q2⟩ := sameV_is hs; exact go _ _ e1 e2 ⟨r', q1, by rw [q2, hv]⟩
  ·-- a later write is through
   rcases h.top with hp0 | ⟨p0, hp0, hp3⟩
   ·omega
   ·subst hp0; have hlp := h.lp
    have hne : p0 ≠ i := fun e => k3 (by rw [← e]; exact hp3)
    obtain ⟨o', D2, q2, v2, x2, ho', hD2, hq2, hv2, hx2, hs2⟩ := hC.at (k := p0) (by omega); rw [hp3] at hq2; subst hq2
    cases hs2 with
    | ld hg2 hsb hr2 hmo hre =>
     rename_i r2
     have hLp : L p0 := (h.front p0 (by omega) hp3).2 (by omega)
     have hnb : subB (Nat.shiftLeft 1 i) (anc ops p0) = false := by
      cases hsb2 : subB (Nat.shiftLeft 1 i) (anc ops p0) with
      | false => rfl
      | true => exact absurd (anc_in ht.lt hL p0 (fun o2 ho2 => hL p0 o2 hLp ho2) i (sub_one.1 hsb2)) hi
     have hmem := hC.q_mem ho hk (k := p0) (by omega) (by omega); have hs := re_at hre _ hmem hnb; obtain ⟨r', q1, q2⟩ := sameV_is hs
     have e1 : (T (p0 + 1)).S.m = r2.m := by rw [hD2]
     have e2 : (T (p0 + 1)).j = Nat.lor (T p0).j (Nat.land (anc ops p0) (T p0).am) := by rw [hD2]
     have e3 : (T (p0 + 1)).S.c = r2.c := by rw [hD2]
     replace q1 : opF o.op P call (T i).S.f (view r2.m (Nat.lor (T p0).j (Nat.land (anc ops p0) (T p0).am)) (T p0).al (anc ops i)) r2.c = .one r' := q1
     rw [← e1, ← e2, ← e3] at q1; have hle : (T i).S.c.val ≤ (T (p0 + 1)).S.c.val := hC.mono (by omega) (by omega); refine quiet k2 k3 rfl (by rw [hop]; omega) (h.pr.toMR fun k x hk => ?_) hle ⟨r', q1, q2⟩ (hlow _); obtain ⟨th, g1, g2⟩ := view_in hC ht hL ho hd (by omega) hk; refine ⟨th, g1, g2.elim (fun e => by rw [e]; exact Nat.le_refl _) fun e => Nat.le_trans e hle⟩
 | al hg hr hob hmo =>
  rename_i r
  rw [if_pos (h.grd hC ht hL ho hi hd hg)]; have hone := oneR_is hr; refine Oper.wp_mono ?_ (op_wp (Q := Q) (f := (T i).S.f) hcall hemp hev (by rw [hone]; trivial)); rintro a' w' ⟨r', v, hr', rfl, c', g1, g2, g3⟩; rw [hone] at hr'
  cases hr'
  have hDc : (T (i + 1)).S.c = r.c := by rw [hD]
  have hdd : ∀ k : Bp, (T i).S.c.val ≤ k.val → k.val < r.c.val → ¬ c.t k := fun k q1 q2 => hdead k q1 q2
  have keep := merge_keep (c' := c') hdd; have up := merge_up g3; have hkn : ¬ (L i) := hi
  have hpn : ∀ x, (T p).S.m.get (T i).S.c = some x → False := fun x hx => (hdd _ (Nat.le_refl _) hmo) (h.pr.old _ x _ (.inl ⟨hx, rfl⟩)).2
  have hm2 : ∀ k x', (Tr.upd (Tr.e : Mm) (T i).S.c (some xi)).get k = some x' → r.m.get k = some x' := fun k x' hk' => by
   rw [get_upd] at hk'
   split at hk'
   ·rename_i e; subst e
    injection hk' with hk'; subst hk'
    exact hob
   ·rw [get_e] at hk'; cases hk'
  have hm : ∀ k x' th, MP ops T kd ob (fun j => L j ∨ j = i) p k x' th → ((Tr.upd (Tr.e : Mm) (T i).S.c (some xi)).get k = some x' ∧ th = r.c) ∨ (MP ops T kd ob L p k x' th ∧ (Tr.e : Mm).get k = none) := fun k x' th hmp => by
   rcases hmp with hmp | ⟨j, q1, q2, q3, q4, rfl, rfl, rfl⟩
   ·exact .inr ⟨.inl hmp, get_e k⟩
   ·rcases q3 with q3 | rfl
    ·exact .inr ⟨.inr ⟨j, q1, q2, q3, q4, rfl, rfl, rfl⟩, get_e _⟩
    ·exact .inl ⟨by rw [get_upd, if_pos rfl, hx], hDc⟩
  refine ⟨p, merge c c' (T i).S.c r.c, h.next hC ht hL ho hi hds ?_ keep (fun k hk' => ?_) h.lp (fun j hj hkj => ?_) h.top (fun j q1 q2 q3 q4 => ?_) ?_ ?_⟩
  ·rw [hDc, hv]; exact RS.mon up g1
  ·rw [hDc]; exact merge_t hk'
  ·rw [← h.front j hj hkj]; exact ⟨fun q => q.resolve_right fun e => (by subst e; rw [hk] at hkj; cases hkj), .inl⟩
  ·rcases q3 with q3 | rfl
   ·exact h.nn j q1 q2 q3 q4
   ·cases hz : (T p).S.m.get (T j).S.c with
    | none => rfl
    | some x' => exact (hpn x' hz).elim
  ·exact h.pr.rest (m1 := .e) (fun k x' hk' => by rw [get_e] at hk'; cases hk') (g3.sub fun k x' hk' => ⟨x', hm2 k x' hk'⟩) (g2.sub hm2) keep up hm
  ·refine PF.rest h.pr h.pf (m1 := .e) (fun k x' hk' => by rw [get_e] at hk'; cases hk') (g3.sub fun k x' hk' => ⟨x', hm2 k x' hk'⟩) (g2.sub hm2) keep up (fun k hk' ht' => ?_) hm
   have h0 : S0.c.val ≤ (T i).S.c.val := by
    have := hC.mono (k := 0) (q := i) (Nat.zero_le _) (by omega)
    rwa [hC.z] at this
   exact (merge_t ht').resolve_right fun e => by omega
 | ld hg hsb hr hmo hre =>
  rename_i r
  rw [if_pos (h.grd hC ht hL ho hi hd hg)]; have hone := oneR_is hr
  -- all writes ahead are through, none behind
  have hall : ∀ j, j < i → kd j = 3 → L j := fun j h1 h2 => (hsub ((subB_is.1 hsb) j ((hC.l_bit (by omega)).2 ⟨h1, h2⟩))).1
  have hpi : p ≤ i := by
   rcases h.top with hp0 | ⟨p0, hp0, hp3⟩
   ·omega
   ·subst hp0; have hlp := h.lp; have hLp : L p0 := (h.front p0 (by omega) hp3).2 (by omega)
    have hne : p0 ≠ i := fun e => hi (by rw [← e]; exact hLp)
    rcases Nat.lt_or_ge p0 i with h1 | h1
    ·omega
    ·obtain ⟨o', D2, q2, v2, x2, ho', hD2, hq2, hv2, hx2, hs2⟩ := hC.at (k := p0) (by omega); rw [hp3] at hq2; subst hq2
     cases hs2 with
     | ld hg2 hsb2 hr2 hmo2 hre2 =>
      have := (subB_is.1 hsb2) i ((hC.l_bit (by omega)).2 ⟨by omega, hk⟩); exact absurd (anc_in ht.lt hL p0 (fun o2 ho2 => hL p0 o2 hLp ho2) i this) hi
  have hno : ∀ j, p ≤ j → j < i → kd j ≠ 3 := fun j h1 h2 h3 => by
   have := (h.front j (by omega) h3).1 (hall j h2 h3)
   omega
  obtain ⟨e1, e2, _⟩ := hC.still hpi (by omega) hno
  have hvin : ∀ k x, (view (T i).S.m (T i).j (T i).al (anc ops i)).get k = some x → ∃ th, MP ops T kd ob L p k x th ∧ th.val ≤ (T i).S.c.val := fun k x hk' => by
   rw [e1, e2] at hk'; obtain ⟨th, g1, g2⟩ := view_in hC ht hL ho hd (by omega) hk'; refine ⟨th, g1, g2.elim (fun e => ?_) id⟩
   rw [e]; exact hC.mono hpi (by omega)
  have hmr : MR c (T i).S.c (view (T i).S.m (T i).j (T i).al (anc ops i)) w := h.pr.toMR hvin; refine Oper.wp_mono ?_ (op_wp (Q := Q) (f := (T i).S.f) hcall hmr hev (by rw [hone]; trivial)); rintro a' w' ⟨r', v, hr', rfl, c', g1, g2, g3⟩; rw [hone] at hr'
  cases hr'
  have hDc : (T (i + 1)).S.c = r.c := by rw [hD]
  have hDm : (T (i + 1)).S.m = r.m := by rw [hD]
  have hDj : (T (i + 1)).j = Nat.lor (T i).j (Nat.land (anc ops i) (T i).am) := by rw [hD]
  have hdd : ∀ k : Bp, (T i).S.c.val ≤ k.val → k.val < r.c.val → ¬ c.t k := fun k q1 q2 => hdead k q1 q2
  have keep := merge_keep (c' := c') hdd; have up := merge_up g3
  have hs' : ∀ k x, (view (T i).S.m (T i).j (T i).al (anc ops i)).get k = some x → ∃ th, MP ops T kd ob L p k x th := fun k x hk' => (let ⟨th, q1, _⟩ := hvin k x hk'; ⟨th, q1⟩)
  -- a block that is not joined is not seen
  have hunj : ∀ j, j < ops.size → kd j = 2 → L j → (T (i + 1)).j.testBit j = false → (T p).j.testBit j = false ∧ (view (T i).S.m (T i).j (T i).al (anc ops i)).get (T j).S.c = none := fun j q1 q2 q3 q4 => by
   rw [hDj, lor_bit, land_bit, Bool.or_eq_false_iff, e2] at q4; refine ⟨q4.1, ?_⟩; have hnn := h.nn j q1 q2 q3 q4.1
   cases hz : (view (T i).S.m (T i).j (T i).al (anc ops i)).get (T j).S.c with
   | none => rfl
   | some y =>
    rcases view_get hz with ⟨e, h1, h2, h3, h4, h5⟩ | h1
    ·obtain ⟨j', s1, s2, rfl⟩ := hC.al_mem (by omega) e h1; have s3 := sub_one.1 h4
     have hjj : j' = j := by
      have hval : (T j').S.c = (T j).S.c := h2
      rcases Nat.lt_trichotomy j' j with hl | hl | hl
      ·obtain ⟨_, D3, q3', _, _, _, hD3, hq3, _, _, hs3⟩ := hC.at (k := j') (by omega); rw [s2] at hq3; subst hq3
       cases hs3 with
       | al _ _ _ hm3 =>
        have := hC.mono (k := j' + 1) (q := j) (by omega) (by omega); rw [hD3] at this; rw [← hval] at this; simp only at this
        omega
      ·exact hl
      ·obtain ⟨_, D3, q3', _, _, _, hD3, hq3, _, _, hs3⟩ := hC.at (k := j) (by omega); rw [q2] at hq3; subst hq3
       cases hs3 with
       | al _ _ _ hm3 =>
        have := hC.mono (k := j + 1) (q := j') (by omega) (by omega); rw [hD3] at this; rw [hval] at this; simp only at this
        omega
     subst hjj; have h6 := q4.2; rw [s3, (hC.am_bit (by omega)).2 ⟨s1, s2⟩] at h6
     cases h6
    ·rw [e1, hnn] at h1; cases h1
  have hm : ∀ k x' th, MP ops T kd ob (fun j => L j ∨ j = i) (i + 1) k x' th → (r.m.get k = some x' ∧ th = r.c) ∨ (MP ops T kd ob L p k x' th ∧ (view (T i).S.m (T i).j (T i).al (anc ops i)).get k = none) := fun k x' th hmp => by
   rcases hmp with ⟨q1, q2⟩ | ⟨j, q1, q2, q3, q4, rfl, rfl, rfl⟩
   ·exact .inl ⟨by rw [← hDm]; exact q1, by rw [q2, hDc]⟩
   ·have q3 : L j := q3.resolve_right fun e => by subst e; rw [hk] at q2; cases q2
    obtain ⟨s1, s2⟩ := hunj j q1 q2 q3 q4; exact .inr ⟨.inr ⟨j, q1, q2, q3, s1, rfl, rfl, rfl⟩, s2⟩
  refine ⟨i + 1, merge c c' (T i).S.c r.c, h.next hC ht hL ho hi hds ?_ keep (fun k hk' => ?_) (by omega) (fun j hj hkj => ?_) (.inr ⟨i, rfl, hk⟩) (fun j q1 q2 q3 q4 => ?_) ?_ ?_⟩
  ·rw [hDc, hv]; exact RS.mon up g1
  ·rw [hDc]; exact merge_t hk'
  ·constructor
   ·rintro (q | rfl)
    ·have := (h.front j hj hkj).1 q; omega
    ·omega
   ·intro q
    by_cases e : j = i
    ·exact .inr e
    ·exact .inl (hall j (by omega) hkj)
  ·have q3 : L j := q3.resolve_right fun e => by subst e; rw [hk] at q2; cases q2
   obtain ⟨s1, s2⟩ := hunj j q1 q2 q3 q4; have hMj : MP ops T kd ob L p (T j).S.c (ob j) (T (j + 1)).S.c := .inr ⟨j, q1, q2, q3, s1, rfl, rfl, rfl⟩; have hlv := h.pr.old _ _ _ hMj; rw [hDm]
   cases hz : r.m.get (T j).S.c with
   | none => rfl
   | some y =>
    exfalso
    have hl2 := g2.old _ y hz
    rcases Nat.lt_or_ge (T j).S.c.val (T i).S.c.val with hc | hc
    ·have hb2 : c'.b (T j).S.c = c.b (T j).S.c := g3.mon.b _ ⟨hc, hlv.2⟩
     rcases g3.own _ y hz with ⟨k2, z, hk2, e⟩ | h3
     ·obtain ⟨th2, hk3⟩ := hs' k2 z hk2; have := h.pr.inj k2 (T j).S.c z (ob j) th2 _ hk3 hMj (e.trans hb2); subst this
      rw [s2] at hk2; cases hk2
     ·rw [hb2] at h3; have := (h.pr.ob _ _ _ hMj).there
      omega
    ·exact hdd _ hc hl2.1 hlv.2
  ·exact h.pr.rest hs' g3 g2 keep up hm
  ·refine PF.rest h.pr h.pf hs' g3 g2 keep up (fun k hk' ht' => ?_) hm
   have h0 : S0.c.val ≤ (T i).S.c.val := by
    have := hC.mono (k := 0) (q := i) (Nat.zero_le _) (by omega)
    rwa [hC.z] at this
   exact (merge_t ht').resolve_right fun e => by omega
end
end Go.Proofs.YtbgifiijjjoebaaGreatDoor.Cm
