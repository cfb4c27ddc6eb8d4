/- Regions whose order is drawn (IV): the region; closed runs by the kernel. The condition: the program's orders are the mixed ones. -/
import Derived.Test.YtbgifiijjjoebaaGreatDoorGNamesBu
namespace Go.Proofs.YtbgifiijjjoebaaGreatDoor.Cm
open Go Go.RowKit

section
variable {P : Program} {call : CallF} {ops : Array Oper} {T : Nat → Dr} {kd : Nat → Nat} {rv : Nat → SV} {ob : Nat → Ob} {S0 : St} {c0 c : Cx} {w0 w : World} {a : Act} {nt : Nat} {Q : Exit → Act → World → Prop}
theorem DI.congr {L L' : Nat → Prop} {p : Nat} (h : DI ops T kd rv ob S0 nt c0 w0 L p c a w) (hL : ∀ i, L i ↔ L' i) : DI ops T kd rv ob S0 nt c0 w0 L' p c a w := by
 have : L = L' := funext fun i => propext (hL i)
 rw [← this]; exact h
theorem ds_at {n : Nat} : ∀ {l : List Oper} {i : Nat} {o : Oper}, dsR n l = true → l[i]? = some o → ltO n o.dst = true
 | [], i, o, _, h => by simp at h
 | x :: l, i, o, hd, h => by
  obtain ⟨h1, h2⟩ := cond_and (show (bif ltO n x.dst then dsR n l else false) = true from hd)
  cases i with
  | zero => simp only [List.getElem?_cons_zero, Option.some.injEq] at h; subst h; exact h1
  | succ i => exact ds_at h2 (by simpa using h)
theorem DI.end_ (hC : Ch P call ops T kd rv ob S0) (_ : Tx ops) {L : Nat → Prop} {p : Nat} (h : DI ops T kd rv ob S0 nt c0 w0 L p c a w) (hall : ∀ i, i < ops.size → L i) :
  SR c ⟨(T ops.size).S.f.flush, view (T ops.size).S.m (T ops.size).j (T ops.size).al (T ops.size).am, (T ops.size).S.c⟩ a w nt ∧ Fr c0 S0.c S0.m w0 c (T ops.size).S.c (view (T ops.size).S.m (T ops.size).j (T ops.size).al (T ops.size).am) w := by
 have hno : ∀ i, p ≤ i → i < ops.size → kd i ≠ 3 := fun i h1 h2 h3 => by
  have := (h.front i h2 h3).1 (hall i h2)
  omega
 obtain ⟨e1, e2, _⟩ := hC.still h.lp (Nat.le_refl _) hno
 have hin : ∀ k x, (view (T ops.size).S.m (T ops.size).j (T ops.size).al (T ops.size).am).get k = some x → ∃ th, MP ops T kd ob L p k x th ∧ th.val ≤ (T ops.size).S.c.val := fun k x hk => by
  rcases view_get hk with ⟨e, h1, rfl, rfl, h2, h3⟩ | h1
  ·obtain ⟨j, g1, g2, rfl⟩ := hC.al_mem (Nat.le_refl _) e h1; refine ⟨(T (j + 1)).S.c, .inr ⟨j, g1, g2, hall j g1, ?_, rfl, rfl, rfl⟩, hC.mono (by omega) (Nat.le_refl _)⟩; have := dis_one.1 h3; rw [e2] at this; exact this
  ·refine ⟨(T p).S.c, .inl ⟨?_, rfl⟩, hC.mono h.lp (Nat.le_refl _)⟩; rw [e1] at h1; exact h1
 have hS0 : S0.c.val ≤ (T ops.size).S.c.val := by
  have := hC.mono (k := 0) (q := ops.size) (Nat.zero_le _) (Nat.le_refl _)
  rwa [hC.z] at this
 have hth : ∀ t q, q ≤ ops.size → (Fv (dstA ops) L (fun i => (T (i + 1)).S.c) (fun _ => S0.c) q t).val ≤ (T ops.size).S.c.val := by
  intro t q
  induction q with
  | zero => intro _; exact hS0
  | succ q ih =>
   intro hq; rw [Fv]
   split
   ·exact hC.mono hq (Nat.le_refl _)
   ·exact ih (by omega)
 refine ⟨⟨h.sz, h.df, fun t => ?_, h.pr.toMR hin⟩, ⟨?_, h.pf.os, h.pf.tape, h.pf.output, h.pf.size, h.pf.blk, fun k x hk => ?_, h.pf.tb⟩⟩
 ·show RS c (T ops.size).S.c _ ((T ops.size).S.f.flush.get t)
  rw [flush_get]
  split
  ·have h1 := h.sl t; rw [hC.f_get t (Nat.le_refl _)]; rw [Fv_same (L' := fun _ => True) (x := rv) ops.size fun k hk _ => ⟨fun _ => trivial, fun _ => hall k hk⟩] at h1; exact RS.mon ((Keep.refl c).mon (hth t _ (Nat.le_refl _))) h1
  ·trivial
 ·exact ⟨hS0, h.pf.mon.b, h.pf.mon.s, h.pf.mon.t⟩
 ·obtain ⟨th, h1, _⟩ := hin k x hk; exact h.pf.own k x th h1
theorem any_ok (hcall : CallOK P call) (hC : Ch P call ops T kd rv ob S0) (ht : Tx ops) (hds : dsR nt ops.toList = true) (hQ : ∀ L p c a w, DI ops T kd rv ob S0 nt c0 w0 L p c a w → (∀ i, i < ops.size → L i) → Q .normal a w) :
  ∀ (m : Nat) (listed : Array Bool) (p : Nat) (c : Cx) (a : Act) (w : World), listed.size = ops.size → Closed ops (fun i => listed.getD i false = true) → DI ops T kd rv ob S0 nt c0 w0 (fun i => listed.getD i false = true) p c a w → ((List.range ops.size).filter fun i => !listed.getD i false).length ≤ m → wpAny P .any ops Q m listed a w := by
 have bound : ∀ {listed : Array Bool} {i : Nat}, listed.size = ops.size → listed.getD i false = true → i < ops.size := fun hs h => by
  simp only [Array.getD] at h
  split at h
  ·omega
  ·cases h
 have gdd : ∀ {listed : Array Bool} {i : Nat}, listed.size = ops.size → i < ops.size → listed.getD i true = listed.getD i false := fun hs hi => by
  simp [Array.getD, hs, hi]
 have fin : ∀ (listed : Array Bool) (p : Nat) (c : Cx) (a : Act) (w : World), listed.size = ops.size → DI ops T kd rv ob S0 nt c0 w0 (fun i => listed.getD i false = true) p c a w → Region.ready .any ops listed = [] → Q .normal a w := by
  intro listed p c a w hs hI hr; refine hQ _ p c a w hI ?_; intro i
  induction i using Nat.strongRecOn with
  | _ i ih =>
   intro hi
   show listed.getD i false = true
   cases hl : listed.getD i false with
   | true => rfl
   | false =>
    have : i ∈ Region.ready .any ops listed := mem_ready.2 ⟨by rw [gdd hs hi]; exact hl, ops[i], Array.getElem?_eq_getElem hi, fun e he hb => by
     have := ht.lt i _ (Array.getElem?_eq_getElem hi) e he hb
     exact ih e.on this (by omega)⟩
    rw [hr] at this
    cases this
 intro m
 induction m with
 | zero =>
  intro listed p c a w hs hcl hI hm
  have hr : Region.ready .any ops listed = [] := by
   cases hx : Region.ready .any ops listed with
   | nil => rfl
   | cons i r =>
    have hi : i ∈ Region.ready .any ops listed := by rw [hx]; exact List.mem_cons_self
    obtain ⟨h1, o, h2, _⟩ := mem_ready.1 hi; have hil := (Array.getElem?_eq_some_iff.1 h2).1
    have : i ∈ (List.range ops.size).filter fun i => !listed.getD i false := List.mem_filter.2 ⟨List.mem_range.2 hil, by rw [← gdd hs hil, h1]; rfl⟩
    have := List.length_pos_of_mem this
    omega
  exact ⟨hr, fin listed p c a w hs hI hr⟩
 | succ m ih =>
  intro listed p c a w hs hcl hI hm; refine ⟨fin listed p c a w hs hI, fun i hi => ?_⟩; obtain ⟨hiu, o, ho, hdeps⟩ := mem_ready.1 hi; have hil := (Array.getElem?_eq_some_iff.1 ho).1
  have hiu' : listed.getD i false = false := by rw [← gdd hs hil]; exact hiu
  have hset : ∀ k, (listed.setIfInBounds i true).getD k false = true ↔ listed.getD k false = true ∨ k = i := by
   intro k
   by_cases hk : i = k
   ·subst hk; simp [Array.getD, hs, hil]
   ·rw [getD_set_ne false hk]
    constructor
    ·exact .inl
    ·rintro (h | h)
     ·exact h
     ·exact absurd h.symm hk
  have hcl' : Closed ops (fun k => (listed.setIfInBounds i true).getD k false = true) := by
   intro j o' hj ho' e he hb
   show (listed.setIfInBounds i true).getD e.on false = true
   rw [hset]
   rcases (hset j).1 hj with hj | rfl
   ·exact .inl (hcl j o' hj ho' e he hb)
   ·rw [ho] at ho'
    injection ho' with ho'
    subst ho'; exact .inl (hdeps e he hb)
  have hcount : ((List.range ops.size).filter fun k => !(listed.setIfInBounds i true).getD k false).length ≤ m := by
   have h1 : ((List.range ops.size).filter fun k => !(listed.setIfInBounds i true).getD k false).length < ((List.range ops.size).filter fun k => !listed.getD k false).length := by
    have e : (List.range ops.size).filter (fun k => !(listed.setIfInBounds i true).getD k false) = ((List.range ops.size).filter fun k => !listed.getD k false).filter fun k => k != i := by
     rw [List.filter_filter]
     apply List.filter_congr
     intro k _
     by_cases hk : k = i
     ·subst hk; have := (hset k).2 (.inr rfl); simp [this]
     ·have : (listed.setIfInBounds i true).getD k false = listed.getD k false := getD_set_ne false (fun h => hk h.symm); simp [this, hk]
    rw [e]; refine List.length_filter_lt_length_iff_exists.2 ⟨i, List.mem_filter.2 ⟨List.mem_range.2 hil, by rw [hiu']; rfl⟩, by simp⟩
   omega
  have h1 := hI.step (Q := Q) hcall hC ht hcl (fun k hk => bound hs hk) ho (by simp [hiu']) (ds_at hds (by simpa using ho)) hdeps
  have hgo : ∀ p' c' a' w', DI ops T kd rv ob S0 nt c0 w0 (fun j => listed.getD j false = true ∨ j = i) p' c' a' w' → wpAny P .any ops Q m (listed.setIfInBounds i true) a' w' := fun p' c' a' w' h => ih _ p' c' a' w' (by simp [hs]) hcl' (h.congr fun k => (hset k).symm) hcount
  unfold wpOp; simp only [ho]
  split at h1
  ·rename_i hw
   rw [if_pos hw]; exact .inl (Oper.wp_mono (fun a' w' ⟨p', c', h⟩ => hgo p' c' a' w' h) h1)
  ·rename_i hw
   rw [if_neg hw]; obtain ⟨p', c', h⟩ := h1; exact hgo p' c' _ w h
theorem draw_ok (hm : P.follows .mixedOrders = true) : DrawOK P := by
 intro call id ops n S c a w hcall hds h hf
 have e0 : drawF P call ops S = bif dOk ops (ancs ops.toList) then chF P call ops ops.toList 0 (ancs ops.toList) ⟨S, 0, 0, 0, [], [], []⟩ else .no ["dOk"] := rfl
 rw [e0] at hf ⊢
 cases hok : dOk ops (ancs ops.toList) with
 | false => rw [hok] at hf; exact hf.elim
 | true =>
  rw [hok] at hf; obtain ⟨d1, d2⟩ := dOk_is hok; have ht : Tx ops := ⟨d1, d2⟩
  replace hf : (chF P call ops ops.toList 0 (ancs ops.toList) ⟨S, 0, 0, 0, [], [], []⟩).fine := hf
  show (Code.region id ops true).wp P (Ends c S w n (chF P call ops ops.toList 0 (ancs ops.toList) ⟨S, 0, 0, 0, [], [], []⟩)) a w
  obtain ⟨T, kd, rv, ob, t1, t2, t3⟩ := chain_of ops.toList 0 (ancs ops.toList) _ hf; simp only [Nat.zero_add, Array.length_toList] at t3
  have hC : Ch P call ops T kd rv ob S := ⟨t1, fun k o ho => by
   have := t2 k o (by simpa using ho); simp only [Nat.zero_add] at this
   exact this⟩
  rw [t3]
  have hz : ∀ k, (Array.replicate ops.size false).getD k false = true → False := fun k h => by
   simp only [Array.getD] at h
   split at h
   ·simp at h
   ·cases h
  refine wp_region_any hm ?_; refine any_ok (c0 := c) (w0 := w) hcall hC ht hds ?_ ops.size _ 0 ⟨c.b, c.s, fun k => c.t k ∧ k.val < S.c.val⟩ a _ (by simp) (fun j o h => (hz j h).elim) ?_ ?_
  ·intro L p c' a' w' hI hall; obtain ⟨g1, g2⟩ := hI.end_ hC ht hall; exact ⟨_, c', rfl, g1, g2, rfl⟩
  ·have e1 : (T 0).S.c = S.c := by rw [t1]
   have e2 : (T 0).S.m = S.m := by rw [t1]
   have hmon : Mon c S.c ⟨c.b, c.s, fun k => c.t k ∧ k.val < S.c.val⟩ S.c := ⟨Nat.le_refl _, fun _ _ => rfl, fun _ _ => rfl, fun k hk => ⟨hk.2, hk.1⟩⟩
   have hFv : ∀ {α : Type} (x : Nat → α) (z : Nat → α) (t q : Nat), Fv (dstA ops) (fun i => (Array.replicate ops.size false).getD i false = true) x z q t = z t := by
    intro α x z t q
    induction q with
    | zero => rfl
    | succ q ih => rw [Fv, if_neg fun h => hz q h.1, ih]
   have hMP : ∀ k x th, MP ops T kd ob (fun i => (Array.replicate ops.size false).getD i false = true) 0 k x th → S.m.get k = some x ∧ th = S.c := fun k x th hk => by
    rcases hk with ⟨h1, h2⟩ | ⟨i, _, _, h1, _⟩
    ·rw [e2] at h1; rw [e1] at h2; exact ⟨h1, h2⟩
    ·exact (hz i h1).elim
   refine ⟨h.sz, h.df, fun i hi _ k h1 h2 h3 => ?_, fun t => ?_, Nat.zero_le _, fun i hi h3 => ⟨fun h => (hz i h).elim, fun h => by omega⟩, .inl rfl, fun i _ _ h => (hz i h).elim, ⟨fun k x th hk => ?_, fun k x th hk => ?_, fun k j x y th th' hk hj e => ?_⟩, ⟨hmon, rfl, rfl, rfl, Nat.le_refl _, fun _ _ _ => rfl, fun k x th hk => ?_, fun k _ hk => hk.1⟩⟩
   ·have := hC.mono (k := 0) (q := i) (Nat.zero_le _) (by omega); rw [e1] at this; have := h3.2
    omega
   ·rw [hFv, hFv]; exact RS.mon hmon (h.sl t)
   ·obtain ⟨q1, rfl⟩ := hMP k x th hk; exact (h.mr.old k x q1).mon hmon
   ·obtain ⟨q1, rfl⟩ := hMP k x th hk; exact RO.mon hmon (h.mr.old k x q1) rfl (h.mr.ob k x q1)
   ·exact h.mr.inj k j x y (hMP k x th hk).1 (hMP j y th' hj).1 e
   ·exact .inl ⟨k, x, (hMP k x th hk).1, rfl⟩
  ·have := List.length_filter_le (fun i => !(Array.replicate ops.size false).getD i false) (List.range ops.size)
   simpa using this
end
theorem closed_true {P : Program} (hm : P.follows .mixedOrders = true) (hE : extOk P = true) (fk : String → Bool) (n : Nat) (f : FuncId) (hb : ((P.funcs[f]?).bind (·.body)).isSome = true) (h : isT (run P fk n f) = true) : Fn P f [] (.c (.b true)) := by
 obtain ⟨cd, hcd⟩ := Option.isSome_iff_exists.1 hb; obtain ⟨fn, hfn, hb⟩ := Option.bind_eq_some_iff.1 hcd; exact run_true (draw_ok hm) hE fk n f hfn hb h
end Go.Proofs.YtbgifiijjjoebaaGreatDoor.Cm
