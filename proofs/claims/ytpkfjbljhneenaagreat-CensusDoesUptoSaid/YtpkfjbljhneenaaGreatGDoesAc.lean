/- A region that draws its order, walked in one order: what only reads first, then the rest, each leaving what was there as it was (but for the last). No conditions. Contracts of package riddleref01. No conditions. Contracts of package riddleref02. No conditions. An int's bounds. No conditions. Parts, values, terms in memory. No conditions. -/
import Derived.Test.YtpkfjbljhneenaaGreatGDoesAb
import Derived.OrdersHeld
import Derived.Test.YtpkfjbljhneenaaGreatGDoesAa
namespace Go.Proofs.YtpkfjbljhneenaaGreat
open Go.RowKit

section
variable {P : Program} {ops : Array Oper} {Q : Exit → Act → World → Prop} {S S' : World → Prop} {md : Region.Mode} {L : Nat}

def waitsAll (md : Region.Mode) (ops : Array Oper) (L : Nat) : Bool :=
 ((ops[L]?).map fun o => (List.range ops.size).all fun k => k == L || o.after.any fun e => Region.binds md e && e.on == k).getD true
def wpAnyG (P : Program) (md : Region.Mode) (ops : Array Oper) (Q : Exit → Act → World → Prop) (L : Nat) (S : World → Prop) : Nat → Array Bool → Act → World → Prop
 | 0, listed, a, w => Region.ready md ops listed = [] ∧ Q .normal a w
 | f + 1, listed, a, w =>
  (Region.ready md ops listed = [] → Q .normal a w) ∧
  ∀ i ∈ Region.ready md ops listed, wpOp P ops Q i (fun a' w' => (i = L ∨ S w') ∧ wpAnyG P md ops Q L S f (listed.setIfInBounds i true) a' w') a w

theorem wpAny_of_G : ∀ (f : Nat) (listed : Array Bool) (a : Act) (w : World), wpAnyG P md ops Q L S f listed a w → wpAny P md ops Q f listed a w
 | 0, _, _, _, h => h
 | _ + 1, _, _, _, h => ⟨h.1, fun i hi => wpOp_mono (fun a' w' h' => wpAny_of_G _ _ a' w' h'.2) (h.2 i hi)⟩
theorem wpAnyG_mono (hS : ∀ w, S' w → S w) : ∀ (f : Nat) (listed : Array Bool) (a : Act) (w : World), wpAnyG P md ops Q L S' f listed a w → wpAnyG P md ops Q L S f listed a w
 | 0, _, _, _, h => h
 | _ + 1, _, _, _, h => ⟨h.1, fun i hi => wpOp_mono (fun a' w' h' => ⟨h'.1.imp id (hS w'), wpAnyG_mono hS _ _ a' w' h'.2⟩) (h.2 i hi)⟩

theorem waitsAll_spec (h : waitsAll md ops L = true) {listed : Array Bool} (hr : L ∈ Region.ready md ops listed) {k : Nat} (hk : k < ops.size) (hne : k ≠ L) : listed.getD k false = true := by
 obtain ⟨_, o, ho, hall⟩ := mem_ready.1 hr; simp only [waitsAll, ho, Option.map_some, Option.getD_some, List.all_eq_true, List.mem_range, Bool.or_eq_true, beq_iff_eq] at h; have h1 := (h k hk).resolve_left hne; rw [Array.any_eq_true] at h1; obtain ⟨n, hn, he⟩ := h1; simp only [Bool.and_eq_true, beq_iff_eq] at he; have := hall _ (Array.getElem_mem hn) he.1
 rwa [he.2] at this

theorem wpAnyG_first (hL : waitsAll md ops L = true) {i : Nat} {oi : Oper} {v : Value} (hi : ops[i]? = some oi) (hsel : ∀ (j : Nat) (o : Oper) cs b, ops[j]? = some o → o.op ≠ .select cs b)
  (hQ : ∀ c a d v w, Q (.panic c) (Act.put a d v) w → Q (.panic c) a w) :
  ∀ (f : Nat) (listed : Array Bool) (a : Act) (w : World),
   (∀ j oj, ops[j]? = some oj → j ≠ i → listed.getD j true = false → (∀ e ∈ oj.after, Region.binds md e = true → e.on ≠ i) → oi.apart ops oj = true) →
   i ∈ Region.ready md ops listed → YieldsIf P ops S oi v a → S w →
   wpAnyG P md ops Q L S f (listed.setIfInBounds i true) (a.put oi.dst v) w → wpAnyG P md ops Q L S (f + 1) listed a w := by
 intro f
 induction f with
 | zero =>
  intro listed a w _ hr hy hS H; refine ⟨fun h => (by rw [h] at hr; cases hr), fun j hj => ?_⟩
  by_cases hji : j = i
  ·subst hji; exact hy.wpOp hi hS ⟨.inr hS, H⟩
  ·have h := ready_mono hj hji; rw [H.1] at h
   cases h
 | succ f ih =>
  intro listed a w hfree hr hy hS H; refine ⟨fun h => (by rw [h] at hr; cases hr), fun j hj => ?_⟩
  by_cases hji : j = i
  ·subst hji; exact hy.wpOp hi hS ⟨.inr hS, H⟩
  ·have h1 := H.2 j (ready_mono hj hji); obtain ⟨hjun, oj, hoj, hall⟩ := mem_ready.1 hj; have hlist : listed.getD i true = false := (mem_ready.1 hr).1
   have hnot : ∀ e ∈ oj.after, Region.binds md e = true → e.on ≠ i := by
    intro e he hb heq; have h2 := hall e he hb; rw [heq] at h2
    rcases Nat.lt_or_ge i listed.size with h' | h'
    ·simp [h'] at hlist h2; rw [hlist] at h2; cases h2
    ·simp [Array.getElem?_eq_none h'] at h2
   have h2 := wpOp_putIf hoj (hfree j oj hoj hji hjun hnot) (fun cs b => hsel i oi cs b hi) (fun cs b => hsel j oj cs b hoj) (fun c a w => hQ c a oi.dst v w) hy h1
   have hfree' : ∀ k ok, ops[k]? = some ok → k ≠ i → (listed.setIfInBounds j true).getD k true = false →
     (∀ e ∈ ok.after, Region.binds md e = true → e.on ≠ i) → oi.apart ops ok = true := by
    intro k ok hk hki hun hno; refine hfree k ok hk hki ?_ hno
    by_cases hjk : j = k
    ·subst hjk; exact hjun
    ·rw [getD_set_ne true hjk] at hun; exact hun
   have hjL : j ≠ L := by
    intro e; rw [e] at hj hji; have h3 := waitsAll_spec hL hj (k := i) (Array.getElem?_eq_some_iff.1 hi).1 (Ne.symm hji)
    rcases Nat.lt_or_ge i listed.size with h' | h'
    ·simp [h'] at hlist h3; rw [hlist] at h3; cases h3
    ·simp [Array.getElem?_eq_none h'] at h3
   refine wpOp_mono (fun a' w' h3 => ⟨?_, ?_⟩) h2
   ·exact .inr (h3.2.1.resolve_left hjL)
   ·refine ih (listed.setIfInBounds j true) a' w' hfree' (ready_mono hr (Ne.symm hji)) h3.1 (h3.2.1.resolve_left hjL) ?_; rw [Array.setIfInBounds_comm _ _ hji]; exact h3.2.2

def SeqW (P : Program) (ops : Array Oper) (Q : Exit → Act → World → Prop) (L : Nat) : List (Nat × Bool) → Act → World → Prop
 | [], a, w => Q .normal a w
 | (i, true) :: r, a, w => ∃ o v, ops[i]? = some o ∧ YieldsIf P ops (Ext w) o v a ∧ SeqW P ops Q L r (a.put o.dst v) w
 | (i, false) :: r, a, w => wpOp P ops Q i (fun a' w' => (i = L ∧ r = [] ∨ Ext w w') ∧ SeqW P ops Q L r a' w') a w

def seqOk (md : Region.Mode) (ops : Array Oper) : List (Nat × Bool) → Array Bool → Bool
 | [], listed => (Region.ready md ops listed).isEmpty
 | (i, true) :: r, listed => Region.free md ops listed i && (Region.ready md ops listed).contains i && seqOk md ops r (listed.setIfInBounds i true)
 | (i, false) :: r, listed => (Region.ready md ops listed == [i]) && seqOk md ops r (listed.setIfInBounds i true)

theorem seq_sound (hL : waitsAll md ops L = true) (hs : Region.noSelect ops = true) (hQ : ∀ c a d v w, Q (.panic c) (Act.put a d v) w → Q (.panic c) a w) :
  ∀ (l : List (Nat × Bool)) (listed : Array Bool) (a : Act) (w : World) (S : World → Prop), (∀ w', Ext w w' → S w') → seqOk md ops l listed = true → SeqW P ops Q L l a w → wpAnyG P md ops Q L S l.length listed a w
 | [], listed, a, w, S, _, hok, h => ⟨by simpa [seqOk] using hok, h⟩
 | (i, true) :: r, listed, a, w, S, hS, hok, h => by
  simp only [seqOk, Bool.and_eq_true] at hok; obtain ⟨o, v, ho, hy, h⟩ := h; have h1 := seq_sound hL hs hQ r (listed.setIfInBounds i true) (a.put o.dst v) w (Ext w) (fun _ hx => hx) hok.2 h; have h2 := wpAnyG_first hL ho (Region.noSelect_spec hs) hQ r.length listed a w (Region.free_spec ho hok.1.1) (by simpa using hok.1.2) hy (Ext.refl w) h1; exact wpAnyG_mono hS _ _ _ _ h2
 | (i, false) :: r, listed, a, w, S, hS, hok, h => by
  simp only [seqOk, Bool.and_eq_true, beq_iff_eq] at hok; refine ⟨fun h0 => (by rw [hok.1] at h0; cases h0), fun j hj => ?_⟩; rw [hok.1] at hj
  have e : j = i := by simpa using hj
  subst e; refine wpOp_mono (fun a' w' h' => ⟨?_, ?_⟩) h
  ·exact h'.1.imp (fun h => h.1) (hS w')
  ·rcases h'.1 with h1 | h1
   ·obtain ⟨_, h1⟩ := h1; subst h1; exact ⟨by simpa [seqOk] using hok.2, h'.2⟩
   ·exact seq_sound hL hs hQ r _ a' w' S (fun w2 hx => hS w2 (h1.trans hx)) hok.2 h'.2

theorem wp_region_seq {id : Nat} {a : Act} {w : World} (L : Nat) (l : List (Nat × Bool)) (hm : P.follows .mixedOrders = true)
  (hok : (seqOk .any ops l (Array.replicate ops.size false) && (l.length == ops.size) && waitsAll .any ops L && Region.noSelect ops) = true)
  (hQ : ∀ c a d v w, Q (.panic c) (Act.put a d v) w → Q (.panic c) a w) (h : SeqW P ops Q L l a w.drew) : (Code.region id ops true).wp P Q a w := by
 simp only [Bool.and_eq_true, beq_iff_eq] at hok; refine wp_region_any hm (wpAny_of_G (L := L) (S := Ext w.drew) _ _ _ _ ?_); rw [← hok.1.1.2]; have := seq_sound hok.1.2 hok.2 hQ l (Array.replicate ops.size false) a w.drew (Ext w.drew) (fun _ h => h) hok.1.1.1 h; rw [← hok.1.1.2] at this; exact this

def opAt : List Oper → Nat → Option Oper
 | [], _ => none
 | o :: _, 0 => some o
 | _ :: r, n + 1 => opAt r n
theorem opAt_eq : ∀ (l : List Oper) (n : Nat), opAt l n = l[n]?
 | [], _ => by simp [opAt]
 | _ :: _, 0 => rfl
 | _ :: r, n + 1 => by simp [opAt, opAt_eq r n]
theorem opAt_ops {i : Nat} {o : Oper} (h : opAt ops.toList i = some o) : ops[i]? = some o := by
 rw [opAt_eq] at h
 simpa using h
theorem sq_take {i : Nat} {r : List (Nat × Bool)} {a : Act} {w : World} {o : Oper} {v : Value} (ho : opAt ops.toList i = some o) (hg : o.guard = none)
  (hv : ∀ w', Ext w w' → (execOp a.eval o).run P w' = .ok (.value v) w') (h : SeqW P ops Q L r (a.put o.dst v) w) : SeqW P ops Q L ((i, true) :: r) a w :=
 ⟨o, v, opAt_ops ho, .inl ⟨by simp [Region.wanted, hg], hv⟩, h⟩
theorem sq_takeg {i : Nat} {r : List (Nat × Bool)} {a : Act} {w : World} {o : Oper} {v : Value} (ho : opAt ops.toList i = some o) (hg : Region.wanted o (yielded ops a.tmps) = true)
  (hv : ∀ w', Ext w w' → (execOp a.eval o).run P w' = .ok (.value v) w') (h : SeqW P ops Q L r (a.put o.dst v) w) : SeqW P ops Q L ((i, true) :: r) a w :=
 ⟨o, v, opAt_ops ho, .inl ⟨hg, hv⟩, h⟩
theorem sq_skip {i : Nat} {r : List (Nat × Bool)} {a : Act} {w : World} {o : Oper} (ho : opAt ops.toList i = some o) (hg : Region.wanted o (yielded ops a.tmps) = false)
  (h : SeqW P ops Q L r (a.put o.dst undef) w) : SeqW P ops Q L ((i, true) :: r) a w :=
 ⟨o, undef, opAt_ops ho, .inr ⟨hg, rfl⟩, h⟩
theorem sq_loud {i : Nat} {r : List (Nat × Bool)} {a : Act} {w : World} {o : Oper} (ho : opAt ops.toList i = some o) (hg : o.guard = none)
  (h : ∀ K : Act → World → Prop, (∀ a' w', Ext w w' → SeqW P ops Q L r a' w' → K a' w') → o.wp P a w K Q) : SeqW P ops Q L ((i, false) :: r) a w := by
 unfold SeqW wpOp; simp only [opAt_ops ho, Region.wanted, hg, if_true]; exact .inl (h _ fun a' w' hx hs => ⟨.inr hx, hs⟩)
theorem sq_loudg {i : Nat} {r : List (Nat × Bool)} {a : Act} {w : World} {o : Oper} (ho : opAt ops.toList i = some o) (hg : Region.wanted o (yielded ops a.tmps) = true)
  (h : ∀ K : Act → World → Prop, (∀ a' w', Ext w w' → SeqW P ops Q L r a' w' → K a' w') → o.wp P a w K Q) : SeqW P ops Q L ((i, false) :: r) a w := by
 unfold SeqW wpOp; simp only [opAt_ops ho, hg, if_true]; exact .inl (h _ fun a' w' hx hs => ⟨.inr hx, hs⟩)
theorem sq_noloud {i : Nat} {r : List (Nat × Bool)} {a : Act} {w : World} {o : Oper} (ho : opAt ops.toList i = some o) (hg : Region.wanted o (yielded ops a.tmps) = false)
  (h : SeqW P ops Q L r (a.put o.dst undef) w) : SeqW P ops Q L ((i, false) :: r) a w := by
 unfold SeqW wpOp; simp only [opAt_ops ho, hg, Bool.false_eq_true, if_false]; exact ⟨.inr (Ext.refl w), h⟩
theorem sq_last {a : Act} {w : World} {o : Oper} (ho : opAt ops.toList L = some o) (hg : o.guard = none)
  (h : ∀ K : Act → World → Prop, (∀ a' w', Q .normal a' w' → K a' w') → o.wp P a w K Q) : SeqW P ops Q L [(L, false)] a w := by
 unfold SeqW wpOp; simp only [opAt_ops ho, Region.wanted, hg, if_true]; exact .inl (h _ fun a' w' hs => ⟨.inl (by simp), hs⟩)
end

end Go.Proofs.YtpkfjbljhneenaaGreat

namespace Go.Proofs.YtpkfjbljhneenaaGreat
open Go.RowKit

set_option maxHeartbeats 400000 in
theorem at_c {A : Option Addr} {c : Nat} {l : List Nat} {w : World} {X : Nat → Prop} (h : Nl w X A c l) (k : Nat) (_hk : k < 4611686018427387904) :
  Calls Tryz.prog 109 #[.slice A l.length c, .int .i64 (k : Int)] w fun e w' => e = .returned (.int .u64 (nth l k : Nat)) ∧ w = w' := by
 have hm := h.2.1; have hl := h.1
 simp only [maxLen] at hm
 rcases Nat.lt_or_ge k l.length with hlt | hge
 ·obtain ⟨b, o, rfl, _, hc, hb⟩ := h.at_ hlt; have hc1 := hc k hlt; clear hc
  go_enter Tryz.func109, Tryz.ntmps109
  go_wp2
  go_ret
  exact ⟨rfl, rfl⟩
 ·have e := Lib.hid (nth_ge l k hge)
  go_enter Tryz.func109, Tryz.ntmps109
  go_wp2
  go_ret
  exact ⟨by rw [e.out]; rfl, rfl⟩

set_option maxHeartbeats 800000 in
theorem rtrim_c {A : Option Addr} {c : Nat} {l : List Nat} {w : World} {X : Nat → Prop} (h : Nl w X A c l) (hL : l.length ≤ 4398046511104) :
  Calls Tryz.prog 80 #[.slice A l.length c] w fun e w' => ∃ A' c', e = .returned (.slice A' (lim (nv l)).length c') ∧ Nl w' (w.heap.size ≤ ·) A' c' (lim (nv l)) ∧ Ext w w' := by
 have hlc := h.1; have hcm := h.2.1; have hb := h.lb; simp only [maxLen] at hcm
 go_enter Tryz.func80, Tryz.ntmps80
 go_wp2
 go_loopw [3] (fun v wr => ∃ k : Nat, k ≤ l.length ∧ v = .int .i64 k ∧ (∀ j, k ≤ j → j < l.length → nth l j = 0) ∧ Ext w wr) (fun v _ => (intOf v).toNat)
 case atStart => exact ⟨l.length, Nat.le_refl _, rfl, fun j h1 h2 => by omega, Ext.refl _⟩
 case round =>
  obtain ⟨k, hk, rfl, hz, hx⟩ := hrel
  have Hz := Lib.hid hz; clear hz
  have fin : (0 < k → nth l (k - 1) ≠ 0) → l.take k = lim (nv l) := take_lim hb hk Hz.out
  have Fin := Lib.hid fin; clear fin
  by_cases h0 : 0 < k ∧ nth l (k - 1) = 0
  ·obtain ⟨h0, hn⟩ := h0; obtain ⟨b, o, rfl, hX, hcell, _⟩ := (h.ext hx).at_ (k := k - 1) (by omega); have hc1 := hcell (k - 1) (by omega)
   have i0 : (0 : Int) < (k : Int) := by omega
   have hn' : (((nth l (k - 1) : Nat) : Int) == 0) = true := by simp [hn]
   have Hn := Lib.hid hn; clear hcell hn
   go_wp2_with fail
   go_roundw
   case rel =>
    refine ⟨k - 1, by omega, by go_num, fun j h1 h2 => ?_, hx⟩
    rcases Nat.eq_or_lt_of_le h1 with e | e
    ·rw [← e]; exact Hn.out
    ·exact Hz.out j (by omega) h2
   case measure => simp [intOf] <;> omega
  ·have e := Fin.out (fun h1 h2 => h0 ⟨h1, h2⟩); have E := Lib.hid e
   have ek : k = (lim (nv l)).length := by rw [← e, List.length_take]; omega
   clear e; have E2 := Lib.hid ek; clear ek
   by_cases h1 : 0 < k
   ·obtain ⟨b, o, rfl, hX, hcell, _⟩ := (h.ext hx).at_ (k := k - 1) (by omega); have hc1 := hcell (k - 1) (by omega)
    have i0 : (0 : Int) < (k : Int) := by omega
    have hn' : (((nth l (k - 1) : Nat) : Int) == 0) = false := beq_eq_false_iff_ne.2 (by omega); clear hcell
    go_wp2_with (first
     | (at_make; refine wpList_makeu (.tmp 19) (.tmp 19) _ k (Nat.le_refl _) (by omega) (by omega) (by omega) rfl rfl rfl rfl ?_; intro w1 hown hx1)
     | ((with_reducible refine wpList_copyu (o := ⟨some 23, _, _, _, _, _⟩) (k := k) (off := 0) (dp := some ⟨wr.heap.size, 0, none⟩) (dLen := k) (dCap := k) (.tmp 21) (.tmp 22) hown ((h.ext hx).ext hx1) ?_ ?_ ?_ ?_ ?_ ?_ ?_ ?_); omega; (intro _; first | rfl | (simp; done) | (simp; omega)); omega; rfl; rfl; rfl; rfl; intro w2 hown2 hg2))
    go_ret
    have hn2 := hown2.nl'.2
    have e3 : splice (List.replicate k 0) 0 (l.take k) = lim (nv l) := by
     have hl : (l.take k).length = k := by rw [List.length_take]; omega
     unfold splice; rw [List.take_zero, List.nil_append, hl, List.drop_eq_nil_of_le (by simp), List.append_nil, E.out]
    rw [e3] at hn2; have := hx.size; exact ⟨_, _, ret_slice E2.out, hn2.widen fun b hb _ => by omega, (hx.trans hx1).grown hg2 (by intro g hg; injection hg with hg; omega)⟩
   ·obtain rfl : k = 0 := by omega
    go_wp2_with (first
     | (at_make; refine wpList_makeu (.tmp 19) (.tmp 19) _ 0 (Nat.le_refl _) (by omega) (by omega) (by omega) rfl rfl rfl rfl ?_; intro w1 hown hx1)
     | ((with_reducible refine wpList_copyu (o := ⟨some 23, _, _, _, _, _⟩) (k := 0) (off := 0) (dp := some ⟨wr.heap.size, 0, none⟩) (dLen := 0) (dCap := 0) (.tmp 21) (.tmp 22) hown ((h.ext hx).ext hx1) ?_ ?_ ?_ ?_ ?_ ?_ ?_ ?_); omega; (intro _; first | rfl | (simp; done) | (simp; omega)); omega; rfl; rfl; rfl; rfl; intro w2 hown2 hg2))
    go_ret
    have := hx.size; have e4 := List.eq_nil_of_length_eq_zero E2.out.symm; rw [e4]; exact ⟨_, _, rfl, Sl.nil _ _ _ _ (Nat.zero_le _), (hx.trans hx1).grown hg2 (by intro g hg; injection hg with hg; omega)⟩

set_option maxHeartbeats 1600000 in
theorem radd_c {A B : Option Addr} {c d : Nat} {a b : List Nat} {w : World} {X Y : Nat → Prop} (ha : Nl w X A c a) (hb : Nl w Y B d b) (hLa : a.length ≤ 1099511627776) (hLb : b.length ≤ 1099511627776) :
  Calls Tryz.prog 77 #[.slice A a.length c, .slice B b.length d] w fun e w' => ∃ A' c', e = .returned (.slice A' (lim (nv a + nv b)).length c') ∧ Nl w' (w.heap.size ≤ ·) A' c' (lim (nv a + nv b)) ∧ Ext w w' := by
 have hla := ha.lb; have hlb := hb.lb
 go_enter Tryz.func77, Tryz.ntmps77
 go_wp2_with fail
 go_loopw [5, 6, 7] (fun ov cv iv wr => ∃ (i C : Nat) (out : List Nat), i ≤ a.length + b.length ∧ iv = .int .i64 i ∧ cv = .int .u64 C ∧ C ≤ 1 ∧ out.length = i ∧ Nown wr w.heap.size ov out ∧
   nv out + pw i * C = nv (a.take i) + nv (b.take i) ∧ Ext w wr) (fun _ _ iv _ => a.length + b.length - (intOf iv).toNat)
 case atStart => exact ⟨0, 0, [], Nat.zero_le _, rfl, rfl, by omega, rfl, Own.nil _ _ _ _, by simp [nv], Ext.refl _⟩
 case round =>
  obtain ⟨i, C, out, hi, rfl, rfl, hC, hlen, ho, hinv, hx⟩ := hrel
  have Hinv := Lib.hid hinv; have Hlen := Lib.hid hlen
  have hlen' : out.length ≤ i := by omega
  clear hinv hlen
  have b1 := hla.nth i; have b2 := hlb.nth i
  have hs := hx.size
  by_cases h1 : i < a.length
  ·have i1 : (i : Int) < (a.length : Int) := by omega
   go_wp2_with fail
   refine (at_c (ha.ext hx) i (by omega)).mono ?_; rintro e w1 ⟨rfl, rfl⟩
   go_wp2_with fail
   refine (at_c (hb.ext hx) i (by omega)).mono ?_; rintro e w1 ⟨rfl, rfl⟩
   go_wp2_with (at_builtin; refine wpList_appu1 (.tmp 30) (.tmp 34) ((nth a i + nth b i + C) % 4294967296) ho (by omega) (by omega) (by omega) hx.size rfl rfl rfl rfl ?_; intro v1 w2 hown hg)
   go_roundw
   case rel => exact ⟨i + 1, (nth a i + nth b i + C) / 4294967296, _, by omega, by go_num, congrArg (Value.int .u64) (by omega), by omega, by rw [List.length_append, Hlen.out]; rfl, hown, radd_step Hinv.out Hlen.out rfl, (hx.alloc _).grown hg (fun k hk => (ho.row k hk).1)⟩
   case measure => simp [intOf] <;> omega
  ·have i1 : ¬ (i : Int) < (a.length : Int) := by omega
   by_cases h2 : i < b.length
   ·have i2 : (i : Int) < (b.length : Int) := by omega
    go_wp2_with fail
    refine (at_c (ha.ext hx) i (by omega)).mono ?_; rintro e w1 ⟨rfl, rfl⟩
    go_wp2_with fail
    refine (at_c (hb.ext hx) i (by omega)).mono ?_; rintro e w1 ⟨rfl, rfl⟩
    go_wp2_with (at_builtin; refine wpList_appu1 (.tmp 30) (.tmp 34) ((nth a i + nth b i + C) % 4294967296) ho (by omega) (by omega) (by omega) hx.size rfl rfl rfl rfl ?_; intro v1 w2 hown hg)
    go_roundw
    case rel => exact ⟨i + 1, (nth a i + nth b i + C) / 4294967296, _, by omega, by go_num, congrArg (Value.int .u64) (by omega), by omega, by rw [List.length_append, Hlen.out]; rfl, hown, radd_step Hinv.out Hlen.out rfl, (hx.alloc _).grown hg (fun k hk => (ho.row k hk).1)⟩
    case measure => simp [intOf] <;> omega
   ·have i2 : ¬ (i : Int) < (b.length : Int) := by omega
    have e1 : nv (out ++ [C]) = nv a + nv b := by
     rw [nv_snoc, Hlen.out, Hinv.out, nv_take_ge a _ (by omega), nv_take_ge b _ (by omega)]
    have E1 := Lib.hid e1; clear e1
    go_wp2_with (at_builtin; refine wpList_appu1 (.tmp 38) (.tmp 41) C ho (by omega) (by omega) (by omega) hx.size rfl rfl rfl rfl ?_; intro v1 w2 hown hg)
    obtain ⟨A1, c1, rfl, h3⟩ := hown.nl; have hc := rtrim_c h3 (by rw [List.length_append, List.length_singleton]; omega); rw [E1.out] at hc; have hx2 : Ext w w2 := (hx.alloc _).grown hg (fun k hk => (ho.row k hk).1)
    go_wp2_with fail
    refine hc.mono ?_; rintro e w3 ⟨A2, c2, rfl, h4, hx3⟩
    go_wp2
    go_ret
    have := hx2.size; exact ⟨_, _, rfl, h4.widen fun b hb _ => by omega, hx2.trans hx3⟩

set_option maxHeartbeats 1600000 in
theorem rcmp_c {A B : Option Addr} {c d : Nat} {a b : List Nat} {w : World} {X Y : Nat → Prop} (ha : Nl w X A c a) (hb : Nl w Y B d b) (hLa : a.length ≤ 35184372088832) (hLb : b.length ≤ 35184372088832) :
  Calls Tryz.prog 78 #[.slice A a.length c, .slice B b.length d] w fun e w' => e = .returned (.int .i64 (cmpN (nv a) (nv b))) ∧ w = w' := by
 have hla := ha.lb; have hlb := hb.lb
 go_enter Tryz.func78, Tryz.ntmps78
 go_wp2_with fail
 go_loop [5, 6] (fun ov iv => ∃ i : Nat, i ≤ a.length + b.length ∧ iv = .int .i64 i ∧ ov = .int .i64 (cmpN (nv (a.take i)) (nv (b.take i)))) (fun _ iv => a.length + b.length - (intOf iv).toNat)
 case atStart => exact ⟨0, Nat.zero_le _, rfl, by simp [nv, cmpN]⟩
 case round =>
  obtain ⟨i, hi, rfl, rfl⟩ := hrel
  by_cases h1 : i < a.length
  ·have i1 : (i : Int) < (a.length : Int) := by omega
   obtain ⟨s1, s2, s3⟩ := cmp_step hla hlb i (.inr trivial)
   rcases Nat.lt_trichotomy (nth a i) (nth b i) with hh | hh | hh
   ·have s1' := Lib.hid (s1 hh); clear s1 s2 s3
    have j1 : ((nth a i : Nat) : Int) < ((nth b i : Nat) : Int) := by omega
    have j2 : ¬ ((nth b i : Nat) : Int) < ((nth a i : Nat) : Int) := by omega
    go_wp2_with fail
    refine (at_c ha i (by omega)).mono ?_; rintro e w1 ⟨rfl, rfl⟩
    go_wp2_with fail
    refine (at_c hb i (by omega)).mono ?_; rintro e w1 ⟨rfl, rfl⟩
    go_wp2_with fail
    refine (at_c ha i (by omega)).mono ?_; rintro e w1 ⟨rfl, rfl⟩
    go_wp2_with fail
    refine (at_c hb i (by omega)).mono ?_; rintro e w1 ⟨rfl, rfl⟩
    go_wp2_with fail
    go_round
    case rel => exact ⟨i + 1, by omega, by go_num, congrArg (Value.int .i64) s1'.out.symm⟩
    case measure => simp [intOf] <;> omega
   ·have s1' := Lib.hid (s3 hh); clear s1 s2 s3
    have j1 : ¬ ((nth a i : Nat) : Int) < ((nth b i : Nat) : Int) := by omega
    have j2 : ¬ ((nth b i : Nat) : Int) < ((nth a i : Nat) : Int) := by omega
    clear hh
    go_wp2_with fail
    refine (at_c ha i (by omega)).mono ?_; rintro e w1 ⟨rfl, rfl⟩
    go_wp2_with fail
    refine (at_c hb i (by omega)).mono ?_; rintro e w1 ⟨rfl, rfl⟩
    go_wp2_with fail
    refine (at_c ha i (by omega)).mono ?_; rintro e w1 ⟨rfl, rfl⟩
    go_wp2_with fail
    refine (at_c hb i (by omega)).mono ?_; rintro e w1 ⟨rfl, rfl⟩
    go_wp2_with fail
    go_round
    case rel => exact ⟨i + 1, by omega, by go_num, congrArg (Value.int .i64) s1'.out.symm⟩
    case measure => simp [intOf] <;> omega
   ·have s1' := Lib.hid (s2 hh); clear s1 s2 s3
    have j1 : ¬ ((nth a i : Nat) : Int) < ((nth b i : Nat) : Int) := by omega
    have j2 : ((nth b i : Nat) : Int) < ((nth a i : Nat) : Int) := by omega
    go_wp2_with fail
    refine (at_c ha i (by omega)).mono ?_; rintro e w1 ⟨rfl, rfl⟩
    go_wp2_with fail
    refine (at_c hb i (by omega)).mono ?_; rintro e w1 ⟨rfl, rfl⟩
    go_wp2_with fail
    refine (at_c ha i (by omega)).mono ?_; rintro e w1 ⟨rfl, rfl⟩
    go_wp2_with fail
    refine (at_c hb i (by omega)).mono ?_; rintro e w1 ⟨rfl, rfl⟩
    go_wp2_with fail
    go_round
    case rel => exact ⟨i + 1, by omega, by go_num, congrArg (Value.int .i64) s1'.out.symm⟩
    case measure => simp [intOf] <;> omega
  ·have i1 : ¬ (i : Int) < (a.length : Int) := by omega
   by_cases h2 : i < b.length
   ·have i2 : (i : Int) < (b.length : Int) := by omega
    obtain ⟨s1, s2, s3⟩ := cmp_step hla hlb i (.inr trivial)
    rcases Nat.lt_trichotomy (nth a i) (nth b i) with hh | hh | hh
    ·have s1' := Lib.hid (s1 hh); clear s1 s2 s3
     have j1 : ((nth a i : Nat) : Int) < ((nth b i : Nat) : Int) := by omega
     have j2 : ¬ ((nth b i : Nat) : Int) < ((nth a i : Nat) : Int) := by omega
     go_wp2_with fail
     refine (at_c ha i (by omega)).mono ?_; rintro e w1 ⟨rfl, rfl⟩
     go_wp2_with fail
     refine (at_c hb i (by omega)).mono ?_; rintro e w1 ⟨rfl, rfl⟩
     go_wp2_with fail
     refine (at_c ha i (by omega)).mono ?_; rintro e w1 ⟨rfl, rfl⟩
     go_wp2_with fail
     refine (at_c hb i (by omega)).mono ?_; rintro e w1 ⟨rfl, rfl⟩
     go_wp2_with fail
     go_round
     case rel => exact ⟨i + 1, by omega, by go_num, congrArg (Value.int .i64) s1'.out.symm⟩
     case measure => simp [intOf] <;> omega
    ·have s1' := Lib.hid (s3 hh); clear s1 s2 s3
     have j1 : ¬ ((nth a i : Nat) : Int) < ((nth b i : Nat) : Int) := by omega
     have j2 : ¬ ((nth b i : Nat) : Int) < ((nth a i : Nat) : Int) := by omega
     clear hh
     go_wp2_with fail
     refine (at_c ha i (by omega)).mono ?_; rintro e w1 ⟨rfl, rfl⟩
     go_wp2_with fail
     refine (at_c hb i (by omega)).mono ?_; rintro e w1 ⟨rfl, rfl⟩
     go_wp2_with fail
     refine (at_c ha i (by omega)).mono ?_; rintro e w1 ⟨rfl, rfl⟩
     go_wp2_with fail
     refine (at_c hb i (by omega)).mono ?_; rintro e w1 ⟨rfl, rfl⟩
     go_wp2_with fail
     go_round
     case rel => exact ⟨i + 1, by omega, by go_num, congrArg (Value.int .i64) s1'.out.symm⟩
     case measure => simp [intOf] <;> omega
    ·have s1' := Lib.hid (s2 hh); clear s1 s2 s3
     have j1 : ¬ ((nth a i : Nat) : Int) < ((nth b i : Nat) : Int) := by omega
     have j2 : ((nth b i : Nat) : Int) < ((nth a i : Nat) : Int) := by omega
     go_wp2_with fail
     refine (at_c ha i (by omega)).mono ?_; rintro e w1 ⟨rfl, rfl⟩
     go_wp2_with fail
     refine (at_c hb i (by omega)).mono ?_; rintro e w1 ⟨rfl, rfl⟩
     go_wp2_with fail
     refine (at_c ha i (by omega)).mono ?_; rintro e w1 ⟨rfl, rfl⟩
     go_wp2_with fail
     refine (at_c hb i (by omega)).mono ?_; rintro e w1 ⟨rfl, rfl⟩
     go_wp2_with fail
     go_round
     case rel => exact ⟨i + 1, by omega, by go_num, congrArg (Value.int .i64) s1'.out.symm⟩
     case measure => simp [intOf] <;> omega
   ·have i2 : ¬ (i : Int) < (b.length : Int) := by omega
    have e1 := Lib.hid (nv_take_ge a i (by omega)); have e2 := Lib.hid (nv_take_ge b i (by omega))
    go_wp2_with fail
    go_ret
    exact ⟨ret_int (by rw [e1.out, e2.out]), rfl⟩

set_option maxHeartbeats 1600000 in
theorem rsub_c {A B : Option Addr} {c d : Nat} {a b : List Nat} {w : World} {X Y : Nat → Prop} (ha : Nl w X A c a) (hb : Nl w Y B d b) (hv : nv b ≤ nv a) (hLa : a.length ≤ 1099511627776) :
  Calls Tryz.prog 79 #[.slice A a.length c, .slice B b.length d] w fun e w' => ∃ A' c', e = .returned (.slice A' (lim (nv a - nv b)).length c') ∧ Nl w' (w.heap.size ≤ ·) A' c' (lim (nv a - nv b)) ∧ Ext w w' := by
 have hla := ha.lb; have hlb := hb.lb
 go_enter Tryz.func79, Tryz.ntmps79
 go_wp2_with fail
 go_loopw [5, 6, 7] (fun ov cv iv wr => ∃ (i C : Nat) (out : List Nat), i ≤ a.length ∧ iv = .int .i64 i ∧ cv = .int .u64 C ∧ C ≤ 1 ∧ out.length = i ∧ Nown wr w.heap.size ov out ∧
   nv out + nv (b.take i) = nv (a.take i) + pw i * C ∧ Ext w wr) (fun _ _ iv _ => a.length - (intOf iv).toNat)
 case atStart => exact ⟨0, 0, [], Nat.zero_le _, rfl, rfl, by omega, rfl, Own.nil _ _ _ _, by simp [nv], Ext.refl _⟩
 case round =>
  obtain ⟨i, C, out, hi, rfl, rfl, hC, hlen, ho, hinv, hx⟩ := hrel
  have Hinv := Lib.hid hinv; have Hlen := Lib.hid hlen
  have hlen' : out.length ≤ i := by omega
  clear hinv hlen
  have b1 := hla.nth i; have b2 := hlb.nth i
  have hs := hx.size
  by_cases h1 : i < a.length
  ·have i1 : (i : Int) < (a.length : Int) := by omega
   go_wp2_with fail
   refine (at_c (ha.ext hx) i (by omega)).mono ?_; rintro e w1 ⟨rfl, rfl⟩
   go_wp2_with fail
   refine (at_c (hb.ext hx) i (by omega)).mono ?_; rintro e w1 ⟨rfl, rfl⟩
   go_wp2_with (at_builtin; refine wpList_appu1 (.tmp 25) (.tmp 29) ((nth a i + 4294967296 - nth b i - C) % 4294967296) ho (by omega) (by omega) (by omega) hx.size rfl rfl rfl rfl ?_; intro v1 w2 hown hg)
   go_roundw
   case rel => exact ⟨i + 1, 1 - (nth a i + 4294967296 - nth b i - C) / 4294967296, _, by omega, by go_num, congrArg (Value.int .u64) (by omega), by omega, by rw [List.length_append, Hlen.out]; rfl, hown, rsub_step Hinv.out Hlen.out (by omega) (by omega), (hx.alloc _).grown hg (fun k hk => (ho.row k hk).1)⟩
   case measure => simp [intOf] <;> omega
  ·obtain rfl : i = a.length := by omega
   obtain ⟨A1, c1, rfl, h3⟩ := ho.nl; have e1 := rsub_end ho.lb hla Hlen.out hv Hinv.out; have hc := rtrim_c h3 (by omega); rw [e1] at hc; clear e1
   go_wp2_with fail
   refine hc.mono ?_; rintro e w3 ⟨A2, c2, rfl, h4, hx3⟩
   go_wp2
   go_ret
   exact ⟨_, _, rfl, h4.widen fun b hb _ => by omega, hx.trans hx3⟩

set_option maxHeartbeats 1600000 in
theorem rtimes_c {A : Option Addr} {c : Nat} {a : List Nat} {w : World} {X : Nat → Prop} (ha : Nl w X A c a) (n m : Nat) (hn : n < 4294967296) (hm : m < 4294967296) (hLa : a.length ≤ 2199023255552) :
  Calls Tryz.prog 130 #[.slice A a.length c, .int .u32 (n : Int), .int .u32 (m : Int)] w fun e w' => ∃ A' c', e = .returned (.slice A' (lim (nv a * n + m)).length c') ∧ Nl w' (w.heap.size ≤ ·) A' c' (lim (nv a * n + m)) ∧ Ext w w' := by
 have hla := ha.lb
 go_enter Tryz.func130, Tryz.ntmps130
 go_wp2_with fail
 go_loopw [7, 8, 9] (fun ov cv iv wr => ∃ (i C : Nat) (out : List Nat), i ≤ a.length ∧ iv = .int .i64 i ∧ cv = .int .u64 C ∧ C < 4294967296 ∧ out.length = i ∧ Nown wr w.heap.size ov out ∧
   nv out + pw i * C = nv (a.take i) * n + m ∧ Ext w wr) (fun _ _ iv _ => a.length - (intOf iv).toNat)
 case atStart => exact ⟨0, m, [], Nat.zero_le _, rfl, rfl, by omega, rfl, Own.nil _ _ _ _, by simp [nv, pw_zero], Ext.refl _⟩
 case round =>
  obtain ⟨i, C, out, hi, rfl, rfl, hC, hlen, ho, hinv, hx⟩ := hrel
  have Hinv := Lib.hid hinv; have Hlen := Lib.hid hlen
  have hlen' : out.length ≤ i := by omega
  clear hinv hlen; have b1 := hla.nth i; have hs := hx.size; have hprod : nth a i * n ≤ 4294967295 * 4294967295 := Nat.mul_le_mul (by omega) (by omega)
  have hprod2 : ((nth a i : Nat) : Int) * (n : Int) = ((nth a i * n : Nat) : Int) := by rw [Int.natCast_mul]
  have hp3 : ((nth a i : Nat) : Int) * (n : Int) ≤ 18446744065119617025 := by omega
  have hp4 : 0 ≤ ((nth a i : Nat) : Int) * (n : Int) := by omega
  have Hp2 := Lib.hid hprod2; clear hprod2
  by_cases h1 : i < a.length
  ·have i1 : (i : Int) < (a.length : Int) := by omega
   obtain ⟨b, o, rfl, _, hc1, _⟩ := (ha.ext hx).at_ h1; have c1' := hc1 i h1; clear hc1
   go_wp2_with (at_builtin; refine wpList_appu1 (.tmp 29) (.tmp 33) ((nth a i * n + C) % 4294967296) ho (by rw [Hp2.out]; omega) (by omega) (by omega) hx.size rfl rfl rfl rfl ?_; intro v1 w2 hown hg)
   go_roundw
   case rel => exact ⟨i + 1, (nth a i * n + C) / 4294967296, _, by omega, by go_num, congrArg (Value.int .u64) (by rw [Hp2.out]; omega), by omega, by rw [List.length_append, Hlen.out]; rfl, hown, rtimes_step Hinv.out Hlen.out rfl, (hx.alloc _).grown hg (fun k hk => (ho.row k hk).1)⟩
   case measure => simp [intOf] <;> omega
  ·obtain rfl : i = a.length := by omega
   have e1 : nv (out ++ [C]) = nv a * n + m := by
    rw [nv_snoc, Hlen.out, Hinv.out, nv_take_ge a _ (Nat.le_refl _)]
   have E1 := Lib.hid e1; clear e1
   go_wp2_with (at_builtin; refine wpList_appu1 (.tmp 37) (.tmp 40) C ho (by omega) (by omega) (by omega) hx.size rfl rfl rfl rfl ?_; intro v1 w2 hown hg)
   obtain ⟨A1, c1, rfl, h3⟩ := hown.nl; have hc := rtrim_c h3 (by rw [List.length_append, List.length_singleton]; omega); rw [E1.out] at hc; have hx2 : Ext w w2 := (hx.alloc _).grown hg (fun k hk => (ho.row k hk).1)
   go_wp2_with fail
   refine hc.mono ?_; rintro e w3 ⟨A2, c2, rfl, h4, hx3⟩
   go_wp2
   go_ret
   have := hx2.size; exact ⟨_, _, rfl, h4.widen fun b hb _ => by omega, hx2.trans hx3⟩

set_option maxHeartbeats 1600000 in
theorem rmul_c {A B : Option Addr} {c d : Nat} {a b : List Nat} {w : World} {X Y : Nat → Prop} (ha : Nl w X A c a) (hb : Nl w Y B d b) (hLa : a.length ≤ 549755813888) (hLb : b.length ≤ 549755813888) :
  Calls Tryz.prog 111 #[.slice A a.length c, .slice B b.length d] w fun e w' => ∃ A' c', e = .returned (.slice A' (lim (nv a * nv b)).length c') ∧ Nl w' (w.heap.size ≤ ·) A' c' (lim (nv a * nv b)) ∧ Ext w w' := by
 have hlim := lim_len_le ha.lb
 go_enter Tryz.func111, Tryz.ntmps111
 go_wp2_with fail
 refine (rtrim_c ha (by omega)).mono ?_; rintro e w1 ⟨A1, c1, rfl, h1, hx1⟩; obtain ⟨x, hxx⟩ : ∃ x, x = lim (nv a) := ⟨_, rfl⟩
 have hva : nv x = nv a := by rw [hxx, nv_lim]
 rw [← hxx] at h1 hlim ⊢; have Hva := Lib.hid hva; clear hva hxx; have hlx := h1.lb
 have hm1 := h1.2.1; have hl1 := h1.1
 simp only [maxLen] at hm1
 go_wp2_with fail
 go_loopw [6, 7] (fun ov iv wr => ∃ (i : Nat) (out : List Nat) (A2 : Option Addr) (c2 : Nat), i ≤ x.length ∧ iv = .int .i64 ((i : Int) - 1) ∧ ov = .slice A2 out.length c2 ∧ Nl wr (w.heap.size ≤ ·) A2 c2 out ∧
   nv out = nv (x.drop i) * nv b ∧ out.length ≤ x.length - i + b.length ∧ Ext w1 wr) (fun _ iv _ => (intOf iv + 1).toNat)
 case atStart => exact ⟨x.length, [], none, 0, Nat.le_refl _, rfl, rfl, Sl.nil0 _ _ _, by simp [nv], Nat.zero_le _, Ext.refl _⟩
 case round =>
  obtain ⟨i, out, A2, c2, hi, rfl, rfl, ho, hinv, hlen, hx⟩ := hrel
  have Hinv := Lib.hid hinv; clear hinv
  have hs1 := hx1.size; have hs := hx.size
  rcases Nat.eq_zero_or_pos i with h0 | h0
  ·subst h0; have hc := rtrim_c ho (by omega)
   have e1 : nv out = nv a * nv b := by rw [Hinv.out, List.drop_zero, Hva.out]
   rw [e1] at hc; clear e1
   go_wp2_with fail
   refine hc.mono ?_; rintro e w3 ⟨A3, c3, rfl, h4, hx3⟩
   go_wp2
   go_ret
   exact ⟨_, _, rfl, h4.widen fun b hb _ => by omega, (hx1.trans hx).trans hx3⟩
  ·obtain ⟨j, rfl⟩ : ∃ j, i = j + 1 := ⟨i - 1, by omega⟩
   have ej : (((j + 1 : Nat) : Int) - 1) = (j : Int) := by omega
   rw [ej]; clear ej; obtain ⟨b1, o1, rfl, _, hc1, hb1⟩ := (h1.ext hx).at_ (k := j) (by omega); have c1' := hc1 j (by omega); clear hc1
   have i2 : (j : Int) < (x.length : Int) := by omega
   have hol := ho.lb
   go_upto_region 7 with (at_make; refine wpList_makeu (.tmp 20) (.tmp 20) _ (out.length + 1) (Nat.le_refl _) (by omega) (by omega) (by omega) rfl rfl rfl rfl ?_; intro w2 hown hx2)
   have hblt := World.block_lt_of_cell? _ _ c1'
   iterate 10 go_step
   obtain ⟨dpv, hdpv⟩ : ∃ v : Option Addr, v = (if out = [] then some ⟨wr.heap.size, 0, none⟩ else some ⟨wr.heap.size, 1, none⟩) := ⟨_, rfl⟩; rw [← hdpv]
   have hd1 : 0 < out.length → dpv = some ⟨wr.heap.size, 1, none⟩ := by
    intro hh; rw [hdpv, if_neg (by intro h; rw [h] at hh; simp at hh)]
   have Hd1 := Lib.hid hd1; clear hdpv hd1
   with_reducible refine wpList_copyu (o := ⟨some 25, _, _, _, _, _⟩) (k := out.length) (off := 1) (dp := dpv) (dLen := out.length) (dCap := out.length) (.tmp 23) (.tmp 24) hown (ho.ext hx2) ?_ ?_ ?_ ?_ ?_ ?_ ?_ ?_
   ·omega
   ·exact Hd1.out
   ·omega
   ·rfl
   ·rfl
   ·rfl
   ·rfl
   intro w3 hown3 hg3
   have e5 : splice (List.replicate (out.length + 1) 0) 1 (out.take out.length) = 0 :: out := by
    unfold splice; rw [List.take_length, List.drop_eq_nil_of_le (by simp; omega), List.append_nil]
    rfl
   rw [e5] at hown3; clear e5; have hnl := hown3.nl'.2; have hx3 : Ext wr w3 := hx2.grown hg3 (by intro g hg; injection hg with hg; omega); have hs3 := hx3.size
   have e6 : nv (0 :: out) = nv (x.drop (j + 1)) * nv b * 4294967296 := by
    simp only [nv]; rw [Hinv.out]; omega
   have hc1 := (Ext.cells hx3)
   have E6 := Lib.hid e6; clear e6
   have ht := rtimes_c (((hb.ext hx1).ext hx).ext hx3) (nth x j) 0 hb1 (by omega) (by omega); simp only [Nat.add_zero] at ht; have Ht := Lib.hid ht; clear ht
   go_wp2_with fail
   refine (Ht.out).mono ?_; rintro e w4 ⟨A4, c4, rfl, h4, hx4⟩
   have hlt4 : (lim (nv b * nth x j)).length ≤ b.length + 1 := by
    have h1 := nv_lt hb.lb
    apply lim_pw
    rw [pw_succ, Nat.mul_comm 4294967296]; exact Nat.mul_lt_mul_of_lt_of_le h1 (by omega) (by omega)
   have hr := radd_c (hnl.ext hx4) h4 (by simp only [List.length_cons]; omega) (by omega)
   have e7 : nv (0 :: out) + nv (lim (nv b * nth x j)) = nv (x.drop j) * nv b := by
    rw [E6.out, nv_lim, nv_drop x j (by omega), Nat.add_mul, Nat.mul_comm (nv b), Nat.mul_assoc 4294967296, Nat.mul_comm 4294967296]
    omega
   rw [e7] at hr; simp only [List.length_cons] at hr; have Hr := Lib.hid hr; clear e7 hr
   go_wp2_with fail
   refine (Hr.out).mono ?_; rintro e w5 ⟨A5, c5, rfl, h5, hx5⟩; have hs4 := hx4.size
   have hl5 : (lim (nv (x.drop j) * nv b)).length ≤ x.length - j + b.length := by
    apply lim_pw
    have h1 := nv_lt (hlx.drop j); have h2 := nv_lt hb.lb; rw [List.length_drop] at h1; rw [pw_add]; exact Nat.mul_lt_mul_of_lt_of_le h1 (by omega) (pw_pos _)
   have E8 := Lib.hid (nv_lim (nv (x.drop j) * nv b))
   go_wp2_with fail
   go_roundw
   case rel => exact ⟨j, _, A5, c5, by omega, by go_num, rfl, h5.widen fun b hb _ => by omega, E8.out, by omega, ((hx.trans hx3).trans hx4).trans hx5⟩
   case measure => simp [intOf] <;> omega

end Go.Proofs.YtpkfjbljhneenaaGreat

namespace Go.Proofs.YtpkfjbljhneenaaGreat
open Go.RowKit

set_option maxHeartbeats 400000 in
theorem rnorm_c {v : Value} {z : Z} {w : World} {X : Nat → Prop} (h : Zi w X v z) (hL : z.mag.length ≤ 4398046511104) :
  Calls Tryz.prog 39 #[v] w fun e w' => ∃ r, e = .returned r ∧ Zi w' (w.heap.size ≤ ·) r (cz z.v) ∧ Ext w w' := by
 obtain ⟨A, c, rfl, h⟩ := h; obtain ⟨n, l⟩ := z; have hcz := Lib.hid (cz_made n l)
 go_enter Tryz.func39, Tryz.ntmps39
 go_wp2_with fail
 refine (rtrim_c (h.ext xt) hL).mono ?_; rintro e w1 ⟨A1, c1, rfl, h1, hx⟩; have hc := hx.cells
 cases n <;> go_wp2_with fail
 ·(refine bodyPost_ret (v := ?_) ?_ rfl ?_; rotate_left; (simp only [results, Tryz.results39]; go_simp; (first | done | with_reducible rfl)))
  refine ⟨_, rfl, ?_, xt⟩; rw [hcz.out]; exact ⟨A1, c1, rfl, (h1.keep kpt).widen (fun b hb _ => by first | omega | (dsimp only at hb ⊢; omega) | (dsimp only at hb; omega) | (simp only [wsz] at hb ⊢; omega) | (simp only [wsz] at hb; omega))⟩
 ·(refine bodyPost_ret (v := ?_) ?_ rfl ?_; rotate_left; (simp only [results, Tryz.results39]; go_simp; (first | done | with_reducible rfl)))
  refine ⟨_, rfl, ?_, xt⟩; rw [hcz.out]; exact ⟨A1, c1, by rw [Bool.true_and], (h1.keep kpt).widen (fun b hb _ => by first | omega | (dsimp only at hb ⊢; omega) | (dsimp only at hb; omega) | (simp only [wsz] at hb ⊢; omega) | (simp only [wsz] at hb; omega))⟩

set_option maxHeartbeats 400000 in
theorem rsign_c {v : Value} {z : Z} {w : World} {X : Nat → Prop} (h : Zi w X v z) (hL : z.mag.length ≤ 4398046511104) :
  Calls Tryz.prog 91 #[v] w fun e w' => e = .returned (.int .i64 (sgn z.v)) ∧ Ext w w' := by
 obtain ⟨A, c, rfl, h⟩ := h
 go_enter Tryz.func91, Tryz.ntmps91
 go_wp2_with fail
 refine (rnorm_c ⟨A, c, rfl, h.ext xt⟩ hL).mono ?_; rintro e w1 ⟨r, rfl, ⟨A1, c1, rfl, h1⟩, hx⟩; have hc := hx.cells
 (have hs := Ext.size hx; (try simp only [wsz] at hs))
 have hz := lim_len_pos z.v.natAbs; have hlen := cz_len z.v; unfold zl at hlen
 rcases Int.lt_trichotomy z.v 0 with h0 | h0 | h0
 ·have e0 : sgn z.v = -1 := cmpI_lt h0
  have e1 : (cz z.v).neg = true := by simp [cz, h0]
  have i1 : ((((cz z.v).mag.length : Nat) : Int) == 0) = false := beq_eq_false_iff_ne.2 (by omega); have E0 := Lib.hid e0; clear hlen hz e0
  go_wp2_with fail
  go_ret
  exact ⟨ret_int E0.out.symm, xt⟩
 ·have e0 : sgn z.v = 0 := cmpI_eq h0
  have i1 : ((((cz z.v).mag.length : Nat) : Int) == 0) = true := by rw [beq_iff_eq, hlen, h0]; rfl
  have E0 := Lib.hid e0; clear hlen hz e0 h0
  go_wp2_with fail
  go_ret
  exact ⟨ret_int E0.out.symm, xt⟩
 ·have e0 : sgn z.v = 1 := cmpI_gt h0
  have e1 : (cz z.v).neg = false := by simp [cz]; omega
  have i1 : ((((cz z.v).mag.length : Nat) : Int) == 0) = false := beq_eq_false_iff_ne.2 (by omega); have E0 := Lib.hid e0; clear hlen hz e0
  go_wp2_with fail
  go_ret
  exact ⟨ret_int E0.out.symm, xt⟩

set_option maxHeartbeats 800000 in
theorem rcmpz_c {u v : Value} {x y : Z} {w : World} {X Y : Nat → Prop} (hx : Zi w X u x) (hy : Zi w Y v y) (hLx : x.mag.length ≤ 4398046511104) (hLy : y.mag.length ≤ 4398046511104) :
  Calls Tryz.prog 81 #[u, v] w fun e w' => e = .returned (.int .i64 (cmpI x.v y.v)) ∧ Ext w w' := by
 obtain ⟨A, c, rfl, h1⟩ := hx; obtain ⟨B, d, rfl, h2⟩ := hy
 have hs1 := fun (W : World) (h : Nl W X A c x.mag) => rsign_c (v := .agg #[.bool x.neg, .slice A x.mag.length c]) (z := x) ⟨A, c, rfl, h⟩ hLx
 have hs2 := fun (W : World) (h : Nl W Y B d y.mag) => rsign_c (v := .agg #[.bool y.neg, .slice B y.mag.length d]) (z := y) ⟨B, d, rfl, h⟩ hLy
 have hlt := @sgn_lt x.v y.v; have hgt := @sgn_lt y.v x.v; have heq := @cmp_mags x y; have b1 := sgn_bd x.v; have b2 := sgn_bd y.v; generalize sgn x.v = s at *; generalize sgn y.v = t at *
 have Hs1 := Lib.hid hs1; have Hs2 := Lib.hid hs2; have Hlt := Lib.hid hlt; have Hgt := Lib.hid hgt; have Heq := Lib.hid heq
 clear hs1 hs2 hlt hgt heq; obtain ⟨b1, b1'⟩ := b1; obtain ⟨b2, b2'⟩ := b2
 go_enter Tryz.func81, Tryz.ntmps81
 go_wp2_with fail
 refine (Hs1.out _ (h1.ext xt)).mono ?_; rintro e w1 ⟨rfl, hx⟩; have hc := hx.cells
 go_wp2_with fail
 refine (Hs2.out _ (h2.ext xt)).mono ?_; rintro e w2 ⟨rfl, hx2⟩
 (replace hx := Ext.trans hx hx2; clear hx2; have hc2 := Ext.cells hx)
 have hw : ∀ W, Ext w2 W → Ext w W := fun W h => Ext.trans xt h
 rcases Int.lt_trichotomy s t with hst | hst | hst
 ·have hne : (s != t) = true := by rw [bne_iff_ne]; omega
  have hcm := Lib.hid (cmpI_lt (Hlt.out hst))
  go_wp2_with fail
  go_ret
  exact ⟨ret_int (by rw [hcm.out] <;> omega), hw _ xt⟩
 ·have hne : (s != t) = false := by simp [hst]
  have Hst := Lib.hid hst; clear hst
  go_wp2_with fail
  refine (rcmp_c (h1.ext (hw _ xt)) (h2.ext (hw _ xt)) (by omega) (by omega)).mono ?_; rintro e w3 ⟨rfl, rfl⟩; have hbd := cmpN_I (nv x.mag) (nv y.mag); have hbd2 := cmpI_bd (nv x.mag) (nv y.mag)
  have hsw : cmpN (nv y.mag) (nv x.mag) = -cmpN (nv x.mag) (nv y.mag) := by rw [cmpN_I, cmpN_I]; exact cmpI_swap _ _
  rw [← hbd] at hbd2; clear hbd; generalize cmpN (nv x.mag) (nv y.mag) = q at *; obtain ⟨q1, q2⟩ := hbd2; have Hsw := Lib.hid hsw; clear hsw
  by_cases h0 : s < 0
  ·have hcm := Lib.hid ((Heq.out Hst.out).1 h0)
   go_wp2_with fail
   go_ret
   exact ⟨ret_int (by rw [hcm.out, Hsw.out]), hw _ xt⟩
  ·have hcm := Lib.hid ((Heq.out Hst.out).2 (by omega))
   go_wp2_with fail
   go_ret
   exact ⟨ret_int hcm.out.symm, hw _ xt⟩
 ·have hne : (s != t) = true := by rw [bne_iff_ne]; omega
  have hcm := Lib.hid (cmpI_gt (Hgt.out hst))
  have hnl : ¬ s < t := by omega
  go_wp2_with fail
  go_ret
  exact ⟨ret_int (by rw [hcm.out] <;> omega), hw _ xt⟩

set_option maxHeartbeats 800000 in
theorem rmulz_c {u v : Value} {x y : Z} {w : World} {X Y : Nat → Prop} (hx : Zi w X u x) (hy : Zi w Y v y) (hLx : x.mag.length ≤ 549755813888) (hLy : y.mag.length ≤ 549755813888) :
  Calls Tryz.prog 85 #[u, v] w fun e w' => ∃ r, e = .returned r ∧ Zi w' (w.heap.size ≤ ·) r (cz (x.v * y.v)) ∧ Ext w w' := by
 obtain ⟨A, c, rfl, h1⟩ := hx; obtain ⟨B, d, rfl, h2⟩ := hy; obtain ⟨nx, a⟩ := x; obtain ⟨ny, b⟩ := y; rw [← v_mul]
 have hlen : (lim (nv a * nv b)).length ≤ 4398046511104 := by
  have := zl_mul (nv a) (nv b); unfold zl at this; rw [Int.natAbs_mul, Int.natAbs_natCast, Int.natAbs_natCast] at this; have h3 : (lim (nv a)).length ≤ a.length := lim_len_le h1.lb; have h4 : (lim (nv b)).length ≤ b.length := lim_len_le h2.lb; simp only at hLx hLy
  omega
 go_enter Tryz.func85, Tryz.ntmps85
 go_wp2_with fail
 refine wp_region_seq 12 [(0, true), (1, true), (2, true), (3, true), (4, true), (5, true), (6, true), (7, true), (8, true), (9, false), (10, true), (11, false), (12, false)] rfl (by kernel_rfl) (by intro _ _ d _ _ h; cases d <;> exact h) ?_
 (repeat (refine sq_take (v := ?_) rfl rfl ?_ ?_; rotate_left; exact tk2; (try simp only [pt])))
 (refine sq_loud rfl rfl fun K hK => ?_; go_simp)
 refine (rmul_c (h1.ext xt) (h2.ext xt) hLx hLy).mono ?_; rintro e w1 ⟨A1, c1, rfl, h3, hx⟩
 (refine hK _ _ xt ?_; clear hK K; (try simp only [pt]))
 (repeat (refine sq_take (v := ?_) rfl rfl ?_ ?_; rotate_left; exact tk2; (try simp only [pt])))
 (refine sq_loud rfl rfl fun K hK => ?_; go_simp)
 refine (rnorm_c (z := ⟨!(nx == ny), lim (nv a * nv b)⟩) ⟨A1, c1, rfl, h3⟩ hlen).mono ?_; rintro e w2 ⟨r, rfl, ⟨A2, c2, rfl, h4⟩, hx2⟩
 (refine hK _ _ xt ?_; clear hK K; (try simp only [pt]))
 (have hs := Ext.size hx; (try simp only [wsz] at hs))
 (replace hx := Ext.trans hx hx2; clear hx2; have hc := Ext.cells hx)
 (refine sq_last rfl rfl fun K hK => ?_; go_simp; refine hK _ _ ?_; clear hK K)
 go_wp2_with fail
 (refine bodyPost_ret (v := ?_) ?_ rfl ?_; rotate_left; (simp only [results, Tryz.results85]; go_simp; (first | done | with_reducible rfl)))
 exact ⟨_, rfl, ⟨A2, c2, rfl, (h4.keep kpt).widen (fun b hb _ => by first | omega | (dsimp only at hb ⊢; omega) | (dsimp only at hb; omega) | (simp only [wsz] at hb ⊢; omega) | (simp only [wsz] at hb; omega))⟩, xt⟩

set_option maxHeartbeats 1600000 in
theorem raddz_c {u v : Value} {x y : Z} {w : World} {X Y : Nat → Prop} (hx : Zi w X u x) (hy : Zi w Y v y) (hLx : x.mag.length ≤ 1099511627776) (hLy : y.mag.length ≤ 1099511627776) :
  Calls Tryz.prog 37 #[u, v] w fun e w' => ∃ r, e = .returned r ∧ Zi w' (w.heap.size ≤ ·) r (cz (x.v + y.v)) ∧ Ext w w' := by
 obtain ⟨A, c, rfl, h1⟩ := hx; obtain ⟨B, d, rfl, h2⟩ := hy; obtain ⟨nx, a⟩ := x; obtain ⟨ny, b⟩ := y; have ha : (lim (nv a)).length ≤ a.length := lim_len_le h1.lb; have hb : (lim (nv b)).length ≤ b.length := lim_len_le h2.lb; simp only at hLx hLy
 go_enter Tryz.func37, Tryz.ntmps37
 by_cases hn : nx = ny
 ·subst hn
  have hlen : (lim (nv a + nv b)).length ≤ 4398046511104 := by
   have := zl_add (x := nv a) (y := nv b) (k := 1099511627776) (by unfold zl; rw [Int.natAbs_natCast]; omega) (by unfold zl; rw [Int.natAbs_natCast]; omega); unfold zl at this
   have e : ((nv a : Int) + nv b).natAbs = nv a + nv b := by omega
   rw [e] at this
   omega
  have e := Lib.hid (v_add_same nx a b)
  go_wp2_with fail
  refine wp_region_seq 9 [(0, true), (1, true), (2, true), (3, true), (4, true), (5, true), (6, false), (7, true), (8, false), (9, false)] rfl (by kernel_rfl) (by intro _ _ d _ _ h; cases d <;> exact h) ?_
  (repeat (refine sq_take (v := ?_) rfl rfl ?_ ?_; rotate_left; exact tk2; (try simp only [pt])))
  (refine sq_loud rfl rfl fun K hK => ?_; go_simp)
  refine (radd_c (h1.ext xt) (h2.ext xt) hLx hLy).mono ?_; rintro e w1 ⟨A1, c1, rfl, h3, hx⟩
  (refine hK _ _ xt ?_; clear hK K; (try simp only [pt]))
  (repeat (refine sq_take (v := ?_) rfl rfl ?_ ?_; rotate_left; exact tk2; (try simp only [pt])))
  (refine sq_loud rfl rfl fun K hK => ?_; go_simp)
  refine (rnorm_c (z := ⟨nx, lim (nv a + nv b)⟩) ⟨A1, c1, rfl, h3⟩ hlen).mono ?_; rintro e w2 ⟨r, rfl, ⟨A2, c2, rfl, h4⟩, hx2⟩
  (refine hK _ _ xt ?_; clear hK K; (try simp only [pt]))
  (have hs := Ext.size hx; (try simp only [wsz] at hs))
  (replace hx := Ext.trans hx hx2; clear hx2; have hc := Ext.cells hx)
  (refine sq_last rfl rfl fun K hK => ?_; go_simp; refine hK _ _ ?_; clear hK K)
  go_wp2_with fail
  (refine bodyPost_ret (v := ?_) ?_ rfl ?_; rotate_left; (simp only [results, Tryz.results37]; go_simp; (first | done | with_reducible rfl)))
  exact ⟨_, rfl, e.out ▸ ⟨A2, c2, rfl, (h4.keep kpt).widen (fun b hb _ => by first | omega | (dsimp only at hb ⊢; omega) | (dsimp only at hb; omega) | (simp only [wsz] at hb ⊢; omega) | (simp only [wsz] at hb; omega))⟩, xt⟩
 ·have hne : (nx == ny) = false := by cases nx <;> cases ny <;> simp at hn ⊢
  go_wp2_with fail
  refine (rcmp_c (h1.ext xt) (h2.ext xt) (by omega) (by omega)).mono ?_; rintro e w1 ⟨rfl, rfl⟩
  rcases Nat.lt_or_ge (nv a) (nv b) with hlt | hlt
  ·have h0 : cmpN (nv a) (nv b) < 0 := by rw [cmpN_lt hlt]; omega
   have e := v_add_other ny nx b a (Ne.symm hn) (by omega); rw [Int.add_comm] at e
   have E := Lib.hid e; clear e
   have hlen : (lim (nv b - nv a)).length ≤ 4398046511104 := by
    have := lim_pw (n := nv b - nv a) (k := b.length) (by have := nv_lt h2.lb; omega)
    omega
   go_wp2_with fail
   refine wp_region_seq 9 [(0, true), (1, true), (2, true), (3, true), (4, true), (5, true), (6, false), (7, true), (8, false), (9, false)] rfl (by kernel_rfl) (by intro _ _ d _ _ h; cases d <;> exact h) ?_
   (repeat (refine sq_take (v := ?_) rfl rfl ?_ ?_; rotate_left; exact tk2; (try simp only [pt])))
   (refine sq_loud rfl rfl fun K hK => ?_; go_simp)
   refine (rsub_c (h2.ext xt) (h1.ext xt) (by omega) hLy).mono ?_; rintro e w1 ⟨A1, c1, rfl, h3, hx⟩
   (refine hK _ _ xt ?_; clear hK K; (try simp only [pt]))
   (repeat (refine sq_take (v := ?_) rfl rfl ?_ ?_; rotate_left; exact tk2; (try simp only [pt])))
   (refine sq_loud rfl rfl fun K hK => ?_; go_simp)
   refine (rnorm_c (z := ⟨ny, lim (nv b - nv a)⟩) ⟨A1, c1, rfl, h3⟩ hlen).mono ?_; rintro e w2 ⟨r, rfl, ⟨A2, c2, rfl, h4⟩, hx2⟩
   (refine hK _ _ xt ?_; clear hK K; (try simp only [pt]))
   (have hs := Ext.size hx; (try simp only [wsz] at hs))
   (replace hx := Ext.trans hx hx2; clear hx2; have hc := Ext.cells hx)
   (refine sq_last rfl rfl fun K hK => ?_; go_simp; refine hK _ _ ?_; clear hK K)
   go_wp2_with fail
   (refine bodyPost_ret (v := ?_) ?_ rfl ?_; rotate_left; (simp only [results, Tryz.results37]; go_simp; (first | done | with_reducible rfl)))
   exact ⟨_, rfl, E.out ▸ ⟨A2, c2, rfl, (h4.keep kpt).widen (fun b hb _ => by first | omega | (dsimp only at hb ⊢; omega) | (dsimp only at hb; omega) | (simp only [wsz] at hb ⊢; omega) | (simp only [wsz] at hb; omega))⟩, xt⟩
  ·have h0 : ¬ cmpN (nv a) (nv b) < 0 := by unfold cmpN; rw [if_neg (by omega)]; split <;> omega
   have e := v_add_other nx ny a b hn hlt
   have E := Lib.hid e; clear e
   have hlen : (lim (nv a - nv b)).length ≤ 4398046511104 := by
    have := lim_pw (n := nv a - nv b) (k := a.length) (by have := nv_lt h1.lb; omega)
    omega
   go_wp2_with fail
   refine wp_region_seq 9 [(0, true), (1, true), (2, true), (3, true), (4, true), (5, true), (6, false), (7, true), (8, false), (9, false)] rfl (by kernel_rfl) (by intro _ _ d _ _ h; cases d <;> exact h) ?_
   (repeat (refine sq_take (v := ?_) rfl rfl ?_ ?_; rotate_left; exact tk2; (try simp only [pt])))
   (refine sq_loud rfl rfl fun K hK => ?_; go_simp)
   refine (rsub_c (h1.ext xt) (h2.ext xt) (by omega) hLx).mono ?_; rintro e w1 ⟨A1, c1, rfl, h3, hx⟩
   (refine hK _ _ xt ?_; clear hK K; (try simp only [pt]))
   (repeat (refine sq_take (v := ?_) rfl rfl ?_ ?_; rotate_left; exact tk2; (try simp only [pt])))
   (refine sq_loud rfl rfl fun K hK => ?_; go_simp)
   refine (rnorm_c (z := ⟨nx, lim (nv a - nv b)⟩) ⟨A1, c1, rfl, h3⟩ hlen).mono ?_; rintro e w2 ⟨r, rfl, ⟨A2, c2, rfl, h4⟩, hx2⟩
   (refine hK _ _ xt ?_; clear hK K; (try simp only [pt]))
   (have hs := Ext.size hx; (try simp only [wsz] at hs))
   (replace hx := Ext.trans hx hx2; clear hx2; have hc := Ext.cells hx)
   (refine sq_last rfl rfl fun K hK => ?_; go_simp; refine hK _ _ ?_; clear hK K)
   go_wp2_with fail
   (refine bodyPost_ret (v := ?_) ?_ rfl ?_; rotate_left; (simp only [results, Tryz.results37]; go_simp; (first | done | with_reducible rfl)))
   exact ⟨_, rfl, E.out ▸ ⟨A2, c2, rfl, (h4.keep kpt).widen (fun b hb _ => by first | omega | (dsimp only at hb ⊢; omega) | (dsimp only at hb; omega) | (simp only [wsz] at hb ⊢; omega) | (simp only [wsz] at hb; omega))⟩, xt⟩

set_option maxHeartbeats 400000 in
theorem rof_c (n : Int) (hn : -9223372036854775808 ≤ n) (hn2 : n ≤ 9223372036854775807) (w : World) :
  Calls Tryz.prog 62 #[.int .i64 n] w fun e w' => ∃ r, e = .returned r ∧ Zi w' (w.heap.size ≤ ·) r (cz n) ∧ Ext w w' := by
 by_cases h0 : n < 0
 ·have e1 : -(n + 1) + 1 = ((n.natAbs : Nat) : Int) := by omega
  have e2 := u64_low n.natAbs (by omega)
  have e3 : nv [n.natAbs % 4294967296, n.natAbs / 4294967296] = n.natAbs := by simp only [nv]; omega
  have e4 : Z.v ⟨true, [n.natAbs % 4294967296, n.natAbs / 4294967296]⟩ = n := by unfold Z.v; rw [e3]; simp; omega
  have E1 := Lib.hid e1; have E2 := Lib.hid e2; have E4 := Lib.hid e4; clear e1 e2 e3 e4
  go_enter Tryz.func62, Tryz.ntmps62
  go_wp2_with fail
  have hr := rnorm_c (z := ⟨true, [n.natAbs % 4294967296, n.natAbs / 4294967296]⟩) ⟨_, _, rfl, Nl.lit2 (w.alloc (.cells #[.bool false, .slice none 0 0] 25)) (x := bits BinOp.and IntKind.u64 (-(n + 1) + 1) 4294967295 % 4294967296) (y := (-(n + 1) + 1) / 4294967296) (g := w.heap.size + 1) _ _ (by simp) (by rw [E1.out, E2.out]; omega) (by rw [E1.out]; omega) (by omega) (by omega)⟩ (by simp); refine hr.mono ?_; rw [E4.out]; clear hr; rintro e w1 ⟨r, rfl, ⟨A1, c1, rfl, h1⟩, hx⟩; have r1 := (Box.ext (Box.alloc (Box.new w _ _) _) hx).rules
  (have hs := Ext.size hx; (try simp only [wsz] at hs))
  go_wp2_with fail
  (refine bodyPost_ret (v := ?_) ?_ rfl ?_; rotate_left; (simp only [results, Tryz.results62]; go_simp; (first | done | with_reducible rfl)))
  exact ⟨_, rfl, ⟨A1, c1, rfl, (h1.keep kpt).widen (fun b hb _ => by first | omega | (dsimp only at hb ⊢; omega) | (dsimp only at hb; omega) | (simp only [wsz] at hb ⊢; omega) | (simp only [wsz] at hb; omega))⟩, xt⟩
 ·obtain ⟨m, rfl⟩ := Int.eq_ofNat_of_zero_le (by omega : 0 ≤ n); have e2 := u64_low m (by omega)
  have e3 : nv [m % 4294967296, m / 4294967296] = m := by simp only [nv]; omega
  have e4 : Z.v ⟨false, [m % 4294967296, m / 4294967296]⟩ = (m : Int) := by unfold Z.v; rw [e3]; simp
  have E2 := Lib.hid e2; have E4 := Lib.hid e4; clear e2 e3 e4
  go_enter Tryz.func62, Tryz.ntmps62
  go_wp2_with fail
  have hr := rnorm_c (z := ⟨false, [m % 4294967296, m / 4294967296]⟩) ⟨_, _, rfl, Nl.lit2 (w.alloc (.cells #[.bool false, .slice none 0 0] 25)) (x := bits BinOp.and IntKind.u64 (m : Int) 4294967295 % 4294967296) (y := (m : Int) / 4294967296) (g := w.heap.size + 1) _ _ (by simp) (by rw [E2.out]; omega) (by omega) (by omega) (by omega)⟩ (by simp); refine hr.mono ?_; rw [E4.out]; clear hr; rintro e w1 ⟨r, rfl, ⟨A1, c1, rfl, h1⟩, hx⟩; have r1 := (Box.ext (Box.alloc (Box.new w _ _) _) hx).rules
  (have hs := Ext.size hx; (try simp only [wsz] at hs))
  go_wp2_with fail
  (refine bodyPost_ret (v := ?_) ?_ rfl ?_; rotate_left; (simp only [results, Tryz.results62]; go_simp; (first | done | with_reducible rfl)))
  exact ⟨_, rfl, ⟨A1, c1, rfl, (h1.keep kpt).widen (fun b hb _ => by first | omega | (dsimp only at hb ⊢; omega) | (dsimp only at hb; omega) | (simp only [wsz] at hb ⊢; omega) | (simp only [wsz] at hb; omega))⟩, xt⟩

end Go.Proofs.YtpkfjbljhneenaaGreat

namespace Go.Proofs.YtpkfjbljhneenaaGreat
open Go.RowKit

theorem sq_done {P : Program} {ops : Array Oper} {Q : Exit → Act → World → Prop} {L : Nat} {a : Act} {w : World} (h : Q .normal a w) : SeqW P ops Q L [] a w := h
def i64 (x : Int) : Prop := -9223372036854775808 ≤ x ∧ x ≤ 9223372036854775807
theorem w64 {n : Int} (h : i64 n) : IntKind.i64.wrap n = n := by
 obtain ⟨h1, h2⟩ := h; simp [IntKind.wrap, IntKind.bits, IntKind.signed]
 omega
theorem w64n {n : Nat} (h : n ≤ 9223372036854775807) : IntKind.i64.wrap (n : Int) = n := w64 ⟨by omega, by omega⟩

end Go.Proofs.YtpkfjbljhneenaaGreat

namespace Go.Proofs.YtpkfjbljhneenaaGreat
open Go.RowKit

def EP (w : World) (X : Nat → Prop) (cs : List Value) (p : Int × Z) : Prop := ∃ A c, cs = [.int .i64 p.1, .bool p.2.neg, .slice A p.2.mag.length c] ∧ i64 p.1 ∧ Nl w X A c p.2.mag
instance : Stab EP := ⟨fun ⟨A, c, h, i, k⟩ kp => ⟨A, c, h, i, k.keep kp⟩, fun ⟨A, c, h, i, k⟩ kp => ⟨A, c, h, i, k.widen kp⟩, fun ⟨A, c, h, _, _⟩ => by subst h; simp [Value.oneCell']⟩
abbrev Pl (w : World) (X : Nat → Prop) (A : Option Addr) (c : Nat) (l : List (Int × Z)) : Prop := Sl 3 EP w X A c l
end Go.Proofs.YtpkfjbljhneenaaGreat
