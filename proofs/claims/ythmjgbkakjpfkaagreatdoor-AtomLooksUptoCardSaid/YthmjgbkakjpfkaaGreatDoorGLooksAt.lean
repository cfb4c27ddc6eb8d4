/- A map from variables to numbers that the call has made. No conditions. A range over a map of numbers. No conditions. -/
import Derived.Test.YthmjgbkakjpfkaaGreatDoorGLooksAg
import Derived.Test.YthmjgbkakjpfkaaGreatDoorGLooksAd
import Derived.Maps.RangeWalk
import Derived.Carry
namespace Go.Proofs.YthmjgbkakjpfkaaGreatDoor
open Go.RowKit Go.Maps

theorem Kp.grown1 {a b : World} {r : Nat} (h : a.grownBy b (some r)) : Kp (fun c => c ≠ r) a b := fun c hc hl => h.block c hl (fun e => hc (by injection e))
def RV (v : Value) : Option (DataW Value × List MemPlace) := some (.held v, [])
def z0 : Value := .agg #[.bool false, .slice none 0 0]
theorem zero_z0 (w : World) : (zeroValue 24).run Tryz.prog w = .ok z0 w := by kernel_rfl
theorem key_int : Keyed Tryz.prog 3 := int_keyed Tryz.underlying3
theorem i64_wf {x : Int} (h : i64 x) : (Lit.int .i64 x).wf = true := by
  obtain ⟨h1, h2⟩ := h
  simp [Lit.wf, IntKind.min, IntKind.max, IntKind.bits, IntKind.signed] <;> omega
theorem wf_i64 {x : Int} (h : (Lit.int .i64 x).wf = true) : i64 x := by
  simp [Lit.wf, IntKind.min, IntKind.max, IntKind.bits, IntKind.signed] at h
  constructor <;> omega
theorem key_mk {x : Int} (h : i64 x) : keyOf Tryz.prog 3 (.int .i64 x) = some (.int .i64 x) := keyOf_int_mk Tryz.underlying3 (i64_wf h)
theorem lit_ne {x y : Int} (h : x ≠ y) : (Lit.int .i64 x) ≠ .int .i64 y := fun e => h (by injection e)
theorem zi_z0 (w : World) (X : Nat → Prop) : Zi w X z0 (cz 0) := ⟨none, 0, rfl, Sl.nil0 _ _ _⟩

def Mp (w : World) (X : Nat → Prop) (b n : Nat) (f : Int → Int) : Prop :=
  ∃ D, w.ownsMap Tryz.prog 3 RV b n D ∧ ∀ x, i64 x → ∃ v, D.atKey (.int .i64 x) (.held z0) = .held v ∧ Zi w X v (cz (f x))
theorem Mp.lt {w : World} {X : Nat → Prop} {b n : Nat} {f : Int → Int} (h : Mp w X b n f) : b < w.heap.size := let ⟨_, h1, _⟩ := h; h1.lt
theorem Mp.made (w : World) (X : Nat → Prop) : Mp (w.alloc (.map #[] 0)) X w.heap.size 0 fun _ => 0 :=
  ⟨_, World.ownsMap_made w _ _ _, fun _ _ => ⟨z0, rfl, zi_z0 _ _⟩⟩
theorem Mp.kept {w w' : World} {X : Nat → Prop} {b n : Nat} {f : Int → Int} (h : Mp w X b n f) (k : Kp (fun c => X c ∨ c = b) w w') : Mp w' X b n f := by
  obtain ⟨D, h1, h2⟩ := h
  refine ⟨D, ?_, fun x hx => ?_⟩
  · have hlt := h1.lt
    obtain ⟨es, clock, hb, F, hs, hD⟩ := h1
    exact ⟨es, clock, (k b (.inr rfl) hlt).trans hb, F, hs, hD⟩
  · obtain ⟨v, e, hz⟩ := h2 x hx
    exact ⟨v, e, hz.keep fun c hc hl => k c (.inl hc) hl⟩
theorem Mp.ext {w w' : World} {X : Nat → Prop} {b n : Nat} {f : Int → Int} (h : Mp w X b n f) (k : Ext w w') : Mp w' X b n f := h.kept (.of_ext k)
theorem Mp.mono {w : World} {X : Nat → Prop} {b n m : Nat} {f : Int → Int} (h : Mp w X b n f) (k : n ≤ m) : Mp w X b m f := let ⟨D, h1, h2⟩ := h; ⟨D, h1.mono k, h2⟩
theorem Mp.widen {w : World} {X Y : Nat → Prop} {b n : Nat} {f : Int → Int} (h : Mp w X b n f) (k : ∀ c, X c → c < w.heap.size → Y c) : Mp w Y b n f :=
  let ⟨D, h1, h2⟩ := h; ⟨D, h1, fun x hx => let ⟨v, e, hz⟩ := h2 x hx; ⟨v, e, hz.widen k⟩⟩
theorem Mp.look {w : World} {X : Nat → Prop} {b n : Nat} {f : Int → Int} (h : Mp w X b n f) {x : Int} (hx : i64 x) :
    ∃ v, Zi w X v (cz (f x)) ∧ ∀ w', Ext w w' → (Instr.lookup 114 (.map (some b)) (.int .i64 x) false).run Tryz.prog w' = .ok v w' := by
  obtain ⟨D, h1, h2⟩ := h
  obtain ⟨v, e, hz⟩ := h2 x hx
  refine ⟨v, hz, fun w' hw => ?_⟩
  have h3 : w'.ownsMap Tryz.prog 3 RV b n D := by
    have hlt := h1.lt
    obtain ⟨es, clock, hb, F, hs, hD⟩ := h1
    exact ⟨es, clock, (hw.block b hlt).trans hb, F, hs, hD⟩
  obtain ⟨v', ps, hrun, hv⟩ := h3.lookup key_int Tryz.underlying114 (zero_z0 w') (zd := .held z0) (zp := []) rfl (key_mk hx)
  rw [e] at hv
  have : v' = v := by
    unfold RV at hv
    simp only [Option.some.injEq, Prod.mk.injEq, DataW.held.injEq] at hv
    exact hv.1
  rw [← this]
  exact hrun
theorem Mp.set {w : World} {X : Nat → Prop} {b n : Nat} {f : Int → Int} (h : Mp w X b n f) (hX : ¬ X b) (hn : n < maxLen) {x y : Int} (hx : i64 x) {v : Value} (hv : Zi w X v (cz y)) :
    ∃ w', (Instr.mapUpdate 114 (.map (some b)) (.int .i64 x) v).run Tryz.prog w = .ok () w' ∧ Mp w' X b (n + 1) (fun z => if z = x then y else f z) ∧ w.grownBy w' (some b) := by
  obtain ⟨D, h1, h2⟩ := h
  obtain ⟨w', hrun, h3, hg⟩ := h1.update key_int Tryz.underlying114 hn (key_mk hx) (d := .held v) (ps := []) rfl
  have kp : Kp X w w' := fun c hc hl => hg.block c hl (fun e => hX (by injection e with e; exact e ▸ hc))
  refine ⟨w', hrun, ⟨_, h3, fun z hz => ?_⟩, hg⟩
  by_cases e : z = x
  · subst e
    refine ⟨v, atKey_put_same h1.isMap (key_int.key (key_mk hx)) _ _, ?_⟩
    simp only [if_true]
    exact hv.keep kp
  · obtain ⟨u, e1, e2⟩ := h2 z hz
    refine ⟨u, (atKey_put_other (lit_ne e) _ _).trans e1, ?_⟩
    simp only [if_neg e]
    exact e2.keep kp

section
variable {P : Program} {ops : Array Oper} {Q : Exit → Act → World → Prop} {L : Nat}
theorem sq_upd {a : Act} {w w' : World} {o : Oper} {t : TypeId} {m x y : Operand} {mv kv v : Value} (ho : opAt ops.toList L = some o) (hg : o.guard = none) (hop : o.op = Op.mapUpdate t m x y) (hm : a.eval m = mv) (hx : a.eval x = kv) (hy : a.eval y = v)
    (hl : (Instr.mapUpdate t mv kv v).run P w = .ok () w') (h : Q .normal (a.put o.dst undef) w') : SeqW P ops Q L [(L, false)] a w :=
  sq_last ho hg fun K hK => by
    unfold Oper.wp
    simp [execOp, hop, hm, hx, hy, hl, Result.andThen]
    exact hK _ _ h
end

end Go.Proofs.YthmjgbkakjpfkaaGreatDoor

namespace Go.Proofs.YthmjgbkakjpfkaaGreatDoor
open Go.RowKit Go.Maps

def Rg (w : World) (X : Nat → Prop) (b r n : Nat) (f : Int → Int) (lf : Int → Bool) (cnt : Nat) : Prop :=
  ∃ D left, w.ranges Tryz.prog 3 RV b r n D left cnt ∧ (∀ x, i64 x → lf x = left (.int .i64 x)) ∧ ∀ x, i64 x → ∃ v, D.atKey (.int .i64 x) (.held z0) = .held v ∧ Zi w X v (cz (f x))
theorem Rg.cnt {w : World} {X : Nat → Prop} {b r n : Nat} {f : Int → Int} {lf : Int → Bool} {cnt : Nat} (h : Rg w X b r n f lf cnt) : w.rangeLeft b r = cnt := let ⟨_, _, h1, _⟩ := h; h1.left_eq
theorem Rg.lt {w : World} {X : Nat → Prop} {b r n : Nat} {f : Int → Int} {lf : Int → Bool} {cnt : Nat} (h : Rg w X b r n f lf cnt) : b < w.heap.size ∧ r < w.heap.size := let ⟨_, _, h1, _⟩ := h; ⟨h1.owns.lt, h1.lt⟩
theorem Rg.kept {w w' : World} {X : Nat → Prop} {b r n : Nat} {f : Int → Int} {lf : Int → Bool} {cnt : Nat} (h : Rg w X b r n f lf cnt) (k : Kp (fun c => X c ∨ c = b ∨ c = r) w w') : Rg w' X b r n f lf cnt := by
  obtain ⟨D, left, h1, h2, h3⟩ := h
  refine ⟨D, left, ?_, h2, fun x hx => ?_⟩
  · have hl1 := h1.owns.lt
    have hl2 := h1.lt
    obtain ⟨es, clock, since, seen, c0, hb, F, hs, hD, hr, rest⟩ := h1
    exact ⟨es, clock, since, seen, c0, (k b (.inr (.inl rfl)) hl1).trans hb, F, hs, hD, (k r (.inr (.inr rfl)) hl2).trans hr, rest⟩
  · obtain ⟨v, e, hz⟩ := h3 x hx
    exact ⟨v, e, hz.keep fun c hc hl => k c (.inl hc) hl⟩
theorem Rg.ext {w w' : World} {X : Nat → Prop} {b r n : Nat} {f : Int → Int} {lf : Int → Bool} {cnt : Nat} (h : Rg w X b r n f lf cnt) (k : Ext w w') : Rg w' X b r n f lf cnt := h.kept (.of_ext k)
theorem wpList_rg {w : World} {ops : Array Oper} {rest : List Oper} {o : Oper} {a : Act} {Q : Exit → Act → World → Prop} {X : Nat → Prop} {b n : Nat} {f : Int → Int} (m : Operand)
    (hM : Mp w X b n f) (hf : ∀ x, f x ≠ 0 → i64 x) (hg : o.guard = none) (hop : o.op = Op.range 114 m) (hm : a.eval m = .map (some b))
    (hK : ∀ w' lf cnt, Rg w' X b w.heap.size n f lf cnt → cnt ≤ n → (∀ x, f x ≠ 0 → lf x = true) → Ext w w' → w'.heap.size = w.heap.size + 1 → wpList Tryz.prog ops Q rest (a.put o.dst (.pointer (some ⟨w.heap.size, 0, none⟩))) w') :
    wpList Tryz.prog ops Q (o :: rest) a w := by
  obtain ⟨D, h1, h2⟩ := hM
  refine wpList_range_own w hg m _ hop _ _ key_int Tryz.underlying114 RV b n D hm h1 fun w' h3 h4 h5 => ?_
  have hx : Ext w w' := (Ext.refl w).grown h4 (by simp)
  refine hK w' (fun x => Maps.has D (.int .i64 x)) (Maps.size D) ⟨D, _, h3, fun _ _ => rfl, fun x hx' => ?_⟩ h1.size_le (fun x hx' => ?_) hx h5
  · obtain ⟨v, e, hz⟩ := h2 x hx'
    exact ⟨v, e, hz.ext hx⟩
  · cases hh : Maps.has D (.int .i64 x)
    · obtain ⟨v, e, hz⟩ := h2 x (hf x hx')
      rw [atKey_of_not_has hh] at e
      injection e with e
      subst e
      obtain ⟨A, c, e, _⟩ := hz
      unfold z0 at e
      injection e with e
      have e1 := congrArg (fun x : Array Value => x[1]?) e
      simp only [List.getElem?_toArray, List.getElem?_cons_succ, List.getElem?_cons_zero, Option.some.injEq] at e1
      injection e1 with _ e1
      exact absurd (Int.natAbs_eq_zero.1 ((lim_nil_iff _).1 (List.eq_nil_of_length_eq_zero (show (lim (f x).natAbs).length = 0 from e1.symm)))) hx'
    · rfl
theorem wpList_rgnext {w : World} {ops : Array Oper} {rest : List Oper} {o : Oper} {a : Act} {Q : Exit → Act → World → Prop} {X : Nat → Prop} {b r n : Nat} {f : Int → Int} {lf : Int → Bool} {cnt : Nat} (it : Operand)
    (h : Rg w X b r n f lf cnt) (hX : ¬ X r) (hg : o.guard = none) (hop : o.op = Op.next it false) (hit : a.eval it = .pointer (some ⟨r, 0, none⟩))
    (hDone : (∀ x, i64 x → lf x = false) → wpList Tryz.prog ops Q rest (a.put o.dst (.tuple #[.bool false])) w)
    (hMore : ∀ (x : Int) (A : Option Addr) (c : Nat) (w' : World) (cnt' : Nat), i64 x → lf x = true → Nl w' X A c (cz (f x)).mag → Rg w' X b r n f (fun z => lf z && decide (z ≠ x)) cnt' → cnt' < cnt → w.grownBy w' (some r) → w'.heap.size = w.heap.size →
      (Instr.entry (.pointer (some ⟨r, 0, none⟩))).run Tryz.prog w' = .ok (.tuple #[.int .i64 x, .agg #[.bool (cz (f x)).neg, .slice A (cz (f x)).mag.length c]]) w' →
      wpList Tryz.prog ops Q rest (a.put o.dst (.tuple #[.bool true, .int .i64 x, .agg #[.bool (cz (f x)).neg, .slice A (cz (f x)).mag.length c]])) w') :
    wpList Tryz.prog ops Q (o :: rest) a w := by
  obtain ⟨D, left, h1, h2, h3⟩ := h
  refine wpList_next_ranges w hg it hop _ key_int RV (Value.int .i64) id (fun key kl hk => ?_) (fun v _ _ => ⟨v, rfl⟩) b r n D left cnt hit h1 (fun _ hl => hDone fun x hx => by rw [h2 x hx, hl]) fun x v kl y w' cnt' hk hl hv hat h4 h5 h6 h7 h8 => ?_
  · obtain ⟨x, rfl, _⟩ := Maps.keyOf_int_inv Tryz.underlying3 hk
    exact ⟨x, rfl⟩
  · obtain ⟨x', e, rfl, hwf⟩ := Maps.keyOf_int_inv Tryz.underlying3 hk
    injection e with _ e
    subst e
    have hi := wf_i64 hwf
    obtain ⟨u, e1, hz⟩ := h3 x hi
    have e2 := hat (.held z0)
    unfold RV at hv
    injection hv with hv
    rw [← hv, e1] at e2
    injection e2 with e2
    subst e2
    have kp : Kp X w w' := fun c hc hl => h6.block c hl (fun e => hX (by injection e with e; exact e ▸ hc))
    obtain ⟨A, c, e, hN⟩ := hz
    have e : u = _ := e
    simp only [id_eq] at *
    subst e
    refine hMore x A c w' cnt' hi (by rw [h2 x hi]; exact hl) (hN.keep kp) ⟨D, _, h4, fun z hz => ?_, fun z hz => ?_⟩ h5 h6 h7 h8
    · have hd : decide (z ≠ x) = !(Lit.int .i64 z).sameKey (Lit.int .i64 x) := by
        by_cases ez : z = x
        · subst ez
          rw [WideAt.sameKey_self (key_int.key (key_mk hz))]
          simp
        · rw [sameKey_ne (lit_ne ez)]
          simp [ez]
      show (lf z && decide (z ≠ x)) = (left (.int .i64 z) && !(Lit.int .i64 z).sameKey (Lit.int .i64 x))
      rw [h2 z hz, hd]
    · obtain ⟨v, e3, hz3⟩ := h3 z hz
      exact ⟨v, e3, hz3.keep kp⟩

theorem sorted_canon {f : Int → Int} {l : List (Int × Int)} {m : List (Int × Z)} (hp : m.Perm (cl l)) (hs : m.Pairwise fun p q => ¬ q.1 < p.1) (hn : (l.map Prod.fst).Nodup) (hl : ∀ p ∈ l, p.2 = f p.1 ∧ p.2 ≠ 0) (hf : ∀ x, f x ≠ 0 → x ∈ l.map Prod.fst) :
    m = cl (vl m) ∧ Canon (vl m) ∧ ∀ x, cf (vl m) x = f x := by
  have e1 : m = cl (vl m) := by
    unfold cl vl
    rw [List.map_map]
    conv => lhs; rw [← List.map_id m]
    apply List.map_congr_left
    intro p hpm
    obtain ⟨q, _, rfl⟩ := List.mem_map.1 (hp.mem_iff.1 hpm)
    simp [Function.comp, cz_v]
  have hpv : (vl m).Perm l := by
    have := hp.map fun p : Int × Z => (p.1, p.2.v)
    rw [show (cl l).map (fun p : Int × Z => (p.1, p.2.v)) = l from vl_cl l] at this
    exact this
  have hrise : Rise (vl m) := by
    have hnd : ((vl m).map Prod.fst).Nodup := (hpv.map Prod.fst).nodup_iff.2 hn
    rw [List.Nodup, List.pairwise_map] at hnd
    have hs2 : (vl m).Pairwise fun p q => ¬ q.1 < p.1 := by
      unfold vl
      rw [List.pairwise_map]
      exact hs
    refine (hnd.and hs2).imp ?_
    rintro p q ⟨h1, h2⟩
    omega
  have hc : Canon (vl m) := ⟨hrise, fun p hp => (hl p (hpv.mem_iff.1 hp)).2⟩
  refine ⟨e1, hc, fun x => ?_⟩
  by_cases hx : f x = 0
  · rw [hx]
    apply Classical.byContradiction
    intro h0
    obtain ⟨p, hp', e⟩ := mem_of_cf h0
    obtain ⟨h1, h2⟩ := hl p (hpv.mem_iff.1 hp')
    rw [e, hx] at h1
    exact h2 h1
  · obtain ⟨p, hp', e⟩ := List.mem_map.1 (hf x hx)
    rw [← e, cf_mem hrise (hpv.mem_iff.2 hp')]
    exact (hl p hp').1

end Go.Proofs.YthmjgbkakjpfkaaGreatDoor
