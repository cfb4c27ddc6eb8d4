/- A map from variables to numbers that the call has made. No conditions. -/
import Derived.Test.YtbblgjjomgipfaaSpare
import Derived.Test.YtbblgjjomgipfaaPart
import Derived.Maps.RangeWalk
import Derived.Carry
namespace Go.Proofs.Ytbblgjjomgipfaa
open Go.RowKit Go.Maps

theorem Kp.grown1 {a b : World} {r : Nat} (h : a.grownBy b (some r)) : Kp (fun c => c ≠ r) a b := fun c hc hl => h.block c hl (fun e => hc (by injection e))
/-- An element reads as itself. -/
def RV (v : Value) : Option (DataW Value × List MemPlace) := some (.held v, [])
def z0 : Value := .agg #[.bool false, .slice none 0 0]
theorem zero_z0 (w : World) : (zeroValue 25).run Try.prog w = .ok z0 w := by kernel_rfl
theorem key_int : Keyed Try.prog 3 := int_keyed Try.underlying3
theorem i64_wf {x : Int} (h : i64 x) : (Lit.int .i64 x).wf = true := by
  obtain ⟨h1, h2⟩ := h
  simp [Lit.wf, IntKind.min, IntKind.max, IntKind.bits, IntKind.signed] <;> omega
theorem wf_i64 {x : Int} (h : (Lit.int .i64 x).wf = true) : i64 x := by
  simp [Lit.wf, IntKind.min, IntKind.max, IntKind.bits, IntKind.signed] at h
  constructor <;> omega
theorem key_mk {x : Int} (h : i64 x) : keyOf Try.prog 3 (.int .i64 x) = some (.int .i64 x) := keyOf_int_mk Try.underlying3 (i64_wf h)
theorem lit_ne {x y : Int} (h : x ≠ y) : (Lit.int .i64 x) ≠ .int .i64 y := fun e => h (by injection e)
theorem zi_z0 (w : World) (X : Nat → Prop) : Zi w X z0 (cz 0) := ⟨none, 0, rfl, Sl.nil0 _ _ _⟩

/-- Block b is a map of at most n entries that gives f. -/
def Mp (w : World) (X : Nat → Prop) (b n : Nat) (f : Int → Int) : Prop :=
  ∃ D, w.ownsMap Try.prog 3 RV b n D ∧ ∀ x, i64 x → ∃ v, D.atKey (.int .i64 x) (.held z0) = .held v ∧ Zi w X v (cz (f x))
theorem Mp.lt {w : World} {X : Nat → Prop} {b n : Nat} {f : Int → Int} (h : Mp w X b n f) : b < w.heap.size := let ⟨_, h1, _⟩ := h; h1.lt
theorem Mp.made (w : World) (X : Nat → Prop) : Mp (w.alloc (.map #[] 0)) X w.heap.size 0 fun _ => 0 :=
  ⟨_, World.ownsMap_made w _ _ _, fun _ _ => ⟨z0, rfl, zi_z0 _ _⟩⟩
theorem Mp.kept {w w' : World} {X : Nat → Prop} {b n : Nat} {f : Int → Int} (h : Mp w X b n f) (k : Kp (fun c => X c ∨ c = b) w w') : Mp w' X b n f := by
  obtain ⟨D, h1, h2⟩ := h
  refine ⟨D, ?_, fun x hx => ?_⟩
  · have hlt := h1.lt
    obtain ⟨es, clock, hb, F, hs, hD⟩ := h1
    exact ⟨es, clock, (k b (.inr rfl) hlt).trans hb, F, hs, hD⟩
  · obtain ⟨v, e, hz⟩ := h2 x hx
    exact ⟨v, e, hz.keep fun c hc hl => k c (.inl hc) hl⟩
theorem Mp.ext {w w' : World} {X : Nat → Prop} {b n : Nat} {f : Int → Int} (h : Mp w X b n f) (k : Ext w w') : Mp w' X b n f := h.kept (.of_ext k)
theorem Mp.mono {w : World} {X : Nat → Prop} {b n m : Nat} {f : Int → Int} (h : Mp w X b n f) (k : n ≤ m) : Mp w X b m f := let ⟨D, h1, h2⟩ := h; ⟨D, h1.mono k, h2⟩
theorem Mp.widen {w : World} {X Y : Nat → Prop} {b n : Nat} {f : Int → Int} (h : Mp w X b n f) (k : ∀ c, X c → c < w.heap.size → Y c) : Mp w Y b n f :=
  let ⟨D, h1, h2⟩ := h; ⟨D, h1, fun x hx => let ⟨v, e, hz⟩ := h2 x hx; ⟨v, e, hz.widen k⟩⟩
/-- m[x]. -/
theorem Mp.look {w : World} {X : Nat → Prop} {b n : Nat} {f : Int → Int} (h : Mp w X b n f) {x : Int} (hx : i64 x) :
    ∃ v, Zi w X v (cz (f x)) ∧ ∀ w', Ext w w' → (Instr.lookup 107 (.map (some b)) (.int .i64 x) false).run Try.prog w' = .ok v w' := by
  obtain ⟨D, h1, h2⟩ := h
  obtain ⟨v, e, hz⟩ := h2 x hx
  refine ⟨v, hz, fun w' hw => ?_⟩
  have h3 : w'.ownsMap Try.prog 3 RV b n D := by
    have hlt := h1.lt
    obtain ⟨es, clock, hb, F, hs, hD⟩ := h1
    exact ⟨es, clock, (hw.block b hlt).trans hb, F, hs, hD⟩
  obtain ⟨v', ps, hrun, hv⟩ := h3.lookup key_int Try.underlying107 (zero_z0 w') (zd := .held z0) (zp := []) rfl (key_mk hx)
  rw [e] at hv
  have : v' = v := by
    unfold RV at hv
    simp only [Option.some.injEq, Prod.mk.injEq, DataW.held.injEq] at hv
    exact hv.1
  rw [← this]
  exact hrun
/-- m[x] = v. -/
theorem Mp.set {w : World} {X : Nat → Prop} {b n : Nat} {f : Int → Int} (h : Mp w X b n f) (hX : ¬ X b) (hn : n < maxLen) {x y : Int} (hx : i64 x) {v : Value} (hv : Zi w X v (cz y)) :
    ∃ w', (Instr.mapUpdate 107 (.map (some b)) (.int .i64 x) v).run Try.prog w = .ok () w' ∧ Mp w' X b (n + 1) (fun z => if z = x then y else f z) ∧ w.grownBy w' (some b) := by
  obtain ⟨D, h1, h2⟩ := h
  obtain ⟨w', hrun, h3, hg⟩ := h1.update key_int Try.underlying107 hn (key_mk hx) (d := .held v) (ps := []) rfl
  have kp : Kp X w w' := fun c hc hl => hg.block c hl (fun e => hX (by injection e with e; exact e ▸ hc))
  refine ⟨w', hrun, ⟨_, h3, fun z hz => ?_⟩, hg⟩
  by_cases e : z = x
  · subst e
    refine ⟨v, atKey_put_same h1.isMap (key_int.key (key_mk hx)) _ _, ?_⟩
    simp only [if_true]
    exact hv.keep kp
  · obtain ⟨u, e1, e2⟩ := h2 z hz
    refine ⟨u, (atKey_put_other (lit_ne e) _ _).trans e1, ?_⟩
    simp only [if_neg e]
    exact e2.keep kp

section
variable {P : Program} {ops : Array Oper} {Q : Exit → Act → World → Prop} {L : Nat}
/-- A look-up in a region. -/
theorem sq_look {i : Nat} {r : List (Nat × Bool)} {a : Act} {w : World} {o : Oper} {t : TypeId} {m x : Operand} {mv kv v : Value} (ho : opAt ops.toList i = some o) (hg : o.guard = none) (hop : o.op = Op.lookup t m x false) (hm : a.eval m = mv) (hx : a.eval x = kv)
    (hl : ∀ w', Ext w w' → (Instr.lookup t mv kv false).run P w' = .ok v w') (h : SeqW P ops Q L r (a.put o.dst v) w) : SeqW P ops Q L ((i, true) :: r) a w :=
  sq_take ho hg (fun w' hw => by simp [execOp, hop, hm, hx, hl w' hw, Result.andThen]) h
/-- A store into a map, the region's last. -/
theorem sq_upd {a : Act} {w w' : World} {o : Oper} {t : TypeId} {m x y : Operand} {mv kv v : Value} (ho : opAt ops.toList L = some o) (hg : o.guard = none) (hop : o.op = Op.mapUpdate t m x y) (hm : a.eval m = mv) (hx : a.eval x = kv) (hy : a.eval y = v)
    (hl : (Instr.mapUpdate t mv kv v).run P w = .ok () w') (h : Q .normal (a.put o.dst undef) w') : SeqW P ops Q L [(L, false)] a w :=
  sq_last ho hg fun K hK => by
    unfold Oper.wp
    simp [execOp, hop, hm, hx, hy, hl, Result.andThen]
    exact hK _ _ h
end

end Go.Proofs.Ytbblgjjomgipfaa
