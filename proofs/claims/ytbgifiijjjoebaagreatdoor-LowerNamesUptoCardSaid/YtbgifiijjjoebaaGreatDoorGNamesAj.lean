/- Regions, in whatever order. No conditions. -/
import Derived.Test.YtbgifiijjjoebaaGreatDoorGNamesAi
import Derived.OrdersHeld
namespace Go.Proofs.YtbgifiijjjoebaaGreatDoor
open Go.RowKit

def isQ (P : Program) : Op → Bool
 | .move _ | .assign _ | .pick .. | .alloc _ | .box .. | .build .. | .buildSlice .. | .load .. | .binOp .. | .unOp .. | .convert .. | .makeSlice .. | .slice _ _ _ _ none | .fieldAddr .. | .indexAddr .. | .extract .. | .index .. | .makeFunc .. | .makeMap .. | .lookup .. | .range .. | .entry _ | .nilCheck _ => true
 | .call { callee := .builtin .len, .. } => true
 | .call { callee := .builtin .max, .. } => true
 | .call { callee := .builtin .min, .. } => true
 | .call { callee := .value (.func f), .. } => !loudP P f
 | _ => false
def slotOf : Operand → Option Nat
 | .tmp t => some t
 | _ => none
def gslot (ops : Array Oper) (o : Oper) : Option Nat := o.guard.bind fun g => (ops[g.1]?).bind (·.dst)
def reads (ops : Array Oper) (o : Oper) : List Nat := o.op.operands.toList.filterMap slotOf ++ (gslot ops o).toList

section
variable {P : Program} {S S' : AS} {o : Oper} {K : SV → Mem → Prop} {ops : Array Oper}
theorem ev_same (hn : S'.n = S.n) {x : Operand} (h : ∀ t, slotOf x = some t → S'.f t = S.f t) : ez S' x = ez S x := by
 cases x with
 | tmp t => simp only [ez, hn]; split; exact h t rfl; rfl
 | const v => rfl
 | global g => rfl
 | func f => rfl
theorem nm_ev {x : Operand} {k : Nat} (h : k ∈ nmR (ez S x)) : ∃ t, slotOf x = some t ∧ k ∈ nmR (ez S (.tmp t)) := by
 cases x with
 | tmp t => exact ⟨t, rfl, h⟩
 | const v =>
  have : ∀ c : CV, cCV v = some c → nmC c = [] := fun c hc => by
   unfold cCV at hc
   split at hc
   ·split at hc
    ·injection hc with hc; subst hc; rfl
    ·cases hc
   ·injection hc with hc; subst hc; rfl
   ·split at hc
    ·injection hc with hc; subst hc; rfl
    ·cases hc
   ·injection hc with hc; subst hc; rfl
   ·injection hc with hc; subst hc; rfl
   ·injection hc with hc; subst hc; rfl
   ·injection hc with hc; subst hc; rfl
   ·cases hc
  have key : ∀ (vs : List Value) (xs : List CV), cCVs vs = some xs → xs.flatMap nmC = [] := by
   intro vs
   induction vs with
   | nil => intro xs hx; simp only [cCVs, Option.some.injEq] at hx; subst hx; rfl
   | cons u r ih =>
    intro xs hx; unfold cCVs at hx
    split at hx
    ·rename_i x y h1 h2
     injection hx with hx
     subst hx
     have h3 : nmC x = [] := by
      unfold cCV at h1
      split at h1
      ·split at h1
       ·injection h1 with h1; subst h1; rfl
       ·cases h1
      ·injection h1 with h1; subst h1; rfl
      ·split at h1
       ·injection h1 with h1; subst h1; rfl
       ·cases h1
      ·injection h1 with h1; subst h1; rfl
      ·injection h1 with h1; subst h1; rfl
      ·injection h1 with h1; subst h1; rfl
      ·injection h1 with h1; subst h1; rfl
      ·cases h1
     simp [h3, ih y h2]
    ·cases hx
  simp only [ez] at h; unfold cRV at h
  split at h
  ·split at h
   ·rename_i hx; simp only [nmR, key _ _ hx] at h; cases h
   ·cases h
  ·split at h
   ·rename_i hx; simp only [nmR, this _ hx] at h; cases h
   ·cases h
 | global g => cases h
 | func f => cases h
def Less (ns : List Nat) (m m' : Mem) : Prop := (∀ k ob, mat m' k = some ob → mat m k = some ob) ∧ Agree ns m m' ∧ ∀ k, 1000 ≤ k → mat m' k = mat m k
theorem Less.mono {ns ns' : List Nat} {m m' : Mem} (h : Less ns' m m') (k : ∀ x ∈ ns, x ∈ ns') : Less ns m m' := ⟨h.1, h.2.1.mono k, h.2.2⟩
theorem less_full {ns : List Nat} {m m' : Mem} (h : ∀ k, mat m' k = mat m k) : Less ns m m' := ⟨fun k ob hk => by rw [← h]; exact hk, fun k _ ob hk => by rw [h]; exact hk, fun k _ => h k⟩
def Look (e : Ef) (ns : List Nat) (m m' : Mem) : Prop := match e with
 | .set _ _ => Less ns m m'
 | .upd _ _ => Less ns m m'
 | _ => Agree ns m m'
theorem look_full {e : Ef} {ns : List Nat} {m m' : Mem} (h : ∀ k, mat m' k = mat m k) : Look e ns m m' := by
 cases e <;> first | exact less_full h | exact fun k _ ob hob => by rw [h]; exact hob
theorem Look.agree {e : Ef} {ns : List Nat} {m m' : Mem} (h : Look e ns m m') : Agree ns m m' := by
 cases e <;> first | exact h | exact h.2.1
theorem Look.mono {e : Ef} {ns ns' : List Nat} {m m' : Mem} (h : Look e ns' m m') (k : ∀ x ∈ ns, x ∈ ns') : Look e ns m m' := by
 cases e <;> first | exact Less.mono h k | exact Agree.mono h k
def isN : Op → Bool
 | .next .. => true
 | _ => false
def Known (ns : List Nat) (m : Mem) (e : Ef) : Prop := (∀ k ob, e = .set k ob → k ∈ ns) ∧ ∀ m1 ks, e = .upd m1 ks → (∀ k ∈ ks, 1000 ≤ k) ∧ ∀ k ∈ keys m1, k ∈ ks ∨ mat m k = none
theorem Known.mono {ns ns' : List Nat} {m : Mem} {e : Ef} (h : Known ns m e) (k : ∀ x ∈ ns, x ∈ ns') : Known ns' m e := ⟨fun j ob he => k _ (h.1 j ob he), h.2⟩
def Alike (P : Program) (ops : Array Oper) (o : Oper) (S : AS) (r : SV) (e : Ef) : Prop :=
 Known ((reads ops o).flatMap fun t => nmR (ez S (.tmp t))) S.m e ∧ ∀ S' : AS, S'.n = S.n → (∀ t ∈ reads ops o, S'.f t = S.f t) → Look e ((reads ops o).flatMap fun t => nmR (ez S (.tmp t))) S.m S'.m → (∀ k ob, e = .new k ob → mat S'.m k = none) → ∀ K' : SV → Mem → Prop, K' r (e.on S'.m) → opK P ops o S' K'
def isNew (q : Bool) (d : Option Nat) (m : Mem) (e : Ef) : Prop := (∀ k ob, e = .new k ob → d = some k ∧ mat m k = none) ∧ (q = true → (∀ k ob, e ≠ .set k ob) ∧ ∀ m1 ks, e ≠ .upd m1 ks)
def AlikeS (P : Program) (o : Oper) (S : AS) (r : SV) (e : Ef) : Prop :=
 Known ((o.op.operands.toList.map (ez S)).flatMap nmR) S.m e ∧ ∀ S' : AS, S'.n = S.n → (∀ x ∈ o.op.operands.toList, ez S' x = ez S x) → Look e ((o.op.operands.toList.map (ez S)).flatMap nmR) S.m S'.m → (∀ k ob, e = .new k ob → mat S'.m k = none) → ∀ K' : SV → Mem → Prop, K' r (e.on S'.m) → astep P o S' K'
theorem alikeS_of {F : Mem → (SV → Mem → Prop) → Prop} {ns : List Nat} {q : Bool} (h : Same q o.dst ns S.m F) (hq : isQ P o.op = true → q = true) (hK : F S.m K) (hns : ∀ k ∈ ns, k ∈ (o.op.operands.toList.map (ez S)).flatMap nmR) (hS : ∀ S' : AS, S'.n = S.n → (∀ x ∈ o.op.operands.toList, ez S' x = ez S x) → ∀ K', F S'.m K' → astep P o S' K') :
  ∃ r e, K r (e.on S.m) ∧ isNew (isQ P o.op) o.dst S.m e ∧ AlikeS P o S r e := by
 obtain ⟨r, e, h1, h2, h3⟩ := h K hK; refine ⟨r, e, h1, ⟨h2.1, fun h => ⟨h2.2.1 (hq h), h2.2.2.1⟩⟩, ⟨fun k ob he => hns _ (h2.2.2.2 k ob he), fun m1 ks he => absurd he (h2.2.2.1 m1 ks)⟩, fun S' hn he ha hf K' hK' => hS S' hn he K' (h3 S'.m (ha.agree.mono hns) hf K' hK')⟩
theorem alikeS_set {F : Mem → (SV → Mem → Prop) → Prop} {ns : List Nat} (h : Sets ns S.m F) (hq : isQ P o.op = false) (hK : F S.m K) (hns : ∀ k ∈ ns, k ∈ (o.op.operands.toList.map (ez S)).flatMap nmR) (hS : ∀ S' : AS, S'.n = S.n → (∀ x ∈ o.op.operands.toList, ez S' x = ez S x) → ∀ K', F S'.m K' → astep P o S' K') :
  ∃ r e, K r (e.on S.m) ∧ isNew (isQ P o.op) o.dst S.m e ∧ AlikeS P o S r e := by
 obtain ⟨r, k, ob, h1, h0, h2⟩ := h K hK; exact ⟨r, .set k ob, h1, ⟨(fun _ _ h => by cases h), fun h => by rw [hq] at h; cases h⟩, ⟨(fun k' ob' e => by injection e with e1 e2; subst e1; exact hns _ h0), (fun _ _ e => by cases e)⟩, fun S' hn he ha _ K' hK' => hS S' hn he K' (h2 S'.m ha.1 (ha.2.1.mono hns) K' hK')⟩
theorem nm_in {x : Operand} {l : List Operand} (h : x ∈ l) : ∀ k ∈ nmR (ez S x), k ∈ (l.map (ez S)).flatMap nmR := fun _ hk => List.mem_flatMap.2 ⟨_, List.mem_map_of_mem h, hk⟩
theorem nm_toE (x : SV) : nmR (toE x) = nmR x := by
 unfold toE
 split <;> rfl
theorem nm_inE {x : Operand} {l : List Operand} (h : x ∈ l) : ∀ k ∈ nmR (toE (ez S x)), k ∈ (l.map (ez S)).flatMap nmR := by
 rw [nm_toE]; exact nm_in h
theorem nm_in2 {x y : Operand} {l : List Operand} (h : x ∈ l) (h' : y ∈ l) : ∀ k ∈ nmR (ez S x) ++ nmR (ez S y), k ∈ (l.map (ez S)).flatMap nmR := fun k hk => (List.mem_append.1 hk).elim (nm_in h k) (nm_in h' k)
theorem evs_same {ps : Array (Nat × Operand)} (h : ∀ x ∈ (ps.toList.map (·.2)), ez S' x = ez S x) : evs S' ps = evs S ps := by
 unfold evs
 apply List.map_congr_left
 intro p hp; rw [h _ (List.mem_map_of_mem hp)]
theorem subM_less {m m2 : Mem} (h : ∀ k, 1000 ≤ k → mat m2 k = mat m k) : ∀ {m0 : Mem}, subM m m0 → (∀ k ∈ keys m0, 1000 ≤ k) → subM m2 m0
 | [], _, _ => trivial
 | (k, o) :: r, hs, hk => ⟨by rw [h k (hk k (by simp [keys]))]; exact hs.1, subM_less h hs.2 fun j hj => hk j (by simp only [keys, List.map_cons, List.mem_cons]; exact .inr hj)⟩
theorem newM_less {m m2 : Mem} (h : ∀ k ob, mat m2 k = some ob → mat m k = some ob) {ks : List Nat} : ∀ {l : List Nat}, newM m ks l → newM m2 ks l
 | [], _ => trivial
 | k :: r, hs => ⟨hs.1.imp id (fun hn => by
  cases hk : mat m2 k with
  | none => rfl
  | some ob => rw [h k ob hk] at hn; cases hn), newM_less h hs.2⟩
theorem newM_mem {m : Mem} {ks : List Nat} : ∀ {l : List Nat}, newM m ks l → ∀ k ∈ l, k ∈ ks ∨ mat m k = none
 | _ :: _, hs, k, hk => (List.mem_cons.1 hk).elim (fun e => e ▸ hs.1) (newM_mem hs.2 k)
theorem mat_of_mem : ∀ {m : Mem}, (m.map Prod.fst).Nodup → ∀ p ∈ m, mat m p.1 = some p.2
 | (j, o) :: r, h, p, hp => by
  rw [List.map_cons, List.nodup_cons] at h
  rcases List.mem_cons.1 hp with e | hp
  ·subst e; simp [mat]
  ·have hne : ¬ j = p.1 := fun e => h.1 (by rw [e]; exact List.mem_map.2 ⟨p, hp, rfl⟩)
   rw [mat, if_neg hne]; exact mat_of_mem h.2 p hp
theorem noIt_less {m m2 : Mem} (hi : noIt m) (h : ∀ k ob, mat m2 k = some ob → mat m k = some ob) : noIt (dedup m2) := noIt_of fun p hp => by
 have h1 := mat_of_mem (dedup_nodup (m := m2)) p hp; rw [mat_dedup] at h1; exact noIt_mem hi _ (mat_mem (h _ _ h1))
theorem callM_q {f : FuncId} {m : Mem} {al : List SV} (h : callM P f m K al) : ∃ r m1 ks, K r (m1 ++ mdelL m ks) ∧ ((∀ k ∈ ks, 1000 ≤ k) ∧ ∀ k ∈ keys m1, k ∈ ks ∨ mat m k = none) ∧ ∀ m2 : Mem, (∀ k ob, mat m2 k = some ob → mat m k = some ob) → (∀ k, 1000 ≤ k → mat m2 k = mat m k) → ∀ K' : SV → Mem → Prop, K' r (m1 ++ mdelL m2 ks) → callM P f m2 K' al := by
 obtain ⟨mm, m0, r, m1, he, ⟨h1, h2, h3, h4, h5, h6, h7, h8, h9, h10⟩, hK⟩ := h
 have hk0 : ∀ k ∈ keys m0, 1000 ≤ k := fun k hk => of_decide_eq_true (List.all_eq_true.1 h4 k hk)
 refine ⟨r, m1, keys m0, hK, ⟨hk0, fun k hk => by rw [← he]; exact newM_mem h5 k hk⟩, fun m2 e1 e2 K' hK' => ⟨dedup m2, m0, r, m1, fun k => mat_dedup, ⟨h1, h2, ?_, h4, ?_, h6, h7, h8, h9, ?_⟩, hK'⟩⟩
 ·exact subM_less (m := mm) (fun k hk => by rw [mat_dedup, e2 k hk, he]) h3 hk0
 ·exact newM_less (m := mm) (fun k ob hk => by rw [mat_dedup] at hk; rw [he]; exact e1 k ob hk) h5
 ·exact noIt_less h10 fun k ob hk => by rw [he]; exact e1 k ob hk
theorem astep_alike (hK : astep P o S K) (hN : isN o.op = false) : ∃ r e, K r (e.on S.m) ∧ isNew (isQ P o.op) o.dst S.m e ∧ AlikeS P o S r e := by
 unfold astep at hK
 split at hK
 ·rename_i x ho
  exact alikeS_of (F := fun m K => K (ez S x) m) ((quiet_ret _).same (q := true)) (fun _ => rfl) hK (by simp) fun S' hn he K' h => by
   simp only [astep, ho]; rw [he x (by simp [ho, Op.operands])]; exact h
 ·rename_i x ho
  exact alikeS_of (F := fun m K => K (ez S x) m) ((quiet_ret _).same (q := true)) (fun _ => rfl) hK (by simp) fun S' hn he K' h => by
   simp only [astep, ho]; rw [he x (by simp [ho, Op.operands])]; exact h
 ·rename_i x y z ho
  exact alikeS_of ((pickK_q (ez S x) (ez S y) (ez S z)).same (q := true)) (fun _ => rfl) hK (by simp) fun S' hn he K' h => by
   simp only [astep, ho]; rw [he x (by simp [ho, Op.operands]), he y (by simp [ho, Op.operands]), he z (by simp [ho, Op.operands])]; exact h
 ·rename_i T ho
  exact alikeS_of ((allocK_q (zeroC P T)).same (q := true)) (fun _ => rfl) hK (by simp) fun S' hn he K' h => by
   simp only [astep, ho]; exact h
 ·rename_i T x ho
  exact alikeS_of (F := fun m K => boxK o.dst m K (ez S x)) ((allocK_q (cellsOf (ez S x))).same (q := true)) (fun _ => rfl) hK (by simp) fun S' hn he K' h => by
   simp only [astep, ho]; rw [he x (by simp [ho, Op.operands])]; exact h
 ·rename_i T ps ho
  exact alikeS_of ((buildK_q (bldP P T) (evs S ps)).same (q := true)) (fun _ => rfl) hK (by simp) fun S' hn he K' h => by
   simp only [astep, ho]; rw [evs_same (S := S) fun x hx => he x (by simp only [ho, Op.operands]; simpa using hx)]; exact h
 ·rename_i T len ps ho
  exact alikeS_of ((rwK_q (eltP P T) len (evs S ps)).same (q := true)) (fun _ => rfl) hK (by simp) fun S' hn he K' h => by
   simp only [astep, ho]; rw [evs_same (S := S) fun x hx => he x (by simp only [ho, Op.operands]; simpa using hx)]; exact h
 ·rename_i t x ho
  split at hK
  ·rename_i g n hl
   exact alikeS_of ((loadK_q g n (toE (ez S x))).same (q := true)) (fun _ => rfl) hK (nm_inE (by simp [ho, Op.operands])) fun S' hn he K' h => by
    simp only [astep, ho, hl]; rw [he x (by simp [ho, Op.operands])]; exact h
  ·exact hK.elim
 ·rename_i t x y ho
  split at hK
  ·rename_i g n hl
   exact alikeS_of (storeK_q n (ez S x) (ez S y)) (by simp [ho, isQ]) hK.2 (nm_in2 (by simp [ho, Op.operands]) (by simp [ho, Op.operands])) fun S' hn he K' h => by
    simp only [astep, ho, hl]; rw [he x (by simp [ho, Op.operands]), he y (by simp [ho, Op.operands])]; exact ⟨hK.1, h⟩
  ·exact hK.elim
 ·rename_i op t x y u ho
  exact alikeS_of ((binK_q (P := P) op t (ez S x) (ez S y)).same (q := true)) (fun _ => rfl) hK (by simp) fun S' hn he K' h => by
   simp only [astep, ho]; rw [he x (by simp [ho, Op.operands]), he y (by simp [ho, Op.operands])]; exact h
 ·rename_i op t x ho
  exact alikeS_of ((unK_q op (ez S x)).same (q := true)) (fun _ => rfl) hK (by simp) fun S' hn he K' h => by
   simp only [astep, ho]; rw [he x (by simp [ho, Op.operands])]; exact h
 ·rename_i t u x ho
  split at hK
  ·rename_i k hk
   exact alikeS_of ((convK_q (some k) (ez S x)).same (q := true)) (fun _ => rfl) hK (by simp) fun S' hn he K' h => by
    simp only [astep, ho, hk]; rw [he x (by simp [ho, Op.operands])]; exact h
  ·rename_i hk
   exact alikeS_of ((bstrK_q (cvsP P t u) (ez S x)).same (q := true)) (fun _ => rfl) hK (nm_in (by simp [ho, Op.operands])) fun S' hn he K' h => by
    simp only [astep, ho, hk]; rw [he x (by simp [ho, Op.operands])]; exact h
 ·rename_i T l q ho
  exact alikeS_of ((makeK_q (P := P) (eltP P T) (ez S l) (ez S q)).same (q := true)) (fun _ => rfl) hK (by simp) fun S' hn he K' h => by
   simp only [astep, ho]; rw [he l (by simp [ho, Op.operands]), he q (by simp [ho, Op.operands])]; exact h
 ·rename_i T x lo hi ho
  exact alikeS_of ((sliceK_q (P := P) T (ez S x) (lo.map (ez S)) (hi.map (ez S))).same (q := true)) (fun _ => rfl) hK (by simp) fun S' hn he K' h => by
   have h1 : lo.map (ez S') = lo.map (ez S) := by cases lo with | none => rfl | some y => exact congrArg some (he y (by simp [ho, Op.operands]))
   have h2 : hi.map (ez S') = hi.map (ez S) := by cases hi with | none => rfl | some y => exact congrArg some (he y (by simp [ho, Op.operands]))
   simp only [astep, ho]; rw [he x (by simp [ho, Op.operands]), h1, h2]; exact h
 ·rename_i T x i ho
  exact alikeS_of ((fieldK_q (fldP P T i) (toE (ez S x))).same (q := true)) (fun _ => rfl) hK (nm_inE (by simp [ho, Op.operands])) fun S' hn he K' h => by
   simp only [astep, ho]; rw [he x (by simp [ho, Op.operands])]; exact h
 ·rename_i T x y ho
  split at hK
  ·rename_i e es bs hl
   exact alikeS_of ((indexK_q es (ez S x) (ez S y)).same (q := true)) (fun _ => rfl) hK (nm_in2 (by simp [ho, Op.operands]) (by simp [ho, Op.operands])) fun S' hn he K' h => by
    simp only [astep, ho, hl]; rw [he x (by simp [ho, Op.operands]), he y (by simp [ho, Op.operands])]; exact h
  ·rename_i hl
   split at hK
   ·rename_i p hp
    exact alikeS_of ((arrK_q p (ez S x) (ez S y)).same (q := true)) (fun _ => rfl) hK (by simp) fun S' hn he K' h => by
     simp only [astep, ho, hl, hp]; rw [he x (by simp [ho, Op.operands]), he y (by simp [ho, Op.operands])]; exact h
   ·exact hK.elim
 ·rename_i x ho
  exact alikeS_of ((nckK_q (ez S x)).same (q := true)) (fun _ => rfl) hK (by simp) fun S' hn he K' h => by
   simp only [astep, ho]; rw [he x (by simp [ho, Op.operands])]; exact h
 ·rename_i x j ho
  exact alikeS_of ((extractK_q j (ez S x)).same (q := true)) (fun _ => rfl) hK (by simp) fun S' hn he K' h => by
   simp only [astep, ho]; rw [he x (by simp [ho, Op.operands])]; exact h
 ·rename_i al ts ho
  split at hK
  ·rename_i x t e1 e2
   exact alikeS_of ((lenK_q (slP P t) (ez S x)).same (q := true)) (fun _ => rfl) hK (nm_in (by simp [ho, Op.operands, Call.operands, e1])) fun S' hn he K' h => by
    simp only [astep, ho, e1, e2]; rw [he x (by simp [ho, Op.operands, Call.operands, e1])]; exact h
  ·exact hK.elim
 ·rename_i al ts ho
  split at hK
  ·rename_i s x t t' e1 e2
   exact alikeS_of (appK_q (eltP P t) (ez S s) (ez S x)) (by simp [ho, isQ]) hK.2 (nm_in2 (by simp [ho, Op.operands, Call.operands, e1]) (by simp [ho, Op.operands, Call.operands, e1])) fun S' hn he K' h => by
    simp only [astep, ho, e1, e2]; rw [he s (by simp [ho, Op.operands, Call.operands, e1]), he x (by simp [ho, Op.operands, Call.operands, e1])]; exact ⟨hK.1, h⟩
  ·exact hK.elim
 ·rename_i f al ts ho
  have hin : ∀ x ∈ al.toList, x ∈ o.op.operands.toList := fun x hx => by simp [ho, Op.operands, Call.operands]; exact .inr (by simpa using hx)
  have hsame : ∀ S' : AS, (∀ x ∈ o.op.operands.toList, ez S' x = ez S x) → al.toList.map (ez S') = al.toList.map (ez S) := fun S' he => List.map_congr_left fun x hx => he x (hin x hx)
  cases hl : loudP P f with
  | true =>
   simp only [hl] at hK; obtain ⟨r, m1, ks, h1, h0, h2⟩ := callM_q hK; refine ⟨r, .upd m1 ks, h1, ⟨(fun _ _ h => by cases h), fun h => by simp [ho, isQ, hl] at h⟩, ⟨(fun _ _ h => by cases h), (fun _ _ h => by injection h with e1 e2; subst e1; subst e2; exact h0)⟩, fun S' hn he ha _ K' hK' => ?_⟩; simp only [astep, ho, hl]; rw [hsame S' he]; exact h2 S'.m ha.1 ha.2.2 K' hK'
  | false =>
  simp only [hl] at hK
  refine alikeS_of (F := fun m K => callK P o.dst f m K (al.toList.map (ez S))) (ns := (al.toList.map (ez S)).flatMap nmR) (q := true) (callK_q (P := P) (m := S.m) (d := o.dst) f (al.toList.map (ez S))).same (fun _ => rfl) hK (fun k hk => ?_) fun S' hn he K' h => ?_
  ·obtain ⟨x, hx, hk⟩ := List.mem_flatMap.1 hk; obtain ⟨y, hy, rfl⟩ := List.mem_map.1 hx; exact nm_in (hin y hy) k hk
  ·simp only [astep, ho, hl]
   rw [hsame S' he]; exact h
 ·rename_i t al ts ho
  have hin : ∀ x ∈ al.toList, x ∈ o.op.operands.toList := fun x hx => by simp [ho, Op.operands, Call.operands]; exact .inr (by simpa using hx)
  split at hK
  ·rename_i f ks hz
   obtain ⟨r, m1, js, h1, h0, h2⟩ := callM_q hK; refine ⟨r, .upd m1 js, h1, ⟨(fun _ _ h => by cases h), fun h => by simp [ho, isQ] at h⟩, ⟨(fun _ _ h => by cases h), (fun _ _ h => by injection h with e1 e2; subst e1; subst e2; exact h0)⟩, fun S' hn he ha _ K' hK' => ?_⟩
   have e1 : ez S' (.tmp t) = .c (.f f ks) := by rw [he (.tmp t) (by simp [ho, Op.operands, Call.operands]), hz]
   have e2 : al.toList.map (ez S') = al.toList.map (ez S) := List.map_congr_left fun x hx => he x (hin x hx)
   simp only [astep, ho, e1, e2]; exact h2 S'.m ha.1 ha.2.2 K' hK'
  ·exact hK.elim
 ·rename_i T x y ho
  exact alikeS_of ((byteK_q (stP P T) (ez S x) (ez S y)).same (q := true)) (fun _ => rfl) hK (by simp) fun S' hn he K' h => by
   simp only [astep, ho]; rw [he x (by simp [ho, Op.operands]), he y (by simp [ho, Op.operands])]; exact h
 ·rename_i al ts ho
  split at hK
  ·rename_i x y e1
   exact alikeS_of ((maxK_q true (ez S x) (ez S y)).same (q := true)) (fun _ => rfl) hK (by simp) fun S' hn he K' h => by
    simp only [astep, ho, e1]; rw [he x (by simp [ho, Op.operands, Call.operands, e1]), he y (by simp [ho, Op.operands, Call.operands, e1])]; exact h
  ·exact hK.elim
 ·rename_i al ts ho
  split at hK
  ·rename_i x y e1
   exact alikeS_of ((maxK_q false (ez S x) (ez S y)).same (q := true)) (fun _ => rfl) hK (by simp) fun S' hn he K' h => by
    simp only [astep, ho, e1]; rw [he x (by simp [ho, Op.operands, Call.operands, e1]), he y (by simp [ho, Op.operands, Call.operands, e1])]; exact h
  ·exact hK.elim
 ·rename_i fn first cap ho
  exact alikeS_of ((funK_q fn (first.toList.map (ez S)) (cap.toList.map (ez S))).same (q := true)) (fun _ => rfl) hK (by simp) fun S' hn he K' h => by
   have h1 : first.toList.map (ez S') = first.toList.map (ez S) := List.map_congr_left fun x hx => he x (by simp only [ho, Op.operands, Array.toList_append, List.mem_append]; exact .inl hx)
   have h2 : cap.toList.map (ez S') = cap.toList.map (ez S) := List.map_congr_left fun x hx => he x (by simp only [ho, Op.operands, Array.toList_append, List.mem_append]; exact .inr hx)
   simp only [astep, ho]; rw [h1, h2]; exact h
 ·rename_i T r ho
  exact alikeS_of ((mkmK_q (mapP P T) (r.map (ez S))).same (q := true)) (fun _ => rfl) hK (by simp) fun S' hn he K' h => by
   have h1 : r.map (ez S') = r.map (ez S) := by cases r with | none => rfl | some y => exact congrArg some (he y (by simp [ho, Op.operands]))
   simp only [astep, ho]; rw [h1]; exact h
 ·rename_i T x y comma ho
  exact alikeS_of ((lookK_q (mapP P T) comma (ez S x) (ez S y)).same (q := true)) (fun _ => rfl) hK (nm_in (by simp [ho, Op.operands])) fun S' hn he K' h => by
   simp only [astep, ho]; rw [he x (by simp [ho, Op.operands]), he y (by simp [ho, Op.operands])]; exact h
 ·rename_i T x y z ho
  exact alikeS_set (updK_q (mapP P T) (ez S x) (ez S y) (ez S z)) (by simp [ho, isQ]) hK.2 (nm_in (by simp [ho, Op.operands])) fun S' hn he K' h => by
   simp only [astep, ho]; rw [he x (by simp [ho, Op.operands]), he y (by simp [ho, Op.operands]), he z (by simp [ho, Op.operands])]; exact ⟨hK.1, h⟩
 ·rename_i T x y ho
  exact alikeS_set (entK_q (mapP P T) (ez S x) (ez S y)) (by simp [ho, isQ]) hK (nm_in (by simp [ho, Op.operands])) fun S' hn he K' h => by
   simp only [astep, ho]; rw [he x (by simp [ho, Op.operands]), he y (by simp [ho, Op.operands])]; exact h
 ·rename_i T x y z ho
  exact alikeS_set (estK_q (ez S x) (ez S y) (ez S z)) (by simp [ho, isQ]) hK.2 (nm_in (by simp [ho, Op.operands])) fun S' hn he K' h => by
   simp only [astep, ho]; rw [he x (by simp [ho, Op.operands]), he y (by simp [ho, Op.operands]), he z (by simp [ho, Op.operands])]; exact ⟨hK.1, h⟩
 ·rename_i T x ho
  exact alikeS_of ((rngK_q (mapP P T).isSome (ez S x)).same (q := true)) (fun _ => rfl) hK (nm_in (by simp [ho, Op.operands])) fun S' hn he K' h => by
   simp only [astep, ho]; rw [he x (by simp [ho, Op.operands])]; exact h
 ·rename_i x ho
  rw [ho] at hN; cases hN
 ·rename_i x ho
  exact alikeS_of ((ryK_q (ez S x)).same (q := true)) (fun _ => rfl) hK (nm_in (by simp [ho, Op.operands])) fun S' hn he K' h => by
   simp only [astep, ho]; rw [he x (by simp [ho, Op.operands])]; exact h
 ·rename_i al ts ho
  split at hK
  ·rename_i s x t t' e1 e2
   exact alikeS_of (copK_q (eltP P t) (ez S s) (ez S x)) (by simp [ho, isQ]) hK (nm_in2 (by simp [ho, Op.operands, Call.operands, e1]) (by simp [ho, Op.operands, Call.operands, e1])) fun S' hn he K' h => by
    simp only [astep, ho, e1, e2]; rw [he s (by simp [ho, Op.operands, Call.operands, e1]), he x (by simp [ho, Op.operands, Call.operands, e1])]; exact h
  ·exact hK.elim
 ·exact hK.elim
theorem opK_alike (hK : opK P ops o S K) (hN : isN o.op = false) : ∃ r e, K r (e.on S.m) ∧ isNew (isQ P o.op) o.dst S.m e ∧ Alike P ops o S r e := by
 obtain ⟨hd, hK⟩ := hK
 have up0 : ∀ k ∈ (o.op.operands.toList.map (ez S)).flatMap nmR, k ∈ (reads ops o).flatMap fun t => nmR (ez S (.tmp t)) := fun k hk => by
  obtain ⟨y, hy, hk⟩ := List.mem_flatMap.1 hk; obtain ⟨x, hx, rfl⟩ := List.mem_map.1 hy; obtain ⟨t, ht, hk⟩ := nm_ev hk; exact List.mem_flatMap.2 ⟨t, List.mem_append_left _ (List.mem_filterMap.2 ⟨x, hx, ht⟩), hk⟩
 have idk : ∀ {ns : List Nat} {m : Mem}, Known ns m .id := ⟨(fun _ _ h => by cases h), (fun _ _ h => by cases h)⟩
 have up : ∀ {r : SV} {e : Ef}, AlikeS P o S r e → ∀ S' : AS, S'.n = S.n → (∀ t ∈ reads ops o, S'.f t = S.f t) → Look e ((reads ops o).flatMap fun t => nmR (ez S (.tmp t))) S.m S'.m → (∀ k ob, e = .new k ob → mat S'.m k = none) → ∀ K' : SV → Mem → Prop, K' r (e.on S'.m) → astep P o S' K' := by
  intro r e h S' hn hf ha hfr K' hK'; refine h.2 S' hn (fun x hx => ev_same hn fun t ht => hf t (List.mem_append_left _ (List.mem_filterMap.2 ⟨x, hx, ht⟩))) ?_ hfr K' hK'
  exact ha.mono fun k hk => up0 k hk
 split at hK
 ·rename_i hg
  obtain ⟨r, e, h1, h2, h3⟩ := astep_alike hK hN; refine ⟨r, e, h1, h2, h3.1.mono up0, fun S' hn hf ha hfr K' hK' => ⟨by rw [hn]; exact hd, ?_⟩⟩; simp only [hg]; exact up h3 S' hn hf ha hfr K' hK'
 ·rename_i j want hg
  split at hK
  ·rename_i t ht
   split at hK
   ·rename_i x hx
    have hgs : t ∈ reads ops o := List.mem_append_right _ (by simp [gslot, hg, ht])
    by_cases hw : x = want
    ·obtain ⟨r, e, h1, h2, h3⟩ := astep_alike (hK.1 hw) hN; refine ⟨r, e, h1, h2, h3.1.mono up0, fun S' hn hf ha hfr K' hK' => ⟨by rw [hn]; exact hd, ?_⟩⟩
     have hx' : ez S' (.tmp t) = .c (.b x) := by rw [ev_same hn (x := .tmp t) fun t' e => by injection e with e; subst e; exact hf t hgs]; exact hx
     simp only [hg, ht, hx']; exact ⟨fun _ => up h3 S' hn hf ha hfr K' hK', fun h => absurd hw h⟩
    ·refine ⟨.t [], .id, hK.2 hw, ⟨(fun _ _ h => by cases h), fun _ => ⟨(fun _ _ h => by cases h), (fun _ _ h => by cases h)⟩⟩, idk, fun S' hn hf ha hfr K' hK' => ⟨by rw [hn]; exact hd, ?_⟩⟩
     have hx' : ez S' (.tmp t) = .c (.b x) := by rw [ev_same hn (x := .tmp t) fun t' e => by injection e with e; subst e; exact hf t hgs]; exact hx
     simp only [hg, ht, hx']; exact ⟨fun h => absurd h hw, fun _ => hK'⟩
   ·rename_i hx
    have hgs : t ∈ reads ops o := List.mem_append_right _ (by simp [gslot, hg, ht]); refine ⟨.t [], .id, hK, ⟨(fun _ _ h => by cases h), fun _ => ⟨(fun _ _ h => by cases h), (fun _ _ h => by cases h)⟩⟩, idk, fun S' hn hf ha hfr K' hK' => ⟨by rw [hn]; exact hd, ?_⟩⟩
    have hx' : ez S' (.tmp t) = .t [] := by rw [ev_same hn (x := .tmp t) fun t' e => by injection e with e; subst e; exact hf t hgs]; exact hx
    simp only [hg, ht, hx']; exact hK'
   ·exact hK.elim
  ·exact hK.elim
end

end Go.Proofs.YtbgifiijjjoebaaGreatDoor
