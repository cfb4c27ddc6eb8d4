/- Regions, in whatever order. No conditions. Regions: one order stands for all. No conditions. -/
import Derived.Test.YtpkfjbljhneenaaGreatGDoesBe
import Derived.OrdersHeld
namespace Go.Proofs.YtpkfjbljhneenaaGreat
open Go.RowKit

def isQ (P : Program) : Op → Bool
 | .move _ | .assign _ | .pick .. | .alloc _ | .box .. | .build .. | .buildSlice .. | .load .. | .binOp .. | .unOp .. | .convert .. | .makeSlice .. | .slice _ _ _ _ none | .fieldAddr .. | .indexAddr .. | .extract .. | .index .. | .makeFunc .. | .makeMap .. | .lookup .. | .range .. | .entry _ => true
 | .call { callee := .builtin .len, .. } => true
 | .call { callee := .builtin .max, .. } => true
 | .call { callee := .builtin .min, .. } => true
 | .call { callee := .value (.func f), .. } => !loudP P f
 | _ => false
def slotOf : Operand → Option Nat
 | .tmp t => some t
 | _ => none
def gslot (ops : Array Oper) (o : Oper) : Option Nat := o.guard.bind fun g => (ops[g.1]?).bind (·.dst)
def reads (ops : Array Oper) (o : Oper) : List Nat := o.op.operands.toList.filterMap slotOf ++ (gslot ops o).toList

section
variable {P : Program} {S S' : AS} {o : Oper} {K : SV → Mem → Prop} {ops : Array Oper}
theorem ev_same (hn : S'.n = S.n) {x : Operand} (h : ∀ t, slotOf x = some t → S'.f t = S.f t) : ez S' x = ez S x := by
 cases x with
 | tmp t => simp only [ez, hn]; split; exact h t rfl; rfl
 | const v => rfl
 | global g => rfl
 | func f => rfl
theorem nm_ev {x : Operand} {k : Nat} (h : k ∈ nmR (ez S x)) : ∃ t, slotOf x = some t ∧ k ∈ nmR (ez S (.tmp t)) := by
 cases x with
 | tmp t => exact ⟨t, rfl, h⟩
 | const v =>
  have : ∀ c : CV, cCV v = some c → nmC c = [] := fun c hc => by
   unfold cCV at hc
   split at hc
   ·split at hc
    ·injection hc with hc; subst hc; rfl
    ·cases hc
   ·injection hc with hc; subst hc; rfl
   ·split at hc
    ·injection hc with hc; subst hc; rfl
    ·cases hc
   ·injection hc with hc; subst hc; rfl
   ·injection hc with hc; subst hc; rfl
   ·injection hc with hc; subst hc; rfl
   ·injection hc with hc; subst hc; rfl
   ·cases hc
  have key : ∀ (vs : List Value) (xs : List CV), cCVs vs = some xs → xs.flatMap nmC = [] := by
   intro vs
   induction vs with
   | nil => intro xs hx; simp only [cCVs, Option.some.injEq] at hx; subst hx; rfl
   | cons u r ih =>
    intro xs hx; unfold cCVs at hx
    split at hx
    ·rename_i x y h1 h2
     injection hx with hx
     subst hx
     have h3 : nmC x = [] := by
      unfold cCV at h1
      split at h1
      ·split at h1
       ·injection h1 with h1; subst h1; rfl
       ·cases h1
      ·injection h1 with h1; subst h1; rfl
      ·split at h1
       ·injection h1 with h1; subst h1; rfl
       ·cases h1
      ·injection h1 with h1; subst h1; rfl
      ·injection h1 with h1; subst h1; rfl
      ·injection h1 with h1; subst h1; rfl
      ·injection h1 with h1; subst h1; rfl
      ·cases h1
     simp [h3, ih y h2]
    ·cases hx
  simp only [ez] at h; unfold cRV at h
  split at h
  ·split at h
   ·rename_i hx; simp only [nmR, key _ _ hx] at h; cases h
   ·cases h
  ·split at h
   ·rename_i hx; simp only [nmR, this _ hx] at h; cases h
   ·cases h
 | global g => cases h
 | func f => cases h
def Look (e : Ef) (ns : List Nat) (m m' : Mem) : Prop := match e with
 | .set _ _ => ∀ k, mat m' k = mat m k
 | .all _ => ∀ k, mat m' k = mat m k
 | _ => Agree ns m m'
theorem look_full {e : Ef} {ns : List Nat} {m m' : Mem} (h : ∀ k, mat m' k = mat m k) : Look e ns m m' := by
 cases e <;> first | exact h | exact fun k _ ob hob => by rw [h]; exact hob
theorem Look.agree {e : Ef} {ns : List Nat} {m m' : Mem} (h : Look e ns m m') : Agree ns m m' := by
 cases e <;> first | exact h | exact fun k _ ob hob => by rw [h]; exact hob
theorem Look.mono {e : Ef} {ns ns' : List Nat} {m m' : Mem} (h : Look e ns' m m') (k : ∀ x ∈ ns, x ∈ ns') : Look e ns m m' := by
 cases e <;> first | exact h | exact Agree.mono h k
def isN : Op → Bool
 | .next .. => true
 | _ => false
def Alike (P : Program) (ops : Array Oper) (o : Oper) (S : AS) (r : SV) (e : Ef) : Prop :=
 ∀ S' : AS, S'.n = S.n → (∀ t ∈ reads ops o, S'.f t = S.f t) → Look e ((reads ops o).flatMap fun t => nmR (ez S (.tmp t))) S.m S'.m → (∀ k ob, e = .new k ob → mat S'.m k = none) → ∀ K' : SV → Mem → Prop, K' r (e.on S'.m) → opK P ops o S' K'
def isNew (q : Bool) (d : Option Nat) (m : Mem) (e : Ef) : Prop := (∀ k ob, e = .new k ob → d = some k ∧ mat m k = none) ∧ (q = true → (∀ k ob, e ≠ .set k ob) ∧ ∀ m', e ≠ .all m')
def AlikeS (P : Program) (o : Oper) (S : AS) (r : SV) (e : Ef) : Prop :=
 ∀ S' : AS, S'.n = S.n → (∀ x ∈ o.op.operands.toList, ez S' x = ez S x) → Look e ((o.op.operands.toList.map (ez S)).flatMap nmR) S.m S'.m → (∀ k ob, e = .new k ob → mat S'.m k = none) → ∀ K' : SV → Mem → Prop, K' r (e.on S'.m) → astep P o S' K'
theorem alikeS_of {F : Mem → (SV → Mem → Prop) → Prop} {ns : List Nat} {q : Bool} (h : Same q o.dst ns S.m F) (hq : isQ P o.op = true → q = true) (hK : F S.m K) (hns : ∀ k ∈ ns, k ∈ (o.op.operands.toList.map (ez S)).flatMap nmR) (hS : ∀ S' : AS, S'.n = S.n → (∀ x ∈ o.op.operands.toList, ez S' x = ez S x) → ∀ K', F S'.m K' → astep P o S' K') :
  ∃ r e, K r (e.on S.m) ∧ isNew (isQ P o.op) o.dst S.m e ∧ AlikeS P o S r e := by
 obtain ⟨r, e, h1, h2, h3⟩ := h K hK; refine ⟨r, e, h1, ⟨h2.1, fun h => ⟨h2.2.1 (hq h), h2.2.2⟩⟩, fun S' hn he ha hf K' hK' => hS S' hn he K' (h3 S'.m (ha.agree.mono hns) hf K' hK')⟩
theorem alikeS_set {F : Mem → (SV → Mem → Prop) → Prop} (h : Sets S.m F) (hq : isQ P o.op = false) (hK : F S.m K) (hS : ∀ S' : AS, S'.n = S.n → (∀ x ∈ o.op.operands.toList, ez S' x = ez S x) → ∀ K', F S'.m K' → astep P o S' K') :
  ∃ r e, K r (e.on S.m) ∧ isNew (isQ P o.op) o.dst S.m e ∧ AlikeS P o S r e := by
 obtain ⟨r, k, ob, h1, h2⟩ := h K hK; exact ⟨r, .set k ob, h1, ⟨(fun _ _ h => by cases h), fun h => by rw [hq] at h; cases h⟩, fun S' hn he ha _ K' hK' => hS S' hn he K' (h2 S'.m ha K' hK')⟩
theorem nm_in {x : Operand} {l : List Operand} (h : x ∈ l) : ∀ k ∈ nmR (ez S x), k ∈ (l.map (ez S)).flatMap nmR := fun k hk => List.mem_flatMap.2 ⟨_, List.mem_map_of_mem h, hk⟩
theorem nm_toE (x : SV) : nmR (toE x) = nmR x := by
 unfold toE
 split <;> rfl
theorem nm_inE {x : Operand} {l : List Operand} (h : x ∈ l) : ∀ k ∈ nmR (toE (ez S x)), k ∈ (l.map (ez S)).flatMap nmR := by
 rw [nm_toE]; exact nm_in h
theorem nm_in2 {x y : Operand} {l : List Operand} (h : x ∈ l) (h' : y ∈ l) : ∀ k ∈ nmR (ez S x) ++ nmR (ez S y), k ∈ (l.map (ez S)).flatMap nmR := fun k hk => (List.mem_append.1 hk).elim (nm_in h k) (nm_in h' k)
theorem evs_same {ps : Array (Nat × Operand)} (h : ∀ x ∈ (ps.toList.map (·.2)), ez S' x = ez S x) : evs S' ps = evs S ps := by
 unfold evs
 apply List.map_congr_left
 intro p hp; rw [h _ (List.mem_map_of_mem hp)]
theorem callM_q {f : FuncId} {m : Mem} {al : List SV} (h : callM P f m K al) : ∃ r m', K r m' ∧ ∀ m2 : Mem, (∀ k, mat m2 k = mat m k) → ∀ K' : SV → Mem → Prop, K' r m' → callM P f m2 K' al := by
 obtain ⟨mm, he, h0, m0, r, m1, h1, h2, h3, h4, h5, h6, h7, h8, h9, hK⟩ := h; exact ⟨r, _, hK, fun m2 he2 K' hK' => ⟨mm, fun k => (he k).trans (he2 k).symm, h0, m0, r, m1, h1, h2, h3, h4, h5, h6, h7, h8, h9, hK'⟩⟩
theorem astep_alike (hK : astep P o S K) (hN : isN o.op = false) : ∃ r e, K r (e.on S.m) ∧ isNew (isQ P o.op) o.dst S.m e ∧ AlikeS P o S r e := by
 unfold astep at hK
 split at hK
 ·rename_i x ho
  exact alikeS_of (F := fun m K => K (ez S x) m) ((quiet_ret _).same (q := true)) (fun _ => rfl) hK (by simp) fun S' hn he K' h => by
   simp only [astep, ho]; rw [he x (by simp [ho, Op.operands])]; exact h
 ·rename_i x ho
  exact alikeS_of (F := fun m K => K (ez S x) m) ((quiet_ret _).same (q := true)) (fun _ => rfl) hK (by simp) fun S' hn he K' h => by
   simp only [astep, ho]; rw [he x (by simp [ho, Op.operands])]; exact h
 ·rename_i x y z ho
  exact alikeS_of ((pickK_q (ez S x) (ez S y) (ez S z)).same (q := true)) (fun _ => rfl) hK (by simp) fun S' hn he K' h => by
   simp only [astep, ho]; rw [he x (by simp [ho, Op.operands]), he y (by simp [ho, Op.operands]), he z (by simp [ho, Op.operands])]; exact h
 ·rename_i T ho
  exact alikeS_of ((allocK_q (zeroC P T)).same (q := true)) (fun _ => rfl) hK (by simp) fun S' hn he K' h => by
   simp only [astep, ho]; exact h
 ·rename_i T x ho
  exact alikeS_of (F := fun m K => boxK o.dst m K (ez S x)) ((allocK_q (cellsOf (ez S x))).same (q := true)) (fun _ => rfl) hK (by simp) fun S' hn he K' h => by
   simp only [astep, ho]; rw [he x (by simp [ho, Op.operands])]; exact h
 ·rename_i T ps ho
  exact alikeS_of ((buildK_q (bldP P T) (evs S ps)).same (q := true)) (fun _ => rfl) hK (by simp) fun S' hn he K' h => by
   simp only [astep, ho]; rw [evs_same (S := S) fun x hx => he x (by simp only [ho, Op.operands]; simpa using hx)]; exact h
 ·rename_i T len ps ho
  exact alikeS_of ((rwK_q (eltP P T) len (evs S ps)).same (q := true)) (fun _ => rfl) hK (by simp) fun S' hn he K' h => by
   simp only [astep, ho]; rw [evs_same (S := S) fun x hx => he x (by simp only [ho, Op.operands]; simpa using hx)]; exact h
 ·rename_i t x ho
  split at hK
  ·rename_i g n hl
   exact alikeS_of ((loadK_q g n (toE (ez S x))).same (q := true)) (fun _ => rfl) hK (nm_inE (by simp [ho, Op.operands])) fun S' hn he K' h => by
    simp only [astep, ho, hl]; rw [he x (by simp [ho, Op.operands])]; exact h
  ·exact hK.elim
 ·rename_i t x y ho
  split at hK
  ·rename_i g n hl
   exact alikeS_of (storeK_q n (ez S x) (ez S y)) (by simp [ho, isQ]) hK.2 (nm_in2 (by simp [ho, Op.operands]) (by simp [ho, Op.operands])) fun S' hn he K' h => by
    simp only [astep, ho, hl]; rw [he x (by simp [ho, Op.operands]), he y (by simp [ho, Op.operands])]; exact ⟨hK.1, h⟩
  ·exact hK.elim
 ·rename_i op t x y u ho
  exact alikeS_of ((binK_q (P := P) op t (ez S x) (ez S y)).same (q := true)) (fun _ => rfl) hK (by simp) fun S' hn he K' h => by
   simp only [astep, ho]; rw [he x (by simp [ho, Op.operands]), he y (by simp [ho, Op.operands])]; exact h
 ·rename_i op t x ho
  exact alikeS_of ((unK_q op (ez S x)).same (q := true)) (fun _ => rfl) hK (by simp) fun S' hn he K' h => by
   simp only [astep, ho]; rw [he x (by simp [ho, Op.operands])]; exact h
 ·rename_i t u x ho
  split at hK
  ·rename_i k hk
   exact alikeS_of ((convK_q (some k) (ez S x)).same (q := true)) (fun _ => rfl) hK (by simp) fun S' hn he K' h => by
    simp only [astep, ho, hk]; rw [he x (by simp [ho, Op.operands])]; exact h
  ·rename_i hk
   exact alikeS_of ((bstrK_q (cvsP P t u) (ez S x)).same (q := true)) (fun _ => rfl) hK (nm_in (by simp [ho, Op.operands])) fun S' hn he K' h => by
    simp only [astep, ho, hk]; rw [he x (by simp [ho, Op.operands])]; exact h
 ·rename_i T l q ho
  exact alikeS_of ((makeK_q (P := P) (eltP P T) (ez S l) (ez S q)).same (q := true)) (fun _ => rfl) hK (by simp) fun S' hn he K' h => by
   simp only [astep, ho]; rw [he l (by simp [ho, Op.operands]), he q (by simp [ho, Op.operands])]; exact h
 ·rename_i T x lo hi ho
  exact alikeS_of ((sliceK_q (P := P) T (ez S x) (lo.map (ez S)) (hi.map (ez S))).same (q := true)) (fun _ => rfl) hK (by simp) fun S' hn he K' h => by
   have h1 : lo.map (ez S') = lo.map (ez S) := by cases lo with | none => rfl | some y => exact congrArg some (he y (by simp [ho, Op.operands]))
   have h2 : hi.map (ez S') = hi.map (ez S) := by cases hi with | none => rfl | some y => exact congrArg some (he y (by simp [ho, Op.operands]))
   simp only [astep, ho]; rw [he x (by simp [ho, Op.operands]), h1, h2]; exact h
 ·rename_i T x i ho
  exact alikeS_of ((fieldK_q (fldP P T i) (toE (ez S x))).same (q := true)) (fun _ => rfl) hK (nm_inE (by simp [ho, Op.operands])) fun S' hn he K' h => by
   simp only [astep, ho]; rw [he x (by simp [ho, Op.operands])]; exact h
 ·rename_i T x y ho
  split at hK
  ·rename_i e es bs hl
   exact alikeS_of ((indexK_q es (ez S x) (ez S y)).same (q := true)) (fun _ => rfl) hK (nm_in2 (by simp [ho, Op.operands]) (by simp [ho, Op.operands])) fun S' hn he K' h => by
    simp only [astep, ho, hl]; rw [he x (by simp [ho, Op.operands]), he y (by simp [ho, Op.operands])]; exact h
  ·exact hK.elim
 ·rename_i x j ho
  exact alikeS_of ((extractK_q j (ez S x)).same (q := true)) (fun _ => rfl) hK (by simp) fun S' hn he K' h => by
   simp only [astep, ho]; rw [he x (by simp [ho, Op.operands])]; exact h
 ·rename_i al ts ho
  split at hK
  ·rename_i x t e1 e2
   exact alikeS_of ((lenK_q (slP P t) (ez S x)).same (q := true)) (fun _ => rfl) hK (nm_in (by simp [ho, Op.operands, Call.operands, e1])) fun S' hn he K' h => by
    simp only [astep, ho, e1, e2]; rw [he x (by simp [ho, Op.operands, Call.operands, e1])]; exact h
  ·exact hK.elim
 ·rename_i al ts ho
  split at hK
  ·rename_i s x t t' e1 e2
   exact alikeS_of (appK_q (eltP P t) (ez S s) (ez S x)) (by simp [ho, isQ]) hK.2 (nm_in2 (by simp [ho, Op.operands, Call.operands, e1]) (by simp [ho, Op.operands, Call.operands, e1])) fun S' hn he K' h => by
    simp only [astep, ho, e1, e2]; rw [he s (by simp [ho, Op.operands, Call.operands, e1]), he x (by simp [ho, Op.operands, Call.operands, e1])]; exact ⟨hK.1, h⟩
  ·exact hK.elim
 ·rename_i f al ts ho
  have hin : ∀ x ∈ al.toList, x ∈ o.op.operands.toList := fun x hx => by simp [ho, Op.operands, Call.operands]; exact .inr (by simpa using hx)
  have hsame : ∀ S' : AS, (∀ x ∈ o.op.operands.toList, ez S' x = ez S x) → al.toList.map (ez S') = al.toList.map (ez S) := fun S' he => List.map_congr_left fun x hx => he x (hin x hx)
  cases hl : loudP P f with
  | true =>
   simp only [hl] at hK; obtain ⟨r, m', h1, h2⟩ := callM_q hK; refine ⟨r, .all m', h1, ⟨(fun _ _ h => by cases h), fun h => by simp [ho, isQ, hl] at h⟩, fun S' hn he ha _ K' hK' => ?_⟩; simp only [astep, ho, hl]; rw [hsame S' he]; exact h2 S'.m ha K' hK'
  | false =>
  simp only [hl] at hK
  refine alikeS_of (F := fun m K => callK P o.dst f m K (al.toList.map (ez S))) (ns := (al.toList.map (ez S)).flatMap nmR) (q := true) (callK_q (P := P) (m := S.m) (d := o.dst) f (al.toList.map (ez S))).same (fun _ => rfl) hK (fun k hk => ?_) fun S' hn he K' h => ?_
  ·obtain ⟨x, hx, hk⟩ := List.mem_flatMap.1 hk; obtain ⟨y, hy, rfl⟩ := List.mem_map.1 hx; exact nm_in (hin y hy) k hk
  ·simp only [astep, ho, hl]
   rw [hsame S' he]; exact h
 ·exact hK.elim
theorem opK_alike (hK : opK P ops o S K) (hN : isN o.op = false) : ∃ r e, K r (e.on S.m) ∧ isNew (isQ P o.op) o.dst S.m e ∧ Alike P ops o S r e := by
 obtain ⟨hd, hK⟩ := hK
 have up : ∀ {r : SV} {e : Ef}, AlikeS P o S r e → ∀ S' : AS, S'.n = S.n → (∀ t ∈ reads ops o, S'.f t = S.f t) → Look e ((reads ops o).flatMap fun t => nmR (ez S (.tmp t))) S.m S'.m → (∀ k ob, e = .new k ob → mat S'.m k = none) → ∀ K' : SV → Mem → Prop, K' r (e.on S'.m) → astep P o S' K' := by
  intro r e h S' hn hf ha hfr K' hK'; refine h S' hn (fun x hx => ev_same hn fun t ht => hf t (List.mem_append_left _ (List.mem_filterMap.2 ⟨x, hx, ht⟩))) ?_ hfr K' hK'
  refine ha.mono fun k hk => ?_
  obtain ⟨y, hy, hk⟩ := List.mem_flatMap.1 hk; obtain ⟨x, hx, rfl⟩ := List.mem_map.1 hy; obtain ⟨t, ht, hk⟩ := nm_ev hk; exact List.mem_flatMap.2 ⟨t, List.mem_append_left _ (List.mem_filterMap.2 ⟨x, hx, ht⟩), hk⟩
 split at hK
 ·rename_i hg
  obtain ⟨r, e, h1, h2, h3⟩ := astep_alike hK hN; refine ⟨r, e, h1, h2, fun S' hn hf ha hfr K' hK' => ⟨by rw [hn]; exact hd, ?_⟩⟩; simp only [hg]; exact up h3 S' hn hf ha hfr K' hK'
 ·rename_i j want hg
  split at hK
  ·rename_i t ht
   split at hK
   ·rename_i x hx
    have hgs : t ∈ reads ops o := List.mem_append_right _ (by simp [gslot, hg, ht])
    by_cases hw : x = want
    ·obtain ⟨r, e, h1, h2, h3⟩ := astep_alike (hK.1 hw) hN; refine ⟨r, e, h1, h2, fun S' hn hf ha hfr K' hK' => ⟨by rw [hn]; exact hd, ?_⟩⟩
     have hx' : ez S' (.tmp t) = .c (.b x) := by rw [ev_same hn (x := .tmp t) fun t' e => by injection e with e; subst e; exact hf t hgs]; exact hx
     simp only [hg, ht, hx']; exact ⟨fun _ => up h3 S' hn hf ha hfr K' hK', fun h => absurd hw h⟩
    ·refine ⟨.t [], .id, hK.2 hw, ⟨(fun _ _ h => by cases h), fun _ => ⟨(fun _ _ h => by cases h), (fun _ h => by cases h)⟩⟩, fun S' hn hf ha hfr K' hK' => ⟨by rw [hn]; exact hd, ?_⟩⟩
     have hx' : ez S' (.tmp t) = .c (.b x) := by rw [ev_same hn (x := .tmp t) fun t' e => by injection e with e; subst e; exact hf t hgs]; exact hx
     simp only [hg, ht, hx']; exact ⟨fun h => absurd h hw, fun _ => hK'⟩
   ·rename_i hx
    have hgs : t ∈ reads ops o := List.mem_append_right _ (by simp [gslot, hg, ht]); refine ⟨.t [], .id, hK, ⟨(fun _ _ h => by cases h), fun _ => ⟨(fun _ _ h => by cases h), (fun _ h => by cases h)⟩⟩, fun S' hn hf ha hfr K' hK' => ⟨by rw [hn]; exact hd, ?_⟩⟩
    have hx' : ez S' (.tmp t) = .t [] := by rw [ev_same hn (x := .tmp t) fun t' e => by injection e with e; subst e; exact hf t hgs]; exact hx
    simp only [hg, ht, hx']; exact hK'
   ·exact hK.elim
  ·exact hK.elim
end

end Go.Proofs.YtpkfjbljhneenaaGreat

namespace Go.Proofs.YtpkfjbljhneenaaGreat
open Go.RowKit

def aops (P : Program) (ops : Array Oper) (KF : AS → Prop) : List Oper → AS → Prop
 | [], S => KF S
 | o :: r, S => opK P ops o S fun rv m' => aops P ops KF r (S.put o.dst rv m')

def anc (ops : Array Oper) : Nat → Nat → Nat → Bool
 | 0, _, _ => false
 | f + 1, j, i => match ops[j]? with
  | some o => o.after.any (fun e => Region.binds .any e && e.on == i) || o.after.any fun e => Region.binds .any e && anc ops f e.on i
  | none => false
def qlen (P : Program) : List Oper → Nat
 | [] => 0
 | o :: r => if isQ P o.op then qlen P r + 1 else 0
def qn (P : Program) (ops : Array Oper) : Nat := qlen P ops.toList
def disB (ops : Array Oper) (i j : Nat) : Bool :=
 match (ops[i]?).bind (·.dst), (ops[j]?).bind (·.dst) with
 | some x, some y => x != y
 | _, _ => true
def rdB (ops : Array Oper) (i j : Nat) : Bool :=
 match ops[i]?, (ops[j]?).bind (·.dst) with
 | some o, some t => !(reads ops o).contains t || anc ops ops.size i j || anc ops ops.size j i
 | _, _ => true
def regOk (P : Program) (ops : Array Oper) : Bool :=
 (List.range ops.size).all fun i =>
  (((ops[i]?).map fun o => o.after.all fun e => !Region.binds .any e || decide (e.on < i)).getD true) && !(((ops[i]?).map fun o => isN o.op).getD false) &&
  (if i < qn P ops then (List.range (qn P ops)).all fun j => i == j || (disB ops i j && rdB ops i j) else (List.range i).all fun j => anc ops ops.size i j)

section
variable {P : Program} {ops : Array Oper} {Q : Exit → Act → World → Prop} {w0 : Beg} {KF : AS → Prop}
theorem sim_list (hQ : ∀ S a w, KF S → Rel w0 S a w → Q .normal a w) : ∀ (l : List Oper) (S : AS) (a : Act) (w : World), Rel w0 S a w → aops P ops KF l S → wpList P ops Q l a w
 | [], S, a, w, h, hK => hQ S a w hK h
 | o :: r, S, a, w, ⟨c, h⟩, hK => by
  have h1 := sim_op (Q := Q) h hK; unfold wpList
  split at h1
  ·rename_i hw
   rw [if_pos hw]; exact .inl (Oper.wp_mono (fun a' w' ⟨rv, m', h2, h3⟩ => sim_list hQ r _ a' w' h3 h2) h1)
  ·rename_i hw
   rw [if_neg hw]; obtain ⟨rv, m', h2, h3⟩ := h1; exact sim_list hQ r _ _ w h3 h2

structure Chain (P : Program) (ops : Array Oper) (S : Nat → AS) (rv : Nat → SV) (ef : Nat → Ef) : Prop where
 step : ∀ i (o : Oper), ops[i]? = some o → S (i + 1) = (S i).put o.dst (rv i) ((ef i).on (S i).m) ∧ isNew (isQ P o.op) o.dst (S i).m (ef i) ∧ Alike P ops o (S i) (rv i) (ef i)
theorem chain_of (hN : ∀ (i : Nat) (o : Oper), ops[i]? = some o → isN o.op = false) : ∀ (l : List Oper) (k : Nat) (S : AS), (∀ j, l[j]? = ops[k + j]?) → aops P ops KF l S →
  ∃ (T : Nat → AS) (rv : Nat → SV) (ef : Nat → Ef), T k = S ∧ KF (T (k + l.length)) ∧ ∀ i (o : Oper), k ≤ i → ops[i]? = some o → T (i + 1) = (T i).put o.dst (rv i) ((ef i).on (T i).m) ∧ isNew (isQ P o.op) o.dst (T i).m (ef i) ∧ Alike P ops o (T i) (rv i) (ef i)
 | [], k, S, hl, h => by
  refine ⟨fun _ => S, fun _ => .u, fun _ => .id, rfl, h, fun i o hi ho => ?_⟩; have := hl (i - k); rw [show k + (i - k) = i by omega, ho] at this; simp at this
 | o :: r, k, S, hl, h => by
  have h0 : ops[k]? = some o := by simpa using (hl 0).symm
  obtain ⟨rv0, e0, h1, h2, h3⟩ := opK_alike h (hN k o h0); obtain ⟨T, rv, ef, h4, h5, h6⟩ := chain_of hN r (k + 1) _ (fun j => by have := hl (j + 1); simpa [Nat.add_assoc, Nat.add_comm 1 j] using this) h1; refine ⟨fun i => if i ≤ k then S else T i, fun i => if i = k then rv0 else rv i, fun i => if i = k then e0 else ef i, by simp, ?_, fun i o' hi ho => ?_⟩
  ·show KF (if k + (r.length + 1) ≤ k then S else T (k + (r.length + 1)))
   rw [if_neg (by omega), show k + (r.length + 1) = k + 1 + r.length by omega]; exact h5
  ·by_cases e : i = k
   ·subst e; rw [h0] at ho
    injection ho with ho
    subst ho; simp only [Nat.le_refl, if_true, show ¬ i + 1 ≤ i by omega, if_false]; exact ⟨h4, h2, h3⟩
   ·simp only [show ¬ i ≤ k by omega, show ¬ i + 1 ≤ k by omega, if_false, e]; exact h6 i o' (by omega) ho

structure Inv (ops : Array Oper) (S0 : AS) (rv : Nat → SV) (ef : Nat → Ef) (L : Nat → Prop) (S : AS) : Prop where
 n : S.n = S0.n
 f1 : ∀ i o t, L i → ops[i]? = some o → o.dst = some t → S.f t = rv i
 f2 : ∀ t, (∀ i o, L i → ops[i]? = some o → o.dst ≠ some t) → S.f t = S0.f t
 m : ∀ k ob, mat S.m k = some ob ↔ mat S0.m k = some ob ∨ ∃ i, L i ∧ ef i = .new k ob
theorem Inv.congr {S0 S : AS} {rv : Nat → SV} {ef : Nat → Ef} {L L' : Nat → Prop} (h : Inv ops S0 rv ef L S) (hL : ∀ i, L i ↔ L' i) : Inv ops S0 rv ef L' S :=
 ⟨h.n, fun i o t hi => h.f1 i o t ((hL i).2 hi), fun t ht => h.f2 t fun i o hi => ht i o ((hL i).1 hi), fun k ob => by rw [h.m]; simp only [hL]⟩
theorem Inv.put {S0 S : AS} {rv : Nat → SV} {ef : Nat → Ef} {L : Nat → Prop} {i : Nat} {o : Oper} (h : Inv ops S0 rv ef L S) (ho : ops[i]? = some o) (hd : ∀ j o' t, L j → ops[j]? = some o' → o.dst = some t → o'.dst ≠ some t) (hns : (∀ k ob, ef i ≠ .set k ob) ∧ ∀ m', ef i ≠ .all m')
  (hn : ∀ k ob, ef i = .new k ob → mat S.m k = none) : Inv ops S0 rv ef (fun j => L j ∨ j = i) (S.put o.dst (rv i) ((ef i).on S.m)) := by
 refine ⟨h.n, fun j o' t hj ho' ht => ?_, fun t ht => ?_, fun k ob => ?_⟩
 ·rcases hj with hj | rfl
  ·have h1 := h.f1 j o' t hj ho' ht
   cases hod : o.dst with
   | none => simpa [AS.put] using h1
   | some t' =>
    have : t ≠ t' := fun e => hd j o' t' hj ho' hod (by rw [← e]; exact ht)
    simp only [AS.put, fset, this, if_false]; exact h1
  ·rw [ho] at ho'
   injection ho' with ho'
   subst ho'; simp [AS.put, ht, fset]
 ·have h1 := h.f2 t fun j o' hj => ht j o' (.inl hj)
  cases hod : o.dst with
  | none => simpa [AS.put] using h1
  | some t' =>
   have : t ≠ t' := fun e => ht i o (.inr rfl) ho (by rw [hod, e])
   simp only [AS.put, fset, this, if_false]; exact h1
 ·show mat ((ef i).on S.m) k = some ob ↔ _
  cases he : ef i with
  | id =>
   simp only [Ef.on]; rw [h.m]
   constructor
   ·rintro (h1 | ⟨j, h1, h2⟩)
    ·exact .inl h1
    ·exact .inr ⟨j, .inl h1, h2⟩
   ·rintro (h1 | ⟨j, h1 | rfl, h2⟩)
    ·exact .inl h1
    ·exact .inr ⟨j, h1, h2⟩
    ·rw [he] at h2; cases h2
  | set k' ob' => exact absurd he (hns.1 k' ob')
  | all m' => exact absurd he (hns.2 m')
  | new k' ob' =>
   simp only [Ef.on, mat]
   by_cases e : k' = k
   ·subst e; have hnone := hn k' ob' he; simp only [if_true, Option.some.injEq]
    constructor
    ·rintro rfl; exact .inr ⟨i, .inr rfl, he⟩
    ·rintro (h1 | ⟨j, h1 | rfl, h2⟩)
     ·have := (h.m k' ob).2 (.inl h1); rw [hnone] at this; cases this
     ·have := (h.m k' ob).2 (.inr ⟨j, h1, h2⟩); rw [hnone] at this; cases this
     ·rw [he] at h2; injection h2
   ·simp only [e, if_false]; rw [h.m]
    constructor
    ·rintro (h1 | ⟨j, h1, h2⟩)
     ·exact .inl h1
     ·exact .inr ⟨j, .inl h1, h2⟩
    ·rintro (h1 | ⟨j, h1 | rfl, h2⟩)
     ·exact .inl h1
     ·exact .inr ⟨j, h1, h2⟩
     ·rw [he] at h2; injection h2 with e1; exact absurd e1 e
def Eqv (S S' : AS) : Prop := S'.n = S.n ∧ (∀ t, S'.f t = S.f t) ∧ ∀ k, mat S'.m k = mat S.m k
theorem Inv.eqv {S0 S S' : AS} {rv : Nat → SV} {ef : Nat → Ef} {L : Nat → Prop} (h : Inv ops S0 rv ef L S) (h' : Inv ops S0 rv ef L S') : Eqv S S' := by
 refine ⟨h'.n.trans h.n.symm, fun t => ?_, fun k => ?_⟩
 ·by_cases hx : ∃ i o, L i ∧ ops[i]? = some o ∧ o.dst = some t
  ·obtain ⟨i, o, h1, h2, h3⟩ := hx; rw [h.f1 i o t h1 h2 h3, h'.f1 i o t h1 h2 h3]
  ·have h0 : ∀ i o, L i → ops[i]? = some o → o.dst ≠ some t := fun i o h1 h2 h3 => hx ⟨i, o, h1, h2, h3⟩
   rw [h.f2 t h0, h'.f2 t h0]
 ·cases hk : mat S.m k with
  | some ob => rw [h'.m, ← h.m, hk]
  | none =>
   cases hk' : mat S'.m k with
   | none => rfl
   | some ob => rw [h'.m, ← h.m, hk] at hk'; cases hk'
theorem eqv_mon {c : Cx} {m m' : Mem} {w : World} (h : ∀ k, mat m' k = mat m k) : Mon c m w c m' w :=
 ⟨rfl, fun _ h => h, .refl w, fun k cs hk => ⟨rfl, cs, by rw [h]; exact hk⟩, fun k fr sz T xs hk => ⟨fr, xs, by rw [h]; exact hk, Nat.le_refl _, fun _ => rfl⟩, fun k fr kk es hk => ⟨rfl, fr, kk, es, by rw [h]; exact hk⟩, fun k fr mk rem la hk => ⟨rfl, rfl, rfl, fr, rem, la, by rw [h]; exact hk⟩⟩
theorem Rel.eqv {S S' : AS} {a : Act} {w : World} (h : Rel w0 S a w) (e : Eqv S S') : Rel w0 S' a w := by
 obtain ⟨c, h⟩ := h; have hm := eqv_mon (c := c) (w := w) e.2.2; refine ⟨c, h.n0, h.ext, h.df, h.xl, h.xo, by rw [e.1]; exact h.sz, fun t ht => by rw [e.2.1]; exact RelR.mon hm (h.sl t (by rw [← e.1]; exact ht)), fun k o hk => ?_, fun k k' o o' hne hk hk' => h.dis k k' o o' hne (by rw [← e.2.2]; exact hk) (by rw [← e.2.2]; exact hk')⟩
 have hk' : mat S.m k = some o := by rw [← e.2.2]; exact hk
 exact RelO.mon hm (h.mem k o hk') hk' hk (fun b hb => ⟨rfl, (h.bk hk' b hb).2.2⟩) rfl
theorem Eqv.put {S S' : AS} (e : Eqv S S') (d : Option Nat) (r : SV) (ef : Ef) : Eqv (S.put d r (ef.on S.m)) (S'.put d r (ef.on S'.m)) := by
 refine ⟨e.1, fun t => ?_, fun k => ?_⟩
 ·cases d with
  | none => exact e.2.1 t
  | some d => simp only [AS.put, fset]; rw [e.2.1]
 ·show mat (ef.on S'.m) k = mat (ef.on S.m) k
  cases ef with
  | id => exact e.2.2 k
  | new k' ob => simp only [Ef.on, mat, e.2.2]
  | all m' => rfl
  | set k' ob =>
   simp only [Ef.on]
   by_cases hk : k = k'
   ·subst hk
    cases h1 : mat S.m k with
    | some o1 => rw [mat_set_same h1, mat_set_same (by rw [e.2.2]; exact h1)]
    | none =>
     have key : ∀ m : Mem, mat m k = none → mat (mset m k ob) k = none := by
      intro m
      induction m with
      | nil => exact fun h => h
      | cons x r ih =>
       intro h; unfold mat at h; unfold mset
       by_cases hx : x.1 = k
       ·simp [hx] at h
       ·simp only [hx, if_false] at h ⊢; simp only [mat, hx, if_false]; exact ih h
     rw [key _ h1, key _ (by rw [e.2.2]; exact h1)]
   ·rw [mat_set_other hk, mat_set_other hk, e.2.2]

theorem nm_thereC {c : Cx} {m : Mem} {w : World} {v : Value} {x : CV} (h : RelC c m w v x) : ∀ k ∈ nmC x, ∃ ob, mat m k = some ob := by
 intro k hk
 cases x with
 | p j o => simp [nmC] at hk; subst hk; obtain ⟨_, cs, h⟩ := h; exact ⟨_, h⟩
 | r j n => simp [nmC] at hk; subst hk; obtain ⟨_, _, _, _, h, _⟩ := h; exact ⟨_, h⟩
 | m j => simp [nmC] at hk; subst hk; obtain ⟨_, _, _, _, h⟩ := h; exact ⟨_, h⟩
 | t j => simp [nmC] at hk; subst hk; obtain ⟨_, _, _, _, _, h⟩ := h; exact ⟨_, h⟩
 | f n ks =>
  obtain ⟨cap, -, h2⟩ := h; obtain ⟨p, hp, rfl⟩ := List.mem_map.1 hk; obtain ⟨i, hi, rfl⟩ := List.getElem_of_mem hp; obtain ⟨_, _, h3⟩ := forall2_get h2 i (by rw [forall2_len h2]; exact hi) hi; exact ⟨_, h3⟩
 | _ => cases hk
theorem nm_thereCs {c : Cx} {m : Mem} {w : World} : ∀ {vs : List Value} {xs : List CV}, F2 (RelC c m w) vs xs → ∀ k ∈ xs.flatMap nmC, ∃ ob, mat m k = some ob
 | _, _, .nil, k, hk => by cases hk
 | _, _, .cons h1 h2, k, hk => by
  simp only [List.flatMap_cons, List.mem_append] at hk; exact hk.elim (nm_thereC h1 k) (nm_thereCs h2 k)
theorem nm_there {c : Cx} {m : Mem} {w : World} {v : Value} {x : SV} (h : RelR c m w v x) : ∀ k ∈ nmR x, ∃ ob, mat m k = some ob := by
 intro k hk
 cases x with
 | c x => exact nm_thereC h k hk
 | g cs => obtain ⟨vs, _, h⟩ := h; exact nm_thereCs h k hk
 | t xs =>
  obtain ⟨vs, _, h⟩ := h
  have key : ∀ {vs : List Value} {xs : List AV}, F2 (RelA c m w) vs xs → k ∈ xs.flatMap nmA → ∃ ob, mat m k = some ob := by
   intro vs xs h
   induction h with
   | nil => exact fun h => by cases h
   | @cons v x _ _ h1 _ ih =>
    intro hk; simp only [List.flatMap_cons, List.mem_append] at hk; refine hk.elim (fun hk => ?_) ih
    cases x with
    | c x => exact nm_thereC h1 k hk
    | g cs => obtain ⟨vs, _, h⟩ := h1; exact nm_thereCs h k hk
  exact key h hk
 | q j n i o => simp [nmR] at hk; subst hk; obtain ⟨_, _, _, _, h, _⟩ := h; exact ⟨_, h⟩
 | u => cases hk
 | e fr ds => cases hk

theorem anc_in {L : Nat → Prop} (hL : ∀ j o, L j → ops[j]? = some o → ∀ e ∈ o.after, Region.binds .any e = true → L e.on) : ∀ {f j i : Nat}, (∀ o, ops[j]? = some o → ∀ e ∈ o.after, Region.binds .any e = true → L e.on) → anc ops f j i = true → L i
 | 0, _, _, _, h => by cases h
 | f + 1, j, i, hj, h => by
  unfold anc at h
  split at h
  ·rename_i o ho
   rcases Bool.or_eq_true _ _ ▸ h with h | h
   ·obtain ⟨x, hx, h⟩ := Array.any_eq_true.1 h; simp only [Bool.and_eq_true, beq_iff_eq] at h; rw [← h.2]; exact hj o ho _ (Array.getElem_mem hx) h.1
   ·obtain ⟨x, hx, h⟩ := Array.any_eq_true.1 h; simp only [Bool.and_eq_true] at h; have h1 := hj o ho _ (Array.getElem_mem hx) h.1; exact anc_in hL (fun o' ho' => hL _ o' h1 ho') h.2
  ·cases h
theorem anc_lt (hE : ∀ i o, ops[i]? = some o → ∀ e ∈ o.after, Region.binds .any e = true → e.on < i) {f j i : Nat} (h : anc ops f j i = true) : i < j :=
 anc_in (L := fun x => x < j) (fun k o hk ho e he hb => Nat.lt_trans (hE k o ho e he hb) hk) (fun o ho => hE j o ho) h
theorem regOk_spec (h : regOk P ops = true) : (∀ i o, ops[i]? = some o → ∀ e ∈ o.after, Region.binds .any e = true → e.on < i) ∧ (∀ i, i < qn P ops → i < ops.size → ∀ j, j < qn P ops → i ≠ j → disB ops i j = true ∧ rdB ops i j = true) ∧ ∀ i, qn P ops ≤ i → i < ops.size → ∀ j, j < i → anc ops ops.size i j = true := by
 simp only [regOk, List.all_eq_true, List.mem_range, Bool.and_eq_true] at h; refine ⟨fun i o ho e he hb => ?_, fun i hi hs j hj hne => ?_, fun i hi hs j hj => ?_⟩
 ·have hs := (Array.getElem?_eq_some_iff.1 ho).1; have h1 := (h i hs).1.1; rw [ho, Option.map_some, Option.getD_some, Array.all_eq_true_iff_forall_mem] at h1
  simpa [hb] using h1 e he
 ·have h1 := (h i hs).2; rw [if_pos hi, List.all_eq_true] at h1; have := h1 j (List.mem_range.2 hj)
  simpa [hne] using this
 ·have h1 := (h i hs).2; rw [if_neg (by omega), List.all_eq_true] at h1; exact h1 j (List.mem_range.2 hj)
theorem regOk_n (h : regOk P ops = true) : ∀ (i : Nat) (o : Oper), ops[i]? = some o → isN o.op = false := fun i o ho => by
 simp only [regOk, List.all_eq_true, List.mem_range, Bool.and_eq_true] at h; have h1 := (h i (Array.getElem?_eq_some_iff.1 ho).1).1.2
 simpa [ho] using h1
theorem qlen_spec : ∀ {l : List Oper} {i : Nat}, i < qlen P l → ∃ o, l[i]? = some o ∧ isQ P o.op = true
 | [], i, h => absurd h (Nat.not_lt_zero _)
 | o :: r, i, h => by
  unfold qlen at h
  split at h
  ·rename_i hq
   cases i with
   | zero => exact ⟨o, rfl, hq⟩
   | succ i => exact qlen_spec (l := r) (by omega)
  ·exact absurd h (Nat.not_lt_zero _)
theorem qlen_le : ∀ l : List Oper, qlen P l ≤ l.length
 | [] => Nat.le_refl _
 | o :: r => by
  unfold qlen; have := qlen_le r
  split <;> simp only [List.length_cons] <;> omega
theorem qn_spec {i : Nat} (hi : i < qn P ops) : ∃ o, ops[i]? = some o ∧ isQ P o.op = true := by
 obtain ⟨o, h1, h2⟩ := qlen_spec hi; exact ⟨o, by rw [← Array.getElem?_toList]; exact h1, h2⟩
theorem qn_le : qn P ops ≤ ops.size := by
 have := qlen_le (P := P) ops.toList; rw [Array.length_toList] at this; exact this
theorem chain_inv {T : Nat → AS} {rv : Nat → SV} {ef : Nat → Ef} (hok : regOk P ops = true) (hT : Chain P ops T rv ef) : ∀ i, i ≤ qn P ops → Inv ops (T 0) rv ef (fun j => j < i) (T i)
 | 0, _ => ⟨rfl, fun _ _ _ h => absurd h (Nat.not_lt_zero _), fun _ _ => rfl, fun k ob => ⟨.inl, fun h => h.elim id fun ⟨_, h, _⟩ => absurd h (Nat.not_lt_zero _)⟩⟩
 | i + 1, hi => by
  obtain ⟨hE, hD, _⟩ := regOk_spec hok; obtain ⟨o, ho, hq⟩ := qn_spec (P := P) (ops := ops) (i := i) (by omega); obtain ⟨h1, h2, _⟩ := hT.step i o ho; rw [h1]
  refine Inv.congr (Inv.put (chain_inv hok hT i (by omega)) ho (fun j o' t hj ho' ht ht' => ?_) (h2.2 hq) fun k ob he => (h2.1 k ob he).2) fun j => by omega
  have := (hD i (by omega) (Array.getElem?_eq_some_iff.1 ho).1 j (by omega) (by omega)).1; simp [disB, ho, ho', ht, ht'] at this
def Far (P : Program) (ops : Array Oper) (T : Nat → AS) (rv : Nat → SV) (ef : Nat → Ef) (L : Nat → Prop) (S : AS) : Prop :=
 ((∀ i, L i → i < qn P ops) ∧ Inv ops (T 0) rv ef L S) ∨ ∃ j, qn P ops ≤ j ∧ (∀ i, L i ↔ i < j) ∧ Eqv (T j) S
theorem sim_far {T : Nat → AS} {rv : Nat → SV} {ef : Nat → Ef} (hok : regOk P ops = true) (hT : Chain P ops T rv ef) (hQ : ∀ a w, Rel w0 (T ops.size) a w → Q .normal a w) :
  ∀ (m : Nat) (listed : Array Bool) (S : AS) (a : Act) (w : World), listed.size = ops.size → (∀ j o, listed.getD j false = true → ops[j]? = some o → ∀ e ∈ o.after, Region.binds .any e = true → listed.getD e.on false = true) →
   Far P ops T rv ef (fun i => listed.getD i false = true) S → Rel w0 S a w → ((List.range ops.size).filter fun i => !listed.getD i false).length ≤ m → wpAny P .any ops Q m listed a w := by
 obtain ⟨hE, hD, hA⟩ := regOk_spec hok; have hql := qn_le (P := P) (ops := ops)
 have bound : ∀ {listed : Array Bool} {i : Nat}, listed.size = ops.size → listed.getD i false = true → i < ops.size := fun hs h => by
  simp only [Array.getD] at h
  split at h
  ·omega
  ·cases h
 have gdd : ∀ {listed : Array Bool} {i : Nat}, listed.size = ops.size → i < ops.size → listed.getD i true = listed.getD i false := fun hs hi => by
  simp [Array.getD, hs, hi]
 -- nothing is ready: all are listed
 have fin : ∀ (listed : Array Bool) (S : AS) (a : Act) (w : World), listed.size = ops.size → Far P ops T rv ef (fun i => listed.getD i false = true) S → Rel w0 S a w → Region.ready .any ops listed = [] → Q .normal a w := by
  intro listed S a w hs hF hR hr
  have hall : ∀ i, i < ops.size → listed.getD i false = true := by
   intro i
   induction i using Nat.strongRecOn with
   | _ i ih =>
    intro hi
    cases hl : listed.getD i false with
    | true => rfl
    | false =>
     have : i ∈ Region.ready .any ops listed := mem_ready.2 ⟨by rw [gdd hs hi]; exact hl, ops[i], Array.getElem?_eq_getElem hi, fun e he hb => by
      have := hE i _ (Array.getElem?_eq_getElem hi) e he hb
      exact ih e.on this (by omega)⟩
     rw [hr] at this
     cases this
  rcases hF with ⟨h1, h2⟩ | ⟨j, h1, h2, h3⟩
  ·have hq : qn P ops = ops.size := by
    rcases Nat.lt_or_ge (qn P ops) ops.size with h | h
    ·exact absurd (h1 _ (hall _ h)) (by omega)
    ·omega
   have h4 := chain_inv hok hT (qn P ops) (Nat.le_refl _); refine hQ a w (hq ▸ hR.eqv ((h2.congr fun i => ⟨fun h => h1 i h, fun h => hall i (by omega)⟩).eqv h4))
  ·have hj : j = ops.size := by
    rcases Nat.lt_trichotomy j ops.size with h | h | h
    ·exact absurd ((h2 j).1 (hall j h)) (by omega)
    ·exact h
    ·exact absurd (bound hs ((h2 ops.size).2 h)) (by omega)
   subst hj; exact hQ a w (hR.eqv ⟨h3.1.symm, fun t => (h3.2.1 t).symm, fun k => (h3.2.2 k).symm⟩)
 intro m
 induction m with
 | zero =>
  intro listed S a w hs hC hF hR hm
  have hr : Region.ready .any ops listed = [] := by
   cases hx : Region.ready .any ops listed with
   | nil => rfl
   | cons i r =>
    have hi : i ∈ Region.ready .any ops listed := by rw [hx]; exact List.mem_cons_self
    obtain ⟨h1, o, h2, _⟩ := mem_ready.1 hi; have hil := (Array.getElem?_eq_some_iff.1 h2).1
    have : i ∈ (List.range ops.size).filter fun i => !listed.getD i false := List.mem_filter.2 ⟨List.mem_range.2 hil, by rw [← gdd hs hil, h1]; rfl⟩
    have := List.length_pos_of_mem this
    omega
  exact ⟨hr, fin listed S a w hs hF hR hr⟩
 | succ m ih =>
  intro listed S a w hs hC hF hR hm; refine ⟨fin listed S a w hs hF hR, fun i hi => ?_⟩; obtain ⟨hiu, o, ho, hdeps⟩ := mem_ready.1 hi; have hil := (Array.getElem?_eq_some_iff.1 ho).1
  have hiu' : listed.getD i false = false := by rw [← gdd hs hil]; exact hiu
  have hset : ∀ k, (listed.setIfInBounds i true).getD k false = true ↔ listed.getD k false = true ∨ k = i := by
   intro k
   by_cases hk : i = k
   ·subst hk; simp [Array.getD, hs, hil]
   ·rw [getD_set_ne false hk]
    constructor
    ·exact .inl
    ·rintro (h | h)
     ·exact h
     ·exact absurd h.symm hk
  have hC' : ∀ j o, (listed.setIfInBounds i true).getD j false = true → ops[j]? = some o → ∀ e ∈ o.after, Region.binds .any e = true → (listed.setIfInBounds i true).getD e.on false = true := by
   intro j o' hj ho' e he hb; rw [hset] at hj ⊢
   rcases hj with hj | rfl
   ·exact .inl (hC j o' hj ho' e he hb)
   ·rw [ho] at ho'
    injection ho' with ho'
    subst ho'; exact .inl (hdeps e he hb)
  have hcount : ((List.range ops.size).filter fun k => !(listed.setIfInBounds i true).getD k false).length ≤ m := by
   have h1 : ((List.range ops.size).filter fun k => !(listed.setIfInBounds i true).getD k false).length < ((List.range ops.size).filter fun k => !listed.getD k false).length := by
    have e : (List.range ops.size).filter (fun k => !(listed.setIfInBounds i true).getD k false) = ((List.range ops.size).filter fun k => !listed.getD k false).filter fun k => k != i := by
     rw [List.filter_filter]
     apply List.filter_congr
     intro k _
     by_cases hk : k = i
     ·subst hk; have := (hset k).2 (.inr rfl); simp [this]
     ·have : (listed.setIfInBounds i true).getD k false = listed.getD k false := getD_set_ne false (fun h => hk h.symm); simp [this, hk]
    rw [e]; refine List.length_filter_lt_length_iff_exists.2 ⟨i, List.mem_filter.2 ⟨List.mem_range.2 hil, by rw [hiu']; rfl⟩, by simp⟩
   omega
  obtain ⟨c, hR'⟩ := hR
  -- the step, once the operation does in S what it does in the text
  have go : ∀ S1 : AS, S1 = S.put o.dst (rv i) ((ef i).on S.m) → opK P ops o S (fun r m' => S.put o.dst r m' = S1) → Far P ops T rv ef (fun k => (listed.setIfInBounds i true).getD k false = true) S1 → wpOp P ops Q i (wpAny P .any ops Q m (listed.setIfInBounds i true)) a w := by
   intro S1 hS1 hK hF1; have h1 := sim_op (Q := Q) hR' hK; unfold wpOp; simp only [ho]
   split at h1
   ·rename_i hw
    rw [if_pos hw]; exact .inl (Oper.wp_mono (fun a' w' ⟨r, m', h2, h3⟩ => ih _ S1 a' w' (by simp [hs]) hC' hF1 (h2 ▸ h3) hcount) h1)
   ·rename_i hw
    rw [if_neg hw]; obtain ⟨r, m', h2, h3⟩ := h1; exact ih _ S1 _ w (by simp [hs]) hC' hF1 (h2 ▸ h3) hcount
  rcases Nat.lt_or_ge i (qn P ops) with hiq | hiq
  ·-- it only reads, or makes a new block
   have hq : isQ P o.op = true := by
    obtain ⟨o', ho', hq⟩ := qn_spec hiq; rw [ho] at ho'
    injection ho' with ho'
    subst ho'; exact hq
   rcases hF with ⟨hLq, hI⟩ | ⟨j, hj1, hj2, _⟩
   ·obtain ⟨h1, h2, h3⟩ := hT.step i o ho; have hTi := chain_inv hok hT i (by omega)
    have hdis : ∀ j o' t, listed.getD j false = true → ops[j]? = some o' → o.dst = some t → o'.dst ≠ some t := fun j o' t hj ho' ht ht' => by
     have := (hD i hiq hil j (hLq j hj) (fun e => by subst e; rw [hj] at hiu'; cases hiu')).1; simp [disB, ho, ho', ht, ht'] at this
    have hnone : ∀ k ob, ef i = .new k ob → mat S.m k = none := by
     intro k ob he; obtain ⟨hd, hn⟩ := h2.1 k ob he
     cases hk : mat S.m k with
     | none => rfl
     | some ob' =>
      rcases (hI.m k ob').1 hk with h4 | ⟨j, h4, h5⟩
      ·rw [(hTi.m k ob').2 (.inl h4)] at hn; cases hn
      ·obtain ⟨o', ho', _⟩ := qn_spec (hLq j h4); have h6 := ((hT.step j o' ho').2.1.1 k ob' h5).1; exact absurd h6 (hdis j o' k h4 ho' hd)
    have hval : ∀ t ∈ reads ops o, S.f t = (T i).f t := by
     intro t ht
     have wr : ∀ j o', j < qn P ops → j ≠ i → ops[j]? = some o' → o'.dst = some t → (anc ops ops.size i j = true ∨ anc ops ops.size j i = true) := by
      intro j o' hj hne ho' ht'; have := (hD i hiq hil j hj (Ne.symm hne)).2; simp only [rdB, ho, ho', Option.bind_some, ht', Bool.or_eq_true, Bool.not_eq_true', List.contains_eq_mem, decide_eq_false_iff_not] at this
      rcases this with (h | h) | h
      ·exact absurd ht h
      ·exact .inl h
      ·exact .inr h
     by_cases hx : ∃ j o', listed.getD j false = true ∧ ops[j]? = some o' ∧ o'.dst = some t
     ·obtain ⟨j, o', hj, ho', ht'⟩ := hx
      have hne : j ≠ i := fun e => by subst e; rw [hj] at hiu'; cases hiu'
      rw [hI.f1 j o' t hj ho' ht']
      have hji : j < i := by
       rcases wr j o' (hLq j hj) hne ho' ht' with h | h
       ·exact anc_lt hE h
       ·have := anc_in (L := fun k => listed.getD k false = true) hC (fun o'' ho'' => hC j o'' hj ho'') h; rw [hiu'] at this
        cases this
      exact (hTi.f1 j o' t hji ho' ht').symm
     ·rw [hI.f2 t fun j o' h1 h2 h3 => hx ⟨j, o', h1, h2, h3⟩]; refine (hTi.f2 t fun j o' hji ho' ht' => ?_).symm
      rcases wr j o' (by omega) (by omega) ho' ht' with h | h
      ·exact hx ⟨j, o', anc_in (L := fun k => listed.getD k false = true) hC (fun o'' ho'' => by
        rw [ho] at ho''
        injection ho'' with ho''
        subst ho''
        exact hdeps) h, ho', ht'⟩
      ·have := anc_lt hE h; omega
    have hn : S.n = (T i).n := hI.n.trans hTi.n.symm
    have hagree : Agree ((reads ops o).flatMap fun t => nmR (ez (T i) (.tmp t))) (T i).m S.m := by
     intro k hk ob hob; obtain ⟨t, ht, hk⟩ := List.mem_flatMap.1 hk; rw [← ev_same hn (x := .tmp t) fun t' e => by injection e with e; subst e; exact hval _ ht] at hk; have hthere : ∃ ob', mat S.m k = some ob' := nm_there (hR'.evs (.tmp t)) k hk; obtain ⟨ob', hob'⟩ := hthere
     rcases (hTi.m k ob).1 hob with h4 | ⟨j, h4, h5⟩
     ·exact (hI.m k ob).2 (.inl h4)
     ·rcases (hI.m k ob').1 hob' with h6 | ⟨j', h6, h7⟩
      ·have := (hTi.m k ob').2 (.inl h6); rw [hob] at this; rw [hob']; exact this.symm
      ·obtain ⟨o1, ho1, _⟩ := qn_spec (P := P) (ops := ops) (i := j) (by omega); obtain ⟨o2, ho2, _⟩ := qn_spec (hLq j' h6); have e1 := ((hT.step j o1 ho1).2.1.1 k ob h5).1; have e2 := ((hT.step j' o2 ho2).2.1.1 k ob' h7).1
       have hjj : j = j' := by
        rcases Nat.lt_trichotomy j j' with h | h | h
        ·have := (hD j (by omega) (Array.getElem?_eq_some_iff.1 ho1).1 j' (hLq j' h6) (by omega)).1; simp [disB, ho1, ho2, e1, e2] at this
        ·exact h
        ·have := (hD j (by omega) (Array.getElem?_eq_some_iff.1 ho1).1 j' (hLq j' h6) (by omega)).1; simp [disB, ho1, ho2, e1, e2] at this
       subst hjj; rw [h5] at h7
       injection h7 with _ h7
       rw [hob', h7]
    have hag2 : Look (ef i) ((reads ops o).flatMap fun t => nmR (ez (T i) (.tmp t))) (T i).m S.m := by
     have h9 := h2.2 hq; generalize ef i = e at h9
     cases e with
     | all m' => exact absurd rfl (h9.2 m')
     | set k ob => exact absurd rfl (h9.1 k ob)
     | _ => exact hagree
    refine go _ rfl (h3 S hn hval hag2 hnone _ rfl) (.inl ⟨fun k hk => ((hset k).1 hk).elim (hLq k) fun e => by rw [e]; exact hiq, ?_⟩)
    exact (hI.put ho hdis (h2.2 hq) hnone).congr fun k => (hset k).symm
   ·have := (hj2 i).2 (by omega); simp only at this; rw [hiu'] at this
    cases this
  ·-- all ahead of it are through
   have hpre : ∀ k, k < i → listed.getD k false = true := fun k hk => anc_in (L := fun k => listed.getD k false = true) hC (fun o'' ho'' => by
    rw [ho] at ho''
    injection ho'' with ho''
    subst ho''
    exact hdeps) (hA i hiq hil k hk)
   have hE2 : Eqv (T i) S ∧ ∀ k, listed.getD k false = true ↔ k < i := by
    rcases hF with ⟨hLq, hI⟩ | ⟨j, hj1, hj2, hj3⟩
    ·have e : i = qn P ops := by
      rcases Nat.lt_or_ge (qn P ops) i with h | h
      ·exact absurd (hLq _ (hpre _ h)) (by omega)
      ·omega
     have hiff : ∀ k, listed.getD k false = true ↔ k < i := fun k => ⟨fun h => by have := hLq k h; omega, hpre k⟩
     exact ⟨(chain_inv hok hT i (by omega)).eqv (hI.congr hiff), hiff⟩
    ·have e : i = j := by
      rcases Nat.lt_trichotomy i j with h | h | h
      ·have := (hj2 i).2 h; simp only at this; rw [hiu'] at this
       cases this
      ·exact h
      ·exact absurd ((hj2 j).1 (hpre j h)) (by omega)
     subst e; exact ⟨hj3, hj2⟩
   obtain ⟨h1, h2, h3⟩ := hT.step i o ho; have hagree : Look (ef i) ((reads ops o).flatMap fun t => nmR (ez (T i) (.tmp t))) (T i).m S.m := look_full hE2.1.2.2; refine go _ rfl (h3 S hE2.1.1 (fun t _ => hE2.1.2.1 t) hagree (fun k ob he => by rw [hE2.1.2.2]; exact (h2.1 k ob he).2) _ rfl) (.inr ⟨i + 1, by omega, fun k => by show (listed.setIfInBounds i true).getD k false = true ↔ _; rw [hset, hE2.2]; omega, ?_⟩); rw [h1]; exact hE2.1.put o.dst (rv i) (ef i)
theorem sim_region {id : Nat} {draw : Bool} {S : AS} {a : Act} {w : World} (hm : P.follows .mixedOrders = true) (hok : draw = true → regOk P ops = true) (hR : Rel w0 S a w) (hK : aops P ops KF ops.toList S) (hQ : ∀ S a w, KF S → Rel w0 S a w → Q .normal a w) : (Code.region id ops draw).wp P Q a w := by
 cases draw with
 | false => exact wp_region_list (sim_list hQ _ _ _ _ hR hK)
 | true =>
  refine wp_region_any hm ?_; obtain ⟨T, rv, ef, h1, h2, h3⟩ := chain_of (regOk_n (hok rfl)) ops.toList 0 S (by simp) hK; simp only [Nat.zero_add, Array.length_toList] at h2; have hT : Chain P ops T rv ef := ⟨fun i o ho => h3 i o (Nat.zero_le _) ho⟩
  have hz : ∀ k, (Array.replicate ops.size false).getD k false = true → False := fun k h => by
   simp only [Array.getD] at h
   split at h
   ·simp at h
   ·cases h
  refine sim_far (w0 := w0) (S := S) (hok rfl) hT (fun a w h => hQ _ a w h2 h) ops.size _ a _ (by simp) (fun j o h => (hz j h).elim) (.inl ⟨fun i h => (hz i h).elim, ?_⟩) ?_ ?_
  ·rw [h1]; exact ⟨rfl, fun i o t h => (hz i h).elim, fun _ _ => rfl, fun k ob => ⟨.inl, fun h => h.elim (fun h => h) fun ⟨i, h, _⟩ => (hz i h).elim⟩⟩
  ·obtain ⟨c, h⟩ := hR; have hmn : Mon c S.m w c S.m w.drew := ⟨rfl, fun _ h => h, fun _ _ _ => rfl, fun k cs hk => ⟨rfl, cs, hk⟩, fun k fr sz T xs hk => ⟨fr, xs, hk, Nat.le_refl _, fun _ => rfl⟩, fun k fr kk es hk => ⟨rfl, fr, kk, es, hk⟩, fun k fr mk rem la hk => ⟨rfl, rfl, rfl, fr, rem, la, hk⟩⟩; exact ⟨c, h.go hmn h.ext.drew h.xl h.xo (fun k o hk => RelO.mon hmn (h.mem k o hk) hk hk (fun b hb => ⟨rfl, (h.bk hk b hb).2.2⟩) rfl) h.dis⟩
  ·have := List.length_filter_le (fun i => !(Array.replicate ops.size false).getD i false) (List.range ops.size)
   simpa using this
end

end Go.Proofs.YtpkfjbljhneenaaGreat
