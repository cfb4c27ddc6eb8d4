/- What one operation does to a state without addresses (III): numbers, addresses, new boxes. No conditions. -/
import Derived.Test.YtbgifiijjjoebaaGreatDoorGNamesAd
namespace Go.Proofs.YtbgifiijjjoebaaGreatDoor
open Go.RowKit

theorem wrap_in (k : IntKind) (n : Int) : k.min ≤ k.wrap n ∧ k.wrap n ≤ k.max := by
 unfold IntKind.wrap IntKind.min IntKind.max
 have key : ∀ (q h : Int), 0 < h → q = 2 * h → ∀ s : Bool, (if s then -h else 0) ≤ (if (s && decide (n % q ≥ h)) = true then n % q - q else n % q) ∧ (if (s && decide (n % q ≥ h)) = true then n % q - q else n % q) ≤ (if s then h - 1 else q - 1) := by
  intro q h h0 hq s; have h1 := Int.emod_nonneg n (show q ≠ 0 by omega); have h2 := Int.emod_lt_of_pos n (show 0 < q by omega)
  cases s
  ·simp; omega
  ·by_cases hh : n % q ≥ h
   ·simp [hh]; omega
   ·simp [hh]; omega
 have h0 : (0 : Int) < 2 ^ (k.bits - 1) := Int.pow_pos (by omega)
 have hq : (2 : Int) ^ k.bits = 2 * 2 ^ (k.bits - 1) := by cases k <;> rfl
 have := key _ _ h0 hq k.signed
 simpa [Bool.and_eq_true] using this

def zeroC (P : Program) (T : TypeId) : Option (List CV) := ((P.info? T).bind (·.zero)).bind fun z => cCVs z.cells.toList
def fldP (P : Program) (T : TypeId) (i : Nat) : Option (Nat × Nat) :=
 match P.underlying T with
 | some (.struct fs) => match fs[i]? with
  | some f => match P.info? f.type with
   | some j => if j.size = 0 then none else some (f.offset, j.size)
   | none => none
  | none => none
 | _ => none
def eltP (P : Program) (T : TypeId) : Option (TypeId × Nat × Nat) :=
 match P.underlying T with
 | some (.slice e) => match P.info? e with
  | some i => match i.zero with
   | some z => if z.cells.size = i.size then some (e, i.size, i.bytes) else none
   | none => none
  | none => none
 | _ => none
def toR : AV → SV
 | .c x => .c x
 | .g cs => .g cs

def allocK (d : Option Nat) (z : Option (List CV)) (m : Mem) (K : SV → Mem → Prop) : Prop :=
 match d, z with
 | some k, some cs => mat m k = none ∧ K (.c (.p k 0)) ((k, .x cs) :: m)
 | _, _ => False
def fieldK (f : Option (Nat × Nat)) (m : Mem) (K : SV → Mem → Prop) : SV → Prop
 | .c (.p k o) => match f with
  | some (off, _) => K (.c (.p k (o + off))) m
  | none => False
 | .e fr ds => match f with
  | some (off, _) => K (.e fr (ds.drop off)) m
  | none => False
 | .q k n i o => match f, mat m k with
  | some (off, _), some (.r _ _ _ xs) => n = xs.length ∧ K (.q k n i (o + off)) m
  | _, _ => False
 | _ => False
def indexK (es : Nat) (m : Mem) (K : SV → Mem → Prop) : SV → SV → Prop
 | .c (.l fr xs), .c (.i _ n) => 0 ≤ n ∧ n.toNat < xs.length ∧ (xs.getD n.toNat []).length = es ∧ K (.e fr (xs.getD n.toNat [])) m
 | .c (.r k n'), .c (.i _ n) => match mat m k with
  | some (.r _ sz _ xs) => n' = xs.length ∧ sz = es ∧ 0 ≤ n ∧ n.toNat < xs.length ∧ K (.q k n' n.toNat 0) m
  | _ => False
 | _, _ => False
def extractK (j : Nat) (m : Mem) (K : SV → Mem → Prop) : SV → Prop
 | .t xs => match xs[j]? with
  | some x => K (toR x) m
  | none => False
 | _ => False
def pickK (m : Mem) (K : SV → Mem → Prop) (t x y : SV) : Prop :=
 match t with
 | .c (.b t) => (t = true → K x m) ∧ (t = false → K y m)
 | _ => False
def bvK (op : BinOp) (k : IntKind) (x y : Int) : Int :=
 let a := BitVec.ofInt k.bits x
 let b := BitVec.ofInt k.bits y
 match op with
 | .and => k.wrap (a &&& b).toNat
 | .or => k.wrap (a ||| b).toNat
 | .xor => k.wrap (a ^^^ b).toNat
 | _ => k.wrap (a &&& ~~~b).toNat
def intK (op : BinOp) (k : IntKind) (x y : Int) (K : CV → Prop) : Prop :=
 match op with
 | .add => K (.i k (k.wrap (x + y)))
 | .sub => K (.i k (k.wrap (x - y)))
 | .mul => K (.i k (k.wrap (x * y)))
 | .quo => y ≠ 0 ∧ K (.i k (k.wrap (x.tdiv y)))
 | .rem => y ≠ 0 ∧ K (.i k (x.tmod y))
 | .and | .or | .xor | .andNot => K (.i k (bvK op k x y))
 | .eql => K (.b (x == y))
 | .neq => K (.b (x != y))
 | .lss => K (.b (decide (x < y)))
 | .leq => K (.b (decide (x ≤ y)))
 | .gtr => K (.b (decide (x > y)))
 | .geq => K (.b (decide (x ≥ y)))
 | .shl | .shr => False
def shiftK (op : BinOp) (k : IntKind) (x y : Int) (K : CV → Prop) : Prop :=
 match op with
 | .shl => 0 ≤ y ∧ K (.i k (k.wrap (x * 2 ^ min y.toNat k.bits)))
 | .shr => 0 ≤ y ∧ K (.i k (x.fdiv (2 ^ min y.toNat k.bits)))
 | _ => False
def strK (op : BinOp) (x y : ByteArray) (K : CV → Prop) : Prop :=
 match op with
 | .add => x.size + y.size ≤ 9223372036854775807 ∧ K (.s (x ++ y))
 | .eql => K (.b (x.toList == y.toList))
 | .neq => K (.b !(x.toList == y.toList))
 | .lss => K (.b (Op.bytesLess x.toList y.toList))
 | .leq => K (.b (Op.bytesLess x.toList y.toList || x.toList == y.toList))
 | .gtr => K (.b !(Op.bytesLess x.toList y.toList || x.toList == y.toList))
 | .geq => K (.b !(Op.bytesLess x.toList y.toList))
 | _ => False
def isShift : BinOp → Bool
 | .shl | .shr => true
 | _ => false
def blP (P : Program) (t : TypeId) : Bool :=
 match P.underlying t with
 | some .bool => true
 | _ => false
def nlC : CV → Option (Nat × Bool)
 | .np => some (0, true)
 | .p _ _ => some (0, false)
 | .d _ _ _ => some (0, false)
 | .nl => some (3, true)
 | .l _ xs => if 0 < xs.length then some (3, false) else none
 | .nf => some (1, true)
 | .f _ _ => some (1, false)
 | .nm => some (2, true)
 | .m _ => some (2, false)
 | _ => none
def nlP (P : Program) (t : TypeId) : Option Nat :=
 match P.underlying t with
 | some (.pointer _) => some 0
 | some (.func ..) => some 1
 | some (.map ..) => some 2
 | some (.slice _) => some 3
 | _ => none
def nilK (op : BinOp) (p : Option Nat) (K : CV → Prop) (x y : Option (Nat × Bool)) : Prop :=
 match x, y with
 | some (i, a), some (j, b) => i = j ∧ p = some i ∧ (a || b) = true ∧ (i = 3 → b = true) ∧ (match op with | .eql => K (.b (a && b)) | .neq => K (.b (!(a && b))) | _ => False)
 | _, _ => False
def eqP (P : Program) (t : TypeId) : Option (IntKind × IntKind) :=
 match P.underlying t with
 | some (.struct fs) => match fs.toList with
  | [f, g] => match P.underlying f.type, P.underlying g.type, P.info? f.type, P.info? g.type with
   | some (.int k), some (.int k'), some i, some j => if f.name ≠ "_" ∧ g.name ≠ "_" ∧ i.size = 1 ∧ j.size = 1 ∧ f.offset = 0 ∧ g.offset = 1 ∧ i.desc.isRow = false ∧ j.desc.isRow = false ∧ P.stoodInHeld t = false then some (k, k') else none
   | _, _, _, _ => none
  | _ => none
 | _ => none
def eqgK (op : BinOp) (p : Option (IntKind × IntKind)) (K : CV → Prop) (xs ys : List CV) : Prop :=
 match p, xs, ys with
 | some (k, k'), [.i i a, .i j b], [.i i' a', .i j' b'] => i = k ∧ i' = k ∧ j = k' ∧ j' = k' ∧ (match op with | .eql => K (.b (decide (a = a') && decide (b = b'))) | .neq => K (.b (!(decide (a = a') && decide (b = b')))) | _ => False)
 | _, _, _ => False
def binK (P : Program) (op : BinOp) (t : TypeId) (m : Mem) (K : SV → Mem → Prop) : SV → SV → Prop
 | .c (.i k x), .c (.i k' y) => (isShift op = true → shiftK op k x y fun v => K (.c v) m) ∧ (isShift op = false → k = k' ∧ intK op k x y fun v => K (.c v) m)
 | .c (.s x), .c (.s y) => strK op x y fun v => K (.c v) m
 | .c (.b x), .c (.b y) => blP P t = true ∧ (match op with | .eql => K (.c (.b (x == y))) m | .neq => K (.c (.b (!(x == y)))) m | _ => False)
 | .c x, .c y => nilK op (nlP P t) (fun v => K (.c v) m) (nlC x) (nlC y)
 | .g xs, .g ys => eqgK op (eqP P t) (fun v => K (.c v) m) xs ys
 | _, _ => False
def unK (op : UnOp) (m : Mem) (K : SV → Mem → Prop) : SV → Prop
 | .c (.b x) => (match op with | .not => K (.c (.b !x)) m | _ => False)
 | .c (.i k x) => (match op with | .neg => K (.c (.i k (k.wrap (0 - x)))) m | _ => False)
 | _ => False
def cvtP (P : Program) (src dst : TypeId) : Option IntKind :=
 match P.underlying src, P.underlying dst with
 | some _, some (.int k) => some k
 | _, _ => none
def convK (k' : Option IntKind) (m : Mem) (K : SV → Mem → Prop) : SV → Prop
 | .c (.i _ x) => (match k' with | some k' => K (.c (.i k' (k'.wrap x))) m | none => False)
 | _ => False
def slP (P : Program) (t : TypeId) : Option Bool :=
 match P.underlying t with
 | some (.slice _) => some true
 | some .string => some false
 | _ => none
def lenK (sl : Option Bool) (m : Mem) (K : SV → Mem → Prop) : SV → Prop
 | .c (.l _ xs) => sl = some true ∧ K (.c (.i .i64 xs.length)) m
 | .c .nl => sl = some true ∧ K (.c (.i .i64 0)) m
 | .c (.r k n) => sl = some true ∧ (match mat m k with | some (.r _ _ _ xs) => n = xs.length ∧ K (.c (.i .i64 xs.length)) m | _ => False)
 | .c (.s x) => sl = some false ∧ K (.c (.i .i64 x.size)) m
 | _ => False

section
variable {P : Program} {w0 : Beg} {c : Cx} {S : AS} {a : Act} {w : World} {o : Oper} {m : Mem} {K : SV → Mem → Prop} {Q : Exit → Act → World → Prop}
theorem new_box (h : RelX w0 c S a w) {k : Nat} {cs : List CV} (hk : mat S.m k = none) {vs : Array Value} (T : TypeId) (hf : F2 (RelC c S.m w) vs.toList cs) :
  RelX w0 ⟨fun j => if j = k then w.heap.size else c.β j, c.ρ, c.X, c.n0⟩ ⟨S.n, S.f, (k, .x cs) :: S.m⟩ a (w.alloc (.cells vs T)) := by
 refine h.new hk (fun j hj => by simp [hj]) (fun _ _ => rfl) ((Ext.refl w).alloc _) (fun b hb => ?_) fun hmon => ?_
 ·simp [blk] at hb; omega
 ·refine ⟨by simp [h.n0]; exact h.ext.size, by simp; intro hX; have := h.xl _ hX; omega, vs, T, by simpa using Box.new w T vs, forall2_mono (fun _ _ => RelC.mon hmon) hf⟩
theorem sim_alloc (h : RelX w0 c S a w) (hd : ∀ t, o.dst = some t → t < S.n) (T : TypeId) (ho : o.op = .alloc T) (hK : allocK o.dst (zeroC P T) S.m K) : o.wp P a w (fun a' w' => ∃ r m', K r m' ∧ Rel w0 (S.put o.dst r m') a' w') Q := by
 unfold allocK at hK
 split at hK
 ·rename_i k cs hdk hz
  unfold zeroC at hz; simp only [Option.bind_eq_some_iff] at hz; obtain ⟨z, ⟨i, hi, hz⟩, hcs⟩ := hz; refine sim_val (r := .c (.p k 0)) (v := .pointer (some ⟨w.heap.size, 0, none⟩)) hd ?_ (new_box h hK.1 (vs := z.cells) T (cCVs_rel hcs)) ⟨by simp, cs, by simp [mat]⟩ hK.2; simp [execOp, ho, Instr.alloc, zeroValue, typeInfo, hi, hz, newVar, newRow]
 ·exact hK.elim
def boxK (d : Option Nat) (m : Mem) (K : SV → Mem → Prop) (x : SV) : Prop := allocK d (cellsOf x) m K
theorem sim_box (h : RelX w0 c S a w) (hd : ∀ t, o.dst = some t → t < S.n) (T : TypeId) (x : Operand) (ho : o.op = .box T x) (hK : boxK o.dst S.m K (ez S x)) : o.wp P a w (fun a' w' => ∃ r m', K r m' ∧ Rel w0 (S.put o.dst r m') a' w') Q := by
 unfold boxK allocK at hK
 split at hK
 ·rename_i k cs hdk hz
  refine sim_val (r := .c (.p k 0)) (v := .pointer (some ⟨w.heap.size, 0, none⟩)) hd ?_ (new_box h hK.1 (vs := (a.eval x).cells) T (cellsOf_rel (h.evs x) hz)) ⟨by simp, cs, by simp [mat]⟩ hK.2; simp [execOp, ho, Instr.box, newVar, newRow]
 ·exact hK.elim
theorem fldP_spec {T : TypeId} {i off sz : Nat} (h : fldP P T i = some (off, sz)) : ∃ fs f j, P.underlying T = some (.struct fs) ∧ fs[i]? = some f ∧ P.info? f.type = some j ∧ j.size ≠ 0 ∧ f.offset = off ∧ j.size = sz := by
 unfold fldP at h
 cases hu : P.underlying T with
 | none => simp [hu] at h
 | some d =>
  cases d <;> simp only [hu, reduceCtorEq] at h
  rename_i fs
  cases hf : fs[i]? with
  | none => simp [hf] at h
  | some f =>
   simp only [hf] at h
   cases hj : P.info? f.type with
   | none => simp [hj] at h
   | some j =>
    simp only [hj] at h
    split at h
    ·cases h
    ·rename_i hne
     simp only [Option.some.injEq, Prod.mk.injEq] at h; exact ⟨fs, f, j, rfl, hf, hj, hne, h.1, h.2⟩
theorem run_field_gen {T : TypeId} {i off sz : Nat} (h : fldP P T i = some (off, sz)) (b q : Nat) : (Instr.fieldAt T (.pointer (some ⟨b, q, none⟩)) i).run P w = .ok (.pointer (some ⟨b, q + off, none⟩)) w := by
 obtain ⟨fs, f, j, h1, h2, h3, h4, rfl, rfl⟩ := fldP_spec h; simp [Instr.fieldAt, underlying, h1, h2, Instr.sureAddr, fieldPlace, sizeOf, typeInfo, h3, h4, Addr.add_mid]
theorem sim_field (h : RelX w0 c S a w) (hd : ∀ t, o.dst = some t → t < S.n) (T : TypeId) (x : Operand) (i : Nat) (ho : o.op = .fieldAddr T x i) (hK : fieldK (fldP P T i) S.m K (toE (ez S x))) : o.wp P a w (fun a' w' => ∃ r m', K r m' ∧ Rel w0 (S.put o.dst r m') a' w') Q := by
 have hx := toE_rel (h.evs x)
 have hex : ∀ v, (Instr.fieldAt T (a.eval x) i).run P w = .ok v w → (execOp a.eval o).run P w = .ok (.value v) w := fun v hv => by
  simp only [execOp, ho, Sem.run_bind, hv, Result.andThen_ok, Sem.run_pure]
 generalize toE (ez S x) = r at hx hK; generalize a.eval x = v at hx hex; unfold fieldK at hK
 split at hK
 ·split at hK
  ·rename_i k q _ off sz hf
   obtain ⟨rfl, cs, hm⟩ := hx; exact sim_val (r := .c (.p k (q + off))) hd (hex _ (run_field_gen hf _ _)) h ⟨rfl, cs, hm⟩ hK
  ·exact hK.elim
 ·split at hK
  ·rename_i fr ds _ off sz hf
   obtain ⟨b, q, rfl, hj⟩ := hx; refine sim_val (r := .e fr (ds.drop off)) hd (hex _ (run_field_gen hf _ _)) h ⟨b, q + off, rfl, fun j hlt => ?_⟩ hK; rw [List.length_drop] at hlt; obtain ⟨h1, u, h2, h3⟩ := hj (off + j) (by omega); exact ⟨h1, u, by rw [Nat.add_assoc]; exact h2, by rw [List.getElem_drop]; exact h3⟩
  ·exact hK.elim
 ·split at hK
  ·rename_i k n i' q _ _ off sz f0 s0 T0 xs0 hf hm
   obtain ⟨fr, s, T', xs, h1, h2, h3, h4⟩ := hx; rw [hm] at h1
   injection h1 with h1
   injection h1 with e1 e2 e3 e4
   subst e1; subst e2; subst e3; subst e4
   obtain ⟨g, cap, h5, rfl⟩ := h4 hK.1; exact sim_val (r := .q k n i' (q + off)) hd (hex _ (run_field_gen hf _ _)) h ⟨f0, s0, T0, xs0, hm, h2, h3, fun _ => ⟨g, cap, h5, by rw [Nat.add_assoc]⟩⟩ hK.2
  ·exact hK.elim
 ·exact hK.elim
theorem eltP_spec {T e : TypeId} {s bs : Nat} (h : eltP P T = some (e, s, bs)) : ∃ i z, P.underlying T = some (.slice e) ∧ P.info? e = some i ∧ i.size = s ∧ i.bytes = bs ∧ i.zero = some z ∧ z.cells.size = s := by
 unfold eltP at h
 cases hu : P.underlying T with
 | none => simp [hu] at h
 | some d =>
  cases d <;> simp only [hu, reduceCtorEq] at h
  rename_i e'
  cases hi : P.info? e' with
  | none => simp [hi] at h
  | some i =>
   simp only [hi] at h
   cases hz : i.zero with
   | none => simp [hz] at h
   | some z =>
    simp only [hz] at h
    split at h
    ·rename_i hs
     simp only [Option.some.injEq, Prod.mk.injEq] at h; obtain ⟨rfl, h1, h2⟩ := h; exact ⟨i, z, rfl, hi, h1, h2, hz, hs.trans h1⟩
    ·cases h
theorem run_index_gen {T e : TypeId} {s bs : Nat} (h : eltP P T = some (e, s, bs)) (b q len cap : Nat) (k : IntKind) (n : Int) (h0 : 0 ≤ n) (hn : n.toNat < len) : (Instr.indexAt T (.slice (some ⟨b, q, none⟩) len cap) (.int k n)).run P w = .ok (.pointer (some ⟨b, q + n.toNat * s, none⟩)) w := by
 obtain ⟨i, _, h1, h2, rfl, _⟩ := eltP_spec h
 have hlt : n < (len : Int) := by omega
 simp [Instr.indexAt, asIntOf, underlying, h1, sizeOf, typeInfo, h2, h0, hlt, Addr.add_mid]
theorem sim_index (h : RelX w0 c S a w) (hd : ∀ t, o.dst = some t → t < S.n) (T : TypeId) (x y : Operand) (ho : o.op = .indexAddr T x y) {e : TypeId} {es bs : Nat} (he : eltP P T = some (e, es, bs)) (hK : indexK es S.m K (ez S x) (ez S y)) :
  o.wp P a w (fun a' w' => ∃ r m', K r m' ∧ Rel w0 (S.put o.dst r m') a' w') Q := by
 have hx := h.evs x; have hy := h.evs y
 have hex : ∀ v, (Instr.indexAt T (a.eval x) (a.eval y)).run P w = .ok v w → (execOp a.eval o).run P w = .ok (.value v) w := fun v hv => by
  simp only [execOp, ho, Sem.run_bind, hv, Result.andThen_ok, Sem.run_pure]
 generalize ez S x = r at hx hK; generalize ez S y = r2 at hy hK; generalize a.eval x = v at hx hex; generalize a.eval y = v2 at hy hex; unfold indexK at hK
 split at hK
 ·rename_i fr xs k n
  obtain ⟨rfl, _, _⟩ := hy; obtain ⟨h0, hn, hes, hK⟩ := hK; obtain ⟨A, cc, sz, hsz, rfl, hsl, hlen⟩ := Rp.sl hx; obtain ⟨b, q, rfl, hX, hi⟩ := hsl.2.2.1 (by omega)
  have hgd : xs.getD n.toNat [] = xs[n.toNat] := by simp [List.getD, hn]
  rw [hgd] at hes hK; have : sz = es := (hlen _ (List.getElem_mem hn)).symm.trans hes; subst this; refine sim_val (r := .e fr xs[n.toNat]) hd (hex _ (run_index_gen he b q _ _ k n h0 hn)) h ⟨b, _, rfl, fun j hj => ?_⟩ hK; obtain ⟨cs, h1, h2, h3⟩ := hi n.toNat hn; have h4 := forall2_len h3; exact ⟨hX, cs[j]'(by omega), h2 j (by omega), forall2_get h3 j (by omega) hj⟩
 ·rename_i k n' _ n
  split at hK
  ·rename_i _ _ sz _ xs hm
   obtain ⟨rfl, _, _⟩ := hy; obtain ⟨fr0, sz0, T0, xs0, h1, h2, h3, h4⟩ := hx; rw [hm] at h1
   injection h1 with h1
   injection h1 with e1 e2 e3 e4
   subst e1; subst e2; subst e3; subst e4
   obtain ⟨hnl, rfl, h0, hn, hK⟩ := hK; obtain ⟨h5, h6, h7, h8⟩ := h.mem k _ hm; obtain ⟨g, cap, vs, hρ, _⟩ := h6.at_ hn; have hv := h3 hnl; rw [hρ] at hv; subst hv; refine sim_val (r := .q k n' n.toNat 0) hd (hex _ (run_index_gen he g 0 _ _ _ n h0 (by omega))) h ⟨_, _, _, _, hm, h2, by omega, fun _ => ⟨g, cap, by rw [hρ, hnl], by simp⟩⟩ hK
  ·exact hK.elim
 ·exact hK.elim
theorem toR_rel {v : Value} {x : AV} (h : RelA c m w v x) : RelR c m w v (toR x) := by cases x <;> exact h
theorem sim_extract (h : RelX w0 c S a w) (hd : ∀ t, o.dst = some t → t < S.n) (x : Operand) (j : Nat) (ho : o.op = .extract x j) (hK : extractK j S.m K (ez S x)) : o.wp P a w (fun a' w' => ∃ r m', K r m' ∧ Rel w0 (S.put o.dst r m') a' w') Q := by
 have hx := h.evs x
 have hex : ∀ v, (Instr.extract (a.eval x) j).run P w = .ok v w → (execOp a.eval o).run P w = .ok (.value v) w := fun v hv => by
  simp only [execOp, ho, Sem.run_bind, hv, Result.andThen_ok, Sem.run_pure]
 generalize ez S x = r at hx hK; generalize a.eval x = v at hx hex; unfold extractK at hK
 split at hK
 ·rename_i xs
  split at hK
  ·rename_i y hy
   obtain ⟨vs, rfl, hf⟩ := hx; have hlen := forall2_len hf; have hlt := (List.getElem?_eq_some_iff.1 hy).1; have hrel := forall2_get hf j (by omega) hlt; rw [(List.getElem?_eq_some_iff.1 hy).2] at hrel
   have hv : vs[j]? = some vs.toList[j] := by
    rw [← Array.getElem?_toList, List.getElem?_eq_getElem (by omega)]
   exact sim_val (r := toR y) hd (hex vs.toList[j] (by simp only [Instr.extract, hv, Sem.run_pure])) h (toR_rel hrel) hK
  ·exact hK.elim
 ·exact hK.elim
theorem sim_pick (h : RelX w0 c S a w) (hd : ∀ t, o.dst = some t → t < S.n) (x y z : Operand) (ho : o.op = .pick x y z) (hK : pickK S.m K (ez S x) (ez S y) (ez S z)) : o.wp P a w (fun a' w' => ∃ r m', K r m' ∧ Rel w0 (S.put o.dst r m') a' w') Q := by
 have hx := h.evs x; unfold pickK at hK
 split at hK
 ·rename_i t ht
  rw [ht] at hx; have hx : a.eval x = .bool t := hx
  cases t
  ·exact sim_val (r := ez S z) (v := a.eval z) hd (by simp [execOp, ho, hx, asBool]) h (h.evs z) (hK.2 rfl)
  ·exact sim_val (r := ez S y) (v := a.eval y) hd (by simp [execOp, ho, hx, asBool]) h (h.evs y) (hK.1 rfl)
 ·exact hK.elim

theorem tm (n : Nat) (y : Int) : (n : Int).tmod y ≤ n := by
 rw [Int.tmod_eq_emod_of_nonneg (by omega)]
 rcases Int.lt_trichotomy y 0 with h | h | h
 ·rw [← Int.emod_neg]
  rcases Int.eq_ofNat_of_zero_le (show 0 ≤ -y by omega) with ⟨q, hq⟩
  rw [hq, ← Int.natCast_emod]
  exact_mod_cast Nat.mod_le n q
 ·subst h; simp
 ·rcases Int.eq_ofNat_of_zero_le (show 0 ≤ y by omega) with ⟨q, hq⟩
  rw [hq, ← Int.natCast_emod]
  exact_mod_cast Nat.mod_le n q
theorem tmod_in (k : IntKind) (x y : Int) (h1 : k.min ≤ x) (h2 : x ≤ k.max) : k.min ≤ x.tmod y ∧ x.tmod y ≤ k.max := by
 have hmin : k.min ≤ 0 := by cases k <;> decide
 have hmax : 0 ≤ k.max := by cases k <;> decide
 rcases Int.le_total 0 x with hx | hx
 ·have a1 := Int.tmod_nonneg y hx
  have a2 : x.tmod y ≤ x := by
   rcases Int.eq_ofNat_of_zero_le hx with ⟨n, rfl⟩
   exact tm n y
  omega
 ·have e : x.tmod y = -((-x).tmod y) := by rw [Int.neg_tmod]; omega
  have hx' : 0 ≤ -x := by omega
  have a1 := Int.tmod_nonneg y hx'
  have a2 : (-x).tmod y ≤ -x := by
   rcases Int.eq_ofNat_of_zero_le hx' with ⟨n, hn⟩
   rw [hn]; exact tm n y
  omega
theorem shr_in (k : IntKind) (x : Int) (n : Nat) (h1 : k.min ≤ x) (h2 : x ≤ k.max) : k.min ≤ x.fdiv (2 ^ n) ∧ x.fdiv (2 ^ n) ≤ k.max := by
 have hmin : k.min ≤ 0 := by cases k <;> decide
 have hmax : 0 ≤ k.max := by cases k <;> decide
 have hp : (0 : Int) < 2 ^ n := Int.pow_pos (by omega); rw [Int.fdiv_eq_ediv_of_nonneg _ (by omega)]
 constructor
 ·rcases Int.le_total 0 x with hx | hx
  ·have := Int.ediv_nonneg hx (show (0 : Int) ≤ 2 ^ n by omega); omega
  ·refine Int.le_trans h1 ?_; rw [Int.le_ediv_iff_mul_le hp]; have : x * 2 ^ n ≤ x * 1 := Int.mul_le_mul_of_nonpos_left hx (by omega)
   omega
 ·rcases Int.le_total 0 x with hx | hx
  ·have := Int.ediv_le_self (2 ^ n) hx; omega
  ·have : x / 2 ^ n ≤ 0 := by
    have := Int.ediv_le_ediv hp hx
    simpa using this
   omega
theorem res_i {s : Sem Value} {KC : CV → Prop} (k : IntKind) (n : Int) (h : s.run P w = .ok (.int k n) w) (hn : k.min ≤ n ∧ n ≤ k.max) (hK : KC (.i k n)) : ∃ v r, s.run P w = .ok v w ∧ RelC c m w v r ∧ KC r := ⟨_, .i k n, h, ⟨rfl, hn⟩, hK⟩
theorem res_b {s : Sem Value} {KC : CV → Prop} (x : Bool) (h : s.run P w = .ok (.bool x) w) (hK : KC (.b x)) : ∃ v r, s.run P w = .ok v w ∧ RelC c m w v r ∧ KC r := ⟨_, .b x, h, rfl, hK⟩
theorem run_int (op : BinOp) (k : IntKind) (x y : Int) (t : TypeId) (KC : CV → Prop) (h1 : k.min ≤ x) (h2 : x ≤ k.max) (hs : isShift op = false) (hK : intK op k x y KC) : ∃ v r, (binOp op t (.int k x) (.int k y)).run P w = .ok v w ∧ RelC c m w v r ∧ KC r := by
 cases op <;> simp only [isShift, Bool.true_eq_false] at hs <;> simp only [intK] at hK
 case add => exact res_i k _ (by simp [binOp, Op.intArith]) (wrap_in _ _) hK
 case sub => exact res_i k _ (by simp [binOp, Op.intArith]) (wrap_in _ _) hK
 case mul => exact res_i k _ (by simp [binOp, Op.intArith]) (wrap_in _ _) hK
 case quo => exact res_i k _ (by simp [binOp, Op.intDiv, hK.1]) (wrap_in _ _) hK.2
 case rem => exact res_i k _ (by simp [binOp, Op.intDiv, hK.1]) (tmod_in _ _ _ h1 h2) hK.2
 case and => exact res_i k (bvK .and k x y) (by simp [binOp, Op.intBits, bvK]) (wrap_in _ _) hK
 case or => exact res_i k (bvK .or k x y) (by simp [binOp, Op.intBits, bvK]) (wrap_in _ _) hK
 case xor => exact res_i k (bvK .xor k x y) (by simp [binOp, Op.intBits, bvK]) (wrap_in _ _) hK
 case andNot => exact res_i k (bvK .andNot k x y) (by simp [binOp, Op.intBits, bvK]) (wrap_in _ _) hK
 case eql => exact res_b _ (by simp [binOp, Op.intCmp]) hK
 case neq => exact res_b _ (by simp [binOp, Op.intCmp]) hK
 case lss => exact res_b _ (by simp [binOp, Op.intCmp]) hK
 case leq => exact res_b _ (by simp [binOp, Op.intCmp]) hK
 case gtr => exact res_b _ (by simp [binOp, Op.intCmp]) hK
 case geq => exact res_b _ (by simp [binOp, Op.intCmp]) hK
theorem run_shift (op : BinOp) (k k' : IntKind) (x y : Int) (t : TypeId) (KC : CV → Prop) (h1 : k.min ≤ x) (h2 : x ≤ k.max) (hK : shiftK op k x y KC) : ∃ v r, (binOp op t (.int k x) (.int k' y)).run P w = .ok v w ∧ RelC c m w v r ∧ KC r := by
 cases op <;> simp only [shiftK] at hK <;> obtain ⟨h0, hK⟩ := hK
 ·exact res_i k _ (by simp [binOp, Op.shift, Int.not_lt.2 h0]) (wrap_in _ _) hK
 ·exact res_i k _ (by simp [binOp, Op.shift, Int.not_lt.2 h0]) (shr_in _ _ _ h1 h2) hK
theorem res_s {s : Sem Value} {KC : CV → Prop} (x : ByteArray) (h : s.run P w = .ok (.string x) w) (hn : x.size ≤ maxLen) (hK : KC (.s x)) : ∃ v r, s.run P w = .ok v w ∧ RelC c m w v r ∧ KC r := ⟨_, .s x, h, ⟨rfl, hn⟩, hK⟩
theorem run_str (op : BinOp) (x y : ByteArray) (t : TypeId) (KC : CV → Prop) (hK : strK op x y KC) : ∃ v r, (binOp op t (.string x) (.string y)).run P w = .ok v w ∧ RelC c m w v r ∧ KC r := by
 cases op <;> simp only [strK] at hK
 case add => exact res_s _ (by simp [binOp, Op.stringOp, IntKind.max, IntKind.signed, IntKind.bits]; omega) (by simp [ByteArray.size_append, maxLen]; omega) hK.2
 case eql => exact res_b _ (by simp [binOp, Op.stringOp]) hK
 case neq => exact res_b _ (by simp [binOp, Op.stringOp]) hK
 case lss => exact res_b _ (by simp [binOp, Op.stringOp]) hK
 case leq => exact res_b _ (by simp [binOp, Op.stringOp]) hK
 case gtr => exact res_b _ (by simp [binOp, Op.stringOp]) hK
 case geq => exact res_b _ (by simp [binOp, Op.stringOp]) hK
theorem run_eqb {t : TypeId} (hu : P.underlying t = some .bool) (x y : Bool) : (Op.equal t (.bool x) (.bool y)).run P w = .ok (x == y) w := by
 have : Op.equal t (.bool x) (.bool y) = Op.equalIn (9999 + 1) t (.bool x) (.bool y) := rfl; rw [this]; unfold Op.equalIn; simp [underlying, hu]
def NV (v : Value) (i : Nat) (a : Bool) : Prop := (i = 0 ∧ ∃ p, v = .pointer p ∧ a = p.isNone) ∨ (i = 1 ∧ ((v = .nilFunc ∧ a = true) ∨ ∃ f b q, v = .func f b q ∧ a = false)) ∨ (i = 2 ∧ ∃ r, v = .map r ∧ a = r.isNone) ∨ (i = 3 ∧ ∃ A n c, v = .slice A n c ∧ a = A.isNone)
theorem nl_val {x : CV} {v : Value} {i : Nat} {a : Bool} (hx : RelC c m w v x) (h : nlC x = some (i, a)) : NV v i a := by
 by_cases hl : ∃ fr xs, x = .l fr xs
 ·obtain ⟨fr, xs, rfl⟩ := hl; have h : (if 0 < xs.length then some (3, false) else none) = some (i, a) := h
  split at h
  ·rename_i h0
   simp only [Option.some.injEq, Prod.mk.injEq] at h; obtain ⟨rfl, rfl⟩ := h; have hx : Rp w (c.Y _) v (.l _) := hx
   cases hx with
   | l _ _ _ h3 => exact .inr (.inr (.inr ⟨rfl, _, _, _, rfl, by rw [(h3 h0).1]; rfl⟩))
  ·cases h
 cases x <;> simp only [nlC, reduceCtorEq, Option.some.injEq, Prod.mk.injEq] at h <;> first | (exfalso; exact hl ⟨_, _, rfl⟩) | skip
 all_goals obtain ⟨rfl, rfl⟩ := h
 ·exact .inr (.inr (.inr ⟨rfl, _, _, _, hx, rfl⟩))
 ·exact .inl ⟨rfl, _, hx, rfl⟩
 ·exact .inl ⟨rfl, _, hx.1, rfl⟩
 ·obtain ⟨cap, h1, _⟩ := hx; exact .inr (.inl ⟨rfl, .inr ⟨_, _, _, h1, rfl⟩⟩)
 ·exact .inr (.inl ⟨rfl, .inl ⟨hx, rfl⟩⟩)
 ·exact .inr (.inr (.inl ⟨rfl, _, hx.1, rfl⟩))
 ·exact .inr (.inr (.inl ⟨rfl, _, hx, rfl⟩))
 ·have hx : Rp w (c.Y _) v (.p _ _) := hx
  cases hx
  exact .inl ⟨rfl, _, rfl, rfl⟩
theorem nlP_spec {t : TypeId} {i : Nat} (h : nlP P t = some i) : (i = 0 ∧ ∃ e, P.underlying t = some (.pointer e)) ∨ (i = 1 ∧ ∃ a b c, P.underlying t = some (.func a b c)) ∨ (i = 2 ∧ ∃ a b, P.underlying t = some (.map a b)) ∨ (i = 3 ∧ ∃ e, P.underlying t = some (.slice e)) := by
 unfold nlP at h
 split at h
 ·injection h with h; exact .inl ⟨h.symm, _, ‹_›⟩
 ·injection h with h; exact .inr (.inl ⟨h.symm, _, _, _, ‹_›⟩)
 ·injection h with h; exact .inr (.inr (.inl ⟨h.symm, _, _, ‹_›⟩))
 ·injection h with h; exact .inr (.inr (.inr ⟨h.symm, _, ‹_›⟩))
 ·cases h
theorem run_eqn {t : TypeId} {v u : Value} {i : Nat} {a b : Bool} (hv : NV v i a) (hu : NV u i b) (hp : nlP P t = some i) (hab : (a || b) = true) (h3 : i = 3 → b = true) : (Op.equal t v u).run P w = .ok (a && b) w := by
 have e0 : Op.equal t v u = Op.equalIn (9999 + 1) t v u := rfl; rw [e0]; unfold Op.equalIn
 rcases nlP_spec hp with ⟨rfl, e, ht⟩ | ⟨rfl, q1, q2, q3, ht⟩ | ⟨rfl, q1, q2, ht⟩ | ⟨rfl, q1, ht⟩
 ·rcases hv with ⟨_, p, rfl, rfl⟩ | ⟨h, _⟩ | ⟨h, _⟩ | ⟨h, _⟩
  ·rcases hu with ⟨_, p', rfl, rfl⟩ | ⟨h, _⟩ | ⟨h, _⟩ | ⟨h, _⟩
   ·cases p <;> cases p' <;> first | (simp at hab; done) | simp [underlying, ht]
   all_goals omega
  all_goals omega
 ·rcases hv with ⟨h, _⟩ | ⟨_, h⟩ | ⟨h, _⟩ | ⟨h, _⟩
  ·omega
  ·rcases hu with ⟨h', _⟩ | ⟨_, h'⟩ | ⟨h', _⟩ | ⟨h', _⟩
   ·omega
   ·rcases h with ⟨rfl, rfl⟩ | ⟨_, _, _, rfl, rfl⟩ <;> rcases h' with ⟨rfl, rfl⟩ | ⟨_, _, _, rfl, rfl⟩ <;> first | (simp at hab; done) | simp [underlying, ht]
   ·omega
   ·omega
  ·omega
  ·omega
 ·rcases hv with ⟨h, _⟩ | ⟨h, _⟩ | ⟨_, p, rfl, rfl⟩ | ⟨h, _⟩
  ·omega
  ·omega
  ·rcases hu with ⟨h, _⟩ | ⟨h, _⟩ | ⟨_, p', rfl, rfl⟩ | ⟨h, _⟩
   ·omega
   ·omega
   ·cases p <;> cases p' <;> first | (simp at hab; done) | simp [underlying, ht]
   ·omega
  ·omega
 ·rcases hv with ⟨h, _⟩ | ⟨h, _⟩ | ⟨h, _⟩ | ⟨_, A, n, k, rfl, rfl⟩
  ·omega
  ·omega
  ·omega
  ·rcases hu with ⟨h, _⟩ | ⟨h, _⟩ | ⟨h, _⟩ | ⟨_, A', n', k', rfl, rfl⟩
   ·omega
   ·omega
   ·omega
   ·cases A' with
    | some p => simp at h3
    | none => cases A <;> simp [underlying, ht]
theorem run_bin_nl {op : BinOp} {t : TypeId} {x y : Operand} {v u : Value} {i : Nat} {a b : Bool} (hv : NV v i a) (hu : NV u i b) (hp : nlP P t = some i) (hab : (a || b) = true) (h3 : i = 3 → b = true) (ho : op = .eql ∨ op = .neq) :
  (∀ z, (eqGuard op t x y v u).run P w = .ok z w) ∧ (binOp op t v u).run P w = .ok (.bool (if op = .eql then a && b else !(a && b))) w := by
 have he := run_eqn (w := w) hv hu hp hab h3
 have hb : binOp op t v u = if op = .eql then (do pure (.bool (← Op.equal t v u))) else (do pure (.bool (!(← Op.equal t v u)))) := by
  rcases hv with ⟨_, p, rfl, _⟩ | ⟨_, ⟨rfl, _⟩ | ⟨_, _, _, rfl, _⟩⟩ | ⟨_, p, rfl, _⟩ | ⟨_, _, _, _, rfl, _⟩ <;> rcases ho with rfl | rfl <;> rcases hu with ⟨_, p', rfl, _⟩ | ⟨_, ⟨rfl, _⟩ | ⟨_, _, _, rfl, _⟩⟩ | ⟨_, p', rfl, _⟩ | ⟨_, _, _, _, rfl, _⟩ <;> first | rfl | omega
 refine ⟨fun z => ?_, ?_⟩
 ·rcases hv with ⟨_, p, rfl, _⟩ | ⟨_, ⟨rfl, _⟩ | ⟨_, _, _, rfl, _⟩⟩ | ⟨_, p, rfl, _⟩ | ⟨_, _, _, _, rfl, _⟩ <;> rcases ho with rfl | rfl <;> simp [eqGuard]
 ·rw [hb]
  rcases ho with rfl | rfl <;> simp [he]
theorem equalIn_int {t : TypeId} {k : IntKind} (h : P.underlying t = some (.int k)) (d : Nat) (a b : Int) : (Op.equalIn (d + 1) t (.int k a) (.int k b)).run P w = .ok (a == b) w := by
 simp [Op.equalIn, run_underlying h]
theorem eqGuardIn_int {t : TypeId} {k : IntKind} (h : P.underlying t = some (.int k)) (d : Nat) (a b : Int) : (Op.eqGuardIn (d + 1) t (.int k a) (.int k b)).run P w = .ok false w := by
 simp [Op.eqGuardIn, run_underlying h]
theorem part_at2 {t : TypeId} {k : IntKind} (h : P.underlying t = some (.int k)) (a b : Value) : (part t #[a, b] 0).run P w = .ok a w ∧ (part t #[a, b] 1).run P w = .ok b w := by
 simp [part, isAgg, run_underlying h]
theorem equalIn_two {t : TypeId} {f g : Field} {k k' : IntKind} (h : P.underlying t = some (.struct #[f, g])) (hf : P.underlying f.type = some (.int k)) (hg : P.underlying g.type = some (.int k')) (nf : f.name ≠ "_") (ng : g.name ≠ "_") (of : f.offset = 0) (og : g.offset = 1) (hs : P.stoodInHeld t = false) (d : Nat) (a b a' b' : Int) :
  (Op.equalIn (d + 2) t (.agg #[.int k a, .int k' b]) (.agg #[.int k a', .int k' b'])).run P w = .ok (decide (a = a') && decide (b = b')) w := by
 rw [Op.equalIn]
 by_cases h1 : a = a' <;> by_cases h2 : b = b' <;>
 simp [run_underlying h, hs, nf, ng, of, og, (part_at2 hf _ _).1, (part_at2 hg _ _).2, equalIn_int hf, equalIn_int hg, h1, h2]
theorem eqGuardIn_two {t : TypeId} {f g : Field} {k k' : IntKind} (h : P.underlying t = some (.struct #[f, g])) (hf : P.underlying f.type = some (.int k)) (hg : P.underlying g.type = some (.int k')) (nf : f.name ≠ "_") (ng : g.name ≠ "_") (of : f.offset = 0) (og : g.offset = 1) (d : Nat) (a b a' b' : Int) :
  (Op.eqGuardIn (d + 2) t (.agg #[.int k a, .int k' b]) (.agg #[.int k a', .int k' b'])).run P w = .ok false w := by
 rw [Op.eqGuardIn]; simp [run_underlying h, nf, ng, of, og, (part_at2 hf _ _).1, (part_at2 hg _ _).2, eqGuardIn_int hf, eqGuardIn_int hg]
theorem run_eqg {t : TypeId} {k k' : IntKind} (h : eqP P t = some (k, k')) (a b a' b' : Int) (op : BinOp) (ho : op = .eql ∨ op = .neq) (x y : Operand) :
  (∀ u, (eqGuard op t x y (.agg #[.int k a, .int k' b]) (.agg #[.int k a', .int k' b'])).run P w = .ok u w) ∧ (binOp op t (.agg #[.int k a, .int k' b]) (.agg #[.int k a', .int k' b'])).run P w = .ok (.bool (if op = .eql then decide (a = a') && decide (b = b') else !(decide (a = a') && decide (b = b')))) w := by
 unfold eqP at h
 split at h
 ·rename_i fs hu
  split at h
  ·rename_i f g hfs
   have hfs : fs = #[f, g] := by rw [← Array.toArray_toList (xs := fs), hfs]
   subst hfs
   split at h
   ·rename_i k1 k2 i j h1 h2 h3 h4
    split at h
    ·rename_i hc
     obtain ⟨c1, c2, _, _, c5, c6, _, _, c9⟩ := hc
     injection h with h
     injection h with e1 e2
     subst e1; subst e2
     have hg := eqGuardIn_two (P := P) (w := w) hu h1 h2 c1 c2 c5 c6 9998 a b a' b'; have he := equalIn_two (P := P) (w := w) hu h1 h2 c1 c2 c5 c6 c9 9998 a b a' b'; have em : Op.maxDepth = 9998 + 2 := rfl
     rcases ho with rfl | rfl
     ·refine ⟨fun u => ?_, ?_⟩
      ·cases hq : P.eqGuardType P.depth t <;> simp [eqGuard, hq, em, hg]
      ·simp [binOp, Op.equal, em, he]
     ·refine ⟨fun u => ?_, ?_⟩
      ·cases hq : P.eqGuardType P.depth t <;> simp [eqGuard, hq, em, hg]
      ·simp [binOp, Op.equal, em, he]
    ·cases h
   ·cases h
  ·cases h
 ·cases h
theorem sim_bin (h : RelX w0 c S a w) (hd : ∀ t, o.dst = some t → t < S.n) (op : BinOp) (t u : TypeId) (x y : Operand) (ho : o.op = .binOp op t x y u) (hK : binK P op t S.m K (ez S x) (ez S y)) : o.wp P a w (fun a' w' => ∃ r m', K r m' ∧ Rel w0 (S.put o.dst r m') a' w') Q := by
 have hx := h.evs x; have hy := h.evs y
 have hex : ∀ v, (∀ u, (eqGuard op t x y (a.eval x) (a.eval y)).run P w = .ok u w) → (binOp op t (a.eval x) (a.eval y)).run P w = .ok v w → (execOp a.eval o).run P w = .ok (.value v) w := fun v hg hv => by
  simp only [execOp, ho, Sem.run_bind, hg (), hv, Result.andThen_ok, Sem.run_pure]
 generalize ez S x = r at hx hK; generalize ez S y = r2 at hy hK; generalize a.eval x = v at hx hex; generalize a.eval y = v2 at hy hex; unfold binK at hK
 split at hK
 ·rename_i k n k' n'
  obtain ⟨rfl, h1, h2⟩ := hx; obtain ⟨rfl, _, _⟩ := hy
  have hg : ∀ u, (eqGuard op t x y (.int k n) (.int k' n')).run P w = .ok u w := fun _ => by cases op <;> simp [eqGuard]
  cases hs : isShift op with
  | true =>
   obtain ⟨v, r, e1, e2, e3⟩ := run_shift (P := P) (c := c) (m := S.m) (w := w) op k k' n n' t (fun v => K (.c v) S.m) h1 h2 (hK.1 hs); exact sim_val (r := .c r) hd (hex v hg e1) h e2 e3
  | false =>
   obtain ⟨rfl, hK2⟩ := hK.2 hs; obtain ⟨v, r, e1, e2, e3⟩ := run_int (P := P) (c := c) (m := S.m) (w := w) op k n n' t (fun v => K (.c v) S.m) h1 h2 hs hK2; exact sim_val (r := .c r) hd (hex v hg e1) h e2 e3
 ·rename_i s1 s2
  obtain ⟨rfl, h1⟩ := hx; obtain ⟨rfl, h2⟩ := hy
  have hg : ∀ u, (eqGuard op t x y (.string s1) (.string s2)).run P w = .ok u w := fun _ => by cases op <;> simp [eqGuard]
  obtain ⟨v, r, e1, e2, e3⟩ := run_str (P := P) (c := c) (m := S.m) (w := w) op s1 s2 t (fun v => K (.c v) S.m) hK; exact sim_val (r := .c r) hd (hex v hg e1) h e2 e3
 ·rename_i b1 b2
  have hx : v = .bool b1 := hx; have hy : v2 = .bool b2 := hy
  subst hx; subst hy
  have hg : ∀ u, (eqGuard op t x y (.bool b1) (.bool b2)).run P w = .ok u w := fun _ => by cases op <;> simp [eqGuard]
  obtain ⟨hu, hK⟩ := hK; unfold blP at hu
  split at hu
  ·rename_i hub
   split at hK
   ·exact sim_val (r := .c (.b (b1 == b2))) hd (hex (.bool (b1 == b2)) hg (by simp [binOp, run_eqb hub])) h rfl hK
   ·exact sim_val (r := .c (.b (!(b1 == b2)))) hd (hex (.bool (!(b1 == b2))) hg (by simp [binOp, run_eqb hub])) h rfl hK
   ·exact hK.elim
  ·cases hu
 ·unfold nilK at hK
  split at hK
  ·rename_i i a j b h1 h2
   obtain ⟨rfl, hp, hab, h33, hK⟩ := hK; have h3 := nl_val hx h1; have h4 := nl_val hy h2
   split at hK
   ·obtain ⟨g1, g2⟩ := run_bin_nl (P := P) (w := w) (op := .eql) (x := x) (y := y) h3 h4 hp hab h33 (.inl rfl); exact sim_val (r := .c (.b (a && b))) hd (hex _ g1 g2) h rfl hK
   ·obtain ⟨g1, g2⟩ := run_bin_nl (P := P) (w := w) (op := .neq) (x := x) (y := y) h3 h4 hp hab h33 (.inr rfl); exact sim_val (r := .c (.b (!(a && b)))) hd (hex _ g1 (by simpa using g2)) h rfl hK
   ·exact hK.elim
  ·exact hK.elim
 ·unfold eqgK at hK
  split at hK
  ·rename_i xs ys k k' i a j b i' a' j' b' he
   obtain ⟨rfl, rfl, rfl, rfl, hK⟩ := hK
   have e1 : v = .agg #[.int i' a, .int j' b] := by
    obtain ⟨vs, rfl, h1⟩ := hx; obtain ⟨l, rfl⟩ : ∃ l : List Value, vs = l.toArray := ⟨vs.toList, by simp⟩; simp only [] at h1
    cases h1 with
    | cons q1 h1 => cases h1 with
     | cons q2 h1 => cases h1; obtain ⟨rfl, _⟩ := q1; obtain ⟨rfl, _⟩ := q2; rfl
   have e2 : v2 = .agg #[.int i' a', .int j' b'] := by
    obtain ⟨vs, rfl, h1⟩ := hy; obtain ⟨l, rfl⟩ : ∃ l : List Value, vs = l.toArray := ⟨vs.toList, by simp⟩; simp only [] at h1
    cases h1 with
    | cons q1 h1 => cases h1 with
     | cons q2 h1 => cases h1; obtain ⟨rfl, _⟩ := q1; obtain ⟨rfl, _⟩ := q2; rfl
   subst e1; subst e2
   split at hK
   ·obtain ⟨g1, g2⟩ := run_eqg (P := P) (w := w) he a b a' b' .eql (.inl rfl) x y; exact sim_val (r := .c (.b (decide (a = a') && decide (b = b')))) hd (hex _ g1 g2) h rfl hK
   ·obtain ⟨g1, g2⟩ := run_eqg (P := P) (w := w) he a b a' b' .neq (.inr rfl) x y; exact sim_val (r := .c (.b (!(decide (a = a') && decide (b = b'))))) hd (hex _ g1 g2) h rfl hK
   ·exact hK.elim
  ·exact hK.elim
 ·exact hK.elim
theorem sim_un (h : RelX w0 c S a w) (hd : ∀ t, o.dst = some t → t < S.n) (op : UnOp) (t : TypeId) (x : Operand) (ho : o.op = .unOp op t x) (hK : unK op S.m K (ez S x)) : o.wp P a w (fun a' w' => ∃ r m', K r m' ∧ Rel w0 (S.put o.dst r m') a' w') Q := by
 have hx := h.evs x
 have hex : ∀ v, (Op.unary op (a.eval x)).run P w = .ok v w → (execOp a.eval o).run P w = .ok (.value v) w := fun v hv => by
  simp only [execOp, ho, Sem.run_bind, hv, Result.andThen_ok, Sem.run_pure]
 generalize ez S x = r at hx hK; generalize a.eval x = v at hx hex; unfold unK at hK
 split at hK
 ·rename_i b
  have hx : v = .bool b := hx; subst hx
  split at hK
  ·exact sim_val (r := .c (.b !b)) hd (hex (.bool !b) (by simp [Op.unary])) h rfl hK
  ·exact hK.elim
 ·rename_i k n
  obtain ⟨rfl, _⟩ := hx
  split at hK
  ·exact sim_val (r := .c (.i k (k.wrap (0 - n)))) hd (hex (.int k (k.wrap (0 - n))) (by simp [Op.unary, Op.intArith])) h ⟨rfl, wrap_in _ _⟩ hK
  ·exact hK.elim
 ·exact hK.elim
theorem sim_conv (h : RelX w0 c S a w) (hd : ∀ t, o.dst = some t → t < S.n) (t u : TypeId) (x : Operand) (ho : o.op = .convert t u x) (hK : convK (cvtP P t u) S.m K (ez S x)) : o.wp P a w (fun a' w' => ∃ r m', K r m' ∧ Rel w0 (S.put o.dst r m') a' w') Q := by
 have hx := h.evs x
 have hex : ∀ v, (convert t u (a.eval x)).run P w = .ok v w → (execOp a.eval o).run P w = .ok (.value v) w := fun v hv => by
  simp only [execOp, ho, Sem.run_bind, hv, Result.andThen_ok, Sem.run_pure]
 generalize ez S x = r at hx hK; generalize a.eval x = v at hx hex; unfold convK at hK
 split at hK
 ·rename_i k n
  obtain ⟨rfl, _⟩ := hx
  split at hK
  ·rename_i k' hk
   unfold cvtP at hk
   split at hk
   ·rename_i d k2 h1 h2
    injection hk with hk
    subst hk; exact sim_val (r := .c (.i k2 (k2.wrap n))) hd (hex (.int k2 (k2.wrap n)) (by simp [convert, underlying, h1, h2, Conv.intToInt])) h ⟨rfl, wrap_in _ _⟩ hK
   ·cases hk
  ·exact hK.elim
 ·exact hK.elim
theorem len_in {n : Nat} (h : n ≤ maxLen) : IntKind.i64.min ≤ (n : Int) ∧ (n : Int) ≤ IntKind.i64.max := by
 simp only [maxLen] at h; simp [IntKind.min, IntKind.max, IntKind.signed, IntKind.bits]
 omega
theorem sim_len (h : RelX w0 c S a w) (hd : ∀ t, o.dst = some t → t < S.n) (t : TypeId) (x : Operand) (ho : o.op = .call { callee := .builtin .len, args := #[x], argTypes := #[t] }) (hK : lenK (slP P t) S.m K (ez S x)) : o.wp P a w (fun a' w' => ∃ r m', K r m' ∧ Rel w0 (S.put o.dst r m') a' w') Q := by
 have hx := h.evs x
 have hex : ∀ v, (Builtin.len_ #[t] o.type #[a.eval x]).run P w = .ok v w → (execOp a.eval o).run P w = .ok (.value v) w := fun v hv => by
  simp only [execOp, ho, resolve, invoke, builtin, Sem.run_bind, Sem.run_pure, Result.andThen_ok, List.map_toArray, List.map_cons, List.map_nil, hv]
 have hsl : ∀ b, slP P t = some b → (b = true → ∃ e, P.underlying t = some (.slice e)) ∧ (b = false → P.underlying t = some .string) := fun b hb => by
  unfold slP at hb
  split at hb
  ·injection hb with hb; subst hb; exact ⟨fun _ => ⟨_, ‹_›⟩, fun h => by cases h⟩
  ·injection hb with hb; subst hb; exact ⟨(fun h => by cases h), fun _ => ‹_›⟩
  ·cases hb
 generalize ez S x = r at hx hK; generalize a.eval x = v at hx hex; unfold lenK at hK
 split at hK
 ·rename_i fr xs
  obtain ⟨e, he⟩ := (hsl _ hK.1).1 rfl; obtain ⟨A, cc, sz, _, rfl, hs, _⟩ := Rp.sl hx; exact sim_val (r := .c (.i .i64 xs.length)) hd (hex (.int .i64 xs.length) (by simp [Builtin.len_, underlying, he, goInt])) h ⟨rfl, len_in (Nat.le_trans hs.1 hs.2.1)⟩ hK.2
 ·obtain ⟨e, he⟩ := (hsl _ hK.1).1 rfl; have hx : v = .slice none 0 0 := hx; subst hx; exact sim_val (r := .c (.i .i64 0)) hd (hex (.int .i64 0) (by simp [Builtin.len_, underlying, he, goInt])) h ⟨rfl, by decide, by decide⟩ hK.2
 ·rename_i k n
  obtain ⟨h0, hK⟩ := hK; obtain ⟨e, he⟩ := (hsl _ h0).1 rfl
  split at hK
  ·rename_i f s T xs hm
   obtain ⟨fr0, sz0, T0, xs0, h1, h2, h3, h4⟩ := hx; rw [hm] at h1
   injection h1 with h1
   injection h1 with e1 e2 e3 e4
   subst e1; subst e2; subst e3; subst e4
   obtain ⟨h5, h6, h7, h8⟩ := h.mem k _ hm
   obtain ⟨A, cc, hρ, hs⟩ := h6.sl h5 (X := fun _ => True) fun _ _ => trivial
   have hv := h3 hK.1; rw [hρ] at hv; subst hv; exact sim_val (r := .c (.i .i64 xs.length)) hd (hex (.int .i64 xs.length) (by simp [Builtin.len_, underlying, he, goInt])) h ⟨rfl, len_in (Nat.le_trans hs.1 hs.2.1)⟩ hK.2
  ·exact hK.elim
 ·rename_i s
  have he := (hsl _ hK.1).2 rfl; obtain ⟨rfl, h1⟩ := hx; exact sim_val (r := .c (.i .i64 s.size)) hd (hex (.int .i64 s.size) (by simp [Builtin.len_, underlying, he, goInt])) h ⟨rfl, len_in h1⟩ hK.2
 ·exact hK.elim
end

end Go.Proofs.YtbgifiijjjoebaaGreatDoor
