/- The rules by which code is run over states without addresses. No conditions. Trees of formulas and terms, in plain words: what may be, depth, zero divisors. No conditions. Contracts of calls that write, out of code. No conditions. Objects under other names; rows that are data from now on. No conditions. -/
import Derived.Test.YtbgifiijjjoebaaGreatDoorGNamesAl
import Derived.Test.YtbgifiijjjoebaaGreatDoorGNamesAm
import Derived.Test.YtbgifiijjjoebaaGreatDoorGNamesAn
import Derived.IntWalk
namespace Go.Proofs.YtbgifiijjjoebaaGreatDoor
open Go.RowKit

attribute [go_sem] nckK arrK eqgK toE opK astep ez evs cRV cCV cCVs cellsOf fset_at mat mset loadK storeK allocK boxK fieldK indexK extractK pickK intK shiftK strK binK unK convK bstrK lenK fillC buildK rowP rowK rowDK srcK appK copK makeK bndK sliceK snapD snapDs argCs argK argsK callK endR freshC freshA freshR noE thn inB AS.put layC shutB nmR nmC nmA nilK nlC byteK maxK capP funK layD toC toR isShift endK resKs resK tellA tellAs tellC tellCs begS AD.rv
theorem follows : Tryz.prog.follows .mixedOrders = true := by kernel_rfl
theorem z_min : IntKind.i64.min = -9223372036854775808 ∧ IntKind.i64.max = 9223372036854775807 ∧ IntKind.u32.min = 0 ∧ IntKind.u32.max = 4294967295 ∧ IntKind.u64.min = 0 ∧ IntKind.u64.max = 18446744073709551615 ∧ IntKind.u8.min = 0 ∧ IntKind.u8.max = 255 ∧ IntKind.i32.min = -2147483648 ∧ IntKind.i32.max = 2147483647 := by decide
attribute [go_sem] z_min
@[go_sem] theorem anK_v (d : Option Nat) (m : Mem) (b : Bool) (K : SV → Mem → Prop) (r : SV) : anK d m b K (.v r) = ((b = true → freshR r = true) ∧ noE r = true ∧ K r m) := rfl
@[go_sem] theorem anK_o (k : Nat) (m : Mem) (b : Bool) (K : SV → Mem → Prop) (fr : Bool) (sz : Nat) (T : TypeId) (xs : List (List D)) : anK (some k) m b K (.o fr sz T xs) = ((b = true → fr = true) ∧ mat m k = none ∧ K (.c (.r k xs.length)) ((k, .r fr sz T xs) :: m)) := rfl
@[go_sem] theorem anK_s (k : Nat) (m : Mem) (b : Bool) (K : SV → Mem → Prop) (cs : List CV) (i : Nat) (fr : Bool) (sz : Nat) (T : TypeId) (xs : List (List D)) : anK (some k) m b K (.s cs i fr sz T xs) = ((b = true → fr = true ∧ cs.all freshC = true) ∧ mat m k = none ∧ K (.g (cs.set i (.r k xs.length))) ((k, .r fr sz T xs) :: m)) := rfl
def HK (N G : AS → Prop) : Prop := ∀ S, G S → N S
section
variable {P : Program} {Q : Exit → AS → Prop} {S : AS}
theorem sw_seqk {x y : Code} (h : ∀ N, HK N (SW P y Q) → SW P x (thn N Q) S) : SW P (.seq x y) Q S := sw_seq (h _ fun _ h => h)
theorem aops_k {ops : Array Oper} {KF : AS → Prop} {o : Oper} {r : List Oper} (h : ∀ N, HK N (aops P ops KF r) → opK P ops o S fun rv m' => N (S.put o.dst rv m')) : aops P ops KF (o :: r) S := h _ fun _ h => h
theorem sw_reg {id : Nat} {l : List Oper} {draw : Bool} (h : aops P l.toArray (Q .normal) l S) (hm : P.follows .mixedOrders = true := by exact follows) (hok : draw = true → regOk P l.toArray = true := by (intro h; first | (cases h; done) | kernel_rfl)) : SW P (.region id l.toArray draw) Q S := sw_region hm hok h
end
theorem sw_reg2 {P : Program} {Q : Exit → AS → Prop} {S : AS} {id : Nat} {l : List Oper} (h : aops P l.toArray (Q .normal) (reord l) S) (hm : P.follows .mixedOrders = true := by exact follows) (hok : regOk2 P l.toArray = true := by kernel_rfl) : SW P (.region id l.toArray true) Q S := sw_region2 hm hok h
theorem sw_ct {P : Program} {Q : Exit → AS → Prop} {S : AS} {c : Operand} {x y : Code} (hc : ez S c = .c (.b true)) (h : SW P x Q S) : SW P (.cond c x y) Q S := sw_cond hc (fun _ => h) fun e => by cases e
theorem sw_cf {P : Program} {Q : Exit → AS → Prop} {S : AS} {c : Operand} {x y : Code} (hc : ez S c = .c (.b false)) (h : SW P y Q S) : SW P (.cond c x y) Q S := sw_cond hc (fun e => by cases e) fun _ => h
theorem hku {N G : AS → Prop} {S : AS} (g : G S) (h : HK N G := by assumption) : N S := h S g
theorem sw_t {P : Program} {Q : Exit → AS → Prop} {S : AS} {c : Operand} {x y : Code} (h : SW P x Q S) (hc : ez S c = .c (.b true) := by rfl) : SW P (.cond c x y) Q S := sw_ct hc h
theorem sw_f {P : Program} {Q : Exit → AS → Prop} {S : AS} {c : Operand} {x y : Code} (h : SW P y Q S) (hc : ez S c = .c (.b false) := by rfl) : SW P (.cond c x y) Q S := sw_cf hc h
def endC : Code → Option Exit
 | .skip => some .normal
 | .exit id => some (.exit id)
 | .ret => some .ret
 | _ => none
theorem sw_e {P : Program} {Q : Exit → AS → Prop} {S : AS} {c : Code} {e : Exit} (h : Q e S) (hc : endC c = some e := by rfl) : SW P c Q S := by
 cases c <;> first | cases hc | skip
 ·exact sw_skip h
 ·exact sw_exit h
 ·exact sw_ret h
theorem ai {a b : Prop} (h : b) (k : a := by first | omega | rfl) : a ∧ b := ⟨k, h⟩
def chkF (f' f : Nat → SV) (m' : Mem) : Nat → Prop
 | 0 => True
 | n + 1 => svLe (f' n) (f n) ∧ shutB m' (nmR (f' n)) = true ∧ chkF f' f m' n
def chkM (m : Mem) : Mem → Prop
 | [] => True
 | (k, ob) :: r => (match mat m k with | some ob0 => obLe ob ob0 | none => False) ∧ chkM m r
def chkB (m : Mem) : Mem → Prop
 | [] => True
 | (_, ob) :: r => shutB m (nmO ob) = true ∧ chkB m r
def chkK : Mem → Mem → Prop
 | [], _ => True
 | (k, _) :: r, m' => (k < 1000 ∨ (mat m' k).isSome = true) ∧ chkK r m'
theorem chkF_at {f' f : Nat → SV} {m' : Mem} : ∀ {n t : Nat}, chkF f' f m' n → t < n → svLe (f' t) (f t) ∧ shutB m' (nmR (f' t)) = true
 | n + 1, t, h, ht => by
  by_cases e : t = n
  ·subst e; exact ⟨h.1, h.2.1⟩
  ·exact chkF_at h.2.2 (by omega)
theorem chkM_at {m : Mem} : ∀ {m' : Mem}, chkM m m' → ∀ k ob, mat m' k = some ob → ∃ ob0, mat m k = some ob0 ∧ obLe ob ob0
 | [], _, k, ob, h => by cases h
 | (j, o) :: r, h, k, ob, hk => by
  unfold mat at hk
  split at hk
  ·rename_i e
   subst e
   injection hk with hk
   subst hk; have h1 := h.1
   split at h1
   ·exact ⟨_, ‹_›, h1⟩
   ·exact h1.elim
  ·exact chkM_at h.2 k ob hk
theorem chkB_at {m : Mem} : ∀ {m' : Mem}, chkB m m' → ∀ k ob, mat m' k = some ob → shutB m (nmO ob) = true
 | [], _, k, ob, h => by cases h
 | (j, o) :: r, h, k, ob, hk => by
  unfold mat at hk
  split at hk
  ·injection hk with hk; subst hk; exact h.1
  ·exact chkB_at h.2 k ob hk
theorem chkK_at : ∀ {m m' : Mem}, chkK m m' → ∀ k, 1000 ≤ k → (mat m k).isSome = true → (mat m' k).isSome = true
 | [], _, _, k, _, h => by cases h
 | (j, o) :: r, m', h, k, hk, hs => by
  unfold mat at hs
  split at hs
  ·rename_i e; subst e; exact h.1.resolve_left (by omega)
  ·exact chkK_at h.2 k hk hs
theorem le_chk {n : Nat} {f f' : Nat → SV} {m m' : Mem} (h : chkF f' f m' n ∧ chkM m m' ∧ chkB m' m' ∧ chkK m m') : Le ⟨n, f', m'⟩ ⟨n, f, m⟩ :=
 le_sub (fun _ ht => (chkF_at h.1 ht).1) (chkM_at h.2.1) (fun _ ht => (chkF_at h.1 ht).2) (chkB_at h.2.2.1) (chkK_at h.2.2.2)
theorem sw_loopx {P : Program} {Q : Exit → AS → Prop} {S : AS} {c : Code} {α : Type} (st : α → AS) (I : α → Prop) (μ : α → Nat) (x0 : α) (hI : I x0) (h0 : Le (st x0) S) (round : ∀ x, I x → SW P c (thn (fun S2 => ∃ y, (I y ∧ μ y < μ x) ∧ Le (st y) S2) Q) (st x)) : SW P (.loop c) Q S :=
 sw_loop (fun n S1 => ∃ x, I x ∧ n = μ x ∧ S1 = st x) ⟨μ x0, st x0, h0, x0, hI, rfl, rfl⟩ fun n S1 ⟨x, h1, h2, h3⟩ => by
  subst h2; subst h3
  refine sw_mono (round x h1) fun e S' he => ?_
  cases e with
  | normal => obtain ⟨y, ⟨h4, h5⟩, h6⟩ := he; exact ⟨μ y, st y, h5, h6, y, h4, rfl, rfl⟩
  | _ => exact he
def alook : List (Nat × SV) → Nat → Option SV
 | [], _ => none
 | (j, v) :: r, t => if j = t then some v else alook r t
def lst (f : Nat → SV) (lo : Nat) (vals : List (Nat × SV)) (t : Nat) : SV :=
 match alook vals t with
 | some v => v
 | none => if t < lo then f t else .u
def chk (n : Nat) (f' : Nat → SV) (m' : Mem) (S : AS) : Prop := S.n = n ∧ chkF f' S.f m' n ∧ chkM S.m m' ∧ chkB m' m' ∧ chkK S.m m'
theorem chk_le {n : Nat} {f' : Nat → SV} {m' : Mem} {S : AS} (h : chk n f' m' S) : Le ⟨n, f', m'⟩ S := by
 obtain ⟨n', f, m⟩ := S; obtain ⟨h1, h2, h3⟩ := h; have h1 : n' = n := h1; subst h1; exact le_chk ⟨h2, h3⟩
theorem sw_loopw {P : Program} {Q : Exit → AS → Prop} {c : Code} {n : Nat} {f : Nat → SV} {m : Mem} {α : Type} (lo : Nat) (vals : α → List (Nat × SV)) (mem : α → Mem) (I : α → Prop) (μ : α → Nat) (x0 : α) (hI : I x0) (h0 : chk n (lst f lo (vals x0)) (mem x0) ⟨n, f, m⟩)
  (round : ∀ x, I x → SW P c (thn (fun S => ∃ y, I y ∧ μ y < μ x ∧ chk n (lst f lo (vals y)) (mem y) S) Q) ⟨n, lst f lo (vals x), mem x⟩) : SW P (.loop c) Q ⟨n, f, m⟩ :=
 sw_loopx (fun x => ⟨n, lst f lo (vals x), mem x⟩) I μ x0 hI (chk_le h0) fun x hx => sw_mono (round x hx) fun e S' he => by
  cases e with
  | normal => obtain ⟨y, h1, h2, h3⟩ := he; exact ⟨y, ⟨h1, h2⟩, chk_le h3⟩
  | _ => exact he
def ovr (m : Mem) : Mem → Mem
 | [] => m
 | (k, ob) :: r => ovr (mset m k ob) r
theorem sw_loopv {P : Program} {Q : Exit → AS → Prop} {c : Code} {n : Nat} {f : Nat → SV} {m : Mem} {α : Type} (lo : Nat) (vals : α → List (Nat × SV)) (objs : α → Mem) (I : α → Prop) (μ : α → Nat) (x0 : α) (hI : I x0) (h0 : chk n (lst f lo (vals x0)) (ovr m (objs x0)) ⟨n, f, m⟩)
  (round : ∀ x, I x → SW P c (thn (fun S => ∃ y, I y ∧ μ y < μ x ∧ chk n (lst f lo (vals y)) (ovr m (objs y)) S) Q) ⟨n, lst f lo (vals x), ovr m (objs x)⟩) : SW P (.loop c) Q ⟨n, f, m⟩ :=
 sw_loopw lo vals (fun x => ovr m (objs x)) I μ x0 hI h0 round
attribute [go_sem] ovr chkF chkM chkB chkK nmO chk alook lst svLe cvLe cvLes obLe
@[go_sem] theorem maxLen_is : maxLen = 9223372036854775807 := rfl
@[go_sem] theorem int_beq (a b : Int) : (a == b) = decide (a = b) := by by_cases h : a = b <;> simp [h]
@[go_sem] theorem int_bne (a b : Int) : (a != b) = !decide (a = b) := by by_cases h : a = b <;> simp [h]
def dN (l : List Nat) : List (List D) := l.map fun x : Nat => [D.i .u32 (x : Int)]
def dZ (z : Z) : List D := [.b z.neg, .l (dN z.mag)]
attribute [go_sem] dZ
end Go.Proofs.YtbgifiijjjoebaaGreatDoor

namespace Go.Proofs.YtbgifiijjjoebaaGreatDoor
open Go.RowKit

inductive Tr where
 | mk (kind : Int) (name : ByteArray) (names : List ByteArray) (n : Z) (kids : List Tr)
def Tr.kind : Tr → Int | .mk k _ _ _ _ => k
def Tr.name : Tr → ByteArray | .mk _ s _ _ _ => s
def Tr.names : Tr → List ByteArray | .mk _ _ l _ _ => l
def Tr.n : Tr → Z | .mk _ _ _ n _ => n
def Tr.kids : Tr → List Tr | .mk _ _ _ _ l => l
theorem Tr.ind {P : Tr → Prop} (h : ∀ k s ns n ks, (∀ t ∈ ks, P t) → P (.mk k s ns n ks)) (t : Tr) : P t :=
 Tr.rec (motive_1 := P) (motive_2 := fun l => ∀ t ∈ l, P t) (fun k s ns n ks ih => h k s ns n ks ih) (fun _ h => by cases h) (fun a r h1 h2 t ht => (List.mem_cons.1 ht).elim (fun e => e ▸ h1) (h2 t)) t
def dSs (l : List ByteArray) : List (List D) := l.map fun s => [.s s]
mutual
def dTr : Tr → List D
 | .mk k s ns n ks => [.i .i64 k, .s s, .l (dSs ns), .b n.neg, .l (dN n.mag), .l (dTrs ks)]
def dTrs : List Tr → List (List D)
 | [] => []
 | t :: r => dTr t :: dTrs r
end
theorem dTrs_map : ∀ l : List Tr, dTrs l = l.map dTr
 | [] => by simp [dTrs]
 | t :: r => by rw [dTrs, List.map_cons, dTrs_map r]
theorem dTr_eq (t : Tr) : dTr t = [.i .i64 t.kind, .s t.name, .l (dSs t.names), .b t.n.neg, .l (dN t.n.mag), .l (t.kids.map dTr)] := by
 cases t with
 | mk k s ns n ks => rw [dTr, dTrs_map]; rfl
structure Sh where
 name : Bool
 names : Bool
 number : Bool
 least : Int
 most : Int
 inner : Bool
 formula : Bool
def shp (k : Int) : Option Sh :=
 if k = 1 then some ⟨false, false, true, 0, 0, false, false⟩
 else if k = 2 then some ⟨true, false, false, 0, 0, false, false⟩
 else if k = 3 then some ⟨false, false, false, 1, 1, false, false⟩
 else if k = 4 ∨ k = 5 then some ⟨false, false, false, 2, 2, false, false⟩
 else if k = 6 then some ⟨false, false, true, 1, 1, false, false⟩
 else if k = 7 ∨ k = 8 then some ⟨false, false, false, 0, 0, false, true⟩
 else if 9 ≤ k ∧ k ≤ 14 then some ⟨false, false, false, 2, 2, false, true⟩
 else if k = 15 then some ⟨false, false, true, 1, 1, false, true⟩
 else if k = 16 then some ⟨false, false, false, 1, 1, true, true⟩
 else if k = 17 ∨ k = 18 then some ⟨false, false, false, 2, -1, true, true⟩
 else if k = 19 ∨ k = 20 then some ⟨false, false, false, 2, 2, true, true⟩
 else if k = 21 ∨ k = 22 then some ⟨false, true, false, 1, 1, true, true⟩
 else none
def letterB (c : Nat) : Bool := decide (97 ≤ c ∧ c ≤ 122) || decide (65 ≤ c ∧ c ≤ 90)
def digitB (c : Nat) : Bool := decide (48 ≤ c ∧ c ≤ 57)
def rowB (c : Nat) : Bool := letterB c || digitB c || decide (c = 95)
def words : List (List UInt8) := [[97, 110, 100], [111, 114], [110, 111, 116], [105, 109, 112, 108, 105, 101, 115], [105, 102, 102], [115, 111, 109, 101], [97, 108, 108], [116, 114, 117, 101], [102, 97, 108, 115, 101], [100, 105, 118, 105, 100, 101, 115]]
def nameB (s : ByteArray) : Bool := decide (0 < s.size) && letterB ((s.data.getD 0 0).toNat) && s.data.toList.all (fun c => rowB c.toNat) && decide (s.size ≤ 24) && !words.contains s.data.toList
def bareB (z : Z) : Bool := !z.neg && decide (z.mag.length = 0)
mutual
def madeB : Tr → Bool → Bool
 | .mk k s ns n ks, f => match shp k with
  | none => false
  | some h => (h.formula == f) && decide (h.least ≤ ks.length) && (decide (h.most < 0) || decide ((ks.length : Int) ≤ h.most)) && (h.name == nameB s) && (h.name || decide (s.size = 0)) && (h.names == decide (0 < ns.length)) && ns.all nameB && !n.neg && (h.number || bareB n) && n.ok && madesB ks h.inner
def madesB : List Tr → Bool → Bool
 | [], _ => true
 | t :: r, f => madeB t f && madesB r f
end
mutual
def noneB : Tr → Bool
 | .mk k _ _ n ks => (decide (k = 15) && bareB n) || nonesB ks
def nonesB : List Tr → Bool
 | [] => false
 | t :: r => noneB t || nonesB r
end
mutual
def depN : Tr → Nat
 | .mk _ _ _ _ ks => depsN ks + 1
def depsN : List Tr → Nat
 | [] => 0
 | t :: r => max (depN t) (depsN r)
end
def chkI (t : Tr) : Int := if madeB t true then (if noneB t then 11 else if depN t ≤ 60 then 0 else 43) else 1
theorem madesB_all : ∀ (l : List Tr) (f : Bool), madesB l f = l.all fun t => madeB t f
 | [], _ => by simp [madesB]
 | t :: r, f => by rw [madesB, List.all_cons, madesB_all r f]
theorem nonesB_any : ∀ l : List Tr, nonesB l = l.any noneB
 | [] => by simp [nonesB]
 | t :: r => by rw [nonesB, List.any_cons, nonesB_any r]
theorem depsN_take : ∀ (l : List Tr) (k : Nat) (h : k < l.length), depsN (l.take (k + 1)) = max (depsN (l.take k)) (depN l[k])
 | [], k, h => by cases h
 | t :: r, 0, _ => by simp [depsN]
 | t :: r, k + 1, h => by
  rw [List.take_succ_cons, List.take_succ_cons, depsN, depsN, depsN_take r k (by simpa using h), List.getElem_cons_succ, Nat.max_assoc]
def termB (k : Int) : Bool := decide (1 ≤ k) && decide (k ≤ 6)
def kidsR (k : Int) : Int × Int × Bool :=
 if k = 1 ∨ k = 2 ∨ k = 7 ∨ k = 8 then (0, 0, false)
 else if k = 3 ∨ k = 6 ∨ k = 15 then (1, 1, true)
 else if k = 16 ∨ k = 21 ∨ k = 22 then (1, 1, false)
 else if k = 17 ∨ k = 18 then (2, -1, false)
 else if k = 19 ∨ k = 20 then (2, 2, false)
 else (2, 2, true)
mutual
def mayR : Tr → Bool
 | .mk k s ns n ks => decide (1 ≤ k ∧ k ≤ 22) && (if k = 2 then nameB s else decide (s.size = 0)) && (if k = 21 ∨ k = 22 then ns.all nameB && decide (0 < ns.length) else decide (ns.length = 0)) &&
  (if k = 1 ∨ k = 6 ∨ k = 15 then !n.neg && n.ok else bareB n) && decide ((kidsR k).1 ≤ ks.length) && (decide ((kidsR k).2.1 < 0) || decide ((ks.length : Int) ≤ (kidsR k).2.1)) && maysR ks (kidsR k).2.2
def maysR : List Tr → Bool → Bool
 | [], _ => true
 | t :: r, f => (termB t.kind == f) && mayR t && maysR r f
end
theorem bare_ok {n : Z} (h : bareB n = true) : n.neg = false ∧ n.ok = true := by
 unfold bareB at h; simp only [Bool.and_eq_true, Bool.not_eq_true', decide_eq_true_eq] at h; exact ⟨h.1, by unfold Z.ok; rw [if_pos h.2, h.1]; rfl⟩
theorem bare_and (n : Z) : (!n.neg && bareB n && n.ok) = bareB n := by
 cases h : bareB n with
 | false => simp
 | true => obtain ⟨h1, h2⟩ := bare_ok h; simp [h1, h2]
theorem name_ne {s : ByteArray} (h : nameB s = true) : s.size ≠ 0 := by
 unfold nameB at h; simp only [Bool.and_eq_true, decide_eq_true_eq] at h
 omega
theorem name_no (s : ByteArray) : (!nameB s && decide (s.size = 0)) = decide (s.size = 0) := by
 cases h : nameB s with
 | false => simp
 | true => have := name_ne h; simp [this]
theorem all_nil (l : List ByteArray) : (decide (l.length = 0) && l.all nameB) = decide (l.length = 0) := by
 cases l <;> simp
theorem made_may (t : Tr) : ∀ f, madeB t f = (mayR t && (termB t.kind == !f)) := by
 refine Tr.ind (P := fun t => ∀ f, madeB t f = (mayR t && (termB t.kind == !f))) (fun k s ns n ks ih f => ?_) t
 have hl : ∀ (b : Bool) (l : List Tr), (∀ t ∈ l, ∀ f, madeB t f = (mayR t && (termB t.kind == !f))) → madesB l b = maysR l !b := by
  intro b l
  induction l with
  | nil => intro _; rw [madesB, maysR]
  | cons t r ih2 =>
   intro h; rw [madesB, maysR, h t (by simp) b, ih2 fun t ht => h t (by simp [ht])]
   cases mayR t <;> cases (termB t.kind == !b) <;> rfl
 have h1 := hl true ks ih; have h2 := hl false ks ih; simp only [Bool.not_true, Bool.not_false] at h1 h2
 have hk : k < 1 ∨ k = 1 ∨ k = 2 ∨ k = 3 ∨ k = 4 ∨ k = 5 ∨ k = 6 ∨ k = 7 ∨ k = 8 ∨ k = 9 ∨ k = 10 ∨ k = 11 ∨ k = 12 ∨ k = 13 ∨ k = 14 ∨ k = 15 ∨ k = 16 ∨ k = 17 ∨ k = 18 ∨ k = 19 ∨ k = 20 ∨ k = 21 ∨ k = 22 ∨ 22 < k := by omega
 have bz := bare_and n; have nn := name_no s; have nl := all_nil ns; rw [madeB, mayR]
 show _ = (_ && (termB k == !f))
 generalize bareB n = B at bz ⊢; generalize nameB s = M at nn ⊢; generalize ns.all nameB = A at nl ⊢
 have np : decide (0 < ns.length) = !decide (ns = []) := by cases ns <;> simp
 have z1 : ks = [] → maysR ks true = true ∧ maysR ks false = true := fun e => by subst e; simp [maysR]
 have nn2 : (!M && decide (s = ByteArray.empty)) = decide (s = ByteArray.empty) := by simpa using nn
 have nl2 : (decide (ns = []) && A) = decide (ns = []) := by simpa using nl
 clear nn nl ih hl
 rcases hk with hk | rfl | rfl | rfl | rfl | rfl | rfl | rfl | rfl | rfl | rfl | rfl | rfl | rfl | rfl | rfl | rfl | rfl | rfl | rfl | rfl | rfl | rfl | hk
 ·have e : shp k = none := by unfold shp; repeat (rw [if_neg (by omega)])
  simp [e, show ¬ 1 ≤ k by omega]
 rotate_right
 ·have e : shp k = none := by unfold shp; repeat (rw [if_neg (by omega)])
  simp [e, show ¬ k ≤ 22 by omega]
 all_goals
  simp [shp, kidsR, termB, np]
  try simp only [h1, h2]
  generalize decide (s = ByteArray.empty) = S0 at nn2 ⊢; generalize decide (ns = []) = N0 at nl2 ⊢; generalize n.neg = g at bz ⊢; generalize n.ok = o at bz ⊢; clear h1 h2; generalize maysR ks true = P1 at z1 ⊢; generalize maysR ks false = P2 at z1 ⊢
  by_cases hz : ks = []
  ·obtain ⟨z2, z3⟩ := z1 hz; subst hz; subst z2; subst z3
   simp <;> (revert bz nn2 nl2; revert f g o S0 N0 M A B; decide)
  ·clear z1
   try simp [hz]
   all_goals
    clear np
    cases S0 <;> cases N0 <;> cases f <;> cases g <;> cases o <;> cases B <;> cases A <;> simp_all

end Go.Proofs.YtbgifiijjjoebaaGreatDoor

namespace Go.Proofs.YtbgifiijjjoebaaGreatDoor
open Go.RowKit

theorem obLe_refl (x : Ob) : obLe x x := by
 have h1 : ∀ x : CV, cvLe x x := fun x => by cases x <;> simp [cvLe]
 have h2 : ∀ l : List CV, cvLes l l := fun l => by
  induction l with
  | nil => trivial
  | cons x r ih => exact ⟨h1 x, ih⟩
 cases x with
 | x cs => exact h2 cs
 | r fr sz T xs => exact ⟨id, rfl, rfl, rfl⟩
 | m fr kk es => exact ⟨id, rfl, rfl⟩
 | it fr k rem la => exact ⟨id, rfl, rfl, rfl⟩
 | g vs xs => exact ⟨rfl, rfl⟩
theorem chkM_iff {m : Mem} : ∀ {m' : Mem}, chkM m m' ↔ ∀ p ∈ m', ∃ ob0, mat m p.1 = some ob0 ∧ obLe p.2 ob0
 | [] => by simp [chkM]
 | (k, ob) :: r => by
  unfold chkM; rw [chkM_iff (m' := r)]
  constructor
  ·rintro ⟨h1, h2⟩ p hp
   rcases List.mem_cons.1 hp with rfl | hp
   ·split at h1
    ·exact ⟨_, ‹_›, h1⟩
    ·exact h1.elim
   ·exact h2 p hp
  ·intro h; refine ⟨?_, fun p hp => h p (List.mem_cons_of_mem _ hp)⟩; obtain ⟨ob0, h1, h2⟩ := h _ List.mem_cons_self; simp only at h1 h2
   rw [h1]; exact h2
theorem mat_nodup : ∀ {m : Mem}, (m.map Prod.fst).Nodup → ∀ p ∈ m, mat m p.1 = some p.2
 | (k, ob) :: r, h, p, hp => by
  rw [List.map_cons, List.nodup_cons] at h
  rcases List.mem_cons.1 hp with rfl | hp
  ·simp [mat]
  ·unfold mat; rw [if_neg fun e => h.1 (by rw [e]; exact List.mem_map.2 ⟨p, hp, rfl⟩)]; exact mat_nodup h.2 p hp
section
variable {L : List Nat} {R : Mem}
theorem RC.no (h : RC L R) {k : Nat} (hk : k < 1000 ∨ k ∈ L) : mat R k = none := hk.elim (h.hi k) (h.off k)
theorem RC.cm (h : RC L R) : chkM R R := chkM_iff.2 fun p hp => ⟨p.2, mat_nodup h.nd p hp, obLe_refl _⟩
theorem chkM_up {m : Mem} {k : Nat} {o : Ob} (h : mat R k = none) (h' : chkM m R) : chkM ((k, o) :: m) R := chkM_iff.2 fun p hp => by
 obtain ⟨ob0, h1, h2⟩ := chkM_iff.1 h' p hp; refine ⟨ob0, ?_, h2⟩; unfold mat
 rw [if_neg fun e => mat_none.1 h p hp e.symm]; exact h1
theorem RC.cb (h : RC L R) (m : Mem) : chkB m R := by
 have h1 := h.nm; clear h
 induction R with
 | nil => trivial
 | cons p r ih =>
  obtain ⟨k, o⟩ := p; exact ⟨List.all_eq_true.2 fun j hj => by simp [h1 _ List.mem_cons_self j hj], ih fun p hp => h1 p (List.mem_cons_of_mem _ hp)⟩
theorem chkK_iff {m m' : Mem} : chkK m m' ↔ ∀ p ∈ m, p.1 < 1000 ∨ (mat m' p.1).isSome = true := by
 induction m with
 | nil => simp [chkK]
 | cons p r ih =>
  obtain ⟨k, o⟩ := p; unfold chkK; rw [ih]; simp
theorem chkK_self (m : Mem) : chkK m m := chkK_iff.2 fun p hp => .inr (Option.isSome_iff_ne_none.2 fun h => mat_none.1 h p hp rfl)
theorem chkK_up {m m' : Mem} {k : Nat} {o : Ob} (h : chkK m m') : chkK m ((k, o) :: m') := chkK_iff.2 fun p hp => (chkK_iff.1 h p hp).imp id fun h1 => by
 unfold mat
 by_cases e : k = p.1
 ·simp [e]
 ·simp only [e, if_false]; exact h1
theorem mdel_no : ∀ {m : Mem} {k : Nat}, mat m k = none → mdel m k = m
 | [], _, _ => rfl
 | (j, o) :: r, k, h => by
  unfold mat at h
  split at h
  ·cases h
  ·rename_i e
   unfold mdel; rw [if_neg e, mdel_no h]
theorem RC.del (h : RC L R) {k : Nat} (hk : k < 1000 ∨ k ∈ L) : mdel R k = R := mdel_no (h.no hk)
end

def tellM : CV → CV → Prop
 | .l f xs, .l f' ys => (f' = true → f = true) ∧ xs = ys
 | .d f T xs, .d f' U ys => (f' = true → f = true) ∧ T = U ∧ xs = ys
 | .nl, .l _ ys => ys = []
 | x, y => x = y
def tellMs : List CV → List CV → Prop
 | [], [] => True
 | x :: r, y :: s => tellM x y ∧ tellMs r s
 | _, _ => False
def tellMA : AV → AV → Prop
 | .c x, .c y => tellM x y
 | .g cs, .g ds => tellMs cs ds
 | _, _ => False
def tellMAs : List AV → List AV → Prop
 | [], [] => True
 | x :: r, y :: s => tellMA x y ∧ tellMAs r s
 | _, _ => False
def begM (al : List SV) (n : Nat) (m : Mem) : AS := ⟨n, fun t => al.getD t .u, m⟩
def endM (P : Program) (rs : List ResultVar) (r : SV) (M : Mem) (e : Exit) (S : AS) : Prop :=
 (match e with | .ret => True | .normal => True | _ => False) ∧ (resKs P S rs fun xs => match xs, r with
  | [x], .c y => tellMA x (.c y)
  | [x], .g ys => tellMA x (.g ys)
  | xs, .t ys => xs.length ≠ 1 ∧ tellMAs xs ys
  | _, _ => False) ∧ chkM S.m M ∧ chkB M M ∧ chkK S.m M ∧ shutB M (nmR r) = true
section
variable {P : Program} {w0 : Beg} {c : Cx} {S : AS} {a : Act} {w : World} {m : Mem}
theorem tellM_rel {v : Value} {x y : CV} (h : RelC c m w v x) (ht : tellM x y) : RelC c m w v y := by
 unfold tellM at ht
 split at ht
 ·obtain ⟨hf, rfl⟩ := ht; exact Rp.le h hf
 ·obtain ⟨hf, rfl, rfl⟩ := ht; exact Rp.le h hf
 ·subst ht; have h : v = .slice none 0 0 := h; rw [h]; exact Rp.of_sl (sz := 1) (by omega) (Sl.nil0 _ _ _)
 ·subst ht; exact h
theorem tellMs_rel : ∀ {vs : List Value} {xs ys : List CV}, F2 (RelC c m w) vs xs → tellMs xs ys → F2 (RelC c m w) vs ys
 | _, [], [], .nil, _ => .nil
 | _, [], _ :: _, .nil, h => h.elim
 | _, _ :: _, [], .cons _ _, h => h.elim
 | _, _ :: _, _ :: _, .cons h1 h2, h => .cons (tellM_rel h1 h.1) (tellMs_rel h2 h.2)
theorem tellMA_rel {v : Value} {x y : AV} (h : RelA c m w v x) (ht : tellMA x y) : RelA c m w v y := by
 unfold tellMA at ht
 split at ht
 ·exact tellM_rel h ht
 ·obtain ⟨vs, e, h⟩ := h; exact ⟨vs, e, tellMs_rel h ht⟩
 ·exact ht.elim
theorem tellMAs_rel : ∀ {vs : List Value} {xs ys : List AV}, F2 (RelA c m w) vs xs → tellMAs xs ys → F2 (RelA c m w) vs ys
 | _, [], [], .nil, _ => .nil
 | _, [], _ :: _, .nil, h => h.elim
 | _, _ :: _, [], .cons _ _, h => h.elim
 | _, _ :: _, _ :: _, .cons h1 h2, h => .cons (tellMA_rel h1 h.1) (tellMAs_rel h2 h.2)
theorem FnM.intro {f : FuncId} {fn : Func} {cd : Code} {al : List SV} {m0 m1 : Mem} {r : SV} (hf : P.funcs[f]? = some fn) (hb : fn.body = some cd) (hn : al.length ≤ fn.ntmps)
  (h : ∀ R, RC (keys m0 ++ keys m1) R → SW P cd (endM P fn.results.toList r (m1 ++ R)) (begM al fn.ntmps (m0 ++ R))) : FnM P f al m0 r m1 := by
 intro R hR w0 c w vs hx hargs; refine calls_of_wp hf hb ?_; have hal := forall2_len hargs; simp only [Array.length_toList] at hal
 have hb0 : RelX w0 c (begM al fn.ntmps (m0 ++ R)) { tmps := vs ++ Array.replicate (fn.ntmps - vs.size) undef, defers := [] } w := by
  refine ⟨hx.n0, hx.ext, rfl, hx.xl, hx.xo, by simp [begM]; omega, fun t ht => ?_, hx.mem, hx.dis⟩
  show RelR c (m0 ++ R) w ((vs ++ Array.replicate (fn.ntmps - vs.size) undef).getD t undef) (al.getD t .u)
  by_cases hlt : t < vs.size
  ·have h1 : (vs ++ Array.replicate (fn.ntmps - vs.size) undef).getD t undef = vs.toList[t]'(by simpa using hlt) := by
    simp [Array.getD, hlt, Nat.lt_add_right _ hlt]
   have h2 : al.getD t .u = al[t]'(by omega) := by simp [List.getD, show t < al.length by omega]
   rw [h1, h2]; exact forall2_get hargs t (by simpa using hlt) (by omega)
  ·have : al.getD t .u = .u := by simp [List.getD, List.getElem?_eq_none (show al.length ≤ t by omega)]
   rw [this]; trivial
 refine wp_mono (h R hR w0 _ w ⟨c, hb0⟩) fun e a' w' ⟨S', ⟨he, hE, hcM, hcB, hcK, hcr⟩, c', hR'⟩ => ?_
 obtain ⟨us, xs, h1, h2, h3⟩ := res_rel (fn := fn) hR' hE; have hm := chkM_at hcM
 have hfin : RelX w0 c' ⟨0, fun _ => .u, m1 ++ R⟩ ⟨#[], []⟩ w' := by
  have h4 : RelX w0 c' ⟨0, fun _ => .u, S'.m⟩ ⟨#[], []⟩ w' := ⟨hR'.n0, hR'.ext, rfl, hR'.xl, hR'.xo, rfl, fun t ht => absurd ht (Nat.not_lt_zero _), hR'.mem, hR'.dis⟩; exact RelX.sub (fun t ht => absurd ht (Nat.not_lt_zero _)) hm (fun t ht => absurd ht (Nat.not_lt_zero _)) (chkB_at hcB) (chkK_at hcK) h4
 have hres0 : RelR c' S'.m w' (oneV us) r := by
  split at h3
  ·cases h2 with
   | cons h2 hn => cases hn; exact tellMA_rel h2 h3
  ·cases h2 with
   | cons h2 hn => cases hn; exact tellMA_rel h2 h3
  ·obtain ⟨hl, h3⟩ := h3; have hul := forall2_len h2; have := tellMAs_rel h2 h3
   match us with
   | [] => exact ⟨_, rfl, by simpa using this⟩
   | [u] => simp only [List.length_cons, List.length_nil] at hul; omega
   | u :: u' :: us => exact ⟨_, rfl, by simpa using this⟩
  ·exact h3.elim
 have hres : RelR c' (m1 ++ R) w' (oneV us) r := RelR.same hm hres0 fun k hk => by
  have h4 := List.all_eq_true.1 hcr k hk; simp only [Bool.or_eq_true, decide_eq_true_eq] at h4; exact Option.isSome_iff_exists.1 (h4.elim (fun h5 => chkK_at hcK k h5 (Option.isSome_iff_exists.2 (nm_there hres0 k hk))) id)
 cases e with
 | ret => exact ⟨hR'.df, _, h1, _, c', rfl, hfin, hres⟩
 | normal => exact ⟨hR'.df, _, h1, _, c', rfl, hfin, hres⟩
 | exit id => exact he.elim
 | goto l => exact he.elim
 | panic ch => exact he.elim
 | outgrown => exact he.elim
theorem FnM.intro' {f : FuncId} {fn : Func} {cd : Code} {al : List SV} {m0 m1 : Mem} {r : SV} (hf : P.funcs[f]? = some fn) (rs : List ResultVar) (n : Nat) (h : ∀ R, RC (keys m0 ++ keys m1) R → SW P cd (endM P rs r (m1 ++ R)) (begM al n (m0 ++ R)))
  (hb : fn.body = some cd := by rfl) (hr : fn.results.toList = rs := by rfl) (hnn : fn.ntmps = n := by rfl) (hn : al.length ≤ n := by simp) : FnM P f al m0 r m1 := FnM.intro hf hb (by rw [hnn]; exact hn) (by rw [hr, hnn]; exact h)
theorem callM_i {f : FuncId} {K : SV → Mem → Prop} {al : List SV} {m0 m1 : Mem} {r : SV} (h : FnM P f al m0 r m1) (k : enterP P f = true ∧ subM m m0 ∧ ((keys m0).all fun k => decide (1000 ≤ k)) = true ∧ newM m (keys m0) (keys m1) ∧ ((al.flatMap nmR).all fun k => decide (k ∈ keys m0)) = true ∧
  ((m0.flatMap fun p => nmO p.2).all fun k => decide (k ∈ keys m0)) = true ∧ ((m1.flatMap fun p => nmO p.2).all fun k => decide (k ∈ keys m1)) = true ∧ ((nmR r).all fun k => decide (k ∈ keys m1)) = true ∧ noIt m ∧ K r (m1 ++ mdelL m (keys m0))) : callM P f m K al :=
 let ⟨k1, k2, k3, k4, k5, k6, k7, k8, k9, k10⟩ := k; ⟨m, m0, r, m1, fun _ => rfl, ⟨k1, h, k2, k3, k4, k5, k6, k7, k8, k9⟩, k10⟩
end

end Go.Proofs.YtbgifiijjjoebaaGreatDoor

namespace Go.Proofs.YtbgifiijjjoebaaGreatDoor
open Go.RowKit

def one (k k' j : Nat) : Nat := if j = k then k' else j
theorem sw_ren {P : Program} {Q : Exit → AS → Prop} {cd : Code} {n : Nat} {f : Nat → SV} {m : Mem} (k k' : Nat) (hk : mat m k' = none) (h : SW P cd Q ⟨n, fun t => rnR (one k k') (f t), rnM (one k k') m⟩) : SW P cd Q ⟨n, f, m⟩ := fun w0 a w ⟨c, hr⟩ =>
 h w0 a w ⟨_, hr.rn (τ := one k' k) fun p hp => by
  have h1 : p.1 ≠ k' := mat_none.1 hk p hp; unfold one
  by_cases e : p.1 = k
  ·simp [e]
  ·simp [e, h1]⟩
theorem sw_restate {P : Program} {Q : Exit → AS → Prop} {cd : Code} {n : Nat} {f : Nat → SV} {m : Mem} (vals : List (Nat × SV)) (m' : Mem) (h : chk n (lst (fun _ => .u) 0 vals) m' ⟨n, f, m⟩) (k : SW P cd Q ⟨n, lst (fun _ => .u) 0 vals, m'⟩) : SW P cd Q ⟨n, f, m⟩ := sw_weak (chk_le h) k
def frC (k : Nat) (fr : Bool) (xs : List (List D)) : CV → CV
 | .r j n => if j = k then (if n = xs.length then .l fr xs else .u) else .r j n
 | x => x
def frA (k : Nat) (fr : Bool) (xs : List (List D)) : AV → AV
 | .c x => .c (frC k fr xs x)
 | .g cs => .g (cs.map (frC k fr xs))
def frR (k : Nat) (fr : Bool) (xs : List (List D)) : SV → SV
 | .c x => .c (frC k fr xs x)
 | .g cs => .g (cs.map (frC k fr xs))
 | .t ys => .t (ys.map (frA k fr xs))
 | .q j n i o => if j = k then .u else .q j n i o
 | x => x
def frO (k : Nat) (fr : Bool) (xs : List (List D)) : Ob → Ob
 | .x cs => .x (cs.map (frC k fr xs))
 | .g vs ys => .g vs (ys.map (frR k fr xs))
 | o => o
def frM (k : Nat) (fr : Bool) (xs : List (List D)) : Mem → Mem
 | [] => []
 | (j, o) :: r => if j = k then frM k fr xs r else (j, frO k fr xs o) :: frM k fr xs r
section
variable {P : Program} {w0 : Beg} {c : Cx} {a : Act} {w : World} {n : Nat} {f : Nat → SV} {m : Mem} {k sz : Nat} {fr : Bool} {T : TypeId} {xs : List (List D)}
theorem mat_frM : ∀ {m : Mem} {j : Nat}, mat (frM k fr xs m) j = if j = k then none else (mat m j).map (frO k fr xs)
 | [], j => by simp [frM, mat]
 | (i, o) :: r, j => by
  have ih := mat_frM (m := r) (j := j)
  have e0 : mat ((i, o) :: r) j = if i = j then some o else mat r j := rfl
  rw [e0]
  by_cases e : i = k
  ·have e1 : frM k fr xs ((i, o) :: r) = frM k fr xs r := if_pos e; rw [e1, ih]
   by_cases e2 : j = k
   ·simp [e2]
   ·rw [if_neg e2, if_neg e2, if_neg fun h => e2 (by rw [← h, e])]
  ·have e1 : frM k fr xs ((i, o) :: r) = (i, frO k fr xs o) :: frM k fr xs r := if_neg e
   have e3 : mat ((i, frO k fr xs o) :: frM k fr xs r) j = if i = j then some (frO k fr xs o) else mat (frM k fr xs r) j := rfl
   rw [e1, e3, ih]
   by_cases e2 : i = j
   ·subst e2; simp [e]
   ·simp only [e2, if_false]
theorem RelX.frz (h : RelX w0 c ⟨n, f, m⟩ a w) (hk : mat m k = some (.r fr sz T xs)) : RelX w0 ⟨c.β, c.ρ, fun b => c.X b ∨ (c.ρ k).ownBlock = some b, c.n0⟩ ⟨n, fun t => frR k fr xs (f t), frM k fr xs m⟩ a w := by
 obtain ⟨c', hc'⟩ : ∃ c' : Cx, c' = ⟨c.β, c.ρ, fun b => c.X b ∨ (c.ρ k).ownBlock = some b, c.n0⟩ := ⟨_, rfl⟩
 have hβ : c'.β = c.β := by rw [hc']
 have hρ : c'.ρ = c.ρ := by rw [hc']
 have hn0 : c'.n0 = c.n0 := by rw [hc']
 have hXX : ∀ b, c'.X b ↔ c.X b ∨ (c.ρ k).ownBlock = some b := fun b => by rw [hc']
 have hY : ∀ {q : Bool} {b : Nat}, c.Y q b → c'.Y q b := fun {q b} hb => ⟨(hXX b).2 (.inl hb.1), fun e => by rw [hn0]; exact hb.2 e⟩
 have hkr := h.mem k _ hk; obtain ⟨h5, h6, h7, h8⟩ := hkr
 have hme : ∀ {j o}, mat m j = some o → j ≠ k → mat (frM k fr xs m) j = some (frO k fr xs o) := fun hj hne => by rw [mat_frM, if_neg hne, hj]; rfl
 have hdat : ∀ {v : Value} {q : Nat}, RelC c m w v (.r k q) → q = xs.length → Rp w (c'.Y fr) v (.l xs) := fun {v q} hx hq => by
  obtain ⟨fr0, sz0, T0, xs0, h1, h2, h3, h4⟩ := hx; rw [hk] at h1
  injection h1 with h1
  injection h1 with e1 e2 e3 e4
  subst e1; subst e2; subst e3; subst e4
  rw [h3 hq]; have hrow := h6.row; obtain ⟨ys, q1, q2⟩ := h6
  rcases q1.2 with ⟨e, hz⟩ | ⟨g, cap', cur, hv, hbg, hg, hnc, hcm, hcs, htake⟩
  ·have : xs = [] := List.eq_nil_of_length_eq_zero hz; subst this; rw [e]; exact Rp.of_sl h5 (Sl.nil0 _ _ _)
  ·rw [hv]; refine Rp.of_sl h5 (Sl.of_flat hnc hcm (Thaw.of_heap hg _ _) (q2.widen fun b hb _ => hY hb.1) fun _ => ⟨g, 0, rfl, ⟨(hXX g).2 (.inr (by rw [hv]; rfl)), fun _ => by rw [hn0]; exact hbg⟩, fun j u hj => ?_⟩); have := q1.cells (g := g) (by rw [hv]; rfl) j u hj
   simpa [Addr.add_lit] using this
 have cvt : ∀ {v : Value} {x : CV}, RelC c m w v x → RelC c' (frM k fr xs m) w v (frC k fr xs x) := fun {v x} hx => by
  have bx : ∀ {j cs}, mat m j = some (.x cs) → ∃ cs', mat (frM k fr xs m) j = some (.x cs') := fun {j cs} hj => ⟨_, hme hj fun e => by subst e; rw [hk] at hj; cases hj⟩
  cases x with
  | p j o => obtain ⟨h1, cs, h2⟩ := hx; exact ⟨by rw [hβ]; exact h1, bx h2⟩
  | r j q =>
   show RelC c' _ w v (if j = k then (if q = xs.length then .l fr xs else .u) else .r j q)
   by_cases e : j = k
   ·rw [if_pos e]
    split
    ·exact hdat (e ▸ hx) ‹_›
    ·exact hx.one
   ·rw [if_neg e]; obtain ⟨fr0, sz0, T0, xs0, h1, h2, h3, h4⟩ := hx; exact ⟨fr0, sz0, T0, xs0, hme h1 e, h2, by rw [hρ]; exact h3, h4⟩
  | l q ys => exact Rp.widen hx fun b hb _ => hY hb
  | d q T ys => exact Rp.widen hx fun b hb _ => hY hb
  | f g ks => obtain ⟨cap, h1, h2⟩ := hx; exact ⟨cap, h1, forall2_mono (fun u p ⟨h3, cs, h4⟩ => ⟨by rw [hβ]; exact h3, bx h4⟩) h2⟩
  | m j =>
   obtain ⟨h1, fr0, kk0, es, h2⟩ := hx; exact ⟨by rw [hβ]; exact h1, fr0, kk0, es, hme h2 fun e => by subst e; rw [hk] at h2; cases h2⟩
  | t j =>
   obtain ⟨h1, fr0, mk, rem, la, h2⟩ := hx; exact ⟨by rw [hβ]; exact h1, fr0, mk, rem, la, hme h2 fun e => by subst e; rw [hk] at h2; cases h2⟩
  | i k n => exact hx
  | b x => exact hx
  | s x => exact hx
  | nl => exact hx
  | np => exact hx
  | u => exact hx
  | nf => exact hx
  | nm => exact hx
 have cvts : ∀ {vs : List Value} {ys : List CV}, F2 (RelC c m w) vs ys → F2 (RelC c' (frM k fr xs m) w) vs (ys.map (frC k fr xs)) := fun h => by
  induction h with
  | nil => exact .nil
  | cons h1 _ ih => exact .cons (cvt h1) ih
 have cvtA : ∀ {v : Value} {x : AV}, RelA c m w v x → RelA c' (frM k fr xs m) w v (frA k fr xs x) := fun {v x} hx => by
  cases x with
  | c x => exact cvt hx
  | g cs => obtain ⟨vs, e, hx⟩ := hx; exact ⟨vs, e, cvts hx⟩
 have cvtR : ∀ {v : Value} {x : SV}, RelR c m w v x → RelR c' (frM k fr xs m) w v (frR k fr xs x) := fun {v x} hx => by
  cases x with
  | c x => exact cvt hx
  | g cs => obtain ⟨vs, e, hx⟩ := hx; exact ⟨vs, e, cvts hx⟩
  | t ys =>
   obtain ⟨vs, e, hx⟩ := hx; refine ⟨vs, e, ?_⟩; clear e; generalize vs.toList = l at hx
   induction hx with
   | nil => exact .nil
   | cons h1 _ ih => exact .cons (cvtA h1) ih
  | u => trivial
  | e q ds =>
   obtain ⟨b, o, h1, h2⟩ := hx; refine ⟨b, o, h1, fun j hj => ?_⟩; obtain ⟨h3, u, h4, h5⟩ := h2 j hj; exact ⟨hY h3, u, h4, h5.widen fun b hb _ => hY hb⟩
  | q j n i o =>
   show RelR c' _ w v (if j = k then .u else .q j n i o)
   by_cases e : j = k
   ·rw [if_pos e]; trivial
   ·rw [if_neg e]; obtain ⟨fr0, sz0, T0, xs0, h1, h2, h3, h4⟩ := hx; exact ⟨fr0, sz0, T0, xs0, hme h1 e, h2, h3, by rw [hρ]; exact h4⟩
 have hinv : ∀ {j o'}, mat (frM k fr xs m) j = some o' → j ≠ k ∧ ∃ o, mat m j = some o ∧ o' = frO k fr xs o := fun {j o'} hj => by
  rw [mat_frM] at hj
  split at hj
  ·cases hj
  ·cases hm : mat m j with
   | none => rw [hm] at hj; cases hj
   | some o => rw [hm] at hj; injection hj with hj; exact ⟨‹_›, o, rfl, hj.symm⟩
 have hblk : ∀ {j o}, blk c' j (frO k fr xs o) = blk c j o := fun {j o} => by cases o <;> simp [blk, frO, hβ, hρ]
 have hXn : ∀ {j o b}, j ≠ k → mat m j = some o → blk c j o = some b → ¬ c'.X b := fun {j o b} hne hj hb hX => by
  rcases (hXX b).1 hX with hX | hX
  ·exact (h.bk hj b hb).2.2 hX
  ·exact h.dis j k o _ hne hj hk b hb hX
 rw [← hc']; refine ⟨hn0.trans h.n0, h.ext, h.df, fun b hb => ?_, fun b hb => ?_, h.sz, fun t ht => cvtR (h.sl t ht), fun j o' hj => ?_, fun j j' o o' hne hj hj' b hb => ?_⟩
 ·exact ((hXX b).1 hb).elim (h.xl b) fun e => (h.bk hk b e).2.1
 ·exact ((hXX b).1 hb).elim (fun hb => by rw [hn0]; exact h.xo b hb) fun e => .inr (by rw [hn0]; exact (h.bk hk b e).1)
 ·obtain ⟨hne, o, hjo, rfl⟩ := hinv hj; have ho := h.mem j o hjo
  have hX := fun b => hXn (b := b) hne hjo
  cases o with
  | x cs =>
   obtain ⟨q1, q2, vs, T', q3, q4⟩ := ho; exact ⟨by rw [hβ, hn0]; exact q1, by rw [hβ]; exact hX _ rfl, vs, T', by rw [hβ]; exact q3, cvts q4⟩
  | r fr' sz' T' ys =>
   obtain ⟨q1, q2, q3, q4⟩ := ho; exact ⟨q1, by rw [hρ, hn0]; exact q2.widen fun b hb _ => hY hb, fun b hb => hX b (by rw [hρ] at hb; exact hb), q4⟩
  | m fr' kk es =>
   obtain ⟨q1, q2, ents, q3, q4, q5, q6⟩ := ho; exact ⟨by rw [hβ, hn0]; exact q1, by rw [hβ]; exact hX _ rfl, ents, by rw [hβ]; exact q3, by rw [hρ]; exact q4, forall2_mono (fun _ _ r => r.widen fun b hb _ => hY hb) q5, q6⟩
  | it fr' mk rem la =>
   obtain ⟨q1, q2, ⟨fr1, kk1, es1, q3⟩, ents, clock, seen, q4, q5, q6, q7⟩ := ho; exact ⟨by rw [hβ, hn0]; exact q1, by rw [hβ]; exact hX _ rfl, ⟨fr1, kk1, es1, hme q3 fun e => by subst e; rw [hk] at q3; cases q3⟩, ents, clock, seen, by rw [hβ]; exact q4, by rw [hρ]; exact q5, forall2_mono (fun _ _ r => r.widen fun b hb _ => hY hb) q6, fun p hp => let ⟨e, he, h9, r⟩ := q7 p hp; ⟨e, he, h9, r.widen fun b hb _ => hY hb⟩⟩
  | g vs ys =>
   show F2 _ _ _
   have ho2 : F2 (RelR c m w) vs ys := ho; clear hj hjo hX ho
   induction ho2 with
   | nil => exact .nil
   | cons h1 _ ih => exact .cons (cvtR h1) ih
 ·obtain ⟨h1, o1, h2, rfl⟩ := hinv hj; obtain ⟨h3, o2, h4, rfl⟩ := hinv hj'; rw [hblk] at hb ⊢; exact h.dis j j' o1 o2 hne h2 h4 b hb
theorem sw_frz {Q : Exit → AS → Prop} {cd : Code} (k : Nat) {sz : Nat} {fr : Bool} {T : TypeId} {xs : List (List D)} (hk : mat m k = some (.r fr sz T xs)) (h : SW P cd Q ⟨n, fun t => frR k fr xs (f t), frM k fr xs m⟩) : SW P cd Q ⟨n, f, m⟩ := fun w0 a w ⟨_, hr⟩ =>
 h w0 a w ⟨_, hr.frz hk⟩
theorem frC_id {x : CV} (h : k ∉ nmC x) : frC k fr xs x = x := by
 cases x with
 | r j q => simp [nmC] at h; simp [frC, Ne.symm h]
 | _ => rfl
theorem mapid_of {α : Type} {F : α → α} {l : List α} (h : ∀ y ∈ l, F y = y) : l.map F = l := by
 induction l with
 | nil => rfl
 | cons a r ih => rw [List.map_cons, h a List.mem_cons_self, ih fun y hy => h y (List.mem_cons_of_mem _ hy)]
theorem frCs_id {l : List CV} (h : k ∉ l.flatMap nmC) : l.map (frC k fr xs) = l := mapid_of fun y hy => frC_id fun h2 => h (List.mem_flatMap.2 ⟨y, hy, h2⟩)
theorem frR_id {x : SV} (h : k ∉ nmR x) : frR k fr xs x = x := by
 have hl : ∀ {l : List CV}, k ∉ l.flatMap nmC → l.map (frC k fr xs) = l := frCs_id
 have hA : ∀ {y : AV}, k ∉ nmA y → frA k fr xs y = y := fun {y} h => by
  cases y with
  | c y => exact congrArg _ (frC_id h)
  | g l => exact congrArg _ (hl h)
 cases x with
 | c x => exact congrArg _ (frC_id h)
 | g l => exact congrArg _ (hl h)
 | t l =>
  exact congrArg _ (mapid_of fun y hy => hA fun h2 => h (List.mem_flatMap.2 ⟨y, hy, h2⟩))
 | q j n i o => simp [nmR] at h; simp [frR, Ne.symm h]
 | u => rfl
 | e => rfl
theorem frO_id {x : Ob} (h : k ∉ nmO x) : frO k fr xs x = x := by
 cases x with
 | x l =>
  exact congrArg _ (frCs_id h)
 | g vs l =>
  exact congrArg _ (mapid_of fun y hy => frR_id fun h2 => h (List.mem_flatMap.2 ⟨y, hy, h2⟩))
 | _ => rfl
theorem RC.frm {L : List Nat} {R : Mem} (h : RC L R) (hk : k < 1000) : frM k fr xs R = R := by
 have h1 : ∀ p ∈ R, p.1 ≠ k ∧ k ∉ nmO p.2 := fun p hp => ⟨mat_none.1 (h.hi k hk) p hp, fun h2 => by have := h.nm p hp k h2; omega⟩
 clear h
 induction R with
 | nil => rfl
 | cons p r ih =>
  obtain ⟨j, o⟩ := p; obtain ⟨h2, h3⟩ := h1 _ List.mem_cons_self; unfold frM; rw [if_neg h2, frO_id h3, ih fun p hp => h1 p (List.mem_cons_of_mem _ hp)]
end

attribute [go_sem] one rnC rnA rnR rnO rnM frC frA frR frO frM tellM tellMs tellMA tellMAs begM endM keys mdel mdelL subM newM noIt isIt nmO shutB chkM_up chkK_self chkK_up
end Go.Proofs.YtbgifiijjjoebaaGreatDoor
