/- The rules by which code is run over states without addresses. No conditions. The elder contracts in the new words: limbs, numbers, parts, terms. No conditions. Contracts of calls that write, out of code. No conditions. Objects under other names; rows that are data from now on. No conditions. A law in the new words, called. No conditions. -/
import Derived.Test.YtpkfjbljhneenaaGreatGDoesBg
import Derived.Test.YtpkfjbljhneenaaGreatGDoesAc
import Derived.IntWalk
namespace Go.Proofs.YtpkfjbljhneenaaGreat
open Go.RowKit

attribute [go_sem] toE endS endSK tellX cvP cvPs opK astep ez evs cRV cCV cCVs cellsOf fset_at mat mset loadK storeK allocK boxK fieldK indexK extractK pickK intK shiftK strK binK unK convK bstrK lenK fillC buildK rowP rowK rowDK srcK appK makeK bndK sliceK snapD snapDs argCs argK argsK callK endR freshC freshA freshR noE thn inB AS.put layC shutB nmR nmC nmA nilK nlC layD toC toR isShift endK resKs resK tellA tellAs tellC tellCs begS AD.rv
theorem follows : Tryz.prog.follows .mixedOrders = true := by kernel_rfl
theorem z_min : IntKind.i64.min = -9223372036854775808 ∧ IntKind.i64.max = 9223372036854775807 ∧ IntKind.u32.min = 0 ∧ IntKind.u32.max = 4294967295 ∧ IntKind.u64.min = 0 ∧ IntKind.u64.max = 18446744073709551615 ∧ IntKind.u8.min = 0 ∧ IntKind.u8.max = 255 ∧ IntKind.i32.min = -2147483648 ∧ IntKind.i32.max = 2147483647 := by decide
attribute [go_sem] z_min
@[go_sem] theorem anK_v (d : Option Nat) (m : Mem) (b : Bool) (K : SV → Mem → Prop) (r : SV) : anK d m b K (.v r) = ((b = true → freshR r = true) ∧ noE r = true ∧ K r m) := rfl
@[go_sem] theorem anK_o (k : Nat) (m : Mem) (b : Bool) (K : SV → Mem → Prop) (fr : Bool) (sz : Nat) (T : TypeId) (xs : List (List D)) : anK (some k) m b K (.o fr sz T xs) = ((b = true → fr = true) ∧ mat m k = none ∧ K (.c (.r k xs.length)) ((k, .r fr sz T xs) :: m)) := rfl
@[go_sem] theorem anK_s (k : Nat) (m : Mem) (b : Bool) (K : SV → Mem → Prop) (cs : List CV) (i : Nat) (fr : Bool) (sz : Nat) (T : TypeId) (xs : List (List D)) : anK (some k) m b K (.s cs i fr sz T xs) = ((b = true → fr = true ∧ cs.all freshC = true) ∧ mat m k = none ∧ K (.g (cs.set i (.r k xs.length))) ((k, .r fr sz T xs) :: m)) := rfl
def HK (N G : AS → Prop) : Prop := ∀ S, G S → N S
section
variable {P : Program} {Q : Exit → AS → Prop} {S : AS}
theorem sw_seqk {x y : Code} (h : ∀ N, HK N (SW P y Q) → SW P x (thn N Q) S) : SW P (.seq x y) Q S := sw_seq (h _ fun _ h => h)
theorem aops_k {ops : Array Oper} {KF : AS → Prop} {o : Oper} {r : List Oper} (h : ∀ N, HK N (aops P ops KF r) → opK P ops o S fun rv m' => N (S.put o.dst rv m')) : aops P ops KF (o :: r) S := h _ fun _ h => h
theorem sw_reg {id : Nat} {l : List Oper} {draw : Bool} (h : aops P l.toArray (Q .normal) l S) (hm : P.follows .mixedOrders = true := by exact follows) (hok : draw = true → regOk P l.toArray = true := by (intro h; first | (cases h; done) | kernel_rfl)) : SW P (.region id l.toArray draw) Q S := sw_region hm hok h
end
theorem sw_ct {P : Program} {Q : Exit → AS → Prop} {S : AS} {c : Operand} {x y : Code} (hc : ez S c = .c (.b true)) (h : SW P x Q S) : SW P (.cond c x y) Q S := sw_cond hc (fun _ => h) fun e => by cases e
theorem sw_cf {P : Program} {Q : Exit → AS → Prop} {S : AS} {c : Operand} {x y : Code} (hc : ez S c = .c (.b false)) (h : SW P y Q S) : SW P (.cond c x y) Q S := sw_cond hc (fun e => by cases e) fun _ => h
theorem hku {N G : AS → Prop} {S : AS} (g : G S) (h : HK N G := by assumption) : N S := h S g
theorem sw_t {P : Program} {Q : Exit → AS → Prop} {S : AS} {c : Operand} {x y : Code} (h : SW P x Q S) (hc : ez S c = .c (.b true) := by rfl) : SW P (.cond c x y) Q S := sw_ct hc h
theorem sw_f {P : Program} {Q : Exit → AS → Prop} {S : AS} {c : Operand} {x y : Code} (h : SW P y Q S) (hc : ez S c = .c (.b false) := by rfl) : SW P (.cond c x y) Q S := sw_cf hc h
def endC : Code → Option Exit
 | .skip => some .normal
 | .exit id => some (.exit id)
 | .ret => some .ret
 | _ => none
theorem sw_e {P : Program} {Q : Exit → AS → Prop} {S : AS} {c : Code} {e : Exit} (h : Q e S) (hc : endC c = some e := by rfl) : SW P c Q S := by
 cases c <;> first | cases hc | skip
 ·exact sw_skip h
 ·exact sw_exit h
 ·exact sw_ret h
theorem ai {a b : Prop} (h : b) (k : a := by first | omega | rfl) : a ∧ b := ⟨k, h⟩
def chkF (f' f : Nat → SV) (m' : Mem) : Nat → Prop
 | 0 => True
 | n + 1 => svLe (f' n) (f n) ∧ shutB m' (nmR (f' n)) = true ∧ chkF f' f m' n
def chkM (m : Mem) : Mem → Prop
 | [] => True
 | (k, ob) :: r => (match mat m k with | some ob0 => obLe ob ob0 | none => False) ∧ chkM m r
def chkB (m : Mem) : Mem → Prop
 | [] => True
 | (_, ob) :: r => shutB m (nmO ob) = true ∧ chkB m r
def chkK : Mem → Mem → Prop
 | [], _ => True
 | (k, _) :: r, m' => (k < 1000 ∨ (mat m' k).isSome = true) ∧ chkK r m'
theorem chkF_at {f' f : Nat → SV} {m' : Mem} : ∀ {n t : Nat}, chkF f' f m' n → t < n → svLe (f' t) (f t) ∧ shutB m' (nmR (f' t)) = true
 | n + 1, t, h, ht => by
  by_cases e : t = n
  ·subst e; exact ⟨h.1, h.2.1⟩
  ·exact chkF_at h.2.2 (by omega)
theorem chkM_at {m : Mem} : ∀ {m' : Mem}, chkM m m' → ∀ k ob, mat m' k = some ob → ∃ ob0, mat m k = some ob0 ∧ obLe ob ob0
 | [], _, k, ob, h => by cases h
 | (j, o) :: r, h, k, ob, hk => by
  unfold mat at hk
  split at hk
  ·rename_i e
   subst e
   injection hk with hk
   subst hk; have h1 := h.1
   split at h1
   ·exact ⟨_, ‹_›, h1⟩
   ·exact h1.elim
  ·exact chkM_at h.2 k ob hk
theorem chkB_at {m : Mem} : ∀ {m' : Mem}, chkB m m' → ∀ k ob, mat m' k = some ob → shutB m (nmO ob) = true
 | [], _, k, ob, h => by cases h
 | (j, o) :: r, h, k, ob, hk => by
  unfold mat at hk
  split at hk
  ·injection hk with hk; subst hk; exact h.1
  ·exact chkB_at h.2 k ob hk
theorem chkK_at : ∀ {m m' : Mem}, chkK m m' → ∀ k, 1000 ≤ k → (mat m k).isSome = true → (mat m' k).isSome = true
 | [], _, _, k, _, h => by cases h
 | (j, o) :: r, m', h, k, hk, hs => by
  unfold mat at hs
  split at hs
  ·rename_i e; subst e; exact h.1.resolve_left (by omega)
  ·exact chkK_at h.2 k hk hs
theorem le_chk {n : Nat} {f f' : Nat → SV} {m m' : Mem} (h : chkF f' f m' n ∧ chkM m m' ∧ chkB m' m' ∧ chkK m m') : Le ⟨n, f', m'⟩ ⟨n, f, m⟩ :=
 le_sub (fun t ht => (chkF_at h.1 ht).1) (chkM_at h.2.1) (fun t ht => (chkF_at h.1 ht).2) (chkB_at h.2.2.1) (chkK_at h.2.2.2)
theorem sw_loopx {P : Program} {Q : Exit → AS → Prop} {S : AS} {c : Code} {α : Type} (st : α → AS) (I : α → Prop) (μ : α → Nat) (x0 : α) (hI : I x0) (h0 : Le (st x0) S) (round : ∀ x, I x → SW P c (thn (fun S2 => ∃ y, (I y ∧ μ y < μ x) ∧ Le (st y) S2) Q) (st x)) : SW P (.loop c) Q S :=
 sw_loop (fun n S1 => ∃ x, I x ∧ n = μ x ∧ S1 = st x) ⟨μ x0, st x0, h0, x0, hI, rfl, rfl⟩ fun n S1 ⟨x, h1, h2, h3⟩ => by
  subst h2; subst h3
  refine sw_mono (round x h1) fun e S' he => ?_
  cases e with
  | normal => obtain ⟨y, ⟨h4, h5⟩, h6⟩ := he; exact ⟨μ y, st y, h5, h6, y, h4, rfl, rfl⟩
  | _ => exact he
def alook : List (Nat × SV) → Nat → Option SV
 | [], _ => none
 | (j, v) :: r, t => if j = t then some v else alook r t
def lst (f : Nat → SV) (lo : Nat) (vals : List (Nat × SV)) (t : Nat) : SV :=
 match alook vals t with
 | some v => v
 | none => if t < lo then f t else .u
def chk (n : Nat) (f' : Nat → SV) (m' : Mem) (S : AS) : Prop := S.n = n ∧ chkF f' S.f m' n ∧ chkM S.m m' ∧ chkB m' m' ∧ chkK S.m m'
theorem chk_le {n : Nat} {f' : Nat → SV} {m' : Mem} {S : AS} (h : chk n f' m' S) : Le ⟨n, f', m'⟩ S := by
 obtain ⟨n', f, m⟩ := S; obtain ⟨h1, h2, h3⟩ := h; have h1 : n' = n := h1; subst h1; exact le_chk ⟨h2, h3⟩
theorem sw_loopw {P : Program} {Q : Exit → AS → Prop} {c : Code} {n : Nat} {f : Nat → SV} {m : Mem} {α : Type} (lo : Nat) (vals : α → List (Nat × SV)) (mem : α → Mem) (I : α → Prop) (μ : α → Nat) (x0 : α) (hI : I x0) (h0 : chk n (lst f lo (vals x0)) (mem x0) ⟨n, f, m⟩)
  (round : ∀ x, I x → SW P c (thn (fun S => ∃ y, I y ∧ μ y < μ x ∧ chk n (lst f lo (vals y)) (mem y) S) Q) ⟨n, lst f lo (vals x), mem x⟩) : SW P (.loop c) Q ⟨n, f, m⟩ :=
 sw_loopx (fun x => ⟨n, lst f lo (vals x), mem x⟩) I μ x0 hI (chk_le h0) fun x hx => sw_mono (round x hx) fun e S' he => by
  cases e with
  | normal => obtain ⟨y, h1, h2, h3⟩ := he; exact ⟨y, ⟨h1, h2⟩, chk_le h3⟩
  | _ => exact he
def ovr (m : Mem) : Mem → Mem
 | [] => m
 | (k, ob) :: r => ovr (mset m k ob) r
theorem sw_loopv {P : Program} {Q : Exit → AS → Prop} {c : Code} {n : Nat} {f : Nat → SV} {m : Mem} {α : Type} (lo : Nat) (vals : α → List (Nat × SV)) (objs : α → Mem) (I : α → Prop) (μ : α → Nat) (x0 : α) (hI : I x0) (h0 : chk n (lst f lo (vals x0)) (ovr m (objs x0)) ⟨n, f, m⟩)
  (round : ∀ x, I x → SW P c (thn (fun S => ∃ y, I y ∧ μ y < μ x ∧ chk n (lst f lo (vals y)) (ovr m (objs y)) S) Q) ⟨n, lst f lo (vals x), ovr m (objs x)⟩) : SW P (.loop c) Q ⟨n, f, m⟩ :=
 sw_loopw lo vals (fun x => ovr m (objs x)) I μ x0 hI h0 round
attribute [go_sem] ovr chkF chkM chkB chkK nmO chk alook lst svLe cvLe cvLes obLe
@[go_sem] theorem maxLen_is : maxLen = 9223372036854775807 := rfl
@[go_sem] theorem int_beq (a b : Int) : (a == b) = decide (a = b) := by by_cases h : a = b <;> simp [h]
@[go_sem] theorem int_bne (a b : Int) : (a != b) = !decide (a = b) := by by_cases h : a = b <;> simp [h]
def dN (l : List Nat) : List (List D) := l.map fun x : Nat => [D.i .u32 (x : Int)]
def dZ (z : Z) : List D := [.b z.neg, .l (dN z.mag)]
attribute [go_sem] dZ
end Go.Proofs.YtpkfjbljhneenaaGreat

namespace Go.Proofs.YtpkfjbljhneenaaGreat
open Go.RowKit

def gZ (f : Bool) (z : Z) : SV := .g [.b z.neg, .l f (dN z.mag)]
def aZ (f : Bool) (z : Z) : AV := .g [.b z.neg, .l f (dN z.mag)]
section
variable {α : Type} {E : World → (Nat → Prop) → List Value → α → Prop} {enc : α → List D} {sz : Nat} {w : World} {X : Nat → Prop} {A : Option Addr} {c : Nat} {l : List α}
theorem Sl.to_enc (hE : ∀ cs a, E w X cs a → ED w X cs (enc a)) (h : Sl sz E w X A c l) : Sl sz ED w X A c (l.map enc) := by
 refine ⟨by simpa using h.1, h.2.1, fun h0 => ?_, by simpa using h.2.2.2⟩; obtain ⟨b, o, h1, h2, h3⟩ := h.2.2.1 (by simpa using h0); refine ⟨b, o, h1, h2, fun i hi => ?_⟩; obtain ⟨cs, q1, q2, q3⟩ := h3 i (by simpa using hi); exact ⟨cs, q1, q2, by rw [List.getElem_map]; exact hE _ _ q3⟩
theorem Sl.of_enc (hE : ∀ cs a, ED w X cs (enc a) → E w X cs a) (h : Sl sz ED w X A c (l.map enc)) : Sl sz E w X A c l := by
 refine ⟨by simpa using h.1, h.2.1, fun h0 => ?_, by simpa using h.2.2.2⟩; obtain ⟨b, o, h1, h2, h3⟩ := h.2.2.1 (by simpa using h0); refine ⟨b, o, h1, h2, fun i hi => ?_⟩; obtain ⟨cs, q1, q2, q3⟩ := h3 i (by simpa using hi); exact ⟨cs, q1, q2, hE _ _ (by rw [List.getElem_map] at q3; exact q3)⟩
theorem Rp.of_enc {v : Value} (hsz : 0 < sz) (hlen : ∀ a, (enc a).length = sz) (hE : ∀ cs a, ED w X cs (enc a) → E w X cs a) (h : Rp w X v (.l (l.map enc))) : ∃ A c, v = .slice A l.length c ∧ Sl sz E w X A c l := by
 obtain ⟨A, c, sz', h0, rfl, hs, hl⟩ := Rp.sl h; refine ⟨A, c, by simp, ?_⟩
 cases l with
 | nil => exact Sl.nil _ _ _ _ hs.2.1
 | cons a r =>
  have : sz' = sz := by rw [← hl (enc a) (by simp), hlen]
  subst this; exact Sl.of_enc hE hs
theorem Rp.to_enc (hsz : 0 < sz) (hE : ∀ cs a, E w X cs a → ED w X cs (enc a)) (h : Sl sz E w X A c l) : Rp w X (.slice A l.length c) (.l (l.map enc)) := by
 have := Rp.of_sl hsz (Sl.to_enc hE h)
 rwa [List.length_map] at this
end
section
variable {P : Program} {w : World} {X : Nat → Prop}
theorem ed_u {cs : List Value} {x : Nat} : ED w X cs [.i .u32 (x : Int)] ↔ EU w X cs x := by
 constructor
 ·intro h
  cases h with
  | cons h1 h2 =>
   cases h2
   cases h1 with
   | i h1 h2 =>
    have h2 := h2; simp only [z_min] at h2; exact ⟨rfl, by omega⟩
 ·rintro ⟨rfl, h⟩; exact .cons (.i (by simp only [z_min]; omega) (by simp only [z_min]; omega)) .nil
theorem rp_n {v : Value} {l : List Nat} : Rp w X v (.l (dN l)) ↔ ∃ A c, v = .slice A l.length c ∧ Nl w X A c l := by
 constructor
 ·exact fun h => Rp.of_enc (sz := 1) (by omega) (fun _ => rfl) (fun _ _ h => ed_u.1 h) h
 ·rintro ⟨A, c, rfl, h⟩; exact Rp.to_enc (by omega) (fun _ _ h => ed_u.2 h) h
theorem ed_z {cs : List Value} {z : Z} : ED w X cs (dZ z) ↔ ∃ A c, cs = [.bool z.neg, .slice A z.mag.length c] ∧ Nl w X A c z.mag := by
 constructor
 ·intro h
  cases h with
  | cons h1 h2 =>
   cases h2 with
   | cons h2 h3 =>
    cases h3
    cases h1
    obtain ⟨A, c, rfl, h⟩ := rp_n.1 h2; exact ⟨A, c, rfl, h⟩
 ·rintro ⟨A, c, rfl, h⟩; exact .cons .b (.cons (rp_n.2 ⟨A, c, rfl, h⟩) .nil)
theorem agg_list {vs : Array Value} {l : List Value} (h : vs.toList = l) : Value.agg vs = .agg l.toArray := by rw [← h]
theorem relD_z {v : Value} {z : Z} : RelD w X v (.g (dZ z)) ↔ Zi w X v z := by
 constructor
 ·rintro ⟨vs, rfl, h⟩; obtain ⟨A, c, e, h⟩ := ed_z.1 h; exact ⟨A, c, agg_list e, h⟩
 ·rintro ⟨A, c, rfl, h⟩; exact ⟨_, rfl, ed_z.2 ⟨A, c, rfl, h⟩⟩
theorem relD_n {v : Value} {l : List Nat} : RelD w X v (.c (.l (dN l))) ↔ ∃ A c, v = .slice A l.length c ∧ Nl w X A c l := rp_n
theorem relD_i {v : Value} {k : IntKind} {n : Int} (h : RelD w X v (.c (.i k n))) : v = .int k n ∧ k.min ≤ n ∧ n ≤ k.max := by
 cases h
 exact ⟨rfl, ‹_›, ‹_›⟩
def cAns (X : Nat → Prop) (w w' : World) : Cx := ⟨fun _ => 0, fun _ => undef, fun b => X b ∨ w.heap.size ≤ b ∧ b < w'.heap.size, w.heap.size⟩
theorem ans_n {w w' : World} {A : Option Addr} {c : Nat} {l : List Nat} (h : Nl w' (w.heap.size ≤ ·) A c l) : RelC (cAns X w w') [] w' (.slice A l.length c) (.l true (dN l)) :=
 rp_n.2 ⟨A, c, rfl, h.widen fun b hb hl => ⟨.inr ⟨hb, hl⟩, fun _ => hb⟩⟩
theorem ans_z {w w' : World} {v : Value} {z : Z} (h : Zi w' (w.heap.size ≤ ·) v z) : RelR (cAns X w w') [] w' v (gZ true z) := by
 obtain ⟨A, c, rfl, h⟩ := h; exact ⟨_, rfl, .cons rfl (.cons (ans_n h) .nil)⟩
theorem ansA_z {w w' : World} {v : Value} {z : Z} (h : Zi w' (w.heap.size ≤ ·) v z) : RelA (cAns X w w') [] w' v (aZ true z) := ans_z h
theorem ok_n {l : List Nat} (h : D.Ok (.l (dN l))) : Lb l := fun x hx => by
 have h := (ok_l.1 h).2 [.i .u32 (x : Int)] (List.mem_map.2 ⟨x, hx, rfl⟩) _ (List.mem_singleton.2 rfl); have h := (ok_i.1 h).2; simp only [z_min] at h
 omega
theorem ok_z {z : Z} (h : ∀ d ∈ dZ z, D.Ok d) : Lb z.mag := ok_n (h _ (by simp [dZ]))
theorem fn1 {f : FuncId} {a : AD} {r : SV} (h : ∀ w X v, RelD w X v a → Calls P f #[v] w fun e w' => ∃ u, e = .returned u ∧ RelR (cAns X w w') [] w' u r ∧ Ext w w') : Fn P f [a] r := fun w X vs _ _ ha => by
 obtain ⟨l, rfl⟩ : ∃ l : List Value, vs = l.toArray := ⟨vs.toList, by simp⟩
 cases ha with
 | cons h1 h2 =>
  cases h2
  exact (h w X _ h1).mono fun e w' ⟨u, h3, h4, h5⟩ => ⟨u, h3, h5, h4⟩
theorem fn2 {f : FuncId} {a b : AD} {r : SV} (h : ∀ w X u v, RelD w X u a → RelD w X v b → Calls P f #[u, v] w fun e w' => ∃ u, e = .returned u ∧ RelR (cAns X w w') [] w' u r ∧ Ext w w') : Fn P f [a, b] r := fun w X vs _ _ ha => by
 obtain ⟨l, rfl⟩ : ∃ l : List Value, vs = l.toArray := ⟨vs.toList, by simp⟩
 cases ha with
 | cons h1 h2 =>
  cases h2 with
  | cons h2 h3 =>
   cases h3
   exact (h w X _ _ h1 h2).mono fun e w' ⟨u, h3, h4, h5⟩ => ⟨u, h3, h5, h4⟩
theorem fn3 {f : FuncId} {a b d : AD} {r : SV} (h : ∀ w X u v z, RelD w X u a → RelD w X v b → RelD w X z d → Calls P f #[u, v, z] w fun e w' => ∃ u, e = .returned u ∧ RelR (cAns X w w') [] w' u r ∧ Ext w w') : Fn P f [a, b, d] r := fun w X vs _ _ ha => by
 obtain ⟨l, rfl⟩ : ∃ l : List Value, vs = l.toArray := ⟨vs.toList, by simp⟩
 cases ha with
 | cons h1 h2 =>
  cases h2 with
  | cons h2 h3 =>
   cases h3 with
   | cons h3 h4 =>
    cases h4
    exact (h w X _ _ _ h1 h2 h3).mono fun e w' ⟨u, h3, h4, h5⟩ => ⟨u, h3, h5, h4⟩
end

attribute [go_sem] gZ aZ
end Go.Proofs.YtpkfjbljhneenaaGreat

namespace Go.Proofs.YtpkfjbljhneenaaGreat
open Go.RowKit

theorem obLe_refl (x : Ob) : obLe x x := by
 have h1 : ∀ x : CV, cvLe x x := fun x => by cases x <;> simp [cvLe]
 have h2 : ∀ l : List CV, cvLes l l := fun l => by
  induction l with
  | nil => trivial
  | cons x r ih => exact ⟨h1 x, ih⟩
 cases x with
 | x cs => exact h2 cs
 | r fr sz T xs => exact ⟨id, rfl, rfl, rfl⟩
 | m fr kk es => exact ⟨id, rfl, rfl⟩
 | it fr k rem la => exact ⟨id, rfl, rfl, rfl⟩
 | g vs xs => exact ⟨rfl, rfl⟩
theorem chkM_iff {m : Mem} : ∀ {m' : Mem}, chkM m m' ↔ ∀ p ∈ m', ∃ ob0, mat m p.1 = some ob0 ∧ obLe p.2 ob0
 | [] => by simp [chkM]
 | (k, ob) :: r => by
  unfold chkM; rw [chkM_iff (m' := r)]
  constructor
  ·rintro ⟨h1, h2⟩ p hp
   rcases List.mem_cons.1 hp with rfl | hp
   ·split at h1
    ·exact ⟨_, ‹_›, h1⟩
    ·exact h1.elim
   ·exact h2 p hp
  ·intro h; refine ⟨?_, fun p hp => h p (List.mem_cons_of_mem _ hp)⟩; obtain ⟨ob0, h1, h2⟩ := h _ List.mem_cons_self; simp only at h1 h2
   rw [h1]; exact h2
theorem mat_nodup : ∀ {m : Mem}, (m.map Prod.fst).Nodup → ∀ p ∈ m, mat m p.1 = some p.2
 | (k, ob) :: r, h, p, hp => by
  rw [List.map_cons, List.nodup_cons] at h
  rcases List.mem_cons.1 hp with rfl | hp
  ·simp [mat]
  ·unfold mat; rw [if_neg fun e => h.1 (by rw [e]; exact List.mem_map.2 ⟨p, hp, rfl⟩)]; exact mat_nodup h.2 p hp
section
variable {L : List Nat} {R : Mem}
theorem RC.no (h : RC L R) {k : Nat} (hk : k < 1000 ∨ k ∈ L) : mat R k = none := hk.elim (h.hi k) (h.off k)
theorem RC.cm (h : RC L R) : chkM R R := chkM_iff.2 fun p hp => ⟨p.2, mat_nodup h.nd p hp, obLe_refl _⟩
theorem chkM_up {m : Mem} {k : Nat} {o : Ob} (h : mat R k = none) (h' : chkM m R) : chkM ((k, o) :: m) R := chkM_iff.2 fun p hp => by
 obtain ⟨ob0, h1, h2⟩ := chkM_iff.1 h' p hp; refine ⟨ob0, ?_, h2⟩; unfold mat
 rw [if_neg fun e => mat_none.1 h p hp e.symm]; exact h1
theorem RC.cb (h : RC L R) (m : Mem) : chkB m R := by
 have h1 := h.nm; clear h
 induction R with
 | nil => trivial
 | cons p r ih =>
  obtain ⟨k, o⟩ := p; exact ⟨List.all_eq_true.2 fun j hj => by simp [h1 _ List.mem_cons_self j hj], ih fun p hp => h1 p (List.mem_cons_of_mem _ hp)⟩
theorem chkK_iff {m m' : Mem} : chkK m m' ↔ ∀ p ∈ m, p.1 < 1000 ∨ (mat m' p.1).isSome = true := by
 induction m with
 | nil => simp [chkK]
 | cons p r ih =>
  obtain ⟨k, o⟩ := p; unfold chkK; rw [ih]; simp
theorem chkK_self (m : Mem) : chkK m m := chkK_iff.2 fun p hp => .inr (Option.isSome_iff_ne_none.2 fun h => mat_none.1 h p hp rfl)
theorem chkK_up {m m' : Mem} {k : Nat} {o : Ob} (h : chkK m m') : chkK m ((k, o) :: m') := chkK_iff.2 fun p hp => (chkK_iff.1 h p hp).imp id fun h1 => by
 unfold mat
 by_cases e : k = p.1
 ·simp [e]
 ·simp only [e, if_false]; exact h1
end

def tellM : CV → CV → Prop
 | .l f xs, .l f' ys => (f' = true → f = true) ∧ xs = ys
 | .d f T xs, .d f' U ys => (f' = true → f = true) ∧ T = U ∧ xs = ys
 | .nl, .l _ ys => ys = []
 | x, y => x = y
def tellMs : List CV → List CV → Prop
 | [], [] => True
 | x :: r, y :: s => tellM x y ∧ tellMs r s
 | _, _ => False
def tellMA : AV → AV → Prop
 | .c x, .c y => tellM x y
 | .g cs, .g ds => tellMs cs ds
 | _, _ => False
def tellMAs : List AV → List AV → Prop
 | [], [] => True
 | x :: r, y :: s => tellMA x y ∧ tellMAs r s
 | _, _ => False
def begM (al : List SV) (n : Nat) (m : Mem) : AS := ⟨n, fun t => al.getD t .u, m⟩
def endM (P : Program) (rs : List ResultVar) (r : SV) (M : Mem) (e : Exit) (S : AS) : Prop :=
 (match e with | .ret => True | .normal => True | _ => False) ∧ (resKs P S rs fun xs => match xs, r with
  | [x], .c y => tellMA x (.c y)
  | [x], .g ys => tellMA x (.g ys)
  | xs, .t ys => xs.length ≠ 1 ∧ tellMAs xs ys
  | _, _ => False) ∧ chkM S.m M ∧ chkB M M ∧ chkK S.m M ∧ shutB M (nmR r) = true
section
variable {P : Program} {w0 : Beg} {c : Cx} {S : AS} {a : Act} {w : World} {m : Mem}
theorem tellM_rel {v : Value} {x y : CV} (h : RelC c m w v x) (ht : tellM x y) : RelC c m w v y := by
 unfold tellM at ht
 split at ht
 ·obtain ⟨hf, rfl⟩ := ht; exact Rp.le h hf
 ·obtain ⟨hf, rfl, rfl⟩ := ht; exact Rp.le h hf
 ·subst ht; have h : v = .slice none 0 0 := h; rw [h]; exact Rp.of_sl (sz := 1) (by omega) (Sl.nil0 _ _ _)
 ·subst ht; exact h
theorem tellMs_rel : ∀ {vs : List Value} {xs ys : List CV}, F2 (RelC c m w) vs xs → tellMs xs ys → F2 (RelC c m w) vs ys
 | _, [], [], .nil, _ => .nil
 | _, [], _ :: _, .nil, h => h.elim
 | _, _ :: _, [], .cons _ _, h => h.elim
 | _, _ :: _, _ :: _, .cons h1 h2, h => .cons (tellM_rel h1 h.1) (tellMs_rel h2 h.2)
theorem tellMA_rel {v : Value} {x y : AV} (h : RelA c m w v x) (ht : tellMA x y) : RelA c m w v y := by
 unfold tellMA at ht
 split at ht
 ·exact tellM_rel h ht
 ·obtain ⟨vs, e, h⟩ := h; exact ⟨vs, e, tellMs_rel h ht⟩
 ·exact ht.elim
theorem tellMAs_rel : ∀ {vs : List Value} {xs ys : List AV}, F2 (RelA c m w) vs xs → tellMAs xs ys → F2 (RelA c m w) vs ys
 | _, [], [], .nil, _ => .nil
 | _, [], _ :: _, .nil, h => h.elim
 | _, _ :: _, [], .cons _ _, h => h.elim
 | _, _ :: _, _ :: _, .cons h1 h2, h => .cons (tellMA_rel h1 h.1) (tellMAs_rel h2 h.2)
theorem FnM.intro {f : FuncId} {fn : Func} {cd : Code} {al : List SV} {m0 m1 : Mem} {r : SV} (hf : P.funcs[f]? = some fn) (hb : fn.body = some cd) (hn : al.length ≤ fn.ntmps)
  (h : ∀ R, RC (keys m0 ++ keys m1) R → SW P cd (endM P fn.results.toList r (m1 ++ R)) (begM al fn.ntmps (m0 ++ R))) : FnM P f al m0 r m1 := by
 intro R hR w0 c w vs hx hargs; refine calls_of_wp hf hb ?_; have hal := forall2_len hargs; simp only [Array.length_toList] at hal
 have hb0 : RelX w0 c (begM al fn.ntmps (m0 ++ R)) { tmps := vs ++ Array.replicate (fn.ntmps - vs.size) undef, defers := [] } w := by
  refine ⟨hx.n0, hx.ext, rfl, hx.xl, hx.xo, by simp [begM]; omega, fun t ht => ?_, hx.mem, hx.dis⟩
  show RelR c (m0 ++ R) w ((vs ++ Array.replicate (fn.ntmps - vs.size) undef).getD t undef) (al.getD t .u)
  by_cases hlt : t < vs.size
  ·have h1 : (vs ++ Array.replicate (fn.ntmps - vs.size) undef).getD t undef = vs.toList[t]'(by simpa using hlt) := by
    simp [Array.getD, Array.getElem_append, hlt, Nat.lt_add_right _ hlt]
   have h2 : al.getD t .u = al[t]'(by omega) := by simp [List.getD, show t < al.length by omega]
   rw [h1, h2]; exact forall2_get hargs t (by simpa using hlt) (by omega)
  ·have : al.getD t .u = .u := by simp [List.getD, List.getElem?_eq_none (show al.length ≤ t by omega)]
   rw [this]; trivial
 refine wp_mono (h R hR w0 _ w ⟨c, hb0⟩) fun e a' w' ⟨S', ⟨he, hE, hcM, hcB, hcK, hcr⟩, c', hR'⟩ => ?_
 obtain ⟨us, xs, h1, h2, h3⟩ := res_rel (fn := fn) hR' hE; have hm := chkM_at hcM
 have hfin : RelX w0 c' ⟨0, fun _ => .u, m1 ++ R⟩ ⟨#[], []⟩ w' := by
  have h4 : RelX w0 c' ⟨0, fun _ => .u, S'.m⟩ ⟨#[], []⟩ w' := ⟨hR'.n0, hR'.ext, rfl, hR'.xl, hR'.xo, rfl, fun t ht => absurd ht (Nat.not_lt_zero _), hR'.mem, hR'.dis⟩; exact RelX.sub (fun t ht => absurd ht (Nat.not_lt_zero _)) hm (fun t ht => absurd ht (Nat.not_lt_zero _)) (chkB_at hcB) (chkK_at hcK) h4
 have hres0 : RelR c' S'.m w' (oneV us) r := by
  split at h3
  ·cases h2 with
   | cons h2 hn => cases hn; exact tellMA_rel h2 h3
  ·cases h2 with
   | cons h2 hn => cases hn; exact tellMA_rel h2 h3
  ·obtain ⟨hl, h3⟩ := h3; have hul := forall2_len h2; have := tellMAs_rel h2 h3
   match us with
   | [] => exact ⟨_, rfl, by simpa using this⟩
   | [u] => simp only [List.length_cons, List.length_nil] at hul; omega
   | u :: u' :: us => exact ⟨_, rfl, by simpa using this⟩
  ·exact h3.elim
 have hres : RelR c' (m1 ++ R) w' (oneV us) r := RelR.same hm hres0 fun k hk => by
  have h4 := List.all_eq_true.1 hcr k hk; simp only [Bool.or_eq_true, decide_eq_true_eq] at h4; exact Option.isSome_iff_exists.1 (h4.elim (fun h5 => chkK_at hcK k h5 (Option.isSome_iff_exists.2 (nm_there hres0 k hk))) id)
 cases e with
 | ret => exact ⟨hR'.df, _, h1, _, c', rfl, hfin, hres⟩
 | normal => exact ⟨hR'.df, _, h1, _, c', rfl, hfin, hres⟩
 | exit id => exact he.elim
 | goto l => exact he.elim
 | panic ch => exact he.elim
 | outgrown => exact he.elim
theorem FnM.intro' {f : FuncId} {fn : Func} {cd : Code} {al : List SV} {m0 m1 : Mem} {r : SV} (hf : P.funcs[f]? = some fn) (rs : List ResultVar) (n : Nat) (h : ∀ R, RC (keys m0 ++ keys m1) R → SW P cd (endM P rs r (m1 ++ R)) (begM al n (m0 ++ R)))
  (hb : fn.body = some cd := by rfl) (hr : fn.results.toList = rs := by rfl) (hnn : fn.ntmps = n := by rfl) (hn : al.length ≤ n := by simp) : FnM P f al m0 r m1 := FnM.intro hf hb (by rw [hnn]; exact hn) (by rw [hr, hnn]; exact h)
theorem callM_i {f : FuncId} {K : SV → Mem → Prop} {al : List SV} {m0 m1 : Mem} {r : SV} (h : FnM P f al m0 r m1) (k : enterP P f = true ∧ subM m m0 ∧ ((keys m0).all fun k => decide (1000 ≤ k)) = true ∧ newM m (keys m0) (keys m1) ∧ ((al.flatMap nmR).all fun k => decide (k ∈ keys m0)) = true ∧
  ((m0.flatMap fun p => nmO p.2).all fun k => decide (k ∈ keys m0)) = true ∧ ((m1.flatMap fun p => nmO p.2).all fun k => decide (k ∈ keys m1)) = true ∧ ((nmR r).all fun k => decide (k ∈ keys m1)) = true ∧ noIt m ∧ K r (m1 ++ mdelL m (keys m0))) : callM P f m K al :=
 ⟨m, fun _ => rfl, k.1, m0, r, m1, h, k.2⟩
end

end Go.Proofs.YtpkfjbljhneenaaGreat

namespace Go.Proofs.YtpkfjbljhneenaaGreat
open Go.RowKit

def one (k k' j : Nat) : Nat := if j = k then k' else j
theorem sw_ren {P : Program} {Q : Exit → AS → Prop} {cd : Code} {n : Nat} {f : Nat → SV} {m : Mem} (k k' : Nat) (hk : mat m k' = none) (h : SW P cd Q ⟨n, fun t => rnR (one k k') (f t), rnM (one k k') m⟩) : SW P cd Q ⟨n, f, m⟩ := fun w0 a w ⟨c, hr⟩ =>
 h w0 a w ⟨_, hr.rn (τ := one k' k) fun p hp => by
  have h1 : p.1 ≠ k' := mat_none.1 hk p hp; unfold one
  by_cases e : p.1 = k
  ·simp [e]
  ·simp [e, h1]⟩
theorem sw_restate {P : Program} {Q : Exit → AS → Prop} {cd : Code} {n : Nat} {f : Nat → SV} {m : Mem} (vals : List (Nat × SV)) (m' : Mem) (h : chk n (lst (fun _ => .u) 0 vals) m' ⟨n, f, m⟩) (k : SW P cd Q ⟨n, lst (fun _ => .u) 0 vals, m'⟩) : SW P cd Q ⟨n, f, m⟩ := sw_weak (chk_le h) k
def frC (k : Nat) (fr : Bool) (xs : List (List D)) : CV → CV
 | .r j n => if j = k then (if n = xs.length then .l fr xs else .u) else .r j n
 | x => x
def frA (k : Nat) (fr : Bool) (xs : List (List D)) : AV → AV
 | .c x => .c (frC k fr xs x)
 | .g cs => .g (cs.map (frC k fr xs))
def frR (k : Nat) (fr : Bool) (xs : List (List D)) : SV → SV
 | .c x => .c (frC k fr xs x)
 | .g cs => .g (cs.map (frC k fr xs))
 | .t ys => .t (ys.map (frA k fr xs))
 | .q j n i o => if j = k then .u else .q j n i o
 | x => x
def frO (k : Nat) (fr : Bool) (xs : List (List D)) : Ob → Ob
 | .x cs => .x (cs.map (frC k fr xs))
 | .g vs ys => .g vs (ys.map (frR k fr xs))
 | o => o
def frM (k : Nat) (fr : Bool) (xs : List (List D)) : Mem → Mem
 | [] => []
 | (j, o) :: r => if j = k then frM k fr xs r else (j, frO k fr xs o) :: frM k fr xs r
section
variable {P : Program} {w0 : Beg} {c : Cx} {a : Act} {w : World} {n : Nat} {f : Nat → SV} {m : Mem} {k sz : Nat} {fr : Bool} {T : TypeId} {xs : List (List D)}
theorem mat_frM : ∀ {m : Mem} {j : Nat}, mat (frM k fr xs m) j = if j = k then none else (mat m j).map (frO k fr xs)
 | [], j => by simp [frM, mat]
 | (i, o) :: r, j => by
  have ih := mat_frM (m := r) (j := j)
  have e0 : mat ((i, o) :: r) j = if i = j then some o else mat r j := rfl
  rw [e0]
  by_cases e : i = k
  ·have e1 : frM k fr xs ((i, o) :: r) = frM k fr xs r := if_pos e; rw [e1, ih]
   by_cases e2 : j = k
   ·simp [e2]
   ·rw [if_neg e2, if_neg e2, if_neg fun h => e2 (by rw [← h, e])]
  ·have e1 : frM k fr xs ((i, o) :: r) = (i, frO k fr xs o) :: frM k fr xs r := if_neg e
   have e3 : mat ((i, frO k fr xs o) :: frM k fr xs r) j = if i = j then some (frO k fr xs o) else mat (frM k fr xs r) j := rfl
   rw [e1, e3, ih]
   by_cases e2 : i = j
   ·subst e2; simp [e]
   ·simp only [e2, if_false]
theorem RelX.frz (h : RelX w0 c ⟨n, f, m⟩ a w) (hk : mat m k = some (.r fr sz T xs)) : RelX w0 ⟨c.β, c.ρ, fun b => c.X b ∨ (c.ρ k).ownBlock = some b, c.n0⟩ ⟨n, fun t => frR k fr xs (f t), frM k fr xs m⟩ a w := by
 obtain ⟨c', hc'⟩ : ∃ c' : Cx, c' = ⟨c.β, c.ρ, fun b => c.X b ∨ (c.ρ k).ownBlock = some b, c.n0⟩ := ⟨_, rfl⟩
 have hβ : c'.β = c.β := by rw [hc']
 have hρ : c'.ρ = c.ρ := by rw [hc']
 have hn0 : c'.n0 = c.n0 := by rw [hc']
 have hXX : ∀ b, c'.X b ↔ c.X b ∨ (c.ρ k).ownBlock = some b := fun b => by rw [hc']
 have hY : ∀ {q : Bool} {b : Nat}, c.Y q b → c'.Y q b := fun {q b} hb => ⟨(hXX b).2 (.inl hb.1), fun e => by rw [hn0]; exact hb.2 e⟩
 have hkr := h.mem k _ hk; obtain ⟨h5, h6, h7, h8⟩ := hkr
 have hme : ∀ {j o}, mat m j = some o → j ≠ k → mat (frM k fr xs m) j = some (frO k fr xs o) := fun hj hne => by rw [mat_frM, if_neg hne, hj]; rfl
 have hdat : ∀ {v : Value} {q : Nat}, RelC c m w v (.r k q) → q = xs.length → Rp w (c'.Y fr) v (.l xs) := fun {v q} hx hq => by
  obtain ⟨fr0, sz0, T0, xs0, h1, h2, h3, h4⟩ := hx; rw [hk] at h1
  injection h1 with h1
  injection h1 with e1 e2 e3 e4
  subst e1; subst e2; subst e3; subst e4
  rw [h3 hq]; have hrow := h6.row; obtain ⟨ys, q1, q2⟩ := h6
  rcases q1.2 with ⟨e, hz⟩ | ⟨g, cap', cur, hv, hbg, hg, hnc, hcm, hcs, htake⟩
  ·have : xs = [] := List.eq_nil_of_length_eq_zero hz; subst this; rw [e]; exact Rp.of_sl h5 (Sl.nil0 _ _ _)
  ·rw [hv]; refine Rp.of_sl h5 (Sl.of_flat hnc hcm (Thaw.of_heap hg _ _) (q2.widen fun b hb _ => hY hb.1) fun _ => ⟨g, 0, rfl, ⟨(hXX g).2 (.inr (by rw [hv]; rfl)), fun _ => by rw [hn0]; exact hbg⟩, fun j u hj => ?_⟩); have := q1.cells (g := g) (by rw [hv]; rfl) j u hj
   simpa [Addr.add_lit] using this
 have cvt : ∀ {v : Value} {x : CV}, RelC c m w v x → RelC c' (frM k fr xs m) w v (frC k fr xs x) := fun {v x} hx => by
  have bx : ∀ {j cs}, mat m j = some (.x cs) → ∃ cs', mat (frM k fr xs m) j = some (.x cs') := fun {j cs} hj => ⟨_, hme hj fun e => by subst e; rw [hk] at hj; cases hj⟩
  cases x with
  | p j o => obtain ⟨h1, cs, h2⟩ := hx; exact ⟨by rw [hβ]; exact h1, bx h2⟩
  | r j q =>
   show RelC c' _ w v (if j = k then (if q = xs.length then .l fr xs else .u) else .r j q)
   by_cases e : j = k
   ·rw [if_pos e]
    split
    ·exact hdat (e ▸ hx) ‹_›
    ·exact hx.one
   ·rw [if_neg e]; obtain ⟨fr0, sz0, T0, xs0, h1, h2, h3, h4⟩ := hx; exact ⟨fr0, sz0, T0, xs0, hme h1 e, h2, by rw [hρ]; exact h3, h4⟩
  | l q ys => exact Rp.widen hx fun b hb _ => hY hb
  | d q T ys => exact Rp.widen hx fun b hb _ => hY hb
  | f g ks => obtain ⟨cap, h1, h2⟩ := hx; exact ⟨cap, h1, forall2_mono (fun u p ⟨h3, cs, h4⟩ => ⟨by rw [hβ]; exact h3, bx h4⟩) h2⟩
  | m j =>
   obtain ⟨h1, fr0, kk0, es, h2⟩ := hx; exact ⟨by rw [hβ]; exact h1, fr0, kk0, es, hme h2 fun e => by subst e; rw [hk] at h2; cases h2⟩
  | t j =>
   obtain ⟨h1, fr0, mk, rem, la, h2⟩ := hx; exact ⟨by rw [hβ]; exact h1, fr0, mk, rem, la, hme h2 fun e => by subst e; rw [hk] at h2; cases h2⟩
  | i k n => exact hx
  | b x => exact hx
  | s x => exact hx
  | nl => exact hx
  | np => exact hx
  | u => exact hx
  | nf => exact hx
  | nm => exact hx
 have cvts : ∀ {vs : List Value} {ys : List CV}, F2 (RelC c m w) vs ys → F2 (RelC c' (frM k fr xs m) w) vs (ys.map (frC k fr xs)) := fun h => by
  induction h with
  | nil => exact .nil
  | cons h1 _ ih => exact .cons (cvt h1) ih
 have cvtA : ∀ {v : Value} {x : AV}, RelA c m w v x → RelA c' (frM k fr xs m) w v (frA k fr xs x) := fun {v x} hx => by
  cases x with
  | c x => exact cvt hx
  | g cs => obtain ⟨vs, e, hx⟩ := hx; exact ⟨vs, e, cvts hx⟩
 have cvtR : ∀ {v : Value} {x : SV}, RelR c m w v x → RelR c' (frM k fr xs m) w v (frR k fr xs x) := fun {v x} hx => by
  cases x with
  | c x => exact cvt hx
  | g cs => obtain ⟨vs, e, hx⟩ := hx; exact ⟨vs, e, cvts hx⟩
  | t ys =>
   obtain ⟨vs, e, hx⟩ := hx; refine ⟨vs, e, ?_⟩; clear e; generalize vs.toList = l at hx
   induction hx with
   | nil => exact .nil
   | cons h1 _ ih => exact .cons (cvtA h1) ih
  | u => trivial
  | e q ds =>
   obtain ⟨b, o, h1, h2⟩ := hx; refine ⟨b, o, h1, fun j hj => ?_⟩; obtain ⟨h3, u, h4, h5⟩ := h2 j hj; exact ⟨hY h3, u, h4, h5.widen fun b hb _ => hY hb⟩
  | q j n i o =>
   show RelR c' _ w v (if j = k then .u else .q j n i o)
   by_cases e : j = k
   ·rw [if_pos e]; trivial
   ·rw [if_neg e]; obtain ⟨fr0, sz0, T0, xs0, h1, h2, h3, h4⟩ := hx; exact ⟨fr0, sz0, T0, xs0, hme h1 e, h2, h3, by rw [hρ]; exact h4⟩
 have hinv : ∀ {j o'}, mat (frM k fr xs m) j = some o' → j ≠ k ∧ ∃ o, mat m j = some o ∧ o' = frO k fr xs o := fun {j o'} hj => by
  rw [mat_frM] at hj
  split at hj
  ·cases hj
  ·cases hm : mat m j with
   | none => rw [hm] at hj; cases hj
   | some o => rw [hm] at hj; injection hj with hj; exact ⟨‹_›, o, rfl, hj.symm⟩
 have hblk : ∀ {j o}, blk c' j (frO k fr xs o) = blk c j o := fun {j o} => by cases o <;> simp [blk, frO, hβ, hρ]
 have hXn : ∀ {j o b}, j ≠ k → mat m j = some o → blk c j o = some b → ¬ c'.X b := fun {j o b} hne hj hb hX => by
  rcases (hXX b).1 hX with hX | hX
  ·exact (h.bk hj b hb).2.2 hX
  ·exact h.dis j k o _ hne hj hk b hb hX
 rw [← hc']; refine ⟨hn0.trans h.n0, h.ext, h.df, fun b hb => ?_, fun b hb => ?_, h.sz, fun t ht => cvtR (h.sl t ht), fun j o' hj => ?_, fun j j' o o' hne hj hj' b hb => ?_⟩
 ·exact ((hXX b).1 hb).elim (h.xl b) fun e => (h.bk hk b e).2.1
 ·exact ((hXX b).1 hb).elim (fun hb => by rw [hn0]; exact h.xo b hb) fun e => .inr (by rw [hn0]; exact (h.bk hk b e).1)
 ·obtain ⟨hne, o, hjo, rfl⟩ := hinv hj; have ho := h.mem j o hjo
  have hX := fun b => hXn (b := b) hne hjo
  cases o with
  | x cs =>
   obtain ⟨q1, q2, vs, T', q3, q4⟩ := ho; exact ⟨by rw [hβ, hn0]; exact q1, by rw [hβ]; exact hX _ rfl, vs, T', by rw [hβ]; exact q3, cvts q4⟩
  | r fr' sz' T' ys =>
   obtain ⟨q1, q2, q3, q4⟩ := ho; exact ⟨q1, by rw [hρ, hn0]; exact q2.widen fun b hb _ => hY hb, fun b hb => hX b (by rw [hρ] at hb; exact hb), q4⟩
  | m fr' kk es =>
   obtain ⟨q1, q2, ents, q3, q4, q5, q6⟩ := ho; exact ⟨by rw [hβ, hn0]; exact q1, by rw [hβ]; exact hX _ rfl, ents, by rw [hβ]; exact q3, by rw [hρ]; exact q4, forall2_mono (fun _ _ r => r.widen fun b hb _ => hY hb) q5, q6⟩
  | it fr' mk rem la =>
   obtain ⟨q1, q2, ⟨fr1, kk1, es1, q3⟩, ents, clock, seen, q4, q5, q6, q7⟩ := ho; exact ⟨by rw [hβ, hn0]; exact q1, by rw [hβ]; exact hX _ rfl, ⟨fr1, kk1, es1, hme q3 fun e => by subst e; rw [hk] at q3; cases q3⟩, ents, clock, seen, by rw [hβ]; exact q4, by rw [hρ]; exact q5, forall2_mono (fun _ _ r => r.widen fun b hb _ => hY hb) q6, fun p hp => let ⟨e, he, h9, r⟩ := q7 p hp; ⟨e, he, h9, r.widen fun b hb _ => hY hb⟩⟩
  | g vs ys =>
   show F2 _ _ _
   have ho2 : F2 (RelR c m w) vs ys := ho; clear hj hjo hX ho
   induction ho2 with
   | nil => exact .nil
   | cons h1 _ ih => exact .cons (cvtR h1) ih
 ·obtain ⟨h1, o1, h2, rfl⟩ := hinv hj; obtain ⟨h3, o2, h4, rfl⟩ := hinv hj'; rw [hblk] at hb ⊢; exact h.dis j j' o1 o2 hne h2 h4 b hb
theorem sw_frz {Q : Exit → AS → Prop} {cd : Code} (k : Nat) {sz : Nat} {fr : Bool} {T : TypeId} {xs : List (List D)} (hk : mat m k = some (.r fr sz T xs)) (h : SW P cd Q ⟨n, fun t => frR k fr xs (f t), frM k fr xs m⟩) : SW P cd Q ⟨n, f, m⟩ := fun w0 a w ⟨c, hr⟩ =>
 h w0 a w ⟨_, hr.frz hk⟩
end

attribute [go_sem] one rnC rnA rnR rnO rnM frC frA frR frO frM tellM tellMs tellMA tellMAs begM endM keys mdel mdelL subM newM noIt isIt nmO shutB chkM_up chkK_self chkK_up
end Go.Proofs.YtpkfjbljhneenaaGreat

namespace Go.Proofs.YtpkfjbljhneenaaGreat
open Go.RowKit

theorem RelD.all {w : World} {X : Nat → Prop} {v : Value} {d : AD} (h : RelD w X v d) : RelD w (· < w.heap.size) v d := by
 cases d with
 | c d => exact Rp.widen h fun b _ hb => hb
 | g ds =>
  obtain ⟨vs, e, h⟩ := h; exact ⟨vs, e, forall2_mono (fun _ _ h => Rp.widen h fun b _ hb => hb) h⟩
theorem law_of {P : Program} {f : FuncId} {w : World} {ads : List AD} {vs : List Value} (h : Fn P f ads (.c (.b true))) (hl : Lay w) (ha : F2 (fun v d => ∃ X, RelD w X v d) vs ads) : Calls P f vs.toArray w fun e w' => e = .returned (.bool true) ∧ Ext w w' :=
 (h w (· < w.heap.size) vs.toArray hl (fun _ h => h) (by rw [List.toList_toArray]; exact forall2_mono (fun _ _ ⟨_, h⟩ => h.all) ha)).mono fun _ _ ⟨v, e, hx, hr⟩ => ⟨by rw [e]; exact congrArg _ hr, hx⟩
end Go.Proofs.YtpkfjbljhneenaaGreat
