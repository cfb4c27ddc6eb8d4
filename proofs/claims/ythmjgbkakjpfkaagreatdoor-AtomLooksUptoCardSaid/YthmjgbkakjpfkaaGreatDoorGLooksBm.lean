/- The rules by which code is run over states without addresses. No conditions. The elder contracts in the new words: limbs, numbers, parts, terms. No conditions. Trial. No conditions. A law in the new words, called. No conditions. -/
import Derived.Test.YthmjgbkakjpfkaaGreatDoorGLooksBl
import Derived.Test.YthmjgbkakjpfkaaGreatDoorGLooksAd
import Derived.IntWalk
import Derived.Test.YthmjgbkakjpfkaaGreatDoorGLooksBj
namespace Go.Proofs.YthmjgbkakjpfkaaGreatDoor
open Go.RowKit

attribute [go_sem] opK astep ez evs cRV cCV cCVs cellsOf fset_at mat mset loadK storeK allocK boxK fieldK indexK extractK pickK intK shiftK strK binK unK convK bstrK lenK fillC buildK rowP rowK srcK appK makeK bndK sliceK snapD snapDs argCs argK argsK callK endR freshC freshA freshR noE thn inB AS.put layC shutB nmR nmC nmA layD toC toR isShift endK resKs resK tellA tellAs tellC tellCs begS AD.rv
theorem follows : Tryz.prog.follows .mixedOrders = true := by kernel_rfl
theorem z_min : IntKind.i64.min = -9223372036854775808 ∧ IntKind.i64.max = 9223372036854775807 ∧ IntKind.u32.min = 0 ∧ IntKind.u32.max = 4294967295 ∧ IntKind.u64.min = 0 ∧ IntKind.u64.max = 18446744073709551615 ∧ IntKind.u8.min = 0 ∧ IntKind.u8.max = 255 ∧ IntKind.i32.min = -2147483648 ∧ IntKind.i32.max = 2147483647 := by decide
attribute [go_sem] z_min
@[go_sem] theorem anK_v (d : Option Nat) (m : Mem) (b : Bool) (K : SV → Mem → Prop) (r : SV) : anK d m b K (.v r) = ((b = true → freshR r = true) ∧ noE r = true ∧ K r m) := rfl
@[go_sem] theorem anK_o (k : Nat) (m : Mem) (b : Bool) (K : SV → Mem → Prop) (fr : Bool) (sz : Nat) (T : TypeId) (xs : List (List D)) : anK (some k) m b K (.o fr sz T xs) = ((b = true → fr = true) ∧ mat m k = none ∧ K (.c (.r k xs.length)) ((k, .r fr sz T xs) :: m)) := rfl
def HK (N G : AS → Prop) : Prop := ∀ S, G S → N S
section
variable {P : Program} {Q : Exit → AS → Prop} {S : AS}
theorem hk_use {N G : AS → Prop} (h : HK N G) (g : G S) : N S := h S g
theorem sw_seqk {x y : Code} (h : ∀ N, HK N (SW P y Q) → SW P x (thn N Q) S) : SW P (.seq x y) Q S := sw_seq (h _ fun _ h => h)
theorem aops_k {ops : Array Oper} {KF : AS → Prop} {o : Oper} {r : List Oper} (h : ∀ N, HK N (aops P ops KF r) → opK P ops o S fun rv m' => N (S.put o.dst rv m')) : aops P ops KF (o :: r) S := h _ fun _ h => h
theorem sw_reg {id : Nat} {l : List Oper} {draw : Bool} (h : aops P l.toArray (Q .normal) l S) (hm : P.follows .mixedOrders = true := by exact follows) (hok : draw = true → regOk l.toArray = true := by (intro h; first | (cases h; done) | kernel_rfl)) : SW P (.region id l.toArray draw) Q S := sw_region hm hok h
end
theorem sw_ct {P : Program} {Q : Exit → AS → Prop} {S : AS} {c : Operand} {x y : Code} (hc : ez S c = .c (.b true)) (h : SW P x Q S) : SW P (.cond c x y) Q S := sw_cond hc (fun _ => h) fun e => by cases e
theorem sw_cf {P : Program} {Q : Exit → AS → Prop} {S : AS} {c : Operand} {x y : Code} (hc : ez S c = .c (.b false)) (h : SW P y Q S) : SW P (.cond c x y) Q S := sw_cond hc (fun e => by cases e) fun _ => h
def chkF (f' f : Nat → SV) (m' : Mem) : Nat → Prop
  | 0 => True
  | n + 1 => svLe (f' n) (f n) ∧ shutB m' (nmR (f' n)) = true ∧ chkF f' f m' n
def chkM (m : Mem) : Mem → Prop
  | [] => True
  | (k, ob) :: r => (match mat m k with | some ob0 => obLe ob ob0 | none => False) ∧ chkM m r
def chkB (m : Mem) : Mem → Prop
  | [] => True
  | (_, .x cs) :: r => shutB m (cs.flatMap nmC) = true ∧ chkB m r
  | (_, .r ..) :: r => chkB m r
theorem chkF_at {f' f : Nat → SV} {m' : Mem} : ∀ {n t : Nat}, chkF f' f m' n → t < n → svLe (f' t) (f t) ∧ shutB m' (nmR (f' t)) = true
  | n + 1, t, h, ht => by
    by_cases e : t = n
    · subst e; exact ⟨h.1, h.2.1⟩
    · exact chkF_at h.2.2 (by omega)
theorem chkM_at {m : Mem} : ∀ {m' : Mem}, chkM m m' → ∀ k ob, mat m' k = some ob → ∃ ob0, mat m k = some ob0 ∧ obLe ob ob0
  | [], _, k, ob, h => by cases h
  | (j, o) :: r, h, k, ob, hk => by
    unfold mat at hk
    split at hk
    · rename_i e
      subst e
      injection hk with hk
      subst hk
      have h1 := h.1
      split at h1
      · exact ⟨_, ‹_›, h1⟩
      · exact h1.elim
    · exact chkM_at h.2 k ob hk
theorem chkB_at {m : Mem} : ∀ {m' : Mem}, chkB m m' → ∀ k cs, mat m' k = some (.x cs) → shutB m (cs.flatMap nmC) = true
  | [], _, k, cs, h => by cases h
  | (j, o) :: r, h, k, cs, hk => by
    unfold mat at hk
    have hr : chkB m r := by cases o <;> first | exact h.2 | exact h
    split at hk
    · injection hk with hk; subst hk; exact h.1
    · exact chkB_at hr k cs hk
theorem le_chk {n : Nat} {f f' : Nat → SV} {m m' : Mem} (h : chkF f' f m' n ∧ chkM m m' ∧ chkB m' m') : Le ⟨n, f', m'⟩ ⟨n, f, m⟩ :=
  le_sub (fun t ht => (chkF_at h.1 ht).1) (chkM_at h.2.1) (fun t ht => (chkF_at h.1 ht).2) (chkB_at h.2.2)
theorem sw_loopx {P : Program} {Q : Exit → AS → Prop} {S : AS} {c : Code} {α : Type} (st : α → AS) (I : α → Prop) (μ : α → Nat) (x0 : α) (hI : I x0) (h0 : Le (st x0) S) (round : ∀ x, I x → SW P c (thn (fun S2 => ∃ y, (I y ∧ μ y < μ x) ∧ Le (st y) S2) Q) (st x)) : SW P (.loop c) Q S :=
  sw_loop (fun n S1 => ∃ x, I x ∧ n = μ x ∧ S1 = st x) ⟨μ x0, st x0, h0, x0, hI, rfl, rfl⟩ fun n S1 ⟨x, h1, h2, h3⟩ => by
    subst h2; subst h3
    refine sw_mono (round x h1) fun e S' he => ?_
    cases e with
    | normal => obtain ⟨y, ⟨h4, h5⟩, h6⟩ := he; exact ⟨μ y, st y, h5, h6, y, h4, rfl, rfl⟩
    | _ => exact he
def alook : List (Nat × SV) → Nat → Option SV
  | [], _ => none
  | (j, v) :: r, t => if j = t then some v else alook r t
def lst (f : Nat → SV) (lo : Nat) (vals : List (Nat × SV)) (t : Nat) : SV :=
  match alook vals t with
  | some v => v
  | none => if t < lo then f t else .u
def chk (n : Nat) (f' : Nat → SV) (m' : Mem) (S : AS) : Prop := S.n = n ∧ chkF f' S.f m' n ∧ chkM S.m m' ∧ chkB m' m'
theorem chk_le {n : Nat} {f' : Nat → SV} {m' : Mem} {S : AS} (h : chk n f' m' S) : Le ⟨n, f', m'⟩ S := by
  obtain ⟨n', f, m⟩ := S
  obtain ⟨h1, h2, h3⟩ := h
  have h1 : n' = n := h1
  subst h1
  exact le_chk ⟨h2, h3⟩
theorem sw_loopw {P : Program} {Q : Exit → AS → Prop} {c : Code} {n : Nat} {f : Nat → SV} {m : Mem} {α : Type} (lo : Nat) (vals : α → List (Nat × SV)) (mem : α → Mem) (I : α → Prop) (μ : α → Nat) (x0 : α) (hI : I x0) (h0 : chk n (lst f lo (vals x0)) (mem x0) ⟨n, f, m⟩)
    (round : ∀ x, I x → SW P c (thn (fun S => ∃ y, I y ∧ μ y < μ x ∧ chk n (lst f lo (vals y)) (mem y) S) Q) ⟨n, lst f lo (vals x), mem x⟩) : SW P (.loop c) Q ⟨n, f, m⟩ :=
  sw_loopx (fun x => ⟨n, lst f lo (vals x), mem x⟩) I μ x0 hI (chk_le h0) fun x hx => sw_mono (round x hx) fun e S' he => by
    cases e with
    | normal => obtain ⟨y, h1, h2, h3⟩ := he; exact ⟨y, ⟨h1, h2⟩, chk_le h3⟩
    | _ => exact he
def ovr (m : Mem) : Mem → Mem
  | [] => m
  | (k, ob) :: r => ovr (mset m k ob) r
theorem sw_loopv {P : Program} {Q : Exit → AS → Prop} {c : Code} {n : Nat} {f : Nat → SV} {m : Mem} {α : Type} (lo : Nat) (vals : α → List (Nat × SV)) (objs : α → Mem) (I : α → Prop) (μ : α → Nat) (x0 : α) (hI : I x0) (h0 : chk n (lst f lo (vals x0)) (ovr m (objs x0)) ⟨n, f, m⟩)
    (round : ∀ x, I x → SW P c (thn (fun S => ∃ y, I y ∧ μ y < μ x ∧ chk n (lst f lo (vals y)) (ovr m (objs y)) S) Q) ⟨n, lst f lo (vals x), ovr m (objs x)⟩) : SW P (.loop c) Q ⟨n, f, m⟩ :=
  sw_loopw lo vals (fun x => ovr m (objs x)) I μ x0 hI h0 round
attribute [go_sem] ovr chkF chkM chkB chk alook lst svLe cvLe cvLes obLe
@[go_sem] theorem maxLen_is : maxLen = 9223372036854775807 := rfl
@[go_sem] theorem int_beq (a b : Int) : (a == b) = decide (a = b) := by by_cases h : a = b <;> simp [h]
@[go_sem] theorem int_bne (a b : Int) : (a != b) = !decide (a = b) := by by_cases h : a = b <;> simp [h]
def dN (l : List Nat) : List (List D) := l.map fun x : Nat => [D.i .u32 (x : Int)]
def dZ (z : Z) : List D := [.b z.neg, .l (dN z.mag)]
def dP (p : Int × Z) : List D := .i .i64 p.1 :: dZ p.2
def dT (t : T) : List D := .l (t.ps.map dP) :: dZ t.k
attribute [go_sem] dZ dP dT
end Go.Proofs.YthmjgbkakjpfkaaGreatDoor

namespace Go.Proofs.YthmjgbkakjpfkaaGreatDoor
open Go.RowKit

def gZ (f : Bool) (z : Z) : SV := .g [.b z.neg, .l f (dN z.mag)]
def aZ (f : Bool) (z : Z) : AV := .g [.b z.neg, .l f (dN z.mag)]
def gT (f : Bool) (t : T) : SV := .g [.l f (t.ps.map dP), .b t.k.neg, .l f (dN t.k.mag)]
section
variable {α : Type} {E : World → (Nat → Prop) → List Value → α → Prop} {enc : α → List D} {sz : Nat} {w : World} {X : Nat → Prop} {A : Option Addr} {c : Nat} {l : List α}
theorem Sl.to_enc (hE : ∀ cs a, E w X cs a → ED w X cs (enc a)) (h : Sl sz E w X A c l) : Sl sz ED w X A c (l.map enc) := by
  refine ⟨by simpa using h.1, h.2.1, fun h0 => ?_, by simpa using h.2.2.2⟩
  obtain ⟨b, o, h1, h2, h3⟩ := h.2.2.1 (by simpa using h0)
  refine ⟨b, o, h1, h2, fun i hi => ?_⟩
  obtain ⟨cs, q1, q2, q3⟩ := h3 i (by simpa using hi)
  exact ⟨cs, q1, q2, by rw [List.getElem_map]; exact hE _ _ q3⟩
theorem Sl.of_enc (hE : ∀ cs a, ED w X cs (enc a) → E w X cs a) (h : Sl sz ED w X A c (l.map enc)) : Sl sz E w X A c l := by
  refine ⟨by simpa using h.1, h.2.1, fun h0 => ?_, by simpa using h.2.2.2⟩
  obtain ⟨b, o, h1, h2, h3⟩ := h.2.2.1 (by simpa using h0)
  refine ⟨b, o, h1, h2, fun i hi => ?_⟩
  obtain ⟨cs, q1, q2, q3⟩ := h3 i (by simpa using hi)
  exact ⟨cs, q1, q2, hE _ _ (by rw [List.getElem_map] at q3; exact q3)⟩
theorem Rp.of_enc {v : Value} (hsz : 0 < sz) (hlen : ∀ a, (enc a).length = sz) (hE : ∀ cs a, ED w X cs (enc a) → E w X cs a) (h : Rp w X v (.l (l.map enc))) : ∃ A c, v = .slice A l.length c ∧ Sl sz E w X A c l := by
  obtain ⟨A, c, sz', h0, rfl, hs, hl⟩ := Rp.sl h
  refine ⟨A, c, by simp, ?_⟩
  cases l with
  | nil => exact Sl.nil _ _ _ _ hs.2.1
  | cons a r =>
    have : sz' = sz := by rw [← hl (enc a) (by simp), hlen]
    subst this
    exact Sl.of_enc hE hs
theorem Rp.to_enc (hsz : 0 < sz) (hE : ∀ cs a, E w X cs a → ED w X cs (enc a)) (h : Sl sz E w X A c l) : Rp w X (.slice A l.length c) (.l (l.map enc)) := by
  have := Rp.of_sl hsz (Sl.to_enc hE h)
  rwa [List.length_map] at this
end
section
variable {P : Program} {w : World} {X : Nat → Prop}
theorem ed_u {cs : List Value} {x : Nat} : ED w X cs [.i .u32 (x : Int)] ↔ EU w X cs x := by
  constructor
  · intro h
    cases h with
    | cons h1 h2 =>
      cases h2
      cases h1 with
      | i h1 h2 =>
        have h2 := h2
        simp only [z_min] at h2
        exact ⟨rfl, by omega⟩
  · rintro ⟨rfl, h⟩
    exact .cons (.i (by simp only [z_min]; omega) (by simp only [z_min]; omega)) .nil
theorem rp_n {v : Value} {l : List Nat} : Rp w X v (.l (dN l)) ↔ ∃ A c, v = .slice A l.length c ∧ Nl w X A c l := by
  constructor
  · exact fun h => Rp.of_enc (sz := 1) (by omega) (fun _ => rfl) (fun _ _ h => ed_u.1 h) h
  · rintro ⟨A, c, rfl, h⟩
    exact Rp.to_enc (by omega) (fun _ _ h => ed_u.2 h) h
theorem ed_z {cs : List Value} {z : Z} : ED w X cs (dZ z) ↔ ∃ A c, cs = [.bool z.neg, .slice A z.mag.length c] ∧ Nl w X A c z.mag := by
  constructor
  · intro h
    cases h with
    | cons h1 h2 =>
      cases h2 with
      | cons h2 h3 =>
        cases h3
        cases h1
        obtain ⟨A, c, rfl, h⟩ := rp_n.1 h2
        exact ⟨A, c, rfl, h⟩
  · rintro ⟨A, c, rfl, h⟩
    exact .cons .b (.cons (rp_n.2 ⟨A, c, rfl, h⟩) .nil)
theorem ed_p {cs : List Value} {p : Int × Z} : ED w X cs (dP p) ↔ EP w X cs p := by
  constructor
  · intro h
    cases h with
    | cons h1 h2 =>
      obtain ⟨A, c, rfl, h⟩ := ed_z.1 h2
      cases h1 with
      | i h1 h2 =>
        simp only [z_min] at h1 h2
        exact ⟨A, c, rfl, ⟨h1, h2⟩, h⟩
  · rintro ⟨A, c, rfl, hi, h⟩
    exact .cons (.i (by simp only [z_min]; exact hi.1) (by simp only [z_min]; exact hi.2)) (ed_z.2 ⟨A, c, rfl, h⟩)
theorem rp_p {v : Value} {l : List (Int × Z)} : Rp w X v (.l (l.map dP)) ↔ ∃ A c, v = .slice A l.length c ∧ Pl w X A c l := by
  constructor
  · exact fun h => Rp.of_enc (sz := 3) (by omega) (fun _ => rfl) (fun _ _ h => ed_p.1 h) h
  · rintro ⟨A, c, rfl, h⟩
    exact Rp.to_enc (by omega) (fun _ _ h => ed_p.2 h) h
theorem ed_t {cs : List Value} {t : T} : ED w X cs (dT t) ↔ ∃ A c B d, cs = [.slice A t.ps.length c, .bool t.k.neg, .slice B t.k.mag.length d] ∧ Pl w X A c t.ps ∧ Nl w X B d t.k.mag := by
  constructor
  · intro h
    cases h with
    | cons h1 h2 =>
      obtain ⟨A, c, rfl, h⟩ := rp_p.1 h1
      obtain ⟨B, d, rfl, h'⟩ := ed_z.1 h2
      exact ⟨A, c, B, d, rfl, h, h'⟩
  · rintro ⟨A, c, B, d, rfl, h, h'⟩
    exact .cons (rp_p.2 ⟨A, c, rfl, h⟩) (ed_z.2 ⟨B, d, rfl, h'⟩)
theorem agg_list {vs : Array Value} {l : List Value} (h : vs.toList = l) : Value.agg vs = .agg l.toArray := by rw [← h]
theorem relD_z {v : Value} {z : Z} : RelD w X v (.g (dZ z)) ↔ Zi w X v z := by
  constructor
  · rintro ⟨vs, rfl, h⟩
    obtain ⟨A, c, e, h⟩ := ed_z.1 h
    exact ⟨A, c, agg_list e, h⟩
  · rintro ⟨A, c, rfl, h⟩
    exact ⟨_, rfl, ed_z.2 ⟨A, c, rfl, h⟩⟩
theorem relD_t {v : Value} {t : T} : RelD w X v (.g (dT t)) ↔ Tv w X v t := by
  constructor
  · rintro ⟨vs, rfl, h⟩
    obtain ⟨A, c, B, d, e, h⟩ := ed_t.1 h
    exact ⟨A, c, B, d, agg_list e, h⟩
  · rintro ⟨A, c, B, d, rfl, h⟩
    exact ⟨_, rfl, ed_t.2 ⟨A, c, B, d, rfl, h⟩⟩
theorem relD_n {v : Value} {l : List Nat} : RelD w X v (.c (.l (dN l))) ↔ ∃ A c, v = .slice A l.length c ∧ Nl w X A c l := rp_n
theorem relD_i {v : Value} {k : IntKind} {n : Int} (h : RelD w X v (.c (.i k n))) : v = .int k n ∧ k.min ≤ n ∧ n ≤ k.max := by
  cases h
  exact ⟨rfl, ‹_›, ‹_›⟩
def cAns (X : Nat → Prop) (w w' : World) : Cx := ⟨fun _ => 0, fun _ => undef, fun b => X b ∨ w.heap.size ≤ b ∧ b < w'.heap.size, w.heap.size⟩
theorem ans_n {w w' : World} {A : Option Addr} {c : Nat} {l : List Nat} (h : Nl w' (w.heap.size ≤ ·) A c l) : RelC (cAns X w w') [] w' (.slice A l.length c) (.l true (dN l)) :=
  rp_n.2 ⟨A, c, rfl, h.widen fun b hb hl => ⟨.inr ⟨hb, hl⟩, fun _ => hb⟩⟩
theorem ans_z {w w' : World} {v : Value} {z : Z} (h : Zi w' (w.heap.size ≤ ·) v z) : RelR (cAns X w w') [] w' v (gZ true z) := by
  obtain ⟨A, c, rfl, h⟩ := h
  exact ⟨_, rfl, .cons rfl (.cons (ans_n h) .nil)⟩
theorem ansA_z {w w' : World} {v : Value} {z : Z} (h : Zi w' (w.heap.size ≤ ·) v z) : RelA (cAns X w w') [] w' v (aZ true z) := ans_z h
theorem ans_t {w w' : World} {v : Value} {t : T} (h : Tv w' (w.heap.size ≤ ·) v t) : RelR (cAns X w w') [] w' v (gT true t) := by
  obtain ⟨A, c, B, d, rfl, h, h'⟩ := h
  refine ⟨_, rfl, .cons ?_ (.cons rfl (.cons (ans_n h') .nil))⟩
  exact rp_p.2 ⟨A, c, rfl, Sl.widen h (by omega) fun b hb hl => ⟨.inr ⟨hb, hl⟩, fun _ => hb⟩⟩

theorem ok_n {l : List Nat} (h : D.Ok (.l (dN l))) : Lb l := fun x hx => by
  have h := (ok_l.1 h).2 [.i .u32 (x : Int)] (List.mem_map.2 ⟨x, hx, rfl⟩) _ (List.mem_singleton.2 rfl)
  have h := (ok_i.1 h).2
  simp only [z_min] at h
  omega
theorem ok_z {z : Z} (h : ∀ d ∈ dZ z, D.Ok d) : Lb z.mag := ok_n (h _ (by simp [dZ]))
theorem ok_t {t : T} (h : ∀ d ∈ dT t, D.Ok d) : t.lb := by
  refine ⟨fun p hp => ?_, ok_z fun d hd => h d (List.mem_cons_of_mem _ hd)⟩
  have h1 := (ok_l.1 (h _ (List.mem_cons_self ..))).2 (dP p) (List.mem_map.2 ⟨p, hp, rfl⟩)
  exact ok_z fun d hd => h1 d (List.mem_cons_of_mem _ hd)

theorem fn1 {f : FuncId} {a : AD} {r : SV} (h : ∀ w X v, RelD w X v a → Calls P f #[v] w fun e w' => ∃ u, e = .returned u ∧ RelR (cAns X w w') [] w' u r ∧ Ext w w') : Fn P f [a] r := fun w X vs _ _ ha => by
  obtain ⟨l, rfl⟩ : ∃ l : List Value, vs = l.toArray := ⟨vs.toList, by simp⟩
  cases ha with
  | cons h1 h2 =>
    cases h2
    exact (h w X _ h1).mono fun e w' ⟨u, h3, h4, h5⟩ => ⟨u, h3, h5, h4⟩
theorem fn2 {f : FuncId} {a b : AD} {r : SV} (h : ∀ w X u v, RelD w X u a → RelD w X v b → Calls P f #[u, v] w fun e w' => ∃ u, e = .returned u ∧ RelR (cAns X w w') [] w' u r ∧ Ext w w') : Fn P f [a, b] r := fun w X vs _ _ ha => by
  obtain ⟨l, rfl⟩ : ∃ l : List Value, vs = l.toArray := ⟨vs.toList, by simp⟩
  cases ha with
  | cons h1 h2 =>
    cases h2 with
    | cons h2 h3 =>
      cases h3
      exact (h w X _ _ h1 h2).mono fun e w' ⟨u, h3, h4, h5⟩ => ⟨u, h3, h5, h4⟩
end

attribute [go_sem] gZ aZ gT
end Go.Proofs.YthmjgbkakjpfkaaGreatDoor

namespace Go.Proofs.YthmjgbkakjpfkaaGreatDoor
open Go.RowKit

set_option maxHeartbeats 1000000 in
theorem coefs_v (t : T) (hs : t.ps.length ≤ 4398046511104) : Fn Tryz.prog 70 [.g (dT t)] (.c (.l false (t.ps.map fun p => dZ p.2))) := by
  refine Fn.intro' Tryz.func70 [.tmp 2] 22 fun _ => ?_
  (repeat (first | (refine hk_use (by assumption) ?_) | (refine sw_seqk fun _ _ => ?_) | (refine sw_reg ?_) | (refine aops_k fun _ _ => ?_; simp [go_sem]; try go_ints) | refine sw_block ?_ | refine sw_ct rfl ?_ | refine sw_cf rfl ?_ | refine sw_skip ?_ | refine sw_exit ?_ | refine sw_ret ?_ | refine And.intro (by first | omega | rfl) ?_ | simp only [aops, thn, inB, ↓reduceIte, Nat.reduceEqDiff]))
  refine sw_weak (le_own 3 1003 2 24 rfl rfl (by decide)) ?_
  refine sw_loopw 3 (fun i : Nat => [(3, .c (.r 1003 i)), (4, .c (.i .i64 i))]) (fun i => [(1, .x ((dT t).map (toC false))), (1003, .r false 2 24 ((t.ps.map fun p => dZ p.2).take i))]) (fun i => i ≤ t.ps.length) (fun i => t.ps.length - i) 0 (Nat.zero_le _) ?_ fun i hi => ?_
  · simp [go_sem]
  · by_cases hlt : i < t.ps.length
    · (repeat (first | (refine hk_use (by assumption) ?_) | (refine sw_seqk fun _ _ => ?_) | (refine sw_reg ?_) | (refine aops_k fun _ _ => ?_; simp [go_sem, hlt, Nat.min_eq_left hi]; try go_ints) | refine sw_block ?_ | refine sw_ct rfl ?_ | refine sw_cf rfl ?_ | refine sw_skip ?_ | refine sw_exit ?_ | refine sw_ret ?_ | refine And.intro (by first | omega | rfl) ?_ | simp only [aops, thn, inB, ↓reduceIte, Nat.reduceEqDiff]))
      refine ⟨i + 1, by omega, by omega, ?_⟩
      simp [go_sem]
      rw [List.take_succ_eq_append_getElem (by simpa using hlt)]
      simp
    · (repeat (first | (refine hk_use (by assumption) ?_) | (refine sw_seqk fun _ _ => ?_) | (refine sw_reg ?_) | (refine aops_k fun _ _ => ?_; simp [go_sem, hlt]; try go_ints) | refine sw_block ?_ | refine sw_ct rfl ?_ | refine sw_cf rfl ?_ | refine sw_skip ?_ | refine sw_exit ?_ | refine sw_ret ?_ | refine And.intro (by first | omega | rfl) ?_ | simp only [aops, thn, inB, ↓reduceIte, Nat.reduceEqDiff]))
      have : i = t.ps.length := by omega
      subst this
      simp [go_sem, List.take_of_length_le]

end Go.Proofs.YthmjgbkakjpfkaaGreatDoor

namespace Go.Proofs.YthmjgbkakjpfkaaGreatDoor
open Go.RowKit

theorem RelD.all {w : World} {X : Nat → Prop} {v : Value} {d : AD} (h : RelD w X v d) : RelD w (· < w.heap.size) v d := by
  cases d with
  | c d => exact Rp.widen h fun b _ hb => hb
  | g ds =>
    obtain ⟨vs, e, h⟩ := h
    exact ⟨vs, e, forall2_mono (fun _ _ h => Rp.widen h fun b _ hb => hb) h⟩
theorem law_of {P : Program} {f : FuncId} {w : World} {ads : List AD} {vs : List Value} (h : Fn P f ads (.c (.b true))) (hl : Lay w) (ha : F2 (fun v d => ∃ X, RelD w X v d) vs ads) : Calls P f vs.toArray w fun e w' => e = .returned (.bool true) ∧ Ext w w' :=
  (h w (· < w.heap.size) vs.toArray hl (fun _ h => h) (by rw [List.toList_toArray]; exact forall2_mono (fun _ _ ⟨_, h⟩ => h.all) ha)).mono fun _ _ ⟨v, e, hx, hr⟩ => ⟨by rw [e]; exact congrArg _ hr, hx⟩
end Go.Proofs.YthmjgbkakjpfkaaGreatDoor
