/- Plain laws of limbs: lists of numbers below 2^32, the least first, and what they say. No program in sight. No conditions. Linear terms, in plain words: lists of (variable, coefficient), their canonical form, values, order. No program here. -/
import Init
namespace Go.Proofs.YtpkfjbljhneenaaGreat

def nth (l : List Nat) (k : Nat) : Nat := l.getD k 0
theorem nth_eq (l : List Nat) (k : Nat) (h : k < l.length) : nth l k = l[k] := by simp [nth, h]
theorem nth_ge (l : List Nat) (k : Nat) (h : l.length ≤ k) : nth l k = 0 := by simp [nth, List.getElem?_eq_none h]

def nv : List Nat → Nat
 | [] => 0
 | x :: r => x + 4294967296 * nv r
def Lb (l : List Nat) : Prop := ∀ x ∈ l, x < 4294967296
theorem Lb.nil : Lb [] := by intro x h; cases h
theorem Lb.cons {x : Nat} {l : List Nat} (hx : x < 4294967296) (h : Lb l) : Lb (x :: l) := by
 intro y hy; rcases List.mem_cons.1 hy with rfl | hy
 ·exact hx
 ·exact h y hy
theorem Lb.head {x : Nat} {l : List Nat} (h : Lb (x :: l)) : x < 4294967296 := h x (by simp)
theorem Lb.tail {x : Nat} {l : List Nat} (h : Lb (x :: l)) : Lb l := fun y hy => h y (by simp [hy])
theorem Lb.take {l : List Nat} (h : Lb l) (k : Nat) : Lb (l.take k) := fun y hy => h y (List.mem_of_mem_take hy)
theorem Lb.drop {l : List Nat} (h : Lb l) (k : Nat) : Lb (l.drop k) := fun y hy => h y (List.mem_of_mem_drop hy)
theorem Lb.append {l m : List Nat} (h : Lb l) (k : Lb m) : Lb (l ++ m) := fun y hy => (List.mem_append.1 hy).elim (h y) (k y)
theorem Lb.rep (n : Nat) : Lb (List.replicate n 0) := fun y hy => by rw [(List.mem_replicate.1 hy).2]; omega
theorem Lb.nth {l : List Nat} (h : Lb l) (k : Nat) : nth l k < 4294967296 := by
 rcases Nat.lt_or_ge k l.length with hk | hk
 ·rw [nth_eq l k hk]; exact h _ (List.getElem_mem hk)
 ·rw [nth_ge l k hk]; omega

def pw (k : Nat) : Nat := 4294967296 ^ k
theorem pw_zero : pw 0 = 1 := rfl
theorem pw_succ (k : Nat) : pw (k + 1) = 4294967296 * pw k := by unfold pw; rw [Nat.pow_succ, Nat.mul_comm]
theorem pw_pos (k : Nat) : 0 < pw k := by unfold pw; exact Nat.pos_of_ne_zero (by simp)
theorem pw_add (a b : Nat) : pw (a + b) = pw a * pw b := by unfold pw; rw [Nat.pow_add]
theorem pw_mono {a b : Nat} (h : a ≤ b) : pw a ≤ pw b := by unfold pw; exact Nat.pow_le_pow_right (by omega) h

theorem nv_append (l m : List Nat) : nv (l ++ m) = nv l + pw l.length * nv m := by
 induction l with
 | nil => simp [nv, pw_zero]
 | cons x r ih => simp only [List.cons_append, nv, ih, List.length_cons, pw_succ, Nat.mul_add, Nat.mul_assoc]; omega
theorem nv_one (x : Nat) : nv [x] = x := by simp [nv]
theorem nv_snoc (l : List Nat) (x : Nat) : nv (l ++ [x]) = nv l + pw l.length * x := by rw [nv_append, nv_one]
theorem nv_lt {l : List Nat} (h : Lb l) : nv l < pw l.length := by
 induction l with
 | nil => simp [nv, pw_zero]
 | cons x r ih =>
  have h1 := ih h.tail; have h2 := h.head; simp only [nv, List.length_cons, pw_succ]
  omega
theorem nv_rep (n : Nat) : nv (List.replicate n 0) = 0 := by
 induction n with
 | zero => rfl
 | succ n ih => simp [List.replicate_succ, nv, ih]
theorem nv_take_drop (l : List Nat) (k : Nat) (h : k ≤ l.length) : nv l = nv (l.take k) + pw k * nv (l.drop k) := by
 have := nv_append (l.take k) (l.drop k); rw [List.take_append_drop, List.length_take, Nat.min_eq_left h] at this; exact this
theorem take_succ_nth (l : List Nat) (k : Nat) (h : k < l.length) : l.take (k + 1) = l.take k ++ [nth l k] := by
 rw [nth_eq l k h, List.take_succ_eq_append_getElem h]
theorem nv_take_succ (l : List Nat) (k : Nat) (h : k < l.length) : nv (l.take (k + 1)) = nv (l.take k) + pw k * nth l k := by
 rw [take_succ_nth l k h, nv_snoc, List.length_take, Nat.min_eq_left (by omega)]
theorem nv_take_ge (l : List Nat) (k : Nat) (h : l.length ≤ k) : nv (l.take k) = nv l := by rw [List.take_of_length_le h]
theorem nv_take_succ' (l : List Nat) (k : Nat) : nv (l.take (k + 1)) = nv (l.take k) + pw k * nth l k := by
 rcases Nat.lt_or_ge k l.length with h | h
 ·exact nv_take_succ l k h
 ·rw [nth_ge l k h, nv_take_ge l (k + 1) (by omega), nv_take_ge l k h]; simp
theorem drop_nth (l : List Nat) (k : Nat) (h : k < l.length) : l.drop k = nth l k :: l.drop (k + 1) := by
 rw [nth_eq l k h, List.drop_eq_getElem_cons h]
theorem nv_drop (l : List Nat) (k : Nat) (h : k < l.length) : nv (l.drop k) = nth l k + 4294967296 * nv (l.drop (k + 1)) := by
 rw [drop_nth l k h]; rfl

def limF : Nat → Nat → List Nat
 | 0, _ => []
 | f + 1, n => if n = 0 then [] else n % 4294967296 :: limF f (n / 4294967296)
def lim (n : Nat) : List Nat := limF n n
theorem limF_eq : ∀ (f g n : Nat), n ≤ f → n ≤ g → limF f n = limF g n := by
 intro f
 induction f with
 | zero =>
  intro g n hf hg
  have : n = 0 := by omega
  subst this
  cases g <;> simp [limF]
 | succ f ih =>
  intro g n hf hg
  by_cases h0 : n = 0
  ·subst h0; cases g <;> simp [limF]
  ·cases g with
   | zero => omega
   | succ g =>
    simp only [limF, h0, if_false]; rw [ih g (n / 4294967296) (by omega) (by omega)]
theorem lim_zero : lim 0 = [] := rfl
theorem lim_pos {n : Nat} (h : n ≠ 0) : lim n = n % 4294967296 :: lim (n / 4294967296) := by
 unfold lim
 cases n with
 | zero => omega
 | succ n =>
  show limF (n + 1) (n + 1) = _
  simp only [limF, h, if_false]; rw [limF_eq n ((n + 1) / 4294967296) _ (by omega) (Nat.le_refl _)]
theorem nv_lim (n : Nat) : nv (lim n) = n := by
 induction n using Nat.strongRecOn with
 | _ n ih =>
  by_cases h : n = 0
  ·subst h; rfl
  ·rw [lim_pos h, nv, ih _ (by omega)]; omega
theorem lb_lim (n : Nat) : Lb (lim n) := by
 induction n using Nat.strongRecOn with
 | _ n ih =>
  by_cases h : n = 0
  ·subst h; exact Lb.nil
  ·rw [lim_pos h]; exact Lb.cons (by omega) (ih _ (by omega))
theorem lim_nil_iff (n : Nat) : lim n = [] ↔ n = 0 := by
 constructor
 ·intro h; have := nv_lim n; rw [h] at this; exact this.symm
 ·rintro rfl; rfl
theorem lim_len_pos (n : Nat) : 0 < (lim n).length ↔ n ≠ 0 := by
 rw [List.length_pos_iff, Ne, lim_nil_iff]
theorem lim_nv_last {m : List Nat} (h : Lb m) (hl : m ≠ [] → nth m (m.length - 1) ≠ 0) : lim (nv m) = m := by
 induction m with
 | nil => rfl
 | cons x r ih =>
  have hx := h.head
  by_cases hr : r = []
  ·subst hr
   have h0 : x ≠ 0 := by simpa [nth] using hl (by simp)
   have e : nv [x] = x := nv_one x; rw [e, lim_pos h0, Nat.mod_eq_of_lt hx, Nat.div_eq_of_lt hx, lim_zero]
  ·have h1 : r ≠ [] → nth r (r.length - 1) ≠ 0 := fun _ => by
    have h2 := hl (by simp); have h3 : 0 < r.length := List.length_pos_iff.2 hr; simp only [nth, List.length_cons, Nat.add_sub_cancel] at h2 ⊢; obtain ⟨k, hk⟩ : ∃ k, r.length = k + 1 := ⟨r.length - 1, by omega⟩; rw [hk] at h2 ⊢
    simpa using h2
   have h2 := ih h.tail h1
   have h3 : nv r ≠ 0 := by
    intro h0; rw [h0, lim_zero] at h2; exact hr h2.symm
   have e1 : (x + 4294967296 * nv r) % 4294967296 = x := by omega
   have e2 : (x + 4294967296 * nv r) / 4294967296 = nv r := by omega
   rw [nv, lim_pos (by omega), e1, e2, h2]
theorem take_lim {l : List Nat} (h : Lb l) {n : Nat} (hn : n ≤ l.length) (hz : ∀ k, n ≤ k → k < l.length → nth l k = 0) (hl : 0 < n → nth l (n - 1) ≠ 0) : l.take n = lim (nv l) := by
 have h0 : ∀ m : List Nat, (∀ k, k < m.length → nth m k = 0) → nv m = 0 := by
  intro m
  induction m with
  | nil => intro _; rfl
  | cons x r ih =>
   intro hm; have h1 := hm 0 (by simp); have h2 := ih (fun k hk => by simpa [nth] using hm (k + 1) (by simpa using hk)); simp only [nth] at h1; simp at h1; simp [nv, h1, h2]
 have h1 : nv (l.drop n) = 0 := h0 _ (fun k hk => by
  have := hz (n + k) (by omega) (by rw [List.length_drop] at hk; omega)
  simpa [nth, List.getElem?_drop] using this)
 have h2 := nv_take_drop l n hn; rw [h1, Nat.mul_zero, Nat.add_zero] at h2; rw [h2]; refine (lim_nv_last (h.take n) fun hne => ?_).symm
 have hlen : (l.take n).length = n := by rw [List.length_take]; omega
 rw [hlen]
 have hn0 : 0 < n := by
  rcases Nat.eq_zero_or_pos n with e | e
  ·subst e; simp at hne
  ·exact e
 have := hl hn0; rw [nth_eq _ _ (by omega)] at this; rw [nth_eq _ _ (by omega), List.getElem_take]; exact this
theorem lim_len_le {l : List Nat} (h : Lb l) : (lim (nv l)).length ≤ l.length := by
 induction l with
 | nil => simp [nv, lim_zero]
 | cons x r ih =>
  have h1 := ih h.tail; have hx := h.head
  by_cases h0 : x + 4294967296 * nv r = 0
  ·simp [nv, h0, lim_zero]
  ·have e2 : (x + 4294967296 * nv r) / 4294967296 = nv r := by omega
   rw [nv, lim_pos h0, e2]; simp only [List.length_cons]
   omega
theorem lim_pw {n k : Nat} (h : n < pw k) : (lim n).length ≤ k := by
 induction k generalizing n with
 | zero =>
  have : n = 0 := by rw [pw_zero] at h; omega
  subst this; simp [lim_zero]
 | succ k ih =>
  by_cases h0 : n = 0
  ·subst h0; simp [lim_zero]
  ·rw [lim_pos h0]; have := ih (n := n / 4294967296) (by rw [pw_succ] at h; omega); simp only [List.length_cons]
   omega
theorem lt_pw_lim (n : Nat) : n < pw (lim n).length := by
 have := nv_lt (lb_lim n)
 rwa [nv_lim] at this
theorem pw_le_of_lim {n k : Nat} (h : k < (lim n).length) : pw k ≤ n := by
 rcases Nat.lt_or_ge n (pw k) with h1 | h1
 ·have := lim_pw h1; omega
 ·exact h1

def cmpN (a b : Nat) : Int := if a < b then -1 else if b < a then 1 else 0
theorem cmpN_lt {a b : Nat} (h : a < b) : cmpN a b = -1 := by simp [cmpN, h]
theorem cmpN_gt {a b : Nat} (h : b < a) : cmpN a b = 1 := by unfold cmpN; rw [if_neg (by omega), if_pos h]
theorem cmpN_eq {a b : Nat} (h : a = b) : cmpN a b = 0 := by unfold cmpN; rw [if_neg (by omega), if_neg (by omega)]

theorem nv_lt_of_drop {a b : List Nat} (ha : Lb a) {k : Nat} (hka : k ≤ a.length) (hkb : k ≤ b.length) (h : nv (a.drop k) < nv (b.drop k)) : nv a < nv b := by
 have h1 := nv_take_drop a k hka; have h2 := nv_take_drop b k hkb; have h3 := nv_lt (ha.take k); rw [List.length_take, Nat.min_eq_left hka] at h3; have h4 : pw k * (nv (a.drop k) + 1) ≤ pw k * nv (b.drop k) := Nat.mul_le_mul_left _ h; rw [Nat.mul_add] at h4
 omega
theorem nv_lt_of_len {a b : Nat} (h : (lim a).length < (lim b).length) : a < b := by
 have h1 := lt_pw_lim a; have h2 := pw_le_of_lim h
 omega

theorem drop_eq_step {a b : List Nat} {j : Nat} (ha : j < a.length) (hb : j < b.length) (h : a.drop (j + 1) = b.drop (j + 1)) (e : nth a j = nth b j) : a.drop j = b.drop j := by
 rw [drop_nth a j ha, drop_nth b j hb, h, e]
theorem nv_lt_at {a b : List Nat} (ha : Lb a) {j : Nat} (hja : j < a.length) (hjb : j < b.length) (h : a.drop (j + 1) = b.drop (j + 1)) (e : nth a j < nth b j) : nv a < nv b :=
 nv_lt_of_drop ha (Nat.le_of_lt hja) (Nat.le_of_lt hjb) (by rw [nv_drop a j hja, nv_drop b j hjb, h]; omega)

theorem nv_set_take {l : List Nat} {k v : Nat} (h : k < l.length) : nv ((l.set k v).take (k + 1)) = nv (l.take k) + pw k * v := by
 have h1 : nth (l.set k v) k = v := by rw [nth_eq _ _ (by simpa using h)]; simp
 rw [nv_take_succ _ _ (by simpa using h), h1, List.take_set_of_le (Nat.le_refl _)]
theorem add_step {out la lb : List Nat} {k C s : Nat} (h : nv (out.take k) + pw k * C = nv (la.take k) + nv (lb.take k)) (hk : k < out.length) (hs : s = C + nth la k + nth lb k) :
  nv ((out.set k (s % 4294967296)).take (k + 1)) + pw (k + 1) * (s / 4294967296) = nv (la.take (k + 1)) + nv (lb.take (k + 1)) := by
 have h1 : s % 4294967296 + 4294967296 * (s / 4294967296) = C + nth la k + nth lb k := by rw [← hs]; omega
 have h2 : pw k * (s % 4294967296) + 4294967296 * pw k * (s / 4294967296) = pw k * C + pw k * nth la k + pw k * nth lb k := by
  rw [← Nat.mul_add, ← Nat.mul_add, ← h1, Nat.mul_add, ← Nat.mul_assoc, Nat.mul_comm (pw k) 4294967296]
 rw [nv_set_take hk, nv_take_succ' la, nv_take_succ' lb, pw_succ]
 omega

def brw (x s : Nat) : Nat := if x < s then 1 else 0
theorem brw_le (x s : Nat) : brw x s ≤ 1 := by unfold brw; split <;> omega
theorem top31 (v : Nat) (h : v < 4294967296) : v / 2147483648 = (v.testBit 31).toNat := by
 have e : v.testBit 31 = decide (v / 2147483648 % 2 = 1) := Nat.testBit_eq_decide_div_mod_eq; rw [e]
 by_cases h1 : v / 2147483648 % 2 = 1
 ·simp [h1]; omega
 ·simp [h1]; omega
theorem tb31 (v : Nat) (h : v < 4294967296) : v.testBit 31 = decide (2147483648 ≤ v) := by
 have e : v.testBit 31 = decide (v / 2147483648 % 2 = 1) := Nat.testBit_eq_decide_div_mod_eq; rw [e]
 apply decide_eq_decide.2
 omega
theorem sub32_bit (x y b d : Nat) (hx : x < 4294967296) (hy : y < 4294967296) (hb : b ≤ 1) (hd : d = (x + 4294967296 - y - b) % 4294967296) :
  (((4294967295 ^^^ x) &&& y) ||| ((4294967295 ^^^ (x ^^^ y)) &&& d)) / 2147483648 = brw x (y + b) := by
 have hd' : d < 4294967296 := by omega
 have hx' : x < 2 ^ 32 := hx; have hy' : y < 2 ^ 32 := hy; have h1 : (4294967295 ^^^ x) &&& y < 2 ^ 32 := Nat.and_lt_two_pow _ hy'; have h2 : (4294967295 ^^^ (x ^^^ y)) &&& d < 2 ^ 32 := Nat.and_lt_two_pow _ hd'; rw [top31 _ (Nat.or_lt_two_pow h1 h2)]; simp only [Nat.testBit_or, Nat.testBit_and, Nat.testBit_xor, tb31 x hx, tb31 y hy, tb31 d hd', show Nat.testBit 4294967295 31 = true from rfl]; unfold brw
 by_cases c1 : 2147483648 ≤ x <;> by_cases c2 : 2147483648 ≤ y <;> by_cases c3 : 2147483648 ≤ d <;> by_cases c4 : x < y + b <;> simp [c1, c2, c3, c4] <;> omega

theorem brw_eq (x y b d : Nat) (hx : x < 4294967296) (hy : y < 4294967296) (hb : b ≤ 1) (hd : d = (x + 4294967296 - y - b) % 4294967296) : d + y + b = x + 4294967296 * brw x (y + b) := by
 unfold brw; split <;> omega
theorem sub_step {out la lb : List Nat} {k C d C' : Nat} (h : nv (out.take k) + nv (lb.take k) = nv (la.take k) + pw k * C) (hk : k < out.length) (hs : d + nth lb k + C = nth la k + 4294967296 * C') :
  nv ((out.set k d).take (k + 1)) + nv (lb.take (k + 1)) = nv (la.take (k + 1)) + pw (k + 1) * C' := by
 have h2 : pw k * d + pw k * nth lb k + pw k * C = pw k * nth la k + 4294967296 * pw k * C' := by
  rw [← Nat.mul_add, ← Nat.mul_add, hs, Nat.mul_add, ← Nat.mul_assoc, Nat.mul_comm (pw k) 4294967296]
 rw [nv_set_take hk, nv_take_succ' la, nv_take_succ' lb, pw_succ]
 omega
theorem sub_end {out la lb : List Nat} {C : Nat} (ho : Lb out) (hl : out.length = la.length) (hle : lb.length ≤ la.length) (hv : nv lb ≤ nv la) (h : nv (out.take la.length) + nv (lb.take la.length) = nv (la.take la.length) + pw la.length * C) : nv out = nv la - nv lb := by
 rw [nv_take_ge out _ (by omega), nv_take_ge lb _ hle, nv_take_ge la _ (Nat.le_refl _)] at h; have h1 := nv_lt ho; rw [hl] at h1
 rcases Nat.eq_zero_or_pos C with h0 | h0
 ·subst h0; omega
 ·have : pw la.length * 1 ≤ pw la.length * C := Nat.mul_le_mul_left _ h0
  omega
theorem nv_set {l : List Nat} {j v : Nat} (h : j < l.length) : nv (l.set j v) + pw j * nth l j = nv l + pw j * v := by
 have h1 := nv_take_drop l (j + 1) h; have h2 := nv_take_drop (l.set j v) (j + 1) (by rw [List.length_set]; exact h); rw [List.drop_set_of_lt (by omega)] at h2; have h3 := nv_set_take (v := v) h; have h4 := nv_take_succ l j h
 omega
theorem nth_set_ne {l : List Nat} {j k v : Nat} (h : j ≠ k) : nth (l.set j v) k = nth l k := by
 simp [nth, List.getElem?_set_ne h]
theorem nth_rep (n k : Nat) : nth (List.replicate n 0) k = 0 := by
 rcases Nat.lt_or_ge k n with h | h
 ·rw [nth_eq _ _ (by simpa using h)]; simp
 ·exact nth_ge _ _ (by simpa using h)
theorem mul_step {out lb : List Nat} {i k c x N s : Nat} (h : nv out + pw (i + k) * c = N + x * pw i * nv (lb.take k)) (hk : i + k < out.length) (hs : s = c + x * nth lb k + nth out (i + k)) :
  nv (out.set (i + k) (s % 4294967296)) + pw (i + (k + 1)) * (s / 4294967296) = N + x * pw i * nv (lb.take (k + 1)) := by
 have h1 : s % 4294967296 + 4294967296 * (s / 4294967296) = c + x * nth lb k + nth out (i + k) := by rw [← hs]; omega
 have h2 : pw (i + k) * (s % 4294967296) + 4294967296 * pw (i + k) * (s / 4294967296) = pw (i + k) * c + pw (i + k) * (x * nth lb k) + pw (i + k) * nth out (i + k) := by
  rw [← Nat.mul_add, ← Nat.mul_add, ← h1, Nat.mul_add, ← Nat.mul_assoc, Nat.mul_comm (pw (i + k)) 4294967296]
 have h3 := nv_set (v := s % 4294967296) hk
 have h4 : x * pw i * nv (lb.take (k + 1)) = x * pw i * nv (lb.take k) + pw (i + k) * (x * nth lb k) := by
  rw [nv_take_succ', Nat.mul_add, pw_add]
  congr 1
  rw [← Nat.mul_assoc, ← Nat.mul_assoc, Nat.mul_comm x (pw i), Nat.mul_assoc (pw i) x (pw k), Nat.mul_comm x (pw k), ← Nat.mul_assoc]
 rw [← Nat.add_assoc, pw_succ]
 omega
theorem mul_end {out la lb : List Nat} {i c : Nat} (h : nv out + pw (i + lb.length) * c = nv (la.take i) * nv lb + nth la i * pw i * nv (lb.take lb.length)) (hk : i + lb.length < out.length) (hz : nth out (i + lb.length) = 0) :
  nv (out.set (i + lb.length) c) = nv (la.take (i + 1)) * nv lb := by
 have h3 := nv_set (v := c) hk; rw [hz, Nat.mul_zero, Nat.add_zero] at h3; rw [h3, h, nv_take_ge lb _ (Nat.le_refl _), nv_take_succ', Nat.add_mul, Nat.mul_comm (nth la i) (pw i)]

structure Z where
 neg : Bool
 mag : List Nat
def Z.v (z : Z) : Int := if z.neg then -(nv z.mag : Int) else nv z.mag
def cz (x : Int) : Z := ⟨decide (x < 0), lim x.natAbs⟩
def zl (x : Int) : Nat := (lim x.natAbs).length
theorem cz_mag (x : Int) : (cz x).mag = lim x.natAbs := rfl
theorem cz_len (x : Int) : (cz x).mag.length = zl x := rfl
theorem cz_v (x : Int) : (cz x).v = x := by
 unfold Z.v cz; simp only [nv_lim]
 by_cases h : x < 0
 ·simp [h]; omega
 ·simp [h]; omega
theorem natAbs_v (z : Z) : z.v.natAbs = nv z.mag := by unfold Z.v; split <;> omega
theorem zl_of {z : Z} (h : Lb z.mag) : zl z.v ≤ z.mag.length := by unfold zl; rw [natAbs_v]; exact lim_len_le h
theorem pw2 (k : Nat) : 2 * pw k ≤ pw (k + 1) := by rw [pw_succ]; have := pw_pos k; omega
theorem lt_pw_zl (x : Int) : x.natAbs < pw (zl x) := lt_pw_lim _
theorem zl_le {x : Int} {k : Nat} (h : x.natAbs < pw k) : zl x ≤ k := lim_pw h
theorem zl_add {x y : Int} {k : Nat} (hx : zl x ≤ k) (hy : zl y ≤ k) : zl (x + y) ≤ k + 1 := by
 apply zl_le
 have h1 := lt_pw_zl x; have h2 := lt_pw_zl y
 have h3 := pw_mono hx; have h4 := pw_mono hy; have h5 := pw2 k
 omega
theorem zl_neg (x : Int) : zl (-x) = zl x := by unfold zl; rw [Int.natAbs_neg]
theorem zl_sub {x y : Int} {k : Nat} (hx : zl x ≤ k) (hy : zl y ≤ k) : zl (x - y) ≤ k + 1 := by
 rw [Int.sub_eq_add_neg]; exact zl_add hx (by rw [zl_neg]; exact hy)
theorem zl_mul (x y : Int) : zl (x * y) ≤ zl x + zl y := by
 apply zl_le
 rw [Int.natAbs_mul, pw_add]; exact Nat.mul_lt_mul_of_lt_of_le (lt_pw_zl x) (Nat.le_of_lt (lt_pw_zl y)) (pw_pos _)
theorem zl_small {x : Int} (h : x.natAbs < 4294967296) : zl x ≤ 1 := zl_le (by rw [pw_succ, pw_zero]; omega)
theorem zl_word {x : Int} (h : x.natAbs < 18446744073709551616) : zl x ≤ 2 := zl_le (by rw [pw_succ, pw_succ, pw_zero]; omega)

def cmpI (x y : Int) : Int := if x < y then -1 else if y < x then 1 else 0
def sgn (x : Int) : Int := cmpI x 0
theorem cmpI_lt {a b : Int} (h : a < b) : cmpI a b = -1 := by simp [cmpI, h]
theorem cmpI_gt {a b : Int} (h : b < a) : cmpI a b = 1 := by unfold cmpI; rw [if_neg (by omega), if_pos h]
theorem cmpI_eq {a b : Int} (h : a = b) : cmpI a b = 0 := by unfold cmpI; rw [if_neg (by omega), if_neg (by omega)]
theorem cmpN_I (a b : Nat) : cmpN a b = cmpI a b := by
 rcases Nat.lt_trichotomy a b with h | h | h
 ·rw [cmpN_lt h, cmpI_lt (by omega)]
 ·rw [cmpN_eq h, cmpI_eq (by omega)]
 ·rw [cmpN_gt h, cmpI_gt (by omega)]
theorem cmpI_zero {a b : Int} : cmpI a b = 0 ↔ a = b := by unfold cmpI; split <;> (try split) <;> omega
theorem cmpI_neg {a b : Int} : cmpI a b < 0 ↔ a < b := by unfold cmpI; split <;> (try split) <;> omega
theorem cmpI_bd (a b : Int) : -1 ≤ cmpI a b ∧ cmpI a b ≤ 1 := by unfold cmpI; split <;> (try split) <;> omega
theorem cmpI_swap (a b : Int) : cmpI b a = -cmpI a b := by unfold cmpI; split <;> (try split) <;> (try split) <;> omega
theorem nv_pos_of {l : List Nat} {k : Nat} (h : nth l k ≠ 0) : 0 < nv l := by
 have h1 := nv_take_succ' l k; have h2 : 0 < pw k * nth l k := Nat.mul_pos (pw_pos k) (Nat.pos_of_ne_zero h)
 rcases Nat.lt_or_ge k l.length with hk | hk
 ·have h3 := nv_take_drop l (k + 1) hk
  omega
 ·exact absurd (nth_ge l k hk) h
theorem nv_zero_of {l : List Nat} (h : ∀ k, k < l.length → nth l k = 0) : nv l = 0 := by
 induction l with
 | nil => rfl
 | cons x r ih =>
  have h1 := h 0 (by simp); have h2 := ih (fun k hk => by simpa [nth] using h (k + 1) (by simpa using hk)); simp [nth] at h1; simp [nv, h1, h2]

theorem sgn_bd (a : Int) : -1 ≤ sgn a ∧ sgn a ≤ 1 := cmpI_bd a 0
theorem sgn_lt {a b : Int} (h : sgn a < sgn b) : a < b := by unfold sgn cmpI at h; split at h <;> split at h <;> (try split at h) <;> (try split at h) <;> omega
theorem sgn_neg {a : Int} : sgn a < 0 ↔ a < 0 := cmpI_neg
theorem sgn_zero {a : Int} : sgn a = 0 ↔ a = 0 := cmpI_zero
theorem cmp_mags {x y : Z} (h : sgn x.v = sgn y.v) : (sgn x.v < 0 → cmpI x.v y.v = cmpN (nv y.mag) (nv x.mag)) ∧ (0 ≤ sgn x.v → cmpI x.v y.v = cmpN (nv x.mag) (nv y.mag)) := by
 have hx := natAbs_v x; have hy := natAbs_v y
 constructor
 ·intro h0; have h1 := sgn_neg.1 h0; have h2 := sgn_neg.1 (h ▸ h0); rw [cmpN_I]
  have e1 : x.v = -(nv x.mag : Int) := by omega
  have e2 : y.v = -(nv y.mag : Int) := by omega
  rw [e1, e2]
  rcases Int.lt_trichotomy (nv x.mag : Int) (nv y.mag) with h | h | h
  ·rw [cmpI_gt (by omega), cmpI_gt h]
  ·rw [cmpI_eq (by omega), cmpI_eq h.symm]
  ·rw [cmpI_lt (by omega), cmpI_lt h]
 ·intro h0
  have h1 : ¬ x.v < 0 := fun hh => by have := sgn_neg.2 hh; omega
  have h2 : ¬ y.v < 0 := fun hh => by have := sgn_neg.2 hh; omega
  rw [cmpN_I]
  have e1 : x.v = (nv x.mag : Int) := by omega
  have e2 : y.v = (nv y.mag : Int) := by omega
  rw [e1, e2]

theorem v_add_same (n : Bool) (a b : List Nat) : Z.v ⟨n, lim (nv a + nv b)⟩ = Z.v ⟨n, a⟩ + Z.v ⟨n, b⟩ := by
 unfold Z.v; simp only [nv_lim]; cases n <;> simp <;> omega
theorem v_add_other (n m : Bool) (a b : List Nat) (hne : n ≠ m) (h : nv b ≤ nv a) : Z.v ⟨n, lim (nv a - nv b)⟩ = Z.v ⟨n, a⟩ + Z.v ⟨m, b⟩ := by
 unfold Z.v; simp only [nv_lim]; cases n <;> cases m <;> simp at hne ⊢ <;> omega
theorem v_mul (n m : Bool) (a b : List Nat) : Z.v ⟨!(n == m), lim (nv a * nv b)⟩ = Z.v ⟨n, a⟩ * Z.v ⟨m, b⟩ := by
 unfold Z.v; simp only [nv_lim]; cases n <;> cases m <;> simp [Int.neg_mul, Int.mul_neg]

theorem cz_made (neg : Bool) (l : List Nat) : cz (Z.v ⟨neg, l⟩) = ⟨neg && decide (0 < (lim (nv l)).length), lim (nv l)⟩ := by
 have h := lim_len_pos (nv l); unfold cz; rw [natAbs_v]
 congr 1
 cases neg
 ·simp [Z.v]
 ·simp [Z.v]
  omega

theorem radd_step {out a b : List Nat} {i C s : Nat} (h : nv out + pw i * C = nv (a.take i) + nv (b.take i)) (hl : out.length = i) (hs : s = nth a i + nth b i + C) :
  nv (out ++ [s % 4294967296]) + pw (i + 1) * (s / 4294967296) = nv (a.take (i + 1)) + nv (b.take (i + 1)) := by
 have h1 : s % 4294967296 + 4294967296 * (s / 4294967296) = nth a i + nth b i + C := by rw [← hs]; omega
 have h2 : pw i * (s % 4294967296) + 4294967296 * pw i * (s / 4294967296) = pw i * nth a i + pw i * nth b i + pw i * C := by
  rw [← Nat.mul_add, ← Nat.mul_add, ← h1, Nat.mul_add, ← Nat.mul_assoc, Nat.mul_comm (pw i) 4294967296]
 rw [nv_snoc, hl, nv_take_succ' a, nv_take_succ' b, pw_succ]
 omega
theorem rsub_step {out a b : List Nat} {i C d : Nat} (h : nv out + nv (b.take i) = nv (a.take i) + pw i * C) (hl : out.length = i) (hd : d + nth b i + C = nth a i + 4294967296) (hC : d / 4294967296 ≤ 1) :
  nv (out ++ [d % 4294967296]) + nv (b.take (i + 1)) = nv (a.take (i + 1)) + pw (i + 1) * (1 - d / 4294967296) := by
 have h1 : d % 4294967296 + nth b i + C = nth a i + 4294967296 * (1 - d / 4294967296) := by omega
 have h2 : pw i * (d % 4294967296) + pw i * nth b i + pw i * C = pw i * nth a i + 4294967296 * pw i * (1 - d / 4294967296) := by
  rw [← Nat.mul_add, ← Nat.mul_add, h1, Nat.mul_add, ← Nat.mul_assoc, Nat.mul_comm (pw i) 4294967296]
 rw [nv_snoc, hl, nv_take_succ' a, nv_take_succ' b, pw_succ]
 omega
theorem rsub_end {out a b : List Nat} {C : Nat} (ho : Lb out) (ha : Lb a) (hl : out.length = a.length) (hv : nv b ≤ nv a) (h : nv out + nv (b.take a.length) = nv (a.take a.length) + pw a.length * C) : nv out = nv a - nv b := by
 have h0 : nv (b.take a.length) = nv b := by
  rcases Nat.lt_or_ge a.length b.length with h1 | h1
  ·have h2 := nv_take_drop b a.length (by omega); have h3 := nv_lt ha
   rcases Nat.eq_zero_or_pos (nv (b.drop a.length)) with h4 | h4
   ·rw [h4] at h2; omega
   ·have : pw a.length * 1 ≤ pw a.length * nv (b.drop a.length) := Nat.mul_le_mul_left _ h4
    omega
  ·exact nv_take_ge _ _ h1
 rw [h0, nv_take_ge a _ (Nat.le_refl _)] at h; have h1 := nv_lt ho; rw [hl] at h1
 rcases Nat.eq_zero_or_pos C with h2 | h2
 ·subst h2; omega
 ·have : pw a.length * 1 ≤ pw a.length * C := Nat.mul_le_mul_left _ h2
  omega
theorem rtimes_step {out a : List Nat} {i C s n m : Nat} (h : nv out + pw i * C = nv (a.take i) * n + m) (hl : out.length = i) (hs : s = nth a i * n + C) :
  nv (out ++ [s % 4294967296]) + pw (i + 1) * (s / 4294967296) = nv (a.take (i + 1)) * n + m := by
 have h1 : s % 4294967296 + 4294967296 * (s / 4294967296) = nth a i * n + C := by rw [← hs]; omega
 have h2 : pw i * (s % 4294967296) + 4294967296 * pw i * (s / 4294967296) = pw i * (nth a i * n) + pw i * C := by
  rw [← Nat.mul_add, ← h1, Nat.mul_add, ← Nat.mul_assoc, Nat.mul_comm (pw i) 4294967296]
 rw [nv_snoc, hl, nv_take_succ' a, pw_succ, Nat.add_mul, Nat.mul_assoc (pw i)]
 omega
theorem cmp_step {a b : List Nat} (ha : Lb a) (hb : Lb b) (i : Nat) (_hia : i ≤ a.length ∨ True) :
  (nth a i < nth b i → cmpN (nv (a.take (i + 1))) (nv (b.take (i + 1))) = -1) ∧ (nth b i < nth a i → cmpN (nv (a.take (i + 1))) (nv (b.take (i + 1))) = 1) ∧
   (nth a i = nth b i → cmpN (nv (a.take (i + 1))) (nv (b.take (i + 1))) = cmpN (nv (a.take i)) (nv (b.take i))) := by
 clear _hia; have h1 := nv_lt (ha.take i); have h2 := nv_lt (hb.take i); have h3 : pw (a.take i).length ≤ pw i := pw_mono (by rw [List.length_take]; omega); have h4 : pw (b.take i).length ≤ pw i := pw_mono (by rw [List.length_take]; omega); have e1 := nv_take_succ' a i; have e2 := nv_take_succ' b i; refine ⟨fun h => cmpN_lt ?_, fun h => cmpN_gt ?_, fun h => ?_⟩
 ·have : pw i * (nth a i + 1) ≤ pw i * nth b i := Nat.mul_le_mul_left _ h; rw [Nat.mul_add] at this
  omega
 ·have : pw i * (nth b i + 1) ≤ pw i * nth a i := Nat.mul_le_mul_left _ h; rw [Nat.mul_add] at this
  omega
 ·rw [e1, e2, h]; unfold cmpN
  split <;> split <;> (try split) <;> (try split) <;> first | rfl | omega

end Go.Proofs.YtpkfjbljhneenaaGreat

namespace Go.Proofs.YtpkfjbljhneenaaGreat

structure T where
 ps : List (Int × Z)
 k : Z

def vl (ps : List (Int × Z)) : List (Int × Int) := ps.map fun p => (p.1, p.2.v)
def lay : List (Int × Int) → Int × Int → List (Int × Int)
 | [], p => [p]
 | q :: l, p => if q.1 < p.1 then q :: lay l p else if q.1 = p.1 then (q.1, q.2 + p.2) :: l else p :: q :: l
def laidL (l : List (Int × Int)) : List (Int × Int) := l.foldl lay []
def cn (l : List (Int × Int)) : List (Int × Int) := (laidL l).filter fun p => p.2 != 0
end Go.Proofs.YtpkfjbljhneenaaGreat
