/- Plain laws of limbs: lists of numbers below 2^32, the least first, and what they say. No program in sight. No conditions. Linear terms, in plain words: lists of (variable, coefficient), their canonical form, values, order. No program here. Long division by limbs, plain: the guess of one limb; times and take away; add back. Values of terms, in plain words. No program here. -/
import Init
namespace Go.Proofs.YthmjgbkakjpfkaaGreatDoor

def nth (l : List Nat) (k : Nat) : Nat := l.getD k 0
theorem nth_eq (l : List Nat) (k : Nat) (h : k < l.length) : nth l k = l[k] := by simp [nth, h]
theorem nth_ge (l : List Nat) (k : Nat) (h : l.length ≤ k) : nth l k = 0 := by simp [nth, List.getElem?_eq_none h]

def nv : List Nat → Nat
  | [] => 0
  | x :: r => x + 4294967296 * nv r
def Lb (l : List Nat) : Prop := ∀ x ∈ l, x < 4294967296
theorem Lb.nil : Lb [] := by intro x h; cases h
theorem Lb.cons {x : Nat} {l : List Nat} (hx : x < 4294967296) (h : Lb l) : Lb (x :: l) := by
  intro y hy; rcases List.mem_cons.1 hy with rfl | hy
  · exact hx
  · exact h y hy
theorem Lb.head {x : Nat} {l : List Nat} (h : Lb (x :: l)) : x < 4294967296 := h x (by simp)
theorem Lb.tail {x : Nat} {l : List Nat} (h : Lb (x :: l)) : Lb l := fun y hy => h y (by simp [hy])
theorem Lb.take {l : List Nat} (h : Lb l) (k : Nat) : Lb (l.take k) := fun y hy => h y (List.mem_of_mem_take hy)
theorem Lb.drop {l : List Nat} (h : Lb l) (k : Nat) : Lb (l.drop k) := fun y hy => h y (List.mem_of_mem_drop hy)
theorem Lb.append {l m : List Nat} (h : Lb l) (k : Lb m) : Lb (l ++ m) := fun y hy => (List.mem_append.1 hy).elim (h y) (k y)
theorem Lb.rep (n : Nat) : Lb (List.replicate n 0) := fun y hy => by rw [(List.mem_replicate.1 hy).2]; omega
theorem Lb.nth {l : List Nat} (h : Lb l) (k : Nat) : nth l k < 4294967296 := by
  rcases Nat.lt_or_ge k l.length with hk | hk
  · rw [nth_eq l k hk]; exact h _ (List.getElem_mem hk)
  · rw [nth_ge l k hk]; omega

def pw (k : Nat) : Nat := 4294967296 ^ k
theorem pw_zero : pw 0 = 1 := rfl
theorem pw_succ (k : Nat) : pw (k + 1) = 4294967296 * pw k := by unfold pw; rw [Nat.pow_succ, Nat.mul_comm]
theorem pw_pos (k : Nat) : 0 < pw k := by unfold pw; exact Nat.pos_of_ne_zero (by simp)
theorem pw_add (a b : Nat) : pw (a + b) = pw a * pw b := by unfold pw; rw [Nat.pow_add]
theorem pw_mono {a b : Nat} (h : a ≤ b) : pw a ≤ pw b := by unfold pw; exact Nat.pow_le_pow_right (by omega) h

theorem nv_append (l m : List Nat) : nv (l ++ m) = nv l + pw l.length * nv m := by
  induction l with
  | nil => simp [nv, pw_zero]
  | cons x r ih => simp only [List.cons_append, nv, ih, List.length_cons, pw_succ, Nat.mul_add, Nat.mul_assoc]; omega
theorem nv_one (x : Nat) : nv [x] = x := by simp [nv]
theorem nv_snoc (l : List Nat) (x : Nat) : nv (l ++ [x]) = nv l + pw l.length * x := by rw [nv_append, nv_one]
theorem nv_lt {l : List Nat} (h : Lb l) : nv l < pw l.length := by
  induction l with
  | nil => simp [nv, pw_zero]
  | cons x r ih =>
    have h1 := ih h.tail
    have h2 := h.head
    simp only [nv, List.length_cons, pw_succ]
    omega
theorem nv_rep (n : Nat) : nv (List.replicate n 0) = 0 := by
  induction n with
  | zero => rfl
  | succ n ih => simp [List.replicate_succ, nv, ih]
theorem nv_take_drop (l : List Nat) (k : Nat) (h : k ≤ l.length) : nv l = nv (l.take k) + pw k * nv (l.drop k) := by
  have := nv_append (l.take k) (l.drop k)
  rw [List.take_append_drop, List.length_take, Nat.min_eq_left h] at this
  exact this
theorem take_succ_nth (l : List Nat) (k : Nat) (h : k < l.length) : l.take (k + 1) = l.take k ++ [nth l k] := by
  rw [nth_eq l k h, List.take_succ_eq_append_getElem h]
theorem nv_take_succ (l : List Nat) (k : Nat) (h : k < l.length) : nv (l.take (k + 1)) = nv (l.take k) + pw k * nth l k := by
  rw [take_succ_nth l k h, nv_snoc, List.length_take, Nat.min_eq_left (by omega)]
theorem nv_take_ge (l : List Nat) (k : Nat) (h : l.length ≤ k) : nv (l.take k) = nv l := by rw [List.take_of_length_le h]
theorem nv_take_succ' (l : List Nat) (k : Nat) : nv (l.take (k + 1)) = nv (l.take k) + pw k * nth l k := by
  rcases Nat.lt_or_ge k l.length with h | h
  · exact nv_take_succ l k h
  · rw [nth_ge l k h, nv_take_ge l (k + 1) (by omega), nv_take_ge l k h]; simp
theorem drop_nth (l : List Nat) (k : Nat) (h : k < l.length) : l.drop k = nth l k :: l.drop (k + 1) := by
  rw [nth_eq l k h, List.drop_eq_getElem_cons h]
theorem nv_drop (l : List Nat) (k : Nat) (h : k < l.length) : nv (l.drop k) = nth l k + 4294967296 * nv (l.drop (k + 1)) := by
  rw [drop_nth l k h]; rfl

def limF : Nat → Nat → List Nat
  | 0, _ => []
  | f + 1, n => if n = 0 then [] else n % 4294967296 :: limF f (n / 4294967296)
def lim (n : Nat) : List Nat := limF n n
theorem limF_eq : ∀ (f g n : Nat), n ≤ f → n ≤ g → limF f n = limF g n := by
  intro f
  induction f with
  | zero =>
    intro g n hf hg
    have : n = 0 := by omega
    subst this
    cases g <;> simp [limF]
  | succ f ih =>
    intro g n hf hg
    by_cases h0 : n = 0
    · subst h0; cases g <;> simp [limF]
    · cases g with
      | zero => omega
      | succ g =>
        simp only [limF, h0, if_false]
        rw [ih g (n / 4294967296) (by omega) (by omega)]
theorem lim_zero : lim 0 = [] := rfl
theorem lim_pos {n : Nat} (h : n ≠ 0) : lim n = n % 4294967296 :: lim (n / 4294967296) := by
  unfold lim
  cases n with
  | zero => omega
  | succ n =>
    show limF (n + 1) (n + 1) = _
    simp only [limF, h, if_false]
    rw [limF_eq n ((n + 1) / 4294967296) _ (by omega) (Nat.le_refl _)]
theorem nv_lim (n : Nat) : nv (lim n) = n := by
  induction n using Nat.strongRecOn with
  | _ n ih =>
    by_cases h : n = 0
    · subst h; rfl
    · rw [lim_pos h, nv, ih _ (by omega)]; omega
theorem lb_lim (n : Nat) : Lb (lim n) := by
  induction n using Nat.strongRecOn with
  | _ n ih =>
    by_cases h : n = 0
    · subst h; exact Lb.nil
    · rw [lim_pos h]; exact Lb.cons (by omega) (ih _ (by omega))
theorem lim_nil_iff (n : Nat) : lim n = [] ↔ n = 0 := by
  constructor
  · intro h
    have := nv_lim n
    rw [h] at this
    exact this.symm
  · rintro rfl; rfl
theorem lim_len_pos (n : Nat) : 0 < (lim n).length ↔ n ≠ 0 := by
  rw [List.length_pos_iff, Ne, lim_nil_iff]
theorem lim_nv_last {m : List Nat} (h : Lb m) (hl : m ≠ [] → nth m (m.length - 1) ≠ 0) : lim (nv m) = m := by
  induction m with
  | nil => rfl
  | cons x r ih =>
    have hx := h.head
    by_cases hr : r = []
    · subst hr
      have h0 : x ≠ 0 := by simpa [nth] using hl (by simp)
      have e : nv [x] = x := nv_one x
      rw [e, lim_pos h0, Nat.mod_eq_of_lt hx, Nat.div_eq_of_lt hx, lim_zero]
    · have h1 : r ≠ [] → nth r (r.length - 1) ≠ 0 := fun _ => by
        have h2 := hl (by simp)
        have h3 : 0 < r.length := List.length_pos_iff.2 hr
        simp only [nth, List.length_cons, Nat.add_sub_cancel] at h2 ⊢
        obtain ⟨k, hk⟩ : ∃ k, r.length = k + 1 := ⟨r.length - 1, by omega⟩
        rw [hk] at h2 ⊢
        simpa using h2
      have h2 := ih h.tail h1
      have h3 : nv r ≠ 0 := by
        intro h0
        rw [h0, lim_zero] at h2
        exact hr h2.symm
      have e1 : (x + 4294967296 * nv r) % 4294967296 = x := by omega
      have e2 : (x + 4294967296 * nv r) / 4294967296 = nv r := by omega
      rw [nv, lim_pos (by omega), e1, e2, h2]
theorem lim_last (n : Nat) (h : n ≠ 0) : nth (lim n) ((lim n).length - 1) ≠ 0 := by
  induction n using Nat.strongRecOn with
  | _ n ih =>
    rw [lim_pos h]
    by_cases hq : n / 4294967296 = 0
    · rw [hq, lim_zero]
      simp only [nth, List.length_cons, List.length_nil]
      simp; omega
    · have h1 := ih _ (by omega) hq
      have h2 : 0 < (lim (n / 4294967296)).length := (lim_len_pos _).2 hq
      obtain ⟨k, hk⟩ : ∃ k, (lim (n / 4294967296)).length = k + 1 := ⟨(lim (n / 4294967296)).length - 1, by omega⟩
      simp only [nth, List.length_cons, hk] at h1 ⊢
      simpa using h1
theorem take_lim {l : List Nat} (h : Lb l) {n : Nat} (hn : n ≤ l.length) (hz : ∀ k, n ≤ k → k < l.length → nth l k = 0) (hl : 0 < n → nth l (n - 1) ≠ 0) : l.take n = lim (nv l) := by
  have h0 : ∀ m : List Nat, (∀ k, k < m.length → nth m k = 0) → nv m = 0 := by
    intro m
    induction m with
    | nil => intro _; rfl
    | cons x r ih =>
      intro hm
      have h1 := hm 0 (by simp)
      have h2 := ih (fun k hk => by simpa [nth] using hm (k + 1) (by simpa using hk))
      simp only [nth] at h1
      simp at h1
      simp [nv, h1, h2]
  have h1 : nv (l.drop n) = 0 := h0 _ (fun k hk => by
    have := hz (n + k) (by omega) (by rw [List.length_drop] at hk; omega)
    simpa [nth, List.getElem?_drop] using this)
  have h2 := nv_take_drop l n hn
  rw [h1, Nat.mul_zero, Nat.add_zero] at h2
  rw [h2]
  refine (lim_nv_last (h.take n) fun hne => ?_).symm
  have hlen : (l.take n).length = n := by rw [List.length_take]; omega
  rw [hlen]
  have hn0 : 0 < n := by
    rcases Nat.eq_zero_or_pos n with e | e
    · subst e; simp at hne
    · exact e
  have := hl hn0
  rw [nth_eq _ _ (by omega)] at this
  rw [nth_eq _ _ (by omega), List.getElem_take]
  exact this
theorem lim_len_le {l : List Nat} (h : Lb l) : (lim (nv l)).length ≤ l.length := by
  induction l with
  | nil => simp [nv, lim_zero]
  | cons x r ih =>
    have h1 := ih h.tail
    have hx := h.head
    by_cases h0 : x + 4294967296 * nv r = 0
    · simp [nv, h0, lim_zero]
    · have e2 : (x + 4294967296 * nv r) / 4294967296 = nv r := by omega
      rw [nv, lim_pos h0, e2]
      simp only [List.length_cons]
      omega
theorem lim_pw {n k : Nat} (h : n < pw k) : (lim n).length ≤ k := by
  induction k generalizing n with
  | zero =>
    have : n = 0 := by rw [pw_zero] at h; omega
    subst this; simp [lim_zero]
  | succ k ih =>
    by_cases h0 : n = 0
    · subst h0; simp [lim_zero]
    · rw [lim_pos h0]
      have := ih (n := n / 4294967296) (by rw [pw_succ] at h; omega)
      simp only [List.length_cons]
      omega
theorem lt_pw_lim (n : Nat) : n < pw (lim n).length := by
  have := nv_lt (lb_lim n)
  rwa [nv_lim] at this
theorem pw_le_of_lim {n k : Nat} (h : k < (lim n).length) : pw k ≤ n := by
  rcases Nat.lt_or_ge n (pw k) with h1 | h1
  · have := lim_pw h1; omega
  · exact h1

def cmpN (a b : Nat) : Int := if a < b then -1 else if b < a then 1 else 0
theorem cmpN_lt {a b : Nat} (h : a < b) : cmpN a b = -1 := by simp [cmpN, h]
theorem cmpN_gt {a b : Nat} (h : b < a) : cmpN a b = 1 := by unfold cmpN; rw [if_neg (by omega), if_pos h]
theorem cmpN_eq {a b : Nat} (h : a = b) : cmpN a b = 0 := by unfold cmpN; rw [if_neg (by omega), if_neg (by omega)]

theorem nv_lt_of_drop {a b : List Nat} (ha : Lb a) {k : Nat} (hka : k ≤ a.length) (hkb : k ≤ b.length) (h : nv (a.drop k) < nv (b.drop k)) : nv a < nv b := by
  have h1 := nv_take_drop a k hka
  have h2 := nv_take_drop b k hkb
  have h3 := nv_lt (ha.take k)
  rw [List.length_take, Nat.min_eq_left hka] at h3
  have h4 : pw k * (nv (a.drop k) + 1) ≤ pw k * nv (b.drop k) := Nat.mul_le_mul_left _ h
  rw [Nat.mul_add] at h4
  omega
theorem nv_lt_of_len {a b : Nat} (h : (lim a).length < (lim b).length) : a < b := by
  have h1 := lt_pw_lim a
  have h2 := pw_le_of_lim h
  omega

theorem drop_eq_step {a b : List Nat} {j : Nat} (ha : j < a.length) (hb : j < b.length) (h : a.drop (j + 1) = b.drop (j + 1)) (e : nth a j = nth b j) : a.drop j = b.drop j := by
  rw [drop_nth a j ha, drop_nth b j hb, h, e]
theorem nv_lt_at {a b : List Nat} (ha : Lb a) {j : Nat} (hja : j < a.length) (hjb : j < b.length) (h : a.drop (j + 1) = b.drop (j + 1)) (e : nth a j < nth b j) : nv a < nv b :=
  nv_lt_of_drop ha (Nat.le_of_lt hja) (Nat.le_of_lt hjb) (by rw [nv_drop a j hja, nv_drop b j hjb, h]; omega)

theorem nv_set_take {l : List Nat} {k v : Nat} (h : k < l.length) : nv ((l.set k v).take (k + 1)) = nv (l.take k) + pw k * v := by
  have h1 : nth (l.set k v) k = v := by rw [nth_eq _ _ (by simpa using h)]; simp
  rw [nv_take_succ _ _ (by simpa using h), h1, List.take_set_of_le (Nat.le_refl _)]
theorem add_step {out la lb : List Nat} {k C s : Nat} (h : nv (out.take k) + pw k * C = nv (la.take k) + nv (lb.take k)) (hk : k < out.length) (hs : s = C + nth la k + nth lb k) :
    nv ((out.set k (s % 4294967296)).take (k + 1)) + pw (k + 1) * (s / 4294967296) = nv (la.take (k + 1)) + nv (lb.take (k + 1)) := by
  have h1 : s % 4294967296 + 4294967296 * (s / 4294967296) = C + nth la k + nth lb k := by rw [← hs]; omega
  have h2 : pw k * (s % 4294967296) + 4294967296 * pw k * (s / 4294967296) = pw k * C + pw k * nth la k + pw k * nth lb k := by
    rw [← Nat.mul_add, ← Nat.mul_add, ← h1, Nat.mul_add, ← Nat.mul_assoc, Nat.mul_comm (pw k) 4294967296]
  rw [nv_set_take hk, nv_take_succ' la, nv_take_succ' lb, pw_succ]
  omega

def brw (x s : Nat) : Nat := if x < s then 1 else 0
theorem brw_le (x s : Nat) : brw x s ≤ 1 := by unfold brw; split <;> omega
theorem top31 (v : Nat) (h : v < 4294967296) : v / 2147483648 = (v.testBit 31).toNat := by
  have e : v.testBit 31 = decide (v / 2147483648 % 2 = 1) := Nat.testBit_eq_decide_div_mod_eq
  rw [e]
  by_cases h1 : v / 2147483648 % 2 = 1
  · simp [h1]; omega
  · simp [h1]; omega
theorem tb31 (v : Nat) (h : v < 4294967296) : v.testBit 31 = decide (2147483648 ≤ v) := by
  have e : v.testBit 31 = decide (v / 2147483648 % 2 = 1) := Nat.testBit_eq_decide_div_mod_eq
  rw [e]
  apply decide_eq_decide.2
  omega
theorem sub32_bit (x y b d : Nat) (hx : x < 4294967296) (hy : y < 4294967296) (hb : b ≤ 1) (hd : d = (x + 4294967296 - y - b) % 4294967296) :
    (((4294967295 ^^^ x) &&& y) ||| ((4294967295 ^^^ (x ^^^ y)) &&& d)) / 2147483648 = brw x (y + b) := by
  have hd' : d < 4294967296 := by omega
  have hx' : x < 2 ^ 32 := hx
  have hy' : y < 2 ^ 32 := hy
  have h1 : (4294967295 ^^^ x) &&& y < 2 ^ 32 := Nat.and_lt_two_pow _ hy'
  have h2 : (4294967295 ^^^ (x ^^^ y)) &&& d < 2 ^ 32 := Nat.and_lt_two_pow _ hd'
  rw [top31 _ (Nat.or_lt_two_pow h1 h2)]
  simp only [Nat.testBit_or, Nat.testBit_and, Nat.testBit_xor, tb31 x hx, tb31 y hy, tb31 d hd', show Nat.testBit 4294967295 31 = true from rfl]
  unfold brw
  by_cases c1 : 2147483648 ≤ x <;> by_cases c2 : 2147483648 ≤ y <;> by_cases c3 : 2147483648 ≤ d <;> by_cases c4 : x < y + b <;> simp [c1, c2, c3, c4] <;> omega

theorem brw_eq (x y b d : Nat) (hx : x < 4294967296) (hy : y < 4294967296) (hb : b ≤ 1) (hd : d = (x + 4294967296 - y - b) % 4294967296) : d + y + b = x + 4294967296 * brw x (y + b) := by
  unfold brw; split <;> omega
theorem sub_step {out la lb : List Nat} {k C d C' : Nat} (h : nv (out.take k) + nv (lb.take k) = nv (la.take k) + pw k * C) (hk : k < out.length) (hs : d + nth lb k + C = nth la k + 4294967296 * C') :
    nv ((out.set k d).take (k + 1)) + nv (lb.take (k + 1)) = nv (la.take (k + 1)) + pw (k + 1) * C' := by
  have h2 : pw k * d + pw k * nth lb k + pw k * C = pw k * nth la k + 4294967296 * pw k * C' := by
    rw [← Nat.mul_add, ← Nat.mul_add, hs, Nat.mul_add, ← Nat.mul_assoc, Nat.mul_comm (pw k) 4294967296]
  rw [nv_set_take hk, nv_take_succ' la, nv_take_succ' lb, pw_succ]
  omega
theorem sub_end {out la lb : List Nat} {C : Nat} (ho : Lb out) (hl : out.length = la.length) (hle : lb.length ≤ la.length) (hv : nv lb ≤ nv la) (h : nv (out.take la.length) + nv (lb.take la.length) = nv (la.take la.length) + pw la.length * C) : nv out = nv la - nv lb := by
  rw [nv_take_ge out _ (by omega), nv_take_ge lb _ hle, nv_take_ge la _ (Nat.le_refl _)] at h
  have h1 := nv_lt ho
  rw [hl] at h1
  rcases Nat.eq_zero_or_pos C with h0 | h0
  · subst h0; omega
  · have : pw la.length * 1 ≤ pw la.length * C := Nat.mul_le_mul_left _ h0
    omega
theorem nv_set {l : List Nat} {j v : Nat} (h : j < l.length) : nv (l.set j v) + pw j * nth l j = nv l + pw j * v := by
  have h1 := nv_take_drop l (j + 1) h
  have h2 := nv_take_drop (l.set j v) (j + 1) (by rw [List.length_set]; exact h)
  rw [List.drop_set_of_lt (by omega)] at h2
  have h3 := nv_set_take (v := v) h
  have h4 := nv_take_succ l j h
  omega
theorem nth_set_ne {l : List Nat} {j k v : Nat} (h : j ≠ k) : nth (l.set j v) k = nth l k := by
  simp [nth, List.getElem?_set_ne h]
theorem nth_rep (n k : Nat) : nth (List.replicate n 0) k = 0 := by
  rcases Nat.lt_or_ge k n with h | h
  · rw [nth_eq _ _ (by simpa using h)]; simp
  · exact nth_ge _ _ (by simpa using h)
theorem mul_step {out lb : List Nat} {i k c x N s : Nat} (h : nv out + pw (i + k) * c = N + x * pw i * nv (lb.take k)) (hk : i + k < out.length) (hs : s = c + x * nth lb k + nth out (i + k)) :
    nv (out.set (i + k) (s % 4294967296)) + pw (i + (k + 1)) * (s / 4294967296) = N + x * pw i * nv (lb.take (k + 1)) := by
  have h1 : s % 4294967296 + 4294967296 * (s / 4294967296) = c + x * nth lb k + nth out (i + k) := by rw [← hs]; omega
  have h2 : pw (i + k) * (s % 4294967296) + 4294967296 * pw (i + k) * (s / 4294967296) = pw (i + k) * c + pw (i + k) * (x * nth lb k) + pw (i + k) * nth out (i + k) := by
    rw [← Nat.mul_add, ← Nat.mul_add, ← h1, Nat.mul_add, ← Nat.mul_assoc, Nat.mul_comm (pw (i + k)) 4294967296]
  have h3 := nv_set (v := s % 4294967296) hk
  have h4 : x * pw i * nv (lb.take (k + 1)) = x * pw i * nv (lb.take k) + pw (i + k) * (x * nth lb k) := by
    rw [nv_take_succ', Nat.mul_add, pw_add]
    congr 1
    rw [← Nat.mul_assoc, ← Nat.mul_assoc, Nat.mul_comm x (pw i), Nat.mul_assoc (pw i) x (pw k), Nat.mul_comm x (pw k), ← Nat.mul_assoc]
  rw [← Nat.add_assoc, pw_succ]
  omega
theorem mul_end {out la lb : List Nat} {i c : Nat} (h : nv out + pw (i + lb.length) * c = nv (la.take i) * nv lb + nth la i * pw i * nv (lb.take lb.length)) (hk : i + lb.length < out.length) (hz : nth out (i + lb.length) = 0) :
    nv (out.set (i + lb.length) c) = nv (la.take (i + 1)) * nv lb := by
  have h3 := nv_set (v := c) hk
  rw [hz, Nat.mul_zero, Nat.add_zero] at h3
  rw [h3, h, nv_take_ge lb _ (Nat.le_refl _), nv_take_succ', Nat.add_mul, Nat.mul_comm (nth la i) (pw i)]

structure Z where
  neg : Bool
  mag : List Nat
def Z.v (z : Z) : Int := if z.neg then -(nv z.mag : Int) else nv z.mag
def cz (x : Int) : Z := ⟨decide (x < 0), lim x.natAbs⟩
def zl (x : Int) : Nat := (lim x.natAbs).length
theorem cz_mag (x : Int) : (cz x).mag = lim x.natAbs := rfl
theorem cz_len (x : Int) : (cz x).mag.length = zl x := rfl
theorem cz_v (x : Int) : (cz x).v = x := by
  unfold Z.v cz
  simp only [nv_lim]
  by_cases h : x < 0
  · simp [h]; omega
  · simp [h]; omega
theorem natAbs_v (z : Z) : z.v.natAbs = nv z.mag := by unfold Z.v; split <;> omega
theorem zl_of {z : Z} (h : Lb z.mag) : zl z.v ≤ z.mag.length := by unfold zl; rw [natAbs_v]; exact lim_len_le h
theorem pw2 (k : Nat) : 2 * pw k ≤ pw (k + 1) := by rw [pw_succ]; have := pw_pos k; omega
theorem lt_pw_zl (x : Int) : x.natAbs < pw (zl x) := lt_pw_lim _
theorem zl_le {x : Int} {k : Nat} (h : x.natAbs < pw k) : zl x ≤ k := lim_pw h
theorem zl_add {x y : Int} {k : Nat} (hx : zl x ≤ k) (hy : zl y ≤ k) : zl (x + y) ≤ k + 1 := by
  apply zl_le
  have h1 := lt_pw_zl x; have h2 := lt_pw_zl y
  have h3 := pw_mono hx; have h4 := pw_mono hy; have h5 := pw2 k
  omega
theorem zl_neg (x : Int) : zl (-x) = zl x := by unfold zl; rw [Int.natAbs_neg]
theorem zl_sub {x y : Int} {k : Nat} (hx : zl x ≤ k) (hy : zl y ≤ k) : zl (x - y) ≤ k + 1 := by
  rw [Int.sub_eq_add_neg]; exact zl_add hx (by rw [zl_neg]; exact hy)
theorem zl_mul (x y : Int) : zl (x * y) ≤ zl x + zl y := by
  apply zl_le
  rw [Int.natAbs_mul, pw_add]
  exact Nat.mul_lt_mul_of_lt_of_le (lt_pw_zl x) (Nat.le_of_lt (lt_pw_zl y)) (pw_pos _)
theorem zl_zero : zl 0 = 0 := rfl
theorem zl_small {x : Int} (h : x.natAbs < 4294967296) : zl x ≤ 1 := zl_le (by rw [pw_succ, pw_zero]; omega)
theorem zl_word {x : Int} (h : x.natAbs < 18446744073709551616) : zl x ≤ 2 := zl_le (by rw [pw_succ, pw_succ, pw_zero]; omega)

def cmpI (x y : Int) : Int := if x < y then -1 else if y < x then 1 else 0
def sgn (x : Int) : Int := cmpI x 0
theorem cmpI_lt {a b : Int} (h : a < b) : cmpI a b = -1 := by simp [cmpI, h]
theorem cmpI_gt {a b : Int} (h : b < a) : cmpI a b = 1 := by unfold cmpI; rw [if_neg (by omega), if_pos h]
theorem cmpI_eq {a b : Int} (h : a = b) : cmpI a b = 0 := by unfold cmpI; rw [if_neg (by omega), if_neg (by omega)]
theorem cmpN_I (a b : Nat) : cmpN a b = cmpI a b := by
  rcases Nat.lt_trichotomy a b with h | h | h
  · rw [cmpN_lt h, cmpI_lt (by omega)]
  · rw [cmpN_eq h, cmpI_eq (by omega)]
  · rw [cmpN_gt h, cmpI_gt (by omega)]
theorem cmpI_zero {a b : Int} : cmpI a b = 0 ↔ a = b := by unfold cmpI; split <;> (try split) <;> omega
theorem cmpI_neg {a b : Int} : cmpI a b < 0 ↔ a < b := by unfold cmpI; split <;> (try split) <;> omega
theorem cmpI_pos {a b : Int} : 0 < cmpI a b ↔ b < a := by unfold cmpI; split <;> (try split) <;> omega
theorem cmpI_bd (a b : Int) : -1 ≤ cmpI a b ∧ cmpI a b ≤ 1 := by unfold cmpI; split <;> (try split) <;> omega
theorem cmpI_swap (a b : Int) : cmpI b a = -cmpI a b := by unfold cmpI; split <;> (try split) <;> (try split) <;> omega
theorem nv_pos_of {l : List Nat} {k : Nat} (h : nth l k ≠ 0) : 0 < nv l := by
  have h1 := nv_take_succ' l k
  have h2 : 0 < pw k * nth l k := Nat.mul_pos (pw_pos k) (Nat.pos_of_ne_zero h)
  rcases Nat.lt_or_ge k l.length with hk | hk
  · have h3 := nv_take_drop l (k + 1) hk
    omega
  · exact absurd (nth_ge l k hk) h
theorem nv_zero_of {l : List Nat} (h : ∀ k, k < l.length → nth l k = 0) : nv l = 0 := by
  induction l with
  | nil => rfl
  | cons x r ih =>
    have h1 := h 0 (by simp)
    have h2 := ih (fun k hk => by simpa [nth] using h (k + 1) (by simpa using hk))
    simp [nth] at h1
    simp [nv, h1, h2]

theorem sgn_bd (a : Int) : -1 ≤ sgn a ∧ sgn a ≤ 1 := cmpI_bd a 0
theorem sgn_lt {a b : Int} (h : sgn a < sgn b) : a < b := by unfold sgn cmpI at h; split at h <;> split at h <;> (try split at h) <;> (try split at h) <;> omega
theorem sgn_neg {a : Int} : sgn a < 0 ↔ a < 0 := cmpI_neg
theorem sgn_zero {a : Int} : sgn a = 0 ↔ a = 0 := cmpI_zero
theorem cmp_mags {x y : Z} (h : sgn x.v = sgn y.v) : (sgn x.v < 0 → cmpI x.v y.v = cmpN (nv y.mag) (nv x.mag)) ∧ (0 ≤ sgn x.v → cmpI x.v y.v = cmpN (nv x.mag) (nv y.mag)) := by
  have hx := natAbs_v x
  have hy := natAbs_v y
  constructor
  · intro h0
    have h1 := sgn_neg.1 h0
    have h2 := sgn_neg.1 (h ▸ h0)
    rw [cmpN_I]
    have e1 : x.v = -(nv x.mag : Int) := by omega
    have e2 : y.v = -(nv y.mag : Int) := by omega
    rw [e1, e2]
    rcases Int.lt_trichotomy (nv x.mag : Int) (nv y.mag) with h | h | h
    · rw [cmpI_gt (by omega), cmpI_gt h]
    · rw [cmpI_eq (by omega), cmpI_eq h.symm]
    · rw [cmpI_lt (by omega), cmpI_lt h]
  · intro h0
    have h1 : ¬ x.v < 0 := fun hh => by have := sgn_neg.2 hh; omega
    have h2 : ¬ y.v < 0 := fun hh => by have := sgn_neg.2 hh; omega
    rw [cmpN_I]
    have e1 : x.v = (nv x.mag : Int) := by omega
    have e2 : y.v = (nv y.mag : Int) := by omega
    rw [e1, e2]

theorem v_add_same (n : Bool) (a b : List Nat) : Z.v ⟨n, lim (nv a + nv b)⟩ = Z.v ⟨n, a⟩ + Z.v ⟨n, b⟩ := by
  unfold Z.v; simp only [nv_lim]; cases n <;> simp <;> omega
theorem v_add_other (n m : Bool) (a b : List Nat) (hne : n ≠ m) (h : nv b ≤ nv a) : Z.v ⟨n, lim (nv a - nv b)⟩ = Z.v ⟨n, a⟩ + Z.v ⟨m, b⟩ := by
  unfold Z.v; simp only [nv_lim]; cases n <;> cases m <;> simp at hne ⊢ <;> omega
theorem v_mul (n m : Bool) (a b : List Nat) : Z.v ⟨!(n == m), lim (nv a * nv b)⟩ = Z.v ⟨n, a⟩ * Z.v ⟨m, b⟩ := by
  unfold Z.v; simp only [nv_lim]; cases n <;> cases m <;> simp [Int.neg_mul, Int.mul_neg]

theorem cz_made (neg : Bool) (l : List Nat) : cz (Z.v ⟨neg, l⟩) = ⟨neg && decide (0 < (lim (nv l)).length), lim (nv l)⟩ := by
  have h := lim_len_pos (nv l)
  unfold cz
  rw [natAbs_v]
  congr 1
  cases neg
  · simp [Z.v]
  · simp [Z.v]
    omega

theorem radd_step {out a b : List Nat} {i C s : Nat} (h : nv out + pw i * C = nv (a.take i) + nv (b.take i)) (hl : out.length = i) (hs : s = nth a i + nth b i + C) :
    nv (out ++ [s % 4294967296]) + pw (i + 1) * (s / 4294967296) = nv (a.take (i + 1)) + nv (b.take (i + 1)) := by
  have h1 : s % 4294967296 + 4294967296 * (s / 4294967296) = nth a i + nth b i + C := by rw [← hs]; omega
  have h2 : pw i * (s % 4294967296) + 4294967296 * pw i * (s / 4294967296) = pw i * nth a i + pw i * nth b i + pw i * C := by
    rw [← Nat.mul_add, ← Nat.mul_add, ← h1, Nat.mul_add, ← Nat.mul_assoc, Nat.mul_comm (pw i) 4294967296]
  rw [nv_snoc, hl, nv_take_succ' a, nv_take_succ' b, pw_succ]
  omega
theorem rsub_step {out a b : List Nat} {i C d : Nat} (h : nv out + nv (b.take i) = nv (a.take i) + pw i * C) (hl : out.length = i) (hd : d + nth b i + C = nth a i + 4294967296) (hC : d / 4294967296 ≤ 1) :
    nv (out ++ [d % 4294967296]) + nv (b.take (i + 1)) = nv (a.take (i + 1)) + pw (i + 1) * (1 - d / 4294967296) := by
  have h1 : d % 4294967296 + nth b i + C = nth a i + 4294967296 * (1 - d / 4294967296) := by omega
  have h2 : pw i * (d % 4294967296) + pw i * nth b i + pw i * C = pw i * nth a i + 4294967296 * pw i * (1 - d / 4294967296) := by
    rw [← Nat.mul_add, ← Nat.mul_add, h1, Nat.mul_add, ← Nat.mul_assoc, Nat.mul_comm (pw i) 4294967296]
  rw [nv_snoc, hl, nv_take_succ' a, nv_take_succ' b, pw_succ]
  omega
theorem rsub_end {out a b : List Nat} {C : Nat} (ho : Lb out) (ha : Lb a) (hl : out.length = a.length) (hv : nv b ≤ nv a) (h : nv out + nv (b.take a.length) = nv (a.take a.length) + pw a.length * C) : nv out = nv a - nv b := by
  have h0 : nv (b.take a.length) = nv b := by
    rcases Nat.lt_or_ge a.length b.length with h1 | h1
    · have h2 := nv_take_drop b a.length (by omega)
      have h3 := nv_lt ha
      rcases Nat.eq_zero_or_pos (nv (b.drop a.length)) with h4 | h4
      · rw [h4] at h2; omega
      · have : pw a.length * 1 ≤ pw a.length * nv (b.drop a.length) := Nat.mul_le_mul_left _ h4
        omega
    · exact nv_take_ge _ _ h1
  rw [h0, nv_take_ge a _ (Nat.le_refl _)] at h
  have h1 := nv_lt ho
  rw [hl] at h1
  rcases Nat.eq_zero_or_pos C with h2 | h2
  · subst h2; omega
  · have : pw a.length * 1 ≤ pw a.length * C := Nat.mul_le_mul_left _ h2
    omega
theorem rtimes_step {out a : List Nat} {i C s n m : Nat} (h : nv out + pw i * C = nv (a.take i) * n + m) (hl : out.length = i) (hs : s = nth a i * n + C) :
    nv (out ++ [s % 4294967296]) + pw (i + 1) * (s / 4294967296) = nv (a.take (i + 1)) * n + m := by
  have h1 : s % 4294967296 + 4294967296 * (s / 4294967296) = nth a i * n + C := by rw [← hs]; omega
  have h2 : pw i * (s % 4294967296) + 4294967296 * pw i * (s / 4294967296) = pw i * (nth a i * n) + pw i * C := by
    rw [← Nat.mul_add, ← h1, Nat.mul_add, ← Nat.mul_assoc, Nat.mul_comm (pw i) 4294967296]
  rw [nv_snoc, hl, nv_take_succ' a, pw_succ, Nat.add_mul, Nat.mul_assoc (pw i)]
  omega
theorem cmp_step {a b : List Nat} (ha : Lb a) (hb : Lb b) (i : Nat) (_hia : i ≤ a.length ∨ True) :
    (nth a i < nth b i → cmpN (nv (a.take (i + 1))) (nv (b.take (i + 1))) = -1) ∧ (nth b i < nth a i → cmpN (nv (a.take (i + 1))) (nv (b.take (i + 1))) = 1) ∧
      (nth a i = nth b i → cmpN (nv (a.take (i + 1))) (nv (b.take (i + 1))) = cmpN (nv (a.take i)) (nv (b.take i))) := by
  clear _hia
  have h1 := nv_lt (ha.take i)
  have h2 := nv_lt (hb.take i)
  have h3 : pw (a.take i).length ≤ pw i := pw_mono (by rw [List.length_take]; omega)
  have h4 : pw (b.take i).length ≤ pw i := pw_mono (by rw [List.length_take]; omega)
  have e1 := nv_take_succ' a i
  have e2 := nv_take_succ' b i
  refine ⟨fun h => cmpN_lt ?_, fun h => cmpN_gt ?_, fun h => ?_⟩
  · have : pw i * (nth a i + 1) ≤ pw i * nth b i := Nat.mul_le_mul_left _ h
    rw [Nat.mul_add] at this
    omega
  · have : pw i * (nth b i + 1) ≤ pw i * nth a i := Nat.mul_le_mul_left _ h
    rw [Nat.mul_add] at this
    omega
  · rw [e1, e2, h]
    unfold cmpN
    split <;> split <;> (try split) <;> (try split) <;> first | rfl | omega

def Z.ok (z : Z) : Bool := if z.mag.length = 0 then !z.neg else nth z.mag (z.mag.length - 1) != 0
theorem ok_iff {z : Z} (h : Lb z.mag) : z.ok = true ↔ cz z.v = z := by
  obtain ⟨n, m⟩ := z
  simp only at h
  have hneg : (cz (Z.v ⟨n, m⟩)).neg = (n && decide (nv m ≠ 0)) := by
    unfold cz Z.v
    rw [Bool.eq_iff_iff]
    cases n <;> simp <;> omega
  have hmag : (cz (Z.v ⟨n, m⟩)).mag = lim (nv m) := by rw [cz_mag, natAbs_v]
  have e : cz (Z.v ⟨n, m⟩) = ⟨n && decide (nv m ≠ 0), lim (nv m)⟩ := by
    rw [← hneg, ← hmag]
  rw [e]
  unfold Z.ok
  constructor
  · intro hok
    by_cases h0 : m.length = 0
    · have : m = [] := List.eq_nil_of_length_eq_zero h0
      subst this
      simp at hok
      subst hok
      rfl
    · simp only [h0, if_false, bne_iff_ne] at hok
      have hl : lim (nv m) = m := lim_nv_last h fun _ => hok
      have hp := nv_pos_of hok
      rw [hl]
      simp; intro _; omega
  · intro he
    injection he with e1 e2
    by_cases h0 : m.length = 0
    · simp only [h0, if_true]
      have : m = [] := List.eq_nil_of_length_eq_zero h0
      subst this
      rw [← e1]; simp [nv]
    · simp only [h0, if_false, bne_iff_ne]
      have hne : nv m ≠ 0 := by
        intro hh
        rw [hh, lim_zero] at e2
        rw [← e2] at h0
        exact h0 rfl
      have := lim_last (nv m) hne
      rwa [e2] at this
theorem cz_ok (x : Int) : (cz x).ok = true := (ok_iff (lb_lim _)).2 (by rw [cz_v])
end Go.Proofs.YthmjgbkakjpfkaaGreatDoor

namespace Go.Proofs.YthmjgbkakjpfkaaGreatDoor

structure T where
  ps : List (Int × Z)
  k : Z

def vl (ps : List (Int × Z)) : List (Int × Int) := ps.map fun p => (p.1, p.2.v)
def cl (l : List (Int × Int)) : List (Int × Z) := l.map fun p => (p.1, cz p.2)
theorem vl_cl (l : List (Int × Int)) : vl (cl l) = l := by
  unfold vl cl
  rw [List.map_map]
  conv => rhs; rw [← List.map_id l]
  apply List.map_congr_left
  intro p _
  simp [Function.comp, cz_v]
theorem cl_len (l : List (Int × Int)) : (cl l).length = l.length := by simp [cl]
theorem vl_len (l : List (Int × Z)) : (vl l).length = l.length := by simp [vl]
theorem cl_append (l m : List (Int × Int)) : cl (l ++ m) = cl l ++ cl m := by simp [cl]
theorem vl_append (l m : List (Int × Z)) : vl (l ++ m) = vl l ++ vl m := by simp [vl]
def cf : List (Int × Int) → Int → Int
  | [], _ => 0
  | p :: l, x => (if p.1 = x then p.2 else 0) + cf l x
theorem cf_append (l m : List (Int × Int)) (x : Int) : cf (l ++ m) x = cf l x + cf m x := by
  induction l with
  | nil => simp [cf]
  | cons p l ih => simp only [List.cons_append, cf, ih]; omega
def sc (k : Int) (l : List (Int × Int)) : List (Int × Int) := l.map fun p => (p.1, k * p.2)
theorem cf_sc (k : Int) (l : List (Int × Int)) (x : Int) : cf (sc k l) x = k * cf l x := by
  induction l with
  | nil => simp [cf, sc]
  | cons p l ih =>
    have e : sc k (p :: l) = (p.1, k * p.2) :: sc k l := rfl
    rw [e]
    simp only [cf, ih, Int.mul_add]
    split <;> simp
theorem sc_len (k : Int) (l : List (Int × Int)) : (sc k l).length = l.length := by simp [sc]
theorem sc_one (l : List (Int × Int)) : sc 1 l = l := by
  unfold sc
  conv => rhs; rw [← List.map_id l]
  apply List.map_congr_left
  intro p _
  simp

def Canon (l : List (Int × Int)) : Prop := l.Pairwise (fun p q => p.1 < q.1) ∧ ∀ p ∈ l, p.2 ≠ 0
abbrev Rise (l : List (Int × Int)) : Prop := l.Pairwise fun p q => p.1 < q.1
theorem cf_none {l : List (Int × Int)} {x : Int} (h : ∀ p ∈ l, p.1 ≠ x) : cf l x = 0 := by
  induction l with
  | nil => rfl
  | cons p l ih =>
    have h1 := h p (by simp)
    simp only [cf, if_neg h1, Int.zero_add]
    exact ih fun q hq => h q (by simp [hq])
theorem cf_mem {l : List (Int × Int)} (h : Rise l) {p : Int × Int} (hp : p ∈ l) : cf l p.1 = p.2 := by
  induction l with
  | nil => cases hp
  | cons q l ih =>
    obtain ⟨h1, h2⟩ := List.pairwise_cons.1 h
    rcases List.mem_cons.1 hp with rfl | hp
    · simp only [cf, if_pos]
      rw [cf_none fun r hr => by have := h1 r hr; omega]
      omega
    · have := h1 p hp
      simp only [cf]
      rw [if_neg (by omega), Int.zero_add, ih h2 hp]
theorem mem_of_cf {l : List (Int × Int)} {x : Int} (h : cf l x ≠ 0) : ∃ p ∈ l, p.1 = x := by
  apply Classical.byContradiction
  intro hc
  exact h (cf_none fun p hp e => hc ⟨p, hp, e⟩)
theorem Canon.mem {l : List (Int × Int)} (h : Canon l) {x y : Int} : (x, y) ∈ l ↔ cf l x = y ∧ y ≠ 0 := by
  constructor
  · intro hp
    exact ⟨cf_mem h.1 hp, h.2 _ hp⟩
  · rintro ⟨rfl, hy⟩
    obtain ⟨p, hp, rfl⟩ := mem_of_cf hy
    rw [cf_mem h.1 hp]
    exact hp
theorem rise_ext : ∀ {l m : List (Int × Int)}, Rise l → Rise m → (∀ p, p ∈ l ↔ p ∈ m) → l = m
  | [], [], _, _, _ => rfl
  | [], q :: m, _, _, h => absurd ((h q).2 (by simp)) (by simp)
  | p :: l, [], _, _, h => absurd ((h p).1 (by simp)) (by simp)
  | p :: l, q :: m, hl, hm, h => by
    obtain ⟨h1, h2⟩ := List.pairwise_cons.1 hl
    obtain ⟨h3, h4⟩ := List.pairwise_cons.1 hm
    have e : p = q := by
      rcases List.mem_cons.1 ((h p).1 (by simp)) with e | hp
      · exact e
      · rcases List.mem_cons.1 ((h q).2 (by simp)) with e | hq
        · exact e.symm
        · have a := h3 p hp
          have b := h1 q hq
          omega
    subst e
    congr 1
    refine rise_ext h2 h4 fun r => ⟨fun hr => ?_, fun hr => ?_⟩
    · rcases List.mem_cons.1 ((h r).1 (by simp [hr])) with rfl | hr'
      · have := h1 r hr; omega
      · exact hr'
    · rcases List.mem_cons.1 ((h r).2 (by simp [hr])) with rfl | hr'
      · have := h3 r hr; omega
      · exact hr'
theorem canon_ext {l m : List (Int × Int)} (hl : Canon l) (hm : Canon m) (h : ∀ x, cf l x = cf m x) : l = m :=
  rise_ext hl.1 hm.1 fun p => by
    obtain ⟨x, y⟩ := p
    rw [hl.mem, hm.mem, h]

def lay : List (Int × Int) → Int × Int → List (Int × Int)
  | [], p => [p]
  | q :: l, p => if q.1 < p.1 then q :: lay l p else if q.1 = p.1 then (q.1, q.2 + p.2) :: l else p :: q :: l
theorem cf_lay (l : List (Int × Int)) (p : Int × Int) (x : Int) : cf (lay l p) x = cf l x + (if p.1 = x then p.2 else 0) := by
  induction l with
  | nil => simp [lay, cf]
  | cons q l ih =>
    unfold lay
    split
    · simp only [cf, ih]; omega
    · split
      · rename_i _ e
        simp only [cf, e]
        split <;> omega
      · simp only [cf]; omega
theorem lay_mem {l : List (Int × Int)} {p r : Int × Int} (h : r ∈ lay l p) : r.1 = p.1 ∨ r ∈ l := by
  induction l with
  | nil => simp [lay] at h; exact .inl (by rw [h])
  | cons q l ih =>
    unfold lay at h
    split at h
    · rcases List.mem_cons.1 h with rfl | h
      · exact .inr (by simp)
      · rcases ih h with h | h
        · exact .inl h
        · exact .inr (by simp [h])
    · split at h
      · rename_i _ e
        rcases List.mem_cons.1 h with rfl | h
        · exact .inl e
        · exact .inr (by simp [h])
      · rcases List.mem_cons.1 h with rfl | h
        · exact .inl rfl
        · exact .inr h
theorem rise_lay {l : List (Int × Int)} (h : Rise l) (p : Int × Int) : Rise (lay l p) := by
  induction l with
  | nil => simp [lay]
  | cons q l ih =>
    obtain ⟨h1, h2⟩ := List.pairwise_cons.1 h
    unfold lay
    split
    · rename_i hq
      refine List.pairwise_cons.2 ⟨fun r hr => ?_, ih h2⟩
      rcases lay_mem hr with e | hr
      · omega
      · exact h1 r hr
    · split
      · rename_i _ e
        exact List.pairwise_cons.2 ⟨h1, h2⟩
      · rename_i e1 e2
        refine List.pairwise_cons.2 ⟨fun r hr => ?_, h⟩
        rcases List.mem_cons.1 hr with rfl | hr
        · omega
        · have := h1 r hr; omega
theorem lay_len (l : List (Int × Int)) (p : Int × Int) : (lay l p).length ≤ l.length + 1 := by
  induction l with
  | nil => simp [lay]
  | cons q l ih => unfold lay; split <;> (try split) <;> simp <;> omega

def laidL (l : List (Int × Int)) : List (Int × Int) := l.foldl lay []
theorem laid_snoc (l : List (Int × Int)) (p : Int × Int) : laidL (l ++ [p]) = lay (laidL l) p := by simp [laidL]
theorem laid_aux : ∀ (l m : List (Int × Int)), Rise m → Rise (l.foldl lay m) ∧ (∀ x, cf (l.foldl lay m) x = cf m x + cf l x) ∧ (l.foldl lay m).length ≤ m.length + l.length
  | [], m, h => ⟨h, by simp [cf], by simp⟩
  | p :: l, m, h => by
    obtain ⟨h1, h2, h3⟩ := laid_aux l (lay m p) (rise_lay h p)
    refine ⟨h1, fun x => ?_, ?_⟩
    · rw [List.foldl_cons, h2, cf_lay]; simp only [cf]; omega
    · have := lay_len m p
      simp only [List.foldl_cons, List.length_cons]
      omega
theorem rise_laid (l : List (Int × Int)) : Rise (laidL l) := (laid_aux l [] List.Pairwise.nil).1
theorem cf_laid (l : List (Int × Int)) (x : Int) : cf (laidL l) x = cf l x := by rw [laidL, (laid_aux l [] List.Pairwise.nil).2.1]; simp [cf]
theorem laid_len (l : List (Int × Int)) : (laidL l).length ≤ l.length := by have := (laid_aux l [] List.Pairwise.nil).2.2; simpa [laidL] using this

def cn (l : List (Int × Int)) : List (Int × Int) := (laidL l).filter fun p => p.2 != 0
theorem cf_filter {l : List (Int × Int)} (h : Rise l) (x : Int) : cf (l.filter fun p => p.2 != 0) x = cf l x := by
  induction l with
  | nil => rfl
  | cons q l ih =>
    obtain ⟨h1, h2⟩ := List.pairwise_cons.1 h
    rw [List.filter_cons]
    split
    · simp only [cf, ih h2]
    · rename_i e
      have : q.2 = 0 := by simpa using e
      simp only [cf, ih h2, this]
      split <;> omega
theorem cf_cn (l : List (Int × Int)) (x : Int) : cf (cn l) x = cf l x := by rw [cn, cf_filter (rise_laid l), cf_laid]
theorem canon_cn (l : List (Int × Int)) : Canon (cn l) :=
  ⟨List.Pairwise.filter _ (rise_laid l), fun p hp => by have := (List.mem_filter.1 hp).2; simpa using this⟩
theorem cn_len (l : List (Int × Int)) : (cn l).length ≤ l.length := Nat.le_trans (List.length_filter_le _ _) (laid_len l)
theorem cn_canon {l : List (Int × Int)} (h : Canon l) : cn l = l := canon_ext (canon_cn l) h (cf_cn l)
theorem cn_cn (l : List (Int × Int)) : cn (cn l) = cn l := cn_canon (canon_cn l)
theorem cn_congr {l m : List (Int × Int)} (h : ∀ x, cf l x = cf m x) : cn l = cn m := canon_ext (canon_cn l) (canon_cn m) fun x => by rw [cf_cn, cf_cn, h]
theorem cn_mem {l : List (Int × Int)} {p : Int × Int} (h : p ∈ cn l) : cf l p.1 = p.2 ∧ p.2 ≠ 0 := by
  have := (canon_cn l).mem.1 (show (p.1, p.2) ∈ cn l from h)
  rw [cf_cn] at this
  exact this
theorem zl_cf {l : List (Int × Int)} {N : Nat} (h : ∀ p ∈ l, zl p.2 ≤ N) (x : Int) : zl (cf l x) ≤ N + l.length := by
  induction l with
  | nil => simp [cf, zl_zero]
  | cons p l ih =>
    have h1 := ih fun q hq => h q (by simp [hq])
    have h2 := h p (by simp)
    simp only [cf, List.length_cons]
    split
    · have := zl_add (x := p.2) (y := cf l x) (k := N + l.length) (by omega) h1
      omega
    · rw [Int.zero_add]; omega
theorem zl_cn {l : List (Int × Int)} {N : Nat} (h : ∀ p ∈ l, zl p.2 ≤ N) : ∀ p ∈ cn l, zl p.2 ≤ N + l.length := fun p hp => by
  rw [← (cn_mem hp).1]
  exact zl_cf h _

def ct (l : List (Int × Int)) (k : Int) : T := ⟨cl (cn l), cz k⟩
theorem ct_congr {l m : List (Int × Int)} {k j : Int} (h : ∀ x, cf l x = cf m x) (hk : k = j) : ct l k = ct m j := by unfold ct; rw [cn_congr h, hk]
def T.nf (t : T) : T := ct (vl t.ps) t.k.v
theorem nf_ct (l : List (Int × Int)) (k : Int) : (ct l k).nf = ct l k := by
  unfold T.nf ct
  rw [vl_cl, cz_v, cn_cn]
def T.sz (t : T) (N : Nat) : Prop := t.ps.length ≤ N ∧ (∀ p ∈ t.ps, p.2.mag.length ≤ N) ∧ t.k.mag.length ≤ N
def T.lb (t : T) : Prop := (∀ p ∈ t.ps, Lb p.2.mag) ∧ Lb t.k.mag
theorem T.sz.mono {t : T} {N M : Nat} (h : t.sz N) (hm : N ≤ M) : t.sz M := ⟨Nat.le_trans h.1 hm, fun p hp => Nat.le_trans (h.2.1 p hp) hm, Nat.le_trans h.2.2 hm⟩
theorem zl_vl {ps : List (Int × Z)} {N : Nat} (hb : ∀ p ∈ ps, Lb p.2.mag) (h : ∀ p ∈ ps, p.2.mag.length ≤ N) : ∀ p ∈ vl ps, zl p.2 ≤ N := by
  intro p hp
  obtain ⟨q, hq, rfl⟩ := List.mem_map.1 hp
  exact Nat.le_trans (zl_of (hb q hq)) (h q hq)
theorem ct_lb (l : List (Int × Int)) (k : Int) : (ct l k).lb := ⟨fun p hp => by
  obtain ⟨q, _, rfl⟩ := List.mem_map.1 hp
  exact lb_lim _, lb_lim _⟩
theorem ct_sz {l : List (Int × Int)} {k : Int} {N M : Nat} (hl : l.length ≤ N) (h : ∀ p ∈ l, zl p.2 ≤ M) (hk : zl k ≤ N + M) : (ct l k).sz (N + M) := by
  refine ⟨by rw [ct, cl_len]; have := cn_len l; omega, fun p hp => ?_, hk⟩
  obtain ⟨q, hq, rfl⟩ := List.mem_map.1 hp
  have := zl_cn h q hq
  show zl q.2 ≤ _
  omega
theorem nf_sz {t : T} {N : Nat} (h : t.sz N) (hb : t.lb) : t.nf.sz (N + N) := ct_sz (by rw [vl_len]; exact h.1) (zl_vl hb.1 h.2.1) (by have := zl_of hb.2; have := h.2.2; omega)

def validF : Option Int → List (Int × Z) → Bool
  | _, [] => true
  | w, p :: l => p.2.ok && (p.2.v != 0) && (match w with | none => true | some x => decide (x < p.1)) && validF (some p.1) l
theorem validF_iff : ∀ (l : List (Int × Z)) (w : Option Int), (∀ p ∈ l, Lb p.2.mag) → (validF w l = true ↔ (cl (vl l) = l ∧ Canon (vl l) ∧ ∀ x, w = some x → ∀ p ∈ l, x < p.1))
  | [], w, _ => by simp [validF, vl, cl, Canon]
  | p :: l, w, hb => by
    have ih := validF_iff l (some p.1) fun q hq => hb q (by simp [hq])
    have h1 := ok_iff (hb p (by simp))
    unfold validF
    simp only [Bool.and_eq_true, ih, h1]
    have e1 : vl (p :: l) = (p.1, p.2.v) :: vl l := rfl
    have e2 : cl ((p.1, p.2.v) :: vl l) = (p.1, cz p.2.v) :: cl (vl l) := rfl
    have hv : ∀ q ∈ vl l, ∃ r ∈ l, r.1 = q.1 := fun q hq => by
      obtain ⟨r, hr, rfl⟩ := List.mem_map.1 hq
      exact ⟨r, hr, rfl⟩
    rw [e1, e2]
    constructor
    · rintro ⟨⟨⟨h2, h3⟩, h4⟩, h5, h6, h7⟩
      refine ⟨by rw [h2, h5], ⟨List.pairwise_cons.2 ⟨fun q hq => ?_, h6.1⟩, fun q hq => ?_⟩, ?_⟩
      · obtain ⟨r, hr, e⟩ := hv q hq
        have := h7 p.1 rfl r hr
        show p.1 < q.1
        omega
      · rcases List.mem_cons.1 hq with rfl | hq
        · simpa using h3
        · exact h6.2 q hq
      · rintro x rfl q hq
        have h4 : x < p.1 := by simpa using h4
        rcases List.mem_cons.1 hq with rfl | hq
        · exact h4
        · have := h7 p.1 rfl q hq
          omega
    · rintro ⟨h2, ⟨h3, h4⟩, h5⟩
      injection h2 with h2 h6
      obtain ⟨h7, h8⟩ := List.pairwise_cons.1 h3
      refine ⟨⟨⟨congrArg Prod.snd h2, by simpa using h4 (p.1, p.2.v) (by simp)⟩, ?_⟩, h6, ⟨h8, fun q hq => h4 q (by simp [hq])⟩, ?_⟩
      · cases w with
        | none => rfl
        | some x => simpa using h5 x rfl p (by simp)
      · rintro x hx q hq
        injection hx with hx
        subst hx
        exact h7 (q.1, q.2.v) (List.mem_map.2 ⟨q, hq, rfl⟩)
def T.valid (t : T) : Bool := validF none t.ps && t.k.ok
theorem valid_iff {t : T} (hb : t.lb) : t.valid = true ↔ t.nf = t := by
  unfold T.valid T.nf ct
  rw [Bool.and_eq_true, validF_iff _ _ hb.1, ok_iff hb.2]
  constructor
  · rintro ⟨⟨h1, h2, _⟩, h3⟩
    rw [cn_canon h2, h1, h3]
  · intro h
    obtain ⟨ps, k⟩ := t
    injection h with h1 h2
    have e : vl ps = cn (vl ps) := by
      have := congrArg vl h1
      rw [vl_cl] at this
      exact this.symm
    exact ⟨⟨by rw [e]; simpa using h1, by rw [e]; exact canon_cn _, by simp⟩, h2⟩
theorem ct_valid (l : List (Int × Int)) (k : Int) : (ct l k).valid = true := (valid_iff (ct_lb l k)).2 (nf_ct l k)

end Go.Proofs.YthmjgbkakjpfkaaGreatDoor

namespace Go.Proofs.YthmjgbkakjpfkaaGreatDoor

theorem kn_lt {U V : Nat} (h : U < 4294967296 * V) : U / V < 4294967296 := by
  rcases Nat.eq_zero_or_pos V with rfl | hV
  · omega
  · exact (Nat.div_lt_iff_lt_mul hV).2 h
theorem kn_exp (q l p a b : Nat) : q * (l + p * (a + 4294967296 * b)) = q * l + q * p * a + 4294967296 * (q * p * b) := by
  rw [Nat.mul_add, ← Nat.mul_assoc, Nat.mul_add, Nat.mul_left_comm (q * p)]; omega
theorem kn_first {p lU u2 top lV v2 v1 : Nat} (h1 : lU < p) (h2 : u2 < 4294967296) (h3 : 0 < v1) (hlt : lU + p * (u2 + 4294967296 * top) < 4294967296 * (lV + p * (v2 + 4294967296 * v1))) :
    (lU + p * (u2 + 4294967296 * top)) / (lV + p * (v2 + 4294967296 * v1)) ≤ min (top / v1) 4294967295 := by
  have hq := kn_lt hlt
  refine Nat.le_min.2 ⟨(Nat.le_div_iff_mul_le h3).2 ?_, by omega⟩
  have hm := Nat.div_mul_le_self (lU + p * (u2 + 4294967296 * top)) (lV + p * (v2 + 4294967296 * v1))
  obtain ⟨q, hqd⟩ : ∃ q, q = (lU + p * (u2 + 4294967296 * top)) / (lV + p * (v2 + 4294967296 * v1)) := ⟨_, rfl⟩
  rw [← hqd] at hm ⊢
  clear hqd hq hlt
  rw [kn_exp] at hm
  have e1 : 1 * (lU + p * (u2 + 4294967296 * top)) = _ := kn_exp 1 lU p u2 top
  rw [Nat.one_mul, Nat.one_mul, Nat.one_mul] at e1
  rw [e1] at hm
  have e2 : p * u2 ≤ p * 4294967295 := Nat.mul_le_mul_left p (by omega)
  refine Nat.lt_succ_iff.1 (Nat.lt_of_mul_lt_mul_left (a := p) ?_)
  have e3 : q * p * v1 = p * (q * v1) := by rw [Nat.mul_comm q p, Nat.mul_assoc]
  have e4 : p * (top + 1) = p * top + p := by rw [Nat.mul_add, Nat.mul_one]
  show p * (q * v1) < p * (top + 1)
  omega
theorem kn_down {p lU u2 top lV v2 v1 q rest : Nat} (h1 : lU < p) (ht : q * v1 + rest = top) (h : rest * 4294967296 + u2 < q * v2) :
    (lU + p * (u2 + 4294967296 * top)) / (lV + p * (v2 + 4294967296 * v1)) < q := by
  have hV : 0 < lV + p * (v2 + 4294967296 * v1) := by
    rcases Nat.eq_zero_or_pos v2 with e | e
    · rw [e, Nat.mul_zero] at h; omega
    · have := Nat.mul_pos (show 0 < p by omega) (show 0 < v2 + 4294967296 * v1 by omega); omega
  refine (Nat.div_lt_iff_lt_mul hV).2 ?_
  rw [kn_exp]
  have e1 : lU + p * (u2 + 4294967296 * top) < p * (u2 + 4294967296 * top + 1) := by rw [Nat.mul_add p _ 1]; omega
  have e2 : p * (u2 + 4294967296 * top + 1) ≤ p * (q * v2 + 4294967296 * (q * v1)) := Nat.mul_le_mul_left p (by omega)
  have e3 : p * (q * v2 + 4294967296 * (q * v1)) = q * p * v2 + 4294967296 * (q * p * v1) := by
    rw [Nat.mul_add, Nat.mul_left_comm p 4294967296, Nat.mul_left_comm p q, Nat.mul_left_comm p q, ← Nat.mul_assoc q, ← Nat.mul_assoc q]
  omega
theorem kn_exit {p lU u2 top lV v2 v1 q rest : Nat} (h2 : lV < p) (ht : q * v1 + rest = top) (hq : q < 4294967296) (hv2 : v2 < 4294967296) (hv : 2147483648 ≤ v1) (h : 4294967296 ≤ rest ∨ q * v2 ≤ rest * 4294967296 + u2) :
    q ≤ (lU + p * (u2 + 4294967296 * top)) / (lV + p * (v2 + 4294967296 * v1)) + 1 := by
  have h' : q * v2 ≤ rest * 4294967296 + u2 := by
    rcases h with h | h
    · have : q * v2 ≤ 4294967295 * 4294967295 := Nat.mul_le_mul (by omega) (by omega)
      omega
    · exact h
  have hV : 0 < lV + p * (v2 + 4294967296 * v1) := by
    have := Nat.mul_pos (show 0 < p by omega) (show 0 < v2 + 4294967296 * v1 by omega); omega
  rcases Nat.lt_or_ge ((lU + p * (u2 + 4294967296 * top)) / (lV + p * (v2 + 4294967296 * v1)) + 1) q with hc | hc
  · exfalso
    obtain ⟨r, rfl⟩ : ∃ r, q = r + 1 := ⟨q - 1, by have := Nat.zero_le ((lU + p * (u2 + 4294967296 * top)) / (lV + p * (v2 + 4294967296 * v1))); generalize (lU + p * (u2 + 4294967296 * top)) / (lV + p * (v2 + 4294967296 * v1)) = D at hc; omega⟩
    have h3 : lU + p * (u2 + 4294967296 * top) < r * (lV + p * (v2 + 4294967296 * v1)) := (Nat.div_lt_iff_lt_mul hV).1 (Nat.lt_of_succ_lt_succ hc)
    obtain ⟨m, hm⟩ : ∃ m, m = v2 + 4294967296 * v1 := ⟨_, rfl⟩
    have h4 : (r + 1) * m ≤ u2 + 4294967296 * top := by
      rw [hm, Nat.mul_add, Nat.mul_left_comm (r + 1) 4294967296 v1]; omega
    have h5 : p * ((r + 1) * m) ≤ p * (u2 + 4294967296 * top) := Nat.mul_le_mul_left p h4
    have h6 : r * (lV + p * m) ≤ r * (p * (m + 1)) := Nat.mul_le_mul_left r (by rw [Nat.mul_add p m 1]; omega)
    rw [← hm] at h3
    have h7 : p * ((r + 1) * m) < p * (r * (m + 1)) := by
      rw [Nat.mul_left_comm p r]; omega
    have h8 := Nat.lt_of_mul_lt_mul_left h7
    rw [Nat.add_mul, Nat.mul_add] at h8
    omega
  · exact hc

theorem ms_step {out a b : List Nat} {k c br q s lo d br' : Nat} (h : nv (out.take k) + q * nv (b.take k) = nv (a.take k) + pw k * (c + br)) (hk : k < out.length) (hs : s = c + q * nth b k) (hlo : lo = s % 4294967296) (hd : d + lo + br = nth a k + 4294967296 * br') :
    nv ((out.set k d).take (k + 1)) + q * nv (b.take (k + 1)) = nv (a.take (k + 1)) + pw (k + 1) * (s / 4294967296 + br') := by
  rw [nv_set_take hk, nv_take_succ' b, nv_take_succ' a, pw_succ, Nat.mul_add q, Nat.mul_left_comm q]
  have e : pw k * d + pw k * (q * nth b k) + pw k * (c + br) = pw k * nth a k + 4294967296 * pw k * (s / 4294967296 + br') := by
    rw [Nat.mul_comm 4294967296, Nat.mul_assoc, ← Nat.mul_add, ← Nat.mul_add, ← Nat.mul_add]
    congr 1
    omega
  omega
theorem ms_last {out a b : List Nat} {c br q lo d br' : Nat} {n : Nat} (h : nv (out.take n) + q * nv (b.take n) = nv (a.take n) + pw n * (c + br)) (hn : n < out.length) (hlo : lo = c) (hd : d + lo + br = nth a n + 4294967296 * br') :
    nv ((out.set n d).take (n + 1)) + q * nv (b.take n) = nv (a.take (n + 1)) + pw (n + 1) * br' := by
  rw [nv_set_take hn, nv_take_succ' a, pw_succ]
  have e : pw n * d + pw n * (c + br) = pw n * nth a n + 4294967296 * pw n * br' := by
    rw [Nat.mul_comm 4294967296, Nat.mul_assoc, ← Nat.mul_add, ← Nat.mul_add]
    congr 1
    omega
  omega
theorem ab_step {out a b : List Nat} {k c s : Nat} (h : nv (out.take k) + pw k * c = nv (a.take k) + nv (b.take k)) (hk : k < out.length) (hs : s = nth a k + nth b k + c) :
    nv ((out.set k (s % 4294967296)).take (k + 1)) + pw (k + 1) * (s / 4294967296) = nv (a.take (k + 1)) + nv (b.take (k + 1)) := by
  rw [nv_set_take hk, nv_take_succ' b, nv_take_succ' a, pw_succ]
  have e : pw k * (s % 4294967296) + 4294967296 * pw k * (s / 4294967296) = pw k * nth a k + pw k * nth b k + pw k * c := by
    rw [Nat.mul_comm 4294967296, Nat.mul_assoc, ← Nat.mul_add, ← Nat.mul_add, ← Nat.mul_add]
    congr 1
    omega
  omega
theorem ms_fine {R U V q n br : Nat} (h : R + q * V = U + pw (n + 1) * br) (hR : R < pw (n + 1)) (hq : q = U / V ∨ q = U / V + 1) (hV : 0 < V) (hbr : br ≤ 1) :
    (br = 0 ↔ q = U / V) ∧ (br = 0 → R = U % V) ∧ (br = 1 → R + V = U % V + pw (n + 1)) := by
  have hd := Nat.div_add_mod U V
  have hm := Nat.mod_lt U hV
  rw [Nat.mul_comm] at hd
  obtain ⟨t, ht⟩ : ∃ t, t = U / V := ⟨_, rfl⟩
  rw [← ht] at hd hq
  rcases hq with rfl | rfl
  · have : br = 0 := by
      rcases Nat.eq_zero_or_pos br with e | e
      · exact e
      · have : br = 1 := by omega
        subst this
        omega
    subst this
    refine ⟨⟨fun _ => ht, fun _ => rfl⟩, fun _ => by omega, fun h => by omega⟩
  · rw [Nat.add_mul, Nat.one_mul] at h
    have : br = 1 := by
      rcases Nat.eq_zero_or_pos br with e | e
      · subst e; omega
      · omega
    subst this
    refine ⟨⟨fun h => by omega, fun h => by omega⟩, fun h => by omega, fun _ => by omega⟩
theorem ab_last {out out1 b : List Nat} {n ca x R1 D : Nat} (h : nv (out.take n) + pw n * ca = nv (out1.take n) + nv (b.take n)) (hn : n < out.length) (hx : x = nth out1 n) (hR : R1 = nv (out1.take (n + 1))) (hb : nv (b.take n) = nv b) (ho : Lb (out.set n ((x + ca) % 4294967296))) (hD : R1 + nv b = D + pw (n + 1)) (hD2 : D < pw (n + 1)) :
    nv ((out.set n ((x + ca) % 4294967296)).take (n + 1)) = D := by
  have hlt := nv_lt (ho.take (n + 1))
  rw [List.length_take_of_le (by rw [List.length_set]; omega)] at hlt
  rw [nv_set_take hn] at hlt ⊢
  rw [hb] at h
  rw [nv_take_succ', ← hx] at hR
  rw [pw_succ] at hD hlt hD2
  have e : pw n * ((x + ca) % 4294967296) + 4294967296 * pw n * ((x + ca) / 4294967296) = pw n * x + pw n * ca := by
    rw [Nat.mul_comm 4294967296, Nat.mul_assoc, ← Nat.mul_add, ← Nat.mul_add]
    congr 1
    omega
  obtain ⟨co, hco⟩ : ∃ c, c = (x + ca) / 4294967296 := ⟨_, rfl⟩
  rw [← hco] at e
  rcases Nat.lt_or_ge co 1 with hc | hc
  · obtain rfl : co = 0 := by omega
    omega
  · rcases Nat.lt_or_ge 1 co with h2 | h2
    · have : 4294967296 * pw n * 2 ≤ 4294967296 * pw n * co := Nat.mul_le_mul_left _ (by omega)
      omega
    · obtain rfl : co = 1 := by omega
      omega
theorem drop_set_add (l : List Nat) (i k x : Nat) : (l.set (i + k) x).drop i = (l.drop i).set k x := by
  rw [List.drop_set, if_neg (by omega), Nat.add_sub_cancel_left]
theorem nth_drop (l : List Nat) (i k : Nat) : nth (l.drop i) k = nth l (i + k) := by simp [nth]

end Go.Proofs.YthmjgbkakjpfkaaGreatDoor

namespace Go.Proofs.YthmjgbkakjpfkaaGreatDoor

def lk : List (Int × Z) → Int → Option Int
  | [], _ => none
  | p :: l, x => if p.1 = x then some p.2.v else lk l x
def ix : List (Int × Z) → Int → Option Nat
  | [], _ => none
  | p :: l, x => if p.1 = x then some 0 else (ix l x).map (· + 1)
theorem ix_some : ∀ {l : List (Int × Z)} {x : Int} {i : Nat}, ix l x = some i → i < l.length ∧ ∀ h : i < l.length, l[i].1 = x ∧ lk l x = some l[i].2.v
  | [], _, _, h => by simp [ix] at h
  | p :: l, x, i, h => by
    unfold ix at h
    unfold lk
    by_cases e : p.1 = x
    · rw [if_pos e] at h
      injection h with h
      subst h
      exact ⟨by simp, fun _ => ⟨e, by rw [if_pos e]; rfl⟩⟩
    · rw [if_neg e] at h
      rw [if_neg e]
      rcases h2 : ix l x with _ | j
      · rw [h2] at h; simp at h
      · rw [h2] at h
        simp only [Option.map_some, Option.some.injEq] at h
        subst h
        obtain ⟨h3, h4⟩ := ix_some h2
        exact ⟨by simp; omega, fun _ => h4 h3⟩
theorem ix_none : ∀ {l : List (Int × Z)} {x : Int}, ix l x = none → lk l x = none
  | [], _, _ => rfl
  | p :: l, x, h => by
    unfold ix at h
    unfold lk
    by_cases e : p.1 = x
    · rw [if_pos e] at h; cases h
    · rw [if_neg e] at h
      rw [if_neg e]
      exact ix_none (by simpa using h)
theorem ix_step : ∀ (l : List (Int × Z)) (x : Int) (k : Nat), (∀ i (h : i < l.length), i < k → l[i].1 ≠ x) → ix l x = (ix (l.drop k) x).map (· + k)
  | l, x, 0, _ => by simp
  | [], x, k + 1, _ => by simp [ix]
  | p :: l, x, k + 1, h => by
    have h0 := h 0 (by simp) (by omega)
    have ih := ix_step l x k fun i hi hk => by
      have := h (i + 1) (by simpa using hi) (by omega)
      rwa [List.getElem_cons_succ] at this
    simp only [List.getElem_cons_zero] at h0
    conv => lhs; unfold ix
    rw [if_neg h0, ih, List.drop_succ_cons, Option.map_map]
    congr 1

def ev (f : Int → Int) : List (Int × Int) → Int
  | [] => 0
  | p :: l => p.2 * f p.1 + ev f l
theorem ev_append (f : Int → Int) (l m : List (Int × Int)) : ev f (l ++ m) = ev f l + ev f m := by
  induction l with
  | nil => simp [ev]
  | cons p l ih => simp only [List.cons_append, ev, ih]; omega
theorem ev_lay (f : Int → Int) (l : List (Int × Int)) (p : Int × Int) : ev f (lay l p) = ev f l + p.2 * f p.1 := by
  induction l with
  | nil => simp [lay, ev]
  | cons q l ih =>
    unfold lay
    split
    · simp only [ev, ih]; omega
    · split
      · rename_i _ e
        simp only [ev, e, Int.add_mul]
        omega
      · simp only [ev]; omega
theorem ev_foldl (f : Int → Int) : ∀ (l m : List (Int × Int)), ev f (l.foldl lay m) = ev f m + ev f l
  | [], m => by simp [ev]
  | p :: l, m => by rw [List.foldl_cons, ev_foldl f l, ev_lay]; simp only [ev]; omega
theorem ev_filter (f : Int → Int) (l : List (Int × Int)) : ev f (l.filter fun p => p.2 != 0) = ev f l := by
  induction l with
  | nil => rfl
  | cons p l ih =>
    rw [List.filter_cons]
    split
    · simp only [ev, ih]
    · rename_i e
      have : p.2 = 0 := by simpa using e
      simp only [ev, ih, this, Int.zero_mul, Int.zero_add]
theorem ev_cn (f : Int → Int) (l : List (Int × Int)) : ev f (cn l) = ev f l := by
  rw [cn, ev_filter, laidL, ev_foldl]
  simp [ev]
def cov (vals : List (Int × Z)) (l : List (Int × Int)) : Bool := l.all fun p => (lk vals p.1).isSome
def fv (vals : List (Int × Z)) (x : Int) : Int := (lk vals x).getD 0
theorem zl_ev {f : Int → Int} {N M : Nat} : ∀ {l : List (Int × Int)}, (∀ p ∈ l, zl p.2 ≤ N ∧ zl (f p.1) ≤ M) → zl (ev f l) ≤ N + M + l.length
  | [], _ => by simp [ev, zl_zero]
  | p :: l, h => by
    have h1 := zl_ev (l := l) fun q hq => h q (by simp [hq])
    obtain ⟨h2, h3⟩ := h p (by simp)
    have h4 := zl_mul p.2 (f p.1)
    have := zl_add (x := p.2 * f p.1) (y := ev f l) (k := N + M + l.length) (by omega) h1
    simp only [ev, List.length_cons]
    omega
theorem lk_zl {vals : List (Int × Z)} {N : Nat} (hb : ∀ p ∈ vals, Lb p.2.mag) (h : ∀ p ∈ vals, p.2.mag.length ≤ N) (x : Int) : zl (fv vals x) ≤ N := by
  unfold fv
  induction vals with
  | nil => simp [lk, zl_zero]
  | cons p l ih =>
    unfold lk
    split
    · exact Nat.le_trans (zl_of (hb p (by simp))) (h p (by simp))
    · exact ih (fun q hq => hb q (by simp [hq])) fun q hq => h q (by simp [hq])

end Go.Proofs.YthmjgbkakjpfkaaGreatDoor
