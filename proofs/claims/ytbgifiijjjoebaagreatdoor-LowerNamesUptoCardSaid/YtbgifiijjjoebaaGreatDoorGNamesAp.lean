/- Free names of trees, in plain words: by counts, by lists. No conditions. Names: riddle/lex and riddleref03. No conditions. Calls of functions of data by their values; slices.IndexFunc, ContainsFunc. No conditions. Names, by the program and by the document. No conditions. -/
import Derived.Test.YtbgifiijjjoebaaGreatDoorGNamesAo
import Derived.Laws.Strings
import Derived.Test.YtbgifiijjjoebaaGreatDoorGNamesAq
namespace Go.Proofs.YtbgifiijjjoebaaGreatDoor
open Go.RowKit

theorem ba_beq (x y : ByteArray) : (x == y) = decide (x = y) := by
 cases x with
 | mk a =>
  cases y with
  | mk b =>
   show ByteArray.beq _ _ = _
   by_cases h : a = b
   ·simp [ByteArray.beq, h]
   ·simp [ByteArray.beq, h]
instance : ReflBEq ByteArray := ⟨fun {a} => by rw [ba_beq]; simp⟩
instance : LawfulBEq ByteArray := ⟨fun h => by rw [ba_beq] at h; exact of_decide_eq_true h⟩
theorem ba_tl (x y : ByteArray) : (x.toList == y.toList) = decide (x = y) := by
 rw [ByteArray.toList_eq, ByteArray.toList_eq]
 cases x with
 | mk a =>
  cases y with
  | mk b =>
   by_cases h : a = b
   ·simp [h]
   ·have : ¬ a.toList = b.toList := fun e => h (Array.toList_inj.1 e)
    simp [h]
def bget : List (ByteArray × Int) → ByteArray → Int
 | [], _ => 0
 | (k, n) :: r, s => if s = k then n else bget r s
def bset : List (ByteArray × Int) → ByteArray → Int → List (ByteArray × Int)
 | [], s, n => [(s, n)]
 | (k, m) :: r, s, n => if s = k then (k, n) :: r else (k, m) :: bset r s n
theorem bget_bset (b : List (ByteArray × Int)) (s t : ByteArray) (n : Int) : bget (bset b s n) t = if t = s then n else bget b t := by
 induction b with
 | nil => simp [bset, bget]
 | cons p r ih =>
  obtain ⟨k, m⟩ := p
  by_cases h : s = k
  ·subst h
   by_cases h2 : t = s <;> simp [bset, bget, h2]
  ·by_cases h2 : t = k
   ·subst h2; simp [bset, bget, h, Ne.symm h]
   ·simp [bset, bget, h, h2, ih]
def binc (b : List (ByteArray × Int)) (d : Int) (s : ByteArray) : List (ByteArray × Int) := bset b s (bget b s + d)
def bincs (b : List (ByteArray × Int)) (d : Int) (l : List ByteArray) : List (ByteArray × Int) := l.foldl (fun b s => binc b d s) b
theorem bget_bincs (d : Int) (t : ByteArray) : ∀ (l : List ByteArray) (b : List (ByteArray × Int)), bget (bincs b d l) t = bget b t + d * (l.count t : Int)
 | [], b => by simp [bincs]
 | s :: r, b => by
  show bget (bincs (binc b d s) d r) t = _
  rw [bget_bincs d t r, binc, bget_bset, List.count_cons]
  by_cases h : t = s
  ·subst h
   simp [Int.mul_add]; omega
  ·simp [h, ba_beq, Ne.symm h]
def fadd (l : List ByteArray) (s : ByteArray) : List ByteArray := if s ∈ l then l else l ++ [s]
mutual
def freeM : Tr → List (ByteArray × Int) → List ByteArray → List (ByteArray × Int) × List ByteArray
 | .mk k s ns _ ks, b, f =>
  let r := freesM ks (if k = 21 ∨ k = 22 then bincs b 1 ns else b) (if k = 2 ∧ bget b s = 0 then fadd f s else f)
  (if k = 21 ∨ k = 22 then bincs r.1 (-1) ns else r.1, r.2)
def freesM : List Tr → List (ByteArray × Int) → List ByteArray → List (ByteArray × Int) × List ByteArray
 | [], b, f => (b, f)
 | t :: r, b, f => freesM r (freeM t b f).1 (freeM t b f).2
end
mutual
def freeR : Tr → List ByteArray → List ByteArray → List ByteArray
 | .mk k s ns _ ks, b, o => freesR ks (if k = 21 ∨ k = 22 then b ++ ns else b) (if k = 2 ∧ s ∉ b ∧ s ∉ o then o ++ [s] else o)
def freesR : List Tr → List ByteArray → List ByteArray → List ByteArray
 | [], _, o => o
 | t :: r, b, o => freesR r b (freeR t b o)
end
theorem free_law (t : Tr) : ∀ (bm : List (ByteArray × Int)) (bl f : List ByteArray), (∀ n, bget bm n = (bl.count n : Int)) → (∀ n, bget (freeM t bm f).1 n = bget bm n) ∧ (freeM t bm f).2 = freeR t bl f := by
 refine Tr.ind (P := fun t => ∀ (bm : List (ByteArray × Int)) (bl f : List ByteArray), (∀ n, bget bm n = (bl.count n : Int)) → (∀ n, bget (freeM t bm f).1 n = bget bm n) ∧ (freeM t bm f).2 = freeR t bl f) (fun k s ns n ks ih bm bl f h => ?_) t
 have hs : ∀ (l : List Tr), (∀ t ∈ l, ∀ (bm : List (ByteArray × Int)) (bl f : List ByteArray), (∀ n, bget bm n = (bl.count n : Int)) → (∀ n, bget (freeM t bm f).1 n = bget bm n) ∧ (freeM t bm f).2 = freeR t bl f) →
   ∀ (bm : List (ByteArray × Int)) (bl f : List ByteArray), (∀ n, bget bm n = (bl.count n : Int)) → (∀ n, bget (freesM l bm f).1 n = bget bm n) ∧ (freesM l bm f).2 = freesR l bl f := by
  intro l
  induction l with
  | nil => intro _ bm bl f _; rw [freesM, freesR]; exact ⟨fun _ => rfl, rfl⟩
  | cons t r ih2 =>
   intro h1 bm bl f h2; obtain ⟨q1, q2⟩ := h1 t (by simp) bm bl f h2; obtain ⟨q3, q4⟩ := ih2 (fun t ht => h1 t (by simp [ht])) (freeM t bm f).1 bl (freeM t bm f).2 (fun n => (q1 n).trans (h2 n)); rw [freesM, freesR, ← q2]; exact ⟨fun n => (q3 n).trans (q1 n), q4⟩
 have hf : (if k = 2 ∧ bget bm s = 0 then fadd f s else f) = (if k = 2 ∧ s ∉ bl ∧ s ∉ f then f ++ [s] else f) := by
  have h0 : bget bm s = 0 ↔ s ∉ bl := by
   rw [h s, ← List.count_eq_zero]
   omega
  unfold fadd
  by_cases h1 : k = 2
  ·by_cases h2 : s ∈ bl
   ·rw [if_neg fun e => (h0.1 e.2) h2, if_neg fun e => e.2.1 h2]
   ·rw [if_pos ⟨h1, h0.2 h2⟩]
    by_cases h3 : s ∈ f
    ·rw [if_pos h3, if_neg fun e => e.2.2 h3]
    ·rw [if_neg h3, if_pos ⟨h1, h2, h3⟩]
  ·rw [if_neg fun e => h1 e.1, if_neg fun e => h1 e.1]
 rw [freeM, freeR]; simp only; rw [hf]
 by_cases hq : k = 21 ∨ k = 22
 ·simp only [hq, if_true]
  obtain ⟨q1, q2⟩ := hs ks ih (bincs bm 1 ns) (bl ++ ns) (if k = 2 ∧ s ∉ bl ∧ s ∉ f then f ++ [s] else f) fun n => by
   rw [bget_bincs, h n, List.count_append]; omega
  refine ⟨fun n => ?_, q2⟩; rw [bget_bincs, q1 n, bget_bincs]
  omega
 ·simp only [hq, if_false]; exact hs ks ih bm bl _ h

end Go.Proofs.YtbgifiijjjoebaaGreatDoor

namespace Go.Proofs.YtbgifiijjjoebaaGreatDoor
open Go.RowKit

theorem letterB_eq (c : Nat) : letterB c = (decide ((97 : Int) ≤ c) && decide ((c : Int) ≤ 122) || decide ((65 : Int) ≤ c) && decide ((c : Int) ≤ 90)) := by
  unfold letterB; rw [Bool.eq_iff_iff]; simp
  omega
theorem digitB_eq (c : Nat) : digitB c = (decide ((48 : Int) ≤ c) && decide ((c : Int) ≤ 57)) := by
  unfold digitB; rw [Bool.eq_iff_iff]; simp
  omega
theorem letter_v (c : Nat) : Fn Tryz.prog 100 [.c (.i .u8 c)] (.c (.b (letterB c))) := by
  refine Fn.intro' Tryz.func100 [.tmp 2] 17 fun _ => ?_
  rw [letterB_eq]; generalize (c : Int) = x
  by_cases h1 : (97 : Int) ≤ x <;> by_cases h2 : x ≤ 122 <;> by_cases h3 : (65 : Int) ≤ x <;> by_cases h4 : x ≤ 90
  all_goals
    (repeat first | refine hku ?_ | refine sw_seqk fun _ _ => ?_ | refine sw_reg ?_ | (refine sw_reg2 ?_; conv in reord _ => simp [reord, freeO]) | ((first | refine aops_k fun _ _ => ?_ | with_reducible refine rw_own ?_); simp [go_sem, h1, h2, h3, h4]; try go_ints) | refine sw_block ?_ | refine sw_t ?_ | refine sw_f ?_ | refine sw_e ?_ | refine ai ?_ | simp only [])
    simp [go_sem, h1, h2, h3, h4]
theorem digit_v (c : Nat) : Fn Tryz.prog 139 [.c (.i .u8 c)] (.c (.b (digitB c))) := by
  refine Fn.intro' Tryz.func139 [.tmp 2] 9 fun _ => ?_
  rw [digitB_eq]; generalize (c : Int) = x
  by_cases h1 : (48 : Int) ≤ x <;> by_cases h2 : x ≤ 57
  all_goals
    (repeat first | refine hku ?_ | refine sw_seqk fun _ _ => ?_ | refine sw_reg ?_ | (refine sw_reg2 ?_; conv in reord _ => simp [reord, freeO]) | ((first | refine aops_k fun _ _ => ?_ | with_reducible refine rw_own ?_); simp [go_sem, h1, h2]; try go_ints) | refine sw_block ?_ | refine sw_t ?_ | refine sw_f ?_ | refine sw_e ?_ | refine ai ?_ | simp only [])
    simp [go_sem, h1, h2]
theorem rletter_v (c : Nat) : Fn Tryz.prog 98 [.c (.i .u8 c)] (.c (.b (letterB c))) := by
  refine Fn.intro' Tryz.func98 [.tmp 2] 17 fun _ => ?_
  rw [letterB_eq]; generalize (c : Int) = x
  by_cases h1 : (97 : Int) ≤ x <;> by_cases h2 : x ≤ 122 <;> by_cases h3 : (65 : Int) ≤ x <;> by_cases h4 : x ≤ 90
  all_goals
    (repeat first | refine hku ?_ | refine sw_seqk fun _ _ => ?_ | refine sw_reg ?_ | (refine sw_reg2 ?_; conv in reord _ => simp [reord, freeO]) | ((first | refine aops_k fun _ _ => ?_ | with_reducible refine rw_own ?_); simp [go_sem, h1, h2, h3, h4]; try go_ints) | refine sw_block ?_ | refine sw_t ?_ | refine sw_f ?_ | refine sw_e ?_ | refine ai ?_ | simp only [])
    simp [go_sem, h1, h2, h3, h4]
theorem rdigit_v (c : Nat) : Fn Tryz.prog 138 [.c (.i .u8 c)] (.c (.b (digitB c))) := by
  refine Fn.intro' Tryz.func138 [.tmp 2] 9 fun _ => ?_
  rw [digitB_eq]; generalize (c : Int) = x
  by_cases h1 : (48 : Int) ≤ x <;> by_cases h2 : x ≤ 57
  all_goals
    (repeat first | refine hku ?_ | refine sw_seqk fun _ _ => ?_ | refine sw_reg ?_ | (refine sw_reg2 ?_; conv in reord _ => simp [reord, freeO]) | ((first | refine aops_k fun _ _ => ?_ | with_reducible refine rw_own ?_); simp [go_sem, h1, h2]; try go_ints) | refine sw_block ?_ | refine sw_t ?_ | refine sw_f ?_ | refine sw_e ?_ | refine ai ?_ | simp only [])
    simp [go_sem, h1, h2]
theorem rrowed_v (c : Nat) : Fn Tryz.prog 97 [.c (.i .u8 c)] (.c (.b (rowB c))) := by
  refine Fn.intro' Tryz.func97 [.tmp 2] 17 fun _ => ?_
  have k1 := rletter_v c; have k2 := rdigit_v c
  have e : decide (c = 95) = decide ((c : Int) = 95) := by rw [Bool.eq_iff_iff]; simp; omega
  unfold rowB; rw [e]; generalize letterB c = p at *; generalize digitB c = q at *; generalize (c : Int) = x at *
  by_cases h : x = 95
  all_goals
    (repeat first | refine hku ?_ | refine sw_seqk fun _ _ => ?_ | refine sw_reg ?_ | (refine sw_reg2 ?_; conv in reord _ => simp [reord, freeO]) | ((first | refine aops_k fun _ _ => ?_ | with_reducible refine rw_own ?_); simp [go_sem]; try go_ints) | refine sw_block ?_ | refine sw_t ?_ | refine sw_f ?_ | refine sw_e ?_ | refine ai ?_ | simp only [aops, thn, inB, ↓reduceIte, Nat.reduceEqDiff])
    (refine ⟨.v _, k1, ?_⟩; simp [go_sem]; (repeat first | refine hku ?_ | refine sw_seqk fun _ _ => ?_ | refine sw_reg ?_ | (refine sw_reg2 ?_; conv in reord _ => simp [reord, freeO]) | ((first | refine aops_k fun _ _ => ?_ | with_reducible refine rw_own ?_); simp [go_sem]; try go_ints) | refine sw_block ?_ | refine sw_t ?_ | refine sw_f ?_ | refine sw_e ?_ | refine ai ?_ | simp only [aops, thn, inB, ↓reduceIte, Nat.reduceEqDiff]))
    (refine ⟨.v _, k2, ?_⟩; simp [go_sem]; (repeat first | refine hku ?_ | refine sw_seqk fun _ _ => ?_ | refine sw_reg ?_ | (refine sw_reg2 ?_; conv in reord _ => simp [reord, freeO]) | ((first | refine aops_k fun _ _ => ?_ | with_reducible refine rw_own ?_); simp [go_sem]; try go_ints) | refine sw_block ?_ | refine sw_t ?_ | refine sw_f ?_ | refine sw_e ?_ | refine ai ?_ | simp only [aops, thn, inB, ↓reduceIte, Nat.reduceEqDiff]))
    cases p <;> cases q
    all_goals
      simp
      (repeat first | refine hku ?_ | refine sw_seqk fun _ _ => ?_ | refine sw_reg ?_ | (refine sw_reg2 ?_; conv in reord _ => simp [reord, freeO]) | ((first | refine aops_k fun _ _ => ?_ | with_reducible refine rw_own ?_); simp [go_sem, h]; try go_ints) | refine sw_block ?_ | refine sw_t ?_ | refine sw_f ?_ | refine sw_e ?_ | refine ai ?_ | simp only [aops, thn, inB, ↓reduceIte, Nat.reduceEqDiff])
      simp [go_sem, h]
def rowN (s : ByteArray) : Nat := (s.data.toList.takeWhile fun c => rowB c.toNat).length
theorem byt_lt (s : ByteArray) (i : Nat) : byt s i < 256 := (s.data.getD i 0).toNat_lt
theorem takeWhile_len {α : Type} (p : α → Bool) : ∀ (l : List α) (n : Nat), n ≤ l.length → (∀ j (h : j < l.length), j < n → p l[j] = true) → (∀ h : n < l.length, p l[n] = false) → (l.takeWhile p).length = n
  | [], n, h, _, _ => by simp at h; simp [h]
  | a :: l, 0, _, _, h => by have := h (by simp); simp at this; simp [this]
  | a :: l, n + 1, h1, h2, h3 => by
    have := h2 0 (by simp) (by omega); simp at this; simp [this]
    exact takeWhile_len p l n (by simpa using h1) (fun j hj hn => h2 (j + 1) (by simpa using hj) (by omega)) fun h => h3 (by simpa using h)
theorem byt_eq (s : ByteArray) {i : Nat} (h : i < s.data.toList.length) : byt s i = (s.data.toList[i]).toNat := by
  unfold byt
  have : i < s.data.size := by rw [← Array.length_toList]; exact h
  simp only [Array.getD, this, dif_pos]
  rfl
theorem dl_len (s : ByteArray) : s.data.toList.length = s.size := Array.length_toList
theorem rowN_at (s : ByteArray) (n : Nat) (h : n ≤ s.size) (h1 : ∀ j, j < n → rowB (byt s j) = true) (h2 : n < s.size → rowB (byt s n) = false) : rowN s = n :=
  takeWhile_len _ _ _ (by rw [dl_len]; exact h) (fun j hj hn => by rw [← byt_eq s hj]; exact h1 j hn) fun hn => by rw [← byt_eq s hn]; exact h2 (by rw [← dl_len]; exact hn)
theorem rowN_all (s : ByteArray) : s.data.toList.all (fun c => rowB c.toNat) = decide (rowN s = s.size) := by
  have hl := dl_len s; unfold rowN; rw [← hl]; generalize s.data.toList = l; rw [Bool.eq_iff_iff]; simp only [decide_eq_true_eq]
  induction l with
  | nil => simp
  | cons a l ih =>
    cases h : rowB a.toNat with
    | false => simp [h]
    | true => simp [h, ← ih]
theorem rowN_le (s : ByteArray) : rowN s ≤ s.size := by
  have hl := dl_len s; unfold rowN; rw [← hl]; exact List.Sublist.length_le (List.takeWhile_sublist _)
set_option maxHeartbeats 1600000 in
theorem lrow_v (s : ByteArray) (hs : s.size ≤ 9223372036854775807) : Fn Tryz.prog 101 [.c (.s s)] (.c (.i .i64 (rowN s : Nat))) := by
  refine Fn.intro' Tryz.func101 [.tmp 2] 29 fun _ => ?_
  have h0 := rowN_le s; have hat := rowN_at s; generalize rowN s = r at h0 hat ⊢
  (repeat first | refine hku ?_ | refine sw_seqk fun _ _ => ?_ | refine sw_reg ?_ | (refine sw_reg2 ?_; conv in reord _ => simp [reord, freeO]) | ((first | refine aops_k fun _ _ => ?_ | with_reducible refine rw_own ?_); simp [go_sem]; try go_ints) | refine sw_block ?_ | refine sw_t ?_ | refine sw_f ?_ | refine sw_e ?_ | refine ai ?_ | simp only [aops, thn, inB, ↓reduceIte, Nat.reduceEqDiff])
  refine sw_loopv 3 (fun n : Nat => [(3, .c (.i .i64 (n : Int)))]) (fun _ => []) (fun n => n ≤ s.size ∧ ∀ j, j < n → rowB (byt s j) = true) (fun n => s.size - n) 0 ⟨Nat.zero_le _, fun j h => absurd h (Nat.not_lt_zero _)⟩ ?_ fun n ⟨hn, ht⟩ => ?_
  · simp [go_sem]
  · by_cases hlt : n < s.size
    · have k1 := letter_v (byt s n); have k2 := digit_v (byt s n); have h2 := hat n hn ht; have hb := byt_lt s n; have hr : rowB (byt s n) = (letterB (byt s n) || digitB (byt s n) || decide (byt s n = 95)) := rfl
      have htn : rowB (byt s n) = true → ∀ j, j < n + 1 → rowB (byt s j) = true := fun h j hj => by
        by_cases e : j = n
        · rw [e]; exact h
        · exact ht j (by omega)
      rw [hr] at h2 htn; obtain ⟨c, hc⟩ : ∃ c, byt s n = c := ⟨_, rfl⟩; rw [hc] at h2 htn k1 k2; generalize letterB c = p at *; generalize digitB c = q at *; clear hr hb
      have he : decide (c = 95) = decide ((c : Int) = 95) := by rw [Bool.eq_iff_iff]; simp; omega
      rw [he] at h2 htn; clear he
      by_cases h : (c : Int) = 95
      all_goals
        (repeat first | refine hku ?_ | refine sw_seqk fun _ _ => ?_ | refine sw_reg ?_ | (refine sw_reg2 ?_; conv in reord _ => simp [reord, freeO]) | ((first | refine aops_k fun _ _ => ?_ | with_reducible refine rw_own ?_); simp [go_sem, hlt, hc]; try go_ints) | refine sw_block ?_ | refine sw_t ?_ | refine sw_f ?_ | refine sw_e ?_ | refine ai ?_ | simp only [aops, thn, inB, ↓reduceIte, Nat.reduceEqDiff])
        (refine ⟨.v _, k1, ?_⟩; simp [go_sem]; (repeat first | refine hku ?_ | refine sw_seqk fun _ _ => ?_ | refine sw_reg ?_ | (refine sw_reg2 ?_; conv in reord _ => simp [reord, freeO]) | ((first | refine aops_k fun _ _ => ?_ | with_reducible refine rw_own ?_); simp [go_sem]; try go_ints) | refine sw_block ?_ | refine sw_t ?_ | refine sw_f ?_ | refine sw_e ?_ | refine ai ?_ | simp only [aops, thn, inB, ↓reduceIte, Nat.reduceEqDiff]))
        cases p
        · simp
          (repeat first | refine hku ?_ | refine sw_seqk fun _ _ => ?_ | refine sw_reg ?_ | (refine sw_reg2 ?_; conv in reord _ => simp [reord, freeO]) | ((first | refine aops_k fun _ _ => ?_ | with_reducible refine rw_own ?_); simp [go_sem, hlt, hc]; try go_ints) | refine sw_block ?_ | refine sw_t ?_ | refine sw_f ?_ | refine sw_e ?_ | refine ai ?_ | simp only [aops, thn, inB, ↓reduceIte, Nat.reduceEqDiff])
          (refine ⟨.v _, k2, ?_⟩; simp [go_sem]; (repeat first | refine hku ?_ | refine sw_seqk fun _ _ => ?_ | refine sw_reg ?_ | (refine sw_reg2 ?_; conv in reord _ => simp [reord, freeO]) | ((first | refine aops_k fun _ _ => ?_ | with_reducible refine rw_own ?_); simp [go_sem]; try go_ints) | refine sw_block ?_ | refine sw_t ?_ | refine sw_f ?_ | refine sw_e ?_ | refine ai ?_ | simp only [aops, thn, inB, ↓reduceIte, Nat.reduceEqDiff]))
          cases q
          · simp
            (repeat first | refine hku ?_ | refine sw_seqk fun _ _ => ?_ | refine sw_reg ?_ | (refine sw_reg2 ?_; conv in reord _ => simp [reord, freeO]) | ((first | refine aops_k fun _ _ => ?_ | with_reducible refine rw_own ?_); simp [go_sem, hlt, hc, h]; try go_ints) | refine sw_block ?_ | refine sw_t ?_ | refine sw_f ?_ | refine sw_e ?_ | refine ai ?_ | simp only [aops, thn, inB])
            first
            | (refine ⟨n + 1, ⟨by omega, htn (by simp [h])⟩, by omega, ?_⟩; simp [go_sem]; done)
            | (have := h2 fun _ => by simp [h]
               subst this
               simp [go_sem]; done)
          · simp
            (repeat first | refine hku ?_ | refine sw_seqk fun _ _ => ?_ | refine sw_reg ?_ | (refine sw_reg2 ?_; conv in reord _ => simp [reord, freeO]) | ((first | refine aops_k fun _ _ => ?_ | with_reducible refine rw_own ?_); simp [go_sem]; try go_ints) | refine sw_block ?_ | refine sw_t ?_ | refine sw_f ?_ | refine sw_e ?_ | refine ai ?_ | simp only [aops, thn, inB])
            refine ⟨n + 1, ⟨by omega, htn (by simp)⟩, by omega, ?_⟩; simp [go_sem]
        · simp
          (repeat first | refine hku ?_ | refine sw_seqk fun _ _ => ?_ | refine sw_reg ?_ | (refine sw_reg2 ?_; conv in reord _ => simp [reord, freeO]) | ((first | refine aops_k fun _ _ => ?_ | with_reducible refine rw_own ?_); simp [go_sem]; try go_ints) | refine sw_block ?_ | refine sw_t ?_ | refine sw_f ?_ | refine sw_e ?_ | refine ai ?_ | simp only [aops, thn, inB])
          refine ⟨n + 1, ⟨by omega, htn (by simp)⟩, by omega, ?_⟩; simp [go_sem]
    · (repeat first | refine hku ?_ | refine sw_seqk fun _ _ => ?_ | refine sw_reg ?_ | (refine sw_reg2 ?_; conv in reord _ => simp [reord, freeO]) | ((first | refine aops_k fun _ _ => ?_ | with_reducible refine rw_own ?_); simp [go_sem, hlt]; try go_ints) | refine sw_block ?_ | refine sw_t ?_ | refine sw_f ?_ | refine sw_e ?_ | refine ai ?_ | simp only [aops, thn, inB, ↓reduceIte, Nat.reduceEqDiff])
      have := hat n hn ht fun h => absurd h hlt
      subst this; simp [go_sem]
set_option maxHeartbeats 3200000 in
theorem word_v (s : ByteArray) : Fn Tryz.prog 102 [.c (.s s)] (.c (.b (words.contains s.data.toList))) := by
  refine Fn.intro' Tryz.func102 [.tmp 2] 15 fun _ => ?_
  rw [← ByteArray.toList_eq]
  by_cases h1 : s.toList = [97, 110, 100]
  · (repeat first | refine hku ?_ | refine sw_seqk fun _ _ => ?_ | refine sw_reg ?_ | (refine sw_reg2 ?_; conv in reord _ => simp [reord, freeO]) | ((first | refine aops_k fun _ _ => ?_ | with_reducible refine rw_own ?_); simp [go_sem, h1]; try go_ints) | refine sw_block ?_ | refine sw_t ?_ | refine sw_f ?_ | refine sw_e ?_ | refine ai ?_ | simp only [thn, inB])
    simp [go_sem, h1, words]
  by_cases h2 : s.toList = [111, 114]
  · (repeat first | refine hku ?_ | refine sw_seqk fun _ _ => ?_ | refine sw_reg ?_ | (refine sw_reg2 ?_; conv in reord _ => simp [reord, freeO]) | ((first | refine aops_k fun _ _ => ?_ | with_reducible refine rw_own ?_); simp [go_sem, h2]; try go_ints) | refine sw_block ?_ | refine sw_t ?_ | refine sw_f ?_ | refine sw_e ?_ | refine ai ?_ | simp only [thn, inB])
    simp [go_sem, h2, words]
  by_cases h3 : s.toList = [110, 111, 116]
  · (repeat first | refine hku ?_ | refine sw_seqk fun _ _ => ?_ | refine sw_reg ?_ | (refine sw_reg2 ?_; conv in reord _ => simp [reord, freeO]) | ((first | refine aops_k fun _ _ => ?_ | with_reducible refine rw_own ?_); simp [go_sem, h3]; try go_ints) | refine sw_block ?_ | refine sw_t ?_ | refine sw_f ?_ | refine sw_e ?_ | refine ai ?_ | simp only [thn, inB])
    simp [go_sem, h3, words]
  by_cases h4 : s.toList = [105, 109, 112, 108, 105, 101, 115]
  · (repeat first | refine hku ?_ | refine sw_seqk fun _ _ => ?_ | refine sw_reg ?_ | (refine sw_reg2 ?_; conv in reord _ => simp [reord, freeO]) | ((first | refine aops_k fun _ _ => ?_ | with_reducible refine rw_own ?_); simp [go_sem, h4]; try go_ints) | refine sw_block ?_ | refine sw_t ?_ | refine sw_f ?_ | refine sw_e ?_ | refine ai ?_ | simp only [thn, inB])
    simp [go_sem, h4, words]
  by_cases h5 : s.toList = [105, 102, 102]
  · (repeat first | refine hku ?_ | refine sw_seqk fun _ _ => ?_ | refine sw_reg ?_ | (refine sw_reg2 ?_; conv in reord _ => simp [reord, freeO]) | ((first | refine aops_k fun _ _ => ?_ | with_reducible refine rw_own ?_); simp [go_sem, h5]; try go_ints) | refine sw_block ?_ | refine sw_t ?_ | refine sw_f ?_ | refine sw_e ?_ | refine ai ?_ | simp only [thn, inB])
    simp [go_sem, h5, words]
  by_cases h6 : s.toList = [115, 111, 109, 101]
  · (repeat first | refine hku ?_ | refine sw_seqk fun _ _ => ?_ | refine sw_reg ?_ | (refine sw_reg2 ?_; conv in reord _ => simp [reord, freeO]) | ((first | refine aops_k fun _ _ => ?_ | with_reducible refine rw_own ?_); simp [go_sem, h6]; try go_ints) | refine sw_block ?_ | refine sw_t ?_ | refine sw_f ?_ | refine sw_e ?_ | refine ai ?_ | simp only [thn, inB])
    simp [go_sem, h6, words]
  by_cases h7 : s.toList = [97, 108, 108]
  · (repeat first | refine hku ?_ | refine sw_seqk fun _ _ => ?_ | refine sw_reg ?_ | (refine sw_reg2 ?_; conv in reord _ => simp [reord, freeO]) | ((first | refine aops_k fun _ _ => ?_ | with_reducible refine rw_own ?_); simp [go_sem, h7]; try go_ints) | refine sw_block ?_ | refine sw_t ?_ | refine sw_f ?_ | refine sw_e ?_ | refine ai ?_ | simp only [thn, inB])
    simp [go_sem, h7, words]
  by_cases h8 : s.toList = [116, 114, 117, 101]
  · (repeat first | refine hku ?_ | refine sw_seqk fun _ _ => ?_ | refine sw_reg ?_ | (refine sw_reg2 ?_; conv in reord _ => simp [reord, freeO]) | ((first | refine aops_k fun _ _ => ?_ | with_reducible refine rw_own ?_); simp [go_sem, h8]; try go_ints) | refine sw_block ?_ | refine sw_t ?_ | refine sw_f ?_ | refine sw_e ?_ | refine ai ?_ | simp only [thn, inB])
    simp [go_sem, h8, words]
  by_cases h9 : s.toList = [102, 97, 108, 115, 101]
  · (repeat first | refine hku ?_ | refine sw_seqk fun _ _ => ?_ | refine sw_reg ?_ | (refine sw_reg2 ?_; conv in reord _ => simp [reord, freeO]) | ((first | refine aops_k fun _ _ => ?_ | with_reducible refine rw_own ?_); simp [go_sem, h9]; try go_ints) | refine sw_block ?_ | refine sw_t ?_ | refine sw_f ?_ | refine sw_e ?_ | refine ai ?_ | simp only [thn, inB])
    simp [go_sem, h9, words]
  by_cases h10 : s.toList = [100, 105, 118, 105, 100, 101, 115]
  · (repeat first | refine hku ?_ | refine sw_seqk fun _ _ => ?_ | refine sw_reg ?_ | (refine sw_reg2 ?_; conv in reord _ => simp [reord, freeO]) | ((first | refine aops_k fun _ _ => ?_ | with_reducible refine rw_own ?_); simp [go_sem, h10]; try go_ints) | refine sw_block ?_ | refine sw_t ?_ | refine sw_f ?_ | refine sw_e ?_ | refine ai ?_ | simp only [thn, inB])
    simp [go_sem, h10, words]
  have b1 := beq_eq_false_iff_ne.2 h1; have b2 := beq_eq_false_iff_ne.2 h2; have b3 := beq_eq_false_iff_ne.2 h3; have b4 := beq_eq_false_iff_ne.2 h4; have b5 := beq_eq_false_iff_ne.2 h5; have b6 := beq_eq_false_iff_ne.2 h6; have b7 := beq_eq_false_iff_ne.2 h7; have b8 := beq_eq_false_iff_ne.2 h8; have b9 := beq_eq_false_iff_ne.2 h9; have b10 := beq_eq_false_iff_ne.2 h10
  (repeat first | refine hku ?_ | refine sw_seqk fun _ _ => ?_ | refine sw_reg ?_ | (refine sw_reg2 ?_; conv in reord _ => simp [reord, freeO]) | ((first | refine aops_k fun _ _ => ?_ | with_reducible refine rw_own ?_); simp [go_sem, b1, b2, b3, b4, b5, b6, b7, b8, b9, b10]; try go_ints) | refine sw_block ?_ | refine sw_t ?_ | refine sw_f ?_ | refine sw_e ?_ | refine ai ?_ | simp only [aops, thn, inB, ↓reduceIte, Nat.reduceEqDiff])
  simp [go_sem, h1, h2, h3, h4, h5, h6, h7, h8, h9, h10, words]
set_option maxHeartbeats 3200000 in
theorem ris3_v (s : ByteArray) : Fn Tryz.prog 99 [.c (.s s)] (.c (.b (words.contains s.data.toList))) := by
  refine Fn.intro' Tryz.func99 [.tmp 2] 41 fun _ => ?_
  rw [← ByteArray.toList_eq]
  by_cases h1 : s.toList = [97, 110, 100]
  · (repeat first | refine hku ?_ | refine sw_seqk fun _ _ => ?_ | refine sw_reg ?_ | (refine sw_reg2 ?_; conv in reord _ => simp [reord, freeO]) | ((first | refine aops_k fun _ _ => ?_ | with_reducible refine rw_own ?_); simp [go_sem, h1]; try go_ints) | refine sw_block ?_ | refine sw_t ?_ | refine sw_f ?_ | refine sw_e ?_ | refine ai ?_ | simp only [aops, thn, inB, ↓reduceIte, Nat.reduceEqDiff])
    simp [go_sem, h1, words]
  by_cases h2 : s.toList = [111, 114]
  · (repeat first | refine hku ?_ | refine sw_seqk fun _ _ => ?_ | refine sw_reg ?_ | (refine sw_reg2 ?_; conv in reord _ => simp [reord, freeO]) | ((first | refine aops_k fun _ _ => ?_ | with_reducible refine rw_own ?_); simp [go_sem, h2]; try go_ints) | refine sw_block ?_ | refine sw_t ?_ | refine sw_f ?_ | refine sw_e ?_ | refine ai ?_ | simp only [aops, thn, inB, ↓reduceIte, Nat.reduceEqDiff])
    simp [go_sem, h2, words]
  by_cases h3 : s.toList = [110, 111, 116]
  · (repeat first | refine hku ?_ | refine sw_seqk fun _ _ => ?_ | refine sw_reg ?_ | (refine sw_reg2 ?_; conv in reord _ => simp [reord, freeO]) | ((first | refine aops_k fun _ _ => ?_ | with_reducible refine rw_own ?_); simp [go_sem, h3]; try go_ints) | refine sw_block ?_ | refine sw_t ?_ | refine sw_f ?_ | refine sw_e ?_ | refine ai ?_ | simp only [aops, thn, inB, ↓reduceIte, Nat.reduceEqDiff])
    simp [go_sem, h3, words]
  by_cases h4 : s.toList = [105, 109, 112, 108, 105, 101, 115]
  · (repeat first | refine hku ?_ | refine sw_seqk fun _ _ => ?_ | refine sw_reg ?_ | (refine sw_reg2 ?_; conv in reord _ => simp [reord, freeO]) | ((first | refine aops_k fun _ _ => ?_ | with_reducible refine rw_own ?_); simp [go_sem, h4]; try go_ints) | refine sw_block ?_ | refine sw_t ?_ | refine sw_f ?_ | refine sw_e ?_ | refine ai ?_ | simp only [aops, thn, inB, ↓reduceIte, Nat.reduceEqDiff])
    simp [go_sem, h4, words]
  by_cases h5 : s.toList = [105, 102, 102]
  · (repeat first | refine hku ?_ | refine sw_seqk fun _ _ => ?_ | refine sw_reg ?_ | (refine sw_reg2 ?_; conv in reord _ => simp [reord, freeO]) | ((first | refine aops_k fun _ _ => ?_ | with_reducible refine rw_own ?_); simp [go_sem, h5]; try go_ints) | refine sw_block ?_ | refine sw_t ?_ | refine sw_f ?_ | refine sw_e ?_ | refine ai ?_ | simp only [aops, thn, inB, ↓reduceIte, Nat.reduceEqDiff])
    simp [go_sem, h5, words]
  by_cases h6 : s.toList = [115, 111, 109, 101]
  · (repeat first | refine hku ?_ | refine sw_seqk fun _ _ => ?_ | refine sw_reg ?_ | (refine sw_reg2 ?_; conv in reord _ => simp [reord, freeO]) | ((first | refine aops_k fun _ _ => ?_ | with_reducible refine rw_own ?_); simp [go_sem, h6]; try go_ints) | refine sw_block ?_ | refine sw_t ?_ | refine sw_f ?_ | refine sw_e ?_ | refine ai ?_ | simp only [aops, thn, inB, ↓reduceIte, Nat.reduceEqDiff])
    simp [go_sem, h6, words]
  by_cases h7 : s.toList = [97, 108, 108]
  · (repeat first | refine hku ?_ | refine sw_seqk fun _ _ => ?_ | refine sw_reg ?_ | (refine sw_reg2 ?_; conv in reord _ => simp [reord, freeO]) | ((first | refine aops_k fun _ _ => ?_ | with_reducible refine rw_own ?_); simp [go_sem, h7]; try go_ints) | refine sw_block ?_ | refine sw_t ?_ | refine sw_f ?_ | refine sw_e ?_ | refine ai ?_ | simp only [aops, thn, inB, ↓reduceIte, Nat.reduceEqDiff])
    simp [go_sem, h7, words]
  by_cases h8 : s.toList = [116, 114, 117, 101]
  · (repeat first | refine hku ?_ | refine sw_seqk fun _ _ => ?_ | refine sw_reg ?_ | (refine sw_reg2 ?_; conv in reord _ => simp [reord, freeO]) | ((first | refine aops_k fun _ _ => ?_ | with_reducible refine rw_own ?_); simp [go_sem, h8]; try go_ints) | refine sw_block ?_ | refine sw_t ?_ | refine sw_f ?_ | refine sw_e ?_ | refine ai ?_ | simp only [aops, thn, inB, ↓reduceIte, Nat.reduceEqDiff])
    simp [go_sem, h8, words]
  by_cases h9 : s.toList = [102, 97, 108, 115, 101]
  · (repeat first | refine hku ?_ | refine sw_seqk fun _ _ => ?_ | refine sw_reg ?_ | (refine sw_reg2 ?_; conv in reord _ => simp [reord, freeO]) | ((first | refine aops_k fun _ _ => ?_ | with_reducible refine rw_own ?_); simp [go_sem, h9]; try go_ints) | refine sw_block ?_ | refine sw_t ?_ | refine sw_f ?_ | refine sw_e ?_ | refine ai ?_ | simp only [aops, thn, inB, ↓reduceIte, Nat.reduceEqDiff])
    simp [go_sem, h9, words]
  by_cases h10 : s.toList = [100, 105, 118, 105, 100, 101, 115]
  · (repeat first | refine hku ?_ | refine sw_seqk fun _ _ => ?_ | refine sw_reg ?_ | (refine sw_reg2 ?_; conv in reord _ => simp [reord, freeO]) | ((first | refine aops_k fun _ _ => ?_ | with_reducible refine rw_own ?_); simp [go_sem, h10]; try go_ints) | refine sw_block ?_ | refine sw_t ?_ | refine sw_f ?_ | refine sw_e ?_ | refine ai ?_ | simp only [aops, thn, inB, ↓reduceIte, Nat.reduceEqDiff])
    simp [go_sem, h10, words]
  (repeat first | refine hku ?_ | refine sw_seqk fun _ _ => ?_ | refine sw_reg ?_ | (refine sw_reg2 ?_; conv in reord _ => simp [reord, freeO]) | ((first | refine aops_k fun _ _ => ?_ | with_reducible refine rw_own ?_); simp [go_sem, h1, h2, h3, h4, h5, h6, h7, h8, h9]; try go_ints) | refine sw_block ?_ | refine sw_t ?_ | refine sw_f ?_ | refine sw_e ?_ | refine ai ?_ | simp only [aops, thn, inB, ↓reduceIte, Nat.reduceEqDiff])
  simp [go_sem, h1, h2, h3, h4, h5, h6, h7, h8, h9, h10, words]
end Go.Proofs.YtbgifiijjjoebaaGreatDoor

namespace Go.Proofs.YtbgifiijjjoebaaGreatDoor
open Go.RowKit

theorem FnM.of_fn {P : Program} {f : FuncId} {ads : List AD} {al : List SV} {r : SV} (h : Fn P f ads r) (k : ∀ m : Mem, argsK m al fun b ds => b = false ∧ ds = ads) (hne : noE r = true := by rfl) : FnM P f al [] r [] := by
 intro R hR w0 c w vs hx ha; obtain ⟨b, ds, ⟨rfl, rfl⟩, hd⟩ := argsK_rel (S := ⟨0, fun _ => .u, [] ++ R⟩) hx ha (k _); have hd2 : F2 (RelD w c.X) vs.toList ds := forall2_mono (fun _ _ r => r.up fun b hb => hb.elim id fun h => by cases h.1) hd
 refine (h w c.X vs (w0.lay.ext hx.ext) hx.xl hd2).mono fun e w' ⟨v, he, hxt, hr⟩ => ?_
 have hx' := hx.call hxt
 have hq : ∀ fr, (false = true → fr = true) → ∀ b, (Cx.mk (fun _ => 0) (fun _ => undef) (fun b => c.X b ∨ w.heap.size ≤ b ∧ b < w'.heap.size) w.heap.size).Y fr b → (Cx.mk c.β c.ρ (fun b => c.X b ∨ w.heap.size ≤ b ∧ b < w'.heap.size) c.n0).Y fr b := fun fr _ b hb => ⟨hb.1, fun hf => by
  have h1 := hb.2 hf; have h2 := hx.ext.size; have h3 := hx.n0; simp only at h1 h2 h3 ⊢
  omega⟩
 exact ⟨v, _, he, hx', RelR.res hq hr (fun h => by cases h) fun fr ds e => by rw [e] at hne; cases hne⟩
def fix {α : Type} (p : α → Bool) (l : List α) : Int := if l.findIdx p < l.length then l.findIdx p else -1
theorem fix_at {α : Type} {p : α → Bool} {l : List α} {i : Nat} (h : i < l.length) (hp : p l[i] = true) (hb : ∀ j (hj : j < l.length), j < i → p l[j] = false) : fix p l = i := by
 have e : l.findIdx p = i := (List.findIdx_eq h).2 ⟨hp, fun j hj => by simpa using hb j (by omega) hj⟩; unfold fix; rw [e, if_pos h]
theorem fix_no {α : Type} {p : α → Bool} {l : List α} (h : ∀ j (hj : j < l.length), p l[j] = false) : fix p l = -1 := by
 have e : ¬ l.findIdx p < l.length := fun hl => by
  have := List.findIdx_getElem (w := hl); rw [h _ hl] at this
  cases this
 unfold fix; rw [if_neg e]
theorem fix_any {α : Type} (p : α → Bool) (l : List α) : decide (0 ≤ fix p l) = l.any p := by
 unfold fix
 by_cases h : l.findIdx p < l.length
 ·rw [if_pos h, decide_eq_true (by omega)]; exact (List.any_eq_true.2 ⟨_, List.getElem_mem h, List.findIdx_getElem (w := h)⟩).symm
 ·rw [if_neg h, decide_eq_false (by omega)]; rw [List.findIdx_lt_length] at h
  cases h2 : l.any p with
  | false => rfl
  | true => exact absurd (by simpa using h2) h
theorem fix_in {α : Type} (p : α → Bool) (l : List α) (h : l.length ≤ 9223372036854775807) : IntKind.i64.min ≤ fix p l ∧ fix p l ≤ IntKind.i64.max := by
 unfold fix; simp only [z_min]
 split <;> omega
theorem dSs_len (l : List ByteArray) : (dSs l).length = l.length := by simp [dSs]
theorem dSs_get (l : List ByteArray) (i : Nat) (h : i < (dSs l).length) : (dSs l)[i] = [.s (l[i]'(by simpa [dSs] using h))] := by simp [dSs]
set_option maxHeartbeats 3200000 in
theorem idxS_m (f : FuncId) (l : List ByteArray) (p : ByteArray → Bool) (hl : l.length ≤ 9223372036854775807) (he : enterP Tryz.prog f = true) (hp : ∀ s ∈ l, FnM Tryz.prog f [.c (.s s)] [] (.c (.b (p s))) []) :
  FnM Tryz.prog 103 [.c (.l false (dSs l)), .c (.f f [])] [] (.c (.i .i64 (fix p l))) [] := by
 refine FnM.intro' Tryz.func103 [.tmp 4] 19 fun R hR => ?_
 have r1 := hR.hi; have r2 := hR.it; have hat := @fix_at _ p l; have hno := @fix_no _ p l; generalize fix p l = q at *
 (repeat first | refine hku ?_ | refine sw_seqk fun _ _ => ?_ | refine sw_reg ?_ | (refine sw_reg2 ?_; conv in reord _ => simp [reord, freeO]) | ((first | refine aops_k fun _ _ => ?_ | with_reducible refine rw_own ?_); simp [go_sem, dSs_len]; try go_ints) | refine sw_block ?_ | refine sw_t ?_ | refine sw_f ?_ | refine sw_e ?_ | refine ai ?_ | simp only [aops, thn, inB, ↓reduceIte, Nat.reduceEqDiff])
 refine sw_loopv 5 (fun i : Nat => [(7, .c (.i .i64 (l.length : Int))), (8, .c (.i .i64 (i : Int)))]) (fun _ => []) (fun i => i ≤ l.length ∧ ∀ j (hj : j < l.length), j < i → p l[j] = false) (fun i => l.length - i) 0 ⟨Nat.zero_le _, fun j _ h => absurd h (Nat.not_lt_zero _)⟩ ?_ fun i ⟨hi, ht⟩ => ?_
 ·simp [go_sem, hR.cm, hR.cb, chkK_self]
 ·by_cases hlt : i < l.length
  ·have k1 := hp l[i] (List.getElem_mem hlt); have h1 := hat (i := i) hlt
   (repeat first | refine hku ?_ | refine sw_seqk fun _ _ => ?_ | refine sw_reg ?_ | (refine sw_reg2 ?_; conv in reord _ => simp [reord, freeO]) | ((first | refine aops_k fun _ _ => ?_ | with_reducible refine rw_own ?_); simp [go_sem, hlt, dSs_len, dSs_get]; try go_ints) | refine sw_block ?_ | refine sw_t ?_ | refine sw_f ?_ | refine sw_e ?_ | refine ai ?_ | simp only [aops, thn, inB, ↓reduceIte, Nat.reduceEqDiff])
   refine callM_i k1 ?_; simp [go_sem, he, r2]
   cases hpi : p l[i] with
   | true =>
    have := h1 hpi ht; subst this
    (repeat first | refine hku ?_ | refine sw_seqk fun _ _ => ?_ | refine sw_reg ?_ | (refine sw_reg2 ?_; conv in reord _ => simp [reord, freeO]) | ((first | refine aops_k fun _ _ => ?_ | with_reducible refine rw_own ?_); simp [go_sem]; try go_ints) | refine sw_block ?_ | refine sw_t ?_ | refine sw_f ?_ | refine sw_e ?_ | refine ai ?_ | simp only [thn, inB])
    simp [go_sem, hR.cm, hR.cb, chkK_self]
   | false =>
    (repeat first | refine hku ?_ | refine sw_seqk fun _ _ => ?_ | refine sw_reg ?_ | (refine sw_reg2 ?_; conv in reord _ => simp [reord, freeO]) | ((first | refine aops_k fun _ _ => ?_ | with_reducible refine rw_own ?_); simp [go_sem]; try go_ints) | refine sw_block ?_ | refine sw_t ?_ | refine sw_f ?_ | refine sw_e ?_ | refine ai ?_ | simp only [aops, thn])
    refine ⟨i + 1, ⟨by omega, fun j hj hji => ?_⟩, by omega, ?_⟩
    ·by_cases e : j = i
     ·subst e; exact hpi
     ·exact ht j hj (by omega)
    ·simp [go_sem, hR.cm, hR.cb, chkK_self]
  ·have := hno fun j hj => ht j hj (by omega)
   subst this
   (repeat first | refine hku ?_ | refine sw_seqk fun _ _ => ?_ | refine sw_reg ?_ | (refine sw_reg2 ?_; conv in reord _ => simp [reord, freeO]) | ((first | refine aops_k fun _ _ => ?_ | with_reducible refine rw_own ?_); simp [go_sem, hlt]; try go_ints) | refine sw_block ?_ | refine sw_t ?_ | refine sw_f ?_ | refine sw_e ?_ | refine ai ?_ | simp only [aops, thn, inB, ↓reduceIte, Nat.reduceEqDiff])
   simp [go_sem, hR.cm, hR.cb, chkK_self]
theorem conS_m (f : FuncId) (l : List ByteArray) (p : ByteArray → Bool) (hl : l.length ≤ 9223372036854775807) (he : enterP Tryz.prog f = true) (hp : ∀ s ∈ l, FnM Tryz.prog f [.c (.s s)] [] (.c (.b (p s))) []) :
  FnM Tryz.prog 77 [.c (.l false (dSs l)), .c (.f f [])] [] (.c (.b (l.any p))) [] := by
 refine FnM.intro' Tryz.func77 [.tmp 4] 9 fun R hR => ?_
 have r1 := hR.hi; have r2 := hR.it; have k1 := idxS_m f l p hl he hp; rw [← fix_any]; have hq := fix_in p l hl; generalize fix p l = q at *
 (repeat first | refine hku ?_ | refine sw_seqk fun _ _ => ?_ | refine sw_reg ?_ | (refine sw_reg2 ?_; conv in reord _ => simp [reord, freeO]) | ((first | refine aops_k fun _ _ => ?_ | with_reducible refine rw_own ?_); simp [go_sem]; try go_ints) | refine sw_block ?_ | refine sw_t ?_ | refine sw_f ?_ | refine sw_e ?_ | refine ai ?_ | simp only [aops, thn, inB, ↓reduceIte, Nat.reduceEqDiff])
 refine callM_i k1 ?_; simp [go_sem, r2]
 (repeat first | refine hku ?_ | refine sw_seqk fun _ _ => ?_ | refine sw_reg ?_ | (refine sw_reg2 ?_; conv in reord _ => simp [reord, freeO]) | ((first | refine aops_k fun _ _ => ?_ | with_reducible refine rw_own ?_); simp [go_sem]; try go_ints) | refine sw_block ?_ | refine sw_t ?_ | refine sw_f ?_ | refine sw_e ?_ | refine ai ?_ | simp only [aops, thn, inB, ↓reduceIte, Nat.reduceEqDiff])
 simp [go_sem, hR.cm, hR.cb, chkK_self]
set_option maxHeartbeats 3200000 in
theorem idxT_m (f : FuncId) (l : List Tr) (p : Tr → Bool) (hl : l.length ≤ 9223372036854775807) (he : enterP Tryz.prog f = true) (hp : ∀ t ∈ l, FnM Tryz.prog f [.g ((dTr t).map (toC false))] [] (.c (.b (p t))) []) :
  FnM Tryz.prog 104 [.c (.l false (l.map dTr)), .c (.f f [])] [] (.c (.i .i64 (fix p l))) [] := by
 refine FnM.intro' Tryz.func104 [.tmp 4] 19 fun R hR => ?_
 have r1 := hR.hi; have r2 := hR.it; have hat := @fix_at _ p l; have hno := @fix_no _ p l; generalize fix p l = q at *
 (repeat first | refine hku ?_ | refine sw_seqk fun _ _ => ?_ | refine sw_reg ?_ | (refine sw_reg2 ?_; conv in reord _ => simp [reord, freeO]) | ((first | refine aops_k fun _ _ => ?_ | with_reducible refine rw_own ?_); simp [go_sem]; try go_ints) | refine sw_block ?_ | refine sw_t ?_ | refine sw_f ?_ | refine sw_e ?_ | refine ai ?_ | simp only [aops, thn, inB, ↓reduceIte, Nat.reduceEqDiff])
 refine sw_loopv 5 (fun i : Nat => [(7, .c (.i .i64 (l.length : Int))), (8, .c (.i .i64 (i : Int)))]) (fun _ => []) (fun i => i ≤ l.length ∧ ∀ j (hj : j < l.length), j < i → p l[j] = false) (fun i => l.length - i) 0 ⟨Nat.zero_le _, fun j _ h => absurd h (Nat.not_lt_zero _)⟩ ?_ fun i ⟨hi, ht⟩ => ?_
 ·simp [go_sem, hR.cm, hR.cb, chkK_self]
 ·by_cases hlt : i < l.length
  ·have k1 := hp l[i] (List.getElem_mem hlt); have h1 := hat (i := i) hlt; rw [dTr_eq] at k1; simp only [List.map, toC] at k1
   (repeat first | refine hku ?_ | refine sw_seqk fun _ _ => ?_ | refine sw_reg ?_ | (refine sw_reg2 ?_; conv in reord _ => simp [reord, freeO]) | ((first | refine aops_k fun _ _ => ?_ | with_reducible refine rw_own ?_); simp [go_sem, hlt, dTr_eq]; try go_ints) | refine sw_block ?_ | refine sw_t ?_ | refine sw_f ?_ | refine sw_e ?_ | refine ai ?_ | simp only [aops, thn, inB, ↓reduceIte, Nat.reduceEqDiff])
   refine callM_i k1 ?_; simp [go_sem, he, r2]
   cases hpi : p l[i] with
   | true =>
    have := h1 hpi ht; subst this
    (repeat first | refine hku ?_ | refine sw_seqk fun _ _ => ?_ | refine sw_reg ?_ | (refine sw_reg2 ?_; conv in reord _ => simp [reord, freeO]) | ((first | refine aops_k fun _ _ => ?_ | with_reducible refine rw_own ?_); simp [go_sem]; try go_ints) | refine sw_block ?_ | refine sw_t ?_ | refine sw_f ?_ | refine sw_e ?_ | refine ai ?_ | simp only [thn, inB])
    simp [go_sem, hR.cm, hR.cb, chkK_self]
   | false =>
    (repeat first | refine hku ?_ | refine sw_seqk fun _ _ => ?_ | refine sw_reg ?_ | (refine sw_reg2 ?_; conv in reord _ => simp [reord, freeO]) | ((first | refine aops_k fun _ _ => ?_ | with_reducible refine rw_own ?_); simp [go_sem]; try go_ints) | refine sw_block ?_ | refine sw_t ?_ | refine sw_f ?_ | refine sw_e ?_ | refine ai ?_ | simp only [aops, thn])
    refine ⟨i + 1, ⟨by omega, fun j hj hji => ?_⟩, by omega, ?_⟩
    ·by_cases e : j = i
     ·subst e; exact hpi
     ·exact ht j hj (by omega)
    ·simp [go_sem, hR.cm, hR.cb, chkK_self]
  ·have := hno fun j hj => ht j hj (by omega)
   subst this
   (repeat first | refine hku ?_ | refine sw_seqk fun _ _ => ?_ | refine sw_reg ?_ | (refine sw_reg2 ?_; conv in reord _ => simp [reord, freeO]) | ((first | refine aops_k fun _ _ => ?_ | with_reducible refine rw_own ?_); simp [go_sem, hlt]; try go_ints) | refine sw_block ?_ | refine sw_t ?_ | refine sw_f ?_ | refine sw_e ?_ | refine ai ?_ | simp only [aops, thn, inB, ↓reduceIte, Nat.reduceEqDiff])
   simp [go_sem, hR.cm, hR.cb, chkK_self]
theorem conT_m (f : FuncId) (l : List Tr) (p : Tr → Bool) (hl : l.length ≤ 9223372036854775807) (he : enterP Tryz.prog f = true) (hp : ∀ t ∈ l, FnM Tryz.prog f [.g ((dTr t).map (toC false))] [] (.c (.b (p t))) []) :
  FnM Tryz.prog 81 [.c (.l false (l.map dTr)), .c (.f f [])] [] (.c (.b (l.any p))) [] := by
 refine FnM.intro' Tryz.func81 [.tmp 4] 9 fun R hR => ?_
 have r1 := hR.hi; have r2 := hR.it; have k1 := idxT_m f l p hl he hp; rw [← fix_any]; have hq := fix_in p l hl; generalize fix p l = q at *
 (repeat first | refine hku ?_ | refine sw_seqk fun _ _ => ?_ | refine sw_reg ?_ | (refine sw_reg2 ?_; conv in reord _ => simp [reord, freeO]) | ((first | refine aops_k fun _ _ => ?_ | with_reducible refine rw_own ?_); simp [go_sem]; try go_ints) | refine sw_block ?_ | refine sw_t ?_ | refine sw_f ?_ | refine sw_e ?_ | refine ai ?_ | simp only [aops, thn, inB, ↓reduceIte, Nat.reduceEqDiff])
 refine callM_i k1 ?_; simp [go_sem, r2]
 (repeat first | refine hku ?_ | refine sw_seqk fun _ _ => ?_ | refine sw_reg ?_ | (refine sw_reg2 ?_; conv in reord _ => simp [reord, freeO]) | ((first | refine aops_k fun _ _ => ?_ | with_reducible refine rw_own ?_); simp [go_sem]; try go_ints) | refine sw_block ?_ | refine sw_t ?_ | refine sw_f ?_ | refine sw_e ?_ | refine ai ?_ | simp only [aops, thn, inB, ↓reduceIte, Nat.reduceEqDiff])
 simp [go_sem, hR.cm, hR.cb, chkK_self]
end Go.Proofs.YtbgifiijjjoebaaGreatDoor

namespace Go.Proofs.YtbgifiijjjoebaaGreatDoor
open Go.RowKit

theorem nameB_row (s : ByteArray) : nameB s = (decide (0 < s.size) && letterB (byt s 0) && decide (rowN s = s.size) && decide (s.size ≤ 24) && !words.contains s.data.toList) := by
  unfold nameB; rw [rowN_all]
  rfl
theorem s_ne (s : ByteArray) : (s.toList == []) = decide (s.size = 0) := by
  rw [ByteArray.toList_eq, ← dl_len]
  cases s.data.toList <;> simp
set_option maxHeartbeats 3200000 in
theorem isname_v (s : ByteArray) (hs : s.size ≤ 9223372036854775807) : Fn Tryz.prog 76 [.c (.s s)] (.c (.b (nameB s))) := by
  refine Fn.intro' Tryz.func76 [.tmp 2] 27 fun _ => ?_
  have k1 := letter_v (byt s 0); have k2 := lrow_v s hs; have k3 := word_v s; rw [nameB_row]; have hb := byt_lt s 0; have hr := rowN_le s; have h0 := s_ne s; obtain ⟨c, hc⟩ : ∃ c, byt s 0 = c := ⟨_, rfl⟩; rw [hc] at k1 ⊢; generalize letterB c = p at *; generalize words.contains s.data.toList = q at *; generalize rowN s = r at *
  by_cases e0 : s.size = 0
  · rw [decide_eq_true e0] at h0
    (repeat first | refine hku ?_ | refine sw_seqk fun _ _ => ?_ | refine sw_reg ?_ | (refine sw_reg2 ?_; conv in reord _ => simp [reord, freeO]) | ((first | refine aops_k fun _ _ => ?_ | with_reducible refine rw_own ?_); simp [go_sem, h0]; try go_ints) | refine sw_block ?_ | refine sw_t ?_ | refine sw_f ?_ | refine sw_e ?_ | refine ai ?_ | simp only [aops, thn, inB, ↓reduceIte, Nat.reduceEqDiff])
    simp [go_sem, e0]
  rw [decide_eq_false e0] at h0
  have e1 : 0 < s.size := by omega
  (repeat first | refine hku ?_ | refine sw_seqk fun _ _ => ?_ | refine sw_reg ?_ | (refine sw_reg2 ?_; conv in reord _ => simp [reord, freeO]) | ((first | refine aops_k fun _ _ => ?_ | with_reducible refine rw_own ?_); simp [go_sem, h0, e1, hc]; try go_ints) | refine sw_block ?_ | refine sw_t ?_ | refine sw_f ?_ | refine sw_e ?_ | refine ai ?_ | simp only [aops, thn, inB, ↓reduceIte, Nat.reduceEqDiff])
  (refine ⟨.v _, k1, ?_⟩; simp [go_sem]; (repeat first | refine hku ?_ | refine sw_seqk fun _ _ => ?_ | refine sw_reg ?_ | (refine sw_reg2 ?_; conv in reord _ => simp [reord, freeO]) | ((first | refine aops_k fun _ _ => ?_ | with_reducible refine rw_own ?_); simp [go_sem]; try go_ints) | refine sw_block ?_ | refine sw_t ?_ | refine sw_f ?_ | refine sw_e ?_ | refine ai ?_ | simp only [aops, thn, inB, ↓reduceIte, Nat.reduceEqDiff]))
  cases p
  · simp
    (repeat first | refine hku ?_ | refine sw_seqk fun _ _ => ?_ | refine sw_reg ?_ | (refine sw_reg2 ?_; conv in reord _ => simp [reord, freeO]) | ((first | refine aops_k fun _ _ => ?_ | with_reducible refine rw_own ?_); simp [go_sem]; try go_ints) | refine sw_block ?_ | refine sw_t ?_ | refine sw_f ?_ | refine sw_e ?_ | refine ai ?_ | simp only [aops, thn, inB, ↓reduceIte, Nat.reduceEqDiff])
    simp [go_sem]
  simp
  (repeat first | refine hku ?_ | refine sw_seqk fun _ _ => ?_ | refine sw_reg ?_ | (refine sw_reg2 ?_; conv in reord _ => simp [reord, freeO]) | ((first | refine aops_k fun _ _ => ?_ | with_reducible refine rw_own ?_); simp [go_sem]; try go_ints) | refine sw_block ?_ | refine sw_t ?_ | refine sw_f ?_ | refine sw_e ?_ | refine ai ?_ | simp only [aops, thn, inB, ↓reduceIte, Nat.reduceEqDiff])
  (refine ⟨.v _, k2, ?_⟩; simp [go_sem]; (repeat first | refine hku ?_ | refine sw_seqk fun _ _ => ?_ | refine sw_reg ?_ | (refine sw_reg2 ?_; conv in reord _ => simp [reord, freeO]) | ((first | refine aops_k fun _ _ => ?_ | with_reducible refine rw_own ?_); simp [go_sem]; try go_ints) | refine sw_block ?_ | refine sw_t ?_ | refine sw_f ?_ | refine sw_e ?_ | refine ai ?_ | simp only [aops, thn, inB, ↓reduceIte, Nat.reduceEqDiff]))
  have hri : ((r : Int) = (s.size : Int)) = (r = s.size) := by simp; omega
  simp only [hri]
  by_cases e2 : r = s.size
  all_goals
    by_cases e3 : s.size ≤ 24
    all_goals
      have i2 : ((s.size : Int) ≤ 24) = (s.size ≤ 24) := by simp; omega
      try simp [e2]
      (repeat first | refine hku ?_ | refine sw_seqk fun _ _ => ?_ | refine sw_reg ?_ | (refine sw_reg2 ?_; conv in reord _ => simp [reord, freeO]) | ((first | refine aops_k fun _ _ => ?_ | with_reducible refine rw_own ?_); simp [go_sem, e3, i2]; try go_ints) | refine sw_block ?_ | refine sw_t ?_ | refine sw_f ?_ | refine sw_e ?_ | refine ai ?_ | simp only [aops, thn, inB, ↓reduceIte, Nat.reduceEqDiff])
      first
      | (simp [go_sem, e1, e2, e3]; done)
      | ((refine ⟨.v _, k3, ?_⟩; simp [go_sem]; (repeat first | refine hku ?_ | refine sw_seqk fun _ _ => ?_ | refine sw_reg ?_ | (refine sw_reg2 ?_; conv in reord _ => simp [reord, freeO]) | ((first | refine aops_k fun _ _ => ?_ | with_reducible refine rw_own ?_); simp [go_sem]; try go_ints) | refine sw_block ?_ | refine sw_t ?_ | refine sw_f ?_ | refine sw_e ?_ | refine ai ?_ | simp only [aops, thn, inB, ↓reduceIte, Nat.reduceEqDiff]))
         simp [go_sem, e1, e2, e3])
set_option maxHeartbeats 3200000 in
theorem risname_v (s : ByteArray) (hs : s.size ≤ 9223372036854775807) : Fn Tryz.prog 69 [.c (.s s)] (.c (.b (nameB s))) := by
  refine Fn.intro' Tryz.func69 [.tmp 2] 36 fun _ => ?_
  have k1 := rletter_v (byt s 0); have k3 := ris3_v s; have hat := rowN_at s; have hr := rowN_le s; have h0 := s_ne s; rw [nameB_row]; have hb := byt_lt s 0; obtain ⟨c0, hc0⟩ : ∃ c, byt s 0 = c := ⟨_, rfl⟩; rw [hc0] at k1 hb ⊢; generalize letterB c0 = p0 at *; generalize words.contains s.data.toList = q at *; generalize rowN s = r at *
  by_cases e0 : s.size = 0
  · rw [decide_eq_true e0] at h0
    (repeat first | refine hku ?_ | refine sw_seqk fun _ _ => ?_ | refine sw_reg ?_ | (refine sw_reg2 ?_; conv in reord _ => simp [reord, freeO]) | ((first | refine aops_k fun _ _ => ?_ | with_reducible refine rw_own ?_); simp [go_sem, h0]; try go_ints) | refine sw_block ?_ | refine sw_t ?_ | refine sw_f ?_ | refine sw_e ?_ | refine ai ?_ | simp only [thn])
    simp [go_sem, e0]
  rw [decide_eq_false e0] at h0
  have e1 : 0 < s.size := by omega
  by_cases e3 : 24 < s.size
  · have i3 : (24 : Int) < (s.size : Int) := by omega
    have e4 : ¬ s.size ≤ 24 := by omega
    (repeat first | refine hku ?_ | refine sw_seqk fun _ _ => ?_ | refine sw_reg ?_ | (refine sw_reg2 ?_; conv in reord _ => simp [reord, freeO]) | ((first | refine aops_k fun _ _ => ?_ | with_reducible refine rw_own ?_); simp [go_sem, h0, i3]; try go_ints) | refine sw_block ?_ | refine sw_t ?_ | refine sw_f ?_ | refine sw_e ?_ | refine ai ?_ | simp only [thn])
    simp [go_sem, e4]
  have i3 : ¬ (24 : Int) < (s.size : Int) := by omega
  have e4 : s.size ≤ 24 := by omega
  (repeat first | refine hku ?_ | refine sw_seqk fun _ _ => ?_ | refine sw_reg ?_ | (refine sw_reg2 ?_; conv in reord _ => simp [reord, freeO]) | ((first | refine aops_k fun _ _ => ?_ | with_reducible refine rw_own ?_); simp [go_sem, h0, i3]; try go_ints) | refine sw_block ?_ | refine sw_t ?_ | refine sw_f ?_ | refine sw_e ?_ | refine ai ?_ | simp only [aops, thn, inB, ↓reduceIte, Nat.reduceEqDiff])
  refine sw_loopv 4 (fun n : Nat => [(3, .c (.i .i64 (n : Int)))]) (fun _ => []) (fun n => n ≤ s.size ∧ ∀ j, j < n → rowB (byt s j) = true) (fun n => s.size - n) 0 ⟨Nat.zero_le _, fun j h => absurd h (Nat.not_lt_zero _)⟩ ?_ fun n ⟨hn, ht⟩ => ?_
  · simp [go_sem]
  · by_cases hlt : n < s.size
    · have k4 := rrowed_v (byt s n); have h2 := hat n hn ht
      have htn : rowB (byt s n) = true → ∀ j, j < n + 1 → rowB (byt s j) = true := fun h j hj => by
        by_cases e : j = n
        · rw [e]; exact h
        · exact ht j (by omega)
      obtain ⟨c, hc⟩ : ∃ c, byt s n = c := ⟨_, rfl⟩; rw [hc] at h2 htn k4; generalize rowB c = p at *
      (repeat first | refine hku ?_ | refine sw_seqk fun _ _ => ?_ | refine sw_reg ?_ | (refine sw_reg2 ?_; conv in reord _ => simp [reord, freeO]) | ((first | refine aops_k fun _ _ => ?_ | with_reducible refine rw_own ?_); simp [go_sem, hlt, hc]; try go_ints) | refine sw_block ?_ | refine sw_t ?_ | refine sw_f ?_ | refine sw_e ?_ | refine ai ?_ | simp only [aops, thn, inB, ↓reduceIte, Nat.reduceEqDiff])
      (refine ⟨.v _, k4, ?_⟩; simp [go_sem]; (repeat first | refine hku ?_ | refine sw_seqk fun _ _ => ?_ | refine sw_reg ?_ | (refine sw_reg2 ?_; conv in reord _ => simp [reord, freeO]) | ((first | refine aops_k fun _ _ => ?_ | with_reducible refine rw_own ?_); simp [go_sem]; try go_ints) | refine sw_block ?_ | refine sw_t ?_ | refine sw_f ?_ | refine sw_e ?_ | refine ai ?_ | simp only [aops, thn, inB, ↓reduceIte, Nat.reduceEqDiff]))
      cases p
      · have := h2 fun _ => rfl
        subst this
        (repeat first | refine hku ?_ | refine sw_seqk fun _ _ => ?_ | refine sw_reg ?_ | (refine sw_reg2 ?_; conv in reord _ => simp [reord, freeO]) | ((first | refine aops_k fun _ _ => ?_ | with_reducible refine rw_own ?_); simp [go_sem]; try go_ints) | refine sw_block ?_ | refine sw_t ?_ | refine sw_f ?_ | refine sw_e ?_ | refine ai ?_ | simp only [thn, inB])
        simp [go_sem, Nat.ne_of_lt hlt]
      · (repeat first | refine hku ?_ | refine sw_seqk fun _ _ => ?_ | refine sw_reg ?_ | (refine sw_reg2 ?_; conv in reord _ => simp [reord, freeO]) | ((first | refine aops_k fun _ _ => ?_ | with_reducible refine rw_own ?_); simp [go_sem]; try go_ints) | refine sw_block ?_ | refine sw_t ?_ | refine sw_f ?_ | refine sw_e ?_ | refine ai ?_ | simp only [aops, thn])
        refine ⟨n + 1, ⟨by omega, htn rfl⟩, by omega, ?_⟩; simp [go_sem]
    · have := hat n hn ht fun h => absurd h hlt
      subst this
      have hrs : r = s.size := by omega
      (repeat first | refine hku ?_ | refine sw_seqk fun _ _ => ?_ | refine sw_reg ?_ | (refine sw_reg2 ?_; conv in reord _ => simp [reord, freeO]) | ((first | refine aops_k fun _ _ => ?_ | with_reducible refine rw_own ?_); simp [go_sem, hlt, hc0, e1]; try go_ints) | refine sw_block ?_ | refine sw_t ?_ | refine sw_f ?_ | refine sw_e ?_ | refine ai ?_ | simp only [aops, thn, inB, ↓reduceIte, Nat.reduceEqDiff])
      (refine ⟨.v _, k1, ?_⟩; simp [go_sem]; (repeat first | refine hku ?_ | refine sw_seqk fun _ _ => ?_ | refine sw_reg ?_ | (refine sw_reg2 ?_; conv in reord _ => simp [reord, freeO]) | ((first | refine aops_k fun _ _ => ?_ | with_reducible refine rw_own ?_); simp [go_sem]; try go_ints) | refine sw_block ?_ | refine sw_t ?_ | refine sw_f ?_ | refine sw_e ?_ | refine ai ?_ | simp only [aops, thn, inB, ↓reduceIte, Nat.reduceEqDiff]))
      (repeat first | refine hku ?_ | refine sw_seqk fun _ _ => ?_ | refine sw_reg ?_ | (refine sw_reg2 ?_; conv in reord _ => simp [reord, freeO]) | ((first | refine aops_k fun _ _ => ?_ | with_reducible refine rw_own ?_); simp [go_sem, hlt, hc0, e1]; try go_ints) | refine sw_block ?_ | refine sw_t ?_ | refine sw_f ?_ | refine sw_e ?_ | refine ai ?_ | simp only [aops, thn, inB, ↓reduceIte, Nat.reduceEqDiff])
      (refine ⟨.v _, k3, ?_⟩; simp [go_sem]; (repeat first | refine hku ?_ | refine sw_seqk fun _ _ => ?_ | refine sw_reg ?_ | (refine sw_reg2 ?_; conv in reord _ => simp [reord, freeO]) | ((first | refine aops_k fun _ _ => ?_ | with_reducible refine rw_own ?_); simp [go_sem]; try go_ints) | refine sw_block ?_ | refine sw_t ?_ | refine sw_f ?_ | refine sw_e ?_ | refine ai ?_ | simp only [aops, thn, inB, ↓reduceIte, Nat.reduceEqDiff]))
      cases p0
      · simp
        (repeat first | refine hku ?_ | refine sw_seqk fun _ _ => ?_ | refine sw_reg ?_ | (refine sw_reg2 ?_; conv in reord _ => simp [reord, freeO]) | ((first | refine aops_k fun _ _ => ?_ | with_reducible refine rw_own ?_); simp [go_sem, hrs]; try go_ints) | refine sw_block ?_ | refine sw_t ?_ | refine sw_f ?_ | refine sw_e ?_ | refine ai ?_ | simp only [aops, thn, inB, ↓reduceIte, Nat.reduceEqDiff])
        simp [go_sem, e1, e4, hrs]
      · simp
        (repeat first | refine hku ?_ | refine sw_seqk fun _ _ => ?_ | refine sw_reg ?_ | (refine sw_reg2 ?_; conv in reord _ => simp [reord, freeO]) | ((first | refine aops_k fun _ _ => ?_ | with_reducible refine rw_own ?_); simp [go_sem, hrs]; try go_ints) | refine sw_block ?_ | refine sw_t ?_ | refine sw_f ?_ | refine sw_e ?_ | refine ai ?_ | simp only [aops, thn, inB, ↓reduceIte, Nat.reduceEqDiff])
        simp [go_sem, e1, e4, hrs]
end Go.Proofs.YtbgifiijjjoebaaGreatDoor
