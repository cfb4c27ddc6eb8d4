/- riddleref01.Text, riddleref02.Text. No conditions. -/
import Derived.Test.YthmjgbkakjpfkaaGreatDoorGLooksBo
import Derived.Test.YthmjgbkakjpfkaaGreatDoorGLooksBj
import Derived.Test.YthmjgbkakjpfkaaGreatDoorGLooksAj
import Derived.Test.YthmjgbkakjpfkaaGreatDoorGLooksAd
namespace Go.Proofs.YthmjgbkakjpfkaaGreatDoor
open Go.RowKit

theorem bytesOf_eq (l : List Int) : bytesOf l = ⟨(l.map fun n => UInt8.ofNat n.toNat).toArray⟩ := by
  have key : ∀ (l : List Int) (s : ByteArray), l.foldl (fun r n => r.push (UInt8.ofNat n.toNat)) s = ⟨s.data ++ (l.map fun n => UInt8.ofNat n.toNat).toArray⟩ := by
    intro l
    induction l with
    | nil => intro s; simp
    | cons n l ih => intro s; rw [List.foldl_cons, ih]; simp [ByteArray.push]
  unfold bytesOf
  rw [key]
  simp
theorem bytesD_map (l : List Int) : bytesD (l.map fun v => [D.i .u8 v]) = some l := by
  induction l with
  | nil => rfl
  | cons v l ih => simp [bytesD, ih]
def hdD (m : Nat) : List UInt8 := if m = 0 then [] else Lib.decDigits m
theorem dN_nil (n : Nat) : dN (lim n) = [] ↔ n = 0 := by
  constructor
  · intro e
    have h := congrArg List.length e
    simp only [dN, List.length_map, List.length_nil] at h
    rcases Nat.eq_zero_or_pos n with h0 | h0
    · exact h0
    · have := (lim_len_pos n).2 (by omega); omega
  · rintro rfl; rfl
theorem dN_pos {n : Nat} (h : n ≠ 0) : 0 < (dN (lim n)).length := by simpa [dN] using (lim_len_pos n).2 h
theorem hdD_step {m : Nat} (h : m ≠ 0) : hdD m = hdD (m / 10) ++ [UInt8.ofNat (48 + m % 10)] := by
  unfold hdD
  rw [if_neg h, Lib.decDigits]
  by_cases h1 : m < 10
  · rw [dif_pos h1, if_pos (by omega), Nat.mod_eq_of_lt h1]; rfl
  · rw [dif_neg h1, if_neg (by omega)]
theorem take_snoc0 {α : Type} {l : List α} {i : Nat} (h : i < l.length) : l.take (i + 1) = l.take i ++ [l[i]] := by rw [List.take_succ_eq_append_getElem h]
theorem row_set {α : Type} {l : List α} {i : Nat} {z : α} (h : i < l.length) : (l.take i ++ List.replicate (l.length - i) z).set i l[i] = l.take (i + 1) ++ List.replicate (l.length - (i + 1)) z := by
  rw [List.set_append_right _ _ (by simp; omega), take_snoc0 h]
  have : l.length - i = (l.length - (i + 1)) + 1 := by omega
  rw [this, List.replicate_succ]
  have e : i - (l.take i).length = 0 := by simp; omega
  rw [e, List.set_cons_zero, List.append_assoc]
  rfl
set_option maxRecDepth 100000 in
set_option maxHeartbeats 6400000 in
theorem rtext1_v (a : List Nat) (hL : a.length ≤ 1073741824) : Fn Tryz.prog 125 [.c (.l (dN a))] (.c (.s ⟨(Lib.decDigits (nv a)).toArray⟩)) := by
  refine Fn.intro' Tryz.func125 [.tmp 2] 51 fun hok => ?_
  have hlb : Lb a := ok_n (hok (.c (.l (dN a))) (by simp))
  have k1 := rtrim_v a (by omega)
  have hz : (lim (nv a)).length ≤ 1073741824 := Nat.le_trans (lim_len_le hlb) hL
  have hd : (Lib.decDigits (nv a)).length ≤ 10737418242 := by
    have := itoa_len (nv a : Int)
    rw [Lib.itoa_nonneg] at this
    unfold zl at this
    rw [Int.natAbs_natCast] at this
    omega
  generalize nv a = n at *
  (repeat (first | (refine hk_use (by assumption) ?_) | (refine sw_seqk fun _ _ => ?_) | (refine sw_reg ?_) | (refine aops_k fun _ _ => ?_; simp [go_sem]; try go_ints) | refine sw_block ?_ | refine sw_ct rfl ?_ | refine sw_cf rfl ?_ | refine sw_skip ?_ | refine sw_exit ?_ | refine sw_ret ?_ | refine And.intro (by first | omega | rfl) ?_ | simp only [aops, thn, inB, ↓reduceIte, Nat.reduceEqDiff]))
  (refine ⟨.v _, k1, ?_⟩; simp [go_sem]; (repeat (first | (refine hk_use (by assumption) ?_) | (refine sw_seqk fun _ _ => ?_) | (refine sw_reg ?_) | (refine aops_k fun _ _ => ?_; simp [go_sem]; try go_ints) | refine sw_block ?_ | refine sw_ct rfl ?_ | refine sw_cf rfl ?_ | refine sw_skip ?_ | refine sw_exit ?_ | refine sw_ret ?_ | refine And.intro (by first | omega | rfl) ?_ | simp only [aops, thn, inB, ↓reduceIte, Nat.reduceEqDiff])))
  by_cases hn : n = 0
  · subst hn
    have h0 : dN (lim 0) = [] := rfl
    simp [h0]
    (repeat (first | (refine hk_use (by assumption) ?_) | (refine sw_seqk fun _ _ => ?_) | (refine sw_reg ?_) | (refine aops_k fun _ _ => ?_; simp [go_sem, h0]; try go_ints) | refine sw_block ?_ | refine sw_ct rfl ?_ | refine sw_cf rfl ?_ | refine sw_skip ?_ | refine sw_exit ?_ | refine sw_ret ?_ | refine And.intro (by first | omega | rfl) ?_ | simp only [aops, thn, inB, ↓reduceIte, Nat.reduceEqDiff]))
    simp [go_sem, show Lib.decDigits 0 = [48] from Lib.decDigits_one (by decide)]
  · have h0 : dN (lim n) ≠ [] := fun e => hn ((dN_nil n).1 e)
    simp [h0]
    (repeat (first | (refine hk_use (by assumption) ?_) | (refine sw_seqk fun _ _ => ?_) | (refine sw_reg ?_) | (refine aops_k fun _ _ => ?_; simp [go_sem, h0]; try go_ints) | refine sw_block ?_ | refine sw_ct rfl ?_ | refine sw_cf rfl ?_ | refine sw_skip ?_ | refine sw_exit ?_ | refine sw_ret ?_ | refine And.intro (by first | omega | rfl) ?_ | simp only [aops, thn, inB, ↓reduceIte, Nat.reduceEqDiff]))
    refine sw_weak (le_own 4 1004 1 5 rfl rfl (by decide)) ?_
    refine sw_loopv 3 (fun q : Nat × List Int => [(3, .c (.l true (dN (lim q.1)))), (4, .c (.r 1004 q.2.length))]) (fun q => [(1004, .r true 1 5 (q.2.map fun v => [D.i .u8 v]))]) (fun q => q.1 ≤ n ∧ hdD q.1 ++ (q.2.map fun v => UInt8.ofNat v.toNat).reverse = Lib.decDigits n ∧ ∀ v ∈ q.2, 0 ≤ v ∧ v ≤ 255) (fun q => q.1) (n, []) ⟨Nat.le_refl _, by simp [hdD, hn], by simp⟩ ?_ fun q hq => ?_
    · simp [go_sem, dN]
    · obtain ⟨m, t⟩ := q
      obtain ⟨hmn, hmt, hmv⟩ := hq
      simp only at hmn hmt hmv
      have htl : t.length ≤ 10737418242 := by
        have := congrArg List.length hmt
        simp at this
        omega
      by_cases hm : m = 0
      · subst hm
        have h0 : dN (lim 0) = [] := rfl
        (repeat (first | (refine hk_use (by assumption) ?_) | (refine sw_seqk fun _ _ => ?_) | (refine sw_reg ?_) | (refine aops_k fun _ _ => ?_; simp [go_sem, h0]; try go_ints) | refine sw_block ?_ | refine sw_ct rfl ?_ | refine sw_cf rfl ?_ | refine sw_skip ?_ | refine sw_exit ?_ | refine sw_ret ?_ | refine And.intro (by first | omega | rfl) ?_ | simp only [aops, thn, inB, ↓reduceIte, Nat.reduceEqDiff]))
        have hte : (t.map fun v => UInt8.ofNat v.toNat).reverse = Lib.decDigits n := by simpa [hdD] using hmt
        have hrl : (t.map fun v => [D.i .u8 v]).reverse.length = t.length := by simp
        refine sw_loopv 8 (fun i : Nat => [(8, .c (.i .i64 i))]) (fun i => [(31, .r true 1 5 ((t.map fun v => [D.i .u8 v]).reverse.take i ++ List.replicate (t.length - i) [D.i .u8 0]))]) (fun i => i ≤ t.length) (fun i => t.length - i) 0 (Nat.zero_le _) ?_ fun i hi => ?_
        · simp [go_sem]
        · by_cases hlt : i < t.length
          · have he : t[t.length - 1 - i]? = some (t[t.length - 1 - i]'(by omega)) := List.getElem?_eq_getElem _
            have hset := row_set (l := (t.map fun v => [D.i .u8 v]).reverse) (i := i) (z := [D.i .u8 0]) (by simpa using hlt)
            simp only [List.getElem_reverse, List.length_reverse, List.length_map, List.getElem_map] at hset
            have hv8 := hmv _ (List.getElem_mem (show t.length - 1 - i < t.length by omega))
            generalize t[t.length - 1 - i]'(by omega) = v at he hset hv8
            have hgi : ((t.map fun v => [D.i .u8 v]).reverse.take i ++ List.replicate (t.length - i) [D.i .u8 0])[i]? = some [D.i .u8 0] := by
              rw [List.getElem?_append_right (by rw [List.length_take]; omega), List.length_take, hrl, Nat.min_eq_left hi, Nat.sub_self, List.getElem?_replicate, if_pos (by omega)]
            (repeat (first | (refine hk_use (by assumption) ?_) | (refine sw_seqk fun _ _ => ?_) | (refine sw_reg ?_) | (refine aops_k fun _ _ => ?_; simp [go_sem, hlt, he, hset, hgi]; try go_ints) | refine sw_block ?_ | refine sw_ct rfl ?_ | refine sw_cf rfl ?_ | refine sw_skip ?_ | refine sw_exit ?_ | refine sw_ret ?_ | refine And.intro (by first | omega | rfl) ?_ | simp only [aops, thn, inB, ↓reduceIte, Nat.reduceEqDiff]))
            refine ⟨i + 1, by omega, by omega, ?_⟩
            simp [go_sem, hset]
          · have : i = t.length := by omega
            subst this
            have e1 : (t.map fun v => [D.i .u8 v]).reverse.take t.length = (t.map fun v => [D.i .u8 v]).reverse := List.take_of_length_le (by simp)
            have e2 : bytesD (t.map fun v => [D.i .u8 v]).reverse = some t.reverse := by rw [← List.map_reverse, bytesD_map]
            have e3 : bytesOf t.reverse = ⟨(Lib.decDigits n).toArray⟩ := by rw [bytesOf_eq, List.map_reverse, hte]
            (repeat (first | (refine hk_use (by assumption) ?_) | (refine sw_seqk fun _ _ => ?_) | (refine sw_reg ?_) | (refine aops_k fun _ _ => ?_; simp [go_sem, e1, e2, e3]; try go_ints) | refine sw_block ?_ | refine sw_ct rfl ?_ | refine sw_cf rfl ?_ | refine sw_skip ?_ | refine sw_exit ?_ | refine sw_ret ?_ | refine And.intro (by first | omega | rfl) ?_ | simp only [aops, thn, inB, ↓reduceIte, Nat.reduceEqDiff]))
            simp [go_sem, ByteArray.size]
      · have h1 : 0 < (dN (lim m)).length := dN_pos hm
        have k2 := rquo_v (lim m) 10 (by omega) (by omega) (Nat.le_trans (lim_mono hmn) (by omega))
        rw [nv_lim] at k2
        have hmod : m % 10 < 10 := Nat.mod_lt _ (by omega)
        (repeat (first | (refine hk_use (by assumption) ?_) | (refine sw_seqk fun _ _ => ?_) | (refine sw_reg ?_) | (refine aops_k fun _ _ => ?_; simp [go_sem, h1]; try go_ints) | refine sw_block ?_ | refine sw_ct rfl ?_ | refine sw_cf rfl ?_ | refine sw_skip ?_ | refine sw_exit ?_ | refine sw_ret ?_ | refine And.intro (by first | omega | rfl) ?_ | simp only [aops, thn, inB, ↓reduceIte, Nat.reduceEqDiff]))
        (refine ⟨.v _, k2, ?_⟩; simp [go_sem]; (repeat (first | (refine hk_use (by assumption) ?_) | (refine sw_seqk fun _ _ => ?_) | (refine sw_reg ?_) | (refine aops_k fun _ _ => ?_; simp [go_sem]; try go_ints) | refine sw_block ?_ | refine sw_ct rfl ?_ | refine sw_cf rfl ?_ | refine sw_skip ?_ | refine sw_exit ?_ | refine sw_ret ?_ | refine And.intro (by first | omega | rfl) ?_ | simp only [aops, thn, inB, ↓reduceIte, Nat.reduceEqDiff])))
        refine ⟨(m / 10, t ++ [48 + ((m % 10 : Nat) : Int)]), ⟨by simp only; omega, ?_, ?_⟩, by simp only; omega, ?_⟩
        · have e : UInt8.ofNat (48 + ((m % 10 : Nat) : Int)).toNat = UInt8.ofNat (48 + m % 10) := by
            rw [show (48 + ((m % 10 : Nat) : Int)).toNat = 48 + m % 10 by omega]
          simp only
          rw [← hmt, hdD_step hm, List.map_append, List.reverse_append, List.append_assoc, List.map_singleton, e]
          rfl
        · intro v hv
          simp only [List.mem_append, List.mem_singleton] at hv
          rcases hv with hv | hv
          · exact hmv v hv
          · omega
        · simp [go_sem, dN]
theorem bs_app (a b : List UInt8) : ((⟨a.toArray⟩ : ByteArray) ++ ⟨b.toArray⟩) = ⟨(a ++ b).toArray⟩ := by
  apply ByteArray.ext
  simp
theorem bs_size (a : List UInt8) : (⟨a.toArray⟩ : ByteArray).size = a.length := by simp [ByteArray.size]
theorem itoa_of (x : Int) : Lib.itoa x = if x < 0 then 45 :: Lib.decDigits x.natAbs else Lib.decDigits x.natAbs := by
  unfold Lib.itoa
  split
  · rfl
  · rw [show x.toNat = x.natAbs by omega]
set_option maxRecDepth 100000 in
set_option maxHeartbeats 6400000 in
theorem rtext2_v (z : Z) (hL : z.mag.length ≤ 1073741824) : Fn Tryz.prog 84 [.g (dZ z)] (.c (.s ⟨(Lib.itoa z.v).toArray⟩)) := by
  refine Fn.intro' Tryz.func84 [.tmp 2] 15 fun hok => ?_
  have hlb : Lb z.mag := ok_z (hok (.g (dZ z)) (by simp))
  have k1 := rtext1_v z.mag hL
  have k2 := rsign_v z (by omega)
  have hl : (Lib.decDigits z.v.natAbs).length ≤ 10737418242 := by
    have := itoa_len (z.v.natAbs : Int)
    rw [Lib.itoa_nonneg] at this
    have h2 : zl (z.v.natAbs : Int) = zl z.v := by unfold zl; rw [Int.natAbs_natCast]
    have h3 := zl_of hlb
    omega
  rw [← natAbs_v] at k1
  rw [itoa_of]
  generalize Lib.decDigits z.v.natAbs = s at *
  (repeat (first | (refine hk_use (by assumption) ?_) | (refine sw_seqk fun _ _ => ?_) | (refine sw_reg ?_) | (refine aops_k fun _ _ => ?_; simp [go_sem]; try go_ints) | refine sw_block ?_ | refine sw_ct rfl ?_ | refine sw_cf rfl ?_ | refine sw_skip ?_ | refine sw_exit ?_ | refine sw_ret ?_ | refine And.intro (by first | omega | rfl) ?_ | simp only [aops, thn, inB, ↓reduceIte, Nat.reduceEqDiff]))
  (refine ⟨.v _, k1, ?_⟩; simp [go_sem]; (repeat (first | (refine hk_use (by assumption) ?_) | (refine sw_seqk fun _ _ => ?_) | (refine sw_reg ?_) | (refine aops_k fun _ _ => ?_; simp [go_sem]; try go_ints) | refine sw_block ?_ | refine sw_ct rfl ?_ | refine sw_cf rfl ?_ | refine sw_skip ?_ | refine sw_exit ?_ | refine sw_ret ?_ | refine And.intro (by first | omega | rfl) ?_ | simp only [aops, thn, inB, ↓reduceIte, Nat.reduceEqDiff])))
  (refine ⟨.v _, k2, ?_⟩; simp [go_sem]; (repeat (first | (refine hk_use (by assumption) ?_) | (refine sw_seqk fun _ _ => ?_) | (refine sw_reg ?_) | (refine aops_k fun _ _ => ?_; simp [go_sem]; try go_ints) | refine sw_block ?_ | refine sw_ct rfl ?_ | refine sw_cf rfl ?_ | refine sw_skip ?_ | refine sw_exit ?_ | refine sw_ret ?_ | refine And.intro (by first | omega | rfl) ?_ | simp only [aops, thn, inB, ↓reduceIte, Nat.reduceEqDiff])))
  by_cases h : z.v < 0
  · have h1 : sgn z.v < 0 := sgn_neg.2 h
    simp [h1]
    (repeat (first | (refine hk_use (by assumption) ?_) | (refine sw_seqk fun _ _ => ?_) | (refine sw_reg ?_) | (refine aops_k fun _ _ => ?_; simp [go_sem, h1, bs_size, bs_app]; try go_ints) | refine sw_block ?_ | refine sw_ct rfl ?_ | refine sw_cf rfl ?_ | refine sw_skip ?_ | refine sw_exit ?_ | refine sw_ret ?_ | refine And.intro (by first | omega | rfl) ?_ | simp only [aops, thn, inB, ↓reduceIte, Nat.reduceEqDiff]))
    simp [go_sem, h, bs_size, bs_app]
  · have h1 : ¬ sgn z.v < 0 := fun e => h (sgn_neg.1 e)
    simp [h1]
    (repeat (first | (refine hk_use (by assumption) ?_) | (refine sw_seqk fun _ _ => ?_) | (refine sw_reg ?_) | (refine aops_k fun _ _ => ?_; simp [go_sem, h1, bs_size, bs_app]; try go_ints) | refine sw_block ?_ | refine sw_ct rfl ?_ | refine sw_cf rfl ?_ | refine sw_skip ?_ | refine sw_exit ?_ | refine sw_ret ?_ | refine And.intro (by first | omega | rfl) ?_ | simp only [aops, thn, inB, ↓reduceIte, Nat.reduceEqDiff]))
    simp [go_sem, h, bs_size, bs_app]
theorem itoa_v (n : Int) (h : i64 n) : Fn Tryz.prog 123 [.c (.i .i64 n)] (.c (.s ⟨(Lib.itoa n).toArray⟩)) := fun w X vs hl _ ha => by
  obtain ⟨l, rfl⟩ : ∃ l : List Value, vs = l.toArray := ⟨vs.toList, by simp⟩
  cases ha with
  | cons h1 h2 =>
    cases h2
    obtain ⟨rfl, _⟩ := relD_i h1
    refine (itoa_c h (hl (by kernel_rfl))).mono fun e w' ⟨h3, h4⟩ => ⟨_, h3, h4, rfl, ?_⟩
    have h5 := itoa_len n
    have h6 : zl n ≤ 2 := zl_word (by have := h.1; have := h.2; omega)
    simp only [bs_size, maxLen_is]
    omega

end Go.Proofs.YthmjgbkakjpfkaaGreatDoor
