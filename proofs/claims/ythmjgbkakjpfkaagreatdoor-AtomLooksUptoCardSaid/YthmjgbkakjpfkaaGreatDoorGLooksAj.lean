/- Strings: rows of them, nat.Text, zint.Text. No conditions. -/
import Derived.Test.YthmjgbkakjpfkaaGreatDoorGLooksAf
import Derived.Test.YthmjgbkakjpfkaaGreatDoorGLooksAd
import Derived.Test.YthmjgbkakjpfkaaGreatDoorGLooksAi
import Derived.Test.YthmjgbkakjpfkaaGreatDoorGLooksAc
import Derived.Laws.Runes
import Derived.Lib.AppendIntMem
namespace Go.Proofs.YthmjgbkakjpfkaaGreatDoor
open Go.RowKit

def EStr (_ : World) (_ : Nat → Prop) (cs : List Value) (s : List UInt8) : Prop := cs = [.string ⟨s.toArray⟩]
instance : Stab EStr := ⟨fun h _ => h, fun h _ => h, fun h => by subst h; simp [Value.oneCell']⟩
theorem ety_s : Ety Tryz.prog 126 9 1 16 (.string .empty) := ⟨Tryz.underlying126, by kernel_rfl, by simp [Value.cells], by omega⟩
theorem Ss.at_ {w : World} {X : Nat → Prop} {A : Option Addr} {c : Nat} {l : List (List UInt8)} (h : Sl 1 EStr w X A c l) {k : Nat} (hk : k < l.length) :
    ∃ b o, A = some ⟨b, o, none⟩ ∧ X b ∧ w.cell? ⟨b, o + k, none⟩ = some (.string ⟨l[k].toArray⟩) := by
  obtain ⟨b, o, hA, hX, hi⟩ := h.2.2.1 (by omega)
  obtain ⟨cs, _, hc, rfl⟩ := hi k hk
  have := hc 0 (by simp)
  rw [Nat.mul_one, Nat.add_zero] at this
  exact ⟨b, o, hA, hX, this⟩
theorem wpList_apps1 {w : World} {ops : Array Oper} {rest : List Oper} {o : Oper} {a : Act} {Q : Exit → Act → World → Prop} (s x : Operand) {Zp : Nat → Prop} {base : Nat} {v : Value} {l : List (List UInt8)} {z : List UInt8}
    (h : Own 1 EStr w Zp base 9 v l) (hl : l.length ≤ 1099511627776) (hbase : base ≤ w.heap.size)
    (hgd : o.guard = none) (ho : o.op = .call { callee := .builtin .append, args := #[s, x], argTypes := #[126, 126] }) (hs : a.eval s = v) (hx : a.eval x = .slice (some ⟨w.heap.size, 0, none⟩) 1 1)
    (H : ∀ v' w', Own 1 EStr w' Zp base 9 v' (l ++ [z]) → (w.alloc (.cells #[.string ⟨z.toArray⟩] 9)).grownBy w' v.ownBlock →
      (v'.ownBlock = v.ownBlock ∨ v'.ownBlock = some (w.heap.size + 1)) → wpList Tryz.prog ops Q rest (a.put o.dst v') w') :
    wpList Tryz.prog ops Q (o :: rest) a (w.alloc (.cells #[.string ⟨z.toArray⟩] 9)) := by
  refine wpList_app (m := [z]) ety_s s x (Own.ext h ((Ext.refl w).alloc _)) (Fl.one (cs := [.string ⟨z.toArray⟩]) rfl rfl) (fun _ => ⟨_, _, rfl, fun j u hu => ?_⟩) ?_ ?_ ?_ hgd ho hs hx fun v' w' h1 h2 h3 => H v' w' h1 h2 (by simpa using h3)
  · rw [World.cell?_alloc_at (hn := rfl)]
    match j, hu with
    | 0, hu => simpa using hu
  · simp only [List.length_cons, List.length_nil]; omega
  · simp only [List.length_cons, List.length_nil, maxLen]; omega
  · simp only [World.size_alloc]; omega

theorem dpad_cons (k n : Nat) : dpad (k + 1) n = UInt8.ofNat (48 + n / 10 ^ k % 10) :: dpad k n := by
  rw [Nat.add_comm k 1, dpad_add]
  rfl
theorem enc_digit (d : Nat) (h : d < 10) : Utf8.encode (((48 + d : Nat) : Int)) = ⟨#[UInt8.ofNat (48 + d)]⟩ := by
  have : ∀ d, d < 10 → Utf8.encode (((48 + d : Nat) : Int)) = ⟨#[UInt8.ofNat (48 + d)]⟩ := by decide
  exact this d h
theorem pieces_le {n j L : Nat} (h : n / 10 ^ (9 * j) ≠ 0) (hL : n < pw L) : j ≤ 2 * L := by
  have h1 : 10 ^ (9 * j) ≤ n := Nat.le_of_not_lt fun h2 => h (Nat.div_eq_of_lt h2)
  have h2 : (2 ^ 29) ^ j ≤ (10 ^ 9) ^ j := Nat.pow_le_pow_left (by decide) j
  have h3 : pw L = 2 ^ (32 * L) := by rw [Nat.pow_mul]; rfl
  rw [← Nat.pow_mul, ← Nat.pow_mul] at h2
  have h4 : 2 ^ (29 * j) < 2 ^ (32 * L) := by rw [← h3]; omega
  have h5 := (Nat.pow_lt_pow_iff_right (by decide)).1 h4
  omega
def slen : Value → Nat
  | .slice _ n _ => n
  | _ => 0
theorem take_piece (n j : Nat) : (List.range (j + 1)).map (piece n) = (List.range j).map (piece n) ++ [piece n j] := by
  rw [List.range_succ, List.map_append]; rfl

set_option maxRecDepth 100000 in
set_option maxHeartbeats 3200000 in
theorem ntext_c {A : Option Addr} {c : Nat} {a : List Nat} {w : World} {X : Nat → Prop} (ha : Nl w X A c a) (hL : a.length ≤ 1073741824) :
    Calls Tryz.prog 124 #[.slice A a.length c] w fun e w' => e = .returned (.string ⟨(Lib.decDigits (nv a)).toArray⟩) ∧ Ext w w' := by
  have hpw := nv_lt ha.lb
  obtain ⟨n, hn⟩ : ∃ n, n = nv a := ⟨_, rfl⟩
  have hba := bare_c ha
  rw [← hn] at hpw hba ⊢
  obtain ⟨R, hR⟩ : ∃ R, R = Lib.decDigits n := ⟨_, rfl⟩
  rw [← hR]
  have HBA := Lib.hid hba; have HPW := Lib.hid hpw; have HR := Lib.hid hR
  clear hba hpw hn hR
  go_enter Tryz.func124, Tryz.ntmps124
  go_wp2_with fail
  refine HBA.out.mono ?_
  rintro e w1 ⟨A1, c1, rfl, h1, rfl⟩
  go_wp2_with fail
  go_loopw [3, 4] (fun pv rv wr => ∃ (j : Nat) (A2 : Option Addr) (c2 : Nat), Own 1 EStr wr (fun _ => False) w.heap.size 9 pv ((List.range j).map (piece n)) ∧ rv = .slice A2 (lim (n / 10 ^ (9 * j))).length c2 ∧ Nl wr (fun _ => True) A2 c2 (lim (n / 10 ^ (9 * j))) ∧ j ≤ 2 * a.length + 1 ∧ (0 < j → n ≠ 0) ∧ Ext w wr) (fun pv _ _ => 2 * a.length + 1 - slen pv)
  case atStart => exact ⟨0, A1, c1, Own.nil _ _ _ _, by simp, by simpa using h1.widen (Y := fun _ => True) fun _ _ _ => trivial, by omega, fun h => absurd h (by omega), Ext.refl _⟩
  case round =>
    obtain ⟨j, A2, c2, hO, rfl, hr, hj, hjn, hx⟩ := hrel
    obtain ⟨P, cP, rfl, hS⟩ := Own.sl hO (by omega) (X := fun _ => True) (fun _ _ => trivial)
    obtain ⟨m, hm⟩ : ∃ m, m = n / 10 ^ (9 * j) := ⟨_, rfl⟩
    rw [← hm] at hr ⊢
    have hlen : ((List.range j).map (piece n)).length = j := by simp
    rw [hlen] at hO
    try rw [hlen]
    obtain ⟨ps, hps⟩ : ∃ l, l = (List.range j).map (piece n) := ⟨_, rfl⟩
    rw [← hps] at hO hS hlen
    have hrow := hO.row
    by_cases h0 : 0 < (lim m).length
    · have hm0 : m ≠ 0 := (lim_len_pos m).1 h0
      have hj2 : j ≤ 2 * a.length := pieces_le (by rw [← hm]; exact hm0) HPW.out
      have hml : (lim m).length ≤ a.length := lim_pw (Nat.lt_of_le_of_lt (by rw [hm]; exact Nat.div_le_self _ _) HPW.out)
      have hsh := short_c hr (b := 1000000000) (by omega) (by omega) (by omega)
      rw [nv_lim, show ((1000000000 : Nat) : Int) = 1000000000 from rfl] at hsh
      obtain ⟨q, hq⟩ : ∃ q, q = m / 1000000000 := ⟨_, rfl⟩
      obtain ⟨r0, hr0⟩ : ∃ q, q = m % 1000000000 := ⟨_, rfl⟩
      have hr9 : r0 < 1000000000 := by omega
      rw [← hq, ← hr0] at hsh
      have hq2 : q = n / 10 ^ (9 * (j + 1)) := by rw [hq, hm, Nat.div_div_eq_div_mul, show 9 * (j + 1) = 9 * j + 9 by omega, Nat.pow_add 10 (9 * j) 9]
      have hpc : dpad 9 r0 = piece n j := by unfold piece; rw [← hm, hr0]; exact dpad_mod 9 m
      have HSH := Lib.hid hsh; have HQ := Lib.hid hq2; have HP := Lib.hid hpc
      have HMM := Lib.hid hm
      clear hsh hq hr0 hq2 hpc hm
      go_wp2_with fail
      refine HSH.out.mono ?_
      rintro e w2 ⟨A3, c3, rfl, hN3, hx2⟩
      go_wp2_with fail
      go_loop [6, 7, 20] (fun rv sv iv => ∃ k : Nat, k ≤ 9 ∧ rv = .int .u32 ((r0 / 10 ^ k : Nat) : Int) ∧ sv = .string ⟨(dpad k r0).toArray⟩ ∧ iv = .int .i64 (k : Int)) (fun _ _ iv => 9 - (intOf iv).toNat)
      case atStart => exact ⟨0, by omega, by simp, by simp [dpad], rfl⟩
      case round =>
        obtain ⟨k, hk, rfl, rfl, rfl⟩ := hrel
        by_cases hk9 : k < 9
        · have hkl : (k : Int) < 9 := by omega
          obtain ⟨x, hx⟩ : ∃ x, x = r0 / 10 ^ k := ⟨_, rfl⟩
          have hxr : x ≤ r0 := by rw [hx]; exact Nat.div_le_self _ _
          have hst : (⟨(dpad (k + 1) r0).toArray⟩ : ByteArray) = ⟨#[UInt8.ofNat (48 + x % 10)]⟩ ++ ⟨(dpad k r0).toArray⟩ := by
            rw [dpad_cons, ← hx]; apply ByteArray.ext; simp
          have hrd : r0 / 10 ^ (k + 1) = x / 10 := by rw [hx, Nat.div_div_eq_div_mul, Nat.pow_succ]
          rw [← hx]
          have HX := Lib.hid hx; have HST := Lib.hid hst; have HRD := Lib.hid hrd
          clear hx hst hrd
          have hx10 : Utf8.encode (48 + (x : Int) % 10) = ⟨#[UInt8.ofNat (48 + x % 10)]⟩ := by
            have h := enc_digit (x % 10) (Nat.mod_lt _ (by decide))
            rw [← h]
            congr 1
          have hadd : ¬ 9223372036854775807 < (Utf8.encode (48 + (x : Int) % 10)).size + (dpad k r0).length := by
            rw [hx10, dpad_len]
            simp [ByteArray.size]
            omega
          have HX10 := Lib.hid hx10
          clear hx10
          go_wp2_with fail
          go_roundw
          case rel => exact ⟨k + 1, by omega, by rw [HRD.out]; rfl, by rw [HST.out, HX10.out], by go_num⟩
          case measure => simp [intOf] <;> omega
        · obtain rfl : k = 9 := by omega
          rw [HP.out]
          go_wp2_with (first
            | (at_builtin
               (refine wpList_apps1 (.tmp 32) (.tmp 34) (hO.ext hx2) (by simp only [hlen]; omega) (by have := hx.size; have := hx2.size; omega) rfl rfl rfl rfl ?_)
               intro v2 w3 hO2 hg2 hv2)
            | fail)
          have hx3 : Ext w w3 := Ext.grown ((hx.trans hx2).alloc _) hg2 fun i hi => (hrow i hi).1
          have hN4 : Nl w3 (fun _ => True) A3 c3 (lim q) := Nl.widen (Y := fun _ => True) (Nl.keep hN3 (((Kp.refl w2).alloc _).grown hg2 fun i hi hl => by
            have h1 := (hrow i hi).2
            have h2 : wr.heap.size ≤ i := hl
            omega)) fun _ _ _ => trivial
          obtain ⟨P2, cP2, rfl, -⟩ := Own.sl hO2 (by omega) (X := fun _ => True) (fun _ _ => trivial)
          go_roundw
          case rel => exact ⟨j + 1, A3, c3, by rw [take_piece, ← hps]; exact hO2, by rw [← HQ.out], by rw [← HQ.out]; exact hN4, by omega, fun _ e => hm0 (by rw [HMM.out, e, Nat.zero_div]), hx3⟩
          case measure => simp only [slen, List.length_append, hlen, List.length_cons, List.length_nil]; omega
    · have hm0 : m = 0 := by
        apply Decidable.byContradiction
        intro h
        exact h0 ((lim_len_pos m).2 h)
      by_cases hj0 : j = 0
      · have hn0 : n = 0 := by rw [hm, hj0] at hm0; simpa using hm0
        subst hj0
        have hR : R = [48] := by rw [HR.out, hn0]; exact Lib.decDigits_one (by decide)
        subst hR
        clear hm
        go_wp2_with fail
        (refine bodyPost_ret (v := ?_) ?_ rfl ?_; rotate_left; (simp only [results, Tryz.results124]; go_simp; (first | done | with_reducible rfl)))
        exact ⟨rfl, hx⟩
      · have hn1 : n < 10 ^ (9 * j) := by
          rw [hm0] at hm
          exact Nat.lt_of_div_eq_zero (Nat.pow_pos (by decide)) hm.symm
        have hn0 : n ≠ 0 := hjn (by omega)
        have hjz : ((j : Int) == 0) = false := by rw [beq_eq_false_iff_ne]; omega
        have htr := trim_dpad (9 * j) n hn1
        rw [if_neg hn0, ← HR.out] at htr
        have HTR := Lib.hid htr
        have HPS := Lib.hid hps
        have hS2 : Sl 1 EStr wr (fun q => q < wr.heap.size) P cP ps := Sl.widen hS (by omega) fun _ _ hl => hl
        have hsx := hx.size
        clear hm htr hps hm0 hn1 hn0 hS hO hrow hjn
        go_wp2_with fail
        refine wp_named fun W hW => ?_
        obtain ⟨b, hb⟩ : ∃ b, b = wr.heap.size := ⟨_, rfl⟩
        have hB : Lib.IsBuilder 130 5 b b (Lib.byteCells (dpad (9 * (j - j)) (n / 10 ^ (9 * j)))) W := by
          rw [Nat.sub_self, hW, hb]
          exact Lib.fresh_isBuilder _ _ _
        rw [← hb] at hS2 hsx ⊢
        have hSW : Sl 1 EStr W (fun q => q < b) P cP ps := by rw [hW]; exact Sl.keep hS2 ((Kp.refl wr).alloc _)
        have hE : Ext w W := by rw [hW]; exact hx.alloc _
        have hbW : b ≤ W.heap.size := by rw [hW, hb]; simp only [wsz]; omega
        clear hW hS2 hb hx
        go_loopw [9] (fun iv wz => ∃ i : Nat, i ≤ j ∧ iv = .int .i64 ((i : Int) - 1) ∧ Lib.IsBuilder 130 5 b b (Lib.byteCells (dpad (9 * (j - i)) (n / 10 ^ (9 * i)))) wz ∧ Sl 1 EStr wz (fun q => q < b) P cP ps ∧ Ext w wz ∧ b ≤ wz.heap.size) (fun iv _ => (intOf iv + 1).toNat)
        case atStart => exact ⟨j, Nat.le_refl _, rfl, hB, hSW, hE, hbW⟩
        case round =>
          clear hB hSW hE hbW
          obtain ⟨i, hi, rfl, hB, hS, hE, hbz⟩ := hrel
          cases i with
          | zero =>
            have hl : dpad (9 * (j - 0)) (n / 10 ^ (9 * 0)) = dpad (9 * j) n := by simp
            rw [hl] at hB
            have hst := Tryz.Builder_String_any b b _ _ hB hbz
            have htl := fun (U : World) => Tryz.strings_TrimLeft_one ⟨(dpad (9 * j) n).toArray⟩ 48 (by decide) U
            rw [show (⟨(dpad (9 * j) n).toArray⟩ : ByteArray).data.toList = dpad (9 * j) n from rfl, HTR.out] at htl
            have HST := Lib.hid hst; have HTL := Lib.hid htl
            clear hst htl hl
            go_wp2_with fail
            refine HST.out.mono ?_
            rintro e w5 ⟨rfl, hb5⟩
            go_wp2_with fail
            refine (HTL.out _).mono ?_
            rintro e w6 ⟨rfl, rfl⟩
            go_wp2_with fail
            (refine bodyPost_ret (v := ?_) ?_ rfl ?_; rotate_left; (simp only [results, Tryz.results124]; go_simp; (first | done | with_reducible rfl)))
            exact ⟨rfl, Below.trans hE (Below.mono hb5 hsx)⟩
          | succ i =>
            have he : (((i + 1 : Nat) : Int) - 1) = (i : Int) := by omega
            rw [he]
            obtain ⟨b', o, rfl, hX, hc⟩ := Ss.at_ hS (k := i) (by omega)
            have hpi : ps[i]'(by omega) = piece n i := by simp [HPS.out]
            rw [hpi] at hc
            have hcl := World.block_lt_of_cell? _ _ hc
            have hij : (i : Int) < (j : Int) := by omega
            have hws := writeString_c b b _ ⟨(piece n i).toArray⟩ _ hB (by
              have h1 : (Lib.byteCells (dpad (9 * (j - (i + 1))) (n / 10 ^ (9 * (i + 1))))).length = 9 * (j - (i + 1)) := by simp [Lib.byteCells, dpad_len]
              have h2 : (⟨(piece n i).toArray⟩ : ByteArray).size = 9 := by simp [ByteArray.size, piece, dpad_len]
              omega) hbz
            have hstep : Lib.byteCells (dpad (9 * (j - (i + 1))) (n / 10 ^ (9 * (i + 1)))) ++ Lib.strCells ⟨(piece n i).toArray⟩ = Lib.byteCells (dpad (9 * (j - i)) (n / 10 ^ (9 * i))) := by
              rw [show j - i = (j - (i + 1)) + 1 by omega, piece_step]
              simp [Lib.byteCells, Lib.strCells]
            rw [hstep] at hws
            have HWS := Lib.hid hws
            clear hws hstep hpi he
            go_wp2_with fail
            refine HWS.out.mono ?_
            rintro e w5 ⟨rfl, hB5, hb5⟩
            go_wp2_with fail
            go_roundw
            case rel => exact ⟨i, by omega, rfl, hB5, Sl.keep hS fun q hq _ => hb5.block q hq, Below.trans hE (Below.mono hb5 hsx), Nat.le_trans hbz hb5.size⟩
            case measure => simp [intOf] <;> omega

def Tab (w : World) : Prop := Lib.TabIs Tryz.prog w "internal/strconv.uint64pow10" .u64 Lib.pow10Tab
theorem Tab.ext {w w' : World} (h : Tab w) (k : Ext w w') : Tab w' := by
  unfold Tab Lib.TabIs World.var? at *
  cases hg : Tryz.prog.globalNamed "internal/strconv.uint64pow10" with
  | none => rw [hg] at h; cases h
  | some g =>
    rw [hg] at h
    simp only [Option.bind_some] at h ⊢
    cases hh : w.heap[g]? with
    | none => rw [hh] at h; cases h
    | some o =>
      rw [k.block g (lt_of_some hh)]
      exact h
theorem itoa_c {n : Int} {w : World} (hn : i64 n) (h : Tab w) : Calls Tryz.prog 123 #[.int .i64 n] w fun e w' => e = .returned (.string ⟨(Lib.itoa n).toArray⟩) ∧ Ext w w' := by
  refine (Tryz.strconv_Itoa n hn.1 (by have := hn.2; omega) w h).mono ?_
  rintro e w' ⟨rfl, k, os, rfl⟩
  exact ⟨rfl, Lib.below_grow _ w (Nat.le_refl _) k os⟩
theorem decDigits_len {n k : Nat} (h : n < 10 ^ k) : (Lib.decDigits n).length ≤ k + 1 := by
  by_cases h0 : n = 0
  · rw [h0, Lib.decDigits_one (by decide)]
    simp
  · have h1 := trim_dpad k n h
    rw [if_neg h0] at h1
    rw [← h1]
    unfold Lib.trimLeftB
    have h2 := (List.dropWhile_sublist (fun x => x == 48) (l := dpad k n)).length_le
    rw [dpad_len] at h2
    omega
theorem itoa_len (x : Int) : (Lib.itoa x).length ≤ 10 * zl x + 2 := by
  have h1 : x.natAbs < 10 ^ (10 * zl x) := by
    refine Nat.lt_of_lt_of_le (lt_pw_zl x) ?_
    unfold pw
    rw [Nat.pow_mul]
    exact Nat.pow_le_pow_left (by decide) _
  have h2 := decDigits_len h1
  unfold Lib.itoa
  split
  · simp only [List.length_cons]; omega
  · rw [show x.toNat = x.natAbs by omega]; omega

set_option maxHeartbeats 1600000 in
theorem ztext_c {v : Value} {z : Z} {w : World} {X : Nat → Prop} (h : Zi w X v z) (hl : z.mag.length ≤ 1073741824) :
    Calls Tryz.prog 80 #[v] w fun e w' => e = .returned (.string ⟨(Lib.itoa z.v).toArray⟩) ∧ Ext w w' := by
  have hsg := fun (U : World) (hU : Ext w U) => zsign_c (h.ext hU)
  have hlb := h.lb
  have hzl := lt_pw_zl z.v
  obtain ⟨A, c, rfl, hz⟩ := h
  have htx := fun (U : World) (hU : Ext w U) => ntext_c (hz.ext hU) hl
  rw [← natAbs_v] at htx
  obtain ⟨s, hs⟩ : ∃ s, s = Lib.decDigits z.v.natAbs := ⟨_, rfl⟩
  have hsl : s.length ≤ 10 * z.mag.length + 2 := by
    have h1 := itoa_len (z.v.natAbs : Int)
    rw [Lib.itoa_nonneg, ← hs] at h1
    have h2 := zl_of hlb
    unfold zl at h1 h2
    rw [Int.natAbs_natCast] at h1
    omega
  rw [← hs] at htx
  obtain ⟨R, hR⟩ : ∃ R, R = Lib.itoa z.v := ⟨_, rfl⟩
  have hR1 : R = if z.v < 0 then 45 :: s else s := by
    rw [hR, hs]
    unfold Lib.itoa
    split
    · rfl
    · rw [show z.v.toNat = z.v.natAbs by omega]
  rw [← hR]
  have HSG := Lib.hid hsg; have HTX := Lib.hid htx
  have hsn : sgn z.v < 0 ↔ z.v < 0 := sgn_neg
  obtain ⟨sg, hsg2⟩ : ∃ s, s = sgn z.v := ⟨_, rfl⟩
  have HSG2 := Lib.hid hsg2
  rw [← hsg2] at hsn
  clear hsg htx hs hR hsg2
  have hadd : ¬ 9223372036854775807 < 1 + s.length := by omega
  by_cases h0 : z.v < 0
  · rw [if_pos h0] at hR1
    have hs1 : decide (sg < 0) = true := decide_eq_true (hsn.2 h0)
    subst hR1
    clear h0 hsn
    go_enter Tryz.func80, Tryz.ntmps80
    go_wp2_with fail
    refine (HSG.out _ xt).mono ?_
    rintro e w1 ⟨rfl, hx1⟩
    have b1 : Box w1 w.heap.size 24 #[.bool z.neg, .slice A z.mag.length c] := Box.ext (Box.new w _ _) hx1
    have b1r := b1.rules; have b1l := b1.lt
    have hx : Ext w w1 := ((Ext.refl w).alloc _).trans hx1
    rw [← HSG2.out]
    go_wp2_with fail
    refine (HTX.out _ hx).mono ?_
    rintro e w2 ⟨rfl, hx2⟩
    go_wp2_with fail
    (refine bodyPost_ret (v := ?_) ?_ rfl ?_; rotate_left; (simp only [results, Tryz.results80]; go_simp; (first | done | with_reducible rfl)))
    exact ⟨by rw [show (45 :: s) = [45] ++ s from rfl, ← ByteArray.mk_append_mk], hx.trans hx2⟩
  · rw [if_neg h0] at hR1
    have hs1 : decide (sg < 0) = false := decide_eq_false fun h => h0 (hsn.1 h)
    subst hR1
    clear h0 hsn
    go_enter Tryz.func80, Tryz.ntmps80
    go_wp2_with fail
    refine (HSG.out _ xt).mono ?_
    rintro e w1 ⟨rfl, hx1⟩
    have b1 : Box w1 w.heap.size 24 #[.bool z.neg, .slice A z.mag.length c] := Box.ext (Box.new w _ _) hx1
    have b1r := b1.rules; have b1l := b1.lt
    have hx : Ext w w1 := ((Ext.refl w).alloc _).trans hx1
    rw [← HSG2.out]
    go_wp2_with fail
    refine (HTX.out _ hx).mono ?_
    rintro e w2 ⟨rfl, hx2⟩
    go_wp2_with fail
    (refine bodyPost_ret (v := ?_) ?_ rfl ?_; rotate_left; (simp only [results, Tryz.results80]; go_simp; (first | done | with_reducible rfl)))
    exact ⟨rfl, hx.trans hx2⟩

end Go.Proofs.YthmjgbkakjpfkaaGreatDoor
