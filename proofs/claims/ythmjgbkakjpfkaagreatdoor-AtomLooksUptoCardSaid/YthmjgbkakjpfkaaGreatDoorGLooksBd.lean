/- atom.written, atom.Text. No conditions. riddlelaw06.awake. No conditions. -/
import Derived.Test.YthmjgbkakjpfkaaGreatDoorGLooksAj
import Derived.Test.YthmjgbkakjpfkaaGreatDoorGLooksBc
namespace Go.Proofs.YthmjgbkakjpfkaaGreatDoor
open Go.RowKit

theorem bs_append (l m : List UInt8) : (⟨l.toArray⟩ : ByteArray) ++ ⟨m.toArray⟩ = ⟨(l ++ m).toArray⟩ := by
  apply ByteArray.ext
  simp

theorem signed_c {g : Nat} {s : List UInt8} {v : Value} {z : Z} {w : World} {X : Nat → Prop} (hb : Box w g 9 #[.string ⟨s.toArray⟩]) (hz : Zi w X v z) (hl : s.length ≤ 36028797018963968) :
    Calls Tryz.prog 122 #[v, .pointer (some ⟨g, 0, none⟩)] w fun e w' => e = .returned (.tuple #[]) ∧ Box w' g 9 #[.string ⟨(signB s z.v).toArray⟩] ∧ Kp (fun b => b ≠ g) w w' ∧ ∀ w0, Ext w0 w → w0.heap.size ≤ g → Ext w0 w' := by
  have hsg := fun (U : World) (hU : Ext w U) => zsign_c (hz.ext hU)
  obtain ⟨A, c, rfl, hz⟩ := hz
  have HSG := Lib.hid hsg
  clear hsg
  have hbl := hb.lt
  have hz1 : ¬ ((⟨s.toArray⟩ : ByteArray).size + (⟨#[45]⟩ : ByteArray).size > 9223372036854775807) := by simp [ByteArray.size]; omega
  have hz2 : ¬ ((⟨s.toArray⟩ : ByteArray).size + (⟨#[43]⟩ : ByteArray).size > 9223372036854775807) := by simp [ByteArray.size]; omega
  obtain ⟨S, hS⟩ : ∃ S, S = signB s z.v := ⟨_, rfl⟩
  rw [← hS]
  unfold signB at hS
  go_enter Tryz.func122, Tryz.ntmps122
  go_wp2_with fail
  refine (HSG.out _ xt).mono ?_
  rintro e w1 ⟨rfl, hx1⟩
  have hx : Ext w w1 := ((Ext.refl w).alloc _).trans hx1
  have b1 := hb.ext hx
  have b1r := b1.rules; have b1l := b1.lt
  obtain ⟨sg, hsg⟩ : ∃ s, s = sgn z.v := ⟨_, rfl⟩
  have hss : sg < 0 ↔ z.v < 0 := by rw [hsg]; exact sgn_neg
  rw [← hsg]
  clear hsg
  by_cases h0 : z.v < 0
  · have hs0 := hss.2 h0
    have hs1 : decide (sg < 0) = true := decide_eq_true hs0
    rw [if_pos h0] at hS
    subst hS
    go_wp2_with fail
    refine bodyPost_end (results_none rfl _ _ _) rfl ?_
    refine ⟨rfl, ?_, ?_, ?_⟩
    · rw [← bs_append]; exact b1.set_ 0 _
    · exact (Kp.of_ext hx).setCell (fun h => h rfl) _
    · exact fun w0 h h1 => (h.trans hx).setCell h1 _
  · have hs0 : ¬ sg < 0 := fun h => h0 (hss.1 h)
    have hs1 : decide (sg < 0) = false := decide_eq_false hs0
    rw [if_neg h0] at hS
    by_cases h1 : s = []
    · subst h1
      rw [if_pos rfl] at hS
      subst hS
      go_wp2_with fail
      refine bodyPost_end (results_none rfl _ _ _) rfl ?_
      exact ⟨rfl, b1, Kp.of_ext hx, fun w0 h _ => h.trans hx⟩
    · rw [if_neg h1] at hS
      subst hS
      have hne : s.isEmpty = false := by cases s with | nil => exact absurd rfl h1 | cons => rfl
      go_wp2_with fail
      refine bodyPost_end (results_none rfl _ _ _) rfl ?_
      refine ⟨rfl, ?_, ?_, ?_⟩
      · rw [← bs_append]; exact b1.set_ 0 _
      · exact (Kp.of_ext hx).setCell (fun h => h rfl) _
      · exact fun w0 h h1 => (h.trans hx).setCell h1 _

theorem zl_natAbs (x : Int) : zl ((x.natAbs : Nat) : Int) = zl x := by unfold zl; rw [Int.natAbs_natCast]
theorem signB_len (s : List UInt8) (c : Int) : (signB s c).length ≤ s.length + 1 := by
  unfold signB
  split
  · simp
  · split
    · omega
    · simp
theorem partB_len {s : List UInt8} {p : Int × Int} {N : Nat} (h : zl p.2 ≤ N) (hp : i64 p.1) : (partB s p).length ≤ s.length + (10 * N + 40) := by
  unfold partB
  have h1 := signB_len s p.2
  have h2 := itoa_len (p.2.natAbs : Int)
  rw [zl_natAbs] at h2
  have h3 := itoa_len p.1
  have h4 : zl p.1 ≤ 2 := zl_word (by have := hp.1; have := hp.2; omega)
  split <;> simp only [List.length_append, List.length_cons, List.length_nil] <;> omega

set_option maxRecDepth 100000 in
set_option maxHeartbeats 6400000 in
theorem written_c {v : Value} {t : T} {w : World} {X : Nat → Prop} {N : Nat} (h : Tv w X v t) (hs : t.sz N) (hN : N ≤ 16777216) (htab : Tab w) :
    Calls Tryz.prog 79 #[v] w fun e w' => e = .returned (.string ⟨(writtenB (vl t.ps) t.k.v).toArray⟩) ∧ Ext w w' := by
  have hlb := h.lb
  obtain ⟨hs1, hs2, hs3⟩ := hs
  have hzv := zl_vl hlb.1 hs2
  have hzk : zl t.k.v ≤ N := Nat.le_trans (zl_of hlb.2) hs3
  obtain ⟨M, hM⟩ : ∃ M, M = 10 * N + 40 := ⟨_, rfl⟩
  have hNM : N * M ≤ 16777216 * M := Nat.mul_le_mul_right _ hN
  have hMM : M ≤ 167772200 := by omega
  have hab := fun (U : World) (X : Nat → Prop) (r : Value) (z : Z) (hr : Zi U X r z) (hl : z.mag.length ≤ N) => zabs_c hr (by omega)
  have htx := fun (U : World) (X : Nat → Prop) (r : Value) (x : Int) (hr : Zi U X r (cz ((x.natAbs : Nat) : Int))) (hl : zl x ≤ N) => ztext_c hr (by rw [cz_len, zl_natAbs]; omega)
  simp only [cz_v] at htx
  have hvl := vl_len t.ps
  obtain ⟨A, c, B, d, rfl, h1, h2⟩ := h
  have h1 := h1.below
  have h2 := h2.below
  have HAB := Lib.hid hab; have HTX := Lib.hid htx; have HTAB := Lib.hid htab; have HZV := Lib.hid hzv; have HZK := Lib.hid hzk; have HM := Lib.hid hM
  have HS2 := Lib.hid hs2
  clear hab htx htab hzv hzk hs2 hlb hM
  obtain ⟨R, hR⟩ : ∃ R, R = writtenB (vl t.ps) t.k.v := ⟨_, rfl⟩
  rw [← hR]
  have HR := Lib.hid hR
  clear hR
  go_enter Tryz.func79, Tryz.ntmps79
  go_wp2_with fail
  refine wp_named fun W hW => ?_
  have b1 : Box W w.heap.size 27 #[.slice A t.ps.length c, .bool t.k.neg, .slice B t.k.mag.length d] := by rw [hW]; exact bxt
  obtain ⟨g, hg⟩ : ∃ g, g = w.heap.size + 1 := ⟨_, rfl⟩
  rw [← hg]
  have b3 : Box W g 9 #[.string ⟨([] : List UInt8).toArray⟩] := by rw [hW, hg]; exact bxt
  have hE : Ext w W := by rw [hW]; exact xt
  have hgw : w.heap.size ≤ g := by omega
  have hgw2 : w.heap.size ≠ g := by omega
  clear hW hg
  go_loopw [12] (fun iv wr => ∃ (k : Nat) (s : List UInt8), k ≤ t.ps.length ∧ iv = .int .i64 (k : Int) ∧ s = ((vl t.ps).take k).foldl partB [] ∧ s.length ≤ k * M ∧ Box wr g 9 #[.string ⟨s.toArray⟩] ∧ Box wr w.heap.size 27 #[.slice A t.ps.length c, .bool t.k.neg, .slice B t.k.mag.length d] ∧ Ext w wr) (fun iv _ => t.ps.length - (intOf iv).toNat)
  case atStart => exact ⟨0, [], Nat.zero_le _, rfl, rfl, by simp, b3, b1, hE⟩
  case round =>
    clear b1 b3 hE
    obtain ⟨k, s, hk, rfl, hsv, hsl, b3, b1, hE⟩ := hrel
    have hkM : k * M ≤ N * M := Nat.mul_le_mul_right _ (by omega)
    by_cases hlt : k < t.ps.length
    · obtain ⟨b, o, B', d', rfl, hX, hc0, hc1, hc2, hi, hN2⟩ := (h1.ext hE).at_ hlt
      have hb := World.block_lt_of_cell? _ _ hc0
      have kl : (k : Int) < (t.ps.length : Int) := by omega
      have hvk : k < (vl t.ps).length := by omega
      have hst : ((vl t.ps).take (k + 1)).foldl partB [] = partB s ((pth t.ps k).1, (pth t.ps k).2.v) := by
        rw [List.take_succ_eq_append_getElem hvk, List.foldl_append, ← hsv, pth_eq _ _ hlt]
        simp [vl]
      have hpl : (pth t.ps k).2.mag.length ≤ N := HS2.out _ (by rw [pth_eq _ _ hlt]; exact List.getElem_mem hlt)
      obtain ⟨p, hp⟩ : ∃ p, p = pth t.ps k := ⟨_, rfl⟩
      rw [← hp] at hc0 hc1 hc2 hN2 hst hi hpl
      have hpz : zl p.2.v ≤ N := Nat.le_trans (zl_of hN2.lb) hpl
      have hpl2 := partB_len (s := s) (p := (p.1, p.2.v)) (N := N) hpz hi
      rw [← HM.out] at hpl2
      have HST := Lib.hid hst; have HSL := Lib.hid hsl; have HPL := Lib.hid hpl2; have HKM := Lib.hid hkM
      clear hst hp hsv hsl hpl2 hkM
      go_upto_region 6 with fail
      refine wp_named fun V hV => ?_
      have c6 : Box V wr.heap.size 37 #[.int .i64 p.1, .bool p.2.neg, .slice B' p.2.mag.length d'] := by rw [hV]; exact Box.new _ _ _
      have hxV : Ext wr V := by rw [hV]; exact (Ext.refl wr).alloc _
      obtain ⟨g6, hg6⟩ : ∃ g, g = wr.heap.size := ⟨_, rfl⟩
      have hg6g : g6 ≠ g := by have := b3.lt; omega
      rw [← hg6] at c6
      rw [← hg6]
      have c3 := b3.ext hxV; have c1 := b1.ext hxV
      have hNV := hN2.ext hxV
      have hEV := hE.trans hxV
      clear hV hg6 b3 b1 hc0 hc1 hc2 hN2 hxV hE
      have c6r := c6.rules; have c6l := c6.lt
      go_wp2_with fail
      refine (signed_c c3 (⟨B', d', rfl, hNV⟩ : Zi V _ (.agg #[.bool p.2.neg, .slice B' p.2.mag.length d']) p.2) (by have := HSL.out; have := HKM.out; omega)).mono ?_
      rintro e w1 ⟨rfl, d3, kp, hb1⟩
      have hE1 := hb1 w hEV hgw
      have d1 := c1.keep hgw2 kp; have d6 := c6.keep hg6g kp
      have hN1 : Nl w1 (fun b => b < w.heap.size) B' d' p.2.mag := Nl.keep hNV (show Kp (fun b => b < w.heap.size) V w1 from fun b hb hl => kp b (fun e => by have h : b < w.heap.size := hb; omega) hl)
      have hs1 := signB_len s p.2.v
      obtain ⟨s1, hs1e⟩ : ∃ x, x = signB s p.2.v := ⟨_, rfl⟩
      rw [← hs1e] at d3 hs1
      have HS1 := Lib.hid hs1e
      clear hs1e c3 c1 c6 c6r c6l hNV hb1 kp
      have d6r := d6.rules; have d6l := d6.lt
      go_wp2_with fail
      refine (HAB.out _ _ _ _ (⟨B', d', rfl, hN1⟩ : Zi w1 _ (.agg #[.bool p.2.neg, .slice B' p.2.mag.length d']) p.2) hpl).mono ?_
      rintro e w2 ⟨r2, rfl, hr2, hx2⟩
      go_wp2_with fail
      refine (HTX.out _ _ _ _ hr2 hpz).mono ?_
      rintro e w3 ⟨rfl, hx3⟩
      have hx13 := hx2.trans hx3
      have e3 := d3.ext hx13; have e1 := d1.ext hx13; have e6 := d6.ext hx13
      have hE3 := hE1.trans hx13
      have hml := itoa_len ((p.2.v.natAbs : Nat) : Int)
      rw [zl_natAbs] at hml
      obtain ⟨m, hm⟩ : ∃ m, m = Lib.itoa ((p.2.v.natAbs : Nat) : Int) := ⟨_, rfl⟩
      rw [← hm] at hml ⊢
      obtain ⟨s2, hs2⟩ : ∃ x, x = s1 ++ (if m = [49] then [] else m) := ⟨_, rfl⟩
      have hs2l : s2.length ≤ s.length + (10 * N + 3) := by rw [hs2]; split <;> simp only [List.length_append, List.length_nil] <;> omega
      have HM2 := Lib.hid hm; have HS2' := Lib.hid hs2
      clear hm hs2 d3 d1 d6 d6r d6l hr2 hx2 hx3 hx13
      have hbig := HSL.out; have hbig2 := HKM.out
      have hit := fun (U : World) (hU : Ext w U) => itoa_c (n := p.1) hi (HTAB.out.ext hU)
      have hil := itoa_len p.1
      have hpz2 : zl p.1 ≤ 2 := zl_word (by have := hi.1; have := hi.2; omega)
      obtain ⟨m2, hm2⟩ : ∃ m, m = Lib.itoa p.1 := ⟨_, rfl⟩
      simp only [← hm2] at hit hil
      have HIT := Lib.hid hit; have HM3 := Lib.hid hm2
      clear hit hm2
      have h8 : partB s (p.1, p.2.v) = s2 ++ ([118] ++ m2) := by
        unfold partB
        dsimp only
        rw [HM3.out, HS2'.out, HM2.out, HS1.out]; rfl
      have h9 : (partB s (p.1, p.2.v)).length ≤ (k + 1) * M := by rw [Nat.succ_mul]; have := HPL.out; omega
      rw [h8] at h9
      have HST2 : ((vl t.ps).take (k + 1)).foldl partB [] = s2 ++ ([118] ++ m2) := by rw [HST.out, h8]
      have HST2 := Lib.hid HST2; have H9 := Lib.hid h9
      clear h8 h9
      have hz1 : ¬ ((⟨#[118]⟩ : ByteArray).size + (⟨m2.toArray⟩ : ByteArray).size > 9223372036854775807) := by simp [ByteArray.size]; omega
      by_cases hm1 : m = [49]
      · have hs3 : s2 = s1 := by rw [HS2'.out, if_pos hm1, List.append_nil]
        subst hm1
        subst hs3
        have e3r := e3.rules; have e3l := e3.lt; have e6r := e6.rules; have e6l := e6.lt
        have hz2 : ¬ ((⟨s2.toArray⟩ : ByteArray).size + ((⟨#[118]⟩ : ByteArray) ++ (⟨m2.toArray⟩ : ByteArray)).size > 9223372036854775807) := by simp [ByteArray.size]; omega
        go_wp2_with fail
        refine wp_region_seq 6 [(0, true), (1, true), (2, true), (3, false), (4, true), (5, true), (6, false)] rfl (by kernel_rfl) (by intro _ _ d _ _ h; cases d <;> exact h) ?_
        (repeat (refine sq_take (v := ?_) rfl rfl ?_ ?_; rotate_left; (intro w' hx'; have hc' := hx'.cells.1; (try simp only [wcd] at hc'); go_simp; (first | done | with_reducible rfl)); (try simp only [pt])))
        (refine sq_loud rfl rfl fun K hK => ?_; go_simp)
        refine (HIT.out _ xt).mono ?_
        rintro e w5 ⟨rfl, hx5⟩
        (refine hK _ _ xt ?_; clear hK K; (try simp only [pt]))
        (refine sq_take (v := ?_) rfl rfl ?_ ?_; rotate_left; (intro w' hx'; go_simp; (rw [if_neg (by first | omega | (simp [ByteArray.size]; omega))]; try (with_reducible rfl))); (try simp only [pt]))
        (refine sq_take (v := ?_) rfl rfl ?_ ?_; rotate_left; (intro w' hx'; go_simp; (rw [if_neg (by first | omega | (simp [ByteArray.size]; omega))]; try (with_reducible rfl))); (try simp only [pt]))
        have e35 := e3.drew.ext hx5; have e35r := e35.rules; have e35l := e35.lt
        (refine sq_last rfl rfl fun K hK => ?_; go_simp; refine hK _ _ ?_; clear hK K)
        have hy5 : Ext w w5 := xt
        go_wp2_with fail
        go_roundw
        case rel =>
          refine ⟨k + 1, _, by omega, by go_num, rfl, ?_, ?_, ?_, ?_⟩
          · rw [HST2.out]; exact H9.out
          · rw [HST2.out, ← bs_append, ← bs_append]
            exact ((e3.drew).ext hx5).set_ 0 _
          · exact ((e1.drew).ext hx5).far (by simp only; omega) _
          · exact hy5.setCell hgw _
        case measure => simp [intOf] <;> omega
      · have hm2 : (m == [49]) = false := by rw [beq_eq_false_iff_ne]; exact hm1
        have hs3 : s2 = s1 ++ m := by rw [HS2'.out, if_neg hm1]
        subst hs3
        have e3r := e3.rules; have e3l := e3.lt; have e6r := e6.rules; have e6l := e6.lt
        have hz0 : ¬ ((⟨s1.toArray⟩ : ByteArray).size + (⟨m.toArray⟩ : ByteArray).size > 9223372036854775807) := by simp only [ByteArray.size, List.size_toArray]; omega
        have hz2 : ¬ ((⟨(s1 ++ m).toArray⟩ : ByteArray).size + ((⟨#[118]⟩ : ByteArray) ++ (⟨m2.toArray⟩ : ByteArray)).size > 9223372036854775807) := by simp [ByteArray.size]; omega
        go_wp2_with fail
        refine wp_region_seq 6 [(0, true), (1, true), (2, true), (3, false), (4, true), (5, true), (6, false)] rfl (by kernel_rfl) (by intro _ _ d _ _ h; cases d <;> exact h) ?_
        (repeat (refine sq_take (v := ?_) rfl rfl ?_ ?_; rotate_left; (intro w' hx'; have hc' := hx'.cells.1; (try simp only [wcd] at hc'); go_simp; (first | done | with_reducible rfl)); (try simp only [pt])))
        (refine sq_loud rfl rfl fun K hK => ?_; go_simp)
        refine (HIT.out _ xt).mono ?_
        rintro e w5 ⟨rfl, hx5⟩
        (refine hK _ _ xt ?_; clear hK K; (try simp only [pt]))
        (refine sq_take (v := ?_) rfl rfl ?_ ?_; rotate_left; (intro w' hx'; go_simp; (rw [if_neg (by first | omega | (simp [ByteArray.size]; omega))]; try (with_reducible rfl))); (try simp only [pt]))
        (refine sq_take (v := ?_) rfl rfl ?_ ?_; rotate_left; (intro w' hx'; go_simp; (rw [if_neg (by first | omega | (simp [ByteArray.size]; omega))]; try (with_reducible rfl))); (try simp only [pt]))
        have e35 := (e3.set_ 0 (.string ((⟨s1.toArray⟩ : ByteArray) ++ ⟨m.toArray⟩))).drew.ext hx5; have e35r := e35.rules; have e35l := e35.lt
        (refine sq_last rfl rfl fun K hK => ?_; go_simp; refine hK _ _ ?_; clear hK K)
        have hy5 : Ext w w5 := xt
        go_wp2_with fail
        go_roundw
        case rel =>
          refine ⟨k + 1, _, by omega, by go_num, rfl, ?_, ?_, ?_, ?_⟩
          · rw [HST2.out]; exact H9.out
          · rw [HST2.out, ← bs_append, ← bs_append]
            exact ((e3.set_ 0 _).drew.ext hx5).set_ 0 _
          · exact ((e1.far (by simp only; omega) _).drew.ext hx5).far (by simp only; omega) _
          · exact hy5.setCell hgw _
        case measure => simp [intOf] <;> omega
    · obtain rfl : k = t.ps.length := by omega
      have b1r := b1.rules; have b1l := b1.lt
      rw [← hvl, List.take_length] at hsv
      have hsg := fun (U : World) (hU : Ext wr U) => zsign_c (⟨B, d, rfl, Nl.ext h2 (hE.trans hU)⟩ : Zi U _ (.agg #[.bool t.k.neg, .slice B t.k.mag.length d]) t.k)
      have HSG := Lib.hid hsg
      clear hsg
      go_wp2_with fail
      refine (HSG.out _ xt).mono ?_
      rintro e w1 ⟨rfl, hx1⟩
      have d1 := b1.ext hx1; have d3 := b3.ext hx1
      have hE1 := hE.trans hx1
      clear b1 b3 b1r b1l HSG
      have d1r := d1.rules; have d1l := d1.lt; have d3r := d3.rules; have d3l := d3.lt
      obtain ⟨sg, hsg⟩ : ∃ s, s = sgn t.k.v := ⟨_, rfl⟩
      have hs0 : sg = 0 ↔ t.k.v = 0 := by rw [hsg]; exact sgn_zero
      rw [← hsg]
      clear hsg
      have hbig := hsl
      by_cases h0 : t.k.v = 0
      · have hse : sg = 0 := hs0.2 h0
        subst hse
        have hwr : R = s := by rw [HR.out]; unfold writtenB; rw [if_pos h0, hsv]
        subst hwr
        clear hsv hs0
        go_wp2_with fail
        (refine bodyPost_ret (v := ?_) ?_ rfl ?_; rotate_left; (simp only [results, Tryz.results79]; go_simp; (first | done | with_reducible rfl)))
        exact ⟨rfl, hE1⟩
      · have hse : ((sg : Int) == 0) = false := by rw [beq_eq_false_iff_ne]; exact fun e => h0 (hs0.1 e)
        have hse2 : decide ((sg : Int) = 0) = false := decide_eq_false fun e => h0 (hs0.1 e)
        have hwr : R = signB s t.k.v ++ Lib.itoa ((t.k.v.natAbs : Nat) : Int) := by rw [HR.out]; unfold writtenB; rw [if_neg h0, hsv]
        have HWR := Lib.hid hwr
        clear hwr hsv hs0
        go_wp2_with fail
        refine (signed_c d3 (⟨B, d, rfl, Nl.ext h2 hE1⟩ : Zi w1 _ (.agg #[.bool t.k.neg, .slice B t.k.mag.length d]) t.k) (by omega)).mono ?_
        rintro e w2 ⟨rfl, f3, kp, hb1⟩
        have hE2 := hb1 w hE1 hgw
        have f1 := d1.keep hgw2 kp
        have hs1 := signB_len s t.k.v
        obtain ⟨s1, hs1e⟩ : ∃ x, x = signB s t.k.v := ⟨_, rfl⟩
        rw [← hs1e] at f3 hs1
        have HS1 := Lib.hid hs1e
        have hml := itoa_len ((t.k.v.natAbs : Nat) : Int)
        rw [zl_natAbs] at hml
        have hzk := HZK.out
        have hMo := HM.out
        have hsl2 : s1.length + (10 * N + 2) ≤ 9223372036854775807 := by omega
        have hml2 : (Lib.itoa ((t.k.v.natAbs : Nat) : Int)).length ≤ 10 * N + 2 := by omega
        obtain ⟨m, hm⟩ : ∃ m, m = Lib.itoa ((t.k.v.natAbs : Nat) : Int) := ⟨_, rfl⟩
        rw [← hm] at hml2
        have HM2 := Lib.hid hm
        clear hs1e hm d1 d3 d1r d1l d3r d3l hb1 kp hml hMo
        have f1r := f1.rules; have f1l := f1.lt; have f3r := f3.rules; have f3l := f3.lt
        have hadd : ¬ 9223372036854775807 < s1.length + m.length := by omega
        have hkl := hs3
        go_wp2_with fail
        refine wp_region_seq 6 [(0, true), (1, true), (2, true), (3, false), (4, false), (5, true), (6, false)] rfl (by kernel_rfl) (by intro _ _ d _ _ h; cases d <;> exact h) ?_
        (repeat (refine sq_take (v := ?_) rfl rfl ?_ ?_; rotate_left; (intro w' hx'; have hc' := hx'.cells.1; (try simp only [wcd] at hc'); go_simp; (first | done | with_reducible rfl)); (try simp only [pt])))
        (refine sq_loud rfl rfl fun K hK => ?_; go_simp)
        refine (HAB.out _ _ _ _ (⟨B, d, rfl, Nl.ext h2 hE2.drew⟩ : Zi w2.drew _ (.agg #[.bool t.k.neg, .slice B t.k.mag.length d]) t.k) hkl).mono ?_
        rintro e w3 ⟨r3, rfl, hr3, hx3⟩
        (refine hK _ _ xt ?_; clear hK K; (try simp only [pt]))
        (refine sq_loud rfl rfl fun K hK => ?_; go_simp)
        refine (HTX.out _ _ _ _ hr3 hzk).mono ?_
        rintro e w4 ⟨rfl, hx4⟩
        (refine hK _ _ xt ?_; clear hK K; (try simp only [pt]))
        rw [← HM2.out]
        (repeat (refine sq_take (v := ?_) rfl rfl ?_ ?_; rotate_left; (intro w' hx'; have hc' := hx'.cells.1; (try simp only [wcd] at hc'); go_simp; (first | done | with_reducible rfl)); (try simp only [pt])))
        have hx24 := hx3.trans hx4
        have f35 := f3.drew.ext hx24; have f35r := f35.rules; have f35l := f35.lt
        (refine sq_last rfl rfl fun K hK => ?_; go_simp; refine hK _ _ ?_; clear hK K)
        have hE4 : Ext w w4 := (hE2.drew).trans hx24
        go_wp2_with fail
        (refine bodyPost_ret (v := ?_) ?_ rfl ?_; rotate_left; (simp only [results, Tryz.results79]; go_simp; (first | done | with_reducible rfl)))
        refine ⟨?_, hE4.setCell hgw _⟩
        rw [HWR.out, ← HS1.out, ← HM2.out, bs_append]

def textA (n : Ar) : List UInt8 :=
  if n.kd = 0 then [102, 97, 108, 115, 101] else if n.kd = 1 then [116, 114, 117, 101] else if n.kd = 2 then [48, 60] ++ writtenB (vl n.t.ps) n.t.k.v
  else if n.kd = 3 then (Lib.itoa n.d.v ++ [124]) ++ writtenB (vl n.t.ps) n.t.k.v else (Lib.itoa n.d.v ++ [33]) ++ writtenB (vl n.t.ps) n.t.k.v
def textR (a : Ar) : List UInt8 := if (normA a).2 = 0 then textA (normA a).1 else []
theorem writtenB_len {l : List (Int × Int)} {k : Int} {N : Nat} (hl : ∀ p ∈ l, zl p.2 ≤ N ∧ i64 p.1) (hk : zl k ≤ N) : (writtenB l k).length ≤ (l.length + 1) * (10 * N + 40) := by
  have h1 : ∀ (l : List (Int × Int)) (s : List UInt8), (∀ p ∈ l, zl p.2 ≤ N ∧ i64 p.1) → (l.foldl partB s).length ≤ s.length + l.length * (10 * N + 40) := by
    intro l
    induction l with
    | nil => intro s _; simp
    | cons p l ih =>
      intro s h
      have h2 := ih (partB s p) fun q hq => h q (List.mem_cons_of_mem _ hq)
      have h3 := partB_len (s := s) (h p (List.mem_cons_self ..)).1 (h p (List.mem_cons_self ..)).2
      rw [List.foldl_cons, List.length_cons, Nat.succ_mul]
      omega
  have h2 := h1 l [] hl
  rw [List.length_nil, Nat.zero_add] at h2
  unfold writtenB
  rw [Nat.succ_mul]
  split
  · omega
  · rw [List.length_append]
    have h3 := signB_len (l.foldl partB []) k
    have h4 := itoa_len ((k.natAbs : Nat) : Int)
    rw [zl_natAbs] at h4
    omega

theorem pl_i64s {w : World} {X : Nat → Prop} {A : Option Addr} {c : Nat} {l : List (Int × Z)} (h : Pl w X A c l) : ∀ p ∈ vl l, i64 p.1 := fun p hp => by
  obtain ⟨q, hq, rfl⟩ := List.mem_map.1 hp
  obtain ⟨k, hk, rfl⟩ := List.getElem_of_mem hq
  obtain ⟨b, o, B', d', -, -, -, -, -, hi, -⟩ := h.at_ hk
  rw [pth_eq _ _ hk] at hi
  exact hi

set_option maxRecDepth 100000 in
set_option maxHeartbeats 6400000 in
theorem atext_c {v : Value} {a : Ar} {w : World} {X : Nat → Prop} {N : Nat} (h : Av w X v a) (hs : a.sz N) (hN2 : 2 ≤ N) (hN : N ≤ 4194304) (htab : Tab w) :
    Calls Tryz.prog 32 #[v] w fun e w' => e = .returned (.string ⟨(textR a).toArray⟩) ∧ Ext w w' := by
  have hno := fun (U : World) (hU : Ext w U) => anorm_c (h.ext hU) hs hN2 (by omega)
  have hkd := normA_kd a
  have hsz : (normA a).1.sz (2 * N) := by
    obtain ⟨D, c, A, e, C, f, -, -, h1, h2, h3⟩ := h
    exact normA_sz hN2 hs h1.lb (Tv.lb (⟨A, e, C, f, rfl, h2, h3⟩ : Tv w X _ a.t))
  obtain ⟨R, hR⟩ : ∃ R, R = textR a := ⟨_, rfl⟩
  rw [← hR]
  unfold textR at hR
  obtain ⟨n, hn⟩ : ∃ n, n = (normA a).1 := ⟨_, rfl⟩
  obtain ⟨e0, he⟩ : ∃ n, n = (normA a).2 := ⟨_, rfl⟩
  rw [← hn] at hsz hkd hR
  rw [← he] at hR
  simp only [← hn, ← he] at hno
  have hwr := fun (U : World) (X : Nat → Prop) (v : Value) (hU : Ext w U) (hv : Tv U X v n.t) => written_c hv (hsz.2.mono (M := 2 * N) (Nat.le_refl _)) (by omega) (htab.ext hU)
  have htx := fun (U : World) (X : Nat → Prop) (v : Value) (hv : Zi U X v n.d) => ztext_c hv (by have := hsz.1; omega)
  have hil := itoa_len n.d.v
  have hwl := fun (hv : n.t.lb) (hi : ∀ p ∈ vl n.t.ps, i64 p.1) => writtenB_len (l := vl n.t.ps) (k := n.t.k.v) (N := 2 * N) (fun p hp => ⟨zl_vl hv.1 hsz.2.2.1 p hp, hi p hp⟩) (Nat.le_trans (zl_of hv.2) hsz.2.2.2)
  have hvl : (vl n.t.ps).length ≤ 2 * N := by rw [vl_len]; exact hsz.2.1
  have hdl := hsz.1
  obtain ⟨D, c, A, e, C, f, rfl, hk, h1, h2, h3⟩ := h
  have HNO := Lib.hid hno; have HWR := Lib.hid hwr; have HTX := Lib.hid htx; have HR := Lib.hid hR; have HIL := Lib.hid hil; have HWL := Lib.hid hwl
  have HVL := Lib.hid hvl; have HDL := Lib.hid hdl
  clear hno hwr htx hR hil hwl hn he hsz hvl hdl
  go_enter Tryz.func32, Tryz.ntmps32
  go_wp2_with fail
  refine (HNO.out _ xt).mono ?_
  rintro e1 w1 ⟨_, rfl, hA, hx1⟩
  have hA1 := hA.av
  obtain ⟨D1, c1, A1, f1, C1, g1, rfl, hk1, hD, hP, hK⟩ := hA1
  have b1 : Box w1 w.heap.size 29 _ := Box.ext (Box.new w _ _) hx1
  have b1r := b1.rules; have b1l := b1.lt
  have hE1 : Ext w w1 := ((Ext.refl w).alloc _).trans hx1
  go_upto_region 2 with fail
  refine wp_named fun V hV => ?_
  have c1' : Box V w.heap.size 29 #[.int .i64 n.kd, .bool n.d.neg, .slice D1 n.d.mag.length c1, .slice A1 n.t.ps.length f1, .bool n.t.k.neg, .slice C1 n.t.k.mag.length g1] := by rw [hV]; exact (((((b1.set_ 0 _).set_ 1 _).set_ 2 _).set_ 3 _).set_ 4 _).set_ 5 _
  have hE : Ext w V := by rw [hV]; exact (((((hE1.setCell (Nat.le_refl _) _).setCell (Nat.le_refl _) _).setCell (Nat.le_refl _) _).setCell (Nat.le_refl _) _).setCell (Nat.le_refl _) _).setCell (Nat.le_refl _) _
  have kV : Kp (fun b => w.heap.size < b) w1 V := by rw [hV]; exact ((((((Kp.refl w1).setCell (by simp only; omega) _).setCell (by simp only; omega) _).setCell (by simp only; omega) _).setCell (by simp only; omega) _).setCell (by simp only; omega) _).setCell (by simp only; omega) _
  have hD1 : Nl V (fun b => w.heap.size < b) D1 c1 n.d.mag := Nl.keep (hD.widen fun b hb _ => by simp only [wsz] at hb; omega) kV
  have hP1 : Pl V (fun b => w.heap.size < b) A1 f1 n.t.ps := Sl.keep (Sl.widen hP (by omega) fun b hb _ => by simp only [wsz] at hb; omega) kV
  have hK1 : Nl V (fun b => w.heap.size < b) C1 g1 n.t.k.mag := Nl.keep (hK.widen fun b hb _ => by simp only [wsz] at hb; omega) kV
  clear hV b1 b1r b1l hA hD hP hK kV hx1 hE1 HNO
  have c1r := c1'.rules; have c1l := c1'.lt
  have htv : Tv V (fun b => w.heap.size < b) (.agg #[.slice A1 n.t.ps.length f1, .bool n.t.k.neg, .slice C1 n.t.k.mag.length g1]) n.t := ⟨A1, f1, C1, g1, rfl, hP1, hK1⟩
  have hwl := HWL.out htv.lb (pl_i64s hP1)
  have hvl := HVL.out
  have hMM : ((vl n.t.ps).length + 1) * (10 * (2 * N) + 40) ≤ 8388609 * 83886120 := Nat.mul_le_mul (by omega) (by omega)
  obtain ⟨ww, hww⟩ : ∃ x, x = writtenB (vl n.t.ps) n.t.k.v := ⟨_, rfl⟩
  obtain ⟨tt, htt⟩ : ∃ x, x = Lib.itoa n.d.v := ⟨_, rfl⟩
  have hil := HIL.out
  have hdz : zl n.d.v ≤ 2 * N := Nat.le_trans (zl_of hD1.lb) HDL.out
  have hwl2 : ww.length ≤ 1000000000000000 := by rw [hww]; omega
  have htl2 : tt.length ≤ 1000000000000000 := by rw [htt]; omega
  have HR2 := HR.out
  have hwr := HWR.out
  have htx := HTX.out
  unfold textA at HR2
  rw [← hww] at hwr HR2
  rw [← htt] at htx HR2
  have HWR := Lib.hid hwr; have HTX := Lib.hid htx
  clear hww htt hwl hvl hMM hil hdz hwr htx HWL HVL HIL HDL htv
  by_cases he : e0 = 0
  · subst he
    rw [if_pos rfl] at HR2
    rcases hkd with hk0 | hk0 | hk0 | hk0 | hk0
    · rw [hk0] at c1r
      rw [if_pos hk0] at HR2
      subst HR2
      clear c1' hk0 hk1
      go_wp2_with fail
      (refine bodyPost_ret (v := ?_) ?_ rfl ?_; rotate_left; (simp only [results, Tryz.results32]; go_simp; (first | done | with_reducible rfl)))
      exact ⟨rfl, hE⟩
    · rw [hk0] at c1r
      rw [if_neg (by omega), if_pos hk0] at HR2
      subst HR2
      clear c1' hk0 hk1
      go_wp2_with fail
      (refine bodyPost_ret (v := ?_) ?_ rfl ?_; rotate_left; (simp only [results, Tryz.results32]; go_simp; (first | done | with_reducible rfl)))
      exact ⟨rfl, hE⟩
    · rw [hk0] at c1r
      rw [if_neg (by omega), if_neg (by omega), if_pos hk0] at HR2
      have HR3 := Lib.hid HR2
      clear c1' hk0 hk1 HR2
      have hadd : ¬ 9223372036854775807 < 2 + ww.length := by omega
      go_wp2_with fail
      refine (HWR.out _ _ _ hE ⟨A1, f1, C1, g1, rfl, hP1, hK1⟩).mono ?_
      rintro e2 w2 ⟨rfl, hx2⟩
      go_wp2_with fail
      (refine bodyPost_ret (v := ?_) ?_ rfl ?_; rotate_left; (simp only [results, Tryz.results32]; go_simp; (first | done | with_reducible rfl)))
      exact ⟨by rw [HR3.out, ← bs_append], hE.trans hx2⟩
    · rw [hk0] at c1r
      rw [if_neg (by omega), if_neg (by omega), if_neg (by omega), if_pos hk0] at HR2
      have HR3 := Lib.hid HR2
      clear c1' hk0 hk1 HR2
      have hadd : ¬ 9223372036854775807 < tt.length + 1 := by omega
      have hadd2 : ¬ 9223372036854775807 < tt.length + 1 + ww.length := by omega
      go_wp2_with fail
      refine wp_region_seq 8 [(0, true), (1, true), (4, true), (5, true), (2, false), (3, true), (6, false), (7, true), (8, false)] rfl (by kernel_rfl) (by intro _ _ d _ _ h; cases d <;> exact h) ?_
      (repeat (refine sq_take (v := ?_) rfl rfl ?_ ?_; rotate_left; (intro w' hx'; have hc' := hx'.cells.1; (try simp only [wcd] at hc'); go_simp; (first | done | with_reducible rfl)); (try simp only [pt])))
      (refine sq_loud rfl rfl fun K hK => ?_; go_simp)
      refine (HTX.out _ _ _ (⟨D1, c1, rfl, Nl.ext hD1 (Ext.refl V).drew⟩ : Zi V.drew _ (.agg #[.bool n.d.neg, .slice D1 n.d.mag.length c1]) n.d)).mono ?_
      rintro e2 w2 ⟨rfl, hx2⟩
      have hy2 : Ext V w2 := (Ext.refl V).drew.trans hx2
      (refine hK _ _ xt ?_; clear hK K; (try simp only [pt]))
      (repeat (refine sq_take (v := ?_) rfl rfl ?_ ?_; rotate_left; (intro w' hx'; have hc' := hx'.cells.1; (try simp only [wcd] at hc'); go_simp; (first | done | with_reducible rfl)); (try simp only [pt])))
      (refine sq_loud rfl rfl fun K hK => ?_; go_simp)
      refine (HWR.out _ _ _ (hE.trans hy2) (⟨A1, f1, C1, g1, rfl, hP1.ext hy2, Nl.ext hK1 hy2⟩ : Tv w2 (fun b => w.heap.size < b) (.agg #[.slice A1 n.t.ps.length f1, .bool n.t.k.neg, .slice C1 n.t.k.mag.length g1]) n.t)).mono ?_
      rintro e3 w3 ⟨rfl, hx3⟩
      (refine hK _ _ xt ?_; clear hK K; (try simp only [pt]))
      (repeat (refine sq_take (v := ?_) rfl rfl ?_ ?_; rotate_left; (intro w' hx'; have hc' := hx'.cells.1; (try simp only [wcd] at hc'); go_simp; (first | done | with_reducible rfl)); (try simp only [pt])))
      (refine sq_last rfl rfl fun K hK => ?_; go_simp; refine hK _ _ ?_; clear hK K)
      go_wp2_with fail
      (refine bodyPost_ret (v := ?_) ?_ rfl ?_; rotate_left; (simp only [results, Tryz.results32]; go_simp; (first | done | with_reducible rfl)))
      exact ⟨by rw [HR3.out, ← bs_append, ← bs_append], (hE.trans hy2).trans hx3⟩
    · rw [hk0] at c1r
      rw [if_neg (by omega), if_neg (by omega), if_neg (by omega), if_neg (by omega)] at HR2
      have HR3 := Lib.hid HR2
      clear c1' hk0 hk1 HR2
      have hadd : ¬ 9223372036854775807 < tt.length + 1 := by omega
      have hadd2 : ¬ 9223372036854775807 < tt.length + 1 + ww.length := by omega
      go_wp2_with fail
      refine wp_region_seq 8 [(0, true), (1, true), (4, true), (5, true), (2, false), (3, true), (6, false), (7, true), (8, false)] rfl (by kernel_rfl) (by intro _ _ d _ _ h; cases d <;> exact h) ?_
      (repeat (refine sq_take (v := ?_) rfl rfl ?_ ?_; rotate_left; (intro w' hx'; have hc' := hx'.cells.1; (try simp only [wcd] at hc'); go_simp; (first | done | with_reducible rfl)); (try simp only [pt])))
      (refine sq_loud rfl rfl fun K hK => ?_; go_simp)
      refine (HTX.out _ _ _ (⟨D1, c1, rfl, Nl.ext hD1 (Ext.refl V).drew⟩ : Zi V.drew _ (.agg #[.bool n.d.neg, .slice D1 n.d.mag.length c1]) n.d)).mono ?_
      rintro e2 w2 ⟨rfl, hx2⟩
      have hy2 : Ext V w2 := (Ext.refl V).drew.trans hx2
      (refine hK _ _ xt ?_; clear hK K; (try simp only [pt]))
      (repeat (refine sq_take (v := ?_) rfl rfl ?_ ?_; rotate_left; (intro w' hx'; have hc' := hx'.cells.1; (try simp only [wcd] at hc'); go_simp; (first | done | with_reducible rfl)); (try simp only [pt])))
      (refine sq_loud rfl rfl fun K hK => ?_; go_simp)
      refine (HWR.out _ _ _ (hE.trans hy2) (⟨A1, f1, C1, g1, rfl, hP1.ext hy2, Nl.ext hK1 hy2⟩ : Tv w2 (fun b => w.heap.size < b) (.agg #[.slice A1 n.t.ps.length f1, .bool n.t.k.neg, .slice C1 n.t.k.mag.length g1]) n.t)).mono ?_
      rintro e3 w3 ⟨rfl, hx3⟩
      (refine hK _ _ xt ?_; clear hK K; (try simp only [pt]))
      (repeat (refine sq_take (v := ?_) rfl rfl ?_ ?_; rotate_left; (intro w' hx'; have hc' := hx'.cells.1; (try simp only [wcd] at hc'); go_simp; (first | done | with_reducible rfl)); (try simp only [pt])))
      (refine sq_last rfl rfl fun K hK => ?_; go_simp; refine hK _ _ ?_; clear hK K)
      go_wp2_with fail
      (refine bodyPost_ret (v := ?_) ?_ rfl ?_; rotate_left; (simp only [results, Tryz.results32]; go_simp; (first | done | with_reducible rfl)))
      exact ⟨by rw [HR3.out, ← bs_append, ← bs_append], (hE.trans hy2).trans hx3⟩
  · have he2 : (e0 == 0) = false := by rw [beq_eq_false_iff_ne]; exact he
    rw [if_neg he] at HR2
    subst HR2
    go_wp2_with fail
    (refine bodyPost_ret (v := ?_) ?_ rfl ?_; rotate_left; (simp only [results, Tryz.results32]; go_simp; (first | done | with_reducible rfl)))
    exact ⟨rfl, hE⟩

end Go.Proofs.YthmjgbkakjpfkaaGreatDoor

namespace Go.Proofs.YthmjgbkakjpfkaaGreatDoor
open Go.RowKit

theorem a6_t1 : ct (sc (cz 4).v (vl (ct [(0, 1)] 0).ps)) ((cz 4).v * (ct [(0, 1)] 0).k.v) = ct [(0, 4)] 0 := by kernel_rfl
theorem a6_t2 : ct (sc (cz 2).v (vl (ct [(1, 1)] 0).ps)) ((cz 2).v * (ct [(1, 1)] 0).k.v) = ct [(1, 2)] 0 := by kernel_rfl
theorem a6_t3 : ct (vl (ct [(1, 2)] 0).ps ++ vl (ct [] (cz 3).v).ps) ((ct [(1, 2)] 0).k.v + (ct [] (cz 3).v).k.v) = ct [(1, 2)] 3 := by kernel_rfl
theorem a6_d : partedR (cz (-6)).v (vl (ct [(0, 4)] 0).ps) (ct [(0, 4)] 0).k.v false = (⟨3, cz 3, ct [(0, 1)] 0⟩, 0) := by kernel_rfl
theorem a6_l : lessA (vl (ct [(1, 2)] 3).ps) (ct [(1, 2)] 3).k.v = ⟨2, cz 0, ct [(1, 1)] 2⟩ := by kernel_rfl
theorem a6_n1 : normA ⟨3, cz 3, ct [(0, 1)] 0⟩ = (⟨3, cz 3, ct [(0, 1)] 0⟩, 0) := by kernel_rfl
theorem a6_n2 : normA ⟨2, cz 0, ct [(1, 1)] 2⟩ = (⟨2, cz 0, ct [(1, 1)] 2⟩, 0) := by kernel_rfl
theorem itoa_dig {n : Nat} (h : n < 10) : Lib.itoa (n : Int) = [UInt8.ofNat (48 + n)] := by rw [Lib.itoa_nonneg, Lib.decDigits_one h]
theorem a6_x1 : textR ⟨3, cz 3, ct [(0, 1)] 0⟩ = [51, 124, 118, 48] := by
  unfold textR
  rw [a6_n1]
  have e1 : (cz 3).v = 3 := cz_v 3
  have e2 : vl (ct [(0, 1)] 0).ps = [(0, 1)] := by kernel_rfl
  have e3 : (ct [(0, 1)] 0).k.v = 0 := cz_v 0
  have i3 : Lib.itoa 3 = [51] := itoa_dig (n := 3) (by decide)
  have i1 : Lib.itoa 1 = [49] := itoa_dig (n := 1) (by decide)
  have i0 : Lib.itoa 0 = [48] := itoa_dig (n := 0) (by decide)
  unfold textA
  simp only [e1, e2, e3]
  unfold writtenB
  simp [partB, signB, i3, i1, i0]
theorem a6_x2 : textR ⟨2, cz 0, ct [(1, 1)] 2⟩ = [48, 60, 118, 49, 43, 50] := by
  unfold textR
  rw [a6_n2]
  have e2 : vl (ct [(1, 1)] 2).ps = [(1, 1)] := by kernel_rfl
  have e3 : (ct [(1, 1)] 2).k.v = 2 := cz_v 2
  have i2 : Lib.itoa 2 = [50] := itoa_dig (n := 2) (by decide)
  have i1 : Lib.itoa 1 = [49] := itoa_dig (n := 1) (by decide)
  unfold textA
  simp only [e2, e3]
  unfold writtenB
  simp [partB, signB, i2, i1]
theorem a6_sz (l : List (Int × Int)) (k : Int) (hl : l.length ≤ 2) (hc : ∀ p ∈ l, zl p.2 ≤ 2) (hk : zl k ≤ 2) : (ct l k).sz 4 := ct_sz (N := 2) (M := 2) hl hc (by omega)

set_option maxHeartbeats 6400000 in
theorem awake6_c (w : World) (htab : Tab w) : Calls Tryz.prog 10 #[] w fun e w' => e = .returned (.bool true) ∧ Ext w w' := by
  have hdiv := fun (U : World) (X Y : Nat → Prop) (u v : Value) (hu : Zi U X u (cz (-6))) (hv : Tv U Y v (ct [(0, 4)] 0)) => adiv_c (N := 4) hu hv (by decide) (a6_sz _ _ (by decide) (by simp; decide) (by decide)) (by omega) (by omega)
  rw [a6_d] at hdiv
  have hls := fun (U : World) (Y : Nat → Prop) (v : Value) (hv : Tv U Y v (ct [(1, 2)] 3)) => aless_c (N := 4) hv (a6_sz _ _ (by decide) (by simp; decide) (by decide)) (by omega)
  rw [a6_l] at hls
  have htx1 := fun (U : World) (Y : Nat → Prop) (v : Value) (hU : Ext w U) (hv : Av U Y v ⟨3, cz 3, ct [(0, 1)] 0⟩) => atext_c (N := 4) hv ⟨by decide, a6_sz _ _ (by decide) (by simp; decide) (by decide)⟩ (by omega) (by omega) (htab.ext hU)
  rw [a6_x1] at htx1
  have htx2 := fun (U : World) (Y : Nat → Prop) (v : Value) (hU : Ext w U) (hv : Av U Y v ⟨2, cz 0, ct [(1, 1)] 2⟩) => atext_c (N := 4) hv ⟨by decide, a6_sz _ _ (by decide) (by simp; decide) (by decide)⟩ (by omega) (by omega) (htab.ext hU)
  rw [a6_x2] at htx2
  have hs1 := fun (U : World) (X Y : Nat → Prop) (u v : Value) (hu : Zi U X u (cz 4)) (hv : Tv U Y v (ct [(0, 1)] 0)) => tscale_c (N := 4) hu hv (by omega) (by decide) (a6_sz _ _ (by decide) (by simp; decide) (by decide))
  rw [a6_t1] at hs1
  have hs2 := fun (U : World) (X Y : Nat → Prop) (u v : Value) (hu : Zi U X u (cz 2)) (hv : Tv U Y v (ct [(1, 1)] 0)) => tscale_c (N := 4) hu hv (by omega) (by decide) (a6_sz _ _ (by decide) (by simp; decide) (by decide))
  rw [a6_t2] at hs2
  have had := fun (U : World) (X Y : Nat → Prop) (u v : Value) (hu : Tv U X u (ct [(1, 2)] 0)) (hv : Tv U Y v (ct [] (cz 3).v)) => tadd_c (N := 4) hu hv (by omega) (by omega) (a6_sz _ _ (by decide) (by simp; decide) (by decide)) (a6_sz _ _ (by decide) (by simp) (by decide))
  rw [a6_t3] at had
  obtain ⟨n1, hn1⟩ : ∃ n, n = (⟨3, cz 3, ct [(0, 1)] 0⟩ : Ar) := ⟨_, rfl⟩
  obtain ⟨n2, hn2⟩ : ∃ n, n = (⟨2, cz 0, ct [(1, 1)] 2⟩ : Ar) := ⟨_, rfl⟩
  simp only [← hn1] at hdiv htx1
  simp only [← hn2] at hls htx2
  have HD := Lib.hid hdiv; have HL := Lib.hid hls; have HT1 := Lib.hid htx1; have HT2 := Lib.hid htx2; have HS1 := Lib.hid hs1; have HS2 := Lib.hid hs2; have HA := Lib.hid had
  clear hdiv hls htx1 htx2 hs1 hs2 had hn1 hn2
  go_enter Tryz.func10, Tryz.ntmps10
  go_wp2_with fail
  refine (zof_c (-6) (by omega) (by omega) _).mono ?_
  rintro e w1 ⟨r1, rfl, hz1, hx1⟩
  go_wp2_with fail
  refine (zof_c 4 (by omega) (by omega) _).mono ?_
  rintro e w2 ⟨r2, rfl, hz2, hx2⟩
  go_wp2_with fail
  refine (tvar_c (x := 0) ⟨by omega, by omega⟩).mono ?_
  rintro e w3 ⟨r3, rfl, ht3, hx3⟩
  go_wp2_with fail
  refine (HS1.out _ _ _ _ _ (hz2.ext hx3) ht3).mono ?_
  rintro e w4 ⟨r4, rfl, ht4, hx4⟩
  have hE4 : Ext w w4 := xt
  go_wp2_with fail
  refine (HD.out _ _ _ _ _ (((hz1.ext hx2).ext hx3).ext hx4) ht4).mono ?_
  rintro e w5 ⟨r5, rfl, hA5, hx5⟩
  have hE5 := hE4.trans hx5
  clear hx1 hx2 hx3 hx4 hx5 hz1 hz2 ht3 ht4 hE4 HD HS1
  have hv5 := hA5.av
  obtain ⟨D1, c1, A1, f1, C1, g1, rfl, hk1, hD, hP, hK⟩ := hv5
  go_upto_region 2 with fail
  refine wp_named fun V hV => ?_
  obtain ⟨g, hg⟩ : ∃ g, g = w5.heap.size := ⟨_, rfl⟩
  have b1 : Box V g 29 #[.int .i64 n1.kd, .bool n1.d.neg, .slice D1 n1.d.mag.length c1, .slice A1 n1.t.ps.length f1, .bool n1.t.k.neg, .slice C1 n1.t.k.mag.length g1] := by rw [hV, hg]; exact Box.new _ _ _
  have hE : Ext w V := by rw [hV]; exact hE5.alloc _
  have hx5 : Ext w5 V := by rw [hV]; exact (Ext.refl w5).alloc _
  have hA1 : Av V _ (.agg #[.int .i64 n1.kd, .bool n1.d.neg, .slice D1 n1.d.mag.length c1, .slice A1 n1.t.ps.length f1, .bool n1.t.k.neg, .slice C1 n1.t.k.mag.length g1]) n1 := (⟨D1, c1, A1, f1, C1, g1, rfl, hk1, Nl.ext hD hx5, hP.ext hx5, Nl.ext hK hx5⟩ : Av V (w4.heap.size ≤ ·) _ n1)
  rw [← hg]
  clear hV hg hA5 hE5 hx5 hD hP hK
  go_wp2_with fail
  refine (zof_c 2 (by omega) (by omega) _).mono ?_
  rintro e v1 ⟨r1, rfl, hz1, hx1⟩
  go_wp2_with fail
  refine (tvar_c (x := 1) ⟨by omega, by omega⟩).mono ?_
  rintro e v2 ⟨r2, rfl, ht2, hx2⟩
  go_wp2_with fail
  refine (HS2.out _ _ _ _ _ (hz1.ext hx2) ht2).mono ?_
  rintro e v3 ⟨r3, rfl, ht3, hx3⟩
  go_wp2_with fail
  refine (zof_c 3 (by omega) (by omega) _).mono ?_
  rintro e v4 ⟨r4, rfl, hz4, hx4⟩
  go_wp2_with fail
  refine (tconst_c hz4 (by decide)).mono ?_
  rintro e v5 ⟨r5, rfl, ht5, hx5⟩
  go_wp2_with fail
  refine (HA.out _ _ _ _ _ ((ht3.ext hx4).ext hx5) ht5).mono ?_
  rintro e v6 ⟨r6, rfl, ht6, hx6⟩
  go_wp2_with fail
  refine (HL.out _ _ _ ht6).mono ?_
  rintro e v7 ⟨r7, rfl, hA7, hx7⟩
  have hx07 : Ext V v7 := xt
  clear hx1 hx2 hx3 hx4 hx5 hx6 hx7 hz1 ht2 ht3 hz4 ht5 ht6 HA HL HS2
  have hv7 := hA7.av
  obtain ⟨D2, c2, A2, f2, C2, g2, rfl, hk2, hD, hP, hK⟩ := hv7
  go_upto_region 3 with fail
  refine wp_named fun W hW => ?_
  obtain ⟨g', hg⟩ : ∃ g, g = v7.heap.size := ⟨_, rfl⟩
  have b2 : Box W g' 29 #[.int .i64 n2.kd, .bool n2.d.neg, .slice D2 n2.d.mag.length c2, .slice A2 n2.t.ps.length f2, .bool n2.t.k.neg, .slice C2 n2.t.k.mag.length g2] := by rw [hW, hg]; exact Box.new _ _ _
  have hxW : Ext V W := by rw [hW]; exact hx07.alloc _
  have hx7 : Ext v7 W := by rw [hW]; exact (Ext.refl v7).alloc _
  have hA2 : Av W _ (.agg #[.int .i64 n2.kd, .bool n2.d.neg, .slice D2 n2.d.mag.length c2, .slice A2 n2.t.ps.length f2, .bool n2.t.k.neg, .slice C2 n2.t.k.mag.length g2]) n2 := (⟨D2, c2, A2, f2, C2, g2, rfl, hk2, Nl.ext hD hx7, hP.ext hx7, Nl.ext hK hx7⟩ : Av W (v6.heap.size ≤ ·) _ n2)
  have a1 := b1.ext hxW
  have hA1 := hA1.ext hxW
  rw [← hg]
  clear hW hg hA7 hx07 hx7 hD hP hK b1
  have a1r := a1.rules; have a1l := a1.lt
  have hEW := hE.trans hxW
  go_wp2_with fail
  refine (HT1.out _ _ _ hEW hA1).mono ?_
  rintro e u1 ⟨rfl, hx1⟩
  have b22 := b2.ext hx1
  have b2r := b22.rules; have b2l := b22.lt
  go_wp2_with fail
  refine (HT2.out _ _ _ (hEW.trans hx1) (hA2.ext hx1)).mono ?_
  rintro e u2 ⟨rfl, hx2⟩
  go_wp2_with fail
  (refine bodyPost_ret (v := ?_) ?_ rfl ?_; rotate_left; (simp only [results, Tryz.results10]; go_simp; (first | done | with_reducible rfl)))
  exact ⟨rfl, (hEW.trans hx1).trans hx2⟩

end Go.Proofs.YthmjgbkakjpfkaaGreatDoor
