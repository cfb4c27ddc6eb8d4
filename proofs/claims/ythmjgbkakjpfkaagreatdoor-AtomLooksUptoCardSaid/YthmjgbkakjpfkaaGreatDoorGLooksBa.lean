/- atom.Less. No conditions. atom.parted: a divisibility, or its opposite: its end. No conditions. atom.parted: a divisibility, or its opposite: behind the switch. No conditions. -/
import Derived.Test.YthmjgbkakjpfkaaGreatDoorGLooksAz
import Derived.Laws.EntriesVeiled
import Derived.Test.YthmjgbkakjpfkaaGreatDoorGLooksAy
import Derived.Test.YthmjgbkakjpfkaaGreatDoorGLooksAw
import Derived.Test.YthmjgbkakjpfkaaGreatDoorGLooksBb
namespace Go.Proofs.YthmjgbkakjpfkaaGreatDoor
open Go.RowKit

set_option maxHeartbeats 1600000 in
theorem lessf_c {g3 N : Nat} {n : FuncId} {a : Addr} {F : Int → Int} {w : World} (hb : Box w g3 34 #[.func (.func n) #[] #[.pointer (some a)]]) (hf : Fz w n a (N + 2) F) (hN : N ≤ 1099511627700) (hF : ∀ x, zl x ≤ N + 2 → zl (F x) ≤ N + 2) :
    Fz w 61 ⟨g3, 0, none⟩ N (fun k => F (k - 1) + 1) := by
  refine ⟨fun args W => by go_simp, ?_⟩
  intro W hW v x Y hx hxl
  have hxz : zl x.v ≤ N := Nat.le_trans (zl_of hx.lb) hxl
  obtain ⟨A, a', rfl, hx⟩ := hx
  have hen := hf.1
  have b1 := hb.ext hW
  obtain ⟨z1, hz1⟩ : ∃ z, z = cz 1 := ⟨_, rfl⟩
  have hof := fun (U : World) => zof_c 1 (by omega) (by omega) U
  rw [← hz1] at hof
  have hz1l : z1.mag.length ≤ 1 := by rw [hz1]; decide
  have hz1v : z1.v = 1 := by rw [hz1, cz_v]
  have l1 : zl (1 : Int) ≤ N + 1 := Nat.le_trans (show zl 1 ≤ 1 by decide) (by omega)
  obtain ⟨y, hy⟩ : ∃ y, y = cz (x.v - 1) := ⟨_, rfl⟩
  have hyl : y.mag.length ≤ N + 2 := by rw [hy, cz_len]; have := zl_sub (k := N + 1) (show zl x.v ≤ N + 1 by omega) l1; omega
  have hyv : y.v = x.v - 1 := by rw [hy, cz_v]
  obtain ⟨u, hu⟩ : ∃ y, y = cz (F (x.v - 1)) := ⟨_, rfl⟩
  have hul : u.mag.length ≤ N + 2 := by rw [hu, cz_len]; exact hF _ (by rw [← hyv]; have := zl_of (z := y) (by rw [hy]; exact lb_lim _); omega)
  obtain ⟨s, hs⟩ : ∃ y, y = cz (F (x.v - 1) + 1) := ⟨_, rfl⟩
  have hsu := fun (U : World) (hU : Ext W U) (Q : Nat → Prop) (r : Value) (hr : Zi U Q r z1) => zsub_c (⟨A, a', rfl, hx.ext hU⟩ : Zi U Y (.agg #[.bool x.neg, .slice A x.mag.length a']) x) hr (by omega) (by omega)
  rw [hz1v, ← hy] at hsu
  have hcu := fun (U : World) (hU : Ext W U) (Q : Nat → Prop) (r : Value) (hr : Zi U Q r y) => hf.2 U (hW.trans hU) _ _ _ hr hyl
  rw [hyv, ← hu] at hcu
  have had := fun (U : World) (Q Q' : Nat → Prop) (r r' : Value) (hr : Zi U Q r u) (hr' : Zi U Q' r' z1) => zadd_c hr hr' (by omega) (by omega)
  rw [hz1v, hu, cz_v, ← hs, ← hu] at had
  have HO := Lib.hid hof; have HS := Lib.hid hsu; have HC := Lib.hid hcu; have HA := Lib.hid had; have HSS := Lib.hid hs
  clear hof hsu hcu had hs hu hy hyv hz1v hz1 hul hyl hz1l hxz l1 hf
  show Calls _ _ _ W fun e w' => ∃ r, e = .returned r ∧ Zi w' (W.heap.size ≤ ·) r (cz (F (x.v - 1) + 1)) ∧ Ext W w'
  rw [← HSS.out]
  have b1r := b1.rules; have b1l := b1.lt
  go_enter Tryz.func61, Tryz.ntmps61
  go_upto_region 1 with fail
  refine wp_named fun V hV => ?_
  have b2 : Box V W.heap.size 24 #[.bool x.neg, .slice A x.mag.length a'] := by rw [hV]; exact bxt
  have b3 : Box V (W.heap.size + 1) 24 #[.bool false, .slice none 0 0] := by rw [hV]; exact bxt
  have hE : Ext W V := by rw [hV]; exact xt
  clear hV
  have d1 := b1.ext hE
  have d1r := d1.rules; have d1l := d1.lt
  have b2r := b2.rules; have b2l := b2.lt
  clear b1r b1l
  refine wp_region_seq 7 [(0, true), (1, true), (2, false), (3, false), (4, false), (5, false), (6, false), (7, false)] rfl (by kernel_rfl) (by intro _ _ d _ _ h; cases d <;> exact h) ?_
  (repeat (refine sq_take (v := ?_) rfl rfl ?_ ?_; rotate_left; (intro w' hx'; have hc' := hx'.cells.1; (try simp only [wcd] at hc'); go_simp; (first | done | with_reducible rfl)); (try simp only [pt])))
  (refine sq_loud rfl rfl fun K hK => ?_; go_simp)
  refine (HO.out _).mono ?_
  rintro e w1 ⟨r1, rfl, hr1, hx1⟩
  have hy1 : Ext V w1 := xt
  (refine hK _ _ xt ?_; clear hK K; (try simp only [pt]))
  (refine sq_loud rfl rfl fun K hK => ?_; go_simp)
  refine (HS.out _ (hE.trans hy1) _ _ hr1).mono ?_
  rintro e w2 ⟨r2, rfl, hr2, hx2⟩
  have hy2 := hy1.trans hx2
  (refine hK _ _ xt ?_; clear hK K; (try simp only [pt]))
  (refine sq_loud rfl rfl fun K hK => ?_; go_simp)
  refine (HC.out _ (hE.trans hy2) _ _ hr2).mono ?_
  rintro e w3 ⟨r3, rfl, hr3, hx3⟩
  have hy3 := hy2.trans hx3
  (refine hK _ _ xt ?_; clear hK K; (try simp only [pt]))
  (refine sq_loud rfl rfl fun K hK => ?_; go_simp)
  refine (HO.out _).mono ?_
  rintro e w4 ⟨r4, rfl, hr4, hx4⟩
  have hy4 := hy3.trans hx4
  (refine hK _ _ xt ?_; clear hK K; (try simp only [pt]))
  (refine sq_loud rfl rfl fun K hK => ?_; go_simp)
  refine (HA.out _ _ _ _ _ (hr3.ext hx4) hr4).mono ?_
  rintro e w5 ⟨_, rfl, ⟨A5, c5, rfl, h5⟩, hx5⟩
  have hy5 := hy4.trans hx5
  have d3 := b3.ext hy5
  have d3r := d3.rules; have d3l := d3.lt
  have hs4 := hy4.size
  have b3l := b3.lt
  clear d1r d1l b2r b2l
  (refine hK _ _ xt ?_; clear hK K; (try simp only [pt]))
  (refine sq_last rfl rfl fun K hK => ?_; go_simp; refine hK _ _ ?_; clear hK K)
  go_wp2_with fail
  (refine bodyPost_ret (v := ?_) ?_ rfl ?_; rotate_left; (simp only [results, Tryz.results61]; go_simp; (first | done | with_reducible rfl)))
  refine ⟨_, rfl, ⟨A5, c5, rfl, Nl.widen (X := fun b => W.heap.size + 1 < b) (Nl.keep (h5.widen fun b hb _ => ?_) ?_) fun b hb _ => ?_⟩, ?_⟩
  · have h : w4.heap.size ≤ b := hb
    omega
  · exact kpt
  · have h : W.heap.size + 1 < b := hb
    omega
  · have hE5 := hE.trans hy5
    exact xt

theorem gcdL_div : ∀ (l : List Int) (g : Nat), (∀ x ∈ l, (l.foldl (fun g x => Nat.gcd g x.natAbs) g : Nat) ∣ x.natAbs) ∧ (l.foldl (fun g x => Nat.gcd g x.natAbs) g : Nat) ∣ g
  | [], g => ⟨fun x h => absurd h (by simp), Nat.dvd_refl _⟩
  | y :: r, g => by
    obtain ⟨h1, h2⟩ := gcdL_div r (Nat.gcd g y.natAbs)
    refine ⟨fun x hx => ?_, Nat.dvd_trans h2 (Nat.gcd_dvd_left _ _)⟩
    rcases List.mem_cons.1 hx with rfl | hx
    · exact Nat.dvd_trans h2 (Nat.gcd_dvd_right _ _)
    · exact h1 x hx
theorem gcdL_dvd {l : List Int} {x : Int} (h : x ∈ l) : ((gcdL l : Nat) : Int) ∣ x := by
  have := (gcdL_div l 0).1 x h
  exact Int.ofNat_dvd_left.2 this
theorem gcdL_pos {l : List Int} {x : Int} (h : x ∈ l) (h0 : x ≠ 0) : 0 < gcdL l := by
  rcases Nat.eq_zero_or_pos (gcdL l) with e | e
  · have := gcdL_dvd h
    rw [e] at this
    exact absurd (Int.zero_dvd.1 this) h0
  · exact e
theorem gcdL_le {l : List Int} {x : Int} (h : x ∈ l) (h0 : x ≠ 0) : gcdL l ≤ x.natAbs :=
  Nat.le_of_dvd (by omega) (Int.ofNat_dvd_left.1 (gcdL_dvd h))
theorem fdiv_zl {x d : Int} {N : Nat} (hd : 0 < d) (h : zl x ≤ N) : zl (x.fdiv d) ≤ N := by
  refine Nat.le_trans (zl_mono ?_) h
  rw [Int.fdiv_eq_ediv_of_nonneg x (by omega)]
  have h1 := Int.mul_ediv_add_emod x d
  have h2 := Int.emod_nonneg x (show d ≠ 0 by omega)
  have h3 := Int.emod_lt_of_pos x hd
  rcases Int.lt_or_le x 0 with hx | hx
  · have h4 : x ≤ x / d := by
      rcases Int.lt_or_le (x / d) 0 with h5 | h5
      · have h6 : d * (x / d) ≤ 1 * (x / d) := Int.mul_le_mul_of_nonpos_right (by omega) (by omega)
        by_cases h7 : x % d = 0
        · omega
        · have h8 : (d - 1) * (x / d + 1) ≤ 0 := Int.mul_nonpos_of_nonneg_of_nonpos (by omega) (by omega)
          rw [Int.mul_add, Int.sub_mul] at h8
          omega
      · omega
    have h9 : x / d < 0 := Int.ediv_neg_of_neg_of_pos hx hd
    omega
  · have h4 : 0 ≤ x / d := Int.ediv_nonneg hx (by omega)
    have h5 : x / d ≤ x := Int.ediv_le_self d hx
    omega
theorem fmod_zl {x d : Int} {N : Nat} (hd : 0 < d) (h : zl d ≤ N) : zl (x.fmod d) ≤ N := by
  refine Nat.le_trans (zl_mono ?_) h
  have h1 := Int.fmod_nonneg_of_pos x hd
  have h2 := Int.fmod_lt_of_pos x hd
  omega

theorem Fz.le {w : World} {n : FuncId} {a : Addr} {N M : Nat} {F : Int → Int} (h : Fz w n a M F) (k : N ≤ M) : Fz w n a N F := ⟨h.1, fun W hW v x Y hx hl => h.2 W hW v x Y hx (Nat.le_trans hl k)⟩
theorem cl_snd (m : List (Int × Int)) : ((cl m).map Prod.snd).map Z.v = m.map Prod.snd := by
  simp only [cl, List.map_map]
  apply List.map_congr_left
  intro p _
  simp [Function.comp, cz_v]
theorem nf_ps (t : T) : t.nf.ps = cl (cn (vl t.ps)) := rfl
theorem nf_k (t : T) : t.nf.k = cz t.k.v := rfl

set_option maxRecDepth 100000 in
set_option maxHeartbeats 3200000 in
theorem aless_c {v : Value} {t : T} {w : World} {X : Nat → Prop} {N : Nat} (h : Tv w X v t) (hs : t.sz N) (hN : N ≤ 1073741824) :
    Calls Tryz.prog 19 #[v] w fun e w' => ∃ r, e = .returned r ∧ AvF w' w.heap.size r (lessA (vl t.ps) t.k.v) ∧ Ext w w' := by
  have hlb := h.lb
  have hns := nf_sz hs hlb
  have hnk : t.nf.k.v = t.k.v := by rw [nf_k, cz_v]
  have hnp : vl t.nf.ps = cn (vl t.ps) := by rw [nf_ps, vl_cl]
  have hnl : t.nf.ps.length = (cn (vl t.ps)).length := by rw [nf_ps, cl_len]
  have hnc : (t.nf.ps.map Prod.snd).map Z.v = (cn (vl t.ps)).map Prod.snd := by rw [nf_ps, cl_snd]
  have hcan := canon_cn (vl t.ps)
  have hnlb : t.nf.lb := ct_lb _ _
  have hno := fun (U : World) (hU : Ext w U) => tnorm_f (h.ext hU) (show N ≤ 17179869184 by omega) hs
  unfold lessA
  obtain ⟨l, hl⟩ : ∃ l, l = cn (vl t.ps) := ⟨_, rfl⟩
  rw [← hl] at hnp hnl hnc hcan ⊢
  rw [← hnk]
  obtain ⟨n, hn⟩ : ∃ n, n = t.nf := ⟨_, rfl⟩
  rw [← hn] at hns hnp hnl hnc hnlb ⊢
  simp only [← hn] at hno
  obtain ⟨s1, s2, s3⟩ := hns
  obtain ⟨A, c, B, d, rfl, h1, h2⟩ := h
  have HNO := Lib.hid hno; have HNP := Lib.hid hnp; have HNC := Lib.hid hnc; have HL := Lib.hid hnl
  obtain ⟨R, hR⟩ : ∃ R, R = (if l.length = 0 then constA (decide (0 < n.k.v)) else (⟨2, cz 0, ct (fm (·.fdiv (gcdL (l.map Prod.snd))) l) ((n.k.v - 1).fdiv (gcdL (l.map Prod.snd)) + 1)⟩ : Ar)) := ⟨_, rfl⟩
  rw [← hR]
  have HR := Lib.hid hR
  clear hno hnp hnc hl hn hnk hs hlb hR hnl
  go_enter Tryz.func19, Tryz.ntmps19
  go_wp2_with fail
  refine (HNO.out _ xt).mono ?_
  rintro e w1 ⟨_, rfl, hT, hx1⟩
  have b1 : Box w1 w.heap.size 27 #[.slice A t.ps.length c, .bool t.k.neg, .slice B t.k.mag.length d] := Box.ext ((Box.new w _ _).alloc _) hx1
  have b2 : Box w1 (w.heap.size + 1) 29 #[.int .i64 0, .bool false, .slice none 0 0, .slice none 0 0, .bool false, .slice none 0 0] := Box.ext (Box.new_at _ _ _ (by simp only [wsz])) hx1
  have hE1 : Ext w w1 := ((Ext.refl w).alloc _ |>.alloc _).trans hx1
  have hs1 := hx1.size
  simp only [wsz] at hs1
  have b1r := b1.rules; have b1l := b1.lt
  obtain ⟨A1, c1, C1, d1, rfl, hP0, hK0⟩ := hT.tv
  clear hT
  go_upto_region 2 with fail
  refine wp_named fun W hW => ?_
  have c1' : Box W w.heap.size 27 #[.slice A1 n.ps.length c1, .bool n.k.neg, .slice C1 n.k.mag.length d1] := by rw [hW]; exact ((b1.set_ 0 _).set_ 1 _).set_ 2 _
  have c2' : Box W (w.heap.size + 1) 29 #[.int .i64 0, .bool false, .slice none 0 0, .slice none 0 0, .bool false, .slice none 0 0] := by rw [hW]; exact ((b2.far (by simp only; omega) _).far (by simp only; omega) _).far (by simp only; omega) _
  have hE : Ext w W := by rw [hW]; exact ((hE1.setCell (Nat.le_refl _) _).setCell (Nat.le_refl _) _).setCell (Nat.le_refl _) _
  have hsW : w.heap.size + 2 ≤ W.heap.size := by rw [hW]; simp only [wsz]; omega
  have kW : Kp (fun b => w.heap.size + 2 ≤ b) w1 W := by rw [hW]; exact (((Kp.refl w1).setCell (by simp only; omega) _).setCell (by simp only; omega) _).setCell (by simp only; omega) _
  have hP1 : Pl W (fun b => w.heap.size + 2 ≤ b) A1 c1 n.ps := (hP0.widen fun b hb _ => by simp only [wsz] at hb; omega).keep kW
  have hK1 : Nl W (fun b => w.heap.size + 2 ≤ b) C1 d1 n.k.mag := (hK0.widen fun b hb _ => by simp only [wsz] at hb; omega).keep kW
  clear hW b1 b2 b1r b1l hP0 hK0 kW hx1 hE1 hs1
  have c1r := c1'.rules; have c1l := c1'.lt
  obtain ⟨ln, hln⟩ : ∃ x, x = n.ps.length := ⟨_, rfl⟩
  have HLN := Lib.hid hln
  by_cases h0 : l.length = 0
  · have h00 : ln = 0 := by rw [hln, HL.out, h0]
    rw [← hln, h00] at c1' c1r
    have hR0 := HR.out
    rw [if_pos h0] at hR0
    obtain ⟨b, hb⟩ : ∃ b, b = decide (0 < n.k.v) := ⟨_, rfl⟩
    rw [← hb] at hR0
    subst hR0
    have hsg := fun (U : World) (hU : Ext W U) => zsign_c (⟨C1, d1, rfl, hK1.ext hU⟩ : Zi U _ (.agg #[.bool n.k.neg, .slice C1 n.k.mag.length d1]) n.k)
    obtain ⟨sg, hsgd⟩ : ∃ s, s = sgn n.k.v := ⟨_, rfl⟩
    simp only [← hsgd] at hsg
    have hbs : decide (sg > 0) = b := by rw [hb, hsgd]; exact decide_eq_decide.2 cmpI_pos
    have hbs2 : decide (0 < sg) = b := hbs
    have HS := Lib.hid hsg
    clear hsg hsgd hb hln h00 h0
    go_wp2_with fail
    refine (HS.out _ xt).mono ?_
    rintro e w2 ⟨rfl, hx2⟩
    go_wp2_with fail
    refine (truth_c b _).mono ?_
    rintro e w3 ⟨_, rfl, hA, hx3⟩
    have hx23 : Ext W w3 := xt
    have d2 := c2'.ext hx23
    have d2r := d2.rules; have d2l := d2.lt
    have hs2 := hx2.size; have hs3 := hx23.size
    have hA0 := hA
    obtain ⟨D3, e3, A3, f3, C3, g3, rfl, -⟩ := hA
    clear c1r c1l
    go_wp2_with fail
    (refine bodyPost_ret (v := ?_) ?_ rfl ?_; rotate_left; (simp only [results, Tryz.results19]; go_simp; (first | done | with_reducible rfl)))
    have hEs := hE.trans hx23
    refine ⟨_, rfl, (hA0.keep ?_).lower ?_, xt⟩
    · exact kpt
    · omega
  · have hne : n.ps.length ≠ 0 := by rw [HL.out]; exact h0
    have n0 : ((n.ps.length : Int) == 0) = false := by rw [beq_eq_false_iff_ne]; omega
    have n1 : decide ((n.ps.length : Int) = 0) = false := decide_eq_false (by omega)
    have hR0 := HR.out
    rw [if_neg h0] at hR0
    obtain ⟨g, hg⟩ : ∃ g, g = gcdL (l.map Prod.snd) := ⟨_, rfl⟩
    rw [← hg] at hR0
    have hg0 : 0 < g := by
      obtain ⟨p, hp⟩ : ∃ p, p ∈ l := by
        cases hl : l with
        | nil => rw [hl] at h0; exact absurd rfl h0
        | cons p r => exact ⟨p, by simp⟩
      rw [hg]
      exact gcdL_pos (List.mem_map.2 ⟨p, hp, rfl⟩) (hcan.2 p hp)
    have hLb : ∀ z ∈ n.ps.map Prod.snd, z.mag.length ≤ N + N ∧ zl z.v ≤ N + N := fun z hz => by
      obtain ⟨q, hq, rfl⟩ := List.mem_map.1 hz
      exact ⟨s2 q hq, Nat.le_trans (zl_of (hnlb.1 q hq)) (s2 q hq)⟩
    have hco := coefs_c (⟨A1, c1, C1, d1, rfl, hP1, hK1⟩ : Tv W _ (.agg #[.slice A1 n.ps.length c1, .bool n.k.neg, .slice C1 n.k.mag.length d1]) n) (by omega)
    obtain ⟨L, hL⟩ : ∃ L, L = n.ps.map Prod.snd := ⟨_, rfl⟩
    have hLn : L.length = n.ps.length := by rw [hL, List.length_map]
    have hgc := HNC.out
    rw [← hL] at hco hLb hgc
    have hGv : gcdL (L.map Z.v) = g := by rw [hg, hgc]
    obtain ⟨gz, hgz⟩ : ∃ z, z = cz (g : Int) := ⟨_, rfl⟩
    have hgv : gz.v = g := by rw [hgz, cz_v]
    have hgl : gz.mag.length ≤ N + N := by
      rw [hgz, cz_len]
      obtain ⟨p, hp⟩ : ∃ p, p ∈ l := by
        cases hl : l with
        | nil => rw [hl] at h0; exact absurd rfl h0
        | cons p r => exact ⟨p, by simp⟩
      have hmem := HNP.out
      rw [← hmem] at hp
      obtain ⟨q, hq, rfl⟩ := List.mem_map.1 hp
      refine Nat.le_trans (zl_mono ?_) (Nat.le_trans (zl_of (hnlb.1 q hq)) (s2 q hq))
      rw [Int.natAbs_natCast, hg, ← hmem]
      exact gcdL_le (List.mem_map.2 ⟨_, hp, rfl⟩) (by have := hcan.2 _ (by rw [← hmem]; exact hp); exact this)
    have hgcd := fun (U : World) (Q : Nat → Prop) (A2 : Option Addr) (c2 : Nat) (hz : Zs U Q A2 c2 L) => zgcd_c (N := N + N) hz (by omega) hLb (by omega)
    rw [hGv, ← hgz] at hgcd
    have hov := fun (U : World) (Q : Nat → Prop) (r : Value) (hz : Zi U Q r gz) => over_c hz
    have HCO := Lib.hid hco; have HGC := Lib.hid hgcd; have HOV := Lib.hid hov; have HR2 := Lib.hid hR0; have HLL := Lib.hid hLn; have HGV := Lib.hid hgv; have HGL := Lib.hid hgl
    clear hco hgcd hov hR0 hgz hgv hgl hGv hgc hLn hL hg hLb hln
    go_wp2_with fail
    refine HCO.out.mono ?_
    rintro e w2 ⟨_, rfl, hO, hx2⟩
    obtain ⟨A2, c2, rfl, hZ⟩ := Own.sl hO (by omega) (X := fun _ => True) (fun _ _ => trivial)
    go_wp2_with fail
    refine (HGC.out _ _ _ _ hZ).mono ?_
    rintro e w3 ⟨rg, rfl, hg3, hx3⟩
    go_wp2_with fail
    refine (HOV.out _ _ _ hg3).mono ?_
    rintro e w4 ⟨ga, rfl, -, hfb, hx4⟩
    go_upto_region 5 with fail
    refine wp_named fun V hV => ?_
    have c3' : Box V w4.heap.size 34 #[.func (.func 102) #[] #[.pointer (some ⟨ga, 0, none⟩)]] := by rw [hV]; exact Box.new _ _ _
    have hxV : Ext W V := by rw [hV]; exact (hx2.trans (hx3.trans hx4)).alloc _
    have hfzV := overf_c (N := N + N + 2) (hfb.ext (V' := V) (by rw [hV]; exact (Ext.refl w4).alloc _)) (by rw [HGV.out]; omega) (by omega) (by have := HGL.out; omega)
    rw [HGV.out] at hfzV
    have k1 := c1'.ext hxV; have k2 := c2'.ext hxV
    have k1r := k1.rules; have k1l := k1.lt
    have k3r := c3'.rules; have k3l := c3'.lt
    have hg00 : (0 : Int) < (g : Int) := by omega
    have hlf := lessf_c (N := N + N) c3' hfzV (by omega) (fun x hx => fdiv_zl hg00 hx)
    have hmp := mapped_c (N := N + N) (M := N + N + 3) (⟨A1, c1, C1, d1, rfl, hP1.ext hxV, hK1.ext hxV⟩ : Tv V _ (.agg #[.slice A1 n.ps.length c1, .bool n.k.neg, .slice C1 n.k.mag.length d1]) n) ⟨s1, s2, s3⟩ (by omega) (by omega) (hfzV.le (by omega)) hlf (fun x hx => Nat.le_trans (fdiv_zl hg00 hx) (by omega)) (fun x hx => by
      have l1 : zl (1 : Int) ≤ N + N + 1 := Nat.le_trans (show zl 1 ≤ 1 by decide) (by omega)
      have h3 := zl_sub (k := N + N + 1) (show zl x ≤ N + N + 1 by omega) l1
      have h4 := fdiv_zl hg00 h3
      exact zl_add (k := N + N + 2) (by omega) (by omega))
    have HM := Lib.hid hmp
    clear hV hx2 hx3 hx4 hO hZ hg3 hfb hlf hmp c1r c1l hfzV
    go_wp2_with fail
    refine (HM.out).mono ?_
    rintro e w5 ⟨_, rfl, hT, hx5⟩
    have m2 := k2.ext hx5
    have m2r := m2.rules; have m2l := m2.lt
    have hEs := hE.trans (hxV.trans hx5)
    have hsV := hxV.size; have hs5 := hx5.size
    obtain ⟨A5, e5, C5, f5, rfl, hO5, hS5, hK5⟩ := hT
    clear k1r k1l k3r k3l
    go_wp2_with fail
    (refine bodyPost_ret (v := ?_) ?_ rfl ?_; rotate_left; (simp only [results, Tryz.results19]; go_simp; (first | done | with_reducible rfl)))
    have hAv : AvF w5 V.heap.size _ (⟨2, cz 0, ct (fm (·.fdiv (g : Int)) (vl n.ps)) ((n.k.v - 1).fdiv g + 1)⟩ : Ar) := ⟨none, 0, A5, e5, C5, f5, rfl, show i64 2 from ⟨by decide, by decide⟩, Sl.nil0 _ _ _, hO5, hS5, hK5⟩
    rw [HR2.out, ← HNP.out]
    refine ⟨_, rfl, (hAv.keep ?_).lower ?_, xt⟩
    · exact kpt
    · omega

end Go.Proofs.YthmjgbkakjpfkaaGreatDoor

namespace Go.Proofs.YthmjgbkakjpfkaaGreatDoor
open Go.RowKit

def phiMod (z : Z) : PhiT := ⟨fun v w => ∃ g, v = .func (.func 120) #[] #[.pointer (some ⟨g, 0, none⟩)] ∧ Bz w (fun _ => True) g z, fun _ _ _ hx ⟨g, h1, h2⟩ => ⟨g, h1, h2.ext hx⟩⟩
def phiTF (b : Nat) (t : T) : PhiT := ⟨fun v w => TvF w b v t, fun _ _ _ hx h => h.ext hx⟩
def Inv6 (V : World) (B : Nat) (tv : Value) (A1 : Option Addr) (c1 : Nat) (mz gz : Z) (L0 : List Z) (L : Nat → Bool) (f : Nat → Value) (w : World) : Prop :=
  Ext V w ∧ (L 0 = true → f 27 = tv) ∧ (L 2 = true → f 29 = .agg #[.bool mz.neg, .slice A1 mz.mag.length c1]) ∧
  (L 1 = true → L 4 = false → Own 2 EZ w (fun b => B < b ∧ b < V.heap.size) V.heap.size 24 (f 28) L0) ∧
  (L 3 = true → L 4 = false → ∃ g, f 30 = .slice (some ⟨g, 0, none⟩) 1 1 ∧ Box w g 24 #[.bool mz.neg, .slice A1 mz.mag.length c1] ∧ V.heap.size ≤ g ∧ (L 1 = true → (f 28).ownBlock ≠ some g)) ∧
  (L 4 = true → L 5 = false → ∃ A c, f 31 = .slice A (L0.length + 1) c ∧ Zs w (fun _ => True) A c (L0 ++ [mz])) ∧
  (L 5 = true → L 4 = true ∧ Zi w (V.heap.size ≤ ·) (f 32) gz) ∧
  (L 6 = true → ∃ g, f 9 = .pointer (some ⟨g, 0, none⟩) ∧ Box w g 24 #[.bool false, .slice none 0 0] ∧ V.heap.size ≤ g ∧ (L 1 = true → L 4 = false → (f 28).ownBlock ≠ some g))
theorem Inv6.ext {V w w' : World} {B : Nat} {tv : Value} {A1 : Option Addr} {c1 : Nat} {mz gz : Z} {L0 : List Z} {L : Nat → Bool} {f : Nat → Value} (h : Inv6 V B tv A1 c1 mz gz L0 L f w) (k : Ext w w') : Inv6 V B tv A1 c1 mz gz L0 L f w' := by
  obtain ⟨h1, h2, h3, h4, h5, h6, h7, h8⟩ := h
  exact ⟨h1.trans k, h2, h3, fun a b => (h4 a b).ext k, fun a b => let ⟨g, x1, x2, x3, x4⟩ := h5 a b; ⟨g, x1, x2.ext k, x3, x4⟩, fun a b => let ⟨A, c, x1, x2⟩ := h6 a b; ⟨A, c, x1, x2.ext k⟩, fun a => ⟨(h7 a).1, (h7 a).2.ext k⟩,
    fun a => let ⟨g, x1, x2, x3, x4⟩ := h8 a; ⟨g, x1, x2.ext k, x3, x4⟩⟩

theorem TvF.off {w w' : World} {B g : Nat} {r : Value} {t : T} {ty : TypeId} {cs : Array Value} (h : TvF w B r t) (hb : Box w g ty cs) (ht : ty ≠ 37) (hcs : ∀ u ∈ cs.toList, ∀ x, u ≠ .int .u32 x) (k : Kp (fun b => b ≠ g) w w') : TvF w' B r t := by
  obtain ⟨A, c, C, d, rfl, hO, hS, hN⟩ := h
  have hrow := hO.row
  have hne : ∀ b, (Value.slice A t.ps.length c).ownBlock = some b → b ≠ g := by
    obtain ⟨xs, h1, -⟩ := hO
    rcases h1.2 with ⟨e, -⟩ | ⟨g', cap, cur, e, -, hg, -⟩
    · rw [e]; intro b hb2; cases hb2
    · rw [e]; rintro b hb2 rfl
      obtain rfl : g' = b := by injection hb2
      have h5 : w.heap[g']? = some (.cells cs ty (0, 0)) := hb
      rw [hg] at h5
      injection h5 with h5
      injection h5 with _ h6 _
      exact ht h6.symm
  have hO' : Own 3 EP w (fun b => B ≤ b ∧ b ≠ g) B 37 (.slice A t.ps.length c) t.ps := by
    obtain ⟨xs, h1, h2⟩ := hO
    refine ⟨xs, h1, h2.1, fun i hi => ?_⟩
    obtain ⟨A', c', e1, hi', h3⟩ := h2.2 i hi
    exact ⟨A', c', e1, hi', (Nl.off h3 hb hcs).widen fun b hb _ => ⟨⟨hb.1.1, hb.2⟩, hb.1.2⟩⟩
  exact ⟨A, c, C, d, rfl, (hO'.keep (k.imp fun b hb => hb.elim (·.2) (hne b))).widen fun b hb _ => hb.1, hS.keep (fun b e => (hrow b e).2) (k.imp hne), ((Nl.off hN hb hcs).keep (k.imp fun b h => h.2)).widen fun b h _ => h.1⟩
theorem avf_of {w : World} {B : Nat} {D A C : Option Addr} {c e f : Nat} {z : Z} {t : T} {kd : Int} (h : Nl w (B ≤ ·) D c z.mag) (hk : i64 kd) (ht : TvF w B (.agg #[.slice A t.ps.length e, .bool t.k.neg, .slice C t.k.mag.length f]) t) :
    AvF w B (.agg #[.int .i64 kd, .bool z.neg, .slice D z.mag.length c, .slice A t.ps.length e, .bool t.k.neg, .slice C t.k.mag.length f]) ⟨kd, z, t⟩ := by
  obtain ⟨A', c', C', d', he, hO, hS, hN⟩ := ht
  simp only [Value.agg.injEq, Array.mk.injEq, List.cons.injEq, Value.slice.injEq, and_true, true_and] at he
  obtain ⟨⟨rfl, rfl⟩, rfl, rfl⟩ := he
  exact ⟨D, c, A, e, C, f, rfl, hk, h, hO, hS, hN⟩

def seqL : Code → Code
  | .seq a _ => a
  | c => c
def seqR : Code → Code
  | .seq _ b => b
  | c => c
noncomputable def c15 : Code := seqR (seqR (seqR (seqR (seqR (seqR (seqR (seqR (Tryz.f46.body.getD .skip))))))))
noncomputable def c17 : Code := seqR (seqR c15)
noncomputable def c18 : Code := seqR (seqL c17)
def PQ (w : World) (R : Ar) : Exit → Act → World → Prop := bodyPost Tryz.prog Tryz.f46 fun e w' => ∃ r, e = .returned (.tuple #[r, .int .i64 0]) ∧ AvF w' w.heap.size r R ∧ Ext w w'

set_option maxRecDepth 100000 in
set_option maxHeartbeats 12800000 in
theorem parted_end {not : Bool} {w Vc : World} {R : Ar} {one : Z} {T2 T4 : T} {N B9 Bb g13 : Nat} {A71 A75 C75 A83 C83 : Option Addr} {c71 c75 d75 c83 d83 : Nat} (hN : N ≤ 16777216)
    (hOn : Nl Vc (B9 ≤ ·) A71 c71 one.mag) (hT2F : TvF Vc B9 (.agg #[.slice A75 T2.ps.length c75, .bool T2.k.neg, .slice C75 T2.k.mag.length d75]) T2) (hT4F : TvF Vc Bb (.agg #[.slice A83 T4.ps.length c83, .bool T4.k.neg, .slice C83 T4.k.mag.length d83]) T4)
    (d13 : Box Vc g13 27 #[.slice A83 T4.ps.length c83, .bool T4.k.neg, .slice C83 T4.k.mag.length d83]) (d3 : Box Vc w.heap.size 24 #[.bool one.neg, .slice A71 one.mag.length c71])
    (d4 : Box Vc (w.heap.size + 1) 27 #[.slice A75 T2.ps.length c75, .bool T2.k.neg, .slice C75 T2.k.mag.length d75]) (d6 : Box Vc (w.heap.size + 1 + 1) 29 #[.int .i64 0, .bool false, .slice none 0 0, .slice none 0 0, .bool false, .slice none 0 0])
    (hEc : Ext w Vc) (hT4s : T4.sz (32 * N)) (hT2s : T2.sz (8 * N)) (_hg13 : w.heap.size + 2 < g13) (hB9 : w.heap.size + 2 < B9) (hBb : w.heap.size + 2 < Bb)
    (hR3 : R = ⟨if not = true then 4 else 3, one, if ordT T4 T2 < 0 then T4 else T2⟩) {K K1 : Act → World → Prop} (hK : ∀ a w', Code.wp Tryz.prog (seqR c18) (Exit.then K1 (PQ w R)) a w' → K a w') (hK1 : ∀ a w', Code.wp Tryz.prog (seqR c17) (PQ w R) a w' → K1 a w')
    {u0 u1 u5 u7 u8 u9 u10 u11 u12 u14 u15 u16 u17 u18 u19 u20 u21 u22 u23 u24 u25 u26 u27 u28 u29 u30 u31 u32 u33 u34 u35 u36 u37 u38 u39 u40 u41 u42 u43 u44 u45 u46 u47 u48 u49 u50 u51 u52 u53 u54 u55 u56 u57 u58 u59 u60 u61 u62 u63 u64 u65 u66 u67 u68 u69 u70 u71 u72 u73 u74 u75 u76 u77 u78 u79 u80 u81 u82 u83 u84 u85 u86 u87 u88 u89 u90 u91 u92 u93 u94 u95 : Value} :
    Code.wp Tryz.prog (seqL c18) (Exit.then K (Exit.then K1 (PQ w R))) ⟨(u0 :: u1 :: .bool not :: .pointer (some ⟨w.heap.size, 0, none⟩) :: .pointer (some ⟨w.heap.size + 1, 0, none⟩) :: u5 :: .pointer (some ⟨w.heap.size + 1 + 1, 0, none⟩) :: u7 :: u8 :: u9 :: u10 :: u11 :: u12 :: .pointer (some ⟨g13, 0, none⟩) :: u14 :: u15 :: u16 :: u17 :: u18 :: u19 :: u20 :: u21 :: u22 :: u23 :: u24 :: u25 :: u26 :: u27 :: u28 :: u29 :: u30 :: u31 :: u32 :: u33 :: u34 :: u35 :: u36 :: u37 :: u38 :: u39 :: u40 :: u41 :: u42 :: u43 :: u44 :: u45 :: u46 :: u47 :: u48 :: u49 :: u50 :: u51 :: u52 :: u53 :: u54 :: u55 :: u56 :: u57 :: u58 :: u59 :: u60 :: u61 :: u62 :: u63 :: u64 :: u65 :: u66 :: u67 :: u68 :: u69 :: u70 :: u71 :: u72 :: u73 :: u74 :: u75 :: u76 :: u77 :: u78 :: u79 :: u80 :: u81 :: u82 :: u83 :: u84 :: u85 :: u86 :: u87 :: u88 :: u89 :: u90 :: u91 :: u92 :: u93 :: u94 :: u95 :: []).toArray, []⟩ Vc := by
  conv at hK => enter [a, w', 1, 2]; whnf
  conv at hK1 => enter [a, w', 1, 2]; whnf
  conv => arg 2; whnf
  have hs4 := d4.lt
  have HR3 := Lib.hid hR3
  clear hR3
  obtain ⟨o, ho⟩ : ∃ o, o = ordT T4 T2 := ⟨_, rfl⟩
  have hor := torder_c (N := 32 * N) hT4F.tv hT2F.tv (by omega) hT4s (hT2s.mono (by omega))
  have hR4 := HR3.out
  rw [← ho] at hor hR4
  have HOR := Lib.hid hor; have HR4 := Lib.hid hR4
  clear hor ho hR4 HR3
  have d13r := d13.rules; have d13l := d13.lt; have d4r := d4.rules; have d4l := d4.lt
  go_wp2_with fail
  refine HOR.out.mono ?_
  rintro e12 w12 ⟨rfl, hx12⟩
  have c13 := d13.ext hx12; have c3 := d3.ext hx12; have c4 := d4.ext hx12; have c6 := d6.ext hx12
  have hOn2 := Nl.ext hOn hx12; have hT2F := hT2F.ext hx12; have hT4F := hT4F.ext hx12; have hEd := hEc.trans hx12
  have hs12 := hx12.size
  have hs6 := d6.lt
  clear d13 d13r d13l d4 d4r d4l d6 d3 hOn hEc HOR hx12
  have c13r := c13.rules; have c13l := c13.lt; have c3r := c3.rules; have c3l := c3.lt; have c4r := c4.rules; have c4l := c4.lt; have c6r := c6.rules; have c6l := c6.lt
  clear c13 c3 c4 c6
  by_cases ho : o < 0
  · have hox : decide (o < 0) = true := decide_eq_true ho
    have hR5 := HR4.out
    rw [if_pos ho] at hR5
    have HR5 := Lib.hid hR5
    clear ho hR5 HR4
    cases not
    · 
      go_wp2_with fail
      (refine bodyPost_ret (v := ?_) ?_ rfl ?_; rotate_left; (simp only [results, Tryz.results46]; go_simp; (first | done | with_reducible rfl)))
      have hR6 := HR5.out
      simp only [Bool.false_eq_true, if_false] at hR6
      rw [hR6]
      refine ⟨_, rfl, ?_, xt⟩
      refine avf_of (kd := 3) ?_ ?_ ?_
      · refine Nl.widen (Nl.keep hOn2 ?_) fun b hb _ => ?_
        · exact kpt
        · have h : B9 ≤ b := hb
          omega
      · constructor <;> decide
      · refine (TvF.keep hT4F ?_).lower (by omega)
        exact kpt
    · 
      go_wp2_with fail
      (refine bodyPost_ret (v := ?_) ?_ rfl ?_; rotate_left; (simp only [results, Tryz.results46]; go_simp; (first | done | with_reducible rfl)))
      have hR6 := HR5.out
      simp only [if_true] at hR6
      rw [hR6]
      refine ⟨_, rfl, ?_, xt⟩
      refine avf_of (kd := 4) ?_ ?_ ?_
      · refine Nl.widen (Nl.keep hOn2 ?_) fun b hb _ => ?_
        · exact kpt
        · have h : B9 ≤ b := hb
          omega
      · constructor <;> decide
      · refine (TvF.keep hT4F ?_).lower (by omega)
        exact kpt
  · have hox : decide (o < 0) = false := decide_eq_false ho
    have hR5 := HR4.out
    rw [if_neg ho] at hR5
    have HR5 := Lib.hid hR5
    clear ho hR5 HR4
    cases not
    · 
      go_wp2_with fail
      (refine bodyPost_ret (v := ?_) ?_ rfl ?_; rotate_left; (simp only [results, Tryz.results46]; go_simp; (first | done | with_reducible rfl)))
      have hR6 := HR5.out
      simp only [Bool.false_eq_true, if_false] at hR6
      rw [hR6]
      refine ⟨_, rfl, ?_, xt⟩
      refine avf_of (kd := 3) ?_ ?_ ?_
      · refine Nl.widen (Nl.keep hOn2 ?_) fun b hb _ => ?_
        · exact kpt
        · have h : B9 ≤ b := hb
          omega
      · constructor <;> decide
      · refine (TvF.keep hT2F ?_).lower (by omega)
        exact kpt
    · 
      go_wp2_with fail
      (refine bodyPost_ret (v := ?_) ?_ rfl ?_; rotate_left; (simp only [results, Tryz.results46]; go_simp; (first | done | with_reducible rfl)))
      have hR6 := HR5.out
      simp only [if_true] at hR6
      rw [hR6]
      refine ⟨_, rfl, ?_, xt⟩
      refine avf_of (kd := 4) ?_ ?_ ?_
      · refine Nl.widen (Nl.keep hOn2 ?_) fun b hb _ => ?_
        · exact kpt
        · have h : B9 ≤ b := hb
          omega
      · constructor <;> decide
      · refine (TvF.keep hT2F ?_).lower (by omega)
        exact kpt
end Go.Proofs.YthmjgbkakjpfkaaGreatDoor

namespace Go.Proofs.YthmjgbkakjpfkaaGreatDoor
open Go.RowKit

set_option maxRecDepth 100000 in
set_option maxHeartbeats 25600000 in
theorem parted_mid {not : Bool} {w V9 : World} {R : Ar} {mz gz : Z} {T1 : T} {l1 : List (Int × Int)} {m g N ln g10 : Nat} {A1 A6 C6 : Option Addr} {c1 e6 f6 : Nat} (hN2 : 2 ≤ N) (hN : N ≤ 16777216) (hE9 : Ext w V9)
    (v3 : Box V9 w.heap.size 24 #[.bool mz.neg, .slice A1 mz.mag.length c1]) (v4 : Box V9 (w.heap.size + 1) 27 #[.slice A6 ln e6, .bool T1.k.neg, .slice C6 T1.k.mag.length f6])
    (v6 : Box V9 (w.heap.size + 1 + 1) 29 #[.int .i64 0, .bool false, .slice none 0 0, .slice none 0 0, .bool false, .slice none 0 0]) (hz10 : Bz V9 (fun b => w.heap.size + 2 < b) g10 gz)
    (hP9 : Pl V9 (fun b => w.heap.size + 2 < b) A6 e6 T1.ps) (hK9 : Nl V9 (fun b => w.heap.size + 2 < b) C6 f6 T1.k.mag) (hM9 : Nl V9 (fun b => w.heap.size + 2 < b) A1 c1 mz.mag) (hln : ln = T1.ps.length) (hT1lb : T1.lb) (hT1s : T1.sz (4 * N))
    (hmv : mz.v = (m : Int)) (hMz : mz.mag.length ≤ 64 * N) (hzm : zl (m : Int) ≤ N) (hgv : gz.v = (g : Int)) (hgl : gz.mag.length ≤ N) (hg0 : 0 < g) (hgm : g ≤ m) (hps : T1.ps = cl (cn l1))
    (hRe : R = ⟨if not = true then 4 else 3, cz ((m : Int).fdiv (g : Int)), lesser ((m : Int).fdiv (g : Int)) (cn (fm (·.fdiv (g : Int)) (cn l1))) (T1.k.v.fdiv (g : Int))⟩)
    {K : Act → World → Prop} (hK : ∀ a w', Code.wp Tryz.prog (seqR c15) (PQ w R) a w' → K a w') {u0 u1 u5 u7 u8 u9 u11 u12 u13 u14 u15 u16 u17 u18 u19 u20 u21 u22 u23 u24 u25 u26 u27 u28 u29 u30 u31 u32 u33 u34 u35 u36 u37 u38 u39 u40 u41 u42 u43 u44 u45 u46 u47 u48 u49 u50 u51 u52 u53 u54 u55 u56 u57 u58 u59 u60 u61 u62 u63 u64 u65 u66 u67 u68 u69 u70 u71 u72 u73 u74 u75 u76 u77 u78 u79 u80 u81 u82 u83 u84 u85 u86 u87 u88 u89 u90 u91 u92 u93 u94 u95 : Value} :
    Code.wp Tryz.prog (seqL c15) (Exit.then K (PQ w R)) ⟨(u0 :: u1 :: .bool not :: .pointer (some ⟨w.heap.size, 0, none⟩) :: .pointer (some ⟨w.heap.size + 1, 0, none⟩) :: u5 :: .pointer (some ⟨w.heap.size + 1 + 1, 0, none⟩) :: u7 :: u8 :: u9 :: .func (.func 102) #[] #[.pointer (some ⟨g10, 0, none⟩)] :: u11 :: u12 :: u13 :: u14 :: u15 :: u16 :: u17 :: u18 :: u19 :: u20 :: u21 :: u22 :: u23 :: u24 :: u25 :: u26 :: u27 :: u28 :: u29 :: u30 :: u31 :: u32 :: u33 :: u34 :: u35 :: u36 :: u37 :: u38 :: u39 :: u40 :: u41 :: u42 :: u43 :: u44 :: u45 :: u46 :: u47 :: u48 :: u49 :: u50 :: u51 :: u52 :: u53 :: u54 :: u55 :: u56 :: u57 :: u58 :: u59 :: u60 :: u61 :: u62 :: u63 :: u64 :: u65 :: u66 :: u67 :: u68 :: u69 :: u70 :: u71 :: u72 :: u73 :: u74 :: u75 :: u76 :: u77 :: u78 :: u79 :: u80 :: u81 :: u82 :: u83 :: u84 :: u85 :: u86 :: u87 :: u88 :: u89 :: u90 :: u91 :: u92 :: u93 :: u94 :: u95 :: []).toArray, []⟩ V9 := by
  conv at hK => enter [a, w', 1, 2]; whnf
  conv => arg 2; whnf
  obtain ⟨one, hone⟩ : ∃ z, z = cz ((m : Int).fdiv (g : Int)) := ⟨_, rfl⟩
  have HONE := Lib.hid hone; have HMV := Lib.hid hmv; have HGV := Lib.hid hgv; have HLN := Lib.hid hln; have HPS := Lib.hid hps; have HRE := Lib.hid hRe
  have hg00 : (0 : Int) < (g : Int) := by omega
  have hgv0 : gz.v ≠ 0 := by rw [hgv]; omega
  have hs8 := hE9.size; have hs6v := v6.lt
  clear hone hmv hgv hln hps hRe
  have hfz := overf_c (N := 64 * N) hz10 hgv0 (by omega) (by omega)
  rw [HGV.out] at hfz
  have hcut := fun (U : World) (hU : Ext V9 U) => hfz.2 U hU _ _ _ (⟨A1, c1, rfl, hM9.ext hU⟩ : Zi U _ (.agg #[.bool mz.neg, .slice A1 mz.mag.length c1]) mz) hMz
  rw [HMV.out, ← HONE.out] at hcut
  have hT1z := zl_vl hT1lb.1 hT1s.2.1
  have hT1kz : zl T1.k.v ≤ 4 * N := Nat.le_trans (zl_of hT1lb.2) hT1s.2.2
  have hmp := fun (U : World) (hU : Ext V9 U) => mapped_c (N := 64 * N) (M := 64 * N) (⟨A6, e6, C6, f6, by rw [HLN.out], hP9.ext hU, hK9.ext hU⟩ : Tv U _ (.agg #[.slice A6 ln e6, .bool T1.k.neg, .slice C6 T1.k.mag.length f6]) T1) (hT1s.mono (by omega)) (Nat.le_refl _) (by omega) (hfz.ext hU) (hfz.ext hU) (fun x hx => fdiv_zl hg00 hx) (fun x hx => fdiv_zl hg00 hx)
  obtain ⟨T2, hT2⟩ : ∃ T, T = ct (fm (·.fdiv (g : Int)) (vl T1.ps)) (T1.k.v.fdiv (g : Int)) := ⟨_, rfl⟩
  have hT2s : T2.sz (8 * N) := by
    rw [hT2, show 8 * N = 4 * N + 4 * N by omega]
    refine ct_sz ?_ ?_ ?_
    · rw [fm_len, vl_len]; exact hT1s.1
    · intro q hq
      obtain ⟨q0, hq0, rfl⟩ := List.mem_map.1 hq
      exact fdiv_zl hg00 (hT1z q0 hq0)
    · exact Nat.le_trans (fdiv_zl hg00 hT1kz) (by omega)
  simp only [← hT2] at hmp
  have HMP := Lib.hid hmp; have HCUT := Lib.hid hcut; have HT2 := Lib.hid hT2
  clear hmp hcut hT2 hfz
  have v3l := v3.lt; have v4l := v4.lt
  refine wp_region_free [(0, 69, []), (1, 70, []), (2, 71, [(0, 69), (1, 70)]), (3, 72, []), (4, 73, []), (5, 74, []), (6, 75, [(2, 71), (3, 72), (4, 73), (5, 74)])] [7, 8] [69, 70, 71, 72, 73, 74, 75] [] [] [phiEq (.func (.func 102) #[] #[.pointer (some ⟨g10, 0, none⟩)]), phiEq (.agg #[.bool mz.neg, .slice A1 mz.mag.length c1]), phiZ (V9.heap.size ≤ ·) one, phiEq (.agg #[.slice A6 ln e6, .bool T1.k.neg, .slice C6 T1.k.mag.length f6]), phiEq (.func (.func 102) #[] #[.pointer (some ⟨g10, 0, none⟩)]), phiEq (.func (.func 102) #[] #[.pointer (some ⟨g10, 0, none⟩)]), phiTF V9.heap.size T2] rfl (by kernel_rfl) (by intro _ _ d _ _ h; cases d <;> exact h) (by kernel_rfl) (by kernel_rfl) ?_ ?_
  · as_aux_lemma =>
    have q0 : V9.cell? ⟨w.heap.size, 0, none⟩ = some (.bool mz.neg) := by rw [v3.cell]; rfl
    have q1 : V9.cell? ⟨w.heap.size, 1, none⟩ = some (.slice A1 mz.mag.length c1) := by rw [v3.cell]; rfl
    have q2 : V9.cell? ⟨w.heap.size + 1, 0, none⟩ = some (.slice A6 ln e6) := by rw [v4.cell]; rfl
    have q3 : V9.cell? ⟨w.heap.size + 1, 1, none⟩ = some (.bool T1.k.neg) := by rw [v4.cell]; rfl
    have q4 : V9.cell? ⟨w.heap.size + 1, 2, none⟩ = some (.slice C6 T1.k.mag.length f6) := by rw [v4.cell]; rfl
    (refine ps_eq rfl rfl rfl rfl rfl rfl ?_ ?_; focus (intro f w1 hx hd; have hc' := hx.cells.1; (try simp only [wcd] at hc'); (dsimp only [PhiDeps, phiAt, phiEq, phiZ, phiAny, phiBox] at hd); (simp only [fillA]; (try simp only [pt])); (try simp only [hd]); go_simp; (first | done | with_reducible rfl)))
    (refine ps_eq rfl rfl rfl rfl rfl rfl ?_ ?_; focus (intro f w1 hx hd; have hc' := hx.cells.1; (try simp only [wcd] at hc'); have z0 := (hc' _ 0 v3l).trans q0; have z1 := (hc' _ 1 v3l).trans q1; clear hc'; (dsimp only [PhiDeps, phiAt, phiEq, phiZ, phiAny, phiBox] at hd); (simp only [fillA]; (try simp only [pt])); (try simp only [hd]); go_simp; (first | done | with_reducible rfl)))
    (refine ps_loud rfl rfl rfl rfl rfl (fun f w1 hx hd K hK => ?_) ?_)
    · (have hc' := hx.cells.1; (try simp only [wcd] at hc'); (dsimp only [PhiDeps, phiAt, phiEq, phiZ, phiAny, phiBox] at hd); simp only [fillA, Act.put, List.setIfInBounds_toArray, List.set_cons_zero, List.set_cons_succ] at hK; (simp only [fillA]; (try simp only [pt])); (try simp only [hd] at hK ⊢); go_simp)
      refine (HCUT.out _ xt).mono ?_
      rintro e8 w8 ⟨r8, rfl, hr8, hx8⟩
      (refine hK _ _ xt ?_; dsimp only [phiAt, phiEq, phiZ, phiAny, phiBox])
      exact hr8.widen fun q hq _ => Nat.le_trans (Ext.size (show Ext V9 w1 from xt)) hq
    (refine ps_eq rfl rfl rfl rfl rfl rfl ?_ ?_; focus (intro f w1 hx hd; have hc' := hx.cells.1; (try simp only [wcd] at hc'); have z0 := (hc' _ 0 v4l).trans q2; have z1 := (hc' _ 1 v4l).trans q3; have z2 := (hc' _ 2 v4l).trans q4; clear hc'; (dsimp only [PhiDeps, phiAt, phiEq, phiZ, phiAny, phiBox] at hd); (simp only [fillA]; (try simp only [pt])); (try simp only [hd]); go_simp; (first | done | with_reducible rfl)))
    (refine ps_eq rfl rfl rfl rfl rfl rfl ?_ ?_; focus (intro f w1 hx hd; have hc' := hx.cells.1; (try simp only [wcd] at hc'); (dsimp only [PhiDeps, phiAt, phiEq, phiZ, phiAny, phiBox] at hd); (simp only [fillA]; (try simp only [pt])); (try simp only [hd]); go_simp; (first | done | with_reducible rfl)))
    (refine ps_eq rfl rfl rfl rfl rfl rfl ?_ ?_; focus (intro f w1 hx hd; have hc' := hx.cells.1; (try simp only [wcd] at hc'); (dsimp only [PhiDeps, phiAt, phiEq, phiZ, phiAny, phiBox] at hd); (simp only [fillA]; (try simp only [pt])); (try simp only [hd]); go_simp; (first | done | with_reducible rfl)))
    (refine ps_loud rfl rfl rfl rfl rfl (fun f w1 hx hd K hK => ?_) ?_)
    · (have hc' := hx.cells.1; (try simp only [wcd] at hc'); (dsimp only [PhiDeps, phiAt, phiEq, phiZ, phiAny, phiBox] at hd); simp only [fillA, Act.put, List.setIfInBounds_toArray, List.set_cons_zero, List.set_cons_succ] at hK; (simp only [fillA]; (try simp only [pt])); (try simp only [hd] at hK ⊢); go_simp)
      refine (HMP.out _ xt).mono ?_
      rintro e8 w8 ⟨r8, rfl, hr8, hx8⟩
      (refine hK _ _ xt ?_; dsimp only [phiAt, phiEq, phiZ, phiAny, phiBox])
      exact hr8.lower (Ext.size (show Ext V9 w1 from xt))
    exact ps_nil
  · as_aux_lemma =>
    intro f w2 hx2 hall hne2
    (dsimp only [PhiAll, phiAt, phiEq, phiZ, phiAny, phiBox] at hall)
    obtain ⟨f1, f2, ⟨A71, c71, e71, n71⟩, f4, f5, f6, f7, -⟩ := hall
    dsimp only [phiTF] at f7
    (simp only [fillA]; (try simp only [pt]))
    simp only [e71]
    have hx2 := (Ext.refl V9).drew.trans hx2
    have v3 := v3.ext hx2; have v4 := v4.ext hx2; have v6 := v6.ext hx2
    have f70 := f7
    obtain ⟨A75, c75, C75, d75, e75, -, -, -⟩ := f7
    simp only [e75]
    have v3r := v3.rules; have v3l' := v3.lt; have v4r := v4.rules; have v4l' := v4.lt
    (refine sh_late rfl rfl fun K hK => ?_; go_simp; refine hK _ _ ?_; clear hK K)
    (refine sh_late rfl rfl fun K hK => ?_; go_simp; refine hK _ _ ?_; clear hK K)
    refine sh_end ?_
    rw [e75] at f70
    go_upto_region 16 with fail
    refine wp_named fun Va hVa => ?_
    have hs29 := hx2.size
    have a3 : Box Va w.heap.size 24 #[.bool one.neg, .slice A71 one.mag.length c71] := by rw [hVa]; exact ((((v3.set_ 0 _).set_ 1 _).far (by simp only; omega) _).far (by simp only; omega) _).far (by simp only; omega) _
    have a4 : Box Va (w.heap.size + 1) 27 #[.slice A75 T2.ps.length c75, .bool T2.k.neg, .slice C75 T2.k.mag.length d75] := by rw [hVa]; exact ((((v4.far (by simp only; omega) _).far (by simp only; omega) _).set_ 0 _).set_ 1 _).set_ 2 _
    have a6 : Box Va (w.heap.size + 1 + 1) 29 #[.int .i64 0, .bool false, .slice none 0 0, .slice none 0 0, .bool false, .slice none 0 0] := by rw [hVa]; exact ((((v6.far (by simp only; omega) _).far (by simp only; omega) _).far (by simp only; omega) _).far (by simp only; omega) _).far (by simp only; omega) _
    have kVa : Kp (V9.heap.size ≤ ·) w2 Va := by rw [hVa]; exact (((((Kp.refl w2).setCell (by simp only; omega) _).setCell (by simp only; omega) _).setCell (by simp only; omega) _).setCell (by simp only; omega) _).setCell (by simp only; omega) _
    have hEa : Ext w Va := by rw [hVa]; exact (((((hE9.trans hx2).setCell (by simp only; omega) _).setCell (by simp only; omega) _).setCell (by simp only; omega) _).setCell (by simp only; omega) _).setCell (by simp only; omega) _
    have hOn : Nl Va (V9.heap.size ≤ ·) A71 c71 one.mag := n71.keep kVa
    have hTF := f70.keep kVa
    have hsa : V9.heap.size ≤ Va.heap.size := by rw [hVa]; simp only [wsz]; omega
    clear hVa kVa v3 v4 v6 v3r v4r v3l' v4l' f70 n71 e71 e75 f1 f2 f4 f5 f6 hne2 hx2 hP9 hK9 hM9 hz10 HCUT HMP
    have a3r := a3.rules; have a3l := a3.lt
    have hmo := mod_c (⟨A71, c71, rfl, hOn⟩ : Zi Va _ (.agg #[.bool one.neg, .slice A71 one.mag.length c71]) one)
    have HMO2 := Lib.hid hmo
    clear hmo
    go_wp2_with fail
    refine HMO2.out.mono ?_
    rintro e10 w10 ⟨g8', rfl, hg8', hb8', hx10⟩
    go_upto_region 17 with fail
    refine wp_named fun Vb hVb => ?_
    have hxb : Ext Va Vb := by rw [hVb]; exact hx10
    have hb8' := hb8'.ext (V' := Vb) (by rw [hVb]; exact Ext.refl _)
    clear hVb hx10 HMO2
    have b3 := a3.ext hxb; have b4 := a4.ext hxb; have b6 := a6.ext hxb
    have hOn := Nl.ext hOn hxb; have hTF := hTF.ext hxb; have hEb := hEa.trans hxb
    have hsb := hxb.size
    clear a3 a3r a3l a4 a6 hEa hxb
    -- its opposite
    have honev : one.v = (m : Int).fdiv g := by rw [HONE.out, cz_v]
    have honep : (0 : Int) < (m : Int).fdiv g := by
      rw [Int.fdiv_eq_ediv_of_nonneg _ (by omega)]
      have := Int.le_ediv_of_mul_le hg00 (show 1 * (g : Int) ≤ (m : Int) by omega)
      omega
    have honez : zl one.v ≤ N := by rw [honev]; exact fdiv_zl hg00 hzm
    have honel : one.mag.length ≤ N := by rw [HONE.out, cz_len]; exact fdiv_zl hg00 hzm
    have hT2lb : T2.lb := by rw [HT2.out]; exact ct_lb _ _
    have hT2z := zl_vl hT2lb.1 hT2s.2.1
    have hT2kz : zl T2.k.v ≤ 8 * N := Nat.le_trans (zl_of hT2lb.2) hT2s.2.2
    have hsc := fun (U : World) (hU : Ext Vb U) (r : Value) (Q : Nat → Prop) (hr : Zi U Q r (cz (-1))) => tscale_f hr (hTF.ext hU).tv (N := 8 * N) (by omega) (one_len _ (by omega)).2 hT2s
    obtain ⟨T3, hT3⟩ : ∃ T, T = ct (sc (cz (-1)).v (vl T2.ps)) ((cz (-1)).v * T2.k.v) := ⟨_, rfl⟩
    rw [← hT3] at hsc
    have hT3s : T3.sz (16 * N) := by
      rw [hT3, show 16 * N = 8 * N + 8 * N by omega, cz_v]
      refine ct_sz ?_ ?_ ?_
      · rw [sc_len, vl_len]; exact hT2s.1
      · intro q hq
        obtain ⟨q0, hq0, rfl⟩ := List.mem_map.1 hq
        have h := hT2z q0 hq0
        simp only [Int.neg_mul, Int.one_mul, zl_neg]
        exact h
      · simp only [Int.neg_mul, Int.one_mul, zl_neg]
        omega
    have hfz := modf_c (N := 64 * N) hb8' (by omega) (by omega) (by omega)
    rw [honev] at hfz
    have hmp := fun (U : World) (hU : Ext Vb U) (r : Value) (Q : Nat → Prop) (hr : Tv U Q r T3) => mapped_c (N := 64 * N) (M := 64 * N) hr (hT3s.mono (by omega)) (Nat.le_refl _) (by omega) (hfz.ext hU) (hfz.ext hU) (fun x _ => Nat.le_trans (fmod_zl honep (by rw [← honev]; exact honez)) (by omega)) (fun x _ => Nat.le_trans (fmod_zl honep (by rw [← honev]; exact honez)) (by omega))
    obtain ⟨T4, hT4⟩ : ∃ T, T = ct (fm (·.fmod ((m : Int).fdiv g)) (vl T3.ps)) (T3.k.v.fmod ((m : Int).fdiv g)) := ⟨_, rfl⟩
    simp only [← hT4] at hmp
    have hT4s : T4.sz (32 * N) := by
      rw [hT4, show 32 * N = 16 * N + 16 * N by omega]
      refine ct_sz ?_ ?_ ?_
      · rw [fm_len, vl_len]; exact hT3s.1
      · intro q hq
        obtain ⟨q0, hq0, rfl⟩ := List.mem_map.1 hq
        exact Nat.le_trans (fmod_zl honep (by rw [← honev]; exact honez)) (by omega)
      · exact Nat.le_trans (fmod_zl honep (by rw [← honev]; exact honez)) (by omega)
    have hles : lesser ((m : Int).fdiv g) (cn (fm (·.fdiv (g : Int)) (cn l1))) (T1.k.v.fdiv (g : Int)) = if ordT T4 T2 < 0 then T4 else T2 := by
      have e2 : T2 = ct (cn (fm (·.fdiv (g : Int)) (cn l1))) (T1.k.v.fdiv (g : Int)) := by
        rw [HT2.out, HPS.out, vl_cl]; unfold ct; rw [cn_cn]
      have e4 : T4 = ct (fm (·.fmod ((m : Int).fdiv g)) (cn (sc (-1) (cn (fm (·.fdiv (g : Int)) (cn l1)))))) ((-(T1.k.v.fdiv (g : Int))).fmod ((m : Int).fdiv g)) := by
        rw [hT4, hT3, e2]
        unfold ct
        simp only [vl_cl, cz_v, cn_cn, Int.neg_mul, Int.one_mul]
      unfold lesser
      rw [← e4, ← e2]
    have hR3 := HRE.out
    rw [hles, ← HONE.out] at hR3
    have HR3 := Lib.hid hR3; have HSC := Lib.hid hsc; have HMP2 := Lib.hid hmp; have HOF2 := Lib.hid (fun (U : World) => zof_c (-1) (by omega) (by omega) U)
    clear hR3 hsc hmp hles hT3 hT4 hfz honev
    have b3l := b3.lt; have b4l := b4.lt
    refine wp_region_free [(0, 78, []), (1, 79, []), (2, 80, [(0, 78), (1, 79)]), (3, 81, []), (4, 82, []), (5, 83, [(2, 80), (3, 81), (4, 82)]), (6, 13, [])] [7] [78, 79, 80, 81, 82, 83, 13] [6] [] [phiZ (fun _ => True) (cz (-1)), phiEq (.agg #[.slice A75 T2.ps.length c75, .bool T2.k.neg, .slice C75 T2.k.mag.length d75]), phiTF Vb.heap.size T3, phiEq (.func (.func 120) #[] #[.pointer (some ⟨g8', 0, none⟩)]), phiEq (.func (.func 120) #[] #[.pointer (some ⟨g8', 0, none⟩)]), phiTF Vb.heap.size T4, phiBox Vb.heap.size 27 #[.slice none 0 0, .bool false, .slice none 0 0]] rfl (by kernel_rfl) (by intro _ _ d _ _ h; cases d <;> exact h) (by kernel_rfl) (by kernel_rfl) ?_ ?_
    · as_aux_lemma =>
      have q2 : Vb.cell? ⟨w.heap.size + 1, 0, none⟩ = some (.slice A75 T2.ps.length c75) := by rw [b4.cell]; rfl
      have q3 : Vb.cell? ⟨w.heap.size + 1, 1, none⟩ = some (.bool T2.k.neg) := by rw [b4.cell]; rfl
      have q4 : Vb.cell? ⟨w.heap.size + 1, 2, none⟩ = some (.slice C75 T2.k.mag.length d75) := by rw [b4.cell]; rfl
      (refine ps_loud rfl rfl rfl rfl rfl (fun f w1 hx hd K hK => ?_) ?_)
      · (have hc' := hx.cells.1; (try simp only [wcd] at hc'); (dsimp only [PhiDeps, phiAt, phiEq, phiZ, phiAny, phiBox] at hd); simp only [fillA, Act.put, List.setIfInBounds_toArray, List.set_cons_zero, List.set_cons_succ] at hK; (simp only [fillA]; (try simp only [pt])); (try simp only [hd] at hK ⊢); go_simp)
        refine (HOF2.out _).mono ?_
        rintro e8 w8 ⟨r8, rfl, hr8, hx8⟩
        (refine hK _ _ xt ?_; dsimp only [phiAt, phiEq, phiZ, phiAny, phiBox])
        exact hr8.widen fun _ _ _ => trivial
      (refine ps_eq rfl rfl rfl rfl rfl rfl ?_ ?_; focus (intro f w1 hx hd; have hc' := hx.cells.1; (try simp only [wcd] at hc'); have z0 := (hc' _ 0 b4l).trans q2; have z1 := (hc' _ 1 b4l).trans q3; have z2 := (hc' _ 2 b4l).trans q4; clear hc'; (dsimp only [PhiDeps, phiAt, phiEq, phiZ, phiAny, phiBox] at hd); (simp only [fillA]; (try simp only [pt])); (try simp only [hd]); go_simp; (first | done | with_reducible rfl)))
      (refine ps_loud rfl rfl rfl rfl rfl (fun f w1 hx hd K hK => ?_) ?_)
      · have hc' := hx.cells.1
        (try simp only [wcd] at hc')
        simp only [fillA, Act.put, List.setIfInBounds_toArray, List.set_cons_zero, List.set_cons_succ] at hK
        (simp only [fillA]; (try simp only [pt]))
        dsimp only [PhiDeps, phiAt, phiEq, phiZ, phiAny, phiBox, phiTF] at hd
        obtain ⟨hz78, e79, -⟩ := hd
        simp only [e79] at hK ⊢
        go_simp
        refine (HSC.out _ xt _ _ hz78).mono ?_
        rintro e8 w8 ⟨r8, rfl, hr8, hx8⟩
        (refine hK _ _ xt ?_; dsimp only [phiAt, phiEq, phiZ, phiAny, phiBox])
        exact hr8.lower (Ext.size (show Ext Vb w1 from xt))
      (refine ps_eq rfl rfl rfl rfl rfl rfl ?_ ?_; focus (intro f w1 hx hd; have hc' := hx.cells.1; (try simp only [wcd] at hc'); (dsimp only [PhiDeps, phiAt, phiEq, phiZ, phiAny, phiBox] at hd); (simp only [fillA]; (try simp only [pt])); (try simp only [hd]); go_simp; (first | done | with_reducible rfl)))
      (refine ps_eq rfl rfl rfl rfl rfl rfl ?_ ?_; focus (intro f w1 hx hd; have hc' := hx.cells.1; (try simp only [wcd] at hc'); (dsimp only [PhiDeps, phiAt, phiEq, phiZ, phiAny, phiBox] at hd); (simp only [fillA]; (try simp only [pt])); (try simp only [hd]); go_simp; (first | done | with_reducible rfl)))
      (refine ps_loud rfl rfl rfl rfl rfl (fun f w1 hx hd K hK => ?_) ?_)
      · have hc' := hx.cells.1
        (try simp only [wcd] at hc')
        simp only [fillA, Act.put, List.setIfInBounds_toArray, List.set_cons_zero, List.set_cons_succ] at hK
        (simp only [fillA]; (try simp only [pt]))
        dsimp only [PhiDeps, phiAt, phiEq, phiZ, phiAny, phiBox, phiTF] at hd
        obtain ⟨hz80, e81, e82, -⟩ := hd
        simp only [e81, e82] at hK ⊢
        go_simp
        refine (HMP2.out _ xt _ _ hz80.tv).mono ?_
        rintro e8 w8 ⟨r8, rfl, hr8, hx8⟩
        (refine hK _ _ xt ?_; dsimp only [phiAt, phiEq, phiZ, phiAny, phiBox])
        exact hr8.lower (Ext.size (show Ext Vb w1 from xt))
      (refine ps_alloc rfl rfl rfl rfl rfl ?_ (by repeat (first | exact ab_nil | refine ab_cons rfl ?_)) ?_ ?_; (focus (first | omega | (simp only [wsz]; done) | (simp only [wsz]; omega))); (focus (intro f w1; (simp only [fillA]; (try simp only [pt])); go_simp; try (with_reducible rfl))))
      exact ps_nil
    · as_aux_lemma =>
      intro f w2 hx2 hall hne2
      (dsimp only [PhiAll, phiAt, phiEq, phiZ, phiAny, phiBox] at hall)
      obtain ⟨f1, f2, f3, f4, f5, f6, ⟨g13, f7, l13, x13⟩, -⟩ := hall
      dsimp only [phiTF] at f6
      have hx2 := (Ext.refl Vb).drew.trans hx2
      (simp only [fillA]; (try simp only [pt]))
      simp only [f7]
      have f60 := f6
      obtain ⟨A83, c83, C83, d83, e83, -, -, -⟩ := f6
      rw [e83] at f60
      simp only [e83]
      have x13r := x13.rules; have x13l := x13.lt
      (refine sh_late rfl rfl fun K hK => ?_; go_simp; refine hK _ _ ?_; clear hK K)
      refine sh_end ?_
      go_upto_region 18 with fail
      refine wp_named fun Vc hVc => ?_
      have hs2b := hx2.size
      have d13 : Box Vc g13 27 #[.slice A83 T4.ps.length c83, .bool T4.k.neg, .slice C83 T4.k.mag.length d83] := by rw [hVc]; exact ((x13.set_ 0 _).set_ 1 _).set_ 2 _
      have hbc : Ext Vb Vc := by rw [hVc]; exact ((hx2.setCell (by simp only; omega) _).setCell (by simp only; omega) _).setCell (by simp only; omega) _
      have hT4F : TvF Vc Vb.heap.size (.agg #[.slice A83 T4.ps.length c83, .bool T4.k.neg, .slice C83 T4.k.mag.length d83]) T4 := by
        rw [hVc]
        exact f60.off x13 (by decide) (by simp) ((((Kp.refl w2).setCell (fun h => h rfl) _).setCell (fun h => h rfl) _).setCell (fun h => h rfl) _)
      have d3 := b3.ext hbc; have d4 := b4.ext hbc; have d6 := b6.ext hbc
      have hOn := Nl.ext hOn hbc; have hT2F := hTF.ext hbc; have hEc := hEb.trans hbc
      have hsc := hbc.size
      have hs9 := hE9.size
      refine parted_end hN hOn hT2F hT4F d13 d3 d4 d6 hEc hT4s hT2s (by omega) (by omega) (by omega) HR3.out ?_ ?_
      · intro a w' h
        go_step
        exact h
      · intro a w' h
        go_step
        exact h

end Go.Proofs.YthmjgbkakjpfkaaGreatDoor
