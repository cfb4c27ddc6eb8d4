/- nat.Gcd, zint.Gcd; DivMod by nought. No conditions. -/
import Derived.Test.YthmjgbkakjpfkaaGreatDoorGLooksAp
import Derived.Test.YthmjgbkakjpfkaaGreatDoorGLooksAg
import Derived.Deep.LoopGhost
namespace Go.Proofs.YthmjgbkakjpfkaaGreatDoor
open Go.RowKit

set_option maxHeartbeats 1600000 in
theorem gcd_c {A B : Option Addr} {c d : Nat} {a b : List Nat} {w : World} {X Y : Nat → Prop} (ha : Nl w X A c a) (hb : Nl w Y B d b) (hL : a.length ≤ 1099511627770) (hLb : b.length ≤ 1099511627770) :
    Calls Tryz.prog 50 #[.slice A a.length c, .slice B b.length d] w fun e w' => ∃ A' c', e = .returned (.slice A' (lim (Nat.gcd (nv a) (nv b))).length c') ∧ Nl w' (w.heap.size ≤ ·) A' c' (lim (Nat.gcd (nv a) (nv b))) ∧ Ext w w' := by
  have hla := lim_len_le ha.lb
  have hlb := lim_len_le hb.lb
  have h1 := own_c ha (by omega)
  have h2 := fun (U : World) (hU : Ext w U) => own_c (hb.ext hU) (by omega)
  obtain ⟨G, hG⟩ : ∃ G, G = Nat.gcd (nv a) (nv b) := ⟨_, rfl⟩
  rw [← hG]
  obtain ⟨x0, hx0⟩ : ∃ x, x = nv a := ⟨_, rfl⟩
  obtain ⟨y0, hy0⟩ : ∃ x, x = nv b := ⟨_, rfl⟩
  rw [← hx0, ← hy0] at hG
  rw [← hx0] at hla h1
  rw [← hy0] at hlb
  simp only [← hy0] at h2
  have H1 := Lib.hid h1; have H2 := Lib.hid h2; have HG := Lib.hid hG
  clear h1 h2 hG hx0 hy0
  go_enter Tryz.func50, Tryz.ntmps50
  go_wp2_with fail
  refine H1.out.mono ?_
  rintro e w1 ⟨A1, c1, rfl, hA, hx1⟩
  go_wp2_with fail
  refine (H2.out _ hx1).mono ?_
  rintro e w2 ⟨B1, d1, rfl, hB, hx2⟩
  have hs1 := hx1.size
  go_wp2_with fail
  go_loopg [0, 1] y0 (fun k p q wr => ∃ x A c B d, p = .slice A (lim x).length c ∧ q = .slice B (lim k).length d ∧ Nl wr (w.heap.size ≤ ·) A c (lim x) ∧ Nl wr (w.heap.size ≤ ·) B d (lim k) ∧ Hid (Nat.gcd x k = G) ∧ (lim x).length ≤ 1099511627770 ∧ (lim k).length ≤ 1099511627770 ∧ Ext w wr)
  case atStart => exact ⟨x0, A1, c1, B1, d1, rfl, rfl, hA.ext hx2, hB.widen fun b hb _ => by omega, Lib.hid HG.out.symm, by omega, by omega, hx1.trans hx2⟩
  case round =>
    obtain ⟨x, A, c, B, d, rfl, rfl, hA, hB, hg, hl1, hl2, hx⟩ := hrel
    rcases Nat.eq_zero_or_pos gk with h0 | h0
    · subst h0
      have hxG : x = G := by have := hg.out; rwa [Nat.gcd_zero_right] at this
      subst hxG
      have d1 : decide (((lim 0).length : Int) > 0) = false := by decide
      obtain ⟨l0, hl0⟩ : ∃ l, l = (lim 0).length := ⟨_, rfl⟩
      rw [← hl0] at d1 ⊢
      have HL := Lib.hid hl0
      have hl00 : l0 ≤ 0 := by rw [hl0, lim_zero]; exact Nat.le_refl _
      clear hl0
      go_wp2_with fail
      go_ret
      exact ⟨A, c, rfl, hA, hx⟩
    · have hp : 0 < (lim gk).length := (lim_len_pos gk).2 (by omega)
      have hdv := div_c hA hB (by rw [nv_lim]; exact h0) (by omega)
      simp only [nv_lim] at hdv
      have hlt := Nat.mod_lt x h0
      have hgg : Nat.gcd gk (x % gk) = G := by rw [← hg.out, Nat.gcd_comm x, Nat.gcd_rec gk x, Nat.gcd_comm]
      have hll : (lim (x % gk)).length ≤ (lim gk).length := lim_pw (Nat.lt_trans hlt (lt_pw_lim gk))
      obtain ⟨m, hm⟩ : ∃ m, m = x % gk := ⟨_, rfl⟩
      obtain ⟨qq, hqq⟩ : ∃ m, m = x / gk := ⟨_, rfl⟩
      rw [← hm, ← hqq] at hdv
      rw [← hm] at hlt hgg hll
      obtain ⟨lk, hlk⟩ : ∃ l, l = (lim gk).length := ⟨_, rfl⟩
      have d1 : decide ((lk : Int) > 0) = true := decide_eq_true (by omega)
      have d2 : decide (0 < lk) = true := decide_eq_true (by omega)
      rw [← hlk] at hdv ⊢
      have HD := Lib.hid hdv; have HLK := Lib.hid hlk; have HGG := Lib.hid hgg
      have hszx := hx.size
      clear hdv hlk hm hqq hgg
      go_wp2_with fail
      refine HD.out.mono ?_
      rintro e w3 ⟨A3, c3, A4, c4, rfl, -, h4, hx3⟩
      go_wp2_with fail
      go_roundg m
      case measure => exact hlt
      case rel => exact ⟨gk, B, d, A4, c4, by rw [HLK.out], rfl, hB.ext hx3, h4.widen fun b hb _ => by omega, HGG, by omega, by omega, hx.trans hx3⟩

theorem zl_mono {x y : Int} (h : x.natAbs ≤ y.natAbs) : zl x ≤ zl y := by
  refine zl_le (Nat.lt_of_le_of_lt h ?_)
  exact lt_pw_zl y
def gcdL (l : List Int) : Nat := l.foldl (fun g x => Nat.gcd g x.natAbs) 0
theorem gcdL_snoc (l : List Int) (x : Int) : gcdL (l ++ [x]) = Nat.gcd (gcdL l) x.natAbs := by simp [gcdL]
theorem gcd_zl {g N : Nat} {x : Int} (hg : zl (g : Int) ≤ N) (hx : zl x ≤ N) : zl ((Nat.gcd g x.natAbs : Nat) : Int) ≤ N := by
  rcases Nat.eq_zero_or_pos g with h0 | h0
  · subst h0
    rw [Nat.gcd_zero_left]
    unfold zl at hx ⊢
    rwa [Int.natAbs_natCast]
  · refine Nat.le_trans (zl_mono ?_) hg
    rw [Int.natAbs_natCast, Int.natAbs_natCast]
    exact Nat.gcd_le_left _ h0

set_option maxHeartbeats 1600000 in
theorem gcd1_c {u v : Value} {x y : Z} {w : World} {X Y : Nat → Prop} (hx : Zi w X u x) (hy : Zi w Y v y) (hLx : x.mag.length ≤ 1099511627770) (hLy : y.mag.length ≤ 1099511627770) :
    Calls Tryz.prog 49 #[u, v] w fun e w' => ∃ r, e = .returned r ∧ Zi w' (w.heap.size ≤ ·) r (cz (Nat.gcd x.v.natAbs y.v.natAbs : Nat)) ∧ Ext w w' := by
  obtain ⟨A, c, rfl, ha⟩ := hx
  obtain ⟨B, d, rfl, hb⟩ := hy
  rw [natAbs_v, natAbs_v]
  obtain ⟨g, hg⟩ : ∃ g, g = Nat.gcd (nv x.mag) (nv y.mag) := ⟨_, rfl⟩
  have hgc := fun (U : World) (hU : Ext w U) => gcd_c (ha.ext hU) (hb.ext hU) hLx hLy
  simp only [← hg] at hgc ⊢
  have hgl : (lim g).length ≤ 4398046511104 := by
    rw [hg]
    rcases Nat.eq_zero_or_pos (nv x.mag) with h0 | h0
    · rw [h0, Nat.gcd_zero_left]
      have := lim_len_le hb.lb; omega
    · have h1 := lim_pw (Nat.lt_of_le_of_lt (Nat.gcd_le_left (nv y.mag) h0) (lt_pw_lim _))
      have := lim_len_le ha.lb; omega
  have HG := Lib.hid hgc
  clear hgc hg
  go_enter Tryz.func49, Tryz.ntmps49
  go_wp2_with fail
  refine (HG.out _ xt).mono ?_
  rintro e w1 ⟨A1, c1, rfl, h1, hx1⟩
  go_wp2_with fail
  refine (made_c h1 hgl).mono ?_
  rintro e w2 ⟨r, rfl, ⟨A2, c2, rfl, h2⟩, hx2⟩
  have hx12 := hx1.trans hx2
  have hc := hx12.cells
  have hs2 := hx12.size
  have hs1 := hx1.size
  simp only [wsz] at hs1 hs2
  have ez : Z.v ⟨false, lim g⟩ = (g : Int) := by simp [Z.v, nv_lim]
  rw [ez] at h2 ⊢
  obtain ⟨zz, hzz⟩ : ∃ z, z = cz (g : Int) := ⟨_, rfl⟩
  rw [← hzz] at h2 ⊢
  have HZZ := Lib.hid hzz
  clear ez hzz
  go_wp2_with fail
  (refine bodyPost_ret (v := ?_) ?_ rfl ?_; rotate_left; (simp only [results, Tryz.results49]; go_simp; (first | done | with_reducible rfl)))
  rw [← HZZ.out]
  refine ⟨_, rfl, ⟨A2, c2, rfl, Nl.widen (X := fun b => w.heap.size + 1 + 1 < b) (Nl.keep (h2.widen fun b hb _ => ?_) ?_) fun b hb _ => ?_⟩, xt⟩
  · have h : w1.heap.size ≤ b := hb
    omega
  · exact kpt
  · have h : w.heap.size + 1 + 1 < b := hb
    omega

set_option maxHeartbeats 3200000 in
theorem folded_c {A : Option Addr} {c N : Nat} {l : List Z} {w : World} {X : Nat → Prop} (h : Zs w X A c l) (hN : N ≤ 1099511627770) (hl : ∀ z ∈ l, z.mag.length ≤ N ∧ zl z.v ≤ N) (hll : l.length ≤ 1099511627776) :
    Calls Tryz.prog 48 #[.slice A l.length c, .agg #[.bool false, .slice none 0 0], .func (.func 49) #[] #[]] w fun e w' => ∃ r, e = .returned r ∧ Zi w' (w.heap.size ≤ ·) r (cz (gcdL (l.map Z.v) : Nat)) ∧ Ext w w' := by
  go_enter Tryz.func48, Tryz.ntmps48
  go_wp2_with fail
  refine wp_named fun W hW => ?_
  have b4 : Box W w.heap.size 24 #[.bool false, .slice none 0 0] := by rw [hW]; exact bxt
  have b6 : Box W (w.heap.size + 1) 24 #[.bool false, .slice none 0 0] := by rw [hW]; exact bxt
  have hE : Ext w W := by rw [hW]; exact xt
  have hsW : w.heap.size + 1 + 1 ≤ W.heap.size := by rw [hW]; simp only [wsz]; omega
  clear hW
  go_loopw [11] (fun iv wr => ∃ (k : Nat) (A4 : Option Addr) (c4 : Nat) (zz : Z), k ≤ l.length ∧ iv = .int .i64 (k : Int) ∧ Hid (zz = cz (gcdL ((l.take k).map Z.v) : Nat)) ∧ zz.mag.length ≤ N ∧ Box wr w.heap.size 24 #[.bool zz.neg, .slice A4 zz.mag.length c4] ∧ Nl wr (fun b => w.heap.size + 1 < b) A4 c4 zz.mag ∧ Box wr (w.heap.size + 1) 24 #[.bool false, .slice none 0 0] ∧ Ext w wr) (fun iv _ => l.length - (intOf iv).toNat)
  case atStart => exact ⟨0, none, 0, ⟨false, []⟩, Nat.zero_le _, rfl, Lib.hid rfl, Nat.zero_le _, b4, Sl.nil0 _ _ _, b6, hE⟩
  case round =>
    obtain ⟨k, A4, c4, zz, hk, rfl, HZ, hzl, q4, n4, q6, hx⟩ := hrel
    have q4r := q4.rules; have q4l := q4.lt
    have q6r := q6.rules; have q6l := q6.lt
    by_cases hlt : k < l.length
    · obtain ⟨b, o, B, d, rfl, -, p0, p1, hB⟩ := Zs.at_ (h.ext hx) hlt
      have hbl : b < wr.heap.size := World.block_lt_of_cell? _ _ p0
      obtain ⟨hxl, hxz⟩ := hl _ (zth_mem hlt)
      have hst : cz ((Nat.gcd zz.v.natAbs (zth l k).v.natAbs : Nat) : Int) = cz (gcdL ((l.take (k + 1)).map Z.v) : Nat) := by
        rw [take_zth l k hlt, List.map_append, List.map_cons, List.map_nil, gcdL_snoc, HZ.out, cz_v, Int.natAbs_natCast]
      have hnl : (cz (gcdL ((l.take (k + 1)).map Z.v) : Nat)).mag.length ≤ N := by
        rw [← hst, cz_len]
        have h1 : zl zz.v ≤ N := by rw [HZ.out, cz_v, ← cz_len, ← HZ.out]; exact hzl
        have h2 : zl ((zz.v.natAbs : Nat) : Int) ≤ N := by unfold zl at h1 ⊢; rwa [Int.natAbs_natCast]
        exact gcd_zl h2 hxz
      obtain ⟨x, hxd⟩ : ∃ x, x = zth l k := ⟨_, rfl⟩
      rw [← hxd] at p0 p1 hB hxl hst
      have hgc := fun (U : World) (hU : Ext wr U) => gcd1_c (⟨A4, c4, rfl, n4.ext hU⟩ : Zi U _ (.agg #[.bool zz.neg, .slice A4 zz.mag.length c4]) zz) (⟨B, d, rfl, hB.ext hU⟩ : Zi U _ (.agg #[.bool x.neg, .slice B x.mag.length d]) x) (by omega) (by omega)
      rw [hst] at hgc
      obtain ⟨zn, hzn⟩ : ∃ z, z = cz (gcdL ((l.take (k + 1)).map Z.v) : Nat) := ⟨_, rfl⟩
      rw [← hzn] at hgc hnl
      have HG := Lib.hid hgc; have HZN := Lib.hid hzn
      clear hgc hst hzn hxd hxz HZ
      go_wp2_with fail
      refine (HG.out _ xt).mono ?_
      rintro e w1 ⟨_, rfl, ⟨A5, c5, rfl, h5⟩, hx1⟩
      have hx2 : Ext wr w1 := ((Ext.refl wr).alloc _).trans hx1
      have r4 := q4.ext hx2; have r6 := q6.ext hx2
      have r4r := r4.rules; have r4l := r4.lt
      have hs1 := hx1.size; have hs2 := hx2.size
      simp only [wsz] at hs1
      clear q4r q6r
      go_wp2_with fail
      go_roundw
      case rel =>
        refine ⟨k + 1, A5, c5, zn, by omega, by go_num, HZN, hnl, (r4.set_ 0 _).set_ 1 _, ?_, (r6.far (by simp only; omega) _).far (by simp only; omega) _, ((hx.trans hx2).setCell (Nat.le_refl _) _).setCell (Nat.le_refl _) _⟩
        refine Nl.keep (h5.widen fun b hb _ => ?_) (((Kp.refl w1).setCell (by simp only; omega) _).setCell (by simp only; omega) _)
        have h : (wr.alloc (.cells #[.bool x.neg, .slice B x.mag.length d] 24)).heap.size ≤ b := hb
        simp only [wsz] at h
        omega
      case measure => simp [intOf] <;> omega
    · obtain rfl : k = l.length := by omega
      have hz := HZ.out
      rw [List.take_of_length_le (Nat.le_refl _)] at hz
      have HZ2 := Lib.hid hz
      clear hz HZ
      go_wp2_with fail
      (refine bodyPost_ret (v := ?_) ?_ rfl ?_; rotate_left; (simp only [results, Tryz.results48]; go_simp; (first | done | with_reducible rfl)))
      rw [← HZ2.out]
      refine ⟨_, rfl, ⟨A4, c4, rfl, Nl.widen (X := fun b => w.heap.size + 1 < b) (Nl.keep n4 ?_) fun b hb _ => ?_⟩, xt⟩
      · exact kpt
      · have h : w.heap.size + 1 < b := hb
        omega

set_option maxHeartbeats 1600000 in
theorem zgcd_c {A : Option Addr} {c N : Nat} {l : List Z} {w : World} {X : Nat → Prop} (h : Zs w X A c l) (hN : N ≤ 1099511627770) (hl : ∀ z ∈ l, z.mag.length ≤ N ∧ zl z.v ≤ N) (hll : l.length ≤ 1099511627776) :
    Calls Tryz.prog 13 #[.slice A l.length c] w fun e w' => ∃ r, e = .returned r ∧ Zi w' (w.heap.size ≤ ·) r (cz (gcdL (l.map Z.v) : Nat)) ∧ Ext w w' := by
  obtain ⟨zz, hzz⟩ : ∃ z, z = cz (gcdL (l.map Z.v) : Nat) := ⟨_, rfl⟩
  have hf := fun (U : World) (hU : Ext w U) => folded_c (h.ext hU) hN hl hll
  simp only [← hzz] at hf ⊢
  have HF := Lib.hid hf
  clear hf hzz
  go_enter Tryz.func13, Tryz.ntmps13
  go_wp2_with fail
  refine (HF.out _ xt).mono ?_
  rintro e w1 ⟨_, rfl, ⟨A2, c2, rfl, h2⟩, hx1⟩
  have hc := hx1.cells
  have hs1 := hx1.size
  simp only [wsz] at hs1
  go_wp2_with fail
  (refine bodyPost_ret (v := ?_) ?_ rfl ?_; rotate_left; (simp only [results, Tryz.results13]; go_simp; (first | done | with_reducible rfl)))
  refine ⟨_, rfl, ⟨A2, c2, rfl, Nl.widen (X := fun b => w.heap.size < b) (Nl.keep (h2.widen fun b hb _ => ?_) ?_) fun b hb _ => ?_⟩, xt⟩
  · have h : (w.alloc (.cells #[.bool false, .slice none 0 0] 24)).heap.size ≤ b := hb
    simp only [wsz] at h
    omega
  · exact kpt
  · have h : w.heap.size < b := hb
    omega

end Go.Proofs.YthmjgbkakjpfkaaGreatDoor
