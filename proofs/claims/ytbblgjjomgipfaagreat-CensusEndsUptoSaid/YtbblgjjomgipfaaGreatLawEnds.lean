/- riddlelaw19.CensusEnds. No conditions. -/
import Derived.Test.YtbblgjjomgipfaaGreatLawFinds
import Derived.Test.YtbblgjjomgipfaaGreatFin
namespace Go.Proofs.YtbblgjjomgipfaaGreat
open Go.RowKit Go.Shelf

/-- A number in a box. -/
def Bx (V : World) (g : Nat) (z : Z) : Prop := ∃ A c, Box V g 25 #[.bool z.neg, .slice A z.mag.length c] ∧ Nl V (fun _ => True) A c z.mag
theorem Bx.ext {V V' : World} {g : Nat} {z : Z} (h : Bx V g z) (k : Ext V V') : Bx V' g z := let ⟨A, c, h1, h2⟩ := h; ⟨A, c, h1.ext k, h2.ext k⟩
theorem Nl.set2 {V : World} {A : Option Addr} {c g : Nat} {l : List Nat} {b : Bool} {B : Option Addr} {n m : Nat} (h : Nl V (fun _ => True) A c l) (hb : Box V g 25 #[.bool b, .slice B n m]) (u0 u1 : Value) : Nl ((V.setCell ⟨g, 0, none⟩ u0).setCell ⟨g, 1, none⟩ u1) (fun _ => True) A c l :=
  ((h.off hb (by simp)).keep (((Kp.refl V).setCell (fun h => h.2 rfl) _).setCell (fun h => h.2 rfl) _)).widen fun _ _ _ => trivial
/-- A number is written into a box. -/
theorem Bx.put {V : World} {A : Option Addr} {c g : Nat} {z : Z} {b : Bool} {B : Option Addr} {n m : Nat} (h : Nl V (fun _ => True) A c z.mag) (hb : Box V g 25 #[.bool b, .slice B n m]) : Bx ((V.setCell ⟨g, 0, none⟩ (.bool z.neg)).setCell ⟨g, 1, none⟩ (.slice A z.mag.length c)) g z :=
  ⟨A, c, (hb.set_ 0 _).set_ 1 _, h.set2 hb _ _⟩
theorem Bx.far {V : World} {g k : Nat} {z : Z} {b : Bool} {B : Option Addr} {n m : Nat} (h : Bx V k z) (hb : Box V g 25 #[.bool b, .slice B n m]) (hk : k ≠ g) (u0 u1 : Value) : Bx ((V.setCell ⟨g, 0, none⟩ u0).setCell ⟨g, 1, none⟩ u1) k z :=
  let ⟨A, c, h1, h2⟩ := h
  ⟨A, c, (h1.far hk _).far hk _, h2.set2 hb _ _⟩
theorem cut_len {s : Ps} {N k : Nat} (hs : s.ok N) (hk : k < s.cuts.length) : (zth s.cuts k).mag.length ≤ N ∧ zl (zth s.cuts k).v ≤ N := by
  obtain ⟨h1, h2⟩ := hs.cut _ (zth_mem hk)
  exact ⟨h1, by rw [← cz_len, h2]; exact h1⟩
theorem endL_len {s : Ps} {N : Nat} (hs : s.ok N) : (endL s).mag.length ≤ N ∧ zl (endL s).v ≤ N := by
  by_cases h0 : s.cuts.length = 0
  · rw [endL, if_pos h0]; exact ⟨Nat.zero_le _, by rw [cz_v]; exact Nat.zero_le _⟩
  · rw [endL, if_neg h0]; exact cut_len hs (by omega)
theorem endH_len {s : Ps} {N : Nat} (hs : s.ok N) : (endH s).mag.length ≤ N ∧ zl (endH s).v ≤ N := by
  by_cases h0 : s.cuts.length = 0
  · rw [endH, if_pos h0]; exact ⟨Nat.zero_le _, by rw [cz_v]; exact Nat.zero_le _⟩
  · rw [endH, if_neg h0]; exact cut_len hs (by omega)
theorem lstE_zl {s : Ps} {N : Nat} {y : Int} (hs : s.ok N) (hN : 1 ≤ N) (h : lstE s = some y) : zl y ≤ N + 1 := by
  rw [lstE] at h
  by_cases h0 : s.cuts.length = 0
  · rw [if_pos (by simp [h0])] at h; cases h
  · cases hl : lowV s with
    | true => rw [hl, if_pos (by simp)] at h; cases h
    | false =>
      rw [hl, if_neg (by simp [h0])] at h
      exact nxt_zl hs h (cut_len hs (by omega)).2 (Nat.le_refl _) hN
theorem abs_zl (x : Int) : (cz ((x.natAbs : Nat) : Int)).mag.length = zl x := by
  rw [cz_len]; unfold zl; rw [Int.natAbs_natCast]

set_option maxRecDepth 100000 in
set_option maxHeartbeats 20000000 in
theorem lawends_c {ms : List Mk} {v : Value} {i : Int} {z : Z} {w : World} {X Y : Nat → Prop} {A : Option Addr} {c N : Nat} (hm : Ms w X A c ms) (hz : Zi w Y v z) (hN : 2 ≤ N) (hN2 : N ≤ 4294967296) (hsz : ∀ m ∈ ms, m.sz N) (hi : i64 i) (hzl : z.mag.length ≤ N) :
    Calls Tryz.prog 6 #[.slice A ms.length c, .int .i64 i, v] w fun e w' => e = .returned (.bool true) ∧ Ext w w' := by
  obtain ⟨Az, az, rfl, nz⟩ := hz
  have nz := nz.widen (Y := (· < w.heap.size)) fun b _ h => h
  go_enter Tryz.func6, Tryz.ntmps6
  go_upto_region 1 with fail
  refine wp_named fun W hW => ?_
  have b5 : Box W w.heap.size 25 #[.bool z.neg, .slice Az z.mag.length az] := by rw [hW]; exact (by repeat (first | with_reducible assumption | with_reducible exact Box.new _ _ _ | (with_reducible refine Box.new_at _ _ _ ?_; (simp only [wsz]; done)) | with_reducible refine Box.drewN ?_ _ | with_reducible refine Box.drew ?_ | with_reducible refine Box.alloc ?_ _ | with_reducible apply Box.drewN | with_reducible apply Box.drew | with_reducible apply Box.alloc | with_reducible refine Box.set_ ?_ _ _ | (with_reducible refine Box.far ?_ ?_ _; rotate_left; (simp only [ne_eq]; omega)) | (with_reducible refine Box.ext ?_ (by with_reducible assumption)) | (refine Box.new_at _ _ _ ?_; simp only [wsz]; done)))
  have hE1 : Ext w W := by rw [hW]; exact (by repeat (first | with_reducible assumption | with_reducible exact Ext.refl _ | with_reducible refine Ext.drewN ?_ _ | with_reducible refine Ext.drew ?_ | with_reducible refine Ext.alloc ?_ _ | (with_reducible refine Ext.setCell ?_ ?_ _; rotate_left; (first | exact Nat.le_refl _ | (dsimp only; omega) | (simp only [wsz]; omega))) | (with_reducible refine Ext.trans ?_ (by with_reducible assumption))))
  clear hW
  have hst := fun (U : World) (hU : Ext w U) => sets_c (Sl.keep hm (.of_ext hU)) hN hN2 hsz
  go_wp2_with fail
  refine (hst _ hE1).mono ?_
  rintro e w1 ⟨r, rfl, hO, hx1⟩
  have hE2 := hE1.trans hx1
  have c5 := b5.ext hx1
  obtain ⟨l, hl⟩ : ∃ l, l = buildF ms := ⟨_, rfl⟩
  rw [← hl] at hO
  obtain ⟨hpos, hl13, hok⟩ := build_ok hm (by omega) hsz
  rw [← hl] at hpos hl13 hok
  clear hl hst
  obtain ⟨AL, cL, rfl, hpy, hlc, hlcm⟩ := Own.ppy hO hpos
  have ik := pickN_lt i hpos
  have hsk := (hok _ (sth_mem ik)).1
  have hp := pick19_c i hi l.length hpos (by omega)
  obtain ⟨kk, hkk⟩ : ∃ kk, kk = pickN i l.length := ⟨_, rfl⟩
  rw [← hkk] at ik hsk hp
  obtain ⟨b, o, rfl, hat⟩ := hpy
  obtain ⟨g, qg, hS⟩ := hat kk ik
  have qgl := World.block_lt_of_cell? _ _ qg
  have kl : (kk : Int) < (l.length : Int) := by omega
  obtain ⟨s, hs⟩ : ∃ s, s = sth l kk := ⟨_, rfl⟩
  rw [← hs] at hsk hS
  clear hat hkk hs hO hok hm
  obtain ⟨n, hn⟩ : ∃ n, n = l.length := ⟨_, rfl⟩
  rw [← hn] at kl hp hlc ⊢
  have hnil := fun (U : World) => Lib.run_eql_slice_nil (P := Tryz.prog) U 28 31 (some ⟨b, o, none⟩) n cL 0 0 Tryz.underlying28
  have hsome : (some (⟨b, o, none⟩ : Addr)).isNone = false := rfl
  clear hn hpos hl13 ik
  go_wp2_with fail
  refine (known_c _).mono ?_
  rintro e w2 ⟨rfl, hx2⟩
  have hx12 : Ext w1 w2 := (by repeat (first | with_reducible assumption | with_reducible exact Ext.refl _ | with_reducible refine Ext.drewN ?_ _ | with_reducible refine Ext.drew ?_ | with_reducible refine Ext.alloc ?_ _ | (with_reducible refine Ext.setCell ?_ ?_ _; rotate_left; (first | exact Nat.le_refl _ | (dsimp only; omega) | (simp only [wsz]; omega))) | (with_reducible refine Ext.trans ?_ (by with_reducible assumption))))
  have q2 := (hx12.cells.1 b _ qgl).trans qg
  have q2l := Nat.lt_of_lt_of_le qgl hx12.size
  go_wp2_with fail
  refine (hp _).mono ?_
  rintro e w3 ⟨rfl, hx3⟩
  have hx13 := hx12.trans hx3
  have q3 := (hx3.cells.1 b _ q2l).trans q2
  have q3l := Nat.lt_of_lt_of_le q2l hx3.size
  have d5 := c5.ext hx13
  have hE3 := hE2.trans hx13
  have hS3 := hS.ext hx13
  clear q2 q2l
  go_upto_region 5 with fail
  refine wp_named fun V5 hV5 => ?_
  have hE5 : Ext w V5 := by rw [hV5]; exact hE3
  have hS5 : SetV V5 (fun _ => True) g s := by rw [hV5]; exact hS3.widen (Y := fun _ => True) fun _ _ _ => trivial
  have m5 : Box V5 w.heap.size 25 #[.bool z.neg, .slice Az z.mag.length az] := by rw [hV5]; exact d5
  clear hV5 hS3 hS hE3 d5 c5 b5 q3 q3l hp hnil hsome kl qgl qg hlcm hlc hE2 hE1 hx13 hx12 hx1 hx2 hx3 hsz
  have hcl := hsk.len
  have hnum := fun (k : Int) (h1 : -9223372036854775808 ≤ k) (h2 : k ≤ 9223372036854775807) (U : World) => lnum_c k h1 h2 U
  have hn0 := hnum 0 (by omega) (by omega)
  have hn1 := hnum 1 (by omega) (by omega)
  obtain ⟨z0, hz0⟩ : ∃ z, z = cz 0 := ⟨_, rfl⟩
  obtain ⟨z1, hz1⟩ : ∃ z, z = cz 1 := ⟨_, rfl⟩
  rw [← hz0] at hn0
  rw [← hz1] at hn1
  have hcu := cuts_c hS5 hsk (by omega)
  obtain ⟨nc, hnc⟩ : ∃ n, n = s.cuts.length := ⟨_, rfl⟩
  rw [← hnc] at hcu hcl
  have HN0 := Lib.hid hn0; have HN1 := Lib.hid hn1; have HNC := Lib.hid hnc; have HZ0 := Lib.hid hz0; have HZ1 := Lib.hid hz1; have HCU := Lib.hid hcu
  clear hn0 hn1 hnum hnc hz0 hz1 hcu
  go_wp2_with fail
  refine HCU.out.mono ?_
  rintro e w6 ⟨AC, cC, rfl, hC, hx6⟩
  go_wp2_with fail
  refine (HN0.out _).mono ?_
  rintro e w7 ⟨_, rfl, ⟨A10, a10, rfl, n10⟩, hx7⟩
  go_wp2_with fail
  refine (HN0.out _).mono ?_
  rintro e w8 ⟨_, rfl, ⟨A11, a11, rfl, n11⟩, hx8⟩
  go_upto_if 44 with fail
  refine wp_named fun V8 hV8 => ?_
  have b10 : Box V8 w7.heap.size 25 #[.bool z0.neg, .slice A10 z0.mag.length a10] := by rw [hV8]; exact ((Box.new w7 _ _).ext hx8).alloc _
  have b11 : Box V8 w8.heap.size 25 #[.bool z0.neg, .slice A11 z0.mag.length a11] := by rw [hV8]; exact Box.new _ _ _
  have hx78 : Ext w7 V8 := by rw [hV8]; exact (by repeat (first | with_reducible assumption | with_reducible exact Ext.refl _ | with_reducible refine Ext.drewN ?_ _ | with_reducible refine Ext.drew ?_ | with_reducible refine Ext.alloc ?_ _ | (with_reducible refine Ext.setCell ?_ ?_ _; rotate_left; (first | exact Nat.le_refl _ | (dsimp only; omega) | (simp only [wsz]; omega))) | (with_reducible refine Ext.trans ?_ (by with_reducible assumption))))
  have hx88 : Ext w8 V8 := by rw [hV8]; exact (by repeat (first | with_reducible assumption | with_reducible exact Ext.refl _ | with_reducible refine Ext.drewN ?_ _ | with_reducible refine Ext.drew ?_ | with_reducible refine Ext.alloc ?_ _ | (with_reducible refine Ext.setCell ?_ ?_ _; rotate_left; (first | exact Nat.le_refl _ | (dsimp only; omega) | (simp only [wsz]; omega))) | (with_reducible refine Ext.trans ?_ (by with_reducible assumption))))
  have hs67 := hx7.size
  have hs78 := hx8.size
  simp only [wsz] at hs78
  have hx68 := hx7.trans hx78
  have hx58 := hx6.trans hx68
  have hs56 := hx6.size
  have hm10 := (n10.ext hx78).widen (Y := fun _ => True) fun _ _ _ => trivial
  have hm11 := (n11.ext hx88).widen (Y := fun _ => True) fun _ _ _ => trivial
  have hC8 := hC.ext hx68
  have hCb := hC
  clear hV8 hx78 hx88 hx68 hx8 hx7 hx6 hC n10 n11
  go_cut [] (fun wx => Bx wx w7.heap.size (endL s) ∧ Bx wx w8.heap.size (endH s) ∧ Ext V5 wx)
  case first => as_aux_lemma =>
    by_cases h0 : nc = 0
    · have d1 : decide ((nc : Int) > 0) = false := decide_eq_false (by omega)
      have d2 : decide (0 < nc) = false := decide_eq_false (by omega)
      have e1 : endL s = z0 := by rw [endL, if_pos (by rw [← HNC.out]; exact h0), HZ0.out]
      have e2 : endH s = z0 := by rw [endH, if_pos (by rw [← HNC.out]; exact h0), HZ0.out]
      have E1 := Lib.hid e1; have E2 := Lib.hid e2
      clear e1 e2
      have h0' : nc ≤ 0 := by omega
      clear h0
      go_wp2_with fail
      go_meet
      rw [E1.out, E2.out]
      exact ⟨⟨_, _, b10, hm10⟩, ⟨_, _, b11, hm11⟩, hx58⟩
    · have d1 : decide ((nc : Int) > 0) = true := decide_eq_true (by omega)
      have d2 : decide (0 < nc) = true := decide_eq_true (by omega)
      obtain ⟨j, hj⟩ : ∃ j, nc = j + 1 := ⟨nc - 1, by omega⟩
      have hc0 : s.cuts.length = nc := HNC.out.symm
      obtain ⟨bb, oo, B, d, rfl, hX, q0, q1, hB⟩ := Zs.at_ hC8 (k := 0) (by omega)
      obtain ⟨b9, o9, B9, d9, hA9, -, q2, q3, hB9⟩ := Zs.at_ hC8 (k := j) (by omega)
      obtain ⟨rfl, rfl⟩ : bb = b9 ∧ oo = o9 := by
        have h9 := Option.some.inj hA9
        exact ⟨congrArg Addr.block h9, congrArg Addr.off h9⟩
      have hb6 : bb < w6.heap.size := by
        obtain ⟨b', _, _, _, hA', -, q', -, -⟩ := Zs.at_ hCb (k := 0) (by omega)
        have h9 := congrArg Addr.block (Option.some.inj hA')
        have := World.block_lt_of_cell? _ _ q'
        simp only at h9 this
        omega
      simp only [Nat.zero_mul, Nat.add_zero] at q0 q1
      have e1 : endL s = zth s.cuts 0 := by rw [endL, if_neg (by omega)]
      have e2 : endH s = zth s.cuts j := by rw [endH, if_neg (by omega), hc0, hj]; rfl
      have E1 := Lib.hid e1; have E2 := Lib.hid e2
      have il0 : (0 : Int) < (nc : Int) := by omega
      have il2 : (j : Int) < (nc : Int) := by omega
      have iw := w64n (n := j) (by omega)
      have iw2 := w64n (n := nc) (by omega)
      have ei : (nc : Int) - 1 = (j : Int) := by omega
      have hne0 : bb ≠ w7.heap.size := by omega
      have hne1 : bb ≠ w8.heap.size := by omega
      have hbl : bb < V8.heap.size := World.block_lt_of_cell? _ _ q0
      obtain ⟨za, hza⟩ : ∃ z, z = zth s.cuts 0 := ⟨_, rfl⟩
      obtain ⟨zb, hzb⟩ : ∃ z, z = zth s.cuts j := ⟨_, rfl⟩
      rw [← hza] at q0 q1 hB e1
      rw [← hzb] at q2 q3 hB9 e2
      have E1 := Lib.hid e1; have E2 := Lib.hid e2
      clear e1 e2 hza hzb hA9 hc0 hj h0
      have b10r := b10.rules; have b10l := b10.lt
      have b11l := b11.lt
      go_upto_region 10 with fail
      refine wp_named fun V9 hV9 => ?_
      have c10 : Box V9 w7.heap.size 25 #[.bool za.neg, .slice B za.mag.length d] := by rw [hV9]; exact (b10.set_ 0 _).set_ 1 _
      have c11 : Box V9 w8.heap.size 25 #[.bool z0.neg, .slice A11 z0.mag.length a11] := by rw [hV9]; exact (b11.far (by simp only; omega) _).far (by simp only; omega) _
      have hx59 : Ext V5 V9 := by rw [hV9]; exact (hx58.setCell (by simp only; omega) _).setCell (by simp only; omega) _
      have hk89 : Kp (fun b => b ≠ w7.heap.size) V8 V9 := by rw [hV9]; exact (((Kp.refl V8).setCell (fun h => h rfl) _).setCell (fun h => h rfl) _)
      have p2 : V9.cell? ⟨bb, oo + j * 2, none⟩ = some (.bool zb.neg) := (World.cell?_of_block (hk89 bb hne0 hbl)).trans q2
      have p3 : V9.cell? ⟨bb, oo + j * 2 + 1, none⟩ = some (.slice B9 zb.mag.length d9) := (World.cell?_of_block (hk89 bb hne0 hbl)).trans q3
      have hB' : Nl V9 (fun _ => True) B d za.mag := by rw [hV9]; exact (hB.widen (Y := fun _ => True) fun _ _ _ => trivial).set2 b10 _ _
      have hB9' : Nl V9 (fun _ => True) B9 d9 zb.mag := by rw [hV9]; exact (hB9.widen (Y := fun _ => True) fun _ _ _ => trivial).set2 b10 _ _
      clear hV9 b10 b11 b10r b10l b11l q0 q1 q2 q3 hB hB9 hk89 hx58 hm10 hm11 hC8 hCb
      have c11r := c11.rules; have c11l := c11.lt
      go_wp2_with fail
      go_meet
      rw [E1.out, E2.out]
      exact ⟨Bx.far ⟨_, _, c10, hB'⟩ c11 (by omega) _ _, Bx.put hB9' c11, (hx59.setCell (by simp only; omega) _).setCell (by simp only; omega) _⟩
  obtain ⟨x10, x11, hx5⟩ := hcut
  have hE0 : Ext w wc := hE5.trans hx5
  obtain ⟨V, hV, rfl⟩ : ∃ V, Ext V5 V ∧ V = wc := ⟨_, hx5, rfl⟩
  have hx5s := hx5.size
  obtain ⟨e10, he10⟩ : ∃ g, g = w7.heap.size := ⟨_, rfl⟩
  obtain ⟨e11, he11⟩ : ∃ g, g = w8.heap.size := ⟨_, rfl⟩
  rw [← he10] at x10 ⊢
  rw [← he11] at x11 ⊢
  have hl10 : V5.heap.size ≤ e10 := by omega
  have hl11 : V5.heap.size ≤ e11 := by omega
  have hne : e10 < e11 := by omega
  clear he10 he11 hx58 hs56 hs67 hs78 hm10 hm11 hC8 hCb b10 b11 HCU hcl HNC HZ0
  obtain ⟨zlo, hzlo⟩ : ∃ z, z = endL s := ⟨_, rfl⟩
  obtain ⟨zhi, hzhi⟩ : ∃ z, z = endH s := ⟨_, rfl⟩
  rw [← hzlo] at x10
  rw [← hzhi] at x11
  obtain ⟨zd, hzd⟩ : ∃ x, x = cz ((z.v.natAbs : Nat) : Int) := ⟨_, rfl⟩
  obtain ⟨zf, hzf⟩ : ∃ z, z = cz ((finV s).getD 0) := ⟨_, rfl⟩
  obtain ⟨bf, hbf⟩ : ∃ z, z = (finV s).isSome := ⟨_, rfl⟩
  obtain ⟨zm, hzm⟩ : ∃ z, z = cz ((lstE s).getD 0) := ⟨_, rfl⟩
  obtain ⟨bm, hbm⟩ : ∃ z, z = (lstE s).isSome := ⟨_, rfl⟩
  obtain ⟨zo, hzo⟩ : ∃ z, z = cz ((finV (restP s)).getD 0) := ⟨_, rfl⟩
  obtain ⟨bo, hbo⟩ : ∃ z, z = (finV (restP s)).isSome := ⟨_, rfl⟩
  have hro := rest_ok hsk
  have zz : zl z.v ≤ N := Nat.le_trans (zl_of nz.lt) hzl
  have hzdl : zd.mag.length ≤ N := by rw [hzd, abs_zl]; exact zz
  have hab := fun (U : World) (hU : Ext V U) => rabs_c (⟨Az, az, rfl, nz.ext (hE0.trans hU)⟩ : Zi U (· < w.heap.size) (.agg #[.bool z.neg, .slice Az z.mag.length az]) z) (by omega)
  have hfi := fun (U : World) (hU : Ext V U) => finite_c (hS5.ext (hV.trans hU)) hsk (by omega)
  have hle := fun (U : World) (hU : Ext V U) => least_c (hS5.ext (hV.trans hU)) hsk (by omega)
  have hre := fun (U : World) (hU : Ext V U) => rest_c (hS5.ext (hV.trans hU)) hsk
  have hfr := fun (U : World) (Q : Nat → Prop) (r : Nat) (hr : SetV U Q r (restP s)) => finite_c hr hro (by omega)
  have hha := fun (U : World) (hU : Ext V U) (Q : Nat → Prop) (v : Value) (y : Z) (hr : Zi U Q v y) (hy : y.mag.length ≤ N + 5) => has_c (hS5.ext (hV.trans hU)) hsk hr (by omega)
  have hco := fun (U : World) (hU : Ext V U) (Q Q' : Nat → Prop) (v v' : Value) (y y' : Z) (hr : Zi U Q v y) (hr' : Zi U Q' v' y') (hy : y.mag.length ≤ N + 5) (hy' : y'.mag.length ≤ N + 5) => count_c (hS5.ext (hV.trans hU)) hsk (L := N + 5) (by omega) (by omega) hr hr' hy hy'
  simp only [← hzd] at hab
  simp only [← hzf, ← hbf] at hfi
  simp only [← hzm, ← hbm] at hle
  simp only [← hzo, ← hbo] at hfr
  have HA := Lib.hid hab; have HF := Lib.hid hfi; have HL := Lib.hid hle; have HR := Lib.hid hre; have HFR := Lib.hid hfr; have HH := Lib.hid hha; have HC := Lib.hid hco
  have HZD := Lib.hid hzd; have HZF := Lib.hid hzf; have HBF := Lib.hid hbf; have HZM := Lib.hid hzm; have HBM := Lib.hid hbm; have HBO := Lib.hid hbo; have HLO := Lib.hid hzlo; have HHI := Lib.hid hzhi
  have m5 := m5.ext hV
  clear hab hfi hle hre hfr hha hco hzd hzf hbf hzm hbm hzo hbo hzlo hzhi
  have m5r := m5.rules; have m5l := m5.lt
  go_upto_region 11 with fail
  go_wp2_with fail
  refine (HA.out _ (Ext.refl V)).mono ?_
  rintro e w9 ⟨_, rfl, ⟨A12, a12, rfl, n12⟩, hx9⟩
  clear m5r m5l m5 nz
  go_upto_region 12 with fail
  refine wp_named fun V9 hV9 => ?_
  have x12 : Bx V9 w9.heap.size zd := by rw [hV9]; exact ⟨A12, a12, Box.new _ _ _, (n12.ext ((Ext.refl w9).alloc _)).widen fun _ _ _ => trivial⟩
  have hy9 : Ext V V9 := by rw [hV9]; exact hx9.alloc _
  have x10 := x10.ext hy9; have x11 := x11.ext hy9
  have hz9 := hx9.size
  clear hV9 hx9 n12
  go_wp2_with fail
  refine (HF.out _ hy9).mono ?_
  rintro e w10 ⟨_, rfl, ⟨A13, a13, rfl, n13⟩, hx10⟩
  go_upto_region 13 with fail
  refine wp_named fun V10 hV10 => ?_
  have x13 : Bx V10 w10.heap.size zf := by rw [hV10]; exact ⟨A13, a13, Box.new _ _ _, (n13.ext ((Ext.refl w10).alloc _)).widen fun _ _ _ => trivial⟩
  have hy910 : Ext V9 V10 := by rw [hV10]; exact hx10.alloc _
  have x10 := x10.ext hy910; have x11 := x11.ext hy910; have x12 := x12.ext hy910
  have hy10 := hy9.trans hy910
  clear hV10 hx10 n13
  go_wp2_with fail
  refine (HL.out _ hy10).mono ?_
  rintro e w11 ⟨_, rfl, ⟨A15, a15, rfl, n15⟩, hx11⟩
  go_upto_region 14 with fail
  refine wp_named fun V11 hV11 => ?_
  have x15 : Bx V11 w11.heap.size zm := by rw [hV11]; exact ⟨A15, a15, Box.new _ _ _, (n15.ext ((Ext.refl w11).alloc _)).widen fun _ _ _ => trivial⟩
  have hy1011 : Ext V10 V11 := by rw [hV11]; exact hx11.alloc _
  have x10 := x10.ext hy1011; have x11 := x11.ext hy1011; have x12 := x12.ext hy1011; have x13 := x13.ext hy1011
  have hy11 := hy10.trans hy1011
  clear hV11 hx11 n15
  go_wp2_with fail
  refine (HR.out _ hy11).mono ?_
  rintro e w12 ⟨r, rfl, hSr, hx12⟩
  go_wp2_with fail
  refine (HFR.out _ _ _ hSr).mono ?_
  rintro e w13 ⟨_, rfl, ⟨A17, a17, rfl, n17⟩, hx13⟩
  go_upto_region 15 with fail
  refine wp_named fun V12 hV12 => ?_
  have hy1112 : Ext V11 V12 := by rw [hV12]; exact (hx12.trans hx13).alloc _
  have x10 := x10.ext hy1112; have x11 := x11.ext hy1112; have x12 := x12.ext hy1112; have x13 := x13.ext hy1112; have x15 := x15.ext hy1112
  have hy12 := hy11.trans hy1112
  clear hV12 hx12 hx13 n17 hSr hy9 hy910 hy10 hy1011 hy11 hy1112 HA HF HL HR HFR
  go_cut [75] (fun v wx => v = .bool false ∧ Ext V12 wx)
  case first => as_aux_lemma =>
    have hnot := fin_not hsk
    rw [← HBF.out, ← HBO.out] at hnot
    cases bf with
    | false =>
      clear hnot
      go_wp2_with fail
      go_meet
      exact ⟨rfl, Ext.refl _⟩
    | true =>
      obtain rfl : bo = false := by simpa using hnot
      clear hnot
      go_wp2_with fail
      go_meet
      exact ⟨rfl, Ext.refl _⟩
  obtain ⟨rfl, hx12⟩ := hcut
  have hy13 := hy12.trans hx12
  have x10 := x10.ext hx12; have x11 := x11.ext hx12; have x12 := x12.ext hx12; have x13 := x13.ext hx12; have x15 := x15.ext hx12
  obtain ⟨V13, rfl⟩ : ∃ U, U = wc := ⟨_, rfl⟩
  clear hx12 hy12
  go_upto_if 76 with fail
  go_cut [] (fun wx => Ext V13 wx)
  case first => as_aux_lemma =>
    cases hls : lstE s with
    | none =>
      obtain rfl : bm = false := by rw [HBM.out, hls]; rfl
      clear hls
      go_wp2_with fail
      go_meet
      exact Ext.refl _
    | some y =>
      obtain rfl : bm = true := by rw [HBM.out, hls]; rfl
      have ezm : zm = cz y := by rw [HZM.out, hls]; rfl
      have zmv : zm.v = y := by rw [ezm, cz_v]
      have zyl : zl y ≤ N + 2 := lstE_zl hsk (by omega) hls
      have zml : zm.mag.length ≤ N + 2 := by rw [ezm, cz_len]; exact zyl
      have hhas := (lstE_prop hsk hls).1
      have hh := fun (U : World) (hU : Ext V U) (Q : Nat → Prop) (v : Value) (hr : Zi U Q v zm) => HH.out U hU Q v zm hr (by omega)
      rw [zmv, hhas] at hh
      obtain ⟨zs, hzs⟩ : ∃ z, z = cz (zm.v - zd.v) := ⟨_, rfl⟩
      have hzdv : 0 ≤ zd.v := by rw [HZD.out, cz_v]; omega
      have zdz : zl zd.v ≤ N + 2 := by rw [HZD.out, cz_v, ← cz_len, abs_zl]; omega
      have zsl : zs.mag.length ≤ N + 5 := by
        rw [hzs, cz_len]
        have := zl_sub (k := N + 2) (x := zm.v) (y := zd.v) (by rw [zmv]; exact zyl) zdz
        omega
      have hzsv : zs.v ≤ y := by rw [hzs, cz_v, zmv]; omega
      have hc := fun (U : World) (hU : Ext V U) (Q Q' : Nat → Prop) (v v' : Value) (hr : Zi U Q v zs) (hr' : Zi U Q' v' zm) => HC.out U hU Q Q' v v' zs zm hr hr' zsl (by omega)
      rw [zmv, lstE_count hsk hls hzsv] at hc
      simp only [← HZ1.out] at hc
      have hsu := fun (U : World) (Q Q' : Nat → Prop) (v v' : Value) (hr : Zi U Q v zm) (hr' : Zi U Q' v' zd) => rsubz_c hr hr' (by omega) (by omega)
      simp only [← hzs] at hsu
      have HHs := Lib.hid hh; have HCo := Lib.hid hc; have HSu := Lib.hid hsu
      clear hls ezm zmv hhas hh hzs hzdv hzsv hc hsu
      obtain ⟨A12, a12, k12, n12⟩ := x12
      obtain ⟨A15, a15, k15, n15⟩ := x15
      have k12l := k12.lt; have k15l := k15.lt
      go_wp2_with fail
      refine wp_region_free [(0, 78, []), (1, 79, []), (2, 80, []), (3, 81, [(1, 79), (2, 80)]), (4, 82, []), (5, 83, [(0, 78), (3, 81), (4, 82)]), (6, 77, [(5, 83)]), (7, 84, [(6, 77)]), (8, 85, [(6, 77)]), (9, 19, [])] [10, 11] [78, 79, 80, 81, 82, 83, 77, 84, 85, 19] [9] [8] [phiEq (.pointer (some ⟨g, 0, none⟩)), phiEq (.agg #[.bool zm.neg, .slice A15 zm.mag.length a15]), phiEq (.agg #[.bool zd.neg, .slice A12 zd.mag.length a12]), phiZ (fun _ => True) zs, phiEq (.agg #[.bool zm.neg, .slice A15 zm.mag.length a15]), phiC z1, phiC z1, phiZ (fun _ => True) z1, phiEq (.int .i64 0), phiBox V13.heap.size 25 #[.bool false, .slice none 0 0]] rfl (by kernel_rfl) (by intro _ _ d _ _ h; cases d <;> exact h) (by kernel_rfl) (by kernel_rfl) ?_ ?_
      · have q0 : V13.cell? ⟨w11.heap.size, 0, none⟩ = some (.bool zm.neg) := by rw [k15.cell]; rfl
        have q1 : V13.cell? ⟨w11.heap.size, 1, none⟩ = some (.slice A15 zm.mag.length a15) := by rw [k15.cell]; rfl
        have q2 : V13.cell? ⟨w9.heap.size, 0, none⟩ = some (.bool zd.neg) := by rw [k12.cell]; rfl
        have q3 : V13.cell? ⟨w9.heap.size, 1, none⟩ = some (.slice A12 zd.mag.length a12) := by rw [k12.cell]; rfl
        (refine ps_eq rfl rfl rfl rfl rfl rfl ?_ ?_; focus (intro f w1 hx hd; have hc' := hx.cells.1; (try simp only [wcd] at hc'); (dsimp only [PhiDeps, phiAt, phiEq, phiZ, phiAny, phiBox] at hd); (simp only [fillA]; (try simp only [Act.put, List.setIfInBounds_toArray, List.set_cons_zero, List.set_cons_succ])); (try simp only [hd]); go_simp; (first | done | with_reducible rfl)))
        (refine ps_eq rfl rfl rfl rfl rfl rfl ?_ ?_; focus (intro f w1 hx hd; have hc' := hx.cells.1; (try simp only [wcd] at hc'); have z0 := (hc' _ 0 k15l).trans q0; have z1 := (hc' _ 1 k15l).trans q1; clear hc'; (dsimp only [PhiDeps, phiAt, phiEq, phiZ, phiAny, phiBox] at hd); (simp only [fillA]; (try simp only [Act.put, List.setIfInBounds_toArray, List.set_cons_zero, List.set_cons_succ])); (try simp only [hd]); go_simp; (first | done | with_reducible rfl)))
        (refine ps_eq rfl rfl rfl rfl rfl rfl ?_ ?_; focus (intro f w1 hx hd; have hc' := hx.cells.1; (try simp only [wcd] at hc'); have z0 := (hc' _ 0 k12l).trans q2; have z1 := (hc' _ 1 k12l).trans q3; clear hc'; (dsimp only [PhiDeps, phiAt, phiEq, phiZ, phiAny, phiBox] at hd); (simp only [fillA]; (try simp only [Act.put, List.setIfInBounds_toArray, List.set_cons_zero, List.set_cons_succ])); (try simp only [hd]); go_simp; (first | done | with_reducible rfl)))
        (refine ps_loud rfl rfl rfl rfl rfl (fun f w1 hx hd K hK => ?_) ?_)
        · (have hc' := hx.cells.1; (try simp only [wcd] at hc'); (dsimp only [PhiDeps, phiAt, phiEq, phiZ, phiAny, phiBox] at hd); simp only [fillA, Act.put, List.setIfInBounds_toArray, List.set_cons_zero, List.set_cons_succ] at hK; (simp only [fillA]; (try simp only [Act.put, List.setIfInBounds_toArray, List.set_cons_zero, List.set_cons_succ])); (try simp only [hd] at hK ⊢); go_simp)
          refine (HSu.out _ _ _ _ _ (⟨A15, a15, rfl, n15.ext (by repeat (first | with_reducible assumption | with_reducible exact Ext.refl _ | with_reducible refine Ext.drewN ?_ _ | with_reducible refine Ext.drew ?_ | with_reducible refine Ext.alloc ?_ _ | (with_reducible refine Ext.setCell ?_ ?_ _; rotate_left; (first | exact Nat.le_refl _ | (dsimp only; omega) | (simp only [wsz]; omega))) | (with_reducible refine Ext.trans ?_ (by with_reducible assumption))))⟩ : Zi _ _ (.agg #[.bool zm.neg, .slice A15 zm.mag.length a15]) zm) (⟨A12, a12, rfl, n12.ext (by repeat (first | with_reducible assumption | with_reducible exact Ext.refl _ | with_reducible refine Ext.drewN ?_ _ | with_reducible refine Ext.drew ?_ | with_reducible refine Ext.alloc ?_ _ | (with_reducible refine Ext.setCell ?_ ?_ _; rotate_left; (first | exact Nat.le_refl _ | (dsimp only; omega) | (simp only [wsz]; omega))) | (with_reducible refine Ext.trans ?_ (by with_reducible assumption))))⟩ : Zi _ _ (.agg #[.bool zd.neg, .slice A12 zd.mag.length a12]) zd)).mono ?_
          rintro e w6 ⟨r, rfl, hr, hx6⟩
          (refine hK _ _ (by repeat (first | with_reducible assumption | with_reducible exact Ext.refl _ | with_reducible refine Ext.drewN ?_ _ | with_reducible refine Ext.drew ?_ | with_reducible refine Ext.alloc ?_ _ | (with_reducible refine Ext.setCell ?_ ?_ _; rotate_left; (first | exact Nat.le_refl _ | (dsimp only; omega) | (simp only [wsz]; omega))) | (with_reducible refine Ext.trans ?_ (by with_reducible assumption)))) ?_; dsimp only [phiAt, phiEq, phiZ, phiAny, phiBox])
          exact hr.widen fun _ _ _ => trivial
        (refine ps_eq rfl rfl rfl rfl rfl rfl ?_ ?_; focus (intro f w1 hx hd; have hc' := hx.cells.1; (try simp only [wcd] at hc'); have z0 := (hc' _ 0 k15l).trans q0; have z1 := (hc' _ 1 k15l).trans q1; clear hc'; (dsimp only [PhiDeps, phiAt, phiEq, phiZ, phiAny, phiBox] at hd); (simp only [fillA]; (try simp only [Act.put, List.setIfInBounds_toArray, List.set_cons_zero, List.set_cons_succ])); (try simp only [hd]); go_simp; (first | done | with_reducible rfl)))
        (refine ps_loud rfl rfl rfl rfl rfl (fun f w1 hx hd K hK => ?_) ?_)
        · (have hc' := hx.cells.1; (try simp only [wcd] at hc'); (dsimp only [PhiDeps, phiAt, phiEq, phiZ, phiAny, phiBox] at hd); simp only [fillA, Act.put, List.setIfInBounds_toArray, List.set_cons_zero, List.set_cons_succ] at hK; (simp only [fillA]; (try simp only [Act.put, List.setIfInBounds_toArray, List.set_cons_zero, List.set_cons_succ])); (try simp only [hd] at hK ⊢); go_simp)
          refine (HCo.out _ (hy13.trans (by repeat (first | with_reducible assumption | with_reducible exact Ext.refl _ | with_reducible refine Ext.drewN ?_ _ | with_reducible refine Ext.drew ?_ | with_reducible refine Ext.alloc ?_ _ | (with_reducible refine Ext.setCell ?_ ?_ _; rotate_left; (first | exact Nat.le_refl _ | (dsimp only; omega) | (simp only [wsz]; omega))) | (with_reducible refine Ext.trans ?_ (by with_reducible assumption))))) _ _ _ _ hd.2.1 (⟨A15, a15, rfl, n15.ext (by repeat (first | with_reducible assumption | with_reducible exact Ext.refl _ | with_reducible refine Ext.drewN ?_ _ | with_reducible refine Ext.drew ?_ | with_reducible refine Ext.alloc ?_ _ | (with_reducible refine Ext.setCell ?_ ?_ _; rotate_left; (first | exact Nat.le_refl _ | (dsimp only; omega) | (simp only [wsz]; omega))) | (with_reducible refine Ext.trans ?_ (by with_reducible assumption))))⟩ : Zi _ _ (.agg #[.bool zm.neg, .slice A15 zm.mag.length a15]) zm)).mono ?_
          rintro e w6 ⟨r, rfl, hr, hx6⟩
          (refine hK _ _ (by repeat (first | with_reducible assumption | with_reducible exact Ext.refl _ | with_reducible refine Ext.drewN ?_ _ | with_reducible refine Ext.drew ?_ | with_reducible refine Ext.alloc ?_ _ | (with_reducible refine Ext.setCell ?_ ?_ _; rotate_left; (first | exact Nat.le_refl _ | (dsimp only; omega) | (simp only [wsz]; omega))) | (with_reducible refine Ext.trans ?_ (by with_reducible assumption)))) ?_; dsimp only [phiAt, phiEq, phiZ, phiAny, phiBox])
          exact ⟨r, rfl, hr.widen fun _ _ _ => trivial⟩
        refine ps_take rfl rfl rfl rfl rfl ?_ ?_
        · intro f w1 hx hd
          (dsimp only [PhiDeps, phiAt, phiEq, phiZ, phiAny, phiBox] at hd)
          obtain ⟨⟨r, e, h1⟩, -⟩ := hd
          refine ⟨_, ?_, r, e, h1⟩
          (simp only [fillA]; (try simp only [Act.put, List.setIfInBounds_toArray, List.set_cons_zero, List.set_cons_succ]))
          go_simp
        refine ps_take rfl rfl rfl rfl rfl ?_ ?_
        · intro f w1 hx hd
          (dsimp only [PhiDeps, phiAt, phiEq, phiZ, phiAny, phiBox] at hd)
          obtain ⟨⟨r, e, h1⟩, -⟩ := hd
          refine ⟨r, ?_, h1⟩
          (simp only [fillA]; (try simp only [Act.put, List.setIfInBounds_toArray, List.set_cons_zero, List.set_cons_succ]))
          simp only [e]
          go_simp
        refine ps_peq rfl rfl rfl rfl rfl ?_ ?_
        · intro f w1 hx hd w'
          (dsimp only [PhiDeps, phiAt, phiEq, phiZ, phiAny, phiBox] at hd)
          obtain ⟨⟨r, e, h1⟩, -⟩ := hd
          (simp only [fillA]; (try simp only [Act.put, List.setIfInBounds_toArray, List.set_cons_zero, List.set_cons_succ]))
          simp only [e]
          go_simp
        (refine ps_alloc rfl rfl rfl rfl rfl ?_ (by repeat (first | exact ab_nil | refine ab_cons rfl ?_)) ?_ ?_; (focus (first | omega | (simp only [wsz]; done) | (simp only [wsz]; omega))); (focus (intro f w1; (simp only [fillA]; (try simp only [Act.put, List.setIfInBounds_toArray, List.set_cons_zero, List.set_cons_succ])); go_simp; try (with_reducible rfl))))
        exact ps_nil
      intro f T2 hx2 hall hne9
      (dsimp only [PhiAll, phiAt, phiEq, phiZ, phiAny, phiBox] at hall)
      obtain ⟨f1, f2, f3, -, f5, -, -, ⟨A19, a19, f8, n19⟩, f9, ⟨g19, f10, l19, x19⟩, -⟩ := hall
      clear hne9
      (simp only [fillA]; (try simp only [Act.put, List.setIfInBounds_toArray, List.set_cons_zero, List.set_cons_succ]))
      simp only [f1, f2, f3, f5, f8, f9, f10]
      have x19r := x19.rules; have x19l := x19.lt
      have hx2' : Ext V13 T2 := (Ext.refl V13).drew.trans hx2
      (refine sh_late rfl rfl fun K hK => ?_; go_simp; refine hK _ _ ?_; clear hK K)
      (refine sh_late rfl rfl fun K hK => ?_; go_simp; refine hK _ _ ?_; clear hK K)
      refine sh_end ?_
      refine x_named fun V14 hV14 => ?_
      have k19 : Bx V14 g19 z1 := by rw [hV14]; exact Bx.put n19 x19
      have hx14 : Ext V13 V14 := by rw [hV14]; exact (hx2'.setCell (by simp only; omega) _).setCell (by simp only; omega) _
      clear hV14 x19r x19l x19 hx2 hx2' n19 k12l k15l
      have hy14 := hy13.trans hx14
      have j15 := k15.ext hx14; have n15 := n15.ext hx14
      have j15r := j15.rules; have j15l := j15.lt
      obtain ⟨A19, a19, j19, n19⟩ := k19
      have j19r := j19.rules; have j19l := j19.lt
      go_upto_region 19 with fail
      refine wp_region_seq 14 [(0, true), (1, true), (2, true), (3, true), (4, true), (5, false), (6, true), (7, true), (8, true), (9, true), (10, false), (11, false), (12, true), (13, true)] rfl (by kernel_rfl) (by intro _ _ d _ _ h; cases d <;> exact h) ?_
      (repeat (first | (refine sq_take (v := ?_) rfl rfl ?_ ?_; rotate_left; (intro w' hx'; have hc' := hx'.cells.1; (try simp only [wcd] at hc'); go_simp; (first | done | with_reducible rfl)); (try simp only [Act.put, List.setIfInBounds_toArray, List.set_cons_zero, List.set_cons_succ])) | (refine sq_skip rfl rfl ?_; (try simp only [Act.put, List.setIfInBounds_toArray, List.set_cons_zero, List.set_cons_succ])) | (refine sq_noloud rfl rfl ?_; (try simp only [Act.put, List.setIfInBounds_toArray, List.set_cons_zero, List.set_cons_succ])) | (refine sq_takeg (v := ?_) rfl rfl ?_ ?_; rotate_left; (intro w' hx'; have hc' := hx'.cells.1; (try simp only [wcd] at hc'); go_simp; (first | done | with_reducible rfl)); (try simp only [Act.put, List.setIfInBounds_toArray, List.set_cons_zero, List.set_cons_succ]))))
      (refine sq_loudg rfl rfl fun K hK => ?_; go_simp)
      refine (HHs.out _ (hy14.trans (by repeat (first | with_reducible assumption | with_reducible exact Ext.refl _ | with_reducible refine Ext.drewN ?_ _ | with_reducible refine Ext.drew ?_ | with_reducible refine Ext.alloc ?_ _ | (with_reducible refine Ext.setCell ?_ ?_ _; rotate_left; (first | exact Nat.le_refl _ | (dsimp only; omega) | (simp only [wsz]; omega))) | (with_reducible refine Ext.trans ?_ (by with_reducible assumption))))) _ _ (⟨A15, a15, rfl, n15.ext (by repeat (first | with_reducible assumption | with_reducible exact Ext.refl _ | with_reducible refine Ext.drewN ?_ _ | with_reducible refine Ext.drew ?_ | with_reducible refine Ext.alloc ?_ _ | (with_reducible refine Ext.setCell ?_ ?_ _; rotate_left; (first | exact Nat.le_refl _ | (dsimp only; omega) | (simp only [wsz]; omega))) | (with_reducible refine Ext.trans ?_ (by with_reducible assumption))))⟩ : Zi _ _ (.agg #[.bool zm.neg, .slice A15 zm.mag.length a15]) zm)).mono ?_
      rintro e w15 ⟨rfl, hx15⟩
      have hz15 : Ext V14 w15 := (by repeat (first | with_reducible assumption | with_reducible exact Ext.refl _ | with_reducible refine Ext.drewN ?_ _ | with_reducible refine Ext.drew ?_ | with_reducible refine Ext.alloc ?_ _ | (with_reducible refine Ext.setCell ?_ ?_ _; rotate_left; (first | exact Nat.le_refl _ | (dsimp only; omega) | (simp only [wsz]; omega))) | (with_reducible refine Ext.trans ?_ (by with_reducible assumption))))
      have i19 := j19.ext hz15; have i19r := i19.rules; have i19l := i19.lt
      clear j15r j19r
      (refine hK _ _ (by repeat (first | with_reducible assumption | with_reducible exact Ext.refl _ | with_reducible refine Ext.drewN ?_ _ | with_reducible refine Ext.drew ?_ | with_reducible refine Ext.alloc ?_ _ | (with_reducible refine Ext.setCell ?_ ?_ _; rotate_left; (first | exact Nat.le_refl _ | (dsimp only; omega) | (simp only [wsz]; omega))) | (with_reducible refine Ext.trans ?_ (by with_reducible assumption)))) ?_; clear hK K; (try simp only [Act.put, List.setIfInBounds_toArray, List.set_cons_zero, List.set_cons_succ]))
      (repeat (first | (refine sq_take (v := ?_) rfl rfl ?_ ?_; rotate_left; (intro w' hx'; have hc' := hx'.cells.1; (try simp only [wcd] at hc'); go_simp; (first | done | with_reducible rfl)); (try simp only [Act.put, List.setIfInBounds_toArray, List.set_cons_zero, List.set_cons_succ])) | (refine sq_skip rfl rfl ?_; (try simp only [Act.put, List.setIfInBounds_toArray, List.set_cons_zero, List.set_cons_succ])) | (refine sq_noloud rfl rfl ?_; (try simp only [Act.put, List.setIfInBounds_toArray, List.set_cons_zero, List.set_cons_succ])) | (refine sq_takeg (v := ?_) rfl rfl ?_ ?_; rotate_left; (intro w' hx'; have hc' := hx'.cells.1; (try simp only [wcd] at hc'); go_simp; (first | done | with_reducible rfl)); (try simp only [Act.put, List.setIfInBounds_toArray, List.set_cons_zero, List.set_cons_succ]))))
      (refine sq_loudg rfl rfl fun K hK => ?_; go_simp)
      refine (HN1.out _).mono ?_
      rintro e w16 ⟨r16, rfl, hr16, hx16⟩
      have hz16 := hz15.trans hx16
      (refine hK _ _ (by repeat (first | with_reducible assumption | with_reducible exact Ext.refl _ | with_reducible refine Ext.drewN ?_ _ | with_reducible refine Ext.drew ?_ | with_reducible refine Ext.alloc ?_ _ | (with_reducible refine Ext.setCell ?_ ?_ _; rotate_left; (first | exact Nat.le_refl _ | (dsimp only; omega) | (simp only [wsz]; omega))) | (with_reducible refine Ext.trans ?_ (by with_reducible assumption)))) ?_; clear hK K; (try simp only [Act.put, List.setIfInBounds_toArray, List.set_cons_zero, List.set_cons_succ]))
      (repeat (first | (refine sq_take (v := ?_) rfl rfl ?_ ?_; rotate_left; (intro w' hx'; have hc' := hx'.cells.1; (try simp only [wcd] at hc'); go_simp; (first | done | with_reducible rfl)); (try simp only [Act.put, List.setIfInBounds_toArray, List.set_cons_zero, List.set_cons_succ])) | (refine sq_skip rfl rfl ?_; (try simp only [Act.put, List.setIfInBounds_toArray, List.set_cons_zero, List.set_cons_succ])) | (refine sq_noloud rfl rfl ?_; (try simp only [Act.put, List.setIfInBounds_toArray, List.set_cons_zero, List.set_cons_succ])) | (refine sq_takeg (v := ?_) rfl rfl ?_ ?_; rotate_left; (intro w' hx'; have hc' := hx'.cells.1; (try simp only [wcd] at hc'); go_simp; (first | done | with_reducible rfl)); (try simp only [Act.put, List.setIfInBounds_toArray, List.set_cons_zero, List.set_cons_succ]))))
      (refine sq_loudg rfl rfl fun K hK => ?_; go_simp)
      refine (lints_c (z := z1) (⟨A19, a19, rfl, n19.ext hz16⟩ : Zi w16 _ (.agg #[.bool z1.neg, .slice A19 z1.mag.length a19]) z1) hr16).mono ?_
      rintro e w17 ⟨rfl, hx17⟩
      have hz17 := hz16.trans hx17
      (refine hK _ _ (by repeat (first | with_reducible assumption | with_reducible exact Ext.refl _ | with_reducible refine Ext.drewN ?_ _ | with_reducible refine Ext.drew ?_ | with_reducible refine Ext.alloc ?_ _ | (with_reducible refine Ext.setCell ?_ ?_ _; rotate_left; (first | exact Nat.le_refl _ | (dsimp only; omega) | (simp only [wsz]; omega))) | (with_reducible refine Ext.trans ?_ (by with_reducible assumption)))) ?_; clear hK K; (try simp only [Act.put, List.setIfInBounds_toArray, List.set_cons_zero, List.set_cons_succ]))
      (repeat (first | (refine sq_take (v := ?_) rfl rfl ?_ ?_; rotate_left; (intro w' hx'; have hc' := hx'.cells.1; (try simp only [wcd] at hc'); go_simp; (first | done | with_reducible rfl)); (try simp only [Act.put, List.setIfInBounds_toArray, List.set_cons_zero, List.set_cons_succ])) | (refine sq_skip rfl rfl ?_; (try simp only [Act.put, List.setIfInBounds_toArray, List.set_cons_zero, List.set_cons_succ])) | (refine sq_noloud rfl rfl ?_; (try simp only [Act.put, List.setIfInBounds_toArray, List.set_cons_zero, List.set_cons_succ])) | (refine sq_takeg (v := ?_) rfl rfl ?_ ?_; rotate_left; (intro w' hx'; have hc' := hx'.cells.1; (try simp only [wcd] at hc'); go_simp; (first | done | with_reducible rfl)); (try simp only [Act.put, List.setIfInBounds_toArray, List.set_cons_zero, List.set_cons_succ]))))
      refine sq_done ?_
      go_wp2_with fail
      go_meet
      exact hx14.trans hz17
  have hy14 := hy13.trans hcut
  have x10 := x10.ext hcut; have x11 := x11.ext hcut; have x12 := x12.ext hcut; have x13 := x13.ext hcut
  obtain ⟨V14, rfl⟩ : ∃ U, U = wc := ⟨_, rfl⟩
  clear hcut hy13 x15
  cases hfs : finV s with
  | none => as_aux_lemma =>
    obtain rfl : bf = false := by rw [HBF.out, hfs]; rfl
    have ezf : zf = cz 0 := by rw [HZF.out, hfs]; rfl
    have hli := fun (U : World) (Q Q' : Nat → Prop) (u v : Value) (hx : Zi U Q u zf) (hy : Zi U Q' v (cz 0)) => lints_c hx (show Zi U Q' v zf by rw [ezf]; exact hy)
    obtain ⟨A13, a13, k13, n13⟩ := x13
    have k13r := k13.rules; have k13l := k13.lt
    have HLI := Lib.hid hli
    clear hfs ezf hli
    go_wp2_with fail
    refine (HLI.out _ _ (fun _ => True) _ (.agg #[.bool false, .slice none 0 0]) (⟨A13, a13, rfl, n13⟩ : Zi V14 _ (.agg #[.bool zf.neg, .slice A13 zf.mag.length a13]) zf) ⟨none, 0, rfl, Sl.nil0 _ _ _⟩).mono ?_
    rintro e w15 ⟨rfl, hx15⟩
    go_wp2_with fail
    go_ret
    exact ⟨rfl, hE0.trans (hy14.trans hx15)⟩
  | some n => as_aux_lemma =>
    obtain rfl : bf = true := by rw [HBF.out, hfs]; rfl
    have ezf : zf = cz n := by rw [HZF.out, hfs]; rfl
    have hbm : bm = decide (0 < zf.mag.length) := by rw [HBM.out, ezf]; exact fin_least hsk hfs
    obtain ⟨zs, hzs⟩ : ∃ z, z = cz (zlo.v - zd.v) := ⟨_, rfl⟩
    obtain ⟨zt, hzt⟩ : ∃ z, z = cz (zhi.v + zd.v) := ⟨_, rfl⟩
    have hzdv : 0 ≤ zd.v := by rw [HZD.out, cz_v]; omega
    have zdz : zl zd.v ≤ N + 2 := by rw [HZD.out, cz_v, ← cz_len, abs_zl]; omega
    have l1 := endL_len hsk
    have l2 := endH_len hsk
    rw [← HLO.out] at l1
    rw [← HHI.out] at l2
    have zsl : zs.mag.length ≤ N + 5 := by
      rw [hzs, cz_len]
      have := zl_sub (k := N + 2) (x := zlo.v) (y := zd.v) (by omega) zdz
      omega
    have ztl : zt.mag.length ≤ N + 5 := by
      rw [hzt, cz_len]
      have := zl_add (k := N + 2) (x := zhi.v) (y := zd.v) (by omega) zdz
      omega
    have hcnt := fin_count hsk hfs (lo := zs) (hi := zt.v) (by rw [hzs, cz_v, HLO.out]; omega) (by rw [hzt, cz_v, HHI.out]; omega)
    have hc := fun (U : World) (hU : Ext V U) (Q Q' : Nat → Prop) (v v' : Value) (hr : Zi U Q v zs) (hr' : Zi U Q' v' zt) => HC.out U hU Q Q' v v' zs zt hr hr' zsl ztl
    rw [hcnt] at hc
    simp only [← ezf] at hc
    have hsu := fun (U : World) (Q Q' : Nat → Prop) (v v' : Value) (hr : Zi U Q v zlo) (hr' : Zi U Q' v' zd) => rsubz_c hr hr' (by omega) (by omega)
    have had := fun (U : World) (Q Q' : Nat → Prop) (v v' : Value) (hr : Zi U Q v zhi) (hr' : Zi U Q' v' zd) => raddz_c hr hr' (by omega) (by omega)
    simp only [← hzs] at hsu
    simp only [← hzt] at had
    have HCo := Lib.hid hc; have HSu := Lib.hid hsu; have HAd := Lib.hid had; have HB := Lib.hid hbm
    clear hfs ezf hbm hzs hzt hzdv hc hsu had hcnt l1 l2
    obtain ⟨A10, a10, k10, n10⟩ := x10
    obtain ⟨A11, a11, k11, n11⟩ := x11
    obtain ⟨A12, a12, k12, n12⟩ := x12
    have k10l := k10.lt; have k11l := k11.lt; have k12l := k12.lt
    go_upto_region 23 with fail
    refine wp_region_free [(0, 106, []), (1, 107, []), (2, 108, []), (3, 109, [(1, 107), (2, 108)]), (4, 110, []), (5, 111, []), (6, 112, [(3, 109), (4, 110), (5, 111)]), (7, 113, [(0, 106), (3, 109), (6, 112)]), (8, 105, [(7, 113)]), (9, 114, [(8, 105)]), (10, 115, [(8, 105)]), (11, 21, [])] [12, 13] [106, 107, 108, 109, 110, 111, 112, 113, 105, 114, 115, 21] [11] [10] [phiEq (.pointer (some ⟨g, 0, none⟩)), phiEq (.agg #[.bool zlo.neg, .slice A10 zlo.mag.length a10]), phiEq (.agg #[.bool zd.neg, .slice A12 zd.mag.length a12]), phiZ (fun _ => True) zs, phiEq (.agg #[.bool zhi.neg, .slice A11 zhi.mag.length a11]), phiEq (.agg #[.bool zd.neg, .slice A12 zd.mag.length a12]), phiZ (fun _ => True) zt, phiC zf, phiC zf, phiZ (fun _ => True) zf, phiEq (.int .i64 0), phiBox V14.heap.size 25 #[.bool false, .slice none 0 0]] rfl (by kernel_rfl) (by intro _ _ d _ _ h; cases d <;> exact h) (by kernel_rfl) (by kernel_rfl) ?_ ?_
    · have q0 : V14.cell? ⟨e10, 0, none⟩ = some (.bool zlo.neg) := by rw [k10.cell]; rfl
      have q1 : V14.cell? ⟨e10, 1, none⟩ = some (.slice A10 zlo.mag.length a10) := by rw [k10.cell]; rfl
      have q2 : V14.cell? ⟨w9.heap.size, 0, none⟩ = some (.bool zd.neg) := by rw [k12.cell]; rfl
      have q3 : V14.cell? ⟨w9.heap.size, 1, none⟩ = some (.slice A12 zd.mag.length a12) := by rw [k12.cell]; rfl
      have q4 : V14.cell? ⟨e11, 0, none⟩ = some (.bool zhi.neg) := by rw [k11.cell]; rfl
      have q5 : V14.cell? ⟨e11, 1, none⟩ = some (.slice A11 zhi.mag.length a11) := by rw [k11.cell]; rfl
      (refine ps_eq rfl rfl rfl rfl rfl rfl ?_ ?_; focus (intro f w1 hx hd; have hc' := hx.cells.1; (try simp only [wcd] at hc'); (dsimp only [PhiDeps, phiAt, phiEq, phiZ, phiAny, phiBox] at hd); (simp only [fillA]; (try simp only [Act.put, List.setIfInBounds_toArray, List.set_cons_zero, List.set_cons_succ])); (try simp only [hd]); go_simp; (first | done | with_reducible rfl)))
      (refine ps_eq rfl rfl rfl rfl rfl rfl ?_ ?_; focus (intro f w1 hx hd; have hc' := hx.cells.1; (try simp only [wcd] at hc'); have z0 := (hc' _ 0 k10l).trans q0; have z1 := (hc' _ 1 k10l).trans q1; clear hc'; (dsimp only [PhiDeps, phiAt, phiEq, phiZ, phiAny, phiBox] at hd); (simp only [fillA]; (try simp only [Act.put, List.setIfInBounds_toArray, List.set_cons_zero, List.set_cons_succ])); (try simp only [hd]); go_simp; (first | done | with_reducible rfl)))
      (refine ps_eq rfl rfl rfl rfl rfl rfl ?_ ?_; focus (intro f w1 hx hd; have hc' := hx.cells.1; (try simp only [wcd] at hc'); have z0 := (hc' _ 0 k12l).trans q2; have z1 := (hc' _ 1 k12l).trans q3; clear hc'; (dsimp only [PhiDeps, phiAt, phiEq, phiZ, phiAny, phiBox] at hd); (simp only [fillA]; (try simp only [Act.put, List.setIfInBounds_toArray, List.set_cons_zero, List.set_cons_succ])); (try simp only [hd]); go_simp; (first | done | with_reducible rfl)))
      (refine ps_loud rfl rfl rfl rfl rfl (fun f w1 hx hd K hK => ?_) ?_)
      · (have hc' := hx.cells.1; (try simp only [wcd] at hc'); (dsimp only [PhiDeps, phiAt, phiEq, phiZ, phiAny, phiBox] at hd); simp only [fillA, Act.put, List.setIfInBounds_toArray, List.set_cons_zero, List.set_cons_succ] at hK; (simp only [fillA]; (try simp only [Act.put, List.setIfInBounds_toArray, List.set_cons_zero, List.set_cons_succ])); (try simp only [hd] at hK ⊢); go_simp)
        refine (HSu.out _ _ _ _ _ (⟨A10, a10, rfl, n10.ext (by repeat (first | with_reducible assumption | with_reducible exact Ext.refl _ | with_reducible refine Ext.drewN ?_ _ | with_reducible refine Ext.drew ?_ | with_reducible refine Ext.alloc ?_ _ | (with_reducible refine Ext.setCell ?_ ?_ _; rotate_left; (first | exact Nat.le_refl _ | (dsimp only; omega) | (simp only [wsz]; omega))) | (with_reducible refine Ext.trans ?_ (by with_reducible assumption))))⟩ : Zi _ _ (.agg #[.bool zlo.neg, .slice A10 zlo.mag.length a10]) zlo) (⟨A12, a12, rfl, n12.ext (by repeat (first | with_reducible assumption | with_reducible exact Ext.refl _ | with_reducible refine Ext.drewN ?_ _ | with_reducible refine Ext.drew ?_ | with_reducible refine Ext.alloc ?_ _ | (with_reducible refine Ext.setCell ?_ ?_ _; rotate_left; (first | exact Nat.le_refl _ | (dsimp only; omega) | (simp only [wsz]; omega))) | (with_reducible refine Ext.trans ?_ (by with_reducible assumption))))⟩ : Zi _ _ (.agg #[.bool zd.neg, .slice A12 zd.mag.length a12]) zd)).mono ?_
        rintro e w6 ⟨r, rfl, hr, hx6⟩
        (refine hK _ _ (by repeat (first | with_reducible assumption | with_reducible exact Ext.refl _ | with_reducible refine Ext.drewN ?_ _ | with_reducible refine Ext.drew ?_ | with_reducible refine Ext.alloc ?_ _ | (with_reducible refine Ext.setCell ?_ ?_ _; rotate_left; (first | exact Nat.le_refl _ | (dsimp only; omega) | (simp only [wsz]; omega))) | (with_reducible refine Ext.trans ?_ (by with_reducible assumption)))) ?_; dsimp only [phiAt, phiEq, phiZ, phiAny, phiBox])
        exact hr.widen fun _ _ _ => trivial
      (refine ps_eq rfl rfl rfl rfl rfl rfl ?_ ?_; focus (intro f w1 hx hd; have hc' := hx.cells.1; (try simp only [wcd] at hc'); have z0 := (hc' _ 0 k11l).trans q4; have z1 := (hc' _ 1 k11l).trans q5; clear hc'; (dsimp only [PhiDeps, phiAt, phiEq, phiZ, phiAny, phiBox] at hd); (simp only [fillA]; (try simp only [Act.put, List.setIfInBounds_toArray, List.set_cons_zero, List.set_cons_succ])); (try simp only [hd]); go_simp; (first | done | with_reducible rfl)))
      (refine ps_eq rfl rfl rfl rfl rfl rfl ?_ ?_; focus (intro f w1 hx hd; have hc' := hx.cells.1; (try simp only [wcd] at hc'); have z0 := (hc' _ 0 k12l).trans q2; have z1 := (hc' _ 1 k12l).trans q3; clear hc'; (dsimp only [PhiDeps, phiAt, phiEq, phiZ, phiAny, phiBox] at hd); (simp only [fillA]; (try simp only [Act.put, List.setIfInBounds_toArray, List.set_cons_zero, List.set_cons_succ])); (try simp only [hd]); go_simp; (first | done | with_reducible rfl)))
      (refine ps_loud rfl rfl rfl rfl rfl (fun f w1 hx hd K hK => ?_) ?_)
      · (have hc' := hx.cells.1; (try simp only [wcd] at hc'); (dsimp only [PhiDeps, phiAt, phiEq, phiZ, phiAny, phiBox] at hd); simp only [fillA, Act.put, List.setIfInBounds_toArray, List.set_cons_zero, List.set_cons_succ] at hK; (simp only [fillA]; (try simp only [Act.put, List.setIfInBounds_toArray, List.set_cons_zero, List.set_cons_succ])); (try simp only [hd] at hK ⊢); go_simp)
        refine (HAd.out _ _ _ _ _ (⟨A11, a11, rfl, n11.ext (by repeat (first | with_reducible assumption | with_reducible exact Ext.refl _ | with_reducible refine Ext.drewN ?_ _ | with_reducible refine Ext.drew ?_ | with_reducible refine Ext.alloc ?_ _ | (with_reducible refine Ext.setCell ?_ ?_ _; rotate_left; (first | exact Nat.le_refl _ | (dsimp only; omega) | (simp only [wsz]; omega))) | (with_reducible refine Ext.trans ?_ (by with_reducible assumption))))⟩ : Zi _ _ (.agg #[.bool zhi.neg, .slice A11 zhi.mag.length a11]) zhi) (⟨A12, a12, rfl, n12.ext (by repeat (first | with_reducible assumption | with_reducible exact Ext.refl _ | with_reducible refine Ext.drewN ?_ _ | with_reducible refine Ext.drew ?_ | with_reducible refine Ext.alloc ?_ _ | (with_reducible refine Ext.setCell ?_ ?_ _; rotate_left; (first | exact Nat.le_refl _ | (dsimp only; omega) | (simp only [wsz]; omega))) | (with_reducible refine Ext.trans ?_ (by with_reducible assumption))))⟩ : Zi _ _ (.agg #[.bool zd.neg, .slice A12 zd.mag.length a12]) zd)).mono ?_
        rintro e w6 ⟨r, rfl, hr, hx6⟩
        (refine hK _ _ (by repeat (first | with_reducible assumption | with_reducible exact Ext.refl _ | with_reducible refine Ext.drewN ?_ _ | with_reducible refine Ext.drew ?_ | with_reducible refine Ext.alloc ?_ _ | (with_reducible refine Ext.setCell ?_ ?_ _; rotate_left; (first | exact Nat.le_refl _ | (dsimp only; omega) | (simp only [wsz]; omega))) | (with_reducible refine Ext.trans ?_ (by with_reducible assumption)))) ?_; dsimp only [phiAt, phiEq, phiZ, phiAny, phiBox])
        exact hr.widen fun _ _ _ => trivial
      (refine ps_loud rfl rfl rfl rfl rfl (fun f w1 hx hd K hK => ?_) ?_)
      · (have hc' := hx.cells.1; (try simp only [wcd] at hc'); (dsimp only [PhiDeps, phiAt, phiEq, phiZ, phiAny, phiBox] at hd); simp only [fillA, Act.put, List.setIfInBounds_toArray, List.set_cons_zero, List.set_cons_succ] at hK; (simp only [fillA]; (try simp only [Act.put, List.setIfInBounds_toArray, List.set_cons_zero, List.set_cons_succ])); (try simp only [hd] at hK ⊢); go_simp)
        refine (HCo.out _ (hy14.trans (by repeat (first | with_reducible assumption | with_reducible exact Ext.refl _ | with_reducible refine Ext.drewN ?_ _ | with_reducible refine Ext.drew ?_ | with_reducible refine Ext.alloc ?_ _ | (with_reducible refine Ext.setCell ?_ ?_ _; rotate_left; (first | exact Nat.le_refl _ | (dsimp only; omega) | (simp only [wsz]; omega))) | (with_reducible refine Ext.trans ?_ (by with_reducible assumption))))) _ _ _ _ hd.2.1 hd.2.2.1).mono ?_
        rintro e w6 ⟨r, rfl, hr, hx6⟩
        (refine hK _ _ (by repeat (first | with_reducible assumption | with_reducible exact Ext.refl _ | with_reducible refine Ext.drewN ?_ _ | with_reducible refine Ext.drew ?_ | with_reducible refine Ext.alloc ?_ _ | (with_reducible refine Ext.setCell ?_ ?_ _; rotate_left; (first | exact Nat.le_refl _ | (dsimp only; omega) | (simp only [wsz]; omega))) | (with_reducible refine Ext.trans ?_ (by with_reducible assumption)))) ?_; dsimp only [phiAt, phiEq, phiZ, phiAny, phiBox])
        exact ⟨r, rfl, hr.widen fun _ _ _ => trivial⟩
      refine ps_take rfl rfl rfl rfl rfl ?_ ?_
      · intro f w1 hx hd
        (dsimp only [PhiDeps, phiAt, phiEq, phiZ, phiAny, phiBox] at hd)
        obtain ⟨⟨r, e, h1⟩, -⟩ := hd
        refine ⟨_, ?_, r, e, h1⟩
        (simp only [fillA]; (try simp only [Act.put, List.setIfInBounds_toArray, List.set_cons_zero, List.set_cons_succ]))
        go_simp
      refine ps_take rfl rfl rfl rfl rfl ?_ ?_
      · intro f w1 hx hd
        (dsimp only [PhiDeps, phiAt, phiEq, phiZ, phiAny, phiBox] at hd)
        obtain ⟨⟨r, e, h1⟩, -⟩ := hd
        refine ⟨r, ?_, h1⟩
        (simp only [fillA]; (try simp only [Act.put, List.setIfInBounds_toArray, List.set_cons_zero, List.set_cons_succ]))
        simp only [e]
        go_simp
      refine ps_peq rfl rfl rfl rfl rfl ?_ ?_
      · intro f w1 hx hd w'
        (dsimp only [PhiDeps, phiAt, phiEq, phiZ, phiAny, phiBox] at hd)
        obtain ⟨⟨r, e, h1⟩, -⟩ := hd
        (simp only [fillA]; (try simp only [Act.put, List.setIfInBounds_toArray, List.set_cons_zero, List.set_cons_succ]))
        simp only [e]
        go_simp
      (refine ps_alloc rfl rfl rfl rfl rfl ?_ (by repeat (first | exact ab_nil | refine ab_cons rfl ?_)) ?_ ?_; (focus (first | omega | (simp only [wsz]; done) | (simp only [wsz]; omega))); (focus (intro f w1; (simp only [fillA]; (try simp only [Act.put, List.setIfInBounds_toArray, List.set_cons_zero, List.set_cons_succ])); go_simp; try (with_reducible rfl))))
      exact ps_nil
    intro f T2 hx2 hall hne9
    (dsimp only [PhiAll, phiAt, phiEq, phiZ, phiAny, phiBox] at hall)
    obtain ⟨f1, f2, f3, -, f4, f5, -, -, -, ⟨A21, a21, f8, n21⟩, f9, ⟨g21, f10, l21, x21⟩, -⟩ := hall
    clear hne9
    (simp only [fillA]; (try simp only [Act.put, List.setIfInBounds_toArray, List.set_cons_zero, List.set_cons_succ]))
    simp only [f1, f2, f3, f4, f5, f8, f9, f10]
    have x21r := x21.rules; have x21l := x21.lt
    have hx2' : Ext V14 T2 := (Ext.refl V14).drew.trans hx2
    (refine sh_late rfl rfl fun K hK => ?_; go_simp; refine hK _ _ ?_; clear hK K)
    (refine sh_late rfl rfl fun K hK => ?_; go_simp; refine hK _ _ ?_; clear hK K)
    refine sh_end ?_
    refine x_named fun V15 hV15 => ?_
    have k21 : Bx V15 g21 zf := by rw [hV15]; exact Bx.put n21 x21
    have hx15 : Ext V14 V15 := by rw [hV15]; exact (hx2'.setCell (by simp only; omega) _).setCell (by simp only; omega) _
    clear hV15 x21r x21l x21 hx2 hx2' n21 k10l k11l k12l
    have hy15 := hy14.trans hx15
    have x13 := x13.ext hx15
    obtain ⟨A13, a13, k13, n13⟩ := x13
    obtain ⟨A21, a21, k21, n21⟩ := k21
    have k13r := k13.rules; have k13l := k13.lt
    have k21r := k21.rules; have k21l := k21.lt
    go_upto_region 24 with fail
    go_wp2_with fail
    refine (lints_c (z := zf) (⟨A21, a21, rfl, n21⟩ : Zi V15 _ (.agg #[.bool zf.neg, .slice A21 zf.mag.length a21]) zf) (⟨A13, a13, rfl, n13⟩ : Zi V15 _ (.agg #[.bool zf.neg, .slice A13 zf.mag.length a13]) zf)).mono ?_
    rintro e w16 ⟨rfl, hx16⟩
    have j13 := k13.ext hx16
    have j13r := j13.rules; have j13l := j13.lt
    clear k13r k21r
    go_wp2_with fail
    rw [show (bm == decide (0 < zf.mag.length)) = true by rw [HB.out]; simp]
    go_ret
    exact ⟨rfl, hE0.trans (hy15.trans hx16)⟩

end Go.Proofs.YtbblgjjomgipfaaGreat
